/-
  journal: events are added.
-/
import Derived.Test.YtpfnmnpdaacjmaaGreatDoorRun
namespace Go.Proofs.YtpfnmnpdaacjmaaGreatDoor
open Go.RowKit

set_option maxRecDepth 100000 in
set_option maxHeartbeats 1000000 in
theorem jo_add {B : Nat} {w : World} {j : Nat} {ev mk : Sl} {n : Int} {el : List Ev} (h : Blk w j 79 (joA ev mk n)) (hm : w.ownsRow B 89 6 ev.v el.length (evsV el)) (hB : B ≤ w.heap.size) (hj : B ≤ j)
    {sl : Sl} {l : List Ev} (hl : RdE w sl l) (hok : ∀ x ∈ l, evCheck x = 0) (hn : el.length + l.length ≤ 65536) :
    Calls Tryz.prog 35 #[.pointer (some ⟨j, 0, none⟩), sl.v] w fun r w' => r = .returned .nilIface ∧ ∃ ev' : Sl, Blk w' j 79 (joA ev' mk n) ∧
      w'.ownsRow B 89 6 ev'.v (el ++ l).length (evsV (el ++ l)) ∧ Below B w w' ∧ TFr jtE w w' := by
  have hsn := hl.len
  obtain ⟨sa, sn, sc⟩ := sl
  simp only at hsn
  subst hsn
  have Hl := hide hl
  have Hok := hide hok
  clear hl hok
  have hevn := own_n hm
  have hlt := h.lt
  show Calls _ _ #[_, .slice sa l.length sc] _ _
  go_enter Tryz.func35, Tryz.ntmps35
  go_wp2_with fail
  go_loopw [13] (fun i wr => ∃ k : Nat, k ≤ l.length ∧ i = .int .i64 k ∧ Below w.heap.size w wr) (fun i _ => l.length - (intOf i).toNat)
  case atStart => exact ⟨0, by omega, rfl, Below.refl _ _⟩
  case round =>
    obtain ⟨k, hk, rfl, hbl⟩ := hrel
    obtain ⟨wo, rfl⟩ : ∃ wo, wo = wr := ⟨_, rfl⟩
    by_cases hkn : k = l.length
    · subst hkn
      have h1 := h.below hbl h.lt
      obtain ⟨e1, c1, f1⟩ := Blk.all h1
      have hm1 := own_below hm hbl
      have hl1 := (unhide Hl).below hbl
      have hB1 : B ≤ wo.heap.size := Nat.le_trans hB hbl.size
      have hn' : (l.length : Int) ≤ 65536 - (ev.n : Int) := by rw [hevn]; omega
      have hn'' : ¬ (65536 - (ev.n : Int) < (l.length : Int)) := by omega
      have Hevn := hide hevn
      clear hevn
      go_wp2_with (at_builtin
                   refine wpList_appL rfl (.tmp 37) (.tmp 38) rfl B ev.v el l (by simp [Act.eval]) hm1 ⟨sa, l.length, sc⟩ (by simp [Act.eval]) hl1 (by omega) hB1 ?_
                   intro v5 w5 hap5
                   obtain ⟨s5, rfl, -⟩ := sl_of_own hap5.1
                   have hk5 := hap5.keep hm1 h1 (by decide)
                   obtain ⟨e5, c5, f5⟩ := Blk.all hk5)
      have hk6 := hk5.set_ 0 s5.v
      rw [joA_set0] at hk6
      have ho6 : Only j w5 (w5.setCell ⟨j, 0, none⟩ s5.v) := (Only.refl j w5).set_ 0 _
      have hm6 := own_only hap5.1 ho6 hk5 (by decide)
      have hq6 := ((hbl.mono hB).trans (hap5.below hm1 hB1)).setCell (p := ⟨j, 0, none⟩) hj s5.v
      have hT6 : TFr jtE w (w5.setCell ⟨j, 0, none⟩ s5.v) := ((TFr.of_below hbl).trans (hap5.tfr hm1 rfl)).trans (.of_only ho6 hk5 rfl)
      go_ret
      exact ⟨rfl, s5, hk6, by first | (rw [evsV_app, List.length_append]; exact hm6) | (rw [evsV_app]; exact hm6), hq6, hT6⟩
    · have hkl : k < l.length := by omega
      have hkI : (k : Int) < (l.length : Int) := by omega
      obtain ⟨g, off, rfl, hg, C, T, fr, hC, hCs, hrow⟩ := RdE.open_ (l := l) ((unhide Hl).below hbl) (by omega)
      have hrow' := hrow k hkl
      have hnb : off + k * 6 + 6 ≤ C.size := by have : (k + 1) * 6 ≤ l.length * 6 := Nat.mul_le_mul_right 6 (by omega); omega
      obtain ⟨y, hy⟩ : ∃ y, y = l[k] := ⟨_, rfl⟩
      rw [← hy] at hrow'
      have hgood := unhide Hok y (by rw [hy]; exact List.getElem_mem hkl)
      clear hrow hy hevn
      have hb0 := below1 wo (.cells (evA y) 89)
      have hc := ev_check y (wo.alloc (.cells (evA y) 89))
      rw [hgood, errV0] at hc
      clear hgood
      go_wp2_with fail
      refine hc.mono ?_
      rintro e w2 ⟨rfl, hb2⟩
      clear hc
      go_wp2_with fail
      go_roundw
      case measure => simp [intOf]; omega
      case rel => exact ⟨k + 1, by omega, by go_num, hbl.trans ((hb0.trans (hb2.mono hb0.size)).mono hbl.size)⟩
end Go.Proofs.YtpfnmnpdaacjmaaGreatDoor
