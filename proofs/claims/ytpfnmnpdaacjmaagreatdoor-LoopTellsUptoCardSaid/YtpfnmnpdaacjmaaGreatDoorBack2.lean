/-
  back: events are committed.
-/
import Derived.Test.YtpfnmnpdaacjmaaGreatDoorBack1
namespace Go.Proofs.YtpfnmnpdaacjmaaGreatDoor
open Go.RowKit

theorem runAt_ok : ∀ (l : List Ev) (s : St) (i : Nat) (s' : St), runAt s l i = (0, i + l.length, s') → ∀ x ∈ l, evCheck x = 0
  | [], _, _, _, _, x, hx => nomatch hx
  | y :: l, s, i, s', h, x, hx => by
    rw [runAt] at h
    split at h
    · rename_i hy
      have hc : evCheck y = 0 := by
        by_cases hc : evCheck y = 0
        · exact hc
        · rw [evDo, if_pos (by simpa using hc)] at hy; exact absurd hy hc
      rcases List.mem_cons.1 hx with rfl | hx
      · exact hc
      · exact runAt_ok l _ (i + 1) s' (by rw [h]; simp; omega) x hx
    · rename_i hy
      exact absurd (congrArg Prod.fst h) hy
theorem only_setRow (w : World) (g : Nat) (u : Array Value) : Only g w (w.setRow g u) := ⟨rfl, rfl, rfl, by simp, fun k _ hne => setRow_other _ _ _ _ (fun e => hne (by rw [e]))⟩
set_option maxRecDepth 100000 in
set_option maxHeartbeats 1000000 in
theorem ga_commit {B g j : Nat} {w : World} {S : SV} {d ev mk : Sl} {n : Int} {s s' : St} {dr : List Int} {el : List Ev} {ml : List (Int × Int)} (h : Ga B w g j S d ev mk n s dr el ml) (hG : Glob w) (h8 : 8 ≤ w.heap.size)
    {sl : Sl} {l : List Ev} (hL : ∀ w', TFr jtM w w' → RdE w' sl l) (hx : ∀ x ∈ l, GoodEv x) (hrun : runAt s l 0 = (0, l.length, s')) (hf : Few s') (hc : stCheck s' = 0) (hn : el.length + l.length ≤ 65536) (hnn : n + 1 < 1073741824) (hml : ml.length + 1 ≤ 1048576) :
    Calls Tryz.prog 23 #[.pointer (some ⟨g, 0, none⟩), sl.v] w fun e w' => e = .returned (.tuple #[.int .i64 (n + 1), .nilIface]) ∧
      ∃ S' ev' mk', Ga B w' g j S' d ev' mk' (n + 1) s' dr (el ++ l) (ml ++ [(n + 1, (ev.n : Int))]) ∧ Below B w w' := by
  obtain ⟨e1, c1, f1⟩ := Blk.all h.blk
  have hl := hL w (.refl _ _)
  have hR := net_run h.st h.few hl hx (by omega)
  rw [hrun, errV0] at hR
  have hok := runAt_ok l s 0 s' (by rw [hrun]; simp)
  have hsn := hl.len
  have hlt := h.blk.lt
  clear hrun
  go_enter Tryz.func23, Tryz.ntmps23
  go_wp2_with fail
  refine hR.mono ?_
  rintro e w1 ⟨S1, rfl, hS1, hb1⟩
  have h1 := h.below hb1
  clear hR
  have hb2 := below1 w1 (.cells (stA S1) 44)
  have hq2 := hb1.trans (hb2.mono hb1.size)
  have hxs := Blk.new w1 44 (stA S1)
  have h2 := h1.below hb2
  have hS2 := hS1.fr (.of_below hb2)
  have hchk := st_check hS2 hf (hG.below hq2 h8) (by have := hq2.size; omega)
  rw [hc, errV0] at hchk
  clear hc
  go_wp2_with fail
  refine hchk.mono ?_
  rintro e w3 ⟨rfl, hb3⟩
  have h3 := h2.below hb3
  have hx3 := hxs.below hb3 hxs.lt
  have hS3 := hS2.fr (.of_below hb3)
  have hq3 := hq2.trans (hb3.mono hq2.size)
  obtain ⟨e3, c3, f3⟩ := Blk.all h3.blk
  have hjl := jo_len h3.jb
  have hevn := own_n h3.ev
  have hn' : (sl.n : Int) ≤ 65536 - (ev.n : Int) := by rw [hevn, hsn]; omega
  clear hchk e1 c1 f1 hS2 hxs
  have Hevn := hide hevn
  have Hsn := hide hsn
  clear hevn hsn
  go_wp2_with fail
  refine hjl.mono ?_
  rintro e w' ⟨rfl, rfl⟩
  have hM := jo_mark h3.jb h3.mks h3.bd h3.bj ⟨h3.n.1, h3.n.2⟩ h3.ml
  clear hjl
  go_wp2_with fail
  refine hM.mono ?_
  rintro e w4 ⟨rfl, mk4, hj4, hm4, hq4, ht4⟩
  clear hM
  have hg4 := ht4.blk h3.blk rfl
  have he4 := ht4.own h3.ev rfl
  have hx4 := ht4.blk hx3 rfl
  have hS4 := hS3.fr (ht4.fr0 jtM_imm)
  have hd4 := Rd.fr h3.rd (ht4.fr0 jtM_imm)
  have hl4 : RdE w4 sl l := hL w4 ((TFr.of_below hq3).trans ht4)
  have hA := jo_add hj4 he4 (Nat.le_trans h3.bd ht4.size) h3.bj hl4 hok hn
  obtain ⟨e4, c4, f4⟩ := Blk.all hg4
  have hlt4 := hg4.lt
  clear hok e3 c3 f3
  go_wp2_with fail
  refine hA.mono ?_
  rintro e w5 ⟨rfl, ev5, hj5, he5, hq5, ht5⟩
  clear hA
  have hg5 := ht5.blk hg4 rfl
  have hx5 := ht5.blk hx4 rfl
  have hm5 := ht5.own hm4 rfl
  have hS5 := hS4.fr (ht5.fr0 jtE_imm)
  have hd5 := Rd.fr hd4 (ht5.fr0 jtE_imm)
  obtain ⟨e5, c5, f5⟩ := Blk.all hg5
  obtain ⟨e6, c6, f6⟩ := Blk.all hx5
  have hlt5 := hg5.lt
  clear e4 c4 f4
  have hg6 := hg5.setRow (gaA S1 d (.pointer (some ⟨j, 0, none⟩)))
  have ho6 := only_setRow w5 g (gaA S1 d (.pointer (some ⟨j, 0, none⟩)))
  have hj6 := ho6.blk hj5 (hj5.ne_ hg5 (by decide))
  have hm6 := own_only hm5 ho6 hg5 (by decide)
  have he6 := own_only he5 ho6 hg5 (by decide)
  have hF6 := ho6.fr hg5 rfl (Nat.zero_le _)
  have hS6 := hS5.fr hF6
  have hd6 := Rd.fr hd5 hF6
  have hq6 : Below B w (w5.setRow g (gaA S1 d (.pointer (some ⟨j, 0, none⟩)))) := below_setRow (((hq3.mono h.bd).trans hq4).trans hq5) h.bg _
  go_wp2_with fail
  go_ret2
  refine ⟨rfl, S1, ev5, mk4, ⟨hg6, hj6, Nat.le_trans h.bd hq6.size, h.bg, h.bj, hS6, hf, h.drn, hd6, he6, ?_, ?_, ?_⟩, hq6⟩
  · rw [List.length_append]; exact hm6
  · have := h.n; omega
  · rw [List.length_append]; simpa using hml
end Go.Proofs.YtpfnmnpdaacjmaaGreatDoor
