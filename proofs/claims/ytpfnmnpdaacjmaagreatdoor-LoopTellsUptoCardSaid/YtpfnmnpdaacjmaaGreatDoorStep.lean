/-
  loop: a runner's step at a pass.
-/
import Derived.Test.YtpfnmnpdaacjmaaGreatDoorSame
namespace Go.Proofs.YtpfnmnpdaacjmaaGreatDoor
open Go.RowKit

set_option maxRecDepth 100000 in
set_option maxHeartbeats 1000000 in
theorem rn_step {B r : Nat} {w : World} {S : SV} {s : St} {sd ev : Sl} {dr : List Int} {el : List Ev} (hr : Blk w r 66 (gaA S sd ev.v)) (hB : B ≤ w.heap.size) (hBr : B ≤ r) (h : RdS 0 w S s) (hs : Few s) (hd : RdI 0 w sd dr) (hdn : dr.length ≤ 4096)
    (hev : w.ownsRow B 89 6 ev.v el.length (evsV el)) (hG : Glob w) (h8 : 8 ≤ w.heap.size)
    (d : De) (hk : d.k = 0) (hf : formErr d = 0) (hc : stCheck s = 0) (h6 : s.g 6 = 0) {E' : EA} (hE' : E'.er = 0) (h5 : E'.s.g 5 = s.g 5) (hel : el.length + E'.ev.length ≤ 65536)
    (hP : ∀ B b w M, Em B w b M (EA.new s dr) → Calls Tryz.prog 63 #[.pointer (some ⟨b, 0, none⟩)] w fun e w' => e = .returned (.tuple #[]) ∧ EmTo B w b E' w') :
    Calls Tryz.prog 22 #[.pointer (some ⟨r, 0, none⟩), .agg (deA d)] w fun e w' => e = .returned .nilIface ∧ ∃ (S' : SV) (ev' : Sl), Blk w' r 66 (gaA S' sd ev'.v) ∧
      RdS 0 w' S' E'.s ∧ RdI 0 w' sd dr ∧ w'.ownsRow B 89 6 ev'.v (el ++ E'.ev).length (evsV (el ++ E'.ev)) ∧ Below B w w' := by
  have hb0 := below1 w (.cells (deA d) 36)
  have hx0 := Blk.new w 36 (deA d)
  have hr0 := hr.below hb0 hr.lt
  obtain ⟨e0, c0, f0⟩ := Blk.all hr0
  have hlt := hr.lt
  have hstep := fun w' (hb : Below w.heap.size w w') => dec_step0 (h.fr (.of_below hb)) hs (Rd.fr hd (.of_below hb)) hdn (hG.below hb h8) (Nat.le_trans h8 hb.size) d hk hf hc h6 hE' hP
  clear hk hf hc h6 hE' hP hs
  go_enter Tryz.func22, Tryz.ntmps22
  go_upto_region 1 with fail
  go_cut [5, 6, 7] (fun v5 v6 v7 wx => ∃ (b : Nat) (S' : SV) (sl : Sl), v5 = .pointer (some ⟨b, 0, none⟩) ∧ v6 = sl.v ∧ v7 = .nilIface ∧ Blk wx b 44 (stA S') ∧ RdS 0 wx S' E'.s ∧
    wx.ownsRow w.heap.size 89 6 sl.v E'.ev.length (evsV E'.ev) ∧ Below w.heap.size w wx ∧ w.heap.size ≤ b)
  case first =>
    have hA0 : Below w.heap.size w (w.alloc (.cells (deA d) 36)).drew := hb0.drew
    have hA1 : Below w.heap.size w (((w.alloc (.cells (deA d) 36)).alloc (.cells (stA zSV) 44)).drew) := (below2 _ _ _).drew
    have hZ1 : Blk ((w.alloc (.cells (deA d) 36)).alloc (.cells (stA zSV) 44)).drew (w.heap.size + 1) 44 (stA zSV) := by
      have := (Blk.new (w.alloc (.cells (deA d) 36)) 44 (stA zSV)).drew
      simpa using this
    have hstp := hstep
    have hn0 : (r = w.heap.size) = False := eq_false (by omega)
    have hn1 : (r = w.heap.size + 1) = False := eq_false (by omega)
    clear hstep
    go_region_law (first
      | (go_simp
         go_at_call 31
         refine (hstp _ hA0).mono ?_
         rintro e w2 ⟨S2, sl2, rfl, hS2, ho2, hb2⟩
         have hq2 := hA0.trans (hb2.mono hA0.size))
      | (go_simp
         go_at_call 31
         refine (hstp _ hA1).mono ?_
         rintro e w2 ⟨S2, sl2, rfl, hS2, ho2, hb2⟩
         have hq2 := hA1.trans (hb2.mono hA1.size)
         have hz2 := hZ1.below hb2 hZ1.lt
         obtain ⟨e2, c2, f2⟩ := Blk.all hz2))
    all_goals
      go_wp2_with fail
      go_meet
      first
        | exact ⟨_, S2, sl2, rfl, rfl, rfl, Blk.new _ _ _, hS2.fr ((Fr.refl _ _).alloc _), own_below (own_mono ho2 hA0.size) (below1 _ _), hq2.alloc hq2.size _, hq2.size⟩
        | exact ⟨_, S2, sl2, rfl, rfl, rfl, hz2.setRow _, hS2.fr (Fr.setRowMut (.refl _ _) hz2 rfl (Nat.zero_le _) _), own_only (own_mono ho2 hA1.size) (only_setRow _ _ _) hz2 (by decide), below_setRow hq2 (by omega) _, by omega⟩
  case rest =>
    obtain ⟨b, S2, sl, rfl, rfl, rfl, hb2, hS2, ho2, hq2, hlb⟩ := hcut
    have hr2 := hr.below hq2 hr.lt
    have hev2 := own_below hev hq2
    have hd2 := Rd.fr hd (.of_below hq2)
    have hnb : (b = r) = False := eq_false (by omega)
    have hnb' : (r = b) = False := eq_false (by omega)
    have hltb := hb2.lt
    have hltr := hr2.lt
    have hg5 : (S2.g 5 != S.g 5) = false := by
      rw [hS2.g, h.g, h5]; simp
    obtain ⟨e1, c1, f1⟩ := Blk.all hr2
    obtain ⟨e2, c2, f2⟩ := Blk.all hb2
    have hnn := own_n ho2
    clear hstep e0 c0 f0 h5
    go_wp2_with fail
    go_quiet (fail)
    have hr3 := (hr2.drewN nq).setRow (gaA S2 sd ev.v)
    have ho3 := only_setRow (wc.drewN nq) r (gaA S2 sd ev.v)
    have hq3 : Below B w ((wc.drewN nq).setRow r (gaA S2 sd ev.v)) := below_setRow ((below_drewN hq2 nq).mono hB) hBr _
    have hev3 := own_only (own_below hev (below_drewN hq2 nq)) ho3 (hr2.drewN nq) (by decide)
    have hsl3 := RdE.own (own_only (own_below ho2 (below_drewN (Below.refl _ _) nq)) ho3 (hr2.drewN nq) (by decide))
    have hF3 : Fr 0 wc ((wc.drewN nq).setRow r (gaA S2 sd ev.v)) := Fr.setRowMut ((Fr.refl _ _).drewN nq) hr2 rfl (Nat.zero_le _) _
    obtain ⟨e3, c3, f3⟩ := Blk.all hr3
    go_wp2_with (at_builtin
                 refine wpList_appL rfl (.tmp 44) (.tmp 45) rfl B ev.v el E'.ev (by simp [Act.eval]) hev3 sl (by simp [Act.eval]) hsl3 (by omega) (Nat.le_trans hB hq3.size) ?_
                 intro v5 w5 hap5
                 obtain ⟨s5, rfl, -⟩ := sl_of_own hap5.1
                 have hk5 := hap5.keep hev3 hr3 (by decide)
                 obtain ⟨e5, c5, f5⟩ := Blk.all hk5)
    have hk6 := hk5.set_ 38 s5.v
    rw [gaA_set38] at hk6
    have ho6 : Only r w5 (w5.setCell ⟨r, 38, none⟩ s5.v) := (Only.refl r w5).set_ 38 _
    have hm6 := own_only hap5.1 ho6 hk5 (by decide)
    have hq6 := (hq3.trans (hap5.below hev3 (Nat.le_trans hB hq3.size))).setCell (p := ⟨r, 38, none⟩) hBr s5.v
    have hF6 : Fr 0 wc (w5.setCell ⟨r, 38, none⟩ s5.v) := (hF3.trans ((hap5.tfr (ts := fun T => T == 89) hev3 rfl).fr0 (fun T hT => by
      simp only [immT, Bool.or_eq_true, beq_iff_eq] at hT
      rcases hT with rfl | rfl <;> rfl))).trans (ho6.fr hk5 rfl (Nat.zero_le _))
    go_ret
    exact ⟨rfl, S2, s5, hk6, hS2.fr hF6, Rd.fr hd2 hF6, by rw [evsV_app, List.length_append]; exact hm6, hq6⟩
end Go.Proofs.YtpfnmnpdaacjmaaGreatDoor
