/-
  net: an event whose field has been set before.
-/
import Derived.Test.YtpfnmnpdaacjmaaGreatDoorNet2
namespace Go.Proofs.YtpfnmnpdaacjmaaGreatDoor
open Go.RowKit

set_option maxRecDepth 100000 in
set_option maxHeartbeats 1000000 in
theorem net_addO {B b : Nat} {w : World} {M : SpM} {p : Sp} (h : SpIs B w b M p (mapOf p.st)) (hB : B ≤ w.heap.size) (x : Ev) {y : Nat × Int} (hs : evSets x = true) (hf : findAt (keyOf x) (mapOf p.st) = some y) :
    Calls Tryz.prog 39 #[.pointer (some ⟨b, 0, none⟩), .agg (evA x)] w fun e w' => e = .returned (.tuple #[]) ∧ (∃ M', SpIs B w' b M' (p.add x) (mapOf (p.add x).st)) ∧ Below B w w' := by
  have h0 := h.below (below1 w (.cells (evA x) 89))
  have hx0 := Blk.new w 89 (evA x)
  have hS := ev_sets x (w.alloc (.cells (evA x) 89))
  rw [hs] at hS
  have hmn := own_n h.st
  obtain ⟨hy1, hy2⟩ := findAt_mapOf hf
  have hp : p.add x = { p with st := p.st.modify y.1 fun z => { z with d := x.d } } := by rw [Sp.add, hs, hf]; simp only [if_true, hy1, Int.toNat_natCast]
  have Hp := hide hp
  have hf1 : (findAt (keyOf x) (mapOf p.st)).isSome = true := by rw [hf]; rfl
  have hv1 : valAt (keyOf x) (mapOf p.st) = (y.1 : Int) := by rw [valAt, hf]; exact hy1
  obtain ⟨i, hi⟩ : ∃ i, i = y.1 := ⟨_, rfl⟩
  rw [← hi] at hv1 hy2 Hp
  clear hp hs hf hmn hy1 hi
  go_enter Tryz.func39, Tryz.ntmps39
  go_wp2_with fail
  refine hS.mono ?_
  rintro e w1 ⟨rfl, hb1⟩
  have h1 := h0.below hb1
  have hx1 := hx0.below hb1 hx0.lt
  have hq1 : Below w.heap.size w w1 := (below1 _ _).trans (hb1.mono (by simp))
  have h1d := h1.below (Below.refl _ _).drew
  have hx1d := hx1.drew
  obtain ⟨e1, c1, f1⟩ := Blk.all h1.blk
  obtain ⟨e2, c2, f2⟩ := Blk.all hx1
  have hlt := h1.blk.lt
  have hlt2 := hx1.lt
  have em := h1d.map
  clear hS
  go_upto_region 3 with fail
  go_cut [4, 5] (fun v4 v5 wx => v4 = .int .i64 i ∧ v5 = .bool true ∧ Below w1.heap.size w1 wx)
  case first =>
    go_region_law (go_simp; go_at_call 57; refine (net_key x _).mono ?_; rintro e w2 ⟨rfl, hb2⟩; have h2 := h1d.below hb2; have hx2 := hx1d.below hb2 hx1d.lt; obtain ⟨e3, c3, f3⟩ := Blk.all h2.blk; obtain ⟨e4, c4, f4⟩ := Blk.all hx2; have em2 := h2.map)
    all_goals (go_wp2_with fail; go_meet; exact ⟨rfl, rfl, (Below.refl _ _).drew.trans hb2⟩)
  case rest =>
    obtain ⟨rfl, rfl, hb2⟩ := hcut
    have h3 := h1.below hb2
    have hx3 := hx1.below hb2 hx1.lt
    have hq3 : Below w.heap.size w wc := hq1.trans (hb2.mono hq1.size)
    obtain ⟨g, c, hM, hgB, ⟨u, hcell⟩, hfz, hset, hbset⟩ := (h3.below (Below.refl _ _).drew).setSt i hy2 x.d
    have hMv : M.st.v = .slice (some ⟨g, 0, none⟩) p.st.length c := by rw [hM]
    have hil : (i : Int) < (p.st.length : Int) := by omega
    have hcell' : wc.cell? ⟨g, i * 6 + 4, none⟩ = some (.int .i64 u) := hcell
    have hfz' : wc.frozen? ⟨g, i * 6 + 4, none⟩ = false := hfz
    obtain ⟨e3, c3, f3⟩ := Blk.all h3.blk
    obtain ⟨e4, c4, f4⟩ := Blk.all hx3
    have hlt3 := h3.blk.lt
    have hlt4 := hx3.lt
    clear em e1 c1 f1 e2 c2 f2 hM
    go_wp2_with fail
    refine region_tail 9 (by kernel_rfl) (by kernel_rfl) ?_
    simp only [List.take_succ_cons, List.take_zero, List.drop_succ_cons, List.drop_zero]
    iterate 9 still_step
    refine wpStill_nil ?_
    go_wp2_with fail
    go_end0
    rw [unhide Hp]
    refine ⟨rfl, ⟨M, ?_⟩, ((hq3.trans (Below.refl _ _).drew).mono hB).trans hbset⟩
    rw [mapOf_mod]
    exact hset
theorem net_add {B b : Nat} {w : World} {M : SpM} {p : Sp} (h : SpIs B w b M p (mapOf p.st)) (hB : B ≤ w.heap.size) (x : Ev) (hn : p.mv.length < 65536 ∧ p.st.length < 65536) :
    Calls Tryz.prog 39 #[.pointer (some ⟨b, 0, none⟩), .agg (evA x)] w fun e w' => e = .returned (.tuple #[]) ∧ (∃ M', SpIs B w' b M' (p.add x) (mapOf (p.add x).st)) ∧ Below B w w' := by
  cases hs : evSets x
  · exact net_addM h hB x hn.1 hs
  · cases hf : findAt (keyOf x) (mapOf p.st) with
    | none => exact net_addN h hB x hn.2 hs hf
    | some y => exact net_addO h hB x hs hf
end Go.Proofs.YtpfnmnpdaacjmaaGreatDoor
