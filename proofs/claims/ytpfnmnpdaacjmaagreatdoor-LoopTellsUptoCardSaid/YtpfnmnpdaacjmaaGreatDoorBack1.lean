/-
  A row of a state, draws and one value more: a game that can be taken back, and a runner of a loop. back: Open, State, Draws.
-/
import Derived.Test.YtpfnmnpdaacjmaaGreatDoorAdd
namespace Go.Proofs.YtpfnmnpdaacjmaaGreatDoor
open Go.RowKit

def gaA (S : SV) (d : Sl) (x : Value) : Array Value := #[S.o.v, (S.l 0).v, (S.l 1).v, (S.l 2).v, (S.l 3).v, (S.l 4).v, (S.l 5).v, (S.l 6).v, (S.l 7).v, (S.l 8).v, (S.l 9).v, (S.l 10).v, .int .i64 (S.p 0), .int .i64 (S.p 1), .int .i64 (S.p 2), .int .i64 (S.p 3), .int .i64 (S.p 4), .int .i64 (S.p 5), .int .i64 (S.p 6), .int .i64 (S.p 7), .int .i64 (S.p 8), .int .i64 (S.p 9), .int .i64 (S.p 10), .int .i64 (S.p 11), .int .i64 (S.p 12), .int .i64 (S.p 13), .int .i64 (S.p 14), .int .i64 (S.p 15), .int .i64 (S.p 16), .int .i64 (S.p 17), .int .i64 (S.g 0), .int .i64 (S.g 1), .int .i64 (S.g 2), .int .i64 (S.g 3), .int .i64 (S.g 4), .int .i64 (S.g 5), .int .i64 (S.g 6), d.v, x]
theorem gaA_size (S : SV) (d : Sl) (x : Value) : (gaA S d x).size = 39 := rfl
theorem gaA_35 (S : SV) (d : Sl) (x : Value) : (gaA S d x)[35]? = some (.int .i64 (S.g 5)) := rfl
theorem gaA_37 (S : SV) (d : Sl) (x : Value) : (gaA S d x)[37]? = some (d.v) := rfl
theorem gaA_38 (S : SV) (d : Sl) (x : Value) : (gaA S d x)[38]? = some (x) := rfl
theorem gaA_toList (S : SV) (d : Sl) (x : Value) : (gaA S d x).toList = (stA S).toList ++ [d.v, x] := rfl
theorem gaA_st (S : SV) (d : Sl) (x : Value) : (gaA S d x).extract 0 37 = stA S := extr _ [] (stA S).toList [d.v, x] (by rw [gaA_toList]; rfl) _ _ rfl rfl
theorem gaA_set38 (S : SV) (d : Sl) (x y : Value) : (gaA S d x).setIfInBounds 38 y = gaA S d y := rfl
theorem splA_gaS (S S' : SV) (d : Sl) (x : Value) : splA (gaA S d x) 0 (stA S') = gaA S' d x := rfl
theorem splA_gaD (S : SV) (d : Sl) (x : Value) (a : Option Addr) (n c : Nat) : splA (gaA S d x) 37 #[.slice a n c] = gaA S ⟨a, n, c⟩ x := rfl
theorem splA_gaX (S : SV) (d : Sl) (x y : Value) : splA (gaA S d x) 38 #[y] = gaA S d y := rfl
attribute [go_sem] gaA_size gaA_35 gaA_37 gaA_38 gaA_st gaA_set38 splA_gaS splA_gaD splA_gaX
theorem exec_build_ga (ρ : Operand → Value) (dst : Option Tmp) (parts : Array (Nat × Operand)) (t : TypeId) (p : String) (af : Array Edge) (g : Option (Nat × Bool)) (W : World) :
    (execOp ρ ⟨dst, .build 61 parts, t, p, af, g⟩).run Tryz.prog W = bldOr (fillS [(0, 37), (37, 1), (38, 1)] (gaA zSV ⟨none, 0, 0⟩ (.pointer none)) (parts.toList.map fun (i, x) => (i, ρ x))) W (exec0 Tryz.prog ρ ⟨dst, .build 61 parts, t, p, af, g⟩ W) :=
  exec_build (by kernel_rfl) Tryz.underlying61 (by kernel_rfl) ρ dst parts t p af g W
theorem exec_build_rn (ρ : Operand → Value) (dst : Option Tmp) (parts : Array (Nat × Operand)) (t : TypeId) (p : String) (af : Array Edge) (g : Option (Nat × Bool)) (W : World) :
    (execOp ρ ⟨dst, .build 66 parts, t, p, af, g⟩).run Tryz.prog W = bldOr (fillS [(0, 37), (37, 1), (38, 1)] (gaA zSV ⟨none, 0, 0⟩ (.slice none 0 0)) (parts.toList.map fun (i, x) => (i, ρ x))) W (exec0 Tryz.prog ρ ⟨dst, .build 66 parts, t, p, af, g⟩ W) :=
  exec_build (by kernel_rfl) Tryz.underlying66 (by kernel_rfl) ρ dst parts t p af g W
attribute [go_sem ↓] exec_build_ga exec_build_rn
/-- The package variables stand below this. -/
def gTop : Nat := [1, 2, 0, 4, 3].foldl max 0 + 1
theorem Glob.belowT {w w' : World} (h : Glob w) (hb : Below w.heap.size w w') (hm : gTop ≤ w.heap.size) : Glob w' := by
  have hk : ∀ k, k < gTop → w'.blk k = w.blk k := fun k hk => hb.block k (by omega)
  obtain ⟨h1, h2, h3, h4, h5⟩ := h
  exact ⟨by rw [hk _ (by decide)]; exact h1, by rw [hk _ (by decide)]; exact h2, by rw [hk _ (by decide)]; exact h3, by rw [hk _ (by decide)]; exact h4, by rw [hk _ (by decide)]; exact h5⟩
/-- A game in memory. -/
structure Ga (B : Nat) (w : World) (g j : Nat) (S : SV) (d ev mk : Sl) (n : Int) (s : St) (dr : List Int) (el : List Ev) (ml : List (Int × Int)) : Prop where
  blk : Blk w g 61 (gaA S d (.pointer (some ⟨j, 0, none⟩)))
  jb : Blk w j 79 (joA ev mk n)
  bd : B ≤ w.heap.size
  bg : B ≤ g
  bj : B ≤ j
  st : RdS 0 w S s
  few : Few s
  drn : dr.length ≤ 4096
  rd : RdI 0 w d dr
  ev : w.ownsRow B 89 6 ev.v el.length (evsV el)
  mks : w.ownsRow B 113 2 mk.v ml.length (mksV ml)
  n : 0 ≤ n ∧ n < 1073741824
  ml : ml.length ≤ 1048576
theorem Ga.below {B g j : Nat} {w w' : World} {S : SV} {d ev mk : Sl} {n : Int} {s : St} {dr : List Int} {el : List Ev} {ml : List (Int × Int)} (h : Ga B w g j S d ev mk n s dr el ml) (hb : Below w.heap.size w w') : Ga B w' g j S d ev mk n s dr el ml :=
  ⟨h.blk.below hb h.blk.lt, h.jb.below hb h.jb.lt, Nat.le_trans h.bd hb.size, h.bg, h.bj, h.st.fr (.of_below hb), h.few, h.drn, h.rd.fr (.of_below hb), own_below h.ev hb, own_below h.mks hb, h.n, h.ml⟩
set_option maxRecDepth 100000 in
set_option maxHeartbeats 1000000 in
theorem ga_open {B : Nat} {w : World} {S : SV} {s : St} {sd : Sl} {dr : List Int} (h : RdS B w S s) (hs : Few s) (hd : RdI B w sd dr) (hdn : dr.length ≤ 4096) (hG : Glob w) (h8 : gTop ≤ w.heap.size) (h7 : 7 ≤ w.heap.size) (hc : stCheck s = 0) :
    Calls Tryz.prog 12 #[.agg (stA S), sd.v] w fun e w' => ∃ g j S' d', e = .returned (.tuple #[.pointer (some ⟨g, 0, none⟩), .nilIface]) ∧ Ga w.heap.size w' g j S' d' nSl nSl 0 s dr [] [] ∧ Below w.heap.size w w' := by
  have hb0 := below1 w (.cells (stA S) 44)
  have hchk := st_check (h.fr (.of_below hb0)) hs (hG.belowT hb0 h8) (by simp; omega)
  rw [hc, errV0] at hchk
  have hrk := fun W => rand_check sd W
  have hlen := hd.len
  rw [errV_zero (by rw [randCheck, if_pos (by omega)])] at hrk
  have hx0 := Blk.new w 44 (stA S)
  have Hlen := hide hlen
  clear hc hlen
  go_enter Tryz.func12, Tryz.ntmps12
  go_wp2_with fail
  refine hchk.mono ?_
  rintro e w1 ⟨rfl, hb1⟩
  have hx1 := hx0.below hb1 hx0.lt
  obtain ⟨e1, c1, f1⟩ := Blk.all hx1
  have hq1 := hb0.trans (hb1.mono hb0.size)
  go_wp2_with fail
  refine (hrk _).mono ?_
  rintro e w' ⟨rfl, rfl⟩
  clear hrk hchk
  go_wp2_with fail
  refine (stCopy (h.fr (.of_below hq1)) hs).mono ?_
  rintro e w2 ⟨S2, rfl, hS2, hb2⟩
  have hq2 := hq1.trans (hb2.mono hq1.size)
  go_wp2_with fail
  refine (cloneI (hd.fr (.of_below hq2)).reads (fun u hu => by simp at hu; obtain ⟨x, _, rfl⟩ := hu; rfl) (by have := unhide Hlen; omega)).mono ?_
  rintro e w3 ⟨sd3, rfl, hsd3, hsn3, hb3⟩
  have hq3 := hq2.trans (hb3.mono hq2.size)
  have Hsn3 := hide hsn3
  clear hsn3
  go_wp2_with fail
  refine (jo_new _).mono ?_
  rintro e w4 ⟨rfl, rfl⟩
  go_wp2_with fail
  go_ret2
  have hG4 : Blk ((w3.alloc (.cells (joA nSl nSl 0) 79)).alloc (.cells (gaA S2 sd3 (.pointer (some ⟨w3.heap.size, 0, none⟩))) 61)) (w3.heap.size + 1) 61 (gaA S2 sd3 (.pointer (some ⟨w3.heap.size, 0, none⟩))) := by
    have := Blk.new (w3.alloc (.cells (joA nSl nSl 0) 79)) 61 (gaA S2 sd3 (.pointer (some ⟨w3.heap.size, 0, none⟩)))
    simpa using this
  have hA : Below w3.heap.size w3 ((w3.alloc (.cells (joA nSl nSl 0) 79)).alloc (.cells (gaA S2 sd3 (.pointer (some ⟨w3.heap.size, 0, none⟩))) 61)) := below2 _ _ _
  have hq4 := hq3.trans (hA.mono hq3.size)
  refine ⟨_, _, S2, sd3, rfl, ⟨hG4, (Blk.new _ _ _).alloc _, hq4.size, ?_, hq3.size, (hS2.fr (.of_below hb3)).fr (.of_below hA), hs, hdn, ?_, World.ownsRow_nil _ _ _ _, World.ownsRow_nil _ _ _ _, by decide, by decide⟩, hq4⟩
  · have := hq3.size; simp; omega
  · have hr := (own_rd hsd3 (unhide Hsn3) rfl)
    exact Rd.fr hr (.of_below hA)
set_option maxRecDepth 100000 in
set_option maxHeartbeats 400000 in
theorem ga_state {B g j : Nat} {w : World} {S : SV} {d ev mk : Sl} {n : Int} {s : St} {dr : List Int} {el : List Ev} {ml : List (Int × Int)} (h : Ga B w g j S d ev mk n s dr el ml) :
    Calls Tryz.prog 14 #[.pointer (some ⟨g, 0, none⟩)] w fun e w' => ∃ S' : SV, e = .returned (.agg (stA S')) ∧ RdS 0 w' S' s ∧ Below w.heap.size w w' := by
  have hb0 := below1 w (.cells (stA zSV) 44)
  have h1 := h.below hb0
  obtain ⟨e1, c1, f1⟩ := Blk.all h1.blk
  have hr0 := Blk.new w 44 (stA zSV)
  go_enter Tryz.func14, Tryz.ntmps14
  go_wp2_with fail
  refine (stCopy h1.st h1.few).mono ?_
  rintro e w1 ⟨S', rfl, hS, hb1⟩
  have hk := hr0.below hb1 hr0.lt
  obtain ⟨e2, c2, f2⟩ := Blk.all hk
  go_wp2_with fail
  refine ret_cell rfl rfl (setRow_heap _ _ _ _ _ _ hk) Tryz.underlying44 rfl (by kernel_rfl) rfl ⟨S', rfl, ?_, ?_⟩
  · exact hS.fr (Fr.setRowMut (.refl _ _) hk rfl (Nat.zero_le _) _)
  · exact below_setRow (hb0.trans (hb1.mono hb0.size)) (Nat.le_refl _) _
set_option maxHeartbeats 400000 in
theorem ga_draws {B g j : Nat} {w : World} {S : SV} {d ev mk : Sl} {n : Int} {s : St} {dr : List Int} {el : List Ev} {ml : List (Int × Int)} (h : Ga B w g j S d ev mk n s dr el ml) :
    Calls Tryz.prog 21 #[.pointer (some ⟨g, 0, none⟩)] w fun e w' => ∃ d' : Sl, e = .returned d'.v ∧ RdI 0 w' d' dr ∧ Below w.heap.size w w' := by
  obtain ⟨e1, c1, f1⟩ := Blk.all h.blk
  have hlen := h.rd.len
  have Hlen := hide hlen
  clear hlen
  go_enter Tryz.func21, Tryz.ntmps21
  go_wp2_with fail
  refine (cloneI h.rd.reads (fun u hu => by simp at hu; obtain ⟨x, _, rfl⟩ := hu; rfl) (by have := unhide Hlen; have := h.drn; omega)).mono ?_
  rintro e w3 ⟨sd3, rfl, hsd3, hsn3, hb3⟩
  have Hsn3 := hide hsn3
  clear hsn3
  go_wp2_with fail
  go_ret
  exact ⟨sd3, rfl, own_rd hsd3 (unhide Hsn3) rfl, hb3⟩
end Go.Proofs.YtpfnmnpdaacjmaaGreatDoor
