/-
  The game's state as a value of 37 cells: its slices, its players' numbers, its game's numbers; loads and stores of many cells at once.
-/
import Derived.Test.YtpfnmnpdaacjmaaGreatDoorClone
import Derived.Laws.CopyOwn
namespace Go.Proofs.YtpfnmnpdaacjmaaGreatDoor
open Go.RowKit

structure SV where
  o : Sl
  l : Nat → Sl
  p : Nat → Int
  g : Nat → Int
def upd {α : Type} (f : Nat → α) (i : Nat) (x : α) : Nat → α := fun j => if j = i then x else f j
theorem upd_same {α : Type} (f : Nat → α) (i : Nat) (x : α) : upd f i x i = x := by simp [upd]
theorem upd_other {α : Type} (f : Nat → α) (i j : Nat) (x : α) (h : j ≠ i) : upd f i x j = f j := by simp [upd, h]
def intV (n : Int) : Value := .int .i64 n

def stA (S : SV) : Array Value := #[S.o.v, (S.l 0).v, (S.l 1).v, (S.l 2).v, (S.l 3).v, (S.l 4).v, (S.l 5).v, (S.l 6).v, (S.l 7).v, (S.l 8).v, (S.l 9).v, (S.l 10).v, .int .i64 (S.p 0), .int .i64 (S.p 1), .int .i64 (S.p 2), .int .i64 (S.p 3), .int .i64 (S.p 4), .int .i64 (S.p 5), .int .i64 (S.p 6), .int .i64 (S.p 7), .int .i64 (S.p 8), .int .i64 (S.p 9), .int .i64 (S.p 10), .int .i64 (S.p 11), .int .i64 (S.p 12), .int .i64 (S.p 13), .int .i64 (S.p 14), .int .i64 (S.p 15), .int .i64 (S.p 16), .int .i64 (S.p 17), .int .i64 (S.g 0), .int .i64 (S.g 1), .int .i64 (S.g 2), .int .i64 (S.g 3), .int .i64 (S.g 4), .int .i64 (S.g 5), .int .i64 (S.g 6)]
theorem stA_size (S : SV) : (stA S).size = 37 := rfl
theorem stA_0 (S : SV) : (stA S)[0]? = some (S.o.v) := rfl
theorem stA_1 (S : SV) : (stA S)[1]? = some ((S.l 0).v) := rfl
theorem stA_2 (S : SV) : (stA S)[2]? = some ((S.l 1).v) := rfl
theorem stA_3 (S : SV) : (stA S)[3]? = some ((S.l 2).v) := rfl
theorem stA_4 (S : SV) : (stA S)[4]? = some ((S.l 3).v) := rfl
theorem stA_5 (S : SV) : (stA S)[5]? = some ((S.l 4).v) := rfl
theorem stA_6 (S : SV) : (stA S)[6]? = some ((S.l 5).v) := rfl
theorem stA_7 (S : SV) : (stA S)[7]? = some ((S.l 6).v) := rfl
theorem stA_8 (S : SV) : (stA S)[8]? = some ((S.l 7).v) := rfl
theorem stA_9 (S : SV) : (stA S)[9]? = some ((S.l 8).v) := rfl
theorem stA_10 (S : SV) : (stA S)[10]? = some ((S.l 9).v) := rfl
theorem stA_11 (S : SV) : (stA S)[11]? = some ((S.l 10).v) := rfl
theorem stA_12 (S : SV) : (stA S)[12]? = some (.int .i64 (S.p 0)) := rfl
theorem stA_13 (S : SV) : (stA S)[13]? = some (.int .i64 (S.p 1)) := rfl
theorem stA_14 (S : SV) : (stA S)[14]? = some (.int .i64 (S.p 2)) := rfl
theorem stA_15 (S : SV) : (stA S)[15]? = some (.int .i64 (S.p 3)) := rfl
theorem stA_16 (S : SV) : (stA S)[16]? = some (.int .i64 (S.p 4)) := rfl
theorem stA_17 (S : SV) : (stA S)[17]? = some (.int .i64 (S.p 5)) := rfl
theorem stA_18 (S : SV) : (stA S)[18]? = some (.int .i64 (S.p 6)) := rfl
theorem stA_19 (S : SV) : (stA S)[19]? = some (.int .i64 (S.p 7)) := rfl
theorem stA_20 (S : SV) : (stA S)[20]? = some (.int .i64 (S.p 8)) := rfl
theorem stA_21 (S : SV) : (stA S)[21]? = some (.int .i64 (S.p 9)) := rfl
theorem stA_22 (S : SV) : (stA S)[22]? = some (.int .i64 (S.p 10)) := rfl
theorem stA_23 (S : SV) : (stA S)[23]? = some (.int .i64 (S.p 11)) := rfl
theorem stA_24 (S : SV) : (stA S)[24]? = some (.int .i64 (S.p 12)) := rfl
theorem stA_25 (S : SV) : (stA S)[25]? = some (.int .i64 (S.p 13)) := rfl
theorem stA_26 (S : SV) : (stA S)[26]? = some (.int .i64 (S.p 14)) := rfl
theorem stA_27 (S : SV) : (stA S)[27]? = some (.int .i64 (S.p 15)) := rfl
theorem stA_28 (S : SV) : (stA S)[28]? = some (.int .i64 (S.p 16)) := rfl
theorem stA_29 (S : SV) : (stA S)[29]? = some (.int .i64 (S.p 17)) := rfl
theorem stA_30 (S : SV) : (stA S)[30]? = some (.int .i64 (S.g 0)) := rfl
theorem stA_31 (S : SV) : (stA S)[31]? = some (.int .i64 (S.g 1)) := rfl
theorem stA_32 (S : SV) : (stA S)[32]? = some (.int .i64 (S.g 2)) := rfl
theorem stA_33 (S : SV) : (stA S)[33]? = some (.int .i64 (S.g 3)) := rfl
theorem stA_34 (S : SV) : (stA S)[34]? = some (.int .i64 (S.g 4)) := rfl
theorem stA_35 (S : SV) : (stA S)[35]? = some (.int .i64 (S.g 5)) := rfl
theorem stA_36 (S : SV) : (stA S)[36]? = some (.int .i64 (S.g 6)) := rfl
theorem stA_l (S : SV) (z : Nat) (h : z < 11) : (stA S)[1 + z]? = some (S.l z).v := by
  rcases (by omega : z = 0 ∨ z = 1 ∨ z = 2 ∨ z = 3 ∨ z = 4 ∨ z = 5 ∨ z = 6 ∨ z = 7 ∨ z = 8 ∨ z = 9 ∨ z = 10) with rfl | rfl | rfl | rfl | rfl | rfl | rfl | rfl | rfl | rfl | rfl <;> rfl
theorem stA_p (S : SV) (z : Nat) (h : z < 18) : (stA S)[12 + z]? = some (.int .i64 (S.p z)) := by
  rcases (by omega : z = 0 ∨ z = 1 ∨ z = 2 ∨ z = 3 ∨ z = 4 ∨ z = 5 ∨ z = 6 ∨ z = 7 ∨ z = 8 ∨ z = 9 ∨ z = 10 ∨ z = 11 ∨ z = 12 ∨ z = 13 ∨ z = 14 ∨ z = 15 ∨ z = 16 ∨ z = 17) with rfl | rfl | rfl | rfl | rfl | rfl | rfl | rfl | rfl | rfl | rfl | rfl | rfl | rfl | rfl | rfl | rfl | rfl <;> rfl
theorem stA_g (S : SV) (z : Nat) (h : z < 7) : (stA S)[30 + z]? = some (.int .i64 (S.g z)) := by
  rcases (by omega : z = 0 ∨ z = 1 ∨ z = 2 ∨ z = 3 ∨ z = 4 ∨ z = 5 ∨ z = 6) with rfl | rfl | rfl | rfl | rfl | rfl | rfl <;> rfl
theorem stA_setO (S : SV) (x : Sl) : (stA S).setIfInBounds 0 x.v = stA { S with o := x } := rfl
theorem stA_setL (S : SV) (z : Nat) (h : z < 11) (x : Sl) : (stA S).setIfInBounds (1 + z) x.v = stA { S with l := upd S.l z x } := by
  rcases (by omega : z = 0 ∨ z = 1 ∨ z = 2 ∨ z = 3 ∨ z = 4 ∨ z = 5 ∨ z = 6 ∨ z = 7 ∨ z = 8 ∨ z = 9 ∨ z = 10) with rfl | rfl | rfl | rfl | rfl | rfl | rfl | rfl | rfl | rfl | rfl <;> rfl
theorem stA_setP (S : SV) (z : Nat) (h : z < 18) (x : Int) : (stA S).setIfInBounds (12 + z) (.int .i64 x) = stA { S with p := upd S.p z x } := by
  rcases (by omega : z = 0 ∨ z = 1 ∨ z = 2 ∨ z = 3 ∨ z = 4 ∨ z = 5 ∨ z = 6 ∨ z = 7 ∨ z = 8 ∨ z = 9 ∨ z = 10 ∨ z = 11 ∨ z = 12 ∨ z = 13 ∨ z = 14 ∨ z = 15 ∨ z = 16 ∨ z = 17) with rfl | rfl | rfl | rfl | rfl | rfl | rfl | rfl | rfl | rfl | rfl | rfl | rfl | rfl | rfl | rfl | rfl | rfl <;> rfl
theorem stA_setG (S : SV) (z : Nat) (h : z < 7) (x : Int) : (stA S).setIfInBounds (30 + z) (.int .i64 x) = stA { S with g := upd S.g z x } := by
  rcases (by omega : z = 0 ∨ z = 1 ∨ z = 2 ∨ z = 3 ∨ z = 4 ∨ z = 5 ∨ z = 6) with rfl | rfl | rfl | rfl | rfl | rfl | rfl <;> rfl
theorem stA_all (S : SV) : (stA S).extract 0 37 = stA S := by
  have := Array.extract_size (xs := stA S)
  rwa [stA_size] at this
attribute [simp, go_sem] stA_size stA_0 stA_1 stA_2 stA_3 stA_4 stA_5 stA_6 stA_7 stA_8 stA_9 stA_10 stA_11 stA_12 stA_13 stA_14 stA_15 stA_16 stA_17 stA_18 stA_19 stA_20 stA_21 stA_22 stA_23 stA_24 stA_25 stA_26 stA_27 stA_28 stA_29 stA_30 stA_31 stA_32 stA_33 stA_34 stA_35 stA_36

/-! Many cells at once. -/
theorem run_load_row {P : Program} {W : World} {b o n : Nat} {ty : TypeId} {d : TypeDesc} {cs : Array Value} {T : TypeId} {fr : Nat × Nat} (hb : W.heap[b]? = some (.cells cs T fr))
    (hu : P.underlying ty = some d) (hd : d.isRow = true) (hi : (P.info? ty).map (·.size) = some n) (hn : o + n ≤ cs.size) :
    (Instr.loadAt ty (.pointer (some ⟨b, o, none⟩))).run P W = .ok (.agg (cs.extract o (o + n))) W := by
  have hr : W.rangeAt b o (cs.extract o (o + n)).toList := by
    intro j v hj
    rw [cell_of_row W b _ cs T fr hb]
    simp only [Array.getElem?_toList, Array.getElem?_extract] at hj
    split at hj
    · exact hj
    · cases hj
  have h2 := run_loadAt_mid (P := P) W b o ty (cs.extract o (o + n)).toList d hr hu hd (by rw [hi]; simp; omega)
  rw [Array.toArray_toList] at h2
  exact h2
/-- The run of an operation, behind a name that simp does not open. -/
def exec0 (P : Program) (ρ : Operand → Value) (o : Oper) (W : World) : Result Next := (execOp ρ o).run P W
theorem blk_alloc (w : World) (o : Obj) (k : Nat) : (w.alloc o).blk k = if k = w.heap.size then some o else w.blk k := by
  unfold World.blk
  show (w.heap.push o)[k]? = _
  rw [Array.getElem?_push]
def rowOr (r : Option Obj) (o n : Nat) (W : World) (e : Result Next) : Result Next :=
  match r with
  | some (.cells cs _ _) => if o + n ≤ cs.size then .ok (.value (.agg (cs.extract o (o + n)))) W else e
  | _ => e
theorem rowOr_cells (cs : Array Value) (T : TypeId) (fr : Nat × Nat) (o n : Nat) (W : World) (e : Result Next) (h : o + n ≤ cs.size) :
    rowOr (some (.cells cs T fr)) o n W e = .ok (.value (.agg (cs.extract o (o + n)))) W := by simp [rowOr, h]
def ldOr (v : Value) (n : Nat) (W : World) (e : Result Next) : Result Next :=
  match v with
  | .pointer (some ⟨b, o, none⟩) => rowOr (W.blk b) o n W e
  | _ => e
theorem ldOr_ptr (b o n : Nat) (W : World) (e : Result Next) : ldOr (.pointer (some ⟨b, o, none⟩)) n W e = rowOr (W.blk b) o n W e := rfl
theorem exec_load_row {P : Program} {ty : TypeId} {d : TypeDesc} {n : Nat} (hu : P.underlying ty = some d) (hd : d.isRow = true) (hi : (P.info? ty).map (·.size) = some n)
    (ρ : Operand → Value) (dst : Option Tmp) (x : Operand) (t : TypeId) (p : String) (af : Array Edge) (g : Option (Nat × Bool)) (W : World) :
    (execOp ρ ⟨dst, .load ty x, t, p, af, g⟩).run P W = ldOr (ρ x) n W (exec0 P ρ ⟨dst, .load ty x, t, p, af, g⟩ W) := by
  unfold ldOr rowOr exec0
  split
  · rename_i b o hx
    split
    · rename_i cs T fr h
      split
      · rename_i hn
        unfold execOp
        simp only [hx, Sem.run_bind, run_load_row h hu hd hi hn, Result.andThen_ok, Sem.run_pure]
      · rfl
    · rfl
  · rfl
theorem exec_load_st (ρ : Operand → Value) (dst : Option Tmp) (x : Operand) (t : TypeId) (p : String) (af : Array Edge) (g : Option (Nat × Bool)) (W : World) :
    (execOp ρ ⟨dst, .load 44 x, t, p, af, g⟩).run Tryz.prog W = ldOr (ρ x) 37 W (exec0 Tryz.prog ρ ⟨dst, .load 44 x, t, p, af, g⟩ W) :=
  exec_load_row Tryz.underlying44 rfl (by kernel_rfl) ρ dst x t p af g W
theorem rowOr_st (S : SV) (T : TypeId) (fr : Nat × Nat) (W : World) (e : Result Next) : rowOr (some (.cells (stA S) T fr)) 0 37 W e = .ok (.value (.agg (stA S))) W := by
  rw [rowOr_cells _ _ _ _ _ _ _ (by simp), Nat.zero_add, stA_all]
attribute [go_sem ↓] exec_load_st
attribute [go_sem] blk_alloc ldOr_ptr

/-! Stores of many cells at once. -/
def splA (cs : Array Value) (o : Nat) (vs : Array Value) : Array Value := (cs.toList.take o ++ vs.toList ++ cs.toList.drop (o + vs.size)).toArray
theorem splA_all (cs vs : Array Value) (h : cs.size = vs.size) : splA cs 0 vs = vs := by
  have : cs.toList.drop vs.size = [] := List.drop_eq_nil_of_le (by simp; omega)
  simp [splA, this]
theorem run_store_row {P : Program} {W : World} {b o : Nat} {ty : TypeId} {cs vs : Array Value} {T : TypeId} (hb : W.heap[b]? = some (.cells cs T (0, 0)))
    (hi : (P.info? ty).map (·.size) = some vs.size) (hn : o + vs.size ≤ cs.size) (h1 : ∀ v ∈ vs, v.oneCell' = true) :
    (Instr.storeAt ty (.pointer (some ⟨b, o, none⟩)) (.agg vs)).run P W = .ok () (W.setRow b (splA cs o vs)) := by
  have := run_storeCells_at (P := P) b o T vs.toList 0 cs W hb (by simpa using hn) (fun x hx => h1 x (by simpa using hx))
  cases hq : P.info? ty with
  | none => simp [hq] at hi
  | some i =>
    have hs : vs.size = i.size := by simp [hq] at hi; omega
    simp only [Nat.add_zero, Array.length_toList] at this
    simp only [Instr.storeAt, Instr.sureAddr, Sem.run_bind, Sem.run_pure, Result.andThen_ok]
    simp [storeVar, sizeOf, typeInfo, hq, Value.cells, ← hs, splA, this]
def storeOr (r : Option Obj) (b o : Nat) (vs : Array Value) (n : Nat) (W : World) (e : Result Next) : Result Next :=
  match r with
  | some (.cells cs _ (0, 0)) => if vs.size = n ∧ vs.all (·.oneCell') = true ∧ o + n ≤ cs.size then .ok .skip (W.setRow b (splA cs o vs)) else e
  | _ => e
theorem storeOr_cells (cs : Array Value) (T : TypeId) (b o : Nat) (vs : Array Value) (n : Nat) (W : World) (e : Result Next) (hn : vs.size = n) (h1 : ∀ v ∈ vs, v.oneCell' = true) (h : o + n ≤ cs.size) :
    storeOr (some (.cells cs T (0, 0))) b o vs n W e = .ok .skip (W.setRow b (splA cs o vs)) := by
  simp only [storeOr]
  rw [if_pos ⟨hn, Array.all_eq_true_iff_forall_mem.2 h1, h⟩]
def stOr (a x : Value) (n : Nat) (W : World) (e : Result Next) : Result Next :=
  match a, x with
  | .pointer (some ⟨b, o, none⟩), .agg vs => storeOr (W.blk b) b o vs n W e
  | _, _ => e
theorem stOr_ptr (b o : Nat) (vs : Array Value) (n : Nat) (W : World) (e : Result Next) : stOr (.pointer (some ⟨b, o, none⟩)) (.agg vs) n W e = storeOr (W.blk b) b o vs n W e := rfl
theorem exec_store_row {P : Program} {ty : TypeId} {n : Nat} (hi : (P.info? ty).map (·.size) = some n)
    (ρ : Operand → Value) (dst : Option Tmp) (a x : Operand) (t : TypeId) (p : String) (af : Array Edge) (g : Option (Nat × Bool)) (W : World) :
    (execOp ρ ⟨dst, .store ty a x, t, p, af, g⟩).run P W = stOr (ρ a) (ρ x) n W (exec0 P ρ ⟨dst, .store ty a x, t, p, af, g⟩ W) := by
  unfold stOr storeOr exec0
  split
  · rename_i b o vs ha hx
    split
    · rename_i cs T h
      split
      · rename_i hn
        unfold execOp
        have hst := run_store_row (P := P) (o := o) (ty := ty) (vs := vs) h (by rw [hi, hn.1]) (by rw [hn.1]; exact hn.2.2) (Array.all_eq_true_iff_forall_mem.1 hn.2.1)
        simp only [ha, hx, Sem.run_bind, hst, Result.andThen_ok, Sem.run_pure]
      · rfl
    · rfl
  · rfl
theorem stA_one (S : SV) : ∀ v ∈ stA S, v.oneCell' = true := by
  intro v hv
  simp only [stA, List.mem_toArray, List.mem_cons, List.not_mem_nil, or_false] at hv
  rcases hv with rfl | rfl | rfl | rfl | rfl | rfl | rfl | rfl | rfl | rfl | rfl | rfl | rfl | rfl | rfl | rfl | rfl | rfl | rfl | rfl | rfl | rfl | rfl | rfl | rfl | rfl | rfl | rfl | rfl | rfl | rfl | rfl | rfl | rfl | rfl | rfl | rfl <;> rfl
theorem exec_store_st (ρ : Operand → Value) (dst : Option Tmp) (a x : Operand) (t : TypeId) (p : String) (af : Array Edge) (g : Option (Nat × Bool)) (W : World) :
    (execOp ρ ⟨dst, .store 44 a x, t, p, af, g⟩).run Tryz.prog W = stOr (ρ a) (ρ x) 37 W (exec0 Tryz.prog ρ ⟨dst, .store 44 a x, t, p, af, g⟩ W) :=
  exec_store_row (by kernel_rfl) ρ dst a x t p af g W
theorem stA_oneA (S : SV) : ∀ v ∈ stA S, v.oneCell' = true := stA_one S
theorem storeOr_st (S S' : SV) (T : TypeId) (b : Nat) (W : World) (e : Result Next) : storeOr (some (.cells (stA S') T (0, 0))) b 0 (stA S) 37 W e = .ok .skip (W.setRow b (stA S)) := by
  rw [storeOr_cells _ _ _ _ _ _ _ _ (by simp) (stA_one S) (by simp), splA_all _ _ (by simp)]
theorem Fr.setRowMut {B : Nat} {w w' : World} {g : Nat} {t : TypeId} {cs : Array Value} (h : Fr B w w') (hb : Blk w g t cs) (hT : immT t = false) (hB : B ≤ g) (u : Array Value) : Fr B w (w'.setRow g u) :=
  ⟨h.os, h.tape, h.output, by simpa using h.size, fun k hk hs => (setRow_other w' g k u (by
    rintro rfl
    rcases hs with hs | ⟨cs', T, fr, hb', hT'⟩
    · omega
    · unfold Blk at hb
      rw [hb] at hb'
      injection hb' with hb'
      injection hb' with _ ht
      subst ht
      rw [hT] at hT'
      cases hT')).trans (h.keep k hk hs)⟩
theorem Blk.setRow {w : World} {g : Nat} {t : TypeId} {cs : Array Value} (h : Blk w g t cs) (u : Array Value) : Blk (w.setRow g u) g t u := setRow_heap w g cs u t (0, 0) h
theorem Blk.setRow_far {w : World} {g g' : Nat} {t : TypeId} {cs : Array Value} (h : Blk w g t cs) (hg : g ≠ g') (u : Array Value) : Blk (w.setRow g' u) g t cs := (setRow_other w g' g u hg).trans h
/-- A result that lies in memory. -/
theorem ret_cell {P : Program} {fn : Func} {p : Tmp} {ty : TypeId} (h : fn.results = #[.cell p ty]) {R : Ending → World → Prop} {a : Act} {w : World} {g : Nat} {t : TypeId} {cs : Array Value} {fr : Nat × Nat} {d : TypeDesc}
    (hp : a.tmps.getD p undef = .pointer (some ⟨g, 0, none⟩)) (hg : w.heap[g]? = some (.cells cs t fr)) (hu : P.underlying ty = some d) (hd : (match d with | .struct _ | .array _ _ => true | _ => false) = true)
    (hi : (P.info? ty).map (·.size) = some cs.size) (hdf : a.defers = []) (hR : R (.returned (.agg cs)) w) : bodyPost P fn R .ret a w :=
  bodyPost_ret (results_cell_row h a.tmps w g t cs fr d hp hg hu hd hi) hdf hR
def zSV : SV := ⟨⟨none, 0, 0⟩, fun _ => ⟨none, 0, 0⟩, fun _ => 0, fun _ => 0⟩
theorem zero_st : (Tryz.prog.info? 44).map (fun i => (i.zero, i.size)) = some (some (.agg (stA zSV)), 37) := by kernel_rfl
theorem exec_alloc_st (ρ : Operand → Value) (dst : Option Tmp) (t : TypeId) (p : String) (af : Array Edge) (g : Option (Nat × Bool)) (W : World) :
    (execOp ρ ⟨dst, .alloc 44, t, p, af, g⟩).run Tryz.prog W = .ok (.value (.pointer (some ⟨W.heap.size, 0, none⟩))) (W.alloc (.cells (stA zSV) 44)) := by
  have hz := zero_st
  cases hq : Tryz.prog.info? 44 with
  | none => simp [hq] at hz
  | some i =>
    simp only [hq, Option.map_some, Option.some.injEq, Prod.mk.injEq] at hz
    simp [execOp, Instr.alloc, zeroValue, newVar, typeInfo, Sem.run_bind, hq, hz.1, Value.cells]
    rfl
theorem setRow_alloc_new (w : World) (c cs : Array Value) (T : TypeId) : (w.alloc (.cells c T)).setRow w.heap.size cs = w.alloc (.cells cs T) := by
  unfold World.setRow World.alloc
  congr 1
  apply Array.ext_getElem?
  intro i
  simp only [Array.getElem?_modify, Array.getElem?_push]
  by_cases h : w.heap.size = i
  · subst h; simp
  · simp [h, Ne.symm h]
theorem setRow_alloc (w : World) (c cs : Array Value) (T : TypeId) (fr : Nat × Nat) (g : Nat) : (w.alloc (.cells c T fr)).setRow g cs = if g = w.heap.size then w.alloc (.cells cs T fr) else (w.setRow g cs).alloc (.cells c T fr) := by
  unfold World.setRow World.alloc
  by_cases h : g = w.heap.size
  · rw [if_pos h]
    congr 1
    apply Array.ext_getElem?
    intro i
    simp only [Array.getElem?_modify, Array.getElem?_push]
    by_cases h' : g = i
    · subst h'; simp [h]
    · rw [if_neg h']; simp [show ¬ i = w.heap.size by omega]
  · rw [if_neg h]
    congr 1
    apply Array.ext_getElem?
    intro i
    simp only [Array.getElem?_modify, Array.getElem?_push, Array.size_modify]
    by_cases h' : g = i
    · subst h'; simp [h]
    · by_cases h2 : i = w.heap.size <;> simp [h', h2, h]
theorem blk_drew (w : World) (k : Nat) : w.drew.blk k = w.blk k := rfl
theorem blk_drewN (w : World) (n k : Nat) : (w.drewN n).blk k = w.blk k := rfl
theorem blk_setRow (w : World) (g k : Nat) (cs : Array Value) : (w.setRow g cs).blk k = if k = g then (w.blk g).map (fun | .cells _ e f => .cells cs e f | o => o) else w.blk k := by
  unfold World.blk
  by_cases h : k = g
  · subst h; simp only [if_true, World.setRow, Array.getElem?_modify]; rfl
  · rw [if_neg h, setRow_other w g k cs h]
theorem blk_setCell (w : World) (a : Addr) (k : Nat) (v : Value) : (w.setCell a v).blk k = if k = a.block then (w.blk a.block).map (fun | .cells c e f => .cells (if a.spot.isSome then c else c.setIfInBounds a.off v) e f | o => o) else w.blk k := by
  unfold World.blk
  by_cases h : k = a.block
  · subst h; simp only [if_true, World.setCell, Array.getElem?_modify]; rfl
  · rw [if_neg h, Below.heap_setCell w a v k h]
attribute [go_sem ↓] exec_store_st exec_alloc_st
attribute [go_sem] stOr_ptr storeOr_st setRow_alloc blk_setRow blk_setCell blk_drew blk_drewN
/-! Other rows. -/
abbrev Ob := Nat → Int
/-- Each is one cell. -/
def oneA (vs : Array Value) : Prop := ∀ v ∈ vs, v.oneCell' = true
instance oneADec (vs : Array Value) : Decidable (oneA vs) := by unfold oneA; exact inferInstance
theorem oneA_nil : oneA #[] := fun v hv => by simp at hv
theorem oneA_lit (l : List Value) (h : l.all (·.oneCell') = true) : oneA l.toArray := fun v hv => List.all_eq_true.1 h v (by simpa using hv)
theorem oneA_nil' : oneA (List.toArray ([] : List Value)) = True := by simp [oneA]
theorem oneA_cons (v : Value) (l : List Value) : oneA (v :: l).toArray = (v.oneCell' = true ∧ oneA l.toArray) := by simp [oneA]
theorem oneC_int (k : IntKind) (n : Int) : (Value.int k n).oneCell' = true := rfl
theorem oneC_bool (b : Bool) : (Value.bool b).oneCell' = true := rfl
theorem oneC_slice (a : Option Addr) (n c : Nat) : (Value.slice a n c).oneCell' = true := rfl
theorem oneC_ptr (a : Option Addr) : (Value.pointer a).oneCell' = true := rfl
theorem oneC_nil : Value.nilIface.oneCell' = true := rfl
theorem oneC_iface (t : TypeId) (v : Value) : (Value.iface t v).oneCell' = true := rfl
theorem oneC_map (m : Option Nat) : (Value.map m).oneCell' = true := rfl
attribute [go_sem] oneA_nil' oneA_cons oneC_int oneC_bool oneC_slice oneC_ptr oneC_nil oneC_iface oneC_map
def obA (o : Ob) : Array Value := #[.int .i64 (o 0), .int .i64 (o 1), .int .i64 (o 2), .int .i64 (o 3), .int .i64 (o 4), .int .i64 (o 5), .int .i64 (o 6), .int .i64 (o 7), .int .i64 (o 8), .int .i64 (o 9), .int .i64 (o 10), .int .i64 (o 11), .int .i64 (o 12), .int .i64 (o 13), .int .i64 (o 14), .int .i64 (o 15), .int .i64 (o 16), .int .i64 (o 17)]
theorem obA_size (o : Ob) : (obA o).size = 18 := rfl
theorem obA_at (o : Ob) (f : Nat) (h : f < 18) : (obA o)[f]? = some (.int .i64 (o f)) := by
  rcases (by omega : f = 0 ∨ f = 1 ∨ f = 2 ∨ f = 3 ∨ f = 4 ∨ f = 5 ∨ f = 6 ∨ f = 7 ∨ f = 8 ∨ f = 9 ∨ f = 10 ∨ f = 11 ∨ f = 12 ∨ f = 13 ∨ f = 14 ∨ f = 15 ∨ f = 16 ∨ f = 17) with rfl | rfl | rfl | rfl | rfl | rfl | rfl | rfl | rfl | rfl | rfl | rfl | rfl | rfl | rfl | rfl | rfl | rfl <;> rfl
theorem obA_set (o : Ob) (f : Nat) (h : f < 18) (x : Int) : (obA o).setIfInBounds f (.int .i64 x) = obA (upd o f x) := by
  rcases (by omega : f = 0 ∨ f = 1 ∨ f = 2 ∨ f = 3 ∨ f = 4 ∨ f = 5 ∨ f = 6 ∨ f = 7 ∨ f = 8 ∨ f = 9 ∨ f = 10 ∨ f = 11 ∨ f = 12 ∨ f = 13 ∨ f = 14 ∨ f = 15 ∨ f = 16 ∨ f = 17) with rfl | rfl | rfl | rfl | rfl | rfl | rfl | rfl | rfl | rfl | rfl | rfl | rfl | rfl | rfl | rfl | rfl | rfl <;> rfl
theorem obA_one (o : Ob) : oneA (obA o) := oneA_lit _ rfl
theorem obA_0 (o : Ob) : (obA o)[0]? = some (.int .i64 (o 0)) := rfl
theorem obA_1 (o : Ob) : (obA o)[1]? = some (.int .i64 (o 1)) := rfl
theorem obA_2 (o : Ob) : (obA o)[2]? = some (.int .i64 (o 2)) := rfl
theorem obA_3 (o : Ob) : (obA o)[3]? = some (.int .i64 (o 3)) := rfl
theorem obA_4 (o : Ob) : (obA o)[4]? = some (.int .i64 (o 4)) := rfl
theorem obA_5 (o : Ob) : (obA o)[5]? = some (.int .i64 (o 5)) := rfl
theorem obA_6 (o : Ob) : (obA o)[6]? = some (.int .i64 (o 6)) := rfl
theorem obA_7 (o : Ob) : (obA o)[7]? = some (.int .i64 (o 7)) := rfl
theorem obA_8 (o : Ob) : (obA o)[8]? = some (.int .i64 (o 8)) := rfl
theorem obA_9 (o : Ob) : (obA o)[9]? = some (.int .i64 (o 9)) := rfl
theorem obA_10 (o : Ob) : (obA o)[10]? = some (.int .i64 (o 10)) := rfl
theorem obA_11 (o : Ob) : (obA o)[11]? = some (.int .i64 (o 11)) := rfl
theorem obA_12 (o : Ob) : (obA o)[12]? = some (.int .i64 (o 12)) := rfl
theorem obA_13 (o : Ob) : (obA o)[13]? = some (.int .i64 (o 13)) := rfl
theorem obA_14 (o : Ob) : (obA o)[14]? = some (.int .i64 (o 14)) := rfl
theorem obA_15 (o : Ob) : (obA o)[15]? = some (.int .i64 (o 15)) := rfl
theorem obA_16 (o : Ob) : (obA o)[16]? = some (.int .i64 (o 16)) := rfl
theorem obA_17 (o : Ob) : (obA o)[17]? = some (.int .i64 (o 17)) := rfl
attribute [simp, go_sem] obA_size obA_0 obA_1 obA_2 obA_3 obA_4 obA_5 obA_6 obA_7 obA_8 obA_9 obA_10 obA_11 obA_12 obA_13 obA_14 obA_15 obA_16 obA_17
/-- An array of bounds. -/
def bdL (n : Nat) (b : Nat → Int × Int) : List Value := (List.range n).flatMap fun i => [.int .i64 (b i).1, .int .i64 (b i).2]
def bdA (n : Nat) (b : Nat → Int × Int) : Array Value := (bdL n b).toArray
theorem bdL_succ (n : Nat) (b : Nat → Int × Int) : bdL (n + 1) b = bdL n b ++ [.int .i64 (b n).1, .int .i64 (b n).2] := by simp [bdL, List.range_succ]
theorem bdL_congr (n : Nat) (b c : Nat → Int × Int) (h : ∀ j, j < n → b j = c j) : bdL n b = bdL n c := by
  induction n with
  | zero => rfl
  | succ n ih => rw [bdL_succ, bdL_succ, ih (fun j hj => h j (by omega)), h n (by omega)]
theorem bdL_len (n : Nat) (b : Nat → Int × Int) : (bdL n b).length = 2 * n := by
  induction n with
  | zero => rfl
  | succ n ih => rw [bdL_succ]; simp [ih]; omega
theorem bdA_size (n : Nat) (b : Nat → Int × Int) : (bdA n b).size = 2 * n := by simp [bdA, bdL_len]
theorem bdL_at (n i : Nat) (b : Nat → Int × Int) (h : i < n) : (bdL n b).drop (2 * i) = [.int .i64 (b i).1, .int .i64 (b i).2] ++ (bdL n b).drop (2 * i + 2) := by
  induction n with
  | zero => omega
  | succ n ih =>
    rw [bdL_succ]
    by_cases hn : i = n
    · subst hn
      rw [List.drop_append_of_le_length (by rw [bdL_len]; omega), List.drop_eq_nil_of_le (by rw [bdL_len]; omega), List.drop_eq_nil_of_le (by simp [bdL_len])]
      simp
    · rw [List.drop_append_of_le_length (by rw [bdL_len]; omega), ih (by omega), List.drop_append_of_le_length (by rw [bdL_len]; omega), List.append_assoc]
theorem bdA_at (n i : Nat) (b : Nat → Int × Int) (h : i < n) : (bdA n b).extract (2 * i) (2 * i + 2) = #[.int .i64 (b i).1, .int .i64 (b i).2] := by
  apply Array.ext'
  have := bdL_at n i b h
  simp [bdA, this]
theorem bdA_one (n : Nat) (b : Nat → Int × Int) : oneA (bdA n b) := by
  refine oneA_lit _ ?_
  simp only [List.all_eq_true, bdL, List.mem_flatMap, List.mem_range, List.mem_cons, List.not_mem_nil, or_false]
  rintro v ⟨i, _, rfl | rfl⟩ <;> rfl
theorem storeOr_whole (cs : Array Value) (T : TypeId) (b : Nat) (vs : Array Value) (n : Nat) (W : World) (e : Result Next) (hn : vs.size = n) (h1 : oneA vs) (h : cs.size = n) :
    storeOr (some (.cells cs T (0, 0))) b 0 vs n W e = .ok .skip (W.setRow b vs) := by
  rw [storeOr_cells cs T b 0 vs n W e hn h1 (by omega), splA_all _ _ (by omega)]
theorem storeOr_if (cs : Array Value) (T : TypeId) (b o : Nat) (vs : Array Value) (n : Nat) (W : World) (e : Result Next) :
    storeOr (some (.cells cs T (0, 0))) b o vs n W e = if vs.size = n ∧ oneA vs ∧ o + n ≤ cs.size then .ok .skip (W.setRow b (splA cs o vs)) else e := by
  simp only [storeOr]
  by_cases h : vs.size = n ∧ oneA vs ∧ o + n ≤ cs.size
  · rw [if_pos h, if_pos ⟨h.1, Array.all_eq_true_iff_forall_mem.2 h.2.1, h.2.2⟩]
  · rw [if_neg h, if_neg (fun h' => h ⟨h'.1, Array.all_eq_true_iff_forall_mem.1 h'.2.1, h'.2.2⟩)]
theorem splA_whole (cs vs : Array Value) (h : cs.size = vs.size) : splA cs 0 vs = vs := splA_all cs vs h
theorem bdA_set (n i : Nat) (b : Nat → Int × Int) (x y : Int) (h : i < n) : splA (bdA n b) (2 * i) #[.int .i64 x, .int .i64 y] = bdA n (upd b i (x, y)) := by
  apply Array.ext'
  simp only [splA, bdA]
  induction n with
  | zero => omega
  | succ n ih =>
    rw [bdL_succ, bdL_succ]
    by_cases hn : i = n
    · subst hn
      have e1 : bdL i (upd b i (x, y)) = bdL i b := by
        exact bdL_congr i _ _ fun j hj => upd_other _ _ _ _ (by omega)
      rw [e1, upd_same]
      rw [List.take_append_of_le_length (by rw [bdL_len]; omega), List.take_of_length_le (by rw [bdL_len]; omega), List.drop_eq_nil_of_le (by simp [bdL_len])]
      simp
    · have := ih (by omega)
      rw [upd_other _ _ _ _ (by omega : n ≠ i), List.take_append_of_le_length (by rw [bdL_len]; omega)]
      simp only [List.size_toArray, List.length_cons, List.length_nil] at this ⊢
      rw [List.drop_append_of_le_length (by rw [bdL_len]; omega), ← this]
      simp
theorem stA_oneA' (S : SV) : oneA (stA S) := stA_one S
attribute [go_sem] stA_oneA' setRow_setRow
theorem bdA_set' (n i : Nat) (b : Nat → Int × Int) (x y : Int) (h : i < n) : splA (bdA n b) (i * 2) #[.int .i64 x, .int .i64 y] = bdA n (upd b i (x, y)) := by rw [Nat.mul_comm]; exact bdA_set n i b x y h
theorem bdA_at' (n i : Nat) (b : Nat → Int × Int) (h : i < n) : (bdA n b).extract (i * 2) (i * 2 + 2) = #[.int .i64 (b i).1, .int .i64 (b i).2] := by rw [Nat.mul_comm]; exact bdA_at n i b h
theorem rowOr_if (cs : Array Value) (T : TypeId) (fr : Nat × Nat) (o n : Nat) (W : World) (e : Result Next) :
    rowOr (some (.cells cs T fr)) o n W e = if o + n ≤ cs.size then .ok (.value (.agg (cs.extract o (o + n)))) W else e := rfl
theorem extract_whole (cs : Array Value) (n : Nat) (h : cs.size = n) : cs.extract 0 n = cs := by subst h; exact Array.extract_size
theorem rowOr_whole (cs : Array Value) (T : TypeId) (fr : Nat × Nat) (n : Nat) (W : World) (e : Result Next) (h : cs.size = n) :
    rowOr (some (.cells cs T fr)) 0 n W e = .ok (.value (.agg cs)) W := by
  rw [rowOr_if, if_pos (by omega), Nat.zero_add, extract_whole cs n h]
theorem exec_load_ob (ρ : Operand → Value) (dst : Option Tmp) (x : Operand) (t : TypeId) (p : String) (af : Array Edge) (g : Option (Nat × Bool)) (W : World) :
    (execOp ρ ⟨dst, .load 74 x, t, p, af, g⟩).run Tryz.prog W = ldOr (ρ x) 18 W (exec0 Tryz.prog ρ ⟨dst, .load 74 x, t, p, af, g⟩ W) :=
  exec_load_row Tryz.underlying74 rfl (by kernel_rfl) ρ dst x t p af g W
theorem exec_store_ob (ρ : Operand → Value) (dst : Option Tmp) (a x : Operand) (t : TypeId) (p : String) (af : Array Edge) (g : Option (Nat × Bool)) (W : World) :
    (execOp ρ ⟨dst, .store 74 a x, t, p, af, g⟩).run Tryz.prog W = stOr (ρ a) (ρ x) 18 W (exec0 Tryz.prog ρ ⟨dst, .store 74 a x, t, p, af, g⟩ W) :=
  exec_store_row (by kernel_rfl) ρ dst a x t p af g W
theorem exec_load_b1 (ρ : Operand → Value) (dst : Option Tmp) (x : Operand) (t : TypeId) (p : String) (af : Array Edge) (g : Option (Nat × Bool)) (W : World) :
    (execOp ρ ⟨dst, .load 94 x, t, p, af, g⟩).run Tryz.prog W = ldOr (ρ x) 2 W (exec0 Tryz.prog ρ ⟨dst, .load 94 x, t, p, af, g⟩ W) :=
  exec_load_row Tryz.underlying94 rfl (by kernel_rfl) ρ dst x t p af g W
theorem exec_store_b1 (ρ : Operand → Value) (dst : Option Tmp) (a x : Operand) (t : TypeId) (p : String) (af : Array Edge) (g : Option (Nat × Bool)) (W : World) :
    (execOp ρ ⟨dst, .store 94 a x, t, p, af, g⟩).run Tryz.prog W = stOr (ρ a) (ρ x) 2 W (exec0 Tryz.prog ρ ⟨dst, .store 94 a x, t, p, af, g⟩ W) :=
  exec_store_row (by kernel_rfl) ρ dst a x t p af g W
theorem exec_load_b18 (ρ : Operand → Value) (dst : Option Tmp) (x : Operand) (t : TypeId) (p : String) (af : Array Edge) (g : Option (Nat × Bool)) (W : World) :
    (execOp ρ ⟨dst, .load 95 x, t, p, af, g⟩).run Tryz.prog W = ldOr (ρ x) 36 W (exec0 Tryz.prog ρ ⟨dst, .load 95 x, t, p, af, g⟩ W) :=
  exec_load_row Tryz.underlying95 rfl (by kernel_rfl) ρ dst x t p af g W
theorem exec_store_b18 (ρ : Operand → Value) (dst : Option Tmp) (a x : Operand) (t : TypeId) (p : String) (af : Array Edge) (g : Option (Nat × Bool)) (W : World) :
    (execOp ρ ⟨dst, .store 95 a x, t, p, af, g⟩).run Tryz.prog W = stOr (ρ a) (ρ x) 36 W (exec0 Tryz.prog ρ ⟨dst, .store 95 a x, t, p, af, g⟩ W) :=
  exec_store_row (by kernel_rfl) ρ dst a x t p af g W
theorem exec_load_b9 (ρ : Operand → Value) (dst : Option Tmp) (x : Operand) (t : TypeId) (p : String) (af : Array Edge) (g : Option (Nat × Bool)) (W : World) :
    (execOp ρ ⟨dst, .load 98 x, t, p, af, g⟩).run Tryz.prog W = ldOr (ρ x) 18 W (exec0 Tryz.prog ρ ⟨dst, .load 98 x, t, p, af, g⟩ W) :=
  exec_load_row Tryz.underlying98 rfl (by kernel_rfl) ρ dst x t p af g W
theorem exec_store_b9 (ρ : Operand → Value) (dst : Option Tmp) (a x : Operand) (t : TypeId) (p : String) (af : Array Edge) (g : Option (Nat × Bool)) (W : World) :
    (execOp ρ ⟨dst, .store 98 a x, t, p, af, g⟩).run Tryz.prog W = stOr (ρ a) (ρ x) 18 W (exec0 Tryz.prog ρ ⟨dst, .store 98 a x, t, p, af, g⟩ W) :=
  exec_store_row (by kernel_rfl) ρ dst a x t p af g W
theorem exec_load_b7 (ρ : Operand → Value) (dst : Option Tmp) (x : Operand) (t : TypeId) (p : String) (af : Array Edge) (g : Option (Nat × Bool)) (W : World) :
    (execOp ρ ⟨dst, .load 100 x, t, p, af, g⟩).run Tryz.prog W = ldOr (ρ x) 14 W (exec0 Tryz.prog ρ ⟨dst, .load 100 x, t, p, af, g⟩ W) :=
  exec_load_row Tryz.underlying100 rfl (by kernel_rfl) ρ dst x t p af g W
theorem exec_store_b7 (ρ : Operand → Value) (dst : Option Tmp) (a x : Operand) (t : TypeId) (p : String) (af : Array Edge) (g : Option (Nat × Bool)) (W : World) :
    (execOp ρ ⟨dst, .store 100 a x, t, p, af, g⟩).run Tryz.prog W = stOr (ρ a) (ρ x) 14 W (exec0 Tryz.prog ρ ⟨dst, .store 100 a x, t, p, af, g⟩ W) :=
  exec_store_row (by kernel_rfl) ρ dst a x t p af g W
theorem exec_load_p9 (ρ : Operand → Value) (dst : Option Tmp) (x : Operand) (t : TypeId) (p : String) (af : Array Edge) (g : Option (Nat × Bool)) (W : World) :
    (execOp ρ ⟨dst, .load 40 x, t, p, af, g⟩).run Tryz.prog W = ldOr (ρ x) 9 W (exec0 Tryz.prog ρ ⟨dst, .load 40 x, t, p, af, g⟩ W) :=
  exec_load_row Tryz.underlying40 rfl (by kernel_rfl) ρ dst x t p af g W
theorem exec_store_p9 (ρ : Operand → Value) (dst : Option Tmp) (a x : Operand) (t : TypeId) (p : String) (af : Array Edge) (g : Option (Nat × Bool)) (W : World) :
    (execOp ρ ⟨dst, .store 40 a x, t, p, af, g⟩).run Tryz.prog W = stOr (ρ a) (ρ x) 9 W (exec0 Tryz.prog ρ ⟨dst, .store 40 a x, t, p, af, g⟩ W) :=
  exec_store_row (by kernel_rfl) ρ dst a x t p af g W
theorem exec_load_p18 (ρ : Operand → Value) (dst : Option Tmp) (x : Operand) (t : TypeId) (p : String) (af : Array Edge) (g : Option (Nat × Bool)) (W : World) :
    (execOp ρ ⟨dst, .load 41 x, t, p, af, g⟩).run Tryz.prog W = ldOr (ρ x) 18 W (exec0 Tryz.prog ρ ⟨dst, .load 41 x, t, p, af, g⟩ W) :=
  exec_load_row Tryz.underlying41 rfl (by kernel_rfl) ρ dst x t p af g W
theorem exec_store_p18 (ρ : Operand → Value) (dst : Option Tmp) (a x : Operand) (t : TypeId) (p : String) (af : Array Edge) (g : Option (Nat × Bool)) (W : World) :
    (execOp ρ ⟨dst, .store 41 a x, t, p, af, g⟩).run Tryz.prog W = stOr (ρ a) (ρ x) 18 W (exec0 Tryz.prog ρ ⟨dst, .store 41 a x, t, p, af, g⟩ W) :=
  exec_store_row (by kernel_rfl) ρ dst a x t p af g W
theorem exec_load_g7 (ρ : Operand → Value) (dst : Option Tmp) (x : Operand) (t : TypeId) (p : String) (af : Array Edge) (g : Option (Nat × Bool)) (W : World) :
    (execOp ρ ⟨dst, .load 42 x, t, p, af, g⟩).run Tryz.prog W = ldOr (ρ x) 7 W (exec0 Tryz.prog ρ ⟨dst, .load 42 x, t, p, af, g⟩ W) :=
  exec_load_row Tryz.underlying42 rfl (by kernel_rfl) ρ dst x t p af g W
theorem exec_store_g7 (ρ : Operand → Value) (dst : Option Tmp) (a x : Operand) (t : TypeId) (p : String) (af : Array Edge) (g : Option (Nat × Bool)) (W : World) :
    (execOp ρ ⟨dst, .store 42 a x, t, p, af, g⟩).run Tryz.prog W = stOr (ρ a) (ρ x) 7 W (exec0 Tryz.prog ρ ⟨dst, .store 42 a x, t, p, af, g⟩ W) :=
  exec_store_row (by kernel_rfl) ρ dst a x t p af g W
theorem exec_load_l11 (ρ : Operand → Value) (dst : Option Tmp) (x : Operand) (t : TypeId) (p : String) (af : Array Edge) (g : Option (Nat × Bool)) (W : World) :
    (execOp ρ ⟨dst, .load 39 x, t, p, af, g⟩).run Tryz.prog W = ldOr (ρ x) 11 W (exec0 Tryz.prog ρ ⟨dst, .load 39 x, t, p, af, g⟩ W) :=
  exec_load_row Tryz.underlying39 rfl (by kernel_rfl) ρ dst x t p af g W
theorem exec_store_l11 (ρ : Operand → Value) (dst : Option Tmp) (a x : Operand) (t : TypeId) (p : String) (af : Array Edge) (g : Option (Nat × Bool)) (W : World) :
    (execOp ρ ⟨dst, .store 39 a x, t, p, af, g⟩).run Tryz.prog W = stOr (ρ a) (ρ x) 11 W (exec0 Tryz.prog ρ ⟨dst, .store 39 a x, t, p, af, g⟩ W) :=
  exec_store_row (by kernel_rfl) ρ dst a x t p af g W
attribute [go_sem ↓] exec_load_ob exec_store_ob exec_load_b1 exec_store_b1 exec_load_b18 exec_store_b18 exec_load_b9 exec_store_b9 exec_load_b7 exec_store_b7 exec_load_p9 exec_store_p9 exec_load_p18 exec_store_p18 exec_load_g7 exec_store_g7 exec_load_l11 exec_store_l11
attribute [go_sem] storeOr_if splA_whole rowOr_if extract_whole stA_all obA_one bdA_size bdA_one
/-- Parts of a state. -/
def lsA (l : Nat → Sl) : Array Value := #[(l 0).v, (l 1).v, (l 2).v, (l 3).v, (l 4).v, (l 5).v, (l 6).v, (l 7).v, (l 8).v, (l 9).v, (l 10).v]
def plA (p : Nat → Int) : Array Value := #[.int .i64 (p 0), .int .i64 (p 1), .int .i64 (p 2), .int .i64 (p 3), .int .i64 (p 4), .int .i64 (p 5), .int .i64 (p 6), .int .i64 (p 7), .int .i64 (p 8), .int .i64 (p 9), .int .i64 (p 10), .int .i64 (p 11), .int .i64 (p 12), .int .i64 (p 13), .int .i64 (p 14), .int .i64 (p 15), .int .i64 (p 16), .int .i64 (p 17)]
def p9A (p : Nat → Int) : Array Value := #[.int .i64 (p 0), .int .i64 (p 1), .int .i64 (p 2), .int .i64 (p 3), .int .i64 (p 4), .int .i64 (p 5), .int .i64 (p 6), .int .i64 (p 7), .int .i64 (p 8)]
def gmA (g : Nat → Int) : Array Value := #[.int .i64 (g 0), .int .i64 (g 1), .int .i64 (g 2), .int .i64 (g 3), .int .i64 (g 4), .int .i64 (g 5), .int .i64 (g 6)]
theorem stA_toList (S : SV) : (stA S).toList = S.o.v :: ((lsA S.l).toList ++ (plA S.p).toList ++ (gmA S.g).toList) := rfl
theorem extr {α : Type} (a : Array α) (x y z : List α) (h : a.toList = x ++ (y ++ z)) (i j : Nat) (hi : i = x.length) (hj : j = x.length + y.length) : a.extract i j = y.toArray := by
  obtain ⟨l⟩ := a
  simp only at h
  subst h hi hj
  simp
theorem stA_pl (S : SV) : (stA S).extract 12 30 = plA S.p := extr _ (S.o.v :: (lsA S.l).toList) (plA S.p).toList (gmA S.g).toList (by simp [stA_toList]) _ _ rfl rfl
theorem stA_gm (S : SV) : (stA S).extract 30 37 = gmA S.g := extr _ (S.o.v :: (lsA S.l).toList ++ (plA S.p).toList) (gmA S.g).toList [] (by simp [stA_toList]) _ _ rfl rfl
theorem stA_ls (S : SV) : (stA S).extract 1 12 = lsA S.l := extr _ [S.o.v] (lsA S.l).toList ((plA S.p).toList ++ (gmA S.g).toList) (by simp [stA_toList]) _ _ rfl rfl
theorem stA_p0 (S : SV) : (stA S).extract 12 21 = p9A S.p := extr _ (S.o.v :: (lsA S.l).toList) (p9A S.p).toList ((p9A fun i => S.p (9 + i)).toList ++ (gmA S.g).toList) rfl _ _ rfl rfl
theorem stA_p1 (S : SV) : (stA S).extract 21 30 = p9A fun i => S.p (9 + i) := extr _ (S.o.v :: (lsA S.l).toList ++ (p9A S.p).toList) (p9A fun i => S.p (9 + i)).toList (gmA S.g).toList rfl _ _ rfl rfl
theorem plA_p (p : Nat → Int) (i : Nat) (h : i < 2) : (plA p).extract (i * 9) (i * 9 + 9) = p9A fun j => p (9 * i + j) := by
  rcases (by omega : i = 0 ∨ i = 1) with rfl | rfl
  · exact extr _ [] (p9A p).toList (p9A fun i => p (9 + i)).toList rfl _ _ rfl rfl
  · exact extr _ (p9A p).toList (p9A fun i => p (9 + i)).toList [] rfl _ _ rfl rfl
theorem lsA_at (l : Nat → Sl) (z : Nat) (h : z < 11) : (lsA l)[z]? = some (l z).v := by
  rcases (by omega : z = 0 ∨ z = 1 ∨ z = 2 ∨ z = 3 ∨ z = 4 ∨ z = 5 ∨ z = 6 ∨ z = 7 ∨ z = 8 ∨ z = 9 ∨ z = 10) with rfl | rfl | rfl | rfl | rfl | rfl | rfl | rfl | rfl | rfl | rfl <;> rfl
theorem plA_at (l : Nat → Int) (z : Nat) (h : z < 18) : (plA l)[z]? = some (.int .i64 (l z)) := by
  rcases (by omega : z = 0 ∨ z = 1 ∨ z = 2 ∨ z = 3 ∨ z = 4 ∨ z = 5 ∨ z = 6 ∨ z = 7 ∨ z = 8 ∨ z = 9 ∨ z = 10 ∨ z = 11 ∨ z = 12 ∨ z = 13 ∨ z = 14 ∨ z = 15 ∨ z = 16 ∨ z = 17) with rfl | rfl | rfl | rfl | rfl | rfl | rfl | rfl | rfl | rfl | rfl | rfl | rfl | rfl | rfl | rfl | rfl | rfl <;> rfl
theorem p9A_at (l : Nat → Int) (z : Nat) (h : z < 9) : (p9A l)[z]? = some (.int .i64 (l z)) := by
  rcases (by omega : z = 0 ∨ z = 1 ∨ z = 2 ∨ z = 3 ∨ z = 4 ∨ z = 5 ∨ z = 6 ∨ z = 7 ∨ z = 8) with rfl | rfl | rfl | rfl | rfl | rfl | rfl | rfl | rfl <;> rfl
theorem gmA_at (l : Nat → Int) (z : Nat) (h : z < 7) : (gmA l)[z]? = some (.int .i64 (l z)) := by
  rcases (by omega : z = 0 ∨ z = 1 ∨ z = 2 ∨ z = 3 ∨ z = 4 ∨ z = 5 ∨ z = 6) with rfl | rfl | rfl | rfl | rfl | rfl | rfl <;> rfl
theorem lsA_size (l : Nat → Sl) : (lsA l).size = 11 := rfl
theorem plA_size (l : Nat → Int) : (plA l).size = 18 := rfl
theorem p9A_size (l : Nat → Int) : (p9A l).size = 9 := rfl
theorem gmA_size (l : Nat → Int) : (gmA l).size = 7 := rfl
theorem p9A_one (l : Nat → Int) : oneA (p9A l) := oneA_lit _ rfl
theorem p9A_0 (l : Nat → Int) : (p9A l)[0]? = some (.int .i64 (l 0)) := rfl
theorem p9A_8 (l : Nat → Int) : (p9A l)[8]? = some (.int .i64 (l 8)) := rfl
attribute [go_sem] stA_pl stA_gm stA_ls stA_p0 stA_p1 lsA_size plA_size p9A_size gmA_size p9A_one p9A_0 p9A_8
/-- An element of an array by value. -/
def idxOr (v i : Value) (n sz : Nat) (ag : Bool) (W : World) (e : Result Next) : Result Next :=
  match v, i with
  | .agg cs, .int _ k => if 0 ≤ k ∧ k < n then (if ag then .ok (.value (.agg (cs.extract (k.toNat * sz) (k.toNat * sz + sz)))) W else match cs[k.toNat * sz]? with | some u => .ok (.value u) W | none => e) else e
  | _, _ => e
theorem exec_index_row {P : Program} {T E : TypeId} {n sz : Nat} {ag : Bool} {d : TypeDesc} (ht : P.underlying T = some (.array n E)) (hE : P.underlying E = some d) (hd : d.isRow = ag) (hs : (P.info? E).map (·.size) = some sz)
    (ρ : Operand → Value) (dst : Option Tmp) (x i : Operand) (t : TypeId) (p : String) (af : Array Edge) (g : Option (Nat × Bool)) (W : World) :
    (execOp ρ ⟨dst, .index T x i, t, p, af, g⟩).run P W = idxOr (ρ x) (ρ i) n sz ag W (exec0 P ρ ⟨dst, .index T x i, t, p, af, g⟩ W) := by
  unfold idxOr exec0
  split
  · rename_i cs kd k hx hi
    split
    · rename_i hk
      cases hq : P.info? E with
      | none => simp [hq] at hs
      | some inf =>
        have hs' : inf.size = sz := by simpa [hq] using hs
        have hagg : (isAgg E).run P W = .ok ag W := by
          unfold isAgg
          rw [Sem.run_bind, run_underlying hE W]
          subst hd
          cases d <;> rfl
        cases ag with
        | true => simp [execOp, hx, hi, Instr.index, asIntOf, run_underlying ht, hk, part, hagg, sizeOf, typeInfo, hq, hs']
        | false =>
          simp only [Bool.false_eq_true, if_false]
          split
          · rename_i u hu
            simp [execOp, hx, hi, Instr.index, asIntOf, run_underlying ht, hk, part, hagg, sizeOf, typeInfo, hq, hs', hu]
          · rfl
    · rfl
  · rfl
theorem idxOr_mk (cs : Array Value) (kd : IntKind) (k : Int) (n sz : Nat) (ag : Bool) (W : World) (e : Result Next) : idxOr (.agg cs) (.int kd k) n sz ag W e =
    if 0 ≤ k ∧ k < n then (if ag then .ok (.value (.agg (cs.extract (k.toNat * sz) (k.toNat * sz + sz)))) W else match cs[k.toNat * sz]? with | some u => .ok (.value u) W | none => e) else e := rfl
theorem exec_index_ob (ρ : Operand → Value) (dst : Option Tmp) (x i : Operand) (t : TypeId) (p : String) (af : Array Edge) (g : Option (Nat × Bool)) (W : World) :
    (execOp ρ ⟨dst, .index 74 x i, t, p, af, g⟩).run Tryz.prog W = idxOr (ρ x) (ρ i) 18 1 false W (exec0 Tryz.prog ρ ⟨dst, .index 74 x i, t, p, af, g⟩ W) :=
  exec_index_row Tryz.underlying74 Tryz.underlying3 rfl (by kernel_rfl) ρ dst x i t p af g W
theorem exec_index_l11 (ρ : Operand → Value) (dst : Option Tmp) (x i : Operand) (t : TypeId) (p : String) (af : Array Edge) (g : Option (Nat × Bool)) (W : World) :
    (execOp ρ ⟨dst, .index 39 x i, t, p, af, g⟩).run Tryz.prog W = idxOr (ρ x) (ρ i) 11 1 false W (exec0 Tryz.prog ρ ⟨dst, .index 39 x i, t, p, af, g⟩ W) :=
  exec_index_row Tryz.underlying39 Tryz.underlying34 rfl (by kernel_rfl) ρ dst x i t p af g W
theorem exec_index_p18 (ρ : Operand → Value) (dst : Option Tmp) (x i : Operand) (t : TypeId) (p : String) (af : Array Edge) (g : Option (Nat × Bool)) (W : World) :
    (execOp ρ ⟨dst, .index 41 x i, t, p, af, g⟩).run Tryz.prog W = idxOr (ρ x) (ρ i) 2 9 true W (exec0 Tryz.prog ρ ⟨dst, .index 41 x i, t, p, af, g⟩ W) :=
  exec_index_row Tryz.underlying41 Tryz.underlying40 rfl (by kernel_rfl) ρ dst x i t p af g W
theorem exec_index_b18 (ρ : Operand → Value) (dst : Option Tmp) (x i : Operand) (t : TypeId) (p : String) (af : Array Edge) (g : Option (Nat × Bool)) (W : World) :
    (execOp ρ ⟨dst, .index 95 x i, t, p, af, g⟩).run Tryz.prog W = idxOr (ρ x) (ρ i) 18 2 true W (exec0 Tryz.prog ρ ⟨dst, .index 95 x i, t, p, af, g⟩ W) :=
  exec_index_row Tryz.underlying95 Tryz.underlying94 rfl (by kernel_rfl) ρ dst x i t p af g W
theorem exec_index_b9 (ρ : Operand → Value) (dst : Option Tmp) (x i : Operand) (t : TypeId) (p : String) (af : Array Edge) (g : Option (Nat × Bool)) (W : World) :
    (execOp ρ ⟨dst, .index 98 x i, t, p, af, g⟩).run Tryz.prog W = idxOr (ρ x) (ρ i) 9 2 true W (exec0 Tryz.prog ρ ⟨dst, .index 98 x i, t, p, af, g⟩ W) :=
  exec_index_row Tryz.underlying98 Tryz.underlying94 rfl (by kernel_rfl) ρ dst x i t p af g W
theorem exec_index_b7 (ρ : Operand → Value) (dst : Option Tmp) (x i : Operand) (t : TypeId) (p : String) (af : Array Edge) (g : Option (Nat × Bool)) (W : World) :
    (execOp ρ ⟨dst, .index 100 x i, t, p, af, g⟩).run Tryz.prog W = idxOr (ρ x) (ρ i) 7 2 true W (exec0 Tryz.prog ρ ⟨dst, .index 100 x i, t, p, af, g⟩ W) :=
  exec_index_row Tryz.underlying100 Tryz.underlying94 rfl (by kernel_rfl) ρ dst x i t p af g W
theorem exec_index_p9 (ρ : Operand → Value) (dst : Option Tmp) (x i : Operand) (t : TypeId) (p : String) (af : Array Edge) (g : Option (Nat × Bool)) (W : World) :
    (execOp ρ ⟨dst, .index 40 x i, t, p, af, g⟩).run Tryz.prog W = idxOr (ρ x) (ρ i) 9 1 false W (exec0 Tryz.prog ρ ⟨dst, .index 40 x i, t, p, af, g⟩ W) :=
  exec_index_row Tryz.underlying40 Tryz.underlying3 rfl (by kernel_rfl) ρ dst x i t p af g W
theorem exec_index_g7 (ρ : Operand → Value) (dst : Option Tmp) (x i : Operand) (t : TypeId) (p : String) (af : Array Edge) (g : Option (Nat × Bool)) (W : World) :
    (execOp ρ ⟨dst, .index 42 x i, t, p, af, g⟩).run Tryz.prog W = idxOr (ρ x) (ρ i) 7 1 false W (exec0 Tryz.prog ρ ⟨dst, .index 42 x i, t, p, af, g⟩ W) :=
  exec_index_row Tryz.underlying42 Tryz.underlying3 rfl (by kernel_rfl) ρ dst x i t p af g W
attribute [go_sem ↓] exec_index_ob exec_index_l11 exec_index_p18 exec_index_b18 exec_index_b9 exec_index_b7 exec_index_p9 exec_index_g7
attribute [go_sem] idxOr_mk
/-- A new variable at its zero. -/
theorem exec_alloc_row {P : Program} {ty : TypeId} {z : Array Value} {n : Nat} (hz : (P.info? ty).map (fun i => (i.zero, i.size)) = some (some (.agg z), n))
    (ρ : Operand → Value) (dst : Option Tmp) (t : TypeId) (p : String) (af : Array Edge) (g : Option (Nat × Bool)) (W : World) :
    (execOp ρ ⟨dst, .alloc ty, t, p, af, g⟩).run P W = .ok (.value (.pointer (some ⟨W.heap.size, 0, none⟩))) (W.alloc (.cells z ty)) := by
  cases hq : P.info? ty with
  | none => simp [hq] at hz
  | some i =>
    simp only [hq, Option.map_some, Option.some.injEq, Prod.mk.injEq] at hz
    simp [execOp, Instr.alloc, zeroValue, newVar, typeInfo, Sem.run_bind, hq, hz.1, Value.cells]
    rfl
theorem zero_ob : (Tryz.prog.info? 74).map (fun i => (i.zero, i.size)) = some (some (.agg (obA fun _ => 0)), 18) := by kernel_rfl
theorem exec_alloc_ob (ρ : Operand → Value) (dst : Option Tmp) (t : TypeId) (p : String) (af : Array Edge) (g : Option (Nat × Bool)) (W : World) :
    (execOp ρ ⟨dst, .alloc 74, t, p, af, g⟩).run Tryz.prog W = .ok (.value (.pointer (some ⟨W.heap.size, 0, none⟩))) (W.alloc (.cells (obA fun _ => 0) 74)) :=
  exec_alloc_row zero_ob ρ dst t p af g W
theorem zero_p9 : (Tryz.prog.info? 40).map (fun i => (i.zero, i.size)) = some (some (.agg (p9A fun _ => 0)), 9) := by kernel_rfl
theorem exec_alloc_p9 (ρ : Operand → Value) (dst : Option Tmp) (t : TypeId) (p : String) (af : Array Edge) (g : Option (Nat × Bool)) (W : World) :
    (execOp ρ ⟨dst, .alloc 40, t, p, af, g⟩).run Tryz.prog W = .ok (.value (.pointer (some ⟨W.heap.size, 0, none⟩))) (W.alloc (.cells (p9A fun _ => 0) 40)) :=
  exec_alloc_row zero_p9 ρ dst t p af g W
theorem zero_b1 : (Tryz.prog.info? 94).map (fun i => (i.zero, i.size)) = some (some (.agg (#[.int .i64 0, .int .i64 0])), 2) := by kernel_rfl
theorem exec_alloc_b1 (ρ : Operand → Value) (dst : Option Tmp) (t : TypeId) (p : String) (af : Array Edge) (g : Option (Nat × Bool)) (W : World) :
    (execOp ρ ⟨dst, .alloc 94, t, p, af, g⟩).run Tryz.prog W = .ok (.value (.pointer (some ⟨W.heap.size, 0, none⟩))) (W.alloc (.cells (#[.int .i64 0, .int .i64 0]) 94)) :=
  exec_alloc_row zero_b1 ρ dst t p af g W
attribute [go_sem ↓] exec_alloc_ob exec_alloc_p9 exec_alloc_b1
theorem splA_ob (o o' : Ob) : splA (obA o) 0 (obA o') = obA o' := splA_all _ _ rfl
theorem splA_p9 (o o' : Nat → Int) : splA (p9A o) 0 (p9A o') = p9A o' := splA_all _ _ rfl
theorem splA_b1 (a b x y : Int) : splA #[.int .i64 a, .int .i64 b] 0 #[.int .i64 x, .int .i64 y] = #[.int .i64 x, .int .i64 y] := splA_all _ _ rfl
theorem obA_all (o : Ob) : (obA o).extract 0 18 = obA o := extract_whole _ _ rfl
theorem p9A_all (o : Nat → Int) : (p9A o).extract 0 9 = p9A o := extract_whole _ _ rfl
attribute [go_sem] splA_ob splA_p9 splA_b1 obA_all p9A_all
/-! Events. -/
structure Ev where
  k : Int
  a : Int
  b : Int
  c : Int
  d : Int
  e : Int
def evA (x : Ev) : Array Value := #[.int .i64 x.k, .int .i64 x.a, .int .i64 x.b, .int .i64 x.c, .int .i64 x.d, .int .i64 x.e]
theorem evA_size (x : Ev) : (evA x).size = 6 := rfl
theorem evA_0 (x : Ev) : (evA x)[0]? = some (.int .i64 x.k) := rfl
theorem evA_set0 (x : Ev) (n : Int) : (evA x).setIfInBounds 0 (.int .i64 n) = evA { x with k := n } := rfl
theorem evA_1 (x : Ev) : (evA x)[1]? = some (.int .i64 x.a) := rfl
theorem evA_set1 (x : Ev) (n : Int) : (evA x).setIfInBounds 1 (.int .i64 n) = evA { x with a := n } := rfl
theorem evA_2 (x : Ev) : (evA x)[2]? = some (.int .i64 x.b) := rfl
theorem evA_set2 (x : Ev) (n : Int) : (evA x).setIfInBounds 2 (.int .i64 n) = evA { x with b := n } := rfl
theorem evA_3 (x : Ev) : (evA x)[3]? = some (.int .i64 x.c) := rfl
theorem evA_set3 (x : Ev) (n : Int) : (evA x).setIfInBounds 3 (.int .i64 n) = evA { x with c := n } := rfl
theorem evA_4 (x : Ev) : (evA x)[4]? = some (.int .i64 x.d) := rfl
theorem evA_set4 (x : Ev) (n : Int) : (evA x).setIfInBounds 4 (.int .i64 n) = evA { x with d := n } := rfl
theorem evA_5 (x : Ev) : (evA x)[5]? = some (.int .i64 x.e) := rfl
theorem evA_set5 (x : Ev) (n : Int) : (evA x).setIfInBounds 5 (.int .i64 n) = evA { x with e := n } := rfl
theorem evA_one (x : Ev) : oneA (evA x) := oneA_lit _ rfl
theorem evA_all (x : Ev) : (evA x).extract 0 6 = evA x := extract_whole _ _ rfl
theorem splA_ev (x y : Ev) : splA (evA x) 0 (evA y) = evA y := splA_all _ _ rfl
attribute [go_sem] evA_size evA_0 evA_1 evA_2 evA_3 evA_4 evA_5 evA_set0 evA_set1 evA_set2 evA_set3 evA_set4 evA_set5 evA_one evA_all splA_ev
theorem exec_load_ev (ρ : Operand → Value) (dst : Option Tmp) (x : Operand) (t : TypeId) (p : String) (af : Array Edge) (g : Option (Nat × Bool)) (W : World) :
    (execOp ρ ⟨dst, .load 89 x, t, p, af, g⟩).run Tryz.prog W = ldOr (ρ x) 6 W (exec0 Tryz.prog ρ ⟨dst, .load 89 x, t, p, af, g⟩ W) :=
  exec_load_row Tryz.underlying89 rfl (by kernel_rfl) ρ dst x t p af g W
theorem exec_store_ev (ρ : Operand → Value) (dst : Option Tmp) (a x : Operand) (t : TypeId) (p : String) (af : Array Edge) (g : Option (Nat × Bool)) (W : World) :
    (execOp ρ ⟨dst, .store 89 a x, t, p, af, g⟩).run Tryz.prog W = stOr (ρ a) (ρ x) 6 W (exec0 Tryz.prog ρ ⟨dst, .store 89 a x, t, p, af, g⟩ W) :=
  exec_store_row (by kernel_rfl) ρ dst a x t p af g W
theorem zero_ev : (Tryz.prog.info? 89).map (fun i => (i.zero, i.size)) = some (some (.agg (evA ⟨0, 0, 0, 0, 0, 0⟩)), 6) := by kernel_rfl
theorem exec_alloc_ev (ρ : Operand → Value) (dst : Option Tmp) (t : TypeId) (p : String) (af : Array Edge) (g : Option (Nat × Bool)) (W : World) :
    (execOp ρ ⟨dst, .alloc 89, t, p, af, g⟩).run Tryz.prog W = .ok (.value (.pointer (some ⟨W.heap.size, 0, none⟩))) (W.alloc (.cells (evA ⟨0, 0, 0, 0, 0, 0⟩) 89)) :=
  exec_alloc_row zero_ev ρ dst t p af g W
attribute [go_sem ↓] exec_load_ev exec_store_ev exec_alloc_ev
/-- An error as a value: 0 is none. -/
def errV (n : Int) : Value := if n = 0 then .nilIface else .iface 52 (.int .i64 n)
theorem errV_zero {n : Int} (h : n = 0) : errV n = .nilIface := by simp [errV, h]
theorem errV_ne {n : Int} (h : n ≠ 0) : errV n = .iface 52 (.int .i64 n) := by simp [errV, h]
theorem errV_one (n : Int) : (errV n).oneCell' = true := by unfold errV; split <;> rfl
attribute [go_sem] errV_one
theorem errV_cases (n : Int) : (n = 0 ∧ errV n = .nilIface) ∨ (n ≠ 0 ∧ errV n = .iface 52 (.int .i64 n)) := by
  by_cases h : n = 0
  · exact .inl ⟨h, errV_zero h⟩
  · exact .inr ⟨h, errV_ne h⟩
end Go.Proofs.YtpfnmnpdaacjmaaGreatDoor
