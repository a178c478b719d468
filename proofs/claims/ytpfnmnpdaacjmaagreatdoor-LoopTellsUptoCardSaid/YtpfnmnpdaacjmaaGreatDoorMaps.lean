/-
  Maps whose keys are arrays of ints: look-up and store as an association list.
-/
import Derived.Test.YtpfnmnpdaacjmaaGreatDoorState
import Derived.MapKept
import Derived.ChangeKeysEq
namespace Go.Proofs.YtpfnmnpdaacjmaaGreatDoor
open Go.RowKit

/-- What a key type must bear: two keys are told apart as their names are. -/
structure KeyOK (P : Program) {κ : Type} [DecidableEq κ] (K : TypeId) (enc : κ → Value) : Prop where
  desc : ∃ d, P.underlying K = some d ∧ ∀ a b, Instr.sameNow d (enc a) (enc b) = none
  equal : ∀ a b w, (Op.equal K (enc a) (enc b)).run P w = .ok (decide (a = b)) w
  check : ∀ e a w, (Instr.checkKey e 10000 K (enc a)).run P w = .ok () w
  bits : ∀ a, Instr.sameBits 10000 (enc a) (enc a) = true
section
variable {P : Program} {κ : Type} [DecidableEq κ] {K : TypeId} {enc : κ → Value}
/-- A map's entries, in the order in which they were made. -/
def entOf (enc : κ → Value) (l : List (κ × Int)) : List (Value × Value) := l.map fun x => (enc x.1, .int .i64 x.2)
def MapIs (w : World) (g : Nat) (enc : κ → Value) (l : List (κ × Int)) : Prop :=
  ∃ es clock, w.heap[g]? = some (.map es clock) ∧ es.toList.map (fun e => (e.key, e.val)) = entOf enc l
def findAt (k : κ) : List (κ × Int) → Option (Nat × Int)
  | [] => none
  | x :: l => if k = x.1 then some (0, x.2) else (findAt k l).map fun y => (y.1 + 1, y.2)
theorem run_findAsking (hK : KeyOK P K enc) (k : κ) (w : World) : ∀ (es : List MapEntry) (l : List (κ × Int)) (i : Nat), es.map (fun e => (e.key, e.val)) = entOf enc l →
    (Instr.findAsking K (enc k) es i).run P w = .ok ((findAt k l).map fun x => (i + x.1, .int .i64 x.2)) w := by
  intro es
  induction es with
  | nil =>
    intro l i h
    cases l with
    | nil => rfl
    | cons x l => simp [entOf] at h
  | cons e es ih =>
    intro l i h
    cases l with
    | nil => simp [entOf] at h
    | cons x l =>
      simp only [entOf, List.map_cons, List.cons.injEq, Prod.mk.injEq] at h
      obtain ⟨⟨h1, h2⟩, h3⟩ := h
      unfold Instr.findAsking
      rw [Sem.run_bind, h1, hK.equal]
      simp only [Result.andThen_ok]
      by_cases hk : k = x.1
      · simp [hk, findAt, h2]
      · simp only [hk, decide_false, Bool.false_eq_true, if_false, findAt]
        rw [ih l (i + 1) h3]
        cases findAt k l with
        | none => rfl
        | some v => simp; omega
theorem run_findKey_k (hK : KeyOK P K enc) (k : κ) (w : World) (es : List MapEntry) (l : List (κ × Int)) (h : es.map (fun e => (e.key, e.val)) = entOf enc l) :
    (Instr.findKey K (enc k) es).run P w = .ok ((findAt k l).map fun x => (x.1, .int .i64 x.2)) w := by
  obtain ⟨d, hd, hs⟩ := hK.desc
  cases es with
  | nil =>
    cases l with
    | nil => simp [Instr.findKey, run_underlying hd, Instr.findNow, findAt]
    | cons x l => simp [entOf] at h
  | cons e es =>
    have hf := run_findAsking hK k w (e :: es) l 0 h
    cases l with
    | nil => simp [entOf] at h
    | cons x l =>
      have hn : Instr.findNow d (enc k) (e :: es) 0 = none := by
        simp only [entOf, List.map_cons, List.cons.injEq, Prod.mk.injEq] at h
        unfold Instr.findNow
        rw [h.1.1, hs]
      simp only [Instr.findKey, Sem.run_bind, run_underlying hd, Result.andThen_ok, hn, hf]
      simp
theorem run_lookup_k (hK : KeyOK P K enc) {M E : TypeId} (hM : P.underlying M = some (.map K E)) {z : Value} (hz : ∀ w, (zeroValue E).run P w = .ok z w) {w : World} {g : Nat} {l : List (κ × Int)} (h : MapIs w g enc l) (k : κ) (c : Bool) :
    (Instr.lookup M (.map (some g)) (enc k) c).run P w = .ok (if c then .tuple #[(match findAt k l with | some x => .int .i64 x.2 | none => z), .bool (findAt k l).isSome] else (match findAt k l with | some x => .int .i64 x.2 | none => z)) w := by
  obtain ⟨es, clock, hb, he⟩ := h
  have hf := run_findKey_k hK k w es.toList l he
  simp only [Instr.lookup, Sem.run_bind, run_underlying hM, Result.andThen_ok, MapKept.run_getObj_map hb, Sem.run_pure, hK.check, hf]
  cases findAt k l <;> simp [hz]
theorem findAt_lt {k : κ} {l : List (κ × Int)} {x : Nat × Int} (h : findAt k l = some x) : ∃ y, l[x.1]? = some y ∧ y.1 = k := by
  induction l generalizing x with
  | nil => simp [findAt] at h
  | cons y l ih =>
    unfold findAt at h
    split at h
    · rename_i hk
      cases h
      exact ⟨y, rfl, hk.symm⟩
    · cases hf : findAt k l with
      | none => simp [hf] at h
      | some v =>
        simp only [hf, Option.map_some, Option.some.injEq] at h
        subst h
        obtain ⟨z, h1, h2⟩ := ih hf
        exact ⟨z, by simpa using h1, h2⟩
def setAt (k : κ) (v : Int) (l : List (κ × Int)) : List (κ × Int) := match findAt k l with | some x => l.modify x.1 fun y => (y.1, v) | none => l ++ [(k, v)]
theorem run_mapUpdate_k (hK : KeyOK P K enc) {M E : TypeId} (hM : P.underlying M = some (.map K E)) {w : World} {g : Nat} {l : List (κ × Int)} (h : MapIs w g enc l) (k : κ) (v : Int) :
    ∃ o, (Instr.mapUpdate M (.map (some g)) (enc k) (.int .i64 v)).run P w = .ok () { w with heap := w.heap.setIfInBounds g o } ∧ MapIs { w with heap := w.heap.setIfInBounds g o } g enc (setAt k v l) := by
  obtain ⟨es, clock, hb, he⟩ := h
  have hf := run_findKey_k hK k w es.toList l he
  have hlt : g < w.heap.size := (Array.getElem?_eq_some_iff.1 hb).1
  have hlen : es.size = l.length := by have := congrArg List.length he; simpa [entOf] using this
  cases hx : findAt k l with
  | none =>
    refine ⟨.map (es.push { key := enc k, val := .int .i64 v, born := clock }) (clock + 1), ?_, es.push { key := enc k, val := .int .i64 v, born := clock }, clock + 1, by simp [hlt], ?_⟩
    · simp only [Instr.mapUpdate, Sem.run_bind, run_underlying hM, Result.andThen_ok, MapKept.run_getObj_map hb, hK.check, hf, hx, Option.map_none]
      exact MapKept.run_setObj_map _ hb
    · simp [setAt, hx, he, entOf]
  | some x =>
    obtain ⟨y, hy, hyk⟩ := findAt_lt hx
    have hes : ∃ e, es[x.1]? = some e ∧ e.key = enc k := by
      have hxl := (List.getElem?_eq_some_iff.1 hy).1
      have h1 : x.1 < es.size := by omega
      refine ⟨es[x.1], by simp [h1], ?_⟩
      have := congrArg (fun L => L[x.1]?) he
      simp only [entOf, List.getElem?_map, hy, Option.map_some, Array.getElem?_toList] at this
      rw [Array.getElem?_eq_getElem h1] at this
      simp at this
      rw [this.1, hyk]
    obtain ⟨e, he1, he2⟩ := hes
    refine ⟨.map (es.modify x.1 fun e => { e with key := enc k, val := .int .i64 v }) clock, ?_, es.modify x.1 (fun e => { e with key := enc k, val := .int .i64 v }), clock, by simp [hlt], ?_⟩
    · have hks : (Instr.keyThatStays (enc k) (enc k)).run P w = .ok (enc k) w := by simp [Instr.keyThatStays, hK.bits]
      simp only [Instr.mapUpdate, Sem.run_bind, run_underlying hM, Result.andThen_ok, MapKept.run_getObj_map hb, hK.check, hf, hx, Option.map_some, he1, Option.getD_some, he2, hks]
      exact MapKept.run_setObj_map _ hb
    · rw [setAt, hx]
      apply List.ext_getElem?
      intro i
      have hi := congrArg (fun L => L[i]?) he
      simp only [entOf, List.getElem?_map, Array.getElem?_toList] at hi
      simp only [entOf, List.getElem?_map, Array.getElem?_toList, Array.getElem?_modify, List.getElem?_modify]
      by_cases hxi : x.1 = i
      · subst hxi
        simp [he1, hy, hyk]
      · simp only [hxi, if_false, hi]
        cases l[i]? <;> rfl
end
/-! Keys that are arrays of three ints. -/
def k3 (k : Int × Int × Int) : Value := .agg #[.int .i64 k.1, .int .i64 k.2.1, .int .i64 k.2.2]
theorem infoInt : ∃ i, Tryz.prog.info? 3 = some i ∧ i.size = 1 := by
  have h : (Tryz.prog.info? 3).map (·.size) = some 1 := by kernel_rfl
  cases hq : Tryz.prog.info? 3 with
  | none => simp [hq] at h
  | some i => exact ⟨i, rfl, by simpa [hq] using h⟩
theorem cellsInt : Tryz.prog.cellsOf 3 = 1 := by kernel_rfl
theorem isAgg_int (w : World) : (isAgg 3).run Tryz.prog w = .ok false w := by
  unfold isAgg
  rw [Sem.run_bind, run_underlying Tryz.underlying3 w]
  rfl
theorem part_int (cs : Array Value) (o : Nat) (v : Value) (h : cs[o]? = some v) (w : World) : (part 3 cs o).run Tryz.prog w = .ok v w := by
  simp [part, h]
theorem eq_int (d : Nat) (a b : Int) (w : World) : (Op.equalIn (d + 1) 3 (.int .i64 a) (.int .i64 b)).run Tryz.prog w = .ok (a == b) w := by
  simp [Op.equalIn, run_underlying Tryz.underlying3]
theorem check_int (e : Bool) (d : Nat) (a : Int) (w : World) : (Instr.checkKey e (d + 1) 3 (.int .i64 a)).run Tryz.prog w = .ok () w := by
  simp [Instr.checkKey, run_underlying Tryz.underlying3]
theorem size_int (w : World) : (sizeOf 3).run Tryz.prog w = .ok 1 w := by
  obtain ⟨i, h1, h2⟩ := infoInt
  simp [sizeOf, typeInfo, h1, h2]
set_option maxRecDepth 20000 in
theorem key3 : KeyOK Tryz.prog 119 k3 := by
  have hu := Tryz.underlying119
  obtain ⟨i, hi1, hi2⟩ := infoInt
  refine ⟨⟨_, hu, fun _ _ => rfl⟩, ?_, ?_, ?_⟩
  · intro a b w
    obtain ⟨a1, a2, a3⟩ := a
    obtain ⟨b1, b2, b3⟩ := b
    unfold Op.equal Op.maxDepth
    rw [k3, k3, show (10000 : Nat) = 9999 + 1 from rfl, run_equalIn_array _ 9999 _ _ hu hi1, show List.range 3 = [0, 1, 2] from rfl, cellsInt]
    simp only [Op.eqItems, Sem.run_bind]
    rw [part_int _ _ (.int .i64 a1) rfl, Result.andThen_ok, part_int _ _ (.int .i64 b1) rfl, Result.andThen_ok, show (9999 : Nat) = 9998 + 1 from rfl, eq_int, Result.andThen_ok]
    by_cases h1 : a1 = b1
    · simp only [h1, BEq.rfl, Bool.not_true, Bool.false_eq_true, if_false, Sem.run_bind]
      rw [part_int _ _ (.int .i64 a2) rfl, Result.andThen_ok, part_int _ _ (.int .i64 b2) rfl, Result.andThen_ok, eq_int, Result.andThen_ok]
      by_cases h2 : a2 = b2
      · simp only [h2, BEq.rfl, Bool.not_true, Bool.false_eq_true, if_false, Sem.run_bind]
        rw [part_int _ _ (.int .i64 a3) rfl, Result.andThen_ok, part_int _ _ (.int .i64 b3) rfl, Result.andThen_ok, eq_int, Result.andThen_ok]
        by_cases h3 : a3 = b3
        · simp [h3]
        · simp [h3]
      · simp [h2]
    · simp [h1]
  · intro e a w
    obtain ⟨a1, a2, a3⟩ := a
    rw [k3, show (10000 : Nat) = 9999 + 1 from rfl]
    unfold Instr.checkKey
    simp only [Sem.run_bind, run_underlying hu, Result.andThen_ok]
    simp only [Std.Legacy.Range.forIn_eq_forIn_range', Std.Legacy.Range.size, Nat.sub_zero, Nat.add_one_sub_one, Nat.div_one]
    rw [show List.range' 0 3 = [0, 1, 2] from rfl]
    simp only [List.forIn_cons, List.forIn_nil, Sem.run_bind, size_int, Result.andThen_ok]
    rw [part_int _ _ (.int .i64 a1) rfl, Result.andThen_ok, show (9999 : Nat) = 9998 + 1 from rfl, check_int]
    simp only [Result.andThen_ok, Sem.run_pure, Sem.run_bind, size_int]
    rw [part_int _ _ (.int .i64 a2) rfl, Result.andThen_ok, check_int]
    simp only [Result.andThen_ok, Sem.run_pure, Sem.run_bind, size_int]
    rw [part_int _ _ (.int .i64 a3) rfl, Result.andThen_ok, check_int]
    simp only [Result.andThen_ok, Sem.run_pure]
  · intro a
    simp [Instr.sameBits, k3]
/-! The same as rules of the walk. -/
abbrev K3 := Int × Int × Int
def key3? : Value → Option K3
  | .agg ⟨[.int .i64 a, .int .i64 b, .int .i64 c]⟩ => some (a, b, c)
  | _ => none
theorem key3?_k3 (k : K3) : key3? (k3 k) = some k := rfl
theorem key3?_eq {v : Value} {k : K3} (h : key3? v = some k) : v = k3 k := by
  unfold key3? at h
  split at h
  · cases h; rfl
  · cases h
def int? : Value → Option Int
  | .int .i64 a => some a
  | _ => none
theorem int?_eq {v : Value} {k : Int} (h : int? v = some k) : v = .int .i64 k := by
  unfold int? at h
  split at h
  · cases h; rfl
  · cases h
def ent3 (e : MapEntry) : Option (K3 × Int) := match key3? e.key, int? e.val with | some k, some v => some (k, v) | _, _ => none
def dec3 : List MapEntry → Option (List (K3 × Int))
  | [] => some []
  | e :: es => match ent3 e, dec3 es with | some x, some l => some (x :: l) | _, _ => none
theorem dec3_is : ∀ {es : List MapEntry} {l : List (K3 × Int)}, dec3 es = some l → es.map (fun e => (e.key, e.val)) = entOf k3 l
  | [], l, h => by cases h; rfl
  | e :: es, l, h => by
    unfold dec3 at h
    split at h
    · rename_i x l' h1 h2
      cases h
      unfold ent3 at h1
      split at h1
      · rename_i k v hk hv
        cases h1
        have := dec3_is h2
        simp [entOf, key3?_eq hk, int?_eq hv, this] at *
      · cases h1
    · cases h
/-- The entries as they stand, made one behind the other. -/
def ent (x : (K3 × Int) × Nat) : MapEntry := { key := k3 x.1.1, val := .int .i64 x.1.2, born := x.2 }
def mapEs (l : List (K3 × Int)) : Array MapEntry := (l.zipIdx.map ent).toArray
theorem dec3_from : ∀ (l : List (K3 × Int)) (i : Nat), dec3 ((l.zipIdx i).map ent) = some l
  | [], _ => rfl
  | x :: l, i => by
    simp only [List.zipIdx_cons, List.map_cons, dec3, dec3_from l (i + 1)]
    rfl
theorem dec3_mapEs (l : List (K3 × Int)) : dec3 (mapEs l).toList = some l := dec3_from l 0
theorem mapEs_push (l : List (K3 × Int)) (k : K3) (v : Int) : (mapEs l).push { key := k3 k, val := .int .i64 v, born := l.length } = mapEs (l ++ [(k, v)]) := by
  simp [mapEs, List.zipIdx_append, ent]
def valAt (k : K3) (l : List (K3 × Int)) : Int := match findAt k l with | some x => x.2 | none => 0
def lookOr (x i : Value) (W : World) (e : Result Next) : Result Next :=
  match x with
  | .map (some g) =>
    match W.blk g, key3? i with
    | some (.map es _), some k =>
      match dec3 es.toList with
      | some l => .ok (.value (.tuple #[.int .i64 (valAt k l), .bool (findAt k l).isSome])) W
      | none => e
    | _, _ => e
  | _ => e
theorem zero_int (w : World) : (zeroValue 3).run Tryz.prog w = .ok (.int .i64 0) w := by
  have h : (Tryz.prog.info? 3).map (·.zero) = some (some (.int .i64 0)) := by kernel_rfl
  obtain ⟨i, h1, h2⟩ := infoInt
  simp only [h1, Option.map_some, Option.some.injEq] at h
  simp [zeroValue, typeInfo, h1, h]
theorem exec_lookup3 (ρ : Operand → Value) (dst : Option Tmp) (x i : Operand) (t : TypeId) (p : String) (af : Array Edge) (g : Option (Nat × Bool)) (W : World) :
    (execOp ρ ⟨dst, .lookup 115 x i true, t, p, af, g⟩).run Tryz.prog W = lookOr (ρ x) (ρ i) W (exec0 Tryz.prog ρ ⟨dst, .lookup 115 x i true, t, p, af, g⟩ W) := by
  unfold exec0
  generalize hE : (execOp ρ ⟨dst, .lookup 115 x i true, t, p, af, g⟩).run Tryz.prog W = e
  unfold lookOr
  split
  · rename_i gg hx
    split
    · rename_i es cl k hb hk
      split
      · rename_i l hl
        have hm : MapIs W gg k3 l := ⟨es, cl, hb, dec3_is hl⟩
        have := run_lookup_k key3 Tryz.underlying115 zero_int hm k true
        rw [← hE]
        simp only [execOp, hx, key3?_eq hk, Sem.run_bind, this, Result.andThen_ok, if_true]
        unfold valAt
        cases findAt k l <;> rfl
      · rfl
    · rfl
  · rfl
def _root_.Go.World.setObj (w : World) (g : Nat) (o : Obj) : World := { w with heap := w.heap.setIfInBounds g o }
def upOr (m k v : Value) (W : World) (e : Result Next) : Result Next :=
  match m with
  | .map (some g) =>
    match W.blk g, key3? k, int? v with
    | some (.map es cl), some kk, some vv =>
      match dec3 es.toList with
      | some l => if (findAt kk l).isNone then .ok .skip (W.setObj g (.map (es.push { key := k3 kk, val := .int .i64 vv, born := cl }) (cl + 1))) else e
      | none => e
    | _, _, _ => e
  | _ => e
theorem exec_mapUpdate3 (ρ : Operand → Value) (dst : Option Tmp) (m k v : Operand) (t : TypeId) (p : String) (af : Array Edge) (g : Option (Nat × Bool)) (W : World) :
    (execOp ρ ⟨dst, .mapUpdate 115 m k v, t, p, af, g⟩).run Tryz.prog W = upOr (ρ m) (ρ k) (ρ v) W (exec0 Tryz.prog ρ ⟨dst, .mapUpdate 115 m k v, t, p, af, g⟩ W) := by
  unfold exec0
  generalize hE : (execOp ρ ⟨dst, .mapUpdate 115 m k v, t, p, af, g⟩).run Tryz.prog W = e
  unfold upOr
  split
  · rename_i gg hx
    split
    · rename_i es cl kk vv hb hk hv
      split
      · rename_i l hl
        split
        · rename_i hn
          have hf := run_findKey_k key3 kk W es.toList l (dec3_is hl)
          have hn' : findAt kk l = none := by simpa using hn
          rw [hn'] at hf
          rw [← hE]
          simp only [execOp, hx, key3?_eq hk, int?_eq hv, Instr.mapUpdate, Sem.run_bind, run_underlying Tryz.underlying115, Result.andThen_ok, MapKept.run_getObj_map hb, key3.check, hf, Option.map_none]
          rw [MapKept.run_setObj_map _ hb]
          rfl
        · rfl
      · rfl
    · rfl
  · rfl
theorem blk_setObj {w : World} {g : Nat} {o o' : Obj} (h : w.blk g = some o') : (w.setObj g o).blk g = some o := by
  have hlt := (Array.getElem?_eq_some_iff.1 h).1
  simp [World.blk, World.setObj, hlt]
theorem heap_setObj (w : World) (g k : Nat) (o : Obj) (h : k ≠ g) : (w.setObj g o).heap[k]? = w.heap[k]? := by
  simp [World.setObj, Ne.symm h]
theorem size_setObj (w : World) (g : Nat) (o : Obj) : (w.setObj g o).heap.size = w.heap.size := by simp [World.setObj]
theorem lookOr_k (g : Nat) (k : K3) (W : World) (e : Result Next) (l : List (K3 × Int)) (cl : Nat) (h : W.blk g = some (.map (mapEs l) cl)) :
    lookOr (.map (some g)) (k3 k) W e = .ok (.value (.tuple #[.int .i64 (valAt k l), .bool (findAt k l).isSome])) W := by
  simp only [lookOr, h, key3?_k3, dec3_mapEs]
theorem upOr_k (g : Nat) (k : K3) (v : Int) (W : World) (e : Result Next) (l : List (K3 × Int)) (h : W.blk g = some (.map (mapEs l) l.length)) (hn : (findAt k l).isNone = true) :
    upOr (.map (some g)) (k3 k) (.int .i64 v) W e = .ok .skip (W.setObj g (.map (mapEs (l ++ [(k, v)])) (l.length + 1))) := by
  simp only [upOr, h, key3?_k3, int?, dec3_mapEs, hn, if_true, mapEs_push]
attribute [go_sem ↓] exec_lookup3 exec_mapUpdate3
attribute [go_sem] lookOr upOr key3?_k3 dec3_mapEs int? mapEs_push
end Go.Proofs.YtpfnmnpdaacjmaaGreatDoor
