/-
  Struct literals whose parts are rows that have names.
-/
import Derived.Test.YtpfnmnpdaacjmaaGreatDoorEmit4
import Derived.Laws.Tables
namespace Go.Proofs.YtpfnmnpdaacjmaaGreatDoor
open Go.RowKit

theorem splA_size (cs vs : Array Value) (o : Nat) (h : o + vs.size ≤ cs.size) : (splA cs o vs).size = cs.size := by
  simp [splA]; omega
theorem foldl_set (vs : List Value) : ∀ (off j : Nat) (cs : Array Value), off + j + vs.length ≤ cs.size →
    (vs.zipIdx j).foldl (fun (cs : Array Value) (x : Value × Nat) => cs.setIfInBounds (off + x.2) x.1) cs = splA cs (off + j) vs.toArray := by
  induction vs with
  | nil => intro off j cs h; simp [splA]
  | cons v vs ih =>
    intro off j cs h
    simp only [List.length_cons] at h
    simp only [List.zipIdx_cons, List.foldl_cons]
    rw [ih off (j + 1) _ (by simp; omega)]
    apply Array.ext'
    simp only [splA, Array.toList_setIfInBounds, List.size_toArray, List.length_cons]
    rw [List.take_set, List.drop_set, if_pos (by omega)]
    have hl : off + j < cs.toList.length := by rw [Array.length_toList]; omega
    rw [show off + (j + 1) = (off + j) + 1 by omega, List.take_succ_eq_append_getElem hl]
    rw [List.set_append]
    have hz : (List.take (off + j) cs.toList).length = off + j := by rw [List.length_take]; omega
    rw [if_neg (by omega), hz, Nat.sub_self]
    simp [show off + j + 1 + vs.length = off + j + (vs.length + 1) by omega]
def fillS (places : List (Nat × Nat)) (cs : Array Value) : List (Nat × Value) → Option (Array Value)
  | [] => some cs
  | (i, v) :: rest =>
    match places[i]? with
    | none => none
    | some (off, size) => if v.cells.size = size ∧ off + size ≤ cs.size then fillS places (splA cs off v.cells) rest else none
theorem fillS_eq (places : List (Nat × Nat)) (parts : List (Nat × Value)) : ∀ cs r, fillS places cs parts = some r → Instr.fill (places.toArray[·]?) cs parts = some r := by
  induction parts with
  | nil => intro cs r h; simpa [fillS, Instr.fill] using h
  | cons x rest ih =>
    obtain ⟨i, v⟩ := x
    intro cs r h
    unfold fillS at h
    unfold Instr.fill
    simp only [List.getElem?_toArray]
    split at h
    · cases h
    · rename_i off size hp
      split at h
      · rename_i hc
        rw [hp]
        have := foldl_set v.cells.toList off 0 cs (by simp; omega)
        have hz : (decide (v.cells.size ≠ size) || decide (off + v.cells.size > cs.size)) = false := by rw [hc.1]; simp; omega
        dsimp only
        rw [if_neg (by rw [hz]; simp)]
        have hq : v.cells.zipIdx.foldl (fun (cs : Array Value) (x : Value × Nat) => cs.setIfInBounds (off + x.2) x.1) cs = splA cs off v.cells := by
          rw [← Array.foldl_toList, Array.toList_zipIdx]
          simpa using this
        exact (congrArg (fun z => Instr.fill (fun x => places[x]?) z rest) hq).trans (by simpa using ih _ _ h)
      · cases h
def bldOr (r : Option (Array Value)) (W : World) (e : Result Next) : Result Next :=
  match r with
  | some cs => .ok (.value (.agg cs)) W
  | none => e
theorem exec_build {P : Program} {T : TypeId} {fields : Array Field} {Z : Array Value} {places : List (Nat × Nat)} (hz : (P.info? T).map (·.zero) = some (some (.agg Z))) (hu : P.underlying T = some (.struct fields))
    (hp : fields.toList.mapM (fun f => (P.info? f.type).map fun i => (f.offset, i.size)) = some places)
    (ρ : Operand → Value) (dst : Option Tmp) (parts : Array (Nat × Operand)) (t : TypeId) (p : String) (af : Array Edge) (g : Option (Nat × Bool)) (W : World) :
    (execOp ρ ⟨dst, .build T parts, t, p, af, g⟩).run P W = bldOr (fillS places Z (parts.toList.map fun (i, x) => (i, ρ x))) W (exec0 P ρ ⟨dst, .build T parts, t, p, af, g⟩ W) := by
  unfold bldOr exec0
  split
  · rename_i cs h
    have hb : P.built T (parts.toList.map fun (i, x) => (i, ρ x)) = some cs := by
      unfold Program.built
      cases hq : P.info? T with
      | none => simp [hq] at hz
      | some it =>
        simp only [hq, Option.map_some, Option.some.injEq] at hz
        simp only [hu, hz, hp]
        exact fillS_eq _ _ _ _ h
    have := run_build W T (parts.map fun (i, x) => (i, ρ x)) cs (by simpa using hb)
    simp [execOp, this]
  · rfl
attribute [go_sem] fillS bldOr List.getElem?_cons_zero List.getElem?_cons_succ
theorem cells_agg (cs : Array Value) : Value.cells (.agg cs) = cs := rfl
theorem cells_slice (a : Option Addr) (n c : Nat) : Value.cells (.slice a n c) = #[.slice a n c] := rfl
theorem cells_ptr (a : Option Addr) : Value.cells (.pointer a) = #[.pointer a] := rfl
theorem cells_nilIface : Value.cells .nilIface = #[.nilIface] := rfl
theorem cells_iface (T : TypeId) (v : Value) : Value.cells (.iface T v) = #[.iface T v] := rfl
theorem cells_int (k : IntKind) (n : Int) : Value.cells (.int k n) = #[.int k n] := rfl
theorem cells_map (m : Option Nat) : Value.cells (.map m) = #[.map m] := rfl
attribute [go_sem] cells_agg cells_slice cells_ptr cells_nilIface cells_iface cells_int cells_map
def zEM : EM := ⟨zSV, ⟨none, 0, 0⟩, ⟨none, 0, 0⟩, ⟨none, 0, 0⟩, .nilIface⟩
theorem exec_build_em (ρ : Operand → Value) (dst : Option Tmp) (parts : Array (Nat × Operand)) (t : TypeId) (p : String) (af : Array Edge) (g : Option (Nat × Bool)) (W : World) :
    (execOp ρ ⟨dst, .build 126 parts, t, p, af, g⟩).run Tryz.prog W = bldOr (fillS [(0, 37), (37, 1), (38, 1), (39, 1), (40, 1)] (emA zEM) (parts.toList.map fun (i, x) => (i, ρ x))) W (exec0 Tryz.prog ρ ⟨dst, .build 126 parts, t, p, af, g⟩ W) :=
  exec_build (by kernel_rfl) Tryz.underlying126 (by kernel_rfl) ρ dst parts t p af g W
theorem splA_emS (M : EM) (S : SV) : splA (emA M) 0 (stA S) = emA { M with S := S } := rfl
theorem splA_emD (M : EM) (a : Option Addr) (n c : Nat) : splA (emA M) 37 #[.slice a n c] = emA { M with dr := ⟨a, n, c⟩ } := rfl
theorem splA_emR (M : EM) (v : Value) : splA (emA M) 40 #[v] = emA { M with er := v } := rfl
attribute [go_sem ↓] exec_build_em
attribute [go_sem] splA_emS splA_emD splA_emR
end Go.Proofs.YtpfnmnpdaacjmaaGreatDoor
