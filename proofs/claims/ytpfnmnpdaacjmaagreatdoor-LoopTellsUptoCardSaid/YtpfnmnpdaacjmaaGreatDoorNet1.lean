/-
  net: the key of an event, what cuts, a new span.
-/
import Derived.Test.YtpfnmnpdaacjmaaGreatDoorDec7
import Derived.Test.YtpfnmnpdaacjmaaGreatDoorMaps
namespace Go.Proofs.YtpfnmnpdaacjmaaGreatDoor
open Go.RowKit

theorem mk_map {P : Program} (t : TypeId) (w : World) : (Instr.makeMap t none).run P w = .ok (.map (some w.heap.size)) (w.alloc (.map #[] 0)) := rfl
attribute [go_sem] mk_map
def keyOf (x : Ev) : K3 := (x.k, x.a, x.b)
set_option maxRecDepth 20000 in
set_option maxHeartbeats 400000 in
theorem net_key (x : Ev) (w : World) : Calls Tryz.prog 57 #[.agg (evA x)] w fun r w' => r = .returned (k3 (keyOf x)) ∧ Below w.heap.size w w' := by
  go_enter Tryz.func57, Tryz.ntmps57
  go_wp2_with fail
  refine ret_cell (g := w.heap.size + 1) (t := 119) (fr := (0, 0)) (cs := #[.int .i64 x.k, .int .i64 x.a, .int .i64 x.b]) rfl rfl ?_ Tryz.underlying119 rfl (by kernel_rfl) rfl ⟨rfl, ?_⟩
  · have := heap_alloc_new (w.alloc (.cells (evA x) 89)) (.cells #[.int .i64 x.k, .int .i64 x.a, .int .i64 x.b] 119)
    simpa using this
  · exact below2 _ _ _
def cutsB (x : Ev) : Bool := x.k == 0 || x.k == 5
set_option maxHeartbeats 400000 in
theorem net_cuts (x : Ev) (w : World) : Calls Tryz.prog 37 #[.agg (evA x)] w fun r w' => r = .returned (.bool (cutsB x)) ∧ Below w.heap.size w w' := by
  go_enter Tryz.func37, Tryz.ntmps37
  go_wp2
  all_goals
    go_ret
    refine ⟨?_, below1 _ _⟩
    simp [cutsB, *]
/-! A span. -/
structure Sp where
  mv : List Ev
  st : List Ev
def mapOf (l : List Ev) : List (K3 × Int) := l.zipIdx.map fun x => (keyOf x.1, (x.2 : Int))
def Sp.add (p : Sp) (x : Ev) : Sp :=
  if evSets x then
    match findAt (keyOf x) (mapOf p.st) with
    | none => { p with st := p.st ++ [x] }
    | some y => { p with st := p.st.modify y.2.toNat fun z => { z with d := x.d } }
  else { p with mv := p.mv ++ [x] }
def Sp.end_ (p : Sp) : List Ev := p.mv ++ p.st.filter fun x => x.c != x.d
def netL : Sp → List Ev → List Ev → List Ev
  | p, out, [] => out ++ p.end_
  | p, out, x :: l => if cutsB x then netL ⟨[], []⟩ (out ++ p.end_ ++ [x]) l else netL (p.add x) out l
def netOf (l : List Ev) : List Ev := netL ⟨[], []⟩ [] l
structure SpM where
  mv : Sl
  st : Sl
  g : Nat
def spA (M : SpM) : Array Value := #[M.mv.v, M.st.v, .map (some M.g)]
theorem spA_0 (M : SpM) : (spA M)[0]? = some M.mv.v := rfl
theorem spA_1 (M : SpM) : (spA M)[1]? = some M.st.v := rfl
theorem spA_2 (M : SpM) : (spA M)[2]? = some (.map (some M.g)) := rfl
theorem spA_size (M : SpM) : (spA M).size = 3 := rfl
theorem spA_set0 (M : SpM) (s : Sl) : (spA M).setIfInBounds 0 s.v = spA { M with mv := s } := rfl
theorem spA_set1 (M : SpM) (s : Sl) : (spA M).setIfInBounds 1 s.v = spA { M with st := s } := rfl
attribute [go_sem] spA_0 spA_1 spA_2 spA_size
structure SpIs (B : Nat) (w : World) (b : Nat) (M : SpM) (p : Sp) (mp : List (K3 × Int)) : Prop where
  blk : Blk w b 117 (spA M)
  hb : B ≤ b
  hg : B ≤ M.g
  mv : w.ownsRow B 89 6 M.mv.v p.mv.length (evsV p.mv)
  st : w.ownsRow B 89 6 M.st.v p.st.length (evsV p.st)
  map : w.blk M.g = some (.map (mapEs mp) mp.length)
  ne : ∀ k, M.mv.v.ownBlock = some k → M.st.v.ownBlock ≠ some k
  ln : p.mv.length ≤ 65536 ∧ p.st.length ≤ 65536
theorem mapOf_len (l : List Ev) : (mapOf l).length = l.length := by simp [mapOf]
theorem mapOf_snoc (l : List Ev) (x : Ev) : mapOf (l ++ [x]) = mapOf l ++ [(keyOf x, (l.length : Int))] := by simp [mapOf, List.zipIdx_append]
set_option maxRecDepth 20000 in
set_option maxHeartbeats 400000 in
theorem net_begin (B : Nat) (w : World) (hB : B ≤ w.heap.size) : Calls Tryz.prog 36 #[] w fun r w' => ∃ b M, r = .returned (.pointer (some ⟨b, 0, none⟩)) ∧ SpIs B w' b M ⟨[], []⟩ (mapOf []) ∧ Below w.heap.size w w' := by
  go_enter Tryz.func36, Tryz.ntmps36
  go_wp2_with fail
  go_ret
  refine ⟨w.heap.size + 1, ⟨⟨none, 0, 0⟩, ⟨none, 0, 0⟩, w.heap.size⟩, rfl, ⟨?_, by omega, hB, ⟨rfl, .inl ⟨rfl, rfl⟩⟩, ⟨rfl, .inl ⟨rfl, rfl⟩⟩, ?_, (fun k hk => nomatch hk), ⟨Nat.zero_le _, Nat.zero_le _⟩⟩, below2 _ _ _⟩
  · have := Blk.new (w.alloc (.map #[] 0)) 117 (spA ⟨⟨none, 0, 0⟩, ⟨none, 0, 0⟩, w.heap.size⟩)
    have h2 : (w.alloc (.map #[] 0)).heap.size = w.heap.size + 1 := by simp
    rw [h2] at this
    exact this
  · show ((w.alloc _).alloc _).heap[w.heap.size]? = _
    rw [Below.heap_alloc _ _ _ (by simp), heap_alloc_new]
    rfl
end Go.Proofs.YtpfnmnpdaacjmaaGreatDoor
