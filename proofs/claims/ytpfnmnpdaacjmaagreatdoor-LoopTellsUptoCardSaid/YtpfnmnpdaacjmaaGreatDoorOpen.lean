/-
  A turn that came in, opened: the slice of decisions as it lies, their lists as they read. What the bound on the bulk gives. (The block 'open_slice_fields' is the guide's, extra-structs.md 1; the lemmas on bulk are those of how-to-prove-an-upto-statement.)
-/
import Derived.Test.YtpfnmnpdaacjmaaGreatDoorRows
import Derived.Test.YtpfnmnpdaacjmaaGreatDoorTells
import Derived.Deep.Slices
import Derived.Deep.Fields
import Derived.ChangeSame
import Derived.ChangeSlices
import Derived.Lib.SmallJoins
namespace Go.Proofs.YtpfnmnpdaacjmaaGreatDoor
open Go.ChangeShapes Go.WideShapes Go.Deep Go.RowKit
section
variable {H : Type} {enc : TypeId × Value → H} {P : Program} {w : World} {base : Nat} {spare : Nat → Bool} {held : Bool}
theorem open_slice_fields {t e : TypeId} {fs : Array Field} {fuel : Nat} {cs : List Value} {x : DataW H × List MemPlace} (ht : P.underlying t = some (.slice e)) (he : P.underlying e = some (.struct fs))
    (hone : oneCellFields P fs = true) (hC : P.cellsOf e = fs.size) (h : DataW.trod enc P w base spare held fuel t cs = some x) :
    (cs = [.slice none 0 0] ∧ x = (.nil, [])) ∨
    ∃ (a : Addr) (len cap m : Nat) (D : Nat → DataW H) (Pl : Nat → List MemPlace), cs = [.slice (some a) len cap] ∧ base ≤ a.block ∧ len ≤ cap ∧ cap ≤ maxLen ∧ m = (if spare a.block then cap else len) ∧
      x = (.slice ((List.range len).map D) ((List.range (m - len)).map fun j => D (len + j)), MemPlace.row a (m * fs.size) ++ (List.range m).flatMap Pl) ∧
      ∀ i, i < m → ∃ (ys : List (DataW H × List MemPlace)) (n : Nat), D i = .agg (ys.map (·.1)) ∧ Pl i = ys.flatMap (·.2) ∧ ys.length = fs.size ∧
        ∀ (j : Nat) (f : Field), fs[j]? = some f → ∃ (v : Value) (y : DataW H × List MemPlace), w.cell? (a.add (i * fs.size + j)) = some v ∧ ys[j]? = some y ∧ DataW.trod enc P w base spare held n f.type [v] = some y := by
  rcases open_slice ht h with h0 | ⟨a, len, cap, m, n, D, Pl, hcs, hb, hl, hm, hmm, hx, hi⟩
  · exact .inl h0
  · refine .inr ⟨a, len, cap, m, D, Pl, hcs, hb, hl, hm, hmm, by rw [hC] at hx; exact hx, fun i him => ?_⟩
    obtain ⟨cs', hc, ht'⟩ := hi i him
    rw [hC] at hc
    obtain ⟨ys, n', hn', hy, hlen, hyl, hf⟩ := DataW.trod_struct he ht'
    obtain ⟨_, hcl, hat⟩ := World.cells?_some hc
    simp only [Prod.mk.injEq] at hy
    refine ⟨ys, n', hy.1, hy.2, hyl, fun j f hj => ?_⟩
    obtain ⟨ho, hk⟩ := hone_of hone j f hj
    have hjl : j < fs.size := (Array.getElem?_eq_some_iff.1 hj).1
    have hcell := hat j hjl
    have hv : cs'[j]? = some (cs'[j]'(by omega)) := List.getElem?_eq_getElem (by omega)
    have h1 := hf j f hj
    rw [ho, hk] at h1
    have hone' : (cs'.drop j).take 1 = [cs'[j]'(by omega)] := by
      rw [List.drop_eq_getElem_cons (by omega)]
      rfl
    rw [hone'] at h1
    have hys : ys[j]? = some (ys[j]'(by omega)) := List.getElem?_eq_getElem (by omega)
    refine ⟨_, _, ?_, hys, h1.trans hys⟩
    rw [← Go.Deep.add_add, hcell, hv]
end
theorem cell_lt {w : World} {a : Addr} {v : Value} (h : w.cell? a = some v) : a.block < w.heap.size := by
  unfold World.cell? at h
  split at h
  · rename_i hb; exact lt_of_blk hb
  · cases h
/-! Bulk. -/
theorem bulk_one {H : Type} (d : DataW H) : 1 ≤ Rows.uptoBulk d := by
  cases d with
  | lit l => cases l <;> simp [Rows.uptoBulk]
  | nil => simp [Rows.uptoBulk]
  | ptr d => simp [Rows.uptoBulk]
  | slice elems spare => simp [Rows.uptoBulk]
  | agg parts => simp [Rows.uptoBulk]
  | iface t d => simp [Rows.uptoBulk]
  | map entries => simp [Rows.uptoBulk]
  | held h => simp [Rows.uptoBulk]
theorem bulk_part {H : Type} {d : DataW H} {l : List (DataW H)} (h : d ∈ l) : Rows.uptoBulk d ≤ Rows.uptoBulkAll l := by
  induction l with
  | nil => cases h
  | cons x r ih =>
    simp only [Rows.uptoBulkAll]
    cases List.mem_cons.1 h with
    | inl e => subst e; omega
    | inr e => have := ih e; omega
theorem bulk_length {H : Type} (l : List (DataW H)) : l.length ≤ Rows.uptoBulkAll l := by
  induction l with
  | nil => simp [Rows.uptoBulkAll]
  | cons x r ih => have := bulk_one x; simp only [Rows.uptoBulkAll, List.length_cons]; omega
section
variable {H : Type} {enc : TypeId × Value → H} {W : World}
theorem open_list {n : Nat} {v : Value} {y : DataW H × List MemPlace} (h : DataW.trod enc Tryz.prog W 0 (fun _ => true) true n 34 [v] = some y) :
    ∃ (l : Sl) (L : List Int), v = l.v ∧ RdI W.heap.size W l L ∧ L.length ≤ Rows.uptoBulk y.1 := by
  rcases open_ints Tryz.underlying34 Tryz.underlying3 (by kernel_rfl) h with ⟨hcs, rfl⟩ | ⟨a, len, cap, zs, hcs, _, hl, _, hz, rfl, hc, _⟩
  · refine ⟨⟨none, 0, 0⟩, [], ?_, Rd.nil _ _ _, Nat.zero_le _⟩
    simpa using hcs
  · simp only [if_true] at hz
    refine ⟨⟨some a, len, cap⟩, zs.take len, by simpa using hcs, ⟨by simp; omega, hl, fun h0 => ?_⟩, ?_⟩
    · have h0' : 0 < len := h0
      have hsp := World.cell?_spot (hc 0 (by omega))
      have hlt := cell_lt (hc 0 (by omega))
      obtain ⟨b, off, spot⟩ := a
      have hs : spot = none := by simpa [Addr.add] using hsp
      subst hs
      have hlt' : b < W.heap.size := by simpa [Addr.add] using hlt
      refine ⟨b, off, rfl, hlt', .inl hlt', fun j u hu => ?_⟩
      simp only [List.getElem?_map, Option.map_eq_some_iff, List.getElem?_take] at hu
      obtain ⟨z, hz', rfl⟩ := hu
      split at hz'
      · rename_i hj
        have h1 := hc j (by omega)
        rw [add_plain] at h1
        rw [h1]
        simp [List.getD, hz']
      · cases hz'
    · have := bulk_length (H := H) (lits .i64 (zs.take len))
      simp only [Rows.uptoBulk]
      simp [lits] at this ⊢
      omega
theorem open_turn {n : Nat} {v : Value} {y : DataW H × List MemPlace} (h : DataW.trod enc Tryz.prog W 0 (fun _ => true) true n 22 [v] = some y) :
    ∃ (sl : Sl) (ts : List De) (cs : Nat → List Int), v = sl.v ∧ RdD W sl ts ∧ ∀ i, (hi : i < ts.length) → RdI W.heap.size W ts[i].l (cs i) ∧ (cs i).length ≤ Rows.uptoBulk y.1 := by
  rcases open_slice_fields Tryz.underlying22 Tryz.underlying36 (by kernel_rfl) (by kernel_rfl) h with ⟨hcs, rfl⟩ | ⟨a, len, cap, m, D, Pl, hcs, _, hl, _, hm, rfl, hi⟩
  · refine ⟨⟨none, 0, 0⟩, [], fun _ => [], by simpa using hcs, Rd.nil _ _ _, fun i hi => absurd hi (by simp)⟩
  · simp only [if_true] at hm
    have hel : ∀ i, ∃ (d : De) (L : List Int), i < len → (∀ j, j < 5 → W.cell? (a.add (i * 5 + j)) = (deA d)[j]?) ∧ RdI W.heap.size W d.l L ∧ L.length ≤ Rows.uptoBulk (D i) := by
      intro i
      by_cases him : i < len
      · obtain ⟨ys, n', hD, _, hyl, hf⟩ := hi i (by omega)
        obtain ⟨v0, y0, hc0, _, ht0⟩ := hf 0 _ rfl
        obtain ⟨v1, y1, hc1, _, ht1⟩ := hf 1 _ rfl
        obtain ⟨v2, y2, hc2, _, ht2⟩ := hf 2 _ rfl
        obtain ⟨v3, y3, hc3, _, ht3⟩ := hf 3 _ rfl
        obtain ⟨v4, y4, hc4, hy4, ht4⟩ := hf 4 _ rfl
        obtain ⟨z0, e0, _⟩ := DataW.trod_int Tryz.underlying3 ht0
        obtain ⟨z1, e1, _⟩ := DataW.trod_int Tryz.underlying3 ht1
        obtain ⟨z2, e2, _⟩ := DataW.trod_int Tryz.underlying3 ht2
        obtain ⟨z3, e3, _⟩ := DataW.trod_int Tryz.underlying3 ht3
        obtain ⟨l, L, e4, hL, hLn⟩ := open_list ht4
        simp only [List.cons.injEq, and_true] at e0 e1 e2 e3
        subst e0 e1 e2 e3 e4
        refine ⟨⟨z0, z1, z2, z3, l⟩, L, fun _ => ⟨fun j hj => ?_, hL, ?_⟩⟩
        · rcases (by omega : j = 0 ∨ j = 1 ∨ j = 2 ∨ j = 3 ∨ j = 4) with rfl | rfl | rfl | rfl | rfl
          · exact hc0
          · exact hc1
          · exact hc2
          · exact hc3
          · exact hc4
        · rw [hD]
          have hmem : y4.1 ∈ ys.map (·.1) := List.mem_map.2 ⟨y4, List.mem_of_getElem? hy4, rfl⟩
          have := bulk_part hmem
          simp only [Rows.uptoBulk]
          omega
      · exact ⟨⟨0, 0, 0, 0, ⟨none, 0, 0⟩⟩, [], fun h => absurd h him⟩
    have hf1 : ∀ i, ∃ (L : List Int), i < len → (∀ j, j < 5 → W.cell? (a.add (i * 5 + j)) = (deA (Classical.choose (hel i)))[j]?) ∧ RdI W.heap.size W (Classical.choose (hel i)).l L ∧ L.length ≤ Rows.uptoBulk (D i) := fun i => Classical.choose_spec (hel i)
    refine ⟨⟨some a, len, cap⟩, (List.range len).map fun i => Classical.choose (hel i), fun i => Classical.choose (hf1 i), by simpa using hcs, ⟨?_, hl, fun h0 => ?_⟩, fun i hi' => ?_⟩
    · rw [desV_len]; simp
    · have h0' : 0 < len := h0
      have hc0 := (Classical.choose_spec (hf1 0) h0').1 0 (by omega)
      have hv0 : W.cell? (a.add (0 * 5 + 0)) = some (.int .i64 (Classical.choose (hel 0)).k) := hc0
      have hsp := World.cell?_spot hv0
      have hlt := cell_lt hv0
      obtain ⟨b, off, spot⟩ := a
      have hs : spot = none := by simpa [Addr.add] using hsp
      subst hs
      have hlt' : b < W.heap.size := by simpa [Addr.add] using hlt
      refine ⟨b, off, rfl, hlt', .inl hlt', fun j u hu => ?_⟩
      have hj : j < len * 5 := by
        have h2 := (List.getElem?_eq_some_iff.1 hu).1
        rw [desV_len] at h2
        simpa using h2
      have hj5 : j / 5 * 5 + j % 5 = j := by omega
      have hjl : j / 5 < len := by omega
      have hr := rows_at deA 5 (fun _ => rfl) ((List.range len).map fun i => Classical.choose (hel i)) (j / 5) (j % 5) (by simpa using hjl) (by omega)
      rw [hj5] at hr
      have hu' : ((List.range len).map fun i => Classical.choose (hel i)).flatMap (fun x => (deA x).toList) = desV ((List.range len).map fun i => Classical.choose (hel i)) := rfl
      rw [hu', hu] at hr
      have hcj := (Classical.choose_spec (hf1 (j / 5)) hjl).1 (j % 5) (by omega)
      rw [hj5, add_plain] at hcj
      rw [hcj, hr]
      simp
    · have hi2 : i < len := by simpa using hi'
      obtain ⟨_, h2, h3⟩ := Classical.choose_spec (hf1 i) hi2
      have hmem : D i ∈ (List.range len).map D := List.mem_map.2 ⟨i, List.mem_range.2 hi2, rfl⟩
      have h4 := bulk_part hmem
      refine ⟨by simpa using h2, ?_⟩
      simp only [Rows.uptoBulk]
      omega
end
end Go.Proofs.YtpfnmnpdaacjmaaGreatDoor
