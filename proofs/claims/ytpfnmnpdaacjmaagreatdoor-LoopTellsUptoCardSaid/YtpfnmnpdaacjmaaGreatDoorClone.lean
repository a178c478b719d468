/-
  slices.Clone at the element types of this program: what is handed back reads as the list that came in, in new memory.
-/
import Derived.Test.YtpfnmnpdaacjmaaGreatDoorBase
namespace Go.Proofs.YtpfnmnpdaacjmaaGreatDoor
open Go.RowKit

/-- A new slice value: nil, or a row of the call's own. -/
theorem sl_of_own {w : World} {base : Nat} {e : TypeId} {size : Nat} {v : Value} {n : Nat} {xs : List Value} (h : w.ownsRow base e size v n xs) : ∃ s : Sl, v = s.v ∧ s.n = n := by
  rcases h.2 with ⟨rfl, rfl⟩ | ⟨g, cap, cur, rfl, _⟩
  · exact ⟨⟨none, 0, 0⟩, rfl, rfl⟩
  · exact ⟨⟨some ⟨g, 0, none⟩, n, cap⟩, rfl, rfl⟩
theorem own_new (w : World) (e : TypeId) (size : Nat) : (w.alloc (.cells #[] e)).ownsRow w.heap.size e size (.slice (some ⟨w.heap.size, 0, none⟩) 0 0) 0 [] :=
  ⟨by simp, .inr ⟨w.heap.size, 0, #[], rfl, Nat.le_refl _, heap_alloc_new w _, Nat.le_refl _, by simp [maxLen], by simp, by simp⟩⟩
theorem Reads.alloc0 {w : World} {size n : Nat} {A : Option Addr} {xs : List Value} (h : Reads w w.heap.size size A n xs) (o : Obj) : Reads (w.alloc o) w.heap.size size A n xs :=
  ⟨h.1, fun hn => by
    obtain ⟨ad, e, hb, hc⟩ := h.2 hn
    exact ⟨ad, e, hb, fun j u hu => (World.cell?_alloc_lt w o _ (by
      have : (ad.add j).block = ad.block := by unfold Addr.add; split <;> rfl
      omega)).trans (hc j u hu)⟩⟩

theorem infoI : (Tryz.prog.info? 3).map (fun i => (i.zero, i.size, i.bytes)) = some (some (.int .i64 0), 1, 8) := by kernel_rfl
set_option maxHeartbeats 400000 in
theorem cloneI {s : Sl} {xs : List Value} {w : World} (h : Reads w w.heap.size 1 s.a s.n xs) (h1 : ∀ u ∈ xs, u.oneCell' = true) (hn : s.n ≤ 17179869184) :
    Calls Tryz.prog 19 #[s.v] w fun e w' => ∃ s' : Sl, e = .returned s'.v ∧ w'.ownsRow w.heap.size 3 1 s'.v s.n xs ∧ s'.n = s.n ∧ Below w.heap.size w w' := by
  obtain ⟨i0, hi0, hz0, hz1, hz2⟩ := info_parts infoI
  have hlen := h.1
  obtain ⟨a, n, c⟩ := s
  simp only at h hn hlen
  rcases a with _ | ad
  · have hn0 : n = 0 := by
      rcases Nat.eq_zero_or_pos n with h0 | h0
      · exact h0
      · obtain ⟨ad, h, _⟩ := h.2 h0
        cases h
    subst hn0
    have hx : xs = [] := List.eq_nil_of_length_eq_zero (by simpa using hlen)
    subst hx
    clear h hlen h1
    have he := fun W : World => Lib.run_eql_slice_nil (P := Tryz.prog) W 34 3 none 0 c 0 0 Tryz.underlying34
    go_enter Tryz.func19, Tryz.ntmps19
    go_wp2
    go_ret
    exact ⟨⟨none, 0, 0⟩, rfl, World.ownsRow_nil _ _ _ _, rfl, Below.refl _ _⟩
  · have he := fun W : World => Lib.run_eql_slice_nil (P := Tryz.prog) W 34 3 (some ad) n c 0 0 Tryz.underlying34
    have Hr := hide h
    clear h hlen
    go_enter Tryz.func19, Tryz.ntmps19
    go_wp2_with (at_builtin
                 refine wpList_append_any _ rfl (.tmp 5) (.tmp 6) _ rfl w.heap.size 3 i0 _ 1 8 Tryz.underlying34 hi0 hz0 hz1 hz2 rfl (by omega) (.slice (some ⟨w.heap.size, 0, none⟩) 0 0) 0 [] rfl (own_new w _ _) w.heap.size (some ad) n c xs rfl ((unhide Hr).alloc0 _) h1 (by simp only [maxLen]; omega) (by omega) (by simp) ?_
                 intro v1 w1 hap)
    go_ret
    obtain ⟨s', rfl, hs⟩ := sl_of_own hap.1
    refine ⟨s', rfl, by simpa using hap.1, by simpa using hs, Fr.below (hap.fr ((Fr.refl _ _).alloc _) ?_)⟩
    intro k hk
    simp [Value.ownBlock] at hk
    omega

theorem infoO : (Tryz.prog.info? 74).map (fun i => (i.zero, i.size, i.bytes)) = some (some (.agg #[.int .i64 0, .int .i64 0, .int .i64 0, .int .i64 0, .int .i64 0, .int .i64 0, .int .i64 0, .int .i64 0, .int .i64 0, .int .i64 0, .int .i64 0, .int .i64 0, .int .i64 0, .int .i64 0, .int .i64 0, .int .i64 0, .int .i64 0, .int .i64 0]), 18, 144) := by kernel_rfl
set_option maxHeartbeats 400000 in
theorem cloneO {s : Sl} {xs : List Value} {w : World} (h : Reads w w.heap.size 18 s.a s.n xs) (h1 : ∀ u ∈ xs, u.oneCell' = true) (hn : s.n ≤ 17179869184) :
    Calls Tryz.prog 30 #[s.v] w fun e w' => ∃ s' : Sl, e = .returned s'.v ∧ w'.ownsRow w.heap.size 74 18 s'.v s.n xs ∧ s'.n = s.n ∧ Below w.heap.size w w' := by
  obtain ⟨i0, hi0, hz0, hz1, hz2⟩ := info_parts infoO
  have hlen := h.1
  obtain ⟨a, n, c⟩ := s
  simp only at h hn hlen
  rcases a with _ | ad
  · have hn0 : n = 0 := by
      rcases Nat.eq_zero_or_pos n with h0 | h0
      · exact h0
      · obtain ⟨ad, h, _⟩ := h.2 h0
        cases h
    subst hn0
    have hx : xs = [] := List.eq_nil_of_length_eq_zero (by simpa using hlen)
    subst hx
    clear h hlen h1
    have he := fun W : World => Lib.run_eql_slice_nil (P := Tryz.prog) W 38 74 none 0 c 0 0 Tryz.underlying38
    go_enter Tryz.func30, Tryz.ntmps30
    go_wp2
    go_ret
    exact ⟨⟨none, 0, 0⟩, rfl, World.ownsRow_nil _ _ _ _, rfl, Below.refl _ _⟩
  · have he := fun W : World => Lib.run_eql_slice_nil (P := Tryz.prog) W 38 74 (some ad) n c 0 0 Tryz.underlying38
    have Hr := hide h
    clear h hlen
    go_enter Tryz.func30, Tryz.ntmps30
    go_wp2_with (at_builtin
                 refine wpList_append_any _ rfl (.tmp 5) (.tmp 6) _ rfl w.heap.size 74 i0 _ 18 144 Tryz.underlying38 hi0 hz0 hz1 hz2 rfl (by omega) (.slice (some ⟨w.heap.size, 0, none⟩) 0 0) 0 [] rfl (own_new w _ _) w.heap.size (some ad) n c xs rfl ((unhide Hr).alloc0 _) h1 (by simp only [maxLen]; omega) (by omega) (by simp) ?_
                 intro v1 w1 hap)
    go_ret
    obtain ⟨s', rfl, hs⟩ := sl_of_own hap.1
    refine ⟨s', rfl, by simpa using hap.1, by simpa using hs, Fr.below (hap.fr ((Fr.refl _ _).alloc _) ?_)⟩
    intro k hk
    simp [Value.ownBlock] at hk
    omega

theorem infoE : (Tryz.prog.info? 89).map (fun i => (i.zero, i.size, i.bytes)) = some (some (.agg #[.int .i64 0, .int .i64 0, .int .i64 0, .int .i64 0, .int .i64 0, .int .i64 0]), 6, 48) := by kernel_rfl
set_option maxHeartbeats 400000 in
theorem cloneE {s : Sl} {xs : List Value} {w : World} (h : Reads w w.heap.size 6 s.a s.n xs) (h1 : ∀ u ∈ xs, u.oneCell' = true) (hn : s.n ≤ 17179869184) :
    Calls Tryz.prog 55 #[s.v] w fun e w' => ∃ s' : Sl, e = .returned s'.v ∧ w'.ownsRow w.heap.size 89 6 s'.v s.n xs ∧ s'.n = s.n ∧ Below w.heap.size w w' := by
  obtain ⟨i0, hi0, hz0, hz1, hz2⟩ := info_parts infoE
  have hlen := h.1
  obtain ⟨a, n, c⟩ := s
  simp only at h hn hlen
  rcases a with _ | ad
  · have hn0 : n = 0 := by
      rcases Nat.eq_zero_or_pos n with h0 | h0
      · exact h0
      · obtain ⟨ad, h, _⟩ := h.2 h0
        cases h
    subst hn0
    have hx : xs = [] := List.eq_nil_of_length_eq_zero (by simpa using hlen)
    subst hx
    clear h hlen h1
    have he := fun W : World => Lib.run_eql_slice_nil (P := Tryz.prog) W 64 89 none 0 c 0 0 Tryz.underlying64
    go_enter Tryz.func55, Tryz.ntmps55
    go_wp2
    go_ret
    exact ⟨⟨none, 0, 0⟩, rfl, World.ownsRow_nil _ _ _ _, rfl, Below.refl _ _⟩
  · have he := fun W : World => Lib.run_eql_slice_nil (P := Tryz.prog) W 64 89 (some ad) n c 0 0 Tryz.underlying64
    have Hr := hide h
    clear h hlen
    go_enter Tryz.func55, Tryz.ntmps55
    go_wp2_with (at_builtin
                 refine wpList_append_any _ rfl (.tmp 5) (.tmp 6) _ rfl w.heap.size 89 i0 _ 6 48 Tryz.underlying64 hi0 hz0 hz1 hz2 rfl (by omega) (.slice (some ⟨w.heap.size, 0, none⟩) 0 0) 0 [] rfl (own_new w _ _) w.heap.size (some ad) n c xs rfl ((unhide Hr).alloc0 _) h1 (by simp only [maxLen]; omega) (by omega) (by simp) ?_
                 intro v1 w1 hap)
    go_ret
    obtain ⟨s', rfl, hs⟩ := sl_of_own hap.1
    refine ⟨s', rfl, by simpa using hap.1, by simpa using hs, Fr.below (hap.fr ((Fr.refl _ _).alloc _) ?_)⟩
    intro k hk
    simp [Value.ownBlock] at hk
    omega

theorem infoM : (Tryz.prog.info? 113).map (fun i => (i.zero, i.size, i.bytes)) = some (some (.agg #[.int .i64 0, .int .i64 0]), 2, 16) := by kernel_rfl
theorem infoP : (Tryz.prog.info? 213).map (fun i => (i.zero, i.size, i.bytes)) = some (some (.agg #[.int .i64 0, .int .i64 0, .int .i64 0]), 3, 24) := by kernel_rfl
set_option maxHeartbeats 400000 in
theorem cloneP {s : Sl} {xs : List Value} {w : World} (h : Reads w w.heap.size 3 s.a s.n xs) (h1 : ∀ u ∈ xs, u.oneCell' = true) (hn : s.n ≤ 17179869184) :
    Calls Tryz.prog 200 #[s.v] w fun e w' => ∃ s' : Sl, e = .returned s'.v ∧ w'.ownsRow w.heap.size 213 3 s'.v s.n xs ∧ s'.n = s.n ∧ Below w.heap.size w w' := by
  obtain ⟨i0, hi0, hz0, hz1, hz2⟩ := info_parts infoP
  have hlen := h.1
  obtain ⟨a, n, c⟩ := s
  simp only at h hn hlen
  rcases a with _ | ad
  · have hn0 : n = 0 := by
      rcases Nat.eq_zero_or_pos n with h0 | h0
      · exact h0
      · obtain ⟨ad, h, _⟩ := h.2 h0
        cases h
    subst hn0
    have hx : xs = [] := List.eq_nil_of_length_eq_zero (by simpa using hlen)
    subst hx
    clear h hlen h1
    have he := fun W : World => Lib.run_eql_slice_nil (P := Tryz.prog) W 124 213 none 0 c 0 0 Tryz.underlying124
    go_enter Tryz.func200, Tryz.ntmps200
    go_wp2
    go_ret
    exact ⟨⟨none, 0, 0⟩, rfl, World.ownsRow_nil _ _ _ _, rfl, Below.refl _ _⟩
  · have he := fun W : World => Lib.run_eql_slice_nil (P := Tryz.prog) W 124 213 (some ad) n c 0 0 Tryz.underlying124
    have Hr := hide h
    clear h hlen
    go_enter Tryz.func200, Tryz.ntmps200
    go_wp2_with (at_builtin
                 refine wpList_append_any _ rfl (.tmp 5) (.tmp 6) _ rfl w.heap.size 213 i0 _ 3 24 Tryz.underlying124 hi0 hz0 hz1 hz2 rfl (by omega) (.slice (some ⟨w.heap.size, 0, none⟩) 0 0) 0 [] rfl (own_new w _ _) w.heap.size (some ad) n c xs rfl ((unhide Hr).alloc0 _) h1 (by simp only [maxLen]; omega) (by omega) (by simp) ?_
                 intro v1 w1 hap)
    go_ret
    obtain ⟨s', rfl, hs⟩ := sl_of_own hap.1
    refine ⟨s', rfl, by simpa using hap.1, by simpa using hs, Fr.below (hap.fr ((Fr.refl _ _).alloc _) ?_)⟩
    intro k hk
    simp [Value.ownBlock] at hk
    omega

end Go.Proofs.YtpfnmnpdaacjmaaGreatDoor
