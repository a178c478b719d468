/-
  state.formed, state.Check.
-/
import Derived.Test.YtpfnmnpdaacjmaaGreatDoorChk3
namespace Go.Proofs.YtpfnmnpdaacjmaaGreatDoor
open Go.RowKit

set_option maxHeartbeats 400000 in
theorem formed1 (o : Ob) (f : Nat) (hf : f < 18) (b : Nat) (w : World) (hb : Blk w b 74 (obA o)) :
    Calls Tryz.prog 47 #[.int .i64 f, .pointer (some ⟨b, 0, none⟩)] w fun e w' => e = .returned (.bool (o f != 0)) ∧ w = w' := by
  obtain ⟨e1, c1, f1⟩ := Blk.all hb
  have hv := obA_at o f hf
  clear hb
  go_enter Tryz.func47, Tryz.ntmps47
  go_wp2
  go_ret
  exact ⟨rfl, rfl⟩
def anyTo (n : Nat) (P : Nat → Bool) : Bool := (List.range n).any P
theorem anyTo_true (n j : Nat) (P : Nat → Bool) (hj : j < n) (h : P j = true) : anyTo n P = true := by
  rw [anyTo, List.any_eq_true]; exact ⟨j, by simpa using hj, h⟩
theorem anyTo_false (n : Nat) (P : Nat → Bool) (h : ∀ j, j < n → P j = false) : anyTo n P = false := by
  rw [anyTo, List.any_eq_false]; exact fun j hj => by simp [h j (List.mem_range.1 hj)]
set_option maxHeartbeats 400000 in
theorem idxf_formed (o : Ob) (b g n c : Nat) (l : Nat → Nat) (w : World) (hb : Blk w b 74 (obA o)) (hc : ∀ j, j < n → w.cell? ⟨g, j, none⟩ = some (.int .i64 (l j))) (hl : ∀ j, j < n → l j < 18) (hn : n ≤ 1000) :
    Calls Tryz.prog 59 #[.slice (some ⟨g, 0, none⟩) n c, .func (.func 47) #[] #[.pointer (some ⟨b, 0, none⟩)]] w
      fun e w' => ∃ i : Int, e = .returned (.int .i64 i) ∧ decide (0 ≤ i) = anyTo n (fun j => o (l j) != 0) ∧ w = w' := by
  go_enter Tryz.func59, Tryz.ntmps59
  go_wp2_with fail
  go_loop [8] (fun i => ∃ k : Nat, k ≤ n ∧ i = .int .i64 k ∧ ∀ j, j < k → (o (l j) != 0) = false) (fun i => n - (intOf i).toNat)
  case atStart => exact ⟨0, by omega, rfl, fun j hj => absurd hj (by omega)⟩
  case round =>
    obtain ⟨k, hk, rfl, hall⟩ := hrel
    by_cases hlt : k < n
    · have hck := hc k hlt
      have Hc := hide hc
      have Hall := hide hall
      clear hc hall
      go_wp2_with fail
      refine (formed1 o (l k) (hl k hlt) b _ hb).mono ?_
      rintro e w' ⟨rfl, rfl⟩
      by_cases hp : (o (l k) != 0) = true
      · go_wp2_with fail
        go_ret
        exact ⟨k, rfl, by rw [anyTo_true n k _ hlt hp]; simp, rfl⟩
      · have hp' : (o (l k) != 0) = false := by simpa using hp
        clear hp
        go_wp2_with fail
        go_round
        case measure => simp [intOf]; omega
        case rel => exact ⟨k + 1, by omega, by go_num, fun j hj => by
          by_cases hjk : j = k
          · subst hjk; exact hp'
          · exact unhide Hall j (by omega)⟩
    · have Hall := hide hall
      clear hall hc
      go_wp2_with fail
      go_ret
      exact ⟨-1, rfl, by rw [anyTo_false n _ fun j hj => unhide Hall j (by omega)]; rfl, rfl⟩
set_option maxHeartbeats 400000 in
theorem conf_formed (o : Ob) (b g n c : Nat) (l : Nat → Nat) (w : World) (hb : Blk w b 74 (obA o)) (hc : ∀ j, j < n → w.cell? ⟨g, j, none⟩ = some (.int .i64 (l j))) (hl : ∀ j, j < n → l j < 18) (hn : n ≤ 1000) :
    Calls Tryz.prog 46 #[.slice (some ⟨g, 0, none⟩) n c, .func (.func 47) #[] #[.pointer (some ⟨b, 0, none⟩)]] w
      fun e w' => e = .returned (.bool (anyTo n (fun j => o (l j) != 0))) ∧ w = w' := by
  have Hc := hide hc
  clear hc
  go_enter Tryz.func46, Tryz.ntmps46
  go_wp2_with fail
  refine (idxf_formed o b g n c l _ hb (unhide Hc) hl hn).mono ?_
  rintro e w' ⟨i, rfl, hi, rfl⟩
  have Hi := hide hi
  clear hi
  go_wp2_with fail
  all_goals
    go_ret
    refine ⟨?_, rfl⟩
    rw [← unhide Hi]
    rfl

theorem conf_formed4 (o : Ob) (b g n c : Nat) (w : World) (hb : Blk w b 74 (obA o)) (hc : ∀ j : Nat, j < n → w.cell? ⟨g, j, none⟩ = some (.int .i64 ((4 + j : Nat) : Int))) (hn : n ≤ 14) :
    Calls Tryz.prog 46 #[.slice (some ⟨g, 0, none⟩) n c, .func (.func 47) #[] #[.pointer (some ⟨b, 0, none⟩)]] w
      fun e w' => e = .returned (.bool (anyTo n (fun j => o (4 + j) != 0))) ∧ w = w' := conf_formed o b g n c (fun j => 4 + j) w hb hc (fun j hj => by omega) (by omega)
def obFormed (o : Ob) : Bool :=
  if (o 3 != 8) && anyTo 9 (fun j => o (4 + j) != 0) then false else if decide (o 3 < 8) && (o 2 != o 1) then false else o 3 == 9 || o 16 == 0
set_option maxHeartbeats 400000 in
theorem st_formed (o : Ob) (w : World) (hG : Glob w) (h8 : 8 ≤ w.heap.size) :
    Calls Tryz.prog 29 #[.agg (obA o)] w fun e w' => e = .returned (.bool (obFormed o)) ∧ Below w.heap.size w w' := by
  obtain ⟨C, T, fr, hC, hCc⟩ := hG.rest
  have hc : ∀ j : Nat, j < 9 → w.cell? ⟨0, j, none⟩ = some (.int .i64 ((4 + j : Nat) : Int)) := fun j hj => by
    have : w.heap[(0 : Nat)]? = some (.cells C T fr) := hC
    rw [cell_of_row w _ _ _ _ _ this, hCc j hj]
    congr 1
  have Hc := hide hc
  clear hc hC hCc
  by_cases h3 : (o 3 != 8) = true
  · go_enter Tryz.func29, Tryz.ntmps29
    go_wp2_with fail
    refine (conf_formed4 o w.heap.size 0 9 _ _ (Blk.new _ _ _) (fun j hj => by rw [World.cell?_alloc_lt _ _ _ (by simp; omega)]; exact unhide Hc j hj) (by omega)).mono ?_
    rintro e w' ⟨rfl, rfl⟩
    cases ha : anyTo 9 (fun j => o (4 + j) != 0)
    all_goals
      go_wp2_with fail
      all_goals
        go_ret
        refine ⟨?_, (Below.refl _ _).alloc (Nat.le_refl _) _⟩
        first
          | (rw [show obFormed o = false from by unfold obFormed; rw [h3, ha]; rfl]; rfl)
          | (simp only [obFormed, h3, ha]; simp [*])
  · have h3' : (o 3 != 8) = false := by simpa using h3
    clear h3
    go_enter Tryz.func29, Tryz.ntmps29
    go_wp2_with fail
    all_goals
      go_ret
      refine ⟨?_, (Below.refl _ _).alloc (Nat.le_refl _) _⟩
      simp only [obFormed, h3', Bool.false_and]; simp [*]
set_option maxHeartbeats 400000 in
theorem st_check1 (o : Ob) (w : World) (hG : Glob w) (h8 : 8 ≤ w.heap.size) :
    Calls Tryz.prog 28 #[.agg (obA o)] w fun e w' => e = .returned (.bool (!obFormed o)) ∧ Below w.heap.size w w' := by
  go_enter Tryz.func28, Tryz.ntmps28
  go_wp2_with fail
  refine (st_formed o _ (hG.below ((Below.refl _ _).alloc (Nat.le_refl _) _) h8) (by simp; omega)).mono ?_
  rintro e w' ⟨rfl, hb⟩
  go_wp2_with fail
  go_ret
  exact ⟨rfl, ((Below.refl _ _).alloc (Nat.le_refl _) _).trans (hb.mono (by simp))⟩
set_option maxRecDepth 100000 in
set_option maxHeartbeats 1000000 in
theorem idxf_check {B : Nat} (s : Sl) (os : List Ob) (w : World) (h : RdO B w s os) (hn : s.n ≤ 16777216) (hG : Glob w) (h8 : 8 ≤ w.heap.size) :
    Calls Tryz.prog 45 #[s.v, .func (.func 28) #[] #[]] w
      fun e w' => ∃ i : Int, e = .returned (.int .i64 i) ∧ decide (0 ≤ i) = os.any (fun o => !obFormed o) ∧ Below w.heap.size w w' := by
  obtain ⟨a, n, c⟩ := s
  have hlen := h.len
  simp only at hlen hn
  have Hl := hide hlen
  clear hlen
  show Calls _ _ #[.slice a n c, _] _ _
  go_enter Tryz.func45, Tryz.ntmps45
  go_wp2_with fail
  go_loopw [8] (fun i wr => ∃ k : Nat, k ≤ n ∧ i = .int .i64 k ∧ Below w.heap.size w wr ∧ ∀ j, (hj : j < os.length) → j < k → obFormed os[j] = true) (fun i _ => n - (intOf i).toNat)
  case atStart => exact ⟨0, by omega, rfl, Below.refl _ _, fun j _ hj => absurd hj (by omega)⟩
  case round =>
    obtain ⟨k, hk, rfl, hbl, hall⟩ := hrel
    by_cases hlt : k < n
    · obtain ⟨b, off, rfl, hbl', hsf, C, T, fr, hC, hCs, hrow, _⟩ := RdO.open_ (os := os) (Rd.fr h (.of_below hbl)) (by omega)
      have hko : k < os.length := by have := unhide Hl; omega
      have hx := hrow k hko
      have hCk : off + k * 18 + 18 ≤ C.size := by omega
      have Hall := hide hall
      clear hrow hall
      go_wp2_with fail
      refine (st_check1 _ _ (hG.below hbl h8) (by have := hbl.size; omega)).mono ?_
      rintro e w' ⟨rfl, hb⟩
      cases hp : obFormed os[k]
      · go_wp2_with fail
        go_ret
        exact ⟨k, rfl, by rw [List.any_eq_true.2 ⟨os[k], List.getElem_mem _, by simp [hp]⟩]; simp, hbl.trans (hb.mono hbl.size)⟩
      · go_wp2_with fail
        go_roundw
        case measure => simp [intOf]; omega
        case rel => exact ⟨k + 1, by omega, by go_num, hbl.trans (hb.mono hbl.size), fun j hj hjk => by
          by_cases hjk' : j = k
          · subst hjk'; exact hp
          · exact unhide Hall j hj (by omega)⟩
    · have Hall := hide hall
      clear hall
      go_wp2_with fail
      go_ret
      refine ⟨-1, rfl, ?_, hbl⟩
      rw [List.any_eq_false.2]; · rfl
      intro o ho
      obtain ⟨j, hj, rfl⟩ := List.mem_iff_getElem.1 ho
      have := unhide Hl
      simp [unhide Hall j hj (by omega)]
set_option maxHeartbeats 400000 in
theorem conf_check {B : Nat} (s : Sl) (os : List Ob) (w : World) (h : RdO B w s os) (hn : s.n ≤ 16777216) (hG : Glob w) (h8 : 8 ≤ w.heap.size) :
    Calls Tryz.prog 27 #[s.v, .func (.func 28) #[] #[]] w
      fun e w' => e = .returned (.bool (os.any fun o => !obFormed o)) ∧ Below w.heap.size w w' := by
  go_enter Tryz.func27, Tryz.ntmps27
  go_wp2_with fail
  refine (idxf_check s os _ h hn hG h8).mono ?_
  rintro e w' ⟨i, rfl, hi, hb⟩
  have Hi := hide hi
  clear hi
  go_wp2_with fail
  all_goals
    go_ret
    refine ⟨?_, hb⟩
    rw [← unhide Hi]
    rfl
def stCheck (s : St) : Int := if 400 < s.o.length then 5 else if !stRanges s then 1 else if !stZones s then 12 else if s.o.any (fun o => !obFormed o) then 2 else 0
set_option maxHeartbeats 1000000 in
theorem st_check {B : Nat} {S : SV} {s : St} {w : World} (h : RdS B w S s) (hs : Few s) (hG : Glob w) (h8 : 8 ≤ w.heap.size) :
    Calls Tryz.prog 16 #[.agg (stA S)] w fun e w' => e = .returned (errV (stCheck s)) ∧ Below w.heap.size w w' := by
  have hn := h.o.len
  have Hn := hide hn
  clear hn
  have hb0 : Below w.heap.size w (w.alloc (.cells (stA S) 44)) := (Below.refl _ _).alloc (Nat.le_refl _) _
  by_cases h4 : 400 < S.o.n
  · go_enter Tryz.func16, Tryz.ntmps16
    go_wp2_with fail
    go_ret
    refine ⟨?_, hb0⟩
    have := unhide Hn
    rw [stCheck, if_pos (by omega)]; rfl
  · have hc0 : 400 < s.o.length ↔ False := by have := unhide Hn; exact ⟨fun h => by omega, fun h => h.elim⟩
    have Hc0 := hide hc0
    clear hc0
    go_enter Tryz.func16, Tryz.ntmps16
    go_wp2_with fail
    refine (st_ranges (h.fr (.of_below hb0)) hs (hG.below hb0 h8) (by simp; omega)).mono ?_
    rintro e w1 ⟨rfl, hb1⟩
    have hb1' := hb0.trans (hb1.mono (by simp))
    obtain ⟨e1, c1, f1⟩ := Blk.all ((Blk.new w 44 (stA S)).below hb1 (by simp))
    have hk1 : Blk w1 w.heap.size 44 (stA S) := e1
    cases hr : stRanges s
    · go_wp2_with fail
      go_ret
      refine ⟨?_, hb1'⟩
      simp only [stCheck, unhide Hc0, hr]; rfl
    · go_wp2_with fail
      refine (st_zones (h.fr (.of_below hb1')) hs).mono ?_
      rintro e w2 ⟨rfl, hb2⟩
      have hb2' := hb1'.trans (hb2.mono hb1'.size)
      have hk2 := hk1.below hb2 hk1.lt
      obtain ⟨e2, c2, f2⟩ := Blk.all hk2
      clear e1 c1 f1
      cases hz : stZones s
      · go_wp2_with fail
        go_ret
        refine ⟨?_, hb2'⟩
        simp only [stCheck, unhide Hc0, hr, hz]; rfl
      · go_wp2_with fail
        refine (conf_check S.o s.o _ (Rd.fr h.o (.of_below hb2')) (by omega) (hG.below hb2' h8) (by have := hb2'.size; omega)).mono ?_
        rintro e w3 ⟨rfl, hb3⟩
        have hb3' := hb2'.trans (hb3.mono hb2'.size)
        cases hf : s.o.any (fun o => !obFormed o)
        all_goals
          go_wp2_with fail
          go_ret
          refine ⟨?_, hb3'⟩
          simp only [stCheck, unhide Hc0, hr, hz, hf]; rfl
end Go.Proofs.YtpfnmnpdaacjmaaGreatDoor
