/-
  The emitter sets a number of a player or of the game.
-/
import Derived.Test.YtpfnmnpdaacjmaaGreatDoorEmit3
namespace Go.Proofs.YtpfnmnpdaacjmaaGreatDoor
open Go.RowKit

theorem ev_fold (a b c d e f : Int) : Value.agg #[.int .i64 a, .int .i64 b, .int .i64 c, .int .i64 d, .int .i64 e, .int .i64 f] = .agg (evA ⟨a, b, c, d, e, f⟩) := rfl
theorem evA_ne (x : Ev) : (evA x = #[]) = False := by simp [evA]
attribute [go_sem] ev_fold evA_ne
theorem inB_iff {n e : Int} : inB n e = true ↔ 0 ≤ n ∧ n < e := by simp [inB]
theorem Em.alloc {B b : Nat} {w : World} {M : EM} {E : EA} (h : Em B w b M E) (o : Obj) : Em B (w.alloc o) b M E := h.below ((Below.refl _ _).alloc (Nat.le_refl _) _)
theorem EmTo.of_alloc {B b : Nat} {w w' : World} {E : EA} {o : Obj} (h : EmTo B (w.alloc o) b E w') : EmTo B w b E w' := .after ((EFr.refl B w).alloc o) h
def evS (x : Ev) (was n : Int) : Ev := { x with c := was, d := n }
def EA.set (E : EA) (x : Ev) (was n : Int) : EA := if was = n then E.fail (evCheck (evS x was n)) else E.do1 (evS x was n)
set_option maxRecDepth 100000 in
set_option maxHeartbeats 1000000 in
theorem em_set {B b : Nat} {w : World} {M : EM} {E : EA} (h : Em B w b M E) (x : Ev) (was n : Int) (hx : was ≠ n → DoOK (evS x was n)) (hfew : Few (evDo E.s (evS x was n)).2) :
    Calls Tryz.prog 108 #[.pointer (some ⟨b, 0, none⟩), .agg (evA x), .int .i64 was, .int .i64 n] w fun e w' => e = .returned (.tuple #[]) ∧ EmTo B w b (E.set x was n) w' := by
  have hlt := h.blk.lt
  by_cases heq : was = n
  · subst heq
    have hE : E.set x was was = E.fail (evCheck (evS x was was)) := by rw [EA.set, if_pos rfl]
    rw [hE]
    clear hE hx hfew
    go_enter Tryz.func108, Tryz.ntmps108
    go_wp2_with fail
    refine (ev_check _ _).mono ?_
    rintro e w1 ⟨rfl, hb1⟩
    have h1 := (h.alloc _).below hb1
    go_wp2_with fail
    refine (em_fail h1 _).mono ?_
    rintro e w2 ⟨rfl, hto⟩
    go_wp2_with fail
    refine bodyPost_ret (results_none rfl _ _ _) rfl ?_
    exact ⟨rfl, (EmTo.after (.of_below hb1) hto).of_alloc⟩
  · have hE : E.set x was n = E.do1 (evS x was n) := by rw [EA.set, if_neg heq]
    rw [hE]
    clear hE
    have hd := hx heq
    clear hx
    have heq' : (was == n) = false := by simpa using heq
    clear heq
    go_enter Tryz.func108, Tryz.ntmps108
    go_wp2_with fail
    have hk2 : Blk ((w.alloc (.cells (evA (evS x was n)) 89)).alloc (.cells (evA (evS x was n)) 89)) (w.heap.size + 1) 89 (evA (evS x was n)) := by
      have := Blk.new (w.alloc (.cells (evA (evS x was n)) 89)) 89 (evA (evS x was n))
      simpa using this
    refine (em_do1 ((h.alloc _).alloc _) _ hd hfew _ 1 hk2).mono ?_
    rintro e w2 ⟨rfl, hto⟩
    go_wp2_with fail
    go_end0
    exact ⟨rfl, hto.of_alloc.of_alloc⟩

def evP (y z : Int) : Ev := ⟨3, y, z, 0, 0, 0⟩
def evG (z : Int) : Ev := ⟨4, 0, z, 0, 0, 0⟩
def EA.game (E : EA) (z n : Int) : EA := if E.er ≠ 0 then E else if evCheck (evG z) ≠ 0 then E.do1 (evG z) else E.set (evG z) (E.s.g z.toNat) n
def EA.player (E : EA) (y z n : Int) : EA := if E.er ≠ 0 then E else if evCheck (evP y z) ≠ 0 then E.do1 (evP y z) else E.set (evP y z) (E.s.p (9 * y.toNat + z.toNat)) n
theorem evCheck_G (z : Int) : evCheck (evG z) = if 0 ≤ z ∧ z < 7 then 0 else evCheck (evG z) := by
  split
  · rename_i h
    simp [evCheck, evG, inB, evSpare, evMakes, evRanges, evSmall, h.1, h.2]
  · rfl
theorem evCheck_G0 {z : Int} (h : evCheck (evG z) = 0) : 0 ≤ z ∧ z < 7 := by
  unfold evCheck at h
  cases h1 : inB (evG z).k 6 <;> cases h2 : evSpare (evG z) <;> cases h3 : evRanges (evG z) <;> simp [h1, h2, h3] at h
  simp [evRanges, evG, inB_iff, evSmall] at h3; exact h3
theorem evCheck_P0 {y z : Int} (h : evCheck (evP y z) = 0) : (0 ≤ y ∧ y < 2) ∧ 0 ≤ z ∧ z < 9 := by
  unfold evCheck at h
  cases h1 : inB (evP y z).k 6 <;> cases h2 : evSpare (evP y z) <;> cases h3 : evRanges (evP y z) <;> simp [h1, h2, h3] at h
  simp [evRanges, evP, inB_iff, evSmall] at h3; exact h3
theorem few_do {s : St} (h : Few s) (x : Ev) (hk : x.k = 3 ∨ x.k = 4) : Few (evDo s x).2 := by
  unfold evDo
  rcases hk with hk | hk
  · rw [hk]
    simp only [show ((3 : Int) == 0) = false from rfl, show ((3 : Int) == 5) = false from rfl, show ((3 : Int) == 1) = false from rfl, show ((3 : Int) == 2) = false from rfl, show ((3 : Int) == 3) = true from rfl, Bool.false_eq_true, if_false, if_true]
    split
    · exact h
    · split
      · exact h
      · exact ⟨h.o, h.l⟩
  · rw [hk]
    simp only [show ((4 : Int) == 0) = false from rfl, show ((4 : Int) == 5) = false from rfl, show ((4 : Int) == 1) = false from rfl, show ((4 : Int) == 2) = false from rfl, show ((4 : Int) == 3) = false from rfl, Bool.false_eq_true, if_false]
    split
    · exact h
    · split
      · exact h
      · exact ⟨h.o, h.l⟩
theorem few_bad {s : St} (h : Few s) (x : Ev) (hc : evCheck x ≠ 0) : Few (evDo s x).2 := by rw [evDo, if_pos (by simpa using hc)]; exact h
set_option maxRecDepth 100000 in
set_option maxHeartbeats 1000000 in
theorem em_game {B b : Nat} {w : World} {M : EM} {E : EA} (h : Em B w b M E) (z n : Int) :
    Calls Tryz.prog 80 #[.pointer (some ⟨b, 0, none⟩), .int .i64 z, .int .i64 n] w fun e w' => e = .returned (.tuple #[]) ∧ EmTo B w b (E.game z n) w' := by
  have hlt := h.blk.lt
  rcases errV_cases E.er with ⟨hE, he⟩ | ⟨hE, he⟩
  · by_cases hc : evCheck (evG z) = 0
    · obtain ⟨hz, hz7⟩ := evCheck_G0 hc
      obtain ⟨k, rfl⟩ := Int.eq_ofNat_of_zero_le hz
      have hD : E.game k n = E.set (evG k) (E.s.g k) n := by rw [EA.game, if_neg (by simp [hE]), if_neg (by simp [hc])]; simp
      have he0 := errV_zero hc
      have hg := emA_g M k (by omega)
      rw [h.st.g] at hg
      rw [hD]
      have hfew := few_do h.few (evS (evG k) (E.s.g k) n) (.inr rfl)
      clear hD hc hE hz
      go_enter Tryz.func80, Tryz.ntmps80
      go_wp2_with fail
      refine (em_err h).mono ?_
      rintro e w' ⟨rfl, rfl⟩
      go_wp2_with fail
      refine (ev_check (evG k) _).mono ?_
      rintro e w1 ⟨rfl, hb1⟩
      have h1 := (h.alloc _).below hb1
      obtain ⟨e1, c1, f1⟩ := Blk.all h1.blk
      obtain ⟨e2, c2, f2⟩ := Blk.all ((Blk.new w 89 (evA (evG k))).below hb1 (by simp))
      have hlt1 := h1.blk.lt
      go_wp2_with fail
      refine region_tail 10 (by kernel_rfl) (by kernel_rfl) ?_
      simp only [List.take_succ_cons, List.take_zero, List.drop_succ_cons, List.drop_zero]
      iterate 10 still_step
      refine wpStill_nil ?_
      go_wp2_with fail
      refine (em_set (h1.below (Below.refl _ _).drew) (evG k) (E.s.g k) n (fun _ => doOK_game _ rfl) hfew).mono ?_
      rintro e w2 ⟨rfl, hto⟩
      go_wp2_with fail
      go_end0
      exact ⟨rfl, (EmTo.after ((EFr.of_below hb1).drew) hto).of_alloc⟩
    · have hD : E.game z n = E.do1 (evG z) := by rw [EA.game, if_neg (by simp [hE]), if_pos hc]
      rw [hD]
      have he0 := errV_ne hc
      have hfew := few_bad h.few (evG z) hc
      clear hD hE
      go_enter Tryz.func80, Tryz.ntmps80
      go_wp2_with fail
      refine (em_err h).mono ?_
      rintro e w' ⟨rfl, rfl⟩
      go_wp2_with fail
      refine (ev_check (evG z) _).mono ?_
      rintro e w1 ⟨rfl, hb1⟩
      have h1 := (h.alloc _).below hb1
      obtain ⟨e2, c2, f2⟩ := Blk.all ((Blk.new w 89 (evA (evG z))).below hb1 (by simp))
      go_wp2_with fail
      have hk2 := Blk.new w1 89 (evA (evG z))
      refine (em_do1 (h1.alloc _) _ (doOK_bad _ hc) hfew _ 1 hk2).mono ?_
      rintro e w2 ⟨rfl, hto⟩
      go_wp2_with fail
      refine bodyPost_ret (results_none rfl _ _ _) rfl ?_
      exact ⟨rfl, (EmTo.after (.of_below hb1) hto.of_alloc).of_alloc⟩
  · have hD : E.game z n = E := by rw [EA.game, if_pos hE]
    rw [hD]
    clear hD hE
    go_enter Tryz.func80, Tryz.ntmps80
    go_wp2_with fail
    refine (em_err h).mono ?_
    rintro e w' ⟨rfl, rfl⟩
    go_wp2_with fail
    refine bodyPost_ret (results_none rfl _ _ _) rfl ?_
    exact ⟨rfl, .self h⟩
set_option maxRecDepth 100000 in
set_option maxHeartbeats 1000000 in
theorem em_player {B b : Nat} {w : World} {M : EM} {E : EA} (h : Em B w b M E) (y z n : Int) :
    Calls Tryz.prog 178 #[.pointer (some ⟨b, 0, none⟩), .int .i64 y, .int .i64 z, .int .i64 n] w fun e w' => e = .returned (.tuple #[]) ∧ EmTo B w b (E.player y z n) w' := by
  have hlt := h.blk.lt
  rcases errV_cases E.er with ⟨hE, he⟩ | ⟨hE, he⟩
  · by_cases hc : evCheck (evP y z) = 0
    · obtain ⟨⟨hy, hy2⟩, hz, hz7⟩ := evCheck_P0 hc
      obtain ⟨j, rfl⟩ := Int.eq_ofNat_of_zero_le hy
      obtain ⟨k, rfl⟩ := Int.eq_ofNat_of_zero_le hz
      have hD : E.player j k n = E.set (evP j k) (E.s.p (9 * j + k)) n := by rw [EA.player, if_neg (by simp [hE]), if_neg (by simp [hc])]; simp
      have he0 := errV_zero hc
      have hg := emA_p M (9 * j + k) (by omega)
      rw [h.st.p, show 12 + (9 * j + k) = 12 + j * 9 + k by omega] at hg
      rw [hD]
      have hfew := few_do h.few (evS (evP j k) (E.s.p (9 * j + k)) n) (.inl rfl)
      clear hD hc hE hz hy
      go_enter Tryz.func178, Tryz.ntmps178
      go_wp2_with fail
      refine (em_err h).mono ?_
      rintro e w' ⟨rfl, rfl⟩
      go_wp2_with fail
      refine (ev_check (evP j k) _).mono ?_
      rintro e w1 ⟨rfl, hb1⟩
      have h1 := (h.alloc _).below hb1
      obtain ⟨e1, c1, f1⟩ := Blk.all h1.blk
      obtain ⟨e2, c2, f2⟩ := Blk.all ((Blk.new w 89 (evA (evP j k))).below hb1 (by simp))
      have hlt1 := h1.blk.lt
      go_wp2_with fail
      refine region_tail 12 (by kernel_rfl) (by kernel_rfl) ?_
      simp only [List.take_succ_cons, List.take_zero, List.drop_succ_cons, List.drop_zero]
      iterate 12 still_step
      refine wpStill_nil ?_
      go_wp2_with fail
      refine (em_set (h1.below (Below.refl _ _).drew) (evP j k) (E.s.p (9 * j + k)) n (fun _ => doOK_player _ rfl) hfew).mono ?_
      rintro e w2 ⟨rfl, hto⟩
      go_wp2_with fail
      go_end0
      exact ⟨rfl, (EmTo.after ((EFr.of_below hb1).drew) hto).of_alloc⟩
    · have hD : E.player y z n = E.do1 (evP y z) := by rw [EA.player, if_neg (by simp [hE]), if_pos hc]
      rw [hD]
      have he0 := errV_ne hc
      have hfew := few_bad h.few (evP y z) hc
      clear hD hE
      go_enter Tryz.func178, Tryz.ntmps178
      go_wp2_with fail
      refine (em_err h).mono ?_
      rintro e w' ⟨rfl, rfl⟩
      go_wp2_with fail
      refine (ev_check (evP y z) _).mono ?_
      rintro e w1 ⟨rfl, hb1⟩
      have h1 := (h.alloc _).below hb1
      obtain ⟨e2, c2, f2⟩ := Blk.all ((Blk.new w 89 (evA (evP y z))).below hb1 (by simp))
      go_wp2_with fail
      have hk2 := Blk.new w1 89 (evA (evP y z))
      refine (em_do1 (h1.alloc _) _ (doOK_bad _ hc) hfew _ 1 hk2).mono ?_
      rintro e w2 ⟨rfl, hto⟩
      go_wp2_with fail
      refine bodyPost_ret (results_none rfl _ _ _) rfl ?_
      exact ⟨rfl, (EmTo.after (.of_below hb1) hto.of_alloc).of_alloc⟩
  · have hD : E.player y z n = E := by rw [EA.player, if_pos hE]
    rw [hD]
    clear hD hE
    go_enter Tryz.func178, Tryz.ntmps178
    go_wp2_with fail
    refine (em_err h).mono ?_
    rintro e w' ⟨rfl, rfl⟩
    go_wp2_with fail
    refine bodyPost_ret (results_none rfl _ _ _) rfl ?_
    exact ⟨rfl, .self h⟩
end Go.Proofs.YtpfnmnpdaacjmaaGreatDoor
