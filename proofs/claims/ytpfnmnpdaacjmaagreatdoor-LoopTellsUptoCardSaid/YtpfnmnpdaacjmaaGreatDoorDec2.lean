/-
  check: who has lost, the result; nothing follows of a state whose field is empty.
-/
import Derived.Test.YtpfnmnpdaacjmaaGreatDoorDec1
namespace Go.Proofs.YtpfnmnpdaacjmaaGreatDoor
open Go.RowKit

theorem below2 (w : World) (a c : Obj) : Below w.heap.size w ((w.alloc a).alloc c) := ((Below.refl _ _).alloc (Nat.le_refl _) _).alloc (by simp) _
theorem below1 (w : World) (a : Obj) : Below w.heap.size w (w.alloc a) := (Below.refl _ _).alloc (Nat.le_refl _) _
def lostB (p : Nat → Int) (y : Nat) : Bool := decide (p (9 * y) ≤ 0) || p (9 * y + 8) == 1
set_option maxRecDepth 100000 in
set_option maxHeartbeats 400000 in
theorem chk_lost (S : SV) (y : Nat) (hy : y < 2) (w : World) : Calls Tryz.prog 229 #[.agg (stA S), .int .i64 y] w fun r w' => r = .returned (.bool (lostB S.p y)) ∧ Below w.heap.size w w' := by
  rcases (by omega : y = 0 ∨ y = 1) with rfl | rfl
  all_goals
    go_enter Tryz.func229, Tryz.ntmps229
    go_wp2_with fail
    all_goals
      go_ret
      refine ⟨?_, below2 _ _ _⟩
      simp [lostB, *]
def resOf (a b : Bool) : Int := if a && b then 3 else if a then 2 else if b then 1 else 0
def resB (p : Nat → Int) : Int := resOf (lostB p 0) (lostB p 1)
set_option maxRecDepth 100000 in
set_option maxHeartbeats 400000 in
theorem chk_result (S : SV) (w : World) : Calls Tryz.prog 198 #[.agg (stA S)] w fun r w' => r = .returned (.int .i64 (resB S.p)) ∧ Below w.heap.size w w' := by
  have hb0 := below1 w (.cells (stA S) 44)
  have hd0 := hb0.drew
  have hbk0 := (Blk.new w 44 (stA S)).drew
  obtain ⟨e0, c0, f0⟩ := Blk.all hbk0
  have hL0 := fun w => chk_lost S 0 (by decide) w
  have hL1 := fun w => chk_lost S 1 (by decide) w
  generalize hA : lostB S.p 0 = a at hL0
  generalize hB : lostB S.p 1 = b at hL1
  have hr : resB S.p = resOf a b := by rw [resB, hA, hB]
  rw [hr]
  clear hA hB hr
  go_enter Tryz.func198, Tryz.ntmps198
  go_wp2_with fail
  go_region_law (first
    | (go_simp
       go_at_call 229
       refine (hL0 _).mono ?_
       rintro e w1 ⟨rfl, hb1⟩
       have hbk1 := hbk0.below hb1 hbk0.lt
       obtain ⟨e1, c1, f1⟩ := Blk.all hbk1
       have hq1 := hd0.trans (hb1.mono hd0.size)
       clear hL0)
    | (go_simp
       go_at_call 229
       refine (hL1 _).mono ?_
       rintro e w2 ⟨rfl, hb2⟩
       have hq2 := hq1.trans (hb2.mono hq1.size)))
  all_goals
    cases a <;> cases b
  all_goals
    go_wp2_with fail
    go_ret
    exact ⟨rfl, hq2⟩
set_option maxRecDepth 100000 in
set_option maxHeartbeats 400000 in
theorem chk_dying0 {B : Nat} {S : SV} {s : St} {w : World} (h : RdS B w S s) (hF : s.l 8 = []) : Calls Tryz.prog 199 #[.agg (stA S)] w fun r w' => r = .returned (.slice none 0 0) ∧ Below w.heap.size w w' := by
  have hn := (h.l 8 (by decide)).len
  rw [hF] at hn
  have hn0 : (S.l 8).n = 0 := by simpa using hn
  generalize hs : S.l 8 = s8 at hn0
  obtain ⟨a, n, c⟩ := s8
  simp only at hn0
  subst hn0
  clear hn
  go_enter Tryz.func199, Tryz.ntmps199
  go_wp2_with fail
  go_loopw [3, 12] (fun x i wr => x = .slice none 0 0 ∧ i = .int .i64 0 ∧ wr = w.alloc (.cells (stA S) 44)) (fun _ _ _ => 0)
  case atStart => exact ⟨rfl, rfl, rfl⟩
  case round =>
    obtain ⟨rfl, rfl, rfl⟩ := hrel
    go_wp2_with fail
    go_ret
    exact ⟨rfl, below1 _ _⟩
def quietB (g p : Nat → Int) : Bool := g 6 != 0 || resB p == 0
set_option maxRecDepth 100000 in
set_option maxHeartbeats 400000 in
theorem chk_quiet0 {B : Nat} {S : SV} {s : St} {w : World} (h : RdS B w S s) (hF : s.l 8 = []) : Calls Tryz.prog 153 #[.agg (stA S)] w fun r w' => r = .returned (.bool (quietB S.g S.p)) ∧ Below w.heap.size w w' := by
  have hb0 := below1 w (.cells (stA S) 44)
  have hbk0 := (Blk.new w 44 (stA S))
  cases hg : (S.g 6 != 0)
  · cases hr : (resB S.p == 0)
    · have hq : quietB S.g S.p = false := by rw [quietB, hg, hr]; rfl
      rw [hq]
      clear hq
      go_enter Tryz.func153, Tryz.ntmps153
      go_wp2_with fail
      refine (chk_result S _).mono ?_
      rintro e w1 ⟨rfl, hb1⟩
      have hbk1 := hbk0.below hb1 hbk0.lt
      obtain ⟨e1, c1, f1⟩ := Blk.all hbk1
      have hq1 := hb0.trans (hb1.mono hb0.size)
      go_wp2_with fail
      go_ret
      exact ⟨rfl, hq1⟩
    · have hq : quietB S.g S.p = true := by rw [quietB, hg, hr]; rfl
      rw [hq]
      clear hq
      go_enter Tryz.func153, Tryz.ntmps153
      go_wp2_with fail
      refine (chk_result S _).mono ?_
      rintro e w1 ⟨rfl, hb1⟩
      have hbk1 := hbk0.below hb1 hbk0.lt
      obtain ⟨e1, c1, f1⟩ := Blk.all hbk1
      have hq1 := hb0.trans (hb1.mono hb0.size)
      go_wp2_with fail
      refine (chk_dying0 (h.fr (.of_below hq1)) hF).mono ?_
      rintro e w2 ⟨rfl, hb2⟩
      have hq2 := hq1.trans (hb2.mono hq1.size)
      go_wp2_with fail
      go_ret
      exact ⟨rfl, hq2⟩
  · have hq : quietB S.g S.p = true := by rw [quietB, hg]; rfl
    rw [hq]
    clear hq
    go_enter Tryz.func153, Tryz.ntmps153
    go_wp2_with fail
    go_ret
    exact ⟨rfl, hb0⟩
set_option maxRecDepth 100000 in
set_option maxHeartbeats 400000 in
theorem chk_fuel (S : SV) (w : World) (hn : S.o.n ≤ 16777216) : Calls Tryz.prog 114 #[.agg (stA S)] w fun r w' => r = .returned (.int .i64 (S.o.n + 1)) ∧ Below w.heap.size w w' := by
  have hn2 : (S.o.n : Int) ≤ 16777216 := by omega
  go_enter Tryz.func114, Tryz.ntmps114
  go_wp2_with fail
  go_ret
  exact ⟨rfl, below1 _ _⟩
/-- The state is at rest, its field empty. -/
def EA.rest (E : EA) : Prop := E.er = 0 → E.s.l 8 = [] ∧ quietB E.s.g E.s.p = true
set_option maxRecDepth 100000 in
set_option maxHeartbeats 400000 in
theorem chk_run0 {B b : Nat} {w : World} {M : EM} {E : EA} (h : Em B w b M E) (hr : E.rest) (fuel : Int) :
    Calls Tryz.prog 113 #[.pointer (some ⟨b, 0, none⟩), .int .i64 fuel] w fun e w' => e = .returned (.int .i64 0) ∧ Below w.heap.size w w' := by
  go_enter Tryz.func113, Tryz.ntmps113
  go_wp2_with fail
  go_loopw [5] (fun x wr => x = .int .i64 0 ∧ wr = w) (fun _ _ => 0)
  case atStart => exact ⟨rfl, rfl⟩
  case round =>
    obtain ⟨rfl, rfl⟩ := hrel
    rcases errV_cases E.er with ⟨hE, he⟩ | ⟨hE, he⟩
    · obtain ⟨hF, hq⟩ := hr hE
      have hst : E.state = E.s := by rw [EA.state, if_pos hE]
      clear hE
      go_wp2_with fail
      refine (em_err h).mono ?_
      rintro e w' ⟨rfl, rfl⟩
      go_wp2_with fail
      refine (em_state h).mono ?_
      rintro e w1 ⟨S', rfl, hS, hb1⟩
      rw [hst] at hS
      rw [← hS.g, ← hS.p] at hq
      go_wp2_with fail
      refine (chk_quiet0 hS hF).mono ?_
      rw [hq]
      rintro e w2 ⟨rfl, hb2⟩
      have hq2 := hb1.trans (hb2.mono hb1.size)
      have h2 := h.below hq2
      clear hst
      go_wp2_with fail
      refine (em_err h2).mono ?_
      rintro e w' ⟨rfl, rfl⟩
      go_wp2_with fail
      go_ret
      exact ⟨rfl, hq2⟩
    · clear hE
      go_wp2_with fail
      refine (em_err h).mono ?_
      rintro e w' ⟨rfl, rfl⟩
      go_wp2_with fail
      refine (em_err h).mono ?_
      rintro e w' ⟨rfl, rfl⟩
      go_wp2_with fail
      go_ret
      exact ⟨rfl, Below.refl _ _⟩
end Go.Proofs.YtpfnmnpdaacjmaaGreatDoor
