/-
  turn: empty, over; Next and Go where no phase asks for more.
-/
import Derived.Test.YtpfnmnpdaacjmaaGreatDoorDec3
namespace Go.Proofs.YtpfnmnpdaacjmaaGreatDoor
open Go.RowKit

theorem splA_stst (S S' : SV) : splA (stA S) 0 (stA S') = stA S' := splA_all _ _ rfl
attribute [go_sem] splA_stst
def EA.emptyTo (E : EA) : Nat → EA
  | 0 => E
  | n + 1 => (E.emptyTo n).player (n / 6 : Nat) (1 + n % 6 : Nat) 0
def EA.empty (E : EA) : EA := E.emptyTo 12
set_option maxRecDepth 100000 in
set_option maxHeartbeats 400000 in
theorem turn_empty {B b : Nat} {w : World} {M : EM} {E : EA} (h : Em B w b M E) :
    Calls Tryz.prog 159 #[.pointer (some ⟨b, 0, none⟩)] w fun e w' => e = .returned (.tuple #[]) ∧ EmTo B w b E.empty w' := by
  go_enter Tryz.func159, Tryz.ntmps159
  go_wp2_with fail
  go_loopw [4] (fun x wr => ∃ y : Nat, y ≤ 2 ∧ x = .int .i64 y ∧ EmTo B w b (E.emptyTo (6 * y)) wr) (fun x _ => 2 - (intOf x).toNat)
  case atStart => exact ⟨0, by omega, rfl, .self h⟩
  case round =>
    obtain ⟨y, hy, rfl, hto⟩ := hrel
    obtain ⟨wo, rfl⟩ : ∃ wo, wo = wr := ⟨_, rfl⟩
    by_cases hy2 : y = 2
    · subst hy2
      go_wp2_with fail
      go_end0
      exact ⟨rfl, hto⟩
    · have hlt : decide ((y : Int) < 2) = true := by simp; omega
      go_wp2_with fail
      go_loopw [7] (fun x wr => ∃ z : Nat, z ≤ 6 ∧ x = .int .i64 z ∧ EmTo B w b (E.emptyTo (6 * y + z)) wr) (fun x _ => 6 - (intOf x).toNat)
      case atStart => exact ⟨0, by omega, rfl, hto⟩
      case round =>
        obtain ⟨z, hz, rfl, hto2⟩ := hrel
        clear hto
        by_cases hz6 : z = 6
        · subst hz6
          go_wp2_with fail
          go_roundw
          case measure => simp [intOf]; omega
          case rel => exact ⟨y + 1, by omega, by go_num, hto2⟩
        · have hltz : decide ((z : Int) < 6) = true := by simp; omega
          have hzz : (z : Int) < 6 := by omega
          obtain ⟨M2, h2, hf2⟩ := hto2
          go_wp2_with fail
          refine (em_player h2 y (1 + z) 0).mono ?_
          rintro e w3 ⟨rfl, hto3⟩
          go_wp2_with fail
          go_roundw
          case measure => simp [intOf]; omega
          case rel =>
            refine ⟨z + 1, by omega, by go_num, ?_⟩
            have he : E.emptyTo (6 * y + (z + 1)) = (E.emptyTo (6 * y + z)).player y (1 + z) 0 := by
              show (E.emptyTo (6 * y + z)).player ((6 * y + z) / 6 : Nat) (1 + (6 * y + z) % 6 : Nat) 0 = _
              rw [show (6 * y + z) / 6 = y by omega, show (6 * y + z) % 6 = z by omega]
              congr 1
            rw [he]
            exact .after hf2 hto3
set_option maxRecDepth 100000 in
set_option maxHeartbeats 400000 in
theorem turn_over0 (S : SV) (hp : S.g 2 ≠ 7) (w : World) :
    Calls Tryz.prog 118 #[.agg (stA S)] w fun e w' => e = .returned (.bool false) ∧ Below w.heap.size w w' := by
  have hp7 : (S.g 2 == 7) = false := by simpa using hp
  clear hp
  cases h6 : (S.g 6 == 0)
  all_goals
    go_enter Tryz.func118, Tryz.ntmps118
    go_wp2_with fail
    go_ret
    exact ⟨rfl, below1 _ _⟩
set_option maxRecDepth 100000 in
set_option maxHeartbeats 400000 in
theorem turn_leave0 {B b : Nat} {w : World} {M : EM} {E : EA} (h : Em B w b M E) (p : Int) (hp : p = 1 ∨ p = 3 ∨ p = 5 ∨ p = 6) (hl : E.state.g 2 = p) :
    Calls Tryz.prog 160 #[.pointer (some ⟨b, 0, none⟩)] w fun e w' => e = .returned (.int .i64 (p + 1)) ∧ Below w.heap.size w w' := by
  have h1 : (p == 0) = false := by rcases hp with rfl | rfl | rfl | rfl <;> rfl
  have h2 : (p == 2) = false := by rcases hp with rfl | rfl | rfl | rfl <;> rfl
  have h3 : (p == 4) = false := by rcases hp with rfl | rfl | rfl | rfl <;> rfl
  have h4 : (p == 7) = false := by rcases hp with rfl | rfl | rfl | rfl <;> rfl
  have h5 : 0 ≤ p := by omega
  have h6 : p ≤ 6 := by omega
  clear hp
  go_enter Tryz.func160, Tryz.ntmps160
  go_wp2_with fail
  refine (em_state h).mono ?_
  rintro e w1 ⟨S', rfl, hS, hb1⟩
  have hgp : S'.g 2 = p := by rw [hS.g, hl]
  clear hl hS
  go_wp2_with fail
  go_ret
  exact ⟨rfl, hb1.trans ((below1 _ _).mono hb1.size)⟩
def EA.next0 (E : EA) (p : Int) : EA := (((E.empty.game 2 (p + 1)).game 3 ((E.empty.game 2 (p + 1)).state.g 1))).game 4 0
set_option maxRecDepth 100000 in
set_option maxHeartbeats 400000 in
theorem turn_next0 {B b : Nat} {w : World} {M : EM} {E : EA} (h : Em B w b M E) (he : E.er = 0) (p : Int) (hp : p = 1 ∨ p = 3 ∨ p = 5 ∨ p = 6) (hl : E.empty.state.g 2 = p) (hpe : (E.next0 p).pe = []) (hr : (E.next0 p).rest) :
    Calls Tryz.prog 117 #[.pointer (some ⟨b, 0, none⟩)] w fun e w' => e = .returned (.tuple #[]) ∧ EmTo B w b (E.next0 p) w' := by
  have h1 : (p + 1 == 3) = false := by rcases hp with rfl | rfl | rfl | rfl <;> rfl
  have h2 : (p + 1 == 0) = false := by rcases hp with rfl | rfl | rfl | rfl <;> rfl
  have he0 := errV_zero he
  have Hp := hide hp
  have Hl := hide hl
  have Hpe := hide hpe
  have Hr := hide hr
  clear hp hl hpe hr he
  go_enter Tryz.func117, Tryz.ntmps117
  go_wp2_with fail
  refine (em_err h).mono ?_
  rintro e w' ⟨rfl, rfl⟩
  go_wp2_with fail
  refine (turn_empty h).mono ?_
  rintro e w1 ⟨rfl, M1, hm1, hf1⟩
  go_wp2_with fail
  refine (turn_leave0 hm1 p (unhide Hp) (unhide Hl)).mono ?_
  rintro e w2 ⟨rfl, hb2⟩
  have hm2 := hm1.below hb2
  go_wp2_with fail
  refine (em_game hm2 2 (p + 1)).mono ?_
  rintro e w3 ⟨rfl, M3, hm3, hf3⟩
  go_wp2_with fail
  refine (em_state hm3).mono ?_
  rintro e w4 ⟨S4, rfl, hS4, hb4⟩
  have hg4 := hS4.g
  have hm4 := hm3.below hb4
  clear hS4
  go_wp2_with fail
  refine (em_game hm4 3 _).mono ?_
  rintro e w5 ⟨rfl, M5, hm5, hf5⟩
  go_wp2_with fail
  refine (em_game hm5 4 0).mono ?_
  rintro e w6 ⟨rfl, M6, hm6, hf6⟩
  go_wp2_with fail
  refine (trig_settle0 hm6 (unhide Hpe) (unhide Hr)).mono ?_
  rintro e w7 ⟨rfl, hto⟩
  go_wp2_with fail
  go_end0
  exact ⟨rfl, .after (((((hf1.trans (.of_below hb2)).trans hf3).trans (.of_below hb4)).trans hf5).trans hf6) hto⟩
set_option maxRecDepth 100000 in
set_option maxHeartbeats 400000 in
theorem turn_go0 {B b : Nat} {w : World} {M : EM} {E : EA} (h : Em B w b M E) (he : E.er = 0) (p : Int) (hp : p = 1 ∨ p = 3 ∨ p = 5 ∨ p = 6) (hl : E.empty.state.g 2 = p) (hpe : (E.next0 p).pe = []) (hr : (E.next0 p).rest)
    (h7 : (E.next0 p).er = 0 → (E.next0 p).s.g 2 ≠ 7) :
    Calls Tryz.prog 84 #[.pointer (some ⟨b, 0, none⟩)] w fun e w' => e = .returned (.tuple #[]) ∧ EmTo B w b (E.next0 p) w' := by
  have hN := turn_next0 h he p hp hl hpe hr
  have H7 := hide h7
  clear hp hl hpe hr he h7
  go_enter Tryz.func84, Tryz.ntmps84
  go_wp2_with fail
  refine hN.mono ?_
  rintro e w1 ⟨rfl, M1, hm1, hf1⟩
  clear hN
  go_wp2_with fail
  go_loopw [] (fun wr => wr = w1) (fun _ => 0)
  case atStart => exact rfl
  case round =>
    subst hrel
    rcases errV_cases (E.next0 p).er with ⟨hE, he⟩ | ⟨hE, he⟩
    · have h7 := unhide H7 hE
      have hst : (E.next0 p).state = (E.next0 p).s := by rw [EA.state, if_pos hE]
      clear hE
      go_wp2_with fail
      refine (em_err hm1).mono ?_
      rintro e w' ⟨rfl, rfl⟩
      go_wp2_with fail
      refine (em_state hm1).mono ?_
      rintro e w2 ⟨S2, rfl, hS2, hb2⟩
      rw [hst] at hS2
      have h72 : S2.g 2 ≠ 7 := by rw [hS2.g]; exact h7
      clear h7 hS2 hst
      go_wp2_with fail
      refine (turn_over0 S2 h72 _).mono ?_
      rintro e w3 ⟨rfl, hb3⟩
      go_wp2_with fail
      go_end0
      exact ⟨rfl, M1, hm1.below (hb2.trans (hb3.mono hb2.size)), hf1.trans (.of_below (hb2.trans (hb3.mono hb2.size)))⟩
    · clear hE
      go_wp2_with fail
      refine (em_err hm1).mono ?_
      rintro e w' ⟨rfl, rfl⟩
      go_wp2_with fail
      go_end0
      exact ⟨rfl, M1, hm1, hf1⟩
end Go.Proofs.YtpfnmnpdaacjmaaGreatDoor
