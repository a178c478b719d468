/-
  decide: a pass.
-/
import Derived.Test.YtpfnmnpdaacjmaaGreatDoorDec4
namespace Go.Proofs.YtpfnmnpdaacjmaaGreatDoor
open Go.RowKit

def foeI (n : Int) : Int := if n = 0 ∨ n = 1 then 1 - n else -1
theorem foe_I (n : Int) (w : World) : Calls Tryz.prog 81 #[.int .i64 n] w fun r w' => r = .returned (.int .i64 (foeI n)) ∧ w = w' := foe_ n w
theorem waits_self {E : EA} (he : E.er = 0) (hw : waitsB (E.s.g 2) = true) : E.waits = E := by
  rw [EA.waits, EA.state, if_pos he, hw]; rfl
set_option maxRecDepth 100000 in
set_option maxHeartbeats 400000 in
theorem dec_passA {B b : Nat} {w : World} {M : EM} {E : EA} (h : Em B w b M E) (he : E.er = 0) (hw : waitsB (E.s.g 2) = true) (h4 : E.s.g 4 = 0) :
    Calls Tryz.prog 63 #[.pointer (some ⟨b, 0, none⟩)] w fun e w' => e = .returned (.tuple #[]) ∧ EmTo B w b ((E.game 4 1).game 3 (foeI (E.s.g 3))) w' := by
  have hW := dec_waits h
  rw [waits_self he hw, show (E.er == 0) = true by simp [he]] at hW
  have hst : E.state = E.s := by rw [EA.state, if_pos he]
  clear he hw
  go_enter Tryz.func63, Tryz.ntmps63
  go_wp2_with fail
  refine hW.mono ?_
  rintro e w1 ⟨rfl, M1, hm1, hf1⟩
  clear hW
  go_wp2_with fail
  refine (em_state hm1).mono ?_
  rintro e w2 ⟨S2, rfl, hS2, hb2⟩
  rw [hst] at hS2
  have hg := hS2.g
  have h42 : (E.s.g 4 == 0) = true := by rw [h4]; rfl
  have hm2 := (hm1.below hb2).alloc (.cells (stA S2) 44)
  clear hS2 hst h4
  have hx := Blk.new w2 44 (stA S2)
  go_wp2_with fail
  refine (em_game hm2 4 1).mono ?_
  rintro e w3 ⟨rfl, M3, hm3, hf3⟩
  obtain ⟨e3, c3, f3⟩ := Blk.all (hf3.blk hx rfl)
  go_wp2_with fail
  refine (foe_I _ _).mono ?_
  rintro e w' ⟨rfl, rfl⟩
  go_wp2_with fail
  refine (em_game hm3 3 _).mono ?_
  rintro e w4 ⟨rfl, hto⟩
  go_wp2_with fail
  go_end0
  refine ⟨rfl, ?_⟩
  exact .after (((hf1.trans (.of_below hb2)).alloc _).trans hf3) hto
set_option maxRecDepth 100000 in
set_option maxHeartbeats 400000 in
theorem dec_passB {B b : Nat} {w : World} {M : EM} {E : EA} (h : Em B w b M E) (he : E.er = 0) (hw : waitsB (E.s.g 2) = true) (h4 : E.s.g 4 ≠ 0) (h9 : E.s.l 9 = [])
    (p : Int) (hp : p = 1 ∨ p = 3 ∨ p = 5 ∨ p = 6) (hl : E.empty.state.g 2 = p) (hpe : (E.next0 p).pe = []) (hr : (E.next0 p).rest) (h7 : (E.next0 p).er = 0 → (E.next0 p).s.g 2 ≠ 7) :
    Calls Tryz.prog 63 #[.pointer (some ⟨b, 0, none⟩)] w fun e w' => e = .returned (.tuple #[]) ∧ EmTo B w b (E.next0 p) w' := by
  have hW := dec_waits h
  rw [waits_self he hw, show (E.er == 0) = true by simp [he]] at hW
  have hst : E.state = E.s := by rw [EA.state, if_pos he]
  have hG := fun (w : World) (M : EM) (h : Em B w b M E) => turn_go0 h he p hp hl hpe hr h7
  clear he hw hp hl hpe hr h7
  go_enter Tryz.func63, Tryz.ntmps63
  go_wp2_with fail
  refine hW.mono ?_
  rintro e w1 ⟨rfl, M1, hm1, hf1⟩
  clear hW
  go_wp2_with fail
  refine (em_state hm1).mono ?_
  rintro e w2 ⟨S2, rfl, hS2, hb2⟩
  rw [hst] at hS2
  have h42 : (S2.g 4 == 0) = false := by rw [hS2.g]; simpa using h4
  have hn9 : (S2.l 9).n = 0 := by rw [(hS2.l 9 (by decide)).len, h9]; rfl
  have hm2 := (hm1.below hb2).alloc (.cells (stA S2) 44)
  clear hS2 hst h4 h9
  go_wp2_with fail
  refine (hG _ _ hm2).mono ?_
  rintro e w4 ⟨rfl, hto⟩
  go_wp2_with fail
  go_end0
  refine ⟨rfl, ?_⟩
  exact .after ((hf1.trans (.of_below hb2)).alloc _) hto
end Go.Proofs.YtpfnmnpdaacjmaaGreatDoor
