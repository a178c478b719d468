/-
  The chapter's example: its states and its events.
-/
import Derived.Test.YtpfnmnpdaacjmaaGreatDoorPlay
namespace Go.Proofs.YtpfnmnpdaacjmaaGreatDoor
open Go.RowKit

def P0 : Nat → Int := upd (upd (fun _ => 0) 0 20) 9 20
def G0 : Nat → Int := upd (fun _ => 0) 2 1
def s0 : St := ⟨[], fun _ => [], P0, G0⟩
def s1 : St := ⟨[], fun _ => [], P0, upd (upd G0 4 1) 3 1⟩
def s2 : St := ⟨[], fun _ => [], P0, upd (upd (upd (upd (upd G0 4 1) 3 1) 2 2) 3 0) 4 0⟩
def s3 : St := ⟨[], fun _ => [], P0, upd G0 2 2⟩
def ev1 : List Ev := [⟨4, 0, 4, 0, 1, 0⟩, ⟨4, 0, 3, 0, 1, 0⟩]
def ev2 : List Ev := [⟨4, 0, 2, 1, 2, 0⟩, ⟨4, 0, 3, 1, 0, 0⟩, ⟨4, 0, 4, 1, 0, 0⟩]
theorem new0 : EA.new s0 [] = ⟨s0, [], [], [], 0⟩ := by kernel_rfl
theorem new1 : EA.new s1 [] = ⟨s1, [], [], [], 0⟩ := by kernel_rfl
theorem pass0 : ((EA.new s0 []).game 4 1).game 3 (foeI ((EA.new s0 []).s.g 3)) = ⟨s1, [], ev1, [], 0⟩ := by kernel_rfl
theorem pass1 : (EA.new s1 []).next0 1 = ⟨s2, [], ev2, [], 0⟩ := by kernel_rfl
theorem net12 : netOf (ev1 ++ ev2) = [⟨4, 0, 2, 1, 2, 0⟩] := by kernel_rfl
theorem run12 : runAt s0 [⟨4, 0, 2, 1, 2, 0⟩] 0 = (0, 1, s3) := by kernel_rfl
theorem few_nil (p g : Nat → Int) : Few ⟨[], fun _ => [], p, g⟩ := ⟨by simp, fun _ _ => by simp⟩
theorem chk0 : stCheck s0 = 0 := by kernel_rfl
theorem chk1 : stCheck s1 = 0 := by kernel_rfl
theorem chk3 : stCheck s3 = 0 := by kernel_rfl
def stN : Nat → St | 0 => s0 | 1 => s1 | _ => s2
def esN : Nat → List Ev | 0 => ev1 | _ => ev2
theorem lt2 {P : Nat → Prop} (h0 : P 0) (h1 : P 1) : ∀ j, j < 2 → P j
  | 0, _ => h0
  | 1, _ => h1
  | j + 2, h => absurd h (by omega)
theorem passes2 : Passes [] 2 stN esN := by
  refine ⟨lt2 (few_nil _ _) (few_nil _ _), lt2 chk0 chk1, lt2 rfl rfl, lt2 rfl rfl, lt2 ⟨⟨s1, [], ev1, [], 0⟩, rfl, rfl, rfl, fun B b w M h => ?_⟩ ⟨⟨s2, [], ev2, [], 0⟩, rfl, rfl, rfl, fun B b w M h => ?_⟩⟩
  · have hp := dec_passA h (by rw [show stN 0 = s0 from rfl, new0]) (by rw [show stN 0 = s0 from rfl, new0]; rfl) (by rw [show stN 0 = s0 from rfl, new0]; rfl)
    rw [show stN 0 = s0 from rfl, pass0] at hp
    exact hp
  · have hp := dec_passB h (by rw [show stN 1 = s1 from rfl, new1]) (by rw [show stN 1 = s1 from rfl, new1]; rfl) (by rw [show stN 1 = s1 from rfl, new1]; decide) (by rw [show stN 1 = s1 from rfl, new1]; rfl) 1 (.inl rfl)
      (by rw [show stN 1 = s1 from rfl]; kernel_rfl) (by rw [show stN 1 = s1 from rfl, pass1]) (by rw [show stN 1 = s1 from rfl, pass1]; exact fun _ => ⟨rfl, by kernel_rfl⟩) (by rw [show stN 1 = s1 from rfl, pass1]; exact fun _ => by decide)
    rw [show stN 1 = s1 from rfl, pass1] at hp
    exact hp
end Go.Proofs.YtpfnmnpdaacjmaaGreatDoor
