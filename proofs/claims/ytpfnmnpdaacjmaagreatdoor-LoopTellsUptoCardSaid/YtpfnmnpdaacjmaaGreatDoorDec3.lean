/-
  trigger: settling a state at rest.
-/
import Derived.Test.YtpfnmnpdaacjmaaGreatDoorDec2
namespace Go.Proofs.YtpfnmnpdaacjmaaGreatDoor
open Go.RowKit

set_option maxHeartbeats 400000 in
theorem sort_ins0 (a : Option Addr) (c : Nat) (f : Value) (w : World) : Calls Tryz.prog 231 #[.slice a 0 c, .int .i64 0, .int .i64 0, f] w fun e w' => e = .returned (.tuple #[]) ∧ w = w' := by
  go_enter Tryz.func231, Tryz.ntmps231
  go_wp2_with fail
  go_loopw [8] (fun x wr => x = .int .i64 1 ∧ wr = w) (fun _ _ => 0)
  case atStart => exact ⟨rfl, rfl⟩
  case round =>
    obtain ⟨rfl, rfl⟩ := hrel
    go_wp2_with fail
    go_end0
    exact ⟨rfl, rfl⟩
set_option maxRecDepth 100000 in
set_option maxHeartbeats 400000 in
theorem sort_stable0 (a : Option Addr) (c : Nat) (f : Value) (w : World) : Calls Tryz.prog 201 #[.slice a 0 c, .int .i64 0, f] w fun e w' => e = .returned (.tuple #[]) ∧ w = w' := by
  go_enter Tryz.func201, Tryz.ntmps201
  go_wp2_with fail
  go_loopw [7, 8] (fun x y wr => x = .int .i64 0 ∧ y = .int .i64 20 ∧ wr = w) (fun _ _ _ => 0)
  case atStart => exact ⟨rfl, rfl, rfl⟩
  case round =>
    obtain ⟨rfl, rfl, hw⟩ := hrel
    obtain ⟨wo, rfl⟩ : ∃ wo, wo = wr := ⟨_, rfl⟩
    subst hw
    go_wp2_with fail
    refine (sort_ins0 a c f _).mono ?_
    rintro e w' ⟨rfl, rfl⟩
    go_wp2_with fail
    go_loopw [6] (fun x wr => x = .int .i64 20 ∧ wr = wo) (fun _ _ => 0)
    case atStart => exact ⟨rfl, rfl⟩
    case round =>
      obtain ⟨rfl, rfl⟩ := hrel
      go_wp2_with fail
      go_end0
      exact ⟨rfl, rfl⟩
set_option maxHeartbeats 400000 in
theorem sort_0 (a : Option Addr) (c : Nat) (f : Value) (w : World) : Calls Tryz.prog 156 #[.slice a 0 c, f] w fun e w' => e = .returned (.tuple #[]) ∧ w = w' := by
  go_enter Tryz.func156, Tryz.ntmps156
  go_wp2_with fail
  refine (sort_stable0 a c f _).mono ?_
  rintro e w' ⟨rfl, rfl⟩
  go_wp2_with fail
  go_end0
  exact ⟨rfl, rfl⟩
set_option maxHeartbeats 400000 in
theorem trig_put0 {B b : Nat} {w : World} {M : EM} {E : EA} (h : Em B w b M E) (a : Option Addr) (c : Nat) :
    Calls Tryz.prog 158 #[.pointer (some ⟨b, 0, none⟩), .slice a 0 c] w fun e w' => e = .returned (.int .i64 0) ∧ w = w' := by
  go_enter Tryz.func158, Tryz.ntmps158
  go_wp2_with fail
  go_loopw [9] (fun x wr => x = .int .i64 0 ∧ wr = w) (fun _ _ => 0)
  case atStart => exact ⟨rfl, rfl⟩
  case round =>
    obtain ⟨rfl, rfl⟩ := hrel
    rcases errV_cases E.er with ⟨hE, he⟩ | ⟨hE, he⟩
    all_goals
      clear hE
      go_wp2_with fail
      refine (em_err h).mono ?_
      rintro e w' ⟨rfl, rfl⟩
      go_wp2_with fail
      go_ret
      exact ⟨rfl, rfl⟩
theorem own_zero {w : World} {base : Nat} {e : TypeId} {size : Nat} {s : Sl} {xs : List Value} (h : w.ownsRow base e size s.v 0 xs) : ∃ a c, s.v = .slice a 0 c := by
  rcases h.2 with ⟨hv, _⟩ | ⟨g, cap, cur, hv, _⟩
  · exact ⟨_, _, hv⟩
  · exact ⟨_, _, hv⟩
theorem pend_nil {E : EA} (h : E.pe = []) : E.pending = [] := by unfold EA.pending; split <;> simp [h]
set_option maxRecDepth 100000 in
set_option maxHeartbeats 400000 in
theorem trig_flush0 {B b : Nat} {w : World} {M : EM} {E : EA} (h : Em B w b M E) (hp : E.pe = []) :
    Calls Tryz.prog 116 #[.pointer (some ⟨b, 0, none⟩)] w fun e w' => e = .returned (.int .i64 0) ∧ EmTo B w b E w' := by
  have hE : ({ E with pe := [] } : EA) = E := by cases E; simp only at hp; subst hp; rfl
  have hp0 := pend_nil hp
  clear hp
  go_enter Tryz.func116, Tryz.ntmps116
  go_wp2_with fail
  refine (em_state h).mono ?_
  rintro e w1 ⟨S', rfl, hS, hb1⟩
  have h1 := h.below hb1
  clear hS
  go_wp2_with fail
  refine (em_taken (h1.alloc _)).mono ?_
  rw [hE, hp0]
  rintro e w2 ⟨s, rfl, hs, M2, h2, hf2⟩
  obtain ⟨a, c, hv⟩ := own_zero hs
  rw [hv]
  clear hE hp0 hs hv
  go_wp2_with fail
  refine (sort_0 a c _ _).mono ?_
  rintro e w' ⟨rfl, rfl⟩
  go_wp2_with fail
  refine (trig_put0 h2 a c).mono ?_
  rintro e w' ⟨rfl, rfl⟩
  go_wp2_with fail
  go_ret
  exact ⟨rfl, .after (.of_below hb1) (EmTo.of_alloc ⟨M2, h2, hf2⟩)⟩
set_option maxRecDepth 100000 in
set_option maxHeartbeats 400000 in
theorem trig_settle0 {B b : Nat} {w : World} {M : EM} {E : EA} (h : Em B w b M E) (hp : E.pe = []) (hr : E.rest) :
    Calls Tryz.prog 83 #[.pointer (some ⟨b, 0, none⟩)] w fun e w' => e = .returned (.tuple #[]) ∧ EmTo B w b E w' := by
  have hE : ({ E with pe := [] } : EA) = E := by cases E; simp only at hp; subst hp; rfl
  have Hr := hide hr
  have Hp := hide hp
  clear hr hp
  go_enter Tryz.func83, Tryz.ntmps83
  go_wp2_with fail
  refine (em_state h).mono ?_
  rintro e w1 ⟨S', rfl, hS, hb1⟩
  have h1 := h.below hb1
  have hn : S'.o.n ≤ 16777216 := by
    have hl : S'.o.n = E.state.o.length := hS.o.len
    have hfew : E.state.o.length ≤ 16777216 := by unfold EA.state; split; exact h.few.o; simp [stZ]
    omega
  clear hS
  go_wp2_with fail
  refine (chk_fuel _ _ hn).mono ?_
  rintro e w2 ⟨rfl, hb2⟩
  have hq2 := hb1.trans (hb2.mono hb1.size)
  have h2 := h.below hq2
  go_wp2_with fail
  refine (chk_run0 h2 (unhide Hr) _).mono ?_
  rintro e w3 ⟨rfl, hb3⟩
  have hq3 := hq2.trans (hb3.mono hq2.size)
  have h3 := h.below hq3
  go_wp2_with fail
  refine (em_state h3).mono ?_
  rintro e w4 ⟨S4, rfl, hS4, hb4⟩
  have hq4 := hq3.trans (hb4.mono hq3.size)
  have h4 := h.below hq4
  clear hS4
  by_cases hg : S4.g 6 = 0
  · have hg' : (S4.g 6 != 0) = false := by simp [hg]
    clear hg
    go_wp2_with fail
    refine (trig_flush0 h4 (unhide Hp)).mono ?_
    rintro e w5 ⟨rfl, hto⟩
    go_wp2_with fail
    go_end0
    exact ⟨rfl, .after (.of_below hq4) hto⟩
  · have hg' : (S4.g 6 != 0) = true := by simp [hg]
    clear hg
    go_wp2_with fail
    refine (em_taken h4).mono ?_
    rw [hE]
    rintro e w5 ⟨s, rfl, hs, hto⟩
    clear hE hs
    go_wp2_with fail
    refine bodyPost_ret (results_none rfl _ _ _) rfl ?_
    exact ⟨rfl, .after (.of_below hq4) hto⟩
end Go.Proofs.YtpfnmnpdaacjmaaGreatDoor
