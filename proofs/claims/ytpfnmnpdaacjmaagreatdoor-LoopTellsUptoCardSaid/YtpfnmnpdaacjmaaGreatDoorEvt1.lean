/-
  event: which events may be, an event undone, the object that an event makes.
-/
import Derived.Test.YtpfnmnpdaacjmaaGreatDoorState
namespace Go.Proofs.YtpfnmnpdaacjmaaGreatDoor
open Go.RowKit

def inB (n e : Int) : Bool := decide (0 ≤ n) && decide (n < e)
set_option maxHeartbeats 400000 in
theorem ev_in (n e : Int) (w : World) : Calls Tryz.prog 75 #[.int .i64 n, .int .i64 e] w fun r w' => r = .returned (.bool (inB n e)) ∧ w = w' := by
  go_enter Tryz.func75, Tryz.ntmps75
  go_wp2
  all_goals
    go_ret
    simp [inB, *]
    try omega
def evMakes (x : Ev) : Bool := x.k == 0 || x.k == 5
def evSets (x : Ev) : Bool := x.k == 2 || x.k == 3 || x.k == 4
set_option maxHeartbeats 400000 in
theorem ev_makes (x : Ev) (w : World) : Calls Tryz.prog 104 #[.agg (evA x)] w fun r w' => r = .returned (.bool (evMakes x)) ∧ Below w.heap.size w w' := by
  go_enter Tryz.func104, Tryz.ntmps104
  go_wp2
  all_goals
    go_ret
    refine ⟨?_, (Below.refl _ _).alloc (Nat.le_refl _) _⟩
    simp [evMakes, *]
set_option maxHeartbeats 400000 in
theorem ev_sets (x : Ev) (w : World) : Calls Tryz.prog 56 #[.agg (evA x)] w fun r w' => r = .returned (.bool (evSets x)) ∧ Below w.heap.size w w' := by
  go_enter Tryz.func56, Tryz.ntmps56
  go_wp2
  all_goals
    go_ret
    refine ⟨?_, (Below.refl _ _).alloc (Nat.le_refl _) _⟩
    simp [evSets, *]
def evSpare (x : Ev) : Bool := if evMakes x then x.d == 0 && x.e == 0 else if x.k == 1 then true else x.e == 0 && (x.k != 4 || x.a == 0)
set_option maxHeartbeats 400000 in
theorem ev_spare (x : Ev) (w : World) : Calls Tryz.prog 76 #[.agg (evA x)] w fun r w' => r = .returned (.bool (evSpare x)) ∧ Below w.heap.size w w' := by
  have hb0 : Below w.heap.size w (w.alloc (.cells (evA x) 89)) := (Below.refl _ _).alloc (Nat.le_refl _) _
  go_enter Tryz.func76, Tryz.ntmps76
  go_wp2_with fail
  refine (ev_makes _ _).mono ?_
  rintro e w1 ⟨rfl, hb1⟩
  obtain ⟨e1, c1, f1⟩ := Blk.all ((Blk.new w 89 (evA x)).below hb1 (by simp))
  have hb := hb0.trans (hb1.mono (by simp))
  cases hm : evMakes x
  all_goals
    go_wp2_with fail
    all_goals
      go_ret
      refine ⟨?_, hb⟩
      simp [evSpare, *]
def evSmall (x : Ev) : Bool := decide (-1073741824 ≤ x.d) && decide (x.d ≤ 1073741824)
def evRanges (x : Ev) : Bool :=
  if x.k == 0 || x.k == 5 then inB x.a 120 && inB x.b 2 && inB x.c 3
  else if x.k == 1 then decide (0 ≤ x.a) && inB x.b 11 && inB x.d 11 && decide (0 ≤ x.c) && decide (0 ≤ x.e)
  else if x.k == 2 then decide (0 ≤ x.a) && inB x.b 18 && x.b != 3 && evSmall x
  else if x.k == 3 then inB x.a 2 && inB x.b 9 && evSmall x
  else inB x.b 7 && evSmall x
set_option maxRecDepth 100000 in
set_option maxHeartbeats 1000000 in
theorem ev_ranges (x : Ev) (w : World) : Calls Tryz.prog 77 #[.agg (evA x)] w fun r w' => r = .returned (.bool (evRanges x)) ∧ Below w.heap.size w w' := by
  go_enter Tryz.func77, Tryz.ntmps77
  go_upto_region 1 with fail
  go_cut [3] (fun v wx => v = .bool (evSmall x) ∧ wx = w.alloc (.cells (evA x) 89))
  case first =>
    go_wp2_with fail
    all_goals (go_meet; exact ⟨by simp [evSmall, *]; try omega, rfl⟩)
  case rest =>
    obtain ⟨rfl, rfl⟩ := hcut
    go_wp2_with (go_at_call 75; refine (ev_in _ _ _).mono ?_; rintro e w' ⟨rfl, rfl⟩)
    all_goals
      go_ret
      refine ⟨?_, (Below.refl _ _).alloc (Nat.le_refl _) _⟩
      simp [evRanges, *]
      try (intros; omega)
def evCheck (x : Ev) : Int := if !inB x.k 6 then 6 else if !evSpare x then 2 else if !evRanges x then 1 else 0
set_option maxHeartbeats 400000 in
theorem ev_check (x : Ev) (w : World) : Calls Tryz.prog 54 #[.agg (evA x)] w fun r w' => r = .returned (errV (evCheck x)) ∧ Below w.heap.size w w' := by
  have hb0 : Below w.heap.size w (w.alloc (.cells (evA x) 89)) := (Below.refl _ _).alloc (Nat.le_refl _) _
  go_enter Tryz.func54, Tryz.ntmps54
  go_wp2_with fail
  refine (ev_in _ _ _).mono ?_
  rintro e w1 ⟨rfl, rfl⟩
  cases h1 : inB x.k 6
  · go_wp2_with fail
    go_ret
    refine ⟨?_, hb0⟩
    simp only [evCheck, h1]; rfl
  · go_wp2_with fail
    refine (ev_spare _ _).mono ?_
    rintro e w1 ⟨rfl, hb1⟩
    obtain ⟨e1, c1, f1⟩ := Blk.all ((Blk.new w 89 (evA x)).below hb1 (by simp))
    have hb := hb0.trans (hb1.mono (by simp))
    cases h2 : evSpare x
    · go_wp2_with fail
      go_ret
      refine ⟨?_, hb⟩
      simp only [evCheck, h1, h2]; rfl
    · go_wp2_with fail
      refine (ev_ranges _ _).mono ?_
      rintro e w2 ⟨rfl, hb2⟩
      have hb' := hb.trans (hb2.mono hb.size)
      cases h3 : evRanges x
      all_goals
        go_wp2_with fail
        go_ret
        refine ⟨?_, hb'⟩
        simp only [evCheck, h1, h2, h3]; rfl
def evMade (x : Ev) : Ob := fun f => match f with | 0 => x.a | 1 => x.b | 2 => x.b | 13 => x.c | 3 => 10 | 17 => 3 | _ => 0
set_option maxHeartbeats 400000 in
theorem ev_made (x : Ev) (w : World) : Calls Tryz.prog 100 #[.agg (evA x)] w fun r w' => r = .returned (.agg (obA (evMade x))) ∧ Below w.heap.size w w' := by
  go_enter Tryz.func100, Tryz.ntmps100
  go_wp2_with fail
  refine ret_cell rfl rfl (heap_alloc2_new w _ _) Tryz.underlying74 rfl (by kernel_rfl) rfl ?_
  exact ⟨rfl, ((Below.refl _ _).alloc (Nat.le_refl _) _).alloc (by simp) _⟩
def evInvert (x : Ev) : Ev :=
  if x.k == 0 then { x with k := 5 } else if x.k == 5 then { x with k := 0 } else if x.k == 1 then ⟨x.k, x.a, x.d, x.e, x.b, x.c⟩ else if evSets x then ⟨x.k, x.a, x.b, x.d, x.c, x.e⟩ else x

/-- What a call leaves that writes one block alone. -/
def Only (b : Nat) (w w' : World) : Prop := w.grownBy w' (some b)
theorem Only.of_below {b : Nat} {w w' : World} (h : Below w.heap.size w w') : Only b w w' := ⟨h.os, h.tape, h.output, h.size, fun k hk _ => h.block k hk⟩
theorem Only.refl (b : Nat) (w : World) : Only b w w := .of_below (Below.refl _ _)
theorem Only.trans {b : Nat} {w w' w'' : World} (h : Only b w w') (k : Only b w' w'') : Only b w w'' :=
  ⟨k.os.trans h.os, k.tape.trans h.tape, k.output.trans h.output, Nat.le_trans h.size k.size, fun i hi hne => (k.block i (Nat.lt_of_lt_of_le hi h.size) hne).trans (h.block i hi hne)⟩
theorem Only.set_ {b : Nat} {w w' : World} (h : Only b w w') (o : Nat) (v : Value) : Only b w (w'.setCell ⟨b, o, none⟩ v) :=
  h.trans ⟨rfl, rfl, rfl, by simp, fun i _ hne => Below.heap_setCell _ _ _ _ (fun e => hne (by rw [e]))⟩
theorem Only.setOwn {b : Nat} {w w' : World} (h : Only b w w') {p : Addr} (hp : w.heap.size ≤ p.block) (v : Value) : Only b w (w'.setCell p v) :=
  ⟨h.os, h.tape, h.output, by simpa using h.size, fun i hi hne => (Below.heap_setCell _ _ _ _ (by omega)).trans (h.block i hi hne)⟩
theorem Only.blk {b k : Nat} {w w' : World} {t : TypeId} {cs : Array Value} (h : Only b w w') (hb : Blk w k t cs) (hk : k ≠ b) : Blk w' k t cs :=
  (h.block k hb.lt (by simpa using hk)).trans hb
theorem Only.fr {B b : Nat} {w w' : World} {t : TypeId} {cs : Array Value} (h : Only b w w') (hb : Blk w b t cs) (hT : immT t = false) (hB : B ≤ b) : Fr B w w' :=
  ⟨h.os, h.tape, h.output, h.size, fun k hk hs => h.block k hk (by
    rintro ⟨rfl⟩
    rcases hs with hs | ⟨cs', T, fr, hb', hT'⟩
    · omega
    · unfold Blk at hb
      rw [hb] at hb'
      injection hb' with hb'
      injection hb' with _ ht
      subst ht
      rw [hT] at hT'
      cases hT')⟩
theorem Only.drew {b : Nat} {w w' : World} (h : Only b w w') : Only b w w'.drew := ⟨h.os, h.tape, h.output, h.size, h.block⟩
theorem Only.alloc {b : Nat} {w w' : World} (h : Only b w w') (o : Obj) : Only b w (w'.alloc o) := h.trans (.of_below ((Below.refl _ _).alloc (Nat.le_refl _) _))

theorem Only.drewN {b : Nat} {w w' : World} (h : Only b w w') (n : Nat) : Only b w (w'.drewN n) := ⟨h.os, h.tape, h.output, h.size, h.block⟩
theorem below_drewN {B : Nat} {a w : World} (h : Below B a w) (n : Nat) : Below B a (w.drewN n) := ⟨h.os, h.tape, h.output, h.size, h.block⟩
set_option maxHeartbeats 1000000 in
theorem ev_set (x : Ev) (b o : Nat) (T : TypeId) (cs : Array Value) (v : Int) (w : World) (hb : Blk w b T cs) (hv : cs[o]? = some (.int .i64 v)) :
    Calls Tryz.prog 74 #[.pointer (some ⟨b, o, none⟩), .agg (evA x)] w fun r w' =>
      (v ≠ x.c ∧ r = .returned (errV 20) ∧ Below w.heap.size w w') ∨ (v = x.c ∧ r = .returned .nilIface ∧ Blk w' b T (cs.setIfInBounds o (.int .i64 x.d)) ∧ Only b w w') := by
  obtain ⟨e1, c1, f1⟩ := Blk.all hb
  have hlt := hb.lt
  cases hc : (v != x.c)
  · have hc' : v = x.c := by simpa using hc
    have Hc' := hide hc'
    clear hc'
    go_enter Tryz.func74, Tryz.ntmps74
    go_wp2_with fail
    go_quiet (fail)
    go_wp2_with fail
    go_ret
    exact .inr ⟨unhide Hc', rfl, Blk.set_ ((hb.alloc _).drewN _) o _, (((Only.refl b w).alloc _).drewN _).set_ o _⟩
  · have hc' : v ≠ x.c := by simpa using hc
    have Hc' := hide hc'
    clear hc'
    go_enter Tryz.func74, Tryz.ntmps74
    go_wp2_with fail
    go_quiet (fail)
    go_wp2_with fail
    go_ret
    exact .inl ⟨unhide Hc', rfl, below_drewN ((Below.refl _ _).alloc (Nat.le_refl _) _) _⟩
end Go.Proofs.YtpfnmnpdaacjmaaGreatDoor
