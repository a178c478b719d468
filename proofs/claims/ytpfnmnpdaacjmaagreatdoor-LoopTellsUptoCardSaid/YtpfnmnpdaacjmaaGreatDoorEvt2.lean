/-
  event.Do at the kinds that set a number of a player or of the game.
-/
import Derived.Test.YtpfnmnpdaacjmaaGreatDoorEmit1
namespace Go.Proofs.YtpfnmnpdaacjmaaGreatDoor
open Go.RowKit

/-- A place in memory that holds a state: a variable of its own, or the emitter's field. -/
structure PlOK (arr : SV → Array Value) : Prop where
  size : ∀ S, 37 ≤ (arr S).size
  o : ∀ S, (arr S)[0]? = some S.o.v
  l : ∀ S z, z < 11 → (arr S)[1 + z]? = some (S.l z).v
  p : ∀ S z, z < 18 → (arr S)[12 + z]? = some (.int .i64 (S.p z))
  g : ∀ S z, z < 7 → (arr S)[30 + z]? = some (.int .i64 (S.g z))
  setO : ∀ S (x : Sl), (arr S).setIfInBounds 0 x.v = arr { S with o := x }
  setL : ∀ S z, z < 11 → ∀ x : Sl, (arr S).setIfInBounds (1 + z) x.v = arr { S with l := upd S.l z x }
  setP : ∀ S z, z < 18 → ∀ x, (arr S).setIfInBounds (12 + z) (.int .i64 x) = arr { S with p := upd S.p z x }
  setG : ∀ S z, z < 7 → ∀ x, (arr S).setIfInBounds (30 + z) (.int .i64 x) = arr { S with g := upd S.g z x }
  st : ∀ S, (arr S).extract 0 37 = stA S
theorem plOK_st : PlOK stA := ⟨fun _ => by simp, fun _ => rfl, stA_l, stA_p, stA_g, stA_setO, stA_setL, stA_setP, stA_setG, stA_all⟩
theorem plOK_em (M : EM) : PlOK (fun S => emA { M with S := S }) :=
  ⟨fun _ => by rw [emA_size]; omega, fun _ => rfl, fun S z h => emA_l _ z h, fun S z h => emA_p _ z h, fun S z h => emA_g _ z h, fun _ _ => rfl, fun S z h x => emA_setL _ z h x, fun S z h x => emA_setP _ z h x, fun S z h x => emA_setG _ z h x, fun S => emA_st _⟩

set_option maxRecDepth 100000 in
set_option maxHeartbeats 1000000 in
theorem ev_do_game {B : Nat} {S : SV} {s : St} {w : World} {arr : SV → Array Value} (hP : PlOK arr) {b : Nat} {T : TypeId} (h : RdS B w S s) (hb : Blk w b T (arr S)) (x : Ev) (hk : x.k = 4) (hc : evCheck x = 0) (hz : 0 ≤ x.b) (hz7 : x.b < 7) :
    Calls Tryz.prog 53 #[.pointer (some ⟨b, 0, none⟩), .agg (evA x)] w fun r w' =>
      (s.g x.b.toNat ≠ x.c ∧ r = .returned (errV 20) ∧ Below w.heap.size w w') ∨
      (s.g x.b.toNat = x.c ∧ r = .returned .nilIface ∧ Blk w' b T (arr { S with g := upd S.g x.b.toNat x.d }) ∧ Only b w w') := by
  obtain ⟨z, hzz⟩ := Int.eq_ofNat_of_zero_le hz
  have hz7' : z < 7 := by omega
  have hzi : (z : Int) < 7 := by omega
  have hg := hP.g S z hz7'
  have hset := hP.setG S z hz7' x.d
  have hgs : S.g = s.g := h.g
  rw [hzz, Int.toNat_natCast, ← hgs]
  have Hset := hide hset
  have hlt := hb.lt
  have Hzz := hide hzz
  have Hk := hide hk
  have hk0 : (x.k == 0) = false := by rw [hk]; rfl
  have hk5 : (x.k == 5) = false := by rw [hk]; rfl
  have hk1 : (x.k == 1) = false := by rw [hk]; rfl
  have hk2 : (x.k == 2) = false := by rw [hk]; rfl
  have hk3 : (x.k == 3) = false := by rw [hk]; rfl
  clear hset hgs hk hz hz7
  have hbl0 : Below w.heap.size w (w.alloc (.cells (evA x) 89)) := (Below.refl _ _).alloc (Nat.le_refl _) _
  have he0 : errV (evCheck x) = .nilIface := errV_zero hc
  clear hc
  go_enter Tryz.func53, Tryz.ntmps53
  go_wp2_with fail
  refine (ev_check _ _).mono ?_
  rintro e w1 ⟨rfl, hb1⟩
  have hbl1 := hbl0.trans (hb1.mono (by simp))
  have hk1' := (Blk.new w 89 (evA x)).below hb1 (by simp)
  obtain ⟨e1, c1, f1⟩ := Blk.all hk1'
  have hbb := hb.below hbl1 hb.lt
  obtain ⟨e2, c2, f2⟩ := Blk.all hbb
  have hlt1 := hbb.lt
  go_wp2_with fail
  refine region_tail 7 (by kernel_rfl) (by kernel_rfl) ?_
  simp only [List.take_succ_cons, List.take_zero, List.drop_succ_cons, List.drop_zero]
  have hzz := unhide Hzz
  iterate 7 still_step
  refine wpStill_nil ?_
  go_wp2_with fail
  refine (ev_set x b (30 + z) T (arr S) _ _ (hbb.drew) hg).mono ?_
  have hbd : Below w.heap.size w w1.drew := hbl1.drew
  rintro e w2 (⟨hne, rfl, hb2⟩ | ⟨heq, rfl, hbk, ho⟩)
  · have Hne := hide hne
    clear hne
    go_wp2_with fail
    go_ret
    exact .inl ⟨unhide Hne, rfl, hbd.trans (hb2.mono hbd.size)⟩
  · have Heq := hide heq
    clear heq
    go_wp2_with fail
    go_ret
    refine .inr ⟨unhide Heq, rfl, ?_, (Only.of_below hbd).trans ho⟩
    rw [unhide Hset] at hbk
    exact hbk
set_option maxRecDepth 100000 in
set_option maxHeartbeats 1000000 in
theorem ev_do_player {B : Nat} {S : SV} {s : St} {w : World} {arr : SV → Array Value} (hP : PlOK arr) {b : Nat} {T : TypeId} (h : RdS B w S s) (hb : Blk w b T (arr S)) (x : Ev) (hk : x.k = 3) (hc : evCheck x = 0) (hy : 0 ≤ x.a) (hy2 : x.a < 2) (hz : 0 ≤ x.b) (hz9 : x.b < 9) :
    Calls Tryz.prog 53 #[.pointer (some ⟨b, 0, none⟩), .agg (evA x)] w fun r w' =>
      (s.p (9 * x.a.toNat + x.b.toNat) ≠ x.c ∧ r = .returned (errV 20) ∧ Below w.heap.size w w') ∨
      (s.p (9 * x.a.toNat + x.b.toNat) = x.c ∧ r = .returned .nilIface ∧ Blk w' b T (arr { S with p := upd S.p (9 * x.a.toNat + x.b.toNat) x.d }) ∧ Only b w w') := by
  obtain ⟨z, hzz⟩ := Int.eq_ofNat_of_zero_le hz
  obtain ⟨y, hyy⟩ := Int.eq_ofNat_of_zero_le hy
  have hz9' : z < 9 := by omega
  have hy2' : y < 2 := by omega
  have hzi : (z : Int) < 9 := by omega
  have hyi : (y : Int) < 2 := by omega
  have hg := hP.p S (9 * y + z) (by omega)
  have hset := hP.setP S (9 * y + z) (by omega) x.d
  rw [show 12 + (9 * y + z) = 12 + y * 9 + z from by omega] at hg hset
  have hgs : S.p = s.p := h.p
  rw [hzz, hyy, Int.toNat_natCast, Int.toNat_natCast, ← hgs]
  have Hyy := hide hyy
  have Hset := hide hset
  have hlt := hb.lt
  have Hzz := hide hzz
  have Hk := hide hk
  have hk0 : (x.k == 0) = false := by rw [hk]; rfl
  have hk5 : (x.k == 5) = false := by rw [hk]; rfl
  have hk1 : (x.k == 1) = false := by rw [hk]; rfl
  have hk2 : (x.k == 2) = false := by rw [hk]; rfl
  have hk3 : (x.k == 3) = true := by rw [hk]; rfl
  clear hset hgs hk hz hz9 hy hy2
  have hbl0 : Below w.heap.size w (w.alloc (.cells (evA x) 89)) := (Below.refl _ _).alloc (Nat.le_refl _) _
  have he0 : errV (evCheck x) = .nilIface := errV_zero hc
  clear hc
  go_enter Tryz.func53, Tryz.ntmps53
  go_wp2_with fail
  refine (ev_check _ _).mono ?_
  rintro e w1 ⟨rfl, hb1⟩
  have hbl1 := hbl0.trans (hb1.mono (by simp))
  have hk1' := (Blk.new w 89 (evA x)).below hb1 (by simp)
  obtain ⟨e1, c1, f1⟩ := Blk.all hk1'
  have hbb := hb.below hbl1 hb.lt
  obtain ⟨e2, c2, f2⟩ := Blk.all hbb
  have hlt1 := hbb.lt
  go_wp2_with fail
  refine region_tail 10 (by kernel_rfl) (by kernel_rfl) ?_
  simp only [List.take_succ_cons, List.take_zero, List.drop_succ_cons, List.drop_zero]
  have hzz := unhide Hzz
  have hyy := unhide Hyy
  iterate 10 still_step
  refine wpStill_nil ?_
  go_wp2_with fail
  refine (ev_set x b (12 + y * 9 + z) T (arr S) _ _ (hbb.drew) hg).mono ?_
  have hbd : Below w.heap.size w w1.drew := hbl1.drew
  rintro e w2 (⟨hne, rfl, hb2⟩ | ⟨heq, rfl, hbk, ho⟩)
  · have Hne := hide hne
    clear hne
    go_wp2_with fail
    go_ret
    exact .inl ⟨unhide Hne, rfl, hbd.trans (hb2.mono hbd.size)⟩
  · have Heq := hide heq
    clear heq
    go_wp2_with fail
    go_ret
    refine .inr ⟨unhide Heq, rfl, ?_, (Only.of_below hbd).trans ho⟩
    rw [unhide Hset] at hbk
    exact hbk

/-! What an event does to a state: an error's number, and the state. -/
def evMove (s : St) (x : Ev) : Int × St :=
  if (s.o.length : Int) ≤ x.a then (4, s) else
  let b := x.b.toNat
  if ((s.l b).length : Int) ≤ x.c || (s.l b).getD x.c.toNat 0 != x.a then (20, s) else
  let rest := (s.l b).eraseIdx x.c.toNat
  let dst := if x.d == x.b then rest else s.l x.d.toNat
  if (dst.length : Int) < x.e then (1, s) else
  (0, { s with l := upd (upd s.l b rest) x.d.toNat (dst.take x.e.toNat ++ x.a :: dst.drop x.e.toNat), o := s.o.modify x.a.toNat fun o => upd o 3 x.d })
def evDo (s : St) (x : Ev) : Int × St :=
  if evCheck x != 0 then (evCheck x, s) else
  if x.k == 0 then (if 400 ≤ s.o.length then (5, s) else (0, { s with l := upd s.l 10 (s.l 10 ++ [(s.o.length : Int)]), o := s.o ++ [evMade x] })) else
  if x.k == 5 then
    (if s.o.length = 0 ∨ (s.l 10).getLast? ≠ some (s.o.length - 1 : Int) ∨ (List.range 18).any (fun f => (s.o.getD (s.o.length - 1) fun _ => 0) f != evMade x f) then (20, s)
      else (0, { s with o := s.o.dropLast, l := upd s.l 10 (s.l 10).dropLast })) else
  if x.k == 1 then evMove s x else
  if x.k == 2 then (if (s.o.length : Int) ≤ x.a then (4, s) else if (s.o.getD x.a.toNat fun _ => 0) x.b.toNat != x.c then (20, s) else (0, { s with o := s.o.modify x.a.toNat fun o => upd o x.b.toNat x.d })) else
  if x.k == 3 then (if s.p (9 * x.a.toNat + x.b.toNat) != x.c then (20, s) else (0, { s with p := upd s.p (9 * x.a.toNat + x.b.toNat) x.d })) else
  (if s.g x.b.toNat != x.c then (20, s) else (0, { s with g := upd s.g x.b.toNat x.d }))
/-- event.Do does this at the event x. -/
def DoOK (x : Ev) : Prop := ∀ (B : Nat) (S : SV) (s : St) (w : World) (arr : SV → Array Value), PlOK arr → ∀ (b : Nat) (T : TypeId), RdS B w S s → Few s → Blk w b T (arr S) → immT T = false → B ≤ b →
  Calls Tryz.prog 53 #[.pointer (some ⟨b, 0, none⟩), .agg (evA x)] w fun r w' => r = .returned (errV (evDo s x).1) ∧ ∃ S', Blk w' b T (arr S') ∧ RdS B w' S' (evDo s x).2 ∧ Only b w w'
set_option maxRecDepth 100000 in
set_option maxHeartbeats 400000 in
/-- An event that may not be is refused. -/
theorem doOK_bad (x : Ev) (hc : evCheck x ≠ 0) : DoOK x := by
  intro B S s w arr hP b T h hf hb hT hB
  have hd : evDo s x = (evCheck x, s) := by rw [evDo, if_pos (by simpa using hc)]
  rw [hd]
  have hbl0 : Below w.heap.size w (w.alloc (.cells (evA x) 89)) := (Below.refl _ _).alloc (Nat.le_refl _) _
  have he0 := errV_ne hc
  have He := hide he0
  clear hc hd
  go_enter Tryz.func53, Tryz.ntmps53
  go_wp2_with fail
  refine (ev_check _ _).mono ?_
  rintro e w1 ⟨rfl, hb1⟩
  have hbl1 := hbl0.trans (hb1.mono (by simp))
  go_wp2_with fail
  go_ret
  exact ⟨by rw [unhide He]; rfl, S, hb.below hbl1 hb.lt, h.fr (.of_below hbl1), .of_below hbl1⟩
theorem doOK_game (x : Ev) (hk : x.k = 4) : DoOK x := by
  by_cases hc : evCheck x = 0
  · intro B S s w arr hP b T h hf hb hT hB
    have hin : inB x.b 7 = true := by
      unfold evCheck at hc
      have h1 : inB x.k 6 = true := by rw [hk]; rfl
      cases h2 : evSpare x <;> cases h3 : evRanges x <;> simp [h1, h2, h3] at hc
      simp [evRanges, hk] at h3
      exact h3.1
    simp only [inB, Bool.and_eq_true, decide_eq_true_eq] at hin
    refine (ev_do_game hP h hb x hk hc hin.1 hin.2).mono ?_
    rintro r w' (⟨hne, rfl, hbl⟩ | ⟨heq, rfl, hbk, ho⟩)
    · have hd : evDo s x = (20, s) := by simp [evDo, hc, hk, hne]
      rw [hd]
      exact ⟨rfl, S, hb.below hbl hb.lt, h.fr (.of_below hbl), .of_below hbl⟩
    · have hd : evDo s x = (0, { s with g := upd s.g x.b.toNat x.d }) := by simp [evDo, hc, hk, heq]
      rw [hd]
      have hfr := h.fr (ho.fr hb hT hB)
      exact ⟨rfl, _, hbk, ⟨hfr.bd, hfr.o, hfr.l, hfr.p, by rw [hfr.g]⟩, ho⟩
  · exact doOK_bad x hc
theorem doOK_player (x : Ev) (hk : x.k = 3) : DoOK x := by
  by_cases hc : evCheck x = 0
  · intro B S s w arr hP b T h hf hb hT hB
    have hin : inB x.a 2 = true ∧ inB x.b 9 = true := by
      unfold evCheck at hc
      have h1 : inB x.k 6 = true := by rw [hk]; rfl
      cases h2 : evSpare x <;> cases h3 : evRanges x <;> simp [h1, h2, h3] at hc
      simp [evRanges, hk] at h3
      exact ⟨h3.1.1, h3.1.2⟩
    simp only [inB, Bool.and_eq_true, decide_eq_true_eq] at hin
    refine (ev_do_player hP h hb x hk hc hin.1.1 hin.1.2 hin.2.1 hin.2.2).mono ?_
    rintro r w' (⟨hne, rfl, hbl⟩ | ⟨heq, rfl, hbk, ho⟩)
    · have hd : evDo s x = (20, s) := by simp [evDo, hc, hk, hne]
      rw [hd]
      exact ⟨rfl, S, hb.below hbl hb.lt, h.fr (.of_below hbl), .of_below hbl⟩
    · have hd : evDo s x = (0, { s with p := upd s.p (9 * x.a.toNat + x.b.toNat) x.d }) := by simp [evDo, hc, hk, heq]
      rw [hd]
      have hfr := h.fr (ho.fr hb hT hB)
      exact ⟨rfl, _, hbk, ⟨hfr.bd, hfr.o, hfr.l, by rw [hfr.p], hfr.g⟩, ho⟩
  · exact doOK_bad x hc
end Go.Proofs.YtpfnmnpdaacjmaaGreatDoor
