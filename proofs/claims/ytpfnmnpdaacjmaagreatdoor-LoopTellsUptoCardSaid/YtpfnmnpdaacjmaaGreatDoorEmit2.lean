/-
  The emitter's small methods: Err, Fail, must, State, Events, Pending, Taken.
-/
import Derived.Test.YtpfnmnpdaacjmaaGreatDoorEmit1
namespace Go.Proofs.YtpfnmnpdaacjmaaGreatDoor
open Go.RowKit

theorem Em.upd {B b : Nat} {w w' : World} {M M' : EM} {E E' : EA} (h : Em B w b M E) (ho : Only b w w') (hb : Blk w' b 126 (emA M')) (hS : RdS B w' M'.S E'.s) (hf : Few E'.s)
    (hd : M'.dr = M.dr ∧ E'.dr = E.dr) (he : M'.ev = M.ev ∧ E'.ev = E.ev) (hp : M'.pe = M.pe ∧ E'.pe = E.pe) (hr : M'.er = errV E'.er) : Em B w' b M' E' := by
  have hfr : Fr B w w' := ho.fr h.blk rfl h.hi
  refine ⟨hb, h.lo, h.hi, h.gl.fr hfr h.lo h.B, hS, hf, ?_, by rw [hd.2]; exact h.dn, ?_, by rw [he.2]; exact h.en, ?_, by rw [hp.2]; exact h.pn, hr⟩
  · rw [hd.1, hd.2]; exact h.dr.fr hfr
  · rw [he.1, he.2]; exact own_only h.ev ho h.blk (by decide)
  · rw [hp.1, hp.2]; exact own_only h.pe ho h.blk (by decide)
def EmTo (B : Nat) (w : World) (b : Nat) (E : EA) (w' : World) : Prop := ∃ M, Em B w' b M E ∧ EFr B w w'
theorem EmTo.self {B b : Nat} {w : World} {M : EM} {E : EA} (h : Em B w b M E) : EmTo B w b E w := ⟨M, h, EFr.refl _ _⟩
theorem EmTo.below {B b : Nat} {w w' : World} {M : EM} {E : EA} (h : Em B w b M E) (hb : Below w.heap.size w w') : EmTo B w b E w' := ⟨M, h.below hb, .of_below hb⟩
theorem EmTo.after {B b : Nat} {w w1 w2 : World} {E : EA} (h : EFr B w w1) (h2 : EmTo B w1 b E w2) : EmTo B w b E w2 := let ⟨M, a, c⟩ := h2; ⟨M, a, h.trans c⟩

set_option maxHeartbeats 400000 in
theorem em_err {B b : Nat} {w : World} {M : EM} {E : EA} (h : Em B w b M E) :
    Calls Tryz.prog 50 #[.pointer (some ⟨b, 0, none⟩)] w fun e w' => e = .returned (errV E.er) ∧ w = w' := by
  obtain ⟨e1, c1, f1⟩ := Blk.all h.blk
  have hr := h.er
  go_enter Tryz.func50, Tryz.ntmps50
  go_wp2
  go_ret
  exact ⟨by rfl, rfl⟩
def EA.fail (E : EA) (n : Int) : EA := if E.er = 0 then { E with er := n } else E
set_option maxHeartbeats 400000 in
theorem em_fail {B b : Nat} {w : World} {M : EM} {E : EA} (h : Em B w b M E) (n : Int) :
    Calls Tryz.prog 60 #[.pointer (some ⟨b, 0, none⟩), errV n] w fun e w' => e = .returned (.tuple #[]) ∧ EmTo B w b (E.fail n) w' := by
  obtain ⟨e1, c1, f1⟩ := Blk.all h.blk
  have hr := h.er
  rcases errV_cases E.er with ⟨h0, he⟩ | ⟨h0, he⟩
  · have Hr : M.er = .nilIface := by rw [hr, he]
    have hE : E.fail n = { E with er := n } := by rw [EA.fail, if_pos h0]
    rw [hE]
    clear hr he h0 hE
    rcases errV_cases n with ⟨hn, he2⟩ | ⟨hn, he2⟩
    all_goals
      have He2 := hide he2
      rw [he2]
      clear hn he2
      go_enter Tryz.func60, Tryz.ntmps60
      go_wp2
      go_end0
      refine ⟨rfl, _, h.upd (M' := { M with er := errV n }) (E' := { E with er := n }) ((Only.refl b w).set_ 40 _) ?_ (h.st.fr ?_) h.few ⟨rfl, rfl⟩ ⟨rfl, rfl⟩ ⟨rfl, rfl⟩ rfl, EFr.of_only ((Only.refl b w).set_ 40 _) h.blk rfl h.hi⟩
      · have := Blk.set_ h.blk 40 (errV n)
        rw [emA_setEr] at this
        rwa [unhide He2] at this ⊢
      · exact ((Only.refl b w).set_ 40 _).fr h.blk rfl h.hi
  · have Hr : M.er = .iface 52 (.int .i64 E.er) := by rw [hr, he]
    have hE : E.fail n = E := by rw [EA.fail, if_neg h0]
    rw [hE]
    clear hr he h0 hE
    go_enter Tryz.func60, Tryz.ntmps60
    go_wp2
    go_end0
    exact ⟨rfl, .self h⟩
def EmOnly (B : Nat) (w : World) (b : Nat) (M : EM) (E : EA) (w' : World) : Prop := ∃ M', Em B w' b M' E ∧ Only b w w' ∧ M'.ev = M.ev ∧ M'.pe = M.pe
theorem EmOnly.to_ {B b : Nat} {w w' : World} {M : EM} {E E0 : EA} (h : EmOnly B w b M E w') (h0 : Em B w b M E0) : EmTo B w b E w' := let ⟨M', a, c, _⟩ := h; ⟨M', a, .of_only c h0.blk rfl h0.hi⟩
def EA.must (E : EA) (ok : Bool) (n : Int) : EA := if E.er = 0 ∧ ok = false then { E with er := n } else E
set_option maxHeartbeats 400000 in
theorem em_must {B b : Nat} {w : World} {M : EM} {E : EA} (h : Em B w b M E) (ok : Bool) (n : Int) (hn : n ≠ 0) :
    Calls Tryz.prog 140 #[.pointer (some ⟨b, 0, none⟩), .bool ok, .int .i64 n] w fun e w' => e = .returned (.bool (E.er == 0 && ok)) ∧ EmOnly B w b M (E.must ok n) w' := by
  obtain ⟨e1, c1, f1⟩ := Blk.all h.blk
  rcases errV_cases E.er with ⟨h0, he⟩ | ⟨h0, he⟩
  · cases ok
    · rw [show E.must false n = { E with er := n } from by rw [EA.must, if_pos ⟨h0, rfl⟩], show (E.er == 0 && false) = false from by simp]
      clear h0
      go_enter Tryz.func140, Tryz.ntmps140
      go_wp2_with (go_at_call 50; refine (em_err h).mono ?_; rintro e w' ⟨rfl, rfl⟩)
      go_ret
      refine ⟨rfl, _, h.upd (M' := { M with er := errV n }) (E' := { E with er := n }) ((Only.refl b w).set_ 40 _) ?_ (h.st.fr ?_) h.few ⟨rfl, rfl⟩ ⟨rfl, rfl⟩ ⟨rfl, rfl⟩ rfl, (Only.refl b w).set_ 40 _, rfl, rfl⟩
      · have := Blk.set_ h.blk 40 (errV n)
        rw [emA_setEr] at this
        rwa [errV_ne hn] at this ⊢
      · exact ((Only.refl b w).set_ 40 _).fr h.blk rfl h.hi
    · rw [show E.must true n = E from by simp [EA.must], show (E.er == 0 && true) = true from by simp [h0]]
      clear h0
      go_enter Tryz.func140, Tryz.ntmps140
      go_wp2_with (go_at_call 50; refine (em_err h).mono ?_; rintro e w' ⟨rfl, rfl⟩)
      go_ret
      exact ⟨rfl, M, h, Only.refl _ _, rfl, rfl⟩
  · rw [show E.must ok n = E from by rw [EA.must, if_neg (fun h => h0 h.1)], show (E.er == 0 && ok) = false from by simp [h0]]
    clear h0
    go_enter Tryz.func140, Tryz.ntmps140
    go_wp2_with (go_at_call 50; refine (em_err h).mono ?_; rintro e w' ⟨rfl, rfl⟩)
    go_ret
    exact ⟨rfl, M, h, Only.refl _ _, rfl, rfl⟩
def stZ : St := ⟨[], fun _ => [], fun _ => 0, fun _ => 0⟩
theorem rdS_zero (w : World) : RdS 0 w zSV stZ := ⟨Nat.zero_le _, Rd.nil _ _ _, fun _ _ => Rd.nil _ _ _, rfl, rfl⟩
def EA.state (E : EA) : St := if E.er = 0 then E.s else stZ
set_option maxHeartbeats 400000 in
theorem em_state {B b : Nat} {w : World} {M : EM} {E : EA} (h : Em B w b M E) :
    Calls Tryz.prog 51 #[.pointer (some ⟨b, 0, none⟩)] w fun e w' => ∃ S' : SV, e = .returned (.agg (stA S')) ∧ RdS 0 w' S' E.state ∧ Below w.heap.size w w' := by
  have ha : ∀ o, Below w.heap.size w (w.alloc o) := fun o => (Below.refl _ _).alloc (Nat.le_refl _) _
  have h1 := h.below (ha (.cells (stA zSV) 44))
  obtain ⟨e1, c1, f1⟩ := Blk.all h1.blk
  rcases errV_cases E.er with ⟨h0, he⟩ | ⟨h0, he⟩
  · rw [show E.state = E.s from by rw [EA.state, if_pos h0]]
    clear h0
    go_enter Tryz.func51, Tryz.ntmps51
    go_wp2_with (go_at_call 50; refine (em_err h1).mono ?_; rintro e w' ⟨rfl, rfl⟩)
    refine (stCopy h1.st h1.few).mono ?_
    rintro e w1 ⟨S', rfl, hS, hb1⟩
    have hk := (Blk.new w 44 (stA zSV)).below hb1 (by simp)
    obtain ⟨e2, c2, f2⟩ := Blk.all hk
    go_wp2_with fail
    refine ret_cell rfl rfl (setRow_heap _ _ _ _ _ _ hk) Tryz.underlying44 rfl (by kernel_rfl) rfl ⟨S', rfl, ?_, ?_⟩
    · exact hS.fr (Fr.setRowMut (.refl _ _) hk rfl (Nat.zero_le _) _)
    · exact below_setRow ((ha _).trans (hb1.mono (by simp))) (Nat.le_refl _) _
  · rw [show E.state = stZ from by rw [EA.state, if_neg h0]]
    clear h0
    go_enter Tryz.func51, Tryz.ntmps51
    go_wp2_with (go_at_call 50; refine (em_err h1).mono ?_; rintro e w' ⟨rfl, rfl⟩)
    refine ret_cell (cs := stA zSV) rfl rfl (heap_alloc_new w _) Tryz.underlying44 rfl (by kernel_rfl) rfl ?_
    exact ⟨zSV, rfl, rdS_zero _, ha _⟩
theorem ev_one (x : Ev) : ∀ u ∈ evV x, u.oneCell' = true := fun u hu => evA_one x u (by simpa [evV] using hu)
theorem evs_one (l : List Ev) : ∀ u ∈ evsV l, u.oneCell' = true := by
  intro u hu
  simp only [evsV, List.mem_flatMap] at hu
  obtain ⟨x, _, hx⟩ := hu
  exact ev_one x u hx
theorem pes_one (l : List Pe) : ∀ u ∈ pesV l, u.oneCell' = true := by
  intro u hu
  simp only [pesV, List.mem_flatMap, peV, List.mem_cons, List.not_mem_nil, or_false] at hu
  obtain ⟨x, _, rfl | rfl | rfl⟩ := hu <;> rfl
theorem own_reads {w : World} {B : Nat} {e : TypeId} {size n : Nat} {s : Sl} {xs : List Value} (h : w.ownsRow B e size s.v n xs) (hn : s.n = n) : Reads w w.heap.size size s.a s.n xs := by
  subst hn
  refine ⟨h.1, fun hn => ?_⟩
  obtain ⟨g, cap, hv, _, hlt⟩ := h.form hn
  have hA : s.a = some ⟨g, 0, none⟩ := by injection hv
  refine ⟨_, hA, hlt, fun j u hu => h.cells (g := g) ?_ j u hu⟩
  rw [Sl.v, hA]; rfl
theorem own_n {w : World} {B : Nat} {e : TypeId} {size n : Nat} {s : Sl} {xs : List Value} (h : w.ownsRow B e size s.v n xs) : s.n = n := by
  rcases h.2 with ⟨hv, hn⟩ | ⟨g, cap, cur, hv, _⟩
  · injection hv with _ h2 _; omega
  · injection hv with _ h2 _
set_option maxHeartbeats 400000 in
theorem em_events {B b : Nat} {w : World} {M : EM} {E : EA} (h : Em B w b M E) :
    Calls Tryz.prog 52 #[.pointer (some ⟨b, 0, none⟩)] w fun e w' => ∃ s : Sl, e = .returned s.v ∧ w'.ownsRow w.heap.size 89 6 s.v (if E.er = 0 then E.ev else []).length (evsV (if E.er = 0 then E.ev else [])) ∧ Below w.heap.size w w' := by
  obtain ⟨e1, c1, f1⟩ := Blk.all h.blk
  rcases errV_cases E.er with ⟨h0, he⟩ | ⟨h0, he⟩
  · rw [if_pos h0]
    clear h0
    have hn := own_n h.ev
    have Hn := hide hn
    clear hn
    go_enter Tryz.func52, Tryz.ntmps52
    go_wp2_with (go_at_call 50; refine (em_err h).mono ?_; rintro e w' ⟨rfl, rfl⟩)
    refine (cloneE (own_reads h.ev (unhide Hn)) (evs_one _) (by have := h.en; have := unhide Hn; omega)).mono ?_
    rintro e w1 ⟨s, rfl, hs, hn1, hb1⟩
    have Hn1 := hide hn1
    clear hn1
    go_wp2_with fail
    go_ret
    exact ⟨s, rfl, by rw [← unhide Hn]; exact hs, hb1⟩
  · rw [if_neg h0]
    clear h0
    go_enter Tryz.func52, Tryz.ntmps52
    go_wp2_with (go_at_call 50; refine (em_err h).mono ?_; rintro e w' ⟨rfl, rfl⟩)
    go_ret
    exact ⟨⟨none, 0, 0⟩, rfl, World.ownsRow_nil _ _ _ _, Below.refl _ _⟩
def EA.pending (E : EA) : List Pe := if E.er = 0 then E.pe else []
set_option maxHeartbeats 400000 in
theorem em_pending {B b : Nat} {w : World} {M : EM} {E : EA} (h : Em B w b M E) :
    Calls Tryz.prog 155 #[.pointer (some ⟨b, 0, none⟩)] w fun e w' => ∃ s : Sl, e = .returned s.v ∧ w'.ownsRow w.heap.size 213 3 s.v E.pending.length (pesV E.pending) ∧ Below w.heap.size w w' := by
  obtain ⟨e1, c1, f1⟩ := Blk.all h.blk
  rcases errV_cases E.er with ⟨h0, he⟩ | ⟨h0, he⟩
  · rw [show E.pending = E.pe from by rw [EA.pending, if_pos h0]]
    clear h0
    have hn := own_n h.pe
    have Hn := hide hn
    clear hn
    go_enter Tryz.func155, Tryz.ntmps155
    go_wp2_with (go_at_call 50; refine (em_err h).mono ?_; rintro e w' ⟨rfl, rfl⟩)
    refine (cloneP (own_reads h.pe (unhide Hn)) (pes_one _) (by have := h.pn; have := unhide Hn; omega)).mono ?_
    rintro e w1 ⟨s, rfl, hs, hn1, hb1⟩
    have Hn1 := hide hn1
    clear hn1
    go_wp2_with fail
    go_ret
    exact ⟨s, rfl, by rw [← unhide Hn]; exact hs, hb1⟩
  · rw [show E.pending = [] from by rw [EA.pending, if_neg h0]]
    clear h0
    go_enter Tryz.func155, Tryz.ntmps155
    go_wp2_with (go_at_call 50; refine (em_err h).mono ?_; rintro e w' ⟨rfl, rfl⟩)
    go_ret
    exact ⟨⟨none, 0, 0⟩, rfl, World.ownsRow_nil _ _ _ _, Below.refl _ _⟩
set_option maxHeartbeats 400000 in
theorem em_taken {B b : Nat} {w : World} {M : EM} {E : EA} (h : Em B w b M E) :
    Calls Tryz.prog 115 #[.pointer (some ⟨b, 0, none⟩)] w fun e w' => ∃ s : Sl, e = .returned s.v ∧ w'.ownsRow w.heap.size 213 3 s.v E.pending.length (pesV E.pending) ∧ EmTo B w b { E with pe := [] } w' := by
  go_enter Tryz.func115, Tryz.ntmps115
  go_wp2_with fail
  refine (em_pending h).mono ?_
  rintro e w1 ⟨s, rfl, hs, hb1⟩
  have h1 := h.below hb1
  obtain ⟨e1, c1, f1⟩ := Blk.all h1.blk
  have hlt := h1.blk.lt
  go_wp2_with fail
  go_ret
  have ho : Only b w1 (w1.setCell ⟨b, 39, none⟩ (.slice none 0 0)) := (Only.refl b w1).set_ 39 _
  have hbk : Blk (w1.setCell ⟨b, 39, none⟩ (.slice none 0 0)) b 126 (emA { M with pe := ⟨none, 0, 0⟩ }) := by
    have := Blk.set_ h1.blk 39 (Sl.v ⟨none, 0, 0⟩)
    rwa [emA_setPe] at this
  have hfr := ho.fr h1.blk rfl h1.hi
  refine ⟨s, rfl, ?_, { M with pe := ⟨none, 0, 0⟩ }, ⟨hbk, h1.lo, h1.hi, h1.gl.fr hfr h1.lo h1.B, h1.st.fr hfr, h1.few, h1.dr.fr hfr, h1.dn, own_only h1.ev ho h1.blk (by decide), h1.en, World.ownsRow_nil _ _ _ _, by simp, h1.er⟩, (EFr.of_below hb1).trans (.of_only ho h1.blk rfl h1.hi)⟩
  exact own_only hs ho h1.blk (by decide)
end Go.Proofs.YtpfnmnpdaacjmaaGreatDoor
