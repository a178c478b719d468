/-
  The emitter does one event.
-/
import Derived.Test.YtpfnmnpdaacjmaaGreatDoorEmit2
import Derived.Test.YtpfnmnpdaacjmaaGreatDoorEvt2
namespace Go.Proofs.YtpfnmnpdaacjmaaGreatDoor
open Go.RowKit

/-! A slice literal of one event. -/
def sl1Or (v : Value) (W : World) (e : Result Next) : Result Next :=
  match v with
  | .agg vs => if vs.size = 6 then .ok (.value (.slice (some ⟨W.heap.size, 0, none⟩) 1 1)) (W.alloc (.cells vs 89)) else e
  | _ => e
theorem six {vs : Array Value} (h : vs.size = 6) : ∃ a b c d e f, vs = #[a, b, c, d, e, f] :=
  ⟨vs[0], vs[1], vs[2], vs[3], vs[4], vs[5], by
    apply Array.ext
    · simp [h]
    · intro i h1 h2
      rcases show i = 0 ∨ i = 1 ∨ i = 2 ∨ i = 3 ∨ i = 4 ∨ i = 5 by omega with rfl | rfl | rfl | rfl | rfl | rfl <;> rfl⟩
theorem fill_six {cs vs : Array Value} (hc : cs.size = 6) (hv : vs.size = 6) : Instr.fill (fun i => some (i * 6, 6)) cs [(0, .agg vs)] = some vs := by
  obtain ⟨a, b, c, d, e, f, rfl⟩ := six hc
  obtain ⟨a', b', c', d', e', f', rfl⟩ := six hv
  simp [Instr.fill, Value.cells]
theorem exec_sl1_ev (ρ : Operand → Value) (dst : Option Tmp) (x : Operand) (t : TypeId) (p : String) (af : Array Edge) (g : Option (Nat × Bool)) (W : World) :
    (execOp ρ ⟨dst, .buildSlice 64 1 #[(0, x)], t, p, af, g⟩).run Tryz.prog W = sl1Or (ρ x) W (exec0 Tryz.prog ρ ⟨dst, .buildSlice 64 1 #[(0, x)], t, p, af, g⟩ W) := by
  unfold sl1Or exec0
  split
  · rename_i vs hx
    split
    · rename_i hs
      have hz := zero_ev
      cases hq : Tryz.prog.info? 89 with
      | none => simp [hq] at hz
      | some i =>
        simp only [hq, Option.map_some, Option.some.injEq, Prod.mk.injEq] at hz
        have hf := fun cs (h : cs.size = 6) => fill_six (cs := cs) h hs
        simp [execOp, Instr.buildSlice, zeroValue, newRow, sizeOf, typeInfo, Sem.run_bind, run_underlying Tryz.underlying64, hq, hz.1, hz.2, hx, hf]
    · rfl
  · rfl
theorem sl1Or_mk (vs : Array Value) (W : World) (e : Result Next) : sl1Or (.agg vs) W e = if vs.size = 6 then .ok (.value (.slice (some ⟨W.heap.size, 0, none⟩) 1 1)) (W.alloc (.cells vs 89)) else e := rfl
attribute [go_sem ↓] exec_sl1_ev
attribute [go_sem] sl1Or_mk evA_size

/-! append to a row of the emitter. -/
theorem own_at {w : World} {base : Nat} {e : TypeId} {size n : Nat} {v : Value} {xs : List Value} (h : w.ownsRow base e size v n xs) {k : Nat} (hk : some k = v.ownBlock) : base ≤ k ∧ ∃ cs, Blk w k e cs := by
  rcases h.2 with ⟨rfl, _⟩ | ⟨g, cap, cur, rfl, hb, hh, _⟩
  · simp [Value.ownBlock] at hk
  · have : k = g := by simpa [Value.ownBlock] using hk
    subst this
    exact ⟨hb, cur, hh⟩
theorem Appended.keep {w : World} {base : Nat} {e : TypeId} {size m n : Nat} {v v' : Value} {xs zs : List Value} {w' : World} (h : Appended w base e size v n zs v' w') (ho : w.ownsRow base e size v m xs)
    {k : Nat} {t : TypeId} {cs : Array Value} (hb : Blk w k t cs) (hne : e ≠ t) : Blk w' k t cs :=
  (h.2.1.block k hb.lt fun he => by
    obtain ⟨_, cs', hb'⟩ := own_at ho he
    unfold Blk at hb hb'
    rw [hb] at hb'
    injection hb' with hb'
    injection hb' with _ ht
    exact hne ht.symm).trans hb
theorem Appended.efr {w : World} {base : Nat} {e : TypeId} {size m n : Nat} {v v' : Value} {xs zs : List Value} {w' : World} (h : Appended w base e size v n zs v' w') (ho : w.ownsRow base e size v m xs) (he : emT e = true) : EFr base w w' :=
  ⟨h.2.1.os, h.2.1.tape, h.2.1.output, h.2.1.size, fun k hk hs => h.2.1.block k hk fun heq => by
    obtain ⟨hb, cs', hb'⟩ := own_at ho heq
    rcases hs with hs | ⟨cs, T, fr, hh, hT⟩
    · omega
    · unfold Blk at hb'
      rw [hh] at hb'
      injection hb' with hb'
      injection hb' with _ ht
      subst ht
      rw [he] at hT
      cases hT⟩
theorem Appended.own {w : World} {base b2 : Nat} {e e2 : TypeId} {size s2 m n n2 : Nat} {v v' v2 : Value} {xs zs ys : List Value} {w' : World} (h : Appended w base e size v n zs v' w') (ho : w.ownsRow base e size v m xs)
    (h2 : w.ownsRow b2 e2 s2 v2 n2 ys) (hne : e ≠ e2) : w'.ownsRow b2 e2 s2 v2 n2 ys := by
  refine h2.kept h.2.1 ?_
  cases hv : v2.ownBlock with
  | none => exact .inl rfl
  | some k =>
    refine .inr fun he => ?_
    obtain ⟨_, cs, hb⟩ := own_at h2 hv.symm
    obtain ⟨_, cs', hb'⟩ := own_at ho he
    unfold Blk at hb hb'
    rw [hb] at hb'
    injection hb' with hb'
    injection hb' with _ ht
    exact hne ht.symm
theorem evsV_snoc (l : List Ev) (x : Ev) : evsV (l ++ [x]) = evsV l ++ evV x := by simp [evsV]
theorem Em.pushEv {B b : Nat} {w w' : World} {M : EM} {E : EA} (h : Em B w b M E) (x : Ev) {s : Sl} (hn : E.ev.length < 65536)
    (hap : Appended w B 89 6 M.ev.v (E.ev.length + 1) (evsV E.ev ++ evV x) s.v w') :
    Em B (w'.setCell ⟨b, 38, none⟩ s.v) b { M with ev := s } { E with ev := E.ev ++ [x] } ∧ EFr B w (w'.setCell ⟨b, 38, none⟩ s.v) := by
  have hb := hap.keep h.ev h.blk (by decide)
  have he := hap.efr h.ev rfl
  have ho : Only b w' (w'.setCell ⟨b, 38, none⟩ s.v) := (Only.refl b w').set_ 38 _
  have hfr : Fr B w (w'.setCell ⟨b, 38, none⟩ s.v) := he.fr.trans (ho.fr hb rfl h.hi)
  have hb2 := hb.set_ 38 s.v
  rw [emA_setEv] at hb2
  refine ⟨⟨hb2, h.lo, h.hi, h.gl.fr hfr h.lo h.B, h.st.fr hfr, h.few, h.dr.fr hfr, h.dn, ?_, by simp; omega, own_only (hap.own h.ev h.pe (by decide)) ho hb (by decide), h.pn, h.er⟩, he.trans (.of_only ho hb rfl h.hi)⟩
  have := own_only hap.1 ho hb (by decide)
  simpa [evsV_snoc] using this
def EA.do1 (E : EA) (x : Ev) : EA :=
  if E.er ≠ 0 then E else if (evDo E.s x).1 ≠ 0 then { E with er := (evDo E.s x).1 } else
  if E.ev.length < 65536 then { E with s := (evDo E.s x).2, ev := E.ev ++ [x] } else { E with s := (evDo E.s x).2, er := 5 }

theorem ite_err {c : Prop} [Decidable c] {n : Int} {s : St} {r : Int × St} (h : (if c then (n, s) else r).1 ≠ 0) (k : r.1 ≠ 0 → r.2 = s) : (if c then (n, s) else r).2 = s := by
  by_cases hc : c
  · rw [if_pos hc]
  · rw [if_neg hc] at h ⊢; exact k h
theorem evMove_err (s : St) (x : Ev) (h : (evMove s x).1 ≠ 0) : (evMove s x).2 = s := by
  unfold evMove at *
  exact ite_err h fun h => ite_err h fun h => ite_err h fun h => absurd rfl h
theorem pick_err {c : Prop} [Decidable c] {n : Int} {s t : St} (h : (if c then (n, s) else (0, t)).1 ≠ 0) : (if c then (n, s) else (0, t)).2 = s := by
  split at h
  · rw [if_pos ‹_›]
  · exact absurd rfl h
theorem evDo_err (s : St) (x : Ev) (h : (evDo s x).1 ≠ 0) : (evDo s x).2 = s := by
  unfold evDo at *
  by_cases h0 : (evCheck x != 0) = true
  · rw [if_pos h0]
  · rw [if_neg h0] at h ⊢
    by_cases h1 : (x.k == 0) = true
    · rw [if_pos h1] at h ⊢; exact pick_err h
    · rw [if_neg h1] at h ⊢
      by_cases h2 : (x.k == 5) = true
      · rw [if_pos h2] at h ⊢; exact pick_err h
      · rw [if_neg h2] at h ⊢
        by_cases h3 : (x.k == 1) = true
        · rw [if_pos h3] at h ⊢; exact evMove_err s x h
        · rw [if_neg h3] at h ⊢
          by_cases h4 : (x.k == 2) = true
          · rw [if_pos h4] at h ⊢
            exact ite_err h pick_err
          · rw [if_neg h4] at h ⊢
            by_cases h5 : (x.k == 3) = true
            · rw [if_pos h5] at h ⊢; exact pick_err h
            · rw [if_neg h5] at h ⊢; exact pick_err h

set_option maxRecDepth 100000 in
set_option maxHeartbeats 2000000 in
theorem em_do1 {B b : Nat} {w : World} {M : EM} {E : EA} (h : Em B w b M E) (x : Ev) (hx : DoOK x) (hfew : Few (evDo E.s x).2) (bl c : Nat) (hl : Blk w bl 89 (evA x)) :
    Calls Tryz.prog 107 #[.pointer (some ⟨b, 0, none⟩), .slice (some ⟨bl, 0, none⟩) 1 c] w fun e w' => e = .returned (.tuple #[]) ∧ EmTo B w b (E.do1 x) w' := by
  go_enter Tryz.func107, Tryz.ntmps107
  go_wp2_with fail
  go_loopw [9] (fun i wr => (i = .int .i64 0 ∧ wr = w) ∨ (i = .int .i64 1 ∧ EmTo B w b (E.do1 x) wr)) (fun i _ => 1 - (intOf i).toNat)
  case atStart => exact .inl ⟨rfl, rfl⟩
  case round =>
    rcases hrel with ⟨rfl, rfl⟩ | ⟨rfl, hdone⟩
    · obtain ⟨e1, c1, f1⟩ := Blk.all h.blk
      obtain ⟨e2, c2, f2⟩ := Blk.all hl
      have hlt := hl.lt
      have hltb := h.blk.lt
      have hb0 : Below wr.heap.size wr (wr.alloc (.cells (evA x) 89)) := (Below.refl _ _).alloc (Nat.le_refl _) _
      have h0 := h.below hb0
      go_wp2_with fail
      refine (em_err h0).mono ?_
      rintro e w' ⟨rfl, rfl⟩
      rcases errV_cases E.er with ⟨hE, he⟩ | ⟨hE, he⟩
      · have HE := hide hE
        clear hE
        go_wp2_with fail
        refine region_tail 4 (by kernel_rfl) (by kernel_rfl) ?_
        simp only [List.take_succ_cons, List.take_zero, List.drop_succ_cons, List.drop_zero]
        iterate 4 still_step
        refine wpStill_nil ?_
        go_wp2_with fail
        have hd := hx B M.S E.s _ _ (plOK_em M) b 126 (h0.st.fr (Fr.drew (.refl _ _))) h0.few h0.blk.drew rfl h0.hi
        refine hd.mono ?_
        rintro r w2 ⟨rfl, S', hbk, hS2, ho⟩
        have h0d := h0.below (w' := (wr.alloc (.cells (evA x) 89)).drew) ((Below.refl _ _).drew)
        have ho1 : Only b wr w2 := (Only.of_below (hb0.drew)).trans ho
        obtain ⟨e3, c3, f3⟩ := Blk.all hbk
        have hbx : Blk w2 wr.heap.size 89 (evA x) := ho.blk (Blk.new wr _ _).drew (by omega)
        obtain ⟨e4, c4, f4⟩ := Blk.all hbx
        have hltb2 := hbk.lt
        clear hd
        rcases errV_cases (evDo E.s x).1 with ⟨hn, hne⟩ | ⟨hn, hne⟩
        · have h2 : Em B w2 b { M with S := S' } { E with s := (evDo E.s x).2 } := h0d.upd ho hbk hS2 hfew ⟨rfl, rfl⟩ ⟨rfl, rfl⟩ ⟨rfl, rfl⟩ h.er
          have hen := own_n h.ev
          have Hen := hide hen
          have Hn := hide hn
          clear hn hen
          go_wp2_with fail
          refine (em_must h2 _ 5 (by decide)).mono ?_
          rintro e w3 ⟨rfl, M3, h3, ho3, hM3, hM3p⟩
          obtain ⟨e5, c5, f5⟩ := Blk.all h3.blk
          have hbx3 : Blk w3 wr.heap.size 89 (evA x) := ho3.blk hbx (by omega)
          obtain ⟨e6, c6, f6⟩ := Blk.all hbx3
          have hltb3 := h3.blk.lt
          have hr0 : (E.er == 0) = true := by simp [unhide HE]
          by_cases hc : (M.ev.n : Int) < 65536
          · have hcb : decide ((M.ev.n : Int) < 65536) = true := by simpa using hc
            have hE3 : EA.must { E with s := (evDo E.s x).2 } (decide ((M.ev.n : Int) < 65536)) 5 = { E with s := (evDo E.s x).2 } := by rw [hcb]; simp [EA.must]
            rw [hE3] at h3
            clear hE3 hc
            obtain ⟨i0, hi0, hz0, hz1, hz2⟩ := info_parts infoE
            have hs3 : w3.ownsRow B 89 6 M.ev.v E.ev.length (evsV E.ev) := by have := h3.ev; rwa [hM3] at this
            have hev3 : M3.ev.v = M.ev.v := by rw [hM3]
            have hne3 : M.ev.v.ownBlock ≠ some wr.heap.size := fun hq => by
              rcases h.ev.2 with ⟨hv, _⟩ | ⟨g, cap, cur, hv, _, hh, _⟩
              · rw [hv] at hq; simp [Value.ownBlock] at hq
              · rw [hv] at hq
                have : g = wr.heap.size := by simpa [Value.ownBlock] using hq
                have := lt_of_blk hh
                omega
            have hen2 := h.en
            go_wp2_with fail
            have hnx : Reads (w3.alloc (.cells (evA x) 89)).drew (w3.heap.size + 1) 6 (some ⟨w3.heap.size, 0, none⟩) 1 (evV x) :=
              ⟨rfl, fun _ => ⟨_, rfl, by simp, fun j u hu => by
                have h1 := (Blk.all (Blk.new w3 89 (evA x)).drew).2.1 j
                rw [Addr.add_mid, Nat.zero_add, h1]
                simpa [evV] using hu⟩⟩
            have hbl4 : Below w3.heap.size w3 (w3.alloc (.cells (evA x) 89)).drew := ((Below.refl _ _).alloc (Nat.le_refl _) _).drew
            have h4 := h3.below hbl4
            have hs4 := own_below hs3 hbl4
            have hx1 : ∀ u ∈ evV x, u.oneCell' = true := by simp [evV, evA, Value.oneCell']
            have hlen : E.ev.length < 65536 := by have := unhide Hen; have := of_decide_eq_true hcb; omega
            have hB4 : B ≤ (w3.alloc (.cells (evA x) 89)).drew.heap.size := h4.B
            have hev4 : ({ E with s := (evDo E.s x).2 } : EA).ev = E.ev := rfl
            go_region_law (refine step_append_any rfl (.tmp 39) (.tmp 41) _ rfl B 89 i0 _ 6 48 Tryz.underlying64 hi0 hz0 hz1 hz2 rfl (by omega) M.ev.v E.ev.length (evsV E.ev) (by simp [Act.eval]) hs4 _ _ 1 1 (evV x) (by simp [Act.eval]) hnx hx1 (by simp [maxLen]; omega) (by omega) hB4 ?_; intro v5 w5 hap5; obtain ⟨s5, rfl, -⟩ := sl_of_own hap5.1; obtain ⟨e5, c5, f5⟩ := Blk.all (hap5.keep hs4 h4.blk (by decide)))
            all_goals
              obtain ⟨hE5, hF5⟩ := Em.pushEv h4 x (s := s5) hlen (by rw [hev3]; exact hap5)
              go_wp2_with fail
              go_roundw
              case measure => simp [intOf]
              case rel =>
                refine .inr ⟨rfl, ?_⟩
                rw [EA.do1, if_neg (by simp [unhide HE]), if_neg (by simp [unhide Hn]), if_pos hlen]
                exact ⟨_, hE5, ((EFr.of_only (ho1.trans ho3) h.blk rfl h.hi).trans (.of_below hbl4)).trans hF5⟩
          · have hcb : decide ((M.ev.n : Int) < 65536) = false := by simpa using hc
            have hE3 : EA.must { E with s := (evDo E.s x).2 } (decide ((M.ev.n : Int) < 65536)) 5 = E.do1 x := by
              rw [hcb, EA.do1, if_neg (by simp [unhide HE]), if_neg (by simp [unhide Hn]), if_neg (by have := unhide Hen; omega)]
              simp [EA.must, unhide HE]
            rw [hE3] at h3
            clear hE3 hc
            go_wp2_with fail
            go_roundw
            case measure => simp [intOf]
            case rel => exact .inr ⟨rfl, M3, h3, .of_only (ho1.trans ho3) h.blk rfl h.hi⟩
        · have hs2 := evDo_err E.s x hn
          have h2 : Em B w2 b { M with S := S' } { E with s := (evDo E.s x).2 } := h0d.upd ho hbk hS2 hfew ⟨rfl, rfl⟩ ⟨rfl, rfl⟩ ⟨rfl, rfl⟩ h.er
          rw [hs2] at h2
          have hD : E.do1 x = { E with er := (evDo E.s x).1 } := by rw [EA.do1, if_neg (by simp [unhide HE]), if_pos hn]
          have HD := hide hD
          have Hne := hide hne
          clear hD hn hs2
          go_wp2_with fail
          refine bodyPost_ret (results_none rfl _ _ _) rfl ?_
          rw [unhide HD]
          have ho2 : Only b w2 (w2.setCell ⟨b, 40, none⟩ (.iface 52 (.int .i64 (evDo E.s x).1))) := (Only.refl b w2).set_ 40 _
          have hbk2 := Blk.set_ h2.blk 40 (errV (evDo E.s x).1)
          rw [emA_setEr] at hbk2
          rw [unhide Hne] at hbk2
          refine ⟨rfl, _, h2.upd (E' := { E with er := (evDo E.s x).1 }) ho2 hbk2 (h2.st.fr (ho2.fr h2.blk rfl h2.hi)) h2.few ⟨rfl, rfl⟩ ⟨rfl, rfl⟩ ⟨rfl, rfl⟩ (unhide Hne).symm, .of_only (ho1.trans ho2) h.blk rfl h.hi⟩
      · have hD : E.do1 x = E := by rw [EA.do1, if_pos hE]
        have HD := hide hD
        clear hE hD
        go_wp2_with fail
        refine bodyPost_ret (results_none rfl _ _ _) rfl ?_
        rw [unhide HD]
        exact ⟨rfl, .below h hb0⟩
    · go_wp2_with fail
      go_end0
      exact ⟨rfl, hdone⟩
end Go.Proofs.YtpfnmnpdaacjmaaGreatDoor
