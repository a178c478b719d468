/-
  decide.Do and Step at a pass.
-/
import Derived.Test.YtpfnmnpdaacjmaaGreatDoorDec6
namespace Go.Proofs.YtpfnmnpdaacjmaaGreatDoor
open Go.RowKit

theorem errV0 : errV 0 = .nilIface := errV_zero rfl
set_option maxRecDepth 100000 in
set_option maxHeartbeats 400000 in
theorem dec_do0 {B b : Nat} {w : World} {M : EM} {E E' : EA} (h : Em B w b M E) (he : E.er = 0) (d : De) (hk : d.k = 0) (hf : formErr d = 0) (h6 : E.s.g 6 = 0)
    (hP : ∀ w M, Em B w b M E → Calls Tryz.prog 63 #[.pointer (some ⟨b, 0, none⟩)] w fun e w' => e = .returned (.tuple #[]) ∧ EmTo B w b E' w') :
    Calls Tryz.prog 49 #[.pointer (some ⟨b, 0, none⟩), .agg (deA d)] w fun e w' => e = .returned (.tuple #[]) ∧ EmTo B w b E' w' := by
  have h1 := h.alloc (.cells (deA d) 36)
  have hF := dec_form d (w.alloc (.cells (deA d) 36)) h1.gl (Nat.le_trans h1.lo h1.B)
  rw [hf, errV0] at hF
  have hst : E.state = E.s := by rw [EA.state, if_pos he]
  have hfl := fun (w : World) (M : EM) (h : Em B w b M E) => em_fail h 0
  rw [errV0, show E.fail 0 = E by rw [EA.fail, if_pos he, ← he]] at hfl
  have hmu := fun (w : World) (M : EM) (h : Em B w b M E) => dec_must h true 14 (by decide)
  rw [show E.must' true 14 = E from rfl, show (E.er == 0) = true by simp [he]] at hmu
  have hx := Blk.new w 36 (deA d)
  have hlt := h.blk.lt
  clear he hf
  go_enter Tryz.func49, Tryz.ntmps49
  go_wp2_with fail
  refine hF.mono ?_
  rintro e w1 ⟨rfl, hb1⟩
  have hm1 := h1.below hb1
  have hx1 := hx.below hb1 hx.lt
  go_wp2_with fail
  refine (hfl _ _ hm1).mono ?_
  rintro e w2 ⟨rfl, M2, hm2, hf2⟩
  have hx2 := hf2.blk hx1 rfl
  go_wp2_with fail
  refine (em_state hm2).mono ?_
  rintro e w3 ⟨S3, rfl, hS3, hb3⟩
  rw [hst] at hS3
  have hg3 : (S3.g 6 == 0) = true := by rw [hS3.g, h6]; rfl
  have hm3 := hm2.below hb3
  have hx3 := hx2.below hb3 hx2.lt
  clear hS3 h6 hst
  go_wp2_with fail
  refine (hmu _ _ hm3).mono ?_
  rintro e w4 ⟨rfl, M4, hm4, hf4⟩
  obtain ⟨e4, c4, f4⟩ := Blk.all (hf4.blk hx3 rfl)
  go_wp2_with fail
  refine (hP _ _ hm4).mono ?_
  rintro e w5 ⟨rfl, hto⟩
  go_wp2_with fail
  go_end0
  exact ⟨rfl, (EmTo.after (((EFr.of_below hb1).trans (hf2.trans (.of_below hb3))).trans hf4) hto).of_alloc⟩
/-- A row result that lies in memory, and two others. -/
theorem results_cell_tmp2 {P : Program} {fn : Func} {p u v : Tmp} {ty : TypeId} (h : fn.results = #[.cell p ty, .tmp u, .tmp v]) (tmps : Array Value) (w : World) (g : Nat) (t : TypeId) (cs : Array Value) (fr : Nat × Nat) (d : TypeDesc)
    (hp : tmps.getD p undef = .pointer (some ⟨g, 0, none⟩)) (hg : w.heap[g]? = some (.cells cs t fr))
    (hu : P.underlying ty = some d) (hd : (match d with | .struct _ | .array _ _ => true | _ => false) = true) (hi : (P.info? ty).map (·.size) = some cs.size) :
    (results fn tmps).run P w = .ok (.tuple #[.agg cs, tmps.getD u undef, tmps.getD v undef]) w := by
  have hp' : tmps[p]?.getD undef = .pointer (some ⟨g, 0, none⟩) := by simpa using hp
  simp [results, h, hp', asAddr, run_loadVar_row w g t ty cs fr d hg hu hd hi]
theorem ret_cell3 {P : Program} {fn : Func} {p u v : Tmp} {ty : TypeId} (h : fn.results = #[.cell p ty, .tmp u, .tmp v]) {R : Ending → World → Prop} {a : Act} {w : World} {g : Nat} {t : TypeId} {cs : Array Value} {fr : Nat × Nat} {d : TypeDesc}
    (hp : a.tmps.getD p undef = .pointer (some ⟨g, 0, none⟩)) (hg : w.heap[g]? = some (.cells cs t fr)) (hu : P.underlying ty = some d) (hd : (match d with | .struct _ | .array _ _ => true | _ => false) = true)
    (hi : (P.info? ty).map (·.size) = some cs.size) (hdf : a.defers = []) (hR : R (.returned (.tuple #[.agg cs, a.tmps.getD u undef, a.tmps.getD v undef])) w) : bodyPost P fn R .ret a w :=
  bodyPost_ret (results_cell_tmp2 h a.tmps w g t cs fr d hp hg hu hd hi) hdf hR
theorem own_mono {w : World} {B B' : Nat} {e : TypeId} {size n : Nat} {v : Value} {xs : List Value} (h : w.ownsRow B e size v n xs) (hB : B' ≤ B) : w.ownsRow B' e size v n xs := by
  refine ⟨h.1, ?_⟩
  rcases h.2 with hn | ⟨g, cap, cur, hv, hb, hr⟩
  · exact .inl hn
  · exact .inr ⟨g, cap, cur, hv, by omega, hr⟩
set_option maxRecDepth 100000 in
set_option maxHeartbeats 1000000 in
theorem dec_step0 {B : Nat} {S : SV} {s : St} {sd : Sl} {dr : List Int} {w : World} (h : RdS B w S s) (hs : Few s) (hd : RdI B w sd dr) (hdn : dr.length ≤ 4096) (hG : Glob w) (h8 : 8 ≤ w.heap.size)
    (d : De) (hk : d.k = 0) (hf : formErr d = 0) (hc : stCheck s = 0) (h6 : s.g 6 = 0) {E' : EA} (hE' : E'.er = 0)
    (hP : ∀ B b w M, Em B w b M (EA.new s dr) → Calls Tryz.prog 63 #[.pointer (some ⟨b, 0, none⟩)] w fun e w' => e = .returned (.tuple #[]) ∧ EmTo B w b E' w') :
    Calls Tryz.prog 31 #[.agg (stA S), sd.v, .agg (deA d)] w fun e w' => ∃ (S' : SV) (sl : Sl), e = .returned (.tuple #[.agg (stA S'), sl.v, .nilIface]) ∧ RdS 0 w' S' E'.s ∧
      w'.ownsRow w.heap.size 89 6 sl.v E'.ev.length (evsV E'.ev) ∧ Below w.heap.size w w' := by
  have hner : (EA.new s dr).er = 0 := by
    rw [EA.new]; dsimp only; rw [if_neg (by simp [hc]), randCheck, if_pos hdn]
  have hdo := fun B b w M (h : Em B w b M (EA.new s dr)) => dec_do0 h hner d hk hf h6 (hP B b)
  have hst : E'.state = E'.s := by rw [EA.state, if_pos hE']
  have hev : (if E'.er = 0 then E'.ev else []) = E'.ev := if_pos hE'
  have her := errV_zero hE'
  have hnew := fun w' (hb : Below w.heap.size w w') => em_new (h.fr (.of_below hb)) hs (hd.fr (.of_below hb)) (by omega) (hG.below hb h8) (Nat.le_trans h8 hb.size)
  clear hk hf h6 hc hner hP hE' h hs hd hdn
  have hb0 : Below w.heap.size w (((w.alloc (.cells (stA S) 44)).alloc (.cells (deA d) 36)).alloc (.cells (stA zSV) 44)) := (below2 _ _ _).alloc (by simp; omega) _
  go_enter Tryz.func31, Tryz.ntmps31
  go_wp2_with fail
  refine (hnew _ hb0).mono ?_
  rintro e w1 ⟨b, rfl, hb1, M1, hm1⟩
  obtain ⟨W0, hW0⟩ : ∃ W0, W0 = ((w.alloc (.cells (stA S) 44)).alloc (.cells (deA d) 36)).alloc (.cells (stA zSV) 44) := ⟨_, rfl⟩
  have hsz : W0.heap.size = w.heap.size + 1 + 1 + 1 := by rw [hW0]; simp
  have hxd0 : Blk W0 (w.heap.size + 1) 36 (deA d) := by
    rw [hW0]
    have := (Blk.new (w.alloc (.cells (stA S) 44)) 36 (deA d)).alloc (.cells (stA zSV) 44)
    simpa using this
  have hxr0 : Blk W0 (w.heap.size + 1 + 1) 44 (stA zSV) := by
    rw [hW0]
    have := Blk.new ((w.alloc (.cells (stA S) 44)).alloc (.cells (deA d) 36)) 44 (stA zSV)
    simpa using this
  rw [← hW0] at hb1 hm1 hb0
  clear hW0
  have hxd1 := hxd0.below hb1 (by omega)
  have hxr1 := hxr0.below hb1 (by omega)
  have hq1 : Below w.heap.size w w1 := hb0.trans (hb1.mono (by omega))
  obtain ⟨e1, c1, f1⟩ := Blk.all hxd1
  have hsz1 := hb1.size
  go_wp2_with fail
  refine (hdo _ _ _ _ hm1).mono ?_
  rintro e w2 ⟨rfl, M2, hm2, hf2⟩
  have hxr2 : Blk w2 (w.heap.size + 1 + 1) 44 (stA zSV) := (hf2.keep _ (by omega) (.inl (by omega))).trans hxr1
  have hq2 : Below w.heap.size w w2 := hq1.trans ⟨hf2.os, hf2.tape, hf2.output, hf2.size, fun k hk => hf2.keep k (by omega) (.inl (by omega))⟩
  have hE2 := em_err hm2
  rw [her] at hE2
  clear hdo hnew her
  go_wp2_with fail
  refine hE2.mono ?_
  rintro e w' ⟨rfl, rfl⟩
  go_wp2_with fail
  refine (em_state hm2).mono ?_
  rintro e w3 ⟨S3, rfl, hS3, hb3⟩
  rw [hst] at hS3
  have hm3 := hm2.below hb3
  have hxr3 := hxr2.below hb3 hxr2.lt
  have hev3 := em_events hm3
  rw [hev] at hev3
  have hq3 := hq2.trans (hb3.mono hq2.size)
  clear hev hst
  go_wp2_with fail
  refine hev3.mono ?_
  rintro e w4 ⟨sl, rfl, hsl, hb4⟩
  have hxr4 := hxr3.below hb4 hxr3.lt
  obtain ⟨e4, c4, f4⟩ := Blk.all hxr4
  have hq4 := hq3.trans (hb4.mono hq3.size)
  have hS4 := hS3.fr (.of_below hb4)
  clear hev3 hE2
  go_wp2_with fail
  refine ret_cell3 rfl rfl (setRow_heap _ _ _ _ _ _ hxr4) Tryz.underlying44 rfl (by kernel_rfl) rfl ⟨S3, sl, rfl, ?_, ?_, ?_⟩
  · exact hS4.fr (Fr.setRowMut (.refl _ _) hxr4 rfl (Nat.zero_le _) _)
  · refine own_mono (hsl.kept (row := some (w.heap.size + 1 + 1)) ?_ ?_) (Nat.le_trans (hq3.size) (Nat.le_refl _))
    · exact ⟨rfl, rfl, rfl, by simp, fun k _ hne => setRow_other _ _ _ _ (fun e => hne (by rw [e]))⟩
    · rcases hsl.2 with ⟨hv, _⟩ | ⟨g, cap, cur, hv, hg, _⟩
      · exact .inl (by rw [hv]; rfl)
      · refine .inr ?_
        rw [hv]
        have := hb3.size
        have := hf2.size
        simp [Value.ownBlock]
        omega
  · exact below_setRow hq4 (by omega) _
end Go.Proofs.YtpfnmnpdaacjmaaGreatDoor
