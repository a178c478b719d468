/-
  net: an event taken into account.
-/
import Derived.Test.YtpfnmnpdaacjmaaGreatDoorNet1
namespace Go.Proofs.YtpfnmnpdaacjmaaGreatDoor
open Go.RowKit

theorem evsV_len (l : List Ev) : (evsV l).length = l.length * 6 := by
  induction l with
  | nil => rfl
  | cons x l ih => simp [evsV, evV, evA] at *; omega
theorem evsV_mod : ∀ (l : List Ev) (i : Nat) (v : Int), i < l.length → evsV (l.modify i fun z => { z with d := v }) = (evsV l).set (i * 6 + 4) (.int .i64 v)
  | [], i, v, h => by simp at h
  | x :: l, 0, v, _ => by simp [evsV, evV, evA]
  | x :: l, i + 1, v, h => by
    have ih := evsV_mod l i v (by simpa using h)
    simp only [List.modify_succ_cons, evsV, List.flatMap_cons] at *
    rw [ih, List.set_append, if_neg (by simp [evV, evA]; omega)]
    congr 2
    simp [evV, evA]; omega
theorem mapOf_mod (l : List Ev) (i : Nat) (v : Int) : mapOf (l.modify i fun z => { z with d := v }) = mapOf l := by
  unfold mapOf
  apply List.ext_getElem?
  intro j
  simp only [List.getElem?_map, List.getElem?_zipIdx, List.getElem?_modify]
  cases l[j]? with
  | none => rfl
  | some x => by_cases h : i = j <;> simp [h, keyOf]
theorem findAt_mapOf {k : K3} {l : List Ev} {y : Nat × Int} (h : findAt k (mapOf l) = some y) : y.2 = (y.1 : Int) ∧ y.1 < l.length := by
  have hg : ∀ (l : List Ev) (i : Nat) (y : Nat × Int), findAt k ((l.zipIdx i).map fun x => (keyOf x.1, (x.2 : Int))) = some y → y.2 = ((i + y.1 : Nat) : Int) ∧ y.1 < l.length := by
    intro l
    induction l with
    | nil => intro i y h; simp [findAt] at h
    | cons x l ih =>
      intro i y h
      simp only [List.zipIdx_cons, List.map_cons, findAt] at h
      split at h
      · cases h; simp
      · cases hf : findAt k ((l.zipIdx (i + 1)).map fun x => (keyOf x.1, (x.2 : Int))) with
        | none => simp [hf] at h
        | some z =>
          simp only [hf, Option.map_some, Option.some.injEq] at h
          subst h
          obtain ⟨h1, h2⟩ := ih (i + 1) z hf
          refine ⟨?_, by simpa using h2⟩
          dsimp only
          rw [h1]
          congr 1
          omega
  have := hg l 0 y h
  simpa using this
theorem own_ne_map {w : World} {B g n : Nat} {v : Value} {xs : List Value} {e : TypeId} {size : Nat} {es : Array MapEntry} {c : Nat} (h : w.ownsRow B e size v n xs) (hm : w.blk g = some (.map es c)) : some g ≠ v.ownBlock := by
  intro hk
  obtain ⟨_, cs, hb⟩ := own_at h hk
  unfold Blk at hb
  unfold World.blk at hm
  rw [hm] at hb
  cases hb
theorem Appended.below {w : World} {base : Nat} {e : TypeId} {size m n : Nat} {v v' : Value} {xs zs : List Value} {w' : World} (h : Appended w base e size v n zs v' w') (ho : w.ownsRow base e size v m xs) (hb : base ≤ w.heap.size) : Below base w w' :=
  ⟨h.2.1.os, h.2.1.tape, h.2.1.output, h.2.1.size, fun k hk => h.2.1.block k (Nat.lt_of_lt_of_le hk hb) fun he => by have := (own_at ho he).1; omega⟩
/-- The other row is kept by an append, and the two stay apart. -/
theorem Appended.other {w : World} {base : Nat} {e : TypeId} {size m n m2 : Nat} {v v' v2 : Value} {xs zs ys : List Value} {w' : World} (h : Appended w base e size v n zs v' w') (_ho : w.ownsRow base e size v m xs)
    (h2 : w.ownsRow base e size v2 m2 ys) (hne : ∀ k, v.ownBlock = some k → v2.ownBlock ≠ some k) : w'.ownsRow base e size v2 m2 ys ∧ ∀ k, v'.ownBlock = some k → v2.ownBlock ≠ some k := by
  refine ⟨h2.kept h.2.1 ?_, ?_⟩
  · cases hv : v.ownBlock with
    | none => cases hv2 : v2.ownBlock <;> simp
    | some k => exact .inr (hne k hv)
  · intro k hk h2k
    rcases h.2.2 with he | he
    · rw [he] at hk; exact hne k hk h2k
    · rw [he] at hk
      cases hk
      obtain ⟨_, cs, hb⟩ := own_at h2 h2k.symm
      have := hb.lt
      omega
theorem SpIs.pushMv {B b : Nat} {w w' : World} {M : SpM} {p : Sp} {mp : List (K3 × Int)} (h : SpIs B w b M p mp) (hB : B ≤ w.heap.size) (x : Ev) {s : Sl} (hn : p.mv.length < 65536)
    (hap : Appended w B 89 6 M.mv.v (p.mv.length + 1) (evsV p.mv ++ evV x) s.v w') :
    SpIs B (w'.setCell ⟨b, 0, none⟩ s.v) b { M with mv := s } { p with mv := p.mv ++ [x] } mp ∧ Below B w (w'.setCell ⟨b, 0, none⟩ s.v) := by
  have hb := hap.keep h.mv h.blk (by decide)
  have ho : Only b w' (w'.setCell ⟨b, 0, none⟩ s.v) := (Only.refl b w').set_ 0 _
  obtain ⟨hst, hne⟩ := hap.other h.mv h.st h.ne
  have hmap : w'.blk M.g = _ := (hap.2.1.block M.g (Array.getElem?_eq_some_iff.1 h.map).1 (own_ne_map h.mv h.map)).trans h.map
  have hgb : M.g ≠ b := by
    rintro rfl
    unfold Blk at hb
    unfold World.blk at hmap
    rw [hmap] at hb
    cases hb
  refine ⟨⟨hb.set_ 0 s.v, h.hb, h.hg, ?_, own_only hst ho hb (by decide), ?_, hne, ⟨by simp; omega, h.ln.2⟩⟩, (hap.below h.mv hB).setCell h.hb _⟩
  · have := own_only hap.1 ho hb (by decide)
    simpa [evsV_snoc] using this
  · exact (ho.block M.g (Array.getElem?_eq_some_iff.1 hmap).1 (by simpa using hgb)).trans hmap
theorem SpIs.gb {B b : Nat} {w : World} {M : SpM} {p : Sp} {mp : List (K3 × Int)} (h : SpIs B w b M p mp) : M.g ≠ b := by
  intro e
  have h1 := h.blk
  have h2 := h.map
  unfold Blk at h1
  unfold World.blk at h2
  rw [e, h1] at h2
  cases h2
theorem SpIs.below {B b : Nat} {w w' : World} {M : SpM} {p : Sp} {mp : List (K3 × Int)} (h : SpIs B w b M p mp) (hb : Below w.heap.size w w') : SpIs B w' b M p mp :=
  ⟨h.blk.below hb h.blk.lt, h.hb, h.hg, own_below h.mv hb, own_below h.st hb, (hb.block _ (Array.getElem?_eq_some_iff.1 h.map).1).trans h.map, h.ne, h.ln⟩
theorem SpIs.setMap {B b : Nat} {w : World} {M : SpM} {p : Sp} {mp : List (K3 × Int)} (h : SpIs B w b M p mp) (mp' : List (K3 × Int)) :
    SpIs B (w.setObj M.g (.map (mapEs mp') mp'.length)) b M p mp' ∧ Below B w (w.setObj M.g (.map (mapEs mp') mp'.length)) := by
  have hg : w.grownBy (w.setObj M.g (.map (mapEs mp') mp'.length)) (some M.g) := ⟨rfl, rfl, rfl, by rw [size_setObj]; exact Nat.le_refl _, fun k _ hk => heap_setObj _ _ _ _ (by simpa using hk)⟩
  refine ⟨⟨(heap_setObj _ _ _ _ (Ne.symm h.gb)).trans h.blk, h.hb, h.hg, h.mv.kept hg (.inr (Ne.symm (own_ne_map h.mv h.map))), h.st.kept hg (.inr (Ne.symm (own_ne_map h.st h.map))), blk_setObj h.map, h.ne, h.ln⟩, ?_⟩
  exact ⟨rfl, rfl, rfl, by rw [size_setObj]; exact Nat.le_refl _, fun k hk => heap_setObj _ _ _ _ (by have := h.hg; omega)⟩
theorem SpIs.pushSt {B b : Nat} {w w' : World} {M : SpM} {p : Sp} {mp : List (K3 × Int)} (h : SpIs B w b M p mp) (hB : B ≤ w.heap.size) (x : Ev) {s : Sl} (hn : p.st.length < 65536)
    (hap : Appended w B 89 6 M.st.v (p.st.length + 1) (evsV p.st ++ evV x) s.v w') :
    SpIs B (w'.setCell ⟨b, 1, none⟩ s.v) b { M with st := s } { p with st := p.st ++ [x] } mp ∧ Below B w (w'.setCell ⟨b, 1, none⟩ s.v) := by
  have hb := hap.keep h.st h.blk (by decide)
  have ho : Only b w' (w'.setCell ⟨b, 1, none⟩ s.v) := (Only.refl b w').set_ 1 _
  obtain ⟨hmv, hne⟩ := hap.other h.st h.mv (fun k hk h2 => h.ne k h2 hk)
  have hmap : w'.blk M.g = _ := (hap.2.1.block M.g (Array.getElem?_eq_some_iff.1 h.map).1 (own_ne_map h.st h.map)).trans h.map
  refine ⟨⟨hb.set_ 1 s.v, h.hb, h.hg, own_only hmv ho hb (by decide), ?_, ?_, fun k hk h2 => hne k h2 hk, ⟨h.ln.1, by simp; omega⟩⟩, (hap.below h.st hB).setCell h.hb _⟩
  · have := own_only hap.1 ho hb (by decide)
    simpa [evsV_snoc] using this
  · exact (ho.block M.g (Array.getElem?_eq_some_iff.1 hmap).1 (by simpa using h.gb)).trans hmap
/-- The row of sets lies in a block of its own; a number of one of its events is set. -/
theorem SpIs.setSt {B b : Nat} {w : World} {M : SpM} {p : Sp} {mp : List (K3 × Int)} (h : SpIs B w b M p mp) (i : Nat) (hi : i < p.st.length) (v : Int) :
    ∃ g c, M.st = ⟨some ⟨g, 0, none⟩, p.st.length, c⟩ ∧ B ≤ g ∧ (∃ u, w.cell? ⟨g, i * 6 + 4, none⟩ = some (.int .i64 u)) ∧ w.frozen? ⟨g, i * 6 + 4, none⟩ = false ∧
      SpIs B (w.setCell ⟨g, i * 6 + 4, none⟩ (.int .i64 v)) b M { p with st := p.st.modify i fun z => { z with d := v } } mp ∧ Below B w (w.setCell ⟨g, i * 6 + 4, none⟩ (.int .i64 v)) := by
  rcases h.st.2 with ⟨_, hz⟩ | ⟨g, cap, cur, hv, hBg, hh, hn, hcap, hsz, htk⟩
  · omega
  have hM : M.st = ⟨some ⟨g, 0, none⟩, p.st.length, cap⟩ := by
    obtain ⟨⟨a, n, c⟩, _⟩ : ∃ s : Sl, s = M.st := ⟨_, rfl⟩
    cases hs : M.st with
    | mk a n c =>
      rw [hs] at hv
      simp only [Sl.v, Value.slice.injEq] at hv
      obtain ⟨rfl, rfl, rfl⟩ := hv
      rfl
  have hj : i * 6 + 4 < cur.size := by rw [hsz]; have : (i + 1) * 6 ≤ cap * 6 := Nat.mul_le_mul_right 6 (by omega); omega
  have hjl : i * 6 + 4 < p.st.length * 6 := by have : (i + 1) * 6 ≤ p.st.length * 6 := Nat.mul_le_mul_right 6 (by omega); omega
  have hbk : Blk w g 89 cur := hh
  have hx : ∃ u, (evsV p.st)[i * 6 + 4]? = some (.int .i64 u) := by
    have : ∀ (l : List Ev) (i : Nat), i < l.length → ∃ u, (evsV l)[i * 6 + 4]? = some (.int .i64 u) := by
      intro l
      induction l with
      | nil => intro i h; simp at h
      | cons x l ih =>
        intro i h
        cases i with
        | zero => exact ⟨x.d, by simp [evsV, evV, evA]⟩
        | succ i =>
          obtain ⟨u, hu⟩ := ih i (by simpa using h)
          refine ⟨u, ?_⟩
          simp only [evsV, List.flatMap_cons] at hu ⊢
          rw [List.getElem?_append_right (by simp [evV, evA]; omega)]
          rw [← hu]
          congr 1
          simp [evV, evA]; omega
    exact this _ _ hi
  obtain ⟨u, hu⟩ := hx
  have hcell : w.cell? ⟨g, i * 6 + 4, none⟩ = some (.int .i64 u) := by
    rw [(Blk.all hbk).2.1, ← hu, ← htk, List.getElem?_take, if_pos hjl, Array.getElem?_toList]
  refine ⟨g, cap, hM, hBg, ⟨u, hcell⟩, (Blk.all hbk).2.2 _, ?_, (Below.refl _ _).setCell hBg _⟩
  have ho : Only g w (w.setCell ⟨g, i * 6 + 4, none⟩ (.int .i64 v)) := (Only.refl g w).set_ _ _
  have hgb : g ≠ b := by
    rintro rfl
    have := h.blk
    unfold Blk at this hbk
    rw [hbk] at this
    cases this
  have hgm : M.g ≠ g := fun e => own_ne_map h.st h.map (by rw [hv, e]; rfl)
  refine ⟨ho.blk h.blk (Ne.symm hgb), h.hb, h.hg, ?_, ?_, (ho.block _ (Array.getElem?_eq_some_iff.1 h.map).1 (by simpa using hgm)).trans h.map, h.ne, ⟨h.ln.1, by simpa using h.ln.2⟩⟩
  · refine h.mv.kept ho ?_
    cases hmv : M.mv.v.ownBlock with
    | none => exact .inl rfl
    | some k => exact .inr fun e => h.ne k hmv (by rw [hv]; cases e; rfl)
  · refine ⟨by rw [evsV_len], .inr ⟨g, cap, cur.setIfInBounds (i * 6 + 4) (.int .i64 v), by simpa using hv, hBg, (hbk.set_ _ _ : Blk _ _ _ _), by simpa using hn, hcap, by simpa using hsz, ?_⟩⟩
    rw [evsV_mod _ _ _ hi, ← htk, Array.toList_setIfInBounds, List.length_modify, List.take_set]
/-- One event is appended. -/
theorem step_app1 {w : World} {ops : Array Oper} {o : Oper} {a : Act} {K : Act → World → Prop} {Q : Exit → Act → World → Prop} {E : Prop} (hgd : o.guard = none) (s x : Operand)
    (ho : o.op = .call { callee := .builtin .append, args := #[s, x], argTypes := #[64, 64] })
    (B : Nat) (v : Value) (l : List Ev) (y : Ev) (hs : a.eval s = v) (hown : w.ownsRow B 89 6 v l.length (evsV l)) (g : Nat) (hx : a.eval x = .slice (some ⟨g, 0, none⟩) 1 1) (hg : Blk w g 89 (evA y))
    (hl : l.length ≤ 1048576) (hB : B ≤ w.heap.size)
    (h : ∀ v' w', Appended w B 89 6 v (l.length + 1) (evsV l ++ evV y) v' w' → K (a.put o.dst v') w') :
    if Region.wanted o (yielded ops a.tmps) = true then Oper.wp Tryz.prog o a w K Q else E := by
  obtain ⟨i0, hi0, hz0, hz1, hz2⟩ := info_parts infoE
  exact step_append_any hgd s x _ ho B 89 i0 _ 6 48 Tryz.underlying64 hi0 hz0 hz1 hz2 rfl (by omega) v l.length (evsV l) hs hown (g + 1) _ 1 1 (evV y) hx
    ⟨rfl, fun _ => ⟨_, rfl, by simp, fun j u hu => by
      have h1 := (Blk.all hg).2.1 j
      rw [Addr.add_mid, Nat.zero_add, h1]
      simpa [evV] using hu⟩⟩ (ev_one y) (by simp [maxLen]; omega) (by omega) hB h
set_option maxRecDepth 100000 in
set_option maxHeartbeats 1000000 in
theorem net_addM {B b : Nat} {w : World} {M : SpM} {p : Sp} (h : SpIs B w b M p (mapOf p.st)) (hB : B ≤ w.heap.size) (x : Ev) (hn : p.mv.length < 65536) (hs : evSets x = false) :
    Calls Tryz.prog 39 #[.pointer (some ⟨b, 0, none⟩), .agg (evA x)] w fun e w' => e = .returned (.tuple #[]) ∧ (∃ M', SpIs B w' b M' (p.add x) (mapOf (p.add x).st)) ∧ Below B w w' := by
  have h0 := h.below (below1 w (.cells (evA x) 89))
  have hx0 := Blk.new w 89 (evA x)
  have hp : p.add x = { p with mv := p.mv ++ [x] } := by rw [Sp.add, hs]; rfl
  have Hp := hide hp
  have hS := ev_sets x (w.alloc (.cells (evA x) 89))
  rw [hs] at hS
  clear hp hs
  go_enter Tryz.func39, Tryz.ntmps39
  go_wp2_with fail
  refine hS.mono ?_
  rintro e w1 ⟨rfl, hb1⟩
  have h1 := h0.below hb1
  have hx1 := hx0.below hb1 hx0.lt
  obtain ⟨e1, c1, f1⟩ := Blk.all h1.blk
  obtain ⟨e2, c2, f2⟩ := Blk.all hx1
  have hq1 : Below w.heap.size w w1 := (below1 _ _).trans (hb1.mono (by simp))
  have hlt := h1.blk.lt
  have hlt2 := hx1.lt
  clear hS
  go_wp2_with fail
  have hW : Below w1.heap.size w1 (w1.alloc (.cells (evA x) 89)).drew := (below1 _ _).drew
  have h2 := h1.below hW
  have hxn : Blk (w1.alloc (.cells (evA x) 89)).drew w1.heap.size 89 (evA x) := (Blk.new w1 89 (evA x)).drew
  have hB2 : B ≤ (w1.alloc (.cells (evA x) 89)).drew.heap.size := Nat.le_trans hB (hq1.trans (hW.mono hq1.size)).size
  go_region_law (refine step_app1 rfl (.tmp 13) (.tmp 15) rfl B M.mv.v p.mv x (by simp [Act.eval]) h2.mv w1.heap.size (by simp [Act.eval]) hxn (by omega) hB2 ?_; intro v5 w5 hap5; obtain ⟨s5, rfl, -⟩ := sl_of_own hap5.1; obtain ⟨e5, c5, f5⟩ := Blk.all (hap5.keep h2.mv h2.blk (by decide)))
  all_goals
    obtain ⟨hP5, hB5⟩ := h2.pushMv hB2 x (s := s5) hn hap5
    go_wp2_with fail
    refine bodyPost_ret (results_none rfl _ _ _) rfl ?_
    rw [unhide Hp]
    exact ⟨rfl, ⟨_, hP5⟩, ((hq1.trans (hW.mono hq1.size)).mono hB).trans hB5⟩
set_option maxRecDepth 100000 in
set_option maxHeartbeats 1000000 in
theorem net_addN {B b : Nat} {w : World} {M : SpM} {p : Sp} (h : SpIs B w b M p (mapOf p.st)) (hB : B ≤ w.heap.size) (x : Ev) (hn : p.st.length < 65536) (hs : evSets x = true) (hf : findAt (keyOf x) (mapOf p.st) = none) :
    Calls Tryz.prog 39 #[.pointer (some ⟨b, 0, none⟩), .agg (evA x)] w fun e w' => e = .returned (.tuple #[]) ∧ (∃ M', SpIs B w' b M' (p.add x) (mapOf (p.add x).st)) ∧ Below B w w' := by
  have h0 := h.below (below1 w (.cells (evA x) 89))
  have hx0 := Blk.new w 89 (evA x)
  have hS := ev_sets x (w.alloc (.cells (evA x) 89))
  rw [hs] at hS
  have hmn := own_n h.st
  have hp : p.add x = { p with st := p.st ++ [x] } := by rw [Sp.add, hs, hf]; rfl
  have Hp := hide hp
  have hf1 : (findAt (keyOf x) (mapOf p.st)).isSome = false := by rw [hf]; rfl
  have hf2 : (findAt (keyOf x) (mapOf p.st)).isNone = true := by rw [hf]; rfl
  have Hmn := hide hmn
  clear hp hs hf hmn
  go_enter Tryz.func39, Tryz.ntmps39
  go_wp2_with fail
  refine hS.mono ?_
  rintro e w1 ⟨rfl, hb1⟩
  have h1 := h0.below hb1
  have hx1 := hx0.below hb1 hx0.lt
  have hq1 : Below w.heap.size w w1 := (below1 _ _).trans (hb1.mono (by simp))
  have h1d := h1.below (Below.refl _ _).drew
  have hx1d := hx1.drew
  obtain ⟨e1, c1, f1⟩ := Blk.all h1.blk
  obtain ⟨e2, c2, f2⟩ := Blk.all hx1
  have hlt := h1.blk.lt
  have hlt2 := hx1.lt
  have em := h1d.map
  clear hS
  go_upto_region 3 with fail
  go_cut [4, 5] (fun v4 v5 wx => v4 = .int .i64 (valAt (keyOf x) (mapOf p.st)) ∧ v5 = .bool false ∧ Below w1.heap.size w1 wx)
  case first =>
    go_region_law (go_simp; go_at_call 57; refine (net_key x _).mono ?_; rintro e w2 ⟨rfl, hb2⟩; have h2 := h1d.below hb2; have hx2 := hx1d.below hb2 hx1d.lt; obtain ⟨e3, c3, f3⟩ := Blk.all h2.blk; obtain ⟨e4, c4, f4⟩ := Blk.all hx2; have em2 := h2.map)
    all_goals (go_wp2_with fail; go_meet; exact ⟨rfl, rfl, (Below.refl _ _).drew.trans hb2⟩)
  case rest =>
    obtain ⟨rfl, rfl, hb2⟩ := hcut
    have h3 := h1.below hb2
    have hx3 := hx1.below hb2 hx1.lt
    have hq3 : Below w.heap.size w wc := hq1.trans (hb2.mono hq1.size)
    have hgl : M.g < w.heap.size := (Array.getElem?_eq_some_iff.1 h.map).1
    have h3d := h3.below (Below.refl _ _).drew
    have hx3d := hx3.drew
    obtain ⟨e3, c3, f3⟩ := Blk.all h3.blk
    obtain ⟨e4, c4, f4⟩ := Blk.all hx3
    have em3 := h3d.map
    have em4 := h3.map
    clear em e1 c1 f1 e2 c2 f2
    go_upto_region 5 with fail
    go_cut [] (fun wx => SpIs B wx b M p (mapOf (p.st ++ [x])) ∧ Blk wx w.heap.size 89 (evA x) ∧ Below B w wx)
    case first =>
      go_region_law (go_simp; go_at_call 57; refine (net_key x _).mono ?_; rintro e w2 ⟨rfl, hb4⟩; have h4 := h3d.below hb4; have hx4 := hx3d.below hb4 hx3d.lt; obtain ⟨e5, c5, f5⟩ := Blk.all h4.blk; obtain ⟨e6, c6, f6⟩ := Blk.all hx4; have em5 := h4.map)
      all_goals
        go_wp2_with fail
        go_meet
        have hmp : mapOf (p.st ++ [x]) = mapOf p.st ++ [(keyOf x, (M.st.n : Int))] := by rw [mapOf_snoc, unhide Hmn]
        have hml : (mapOf (p.st ++ [x])).length = (mapOf p.st).length + 1 := by rw [hmp, List.length_append]; rfl
        obtain ⟨h5, hb5⟩ := h4.setMap (mapOf (p.st ++ [x]))
        rw [hml] at h5 hb5
        rw [hmp] at h5 hb5
        rw [hmp]
        have hq4 : Below w.heap.size w w2 := hq3.trans (((Below.refl _ _).drew.trans hb4).mono hq3.size)
        exact ⟨h5, (heap_setObj _ _ _ _ (by omega)).trans hx4, (hq4.mono hB).trans hb5⟩
    case rest =>
      obtain ⟨h6, hx6, hq6⟩ := hcut
      obtain ⟨wo, rfl⟩ : ∃ wo, wo = wc := ⟨_, rfl⟩
      clear e3 c3 f3 e4 c4 f4 em3 em4
      obtain ⟨e5, c5, f5⟩ := Blk.all h6.blk
      obtain ⟨e6, c6, f6⟩ := Blk.all hx6
      have hlt6 := h6.blk.lt
      have hlt7 := hx6.lt
      have hW : Below wo.heap.size wo (wo.alloc (.cells (evA x) 89)).drew := (below1 _ _).drew
      have h7 := h6.below hW
      have hxn : Blk (wo.alloc (.cells (evA x) 89)).drew wo.heap.size 89 (evA x) := (Blk.new wo 89 (evA x)).drew
      have hBo : B ≤ wo.heap.size := Nat.le_trans hB hq6.size
      have hB2 : B ≤ (wo.alloc (.cells (evA x) 89)).drew.heap.size := Nat.le_trans hBo hW.size
      go_wp2_with fail
      go_region_law (refine step_app1 rfl (.tmp 46) (.tmp 48) rfl B M.st.v p.st x (by simp [Act.eval]) h7.st wo.heap.size (by simp [Act.eval]) hxn (by omega) hB2 ?_; intro v5 w5 hap5; obtain ⟨s5, rfl, -⟩ := sl_of_own hap5.1; obtain ⟨e7, c7, f7⟩ := Blk.all (hap5.keep h7.st h7.blk (by decide)))
      all_goals
        obtain ⟨hP5, hB5⟩ := h7.pushSt hB2 x (s := s5) hn hap5
        go_wp2_with fail
        refine bodyPost_ret (results_none rfl _ _ _) rfl ?_
        rw [unhide Hp]
        exact ⟨rfl, ⟨_, hP5⟩, (hq6.trans (hW.mono hBo)).trans hB5⟩

end Go.Proofs.YtpfnmnpdaacjmaaGreatDoor
