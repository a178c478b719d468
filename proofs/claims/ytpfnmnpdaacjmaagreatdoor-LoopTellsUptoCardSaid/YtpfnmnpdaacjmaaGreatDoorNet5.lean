/-
  net.Net.
-/
import Derived.Test.YtpfnmnpdaacjmaaGreatDoorNet4
namespace Go.Proofs.YtpfnmnpdaacjmaaGreatDoor
open Go.RowKit

theorem own_belowB {w w' : World} {B Bs : Nat} {e : TypeId} {size n : Nat} {v : Value} {xs : List Value} (h : w.ownsRow B e size v n xs) (hlt : ∀ k, v.ownBlock = some k → k < Bs) (hb : Below Bs w w') : w'.ownsRow B e size v n xs := by
  refine ⟨h.1, ?_⟩
  rcases h.2 with hn | ⟨g, cap, cur, hv, hg, hh, hr⟩
  · exact .inl hn
  · exact .inr ⟨g, cap, cur, hv, hg, (hb.block g (hlt g (by rw [hv]; rfl))).trans hh, hr⟩
theorem own_lt {w : World} {B : Nat} {e : TypeId} {size n : Nat} {v : Value} {xs : List Value} (h : w.ownsRow B e size v n xs) (k : Nat) (hk : v.ownBlock = some k) : k < w.heap.size := by
  obtain ⟨_, cs, hb⟩ := own_at h hk.symm
  exact hb.lt
theorem evs_oneR (l : List Ev) : ∀ u ∈ evsV l, u.oneCell' = true := evs_one l
/-- A list of events is appended. -/
theorem step_appL {w : World} {ops : Array Oper} {o : Oper} {a : Act} {K : Act → World → Prop} {Q : Exit → Act → World → Prop} {E : Prop} (hgd : o.guard = none) (s x : Operand)
    (ho : o.op = .call { callee := .builtin .append, args := #[s, x], argTypes := #[64, 64] })
    (B : Nat) (v : Value) (l : List Ev) (l2 : List Ev) (hs : a.eval s = v) (hown : w.ownsRow B 89 6 v l.length (evsV l)) (s2 : Sl) (hx : a.eval x = s2.v) (hg : RdE w s2 l2)
    (hl : l.length + l2.length ≤ 1048576) (hB : B ≤ w.heap.size)
    (h : ∀ v' w', Appended w B 89 6 v (l.length + l2.length) (evsV l ++ evsV l2) v' w' → K (a.put o.dst v') w') :
    if Region.wanted o (yielded ops a.tmps) = true then Oper.wp Tryz.prog o a w K Q else E := by
  obtain ⟨i0, hi0, hz0, hz1, hz2⟩ := info_parts infoE
  have hn := hg.len
  have hr := Rd.reads hg
  rw [hn] at hr
  exact step_append_any hgd s x _ ho B 89 i0 _ 6 48 Tryz.underlying64 hi0 hz0 hz1 hz2 rfl (by omega) v l.length (evsV l) hs hown w.heap.size s2.a l2.length s2.c (evsV l2) (by rw [hx, ← hn]) hr (evs_one l2) (by simp [maxLen]; omega) (by omega) hB h
theorem wpList_appL {w : World} {ops : Array Oper} {rest : List Oper} {o : Oper} {a : Act} {Q : Exit → Act → World → Prop} (hgd : o.guard = none) (s x : Operand)
    (ho : o.op = .call { callee := .builtin .append, args := #[s, x], argTypes := #[64, 64] })
    (B : Nat) (v : Value) (l : List Ev) (l2 : List Ev) (hs : a.eval s = v) (hown : w.ownsRow B 89 6 v l.length (evsV l)) (s2 : Sl) (hx : a.eval x = s2.v) (hg : RdE w s2 l2)
    (hl : l.length + l2.length ≤ 1048576) (hB : B ≤ w.heap.size)
    (h : ∀ v' w', Appended w B 89 6 v (l.length + l2.length) (evsV l ++ evsV l2) v' w' → wpList Tryz.prog ops Q rest (a.put o.dst v') w') : wpList Tryz.prog ops Q (o :: rest) a w := by
  obtain ⟨i0, hi0, hz0, hz1, hz2⟩ := info_parts infoE
  have hn := hg.len
  have hr := Rd.reads hg
  rw [hn] at hr
  exact wpList_append_any w hgd s x _ ho B 89 i0 _ 6 48 Tryz.underlying64 hi0 hz0 hz1 hz2 rfl (by omega) v l.length (evsV l) hs hown w.heap.size s2.a l2.length s2.c (evsV l2) (by rw [hx, ← hn]) hr (evs_one l2) (by simp [maxLen]; omega) (by omega) hB h
theorem evsV_app (l m : List Ev) : evsV (l ++ m) = evsV l ++ evsV m := by simp [evsV]
theorem end_len (p : Sp) : p.end_.length ≤ p.mv.length + p.st.length := by
  have := List.length_filter_le (fun x : Ev => x.c != x.d) p.st
  rw [Sp.end_, List.length_append]; omega
theorem add_len (p : Sp) (x : Ev) : (p.add x).mv.length + (p.add x).st.length ≤ p.mv.length + p.st.length + 1 := by
  unfold Sp.add
  split
  · split <;> simp <;> omega
  · simp; omega
/-- What holds at the head of each round. -/
structure NetW (w0 : World) (l : List Ev) (j : Nat) (b : Nat) (so : Sl) (wr : World) : Prop where
  ex : ∃ Bs M p ol, SpIs Bs wr b M p (mapOf p.st) ∧ w0.heap.size ≤ Bs ∧ Bs ≤ wr.heap.size ∧ wr.ownsRow w0.heap.size 89 6 so.v ol.length (evsV ol) ∧ (∀ k, so.v.ownBlock = some k → k < Bs) ∧
    netL p ol (l.drop j) = netOf l ∧ ol.length + p.mv.length + p.st.length ≤ j
  bl : Below w0.heap.size w0 wr
set_option maxRecDepth 100000 in
set_option maxHeartbeats 1000000 in
theorem net_net {w : World} {s : Sl} {l : List Ev} (h : RdE w s l) (hl : l.length ≤ 65536) :
    Calls Tryz.prog 24 #[s.v] w fun e w' => ∃ sl : Sl, e = .returned sl.v ∧ w'.ownsRow w.heap.size 89 6 sl.v (netOf l).length (evsV (netOf l)) ∧ Below w.heap.size w w' := by
  have hsn := h.len
  obtain ⟨sa, sn, sc⟩ := s
  simp only at hsn
  subst hsn
  have Hh := hide h
  clear h
  go_enter Tryz.func24, Tryz.ntmps24
  go_wp2_with fail
  refine (net_begin w.heap.size w (Nat.le_refl _)).mono ?_
  rintro e w1 ⟨b, M1, rfl, hs1, hb1⟩
  go_wp2_with fail
  go_loopw [3, 4, 10] (fun x y i wr => ∃ (j : Nat) (so : Sl) (b : Nat), j ≤ l.length ∧ i = .int .i64 j ∧ x = so.v ∧ y = .pointer (some ⟨b, 0, none⟩) ∧ NetW w l j b so wr) (fun _ _ i _ => l.length - (intOf i).toNat)
  case atStart => exact ⟨0, ⟨none, 0, 0⟩, b, by omega, rfl, rfl, rfl, ⟨⟨w.heap.size, M1, ⟨[], []⟩, [], hs1, Nat.le_refl _, hb1.size, World.ownsRow_nil _ _ _ _, (fun k hk => nomatch hk), rfl, Nat.zero_le _⟩, hb1⟩⟩
  case round =>
    clear hs1 hb1
    obtain ⟨j, so, b, hj, rfl, rfl, rfl, ⟨⟨Bs, M, p, ol, hsp, hB0, hBs, hso, hlt, hnet, hlen⟩, hbr⟩⟩ := hrel
    obtain ⟨wo, rfl⟩ : ∃ wo, wo = wr := ⟨_, rfl⟩
    by_cases hjn : j = l.length
    · subst hjn
      rw [List.drop_length] at hnet
      have hfin : ol ++ p.end_ = netOf l := hnet
      have Hfin := hide hfin
      have hel := end_len p
      clear hfin hnet
      go_wp2_with fail
      refine (net_end hsp).mono ?_
      rintro e w2 ⟨s2, rfl, hs2, hb2⟩
      have hso2 := own_below hso hb2
      have hre := RdE.own hs2
      have hq2 := hbr.trans (hb2.mono hbr.size)
      go_wp2_with (at_builtin
                   refine wpList_appL rfl (.tmp 28) (.tmp 30) rfl w.heap.size so.v ol p.end_ (by simp [Act.eval]) hso2 s2 (by simp [Act.eval]) hre (by omega) hq2.size ?_
                   intro v5 w5 hap5
                   obtain ⟨s5, rfl, -⟩ := sl_of_own hap5.1)
      go_ret
      refine ⟨s5, rfl, ?_, hq2.trans (hap5.below hso2 hq2.size)⟩
      rw [← unhide Hfin, evsV_app, List.length_append]
      exact hap5.1
    · have hjl : j < l.length := by omega
      have hjI : (j : Int) < (l.length : Int) := by omega
      obtain ⟨g, off, rfl, hg, C, T, fr, hC, hCs, hrow⟩ := RdE.open_ (l := l) ((unhide Hh).below hbr) (by omega)
      have hrow' := hrow j hjl
      have hnb : off + j * 6 + 6 ≤ C.size := by have : (j + 1) * 6 ≤ l.length * 6 := Nat.mul_le_mul_right 6 (by omega); omega
      obtain ⟨y, hy⟩ : ∃ y, y = l[j] := ⟨_, rfl⟩
      rw [← hy] at hrow'
      have hdr : l.drop j = y :: l.drop (j + 1) := by rw [hy]; exact List.drop_eq_getElem_cons hjl
      rw [hdr] at hnet
      have Hnet := hide hnet
      clear hrow hy hdr hnet
      have hb0 := below1 wo (.cells (evA y) 89)
      have hx0 := Blk.new wo 89 (evA y)
      cases hc : cutsB y
      · have hC1 := net_cuts y (wo.alloc (.cells (evA y) 89))
        rw [hc] at hC1
        have Hc := hide hc
        clear hc
        go_wp2_with fail
        refine hC1.mono ?_
        rintro e w2 ⟨rfl, hb2⟩
        have hx2 := hx0.below hb2 hx0.lt
        obtain ⟨e2, c2, f2⟩ := Blk.all hx2
        have hq2 : Below wo.heap.size wo w2 := hb0.trans (hb2.mono hb0.size)
        have hsp2 := hsp.below hq2
        have hso2 := own_below hso hq2
        have hBs2 : Bs ≤ w2.heap.size := Nat.le_trans hBs hq2.size
        clear hC1
        go_wp2_with fail
        refine (net_add hsp2 hBs2 y (by omega)).mono ?_
        rintro e w3 ⟨rfl, ⟨M3, hsp3⟩, hb3⟩
        go_wp2_with fail
        go_roundw
        case measure => simp [intOf]; omega
        case rel =>
          refine ⟨j + 1, so, b, by omega, by go_num, rfl, rfl, ⟨⟨Bs, M3, p.add y, ol, hsp3, hB0, Nat.le_trans hBs2 hb3.size, own_belowB hso2 hlt hb3, hlt, ?_, ?_⟩, ?_⟩⟩
          · have hh := unhide Hnet; rw [netL, unhide Hc] at hh; exact hh
          · have := add_len p y; omega
          · exact (hbr.trans (hq2.mono hbr.size)).trans (hb3.mono hB0)
      · have hC1 := net_cuts y (wo.alloc (.cells (evA y) 89))
        rw [hc] at hC1
        have Hc := hide hc
        clear hc
        go_wp2_with fail
        refine hC1.mono ?_
        rintro e w2 ⟨rfl, hb2⟩
        have hx2 := hx0.below hb2 hx0.lt
        obtain ⟨e2, c2, f2⟩ := Blk.all hx2
        have hq2 : Below wo.heap.size wo w2 := hb0.trans (hb2.mono hb0.size)
        have hsp2 := hsp.below hq2
        have hso2 := own_below hso hq2
        have hBs2 : Bs ≤ w2.heap.size := Nat.le_trans hBs hq2.size
        have hlx := hx2.lt
        have hel := end_len p
        clear hC1
        go_upto_region 7 with fail
        go_cut [3] (fun v wx => ∃ s5 : Sl, v = s5.v ∧ wx.ownsRow w.heap.size 89 6 s5.v (ol ++ p.end_ ++ [y]).length (evsV (ol ++ p.end_ ++ [y])) ∧ Below w.heap.size w wx)
        case first =>
          have hno : some wo.heap.size ≠ so.v.ownBlock := fun e => by have := own_lt hso _ e.symm; omega
          have hA0 : Below w2.heap.size w2 w2.drew := (Below.refl _ _).drew
          have hA1 : Below w2.heap.size w2 (w2.alloc (.cells (evA y) 89)).drew := (below1 _ _).drew
          have hB1 : Blk (w2.alloc (.cells (evA y) 89)).drew w2.heap.size 89 (evA y) := (Blk.new w2 89 (evA y)).drew
          go_region_law (first
            | (go_simp
               go_at_call 38
               refine (net_end (hsp2.below hA0)).mono ?_
               rintro e w3 ⟨s3, rfl, hs3, hb3⟩
               have hq3 := hA0.trans (hb3.mono hA0.size)
               have hx3 := hx2.below hq3 hx2.lt
               obtain ⟨e3, c3, f3⟩ := Blk.all hx3
               have hso3 := own_below hso2 hq3
               have hre3 := RdE.own hs3
               have hlx3 := hx3.lt)
            | (go_simp
               go_at_call 38
               refine (net_end (hsp2.below hA1)).mono ?_
               rintro e w3 ⟨s3, rfl, hs3, hb3⟩
               have hq3 := hA1.trans (hb3.mono hA1.size)
               have hx3 := hx2.below hq3 hx2.lt
               obtain ⟨e3, c3, f3⟩ := Blk.all hx3
               have hso3 := own_below hso2 hq3
               have hre3 := RdE.own hs3
               have hlx3 := hx3.lt
               have hk3 := hB1.below hb3 hB1.lt)
            | (have hk3' := hk3
               refine step_appL rfl (.tmp 16) (.tmp 18) rfl w.heap.size so.v ol p.end_ (by simp [Act.eval]) hso3 s3 (by simp [Act.eval]) hre3 (by omega) (Nat.le_trans (Nat.le_trans hbr.size hq2.size) hq3.size) ?_
               intro v4 w4 hap4
               obtain ⟨s4, rfl, -⟩ := sl_of_own hap4.1
               have hq4 : Below w.heap.size w w4 := ((hbr.trans (hq2.mono hbr.size)).trans (hq3.mono (Nat.le_trans hbr.size hq2.size))).trans (hap4.below hso3 (Nat.le_trans (Nat.le_trans hbr.size hq2.size) hq3.size))
               have hx4 : Blk w4 wo.heap.size 89 (evA y) := (hap4.2.1.block _ hlx3 hno).trans hx3
               obtain ⟨e4, c4, f4⟩ := Blk.all hx4
               have hlx4 := hx4.lt
               have hso4 : w4.ownsRow w.heap.size 89 6 s4.v (ol ++ p.end_).length (evsV (ol ++ p.end_)) := by rw [evsV_app, List.length_append]; exact hap4.1
               have hk4 : Blk w4 w2.heap.size 89 (evA y) := (hap4.2.1.block _ hk3.lt (fun e => by have := own_lt hso _ e.symm; have := hq2.size; omega)).trans hk3)
            | (refine step_appL rfl (.tmp 16) (.tmp 18) rfl w.heap.size so.v ol p.end_ (by simp [Act.eval]) hso3 s3 (by simp [Act.eval]) hre3 (by omega) (Nat.le_trans (Nat.le_trans hbr.size hq2.size) hq3.size) ?_
               intro v4 w4 hap4
               obtain ⟨s4, rfl, -⟩ := sl_of_own hap4.1
               have hq4 : Below w.heap.size w w4 := ((hbr.trans (hq2.mono hbr.size)).trans (hq3.mono (Nat.le_trans hbr.size hq2.size))).trans (hap4.below hso3 (Nat.le_trans (Nat.le_trans hbr.size hq2.size) hq3.size))
               have hx4 : Blk w4 wo.heap.size 89 (evA y) := (hap4.2.1.block _ hlx3 hno).trans hx3
               obtain ⟨e4, c4, f4⟩ := Blk.all hx4
               have hlx4 := hx4.lt
               have hso4 : w4.ownsRow w.heap.size 89 6 s4.v (ol ++ p.end_).length (evsV (ol ++ p.end_)) := by rw [evsV_app, List.length_append]; exact hap4.1)
            | (refine step_appL rfl (.tmp 16) (.tmp 18) rfl w.heap.size so.v ol p.end_ (by simp [Act.eval]) (own_below hso3 (below1 w3 (.cells (evA y) 89))) s3 (by simp [Act.eval]) (hre3.below (below1 _ _)) (by omega) (by have := hbr.size; have := hq2.size; have := hq3.size; simp; omega) ?_
               intro v4 w4 hap4
               obtain ⟨s4, rfl, -⟩ := sl_of_own hap4.1
               have hq4 : Below w.heap.size w w4 := ((hbr.trans (hq2.mono hbr.size)).trans (hq3.mono (Nat.le_trans hbr.size hq2.size))).trans (((below1 w3 (.cells (evA y) 89)).mono (by have := hbr.size; have := hq2.size; have := hq3.size; omega)).trans (hap4.below (own_below hso3 (below1 _ _)) (by have := hbr.size; have := hq2.size; have := hq3.size; simp; omega)))
               have hx4 : Blk w4 wo.heap.size 89 (evA y) := (hap4.2.1.block _ (by simp; omega) hno).trans (hx3.alloc _)
               obtain ⟨e4, c4, f4⟩ := Blk.all hx4
               have hlx4 := hx4.lt
               have hso4 : w4.ownsRow w.heap.size 89 6 s4.v (ol ++ p.end_).length (evsV (ol ++ p.end_)) := by rw [evsV_app, List.length_append]; exact hap4.1
               have hk4 : Blk w4 w3.heap.size 89 (evA y) := (hap4.2.1.block _ (by simp) (fun e => by have := own_lt hso _ e.symm; have := hq2.size; have := hq3.size; omega)).trans (Blk.new w3 89 (evA y)))
            | (refine step_app1 rfl (.tmp 19) (.tmp 21) rfl w.heap.size s4.v (ol ++ p.end_) y (by simp [Act.eval]) hso4 w3.heap.size (by simp [Act.eval]) hk4 (by rw [List.length_append]; omega) hq4.size ?_
               intro v5 w5 hap5
               obtain ⟨s5, rfl, -⟩ := sl_of_own hap5.1
               have hq5 : Below w.heap.size w w5 := hq4.trans (hap5.below hso4 hq4.size))
            | (refine step_app1 rfl (.tmp 19) (.tmp 21) rfl w.heap.size s4.v (ol ++ p.end_) y (by simp [Act.eval]) hso4 w2.heap.size (by simp [Act.eval]) hk4 (by rw [List.length_append]; omega) hq4.size ?_
               intro v5 w5 hap5
               obtain ⟨s5, rfl, -⟩ := sl_of_own hap5.1
               have hq5 : Below w.heap.size w w5 := hq4.trans (hap5.below hso4 hq4.size))
            | (refine step_app1 rfl (.tmp 19) (.tmp 21) rfl w.heap.size s4.v (ol ++ p.end_) y (by simp [Act.eval]) (own_below hso4 (below1 _ _)) w4.heap.size (by simp [Act.eval]) (Blk.new w4 89 (evA y)) (by rw [List.length_append]; omega) (by have := hq4.size; simp; omega) ?_
               intro v5 w5 hap5
               obtain ⟨s5, rfl, -⟩ := sl_of_own hap5.1
               have hq5 : Below w.heap.size w w5 := (hq4.trans ((below1 _ _).mono hq4.size)).trans (hap5.below (own_below hso4 (below1 _ _)) (by have := hq4.size; simp; omega))))
          all_goals
            go_wp2_with fail
            go_meet
            exact ⟨s5, rfl, by rw [evsV_snoc, List.length_append]; exact hap5.1, hq5⟩
        case rest =>
          obtain ⟨s5, rfl, hs5, hq5⟩ := hcut
          go_wp2_with fail
          refine (net_begin wc.heap.size wc (Nat.le_refl _)).mono ?_
          rintro e w6 ⟨b6, M6, rfl, hs6, hb6⟩
          go_wp2_with fail
          go_roundw
          case measure => simp [intOf]; omega
          case rel =>
            refine ⟨j + 1, s5, b6, by omega, by go_num, rfl, rfl, ⟨⟨wc.heap.size, M6, ⟨[], []⟩, ol ++ p.end_ ++ [y], hs6, hq5.size, hb6.size, own_below hs5 hb6, own_lt hs5, ?_, ?_⟩, hq5.trans (hb6.mono hq5.size)⟩⟩
            · have hh := unhide Hnet; rw [netL, unhide Hc] at hh; exact hh
            · simp only [List.length_append, List.length_cons, List.length_nil]; omega
end Go.Proofs.YtpfnmnpdaacjmaaGreatDoor
