/-
  net: what is left of a span; the net of events.
-/
import Derived.Test.YtpfnmnpdaacjmaaGreatDoorNet3
namespace Go.Proofs.YtpfnmnpdaacjmaaGreatDoor
open Go.RowKit

theorem evsV_at : ∀ (l : List Ev) (i f : Nat) (hi : i < l.length), f < 6 → (evsV l)[i * 6 + f]? = (evA l[i])[f]?
  | x :: l, 0, f, _, hf => by
    simp only [evsV, List.flatMap_cons, List.getElem_cons_zero]
    rw [List.getElem?_append_left (by simp [evV, evA]; omega)]
    simp [evV]
  | x :: l, i + 1, f, hi, hf => by
    have ih := evsV_at l i f (by simpa using hi) hf
    simp only [evsV, List.flatMap_cons, List.getElem_cons_succ] at ih ⊢
    rw [List.getElem?_append_right (by simp [evV, evA]; omega), ← ih]
    congr 1
    simp [evV, evA]; omega
/-- A list of events, as it reads in whatever row. -/
def RdE (w : World) (s : Sl) (l : List Ev) : Prop := Rd w.heap.size w 6 s (evsV l)
theorem RdE.len {w : World} {s : Sl} {l : List Ev} (h : RdE w s l) : s.n = l.length := by have := h.1; rw [evsV_len] at this; omega
theorem RdE.below {w w' : World} {s : Sl} {l : List Ev} (h : RdE w s l) (hb : Below w.heap.size w w') : RdE w' s l := (Rd.fr h (.of_below hb)).mono hb.size
theorem RdE.own {w : World} {B : Nat} {s : Sl} {l : List Ev} (h : w.ownsRow B 89 6 s.v l.length (evsV l)) : RdE w s l := by
  have hr := own_reads h (own_n h)
  have hn := own_n h
  refine ⟨by rw [hr.1], ?_, fun h0 => ?_⟩
  · rcases h.2 with ⟨hv, _⟩ | ⟨g, cap, cur, hv, _, _, hle, _⟩
    · obtain ⟨a, n, c⟩ := s; simp only [Sl.v, Value.slice.injEq] at hv; show n ≤ c; omega
    · obtain ⟨a, n, c⟩ := s; simp only [Sl.v, Value.slice.injEq] at hv; show n ≤ c; omega
  · obtain ⟨ad, ha, hlt, hc⟩ := hr.2 h0
    rcases h.2 with ⟨hv, _⟩ | ⟨g, cap, cur, hv, hb, hh, hle, _⟩
    · obtain ⟨a, n, c⟩ := s; simp only [Sl.v, Value.slice.injEq] at hv; simp only at ha; rw [ha] at hv; cases hv.1
    · have : s.a = some ⟨g, 0, none⟩ := by obtain ⟨a, n, c⟩ := s; simp only [Sl.v, Value.slice.injEq] at hv; exact hv.1
      rw [this] at ha
      cases ha
      exact ⟨g, 0, this, hlt, .inl hlt, fun j u hu => by have := hc j u hu; rwa [Addr.add_mid] at this⟩
theorem RdE.open_ {w : World} {a : Option Addr} {n c : Nat} {l : List Ev} (h : RdE w ⟨a, n, c⟩ l) (hn : 0 < n) :
    ∃ b off, a = some ⟨b, off, none⟩ ∧ b < w.heap.size ∧ ∃ C T fr, w.blk b = some (.cells C T fr) ∧ off + n * 6 ≤ C.size ∧ ∀ i, (hi : i < l.length) → C.extract (off + i * 6) (off + i * 6 + 6) = evA l[i] := by
  have hl := h.len
  obtain ⟨b, off, ha, hlt, hs, hc⟩ := Rd.at_ h hn
  simp only at hl ha hn
  have hcell : ∀ i f, (hi : i < l.length) → f < 6 → ∃ u, (evA l[i])[f]? = some u ∧ w.cell? ⟨b, off + i * 6 + f, none⟩ = some u := fun i f hi hf => by
    rw [Nat.add_assoc]
    have hf' : f < (evA l[i]).size := hf
    refine ⟨(evA l[i])[f], by simp [hf'], hc _ _ ?_⟩
    rw [evsV_at l i f hi hf]
    simp [hf']
  obtain ⟨u0, _, h0⟩ := hcell 0 0 (by omega) (by omega)
  unfold World.cell? at h0
  split at h0
  · rename_i C T fr hb
    have hC : ∀ i f, (hi : i < l.length) → f < 6 → C[off + i * 6 + f]? = (evA l[i])[f]? := fun i f hi hf => by
      obtain ⟨u, hu, hcu⟩ := hcell i f hi hf
      rw [hu]
      simpa [World.cell?, hb] using hcu
    have hsz : off + n * 6 ≤ C.size := by
      have h1 := hC (n - 1) 5 (by omega) (by omega)
      have h2 : (evA l[n - 1])[5]? = some (.int .i64 (l[n - 1]).e) := rfl
      rw [h2] at h1
      have := (Array.getElem?_eq_some_iff.1 h1).1
      omega
    refine ⟨b, off, ha, hlt, C, T, fr, hb, hsz, fun i hi => ?_⟩
    apply Array.ext_getElem?
    intro f
    by_cases hf : f < 6
    · rw [← hC i f hi hf, Array.getElem?_extract, if_pos (by omega)]
    · have h1 : (C.extract (off + i * 6) (off + i * 6 + 6))[f]? = none := by
        rw [Array.getElem?_eq_none]; simp; omega
      have h2 : (evA l[i])[f]? = none := Array.getElem?_eq_none (by rw [evA_size]; omega)
      rw [h1, h2]
  · cases h0
theorem wpList_app1 {w : World} {ops : Array Oper} {rest : List Oper} {o : Oper} {a : Act} {Q : Exit → Act → World → Prop} (hgd : o.guard = none) (s x : Operand)
    (ho : o.op = .call { callee := .builtin .append, args := #[s, x], argTypes := #[64, 64] })
    (B : Nat) (v : Value) (l : List Ev) (y : Ev) (hs : a.eval s = v) (hown : w.ownsRow B 89 6 v l.length (evsV l)) (g : Nat) (hx : a.eval x = .slice (some ⟨g, 0, none⟩) 1 1) (hg : Blk w g 89 (evA y))
    (hl : l.length ≤ 1048576) (hB : B ≤ w.heap.size)
    (h : ∀ v' w', Appended w B 89 6 v (l.length + 1) (evsV l ++ evV y) v' w' → wpList Tryz.prog ops Q rest (a.put o.dst v') w') : wpList Tryz.prog ops Q (o :: rest) a w := by
  obtain ⟨i0, hi0, hz0, hz1, hz2⟩ := info_parts infoE
  exact wpList_append_any w hgd s x _ ho B 89 i0 _ 6 48 Tryz.underlying64 hi0 hz0 hz1 hz2 rfl (by omega) v l.length (evsV l) hs hown (g + 1) _ 1 1 (evV y) hx
    ⟨rfl, fun _ => ⟨_, rfl, by simp, fun j u hu => by
      have h1 := (Blk.all hg).2.1 j
      rw [Addr.add_mid, Nat.zero_add, h1]
      simpa [evV] using hu⟩⟩ (ev_one y) (by simp [maxLen]; omega) (by omega) hB h
set_option maxRecDepth 100000 in
set_option maxHeartbeats 1000000 in
theorem net_end {B b : Nat} {w : World} {M : SpM} {p : Sp} {mp : List (K3 × Int)} (h : SpIs B w b M p mp) :
    Calls Tryz.prog 38 #[.pointer (some ⟨b, 0, none⟩)] w fun e w' => ∃ sl : Sl, e = .returned sl.v ∧ w'.ownsRow w.heap.size 89 6 sl.v p.end_.length (evsV p.end_) ∧ Below w.heap.size w w' := by
  obtain ⟨e1, c1, f1⟩ := Blk.all h.blk
  have hlt := h.blk.lt
  have hmn := own_n h.mv
  have hln := h.ln
  have hst : RdE w M.st p.st := RdE.own h.st
  have Hmn := hide hmn
  clear hmn
  go_enter Tryz.func38, Tryz.ntmps38
  go_wp2_with fail
  refine (cloneE (own_reads h.mv (unhide Hmn)) (evs_one _) (by have := unhide Hmn; omega)).mono ?_
  rw [unhide Hmn]
  rintro e w1 ⟨s1, rfl, hs1, hn1, hb1⟩
  have h1 := h.below hb1
  obtain ⟨e2, c2, f2⟩ := Blk.all h1.blk
  have hsn := hst.len
  obtain ⟨Ms, hMs⟩ : ∃ Ms, Ms = M.st := ⟨_, rfl⟩
  rw [← hMs] at hst hsn
  have hMs' : M.st.v = Ms.v := by rw [hMs]
  obtain ⟨sa, sn, sc⟩ := Ms
  simp only at hsn
  subst hsn
  clear hMs e1 c1 f1 hn1
  go_wp2_with fail
  go_loopw [3, 16] (fun x i wr => ∃ (j : Nat) (so : Sl), j ≤ p.st.length ∧ i = .int .i64 j ∧ x = so.v ∧ wr.ownsRow w.heap.size 89 6 so.v (p.mv ++ (p.st.take j).filter fun x => x.c != x.d).length (evsV (p.mv ++ (p.st.take j).filter fun x => x.c != x.d)) ∧ Below w.heap.size w wr) (fun _ i _ => p.st.length - (intOf i).toNat)
  case atStart => exact ⟨0, s1, by omega, rfl, rfl, by simpa using hs1, hb1⟩
  case round =>
    obtain ⟨j, so, hj, rfl, rfl, hso, hbr⟩ := hrel
    obtain ⟨wo, rfl⟩ : ∃ wo, wo = wr := ⟨_, rfl⟩
    by_cases hjn : j = p.st.length
    · subst hjn
      go_wp2_with fail
      go_ret
      refine ⟨so, rfl, ?_, hbr⟩
      rw [List.take_length] at hso
      exact hso
    · have hjl : j < p.st.length := by omega
      have hjI : (j : Int) < (p.st.length : Int) := by omega
      obtain ⟨g, off, rfl, hg, C, T, fr, hC, hCs, hrow⟩ := RdE.open_ (l := p.st) (hst.below hbr) (by omega)
      have hrow' := hrow j hjl
      have hnb : off + j * 6 + 6 ≤ C.size := by have : (j + 1) * 6 ≤ p.st.length * 6 := Nat.mul_le_mul_right 6 (by omega); omega
      obtain ⟨y, hy⟩ : ∃ y, y = p.st[j] := ⟨_, rfl⟩
      rw [← hy] at hrow'
      have htk : (p.mv ++ (p.st.take (j + 1)).filter fun x => x.c != x.d) = (p.mv ++ (p.st.take j).filter fun x => x.c != x.d) ++ (if y.c != y.d then [y] else []) := by
        rw [List.take_succ_eq_append_getElem hjl, List.filter_append, List.append_assoc, ← hy]
        congr 2
        simp [List.filter_cons]
      have hlen : (p.mv ++ (p.st.take j).filter fun x => x.c != x.d).length ≤ 131072 := by
        have := List.length_filter_le (fun x : Ev => x.c != x.d) (p.st.take j)
        rw [List.length_append, List.length_take] at *
        omega
      generalize (p.mv ++ (p.st.take j).filter fun x => x.c != x.d) = out at hso htk hlen
      have Htk := hide htk
      clear hrow hy htk
      cases hc : (y.c != y.d)
      · go_wp2_with fail
        go_roundw
        case measure => simp [intOf]; omega
        case rel =>
          have hb := below1 wo (.cells (evA y) 89)
          refine ⟨j + 1, so, by omega, by go_num, rfl, ?_, hbr.trans (hb.mono hbr.size)⟩
          rw [unhide Htk, hc]
          simpa using own_below hso hb
      · have hb := below2 wo (.cells (evA y) 89) (.cells (evA y) 89)
        have hbk : Blk ((wo.alloc (.cells (evA y) 89)).alloc (.cells (evA y) 89)) (wo.heap.size + 1) 89 (evA y) := by
          have := Blk.new (wo.alloc (.cells (evA y) 89)) 89 (evA y)
          simpa using this
        have hso2 := own_below hso hb
        have hq2 := hbr.trans (hb.mono hbr.size)
        go_wp2_with (at_builtin
                     refine wpList_app1 rfl (.tmp 25) (.tmp 27) rfl w.heap.size so.v out y (by simp [Act.eval]) hso2 (wo.heap.size + 1) (by simp [Act.eval]) hbk (by omega) hq2.size ?_
                     intro v5 w5 hap5
                     obtain ⟨s5, rfl, -⟩ := sl_of_own hap5.1)
        go_roundw
        case measure => simp [intOf]; omega
        case rel =>
          refine ⟨j + 1, s5, by omega, by go_num, rfl, ?_, hq2.trans (hap5.below hso2 hq2.size)⟩
          rw [unhide Htk, hc]
          simpa [evsV_snoc] using hap5.1
end Go.Proofs.YtpfnmnpdaacjmaaGreatDoor
