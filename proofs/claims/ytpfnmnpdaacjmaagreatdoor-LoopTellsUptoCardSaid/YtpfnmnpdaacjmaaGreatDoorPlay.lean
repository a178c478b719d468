/-
  loop.Play: a loop of passes that are all done.
-/
import Derived.Test.YtpfnmnpdaacjmaaGreatDoorStep
namespace Go.Proofs.YtpfnmnpdaacjmaaGreatDoor
open Go.RowKit

/-- Each decision of the expansion is a pass that is done: the states ahead of them, the events. -/
structure Passes (dr : List Int) (N : Nat) (st : Nat → St) (es : Nat → List Ev) : Prop where
  few : ∀ j, j < N → Few (st j)
  chk : ∀ j, j < N → stCheck (st j) = 0
  g6 : ∀ j, j < N → (st j).g 6 = 0
  g5 : ∀ j, j < N → (st (j + 1)).g 5 = (st j).g 5
  pass : ∀ j, j < N → ∃ E' : EA, E'.er = 0 ∧ E'.s = st (j + 1) ∧ E'.ev = es j ∧
    ∀ B b w M, Em B w b M (EA.new (st j) dr) → Calls Tryz.prog 63 #[.pointer (some ⟨b, 0, none⟩)] w fun e w' => e = .returned (.tuple #[]) ∧ EmTo B w b E' w'
def evsTo (es : Nat → List Ev) (j : Nat) : List Ev := (List.range j).flatMap es
theorem evsTo_succ (es : Nat → List Ev) (j : Nat) : evsTo es (j + 1) = evsTo es j ++ es j := by simp [evsTo, List.range_succ]
theorem evsTo_le (es : Nat → List Ev) {j k : Nat} (h : j ≤ k) : (evsTo es j).length ≤ (evsTo es k).length := by
  induction h with
  | refl => exact Nat.le_refl _
  | step _ ih => rw [evsTo_succ, List.length_append]; omega
structure PlayW (w2 : World) (d1 : Sl) (dr : List Int) (st : Nat → St) (es : Nat → List Ev) (j : Nat) (wr : World) : Prop where
  ex : ∃ (Sj : SV) (ev : Sl), Blk wr w2.heap.size 66 (gaA Sj d1 ev.v) ∧ RdS 0 wr Sj (st j) ∧ RdI 0 wr d1 dr ∧ wr.ownsRow w2.heap.size 89 6 ev.v (evsTo es j).length (evsV (evsTo es j))
  bl : Below w2.heap.size w2 wr
set_option maxRecDepth 100000 in
set_option maxHeartbeats 1000000 in
theorem loop_play {B g j0 : Nat} {w : World} {S : SV} {d ev mk : Sl} {n : Int} {s s' : St} {dr : List Int} {el : List Ev} {ml : List (Int × Int)} (h : Ga B w g j0 S d ev mk n s dr el ml) (hG : Glob w) (h8 : 8 ≤ w.heap.size)
    {sl : Sl} {ts : List De} {cs : Nat → List Int} (hT : Turn w sl ts cs) (m stop : Int) (hlo : loopErr ts.length m = 0) (hst : -1 ≤ stop) {N : Nat} (hN : loopLen ts.length m stop = N)
    (hts : ∀ i, (hi : i < ts.length) → ts[i].k = 0 ∧ formErr ts[i] = 0) {st : Nat → St} {es : Nat → List Ev} (h0 : st 0 = s) (hp : Passes dr N st es) (hev : (evsTo es N).length ≤ 65536)
    (hx : ∀ x ∈ netOf (evsTo es N), GoodEv x) (hrun : runAt s (netOf (evsTo es N)) 0 = (0, (netOf (evsTo es N)).length, s')) (hf : Few s') (hc : stCheck s' = 0) (hn : el.length + (netOf (evsTo es N)).length ≤ 65536)
    (hnn : n + 1 < 1073741824) (hml : ml.length + 1 ≤ 1048576) :
    Calls Tryz.prog 13 #[.pointer (some ⟨g, 0, none⟩), sl.v, .int .i64 m, .int .i64 stop] w fun e w' => e = .returned (.tuple #[.int .i64 (n + 1), .int .i64 N, .nilIface]) ∧
      ∃ S' ev' mk', Ga B w' g j0 S' d ev' mk' (n + 1) s' dr (el ++ netOf (evsTo es N)) (ml ++ [(n + 1, (ev.n : Int))]) ∧ Below B w w' := by
  have hsn := hT.rd.len
  obtain ⟨sa, sn, sc⟩ := sl
  simp only at hsn
  subst hsn
  have HT := hide hT
  have hC := fun W => loop_check sa ts.length sc m W
  have hL := fun W => loop_length sa ts.length sc m stop W
  rw [hlo, errV0] at hC
  rw [hN] at hL
  have hn1 := (loopErr_ok hlo).1
  have hNb := (loopLen_lo ts.length m stop).2
  rw [hN] at hNb
  have hts' := hide hts
  have hp' := hide hp
  have hx' := hide hx
  have hrun' := hide hrun
  have hltg := h.blk.lt
  have h0' := hide h0
  clear hT hlo hN hts hp hx hrun h0
  show Calls _ _ #[_, .slice sa ts.length sc, _, _] _ _
  go_enter Tryz.func13, Tryz.ntmps13
  go_wp2_with fail
  refine (hC _).mono ?_
  rintro e w' ⟨rfl, rfl⟩
  go_wp2_with fail
  refine (ga_state h).mono ?_
  rintro e w1 ⟨S1, rfl, hS1, hb1⟩
  have h1 := h.below hb1
  go_wp2_with fail
  refine (ga_draws h1).mono ?_
  rintro e w2 ⟨d2, rfl, hd2, hb2⟩
  have h2 := h1.below hb2
  have hq2 := hb1.trans (hb2.mono hb1.size)
  have hS2 := hS1.fr (.of_below hb2)
  go_wp2_with fail
  refine (hL _).mono ?_
  rintro e w' ⟨rfl, rfl⟩
  go_wp2_with fail
  go_loopw [41] (fun i wr => ∃ j : Nat, j ≤ N ∧ i = .int .i64 j ∧ PlayW w2 d2 dr st es j wr) (fun i _ => N - (intOf i).toNat)
  case atStart =>
    have hA := below1 w2 (.cells (gaA S1 d2 (.slice none 0 0)) 66)
    exact ⟨0, by omega, rfl, ⟨⟨S1, ⟨none, 0, 0⟩, Blk.new _ _ _, by rw [unhide h0']; exact hS2.fr (.of_below hA), Rd.fr hd2 (.of_below hA), World.ownsRow_nil _ _ _ _⟩, hA⟩⟩
  case round =>
    obtain ⟨j, hj, rfl, ⟨⟨Sj, evj, hrk, hSj, hdj, hoj⟩, hbl⟩⟩ := hrel
    obtain ⟨wo, rfl⟩ : ∃ wo, wo = wr := ⟨_, rfl⟩
    have hqo := hq2.trans (hbl.mono hq2.size)
    obtain ⟨e1, c1, f1⟩ := Blk.all hrk
    have hltr := hrk.lt
    by_cases hjn : j = N
    · subst hjn
      have hNn := net_net (RdE.own hoj) hev
      go_wp2_with fail
      refine hNn.mono ?_
      rintro e w3 ⟨sl3, rfl, ho3, hb3⟩
      have hq3 := hqo.trans (hb3.mono hqo.size)
      have h3 := h.below hq3
      have hcm := ga_commit h3 (hG.below hq3 h8) (Nat.le_trans h8 hq3.size) (sl := sl3) (fun w' ht => RdE.own (ht.own ho3 rfl)) (unhide hx') (unhide hrun') hf hc hn hnn hml
      clear hNn
      go_wp2_with fail
      refine hcm.mono ?_
      rintro e w4 ⟨rfl, S4, ev4, mk4, h4, hb4⟩
      go_wp2_with fail
      go_ret3
      exact ⟨rfl, S4, ev4, mk4, h4, (hq3.mono h.bd).trans hb4⟩
    · have hjl : j < N := by omega
      have hjI : (j : Int) < (N : Int) := by omega
      have hT := (unhide HT).below hqo
      obtain ⟨g1, off, rfl, hg, C, T, fr, hC2, hCs, hrow⟩ := RdD.open_ hT.rd hn1
      have hk := Nat.mod_lt j hn1
      have hrow' := hrow (j % ts.length) hk
      have hty := unhide hts' (j % ts.length) hk
      have hnb : off + j % ts.length * 5 + 5 ≤ C.size := by have : (j % ts.length + 1) * 5 ≤ ts.length * 5 := Nat.mul_le_mul_right 5 (by omega); omega
      obtain ⟨y, hy⟩ : ∃ y, y = ts[j % ts.length] := ⟨_, rfl⟩
      rw [← hy] at hrow' hty
      have hpp := unhide hp'
      obtain ⟨E', hE0, hEs, hEe, hP⟩ := hpp.pass j hjl
      have hg5 := hpp.g5 j hjl
      rw [← hEs] at hg5
      have hle := evsTo_le es (j := j + 1) (k := N) (by omega)
      rw [evsTo_succ, ← hEe, List.length_append] at hle
      have hstp := rn_step hrk hbl.size (Nat.le_refl _) hSj (hpp.few j hjl) hdj h.drn hoj (hG.below hqo h8) (Nat.le_trans h8 hqo.size) y hty.1 hty.2 (hpp.chk j hjl) (hpp.g6 j hjl) hE0 hg5 (by omega) hP
      clear hrow hy hty hpp hP hg5 hle
      have HEs := hide hEs
      have HEe := hide hEe
      clear hEs hEe hE0
      go_wp2_with fail
      refine hstp.mono ?_
      rintro e w5 ⟨rfl, S5, ev5, hk5, hS5, hd5, ho5, hb5⟩
      clear hstp
      go_wp2_with fail
      go_roundw
      case measure => simp [intOf]; omega
      case rel => exact ⟨j + 1, by omega, by go_num, ⟨⟨S5, ev5, hk5, by rw [← unhide HEs]; exact hS5, hd5, by rw [evsTo_succ, ← unhide HEe]; exact ho5⟩, hbl.trans hb5⟩⟩
end Go.Proofs.YtpfnmnpdaacjmaaGreatDoor
