/-
  The law LoopTells holds of every loop.
-/
import Derived.Test.YtpfnmnpdaacjmaaGreatDoorAlive2
namespace Go.Proofs.YtpfnmnpdaacjmaaGreatDoor
open Go.RowKit

def lpA (s : Sl) (m stop : Int) : Array Value := #[s.v, .int .i64 m, .int .i64 stop]
set_option maxRecDepth 100000 in
set_option maxHeartbeats 1000000 in
theorem law_tells {w : World} (hG : Glob w) (hT : gTop ≤ w.heap.size) (h5 : 5 ≤ w.heap.size) {s : Sl} {ts : List De} {cs : Nat → List Int} (h : Turn w s ts cs) (m stop most : Int) :
    Calls Tryz.prog 3 #[.agg (lpA s m stop), .int .i64 most] w fun e w' => e = .returned (.bool true) ∧ Below w.heap.size w w' := by
  have hsn := h.rd.len
  obtain ⟨sa, sn, sc⟩ := s
  simp only at hsn
  subst hsn
  have hb0 : Below w.heap.size w (w.alloc (.cells #[.slice sa ts.length sc, .int .i64 m, .int .i64 stop] 24)) := below1 _ _
  have hal := law_alive _ (hG.belowT hb0 hT) (Nat.le_trans hT hb0.size) (by simp; omega)
  have hx0 := Blk.new w 24 #[.slice sa ts.length sc, .int .i64 m, .int .i64 stop]
  have Hh := hide h
  clear h
  by_cases h40 : 40 < ts.length
  · have h40' : (40 : Int) < (ts.length : Int) := by omega
    clear h40
    go_enter Tryz.func3, Tryz.ntmps3
    go_wp2_with fail
    refine hal.mono ?_
    rintro e w1 ⟨rfl, hb1⟩
    obtain ⟨e1, c1, f1⟩ := Blk.all (hx0.below hb1 hx0.lt)
    have hq1 := hb0.trans (hb1.mono hb0.size)
    clear hal
    go_wp2_with fail
    go_ret
    exact ⟨rfl, hq1⟩
  · have h40' : (ts.length : Int) ≤ 40 := by omega
    clear h40
    by_cases h60 : 60 < most
    · go_enter Tryz.func3, Tryz.ntmps3
      go_wp2_with fail
      refine hal.mono ?_
      rintro e w1 ⟨rfl, hb1⟩
      obtain ⟨e1, c1, f1⟩ := Blk.all (hx0.below hb1 hx0.lt)
      have hq1 := hb0.trans (hb1.mono hb0.size)
      clear hal
      go_wp2_with fail
      go_ret
      exact ⟨rfl, hq1⟩
    · have h60' : most ≤ 60 := by omega
      clear h60
      have hL := fun W => ref29_length sa ts.length sc m stop W
      go_enter Tryz.func3, Tryz.ntmps3
      go_wp2_with fail
      refine hal.mono ?_
      rintro e w1 ⟨rfl, hb1⟩
      have hx1 := hx0.below hb1 hx0.lt
      obtain ⟨e1, c1, f1⟩ := Blk.all hx1
      have hq1 := hb0.trans (hb1.mono hb0.size)
      clear hal
      go_wp2_with fail
      refine (hL _).mono ?_
      rintro e w' ⟨rfl, rfl⟩
      have hEx := loop_expand ((unhide Hh).below hq1) m stop most (by omega)
      clear hL
      go_wp2_with fail
      refine hEx.mono ?_
      rintro e w2 ⟨so, ds, rfl, hlen, hso, hex, hb2⟩
      clear hEx
      have hx2 := hx1.below hb2 hx1.lt
      obtain ⟨e2, c2, f2⟩ := Blk.all hx2
      have hq2 := hq1.trans (hb2.mono hq1.size)
      have hson := own_n hso
      obtain ⟨oa, on, oc⟩ := so
      simp only at hson
      subst hson
      clear e1 c1 f1
      have hc0 : ∀ X : Int, X = min (loopLen ts.length m stop) (max most 0) → ((ds.length : Int) != X) = false := fun X hX => by rw [hX, hlen, expLen]; simp
      have hlo := (loopLen_lo ts.length m stop).1
      have Hc0 := hide hc0
      have Hlo := hide hlo
      have Hlen := hide hlen
      have HG := hide hG
      clear hc0 hlo hlen hG
      go_upto_region 7 with fail
      go_cut [64] (fun v wx => v = .bool false ∧ ∃ k, wx = w2.drewN k)
      case first =>
        have hCk : ∀ W, Calls Tryz.prog 8 #[.slice sa ts.length sc, .int .i64 m] W fun e w' => e = .returned (errV (loopErr ts.length m)) ∧ w' = W := fun W => (loop_check sa ts.length sc m W).mono fun _ _ h => ⟨h.1, h.2.symm⟩
        have hRk : ∀ W, Calls Tryz.prog 9 #[.slice sa ts.length sc, .int .i64 m] W fun e w' => e = .returned (.int .i64 (loopErr ts.length m)) ∧ w' = W := fun W => (ref29_check sa ts.length sc m W).mono fun _ _ h => ⟨h.1, h.2.symm⟩
        have hLn : ∀ W, Calls Tryz.prog 10 #[.slice sa ts.length sc, .int .i64 m, .int .i64 stop] W fun e w' => e = .returned (.int .i64 (loopLen ts.length m stop)) ∧ w' = W := fun W => (loop_length sa ts.length sc m stop W).mono fun _ _ h => ⟨h.1, h.2.symm⟩
        have hNm : ∀ W, Calls Tryz.prog 7 #[errV (loopErr ts.length m)] W fun e w' => e = .returned (.int .i64 (loopErr ts.length m)) ∧ w' = W := fun W => (num_num (loopErr ts.length m) W).mono fun _ _ h => ⟨h.1, h.2.symm⟩
        have hbb : (loopErr ts.length m != loopErr ts.length m) = false := by simp
        have hbl : (loopLen ts.length m stop != loopLen ts.length m stop) = false := by simp
        rcases Int.lt_or_le 0 most with hm | hm
        · rcases Int.lt_or_le most (loopLen ts.length m stop) with hn | hn
          · have hcm := unhide Hc0 most (by omega)
            go_quiet (first
              | (go_at_call 8; exact Calls.quiet_of_same (hCk _))
              | (go_at_call 7; exact Calls.quiet_of_same (hNm _))
              | (go_at_call 9; exact Calls.quiet_of_same (hRk _))
              | (go_at_call 10; exact Calls.quiet_of_same (hLn _)))
            all_goals (go_wp2_with fail)
            all_goals
              go_meet
              first
                | exact ⟨rfl, _, rfl⟩
                | exact ⟨congrArg Value.bool (unhide Hc0 most (by have := unhide Hlo; omega)), _, rfl⟩
          · have hcm := unhide Hc0 (loopLen ts.length m stop) (by omega)
            go_quiet (first
              | (go_at_call 8; exact Calls.quiet_of_same (hCk _))
              | (go_at_call 7; exact Calls.quiet_of_same (hNm _))
              | (go_at_call 9; exact Calls.quiet_of_same (hRk _))
              | (go_at_call 10; exact Calls.quiet_of_same (hLn _)))
            all_goals (go_wp2_with fail)
            all_goals
              go_meet
              first
                | exact ⟨rfl, _, rfl⟩
                | exact ⟨congrArg Value.bool (unhide Hc0 most (by have := unhide Hlo; omega)), _, rfl⟩
        · rcases Int.lt_or_le 0 (loopLen ts.length m stop) with hn | hn
          · have hcm := unhide Hc0 0 (by omega)
            go_quiet (first
              | (go_at_call 8; exact Calls.quiet_of_same (hCk _))
              | (go_at_call 7; exact Calls.quiet_of_same (hNm _))
              | (go_at_call 9; exact Calls.quiet_of_same (hRk _))
              | (go_at_call 10; exact Calls.quiet_of_same (hLn _)))
            all_goals (go_wp2_with fail)
            all_goals
              go_meet
              first
                | exact ⟨rfl, _, rfl⟩
                | exact ⟨congrArg Value.bool (unhide Hc0 most (by have := unhide Hlo; omega)), _, rfl⟩
          · have hcm := unhide Hc0 (loopLen ts.length m stop) (by have := unhide Hlo; omega)
            have hcm0 := unhide Hc0 0 (by have := unhide Hlo; omega)
            go_quiet (first
              | (go_at_call 8; exact Calls.quiet_of_same (hCk _))
              | (go_at_call 7; exact Calls.quiet_of_same (hNm _))
              | (go_at_call 9; exact Calls.quiet_of_same (hRk _))
              | (go_at_call 10; exact Calls.quiet_of_same (hLn _)))
            all_goals (go_wp2_with fail)
            all_goals
              go_meet
              first
                | exact ⟨rfl, _, rfl⟩
                | exact ⟨congrArg Value.bool (unhide Hc0 most (by have := unhide Hlo; omega)), _, rfl⟩
      case rest =>
        obtain ⟨rfl, nk, rfl⟩ := hcut
        have hx3 := hx2.drewN nk
        have hq3 := below_drewN hq2 nk
        obtain ⟨e3, c3, f3⟩ := Blk.all hx3
        have hso3 : RdD (w2.drewN nk) ⟨oa, ds.length, oc⟩ ds := RdD.own (own_below hso (below_drewN (Below.refl _ _) nk))
        have hex3 : ExpOf (w2.drewN nk) ts cs ds := hex.fr ((Fr.refl _ _).drewN nk)
        have hds : ds.length ≤ 60 := by have hh := unhide Hlen; unfold expLen at hh; omega
        have Hso := hide hso3
        have Hex := hide hex3
        clear hso hex hso3 hex3 e2 c2 f2 hx2 hq2
        obtain ⟨W, hW⟩ : ∃ W, W = w2.drewN nk := ⟨_, rfl⟩
        go_wp2_with fail
        go_loopw [67] (fun i wr => ∃ j : Nat, j ≤ ds.length ∧ i = .int .i64 j ∧ Below (w2.drewN nk).heap.size (w2.drewN nk) wr) (fun i _ => ds.length - (intOf i).toNat)
        case atStart => exact ⟨0, by omega, rfl, Below.refl _ _⟩
        case round =>
          obtain ⟨j, hj, rfl, hbl⟩ := hrel
          obtain ⟨wo, rfl⟩ : ∃ wo, wo = wr := ⟨_, rfl⟩
          have hqo := hq3.trans (hbl.mono hq3.size)
          by_cases hjn : j = ds.length
          · subst hjn
            go_wp2_with fail
            go_ret
            exact ⟨rfl, hqo⟩
          · have hjl : j < ds.length := by omega
            have hjI : (j : Int) < (ds.length : Int) := by omega
            have hx4 := hx3.below hbl hx3.lt
            obtain ⟨e4, c4, f4⟩ := Blk.all hx4
            obtain ⟨g1, o1, rfl, hg1, C1, T1, fr1, hC1, hCs1, hrow1⟩ := RdD.open_ (l := ds) ((unhide Hso).below hbl) (by omega)
            obtain ⟨hk, l', hdj, hl'⟩ := (unhide Hex).below hbl j hjl
            have hT := (unhide Hh).below hqo
            obtain ⟨g2, o2, rfl, hg2, C2, T2, fr2, hC2, hCs2, hrow2⟩ := RdD.open_ hT.rd (by omega)
            have hr1 := hrow1 j hjl
            have hr2 := hrow2 (j % ts.length) hk
            have hli := hT.li (j % ts.length) hk
            have hn1 : 0 < ts.length := by omega
            have hnb1 : o1 + j * 5 + 5 ≤ C1.size := by have : (j + 1) * 5 ≤ ds.length * 5 := Nat.mul_le_mul_right 5 (by omega); omega
            have hnb2 : o2 + j % ts.length * 5 + 5 ≤ C2.size := by have : (j % ts.length + 1) * 5 ≤ ts.length * 5 := Nat.mul_le_mul_right 5 (by omega); omega
            rw [hdj] at hr1
            obtain ⟨y, hy⟩ : ∃ y, y = ts[j % ts.length] := ⟨_, rfl⟩
            rw [← hy] at hr1 hr2 hli
            obtain ⟨yk, yo, yn, yt, yl⟩ := y
            clear hrow1 hrow2 hy hdj
            have hS := fun w' (hb : Below wo.heap.size wo w') => ref26_same (w := w') yk yo yn yt (Rd.mono (Rd.fr hl' (.of_below hb)) (Nat.zero_le wo.heap.size)) (Rd.fr hli.1 (.of_below hb)) hli.2
            clear hl' hli hT
            go_wp2_with fail
            refine region_tail 13 (by kernel_rfl) (by kernel_rfl) ?_
            simp only [List.take_succ_cons, List.take_zero, List.drop_succ_cons, List.drop_zero]
            have hts0 : (ts = []) = False := eq_false (by intro e; rw [e] at hn1; simp at hn1)
            obtain ⟨k, hkk⟩ : ∃ k, k = j % ts.length := ⟨_, rfl⟩
            have hmod : (j : Int).tmod (ts.length : Int) = (k : Int) := by rw [Int.tmod_eq_emod_of_nonneg (by omega)]; omega
            rw [← hkk] at hr2 hnb2 hk
            have hkI : (k : Int) < (ts.length : Int) := by omega
            clear hkk
            iterate 13 still_step
            refine wpStill_nil ?_
            go_wp2_with fail
            refine (hS _ (Below.refl _ _).drew).mono ?_
            rintro e w5 ⟨rfl, hb5⟩
            clear hS
            go_wp2_with fail
            go_roundw
            case measure => simp [intOf]; omega
            case rel => exact ⟨j + 1, by omega, by go_num, hbl.trans (((Below.refl _ _).drew.trans hb5).mono hbl.size)⟩
end Go.Proofs.YtpfnmnpdaacjmaaGreatDoor
