/-
  net.Run: a list of events done to a copy of a state.
-/
import Derived.Test.YtpfnmnpdaacjmaaGreatDoorLoop1
namespace Go.Proofs.YtpfnmnpdaacjmaaGreatDoor
open Go.RowKit

theorem stA_z : #[Value.slice none 0 0, Value.slice none 0 0, Value.slice none 0 0, Value.slice none 0 0, Value.slice none 0 0, Value.slice none 0 0, Value.slice none 0 0, Value.slice none 0 0, Value.slice none 0 0, Value.slice none 0 0, Value.slice none 0 0, Value.slice none 0 0, Value.int .i64 0, Value.int .i64 0, Value.int .i64 0, Value.int .i64 0, Value.int .i64 0, Value.int .i64 0, Value.int .i64 0, Value.int .i64 0, Value.int .i64 0, Value.int .i64 0, Value.int .i64 0, Value.int .i64 0, Value.int .i64 0, Value.int .i64 0, Value.int .i64 0, Value.int .i64 0, Value.int .i64 0, Value.int .i64 0, Value.int .i64 0, Value.int .i64 0, Value.int .i64 0, Value.int .i64 0, Value.int .i64 0, Value.int .i64 0, Value.int .i64 0] = stA zSV := rfl
attribute [go_sem] stA_z
/-- What a run of events leaves: the error's number, how many were done, the state. -/
def runAt (s : St) : List Ev → Nat → Int × Nat × St
  | [], i => (0, i, s)
  | x :: l, i => if (evDo s x).1 = 0 then runAt (evDo s x).2 l (i + 1) else ((evDo s x).1, i, stZ)
/-- event.Do is right at x, and leaves few objects few. -/
def GoodEv (x : Ev) : Prop := DoOK x ∧ ∀ s, Few s → Few (evDo s x).2
theorem goodEv_of (x : Ev) (h : x.k = 3 ∨ x.k = 4) : GoodEv x := ⟨h.elim (doOK_player x) (doOK_game x), fun _ hs => few_do hs x h⟩
structure RunW (w0 : World) (R : Int × Nat × St) (l : List Ev) (b : Nat) (j : Nat) (wr : World) : Prop where
  ex : ∃ Sj sj, Blk wr b 44 (stA Sj) ∧ RdS 0 wr Sj sj ∧ Few sj ∧ runAt sj (l.drop j) j = R
  res : Blk wr (w0.heap.size + 1) 44 (stA zSV)
  bl : Below w0.heap.size w0 wr
theorem own_ev_blk {w w' : World} {b : Nat} (ho : Only b w w') {B : Nat} (hB : B ≤ b) (hw : B ≤ w.heap.size) : Below B w w' := ⟨ho.os, ho.tape, ho.output, ho.size, fun k hk => ho.block k (by omega) (by simp; omega)⟩
set_option maxRecDepth 100000 in
set_option maxHeartbeats 1000000 in
theorem net_run {B : Nat} {S : SV} {s : St} {w : World} (h : RdS B w S s) (hs : Few s) {sl : Sl} {l : List Ev} (hl : RdE w sl l) (hx : ∀ x ∈ l, GoodEv x) (hln : l.length ≤ 65536) :
    Calls Tryz.prog 32 #[.agg (stA S), sl.v] w fun e w' => ∃ S' : SV, e = .returned (.tuple #[.agg (stA S'), .int .i64 (runAt s l 0).2.1, errV (runAt s l 0).1]) ∧ RdS 0 w' S' (runAt s l 0).2.2 ∧ Below w.heap.size w w' := by
  obtain ⟨R, hR⟩ : ∃ R, R = runAt s l 0 := ⟨_, rfl⟩
  rw [← hR]
  have HR := hide hR.symm
  clear hR
  have hsn := hl.len
  obtain ⟨sa, sn, sc⟩ := sl
  simp only at hsn
  subst hsn
  have Hl := hide hl
  have Hx := hide hx
  clear hl hx
  have hb0 := below2 w (.cells (stA S) 44) (.cells (stA zSV) 44)
  have hS0 := h.fr (.of_below hb0)
  have hr0 : Blk ((w.alloc (.cells (stA S) 44)).alloc (.cells (stA zSV) 44)) (w.heap.size + 1) 44 (stA zSV) := by
    have := Blk.new (w.alloc (.cells (stA S) 44)) 44 (stA zSV)
    simpa using this
  clear h
  go_enter Tryz.func32, Tryz.ntmps32
  go_wp2_with fail
  refine (stCopy hS0 hs).mono ?_
  rintro e w1 ⟨S1, rfl, hS1, hb1⟩
  have hr1 := hr0.below hb1 hr0.lt
  have hq1 : Below w.heap.size w w1 := hb0.trans (hb1.mono hb0.size)
  have hlt1 := hr1.lt
  clear hS0 hr0 hb1 hb0
  go_wp2_with fail
  go_loopw [15] (fun i wr => ∃ j : Nat, j ≤ l.length ∧ i = .int .i64 j ∧ RunW w R l w1.heap.size j wr) (fun i _ => l.length - (intOf i).toNat)
  case atStart =>
    refine ⟨0, by omega, rfl, ⟨⟨S1, s, Blk.new _ _ _, hS1.fr ((Fr.refl _ _).alloc _), hs, unhide HR⟩, hr1.alloc _, hq1.alloc hq1.size _⟩⟩
  case round =>
    obtain ⟨j, hj, rfl, ⟨⟨Sj, sj, hbj, hSj, hfj, hrun⟩, hres, hbl⟩⟩ := hrel
    obtain ⟨wo, rfl⟩ : ∃ wo, wo = wr := ⟨_, rfl⟩
    clear hS1 hs hr1 hq1
    by_cases hjn : j = l.length
    · subst hjn
      rw [List.drop_length] at hrun
      have hfin : R = (0, l.length, sj) := hrun.symm
      clear hrun HR
      subst hfin
      obtain ⟨e1, c1, f1⟩ := Blk.all hbj
      obtain ⟨e2, c2, f2⟩ := Blk.all hres
      have hltb := hbj.lt
      go_wp2_with fail
      refine ret_cell3 rfl rfl (setRow_heap _ _ _ _ _ _ hres) Tryz.underlying44 rfl (by kernel_rfl) rfl ⟨Sj, by rw [errV0]; rfl, ?_, ?_⟩
      · exact hSj.fr (Fr.setRowMut (.refl _ _) hres rfl (Nat.zero_le _) _)
      · exact below_setRow hbl (by omega) _
    · have hjl : j < l.length := by omega
      have hjI : (j : Int) < (l.length : Int) := by omega
      obtain ⟨g, off, rfl, hg, C, T, fr, hC, hCs, hrow⟩ := RdE.open_ (l := l) ((unhide Hl).below hbl) (by omega)
      have hrow' := hrow j hjl
      have hnb : off + j * 6 + 6 ≤ C.size := by have : (j + 1) * 6 ≤ l.length * 6 := Nat.mul_le_mul_right 6 (by omega); omega
      obtain ⟨y, hy⟩ : ∃ y, y = l[j] := ⟨_, rfl⟩
      rw [← hy] at hrow'
      have hgood := unhide Hx y (by rw [hy]; exact List.getElem_mem hjl)
      have hdr : l.drop j = y :: l.drop (j + 1) := by rw [hy]; exact List.drop_eq_getElem_cons hjl
      rw [hdr] at hrun
      have Hrun := hide hrun
      clear hrow hy hdr hrun
      have hb0 := below1 wo (.cells (evA y) 89)
      have hx0 := Blk.new wo 89 (evA y)
      obtain ⟨e0, c0, f0⟩ := Blk.all hbj
      go_wp2_with fail
      have hd := hgood.1 0 Sj sj _ _ plOK_st _ _ (hSj.fr ((Fr.refl _ _).alloc _)) hfj (hbj.alloc (.cells (evA y) 89)) rfl (Nat.zero_le _)
      refine hd.mono ?_
      rintro r w2 ⟨rfl, S', hbk, hS2, ho⟩
      have hf2 := hgood.2 sj hfj
      have hq2 : Below w.heap.size w w2 := (hbl.alloc hbl.size _).trans (own_ev_blk ho (by omega) (by have := hbl.size; simp; omega))
      have hr2 : Blk w2 (w.heap.size + 1) 44 (stA zSV) := ho.blk (hres.alloc _) (by omega)
      clear hd hgood hb0 hx0
      have Hf := hide hf2
      clear hf2
      rcases errV_cases (evDo sj y).1 with ⟨hn, hne⟩ | ⟨hn, hne⟩
      · have Hn := hide hn
        clear hn
        go_wp2_with fail
        go_roundw
        case measure => simp [intOf]; omega
        case rel =>
          refine ⟨j + 1, by omega, by go_num, ⟨⟨S', (evDo sj y).2, hbk, hS2, unhide Hf, ?_⟩, hr2, hq2⟩⟩
          have hh := unhide Hrun
          rw [runAt, if_pos (unhide Hn)] at hh
          exact hh
      · have hfin : R = ((evDo sj y).1, j, stZ) := by
          have hh := unhide Hrun
          rw [runAt, if_neg hn] at hh
          exact hh.symm
        clear Hrun HR
        subst hfin
        have Hn := hide hn
        clear hn
        obtain ⟨e2, c2, f2⟩ := Blk.all hr2
        go_wp2_with fail
        refine ret_cell3 rfl rfl (setRow_heap _ _ _ _ _ _ hr2) Tryz.underlying44 rfl (by kernel_rfl) rfl ⟨zSV, rfl, rdS_zero _, ?_⟩
        exact below_setRow hq2 (by omega) _
end Go.Proofs.YtpfnmnpdaacjmaaGreatDoor
