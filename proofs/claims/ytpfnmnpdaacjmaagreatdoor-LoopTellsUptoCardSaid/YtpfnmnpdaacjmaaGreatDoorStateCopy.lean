/-
  state.Copy: a state that reads the same, in new memory.
-/
import Derived.Test.YtpfnmnpdaacjmaaGreatDoorState
namespace Go.Proofs.YtpfnmnpdaacjmaaGreatDoor
open Go.RowKit

structure St where
  o : List Ob
  l : Nat → List Int
  p : Nat → Int
  g : Nat → Int
def obV (o : Ob) : List Value := (List.range 18).map fun f => .int .i64 (o f)
theorem obV_len (o : Ob) : (obV o).length = 18 := by simp [obV]
def obsV (os : List Ob) : List Value := os.flatMap obV
theorem obsV_len (os : List Ob) : (obsV os).length = os.length * 18 := by
  induction os with
  | nil => rfl
  | cons o os ih => simp [obsV, obV_len] at *; omega
theorem obsV_one (os : List Ob) : ∀ u ∈ obsV os, u.oneCell' = true := by
  intro u hu
  simp only [obsV, obV, List.mem_flatMap, List.mem_map] at hu
  obtain ⟨o, _, f, _, rfl⟩ := hu
  rfl
theorem ints_one (l : List Int) : ∀ u ∈ l.map (Value.int .i64), u.oneCell' = true := by
  intro u hu
  simp only [List.mem_map] at hu
  obtain ⟨x, _, rfl⟩ := hu
  rfl
def RdO (B : Nat) (w : World) (s : Sl) (os : List Ob) : Prop := Rd B w 18 s (obsV os)
theorem RdO.len {B : Nat} {w : World} {s : Sl} {os : List Ob} (h : RdO B w s os) : s.n = os.length := by have := Rd.len h; rw [obsV_len] at this; omega
structure RdS (B : Nat) (w : World) (S : SV) (s : St) : Prop where
  bd : B ≤ w.heap.size
  o : RdO B w S.o s.o
  l : ∀ z, z < 11 → RdI B w (S.l z) (s.l z)
  p : S.p = s.p
  g : S.g = s.g
structure Few (s : St) : Prop where
  o : s.o.length ≤ 16777216
  l : ∀ z, z < 11 → (s.l z).length ≤ 16777216
theorem RdS.fr {B : Nat} {w w' : World} {S : SV} {s : St} (h : RdS B w S s) (hf : Fr B w w') : RdS B w' S s := ⟨Nat.le_trans h.bd hf.size, Rd.fr h.o hf, fun z hz => (h.l z hz).fr hf, h.p, h.g⟩
theorem RdS.mono {B B' : Nat} {w : World} {S : SV} {s : St} (h : RdS B w S s) (hB : B ≤ B') (hB' : B' ≤ w.heap.size) : RdS B' w S s := ⟨hB', Rd.mono h.o hB, fun z hz => Rd.mono (h.l z hz) hB, h.p, h.g⟩

theorem own_rd {w : World} {base : Nat} {e : TypeId} {size : Nat} {s : Sl} {n : Nat} {xs : List Value} (h : w.ownsRow base e size s.v n xs) (hn : s.n = n) (hT : immT e = true) : Rd 0 w size s xs := by
  subst hn
  exact Rd.of_own (A := s.a) (n := s.n) (c := s.c) h hT

/-- What holds at the head of the loop's round k. -/
def CopyRel (w : World) (S : SV) (s : St) (k : Nat) (wr : World) : Prop :=
  ∃ Sk : SV, Blk wr w.heap.size 44 (stA Sk) ∧ Blk wr (w.heap.size + 1) 44 (stA ⟨⟨none, 0, 0⟩, fun _ => ⟨none, 0, 0⟩, fun _ => 0, fun _ => 0⟩) ∧
    RdO 0 wr Sk.o s.o ∧ (∀ z, z < k → RdI 0 wr (Sk.l z) (s.l z)) ∧ (∀ z, k ≤ z → Sk.l z = S.l z) ∧ Sk.p = S.p ∧ Sk.g = S.g ∧ Below w.heap.size w wr

set_option maxRecDepth 20000 in
set_option maxHeartbeats 1000000 in
theorem stCopy {B : Nat} {S : SV} {s : St} {w : World} (h : RdS B w S s) (hs : Few s) :
    Calls Tryz.prog 18 #[.agg (stA S)] w fun e w' => ∃ S' : SV, e = .returned (.agg (stA S')) ∧ RdS 0 w' S' s ∧ Below w.heap.size w w' := by
  have hO := h.o.len
  have HO := hide hO
  clear hO
  go_enter Tryz.func18, Tryz.ntmps18
  go_wp2_with fail
  refine (cloneO (Rd.reads (Rd.fr h.o (((Fr.refl _ _).alloc _).alloc _))) (obsV_one _) (by have := hs.o; have := unhide HO; omega)).mono ?_
  rintro e w1 ⟨o1, rfl, ho1, hn1, hb1⟩
  have Hn1 := hide hn1
  clear hn1
  obtain ⟨e1, c1, f1⟩ := Blk.all (((Blk.new w 44 (stA S)).alloc (.cells (stA zSV) 44)).below hb1 (by simp; omega))
  have hk : Blk w1 (w.heap.size + 1) 44 (stA zSV) := by
    have := (Blk.new (w.alloc (.cells (stA S) 44)) 44 (stA zSV)).below hb1 (by simp)
    simpa using this
  obtain ⟨e2, c2, f2⟩ := Blk.all hk
  go_wp2_with fail
  have hrel0 : CopyRel w S s 0 (w1.setCell ⟨w.heap.size, 0, none⟩ o1.v) := by
    have hb : Blk (w1.setCell ⟨w.heap.size, 0, none⟩ o1.v) w.heap.size 44 (stA { S with o := o1 }) := by
      have := Blk.set_ (w := w1) (t := 44) (cs := stA S) e1 0 o1.v
      rwa [stA_setO] at this
    refine ⟨_, hb, Blk.far (p := ⟨w.heap.size, 0, none⟩) hk (by simp) _, ?_, fun z hz => absurd hz (by omega), fun _ _ => rfl, rfl, rfl, ?_⟩
    · exact Rd.fr (own_rd ho1 (unhide Hn1) rfl) ((Fr.refl _ _).setMut (p := ⟨w.heap.size, 0, none⟩) e1 rfl (Nat.zero_le _) _)
    · exact (((Below.refl _ w).alloc (Nat.le_refl _) _).alloc (by simp) _).trans (hb1.mono (by simp; omega)) |>.setCell (by simp) _
  have Hrel0 := hide hrel0
  clear hrel0 hk e1 c1 f1 e2 c2 f2 ho1 hb1
  go_loopw [8] (fun i wr => ∃ k : Nat, k ≤ 11 ∧ i = .int .i64 k ∧ CopyRel w S s k wr) (fun i _ => 11 - (intOf i).toNat)
  case atStart => exact ⟨0, by omega, rfl, unhide Hrel0⟩
  case round =>
    clear Hrel0
    obtain ⟨k, hk, rfl, Sk, hb1, hb2, hO, hL, hS, hp, hg, hB⟩ := hrel
    by_cases hlt : k < 11
    · have hz := stA_l Sk k hlt
      obtain ⟨e1, c1, f1⟩ := Blk.all hb1
      have Hp := hide hp
      have Hg := hide hg
      have HS := hide hS
      clear hp hg hS
      go_wp2_with fail
      have hr : Reads wr wr.heap.size 1 (Sk.l k).a (Sk.l k).n ((s.l k).map (Value.int .i64)) := by
        have := Rd.reads (Rd.fr (h.l k hlt) (.of_below hB))
        rwa [← unhide HS k (Nat.le_refl k)] at this
      have hn : (Sk.l k).n ≤ 17179869184 := by
        have h1 := (h.l k hlt).len
        have h2 := hs.l k hlt
        rw [unhide HS k (Nat.le_refl k)]
        omega
      refine (cloneI hr (ints_one _) hn).mono ?_
      rintro e w2 ⟨l1, rfl, ho2, hn2, hb2'⟩
      have Hn2 := hide hn2
      clear hn2 hr hn
      obtain ⟨e2, c2, f2⟩ := Blk.all (hb1.below hb2' hb1.lt)
      go_wp2_with fail
      go_roundw
      case measure => simp [intOf]; omega
      case rel =>
        have hsz := hb2'.size
        have hlt1 : w.heap.size < wr.heap.size := hb1.lt
        refine ⟨k + 1, by omega, by go_num, { Sk with l := upd Sk.l k l1 }, ?_, ?_, ?_, ?_, ?_, unhide Hp, unhide Hg, ?_⟩
        · have := Blk.set_ (w := w2) (t := 44) (cs := stA Sk) e2 (1 + k) l1.v
          rwa [stA_setL Sk k hlt] at this
        · exact Blk.far (p := ⟨w.heap.size, 1 + k, none⟩) (hb2.below hb2' hb2.lt) (by simp) _
        · exact Rd.fr hO ((Fr.of_below hb2').setMut (p := ⟨w.heap.size, 1 + k, none⟩) hb1 rfl (Nat.zero_le _) _)
        · intro z hz
          by_cases hzk : z = k
          · subst hzk
            simp only [upd_same]
            exact Rd.fr (own_rd ho2 (unhide Hn2) rfl) ((Fr.refl _ _).setMut (p := ⟨w.heap.size, 1 + z, none⟩) e2 rfl (Nat.zero_le _) _)
          · simp only [upd_other _ _ _ _ hzk]
            exact (hL z (by omega)).fr ((Fr.of_below hb2').setMut (p := ⟨w.heap.size, 1 + k, none⟩) hb1 rfl (Nat.zero_le _) _)
        · intro z hz
          simp only [upd_other _ _ _ _ (by omega : z ≠ k)]
          exact unhide HS z (by omega)
        · exact (hB.trans (hb2'.mono hB.size)).setCell (by simp) _
    · obtain ⟨e1, c1, f1⟩ := Blk.all hb1
      obtain ⟨e2, c2, f2⟩ := Blk.all hb2
      have Hp := hide hp
      have Hg := hide hg
      clear hp hg hS
      go_wp2_with fail
      refine ret_cell (cs := stA Sk) rfl rfl (setRow_heap _ _ _ _ _ _ e2) Tryz.underlying44 rfl (by kernel_rfl) rfl ⟨Sk, rfl, ⟨Nat.zero_le _, ?_, fun z hz => ?_, unhide Hp ▸ h.p, unhide Hg ▸ h.g⟩, ?_⟩
      · exact Rd.fr hO (Fr.setRowMut (.refl _ _) hb2 rfl (Nat.zero_le _) _)
      · exact (hL z (by omega)).fr (Fr.setRowMut (.refl _ _) hb2 rfl (Nat.zero_le _) _)
      · exact below_setRow hB (by omega) _
end Go.Proofs.YtpfnmnpdaacjmaaGreatDoor
