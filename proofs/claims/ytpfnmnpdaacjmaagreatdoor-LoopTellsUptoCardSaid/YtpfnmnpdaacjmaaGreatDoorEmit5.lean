/-
  A new emitter.
-/
import Derived.Test.YtpfnmnpdaacjmaaGreatDoorBuild
namespace Go.Proofs.YtpfnmnpdaacjmaaGreatDoor
open Go.RowKit

theorem EFr.below_of {B : Nat} {w w' w'' : World} (h : EFr B w' w'') (h0 : Below B w w') (hB : B ≤ w'.heap.size) : Below B w w'' :=
  ⟨h.os.trans h0.os, h.tape.trans h0.tape, h.output.trans h0.output, Nat.le_trans h0.size h.size, fun k hk => (h.keep k (Nat.lt_of_lt_of_le hk hB) (.inl hk)).trans (h0.block k hk)⟩
def randCheck (n : Nat) : Int := if n ≤ 4096 then 0 else 19
theorem rand_check (s : Sl) (w : World) : Calls Tryz.prog 17 #[s.v] w fun e w' => e = .returned (errV (randCheck s.n)) ∧ w = w' := by
  obtain ⟨a, n, c⟩ := s
  by_cases hn : n ≤ 4096
  · have hd : decide ((4096 : Int) < n) = false := by simp; omega
    have hr : errV (randCheck n) = .nilIface := errV_zero (by rw [randCheck, if_pos hn])
    simp only [hr]
    clear hn hr
    go_enter Tryz.func17, Tryz.ntmps17
    go_wp2_with fail
    go_ret
    exact ⟨rfl, rfl⟩
  · have hd : decide ((4096 : Int) < n) = true := by simp; omega
    have hr : errV (randCheck n) = errV 19 := by rw [randCheck, if_neg hn]
    simp only [hr]
    clear hn hr
    go_enter Tryz.func17, Tryz.ntmps17
    go_wp2_with fail
    go_ret
    exact ⟨rfl, rfl⟩
def EA.new (s : St) (dr : List Int) : EA := ⟨s, dr, [], [], if stCheck s ≠ 0 then stCheck s else randCheck dr.length⟩
set_option maxRecDepth 100000 in
set_option maxHeartbeats 1000000 in
theorem em_new {B : Nat} {w : World} {S : SV} {s : St} {sd : Sl} {dr : List Int} (h : RdS B w S s) (hs : Few s) (hd : RdI B w sd dr) (hdn : dr.length ≤ 4194304) (hG : Glob w) (h8 : 8 ≤ w.heap.size) :
    Calls Tryz.prog 48 #[.agg (stA S), sd.v] w fun e w' => ∃ b, e = .returned (.pointer (some ⟨b, 0, none⟩)) ∧ Below w.heap.size w w' ∧ ∃ M, Em w.heap.size w' b M (EA.new s dr) := by
  have hb0 : Below w.heap.size w (w.alloc (.cells (stA S) 44)) := (Below.refl _ _).alloc (Nat.le_refl _) _
  obtain ⟨e0, c0, f0⟩ := Blk.all (Blk.new w 44 (stA S))
  have hchk : ∀ w2, Below w.heap.size w w2 → Calls Tryz.prog 16 #[.agg (stA S)] w2 fun e w' => e = .returned (errV (stCheck s)) ∧ Below w2.heap.size w2 w' :=
    fun w2 hq2 => st_check (h.fr (.of_below hq2)) hs (hG.below hq2 h8) (by have := hq2.size; omega)
  rcases errV_cases (stCheck s) with ⟨hE, he⟩ | ⟨hE, he⟩
  all_goals rw [he] at hchk
  all_goals
    go_enter Tryz.func48, Tryz.ntmps48
    go_wp2_with fail
    have hd0 : Below w.heap.size w (w.alloc (.cells (stA S) 44)).drew := hb0.drew
    have hbk0 := (Blk.new w 44 (stA S)).drew
    have hsz0 : (w.alloc (.cells (stA S) 44)).drew.heap.size = w.heap.size + 1 := by simp
    have hlen := hd.len
    have hd' := hd
    have hd2 := hd
    clear hd'
    have HD := hide hdn
    clear hdn
    go_region_law (first
      | (go_simp
         go_at_call 18
         refine (stCopy (h.fr (.of_below hd0)) hs).mono ?_
         rintro e w1 ⟨S1, rfl, hS1, hb1⟩
         have hbk1 := hbk0.below hb1 hbk0.lt
         obtain ⟨e1, c1, f1⟩ := Blk.all hbk1
         have hq1 := hd0.trans (hb1.mono hd0.size))
      | (go_simp
         go_at_call 19
         refine (cloneI (hd2.fr (.of_below hq1)).reads (fun u hu => by simp at hu; obtain ⟨x, _, rfl⟩ := hu; rfl) (by have := unhide HD; omega)).mono ?_
         rintro e w2 ⟨sd2, rfl, hsd2, hsn2, hb2⟩
         have hbk2 := hbk1.below hb2 hbk1.lt
         obtain ⟨e2, c2, f2⟩ := Blk.all hbk2
         have hq2 := hq1.trans (hb2.mono hq1.size))
      | (go_simp
         go_at_call 16
         refine (hchk _ hq2).mono ?_
         rintro e w3 ⟨rfl, hb3⟩
         have hbk3 := hbk2.below hb3 hbk2.lt
         obtain ⟨e3, c3, f3⟩ := Blk.all hbk3
         have hq3 := hq2.trans (hb3.mono hq2.size)))
    all_goals
      have hq4 : Below w.heap.size w (w3.alloc (.cells (emA ⟨S1, ⟨sd2.a, dr.length, sd2.c⟩, ⟨none, 0, 0⟩, ⟨none, 0, 0⟩, errV (stCheck s)⟩) 126)) := hq3.alloc hq3.size _
      have hb34 : Below w3.heap.size w3 (w3.alloc (.cells (emA ⟨S1, ⟨sd2.a, dr.length, sd2.c⟩, ⟨none, 0, 0⟩, ⟨none, 0, 0⟩, errV (stCheck s)⟩) 126)) := (Below.refl _ _).alloc (Nat.le_refl _) _
      have hsl : sd2 = ⟨sd2.a, dr.length, sd2.c⟩ := by rw [← hlen, ← hsn2]
      have hr : RdI 0 w3 sd2 dr := (own_rd hsd2 hsn2 rfl).fr (.of_below hb3)
      rw [hsl] at hr
      have hm : Em w.heap.size (w3.alloc (.cells (emA ⟨S1, ⟨sd2.a, dr.length, sd2.c⟩, ⟨none, 0, 0⟩, ⟨none, 0, 0⟩, errV (stCheck s)⟩) 126)) w3.heap.size ⟨S1, ⟨sd2.a, dr.length, sd2.c⟩, ⟨none, 0, 0⟩, ⟨none, 0, 0⟩, errV (stCheck s)⟩ ⟨s, dr, [], [], stCheck s⟩ :=
        ⟨Blk.new _ _ _, h8, hq3.size, hG.below hq4 h8, ((hS1.fr ((Fr.of_below hb2).trans (.of_below hb3))).fr (.of_below hb34)).mono (Nat.zero_le _) hq4.size, hs,
          (hr.fr (.of_below hb34)).mono (Nat.zero_le _), unhide HD,
          ⟨rfl, .inl ⟨rfl, rfl⟩⟩, Nat.zero_le _, ⟨rfl, .inl ⟨rfl, rfl⟩⟩, Nat.zero_le _, rfl⟩
      rw [he] at hm hq4
      have hfl : EA.new s dr = EA.fail ⟨s, dr, [], [], stCheck s⟩ (randCheck dr.length) := by
        rw [EA.new, EA.fail]
        by_cases hE0 : stCheck s = 0
        · rw [if_neg (by simp [hE0]), if_pos hE0]
        · rw [if_pos hE0, if_neg hE0]
      have Hfl := hide hfl
      clear hfl hE hsl
      go_wp2_with (go_at_call 17; refine (rand_check _ _).mono ?_; rintro e w' ⟨rfl, rfl⟩)
      refine (em_fail hm _).mono ?_
      rintro e w5 ⟨rfl, M5, h5, hf5⟩
      go_wp2_with fail
      go_ret
      exact ⟨_, rfl, hf5.below_of hq4 hq4.size, M5, by rw [unhide Hfl]; exact h5⟩
end Go.Proofs.YtpfnmnpdaacjmaaGreatDoor
