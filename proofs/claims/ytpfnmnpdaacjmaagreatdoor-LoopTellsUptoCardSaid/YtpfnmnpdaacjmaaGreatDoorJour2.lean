/-
  journal: a new checkpoint.
-/
import Derived.Test.YtpfnmnpdaacjmaaGreatDoorTFr
namespace Go.Proofs.YtpfnmnpdaacjmaaGreatDoor
open Go.RowKit

def mkV (x : Int × Int) : List Value := [.int .i64 x.1, .int .i64 x.2]
def mksV (l : List (Int × Int)) : List Value := l.flatMap mkV
theorem mksV_snoc (l : List (Int × Int)) (x : Int × Int) : mksV (l ++ [x]) = mksV l ++ mkV x := by simp [mksV]
def jtM (T : TypeId) : Bool := T == 79 || T == 113
def jtE (T : TypeId) : Bool := T == 79 || T == 89
theorem jtM_imm (T : TypeId) (h : immT T = true) : jtM T = false := by
  simp only [immT, Bool.or_eq_true, beq_iff_eq] at h
  rcases h with rfl | rfl <;> rfl
theorem jtE_imm (T : TypeId) (h : immT T = true) : jtE T = false := by
  simp only [immT, Bool.or_eq_true, beq_iff_eq] at h
  rcases h with rfl | rfl <;> rfl
set_option maxRecDepth 100000 in
set_option maxHeartbeats 1000000 in
theorem jo_mark {B : Nat} {w : World} {j : Nat} {ev mk : Sl} {n : Int} {ml : List (Int × Int)} (h : Blk w j 79 (joA ev mk n)) (hm : w.ownsRow B 113 2 mk.v ml.length (mksV ml)) (hB : B ≤ w.heap.size) (hj : B ≤ j)
    (hn : 0 ≤ n ∧ n < 1073741824) (hl : ml.length ≤ 1048576) :
    Calls Tryz.prog 34 #[.pointer (some ⟨j, 0, none⟩)] w fun r w' => r = .returned (.int .i64 (n + 1)) ∧ ∃ mk' : Sl, Blk w' j 79 (joA ev mk' (n + 1)) ∧
      w'.ownsRow B 113 2 mk'.v (ml.length + 1) (mksV (ml ++ [(n + 1, (ev.n : Int))])) ∧ Below B w w' ∧ TFr jtM w w' := by
  obtain ⟨hn0, hn1⟩ := hn
  obtain ⟨e1, c1, f1⟩ := Blk.all h
  have hlt := h.lt
  have hs := h.set_ 2 (.int .i64 (n + 1))
  rw [joA_set2] at hs
  have hso : Only j w (w.setCell ⟨j, 2, none⟩ (.int .i64 (n + 1))) := (Only.refl j w).set_ 2 _
  have hms := own_only hm hso h (by decide)
  go_enter Tryz.func34, Tryz.ntmps34
  go_wp2_with fail
  obtain ⟨e2, c2, f2⟩ := Blk.all hs
  obtain ⟨i0, hi0, hz0, hz1, hz2⟩ := info_parts infoM
  have hW : Below (w.setCell ⟨j, 2, none⟩ (.int .i64 (n + 1))).heap.size (w.setCell ⟨j, 2, none⟩ (.int .i64 (n + 1))) ((w.setCell ⟨j, 2, none⟩ (.int .i64 (n + 1))).alloc (.cells #[.int .i64 (n + 1), .int .i64 ev.n] 113)).drew := (below1 _ _).drew
  have hsz : (w.setCell ⟨j, 2, none⟩ (.int .i64 (n + 1))).heap.size = w.heap.size := by simp
  have hmW := own_below hms hW
  have hsW := hs.below hW hs.lt
  have hgW : Blk ((w.setCell ⟨j, 2, none⟩ (.int .i64 (n + 1))).alloc (.cells #[.int .i64 (n + 1), .int .i64 ev.n] 113)).drew w.heap.size 113 #[.int .i64 (n + 1), .int .i64 ev.n] := by
    have := (Blk.new (w.setCell ⟨j, 2, none⟩ (.int .i64 (n + 1))) 113 #[.int .i64 (n + 1), .int .i64 ev.n]).drew
    rwa [hsz] at this
  have hBW : B ≤ ((w.setCell ⟨j, 2, none⟩ (.int .i64 (n + 1))).alloc (.cells #[.int .i64 (n + 1), .int .i64 ev.n] 113)).drew.heap.size := by have := hW.size; omega
  have hq : Below B w ((w.setCell ⟨j, 2, none⟩ (.int .i64 (n + 1))).alloc (.cells #[.int .i64 (n + 1), .int .i64 ev.n] 113)).drew := ((Below.refl _ _).setCell hj _).trans (hW.mono (by omega))
  have hrd : Reads ((w.setCell ⟨j, 2, none⟩ (.int .i64 (n + 1))).alloc (.cells #[.int .i64 (n + 1), .int .i64 ev.n] 113)).drew (w.heap.size + 1) 2 (some ⟨w.heap.size, 0, none⟩) 1 (mkV (n + 1, (ev.n : Int))) :=
    ⟨rfl, fun _ => ⟨_, rfl, by simp, fun i u hu => by
      have h1 := (Blk.all hgW).2.1 i
      rw [Addr.add_mid, Nat.zero_add, h1]
      simpa [mkV] using hu⟩⟩
  have hx1 : ∀ u ∈ mkV (n + 1, (ev.n : Int)), u.oneCell' = true := by simp [mkV, Value.oneCell']
  clear hsz
  go_region_law (refine step_append_any rfl (.tmp 16) (.tmp 27) _ rfl B 113 i0 _ 2 16 Tryz.underlying77 hi0 hz0 hz1 hz2 rfl (by omega) mk.v ml.length (mksV ml) (by simp [Act.eval]) hmW _ _ 1 1 (mkV (n + 1, (ev.n : Int))) (by simp [Act.eval]) hrd hx1 (by simp [maxLen]; omega) (by omega) hBW ?_; intro v5 w5 hap5; obtain ⟨s5, rfl, -⟩ := sl_of_own hap5.1; obtain ⟨e5, c5, f5⟩ := Blk.all (hap5.keep hmW hsW (by decide)))
  all_goals
    have hk5 := hap5.keep hmW hsW (by decide)
    have hk6 := hk5.set_ 1 s5.v
    rw [joA_set1] at hk6
    have ho6 : Only j w5 (w5.setCell ⟨j, 1, none⟩ s5.v) := (Only.refl j w5).set_ 1 _
    obtain ⟨e6, c6, f6⟩ := Blk.all hk6
    have hm6 := own_only hap5.1 ho6 hk5 (by decide)
    have hq6 := (hq.trans (hap5.below hmW hBW)).setCell (p := ⟨j, 1, none⟩) hj s5.v
    have hT6 : TFr jtM w (w5.setCell ⟨j, 1, none⟩ s5.v) := (((TFr.of_only hso h rfl).trans (.of_below hW)).trans (hap5.tfr hmW rfl)).trans (.of_only ho6 hk5 rfl)
    go_wp2_with fail
    go_ret
    exact ⟨rfl, s5, hk6, by rw [mksV_snoc]; exact hm6, hq6, hT6⟩
end Go.Proofs.YtpfnmnpdaacjmaaGreatDoor
