/-
  state.zones: the lists of a right state hold each object once, where it says that it stands.
-/
import Derived.Test.YtpfnmnpdaacjmaaGreatDoorChk2
namespace Go.Proofs.YtpfnmnpdaacjmaaGreatDoor
open Go.RowKit

def bsL (n : Nat) (b : Nat → Bool) : List Value := (List.range n).map fun i => .bool (b i)
def bsA (n : Nat) (b : Nat → Bool) : Array Value := (bsL n b).toArray
theorem bsA_size (n : Nat) (b : Nat → Bool) : (bsA n b).size = n := by simp [bsA, bsL]
theorem bsA_at (n : Nat) (b : Nat → Bool) (i : Nat) (h : i < n) : (bsA n b)[i]? = some (.bool (b i)) := by simp [bsA, bsL, h]
theorem bsA_set (n : Nat) (b : Nat → Bool) (i : Nat) (h : i < n) (x : Bool) : (bsA n b).setIfInBounds i (.bool x) = bsA n (upd b i x) := by
  apply Array.ext'
  apply List.ext_getElem?
  intro j
  simp only [bsA, bsL, List.setIfInBounds_toArray, List.getElem?_set, List.getElem?_map, List.length_map, List.length_range]
  by_cases hj : i = j
  · subst hj; simp [h, upd_same]
  · rw [if_neg hj]
    by_cases hjn : j < n
    · simp [hjn, upd_other _ _ _ _ (Ne.symm hj)]
    · rw [List.getElem?_eq_none (by simp; omega)]; simp
theorem run_make_bools {P : Program} (t e : TypeId) (i : TypeInfo) (ht : P.underlying t = some (.slice e)) (hi : P.info? e = some i) (hz : i.zero = some (.bool false)) (hsz : i.size = 1) (hby : i.bytes = 1)
    (n : Nat) (hn : n ≤ 16777216) (w : World) :
    (Instr.makeSlice t (.int .i64 (n : Int)) (.int .i64 (n : Int))).run P w = .ok (.slice (some ⟨w.heap.size, 0, none⟩) n n) (w.alloc (.cells (bsA n fun _ => false) e)) := by
  have hr := run_make (P := P) w t e i _ ht hi hz .i64 .i64 n n (by omega) (by omega) (by rw [hby]; omega) (by omega)
  simp only [Int.toNat_natCast] at hr
  rw [hr, hsz]
  congr 3
  apply Array.ext_getElem?
  intro i
  by_cases h : i < n
  · simp [madeCells, bsA, bsL, Value.cells, h, Nat.mod_one]
  · simp [madeCells, bsA, bsL, Value.cells, h]

def zoneStep (os : List Ob) (z : Nat) (acc : Option ((Nat → Bool) × Nat)) (id : Int) : Option ((Nat → Bool) × Nat) :=
  match acc with
  | none => none
  | some (seen, many) =>
    if id < 0 ∨ (os.length : Int) ≤ id then none else
    if seen id.toNat then none else
    if (os.getD id.toNat fun _ => 0) 3 != (z : Int) || !stands (os.getD id.toNat fun _ => 0) z then none else some (upd seen id.toNat true, many + 1)
theorem zoneStep_none (os : List Ob) (z : Nat) (l : List Int) : l.foldl (zoneStep os z) none = none := by
  induction l with
  | nil => rfl
  | cons x l ih => exact ih
def zoneTo (s : St) (k : Nat) : Option ((Nat → Bool) × Nat) := (List.range k).foldl (fun acc z => (s.l z).foldl (zoneStep s.o z) acc) (some (fun _ => false, 0))
theorem zoneTo_succ (s : St) (k : Nat) : zoneTo s (k + 1) = (s.l k).foldl (zoneStep s.o k) (zoneTo s k) := by simp [zoneTo, List.range_succ]
theorem zoneTo_none (s : St) (k m : Nat) (h : zoneTo s k = none) (hm : k ≤ m) : zoneTo s m = none := by
  induction m with
  | zero => obtain rfl : k = 0 := by omega
            exact h
  | succ m ih =>
    by_cases hk : k ≤ m
    · rw [zoneTo_succ, ih hk, zoneStep_none]
    · obtain rfl : k = m + 1 := by omega
      exact h
def stZones (s : St) : Bool := match zoneTo s 11 with | none => false | some (_, m) => m == s.o.length

theorem zones_fail (s : St) (k j : Nat) (hk : k < 11) (h : ((s.l k).take j).foldl (zoneStep s.o k) (zoneTo s k) = none) : stZones s = false := by
  have h1 : zoneTo s (k + 1) = none := by
    rw [zoneTo_succ, ← List.take_append_drop j (s.l k), List.foldl_append, h, zoneStep_none]
  simp [stZones, zoneTo_none s (k + 1) 11 h1 (by omega)]
theorem info_bool : (Tryz.prog.info? 4).map (fun i => (i.zero, i.size, i.bytes)) = some (some (.bool false), 1, 1) := by kernel_rfl
structure ZnW (w : World) (S : SV) (n : Nat) (seen : Nat → Bool) (wr : World) : Prop where
  s : Blk wr w.heap.size 44 (stA S)
  d : Blk wr (w.heap.size + 1) 4 (bsA n seen)
  bl : Below w.heap.size w wr
theorem RdI.open_ {B : Nat} {w : World} {a : Option Addr} {n c : Nat} {l : List Int} (h : RdI B w ⟨a, n, c⟩ l) (hn : 0 < n) :
    ∃ b off, a = some ⟨b, off, none⟩ ∧ b < w.heap.size ∧ Safe B w b ∧ ∀ j, (hj : j < l.length) → w.cell? ⟨b, off + j, none⟩ = some (.int .i64 l[j]) := by
  have hl := h.len
  exact RdI.cell h (by simp only at hl; omega)

set_option maxRecDepth 100000 in
set_option maxHeartbeats 1000000 in
theorem st_zones {B : Nat} {S : SV} {s : St} {w : World} (h : RdS B w S s) (hs : Few s) :
    Calls Tryz.prog 26 #[.agg (stA S)] w fun e w' => e = .returned (.bool (stZones s)) ∧ Below w.heap.size w w' := by
  obtain ⟨i0, hi0, hz0, hz1, hz2⟩ := info_parts info_bool
  obtain ⟨⟨a, n, c⟩, L, p, g⟩ := S
  have hO := h.o
  have hn : n = s.o.length := hO.len
  have hn2 : n ≤ 16777216 := by have := hs.o; omega
  have Hn := hide hn
  clear hn
  have hmk := fun W => run_make_bools (P := Tryz.prog) 102 4 i0 Tryz.underlying102 hi0 hz0 hz1 hz2 n hn2 W
  clear hi0 hz0 hz1 hz2
  go_enter Tryz.func26, Tryz.ntmps26
  go_wp2_with fail
  have hrel0 : ZnW w ⟨⟨a, n, c⟩, L, p, g⟩ n (fun _ => false) ((w.alloc (.cells (stA ⟨⟨a, n, c⟩, L, p, g⟩) 44)).alloc (.cells (bsA n fun _ => false) 4)) :=
    ⟨(Blk.new _ _ _).alloc _, by simpa using Blk.new (w.alloc (.cells (stA ⟨⟨a, n, c⟩, L, p, g⟩) 44)) 4 (bsA n fun _ => false), ((Below.refl _ _).alloc (Nat.le_refl _) _).alloc (by simp) _⟩
  have Hrel0 := hide hrel0
  clear hrel0
  go_loopw [4, 16] (fun m i wr => ∃ (k many : Nat) (seen : Nat → Bool), k ≤ 11 ∧ i = .int .i64 k ∧ m = .int .i64 many ∧ many ≤ 16777216 * k ∧ ZnW w ⟨⟨a, n, c⟩, L, p, g⟩ n seen wr ∧ zoneTo s k = some (seen, many)) (fun _ i _ => 11 - (intOf i).toNat)
  case atStart => exact ⟨0, 0, _, by omega, rfl, rfl, by omega, unhide Hrel0, rfl⟩
  case round =>
    clear Hrel0
    obtain ⟨k, many, seen, hk, rfl, rfl, hmany, hr, hz⟩ := hrel
    obtain ⟨e1, c1, f1⟩ := Blk.all hr.s
    obtain ⟨wp, rfl⟩ : ∃ wp, wp = wr := ⟨_, rfl⟩
    have Hz := hide hz
    clear hz
    by_cases hlt : k < 11
    · have hv := lsA_at L k hlt
      have hkd : decide ((k : Int) < 11) = true := by simp; omega
      obtain ⟨a', n', c', hLk⟩ : ∃ a' n' c', L k = ⟨a', n', c'⟩ := ⟨_, _, _, rfl⟩
      have hl : RdI B w ⟨a', n', c'⟩ (s.l k) := by have := h.l k hlt; simp only at this; rwa [hLk] at this
      have hn' : n' = (s.l k).length := hl.len
      have hn'2 : n' ≤ 16777216 := by have := hs.l k hlt; omega
      have Hn' := hide hn'
      clear hn'
      go_wp2_with fail
      go_loopw [4, 22] (fun m i wr => ∃ (j many : Nat) (seen : Nat → Bool), j ≤ n' ∧ i = .int .i64 j ∧ m = .int .i64 many ∧ many ≤ 16777216 * k + j ∧ ZnW w ⟨⟨a, n, c⟩, L, p, g⟩ n seen wr ∧ ((s.l k).take j).foldl (zoneStep s.o k) (zoneTo s k) = some (seen, many)) (fun _ i _ => n' - (intOf i).toNat)
      case atStart => exact ⟨0, many, seen, by omega, rfl, rfl, by omega, hr, unhide Hz⟩
      case round =>
        clear e1 c1 f1 hr
        obtain ⟨j, many, seen, hj, rfl, rfl, hmany2, hr, hz⟩ := hrel
        obtain ⟨e1, c1, f1⟩ := Blk.all hr.s
        obtain ⟨e2, c2, f2⟩ := Blk.all hr.d
        have Hz2 := hide hz
        clear hz
        by_cases hlj : j < n'
        · obtain ⟨b, off, rfl, hbl, hsf, hcell⟩ := RdI.open_ (l := s.l k) (Rd.fr hl (.of_below hr.bl)) (by omega)
          have hc := hcell j (by have := unhide Hn'; omega)
          obtain ⟨id, Hid0⟩ : ∃ id, Hid (id = (s.l k)[j]'(by have := unhide Hn'; omega)) := ⟨_, hide rfl⟩
          rw [← unhide Hid0] at hc
          have hstep : ((s.l k).take (j + 1)).foldl (zoneStep s.o k) (zoneTo s k) = zoneStep s.o k (some (seen, many)) id := by
            rw [List.take_succ_eq_append_getElem (by have := unhide Hn'; omega), List.foldl_append, unhide Hz2, unhide Hid0]; rfl
          have Hstep := hide hstep
          clear hstep hcell
          by_cases hb0 : id < 0
          · go_wp2_with fail
            go_ret
            refine ⟨?_, hr.bl⟩
            rw [zones_fail s k (j + 1) hlt (by rw [unhide Hstep]; simp [zoneStep, hb0])]; rfl
          · by_cases hb1 : (n : Int) ≤ id
            · go_wp2_with fail
              go_ret
              refine ⟨?_, hr.bl⟩
              rw [zones_fail s k (j + 1) hlt (by rw [unhide Hstep]; have := unhide Hn; simp only [zoneStep]; rw [if_pos (by right; omega)])]; rfl
            · obtain ⟨m, rfl⟩ := Int.eq_ofNat_of_zero_le (by omega : 0 ≤ id)
              have hm : m < n := by omega
              have hmo : m < s.o.length := by have := unhide Hn; omega
              have hsn := bsA_at n seen m hm
              have hcond : ¬ ((m : Int) < 0 ∨ (s.o.length : Int) ≤ m) := by omega
              have Hcond := hide hcond
              clear hcond hb0 hb1
              by_cases hb2 : seen m = true
              · go_wp2_with fail
                go_ret
                refine ⟨?_, hr.bl⟩
                rw [zones_fail s k (j + 1) hlt (by rw [unhide Hstep]; simp only [zoneStep]; rw [if_neg (unhide Hcond), if_pos (by simpa using hb2)])]; rfl
              · have hb2' : seen m = false := by simpa using hb2
                clear hb2
                obtain ⟨b2, off2, rfl, hbl2, hsf2, C, T, fr, hC, hCs, hrow, hcell2⟩ := RdO.open_ (os := s.o) (Rd.fr hO (.of_below hr.bl)) (by omega)
                have hx := hrow m hmo
                have hCk : off2 + m * 18 + 18 ≤ C.size := by omega
                obtain ⟨ob, Hob⟩ : ∃ ob, Hid (ob = s.o[m]) := ⟨_, hide rfl⟩
                rw [← unhide Hob] at hx
                have hgd : (s.o.getD m fun _ => 0) = ob := by rw [unhide Hob]; simp [hmo]
                have Hgd := hide hgd
                clear hgd hcell2 hrow
                have hsz := hr.bl.size
                by_cases hb3 : ob 3 = (k : Int)
                · have hb3' : (ob 3 != (k : Int)) = false := by simp [hb3]
                  have Hb3 := hide hb3'
                  go_wp2_with fail
                  refine (st_stands _ _ _).mono ?_
                  rintro e w5 ⟨rfl, hb5⟩
                  have hbl5 : Below w.heap.size w w5 := (hr.bl.alloc hsz _).trans (hb5.mono (by simp; omega))
                  have hk5 := (hr.s.alloc (.cells (obA ob) 74)).below hb5 (by simp; have := hr.s.lt; omega)
                  have hd5 := (hr.d.alloc (.cells (obA ob) 74)).below hb5 (by simp; have := hr.d.lt; omega)
                  obtain ⟨e3, c3, f3⟩ := Blk.all hk5
                  obtain ⟨e4, c4, f4⟩ := Blk.all hd5
                  by_cases hb4 : stands ob k = true
                  · have hm1 : (many : Int) + 1 ≤ 1000000000 := by omega
                    go_wp2_with fail
                    go_roundw
                    case measure => simp [intOf]; omega
                    case rel =>
                      refine ⟨j + 1, many + 1, upd seen m true, by omega, by go_num, by go_num, by omega, ⟨Blk.far (p := ⟨w.heap.size + 1, m, none⟩) hk5 (by simp) _, ?_, hbl5.setCell (by simp) _⟩, ?_⟩
                      · have := Blk.set_ (w := w5) (t := 4) (cs := bsA n seen) hd5 m (.bool true)
                        rwa [bsA_set n seen m hm] at this
                      · rw [unhide Hstep]
                        simp only [zoneStep]
                        rw [if_neg (unhide Hcond), if_neg (by simpa using hb2'), Int.toNat_natCast, unhide Hgd, unhide Hb3, hb4]
                        rfl
                  · have hb4' : stands ob k = false := by simpa using hb4
                    go_wp2_with fail
                    go_ret
                    refine ⟨?_, hbl5⟩
                    rw [zones_fail s k (j + 1) hlt (by rw [unhide Hstep]; simp only [zoneStep]; rw [if_neg (unhide Hcond), if_neg (by simpa using hb2'), Int.toNat_natCast, unhide Hgd, hb4']; simp)]; rfl
                · have hb3' : (ob 3 != (k : Int)) = true := by simpa using hb3
                  have Hb3 := hide hb3'
                  go_wp2_with fail
                  go_ret
                  refine ⟨?_, hr.bl.alloc hsz _⟩
                  rw [zones_fail s k (j + 1) hlt (by rw [unhide Hstep]; simp only [zoneStep]; rw [if_neg (unhide Hcond), if_neg (by simpa using hb2'), Int.toNat_natCast, unhide Hgd, unhide Hb3]; simp)]; rfl
        · go_wp2_with fail
          go_roundw
          case measure => simp [intOf]; omega
          case rel =>
            refine ⟨k + 1, many, seen, by omega, by go_num, rfl, by omega, hr, ?_⟩
            rw [zoneTo_succ, ← unhide Hz2, List.take_of_length_le (by have := unhide Hn'; omega)]
    · obtain rfl : k = 11 := by omega
      have hd := hr.d
      have hfin : stZones s = (many == s.o.length) := by simp [stZones, unhide Hz]
      have Hfin := hide hfin
      clear hfin
      go_wp2_with fail
      go_ret
      refine ⟨?_, hr.bl⟩
      rw [unhide Hfin, ← unhide Hn, Bool.eq_iff_iff.2 (by simp; omega : ((many == n) = true) ↔ (((many : Int) == n) = true))]; rfl
end Go.Proofs.YtpfnmnpdaacjmaaGreatDoor
