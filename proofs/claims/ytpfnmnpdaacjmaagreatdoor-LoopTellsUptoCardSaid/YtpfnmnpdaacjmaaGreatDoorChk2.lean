/-
  state.Check: which states are right.
-/
import Derived.Test.YtpfnmnpdaacjmaaGreatDoorChk1
namespace Go.Proofs.YtpfnmnpdaacjmaaGreatDoor
open Go.RowKit

theorem obsV_at (os : List Ob) (i f : Nat) (hi : i < os.length) (hf : f < 18) : (obsV os)[i * 18 + f]? = some (.int .i64 (os[i] f)) := by
  induction os generalizing i with
  | nil => simp at hi
  | cons o os ih =>
    simp only [obsV, List.flatMap_cons] at ih ⊢
    cases i with
    | zero =>
      rw [List.getElem?_append_left (by rw [obV_len]; omega)]
      simp [obV, hf]
    | succ i =>
      rw [List.getElem?_append_right (by rw [obV_len]; omega), obV_len, show (i + 1) * 18 + f - 18 = i * 18 + f from by omega, ih i (by simpa using hi)]
      simp
/-- An object slice, opened. -/
theorem RdO.open_ {B : Nat} {w : World} {a : Option Addr} {n c : Nat} {os : List Ob} (h : RdO B w ⟨a, n, c⟩ os) (hn : 0 < n) :
    ∃ b off, a = some ⟨b, off, none⟩ ∧ b < w.heap.size ∧ Safe B w b ∧ ∃ C T fr, w.blk b = some (.cells C T fr) ∧ off + n * 18 ≤ C.size ∧ (∀ i, (hi : i < os.length) → C.extract (off + i * 18) (off + i * 18 + 18) = obA os[i]) ∧
      ∀ i f, (hi : i < os.length) → f < 18 → C[off + i * 18 + f]? = some (.int .i64 (os[i] f)) := by
  have hl := h.len
  obtain ⟨b, off, ha, hlt, hs, hc⟩ := Rd.at_ h hn
  simp only at hl ha hn
  have hcell : ∀ i f, (hi : i < os.length) → f < 18 → w.cell? ⟨b, off + i * 18 + f, none⟩ = some (.int .i64 (os[i] f)) := fun i f hi hf => by
    rw [Nat.add_assoc]
    exact hc _ _ (obsV_at os i f hi hf)
  have h0 := hcell 0 0 (by omega) (by omega)
  unfold World.cell? at h0
  split at h0
  · rename_i C T fr hb
    have hC : ∀ i f, (hi : i < os.length) → f < 18 → C[off + i * 18 + f]? = some (.int .i64 (os[i] f)) := fun i f hi hf => by
      have := hcell i f hi hf
      simpa [World.cell?, hb] using this
    have hsz : off + n * 18 ≤ C.size := by
      have := hC (n - 1) 17 (by omega) (by omega)
      have := (Array.getElem?_eq_some_iff.1 this).1
      omega
    refine ⟨b, off, ha, hlt, hs, C, T, fr, hb, hsz, fun i hi => ?_, hC⟩
    apply Array.ext_getElem?
    intro f
    rw [Array.getElem?_extract]
    by_cases hf : f < 18
    · rw [if_pos (by omega), hC i f hi hf, obA_at _ _ hf]
    · rw [if_neg (by omega), Array.getElem?_eq_none (by rw [obA_size]; omega)]
  · cases h0

def obRange (many : Int) (o : Ob) : Bool := (List.range 18).all fun f => hasB (objBd many f) (o f)
def plRange (p : Nat → Int) : Bool := (List.range 2).all fun i => (List.range 9).all fun f => hasB (plBd f) (p (9 * i + f))
def gmRange (g : Nat → Int) : Bool := (List.range 7).all fun f => hasB (gmBd f) (g f)
def stRanges (s : St) : Bool := s.o.all (obRange s.o.length) && plRange s.p && gmRange s.g

/-- What holds behind the bounds' array is made. -/
structure RgW (w : World) (S : SV) (n b1 : Nat) (wr : World) : Prop where
  s : Blk wr w.heap.size 44 (stA S)
  d : Blk wr b1 95 (bdA 18 (objBd n))
  b1 : w.heap.size < b1
  bl : Below w.heap.size w wr

set_option maxRecDepth 100000 in
set_option maxHeartbeats 1000000 in
theorem st_ranges {B : Nat} {S : SV} {s : St} {w : World} (h : RdS B w S s) (hs : Few s) (hG : Glob w) (h8 : 8 ≤ w.heap.size) :
    Calls Tryz.prog 25 #[.agg (stA S)] w fun e w' => e = .returned (.bool (stRanges s)) ∧ Below w.heap.size w w' := by
  obtain ⟨⟨a, n, c⟩, L, p, g⟩ := S
  have hO := h.o
  have hn : n = s.o.length := hO.len
  have hn2 : n ≤ 16777216 := by have := hs.o; omega
  have Hn := hide hn
  clear hn
  go_enter Tryz.func25, Tryz.ntmps25
  go_wp2_with fail
  refine (st_objects _ _ (hG.below ((Below.refl _ _).alloc (Nat.le_refl _) _) h8) (by simp; omega)).mono ?_
  rintro e w1 ⟨rfl, hb1⟩
  have hk := (Blk.new w 44 (stA ⟨⟨a, n, c⟩, L, p, g⟩)).below hb1 (by simp)
  have hsz := hb1.size
  simp only [World.size_alloc] at hsz
  have hz : w.heap.size < w1.heap.size := by omega
  obtain ⟨e1, c1, f1⟩ := Blk.all hk
  have hbl : Below w.heap.size w w1 := ((Below.refl _ _).alloc (Nat.le_refl _) _).trans (hb1.mono (by simp))
  go_wp2_with fail
  have hrel0 : RgW w ⟨⟨a, n, c⟩, L, p, g⟩ n w1.heap.size (w1.alloc (.cells (bdA 18 (objBd n)) 95)) :=
    ⟨hk.alloc _, Blk.new _ _ _, by omega, hbl.alloc (by omega) _⟩
  have Hrel0 := hide hrel0
  obtain ⟨b1, Hb1⟩ : ∃ b1, Hid (b1 = w1.heap.size) := ⟨_, hide rfl⟩
  clear hrel0 hk e1 c1 f1 hb1 hbl
  go_goals
  go_loopw [21] (fun i wr => ∃ k : Nat, k ≤ n ∧ i = .int .i64 k ∧ RgW w ⟨⟨a, n, c⟩, L, p, g⟩ n w1.heap.size wr ∧ ∀ j, (hj : j < s.o.length) → j < k → obRange n s.o[j] = true) (fun i _ => n - (intOf i).toNat)
  case atStart => exact ⟨0, by omega, rfl, unhide Hrel0, fun j _ hj => absurd hj (by omega)⟩
  case round =>
    obtain ⟨k, hk, rfl, hr, hall⟩ := hrel
    obtain ⟨e1, c1, f1⟩ := Blk.all hr.s
    obtain ⟨e2, c2, f2⟩ := Blk.all hr.d
    by_cases hlt : k < n
    · obtain ⟨b, off, rfl, hbl, hsf, C, T, fr, hC, hCs, hrow, hcell⟩ := RdO.open_ (os := s.o) (Rd.fr hO (.of_below hr.bl)) (by omega)
      have hx := hrow k (by have := unhide Hn; omega)
      have hCk : off + k * 18 + 18 ≤ C.size := by omega
      go_wp2_with fail
      obtain ⟨wo, rfl⟩ : ∃ wo, wo = wr := ⟨_, rfl⟩
      have hk0 := hr.s
      have hk1 := hr.d
      have hsr := hr.bl.size
      have hzr : w.heap.size < wo.heap.size := hk0.lt
      have hzr1 : w1.heap.size < wo.heap.size := hk1.lt
      go_loopw [26] (fun i wq => ∃ f : Nat, f ≤ 18 ∧ i = .int .i64 f ∧ RgW w ⟨⟨some ⟨b, off, none⟩, n, c⟩, L, p, g⟩ n w1.heap.size wq ∧ ∀ q, q < f → hasB (objBd n q) (s.o[k] q) = true) (fun i _ => 18 - (intOf i).toNat)
      case atStart => exact ⟨0, by omega, rfl, ⟨hk0.alloc _, hk1.alloc _, hr.b1, hr.bl.alloc (by omega) _⟩, fun q hq => absurd hq (by omega)⟩
      case round =>
        obtain ⟨f, hf, rfl, hr2, hall2⟩ := hrel
        obtain ⟨e3, c3, f3⟩ := Blk.all hr2.s
        obtain ⟨e4, c4, f4⟩ := Blk.all hr2.d
        by_cases hlf : f < 18
        · have hv := obA_at s.o[k] f hlf
          have hd := bdA_at' 18 f (objBd n) hlf
          go_wp2_with fail
          refine (bound_has _ _ _ _).mono ?_
          rintro e w3 ⟨rfl, hb3⟩
          have hr3 : RgW w ⟨⟨some ⟨b, off, none⟩, n, c⟩, L, p, g⟩ n w1.heap.size w3 := ⟨hr2.s.below hb3 hr2.s.lt, hr2.d.below hb3 hr2.d.lt, hr2.b1, hr2.bl.trans (hb3.mono hr2.bl.size)⟩
          by_cases hh : hasB (objBd n f) (s.o[k] f) = true
          · have hh' : hasB ((objBd n f).1, (objBd n f).2) (s.o[k] f) = true := hh
            go_wp2_with fail
            go_roundw
            case measure => simp [intOf]; omega
            case rel => exact ⟨f + 1, by omega, by go_num, hr3, fun q hq => by
              by_cases hqf : q = f
              · subst hqf; exact hh
              · exact hall2 q (by omega)⟩
          · have hh' : hasB ((objBd n f).1, (objBd n f).2) (s.o[k] f) = false := by simpa using hh
            go_wp2_with fail
            go_ret
            refine ⟨?_, hr3.bl⟩
            have : stRanges s = false := by
              have h1 : obRange s.o.length s.o[k] = false := by
                rw [obRange, List.all_eq_false]
                exact ⟨f, by simpa using hlf, by rw [← (show (n : Int) = s.o.length from by have := unhide Hn; omega)]; exact hh⟩
              have h2 : s.o.all (obRange s.o.length) = false := by
                rw [List.all_eq_false]
                exact ⟨s.o[k], List.getElem_mem _, by rw [h1]; simp⟩
              simp [stRanges, h2]
            rw [this]; rfl
        · go_wp2_with fail
          go_roundw
          case measure => simp [intOf]; omega
          case rel => exact ⟨k + 1, by omega, by go_num, hr2, fun j hj hjk => by
            by_cases hjk' : j = k
            · subst hjk'
              rw [obRange, List.all_eq_true]
              exact fun q hq => hall2 q (by have := List.mem_range.1 hq; omega)
            · exact hall j hj (by omega)⟩
    · have hobs : s.o.all (obRange s.o.length) = true := by
        rw [List.all_eq_true]
        intro o ho
        obtain ⟨j, hj, rfl⟩ := List.mem_iff_getElem.1 ho
        have e := unhide Hn
        rw [← (show (n : Int) = s.o.length from by omega)]
        exact hall j hj (by omega)
      have Hobs := hide hobs
      have hk0 := hr.s
      have hbl0 := hr.bl
      have hG' : Glob wr := hG.below hbl0 h8
      have h8' : 8 ≤ wr.heap.size := by have := hbl0.size; omega
      clear hobs hall hr e2 c2 f2
      obtain ⟨wo, rfl⟩ : ∃ wo, wo = wr := ⟨_, rfl⟩
      go_wp2_with fail
      have hrl : Below w.heap.size w wo ∧ Blk wo w.heap.size 44 (stA ⟨⟨a, n, c⟩, L, p, g⟩) := ⟨hbl0, hk0⟩
      have Hrl := hide hrl
      clear hrl hbl0 hk0 e1 c1 f1 hG' h8' hlt hk
      go_loopw [40] (fun i wr => ∃ k : Nat, k ≤ 2 ∧ i = .int .i64 k ∧ (Below w.heap.size w wr ∧ Blk wr w.heap.size 44 (stA ⟨⟨a, n, c⟩, L, p, g⟩)) ∧ ∀ j, j < k → ((List.range 9).all fun f => hasB (plBd f) (p (9 * j + f))) = true) (fun i _ => 2 - (intOf i).toNat)
      case atStart => exact ⟨0, by omega, rfl, unhide Hrl, fun j hj => absurd hj (by omega)⟩
      case round =>
        obtain ⟨i, hi, rfl, ⟨hbl, hk⟩, hall⟩ := hrel
        obtain ⟨e1, c1, f1⟩ := Blk.all hk
        by_cases hli : i < 2
        · have hx := plA_p p i hli
          obtain ⟨wp, rfl⟩ : ∃ wp, wp = wr := ⟨_, rfl⟩
          have hlt := hk.lt
          have hsz := hbl.size
          go_wp2_with fail
          refine (st_players _ ((hG.below hbl h8).below ((Below.refl _ _).alloc (Nat.le_refl _) _) (by omega)) (by simp; omega)).mono ?_
          rintro e w4 ⟨rfl, hb4⟩
          have hkb : Blk w4 wp.heap.size 40 (p9A fun j => p (9 * i + j)) := (Blk.new wp _ _).below hb4 (by simp)
          have hk4 : Blk w4 w.heap.size 44 (stA ⟨⟨a, n, c⟩, L, p, g⟩) := (hk.alloc _).below hb4 (by simp; omega)
          have hbl4 : Below w.heap.size w w4 := (hbl.alloc hbl.size _).trans (hb4.mono (by simp; omega))
          go_wp2_with fail
          go_loopw [44] (fun i' wr => ∃ f : Nat, f ≤ 9 ∧ i' = .int .i64 f ∧ (Below w.heap.size w wr ∧ Blk wr w.heap.size 44 (stA ⟨⟨a, n, c⟩, L, p, g⟩) ∧ Blk wr wp.heap.size 40 (p9A fun j => p (9 * i + j))) ∧ ∀ q, q < f → hasB (plBd q) (p (9 * i + q)) = true) (fun i' _ => 9 - (intOf i').toNat)
          case atStart => exact ⟨0, by omega, rfl, ⟨hbl4, hk4, hkb⟩, fun q hq => absurd hq (by omega)⟩
          case round =>
            obtain ⟨f, hf, rfl, ⟨hbl5, hk5, hkb5⟩, hall2⟩ := hrel
            obtain ⟨e1, c1, f1⟩ := Blk.all hk5
            obtain ⟨e2, c2, f2⟩ := Blk.all hkb5
            by_cases hlf : f < 9
            · have hv := p9A_at (fun j => p (9 * i + j)) f hlf
              have hd := bdA_at' 9 f plBd hlf
              have hz2 := hkb5.lt
              go_wp2_with fail
              refine region_tail 4 (by kernel_rfl) (by kernel_rfl) ?_
              simp only [List.take_succ_cons, List.take_zero, List.drop_succ_cons, List.drop_zero]
              iterate 4 still_step
              refine wpStill_nil ?_
              go_wp2_with fail
              refine (bound_has _ _ _ _).mono ?_
              rintro e w6 ⟨rfl, hb6⟩
              have hsz5 := hbl5.size
              have hbl6 : Below w.heap.size w w6 := ((hbl5.alloc hbl5.size _).drew).trans (hb6.mono (by simp; omega))
              have hk6 : Blk w6 w.heap.size 44 (stA ⟨⟨a, n, c⟩, L, p, g⟩) := ((hk5.alloc _).drew).below hb6 (by simp; have := hk5.lt; omega)
              have hkb6 : Blk w6 wp.heap.size 40 (p9A fun j => p (9 * i + j)) := ((hkb5.alloc _).drew).below hb6 (by simp; have := hkb5.lt; omega)
              by_cases hh : hasB (plBd f) (p (9 * i + f)) = true
              · have hh' : hasB ((plBd f).1, (plBd f).2) (p (9 * i + f)) = true := hh
                go_wp2_with fail
                go_roundw
                case measure => simp [intOf]; omega
                case rel => exact ⟨f + 1, by omega, by go_num, ⟨hbl6, hk6, hkb6⟩, fun q hq => by
                  by_cases hqf : q = f
                  · subst hqf; exact hh
                  · exact hall2 q (by omega)⟩
              · have hh' : hasB ((plBd f).1, (plBd f).2) (p (9 * i + f)) = false := by simpa using hh
                go_wp2_with fail
                go_ret
                refine ⟨?_, hbl6⟩
                have h2 : plRange s.p = false := by
                  rw [plRange, List.all_eq_false]
                  refine ⟨i, by simpa using hli, ?_⟩
                  rw [← h.p]
                  simp only [Bool.not_eq_true, List.all_eq_false]
                  exact ⟨f, by simpa using hlf, by simpa using hh⟩
                have : stRanges s = false := by simp [stRanges, h2]
                rw [this]; rfl
            · go_wp2_with fail
              go_roundw
              case measure => simp [intOf]; omega
              case rel => exact ⟨i + 1, by omega, by go_num, ⟨hbl5, hk5⟩, fun j hj => by
                by_cases hji : j = i
                · subst hji
                  rw [List.all_eq_true]
                  exact fun q hq => hall2 q (by have := List.mem_range.1 hq; omega)
                · exact hall j (by omega)⟩
        · have hpl : plRange s.p = true := by
            rw [plRange, List.all_eq_true, ← h.p]
            exact fun j hj => hall j (by have := List.mem_range.1 hj; omega)
          have Hpl := hide hpl
          clear hpl hall
          obtain ⟨wp, rfl⟩ : ∃ wp, wp = wr := ⟨_, rfl⟩
          have hsz := hbl.size
          go_wp2_with fail
          refine (st_game _ (hG.below hbl h8) (by omega)).mono ?_
          rintro e w4 ⟨rfl, hb4⟩
          have hk4 := hk.below hb4 hk.lt
          have hbl4 : Below w.heap.size w w4 := hbl.trans (hb4.mono hbl.size)
          clear e1 c1 f1 hk hbl
          go_wp2_with fail
          go_loopw [57] (fun i' wr => ∃ f : Nat, f ≤ 7 ∧ i' = .int .i64 f ∧ (Below w.heap.size w wr ∧ Blk wr w.heap.size 44 (stA ⟨⟨a, n, c⟩, L, p, g⟩)) ∧ ∀ q, q < f → hasB (gmBd q) (g q) = true) (fun i' _ => 7 - (intOf i').toNat)
          case atStart => exact ⟨0, by omega, rfl, ⟨hbl4, hk4⟩, fun q hq => absurd hq (by omega)⟩
          case round =>
            obtain ⟨f, hf, rfl, ⟨hbl5, hk5⟩, hall2⟩ := hrel
            obtain ⟨e1, c1, f1⟩ := Blk.all hk5
            by_cases hlf : f < 7
            · have hv := stA_g ⟨⟨a, n, c⟩, L, p, g⟩ f hlf
              have hd := bdA_at' 7 f gmBd hlf
              have hz2 := hk5.lt
              go_wp2_with fail
              refine region_tail 5 (by kernel_rfl) (by kernel_rfl) ?_
              simp only [List.take_succ_cons, List.take_zero, List.drop_succ_cons, List.drop_zero]
              iterate 5 still_step
              refine wpStill_nil ?_
              go_wp2_with fail
              refine (bound_has _ _ _ _).mono ?_
              rintro e w6 ⟨rfl, hb6⟩
              have hsz5 := hbl5.size
              have hbl6 : Below w.heap.size w w6 := ((hbl5.alloc hbl5.size _).drew).trans (hb6.mono (by simp; omega))
              have hk6 : Blk w6 w.heap.size 44 (stA ⟨⟨a, n, c⟩, L, p, g⟩) := ((hk5.alloc _).drew).below hb6 (by simp; have := hk5.lt; omega)
              by_cases hh : hasB (gmBd f) (g f) = true
              · have hh' : hasB ((gmBd f).1, (gmBd f).2) (g f) = true := hh
                go_wp2_with fail
                go_roundw
                case measure => simp [intOf]; omega
                case rel => exact ⟨f + 1, by omega, by go_num, ⟨hbl6, hk6⟩, fun q hq => by
                  by_cases hqf : q = f
                  · subst hqf; exact hh
                  · exact hall2 q (by omega)⟩
              · have hh' : hasB ((gmBd f).1, (gmBd f).2) (g f) = false := by simpa using hh
                go_wp2_with fail
                go_ret
                refine ⟨?_, hbl6⟩
                have h2 : gmRange s.g = false := by
                  rw [gmRange, List.all_eq_false, ← h.g]
                  exact ⟨f, by simpa using hlf, by simpa using hh⟩
                have : stRanges s = false := by simp [stRanges, h2]
                rw [this]; rfl
            · have hgm : gmRange s.g = true := by
                rw [gmRange, List.all_eq_true, ← h.g]
                exact fun q hq => hall2 q (by have := List.mem_range.1 hq; omega)
              go_wp2_with fail
              go_ret
              refine ⟨?_, hbl5⟩
              have : stRanges s = true := by simp [stRanges, unhide Hobs, unhide Hpl, hgm]
              rw [this]; rfl
end Go.Proofs.YtpfnmnpdaacjmaaGreatDoor
