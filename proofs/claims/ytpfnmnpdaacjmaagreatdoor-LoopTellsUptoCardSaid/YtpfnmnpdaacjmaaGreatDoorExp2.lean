/-
  loop.Expand: the first decisions of an expansion.
-/
import Derived.Test.YtpfnmnpdaacjmaaGreatDoorExp1
namespace Go.Proofs.YtpfnmnpdaacjmaaGreatDoor
open Go.RowKit

/-- Copies of the decisions of a turn, one behind the other. -/
def ExpOf (w : World) (ts : List De) (cs : Nat → List Int) (ds : List De) : Prop :=
  ∀ k, (hk : k < ds.length) → ∃ (h : k % ts.length < ts.length) (l' : Sl), ds[k] = { ts[k % ts.length] with l := l' } ∧ RdI 0 w l' (cs (k % ts.length))
theorem ExpOf.below {w w' : World} {ts : List De} {cs : Nat → List Int} {ds : List De} (h : ExpOf w ts cs ds) (hb : Below w.heap.size w w') : ExpOf w' ts cs ds := fun k hk => by
  obtain ⟨h1, l', h2, h3⟩ := h k hk
  exact ⟨h1, l', h2, Rd.fr h3 (.of_below hb)⟩
theorem ExpOf.fr {w w' : World} {ts : List De} {cs : Nat → List Int} {ds : List De} (h : ExpOf w ts cs ds) (hb : Fr 0 w w') : ExpOf w' ts cs ds := fun k hk => by
  obtain ⟨h1, l', h2, h3⟩ := h k hk
  exact ⟨h1, l', h2, Rd.fr h3 hb⟩
/-- A turn as it lies, its decisions' lists as they read. -/
structure Turn (w : World) (s : Sl) (ts : List De) (cs : Nat → List Int) : Prop where
  rd : RdD w s ts
  li : ∀ i, (hi : i < ts.length) → RdI w.heap.size w ts[i].l (cs i) ∧ (cs i).length ≤ 17179869184
theorem Turn.below {w w' : World} {s : Sl} {ts : List De} {cs : Nat → List Int} (h : Turn w s ts cs) (hb : Below w.heap.size w w') : Turn w' s ts cs :=
  ⟨h.rd.below hb, fun i hi => ⟨((h.li i hi).1.fr (.of_below hb)).mono hb.size, (h.li i hi).2⟩⟩
structure ExpW (w : World) (ts : List De) (cs : Nat → List Int) (j : Nat) (so : Sl) (wr : World) : Prop where
  ex : ∃ ds : List De, ds.length = j ∧ wr.ownsRow w.heap.size 36 5 so.v j (desV ds) ∧ ExpOf wr ts cs ds
  bl : Below w.heap.size w wr
def expLen (n : Nat) (m stop most : Int) : Int := min (loopLen n m stop) (max most 0)
set_option maxRecDepth 100000 in
set_option maxHeartbeats 1000000 in
theorem loop_expand {w : World} {s : Sl} {ts : List De} {cs : Nat → List Int} (h : Turn w s ts cs) (m stop most : Int) (hmost : most ≤ 1048576) :
    Calls Tryz.prog 6 #[s.v, .int .i64 m, .int .i64 stop, .int .i64 most] w fun e w' => ∃ (so : Sl) (ds : List De), e = .returned so.v ∧ (ds.length : Int) = expLen ts.length m stop most ∧
      w'.ownsRow w.heap.size 36 5 so.v ds.length (desV ds) ∧ ExpOf w' ts cs ds ∧ Below w.heap.size w w' := by
  have hsn := h.rd.len
  obtain ⟨sa, sn, sc⟩ := s
  simp only at hsn
  subst hsn
  have Hh := hide h
  clear h
  obtain ⟨N, hN⟩ := Int.eq_ofNat_of_zero_le (a := expLen ts.length m stop most) (by unfold expLen; have := loopLen_lo ts.length m stop; omega)
  have hN2 : N ≤ 1048576 := by unfold expLen at hN; omega
  have hn0 : 0 < N → 0 < ts.length := fun hp => by
    rcases Nat.eq_zero_or_pos ts.length with h0 | h0
    · rw [h0] at hN
      have : loopLen 0 m stop = 0 := by rw [loopLen, if_pos (.inl (by simp [loopErr]))]
      rw [expLen, this] at hN
      omega
    · exact h0
  show Calls _ _ #[.slice sa ts.length sc, _, _, _] _ _
  rw [hN]
  have HN := hide hN
  clear hN
  go_enter Tryz.func6, Tryz.ntmps6
  go_upto_region 2 with fail
  go_cut [17, 18] (fun v i wx => v = .int .i64 N ∧ i = .int .i64 0 ∧ wx = w)
  case first =>
    go_wp2_with fail
    refine (loop_length _ _ _ _ _ _).mono ?_
    rintro e w' ⟨rfl, rfl⟩
    go_wp2_with fail
    all_goals
      go_meet
      exact ⟨congrArg (Value.int .i64) (by have hh := unhide HN; unfold expLen at hh; omega), rfl, rfl⟩
  case rest =>
    obtain ⟨rfl, rfl, rfl⟩ := hcut
    go_wp2_with fail
    go_loopw [9, 18] (fun x i wr => ∃ (j : Nat) (so : Sl), j ≤ N ∧ i = .int .i64 j ∧ x = so.v ∧ ExpW wc ts cs j so wr) (fun _ i _ => N - (intOf i).toNat)
    case atStart => exact ⟨0, ⟨none, 0, 0⟩, by omega, rfl, rfl, ⟨⟨[], rfl, World.ownsRow_nil _ _ _ _, fun k hk => absurd hk (by simp)⟩, Below.refl _ _⟩⟩
    case round =>
      obtain ⟨j, so, hj, rfl, rfl, ⟨⟨ds, hdj, hso, hex⟩, hbl⟩⟩ := hrel
      obtain ⟨wo, rfl⟩ : ∃ wo, wo = wr := ⟨_, rfl⟩
      by_cases hjn : j = N
      · subst hjn
        go_wp2_with fail
        go_ret
        exact ⟨so, ds, rfl, by rw [hdj], by rw [hdj]; exact hso, hex, hbl⟩
      · have hjl : j < N := by omega
        have hjI : (j : Int) < (N : Int) := by omega
        have hn1 := hn0 (by omega)
        have hT := (unhide Hh).below hbl
        obtain ⟨g, off, rfl, hg, C, T, fr, hC, hCs, hrow⟩ := RdD.open_ hT.rd hn1
        have hk := Nat.mod_lt j hn1
        have hrow' := hrow (j % ts.length) hk
        have hli := hT.li (j % ts.length) hk
        have hnb : off + j % ts.length * 5 + 5 ≤ C.size := by have : (j % ts.length + 1) * 5 ≤ ts.length * 5 := Nat.mul_le_mul_right 5 (by omega); omega
        obtain ⟨y, hy⟩ : ∃ y, y = ts[j % ts.length] := ⟨_, rfl⟩
        rw [← hy] at hrow' hli
        clear hrow
        have Hy := hide hy
        clear hy
        go_wp2_with fail
        refine (dec_copy y hli.1 hli.2).mono ?_
        rintro e w2 ⟨l2, rfl, hl2, hb2⟩
        have hso2 := own_below hso hb2
        have hq2 := hbl.trans (hb2.mono hbl.size)
        have hex2 := hex.below hb2
        have hb3 := below1 w2 (.cells (deA { y with l := l2 }) 36)
        have hso3 := own_below hso2 hb3
        have hq3 := hq2.trans (hb3.mono hq2.size)
        have hx3 := Blk.new w2 36 (deA { y with l := l2 })
        rw [← hdj] at hso3
        go_wp2_with (at_builtin
                     refine wpList_appD rfl (.tmp 21) (.tmp 30) rfl wc.heap.size so.v ds { y with l := l2 } (by simp [Act.eval]) hso3 w2.heap.size (by simp [Act.eval]) hx3 (by omega) hq3.size ?_
                     intro v5 w5 hap5
                     obtain ⟨s5, rfl, -⟩ := sl_of_own hap5.1)
        have hq5 := hq3.trans (hap5.below hso3 hq3.size)
        go_roundw
        case measure => simp [intOf]; omega
        case rel =>
          refine ⟨j + 1, s5, by omega, by go_num, rfl, ⟨⟨ds ++ [{ y with l := l2 }], by simp [hdj], ?_, ?_⟩, hq5⟩⟩
          · rw [desV_snoc]
            have hh := hap5.1
            rw [hdj] at hh
            exact hh
          · have hF : Fr 0 w2 w5 := (Fr.of_below hb3).trans ((hap5.tfr (ts := fun T => T == 36) hso3 rfl).fr0 (fun T hT => by
              simp only [immT, Bool.or_eq_true, beq_iff_eq] at hT
              rcases hT with rfl | rfl <;> rfl))
            intro k hk2
            by_cases hkj : k < ds.length
            · obtain ⟨h1, l', h2, h3⟩ := (hex2.fr hF) k hkj
              exact ⟨h1, l', by rw [List.getElem_append_left hkj]; exact h2, h3⟩
            · have hkj2 : k = j := by simp at hk2; omega
              subst hkj2
              refine ⟨hk, l2, ?_, Rd.fr hl2 hF⟩
              rw [List.getElem_append_right (by omega)]
              simp [unhide Hy, hdj]
end Go.Proofs.YtpfnmnpdaacjmaaGreatDoor
