/-
  Decisions in rows; decide.Copy.
-/
import Derived.Test.YtpfnmnpdaacjmaaGreatDoorLen
namespace Go.Proofs.YtpfnmnpdaacjmaaGreatDoor
open Go.RowKit

/-! Rows of a struct type, as they read. -/
theorem rows_at {α : Type} (f : α → Array Value) (sz : Nat) (hf : ∀ x, (f x).size = sz) : ∀ (l : List α) (i k : Nat) (hi : i < l.length), k < sz → (l.flatMap fun x => (f x).toList)[i * sz + k]? = (f l[i])[k]?
  | x :: l, 0, k, _, hk => by
    simp only [List.flatMap_cons, List.getElem_cons_zero]
    rw [List.getElem?_append_left (by simp [hf]; omega)]
    simp
  | x :: l, i + 1, k, hi, hk => by
    have ih := rows_at f sz hf l i k (by simpa using hi) hk
    simp only [List.flatMap_cons, List.getElem_cons_succ] at ih ⊢
    have e : (i + 1) * sz = i * sz + sz := Nat.succ_mul i sz
    rw [List.getElem?_append_right (by simp [hf]; omega), ← ih]
    congr 1
    simp [hf]; omega
theorem rows_len {α : Type} (f : α → Array Value) (sz : Nat) (hf : ∀ x, (f x).size = sz) : ∀ l : List α, (l.flatMap fun x => (f x).toList).length = l.length * sz
  | [] => by simp
  | x :: l => by simp [rows_len f sz hf l, hf, Nat.succ_mul]; omega
theorem open_rows {α : Type} (f : α → Array Value) (sz : Nat) (hf : ∀ x, (f x).size = sz) (h0 : 0 < sz) {B : Nat} {w : World} {a : Option Addr} {n c : Nat} {l : List α} (h : Rd B w sz ⟨a, n, c⟩ (l.flatMap fun x => (f x).toList)) (hn : 0 < n) :
    ∃ b off, a = some ⟨b, off, none⟩ ∧ b < w.heap.size ∧ ∃ C T fr, w.blk b = some (.cells C T fr) ∧ off + n * sz ≤ C.size ∧ ∀ i, (hi : i < l.length) → C.extract (off + i * sz) (off + i * sz + sz) = f l[i] := by
  have hl : n = l.length := by
    have h1 := h.1
    rw [rows_len f sz hf] at h1
    exact (Nat.eq_of_mul_eq_mul_right h0 h1).symm
  obtain ⟨b, off, ha, hlt, hs, hc⟩ := Rd.at_ h hn
  simp only at ha
  have hcell : ∀ i k, (hi : i < l.length) → k < sz → ∃ u, (f l[i])[k]? = some u ∧ w.cell? ⟨b, off + i * sz + k, none⟩ = some u := fun i k hi hk => by
    rw [Nat.add_assoc]
    have hk' : k < (f l[i]).size := by rw [hf]; exact hk
    refine ⟨(f l[i])[k], by simp [hk'], hc _ _ ?_⟩
    rw [rows_at f sz hf l i k hi hk]
    simp [hk']
  obtain ⟨u0, _, hu0⟩ := hcell 0 0 (by omega) h0
  unfold World.cell? at hu0
  split at hu0
  · rename_i C T fr hb
    have hC : ∀ i k, (hi : i < l.length) → k < sz → C[off + i * sz + k]? = (f l[i])[k]? := fun i k hi hk => by
      obtain ⟨u, hu, hcu⟩ := hcell i k hi hk
      rw [hu]
      simpa [World.cell?, hb] using hcu
    have hsz : off + n * sz ≤ C.size := by
      have h1 := hC (n - 1) (sz - 1) (by omega) (by omega)
      have h2 : (f (l[n - 1]'(by omega)))[sz - 1]? ≠ none := by
        rw [ne_eq, Array.getElem?_eq_none_iff, hf]; omega
      rw [← h1, ne_eq, Array.getElem?_eq_none_iff] at h2
      have h3 : n * sz = (n - 1) * sz + sz := by rw [← Nat.succ_mul]; congr 1; omega
      omega
    refine ⟨b, off, ha, hlt, C, T, fr, hb, hsz, fun i hi => ?_⟩
    apply Array.ext_getElem?
    intro k
    by_cases hk : k < sz
    · have h3 : (i + 1) * sz ≤ n * sz := Nat.mul_le_mul_right sz (by omega)
      rw [Nat.succ_mul] at h3
      rw [← hC i k hi hk, Array.getElem?_extract, if_pos (by omega)]
    · have h1 : (C.extract (off + i * sz) (off + i * sz + sz))[k]? = none := by
        rw [Array.getElem?_eq_none]; simp; omega
      have h2 : (f l[i])[k]? = none := Array.getElem?_eq_none (by rw [hf]; omega)
      rw [h1, h2]
  · cases hu0
def deV (d : De) : List Value := (deA d).toList
def desV (l : List De) : List Value := l.flatMap deV
theorem desV_len (l : List De) : (desV l).length = l.length * 5 := rows_len deA 5 (fun _ => rfl) l
theorem de_one (d : De) : ∀ u ∈ deV d, u.oneCell' = true := by
  intro u hu
  simp only [deV, deA, List.mem_cons, List.not_mem_nil, or_false] at hu
  rcases hu with rfl | rfl | rfl | rfl | rfl <;> rfl
theorem desV_snoc (l : List De) (d : De) : desV (l ++ [d]) = desV l ++ deV d := by simp [desV]
/-- A list of decisions, as it lies in whatever row. -/
def RdD (w : World) (s : Sl) (l : List De) : Prop := Rd w.heap.size w 5 s (desV l)
theorem RdD.len {w : World} {s : Sl} {l : List De} (h : RdD w s l) : s.n = l.length := by have := h.1; rw [desV_len] at this; omega
theorem RdD.below {w w' : World} {s : Sl} {l : List De} (h : RdD w s l) (hb : Below w.heap.size w w') : RdD w' s l := (Rd.fr h (.of_below hb)).mono hb.size
theorem RdD.own {w : World} {B : Nat} {s : Sl} {l : List De} (h : w.ownsRow B 36 5 s.v l.length (desV l)) : RdD w s l := by
  have hr := own_reads h (own_n h)
  have hn := own_n h
  refine ⟨by rw [hr.1], ?_, fun h0 => ?_⟩
  · rcases h.2 with ⟨hv, _⟩ | ⟨g, cap, cur, hv, _, _, hle, _⟩
    · obtain ⟨a, n, c⟩ := s; simp only [Sl.v, Value.slice.injEq] at hv; show n ≤ c; omega
    · obtain ⟨a, n, c⟩ := s; simp only [Sl.v, Value.slice.injEq] at hv; show n ≤ c; omega
  · obtain ⟨ad, ha, hlt, hc⟩ := hr.2 h0
    rcases h.2 with ⟨hv, _⟩ | ⟨g, cap, cur, hv, hb, hh, hle, _⟩
    · obtain ⟨a, n, c⟩ := s; simp only [Sl.v, Value.slice.injEq] at hv; simp only at ha; rw [ha] at hv; cases hv.1
    · have : s.a = some ⟨g, 0, none⟩ := by obtain ⟨a, n, c⟩ := s; simp only [Sl.v, Value.slice.injEq] at hv; exact hv.1
      rw [this] at ha
      cases ha
      exact ⟨g, 0, this, hlt, .inl hlt, fun j u hu => by have := hc j u hu; rwa [Addr.add_mid] at this⟩
theorem RdD.open_ {w : World} {a : Option Addr} {n c : Nat} {l : List De} (h : RdD w ⟨a, n, c⟩ l) (hn : 0 < n) :
    ∃ b off, a = some ⟨b, off, none⟩ ∧ b < w.heap.size ∧ ∃ C T fr, w.blk b = some (.cells C T fr) ∧ off + n * 5 ≤ C.size ∧ ∀ i, (hi : i < l.length) → C.extract (off + i * 5) (off + i * 5 + 5) = deA l[i] :=
  open_rows deA 5 (fun _ => rfl) (by decide) h hn
theorem infoD : (Tryz.prog.info? 36).map (fun i => (i.zero, i.size, i.bytes)) = some (some (.agg #[.int .i64 0, .int .i64 0, .int .i64 0, .int .i64 0, .slice none 0 0]), 5, 56) := by kernel_rfl
theorem zero_de : (Tryz.prog.info? 36).map (fun i => (i.zero, i.size)) = some (some (.agg (deA ⟨0, 0, 0, 0, ⟨none, 0, 0⟩⟩)), 5) := by kernel_rfl
theorem exec_alloc_de (ρ : Operand → Value) (dst : Option Tmp) (t : TypeId) (p : String) (af : Array Edge) (g : Option (Nat × Bool)) (W : World) :
    (execOp ρ ⟨dst, .alloc 36, t, p, af, g⟩).run Tryz.prog W = .ok (.value (.pointer (some ⟨W.heap.size, 0, none⟩))) (W.alloc (.cells (deA ⟨0, 0, 0, 0, ⟨none, 0, 0⟩⟩) 36)) :=
  exec_alloc_row zero_de ρ dst t p af g W
theorem exec_store_de (ρ : Operand → Value) (dst : Option Tmp) (a x : Operand) (t : TypeId) (p : String) (af : Array Edge) (g : Option (Nat × Bool)) (W : World) :
    (execOp ρ ⟨dst, .store 36 a x, t, p, af, g⟩).run Tryz.prog W = stOr (ρ a) (ρ x) 5 W (exec0 Tryz.prog ρ ⟨dst, .store 36 a x, t, p, af, g⟩ W) :=
  exec_store_row (by kernel_rfl) ρ dst a x t p af g W
attribute [go_sem ↓] exec_alloc_de exec_store_de
theorem deA_one (d : De) : oneA (deA d) := oneA_lit _ rfl
theorem splA_de (x y : De) : splA (deA x) 0 (deA y) = deA y := splA_all _ _ rfl
theorem deA_set4 (d : De) (s : Sl) : (deA d).setIfInBounds 4 s.v = deA { d with l := s } := rfl
theorem deA_z : #[Value.int .i64 0, Value.int .i64 0, Value.int .i64 0, Value.int .i64 0, Value.slice none 0 0] = deA ⟨0, 0, 0, 0, ⟨none, 0, 0⟩⟩ := rfl
attribute [go_sem] deA_one splA_de deA_z
/-! A row of one decision. -/
def sl1dOr (v : Value) (W : World) (e : Result Next) : Result Next :=
  match v with
  | .agg vs => if vs.size = 5 then .ok (.value (.slice (some ⟨W.heap.size, 0, none⟩) 1 1)) (W.alloc (.cells vs 36)) else e
  | _ => e
theorem five {cs : Array Value} (h : cs.size = 5) : ∃ a b c d e, cs = #[a, b, c, d, e] := by
  obtain ⟨l⟩ := cs
  match l, h with
  | [a, b, c, d, e], _ => exact ⟨a, b, c, d, e, rfl⟩
theorem fill_five {cs vs : Array Value} (hc : cs.size = 5) (hv : vs.size = 5) : Instr.fill (fun i => some (i * 5, 5)) cs [(0, .agg vs)] = some vs := by
  obtain ⟨a, b, c, d, e, rfl⟩ := five hc
  obtain ⟨a', b', c', d', e', rfl⟩ := five hv
  simp [Instr.fill, Value.cells]
theorem exec_sl1_de (ρ : Operand → Value) (dst : Option Tmp) (x : Operand) (t : TypeId) (p : String) (af : Array Edge) (g : Option (Nat × Bool)) (W : World) :
    (execOp ρ ⟨dst, .buildSlice 22 1 #[(0, x)], t, p, af, g⟩).run Tryz.prog W = sl1dOr (ρ x) W (exec0 Tryz.prog ρ ⟨dst, .buildSlice 22 1 #[(0, x)], t, p, af, g⟩ W) := by
  unfold sl1dOr exec0
  split
  · rename_i vs hx
    split
    · rename_i hs
      have hz := zero_de
      cases hq : Tryz.prog.info? 36 with
      | none => simp [hq] at hz
      | some i =>
        simp only [hq, Option.map_some, Option.some.injEq, Prod.mk.injEq] at hz
        have hf := fun cs (h : cs.size = 5) => fill_five (cs := cs) h hs
        simp [execOp, Instr.buildSlice, zeroValue, newRow, sizeOf, typeInfo, Sem.run_bind, run_underlying Tryz.underlying22, hq, hz.1, hz.2, hx, hf]
    · rfl
  · rfl
theorem sl1dOr_mk (vs : Array Value) (W : World) (e : Result Next) : sl1dOr (.agg vs) W e = if vs.size = 5 then .ok (.value (.slice (some ⟨W.heap.size, 0, none⟩) 1 1)) (W.alloc (.cells vs 36)) else e := rfl
attribute [go_sem ↓] exec_sl1_de
attribute [go_sem] sl1dOr_mk
theorem wpList_appD {w : World} {ops : Array Oper} {rest : List Oper} {o : Oper} {a : Act} {Q : Exit → Act → World → Prop} (hgd : o.guard = none) (s x : Operand)
    (ho : o.op = .call { callee := .builtin .append, args := #[s, x], argTypes := #[22, 22] })
    (B : Nat) (v : Value) (l : List De) (y : De) (hs : a.eval s = v) (hown : w.ownsRow B 36 5 v l.length (desV l)) (g : Nat) (hx : a.eval x = .slice (some ⟨g, 0, none⟩) 1 1) (hg : Blk w g 36 (deA y))
    (hl : l.length ≤ 1048576) (hB : B ≤ w.heap.size)
    (h : ∀ v' w', Appended w B 36 5 v (l.length + 1) (desV l ++ deV y) v' w' → wpList Tryz.prog ops Q rest (a.put o.dst v') w') : wpList Tryz.prog ops Q (o :: rest) a w := by
  obtain ⟨i0, hi0, hz0, hz1, hz2⟩ := info_parts infoD
  exact wpList_append_any w hgd s x _ ho B 36 i0 _ 5 56 Tryz.underlying22 hi0 hz0 hz1 hz2 rfl (by omega) v l.length (desV l) hs hown (g + 1) _ 1 1 (deV y) hx
    ⟨rfl, fun _ => ⟨_, rfl, by simp, fun j u hu => by
      have h1 := (Blk.all hg).2.1 j
      rw [Addr.add_mid, Nat.zero_add, h1]
      simpa [deV] using hu⟩⟩ (de_one y) (by simp [maxLen]; omega) (by omega) hB h
set_option maxHeartbeats 400000 in
theorem dec_copy {B : Nat} {w : World} (d : De) {L : List Int} (hL : RdI B w d.l L) (hn : L.length ≤ 17179869184) :
    Calls Tryz.prog 15 #[.agg (deA d)] w fun e w' => ∃ l' : Sl, e = .returned (.agg (deA { d with l := l' })) ∧ RdI 0 w' l' L ∧ Below w.heap.size w w' := by
  have hlen := hL.len
  have Hlen := hide hlen
  clear hlen
  have hb0 := below2 w (.cells (deA d) 36) (.cells (deA ⟨0, 0, 0, 0, ⟨none, 0, 0⟩⟩) 36)
  have hx0 : Blk ((w.alloc (.cells (deA d) 36)).alloc (.cells (deA ⟨0, 0, 0, 0, ⟨none, 0, 0⟩⟩) 36)) w.heap.size 36 (deA d) := (Blk.new w _ _).alloc _
  have hr0 : Blk ((w.alloc (.cells (deA d) 36)).alloc (.cells (deA ⟨0, 0, 0, 0, ⟨none, 0, 0⟩⟩) 36)) (w.heap.size + 1) 36 (deA ⟨0, 0, 0, 0, ⟨none, 0, 0⟩⟩) := by
    have := Blk.new (w.alloc (.cells (deA d) 36)) 36 (deA ⟨0, 0, 0, 0, ⟨none, 0, 0⟩⟩)
    simpa using this
  go_enter Tryz.func15, Tryz.ntmps15
  go_wp2_with fail
  refine (cloneI (hL.fr (.of_below hb0)).reads (ints_one _) (by have := unhide Hlen; omega)).mono ?_
  rintro e w1 ⟨l1, rfl, ho1, hn1, hb1⟩
  have Hn1 := hide hn1
  clear hn1
  have hx1 := hx0.below hb1 hx0.lt
  have hr1 := hr0.below hb1 hr0.lt
  have hx2 := hx1.set_ 4 l1.v
  rw [deA_set4] at hx2
  have hr2 : Blk (w1.setCell ⟨w.heap.size, 4, none⟩ l1.v) (w.heap.size + 1) 36 (deA ⟨0, 0, 0, 0, ⟨none, 0, 0⟩⟩) := hr1.far (p := ⟨w.heap.size, 4, none⟩) (by simp) _
  obtain ⟨e1, c1, f1⟩ := Blk.all hx1
  obtain ⟨e2, c2, f2⟩ := Blk.all hx2
  obtain ⟨e3, c3, f3⟩ := Blk.all hr2
  have hq1 := hb0.trans (hb1.mono hb0.size)
  go_wp2_with fail
  refine ret_cell rfl rfl (setRow_heap _ _ _ _ _ _ hr2) Tryz.underlying36 rfl (by kernel_rfl) rfl ⟨l1, rfl, ?_, ?_⟩
  · have hF : Fr 0 w1 (w1.setCell ⟨w.heap.size, 4, none⟩ l1.v) := (Fr.refl _ _).setMut (p := ⟨w.heap.size, 4, none⟩) hx1 rfl (Nat.zero_le _) _
    exact (Rd.fr (own_rd ho1 (unhide Hn1) rfl) hF).fr (Fr.setRowMut (.refl _ _) hr2 rfl (Nat.zero_le _) _)
  · exact below_setRow (hq1.setCell (p := ⟨w.heap.size, 4, none⟩) (Nat.le_refl _) _) (by omega) _
end Go.Proofs.YtpfnmnpdaacjmaaGreatDoor
