/-
  Words for memory: frames that keep all blocks but those of a few struct types; slices that read as lists; append onto a row of one's own.
-/
import Derived.Test.YtpfnmnpdaacjmaaGreatDoorProg
import Derived.WalkKit
import Derived.WalkSpells
import Derived.WalkLawsBesides
import Derived.Lib.Hide
import Derived.Maps.AppendAt
import Derived.Deep.AppendLies
import Derived.Deep.Draws
import Derived.Deep.MidRow
import Derived.Deep.QuietTactic
import Derived.BigQuiet
import Derived.StillTailTactics
import Derived.Deep.DeepCutAuto
import Derived.BigRegion
import Derived.Deep.RegionLaw
import Derived.Deep.RegionHeld3
import Derived.Deep.DeepFit
namespace Go.Proofs.YtpfnmnpdaacjmaaGreatDoor
open Go.RowKit

/-- The types of elements of slices that nobody writes once they are made. -/
def immT (T : TypeId) : Bool := T == 3 || T == 74

def Safe (B : Nat) (w : World) (k : Nat) : Prop := k < B ∨ ∃ cs T fr, w.heap[k]? = some (.cells cs T fr) ∧ immT T = true

structure Fr (B : Nat) (w w' : World) : Prop where
  os : w'.os = w.os
  tape : w'.tape = w.tape
  output : w'.output = w.output
  size : w.heap.size ≤ w'.heap.size
  keep : ∀ k, k < w.heap.size → Safe B w k → w'.heap[k]? = w.heap[k]?

/-- The block of a number, behind a name: simp turns 'heap[b]?' into other forms. -/
def _root_.Go.World.blk (w : World) (b : Nat) : Option Obj := w.heap[b]?
def Blk (w : World) (g : Nat) (t : TypeId) (cs : Array Value) : Prop := w.heap[g]? = some (.cells cs t (0, 0))

theorem lt_of_blk {w : World} {g : Nat} {o : Obj} (h : w.heap[g]? = some o) : g < w.heap.size := by
  rcases Nat.lt_or_ge g w.heap.size with hlt | hge
  · exact hlt
  · rw [Array.getElem?_eq_none hge] at h; cases h

section
variable {w w' w'' : World} {B B' g : Nat} {t : TypeId} {cs : Array Value}
theorem Blk.lt (h : Blk w g t cs) : g < w.heap.size := lt_of_blk h
theorem Blk.cell (h : Blk w g t cs) (i : Nat) : w.cell? ⟨g, i, none⟩ = cs[i]? := cell_of_row w g i cs t (0, 0) h
theorem Blk.frozen (h : Blk w g t cs) (i : Nat) : w.frozen? ⟨g, i, none⟩ = false := by
  unfold Blk at h
  simp [World.frozen?, h]
theorem Blk.all (h : Blk w g t cs) : w.blk g = some (.cells cs t (0, 0)) ∧ (∀ i, w.cell? ⟨g, i, none⟩ = cs[i]?) ∧ ∀ i, w.frozen? ⟨g, i, none⟩ = false := ⟨h, h.cell, h.frozen⟩
theorem Blk.new (w : World) (t : TypeId) (cs : Array Value) : Blk (w.alloc (.cells cs t)) w.heap.size t cs := heap_alloc_new w _
theorem Blk.drew (h : Blk w g t cs) : Blk w.drew g t cs := h
theorem Blk.drewN (h : Blk w g t cs) (n : Nat) : Blk (w.drewN n) g t cs := h
theorem Blk.alloc (h : Blk w g t cs) (o : Obj) : Blk (w.alloc o) g t cs := (Below.heap_alloc w o g h.lt).trans h
theorem Blk.set_ (h : Blk w g t cs) (i : Nat) (u : Value) : Blk (w.setCell ⟨g, i, none⟩ u) g t (cs.setIfInBounds i u) := by
  unfold Blk at h ⊢
  simp [World.setCell, Array.getElem?_modify, h]
theorem Blk.far (h : Blk w g t cs) {p : Addr} (hp : g ≠ p.block) (u : Value) : Blk (w.setCell p u) g t cs := (Below.heap_setCell w p u g hp).trans h
theorem Blk.below (h : Blk w g t cs) (hb : Below B w w') (hg : g < B) : Blk w' g t cs := (hb.block g hg).trans h
theorem Blk.safe (h : Blk w g t cs) (hT : immT t = true) (B : Nat) : Safe B w g := .inr ⟨cs, t, (0, 0), h, hT⟩
theorem Blk.fr (h : Blk w g t cs) (hf : Fr B w w') (hT : immT t = true) : Blk w' g t cs := (hf.keep g h.lt (h.safe hT B)).trans h
theorem Blk.ne_ {g' : Nat} {t' : TypeId} {cs' : Array Value} (h : Blk w g t cs) (h' : Blk w g' t' cs') (hne : t ≠ t') : g ≠ g' := by
  rintro rfl
  unfold Blk at h h'
  rw [h] at h'
  injection h' with h'
  injection h' with _ ht
  exact hne ht
theorem Blk.range (h : Blk w g t cs) (o n : Nat) : w.rangeAt g o ((cs.extract o (o + n)).toList) := by
  intro j v hj
  rw [h.cell]
  simp only [Array.getElem?_toList, Array.getElem?_extract] at hj
  split at hj
  · exact hj
  · cases hj

theorem Safe.mono {k : Nat} (h : Safe B w k) (hB : B ≤ B') : Safe B' w k := by
  rcases h with h | h
  · exact .inl (by omega)
  · exact .inr h
theorem Safe.fr {k : Nat} (h : Safe B w k) (hk : k < w.heap.size) (hf : Fr B w w') : Safe B w' k := by
  rcases h with h' | ⟨cs, T, fr, hb, hT⟩
  · exact .inl h'
  · exact .inr ⟨cs, T, fr, (hf.keep k hk (.inr ⟨cs, T, fr, hb, hT⟩)).trans hb, hT⟩

theorem Fr.refl (B : Nat) (w : World) : Fr B w w := ⟨rfl, rfl, rfl, Nat.le_refl _, fun _ _ _ => rfl⟩
theorem Fr.trans (h : Fr B w w') (k : Fr B w' w'') : Fr B w w'' :=
  ⟨k.os.trans h.os, k.tape.trans h.tape, k.output.trans h.output, Nat.le_trans h.size k.size,
    fun i hi hs => (k.keep i (Nat.lt_of_lt_of_le hi h.size) (hs.fr hi h)).trans (h.keep i hi hs)⟩
theorem Fr.of_below (h : Below w.heap.size w w') : Fr B w w' := ⟨h.os, h.tape, h.output, h.size, fun k hk _ => h.block k hk⟩
theorem Fr.below (h : Fr w.heap.size w w') : Below w.heap.size w w' := ⟨h.os, h.tape, h.output, h.size, fun k hk => h.keep k hk (.inl hk)⟩
theorem Fr.mono (h : Fr B' w w') (hB : B ≤ B') : Fr B w w' := ⟨h.os, h.tape, h.output, h.size, fun k hk hs => h.keep k hk (hs.mono hB)⟩
theorem Fr.drew (h : Fr B w w') : Fr B w w'.drew := ⟨h.os, h.tape, h.output, h.size, h.keep⟩
theorem Fr.drewN (h : Fr B w w') (n : Nat) : Fr B w (w'.drewN n) := ⟨h.os, h.tape, h.output, h.size, h.keep⟩
theorem Fr.alloc (h : Fr B w w') (o : Obj) : Fr B w (w'.alloc o) := h.trans (.of_below ((Below.refl _ _).alloc (Nat.le_refl _) o))
/-- A store into a block that is new since w, or one that may be written. -/
theorem Fr.setCell (h : Fr B w w') {p : Addr} (hp : w.heap.size ≤ p.block) (u : Value) : Fr B w (w'.setCell p u) :=
  ⟨h.os, h.tape, h.output, by simpa using h.size, fun k hk hs => (Below.heap_setCell w' p u k (by omega)).trans (h.keep k hk hs)⟩
theorem Fr.setMut (h : Fr B w w') {p : Addr} (hb : Blk w p.block t cs) (hT : immT t = false) (hB : B ≤ p.block) (u : Value) : Fr B w (w'.setCell p u) :=
  ⟨h.os, h.tape, h.output, by simpa using h.size, fun k hk hs => (Below.heap_setCell w' p u k (by
    rintro rfl
    rcases hs with hs | ⟨cs', T, fr, hb', hT'⟩
    · omega
    · unfold Blk at hb
      rw [hb] at hb'
      injection hb' with hb'
      injection hb' with _ ht
      subst ht
      rw [hT] at hT'
      cases hT')).trans (h.keep k hk hs)⟩
theorem Below.fr_trans (h : Below w.heap.size w w') (k : Below w'.heap.size w' w'') : Below w.heap.size w w'' := h.trans (k.mono h.size)
end

/-- A slice's value. -/
structure Sl where
  a : Option Addr
  n : Nat
  c : Nat
abbrev Sl.v (s : Sl) : Value := .slice s.a s.n s.c
@[go_sem] theorem Sl.v_mk (a : Option Addr) (n c : Nat) : Sl.v ⟨a, n, c⟩ = .slice a n c := rfl

/-- A slice reads as a list of cells, at blocks that stay. -/
structure Rd (B : Nat) (w : World) (size : Nat) (s : Sl) (xs : List Value) : Prop where
  len : xs.length = s.n * size
  cap : s.n ≤ s.c
  at_ : 0 < s.n → ∃ b off, s.a = some ⟨b, off, none⟩ ∧ b < w.heap.size ∧ Safe B w b ∧ ∀ j u, xs[j]? = some u → w.cell? ⟨b, off + j, none⟩ = some u

section
variable {w w' : World} {B B' size : Nat} {s : Sl} {xs : List Value}
theorem Rd.fr (h : Rd B w size s xs) (hf : Fr B w w') : Rd B w' size s xs :=
  ⟨h.len, h.cap, fun hn => by
    obtain ⟨b, off, ha, hlt, hs, hc⟩ := h.at_ hn
    exact ⟨b, off, ha, Nat.lt_of_lt_of_le hlt hf.size, hs.fr hlt hf, fun j u hu => (World.cell?_of_block (hf.keep b hlt hs)).trans (hc j u hu)⟩⟩
theorem Rd.below (h : Rd B w size s xs) (hb : Below w.heap.size w w') : Rd B w' size s xs := h.fr (.of_below hb)
theorem Rd.mono (h : Rd B w size s xs) (hB : B ≤ B') : Rd B' w size s xs :=
  ⟨h.len, h.cap, fun hn => by
    obtain ⟨b, off, ha, hlt, hs, hc⟩ := h.at_ hn
    exact ⟨b, off, ha, hlt, hs.mono hB, hc⟩⟩
theorem Rd.nil (B : Nat) (w : World) (size : Nat) : Rd B w size ⟨none, 0, 0⟩ [] := ⟨by simp, Nat.le_refl _, fun h => absurd h (by simp)⟩
theorem Rd.drewN (h : Rd B w size s xs) (n : Nat) : Rd B (w.drewN n) size s xs := h.fr ((Fr.refl _ _).drewN n)
theorem Rd.drew (h : Rd B w size s xs) : Rd B w.drew size s xs := h.fr (Fr.refl _ _).drew
theorem Rd.alloc (h : Rd B w size s xs) (o : Obj) : Rd B (w.alloc o) size s xs := h.fr ((Fr.refl _ _).alloc o)
theorem Rd.of_own {base : Nat} {e : TypeId} {A : Option Addr} {n c : Nat} (h : w.ownsRow base e size (.slice A n c) n xs) (hT : immT e = true) : Rd B w size ⟨A, n, c⟩ xs := by
  have hcap : n ≤ c := by
    rcases h.2 with ⟨hv, hn⟩ | ⟨g, cap, cur, hv, _, _, hnc, _⟩
    · omega
    · injection hv with _ _ hc; omega
  refine ⟨h.1, hcap, fun hn => ?_⟩
  obtain ⟨g, cap, hv, _, hlt⟩ := h.form hn
  have hA : A = some ⟨g, 0, none⟩ := by injection hv
  subst hA
  refine ⟨g, 0, rfl, hlt, ?_, fun j u hu => ?_⟩
  · rcases h.2 with ⟨hv, _⟩ | ⟨g', cap', cur, hv, _, hh, _⟩
    · cases hv
    · injection hv with hv
      injection hv with hv
      injection hv with hv
      subst hv
      exact .inr ⟨cur, e, (0, 0), hh, hT⟩
  · have := h.cells (g := g) rfl j u hu
    rwa [Addr.add_mid] at this
end

/-- A slice of ints. -/
def RdI (B : Nat) (w : World) (s : Sl) (l : List Int) : Prop := Rd B w 1 s (l.map (Value.int .i64))
theorem RdI.len {B : Nat} {w : World} {s : Sl} {l : List Int} (h : RdI B w s l) : s.n = l.length := by have := h.1; simp at this; omega
theorem RdI.fr {B : Nat} {w w' : World} {s : Sl} {l : List Int} (h : RdI B w s l) (hf : Fr B w w') : RdI B w' s l := Rd.fr h hf
theorem RdI.cell {B : Nat} {w : World} {s : Sl} {l : List Int} (h : RdI B w s l) (hn : 0 < l.length) :
    ∃ b off, s.a = some ⟨b, off, none⟩ ∧ b < w.heap.size ∧ Safe B w b ∧ ∀ j, (hj : j < l.length) → w.cell? ⟨b, off + j, none⟩ = some (.int .i64 l[j]) := by
  obtain ⟨b, off, ha, hlt, hs, hc⟩ := h.at_ (by rw [h.len]; exact hn)
  exact ⟨b, off, ha, hlt, hs, fun j hj => hc j _ (by simp [hj])⟩

/-! append onto a row of one's own, the source nil, empty or not -/
def Reads (w : World) (B size : Nat) (A : Option Addr) (n : Nat) (xs : List Value) : Prop :=
  xs.length = n * size ∧ (0 < n → ∃ ad, A = some ad ∧ ad.block < B ∧ ∀ j u, xs[j]? = some u → w.cell? (ad.add j) = some u)
theorem Rd.reads {B : Nat} {w : World} {size : Nat} {s : Sl} {xs : List Value} (h : Rd B w size s xs) : Reads w w.heap.size size s.a s.n xs :=
  ⟨h.len, fun hn => by
    obtain ⟨b, off, ha, hlt, _, hc⟩ := h.at_ hn
    exact ⟨_, ha, hlt, fun j u hu => by rw [Addr.add_mid]; exact hc j u hu⟩⟩
section
variable {P : Program} (w : World)
theorem run_append_of_nil (base : Nat) (t ty e : TypeId) (i : TypeInfo) (size : Nat) (ht : P.underlying t = some (.slice e)) (hi : P.info? e = some i)
    (v : Value) (n : Nat) (xs : List Value) (hown : w.ownsRow base e size v n xs) (c : Nat) : (Builtin.append_ #[t, t] ty #[v, .slice none 0 c]).run P w = .ok v w := by
  rcases hown.2 with ⟨rfl, rfl⟩ | ⟨g, cap, cur, rfl, _, _, hnc, _⟩
  · simp [Builtin.append_, run_underlying ht, sizeOf, typeInfo, hi, Builtin.lenOf, Builtin.firstCells]
  · simp [Builtin.append_, run_underlying ht, sizeOf, typeInfo, hi, Builtin.lenOf, Builtin.firstCells, hnc, storeCells]

theorem run_append_any (base : Nat) (t ty e : TypeId) (i : TypeInfo) (z : Value) (size bytes : Nat) (ht : P.underlying t = some (.slice e)) (hi : P.info? e = some i) (hz : i.zero = some z)
    (hsize : i.size = size) (hby : i.bytes = bytes) (hzs : z.cells.size = size) (hsz : 0 < size)
    (v : Value) (n : Nat) (xs : List Value) (hown : w.ownsRow base e size v n xs)
    (B : Nat) (A : Option Addr) (m c : Nat) (news : List Value) (hr : Reads w B size A m news) (h1 : ∀ u ∈ news, u.oneCell' = true)
    (h63 : n + m ≤ maxLen) (hbytes : (n + m) * bytes ≤ 140737488355328) (hbase : base ≤ w.heap.size) :
    ∃ v' w', (Builtin.append_ #[t, t] ty #[v, .slice A m c]).run P w = .ok v' w' ∧ w'.ownsRow base e size v' (n + m) (xs ++ news) ∧ w.grownBy w' v.ownBlock ∧
      (v'.ownBlock = v.ownBlock ∨ v'.ownBlock = some w.heap.size) := by
  rcases A with _ | ad
  · have hm : m = 0 := by
      rcases Nat.eq_zero_or_pos m with h0 | h0
      · exact h0
      · obtain ⟨ad, h, _⟩ := hr.2 h0
        cases h
    subst hm
    have hn : news = [] := List.eq_nil_of_length_eq_zero (by simpa using hr.1)
    subst hn
    exact ⟨v, w, run_append_of_nil w base t ty e i size ht hi v n xs hown c, by simpa using hown, World.grownBy.refl w _, .inl rfl⟩
  · have hcells : ∀ j u, news[j]? = some u → w.cell? (ad.add j) = some u := by
      intro j u hu
      rcases Nat.eq_zero_or_pos m with h0 | h0
      · subst h0
        have hn : news = [] := List.eq_nil_of_length_eq_zero (by simpa using hr.1)
        subst hn
        simp at hu
      · obtain ⟨ad', h, _, hc⟩ := hr.2 h0
        injection h with h
        subst h
        exact hc j u hu
    obtain ⟨v', w', hrun, h2, h3, _, h5⟩ := run_append_own_at (P := P) w base t ty e i z size bytes ht hi hz hsize hby hzs hsz v n xs hown ad m c news hr.1 hcells h1 h63 hbytes hbase
    exact ⟨v', w', hrun, h2, h3, h5⟩
end
/-- What append leaves. -/
def Appended (w : World) (base : Nat) (e : TypeId) (size : Nat) (v : Value) (n : Nat) (zs : List Value) (v' : Value) (w' : World) : Prop :=
  w'.ownsRow base e size v' n zs ∧ w.grownBy w' v.ownBlock ∧ (v'.ownBlock = v.ownBlock ∨ v'.ownBlock = some w.heap.size)
section
variable {P : Program} (w : World)
theorem wp_append_any {o : Oper} {a : Act} {K : Act → World → Prop} {Q : Exit → Act → World → Prop} (s x : Operand) (t : TypeId)
    (ho : o.op = .call { callee := .builtin .append, args := #[s, x], argTypes := #[t, t] })
    (base : Nat) (e : TypeId) (i : TypeInfo) (z : Value) (size bytes : Nat) (ht : P.underlying t = some (.slice e)) (hi : P.info? e = some i) (hz : i.zero = some z)
    (hsize : i.size = size) (hby : i.bytes = bytes) (hzs : z.cells.size = size) (hsz : 0 < size)
    (v : Value) (n : Nat) (xs : List Value) (hs : a.eval s = v) (hown : w.ownsRow base e size v n xs)
    (B : Nat) (A : Option Addr) (m c : Nat) (news : List Value) (hx : a.eval x = .slice A m c) (hr : Reads w B size A m news) (h1 : ∀ u ∈ news, u.oneCell' = true)
    (h63 : n + m ≤ maxLen) (hbytes : (n + m) * bytes ≤ 140737488355328) (hbase : base ≤ w.heap.size)
    (h : ∀ v' w', Appended w base e size v (n + m) (xs ++ news) v' w' → K (a.put o.dst v') w') : o.wp P a w K Q := by
  obtain ⟨v', w', hrun, h2, h3, h4⟩ := run_append_any (P := P) w base t o.type e i z size bytes ht hi hz hsize hby hzs hsz v n xs hown B A m c news hr h1 h63 hbytes hbase
  unfold Oper.wp execOp
  simp only [ho, resolve, invoke, builtin, Sem.run_bind, Sem.run_pure, Result.andThen_ok, List.map_toArray, List.map_cons, List.map_nil, hs, hx, hrun]
  exact h v' w' ⟨h2, h3, h4⟩
theorem wpList_append_any {ops : Array Oper} {rest : List Oper} {o : Oper} {a : Act} {Q : Exit → Act → World → Prop} (hgd : o.guard = none) (s x : Operand) (t : TypeId)
    (ho : o.op = .call { callee := .builtin .append, args := #[s, x], argTypes := #[t, t] })
    (base : Nat) (e : TypeId) (i : TypeInfo) (z : Value) (size bytes : Nat) (ht : P.underlying t = some (.slice e)) (hi : P.info? e = some i) (hz : i.zero = some z)
    (hsize : i.size = size) (hby : i.bytes = bytes) (hzs : z.cells.size = size) (hsz : 0 < size)
    (v : Value) (n : Nat) (xs : List Value) (hs : a.eval s = v) (hown : w.ownsRow base e size v n xs)
    (B : Nat) (A : Option Addr) (m c : Nat) (news : List Value) (hx : a.eval x = .slice A m c) (hr : Reads w B size A m news) (h1 : ∀ u ∈ news, u.oneCell' = true)
    (h63 : n + m ≤ maxLen) (hbytes : (n + m) * bytes ≤ 140737488355328) (hbase : base ≤ w.heap.size)
    (h : ∀ v' w', Appended w base e size v (n + m) (xs ++ news) v' w' → wpList P ops Q rest (a.put o.dst v') w') : wpList P ops Q (o :: rest) a w :=
  wpList_plain hgd fun _ hK => wp_append_any w s x t ho base e i z size bytes ht hi hz hsize hby hzs hsz v n xs hs hown B A m c news hx hr h1 h63 hbytes hbase fun v' w' h2 => hK _ _ (h v' w' h2)
end
theorem step_append_any {P : Program} {w : World} {ops : Array Oper} {o : Oper} {a : Act} {K : Act → World → Prop} {Q : Exit → Act → World → Prop} {E : Prop} (hgd : o.guard = none) (s x : Operand) (t : TypeId)
    (ho : o.op = .call { callee := .builtin .append, args := #[s, x], argTypes := #[t, t] })
    (base : Nat) (e : TypeId) (i : TypeInfo) (z : Value) (size bytes : Nat) (ht : P.underlying t = some (.slice e)) (hi : P.info? e = some i) (hz : i.zero = some z)
    (hsize : i.size = size) (hby : i.bytes = bytes) (hzs : z.cells.size = size) (hsz : 0 < size)
    (v : Value) (n : Nat) (xs : List Value) (hs : a.eval s = v) (hown : w.ownsRow base e size v n xs)
    (B : Nat) (A : Option Addr) (m c : Nat) (news : List Value) (hx : a.eval x = .slice A m c) (hr : Reads w B size A m news) (h1 : ∀ u ∈ news, u.oneCell' = true)
    (h63 : n + m ≤ maxLen) (hbytes : (n + m) * bytes ≤ 140737488355328) (hbase : base ≤ w.heap.size)
    (h : ∀ v' w', Appended w base e size v (n + m) (xs ++ news) v' w' → K (a.put o.dst v') w') :
    if Region.wanted o (yielded ops a.tmps) = true then Oper.wp P o a w K Q else E := by
  have hw : Region.wanted o (yielded ops a.tmps) = true := by simp [Region.wanted, hgd]
  rw [if_pos hw]
  exact wp_append_any w s x t ho base e i z size bytes ht hi hz hsize hby hzs hsz v n xs hs hown B A m c news hx hr h1 h63 hbytes hbase h
theorem Appended.fr {B : Nat} {w w0 : World} {base : Nat} {e : TypeId} {size : Nat} {v : Value} {n : Nat} {zs : List Value} {v' : Value} {w' : World} (h : Appended w base e size v n zs v' w')
    (h0 : Fr B w0 w) (hv : ∀ k, v.ownBlock = some k → w0.heap.size ≤ k) : Fr B w0 w' :=
  ⟨h.2.1.os.trans h0.os, h.2.1.tape.trans h0.tape, h.2.1.output.trans h0.output, Nat.le_trans h0.size h.2.1.size, fun k hk hs =>
    (h.2.1.block k (Nat.lt_of_lt_of_le hk h0.size) (fun he => by have := hv k he.symm; omega)).trans (h0.keep k hk hs)⟩

theorem region_tail {P : Program} {id : Nat} {Q : Exit → Act → World → Prop} {a : Act} {w : World} {l : List Oper} (n : Nat) (hm : P.follows .mixedOrders = true) (hB : Region.lexTailB .any l.toArray n = true)
    (h : wpStill P l.toArray w.drew (fun a' => wpList P l.toArray Q (l.drop n) a' w.drew) (l.take n) a) : (Code.region id l.toArray true).wp P Q a w := wp_region_still_tail n hm hB h
theorem hide {p : Prop} (h : p) : Hid p := h
theorem unhide {p : Prop} (h : Hid p) : p := h
end Go.Proofs.YtpfnmnpdaacjmaaGreatDoor
