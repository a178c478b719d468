/-
  The emitter: its block, what it reads as, its frame; its small methods.
-/
import Derived.Test.YtpfnmnpdaacjmaaGreatDoorChk4
import Derived.Test.YtpfnmnpdaacjmaaGreatDoorEvt1
namespace Go.Proofs.YtpfnmnpdaacjmaaGreatDoor
open Go.RowKit

structure EM where
  S : SV
  dr : Sl
  ev : Sl
  pe : Sl
  er : Value
def emA (E : EM) : Array Value := #[E.S.o.v, (E.S.l 0).v, (E.S.l 1).v, (E.S.l 2).v, (E.S.l 3).v, (E.S.l 4).v, (E.S.l 5).v, (E.S.l 6).v, (E.S.l 7).v, (E.S.l 8).v, (E.S.l 9).v, (E.S.l 10).v, .int .i64 (E.S.p 0), .int .i64 (E.S.p 1), .int .i64 (E.S.p 2), .int .i64 (E.S.p 3), .int .i64 (E.S.p 4), .int .i64 (E.S.p 5), .int .i64 (E.S.p 6), .int .i64 (E.S.p 7), .int .i64 (E.S.p 8), .int .i64 (E.S.p 9), .int .i64 (E.S.p 10), .int .i64 (E.S.p 11), .int .i64 (E.S.p 12), .int .i64 (E.S.p 13), .int .i64 (E.S.p 14), .int .i64 (E.S.p 15), .int .i64 (E.S.p 16), .int .i64 (E.S.p 17), .int .i64 (E.S.g 0), .int .i64 (E.S.g 1), .int .i64 (E.S.g 2), .int .i64 (E.S.g 3), .int .i64 (E.S.g 4), .int .i64 (E.S.g 5), .int .i64 (E.S.g 6), E.dr.v, E.ev.v, E.pe.v, E.er]
theorem emA_size (E : EM) : (emA E).size = 41 := rfl
theorem emA_0 (E : EM) : (emA E)[0]? = some (E.S.o.v) := rfl
theorem emA_1 (E : EM) : (emA E)[1]? = some ((E.S.l 0).v) := rfl
theorem emA_2 (E : EM) : (emA E)[2]? = some ((E.S.l 1).v) := rfl
theorem emA_3 (E : EM) : (emA E)[3]? = some ((E.S.l 2).v) := rfl
theorem emA_4 (E : EM) : (emA E)[4]? = some ((E.S.l 3).v) := rfl
theorem emA_5 (E : EM) : (emA E)[5]? = some ((E.S.l 4).v) := rfl
theorem emA_6 (E : EM) : (emA E)[6]? = some ((E.S.l 5).v) := rfl
theorem emA_7 (E : EM) : (emA E)[7]? = some ((E.S.l 6).v) := rfl
theorem emA_8 (E : EM) : (emA E)[8]? = some ((E.S.l 7).v) := rfl
theorem emA_9 (E : EM) : (emA E)[9]? = some ((E.S.l 8).v) := rfl
theorem emA_10 (E : EM) : (emA E)[10]? = some ((E.S.l 9).v) := rfl
theorem emA_11 (E : EM) : (emA E)[11]? = some ((E.S.l 10).v) := rfl
theorem emA_12 (E : EM) : (emA E)[12]? = some (.int .i64 (E.S.p 0)) := rfl
theorem emA_13 (E : EM) : (emA E)[13]? = some (.int .i64 (E.S.p 1)) := rfl
theorem emA_14 (E : EM) : (emA E)[14]? = some (.int .i64 (E.S.p 2)) := rfl
theorem emA_15 (E : EM) : (emA E)[15]? = some (.int .i64 (E.S.p 3)) := rfl
theorem emA_16 (E : EM) : (emA E)[16]? = some (.int .i64 (E.S.p 4)) := rfl
theorem emA_17 (E : EM) : (emA E)[17]? = some (.int .i64 (E.S.p 5)) := rfl
theorem emA_18 (E : EM) : (emA E)[18]? = some (.int .i64 (E.S.p 6)) := rfl
theorem emA_19 (E : EM) : (emA E)[19]? = some (.int .i64 (E.S.p 7)) := rfl
theorem emA_20 (E : EM) : (emA E)[20]? = some (.int .i64 (E.S.p 8)) := rfl
theorem emA_21 (E : EM) : (emA E)[21]? = some (.int .i64 (E.S.p 9)) := rfl
theorem emA_22 (E : EM) : (emA E)[22]? = some (.int .i64 (E.S.p 10)) := rfl
theorem emA_23 (E : EM) : (emA E)[23]? = some (.int .i64 (E.S.p 11)) := rfl
theorem emA_24 (E : EM) : (emA E)[24]? = some (.int .i64 (E.S.p 12)) := rfl
theorem emA_25 (E : EM) : (emA E)[25]? = some (.int .i64 (E.S.p 13)) := rfl
theorem emA_26 (E : EM) : (emA E)[26]? = some (.int .i64 (E.S.p 14)) := rfl
theorem emA_27 (E : EM) : (emA E)[27]? = some (.int .i64 (E.S.p 15)) := rfl
theorem emA_28 (E : EM) : (emA E)[28]? = some (.int .i64 (E.S.p 16)) := rfl
theorem emA_29 (E : EM) : (emA E)[29]? = some (.int .i64 (E.S.p 17)) := rfl
theorem emA_30 (E : EM) : (emA E)[30]? = some (.int .i64 (E.S.g 0)) := rfl
theorem emA_31 (E : EM) : (emA E)[31]? = some (.int .i64 (E.S.g 1)) := rfl
theorem emA_32 (E : EM) : (emA E)[32]? = some (.int .i64 (E.S.g 2)) := rfl
theorem emA_33 (E : EM) : (emA E)[33]? = some (.int .i64 (E.S.g 3)) := rfl
theorem emA_34 (E : EM) : (emA E)[34]? = some (.int .i64 (E.S.g 4)) := rfl
theorem emA_35 (E : EM) : (emA E)[35]? = some (.int .i64 (E.S.g 5)) := rfl
theorem emA_36 (E : EM) : (emA E)[36]? = some (.int .i64 (E.S.g 6)) := rfl
theorem emA_37 (E : EM) : (emA E)[37]? = some (E.dr.v) := rfl
theorem emA_38 (E : EM) : (emA E)[38]? = some (E.ev.v) := rfl
theorem emA_39 (E : EM) : (emA E)[39]? = some (E.pe.v) := rfl
theorem emA_40 (E : EM) : (emA E)[40]? = some (E.er) := rfl
theorem emA_l (E : EM) (z : Nat) (h : z < 11) : (emA E)[1 + z]? = some (E.S.l z).v := by
  rcases (by omega : z = 0 ∨ z = 1 ∨ z = 2 ∨ z = 3 ∨ z = 4 ∨ z = 5 ∨ z = 6 ∨ z = 7 ∨ z = 8 ∨ z = 9 ∨ z = 10) with rfl | rfl | rfl | rfl | rfl | rfl | rfl | rfl | rfl | rfl | rfl <;> rfl
theorem emA_p (E : EM) (z : Nat) (h : z < 18) : (emA E)[12 + z]? = some (.int .i64 (E.S.p z)) := by
  rcases (by omega : z = 0 ∨ z = 1 ∨ z = 2 ∨ z = 3 ∨ z = 4 ∨ z = 5 ∨ z = 6 ∨ z = 7 ∨ z = 8 ∨ z = 9 ∨ z = 10 ∨ z = 11 ∨ z = 12 ∨ z = 13 ∨ z = 14 ∨ z = 15 ∨ z = 16 ∨ z = 17) with rfl | rfl | rfl | rfl | rfl | rfl | rfl | rfl | rfl | rfl | rfl | rfl | rfl | rfl | rfl | rfl | rfl | rfl <;> rfl
theorem emA_g (E : EM) (z : Nat) (h : z < 7) : (emA E)[30 + z]? = some (.int .i64 (E.S.g z)) := by
  rcases (by omega : z = 0 ∨ z = 1 ∨ z = 2 ∨ z = 3 ∨ z = 4 ∨ z = 5 ∨ z = 6) with rfl | rfl | rfl | rfl | rfl | rfl | rfl <;> rfl
theorem emA_setP (E : EM) (z : Nat) (h : z < 18) (x : Int) : (emA E).setIfInBounds (12 + z) (.int .i64 x) = emA { E with S := { E.S with p := upd E.S.p z x } } := by
  rcases (by omega : z = 0 ∨ z = 1 ∨ z = 2 ∨ z = 3 ∨ z = 4 ∨ z = 5 ∨ z = 6 ∨ z = 7 ∨ z = 8 ∨ z = 9 ∨ z = 10 ∨ z = 11 ∨ z = 12 ∨ z = 13 ∨ z = 14 ∨ z = 15 ∨ z = 16 ∨ z = 17) with rfl | rfl | rfl | rfl | rfl | rfl | rfl | rfl | rfl | rfl | rfl | rfl | rfl | rfl | rfl | rfl | rfl | rfl <;> rfl
theorem emA_setG (E : EM) (z : Nat) (h : z < 7) (x : Int) : (emA E).setIfInBounds (30 + z) (.int .i64 x) = emA { E with S := { E.S with g := upd E.S.g z x } } := by
  rcases (by omega : z = 0 ∨ z = 1 ∨ z = 2 ∨ z = 3 ∨ z = 4 ∨ z = 5 ∨ z = 6) with rfl | rfl | rfl | rfl | rfl | rfl | rfl <;> rfl
theorem emA_setL (E : EM) (z : Nat) (h : z < 11) (x : Sl) : (emA E).setIfInBounds (1 + z) x.v = emA { E with S := { E.S with l := upd E.S.l z x } } := by
  rcases (by omega : z = 0 ∨ z = 1 ∨ z = 2 ∨ z = 3 ∨ z = 4 ∨ z = 5 ∨ z = 6 ∨ z = 7 ∨ z = 8 ∨ z = 9 ∨ z = 10) with rfl | rfl | rfl | rfl | rfl | rfl | rfl | rfl | rfl | rfl | rfl <;> rfl
theorem emA_setO (E : EM) (x : Sl) : (emA E).setIfInBounds 0 x.v = emA { E with S := { E.S with o := x } } := rfl
theorem emA_setEv (E : EM) (x : Sl) : (emA E).setIfInBounds 38 x.v = emA { E with ev := x } := rfl
theorem emA_setPe (E : EM) (x : Sl) : (emA E).setIfInBounds 39 x.v = emA { E with pe := x } := rfl
theorem emA_setEr (E : EM) (x : Value) : (emA E).setIfInBounds 40 x = emA { E with er := x } := rfl
theorem emA_toList (E : EM) : (emA E).toList = (stA E.S).toList ++ [E.dr.v, E.ev.v, E.pe.v, E.er] := rfl
theorem emA_st (E : EM) : (emA E).extract 0 37 = stA E.S := extr _ [] (stA E.S).toList [E.dr.v, E.ev.v, E.pe.v, E.er] (by rw [emA_toList]; rfl) _ _ rfl rfl
attribute [go_sem] emA_size emA_st emA_0 emA_1 emA_2 emA_3 emA_4 emA_5 emA_6 emA_7 emA_8 emA_9 emA_10 emA_11 emA_12 emA_13 emA_14 emA_15 emA_16 emA_17 emA_18 emA_19 emA_20 emA_21 emA_22 emA_23 emA_24 emA_25 emA_26 emA_27 emA_28 emA_29 emA_30 emA_31 emA_32 emA_33 emA_34 emA_35 emA_36 emA_37 emA_38 emA_39 emA_40

/-! What an emitter reads as. -/
structure Pe where
  id : Int
  ab : Int
  co : Int
structure EA where
  s : St
  dr : List Int
  ev : List Ev
  pe : List Pe
  er : Int
def evV (x : Ev) : List Value := (evA x).toList
def evsV (l : List Ev) : List Value := l.flatMap evV
def peV (x : Pe) : List Value := [.int .i64 x.id, .int .i64 x.ab, .int .i64 x.co]
def pesV (l : List Pe) : List Value := l.flatMap peV
def emT (T : TypeId) : Bool := T == 126 || T == 89 || T == 213
structure EFr (B : Nat) (w w' : World) : Prop where
  os : w'.os = w.os
  tape : w'.tape = w.tape
  output : w'.output = w.output
  size : w.heap.size ≤ w'.heap.size
  keep : ∀ k, k < w.heap.size → (k < B ∨ ∃ cs T fr, w.heap[k]? = some (.cells cs T fr) ∧ emT T = false) → w'.heap[k]? = w.heap[k]?
theorem immT_emT {T : TypeId} (h : immT T = true) : emT T = false := by
  unfold immT at h
  simp only [Bool.or_eq_true, beq_iff_eq] at h
  rcases h with rfl | rfl <;> rfl
section
variable {B : Nat} {w w' w'' : World}
theorem EFr.fr (h : EFr B w w') : Fr B w w' := ⟨h.os, h.tape, h.output, h.size, fun k hk hs => h.keep k hk (by
  rcases hs with hs | ⟨cs, T, fr, hb, hT⟩
  · exact .inl hs
  · exact .inr ⟨cs, T, fr, hb, immT_emT hT⟩)⟩
theorem EFr.refl (B : Nat) (w : World) : EFr B w w := ⟨rfl, rfl, rfl, Nat.le_refl _, fun _ _ _ => rfl⟩
theorem EFr.trans (h : EFr B w w') (k : EFr B w' w'') : EFr B w w'' :=
  ⟨k.os.trans h.os, k.tape.trans h.tape, k.output.trans h.output, Nat.le_trans h.size k.size, fun i hi hs => (k.keep i (Nat.lt_of_lt_of_le hi h.size) (by
    rcases hs with hs | ⟨cs, T, fr, hb, hT⟩
    · exact .inl hs
    · exact .inr ⟨cs, T, fr, (h.keep i hi (.inr ⟨cs, T, fr, hb, hT⟩)).trans hb, hT⟩)).trans (h.keep i hi hs)⟩
theorem EFr.of_below (h : Below w.heap.size w w') : EFr B w w' := ⟨h.os, h.tape, h.output, h.size, fun k hk _ => h.block k hk⟩
theorem EFr.blk {k : Nat} {t : TypeId} {cs : Array Value} (h : EFr B w w') (hb : Blk w k t cs) (hT : emT t = false) : Blk w' k t cs := (h.keep k hb.lt (.inr ⟨cs, t, (0, 0), hb, hT⟩)).trans hb
theorem EFr.glob (h : EFr B w w') (hG : Glob w) (h8 : 8 ≤ B) (hB : B ≤ w.heap.size) : Glob w' := hG.fr h.fr h8 hB
theorem EFr.below (h : EFr w.heap.size w w') : Below w.heap.size w w' := ⟨h.os, h.tape, h.output, h.size, fun k hk => h.keep k hk (.inl hk)⟩
theorem EFr.drewN (h : EFr B w w') (n : Nat) : EFr B w (w'.drewN n) := ⟨h.os, h.tape, h.output, h.size, h.keep⟩
theorem EFr.drew (h : EFr B w w') : EFr B w w'.drew := ⟨h.os, h.tape, h.output, h.size, h.keep⟩
theorem EFr.alloc (h : EFr B w w') (o : Obj) : EFr B w (w'.alloc o) := h.trans (.of_below ((Below.refl _ _).alloc (Nat.le_refl _) _))
theorem EFr.of_only {b : Nat} {t : TypeId} {cs : Array Value} (h : Only b w w') (hb : Blk w b t cs) (hT : emT t = true) (hB : B ≤ b) : EFr B w w' :=
  ⟨h.os, h.tape, h.output, h.size, fun k hk hs => h.block k hk (by
    rintro ⟨rfl⟩
    rcases hs with hs | ⟨cs', T, fr, hb', hT'⟩
    · omega
    · unfold Blk at hb
      rw [hb] at hb'
      injection hb' with hb'
      injection hb' with _ ht
      subst ht
      rw [hT] at hT'
      cases hT')⟩
end

structure Em (B : Nat) (w : World) (b : Nat) (M : EM) (E : EA) : Prop where
  blk : Blk w b 126 (emA M)
  lo : 8 ≤ B
  hi : B ≤ b
  gl : Glob w
  st : RdS B w M.S E.s
  few : Few E.s
  dr : RdI B w M.dr E.dr
  dn : E.dr.length ≤ 4194304
  ev : w.ownsRow B 89 6 M.ev.v E.ev.length (evsV E.ev)
  en : E.ev.length ≤ 65536
  pe : w.ownsRow B 213 3 M.pe.v E.pe.length (pesV E.pe)
  pn : E.pe.length ≤ 16777216
  er : M.er = errV E.er
theorem Em.B {B : Nat} {w : World} {b : Nat} {M : EM} {E : EA} (h : Em B w b M E) : B ≤ w.heap.size := Nat.le_of_lt (Nat.lt_of_le_of_lt h.hi h.blk.lt)
theorem own_below {B : Nat} {w w' : World} {e : TypeId} {size n : Nat} {v : Value} {xs : List Value} (h : w.ownsRow B e size v n xs) (hb : Below w.heap.size w w') : w'.ownsRow B e size v n xs := by
  refine h.kept (row := none) ⟨hb.os, hb.tape, hb.output, hb.size, fun k hk _ => hb.block k hk⟩ ?_
  cases hv : v.ownBlock <;> simp
/-- A row is kept while one block of another element type is written. -/
theorem own_only {B b : Nat} {w w' : World} {e t : TypeId} {size n : Nat} {v : Value} {xs : List Value} {cs : Array Value} (h : w.ownsRow B e size v n xs) (ho : Only b w w') (hb : Blk w b t cs) (hne : e ≠ t) : w'.ownsRow B e size v n xs := by
  refine h.kept ho ?_
  rcases h.2 with ⟨rfl, _⟩ | ⟨g, cap, cur, rfl, _, hh, _⟩
  · exact .inl rfl
  · refine .inr ?_
    intro he
    have : g = b := by simpa [Value.ownBlock] using he
    subst this
    unfold Blk at hb
    rw [hh] at hb
    injection hb with hb
    injection hb with _ ht
    exact hne ht
theorem Em.below {B : Nat} {w w' : World} {b : Nat} {M : EM} {E : EA} (h : Em B w b M E) (hb : Below w.heap.size w w') : Em B w' b M E :=
  ⟨h.blk.below hb h.blk.lt, h.lo, h.hi, hG_below h.gl hb (Nat.le_trans h.lo h.B), h.st.fr (.of_below hb), h.few, h.dr.fr (.of_below hb), h.dn, own_below h.ev hb, h.en, own_below h.pe hb, h.pn, h.er⟩
where hG_below {w w' : World} (hG : Glob w) (hb : Below w.heap.size w w') (h8 : 8 ≤ w.heap.size) : Glob w' := hG.below hb h8
end Go.Proofs.YtpfnmnpdaacjmaaGreatDoor
