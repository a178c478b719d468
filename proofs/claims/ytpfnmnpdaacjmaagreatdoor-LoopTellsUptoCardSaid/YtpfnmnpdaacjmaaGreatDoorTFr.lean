/-
  Frames by types: blocks of other types are kept.
-/
import Derived.Test.YtpfnmnpdaacjmaaGreatDoorJour1
namespace Go.Proofs.YtpfnmnpdaacjmaaGreatDoor
open Go.RowKit

/-! Frames by types: blocks of other types are kept. -/
structure TFr (ts : TypeId → Bool) (w w' : World) : Prop where
  os : w'.os = w.os
  tape : w'.tape = w.tape
  output : w'.output = w.output
  size : w.heap.size ≤ w'.heap.size
  keep : ∀ (k : Nat) (cs : Array Value) (T : TypeId) (fr : Nat × Nat), w.heap[k]? = some (.cells cs T fr) → ts T = false → w'.heap[k]? = w.heap[k]?
section
variable {ts : TypeId → Bool} {w w' w'' : World}
theorem TFr.refl (ts : TypeId → Bool) (w : World) : TFr ts w w := ⟨rfl, rfl, rfl, Nat.le_refl _, fun _ _ _ _ _ _ => rfl⟩
theorem TFr.trans (h : TFr ts w w') (k : TFr ts w' w'') : TFr ts w w'' :=
  ⟨k.os.trans h.os, k.tape.trans h.tape, k.output.trans h.output, Nat.le_trans h.size k.size, fun i cs T fr hi hT => (k.keep i cs T fr ((h.keep i cs T fr hi hT).trans hi) hT).trans (h.keep i cs T fr hi hT)⟩
theorem TFr.of_below (h : Below w.heap.size w w') : TFr ts w w' := ⟨h.os, h.tape, h.output, h.size, fun k _ _ _ hk _ => h.block k (lt_of_blk hk)⟩
theorem TFr.drew (h : TFr ts w w') : TFr ts w w'.drew := ⟨h.os, h.tape, h.output, h.size, h.keep⟩
theorem TFr.of_only {j : Nat} {t : TypeId} {cs : Array Value} (h : Only j w w') (hb : Blk w j t cs) (ht : ts t = true) : TFr ts w w' :=
  ⟨h.os, h.tape, h.output, h.size, fun k cs' T fr hk hT => h.block k (lt_of_blk hk) (by
    rintro ⟨rfl⟩
    unfold Blk at hb
    rw [hb] at hk
    injection hk with hk
    injection hk with _ e
    subst e
    rw [ht] at hT
    cases hT)⟩
theorem TFr.blk {g : Nat} {t : TypeId} {cs : Array Value} (h : TFr ts w w') (hb : Blk w g t cs) (ht : ts t = false) : Blk w' g t cs := (h.keep g cs t (0, 0) hb ht).trans hb
theorem TFr.own {B : Nat} {e : TypeId} {size n : Nat} {v : Value} {xs : List Value} (h : TFr ts w w') (ho : w.ownsRow B e size v n xs) (ht : ts e = false) : w'.ownsRow B e size v n xs := by
  refine ⟨ho.1, ?_⟩
  rcases ho.2 with hn | ⟨g, cap, cur, hv, hg, hh, hr⟩
  · exact .inl hn
  · exact .inr ⟨g, cap, cur, hv, hg, (h.keep g _ _ _ hh ht).trans hh, hr⟩
theorem TFr.fr0 (h : TFr ts w w') (hi : ∀ T, immT T = true → ts T = false) : Fr 0 w w' :=
  ⟨h.os, h.tape, h.output, h.size, fun k _ hs => by
    rcases hs with hs | ⟨cs, T, fr, hb, hT⟩
    · omega
    · exact h.keep k cs T fr hb (hi T hT)⟩
theorem Appended.tfr {B : Nat} {e : TypeId} {size : Nat} {v : Value} {n n0 : Nat} {xs zs : List Value} {v' : Value} (h : Appended w B e size v n zs v' w') (ho : w.ownsRow B e size v n0 xs) (ht : ts e = true) : TFr ts w w' :=
  ⟨h.2.1.os, h.2.1.tape, h.2.1.output, h.2.1.size, fun k cs' T fr hk hT => h.2.1.block k (lt_of_blk hk) (by
    intro he
    obtain ⟨_, cs, hb⟩ := own_at ho he
    unfold Blk at hb
    rw [hb] at hk
    injection hk with hk
    injection hk with _ e
    subst e
    rw [ht] at hT
    cases hT)⟩
end
end Go.Proofs.YtpfnmnpdaacjmaaGreatDoor
