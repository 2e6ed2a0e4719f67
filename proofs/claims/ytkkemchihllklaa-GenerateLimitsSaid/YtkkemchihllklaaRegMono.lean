/- A law for a region that draws its order, makes memory and calls, but stores nothing: what holds of each slot stays. -/
import Derived.Test.YtkkemchihllklaaRegInv
namespace Go.Proofs.Ytkkemchihllklaa
open Go Go.RowKit

section
variable {P : Program} {ops : Array Oper} {Q : Exit → Act → World → Prop}
/-- What holds of the slots of the operations that have been carried out. -/
structure MonoI (R : Nat → Value → World → Prop) (n : Nat) (w0 : World) (l : Array Bool) (us : List Value) (W : World) : Prop where
  len : us.length = n
  bel : Below w0.heap.size w0 W
  has : ∀ j, j < n → l.getD j false = true → R j (us.getD j undef) W
theorem MonoI.step {R : Nat → Value → World → Prop} {n k : Nat} {w0 : World} {l : Array Bool} {us : List Value} {W W' : World} (hmono : ∀ j v W W', Below W.heap.size W W' → R j v W → R j v W')
    (hl : ∀ j, j < n → (l.setIfInBounds k true).getD j false = (j == k || l.getD j false)) (h : MonoI R n w0 l us W) (hb : Below W.heap.size W W') {v : Value} (hv : R k v W') : MonoI R n w0 (l.setIfInBounds k true) (us.set k v) W' := by
  refine ⟨by rw [List.length_set]; exact h.len, h.bel.trans (hb.mono h.bel.size), fun j hj hs => ?_⟩
  by_cases e : k = j
  · subst e
    rw [List.getD_eq_getElem?_getD, List.getElem?_set_self (by rw [h.len]; exact hj)]
    exact hv
  · rw [List.getD_eq_getElem?_getD, List.getElem?_set_ne e, ← List.getD_eq_getElem?_getD]
    have h1 : (j == k) = false := by simp; omega
    rw [hl j hj, h1, Bool.false_or] at hs
    exact hmono j _ W W' hb (h.has j hj hs)
theorem wp_region_mono {id : Nat} {a : Act} {w : World} (R : Nat → Value → World → Prop) (ds : List Nat) (_hmono : ∀ j v W W', Below W.heap.size W W' → R j v W → R j v W') (hn : ds.length = ops.size) (hm : P.follows .mixedOrders = true) (hB : afterB ops = true)
    (hs : Steps P ops Q .any (MonoI R ops.size w.drew) a ds 0)
    (hend : ∀ us W, us.length = ops.size → Below w.drew.heap.size w.drew W → (∀ j, j < ops.size → R j (us.getD j undef) W) → Q .normal (puts a ds us) W) : (Code.region id ops true).wp P Q a w := by
  refine wp_region_inv (MonoI R ops.size w.drew) ds hm hB ⟨by simp [hn], Below.refl _ _, fun j hj h => ?_⟩ hs (fun l us W h hall => hend us W h.len h.bel (fun j hj => h.has j hj (hall j hj)))
  rw [Array.getD_eq_getD_getElem?, Array.getElem?_replicate] at h
  split at h <;> cases h
end
end Go.Proofs.Ytkkemchihllklaa
