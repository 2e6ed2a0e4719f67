/- The laws for a region that draws, where an operation may wait for a later one in one compiler's order. -/
import Derived.Test.YtkkemchihllklaaRegMono
namespace Go.Proofs.Ytkkemchihllklaa
open Go Go.RowKit

/-- Each operation waits for earlier ones alone, where the wait binds. -/
def afterC (ops : Array Oper) : Bool := (List.range ops.size).all fun j => ((ops[j]?).map fun o => o.after.all fun e => !Region.binds .any e || decide (e.on < j)).getD true

section
variable {P : Program} {ops : Array Oper} {Q : Exit → Act → World → Prop}

theorem all_of_ready2 (hB : afterC ops = true) {listed : Array Bool} (hr : Region.ready .any ops listed = []) : ∀ j, j < ops.size → listed.getD j true = true := by
  intro j
  induction j using Nat.strongRecOn with
  | _ j ih =>
    intro hj
    by_cases h : listed.getD j true = true
    · exact h
    · exfalso
      have hf : listed.getD j true = false := by simpa using h
      have : j ∈ Region.ready .any ops listed := by
        refine mem_ready.2 ⟨hf, ops[j], Array.getElem?_eq_getElem hj, fun e he hbd => ?_⟩
        have h1 := List.all_eq_true.1 hB j (List.mem_range.2 hj)
        rw [Array.getElem?_eq_getElem hj] at h1
        simp only [Option.map_some, Option.getD_some] at h1
        have h2 := Array.all_eq_true_iff_forall_mem.1 h1 e he
        simp only [hbd, Bool.not_true, Bool.false_or, decide_eq_true_eq] at h2
        have h3 := ih e.on h2 (by omega)
        have hlt : e.on < listed.size := by
          have hjs : j < listed.size := by
            rcases Nat.lt_or_ge j listed.size with h' | h'
            · exact h'
            · rw [Array.getD_eq_getD_getElem?, Array.getElem?_eq_none h'] at hf; cases hf
          omega
        rw [Array.getD_eq_getD_getElem?, Array.getElem?_eq_getElem hlt] at h3 ⊢
        exact h3
      rw [hr] at this
      cases this

theorem wpAny_inv2 {I : Array Bool → Act → World → Prop} (hB : afterC ops = true)
    (hstep : ∀ i listed a w, I listed a w → i ∈ Region.ready .any ops listed → wpOp P ops Q i (I (listed.setIfInBounds i true)) a w)
    (hend : ∀ listed a w, I listed a w → (∀ j, j < ops.size → listed.getD j true = true) → Q .normal a w) :
    ∀ (fuel : Nat) (listed : Array Bool) (a : Act) (w : World), listed.toList.count false ≤ fuel → I listed a w → wpAny P .any ops Q fuel listed a w := by
  intro fuel
  induction fuel with
  | zero =>
    intro listed a w hc hI
    have hr : Region.ready .any ops listed = [] := by
      rw [List.eq_nil_iff_forall_not_mem]
      intro i hi
      have h1 := (mem_ready.1 hi).1
      have h2 : false ∈ listed.toList := by
        rcases Nat.lt_or_ge i listed.size with h' | h'
        · rw [Array.getD_eq_getD_getElem?, Array.getElem?_eq_getElem h'] at h1
          simp only [Option.getD_some] at h1
          rw [← h1, ← Array.getElem_toList]; exact List.getElem_mem _
        · rw [Array.getD_eq_getD_getElem?, Array.getElem?_eq_none h'] at h1; cases h1
      have := List.count_pos_iff.2 h2
      omega
    exact ⟨hr, hend _ _ _ hI (all_of_ready2 hB hr)⟩
  | succ fuel ih =>
    intro listed a w hc hI
    refine ⟨fun hr => hend _ _ _ hI (all_of_ready2 hB hr), fun i hi => wpOp_mono (fun a' w' h => ih _ a' w' ?_ h) (hstep i listed a w hI hi)⟩
    have h1 := (mem_ready.1 hi).1
    have hlt : i < listed.toList.length := by
      rcases Nat.lt_or_ge i listed.size with h' | h'
      · simpa using h'
      · rw [Array.getD_eq_getD_getElem?, Array.getElem?_eq_none h'] at h1; cases h1
    have h2 := count_falses hlt (by rw [List.getD_eq_getElem?_getD, Array.getElem?_toList, ← Array.getD_eq_getD_getElem?]; exact h1)
    rw [Array.toList_setIfInBounds]
    omega

theorem wp_region_inv2 {id : Nat} {a : Act} {w : World} (I : Array Bool → List Value → World → Prop) (ds : List Nat) (hm : P.follows .mixedOrders = true) (hB : afterC ops = true)
    (hI : I (Array.replicate ops.size false) (ds.map fun d => a.tmps.getD d undef) w.drew)
    (hs : Steps P ops Q .any I a ds 0)
    (hend : ∀ listed us w, I listed us w → (∀ j, j < ops.size → listed.getD j false = true) → Q .normal (puts a ds us) w) : (Code.region id ops true).wp P Q a w := by
  refine wp_region_any hm ?_
  refine wpAny_inv2 (I := fun listed a' w' => listed.size = ops.size ∧ ∃ us, puts a ds us = a' ∧ I listed us w') hB ?_ ?_ _ _ _ _ (by simp) ⟨by simp, _, puts_self a ds, hI⟩
  · rintro i listed a' w' ⟨hsz, us, rfl, hI⟩ hr
    have hi : i < ops.size := by
      obtain ⟨_, o, ho, _⟩ := mem_ready.1 hr
      exact (Array.getElem?_eq_some_iff.1 ho).1
    exact wpOp_mono (fun a w h => ⟨by simp [hsz], h⟩) (hs i (Nat.zero_le _) hi listed us w' hsz hI hr)
  · rintro listed a' w' ⟨hsz, us, rfl, hI⟩ hall
    refine hend listed us w' hI (fun j hj => ?_)
    have := hall j hj
    rw [Array.getD_eq_getD_getElem?, Array.getElem?_eq_getElem (by omega)] at this ⊢
    exact this
theorem wp_region_mono2 {id : Nat} {a : Act} {w : World} (R : Nat → Value → World → Prop) (ds : List Nat) (_hmono : ∀ j v W W', Below W.heap.size W W' → R j v W → R j v W') (hn : ds.length = ops.size) (hm : P.follows .mixedOrders = true) (hB : afterC ops = true)
    (hs : Steps P ops Q .any (MonoI R ops.size w.drew) a ds 0)
    (hend : ∀ us W, us.length = ops.size → Below w.drew.heap.size w.drew W → (∀ j, j < ops.size → R j (us.getD j undef) W) → Q .normal (puts a ds us) W) : (Code.region id ops true).wp P Q a w := by
  refine wp_region_inv2 (MonoI R ops.size w.drew) ds hm hB ⟨by simp [hn], Below.refl _ _, fun j hj h => ?_⟩ hs (fun l us W h hall => hend us W h.len h.bel (fun j hj => h.has j hj (hall j hj)))
  rw [Array.getD_eq_getD_getElem?, Array.getElem?_replicate] at h
  split at h <;> cases h
end
end Go.Proofs.Ytkkemchihllklaa
