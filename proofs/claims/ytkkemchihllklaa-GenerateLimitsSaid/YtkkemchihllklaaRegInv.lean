/- A law for a region that draws its order: an invariant over what has been carried out and the slots that the region writes. -/
import Derived.Test.YtkkemchihllklaaRow
import Derived.Orders
import Derived.RegionTactic
namespace Go.Proofs.Ytkkemchihllklaa
open Go Go.RowKit

/-- A frame with some slots written. -/
def puts : Act → List Nat → List Value → Act
  | a, d :: ds, u :: us => puts (a.put (some d) u) ds us
  | a, _, _ => a
theorem puts_self (a : Act) : ∀ ds : List Nat, puts a ds (ds.map fun d => a.tmps.getD d undef) = a
  | [] => rfl
  | d :: ds => by
    rw [List.map_cons, puts]
    have : a.put (some d) (a.tmps.getD d undef) = a := by
      unfold Act.put
      dsimp only
      rcases Nat.lt_or_ge d a.tmps.size with h | h
      · have : a.tmps.setIfInBounds d (a.tmps.getD d undef) = a.tmps := by
          rw [Array.getD_eq_getD_getElem?, Array.getElem?_eq_getElem h]
          simp [Array.setIfInBounds, h]
        rw [this]
      · have : a.tmps.setIfInBounds d (a.tmps.getD d undef) = a.tmps := by
          simp [Array.setIfInBounds, Nat.not_lt.2 h]
        rw [this]
    rw [this]
    exact puts_self a ds
/-- Each operation waits for earlier ones alone. -/
def afterB (ops : Array Oper) : Bool := (List.range ops.size).all fun j => ((ops[j]?).map fun o => o.after.all fun e => decide (e.on < j)).getD true

theorem count_falses : ∀ {l : List Bool} {i : Nat}, i < l.length → l.getD i true = false → (l.set i true).count false + 1 = l.count false
  | [], _, h, _ => by simp at h
  | a :: l, 0, _, h => by simp at h; subst h; simp
  | a :: l, i + 1, h, h2 => by
    rw [List.set_cons_succ, List.count_cons, List.count_cons]
    have := count_falses (l := l) (i := i) (by simpa using h) (by simpa using h2)
    omega

section
variable {P : Program} {ops : Array Oper} {Q : Exit → Act → World → Prop} {md : Region.Mode}

theorem all_of_ready (hB : afterB ops = true) {listed : Array Bool} (hr : Region.ready md ops listed = []) : ∀ j, j < ops.size → listed.getD j true = true := by
  intro j
  induction j using Nat.strongRecOn with
  | _ j ih =>
    intro hj
    by_cases h : listed.getD j true = true
    · exact h
    · exfalso
      have hf : listed.getD j true = false := by simpa using h
      have : j ∈ Region.ready md ops listed := by
        refine mem_ready.2 ⟨hf, ops[j], Array.getElem?_eq_getElem hj, fun e he _ => ?_⟩
        have h1 := List.all_eq_true.1 hB j (List.mem_range.2 hj)
        rw [Array.getElem?_eq_getElem hj] at h1
        simp only [Option.map_some, Option.getD_some] at h1
        have h2 := Array.all_eq_true_iff_forall_mem.1 h1 e he
        simp only [decide_eq_true_eq] at h2
        have h3 := ih e.on h2 (by omega)
        have hlt : e.on < listed.size := by
          have hjs : j < listed.size := by
            rcases Nat.lt_or_ge j listed.size with h' | h'
            · exact h'
            · rw [Array.getD_eq_getD_getElem?, Array.getElem?_eq_none h'] at hf; cases hf
          omega
        rw [Array.getD_eq_getD_getElem?, Array.getElem?_eq_getElem hlt] at h3 ⊢
        exact h3
      rw [hr] at this
      cases this

theorem wpAny_inv {I : Array Bool → Act → World → Prop} (hB : afterB ops = true)
    (hstep : ∀ i listed a w, I listed a w → i ∈ Region.ready md ops listed → wpOp P ops Q i (I (listed.setIfInBounds i true)) a w)
    (hend : ∀ listed a w, I listed a w → (∀ j, j < ops.size → listed.getD j true = true) → Q .normal a w) :
    ∀ (fuel : Nat) (listed : Array Bool) (a : Act) (w : World), listed.toList.count false ≤ fuel → I listed a w → wpAny P md ops Q fuel listed a w := by
  intro fuel
  induction fuel with
  | zero =>
    intro listed a w hc hI
    have hr : Region.ready md ops listed = [] := by
      rw [List.eq_nil_iff_forall_not_mem]
      intro i hi
      have h1 := (mem_ready.1 hi).1
      have h2 : false ∈ listed.toList := by
        rcases Nat.lt_or_ge i listed.size with h' | h'
        · rw [Array.getD_eq_getD_getElem?, Array.getElem?_eq_getElem h'] at h1
          simp only [Option.getD_some] at h1
          rw [← h1, ← Array.getElem_toList]; exact List.getElem_mem _
        · rw [Array.getD_eq_getD_getElem?, Array.getElem?_eq_none h'] at h1; cases h1
      have := List.count_pos_iff.2 h2
      omega
    exact ⟨hr, hend _ _ _ hI (all_of_ready hB hr)⟩
  | succ fuel ih =>
    intro listed a w hc hI
    refine ⟨fun hr => hend _ _ _ hI (all_of_ready hB hr), fun i hi => wpOp_mono (fun a' w' h => ih _ a' w' ?_ h) (hstep i listed a w hI hi)⟩
    have h1 := (mem_ready.1 hi).1
    have hlt : i < listed.toList.length := by
      rcases Nat.lt_or_ge i listed.size with h' | h'
      · simpa using h'
      · rw [Array.getD_eq_getD_getElem?, Array.getElem?_eq_none h'] at h1; cases h1
    have h2 := count_falses hlt (by rw [List.getD_eq_getElem?_getD, Array.getElem?_toList, ← Array.getD_eq_getD_getElem?]; exact h1)
    rw [Array.toList_setIfInBounds]
    omega

/-- What one operation has to show. -/
structure StepG (P : Program) (ops : Array Oper) (Q : Exit → Act → World → Prop) (o : Oper) (a : Act) (w : World) (K' : Act → World → Prop) : Prop where
  out : if Region.wanted o (yielded ops a.tmps) = true then Oper.wp P o a w K' Q else K' (a.put o.dst undef) w
/-- The steps from operation k on. -/
def Steps (P : Program) (ops : Array Oper) (Q : Exit → Act → World → Prop) (md : Region.Mode) (I : Array Bool → List Value → World → Prop) (a : Act) (ds : List Nat) (k : Nat) : Prop :=
  ∀ i, k ≤ i → i < ops.size → ∀ (listed : Array Bool) (us : List Value) (w : World), listed.size = ops.size → I listed us w → i ∈ Region.ready md ops listed →
    wpOp P ops Q i (fun a' w' => ∃ us', puts a ds us' = a' ∧ I (listed.setIfInBounds i true) us' w') (puts a ds us) w
theorem Steps.nil {I : Array Bool → List Value → World → Prop} {a : Act} {ds : List Nat} {k : Nat} (h : ops.size ≤ k) : Steps P ops Q md I a ds k := fun i h1 h2 => by omega
theorem Steps.cons {I : Array Bool → List Value → World → Prop} {a : Act} {ds : List Nat} {k : Nat} {o : Oper} (ho : ops[k]? = some o)
    (h : ∀ (listed : Array Bool) (us : List Value) (w : World), (∀ j, j < ops.size → (listed.setIfInBounds k true).getD j false = (j == k || listed.getD j false)) → I listed us w → (o.after.all fun e => !Region.binds md e || listed.getD e.on false) = true →
      listed.getD k false = false → ∀ K' : Act → World → Prop, (∀ us' a' w', puts a ds us' = a' → I (listed.setIfInBounds k true) us' w' → K' a' w') →
      StepG P ops Q o (puts a ds us) w K')
    (hs : Steps P ops Q md I a ds (k + 1)) : Steps P ops Q md I a ds k := fun i hki hi listed us w hsz hI hr => by
  by_cases e : i = k
  · subst e
    refine wpOp_step ho fun K' hK => (h listed us w (fun j hj => ?_) hI ?_ ?_ K' (fun us' a' w' e h => hK a' w' ⟨us', e, h⟩)).out
    · rw [Array.getD_eq_getD_getElem?, Array.getD_eq_getD_getElem?, Array.getElem?_setIfInBounds]
      by_cases hij : i = j
      · subst hij; simp [hsz, hi]
      · have : (j == i) = false := by simp; omega
        rw [if_neg hij, this, Bool.false_or]
    · obtain ⟨h1, o', h2, h3⟩ := mem_ready.1 hr
      rw [ho] at h2
      cases h2
      rw [Array.all_eq_true_iff_forall_mem]
      intro e he
      by_cases hb : Region.binds md e = true
      · rw [h3 e he hb]; simp
      · simp [hb]
    · have h1 := (mem_ready.1 hr).1
      rw [Array.getD_eq_getD_getElem?, Array.getElem?_eq_getElem (by omega)] at h1 ⊢
      exact h1
  · exact hs i (by omega) hi listed us w hsz hI hr
theorem wp_region_inv {id : Nat} {a : Act} {w : World} (I : Array Bool → List Value → World → Prop) (ds : List Nat) (hm : P.follows .mixedOrders = true) (hB : afterB ops = true)
    (hI : I (Array.replicate ops.size false) (ds.map fun d => a.tmps.getD d undef) w.drew)
    (hs : Steps P ops Q .any I a ds 0)
    (hend : ∀ listed us w, I listed us w → (∀ j, j < ops.size → listed.getD j false = true) → Q .normal (puts a ds us) w) : (Code.region id ops true).wp P Q a w := by
  refine wp_region_any hm ?_
  refine wpAny_inv (I := fun listed a' w' => listed.size = ops.size ∧ ∃ us, puts a ds us = a' ∧ I listed us w') hB ?_ ?_ _ _ _ _ (by simp) ⟨by simp, _, puts_self a ds, hI⟩
  · rintro i listed a' w' ⟨hsz, us, rfl, hI⟩ hr
    have hi : i < ops.size := by
      obtain ⟨_, o, ho, _⟩ := mem_ready.1 hr
      exact (Array.getElem?_eq_some_iff.1 ho).1
    exact wpOp_mono (fun a w h => ⟨by simp [hsz], h⟩) (hs i (Nat.zero_le _) hi listed us w' hsz hI hr)
  · rintro listed a' w' ⟨hsz, us, rfl, hI⟩ hall
    refine hend listed us w' hI (fun j hj => ?_)
    have := hall j hj
    rw [Array.getD_eq_getD_getElem?, Array.getElem?_eq_getElem (by omega)] at this ⊢
    exact this
end

theorem up_ne {l : Array Bool} {k n : Nat} (hl : ∀ j, j < n → (l.setIfInBounds k true).getD j false = (j == k || l.getD j false)) (j : Nat) (hj : j < n) (hne : (j == k) = false) : (l.setIfInBounds k true).getD j false = l.getD j false := by
  rw [hl j hj, hne, Bool.false_or]

/-- A box of four cells behind a turn of other blocks. -/
structure Box4 (w : World) (tag : Nat → Nat) (b : Nat) (c0 c1 c2 c3 : Value) : Prop where
  htag : tag b = 0
  lt : b < w.heap.size
  x0 : w.cell? ⟨b, 0, none⟩ = some c0
  x1 : w.cell? ⟨b, 1, none⟩ = some c1
  x2 : w.cell? ⟨b, 2, none⟩ = some c2
  x3 : w.cell? ⟨b, 3, none⟩ = some c3
theorem Turn.cell {w w' : World} {B : Nat} {tag tag' : Nat → Nat} {k b : Nat} (ht : Turn B tag tag' k w w') (hb : b < w.heap.size) (hne : tag b ≠ k) (o : Nat) : w'.cell? ⟨b, o, none⟩ = w.cell? ⟨b, o, none⟩ := by
  simp only [World.cell?]
  rw [ht.heap b hb (.inr hne)]
theorem Box4.turn {w w' : World} {B : Nat} {tag tag' : Nat → Nat} {k b : Nat} {c0 c1 c2 c3 : Value} (h : Box4 w tag b c0 c1 c2 c3) (ht : Turn B tag tag' k w w') (hk : 0 ≠ k) : Box4 w' tag' b c0 c1 c2 c3 :=
  have hne : tag b ≠ k := by rw [h.htag]; exact hk
  ⟨(ht.tags b h.lt).trans h.htag, Nat.lt_of_lt_of_le h.lt ht.size, (ht.cell h.lt hne _).trans h.x0, (ht.cell h.lt hne _).trans h.x1, (ht.cell h.lt hne _).trans h.x2, (ht.cell h.lt hne _).trans h.x3⟩
/-- A callee's new blocks take one tag. -/
def tagFrom (tag : Nat → Nat) (s k : Nat) : Nat → Nat := fun b => if b < s then tag b else k
theorem Turn.call {w w' : World} {B : Nat} {tag : Nat → Nat} {k : Nat} (hb : Below w.heap.size w w') : Turn B tag (tagFrom tag w.heap.size k) k w w' :=
  ⟨hb.os, hb.tape, hb.output, hb.size, fun _b h => if_pos h, fun b h _ => hb.block b h, fun b _o ho _ => (hb.block b (Array.getElem?_eq_some_iff.1 ho).1).trans ho⟩
theorem Turn.alloc {w : World} {B : Nat} {tag : Nat → Nat} {k : Nat} (o : Obj) : Turn B tag (tagUp tag w.heap.size k) k w (w.alloc o) :=
  ⟨rfl, rfl, rfl, by simp, fun b h => tagUp_lt h, fun b h _ => heap_alloc_old w o h, fun b o' ho _ => (heap_alloc_old w o (Array.getElem?_eq_some_iff.1 ho).1).trans ho⟩
theorem Row.of_call {w w' : World} {B : Nat} {tag : Nat → Nat} {k : Nat} {t : TypeId} {sz : Nat} {v : Value} {n : Nat} {cs : List Value} (h : w'.ownsRow w.heap.size t sz v n cs) (hB : B ≤ w.heap.size) : Row w' B (tagFrom tag w.heap.size k) k t sz v n cs :=
  Row.of_own h hB (fun b h1 _ => if_neg (by omega))
end Go.Proofs.Ytkkemchihllklaa
