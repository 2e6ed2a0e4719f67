/- Texts joined: RestReg, RegIn, RestApp, GraphRow, EdgesBox. Each is introduced by its own sentence. -/
import Derived.OrdersIn
import Derived.Test.YthchkddhibhenaaRS2
import Derived.Test.YthchkddhibhenaaRS4
import Derived.Test.YthchkddhibhenaaRS7
import Derived.Test.YthchkddhibhenaaRS10
/- Two lists of flags that are made, the first of them in a box, in whatever order. -/
namespace Go.Proofs.Ythchkddhibhenaa
open Go Go.RowKit

/-- What was there keeps its tag when a callee's blocks take one. -/
theorem Own.late {w w' : World} {B : Nat} {tag : Nat → Nat} {k k' b : Nat} {cs : Array Value} {t : TypeId} (h : Own w B tag k b cs t) (hb : Below w.heap.size w w') : Own w' B (tagFrom tag w.heap.size k') k b cs t :=
  ⟨(hb.block b h.lt).trans h.heap, (if_pos h.lt).trans h.htag, h.base⟩
theorem Own.name {w : World} {B : Nat} {tag : Nat → Nat} {k b : Nat} {cs : Array Value} {t : TypeId} (f : Nat → Nat) (h : Own w B tag k b cs t) : Own w B (fun b => f (tag b)) (f k) b cs t :=
  ⟨h.heap, by show f (tag b) = f k; rw [h.htag], h.base⟩

structure RB10 (Φ : (Nat → Nat) → World → Prop) (PR : Nat → Value → Prop) (B n : Nat) (inF mkF : List Bool) (l : Array Bool) (us : List Value) (tag : Nat → Nat) (W : World) : Prop where
  len : us.length = 9
  size : B ≤ W.heap.size
  phi : Φ tag W
  pure : ∀ j, j < 6 → l.getD j false = true → PR j (us.getD j undef)
  s2 : l.getD 2 false = true → Row W B tag 1 4 1 (us.getD 2 undef) n (bools inF)
  s6 : l.getD 6 false = true → Row W B tag 1 4 1 (us.getD 6 undef) n (bools mkF)
  s7 : l.getD 7 false = true → ∃ b, us.getD 7 undef = .pointer (some ⟨b, 0, none⟩) ∧ Own W B tag 2 b #[if l.getD 8 false = true then us.getD 2 undef else .slice none 0 0] 86
  s9 : l.getD 9 false = true → Row W B tag 1 4 1 (us.getD 8 undef) n (bools mkF)
  o8 : l.getD 8 false = true → l.getD 2 false = true ∧ l.getD 7 false = true

section
variable {Φ : (Nat → Nat) → World → Prop} {PR : Nat → Value → Prop} {B n : Nat} {inF mkF : List Bool} {l : Array Bool} {us : List Value} {tag tag' : Nat → Nat} {W W' : World} {k : Nat} {v : Value}
theorem RB10.start (hlen : us.length = 9) (hs : B ≤ W.heap.size) (hphi : Φ tag W) : RB10 Φ PR B n inF mkF (Array.replicate 10 false) us tag W := by
  have h : ∀ j, (Array.replicate 10 false).getD j false = true → False := by
    intro j
    rw [Array.getD_eq_getD_getElem?, Array.getElem?_replicate]
    split <;> simp
  exact ⟨hlen, hs, hphi, fun j _ e => (h _ e).elim, fun e => (h _ e).elim, fun e => (h _ e).elim, fun e => (h _ e).elim, fun e => (h _ e).elim, fun e => (h _ e).elim⟩
theorem pure_nextB {PR : Nat → Value → Prop} {l : Array Bool} {us : List Value} {k m N : Nat} {v : Value} (hl : ∀ j, j < N → (l.setIfInBounds k true).getD j false = (j == k || l.getD j false)) (hm : m ≤ N) (hlen : m ≤ us.length) (hp : ∀ j, j < m → l.getD j false = true → PR j (us.getD j undef)) (hv : k < m → PR k v) : ∀ j, j < m → (l.setIfInBounds k true).getD j false = true → PR j ((us.set k v).getD j undef) := by
  intro j hj h
  by_cases e : k = j
  · subst e
    rw [List.getD_eq_getElem?_getD, List.getElem?_set_self (by omega)]
    exact hv hj
  · rw [hl j (by omega), show (j == k) = false by simp; omega, Bool.false_or] at h
    rw [set_ne e]
    exact hp j hj h
theorem RB10.pureStep (h : RB10 Φ PR B n inF mkF l us tag W) (hl : ∀ j, j < 10 → (l.setIfInBounds k true).getD j false = (j == k || l.getD j false)) (hk : k = 0 ∨ k = 1 ∨ k = 3 ∨ k = 4 ∨ k = 5) (hv : PR k v) : RB10 Φ PR B n inF mkF (l.setIfInBounds k true) (us.set k v) tag W := by
  have e2 := hl 2 (by decide)
  have e6 := hl 6 (by decide)
  have e7 := hl 7 (by decide)
  have e8 := hl 8 (by decide)
  have e9 := hl 9 (by decide)
  rw [show ((2 : Nat) == k) = false by simp; omega, Bool.false_or] at e2
  rw [show ((6 : Nat) == k) = false by simp; omega, Bool.false_or] at e6
  rw [show ((7 : Nat) == k) = false by simp; omega, Bool.false_or] at e7
  rw [show ((8 : Nat) == k) = false by simp; omega, Bool.false_or] at e8
  rw [show ((9 : Nat) == k) = false by simp; omega, Bool.false_or] at e9
  refine ⟨by rw [List.length_set]; exact h.len, h.size, h.phi, pure_nextB hl (by decide) (by rw [h.len]; decide) h.pure (fun _ => hv), ?_, ?_, ?_, ?_, ?_⟩
  · rw [e2, set_ne (by omega)]; exact h.s2
  · rw [e6, set_ne (by omega)]; exact h.s6
  · rw [e7, e8, set_ne (by omega), set_ne (by omega)]; exact h.s7
  · rw [e9, set_ne (by omega)]; exact h.s9
  · rw [e8, e2, e7]; exact h.o8
/-- A list of flags is made by a callee. -/
theorem RB10.op2 (h : RB10 Φ PR B n inF mkF l us tag W) (hl : ∀ j, j < 10 → (l.setIfInBounds 2 true).getD j false = (j == 2 || l.getD j false)) (hphi : Φ (tagFrom tag W.heap.size 1) W') (hpr : ∀ v, PR 2 v) (hn : l.getD 2 false = false) (hb : Below W.heap.size W W') (hown : W'.ownsRow W.heap.size 4 1 v n (bools inF)) :
    RB10 Φ PR B n inF mkF (l.setIfInBounds 2 true) (us.set 2 v) (tagFrom tag W.heap.size 1) W' := by
  have h8 : l.getD 8 false = false := by
    cases h8 : l.getD 8 false with
    | false => rfl
    | true => rw [(h.o8 h8).1] at hn; cases hn
  refine ⟨by rw [List.length_set]; exact h.len, Nat.le_trans h.size hb.size, hphi, pure_nextB hl (by decide) (by rw [h.len]; decide) h.pure (fun _ => hpr _), ?_, ?_, ?_, ?_, ?_⟩
  · intro _
    rw [set_self h.len (by decide)]
    exact Row.of_call hown h.size
  · rw [hl 6 (by decide), show ((6 : Nat) == 2) = false from rfl, Bool.false_or, set_ne (by decide)]
    intro e
    have h9 := h.s6 e
    exact ⟨h9.1, h9.2.imp id fun ⟨b, off, cap, cur, h1, h2, h3⟩ => ⟨b, off, cap, cur, h1, h2.late hb, h3⟩⟩
  · rw [hl 7 (by decide), hl 8 (by decide), show ((7 : Nat) == 2) = false from rfl, show ((8 : Nat) == 2) = false from rfl, Bool.false_or, Bool.false_or, set_ne (by decide), h8]
    intro e
    obtain ⟨b, h1, h2⟩ := h.s7 e
    rw [h8] at h2
    exact ⟨b, h1, h2.late hb⟩
  · rw [hl 9 (by decide), show ((9 : Nat) == 2) = false from rfl, Bool.false_or, set_ne (by decide)]
    intro e
    have h9 := h.s9 e
    exact ⟨h9.1, h9.2.imp id fun ⟨b, off, cap, cur, h1, h2, h3⟩ => ⟨b, off, cap, cur, h1, h2.late hb, h3⟩⟩
  · rw [hl 8 (by decide), show ((8 : Nat) == 2) = false from rfl, Bool.false_or, h8]
    intro e; cases e
theorem RB10.op6 (h : RB10 Φ PR B n inF mkF l us tag W) (hl : ∀ j, j < 10 → (l.setIfInBounds 6 true).getD j false = (j == 6 || l.getD j false)) (hphi : Φ (tagFrom tag W.heap.size 1) W') (hb : Below W.heap.size W W') (hown : W'.ownsRow W.heap.size 4 1 v n (bools mkF)) :
    RB10 Φ PR B n inF mkF (l.setIfInBounds 6 true) (us.set 6 v) (tagFrom tag W.heap.size 1) W' := by
  refine ⟨by rw [List.length_set]; exact h.len, Nat.le_trans h.size hb.size, hphi, pure_nextB hl (by decide) (by rw [h.len]; decide) h.pure (fun e => absurd e (by decide)), ?_, ?_, ?_, ?_, ?_⟩
  · rw [hl 2 (by decide), show ((2 : Nat) == 6) = false from rfl, Bool.false_or, set_ne (by decide)]
    intro e
    have h9 := h.s2 e
    exact ⟨h9.1, h9.2.imp id fun ⟨b, off, cap, cur, h1, h2, h3⟩ => ⟨b, off, cap, cur, h1, h2.late hb, h3⟩⟩
  · intro _
    rw [set_self h.len (by decide)]
    exact Row.of_call hown h.size
  · rw [hl 7 (by decide), hl 8 (by decide), show ((7 : Nat) == 6) = false from rfl, show ((8 : Nat) == 6) = false from rfl, Bool.false_or, Bool.false_or, set_ne (by decide), set_ne (by decide)]
    intro e
    obtain ⟨b, h1, h2⟩ := h.s7 e
    exact ⟨b, h1, h2.late hb⟩
  · rw [hl 9 (by decide), show ((9 : Nat) == 6) = false from rfl, Bool.false_or, set_ne (by decide)]
    intro e
    have h9 := h.s9 e
    exact ⟨h9.1, h9.2.imp id fun ⟨b, off, cap, cur, h1, h2, h3⟩ => ⟨b, off, cap, cur, h1, h2.late hb, h3⟩⟩
  · rw [hl 8 (by decide), hl 2 (by decide), hl 7 (by decide)]; exact h.o8
/-- The box. -/
theorem RB10.op7 (h : RB10 Φ PR B n inF mkF l us tag W) (hl : ∀ j, j < 10 → (l.setIfInBounds 7 true).getD j false = (j == 7 || l.getD j false)) (hphi : Φ (tagUp tag W.heap.size 2) (W.alloc (.cells #[.slice none 0 0] 86))) (hn : l.getD 7 false = false) :
    RB10 Φ PR B n inF mkF (l.setIfInBounds 7 true) (us.set 7 (.pointer (some ⟨W.heap.size, 0, none⟩))) (tagUp tag W.heap.size 2) (W.alloc (.cells #[.slice none 0 0] 86)) := by
  have h8 : l.getD 8 false = false := by
    cases h8 : l.getD 8 false with
    | false => rfl
    | true => rw [(h.o8 h8).2] at hn; cases hn
  refine ⟨by rw [List.length_set]; exact h.len, by have := h.size; simp; omega, hphi, pure_nextB hl (by decide) (by rw [h.len]; decide) h.pure (fun e => absurd e (by decide)), ?_, ?_, ?_, ?_, ?_⟩
  · rw [hl 2 (by decide), show ((2 : Nat) == 7) = false from rfl, Bool.false_or, set_ne (by decide)]; exact fun e => (h.s2 e).up _ _
  · rw [hl 6 (by decide), show ((6 : Nat) == 7) = false from rfl, Bool.false_or, set_ne (by decide)]; exact fun e => (h.s6 e).up _ _
  · intro _
    rw [set_self h.len (by decide), hl 8 (by decide), show ((8 : Nat) == 7) = false from rfl, Bool.false_or, h8]
    exact ⟨W.heap.size, rfl, Own.new W B _ 2 _ _ h.size (tagUp_at _ _ _)⟩
  · rw [hl 9 (by decide), show ((9 : Nat) == 7) = false from rfl, Bool.false_or, set_ne (by decide)]; exact fun e => (h.s9 e).up _ _
  · rw [hl 8 (by decide), show ((8 : Nat) == 7) = false from rfl, Bool.false_or, h8]; intro e; cases e
/-- The store into the box. -/
theorem RB10.op8 {b : Nat} (h : RB10 Φ PR B n inF mkF l us tag W) (hl : ∀ j, j < 10 → (l.setIfInBounds 8 true).getD j false = (j == 8 || l.getD j false)) (hphi : ∀ {tag tag' W W'}, Turn B tag tag' 2 W W' → B ≤ W.heap.size → Φ tag W → Φ tag' W') (h2 : l.getD 2 false = true) (h7 : l.getD 7 false = true) (hu : us.getD 7 undef = .pointer (some ⟨b, 0, none⟩)) :
    RB10 Φ PR B n inF mkF (l.setIfInBounds 8 true) us tag (W.setCell ⟨b, 0, none⟩ (us.getD 2 undef)) := by
  obtain ⟨b', e, ho⟩ := h.s7 h7
  rw [hu] at e
  cases e
  have t := Turn.setCell ho 0 (us.getD 2 undef)
  have ho2 := ho.set 0 (us.getD 2 undef)
  refine ⟨h.len, Nat.le_trans h.size t.size, hphi t h.size h.phi, ?_, ?_, ?_, ?_, ?_, ?_⟩
  · intro j hj; rw [hl j (by omega), show (j == 8) = false by simp; omega, Bool.false_or]; exact h.pure j hj
  · rw [hl 2 (by decide), show ((2 : Nat) == 8) = false from rfl, Bool.false_or]; exact fun e => (h.s2 e).turn t (by decide)
  · rw [hl 6 (by decide), show ((6 : Nat) == 8) = false from rfl, Bool.false_or]; exact fun e => (h.s6 e).turn t (by decide)
  · intro _
    rw [hl 8 (by decide)]
    exact ⟨b, hu, by simpa using ho2⟩
  · rw [hl 9 (by decide), show ((9 : Nat) == 8) = false from rfl, Bool.false_or]; exact fun e => (h.s9 e).turn t (by decide)
  · intro _; rw [hl 2 (by decide), hl 7 (by decide), h2, h7]; exact ⟨rfl, rfl⟩
/-- The variable of the second list. -/
theorem RB10.op9 (h : RB10 Φ PR B n inF mkF l us tag W) (hl : ∀ j, j < 10 → (l.setIfInBounds 9 true).getD j false = (j == 9 || l.getD j false)) (h6 : l.getD 6 false = true) :
    RB10 Φ PR B n inF mkF (l.setIfInBounds 9 true) (us.set 8 (us.getD 6 undef)) tag W := by
  refine ⟨by rw [List.length_set]; exact h.len, h.size, h.phi, ?_, ?_, ?_, ?_, ?_, ?_⟩
  · intro j hj; rw [hl j (by omega), show (j == 9) = false by simp; omega, Bool.false_or, set_ne (by omega)]; exact h.pure j hj
  · rw [hl 2 (by decide), set_ne (by decide)]; exact h.s2
  · rw [hl 6 (by decide), set_ne (by decide)]; exact h.s6
  · rw [hl 7 (by decide), hl 8 (by decide), set_ne (by decide), set_ne (by decide)]; exact h.s7
  · intro _
    rw [set_self h.len (by decide)]
    exact h.s6 h6
  · rw [hl 8 (by decide), hl 2 (by decide), hl 7 (by decide)]; exact h.o8
end
theorem list9r {us : List Value} (h : us.length = 9) : ∃ u0 u1 u2 u3 u4 u5 u6 u7 u8, us = [u0, u1, u2, u3, u4, u5, u6, u7, u8] := by
  match us, h with
  | [u0, u1, u2, u3, u4, u5, u6, u7, u8], _ => exact ⟨_, _, _, _, _, _, _, _, _, rfl⟩
theorem Row.late {w w' : World} {B : Nat} {tag : Nat → Nat} {k k' : Nat} {t : TypeId} {sz : Nat} {v : Value} {n : Nat} {cs : List Value} (h : Row w B tag k t sz v n cs) (hb : Below w.heap.size w w') : Row w' B (tagFrom tag w.heap.size k') k t sz v n cs :=
  ⟨h.1, h.2.imp id fun ⟨b, off, cap, cur, h1, h2, h3⟩ => ⟨b, off, cap, cur, h1, h2.late hb, h3⟩⟩
/-- What holds of the rest meanwhile. -/
def PhiD (w : World) (b8 : Nat) (c0 c1 c2 c3 va : Value) (alL : List Int) (tag : Nat → Nat) (W : World) : Prop :=
  Below w.heap.size w W ∧ Own W w.heap.size tag 0 w.heap.size #[c0, c1, c2, c3] 31 ∧ Own W w.heap.size tag 0 (w.heap.size + 1) #[.slice none 0 0, .int .i64 0, .slice none 0 0, .slice none 0 0] 31 ∧ Own W w.heap.size tag 6 b8 #[va, .int .i64 0, .slice none 0 0, .slice none 0 0] 31 ∧ Row W w.heap.size tag 0 3 1 va alL.length (ints alL)
theorem PhiD.call {w : World} {b8 k : Nat} {c0 c1 c2 c3 va : Value} {alL : List Int} {tag : Nat → Nat} {W W' : World} (h : PhiD w b8 c0 c1 c2 c3 va alL tag W) (hb : Below W.heap.size W W') : PhiD w b8 c0 c1 c2 c3 va alL (tagFrom tag W.heap.size k) W' :=
  ⟨belCall h.1 hb h.1.size, h.2.1.late hb, h.2.2.1.late hb, h.2.2.2.1.late hb, h.2.2.2.2.1, h.2.2.2.2.2.imp id fun ⟨b, off, cap, cur, h1, h2, h3⟩ => ⟨b, off, cap, cur, h1, h2.late hb, h3⟩⟩
theorem PhiD.up {w : World} {b8 : Nat} {c0 c1 c2 c3 va : Value} {alL : List Int} {tag : Nat → Nat} {W : World} (h : PhiD w b8 c0 c1 c2 c3 va alL tag W) (o : Obj) (k : Nat) : PhiD w b8 c0 c1 c2 c3 va alL (tagUp tag W.heap.size k) (W.alloc o) :=
  ⟨h.1.alloc h.1.size o, h.2.1.upR o k, h.2.2.1.upR o k, h.2.2.2.1.upR o k, h.2.2.2.2.up o k⟩
theorem PhiD.turn2 {w : World} {b8 : Nat} {c0 c1 c2 c3 va : Value} {alL : List Int} : ∀ {tag tag' : Nat → Nat} {W W' : World}, Turn w.heap.size tag tag' 2 W W' → w.heap.size ≤ W.heap.size → PhiD w b8 c0 c1 c2 c3 va alL tag W → PhiD w b8 c0 c1 c2 c3 va alL tag' W' :=
  fun ht hs h => ⟨belTurn h.1 ht hs, h.2.1.turn ht (by decide), h.2.2.1.turn ht (by decide), h.2.2.2.1.turn ht (by decide), h.2.2.2.2.turn ht (by decide)⟩
/-- What stands when both lists of flags are made. -/
structure YB (w : World) (b8 b9 n : Nat) (c0 c1 c2 c3 va vin vmk : Value) (alL : List Int) (inF mkF : List Bool) (tag : Nat → Nat) (W : World) : Prop where
  phi : PhiD w b8 c0 c1 c2 c3 va alL tag W
  ib : Own W w.heap.size tag 0 b9 #[vin] 86
  inr : Row W w.heap.size tag 1 4 1 vin n (bools inF)
  mkr : Row W w.heap.size tag 1 4 1 vmk n (bools mkF)
section
variable {w : World} {b8 b9 n : Nat} {c0 c1 c2 c3 va vin vmk : Value} {alL : List Int} {inF mkF : List Bool} {tag tag' : Nat → Nat} {W W' : World}
theorem YB.late (h : YB w b8 b9 n c0 c1 c2 c3 va vin vmk alL inF mkF tag W) (k : Nat) (hb : Below W.heap.size W W') : YB w b8 b9 n c0 c1 c2 c3 va vin vmk alL inF mkF (tagFrom tag W.heap.size k) W' :=
  ⟨h.phi.call hb, h.ib.late hb, h.inr.late hb, h.mkr.late hb⟩
theorem YB.up (h : YB w b8 b9 n c0 c1 c2 c3 va vin vmk alL inF mkF tag W) (o : Obj) (k : Nat) : YB w b8 b9 n c0 c1 c2 c3 va vin vmk alL inF mkF (tagUp tag W.heap.size k) (W.alloc o) :=
  ⟨h.phi.up o k, h.ib.upR o k, h.inr.up o k, h.mkr.up o k⟩
theorem YB.turn2 (h : YB w b8 b9 n c0 c1 c2 c3 va vin vmk alL inF mkF tag W) (ht : Turn w.heap.size tag tag' 2 W W') : YB w b8 b9 n c0 c1 c2 c3 va vin vmk alL inF mkF tag' W' :=
  ⟨PhiD.turn2 ht h.phi.1.size h.phi, h.ib.turn ht (by decide), h.inr.turn ht (by decide), h.mkr.turn ht (by decide)⟩
end
end Go.Proofs.Ythchkddhibhenaa

/- The law for a region that draws, inside a fence. -/
namespace Go.Proofs.Ythchkddhibhenaa
open Go Go.RowKit

section
variable {F : Fence} {n : Nat} {P : Program} {ops : Array Oper} {Q : Exit → Act → World → Prop}

theorem wpAnyIn_inv {I : Array Bool → Act → World → Prop} (hB : afterC ops = true)
    (hstep : ∀ i listed a w, I listed a w → i ∈ Region.ready .any ops listed → wpOpIn F n P ops Q i (I (listed.setIfInBounds i true)) a w)
    (hend : ∀ listed a w, I listed a w → (∀ j, j < ops.size → listed.getD j true = true) → Q .normal a w) :
    ∀ (fuel : Nat) (listed : Array Bool) (a : Act) (w : World), listed.toList.count false ≤ fuel → I listed a w → wpAnyIn F n P .any ops Q fuel listed a w := by
  intro fuel
  induction fuel with
  | zero =>
    intro listed a w hc hI
    have hr : Region.ready .any ops listed = [] := by
      rw [List.eq_nil_iff_forall_not_mem]
      intro i hi
      have h1 := (mem_ready.1 hi).1
      have h2 : false ∈ listed.toList := by
        rcases Nat.lt_or_ge i listed.size with h' | h'
        · rw [Array.getD_eq_getD_getElem?, Array.getElem?_eq_getElem h'] at h1
          simp only [Option.getD_some] at h1
          rw [← h1, ← Array.getElem_toList]; exact List.getElem_mem _
        · rw [Array.getD_eq_getD_getElem?, Array.getElem?_eq_none h'] at h1; cases h1
      have := List.count_pos_iff.2 h2
      omega
    exact ⟨hr, hend _ _ _ hI (all_of_ready2 hB hr)⟩
  | succ fuel ih =>
    intro listed a w hc hI
    refine ⟨fun hr => hend _ _ _ hI (all_of_ready2 hB hr), fun i hi => wpOpIn_mono (fun a' w' h => ih _ a' w' ?_ h) (hstep i listed a w hI hi)⟩
    have h1 := (mem_ready.1 hi).1
    have hlt : i < listed.toList.length := by
      rcases Nat.lt_or_ge i listed.size with h' | h'
      · simpa using h'
      · rw [Array.getD_eq_getD_getElem?, Array.getElem?_eq_none h'] at h1; cases h1
    have h2 := count_falses hlt (by rw [List.getD_eq_getElem?_getD, Array.getElem?_toList, ← Array.getD_eq_getD_getElem?]; exact h1)
    rw [Array.toList_setIfInBounds]
    omega

/-- What one operation has to show. -/
structure StepGIn (F : Fence) (n : Nat) (P : Program) (ops : Array Oper) (Q : Exit → Act → World → Prop) (o : Oper) (a : Act) (w : World) (K' : Act → World → Prop) : Prop where
  out : if Region.wanted o (yielded ops a.tmps) = true then Oper.wpIn F n P o a w K' Q else (∀ f, o.about P w a.eval = some f → F.fn f) ∧ K' (a.put o.dst undef) w
/-- The steps from operation k on. -/
def StepsIn (F : Fence) (n : Nat) (P : Program) (ops : Array Oper) (Q : Exit → Act → World → Prop) (I : Array Bool → List Value → World → Prop) (a : Act) (ds : List Nat) (k : Nat) : Prop :=
  ∀ i, k ≤ i → i < ops.size → ∀ (listed : Array Bool) (us : List Value) (w : World), listed.size = ops.size → I listed us w → i ∈ Region.ready .any ops listed →
    wpOpIn F n P ops Q i (fun a' w' => ∃ us', puts a ds us' = a' ∧ I (listed.setIfInBounds i true) us' w') (puts a ds us) w
theorem StepsIn.nil {I : Array Bool → List Value → World → Prop} {a : Act} {ds : List Nat} {k : Nat} (h : ops.size ≤ k) : StepsIn F n P ops Q I a ds k := fun i h1 h2 => by omega
theorem StepsIn.cons {I : Array Bool → List Value → World → Prop} {a : Act} {ds : List Nat} {k : Nat} {o : Oper} (ho : ops[k]? = some o)
    (h : ∀ (listed : Array Bool) (us : List Value) (w : World), (∀ j, j < ops.size → (listed.setIfInBounds k true).getD j false = (j == k || listed.getD j false)) → I listed us w → (o.after.all fun e => !Region.binds .any e || listed.getD e.on false) = true →
      listed.getD k false = false → ∀ K' : Act → World → Prop, (∀ us' a' w', puts a ds us' = a' → I (listed.setIfInBounds k true) us' w' → K' a' w') →
      StepGIn F n P ops Q o (puts a ds us) w K')
    (hs : StepsIn F n P ops Q I a ds (k + 1)) : StepsIn F n P ops Q I a ds k := fun i hki hi listed us w hsz hI hr => by
  by_cases e : i = k
  · subst e
    refine wpOpIn_step ho fun K' hK => (h listed us w (fun j hj => ?_) hI ?_ ?_ K' (fun us' a' w' e h => hK a' w' ⟨us', e, h⟩)).out
    · rw [Array.getD_eq_getD_getElem?, Array.getD_eq_getD_getElem?, Array.getElem?_setIfInBounds]
      by_cases hij : i = j
      · subst hij; simp [hsz, hi]
      · have : (j == i) = false := by simp; omega
        rw [if_neg hij, this, Bool.false_or]
    · obtain ⟨h1, o', h2, h3⟩ := mem_ready.1 hr
      rw [ho] at h2
      cases h2
      rw [Array.all_eq_true_iff_forall_mem]
      intro e he
      by_cases hb : Region.binds .any e = true
      · rw [h3 e he hb]; simp
      · simp [hb]
    · have h1 := (mem_ready.1 hr).1
      rw [Array.getD_eq_getD_getElem?, Array.getElem?_eq_getElem (by omega)] at h1 ⊢
      exact h1
  · exact hs i (by omega) hi listed us w hsz hI hr
theorem wpIn_region_inv {id : Nat} {a : Act} {w : World} (I : Array Bool → List Value → World → Prop) (ds : List Nat) (hm : P.follows .mixedOrders = true) (hB : afterC ops = true)
    (hI : I (Array.replicate ops.size false) (ds.map fun d => a.tmps.getD d undef) w.drew)
    (hs : StepsIn F n P ops Q I a ds 0)
    (hend : ∀ listed us w, I listed us w → (∀ j, j < ops.size → listed.getD j false = true) → Q .normal (puts a ds us) w) : (Code.region id ops true).wpIn F n P Q a w := by
  refine wpIn_region_any hm ?_
  refine wpAnyIn_inv (I := fun listed a' w' => listed.size = ops.size ∧ ∃ us, puts a ds us = a' ∧ I listed us w') hB ?_ ?_ _ _ _ _ (by simp) ⟨by simp, _, puts_self a ds, hI⟩
  · rintro i listed a' w' ⟨hsz, us, rfl, hI⟩ hr
    have hi : i < ops.size := by
      obtain ⟨_, o, ho, _⟩ := mem_ready.1 hr
      exact (Array.getElem?_eq_some_iff.1 ho).1
    exact wpOpIn_mono (fun a w h => ⟨by simp [hsz], h⟩) (hs i (Nat.zero_le _) hi listed us w' hsz hI hr)
  · rintro listed a' w' ⟨hsz, us, rfl, hI⟩ hall
    refine hend listed us w' hI (fun j hj => ?_)
    have := hall j hj
    rw [Array.getD_eq_getD_getElem?, Array.getElem?_eq_getElem (by omega)] at this ⊢
    exact this
/-- append to a row, as an operation of a region that draws, inside a fence. -/
theorem StepGIn.append_row {o : Oper} {a : Act} {w : World} {K' : Act → World → Prop} {B : Nat} {tag : Nat → Nat} {k : Nat} {sz : Nat} {v : Value} {nn : Nat} {cs : List Value} (hgd : o.guard = none) (s x : Operand) (tt : TypeId)
    (ho : o.op = .call { callee := .builtin .append, args := #[s, x], argTypes := #[tt, tt] })
    (e : TypeId) (i : TypeInfo) (z : Value) (bytes : Nat) (ht : P.underlying tt = some (.slice e)) (hi : P.info? e = some i) (hz : i.zero = some z)
    (hsize : i.size = sz) (hby : i.bytes = bytes) (hzs : z.cells.size = sz) (hs : a.eval s = v) (hrow : Row w B tag k e sz v nn cs)
    (ao : Option Addr) (m c : Nat) (news : List Value) (hx : a.eval x = .slice ao m c) (hl : news.length = m * sz) (hnone : ao = none → m = 0 ∧ c = 0)
    (hnews : ∀ ad, ao = some ad → ∀ j u, news[j]? = some u → w.cell? (ad.add j) = some u) (h1 : ∀ u ∈ news, u.oneCell' = true)
    (h63 : nn + m ≤ maxLen) (hbytes : (nn + m) * bytes ≤ 140737488355328) (hB : B ≤ w.heap.size)
    (h : ∀ v' w' tag', Row w' B tag' k e sz v' (nn + m) (cs ++ news) → Turn B tag tag' k w w' → K' (a.put o.dst v') w') : StepGIn F n P ops Q o a w K' := by
  obtain ⟨v', w', tag', hrun, h2, h3⟩ := run_append_row (P := P) (w := w) (ty := o.type) tt e i z bytes ht hi hz hsize hby hzs hrow ao m c news hl hnone hnews h1 h63 hbytes hB
  refine StepGIn.mk ?_
  rw [if_pos (by simp [Region.wanted, hgd])]
  unfold Oper.wpIn
  refine ⟨?_, ?_⟩
  · simp [Oper.about, ho, resolve, Target.leads, Sem.run_pure]
  · rw [Oper.semAt_plain F _ _ (by rw [ho]; intro c hc'; cases hc')]
    simp [execOp, ho, resolve, invoke, builtin, hs, hx, hrun, Result.andThen]
    exact h v' w' tag' h2 h3
end
end Go.Proofs.Ythchkddhibhenaa

/- What holds while an edge is appended to the edges of the result, in whatever order. -/
namespace Go.Proofs.Ythchkddhibhenaa
open Go Go.RowKit

theorem edCells_snoc (E : List Ed) (y : Ed) : edCells (E ++ [y]) = edCells E ++ y.cells := by simp [edCells, Ed.cells, List.flatMap_append]

/-- Φ c: the rest, where the edges' cell holds c; PR: the slots that hold no memory of the edges. -/
structure RX (Φ : Value → (Nat → Nat) → World → Prop) (PR : Nat → Value → Prop) (B : Nat) (E : List Ed) (y : Ed) (ve : Value) (l : Array Bool) (us : List Value) (tag : Nat → Nat) (W : World) : Prop where
  len : us.length = 15
  size : B ≤ W.heap.size
  phi : Φ (if l.getD 15 false = true then us.getD 13 undef else ve) tag W
  pure : ∀ j, j < 15 → l.getD j false = true → PR j (us.getD j undef)
  s1 : l.getD 13 false = false → Row W B tag 8 45 3 ve E.length (edCells E)
  s12 : l.getD 12 false = true → l.getD 13 false = false → Row W B tag 11 45 3 (us.getD 12 undef) 1 y.cells
  s13 : l.getD 13 false = true → Row W B tag 8 45 3 (us.getD 13 undef) (E.length + 1) (edCells (E ++ [y]))
  o13 : l.getD 13 false = true → l.getD 12 false = true ∧ l.getD 1 false = true
  o15 : l.getD 15 false = true → l.getD 13 false = true

section
variable {Φ : Value → (Nat → Nat) → World → Prop} {PR : Nat → Value → Prop} {B : Nat} {E : List Ed} {y : Ed} {ve : Value} {l : Array Bool} {us : List Value} {tag tag' : Nat → Nat} {W W' : World} {k : Nat} {v : Value}
theorem pure_nextC {PR : Nat → Value → Prop} {l : Array Bool} {us : List Value} {k m N : Nat} {v : Value} (hl : ∀ j, j < N → (l.setIfInBounds k true).getD j false = (j == k || l.getD j false)) (hm : m ≤ N) (hlen : m ≤ us.length) (hp : ∀ j, j < m → l.getD j false = true → PR j (us.getD j undef)) (hv : PR k v) : ∀ j, j < m → (l.setIfInBounds k true).getD j false = true → PR j ((us.set k v).getD j undef) := by
  intro j hj h
  by_cases e : k = j
  · subst e
    rw [List.getD_eq_getElem?_getD, List.getElem?_set_self (by omega)]
    exact hv
  · rw [hl j (by omega), show (j == k) = false by simp; omega, Bool.false_or] at h
    rw [set_ne e]
    exact hp j hj h
theorem RX.start (hlen : us.length = 15) (hs : B ≤ W.heap.size) (hphi : Φ ve tag W) (h1 : Row W B tag 8 45 3 ve E.length (edCells E)) : RX Φ PR B E y ve (Array.replicate 16 false) us tag W := by
  have h : ∀ j, (Array.replicate 16 false).getD j false = true → False := by
    intro j
    rw [Array.getD_eq_getD_getElem?, Array.getElem?_replicate]
    split <;> simp
  refine ⟨hlen, hs, ?_, fun j _ e => (h _ e).elim, fun _ => h1, fun e => (h _ e).elim, fun e => (h _ e).elim, fun e => (h _ e).elim, fun e => (h _ e).elim⟩
  rw [if_neg (fun e => h _ e)]
  exact hphi
theorem RX.pureStep (h : RX Φ PR B E y ve l us tag W) (hl : ∀ j, j < 16 → (l.setIfInBounds k true).getD j false = (j == k || l.getD j false)) (hk : k < 12 ∨ k = 14) (hv : PR k v) : RX Φ PR B E y ve (l.setIfInBounds k true) (us.set k v) tag W := by
  have e12 := hl 12 (by decide)
  have e13 := hl 13 (by decide)
  have e15 := hl 15 (by decide)
  rw [show ((12 : Nat) == k) = false by simp; omega, Bool.false_or] at e12
  rw [show ((13 : Nat) == k) = false by simp; omega, Bool.false_or] at e13
  rw [show ((15 : Nat) == k) = false by simp; omega, Bool.false_or] at e15
  refine ⟨by rw [List.length_set]; exact h.len, h.size, ?_, pure_nextC hl (by decide) (by rw [h.len]; decide) h.pure hv, ?_, ?_, ?_, ?_, ?_⟩
  · rw [e15, set_ne (by omega)]; exact h.phi
  · rw [e13]; exact h.s1
  · rw [e12, e13, set_ne (by omega)]; exact h.s12
  · rw [e13, set_ne (by omega)]; exact h.s13
  · rw [e12, e13]
    intro e
    refine ⟨(h.o13 e).1, ?_⟩
    rw [hl 1 (by decide), (h.o13 e).2, Bool.or_true]
  · rw [e15, e13]; exact h.o15
/-- The edge's own list. -/
theorem RX.op12 (h : RX Φ PR B E y ve l us tag W) (hl : ∀ j, j < 16 → (l.setIfInBounds 12 true).getD j false = (j == 12 || l.getD j false)) (hphi : ∀ c, Φ c tag W → Φ c (tagUp tag W.heap.size 11) (W.alloc (.cells y.cells.toArray 45))) (hn : l.getD 12 false = false) (hv : ∀ v, PR 12 v) :
    RX Φ PR B E y ve (l.setIfInBounds 12 true) (us.set 12 (.slice (some ⟨W.heap.size, 0, none⟩) 1 1)) (tagUp tag W.heap.size 11) (W.alloc (.cells y.cells.toArray 45)) := by
  have h13 : l.getD 13 false = false := by
    cases h13 : l.getD 13 false with
    | false => rfl
    | true => rw [(h.o13 h13).1] at hn; cases hn
  have h15 : l.getD 15 false = false := by
    cases h15 : l.getD 15 false with
    | false => rfl
    | true => rw [h.o15 h15] at h13; cases h13
  have hp := h.phi
  rw [h15] at hp
  refine ⟨by rw [List.length_set]; exact h.len, by have := h.size; simp; omega, ?_, pure_nextC hl (by decide) (by rw [h.len]; decide) h.pure (hv _), ?_, ?_, ?_, ?_, ?_⟩
  · rw [hl 15 (by decide), show ((15 : Nat) == 12) = false from rfl, Bool.false_or, h15]
    exact hphi _ hp
  · rw [hl 13 (by decide), show ((13 : Nat) == 12) = false from rfl, Bool.false_or]
    exact fun e => (h.s1 e).up _ _
  · intro _ _
    rw [set_self h.len (by decide)]
    refine ⟨by simp [Ed.cells], .inr ⟨W.heap.size, 0, 1, y.cells.toArray, rfl, Own.new W B _ 11 _ _ h.size (tagUp_at _ _ _), Nat.le_refl _, by show 1 ≤ maxLen; decide, by simp [Ed.cells], by simp [Ed.cells]⟩⟩
  · rw [hl 13 (by decide), show ((13 : Nat) == 12) = false from rfl, Bool.false_or, h13]; intro e; cases e
  · rw [hl 13 (by decide), show ((13 : Nat) == 12) = false from rfl, Bool.false_or, h13]; intro e; cases e
  · rw [hl 15 (by decide), hl 13 (by decide)]; exact h.o15
/-- The append. -/
theorem RX.op13 (h : RX Φ PR B E y ve l us tag W) (hl : ∀ j, j < 16 → (l.setIfInBounds 13 true).getD j false = (j == 13 || l.getD j false)) (hphi : ∀ c, Φ c tag W → Φ c tag' W') (hn : l.getD 13 false = false) (h12 : l.getD 12 false = true) (h1 : l.getD 1 false = true) (hv : ∀ v, PR 13 v)
    (ht : Turn B tag tag' 8 W W') (hr : Row W' B tag' 8 45 3 v (E.length + 1) (edCells E ++ y.cells)) :
    RX Φ PR B E y ve (l.setIfInBounds 13 true) (us.set 13 v) tag' W' := by
  have h15 : l.getD 15 false = false := by
    cases h15 : l.getD 15 false with
    | false => rfl
    | true => rw [h.o15 h15] at hn; cases hn
  have hp := h.phi
  rw [h15] at hp
  refine ⟨by rw [List.length_set]; exact h.len, Nat.le_trans h.size ht.size, ?_, pure_nextC hl (by decide) (by rw [h.len]; decide) h.pure (hv _), ?_, ?_, ?_, ?_, ?_⟩
  · rw [hl 15 (by decide), show ((15 : Nat) == 13) = false from rfl, Bool.false_or, h15]
    exact hphi _ hp
  · rw [hl 13 (by decide)]; intro e; cases e
  · rw [hl 13 (by decide)]; intro _ e; cases e
  · intro _
    rw [set_self h.len (by decide), edCells_snoc]
    exact hr
  · intro _; rw [hl 12 (by decide), h12, hl 1 (by decide), h1]; exact ⟨rfl, rfl⟩
  · intro _; rw [hl 13 (by decide)]; rfl
/-- The store of the edges. -/
theorem RX.op15 {b8 : Nat} (h : RX Φ PR B E y ve l us tag W) (hl : ∀ j, j < 16 → (l.setIfInBounds 15 true).getD j false = (j == 15 || l.getD j false)) (hphi : ∀ c c', Φ c tag W → Φ c' tag (W.setCell ⟨b8, 3, none⟩ c') ∧ Turn B tag tag 6 W (W.setCell ⟨b8, 3, none⟩ c')) (hn : l.getD 15 false = false) (h13 : l.getD 13 false = true) :
    RX Φ PR B E y ve (l.setIfInBounds 15 true) us tag (W.setCell ⟨b8, 3, none⟩ (us.getD 13 undef)) := by
  have hp := h.phi
  rw [hn] at hp
  obtain ⟨p1, p2⟩ := hphi _ (us.getD 13 undef) hp
  refine ⟨h.len, Nat.le_trans h.size p2.size, ?_, ?_, ?_, ?_, ?_, ?_, ?_⟩
  · rw [hl 15 (by decide)]; exact p1
  · intro j hj; rw [hl j (by omega), show (j == 15) = false by simp; omega, Bool.false_or]; exact h.pure j hj
  · rw [hl 13 (by decide), h13]; intro e; cases e
  · rw [hl 13 (by decide), h13]; intro _ e; cases e
  · rw [hl 13 (by decide), show ((13 : Nat) == 15) = false from rfl, Bool.false_or]; exact fun e => (h.s13 e).turn p2 (by decide)
  · rw [hl 13 (by decide), hl 12 (by decide), hl 1 (by decide)]; exact h.o13
  · intro _; rw [hl 13 (by decide), h13]; rfl
end
theorem list15 {us : List Value} (h : us.length = 15) : ∃ u0 u1 u2 u3 u4 u5 u6 u7 u8 u9 u10 u11 u12 u13 u14, us = [u0, u1, u2, u3, u4, u5, u6, u7, u8, u9, u10, u11, u12, u13, u14] := by
  match us, h with
  | [u0, u1, u2, u3, u4, u5, u6, u7, u8, u9, u10, u11, u12, u13, u14], _ => exact ⟨_, _, _, _, _, _, _, _, _, _, _, _, _, _, _, rfl⟩
end Go.Proofs.Ythchkddhibhenaa

/- The contract of newGraph, with the list that it has made as the call's own. -/
namespace Go.Proofs.Ythchkddhibhenaa
open Go.RowKit

theorem newGraph_row (aa am : Option Addr) (la lm ca cm : Nat) (ve : Value) (n : Nat) (es : List Ed) (w : World) (hr : RdE w ve es) (hl : es.length ≤ 1000000) (hn : n ≤ 1000000) (hin : ∀ x ∈ es, 0 ≤ x.f ∧ x.f < n) :
    Calls Try.prog 48 #[.agg #[.slice aa la ca, .int .i64 n, .slice am lm cm, ve]] w (Ret w fun u w' => ∃ af cf tag, u = .agg #[.slice aa la ca, .int .i64 n, .slice am lm cm, ve, .slice af (n + 1) cf] ∧ Row w' w.heap.size tag 1 3 1 (.slice af (n + 1) cf) (n + 1) (ints (firsts n es))) := by
  obtain ⟨a, cap, rfl, hr⟩ := hr
  obtain ⟨i0, hi, hz0, hz1, hz2⟩ := info_parts Try.info_int
  have Hin := Lib.hid hin
  clear hin
  have hmk := fun W : World => run_make (P := Try.prog) W 28 3 i0 (.int .i64 0) Try.underlying28 hi hz0 .i64 .i64 ((n : Int) + 1) ((n : Int) + 1) (by omega) (by omega) (by rw [hz2]; omega) (by omega)
  have hwr : IntKind.i64.wrap ((n : Int) + 1) = (n : Int) + 1 := IntWalk.i64_in _ (by omega)
  go_enter Try.func48, Try.ntmps48
  go_upto_region 1 with fail
  go_cut [3] (fun s3 wx => ∃ (g r : Nat) (tag : Nat → Nat), s3 = .pointer (some ⟨g, 0, none⟩) ∧ Below w.heap.size w wx ∧
    Own wx w.heap.size tag 0 w.heap.size #[.slice aa la ca, .int .i64 n, .slice am lm cm, .slice a es.length cap] 31 ∧
    Own wx w.heap.size tag 0 (w.heap.size + 1) #[.slice none 0 0, .int .i64 0, .slice none 0 0, .slice none 0 0, .slice none 0 0] 80 ∧
    Own wx w.heap.size tag 0 g #[.slice aa la ca, .int .i64 n, .slice am lm cm, .slice a es.length cap, .slice (some ⟨r, 0, none⟩) (n + 1) (n + 1)] 80 ∧
    Row wx w.heap.size tag 1 3 1 (.slice (some ⟨r, 0, none⟩) (n + 1) (n + 1)) (n + 1) (List.replicate (n + 1) (.int .i64 0)))
  case first =>
    go_region
    all_goals go_wp2
    all_goals go_meet
    all_goals
      first
      | exact ⟨w.heap.size + 2, w.heap.size + 3, fun b => if b = w.heap.size + 3 then 1 else 0, rfl, (by (repeat (first | with_reducible exact Below.refl _ _ | with_reducible exact hr | (with_reducible refine belCall ?_ hr (by first | omega | (simp; done) | (simp; omega) | (simp at *; omega))) | (with_reducible refine Below.alloc ?_ (by first | omega | (simp; done) | (simp; omega) | (simp at *; omega)) _) | (with_reducible refine Below.drew ?_) | (with_reducible refine Below.setCell ?_ (by first | omega | (simp; done) | (simp; omega) | (simp at *; omega)) _)))), ⟨(by repeat (first | with_reducible assumption | (refine heap_drewp ?_) | (refine heap_at ?_; (first | rfl | (simp; done) | (simp; omega))) | (refine heap_past ?_ ?_; (next => first | omega | (simp; done) | (simp; omega))))), by simp, by omega⟩, ⟨(by repeat (first | with_reducible assumption | (refine heap_drewp ?_) | (refine heap_at ?_; (first | rfl | (simp; done) | (simp; omega))) | (refine heap_past ?_ ?_; (next => first | omega | (simp; done) | (simp; omega))))), by simp, by omega⟩, ⟨(by repeat (first | with_reducible assumption | (refine heap_drewp ?_) | (refine heap_at ?_; (first | rfl | (simp; done) | (simp; omega))) | (refine heap_past ?_ ?_; (next => first | omega | (simp; done) | (simp; omega))))), by simp, by omega⟩, ⟨by simp, .inr ⟨_, 0, _, madeCells #[.int .i64 0] (n + 1), rfl, ⟨(by repeat (first | with_reducible assumption | (refine heap_drewp ?_) | (refine heap_at ?_; (first | rfl | (simp; done) | (simp; omega))) | (refine heap_past ?_ ?_; (next => first | omega | (simp; done) | (simp; omega))))), by simp, by omega⟩, by omega, by unfold maxLen; omega, by simp [size_madeCells], by simp [toList_madeCells_one]⟩⟩⟩
      | exact ⟨w.heap.size + 3, w.heap.size + 2, fun b => if b = w.heap.size + 2 then 1 else 0, rfl, (by (repeat (first | with_reducible exact Below.refl _ _ | with_reducible exact hr | (with_reducible refine belCall ?_ hr (by first | omega | (simp; done) | (simp; omega) | (simp at *; omega))) | (with_reducible refine Below.alloc ?_ (by first | omega | (simp; done) | (simp; omega) | (simp at *; omega)) _) | (with_reducible refine Below.drew ?_) | (with_reducible refine Below.setCell ?_ (by first | omega | (simp; done) | (simp; omega) | (simp at *; omega)) _)))), ⟨(by repeat (first | with_reducible assumption | (refine heap_drewp ?_) | (refine heap_at ?_; (first | rfl | (simp; done) | (simp; omega))) | (refine heap_past ?_ ?_; (next => first | omega | (simp; done) | (simp; omega))))), by simp, by omega⟩, ⟨(by repeat (first | with_reducible assumption | (refine heap_drewp ?_) | (refine heap_at ?_; (first | rfl | (simp; done) | (simp; omega))) | (refine heap_past ?_ ?_; (next => first | omega | (simp; done) | (simp; omega))))), by simp, by omega⟩, ⟨(by repeat (first | with_reducible assumption | (refine heap_drewp ?_) | (refine heap_at ?_; (first | rfl | (simp; done) | (simp; omega))) | (refine heap_past ?_ ?_; (next => first | omega | (simp; done) | (simp; omega))))), by simp, by omega⟩, ⟨by simp, .inr ⟨_, 0, _, madeCells #[.int .i64 0] (n + 1), rfl, ⟨(by repeat (first | with_reducible assumption | (refine heap_drewp ?_) | (refine heap_at ?_; (first | rfl | (simp; done) | (simp; omega))) | (refine heap_past ?_ ?_; (next => first | omega | (simp; done) | (simp; omega))))), by simp, by omega⟩, by omega, by unfold maxLen; omega, by simp [size_madeCells], by simp [toList_madeCells_one]⟩⟩⟩
  case rest =>
    obtain ⟨g, r, tag, rfl, hB, hb0, hb1, hg, hrow⟩ := hcut
    clear hmk
    have e3 : wc.cell? ⟨w.heap.size, 3, none⟩ = some (.slice a es.length cap) := hb0.cell 3
    go_wp2_with fail
    clear e3
    go_loopw [16] (fun j wr => ∃ (k : Nat) (tag : Nat → Nat), k ≤ es.length ∧ j = .int .i64 k ∧ Below w.heap.size w wr ∧
      Own wr w.heap.size tag 0 w.heap.size #[.slice aa la ca, .int .i64 n, .slice am lm cm, .slice a es.length cap] 31 ∧
      Own wr w.heap.size tag 0 (w.heap.size + 1) #[.slice none 0 0, .int .i64 0, .slice none 0 0, .slice none 0 0, .slice none 0 0] 80 ∧
      Own wr w.heap.size tag 0 g #[.slice aa la ca, .int .i64 n, .slice am lm cm, .slice a es.length cap, .slice (some ⟨r, 0, none⟩) (n + 1) (n + 1)] 80 ∧
      Row wr w.heap.size tag 1 3 1 (.slice (some ⟨r, 0, none⟩) (n + 1) (n + 1)) (n + 1) (ints (cnt1 n (es.take k)))) (fun j _ => es.length - (intOf j).toNat)
    case atStart => exact ⟨0, tag, Nat.zero_le _, rfl, hB, hb0, hb1, hg, by rw [List.take_zero, cnt1_nil]; exact hrow⟩
    case round =>
      clear hB hb0 hb1 hg hrow
      obtain ⟨k, tag, hk, rfl, hB, hb0, hb1, hg, hrow⟩ := hrel
      by_cases hlt : k < es.length
      · obtain ⟨b, off, rfl, c0, c1, c2⟩ := hr.at_edge k hlt
        obtain ⟨hx0, hx1⟩ := Hin.out es[k] (List.getElem_mem hlt)
        replace c0 := keep0 hB c0
        replace c1 := keep0 hB c1
        replace c2 := keep0 hB c2
        obtain ⟨c, d0, d1, d2, d3⟩ := cnt1_snoc n (es.take k) es[k] hx0 hx1
        have hlk : (es.take k).length ≤ 1000000 := by simp; omega
        have hgl := hg.lt
        have e4 : wr.cell? ⟨g, 4, none⟩ = some (.slice (some ⟨r, 0, none⟩) (n + 1) (n + 1)) := hg.cell 4
        have e5 := hrow.cellAt (es[k].f + 1).toNat (by omega)
        rw [d2, Nat.zero_add] at e5
        have e6 := hrow.frozenAt (es[k].f + 1).toNat
        obtain ⟨_, _, _, e7, hrl, _⟩ := hrow.addr (by omega)
        cases e7
        have hst := hrow.set (es[k].f + 1).toNat (.int .i64 (c + 1))
        rw [Nat.zero_add, ← d3, ← take_snoc es k hlt] at hst
        have Hst := Lib.hid hst
        clear d2 d3 hst
        go_wp2
        go_roundw
        case rel => exact ⟨k + 1, tag, by omega, by go_num, (belTurn hB Hst.out.2 hB.size).alloc (by simp; exact hB.size) _, (hb0.turn Hst.out.2 (by decide)).below (bel_alloc _ _), (hb1.turn Hst.out.2 (by decide)).below (bel_alloc _ _), (hg.turn Hst.out.2 (by decide)).below (bel_alloc _ _), Hst.out.1.below (bel_alloc _ _)⟩
        case measure => simp [intOf]; omega
      · obtain rfl : k = es.length := by omega
        rw [List.take_length] at hrow
        have e1 : wr.cell? ⟨w.heap.size, 1, none⟩ = some (.int .i64 n) := hb0.cell 1
        rw [← cnt2_zero n es (fun x hx => (Hin.out x hx).1)] at hrow
        go_wp2_with fail
        clear e1
        go_loopw [32] (fun j wr => ∃ (k : Nat) (tag : Nat → Nat), k ≤ n ∧ j = .int .i64 k ∧ Below w.heap.size w wr ∧
          Own wr w.heap.size tag 0 (w.heap.size + 1) #[.slice none 0 0, .int .i64 0, .slice none 0 0, .slice none 0 0, .slice none 0 0] 80 ∧
          Own wr w.heap.size tag 0 g #[.slice aa la ca, .int .i64 n, .slice am lm cm, .slice a es.length cap, .slice (some ⟨r, 0, none⟩) (n + 1) (n + 1)] 80 ∧
          Row wr w.heap.size tag 1 3 1 (.slice (some ⟨r, 0, none⟩) (n + 1) (n + 1)) (n + 1) (ints (cnt2 n es k))) (fun j _ => n - (intOf j).toNat)
        case atStart => exact ⟨0, tag, Nat.zero_le _, rfl, hB, hb1, hg, hrow⟩
        case round =>
          clear hB hb0 hb1 hg hrow
          obtain ⟨k, tag, hk, rfl, hB, hb1, hg, hrow⟩ := hrel
          by_cases hlt : k < n
          · obtain ⟨c, d, d0, d1, d2, d3, d4, d5, d6⟩ := cnt2_step n es k hlt
            have hgl := hg.lt
            have e4 : wr.cell? ⟨g, 4, none⟩ = some (.slice (some ⟨r, 0, none⟩) (n + 1) (n + 1)) := hg.cell 4
            have e5 := hrow.cellAt (k + 1) (by omega)
            have e6 := hrow.cellAt k (by omega)
            rw [d4, Nat.zero_add] at e5
            rw [d5, Nat.zero_add] at e6
            have e7 := hrow.frozenAt (k + 1)
            obtain ⟨_, _, _, e8, hrl, _⟩ := hrow.addr (by omega)
            cases e8
            have hst := hrow.set (k + 1) (.int .i64 (c + d))
            rw [Nat.zero_add, ← d6] at hst
            have Hst := Lib.hid hst
            clear d4 d5 d6 hst
            go_wp2
            go_region
            go_wp2
            go_roundw
            case rel => exact ⟨k + 1, tag, by omega, by go_num, (belTurn hB Hst.out.2 hB.size).drew, (hb1.turn Hst.out.2 (by decide)).below (bel_drew _), (hg.turn Hst.out.2 (by decide)).below (bel_drew _), Hst.out.1.below (bel_drew _)⟩
            case measure => simp [intOf]; omega
          · obtain rfl : n = k := by omega
            have g0 : wr.cell? ⟨g, 0, none⟩ = some (Value.slice aa la ca) := hg.cell 0
            have g1 : wr.cell? ⟨g, 1, none⟩ = some (Value.int .i64 n) := hg.cell 1
            have g2 : wr.cell? ⟨g, 2, none⟩ = some (Value.slice am lm cm) := hg.cell 2
            have g3 : wr.cell? ⟨g, 3, none⟩ = some (Value.slice a es.length cap) := hg.cell 3
            have g4 : wr.cell? ⟨g, 4, none⟩ = some (Value.slice (some ⟨r, 0, none⟩) (n + 1) (n + 1)) := hg.cell 4
            have z0 : wr.cell? ⟨w.heap.size + 1, 0, none⟩ = some (Value.slice none 0 0) := hb1.cell 0
            have y0 := hb1.frozen 0
            have z1 : wr.cell? ⟨w.heap.size + 1, 1, none⟩ = some (Value.int .i64 0) := hb1.cell 1
            have y1 := hb1.frozen 1
            have z2 : wr.cell? ⟨w.heap.size + 1, 2, none⟩ = some (Value.slice none 0 0) := hb1.cell 2
            have y2 := hb1.frozen 2
            have z3 : wr.cell? ⟨w.heap.size + 1, 3, none⟩ = some (Value.slice none 0 0) := hb1.cell 3
            have y3 := hb1.frozen 3
            have z4 : wr.cell? ⟨w.heap.size + 1, 4, none⟩ = some (Value.slice none 0 0) := hb1.cell 4
            have y4 := hb1.frozen 4
            go_wp2
            have t0 := Turn.setCell hb1 0 (Value.slice aa la ca)
            have b0 := hb1.set 0 (Value.slice aa la ca)
            have t1 := Turn.setCell b0 1 (Value.int .i64 n)
            have b1 := b0.set 1 (Value.int .i64 n)
            have t2 := Turn.setCell b1 2 (Value.slice am lm cm)
            have b2 := b1.set 2 (Value.slice am lm cm)
            have t3 := Turn.setCell b2 3 (Value.slice a es.length cap)
            have b3 := b2.set 3 (Value.slice a es.length cap)
            have t4 := Turn.setCell b3 4 (Value.slice (some ⟨r, 0, none⟩) (n + 1) (n + 1))
            have b4 := b3.set 4 (Value.slice (some ⟨r, 0, none⟩) (n + 1) (n + 1))
            have T := t0.trans (t1.trans (t2.trans (t3.trans t4)))
            have hrow' := hrow.turn T (by decide)
            rw [cnt2_last] at hrow'
            exact bodyPost_ret (v := .agg #[.slice aa la ca, .int .i64 n, .slice am lm cm, .slice a es.length cap, .slice (some ⟨r, 0, none⟩) (n + 1) (n + 1)]) (by simp [results, Try.results48, go_sem, z0, z1, z2, z3, z4]) rfl ⟨_, rfl, ⟨_, _, _, rfl, hrow'⟩, belTurn hB T hB.size⟩
end Go.Proofs.Ythchkddhibhenaa

/- Ranging over the edges of a state where the body holds the edge in a box: the frames are told out of the frame at the loop. -/
namespace Go.Proofs.Ythchkddhibhenaa
open Go.RowKit Go.Shelf

theorem wp_edges_lt {g : Operand} {ps : Array Tmp} {assign body : Code} {Q : Exit → Act → World → Prop} {a : Act} {w : World} {bg bs n₀ N : Nat} {sub : List Ed} {w0 : World}
    (hg : a.eval g = .func (.func 84) #[] #[.pointer (some ⟨bg, 0, none⟩), .pointer (some ⟨bs, 0, none⟩)])
    (hseq : SeqStopsK Fence.wide 3 Try.prog 84 #[.pointer (some ⟨bg, 0, none⟩), .pointer (some ⟨bs, 0, none⟩)] (edEnc (sub := sub)) (Below n₀) (fun ys => ys.map (·.1) = sub) (fun _ => True) N w0)
    (hb0 : Below w0.heap.size w0 w) (hn0 : n₀ ≤ w.heap.size) (hps : ps.size = 1)
    (I : List Ed → World → Prop) (hI : OwnFrom w.heap.size I) (h0 : I [] w) (Ax : Ed → Act → World → Prop) (hAx : ∀ x a', OwnFrom w.heap.size (fun (_ : Unit) W => Ax x a' W))
    (hassign : ∀ (l : Nat) (pre : List Ed) (x : Ed) (W : World) (K : Act → World → Prop), x ∈ sub → I pre W → (∀ a' W', KeepsFrom w.heap.size W W' → Below n₀ W W' → I pre W' → Ax x a' W' → K a' W') →
      assign.wpIn (Fence.wide.inRound l) 2 Try.prog (Exit.then K (fun _ _ _ => False)) { tmps := (ps.zip #[x.val]).foldl (fun t (p, v) => t.setIfInBounds p v) a.tmps, defers := [] } W)
    (hbody : ∀ (l : Nat) (pre : List Ed) (x : Ed) (a' : Act) (W : World), x ∈ sub → w.heap.size ≤ l → pre.length < N → I pre W → Ax x a' W →
      body.wpIn (Fence.wide.inRound l) 2 Try.prog (ownPostG w.heap.size (Below n₀) I (fun _ _ _ => False) (pre ++ [x]) W) a' W)
    (hdone : ∀ (D : Nat) (W : World), w.heap.size ≤ D → I sub W → W.heap[D]? = some (.deferred (some [])) → Q .normal { a with defers := mark D :: a.defers } W) :
    (Code.rangeFunc g ps assign body).wp Try.prog Q a w := by
  refine wpIn_wide.1 (wpIn_rangeFunc_ownH (n := 4) rfl (by decide) hg trivial (enters_of Try.func84 (by kernel_rfl) rfl) hseq belowK_t (belowK_b hn0) hb0 (fun _ => by simp [edEnc, hps])
    (fun (pre : List { x : Ed // x ∈ sub }) W => I (pre.map (fun y => y.1)) W) (fun _ _ _ => False) (fun pre W W' row h1 h2 h3 => hI (pre.map (fun y => y.1)) W W' row h1 h2 h3) (fun _ _ _ _ _ h _ _ => h) h0 (fun x a' W => Ax x.1 a' W) (fun x a' => hAx x.1 a')
    (fun l pre x W K hi hK => hassign l (pre.map (fun y => y.1)) x.1 W K x.2 hi hK) (fun l pre x a' W hl _ hi hax hlt => ?_) (fun D ys W hD hS hi hd => ?_) (fun _ _ _ _ _ _ h => h.elim))
  · have := hbody l (pre.map (fun y => y.1)) x.1 a' W x.2 hl (by rw [List.length_map]; exact hlt) hi hax
    refine wpIn_mono this ?_
    intro e a2 W2 h2
    cases e <;> simp only [ownPostG] at h2 ⊢
    · exact ⟨h2.1, h2.2.1, by rw [List.map_append]; exact h2.2.2⟩
    all_goals exact h2
  · exact hdone D W hD (by rw [← hS]; exact hi) hd

theorem wp_edges_box {g : Operand} {ps : Array Tmp} {assign body : Code} {Q : Exit → Act → World → Prop} {a : Act} {w : World} {bg bs n₀ N : Nat} {sub : List Ed} {w0 : World}
    (hg : a.eval g = .func (.func 84) #[] #[.pointer (some ⟨bg, 0, none⟩), .pointer (some ⟨bs, 0, none⟩)])
    (hseq : SeqStopsK Fence.wide 3 Try.prog 84 #[.pointer (some ⟨bg, 0, none⟩), .pointer (some ⟨bs, 0, none⟩)] (edEnc (sub := sub)) (Below n₀) (fun ys => ys.map (·.1) = sub) (fun _ => True) N w0)
    (hb0 : Below w0.heap.size w0 w) (hn0 : n₀ ≤ w.heap.size) (p q : Nat) (hps : ps = #[p])
    (I : List Ed → World → Prop) (hI : OwnFrom w.heap.size I) (h0 : I [] w) (B : Ed → Nat → World → Prop) (hB : ∀ x b, OwnFrom w.heap.size (fun (_ : Unit) W => B x b W))
    (hassign : ∀ (l : Nat) (pre : List Ed) (x : Ed) (W : World) (K : Act → World → Prop), x ∈ sub → I pre W → (∀ b W', KeepsFrom w.heap.size W W' → Below n₀ W W' → I pre W' → B x b W' → K { tmps := (a.tmps.setIfInBounds p x.val).setIfInBounds q (.pointer (some ⟨b, 0, none⟩)), defers := [] } W') →
      assign.wpIn (Fence.wide.inRound l) 2 Try.prog (Exit.then K (fun _ _ _ => False)) { tmps := a.tmps.setIfInBounds p x.val, defers := [] } W)
    (hbody : ∀ (l : Nat) (pre : List Ed) (x : Ed) (b : Nat) (W : World), x ∈ sub → w.heap.size ≤ l → pre.length < N → I pre W → B x b W →
      body.wpIn (Fence.wide.inRound l) 2 Try.prog (ownPostG w.heap.size (Below n₀) I (fun _ _ _ => False) (pre ++ [x]) W) { tmps := (a.tmps.setIfInBounds p x.val).setIfInBounds q (.pointer (some ⟨b, 0, none⟩)), defers := [] } W)
    (hdone : ∀ (D : Nat) (W : World), w.heap.size ≤ D → I sub W → W.heap[D]? = some (.deferred (some [])) → Q .normal { a with defers := mark D :: a.defers } W) :
    (Code.rangeFunc g ps assign body).wp Try.prog Q a w := by
  subst hps
  refine wp_edges_lt hg hseq hb0 hn0 rfl I hI h0 (fun x a' W => ∃ b, B x b W ∧ a' = { tmps := (a.tmps.setIfInBounds p x.val).setIfInBounds q (.pointer (some ⟨b, 0, none⟩)), defers := [] }) ?_ ?_ ?_ hdone
  · intro x a' u W W' row h1 h2 h3
    obtain ⟨b, hb, e⟩ := h1
    exact ⟨b, hB x b u W W' row hb h2 h3, e⟩
  · intro l pre x W K hx hi hK
    have h := hassign l pre x W K hx hi (fun b W' h1 h2 h3 h4 => hK _ W' h1 h2 h3 ⟨b, h4, rfl⟩)
    have e : (Array.zip #[p] #[x.val]) = #[(p, x.val)] := by simp [Array.zip]
    rw [e]
    simp only [List.foldl_toArray, List.foldl_cons, List.foldl_nil, List.size_toArray, List.length_cons, List.length_nil, List.foldl_toArray']
    exact h
  · rintro l pre x a' W hx hl hlt hi ⟨b, hb, rfl⟩
    exact hbody l pre x b W hx hl hlt hi hb
end Go.Proofs.Ythchkddhibhenaa
