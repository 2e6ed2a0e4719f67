/- Two lists of flags that are made, each in a box, in whatever order. -/
import Derived.Test.YthchkddhibhenaaPathW
import Derived.Test.YthchkddhibhenaaRegInv
namespace Go.Proofs.Ythchkddhibhenaa
open Go.RowKit

/-- What holds while both lists of flags are made, each in a box. -/
structure RBox (w : World) (aa am ae : Option Addr) (la lm le ca cm ce n : Nat) (v44 v47 : Value) (F1 F2 : List Bool) (l : Array Bool) (u43 u44 u45 u46 u47 u48 u15 u16 : Value) (tag : Nat → Nat) (W : World) : Prop where
  bel : Below w.heap.size w W
  box : Box4 W tag w.heap.size (.slice aa la ca) (.int .i64 n) (.slice am lm cm) (.slice ae le ce)
  s43 : l.getD 0 false = true → u43 = .agg #[.slice aa la ca, .int .i64 n, .slice am lm cm, .slice ae le ce]
  s44 : l.getD 1 false = true → u44 = v44
  s45 : l.getD 2 false = true → Row W w.heap.size tag 3 4 1 u45 n (bools F1)
  s46 : l.getD 3 false = true → u46 = .agg #[.slice aa la ca, .int .i64 n, .slice am lm cm, .slice ae le ce]
  s47 : l.getD 4 false = true → u47 = v47
  s48 : l.getD 5 false = true → Row W w.heap.size tag 4 4 1 u48 n (bools F2)
  s15 : l.getD 6 false = true → ∃ b, u15 = .pointer (some ⟨b, 0, none⟩) ∧ Own W w.heap.size tag 1 b #[if l.getD 8 false = true then u45 else .slice none 0 0] 86
  s16 : l.getD 7 false = true → ∃ b, u16 = .pointer (some ⟨b, 0, none⟩) ∧ Own W w.heap.size tag 2 b #[if l.getD 9 false = true then u48 else .slice none 0 0] 86
  o8 : l.getD 8 false = true → l.getD 2 false = true ∧ l.getD 6 false = true
  o9 : l.getD 9 false = true → l.getD 5 false = true ∧ l.getD 7 false = true
theorem RBox.start {w : World} {aa am ae : Option Addr} {la lm le ca cm ce n : Nat} {v44 v47 : Value} {F1 F2 : List Bool} {m : Nat} {u43 u44 u45 u46 u47 u48 u15 u16 : Value} {tag : Nat → Nat} {W : World} (hb : Below w.heap.size w W) (hx : Box4 W tag w.heap.size (.slice aa la ca) (.int .i64 n) (.slice am lm cm) (.slice ae le ce)) :
    RBox w aa am ae la lm le ca cm ce n v44 v47 F1 F2 (Array.replicate m false) u43 u44 u45 u46 u47 u48 u15 u16 tag W := by
  have h : ∀ j, (Array.replicate m false).getD j false = true → False := by
    intro j
    rw [Array.getD_eq_getD_getElem?, Array.getElem?_replicate]
    split <;> simp
  exact ⟨hb, hx, fun e => (h _ e).elim, fun e => (h _ e).elim, fun e => (h _ e).elim, fun e => (h _ e).elim, fun e => (h _ e).elim, fun e => (h _ e).elim, fun e => (h _ e).elim, fun e => (h _ e).elim, fun e => (h _ e).elim, fun e => (h _ e).elim⟩

section
variable {w : World} {aa am ae : Option Addr} {la lm le ca cm ce n : Nat} {v44 v47 : Value} {F1 F2 : List Bool} {l : Array Bool} {u43 u44 u45 u46 u47 u48 u15 u16 : Value} {tag : Nat → Nat} {W W' : World}
theorem RBox.op0 (hI : RBox w aa am ae la lm le ca cm ce n v44 v47 F1 F2 l u43 u44 u45 u46 u47 u48 u15 u16 tag W) (hl : ∀ j, j < 10 → (l.setIfInBounds 0 true).getD j false = (j == 0 || l.getD j false))  :
    RBox w aa am ae la lm le ca cm ce n v44 v47 F1 F2 (l.setIfInBounds 0 true) (.agg #[.slice aa la ca, .int .i64 n, .slice am lm cm, .slice ae le ce]) u44 u45 u46 u47 u48 u15 u16 tag W := by
  refine ⟨hI.bel, hI.box, ?_, ?_, ?_, ?_, ?_, ?_, ?_, ?_, ?_, ?_⟩
  · exact fun _ => rfl
  · exact fun h => (hI.s44 (by rwa [up_ne hl 1 (by decide) rfl] at h))
  · exact fun h => (hI.s45 (by rwa [up_ne hl 2 (by decide) rfl] at h))
  · exact fun h => (hI.s46 (by rwa [up_ne hl 3 (by decide) rfl] at h))
  · exact fun h => (hI.s47 (by rwa [up_ne hl 4 (by decide) rfl] at h))
  · exact fun h => (hI.s48 (by rwa [up_ne hl 5 (by decide) rfl] at h))
  · exact fun h => by
      obtain ⟨b, hb, ho⟩ := (hI.s15 (by rwa [up_ne hl 6 (by decide) rfl] at h))
      rw [up_ne hl 8 (by decide) rfl]
      exact ⟨b, hb, ho⟩
  · exact fun h => by
      obtain ⟨b, hb, ho⟩ := (hI.s16 (by rwa [up_ne hl 7 (by decide) rfl] at h))
      rw [up_ne hl 9 (by decide) rfl]
      exact ⟨b, hb, ho⟩
  · exact fun h => by
      rw [up_ne hl 8 (by decide) rfl] at h
      have := hI.o8 h
      exact ⟨by rw [hl 2 (by decide), this.1, Bool.or_true], by rw [hl 6 (by decide), this.2, Bool.or_true]⟩
  · exact fun h => by
      rw [up_ne hl 9 (by decide) rfl] at h
      have := hI.o9 h
      exact ⟨by rw [hl 5 (by decide), this.1, Bool.or_true], by rw [hl 7 (by decide), this.2, Bool.or_true]⟩
theorem RBox.op1 (hI : RBox w aa am ae la lm le ca cm ce n v44 v47 F1 F2 l u43 u44 u45 u46 u47 u48 u15 u16 tag W) (hl : ∀ j, j < 10 → (l.setIfInBounds 1 true).getD j false = (j == 1 || l.getD j false))  :
    RBox w aa am ae la lm le ca cm ce n v44 v47 F1 F2 (l.setIfInBounds 1 true) u43 v44 u45 u46 u47 u48 u15 u16 tag W := by
  refine ⟨hI.bel, hI.box, ?_, ?_, ?_, ?_, ?_, ?_, ?_, ?_, ?_, ?_⟩
  · exact fun h => (hI.s43 (by rwa [up_ne hl 0 (by decide) rfl] at h))
  · exact fun _ => rfl
  · exact fun h => (hI.s45 (by rwa [up_ne hl 2 (by decide) rfl] at h))
  · exact fun h => (hI.s46 (by rwa [up_ne hl 3 (by decide) rfl] at h))
  · exact fun h => (hI.s47 (by rwa [up_ne hl 4 (by decide) rfl] at h))
  · exact fun h => (hI.s48 (by rwa [up_ne hl 5 (by decide) rfl] at h))
  · exact fun h => by
      obtain ⟨b, hb, ho⟩ := (hI.s15 (by rwa [up_ne hl 6 (by decide) rfl] at h))
      rw [up_ne hl 8 (by decide) rfl]
      exact ⟨b, hb, ho⟩
  · exact fun h => by
      obtain ⟨b, hb, ho⟩ := (hI.s16 (by rwa [up_ne hl 7 (by decide) rfl] at h))
      rw [up_ne hl 9 (by decide) rfl]
      exact ⟨b, hb, ho⟩
  · exact fun h => by
      rw [up_ne hl 8 (by decide) rfl] at h
      have := hI.o8 h
      exact ⟨by rw [hl 2 (by decide), this.1, Bool.or_true], by rw [hl 6 (by decide), this.2, Bool.or_true]⟩
  · exact fun h => by
      rw [up_ne hl 9 (by decide) rfl] at h
      have := hI.o9 h
      exact ⟨by rw [hl 5 (by decide), this.1, Bool.or_true], by rw [hl 7 (by decide), this.2, Bool.or_true]⟩
theorem RBox.op3 (hI : RBox w aa am ae la lm le ca cm ce n v44 v47 F1 F2 l u43 u44 u45 u46 u47 u48 u15 u16 tag W) (hl : ∀ j, j < 10 → (l.setIfInBounds 3 true).getD j false = (j == 3 || l.getD j false))  :
    RBox w aa am ae la lm le ca cm ce n v44 v47 F1 F2 (l.setIfInBounds 3 true) u43 u44 u45 (.agg #[.slice aa la ca, .int .i64 n, .slice am lm cm, .slice ae le ce]) u47 u48 u15 u16 tag W := by
  refine ⟨hI.bel, hI.box, ?_, ?_, ?_, ?_, ?_, ?_, ?_, ?_, ?_, ?_⟩
  · exact fun h => (hI.s43 (by rwa [up_ne hl 0 (by decide) rfl] at h))
  · exact fun h => (hI.s44 (by rwa [up_ne hl 1 (by decide) rfl] at h))
  · exact fun h => (hI.s45 (by rwa [up_ne hl 2 (by decide) rfl] at h))
  · exact fun _ => rfl
  · exact fun h => (hI.s47 (by rwa [up_ne hl 4 (by decide) rfl] at h))
  · exact fun h => (hI.s48 (by rwa [up_ne hl 5 (by decide) rfl] at h))
  · exact fun h => by
      obtain ⟨b, hb, ho⟩ := (hI.s15 (by rwa [up_ne hl 6 (by decide) rfl] at h))
      rw [up_ne hl 8 (by decide) rfl]
      exact ⟨b, hb, ho⟩
  · exact fun h => by
      obtain ⟨b, hb, ho⟩ := (hI.s16 (by rwa [up_ne hl 7 (by decide) rfl] at h))
      rw [up_ne hl 9 (by decide) rfl]
      exact ⟨b, hb, ho⟩
  · exact fun h => by
      rw [up_ne hl 8 (by decide) rfl] at h
      have := hI.o8 h
      exact ⟨by rw [hl 2 (by decide), this.1, Bool.or_true], by rw [hl 6 (by decide), this.2, Bool.or_true]⟩
  · exact fun h => by
      rw [up_ne hl 9 (by decide) rfl] at h
      have := hI.o9 h
      exact ⟨by rw [hl 5 (by decide), this.1, Bool.or_true], by rw [hl 7 (by decide), this.2, Bool.or_true]⟩
theorem RBox.op4 (hI : RBox w aa am ae la lm le ca cm ce n v44 v47 F1 F2 l u43 u44 u45 u46 u47 u48 u15 u16 tag W) (hl : ∀ j, j < 10 → (l.setIfInBounds 4 true).getD j false = (j == 4 || l.getD j false))  :
    RBox w aa am ae la lm le ca cm ce n v44 v47 F1 F2 (l.setIfInBounds 4 true) u43 u44 u45 u46 v47 u48 u15 u16 tag W := by
  refine ⟨hI.bel, hI.box, ?_, ?_, ?_, ?_, ?_, ?_, ?_, ?_, ?_, ?_⟩
  · exact fun h => (hI.s43 (by rwa [up_ne hl 0 (by decide) rfl] at h))
  · exact fun h => (hI.s44 (by rwa [up_ne hl 1 (by decide) rfl] at h))
  · exact fun h => (hI.s45 (by rwa [up_ne hl 2 (by decide) rfl] at h))
  · exact fun h => (hI.s46 (by rwa [up_ne hl 3 (by decide) rfl] at h))
  · exact fun _ => rfl
  · exact fun h => (hI.s48 (by rwa [up_ne hl 5 (by decide) rfl] at h))
  · exact fun h => by
      obtain ⟨b, hb, ho⟩ := (hI.s15 (by rwa [up_ne hl 6 (by decide) rfl] at h))
      rw [up_ne hl 8 (by decide) rfl]
      exact ⟨b, hb, ho⟩
  · exact fun h => by
      obtain ⟨b, hb, ho⟩ := (hI.s16 (by rwa [up_ne hl 7 (by decide) rfl] at h))
      rw [up_ne hl 9 (by decide) rfl]
      exact ⟨b, hb, ho⟩
  · exact fun h => by
      rw [up_ne hl 8 (by decide) rfl] at h
      have := hI.o8 h
      exact ⟨by rw [hl 2 (by decide), this.1, Bool.or_true], by rw [hl 6 (by decide), this.2, Bool.or_true]⟩
  · exact fun h => by
      rw [up_ne hl 9 (by decide) rfl] at h
      have := hI.o9 h
      exact ⟨by rw [hl 5 (by decide), this.1, Bool.or_true], by rw [hl 7 (by decide), this.2, Bool.or_true]⟩
theorem RBox.op2 (hI : RBox w aa am ae la lm le ca cm ce n v44 v47 F1 F2 l u43 u44 u45 u46 u47 u48 u15 u16 tag W) (hl : ∀ j, j < 10 → (l.setIfInBounds 2 true).getD j false = (j == 2 || l.getD j false)) {u : Value} (hb : Below W.heap.size W W') (hown : W'.ownsRow W.heap.size 4 1 u n (bools F1)) (hn : l.getD 2 false = false) :
    RBox w aa am ae la lm le ca cm ce n v44 v47 F1 F2 (l.setIfInBounds 2 true) u43 u44 u u46 u47 u48 u15 u16 (tagFrom tag W.heap.size 3) W' := by
  have ht : Turn w.heap.size tag (tagFrom tag W.heap.size 3) 3 W W' := Turn.call hb
  have hsz := hI.bel.size
  refine ⟨belTurn hI.bel ht hsz, hI.box.turn ht (by decide), ?_, ?_, ?_, ?_, ?_, ?_, ?_, ?_, ?_, ?_⟩
  · exact fun h => (hI.s43 (by rwa [up_ne hl 0 (by decide) rfl] at h))
  · exact fun h => (hI.s44 (by rwa [up_ne hl 1 (by decide) rfl] at h))
  · exact fun _ => Row.of_call hown hsz
  · exact fun h => (hI.s46 (by rwa [up_ne hl 3 (by decide) rfl] at h))
  · exact fun h => (hI.s47 (by rwa [up_ne hl 4 (by decide) rfl] at h))
  · exact fun h => (hI.s48 (by rwa [up_ne hl 5 (by decide) rfl] at h)).turn ht (by decide)
  · exact fun h => by
      obtain ⟨b, hb, ho⟩ := hI.s15 (by rwa [up_ne hl 6 (by decide) rfl] at h)
      rw [up_ne hl 8 (by decide) rfl]
      have h8 : l.getD 8 false = false := by
        cases h8 : l.getD 8 false with
        | false => rfl
        | true => rw [(hI.o8 h8).1] at hn; cases hn
      rw [h8] at ho ⊢
      exact ⟨b, hb, ho.turn ht (by decide)⟩
  · exact fun h => by
      obtain ⟨b, hb, ho⟩ := (hI.s16 (by rwa [up_ne hl 7 (by decide) rfl] at h))
      rw [up_ne hl 9 (by decide) rfl]
      exact ⟨b, hb, ho.turn ht (by decide)⟩
  · exact fun h => by
      rw [up_ne hl 8 (by decide) rfl] at h
      have := hI.o8 h
      exact ⟨by rw [hl 2 (by decide), this.1, Bool.or_true], by rw [hl 6 (by decide), this.2, Bool.or_true]⟩
  · exact fun h => by
      rw [up_ne hl 9 (by decide) rfl] at h
      have := hI.o9 h
      exact ⟨by rw [hl 5 (by decide), this.1, Bool.or_true], by rw [hl 7 (by decide), this.2, Bool.or_true]⟩
theorem RBox.op5 (hI : RBox w aa am ae la lm le ca cm ce n v44 v47 F1 F2 l u43 u44 u45 u46 u47 u48 u15 u16 tag W) (hl : ∀ j, j < 10 → (l.setIfInBounds 5 true).getD j false = (j == 5 || l.getD j false)) {u : Value} (hb : Below W.heap.size W W') (hown : W'.ownsRow W.heap.size 4 1 u n (bools F2)) (hn : l.getD 5 false = false) :
    RBox w aa am ae la lm le ca cm ce n v44 v47 F1 F2 (l.setIfInBounds 5 true) u43 u44 u45 u46 u47 u u15 u16 (tagFrom tag W.heap.size 4) W' := by
  have ht : Turn w.heap.size tag (tagFrom tag W.heap.size 4) 4 W W' := Turn.call hb
  have hsz := hI.bel.size
  refine ⟨belTurn hI.bel ht hsz, hI.box.turn ht (by decide), ?_, ?_, ?_, ?_, ?_, ?_, ?_, ?_, ?_, ?_⟩
  · exact fun h => (hI.s43 (by rwa [up_ne hl 0 (by decide) rfl] at h))
  · exact fun h => (hI.s44 (by rwa [up_ne hl 1 (by decide) rfl] at h))
  · exact fun h => (hI.s45 (by rwa [up_ne hl 2 (by decide) rfl] at h)).turn ht (by decide)
  · exact fun h => (hI.s46 (by rwa [up_ne hl 3 (by decide) rfl] at h))
  · exact fun h => (hI.s47 (by rwa [up_ne hl 4 (by decide) rfl] at h))
  · exact fun _ => Row.of_call hown hsz
  · exact fun h => by
      obtain ⟨b, hb, ho⟩ := (hI.s15 (by rwa [up_ne hl 6 (by decide) rfl] at h))
      rw [up_ne hl 8 (by decide) rfl]
      exact ⟨b, hb, ho.turn ht (by decide)⟩
  · exact fun h => by
      obtain ⟨b, hb, ho⟩ := hI.s16 (by rwa [up_ne hl 7 (by decide) rfl] at h)
      rw [up_ne hl 9 (by decide) rfl]
      have h8 : l.getD 9 false = false := by
        cases h8 : l.getD 9 false with
        | false => rfl
        | true => rw [(hI.o9 h8).1] at hn; cases hn
      rw [h8] at ho ⊢
      exact ⟨b, hb, ho.turn ht (by decide)⟩
  · exact fun h => by
      rw [up_ne hl 8 (by decide) rfl] at h
      have := hI.o8 h
      exact ⟨by rw [hl 2 (by decide), this.1, Bool.or_true], by rw [hl 6 (by decide), this.2, Bool.or_true]⟩
  · exact fun h => by
      rw [up_ne hl 9 (by decide) rfl] at h
      have := hI.o9 h
      exact ⟨by rw [hl 5 (by decide), this.1, Bool.or_true], by rw [hl 7 (by decide), this.2, Bool.or_true]⟩
theorem RBox.op6 (hI : RBox w aa am ae la lm le ca cm ce n v44 v47 F1 F2 l u43 u44 u45 u46 u47 u48 u15 u16 tag W) (hl : ∀ j, j < 10 → (l.setIfInBounds 6 true).getD j false = (j == 6 || l.getD j false)) (hn : l.getD 6 false = false) :
    RBox w aa am ae la lm le ca cm ce n v44 v47 F1 F2 (l.setIfInBounds 6 true) u43 u44 u45 u46 u47 u48 (.pointer (some ⟨W.heap.size, 0, none⟩)) u16 (tagUp tag W.heap.size 1) (W.alloc (.cells #[.slice none 0 0] 86)) := by
  have ht : Turn w.heap.size tag (tagUp tag W.heap.size 1) 1 W (W.alloc (.cells #[.slice none 0 0] 86)) := Turn.alloc _
  have hsz := hI.bel.size
  refine ⟨belTurn hI.bel ht hsz, hI.box.turn ht (by decide), ?_, ?_, ?_, ?_, ?_, ?_, ?_, ?_, ?_, ?_⟩
  · exact fun h => (hI.s43 (by rwa [up_ne hl 0 (by decide) rfl] at h))
  · exact fun h => (hI.s44 (by rwa [up_ne hl 1 (by decide) rfl] at h))
  · exact fun h => (hI.s45 (by rwa [up_ne hl 2 (by decide) rfl] at h)).turn ht (by decide)
  · exact fun h => (hI.s46 (by rwa [up_ne hl 3 (by decide) rfl] at h))
  · exact fun h => (hI.s47 (by rwa [up_ne hl 4 (by decide) rfl] at h))
  · exact fun h => (hI.s48 (by rwa [up_ne hl 5 (by decide) rfl] at h)).turn ht (by decide)
  · exact fun _ => by
      have h8 : l.getD 8 false = false := by
        cases h8 : l.getD 8 false with
        | false => rfl
        | true => rw [(hI.o8 h8).2] at hn; cases hn
      rw [up_ne hl 8 (by decide) rfl, h8]
      exact ⟨_, rfl, Own.new W _ _ _ _ _ hsz (tagUp_at _ _ _)⟩
  · exact fun h => by
      obtain ⟨b, hb, ho⟩ := (hI.s16 (by rwa [up_ne hl 7 (by decide) rfl] at h))
      rw [up_ne hl 9 (by decide) rfl]
      exact ⟨b, hb, ho.turn ht (by decide)⟩
  · exact fun h => by
      rw [up_ne hl 8 (by decide) rfl] at h
      have := hI.o8 h
      exact ⟨by rw [hl 2 (by decide), this.1, Bool.or_true], by rw [hl 6 (by decide), this.2, Bool.or_true]⟩
  · exact fun h => by
      rw [up_ne hl 9 (by decide) rfl] at h
      have := hI.o9 h
      exact ⟨by rw [hl 5 (by decide), this.1, Bool.or_true], by rw [hl 7 (by decide), this.2, Bool.or_true]⟩
theorem RBox.op7 (hI : RBox w aa am ae la lm le ca cm ce n v44 v47 F1 F2 l u43 u44 u45 u46 u47 u48 u15 u16 tag W) (hl : ∀ j, j < 10 → (l.setIfInBounds 7 true).getD j false = (j == 7 || l.getD j false)) (hn : l.getD 7 false = false) :
    RBox w aa am ae la lm le ca cm ce n v44 v47 F1 F2 (l.setIfInBounds 7 true) u43 u44 u45 u46 u47 u48 u15 (.pointer (some ⟨W.heap.size, 0, none⟩)) (tagUp tag W.heap.size 2) (W.alloc (.cells #[.slice none 0 0] 86)) := by
  have ht : Turn w.heap.size tag (tagUp tag W.heap.size 2) 2 W (W.alloc (.cells #[.slice none 0 0] 86)) := Turn.alloc _
  have hsz := hI.bel.size
  refine ⟨belTurn hI.bel ht hsz, hI.box.turn ht (by decide), ?_, ?_, ?_, ?_, ?_, ?_, ?_, ?_, ?_, ?_⟩
  · exact fun h => (hI.s43 (by rwa [up_ne hl 0 (by decide) rfl] at h))
  · exact fun h => (hI.s44 (by rwa [up_ne hl 1 (by decide) rfl] at h))
  · exact fun h => (hI.s45 (by rwa [up_ne hl 2 (by decide) rfl] at h)).turn ht (by decide)
  · exact fun h => (hI.s46 (by rwa [up_ne hl 3 (by decide) rfl] at h))
  · exact fun h => (hI.s47 (by rwa [up_ne hl 4 (by decide) rfl] at h))
  · exact fun h => (hI.s48 (by rwa [up_ne hl 5 (by decide) rfl] at h)).turn ht (by decide)
  · exact fun h => by
      obtain ⟨b, hb, ho⟩ := (hI.s15 (by rwa [up_ne hl 6 (by decide) rfl] at h))
      rw [up_ne hl 8 (by decide) rfl]
      exact ⟨b, hb, ho.turn ht (by decide)⟩
  · exact fun _ => by
      have h8 : l.getD 9 false = false := by
        cases h8 : l.getD 9 false with
        | false => rfl
        | true => rw [(hI.o9 h8).2] at hn; cases hn
      rw [up_ne hl 9 (by decide) rfl, h8]
      exact ⟨_, rfl, Own.new W _ _ _ _ _ hsz (tagUp_at _ _ _)⟩
  · exact fun h => by
      rw [up_ne hl 8 (by decide) rfl] at h
      have := hI.o8 h
      exact ⟨by rw [hl 2 (by decide), this.1, Bool.or_true], by rw [hl 6 (by decide), this.2, Bool.or_true]⟩
  · exact fun h => by
      rw [up_ne hl 9 (by decide) rfl] at h
      have := hI.o9 h
      exact ⟨by rw [hl 5 (by decide), this.1, Bool.or_true], by rw [hl 7 (by decide), this.2, Bool.or_true]⟩
theorem RBox.op8 {bx : Nat} (hI : RBox w aa am ae la lm le ca cm ce n v44 v47 F1 F2 l u43 u44 u45 u46 u47 u48 (.pointer (some ⟨bx, 0, none⟩)) u16 tag W) (hl : ∀ j, j < 10 → (l.setIfInBounds 8 true).getD j false = (j == 8 || l.getD j false)) (h1 : l.getD 6 false = true) (h2 : l.getD 2 false = true) :
    RBox w aa am ae la lm le ca cm ce n v44 v47 F1 F2 (l.setIfInBounds 8 true) u43 u44 u45 u46 u47 u48 (.pointer (some ⟨bx, 0, none⟩)) u16 tag (W.setCell ⟨bx, 0, none⟩ u45) := by
  obtain ⟨b, hb, ho⟩ := hI.s15 h1
  cases hb
  have ht : Turn w.heap.size tag tag 1 W (W.setCell ⟨bx, 0, none⟩ u45) := Turn.setCell ho 0 _
  have hsz := hI.bel.size
  refine ⟨belTurn hI.bel ht hsz, hI.box.turn ht (by decide), ?_, ?_, ?_, ?_, ?_, ?_, ?_, ?_, ?_, ?_⟩
  · exact fun h => (hI.s43 (by rwa [up_ne hl 0 (by decide) rfl] at h))
  · exact fun h => (hI.s44 (by rwa [up_ne hl 1 (by decide) rfl] at h))
  · exact fun h => (hI.s45 (by rwa [up_ne hl 2 (by decide) rfl] at h)).turn ht (by decide)
  · exact fun h => (hI.s46 (by rwa [up_ne hl 3 (by decide) rfl] at h))
  · exact fun h => (hI.s47 (by rwa [up_ne hl 4 (by decide) rfl] at h))
  · exact fun h => (hI.s48 (by rwa [up_ne hl 5 (by decide) rfl] at h)).turn ht (by decide)
  · exact fun _ => by
      refine ⟨_, rfl, ?_⟩
      rw [hl 8 (by decide)]
      simpa using ho.set 0 u45
  · exact fun h => by
      obtain ⟨b, hb, ho⟩ := (hI.s16 (by rwa [up_ne hl 7 (by decide) rfl] at h))
      rw [up_ne hl 9 (by decide) rfl]
      exact ⟨b, hb, ho.turn ht (by decide)⟩
  · exact fun _ => ⟨by rw [hl 2 (by decide), h2, Bool.or_true], by rw [hl 6 (by decide), h1, Bool.or_true]⟩
  · exact fun h => by
      rw [up_ne hl 9 (by decide) rfl] at h
      have := hI.o9 h
      exact ⟨by rw [hl 5 (by decide), this.1, Bool.or_true], by rw [hl 7 (by decide), this.2, Bool.or_true]⟩
theorem RBox.op9 {bx : Nat} (hI : RBox w aa am ae la lm le ca cm ce n v44 v47 F1 F2 l u43 u44 u45 u46 u47 u48 u15 (.pointer (some ⟨bx, 0, none⟩)) tag W) (hl : ∀ j, j < 10 → (l.setIfInBounds 9 true).getD j false = (j == 9 || l.getD j false)) (h1 : l.getD 7 false = true) (h2 : l.getD 5 false = true) :
    RBox w aa am ae la lm le ca cm ce n v44 v47 F1 F2 (l.setIfInBounds 9 true) u43 u44 u45 u46 u47 u48 u15 (.pointer (some ⟨bx, 0, none⟩)) tag (W.setCell ⟨bx, 0, none⟩ u48) := by
  obtain ⟨b, hb, ho⟩ := hI.s16 h1
  cases hb
  have ht : Turn w.heap.size tag tag 2 W (W.setCell ⟨bx, 0, none⟩ u48) := Turn.setCell ho 0 _
  have hsz := hI.bel.size
  refine ⟨belTurn hI.bel ht hsz, hI.box.turn ht (by decide), ?_, ?_, ?_, ?_, ?_, ?_, ?_, ?_, ?_, ?_⟩
  · exact fun h => (hI.s43 (by rwa [up_ne hl 0 (by decide) rfl] at h))
  · exact fun h => (hI.s44 (by rwa [up_ne hl 1 (by decide) rfl] at h))
  · exact fun h => (hI.s45 (by rwa [up_ne hl 2 (by decide) rfl] at h)).turn ht (by decide)
  · exact fun h => (hI.s46 (by rwa [up_ne hl 3 (by decide) rfl] at h))
  · exact fun h => (hI.s47 (by rwa [up_ne hl 4 (by decide) rfl] at h))
  · exact fun h => (hI.s48 (by rwa [up_ne hl 5 (by decide) rfl] at h)).turn ht (by decide)
  · exact fun h => by
      obtain ⟨b, hb, ho⟩ := (hI.s15 (by rwa [up_ne hl 6 (by decide) rfl] at h))
      rw [up_ne hl 8 (by decide) rfl]
      exact ⟨b, hb, ho.turn ht (by decide)⟩
  · exact fun _ => by
      refine ⟨_, rfl, ?_⟩
      rw [hl 9 (by decide)]
      simpa using ho.set 0 u48
  · exact fun h => by
      rw [up_ne hl 8 (by decide) rfl] at h
      have := hI.o8 h
      exact ⟨by rw [hl 2 (by decide), this.1, Bool.or_true], by rw [hl 6 (by decide), this.2, Bool.or_true]⟩
  · exact fun _ => ⟨by rw [hl 5 (by decide), h2, Bool.or_true], by rw [hl 7 (by decide), h1, Bool.or_true]⟩
end

end Go.Proofs.Ythchkddhibhenaa
