/- Texts joined: PathW, RBox, ReachPath, Facts, Closure, Interior, Known, LawKit, Lift, Add. Each is introduced by its own sentence. -/
import Derived.Deep.DeepCutAuto
import Derived.Deep.LoopGhost
import Derived.Test.YthchkddhibhenaaRows
import Derived.ProofKit
import Derived.BigQuiet
import Derived.Test.YthchkddhibhenaaRS1
import Derived.Test.YthchkddhibhenaaRS2
import Derived.Test.YthchkddhibhenaaRS4
import Derived.Test.YthchkddhibhenaaRS6
import Derived.Test.YthchkddhibhenaaRS8
/- The two functions that Path hands to path. -/
namespace Go.Proofs.Ythchkddhibhenaa
open Go.RowKit

theorem path1_any (be : Nat) (v : Value) (fl : List Bool) (s : Int) (w : World) (hb : w.cell? ⟨be, 0, none⟩ = some v) (hf : RdB w v fl) (h0 : 0 ≤ s) (h1 : s < fl.length) (hl : fl.length ≤ 1000000) :
    Calls Try.prog 54 #[.int .i64 s, .pointer (some ⟨be, 0, none⟩)] w fun e w' => e = .returned (.bool (fl.getD s.toNat false)) ∧ Below w.heap.size w w' := by
  obtain ⟨a, cap, rfl, hr⟩ := hf
  obtain ⟨b, off, rfl, hc⟩ := hr.at_bool s.toNat (by omega)
  have hg : fl.getD s.toNat false = fl[s.toNat] := by rw [List.getD_eq_getElem?_getD, List.getElem?_eq_getElem (by omega)]; rfl
  rw [hg]
  clear hg
  go_enter Try.func54, Try.ntmps54
  go_wp2
  go_ret
  exact ⟨rfl, Below.refl _ _⟩

theorem path2_any (be : Nat) (v : Value) (fl : List Bool) (x : Ed) (w : World) (hb : w.cell? ⟨be, 0, none⟩ = some v) (hf : RdB w v fl) (h0 : 0 ≤ x.t) (h1 : x.t < fl.length) (hl : fl.length ≤ 1000000) :
    Calls Try.prog 55 #[x.val, .pointer (some ⟨be, 0, none⟩)] w fun e w' => e = .returned (.bool (fl.getD x.t.toNat false)) ∧ Below w.heap.size w w' := by
  obtain ⟨a, cap, rfl, hr⟩ := hf
  obtain ⟨b, off, rfl, hc⟩ := hr.at_bool x.t.toNat (by omega)
  have hbl := World.block_lt_of_cell? w _ hb
  have hbl2 := World.block_lt_of_cell? w _ hc
  dsimp only at hbl hbl2
  have hg : fl.getD x.t.toNat false = fl[x.t.toNat] := by rw [List.getD_eq_getElem?_getD, List.getElem?_eq_getElem (by omega)]; rfl
  rw [hg]
  clear hg
  dsimp only [Ed.val]
  go_enter Try.func55, Try.ntmps55
  go_wp2
  go_ret
  exact ⟨rfl, (by (repeat (first | with_reducible exact Below.refl _ _ | with_reducible exact hb | (with_reducible refine belCall ?_ hb (by first | omega | (simp; done) | (simp; omega) | (simp at *; omega))) | (with_reducible refine Below.alloc ?_ (by first | omega | (simp; done) | (simp; omega) | (simp at *; omega)) _) | (with_reducible refine Below.drew ?_) | (with_reducible refine Below.setCell ?_ (by first | omega | (simp; done) | (simp; omega) | (simp at *; omega)) _))))⟩
end Go.Proofs.Ythchkddhibhenaa

/- Two lists of flags that are made, each in a box, in whatever order. -/
namespace Go.Proofs.Ythchkddhibhenaa
open Go.RowKit

/-- What holds while both lists of flags are made, each in a box. -/
structure RBox (w : World) (aa am ae : Option Addr) (la lm le ca cm ce n : Nat) (v44 v47 : Value) (F1 F2 : List Bool) (l : Array Bool) (u43 u44 u45 u46 u47 u48 u15 u16 : Value) (tag : Nat → Nat) (W : World) : Prop where
  bel : Below w.heap.size w W
  box : Box4 W tag w.heap.size (.slice aa la ca) (.int .i64 n) (.slice am lm cm) (.slice ae le ce)
  s43 : l.getD 0 false = true → u43 = .agg #[.slice aa la ca, .int .i64 n, .slice am lm cm, .slice ae le ce]
  s44 : l.getD 1 false = true → u44 = v44
  s45 : l.getD 2 false = true → Row W w.heap.size tag 3 4 1 u45 n (bools F1)
  s46 : l.getD 3 false = true → u46 = .agg #[.slice aa la ca, .int .i64 n, .slice am lm cm, .slice ae le ce]
  s47 : l.getD 4 false = true → u47 = v47
  s48 : l.getD 5 false = true → Row W w.heap.size tag 4 4 1 u48 n (bools F2)
  s15 : l.getD 6 false = true → ∃ b, u15 = .pointer (some ⟨b, 0, none⟩) ∧ Own W w.heap.size tag 1 b #[if l.getD 8 false = true then u45 else .slice none 0 0] 86
  s16 : l.getD 7 false = true → ∃ b, u16 = .pointer (some ⟨b, 0, none⟩) ∧ Own W w.heap.size tag 2 b #[if l.getD 9 false = true then u48 else .slice none 0 0] 86
  o8 : l.getD 8 false = true → l.getD 2 false = true ∧ l.getD 6 false = true
  o9 : l.getD 9 false = true → l.getD 5 false = true ∧ l.getD 7 false = true
theorem RBox.start {w : World} {aa am ae : Option Addr} {la lm le ca cm ce n : Nat} {v44 v47 : Value} {F1 F2 : List Bool} {m : Nat} {u43 u44 u45 u46 u47 u48 u15 u16 : Value} {tag : Nat → Nat} {W : World} (hb : Below w.heap.size w W) (hx : Box4 W tag w.heap.size (.slice aa la ca) (.int .i64 n) (.slice am lm cm) (.slice ae le ce)) :
    RBox w aa am ae la lm le ca cm ce n v44 v47 F1 F2 (Array.replicate m false) u43 u44 u45 u46 u47 u48 u15 u16 tag W := by
  have h : ∀ j, (Array.replicate m false).getD j false = true → False := by
    intro j
    rw [Array.getD_eq_getD_getElem?, Array.getElem?_replicate]
    split <;> simp
  exact ⟨hb, hx, fun e => (h _ e).elim, fun e => (h _ e).elim, fun e => (h _ e).elim, fun e => (h _ e).elim, fun e => (h _ e).elim, fun e => (h _ e).elim, fun e => (h _ e).elim, fun e => (h _ e).elim, fun e => (h _ e).elim, fun e => (h _ e).elim⟩

section
variable {w : World} {aa am ae : Option Addr} {la lm le ca cm ce n : Nat} {v44 v47 : Value} {F1 F2 : List Bool} {l : Array Bool} {u43 u44 u45 u46 u47 u48 u15 u16 : Value} {tag : Nat → Nat} {W W' : World}
theorem RBox.op0 (hI : RBox w aa am ae la lm le ca cm ce n v44 v47 F1 F2 l u43 u44 u45 u46 u47 u48 u15 u16 tag W) (hl : ∀ j, j < 10 → (l.setIfInBounds 0 true).getD j false = (j == 0 || l.getD j false))  :
    RBox w aa am ae la lm le ca cm ce n v44 v47 F1 F2 (l.setIfInBounds 0 true) (.agg #[.slice aa la ca, .int .i64 n, .slice am lm cm, .slice ae le ce]) u44 u45 u46 u47 u48 u15 u16 tag W := by
  refine ⟨hI.bel, hI.box, ?_, ?_, ?_, ?_, ?_, ?_, ?_, ?_, ?_, ?_⟩
  · exact fun _ => rfl
  · exact fun h => (hI.s44 (by rwa [up_ne hl 1 (by decide) rfl] at h))
  · exact fun h => (hI.s45 (by rwa [up_ne hl 2 (by decide) rfl] at h))
  · exact fun h => (hI.s46 (by rwa [up_ne hl 3 (by decide) rfl] at h))
  · exact fun h => (hI.s47 (by rwa [up_ne hl 4 (by decide) rfl] at h))
  · exact fun h => (hI.s48 (by rwa [up_ne hl 5 (by decide) rfl] at h))
  · exact fun h => by
      obtain ⟨b, hb, ho⟩ := (hI.s15 (by rwa [up_ne hl 6 (by decide) rfl] at h))
      rw [up_ne hl 8 (by decide) rfl]
      exact ⟨b, hb, ho⟩
  · exact fun h => by
      obtain ⟨b, hb, ho⟩ := (hI.s16 (by rwa [up_ne hl 7 (by decide) rfl] at h))
      rw [up_ne hl 9 (by decide) rfl]
      exact ⟨b, hb, ho⟩
  · exact fun h => by
      rw [up_ne hl 8 (by decide) rfl] at h
      have := hI.o8 h
      exact ⟨by rw [hl 2 (by decide), this.1, Bool.or_true], by rw [hl 6 (by decide), this.2, Bool.or_true]⟩
  · exact fun h => by
      rw [up_ne hl 9 (by decide) rfl] at h
      have := hI.o9 h
      exact ⟨by rw [hl 5 (by decide), this.1, Bool.or_true], by rw [hl 7 (by decide), this.2, Bool.or_true]⟩
theorem RBox.op1 (hI : RBox w aa am ae la lm le ca cm ce n v44 v47 F1 F2 l u43 u44 u45 u46 u47 u48 u15 u16 tag W) (hl : ∀ j, j < 10 → (l.setIfInBounds 1 true).getD j false = (j == 1 || l.getD j false))  :
    RBox w aa am ae la lm le ca cm ce n v44 v47 F1 F2 (l.setIfInBounds 1 true) u43 v44 u45 u46 u47 u48 u15 u16 tag W := by
  refine ⟨hI.bel, hI.box, ?_, ?_, ?_, ?_, ?_, ?_, ?_, ?_, ?_, ?_⟩
  · exact fun h => (hI.s43 (by rwa [up_ne hl 0 (by decide) rfl] at h))
  · exact fun _ => rfl
  · exact fun h => (hI.s45 (by rwa [up_ne hl 2 (by decide) rfl] at h))
  · exact fun h => (hI.s46 (by rwa [up_ne hl 3 (by decide) rfl] at h))
  · exact fun h => (hI.s47 (by rwa [up_ne hl 4 (by decide) rfl] at h))
  · exact fun h => (hI.s48 (by rwa [up_ne hl 5 (by decide) rfl] at h))
  · exact fun h => by
      obtain ⟨b, hb, ho⟩ := (hI.s15 (by rwa [up_ne hl 6 (by decide) rfl] at h))
      rw [up_ne hl 8 (by decide) rfl]
      exact ⟨b, hb, ho⟩
  · exact fun h => by
      obtain ⟨b, hb, ho⟩ := (hI.s16 (by rwa [up_ne hl 7 (by decide) rfl] at h))
      rw [up_ne hl 9 (by decide) rfl]
      exact ⟨b, hb, ho⟩
  · exact fun h => by
      rw [up_ne hl 8 (by decide) rfl] at h
      have := hI.o8 h
      exact ⟨by rw [hl 2 (by decide), this.1, Bool.or_true], by rw [hl 6 (by decide), this.2, Bool.or_true]⟩
  · exact fun h => by
      rw [up_ne hl 9 (by decide) rfl] at h
      have := hI.o9 h
      exact ⟨by rw [hl 5 (by decide), this.1, Bool.or_true], by rw [hl 7 (by decide), this.2, Bool.or_true]⟩
theorem RBox.op3 (hI : RBox w aa am ae la lm le ca cm ce n v44 v47 F1 F2 l u43 u44 u45 u46 u47 u48 u15 u16 tag W) (hl : ∀ j, j < 10 → (l.setIfInBounds 3 true).getD j false = (j == 3 || l.getD j false))  :
    RBox w aa am ae la lm le ca cm ce n v44 v47 F1 F2 (l.setIfInBounds 3 true) u43 u44 u45 (.agg #[.slice aa la ca, .int .i64 n, .slice am lm cm, .slice ae le ce]) u47 u48 u15 u16 tag W := by
  refine ⟨hI.bel, hI.box, ?_, ?_, ?_, ?_, ?_, ?_, ?_, ?_, ?_, ?_⟩
  · exact fun h => (hI.s43 (by rwa [up_ne hl 0 (by decide) rfl] at h))
  · exact fun h => (hI.s44 (by rwa [up_ne hl 1 (by decide) rfl] at h))
  · exact fun h => (hI.s45 (by rwa [up_ne hl 2 (by decide) rfl] at h))
  · exact fun _ => rfl
  · exact fun h => (hI.s47 (by rwa [up_ne hl 4 (by decide) rfl] at h))
  · exact fun h => (hI.s48 (by rwa [up_ne hl 5 (by decide) rfl] at h))
  · exact fun h => by
      obtain ⟨b, hb, ho⟩ := (hI.s15 (by rwa [up_ne hl 6 (by decide) rfl] at h))
      rw [up_ne hl 8 (by decide) rfl]
      exact ⟨b, hb, ho⟩
  · exact fun h => by
      obtain ⟨b, hb, ho⟩ := (hI.s16 (by rwa [up_ne hl 7 (by decide) rfl] at h))
      rw [up_ne hl 9 (by decide) rfl]
      exact ⟨b, hb, ho⟩
  · exact fun h => by
      rw [up_ne hl 8 (by decide) rfl] at h
      have := hI.o8 h
      exact ⟨by rw [hl 2 (by decide), this.1, Bool.or_true], by rw [hl 6 (by decide), this.2, Bool.or_true]⟩
  · exact fun h => by
      rw [up_ne hl 9 (by decide) rfl] at h
      have := hI.o9 h
      exact ⟨by rw [hl 5 (by decide), this.1, Bool.or_true], by rw [hl 7 (by decide), this.2, Bool.or_true]⟩
theorem RBox.op4 (hI : RBox w aa am ae la lm le ca cm ce n v44 v47 F1 F2 l u43 u44 u45 u46 u47 u48 u15 u16 tag W) (hl : ∀ j, j < 10 → (l.setIfInBounds 4 true).getD j false = (j == 4 || l.getD j false))  :
    RBox w aa am ae la lm le ca cm ce n v44 v47 F1 F2 (l.setIfInBounds 4 true) u43 u44 u45 u46 v47 u48 u15 u16 tag W := by
  refine ⟨hI.bel, hI.box, ?_, ?_, ?_, ?_, ?_, ?_, ?_, ?_, ?_, ?_⟩
  · exact fun h => (hI.s43 (by rwa [up_ne hl 0 (by decide) rfl] at h))
  · exact fun h => (hI.s44 (by rwa [up_ne hl 1 (by decide) rfl] at h))
  · exact fun h => (hI.s45 (by rwa [up_ne hl 2 (by decide) rfl] at h))
  · exact fun h => (hI.s46 (by rwa [up_ne hl 3 (by decide) rfl] at h))
  · exact fun _ => rfl
  · exact fun h => (hI.s48 (by rwa [up_ne hl 5 (by decide) rfl] at h))
  · exact fun h => by
      obtain ⟨b, hb, ho⟩ := (hI.s15 (by rwa [up_ne hl 6 (by decide) rfl] at h))
      rw [up_ne hl 8 (by decide) rfl]
      exact ⟨b, hb, ho⟩
  · exact fun h => by
      obtain ⟨b, hb, ho⟩ := (hI.s16 (by rwa [up_ne hl 7 (by decide) rfl] at h))
      rw [up_ne hl 9 (by decide) rfl]
      exact ⟨b, hb, ho⟩
  · exact fun h => by
      rw [up_ne hl 8 (by decide) rfl] at h
      have := hI.o8 h
      exact ⟨by rw [hl 2 (by decide), this.1, Bool.or_true], by rw [hl 6 (by decide), this.2, Bool.or_true]⟩
  · exact fun h => by
      rw [up_ne hl 9 (by decide) rfl] at h
      have := hI.o9 h
      exact ⟨by rw [hl 5 (by decide), this.1, Bool.or_true], by rw [hl 7 (by decide), this.2, Bool.or_true]⟩
theorem RBox.op2 (hI : RBox w aa am ae la lm le ca cm ce n v44 v47 F1 F2 l u43 u44 u45 u46 u47 u48 u15 u16 tag W) (hl : ∀ j, j < 10 → (l.setIfInBounds 2 true).getD j false = (j == 2 || l.getD j false)) {u : Value} (hb : Below W.heap.size W W') (hown : W'.ownsRow W.heap.size 4 1 u n (bools F1)) (hn : l.getD 2 false = false) :
    RBox w aa am ae la lm le ca cm ce n v44 v47 F1 F2 (l.setIfInBounds 2 true) u43 u44 u u46 u47 u48 u15 u16 (tagFrom tag W.heap.size 3) W' := by
  have ht : Turn w.heap.size tag (tagFrom tag W.heap.size 3) 3 W W' := Turn.call hb
  have hsz := hI.bel.size
  refine ⟨belTurn hI.bel ht hsz, hI.box.turn ht (by decide), ?_, ?_, ?_, ?_, ?_, ?_, ?_, ?_, ?_, ?_⟩
  · exact fun h => (hI.s43 (by rwa [up_ne hl 0 (by decide) rfl] at h))
  · exact fun h => (hI.s44 (by rwa [up_ne hl 1 (by decide) rfl] at h))
  · exact fun _ => Row.of_call hown hsz
  · exact fun h => (hI.s46 (by rwa [up_ne hl 3 (by decide) rfl] at h))
  · exact fun h => (hI.s47 (by rwa [up_ne hl 4 (by decide) rfl] at h))
  · exact fun h => (hI.s48 (by rwa [up_ne hl 5 (by decide) rfl] at h)).turn ht (by decide)
  · exact fun h => by
      obtain ⟨b, hb, ho⟩ := hI.s15 (by rwa [up_ne hl 6 (by decide) rfl] at h)
      rw [up_ne hl 8 (by decide) rfl]
      have h8 : l.getD 8 false = false := by
        cases h8 : l.getD 8 false with
        | false => rfl
        | true => rw [(hI.o8 h8).1] at hn; cases hn
      rw [h8] at ho ⊢
      exact ⟨b, hb, ho.turn ht (by decide)⟩
  · exact fun h => by
      obtain ⟨b, hb, ho⟩ := (hI.s16 (by rwa [up_ne hl 7 (by decide) rfl] at h))
      rw [up_ne hl 9 (by decide) rfl]
      exact ⟨b, hb, ho.turn ht (by decide)⟩
  · exact fun h => by
      rw [up_ne hl 8 (by decide) rfl] at h
      have := hI.o8 h
      exact ⟨by rw [hl 2 (by decide), this.1, Bool.or_true], by rw [hl 6 (by decide), this.2, Bool.or_true]⟩
  · exact fun h => by
      rw [up_ne hl 9 (by decide) rfl] at h
      have := hI.o9 h
      exact ⟨by rw [hl 5 (by decide), this.1, Bool.or_true], by rw [hl 7 (by decide), this.2, Bool.or_true]⟩
theorem RBox.op5 (hI : RBox w aa am ae la lm le ca cm ce n v44 v47 F1 F2 l u43 u44 u45 u46 u47 u48 u15 u16 tag W) (hl : ∀ j, j < 10 → (l.setIfInBounds 5 true).getD j false = (j == 5 || l.getD j false)) {u : Value} (hb : Below W.heap.size W W') (hown : W'.ownsRow W.heap.size 4 1 u n (bools F2)) (hn : l.getD 5 false = false) :
    RBox w aa am ae la lm le ca cm ce n v44 v47 F1 F2 (l.setIfInBounds 5 true) u43 u44 u45 u46 u47 u u15 u16 (tagFrom tag W.heap.size 4) W' := by
  have ht : Turn w.heap.size tag (tagFrom tag W.heap.size 4) 4 W W' := Turn.call hb
  have hsz := hI.bel.size
  refine ⟨belTurn hI.bel ht hsz, hI.box.turn ht (by decide), ?_, ?_, ?_, ?_, ?_, ?_, ?_, ?_, ?_, ?_⟩
  · exact fun h => (hI.s43 (by rwa [up_ne hl 0 (by decide) rfl] at h))
  · exact fun h => (hI.s44 (by rwa [up_ne hl 1 (by decide) rfl] at h))
  · exact fun h => (hI.s45 (by rwa [up_ne hl 2 (by decide) rfl] at h)).turn ht (by decide)
  · exact fun h => (hI.s46 (by rwa [up_ne hl 3 (by decide) rfl] at h))
  · exact fun h => (hI.s47 (by rwa [up_ne hl 4 (by decide) rfl] at h))
  · exact fun _ => Row.of_call hown hsz
  · exact fun h => by
      obtain ⟨b, hb, ho⟩ := (hI.s15 (by rwa [up_ne hl 6 (by decide) rfl] at h))
      rw [up_ne hl 8 (by decide) rfl]
      exact ⟨b, hb, ho.turn ht (by decide)⟩
  · exact fun h => by
      obtain ⟨b, hb, ho⟩ := hI.s16 (by rwa [up_ne hl 7 (by decide) rfl] at h)
      rw [up_ne hl 9 (by decide) rfl]
      have h8 : l.getD 9 false = false := by
        cases h8 : l.getD 9 false with
        | false => rfl
        | true => rw [(hI.o9 h8).1] at hn; cases hn
      rw [h8] at ho ⊢
      exact ⟨b, hb, ho.turn ht (by decide)⟩
  · exact fun h => by
      rw [up_ne hl 8 (by decide) rfl] at h
      have := hI.o8 h
      exact ⟨by rw [hl 2 (by decide), this.1, Bool.or_true], by rw [hl 6 (by decide), this.2, Bool.or_true]⟩
  · exact fun h => by
      rw [up_ne hl 9 (by decide) rfl] at h
      have := hI.o9 h
      exact ⟨by rw [hl 5 (by decide), this.1, Bool.or_true], by rw [hl 7 (by decide), this.2, Bool.or_true]⟩
theorem RBox.op6 (hI : RBox w aa am ae la lm le ca cm ce n v44 v47 F1 F2 l u43 u44 u45 u46 u47 u48 u15 u16 tag W) (hl : ∀ j, j < 10 → (l.setIfInBounds 6 true).getD j false = (j == 6 || l.getD j false)) (hn : l.getD 6 false = false) :
    RBox w aa am ae la lm le ca cm ce n v44 v47 F1 F2 (l.setIfInBounds 6 true) u43 u44 u45 u46 u47 u48 (.pointer (some ⟨W.heap.size, 0, none⟩)) u16 (tagUp tag W.heap.size 1) (W.alloc (.cells #[.slice none 0 0] 86)) := by
  have ht : Turn w.heap.size tag (tagUp tag W.heap.size 1) 1 W (W.alloc (.cells #[.slice none 0 0] 86)) := Turn.alloc _
  have hsz := hI.bel.size
  refine ⟨belTurn hI.bel ht hsz, hI.box.turn ht (by decide), ?_, ?_, ?_, ?_, ?_, ?_, ?_, ?_, ?_, ?_⟩
  · exact fun h => (hI.s43 (by rwa [up_ne hl 0 (by decide) rfl] at h))
  · exact fun h => (hI.s44 (by rwa [up_ne hl 1 (by decide) rfl] at h))
  · exact fun h => (hI.s45 (by rwa [up_ne hl 2 (by decide) rfl] at h)).turn ht (by decide)
  · exact fun h => (hI.s46 (by rwa [up_ne hl 3 (by decide) rfl] at h))
  · exact fun h => (hI.s47 (by rwa [up_ne hl 4 (by decide) rfl] at h))
  · exact fun h => (hI.s48 (by rwa [up_ne hl 5 (by decide) rfl] at h)).turn ht (by decide)
  · exact fun _ => by
      have h8 : l.getD 8 false = false := by
        cases h8 : l.getD 8 false with
        | false => rfl
        | true => rw [(hI.o8 h8).2] at hn; cases hn
      rw [up_ne hl 8 (by decide) rfl, h8]
      exact ⟨_, rfl, Own.new W _ _ _ _ _ hsz (tagUp_at _ _ _)⟩
  · exact fun h => by
      obtain ⟨b, hb, ho⟩ := (hI.s16 (by rwa [up_ne hl 7 (by decide) rfl] at h))
      rw [up_ne hl 9 (by decide) rfl]
      exact ⟨b, hb, ho.turn ht (by decide)⟩
  · exact fun h => by
      rw [up_ne hl 8 (by decide) rfl] at h
      have := hI.o8 h
      exact ⟨by rw [hl 2 (by decide), this.1, Bool.or_true], by rw [hl 6 (by decide), this.2, Bool.or_true]⟩
  · exact fun h => by
      rw [up_ne hl 9 (by decide) rfl] at h
      have := hI.o9 h
      exact ⟨by rw [hl 5 (by decide), this.1, Bool.or_true], by rw [hl 7 (by decide), this.2, Bool.or_true]⟩
theorem RBox.op7 (hI : RBox w aa am ae la lm le ca cm ce n v44 v47 F1 F2 l u43 u44 u45 u46 u47 u48 u15 u16 tag W) (hl : ∀ j, j < 10 → (l.setIfInBounds 7 true).getD j false = (j == 7 || l.getD j false)) (hn : l.getD 7 false = false) :
    RBox w aa am ae la lm le ca cm ce n v44 v47 F1 F2 (l.setIfInBounds 7 true) u43 u44 u45 u46 u47 u48 u15 (.pointer (some ⟨W.heap.size, 0, none⟩)) (tagUp tag W.heap.size 2) (W.alloc (.cells #[.slice none 0 0] 86)) := by
  have ht : Turn w.heap.size tag (tagUp tag W.heap.size 2) 2 W (W.alloc (.cells #[.slice none 0 0] 86)) := Turn.alloc _
  have hsz := hI.bel.size
  refine ⟨belTurn hI.bel ht hsz, hI.box.turn ht (by decide), ?_, ?_, ?_, ?_, ?_, ?_, ?_, ?_, ?_, ?_⟩
  · exact fun h => (hI.s43 (by rwa [up_ne hl 0 (by decide) rfl] at h))
  · exact fun h => (hI.s44 (by rwa [up_ne hl 1 (by decide) rfl] at h))
  · exact fun h => (hI.s45 (by rwa [up_ne hl 2 (by decide) rfl] at h)).turn ht (by decide)
  · exact fun h => (hI.s46 (by rwa [up_ne hl 3 (by decide) rfl] at h))
  · exact fun h => (hI.s47 (by rwa [up_ne hl 4 (by decide) rfl] at h))
  · exact fun h => (hI.s48 (by rwa [up_ne hl 5 (by decide) rfl] at h)).turn ht (by decide)
  · exact fun h => by
      obtain ⟨b, hb, ho⟩ := (hI.s15 (by rwa [up_ne hl 6 (by decide) rfl] at h))
      rw [up_ne hl 8 (by decide) rfl]
      exact ⟨b, hb, ho.turn ht (by decide)⟩
  · exact fun _ => by
      have h8 : l.getD 9 false = false := by
        cases h8 : l.getD 9 false with
        | false => rfl
        | true => rw [(hI.o9 h8).2] at hn; cases hn
      rw [up_ne hl 9 (by decide) rfl, h8]
      exact ⟨_, rfl, Own.new W _ _ _ _ _ hsz (tagUp_at _ _ _)⟩
  · exact fun h => by
      rw [up_ne hl 8 (by decide) rfl] at h
      have := hI.o8 h
      exact ⟨by rw [hl 2 (by decide), this.1, Bool.or_true], by rw [hl 6 (by decide), this.2, Bool.or_true]⟩
  · exact fun h => by
      rw [up_ne hl 9 (by decide) rfl] at h
      have := hI.o9 h
      exact ⟨by rw [hl 5 (by decide), this.1, Bool.or_true], by rw [hl 7 (by decide), this.2, Bool.or_true]⟩
theorem RBox.op8 {bx : Nat} (hI : RBox w aa am ae la lm le ca cm ce n v44 v47 F1 F2 l u43 u44 u45 u46 u47 u48 (.pointer (some ⟨bx, 0, none⟩)) u16 tag W) (hl : ∀ j, j < 10 → (l.setIfInBounds 8 true).getD j false = (j == 8 || l.getD j false)) (h1 : l.getD 6 false = true) (h2 : l.getD 2 false = true) :
    RBox w aa am ae la lm le ca cm ce n v44 v47 F1 F2 (l.setIfInBounds 8 true) u43 u44 u45 u46 u47 u48 (.pointer (some ⟨bx, 0, none⟩)) u16 tag (W.setCell ⟨bx, 0, none⟩ u45) := by
  obtain ⟨b, hb, ho⟩ := hI.s15 h1
  cases hb
  have ht : Turn w.heap.size tag tag 1 W (W.setCell ⟨bx, 0, none⟩ u45) := Turn.setCell ho 0 _
  have hsz := hI.bel.size
  refine ⟨belTurn hI.bel ht hsz, hI.box.turn ht (by decide), ?_, ?_, ?_, ?_, ?_, ?_, ?_, ?_, ?_, ?_⟩
  · exact fun h => (hI.s43 (by rwa [up_ne hl 0 (by decide) rfl] at h))
  · exact fun h => (hI.s44 (by rwa [up_ne hl 1 (by decide) rfl] at h))
  · exact fun h => (hI.s45 (by rwa [up_ne hl 2 (by decide) rfl] at h)).turn ht (by decide)
  · exact fun h => (hI.s46 (by rwa [up_ne hl 3 (by decide) rfl] at h))
  · exact fun h => (hI.s47 (by rwa [up_ne hl 4 (by decide) rfl] at h))
  · exact fun h => (hI.s48 (by rwa [up_ne hl 5 (by decide) rfl] at h)).turn ht (by decide)
  · exact fun _ => by
      refine ⟨_, rfl, ?_⟩
      rw [hl 8 (by decide)]
      simpa using ho.set 0 u45
  · exact fun h => by
      obtain ⟨b, hb, ho⟩ := (hI.s16 (by rwa [up_ne hl 7 (by decide) rfl] at h))
      rw [up_ne hl 9 (by decide) rfl]
      exact ⟨b, hb, ho.turn ht (by decide)⟩
  · exact fun _ => ⟨by rw [hl 2 (by decide), h2, Bool.or_true], by rw [hl 6 (by decide), h1, Bool.or_true]⟩
  · exact fun h => by
      rw [up_ne hl 9 (by decide) rfl] at h
      have := hI.o9 h
      exact ⟨by rw [hl 5 (by decide), this.1, Bool.or_true], by rw [hl 7 (by decide), this.2, Bool.or_true]⟩
theorem RBox.op9 {bx : Nat} (hI : RBox w aa am ae la lm le ca cm ce n v44 v47 F1 F2 l u43 u44 u45 u46 u47 u48 u15 (.pointer (some ⟨bx, 0, none⟩)) tag W) (hl : ∀ j, j < 10 → (l.setIfInBounds 9 true).getD j false = (j == 9 || l.getD j false)) (h1 : l.getD 7 false = true) (h2 : l.getD 5 false = true) :
    RBox w aa am ae la lm le ca cm ce n v44 v47 F1 F2 (l.setIfInBounds 9 true) u43 u44 u45 u46 u47 u48 u15 (.pointer (some ⟨bx, 0, none⟩)) tag (W.setCell ⟨bx, 0, none⟩ u48) := by
  obtain ⟨b, hb, ho⟩ := hI.s16 h1
  cases hb
  have ht : Turn w.heap.size tag tag 2 W (W.setCell ⟨bx, 0, none⟩ u48) := Turn.setCell ho 0 _
  have hsz := hI.bel.size
  refine ⟨belTurn hI.bel ht hsz, hI.box.turn ht (by decide), ?_, ?_, ?_, ?_, ?_, ?_, ?_, ?_, ?_, ?_⟩
  · exact fun h => (hI.s43 (by rwa [up_ne hl 0 (by decide) rfl] at h))
  · exact fun h => (hI.s44 (by rwa [up_ne hl 1 (by decide) rfl] at h))
  · exact fun h => (hI.s45 (by rwa [up_ne hl 2 (by decide) rfl] at h)).turn ht (by decide)
  · exact fun h => (hI.s46 (by rwa [up_ne hl 3 (by decide) rfl] at h))
  · exact fun h => (hI.s47 (by rwa [up_ne hl 4 (by decide) rfl] at h))
  · exact fun h => (hI.s48 (by rwa [up_ne hl 5 (by decide) rfl] at h)).turn ht (by decide)
  · exact fun h => by
      obtain ⟨b, hb, ho⟩ := (hI.s15 (by rwa [up_ne hl 6 (by decide) rfl] at h))
      rw [up_ne hl 8 (by decide) rfl]
      exact ⟨b, hb, ho.turn ht (by decide)⟩
  · exact fun _ => by
      refine ⟨_, rfl, ?_⟩
      rw [hl 9 (by decide)]
      simpa using ho.set 0 u48
  · exact fun h => by
      rw [up_ne hl 8 (by decide) rfl] at h
      have := hI.o8 h
      exact ⟨by rw [hl 2 (by decide), this.1, Bool.or_true], by rw [hl 6 (by decide), this.2, Bool.or_true]⟩
  · exact fun _ => ⟨by rw [hl 5 (by decide), h2, Bool.or_true], by rw [hl 7 (by decide), h1, Bool.or_true]⟩
end

end Go.Proofs.Ythchkddhibhenaa

/- The contract of Path. -/
namespace Go.Proofs.Ythchkddhibhenaa
open Go.RowKit

/-- What Path returns. -/
def PPost (e : Int) (r : Option (List Int)) (u : Value) (w' : World) : Prop :=
  if e = 0 then match r with
    | some xs => ∃ v, u = .tuple #[v, .bool true, .int .i64 0] ∧ RdI w' v xs
    | none => u = .tuple #[.slice none 0 0, .bool false, .int .i64 0]
  else u = .tuple #[.slice none 0 0, .bool false, .int .i64 e]
theorem PPost.err {e : Int} {r : Option (List Int)} {w' : World} (h : e ≠ 0) : PPost e r (.tuple #[.slice none 0 0, .bool false, .int .i64 e]) w' := by
  unfold PPost; rw [if_neg h]
/-- The error of Path. -/
def pathErr (a : Aut) (from_ : Int) (tg wi : List Int) : Int := err2 a.err (if from_ < 0 ∨ a.n ≤ from_ then 2 else err2 (setErr a.n none tg) (setErr a.n none wi))
/-- The word of Path. -/
def reachPath (a : Aut) (from_ : Int) (tg wi : List Int) : Option (List Int) := if hasB wi from_ = true then pathF a.n.toNat a.es (hasB tg) (fun x => hasB wi x.t) from_.toNat else none
/-- Where the loop over both sets is. -/
def PLoop (e1 e2 : Int) (j : Value) : Prop := j = .int .i64 0 ∨ (j = .int .i64 1 ∧ e1 = 0) ∨ (j = .int .i64 2 ∧ e1 = 0 ∧ e2 = 0)
theorem flagL_getD {n : Nat} {set : List Int} {s : Int} (h0 : 0 ≤ s) (h1 : s < n) : (flagL n set).getD s.toNat false = hasB set s := by
  rw [List.getD_eq_getElem?_getD, flagL, List.getElem?_map, List.getElem?_range (by omega)]
  simp [Int.toNat_of_nonneg h0]

set_option maxRecDepth 100000 in
set_option maxHeartbeats 800000 in
theorem rpath_any (v vt vw : Value) (a : Aut) (from_ : Int) (tg wi : List Int) (w : World) (ha : RdA w v a) (hs : a.small) (ht : RdI w vt tg) (hw : RdI w vw wi) (hlt : tg.length ≤ 1000000) (hlw : wi.length ≤ 1000000) :
    Calls Try.prog 17 #[v, .int .i64 from_, vt, vw] w (Ret w (PPost (pathErr a from_ tg wi) (reachPath a from_ tg wi))) := by
  have ha0 := ha
  obtain ⟨va, vm, ve, rfl, ⟨aa, ca, rfl, hra⟩, ⟨am, cm, rfl, hrm⟩, ⟨ae, ce, rfl, hre⟩⟩ := ha
  have Ht := Lib.hid ht
  have Hw := Lib.hid hw
  obtain ⟨at_, ct, rfl, hrt⟩ := ht
  obtain ⟨aw, cw, rfl, hrw⟩ := hw
  have Ha0 := Lib.hid ha0
  have Hs := Lib.hid hs
  clear ha0 hs
  have hix0 : ∀ w, (Instr.index 85 (.agg #[.slice at_ tg.length ct, .slice aw wi.length cw]) (.int .i64 0)).run Try.prog w = .ok (.slice at_ tg.length ct) w := fun _ => by kernel_rfl
  have hix1 : ∀ w, (Instr.index 85 (.agg #[.slice at_ tg.length ct, .slice aw wi.length cw]) (.int .i64 1)).run Try.prog w = .ok (.slice aw wi.length cw) w := fun _ => by kernel_rfl
  go_enter Try.func17, Try.ntmps17
  go_wp2_with fail
  refine (check_any _ a _ (Ha0.out.mono (by (repeat (first | with_reducible exact Below.refl _ _ | with_reducible exact Ha0 | (with_reducible refine belCall ?_ Ha0 (by first | omega | (simp; done) | (simp; omega) | (simp at *; omega))) | (with_reducible refine Below.alloc ?_ (by first | omega | (simp; done) | (simp; omega) | (simp at *; omega)) _) | (with_reducible refine Below.drew ?_) | (with_reducible refine Below.setCell ?_ (by first | omega | (simp; done) | (simp; omega) | (simp at *; omega)) _))))) Hs.out).mono ?_
  rintro e w1 ⟨_, rfl, rfl, hb1⟩
  have hW1 : Below w.heap.size w w1 := ((Below.refl _ _).alloc (Nat.le_refl _) _).trans (hb1.mono (by simp))
  have hbx := box4 hb1
  clear hb1
  by_cases h1 : a.err = 0
  · have hok := Aut.ok_of h1
    have H1 := Lib.hid h1
    rw [h1]
    clear h1
    by_cases hf : from_ < 0 ∨ a.n ≤ from_
    · have Hf := Lib.hid hf
      obtain ⟨x0, x1, x2, x3, x4⟩ := hbx
      by_cases hlt0 : from_ < 0
      all_goals
        try have hge : a.n ≤ from_ := by omega
        clear hf
        go_wp2_with fail
        refine bodyPost_ret (v := .tuple #[.slice none 0 0, .bool false, .int .i64 2]) (by simp [results, Try.results17, go_sem]) rfl ⟨_, rfl, ?_, hW1⟩
        rw [show pathErr a from_ tg wi = 2 by rw [pathErr, err2, if_pos H1.out, if_pos Hf.out]]
        exact PPost.err (by decide)
    · have hf0 : 0 ≤ from_ := by omega
      have hf1 : from_ < a.n := by omega
      have Hf := Lib.hid hf
      clear hf
      have Hes := Lib.hid hok.es
      have d1 : decide (from_ < 0) = false := by simpa using hf0
      have d2 : decide (a.n ≤ from_) = false := by simpa using hf1
      have hn0 := hok.n0
      have hn1 := hok.n1
      have hae := Hs.out.es
      clear hok
      obtain ⟨x0, x1, x2, x3, x4⟩ := hbx
      go_wp2_with fail
      clear d1 d2
      go_loopw [33] (fun j wr => PLoop (setErr a.n none tg) (setErr a.n none wi) j ∧ Below w.heap.size w wr ∧ wr.cell? ⟨w.heap.size, 0, none⟩ = some (.slice aa a.al.length ca) ∧ wr.cell? ⟨w.heap.size, 1, none⟩ = some (.int .i64 a.n) ∧ wr.cell? ⟨w.heap.size, 2, none⟩ = some (.slice am a.ms.length cm) ∧ wr.cell? ⟨w.heap.size, 3, none⟩ = some (.slice ae a.es.length ce) ∧ w.heap.size < wr.heap.size) (fun j _ => 2 - (intOf j).toNat)
      case atStart => exact ⟨.inl rfl, hW1, x0, x1, x2, x3, x4⟩
      case round =>
        clear x0 x1 x2 x3 x4 hW1
        obtain ⟨hj, hB, x0, x1, x2, x3, x4⟩ := hrel
        have hbx := And.intro x0 (And.intro x1 (And.intro x2 (And.intro x3 x4)))
        have Hbx := Lib.hid hbx
        clear hbx
        rcases hj with rfl | ⟨rfl, h2⟩ | ⟨rfl, h2, h3⟩
        · go_wp2_with fail
          refine (checkStates_any _ _ _ _ _ _ _ _ _ _ _ tg _ (Ht.out.mono hB) hlt).mono ?_
          rintro e w2 ⟨_, rfl, rfl, hb2⟩
          have hW2 := hB.trans (hb2.mono hB.size)
          have hbx2 := box4' Hbx.out hb2
          clear x0 x1 x2 x3 x4
          by_cases h2 : setErr a.n none tg = 0
          · have H2 := Lib.hid h2
            rw [h2]
            clear h2
            obtain ⟨x0, x1, x2, x3, x4⟩ := hbx2
            go_wp2_with fail
            go_roundw
            case rel => exact ⟨.inr (.inl ⟨rfl, H2.out⟩), hW2, x0, x1, x2, x3, x4⟩
            case measure => simp [intOf]
          · have H2 := Lib.hid h2
            have h2' : (setErr a.n none tg != 0) = true := by simpa using h2
            clear h2
            go_wp2_with fail
            refine bodyPost_ret (v := .tuple #[.slice none 0 0, .bool false, .int .i64 (setErr a.n none tg)]) (by simp [results, Try.results17, go_sem]) rfl ⟨_, rfl, ?_, hW2⟩
            rw [show pathErr a from_ tg wi = setErr a.n none tg by rw [pathErr, err2, if_pos H1.out, if_neg Hf.out, err2, if_neg H2.out]]
            exact PPost.err H2.out
        · have H2 := Lib.hid h2
          clear h2
          go_wp2_with fail
          refine (checkStates_any _ _ _ _ _ _ _ _ _ _ _ wi _ (Hw.out.mono hB) hlw).mono ?_
          rintro e w2 ⟨_, rfl, rfl, hb2⟩
          have hW2 := hB.trans (hb2.mono hB.size)
          have hbx2 := box4' Hbx.out hb2
          clear x0 x1 x2 x3 x4
          by_cases h2 : setErr a.n none wi = 0
          · have H3 := Lib.hid h2
            rw [h2]
            clear h2
            obtain ⟨x0, x1, x2, x3, x4⟩ := hbx2
            go_wp2_with fail
            go_roundw
            case rel => exact ⟨.inr (.inr ⟨rfl, H2.out, H3.out⟩), hW2, x0, x1, x2, x3, x4⟩
            case measure => simp [intOf]
          · have H3 := Lib.hid h2
            have h2' : (setErr a.n none wi != 0) = true := by simpa using h2
            clear h2
            go_wp2_with fail
            refine bodyPost_ret (v := .tuple #[.slice none 0 0, .bool false, .int .i64 (setErr a.n none wi)]) (by simp [results, Try.results17, go_sem]) rfl ⟨_, rfl, ?_, hW2⟩
            rw [show pathErr a from_ tg wi = setErr a.n none wi by rw [pathErr, err2, if_pos H1.out, if_neg Hf.out, err2, if_pos H2.out]]
            exact PPost.err H3.out
        · have Herr : Hid (pathErr a from_ tg wi = 0) := by
            show _ = _
            rw [pathErr, err2, if_pos H1.out, if_neg Hf.out, err2, if_pos h2, h3]
          have htin := setErr_zero h2
          have hwin := setErr_zero h3
          have Htin := Lib.hid htin
          have Hwin := Lib.hid hwin
          clear htin hwin h2 h3
          have Hpath : Hid (reachPath a from_ tg wi = if hasB wi from_ = true then pathF a.n.toNat a.es (hasB tg) (fun x => hasB wi x.t) from_.toNat else none) := rfl
          generalize hn : a.n = an at *
          obtain ⟨n, rfl⟩ := Int.eq_ofNat_of_zero_le hn0
          obtain ⟨fr, rfl⟩ := Int.eq_ofNat_of_zero_le hf0
          have hn' : n ≤ 4096 := by omega
          have hfr : fr < n := by omega
          have Hn := Lib.hid hn
          clear hn hn0 hn1 hf0 hf1
          have hbd := box4' Hbx.out (bel_drew wr)
          obtain ⟨y0, y1, y2, y3, y4⟩ := hbd
          go_upto_region 13 with fail
          go_cut [15, 16] (fun s15 s16 wx => ∃ (b1 b2 : Nat) (a1 a2 : Option Addr) (c1 c2 : Nat), s15 = .pointer (some ⟨b1, 0, none⟩) ∧ s16 = .pointer (some ⟨b2, 0, none⟩) ∧ Below w.heap.size w wx ∧
            wx.cell? ⟨w.heap.size, 0, none⟩ = some (.slice aa a.al.length ca) ∧ wx.cell? ⟨w.heap.size, 1, none⟩ = some (.int .i64 n) ∧ wx.cell? ⟨w.heap.size, 2, none⟩ = some (.slice am a.ms.length cm) ∧ wx.cell? ⟨w.heap.size, 3, none⟩ = some (.slice ae a.es.length ce) ∧ w.heap.size < wx.heap.size ∧
            wx.cell? ⟨b1, 0, none⟩ = some (.slice a1 n c1) ∧ wx.cell? ⟨b2, 0, none⟩ = some (.slice a2 n c2) ∧ RdS wx 1 a1 n c1 (bools (flagL n wi)) ∧ RdS wx 1 a2 n c2 (bools (flagL n tg)))
          case first =>
            refine wp_region_inv (fun l us W => ∃ u43 u44 u45 u46 u47 u48 u15 u16 tag, us = [u43, u44, u45, u46, u47, u48, u15, u16] ∧ RBox w aa am ae a.al.length a.ms.length a.es.length ca cm ce n (.slice aw wi.length cw) (.slice at_ tg.length ct) (flagL n wi) (flagL n tg) l u43 u44 u45 u46 u47 u48 u15 u16 tag W) [43, 44, 45, 46, 47, 48, 15, 16] (by kernel_rfl) (by kernel_rfl) ?_ ?_ ?_
            · exact ⟨_, _, _, _, _, _, _, _, fun _ => 0, rfl, RBox.start hB.drew ⟨rfl, x4, x0, x1, x2, x3⟩⟩
            · refine Steps.cons rfl ?_ ?_
              · rintro l us W hl ⟨u43, u44, u45, u46, u47, u48, u15, u16, tag, rfl, hI⟩ hd hn K' hK
                have Hl : Hid (∀ j, j < 10 → (l.setIfInBounds 0 true).getD j false = (j == 0 || l.getD j false)) := hl
                have Hn : Hid (l.getD 0 false = false) := hn
                have HI := Lib.hid hI
                have HK := Lib.hid hK
                have y1 := hI.box.x0
                have y2 := hI.box.x1
                have y3 := hI.box.x2
                have y4 := hI.box.x3
                clear hl hd hn hI hK
                refine StepG.mk ?_
                simp only [puts, Act.put]
                go_simp
                exact HK.out [.agg #[.slice aa a.al.length ca, .int .i64 n, .slice am a.ms.length cm, .slice ae a.es.length ce], u44, u45, u46, u47, u48, u15, u16] _ _ (by simp [puts, Act.put]) ⟨_, _, _, _, _, _, _, _, _, rfl, HI.out.op0 Hl.out⟩
              refine Steps.cons rfl ?_ ?_
              · rintro l us W hl ⟨u43, u44, u45, u46, u47, u48, u15, u16, tag, rfl, hI⟩ hd hn K' hK
                have Hl : Hid (∀ j, j < 10 → (l.setIfInBounds 1 true).getD j false = (j == 1 || l.getD j false)) := hl
                have Hn : Hid (l.getD 1 false = false) := hn
                have HI := Lib.hid hI
                have HK := Lib.hid hK
                clear hl hd hn hI hK
                refine StepG.mk ?_
                simp only [puts, Act.put]
                go_simp
                exact HK.out [u43, .slice aw wi.length cw, u45, u46, u47, u48, u15, u16] _ _ (by simp [puts, Act.put]) ⟨_, _, _, _, _, _, _, _, _, rfl, HI.out.op1 Hl.out⟩
              refine Steps.cons rfl ?_ ?_
              · rintro l us W hl ⟨u43, u44, u45, u46, u47, u48, u15, u16, tag, rfl, hI⟩ hd hn K' hK
                have Hl : Hid (∀ j, j < 10 → (l.setIfInBounds 2 true).getD j false = (j == 2 || l.getD j false)) := hl
                have Hn : Hid (l.getD 2 false = false) := hn
                have HI := Lib.hid hI
                have HK := Lib.hid hK
                have d : l.getD 0 false = true ∧ l.getD 1 false = true := by simpa [Region.binds] using hd
                obtain rfl := hI.s43 d.1
                obtain rfl := hI.s44 d.2
                have hB' := hI.bel
                clear hl hd hn hI hK d
                refine StepG.mk ?_
                simp only [puts, Act.put]
                go_simp
                refine (flags_any _ _ _ (.slice aw wi.length cw) n wi _ (Hw.out.mono hB') hlw (by omega) Hwin.out).mono ?_
                rintro e w3 ⟨v3, rfl, hown3, hb3⟩
                go_simp
                exact HK.out [.agg #[.slice aa a.al.length ca, .int .i64 n, .slice am a.ms.length cm, .slice ae a.es.length ce], .slice aw wi.length cw, v3, u46, u47, u48, u15, u16] _ _ (by simp [puts, Act.put]) ⟨_, _, _, _, _, _, _, _, _, rfl, HI.out.op2 Hl.out hb3 hown3 Hn.out⟩
              refine Steps.cons rfl ?_ ?_
              · rintro l us W hl ⟨u43, u44, u45, u46, u47, u48, u15, u16, tag, rfl, hI⟩ hd hn K' hK
                have Hl : Hid (∀ j, j < 10 → (l.setIfInBounds 3 true).getD j false = (j == 3 || l.getD j false)) := hl
                have Hn : Hid (l.getD 3 false = false) := hn
                have HI := Lib.hid hI
                have HK := Lib.hid hK
                have y1 := hI.box.x0
                have y2 := hI.box.x1
                have y3 := hI.box.x2
                have y4 := hI.box.x3
                clear hl hd hn hI hK
                refine StepG.mk ?_
                simp only [puts, Act.put]
                go_simp
                exact HK.out [u43, u44, u45, .agg #[.slice aa a.al.length ca, .int .i64 n, .slice am a.ms.length cm, .slice ae a.es.length ce], u47, u48, u15, u16] _ _ (by simp [puts, Act.put]) ⟨_, _, _, _, _, _, _, _, _, rfl, HI.out.op3 Hl.out⟩
              refine Steps.cons rfl ?_ ?_
              · rintro l us W hl ⟨u43, u44, u45, u46, u47, u48, u15, u16, tag, rfl, hI⟩ hd hn K' hK
                have Hl : Hid (∀ j, j < 10 → (l.setIfInBounds 4 true).getD j false = (j == 4 || l.getD j false)) := hl
                have Hn : Hid (l.getD 4 false = false) := hn
                have HI := Lib.hid hI
                have HK := Lib.hid hK
                clear hl hd hn hI hK
                refine StepG.mk ?_
                simp only [puts, Act.put]
                go_simp
                exact HK.out [u43, u44, u45, u46, .slice at_ tg.length ct, u48, u15, u16] _ _ (by simp [puts, Act.put]) ⟨_, _, _, _, _, _, _, _, _, rfl, HI.out.op4 Hl.out⟩
              refine Steps.cons rfl ?_ ?_
              · rintro l us W hl ⟨u43, u44, u45, u46, u47, u48, u15, u16, tag, rfl, hI⟩ hd hn K' hK
                have Hl : Hid (∀ j, j < 10 → (l.setIfInBounds 5 true).getD j false = (j == 5 || l.getD j false)) := hl
                have Hn : Hid (l.getD 5 false = false) := hn
                have HI := Lib.hid hI
                have HK := Lib.hid hK
                have d : l.getD 3 false = true ∧ l.getD 4 false = true := by
                  simp [Region.binds] at hd
                  exact ⟨by simp [hd], by simp [hd]⟩
                obtain rfl := hI.s46 d.1
                obtain rfl := hI.s47 d.2
                have hB' := hI.bel
                clear hl hd hn hI hK d
                refine StepG.mk ?_
                simp only [puts, Act.put]
                go_simp
                refine (flags_any _ _ _ (.slice at_ tg.length ct) n tg _ (Ht.out.mono hB') hlt (by omega) Htin.out).mono ?_
                rintro e w3 ⟨v3, rfl, hown3, hb3⟩
                go_simp
                exact HK.out [u43, u44, u45, .agg #[.slice aa a.al.length ca, .int .i64 n, .slice am a.ms.length cm, .slice ae a.es.length ce], .slice at_ tg.length ct, v3, u15, u16] _ _ (by simp [puts, Act.put]) ⟨_, _, _, _, _, _, _, _, _, rfl, HI.out.op5 Hl.out hb3 hown3 Hn.out⟩
              refine Steps.cons rfl ?_ ?_
              · rintro l us W hl ⟨u43, u44, u45, u46, u47, u48, u15, u16, tag, rfl, hI⟩ hd hn K' hK
                have Hl : Hid (∀ j, j < 10 → (l.setIfInBounds 6 true).getD j false = (j == 6 || l.getD j false)) := hl
                have Hn : Hid (l.getD 6 false = false) := hn
                have HI := Lib.hid hI
                have HK := Lib.hid hK
                clear hl hd hn hI hK
                refine StepG.mk ?_
                simp only [puts, Act.put]
                go_simp
                exact HK.out [u43, u44, u45, u46, u47, u48, .pointer (some ⟨W.heap.size, 0, none⟩), u16] _ _ (by simp [puts, Act.put]) ⟨_, _, _, _, _, _, _, _, _, rfl, HI.out.op6 Hl.out Hn.out⟩
              refine Steps.cons rfl ?_ ?_
              · rintro l us W hl ⟨u43, u44, u45, u46, u47, u48, u15, u16, tag, rfl, hI⟩ hd hn K' hK
                have Hl : Hid (∀ j, j < 10 → (l.setIfInBounds 7 true).getD j false = (j == 7 || l.getD j false)) := hl
                have Hn : Hid (l.getD 7 false = false) := hn
                have HI := Lib.hid hI
                have HK := Lib.hid hK
                clear hl hd hn hI hK
                refine StepG.mk ?_
                simp only [puts, Act.put]
                go_simp
                exact HK.out [u43, u44, u45, u46, u47, u48, u15, .pointer (some ⟨W.heap.size, 0, none⟩)] _ _ (by simp [puts, Act.put]) ⟨_, _, _, _, _, _, _, _, _, rfl, HI.out.op7 Hl.out Hn.out⟩
              refine Steps.cons rfl ?_ ?_
              · rintro l us W hl ⟨u43, u44, u45, u46, u47, u48, u15, u16, tag, rfl, hI⟩ hd hn K' hK
                have Hl : Hid (∀ j, j < 10 → (l.setIfInBounds 8 true).getD j false = (j == 8 || l.getD j false)) := hl
                have Hn : Hid (l.getD 8 false = false) := hn
                have HI := Lib.hid hI
                have HK := Lib.hid hK
                have d : l.getD 6 false = true ∧ l.getD 2 false = true := by
                  simp [Region.binds] at hd
                  exact ⟨by simp [hd], by simp [hd]⟩
                refine Exists.elim (hI.s15 d.1) (fun b hb => ?_)
                have hb1 := hb.1
                have ho := hb.2
                subst hb1
                refine Exists.elim (hI.s45 d.2).val (fun a3 h3 => Exists.elim h3 (fun c3 h4 => ?_))
                subst h4
                clear hb h3
                have q1 := ho.cell 0
                have q2 := ho.frozen 0
                simp at q1
                have D := Lib.hid d
                clear hl hd hn hI hK d ho
                refine StepG.mk ?_
                simp only [puts, Act.put]
                go_simp
                exact HK.out [u43, u44, .slice a3 n c3, u46, u47, u48, .pointer (some ⟨b, 0, none⟩), u16] _ _ (by simp [puts, Act.put]) ⟨_, _, _, _, _, _, _, _, _, rfl, HI.out.op8 Hl.out D.out.1 D.out.2⟩
              refine Steps.cons rfl ?_ ?_
              · rintro l us W hl ⟨u43, u44, u45, u46, u47, u48, u15, u16, tag, rfl, hI⟩ hd hn K' hK
                have Hl : Hid (∀ j, j < 10 → (l.setIfInBounds 9 true).getD j false = (j == 9 || l.getD j false)) := hl
                have Hn : Hid (l.getD 9 false = false) := hn
                have HI := Lib.hid hI
                have HK := Lib.hid hK
                have d : l.getD 7 false = true ∧ l.getD 5 false = true := by
                  simp [Region.binds] at hd
                  exact ⟨by simp [hd], by simp [hd]⟩
                refine Exists.elim (hI.s16 d.1) (fun b hb => ?_)
                have hb1 := hb.1
                have ho := hb.2
                subst hb1
                refine Exists.elim (hI.s48 d.2).val (fun a3 h3 => Exists.elim h3 (fun c3 h4 => ?_))
                subst h4
                clear hb h3
                have q1 := ho.cell 0
                have q2 := ho.frozen 0
                simp at q1
                have D := Lib.hid d
                clear hl hd hn hI hK d ho
                refine StepG.mk ?_
                simp only [puts, Act.put]
                go_simp
                exact HK.out [u43, u44, u45, u46, u47, .slice a3 n c3, u15, .pointer (some ⟨b, 0, none⟩)] _ _ (by simp [puts, Act.put]) ⟨_, _, _, _, _, _, _, _, _, rfl, HI.out.op9 Hl.out D.out.1 D.out.2⟩
              exact Steps.nil (Nat.le_refl _)
            · rintro l us W ⟨u43, u44, u45, u46, u47, u48, u15, u16, tag, rfl, hI⟩ hall
              have h2 := hI.s45 (hall 2 (by decide))
              have h5 := hI.s48 (hall 5 (by decide))
              refine Exists.elim (hI.s15 (hall 6 (by decide))) (fun b1 hb1 => ?_)
              refine Exists.elim (hI.s16 (hall 7 (by decide))) (fun b2 hb2 => ?_)
              have e1 := hb1.1
              have e2 := hb2.1
              have ho1 := hb1.2
              have ho2 := hb2.2
              clear hb1 hb2
              subst e1
              subst e2
              rw [if_pos (hall 8 (by decide))] at ho1
              rw [if_pos (hall 9 (by decide))] at ho2
              refine Exists.elim h2.rd (fun a1 g1 => Exists.elim g1 (fun c1 g2 => ?_))
              refine Exists.elim h5.rd (fun a2 g3 => Exists.elim g3 (fun c2 g4 => ?_))
              have e1 := g2.1
              have e2 := g4.1
              have hr1 := g2.2
              have hr2 := g4.2
              clear g1 g2 g3 g4
              subst e1
              subst e2
              have HI := Lib.hid (And.intro hI.bel (And.intro hI.box (And.intro hr1 (And.intro hr2 (And.intro ho1 ho2)))))
              clear hall h2 h5 hr1 hr2 ho1 ho2 hI
              simp only [puts, Act.put, List.setIfInBounds_toArray, List.set_cons_succ, List.set_cons_zero]
              go_wp2_with fail
              go_meet
              obtain ⟨g1, g2, g3, g4, g5, g6⟩ := HI.out
              exact ⟨b1, b2, a1, a2, c1, c2, rfl, rfl, g1, g2.x0, g2.x1, g2.x2, g2.x3, g2.lt, g5.cell 0, g6.cell 0, g3, g4⟩
          case rest =>
            obtain ⟨b1, b2, a1, a2, c1, c2, rfl, rfl, hW, q0, q1, q2, q3, q4, k1, k2, hr1, hr2⟩ := hcut
            have hfl1 : (flagL n wi).length = n := flagL_length n wi
            have hfl2 : (flagL n tg).length = n := flagL_length n tg
            have hR1 : RdB wc (.slice a1 n c1) (flagL n wi) := ⟨a1, c1, by rw [hfl1], by rw [hfl1]; exact hr1⟩
            have hR2 : RdB wc (.slice a2 n c2) (flagL n tg) := ⟨a2, c2, by rw [hfl2], by rw [hfl2]; exact hr2⟩
            have HR1 := Lib.hid hR1
            have HR2 := Lib.hid hR2
            have hr1' : RdS wc 1 a1 (flagL n wi).length c1 (bools (flagL n wi)) := by rw [hfl1]; exact hr1
            obtain ⟨bb, off, rfl, hcell⟩ := hr1'.at_bool fr (by omega)
            have hget : (flagL n wi)[fr]'(by omega) = hasB wi fr := by
              have := flagL_getD (n := n) (set := wi) (s := (fr : Int)) (by omega) (by omega)
              rw [Int.toNat_natCast, List.getD_eq_getElem?_getD, List.getElem?_eq_getElem (by omega)] at this
              exact this
            rw [hget] at hcell
            have Hfl1 := Lib.hid hfl1
            have Hfl2 := Lib.hid hfl2
            clear hget hfl1 hfl2 hr1' hR1 hR2
            cases hin : hasB wi fr with
            | false =>
              have Hin := Lib.hid hin
              rw [hin] at hcell
              clear hin
              go_wp2_with fail
              refine bodyPost_ret (v := .tuple #[.slice none 0 0, .bool false, .int .i64 0]) (by simp [results, Try.results17, go_sem]) rfl ⟨_, rfl, ?_, hW⟩
              rw [Herr.out, Hpath.out, if_neg (by rw [Hin.out]; decide)]
              unfold PPost
              rw [if_pos rfl]
            | true =>
              have Hin := Lib.hid hin
              rw [hin] at hcell
              clear hin
              go_wp2_with fail
              refine (newGraph_any _ _ _ _ _ _ _ n a.es _ (RdE.mono ⟨ae, ce, rfl, hre⟩ hW) hae (by omega) (fun x hx => ⟨(Hes.out x hx).1, (Hes.out x hx).2.1⟩)).mono ?_
              rintro e w3 ⟨_, rfl, ⟨af, cf, rfl, hrf⟩, hb3⟩
              have hW3 := hW.trans (hb3.mono hW.size)
              have k1' := keep0 hb3 k1
              have k2' := keep0 hb3 k2
              have HR1' := HR1.out.mono hb3
              have HR2' := HR2.out.mono hb3
              have HE1 : Enters Try.prog 54 := fun _ _ => by kernel_rfl
              have HE2 : Enters Try.prog 55 := fun _ _ => by kernel_rfl
              have hEs := (RdS.mono hre hW3)
              have H1 : Hid (∀ (s : Int) (W : World), 0 ≤ s → s < n → Below w3.heap.size w3 W → Calls Try.prog 54 (#[.int .i64 s] ++ #[Value.pointer (some ⟨b2, 0, none⟩)]) W fun e w' => e = .returned (.bool (hasB tg s)) ∧ Below W.heap.size W w') := by
                intro s W h0 h1 hb
                have := path1_any b2 _ (flagL n tg) s W (keep0 hb k2') (HR2'.mono hb) h0 (by rw [Hfl2.out]; exact h1) (by rw [Hfl2.out]; omega)
                rw [flagL_getD h0 h1] at this
                exact this
              have H2 : Hid (∀ (x : Ed) (W : World), x ∈ a.es → Below w3.heap.size w3 W → Calls Try.prog 55 (#[x.val] ++ #[Value.pointer (some ⟨b1, 0, none⟩)]) W fun e w' => e = .returned (.bool (hasB wi x.t)) ∧ Below W.heap.size W w') := by
                intro x W hx hb
                have hx' := Hes.out x hx
                have := path2_any b1 _ (flagL n wi) x W (keep0 hb k1') (HR1'.mono hb) hx'.2.2.1 (by rw [Hfl1.out]; exact hx'.2.2.2) (by rw [Hfl1.out]; omega)
                rw [flagL_getD hx'.2.2.1 hx'.2.2.2] at this
                exact this
              go_wp2_with fail
              refine (path_any aa am ae af _ _ ca cm ce cf n fr a.es _ _ _ _ (hasB tg) (fun x => hasB wi x.t) w3 hEs hrf hae (by omega) hfr (fun x hx => ⟨(Hes.out x hx).2.2.1, (Hes.out x hx).2.2.2⟩) HE1 HE2 H1.out H2.out).mono ?_
              rintro e w4 ⟨v4, rfl, hp4, hb4⟩
              have hW4 := hW3.trans (hb4.mono hW3.size)
              have Hpath' : Hid (reachPath a fr tg wi = pathF n a.es (hasB tg) (fun x => hasB wi x.t) fr) := by
                show _ = _
                rw [Hpath.out, if_pos Hin.out]
                simp only [Int.toNat_natCast]
              clear H1 H2 HE1 HE2 k1 k1' k2 k2' HR1' HR2' hEs hb4 hb3
              generalize pathF n a.es (hasB tg) (fun x => hasB wi x.t) fr = r at hp4 Hpath'
              cases r with
              | none =>
                have hp5 : v4 = .tuple #[.slice none 0 0, .bool false] := hp4
                subst hp5
                go_wp2_with fail
                refine bodyPost_ret (v := .tuple #[.slice none 0 0, .bool false, .int .i64 0]) (by simp [results, Try.results17, go_sem]) rfl ⟨_, rfl, ?_, hW4⟩
                rw [Herr.out, Hpath'.out]
                unfold PPost
                rw [if_pos rfl]
              | some xs =>
                obtain ⟨v5, rfl, hp5⟩ := hp4
                have Hp5 := Lib.hid hp5
                obtain ⟨a5, c5, rfl, hp6⟩ := hp5
                clear hp6
                go_wp2_with fail
                refine bodyPost_ret (v := .tuple #[.slice a5 xs.length c5, .bool true, .int .i64 0]) (by simp [results, Try.results17, go_sem]) rfl ⟨_, rfl, ?_, hW4⟩
                rw [Herr.out, Hpath'.out]
                unfold PPost
                rw [if_pos rfl]
                exact ⟨_, rfl, Hp5.out⟩
  · have H1 := Lib.hid h1
    have h1' : (a.err != 0) = true := by simpa using h1
    clear h1
    go_wp2_with fail
    refine bodyPost_ret (v := .tuple #[.slice none 0 0, .bool false, .int .i64 a.err]) (by simp [results, Try.results17, go_sem]) rfl ⟨_, rfl, ?_, hW1⟩
    rw [show pathErr a from_ tg wi = a.err by rw [pathErr, err2, if_neg H1.out]]
    exact PPost.err H1.out
end Go.Proofs.Ythchkddhibhenaa

/- What Make makes is right; plain laws for ReachSteps. -/
namespace Go.Proofs.Ythchkddhibhenaa

theorem setErr_ok {n : Int} : ∀ {p : Option Int} {xs : List Int}, xs.Pairwise (· < ·) → (∀ x ∈ xs, 0 ≤ x ∧ x < n) → (∀ q, p = some q → ∀ x ∈ xs, q < x) → setErr n p xs = 0
  | _, [], _, _, _ => rfl
  | p, x :: xs, h, hr, hp => by
    obtain ⟨h1, h2⟩ := List.pairwise_cons.1 h
    have h3 := hr x (List.mem_cons_self ..)
    rw [setErr, if_neg (by omega), if_neg ?_]
    · exact setErr_ok h2 (fun y hy => hr y (List.mem_cons_of_mem _ hy)) (fun q hq y hy => by cases hq; exact h1 y hy)
    · rintro ⟨q, hq, hle⟩
      have := hp q hq x (List.mem_cons_self ..)
      omega
theorem edErr_ok {al : List Int} {n : Int} : ∀ {p : Option Ed} {es : List Ed}, Sorted es → (∀ x ∈ es, 0 ≤ x.f ∧ x.f < n ∧ 0 ≤ x.t ∧ x.t < n ∧ hasB al x.e = true) → (∀ q, p = some q → ∀ x ∈ es, edLt q x) → edErr al n p es = 0
  | _, [], _, _, _ => rfl
  | p, x :: xs, h, hr, hp => by
    obtain ⟨h1, h2⟩ := List.pairwise_cons.1 h
    have h3 := hr x (List.mem_cons_self ..)
    rw [edErr, if_neg (by omega), if_neg (by rw [h3.2.2.2.2]; simp), if_neg ?_]
    · exact edErr_ok h2 (fun y hy => hr y (List.mem_cons_of_mem _ hy)) (fun q hq y hy => by cases hq; exact h1 y hy)
    · rintro ⟨q, hq, hle⟩
      have := hp q hq x (List.mem_cons_self ..)
      unfold edLt at this
      omega
theorem range_pairwise (k : Nat) (p : Nat → Bool) : (((List.range k).filter p).map fun (i : Nat) => (i : Int)).Pairwise (· < ·) := by
  rw [List.pairwise_map]
  refine List.Pairwise.filter _ ?_
  exact List.Pairwise.imp (fun {a b} h => by omega) List.pairwise_lt_range
theorem range_in (k : Nat) (p : Nat → Bool) : ∀ x ∈ ((List.range k).filter p).map fun (i : Nat) => (i : Int), 0 ≤ x ∧ x < (k : Int) := by
  intro x hx
  obtain ⟨i, hi, rfl⟩ := List.mem_map.1 hx
  have := List.mem_range.1 (List.mem_filter.1 hi).1
  omega
theorem bitsL_pairwise (b : Int) (k : Nat) : (bitsL b k).Pairwise (· < ·) := range_pairwise k _
theorem bitsL_in (b : Int) (k : Nat) : ∀ x ∈ bitsL b k, 0 ≤ x ∧ x < (k : Int) := range_in k _
theorem bitsL_err (b : Int) (k : Nat) : setErr k none (bitsL b k) = 0 := setErr_ok (bitsL_pairwise b k) (bitsL_in b k) (fun q hq => by cases hq)
theorem bitsL_mem {b : Int} {k i : Nat} (h : i < k) : (i : Int) ∈ bitsL b k ↔ bitB b i = true := by
  unfold bitsL
  rw [List.mem_map]
  constructor
  · rintro ⟨j, hj, e⟩
    have : j = i := by omega
    subst this
    exact (List.mem_filter.1 hj).2
  · intro hb
    exact ⟨i, List.mem_filter.2 ⟨List.mem_range.2 h, hb⟩, rfl⟩
theorem allL_eq (n : Nat) : allL n = ((List.range n).filter fun _ => true).map fun (i : Nat) => (i : Int) := by
  unfold allL; rw [List.filter_eq_self.2 (by simp)]
theorem allL_err (n : Nat) : setErr n none (allL n) = 0 := by
  rw [allL_eq]; exact setErr_ok (range_pairwise n _) (range_in n _) (fun q hq => by cases hq)
theorem allL_mem {n : Nat} {s : Int} (h0 : 0 ≤ s) (h1 : s < n) : hasB (allL n) s = true := by
  rw [hasB_true]; unfold allL
  exact List.mem_map.2 ⟨s.toNat, List.mem_range.2 (by omega), by omega⟩

theorem mkRow_mem {xs : List Int} {i e : Nat} {x : Ed} (h : x ∈ mkRow xs i e) : x.f = i ∧ 0 ≤ x.e ∧ x.e < e ∧ 0 ≤ x.t ∧ x.t < mkN xs := by
  unfold mkRow at h
  obtain ⟨j, hj, hx⟩ := List.mem_filterMap.1 h
  have := List.mem_range.1 hj
  split at hx
  · rename_i hc
    cases hx
    exact ⟨rfl, by dsimp only; omega, by dsimp only; omega, hc.1, hc.2⟩
  · cases hx
theorem mkRow_sorted (xs : List Int) (i : Nat) : ∀ e, Sorted (mkRow xs i e)
  | 0 => by simp [mkRow, Sorted]
  | e + 1 => by
    by_cases h : 0 ≤ mkTo xs i e ∧ mkTo xs i e < mkN xs
    · rw [mkRow_yes h]
      unfold Sorted
      rw [List.pairwise_append]
      refine ⟨mkRow_sorted xs i e, List.pairwise_singleton _ _, fun a ha b hb => ?_⟩
      rw [List.mem_singleton.1 hb]
      have := mkRow_mem ha
      unfold edLt
      dsimp only; omega
    · rw [mkRow_no h]; exact mkRow_sorted xs i e
theorem mkEs_mem {xs : List Int} {k : Nat} {x : Ed} (h : x ∈ mkEs xs k) : 0 ≤ x.f ∧ x.f < k ∧ 0 ≤ x.e ∧ x.e < 4 ∧ 0 ≤ x.t ∧ x.t < mkN xs := by
  unfold mkEs at h
  obtain ⟨i, hi, hx⟩ := List.mem_flatMap.1 h
  have := List.mem_range.1 hi
  have h2 := mkRow_mem hx
  omega
theorem mkEs_sorted (xs : List Int) : ∀ k, Sorted (mkEs xs k)
  | 0 => by simp [mkEs, Sorted]
  | k + 1 => by
    rw [mkEs_succ]
    unfold Sorted
    rw [List.pairwise_append]
    refine ⟨mkEs_sorted xs k, mkRow_sorted xs k 4, fun a ha b hb => ?_⟩
    have h1 := mkEs_mem ha
    have h2 := mkRow_mem hb
    unfold edLt; omega
theorem mkA_err (xs : List Int) : (mkA xs).err = 0 := by
  have hN := mkN_le xs
  have h1 : setErr 32 none (mkA xs).al = 0 := by show setErr 32 none [0, 1, 2, 3] = 0; decide
  have h2 : setErr (mkA xs).n none (mkA xs).ms = 0 := bitsL_err _ _
  have h3 : edErr (mkA xs).al (mkA xs).n none (mkA xs).es = 0 := by
    refine edErr_ok (mkEs_sorted xs _) (fun x hx => ?_) (fun q hq => by cases hq)
    have h := mkEs_mem hx
    refine ⟨h.1, h.2.1, h.2.2.2.2.1, h.2.2.2.2.2, ?_⟩
    rw [hasB_true]
    show x.e ∈ [0, 1, 2, 3]
    have : x.e = 0 ∨ x.e = 1 ∨ x.e = 2 ∨ x.e = 3 := by omega
    rcases this with h | h | h | h <;> rw [h] <;> decide
  unfold Aut.err
  rw [h1, if_neg (by decide), if_neg (by show ¬ ((mkN xs : Nat) : Int) < 0; omega), if_neg (by show ¬ (4096 : Int) < ((mkN xs : Nat) : Int); omega), h2, if_neg (by decide), h3]
theorem mkA_small (xs : List Int) : (mkA xs).small := by
  have hN := mkN_le xs
  refine ⟨by show 4 ≤ 1000000; decide, ?_, ?_⟩
  · have := bitsL_le (xs.getD 1 0) (mkN xs)
    show (bitsL (xs.getD 1 0) (mkN xs)).length ≤ 1000000
    omega
  · have := mkEs_le xs (mkN xs)
    show (mkEs xs (mkN xs)).length ≤ 1000000
    omega
theorem mkA_es (xs : List Int) : ∀ x ∈ (mkA xs).es, 0 ≤ x.f ∧ x.f < (mkN xs : Int) ∧ 0 ≤ x.t ∧ x.t < (mkN xs : Int) := fun x hx => by
  have h := mkEs_mem hx
  exact ⟨h.1, h.2.1, h.2.2.2.2.1, h.2.2.2.2.2⟩
theorem mkA_ev (xs : List Int) : EvEs (mkA xs).es := fun x hx => by
  have h := mkEs_mem hx
  omega
theorem mkA_sorted (xs : List Int) : Sorted (mkA xs).es := mkEs_sorted xs _

/-- The least distance behind an edge of a state. -/
def lStep (D : List Int) (i : Int) (l : Int) (x : Ed) : Int := if x.f = i ∧ 0 ≤ D.getD x.t.toNat 0 ∧ (l < 0 ∨ D.getD x.t.toNat 0 < l) then D.getD x.t.toNat 0 else l
def leastL (D : List Int) (i : Int) (es : List Ed) : Int := es.foldl (lStep D i) (-1)
theorem least_fold (D : List Int) (i : Int) : ∀ (es : List Ed) (l : Int), (es.foldl (lStep D i) l = l ∨ ∃ x ∈ es, x.f = i ∧ 0 ≤ D.getD x.t.toNat 0 ∧ es.foldl (lStep D i) l = D.getD x.t.toNat 0) ∧
    (0 ≤ l → es.foldl (lStep D i) l ≤ l ∧ 0 ≤ es.foldl (lStep D i) l) ∧ (∀ x ∈ es, x.f = i → 0 ≤ D.getD x.t.toNat 0 → 0 ≤ es.foldl (lStep D i) l ∧ es.foldl (lStep D i) l ≤ D.getD x.t.toNat 0)
  | [], l => ⟨.inl rfl, fun h => ⟨Int.le_refl _, h⟩, fun x hx => by cases hx⟩
  | y :: es, l => by
    rw [List.foldl_cons]
    obtain ⟨h1, h2, h3⟩ := least_fold D i es (lStep D i l y)
    have hs : (lStep D i l y = l ∧ ¬ (y.f = i ∧ 0 ≤ D.getD y.t.toNat 0 ∧ (l < 0 ∨ D.getD y.t.toNat 0 < l))) ∨ (lStep D i l y = D.getD y.t.toNat 0 ∧ (y.f = i ∧ 0 ≤ D.getD y.t.toNat 0 ∧ (l < 0 ∨ D.getD y.t.toNat 0 < l))) := by
      unfold lStep
      split
      · rename_i h; exact .inr ⟨rfl, h⟩
      · rename_i h; exact .inl ⟨rfl, h⟩
    refine ⟨?_, fun hl => ?_, fun x hx hf h0 => ?_⟩
    · rcases h1 with h1 | ⟨x, hx, h4, h5, h6⟩
      · rcases hs with ⟨e, _⟩ | ⟨e, g1, g2, _⟩
        · exact .inl (h1.trans e)
        · exact .inr ⟨y, List.mem_cons_self .., g1, g2, h1.trans e⟩
      · exact .inr ⟨x, List.mem_cons_of_mem _ hx, h4, h5, h6⟩
    · rcases hs with ⟨e, _⟩ | ⟨e, g1, g2, g3⟩
      · rw [e] at h2 ⊢; exact h2 hl
      · rw [e] at h2 ⊢
        have := h2 g2
        omega
    · rcases List.mem_cons.1 hx with rfl | hx
      · rcases hs with ⟨e, g⟩ | ⟨e, g1, g2, _⟩
        · rw [e] at h2 ⊢
          have hl : 0 ≤ l ∧ l ≤ D.getD x.t.toNat 0 := by
            by_cases hl : l < 0
            · exact absurd ⟨hf, h0, .inl hl⟩ g
            · by_cases hl2 : D.getD x.t.toNat 0 < l
              · exact absurd ⟨hf, h0, .inr hl2⟩ g
              · omega
          have := h2 hl.1
          omega
        · rw [e] at h2 ⊢
          have := h2 g2
          omega
      · exact h3 x hx hf h0

section
variable {es : List Ed} {tg : List Int} {n : Nat}
/-- Each distance is 0 for a target, and otherwise one more than the least one behind an edge. -/
theorem dist_step {D : List Int} (hes : ∀ x ∈ es, 0 ≤ x.f ∧ x.f < (n : Int) ∧ 0 ≤ x.t ∧ x.t < (n : Int)) (hD : ∀ i : Nat, i < n → IsDist es tg i (D.getD i 0)) (i : Nat) (hi : i < n) :
    D.getD i 0 = if (i : Int) ∈ tg then 0 else if 0 ≤ leastL D i es then leastL D i es + 1 else -1 := by
  refine (hD i hi).unique ?_
  by_cases hm : (i : Int) ∈ tg
  · rw [if_pos hm]
    exact .inr ⟨0, rfl, hm, fun j hj => absurd hj (by omega)⟩
  · rw [if_neg hm]
    obtain ⟨h1, _, h3⟩ := least_fold D i es (-1)
    have hDx : ∀ x ∈ es, IsDist es tg x.t (D.getD x.t.toNat 0) := fun x hx => by
      have h := hes x hx
      have := hD x.t.toNat (by omega)
      rwa [Int.toNat_of_nonneg h.2.2.1] at this
    have hl0 : es.foldl (lStep D i) (-1) = leastL D i es := rfl
    rw [hl0] at h1 h3
    clear hl0
    generalize leastL D i es = l at *
    by_cases hl : 0 ≤ l
    · rw [if_pos hl]
      rcases h1 with h1 | ⟨x, hx, hxf, hx0, he⟩
      · omega
      · rcases hDx x hx with ⟨h4, _⟩ | ⟨k, h4, h5, h6⟩
        · omega
        · refine .inr ⟨k + 1, by omega, ⟨x, hx, hxf, h5⟩, fun j hj hr => ?_⟩
          cases j with
          | zero => exact hm hr
          | succ j =>
            obtain ⟨y, hy, hyf, hyr⟩ := hr
            rcases hDx y hy with ⟨_, h7⟩ | ⟨k', h7, h8, h9⟩
            · exact h7 j hyr
            · have := h3 y hy hyf (by omega)
              have : ¬ j < k' := fun hlt => h9 j hlt hyr
              omega
    · rw [if_neg hl]
      refine .inl ⟨rfl, fun k hr => ?_⟩
      cases k with
      | zero => exact hm hr
      | succ k =>
        obtain ⟨x, hx, hxf, hxr⟩ := hr
        rcases hDx x hx with ⟨_, h7⟩ | ⟨k', h7, _, _⟩
        · exact h7 k hxr
        · have := h3 x hx hxf (by omega)
          omega
theorem Leads.reachIn {perm : Ed → Bool} : ∀ {u : List Int} {s t : Int}, Leads es perm s u t → t ∈ tg → ReachIn es tg u.length s
  | [], s, t, h, ht => by rw [show s = t from h]; exact ht
  | e :: u, s, t, ⟨x, hx, h1, h2, h3, h4⟩, ht => ⟨x, hx, h1, h4.reachIn ht⟩
theorem ReachIn.leads {perm : Ed → Bool} (hp : ∀ x ∈ es, perm x = true) : ∀ {k : Nat} {s : Int}, ReachIn es tg k s → ∃ u t, u.length = k ∧ Leads es perm s u t ∧ t ∈ tg
  | 0, s, h => ⟨[], s, rfl, rfl, h⟩
  | k + 1, s, ⟨x, hx, h1, h2⟩ => by
    obtain ⟨u, t, h3, h4, h5⟩ := h2.leads hp
    exact ⟨x.e :: u, t, by simp [h3], ⟨x, hx, h1, rfl, hp x hx, h4⟩, h5⟩
/-- A least word has the least length. -/
theorem least_dist {perm : Ed → Bool} {s d : Int} {w : List Int} (hp : ∀ x ∈ es, perm x = true) (he : EvEs es) (hL : Least es perm (hasB tg) s 0 w) (hd : IsDist es tg s d) : d = w.length := by
  refine hd.unique (.inr ⟨w.length, rfl, ?_, fun j hj hr => ?_⟩)
  · obtain ⟨t, h1, h2⟩ := hL.leads
    exact h1.reachIn (hasB_true.1 h2)
  · obtain ⟨u, t, h3, h4, h5⟩ := hr.leads hp
    have h6 := hL.le u t h4 (hasB_true.2 h5) (Nat.zero_le _)
    have := wval_len hL.ev (h4.evs he) h6
    omega
theorem none_dist {perm : Ed → Bool} {s d : Int} (hp : ∀ x ∈ es, perm x = true) (hL : ∀ u t, Leads es perm s u t → hasB tg t = false) (hd : IsDist es tg s d) : d = -1 := by
  refine hd.unique (.inl ⟨rfl, fun k hr => ?_⟩)
  obtain ⟨u, t, h3, h4, h5⟩ := hr.leads hp
  have := hL u t h4
  rw [hasB_true.2 h5] at this; cases this
theorem next_fold (s e : Int) : ∀ (es : List Ed) (v : Int), Sorted es → ∀ x ∈ es, x.f = s → x.e = e → es.foldl (fun nx x => if x.f = s ∧ x.e = e then x.t else nx) v = x.t
  | [], _, _, x, hx, _, _ => by cases hx
  | y :: es, v, hso, x, hx, hf, he => by
    obtain ⟨h1, h2⟩ := List.pairwise_cons.1 hso
    rw [List.foldl_cons]
    rcases List.mem_cons.1 hx with rfl | hx
    · rw [if_pos ⟨hf, he⟩]
      have : ∀ (l : List Ed), (∀ y ∈ l, ¬ (y.f = s ∧ y.e = e)) → ∀ v, l.foldl (fun nx x => if x.f = s ∧ x.e = e then x.t else nx) v = v := by
        intro l
        induction l with
        | nil => intro _ v; rfl
        | cons z l ih => intro hz v; rw [List.foldl_cons, if_neg (hz z (List.mem_cons_self ..)), ih (fun y hy => hz y (List.mem_cons_of_mem _ hy))]
      exact this es (fun y hy h => by have := h1 y hy; unfold edLt at this; omega) _
    · exact next_fold s e es _ h2 x hx hf he
theorem Leads.leadsL {perm : Ed → Bool} (hso : Sorted es) (hes : ∀ x ∈ es, 0 ≤ x.t) : ∀ {u : List Int} {s t : Int}, Leads es perm s u t → leadsL es tg s u = hasB tg t
  | [], s, t, h => by rw [show s = t from h]; rfl
  | e :: u, s, t, ⟨x, hx, h1, h2, h3, h4⟩ => by
    have h5 : nextL es s e = x.t := next_fold s e es (-1) hso x hx h1 h2
    have := hes x hx
    rw [Go.Proofs.Ythchkddhibhenaa.leadsL, h5, if_neg (by omega)]
    exact h4.leadsL hso hes
end

/-- What ReachSteps checks of one state. -/
theorem steps_one (xs : List Int) (b : Int) (i : Nat) (hi : i < mkN xs) :
    let D := backward (mkN xs) (mkA xs).es (bitsL b (mkN xs))
    D.getD i 0 = (if bitB b i = true then 0 else if 0 ≤ leastL D i (mkA xs).es then leastL D i (mkA xs).es + 1 else -1) ∧
    pathErr (mkA xs) i (bitsL b (mkN xs)) (allL (mkN xs)) = 0 ∧
    match reachPath (mkA xs) i (bitsL b (mkN xs)) (allL (mkN xs)) with
    | some w => D.getD i 0 = w.length ∧ leadsL (mkA xs).es (bitsL b (mkN xs)) i w = true
    | none => D.getD i 0 = -1 := by
  intro D
  have hN := mkN_le xs
  have hes := mkA_es xs
  have hD : ∀ i : Nat, i < mkN xs → IsDist (mkA xs).es (bitsL b (mkN xs)) i (D.getD i 0) := fun i hi => backward_dist (by omega) hes (bitsL_in b _) i hi
  refine ⟨?_, ?_, ?_⟩
  · rw [dist_step hes hD i hi]
    congr 1
    rw [bitsL_mem hi]
  · rw [pathErr, err2, if_pos (mkA_err xs), if_neg ?_, err2, if_pos (show setErr (mkA xs).n none (bitsL b (mkN xs)) = 0 from bitsL_err b _)]
    · exact allL_err _
    · show ¬ ((i : Int) < 0 ∨ ((mkN xs : Nat) : Int) ≤ i)
      omega
  · have hp : ∀ x ∈ (mkA xs).es, hasB (allL (mkN xs)) x.t = true := fun x hx => allL_mem (hes x hx).2.2.1 (hes x hx).2.2.2
    have hr : reachPath (mkA xs) i (bitsL b (mkN xs)) (allL (mkN xs)) = pathF (mkN xs) (mkA xs).es (hasB (bitsL b (mkN xs))) (fun x => hasB (allL (mkN xs)) x.t) i := by
      rw [reachPath, if_pos (allL_mem (by omega) (by omega))]
      rfl
    rw [hr]
    have hs := pathF_says (perm := fun x => hasB (allL (mkN xs)) x.t) (want := hasB (bitsL b (mkN xs))) (mkA_sorted xs) (fun x hx => (hes x hx).2.2) (mkA_ev xs) hi
    generalize pathF (mkN xs) (mkA xs).es (hasB (bitsL b (mkN xs))) (fun x => hasB (allL (mkN xs)) x.t) i = r at hs
    cases r with
    | none => exact none_dist hp hs (hD i hi)
    | some w =>
      refine ⟨least_dist hp (mkA_ev xs) hs (hD i hi), ?_⟩
      obtain ⟨t, h1, h2⟩ := hs.leads
      rw [h1.leadsL (mkA_sorted xs) (fun x hx => (hes x hx).2.2.1)]
      exact h2
end Go.Proofs.Ythchkddhibhenaa

/- The contract of closure. -/
namespace Go.Proofs.Ythchkddhibhenaa
open Go.RowKit

theorem closure_any (v vs vv : Value) (a : Aut) (set evs : List Int) (w : World) (ha : RdA w v a) (hs : a.small) (h1 : RdI w vs set) (h2 : RdI w vv evs) (hl1 : set.length ≤ 1000000) (hl2 : evs.length ≤ 1000000) :
    Calls Try.prog 56 #[v, vs, vv] w (Ret w fun u _ => u = .int .i64 (err2 a.err (err2 (setErr a.n none set) (setErr 32 none evs)))) := by
  have ha0 := ha
  obtain ⟨va, vm, ve, rfl, ⟨aa, ca, rfl, hra⟩, ⟨am, cm, rfl, hrm⟩, ⟨ae, ce, rfl, hre⟩⟩ := ha
  have Ha0 := Lib.hid ha0
  have Hs := Lib.hid hs
  have Hr1 := Lib.hid h1
  have Hr2 := Lib.hid h2
  clear ha0 hs h1 h2
  go_enter Try.func56, Try.ntmps56
  go_wp2_with fail
  refine (check_any _ a _ (Ha0.out.mono (by (repeat (first | with_reducible exact Below.refl _ _ | with_reducible exact Ha0 | (with_reducible refine belCall ?_ Ha0 (by first | omega | (simp; done) | (simp; omega) | (simp at *; omega))) | (with_reducible refine Below.alloc ?_ (by first | omega | (simp; done) | (simp; omega) | (simp at *; omega)) _) | (with_reducible refine Below.drew ?_) | (with_reducible refine Below.setCell ?_ (by first | omega | (simp; done) | (simp; omega) | (simp at *; omega)) _))))) Hs.out).mono ?_
  rintro e w1 ⟨_, rfl, rfl, hb1⟩
  have hW1 : Below w.heap.size w w1 := ((Below.refl _ _).alloc (Nat.le_refl _) _).trans (hb1.mono (by simp))
  have hbx := box4 hb1
  clear hb1
  by_cases h1 : a.err = 0
  · have H1 := Lib.hid h1
    rw [h1]
    clear h1
    obtain ⟨x0, x1, x2, x3, x4⟩ := hbx
    go_wp2_with fail
    refine (checkStates_any _ _ _ _ _ _ _ _ _ _ _ set _ (Hr1.out.mono hW1) hl1).mono ?_
    rintro e w2 ⟨_, rfl, rfl, hb2⟩
    have hW2 := hW1.trans (hb2.mono hW1.size)
    clear x0 x1 x2 x3 x4
    by_cases h2 : setErr a.n none set = 0
    · have H2 := Lib.hid h2
      rw [h2]
      clear h2
      go_wp2_with (go_at_call 61; ((with_reducible refine (rcheckSet_any _ _ _ _ (Hr2.out.mono hW2) hl2).mono ?_); rintro e w1 ⟨rfl, rfl⟩))
      go_ret
      exact ⟨_, rfl, by rw [err2, if_pos H1.out, err2, if_pos H2.out]; rfl, hW2⟩
    · have H2 := Lib.hid h2
      have h2' : (setErr a.n none set != 0) = true := by simpa using h2
      clear h2
      go_wp2_with fail
      go_ret
      exact ⟨_, rfl, by rw [err2, if_pos H1.out, err2, if_neg H2.out]; rfl, hW2⟩
  · have H1 := Lib.hid h1
    have h1' : (a.err != 0) = true := by simpa using h1
    clear h1
    go_wp2_with fail
    go_ret
    exact ⟨_, rfl, by rw [err2, if_neg H1.out]; rfl, hW1⟩
end Go.Proofs.Ythchkddhibhenaa

/- The contract of Interior. -/
namespace Go.Proofs.Ythchkddhibhenaa
open Go.RowKit

/-- An edge is looked at: the flags, and whether one has been taken away. -/
def iStep (evs : List Int) (acc : List Bool × Bool) (x : Ed) : List Bool × Bool :=
  if acc.1.getD x.f.toNat false = true ∧ acc.1.getD x.t.toNat false = false ∧ hasB evs x.e = true then (acc.1.set x.f.toNat false, true) else acc
/-- The rounds. -/
def iLoop (es : List Ed) (evs : List Int) : Nat → List Bool → List Bool
  | 0, fl => fl
  | f + 1, fl => if (es.foldl (iStep evs) (fl, false)).2 = true then iLoop es evs f (es.foldl (iStep evs) (fl, false)).1 else (es.foldl (iStep evs) (fl, false)).1
/-- What Interior returns. -/
def interior (n : Nat) (es : List Ed) (set evs : List Int) : List Int := listL (iLoop es evs ((flagL n set).count true + 1) (flagL n set))

theorem count_unset {l : List Bool} {j : Nat} (h : l.getD j false = true) : (l.set j false).count true + 1 = l.count true := by
  induction l generalizing j with
  | nil => simp at h
  | cons a l ih =>
    cases j with
    | zero => simp at h; subst h; simp
    | succ j =>
      simp only [List.getD_cons_succ] at h
      rw [List.set_cons_succ, List.count_cons, List.count_cons, ← ih h]
      omega
theorem iStep_length (evs : List Int) (acc : List Bool × Bool) (x : Ed) : (iStep evs acc x).1.length = acc.1.length := by
  unfold iStep; split <;> simp
theorem iStep_count (evs : List Int) (acc : List Bool × Bool) (x : Ed) : (iStep evs acc x).1.count true ≤ acc.1.count true ∧ ((iStep evs acc x).2 = true → acc.2 = true ∨ (iStep evs acc x).1.count true < acc.1.count true) := by
  unfold iStep
  split
  · rename_i h
    have := count_unset h.1
    exact ⟨by dsimp only; omega, fun _ => .inr (by dsimp only; omega)⟩
  · exact ⟨Nat.le_refl _, .inl⟩
theorem iFold_length (evs : List Int) : ∀ (l : List Ed) (acc : List Bool × Bool), (l.foldl (iStep evs) acc).1.length = acc.1.length
  | [], _ => rfl
  | x :: l, acc => by rw [List.foldl_cons, iFold_length evs l, iStep_length]
theorem iFold_count (evs : List Int) : ∀ (l : List Ed) (acc : List Bool × Bool), (l.foldl (iStep evs) acc).1.count true ≤ acc.1.count true ∧ ((l.foldl (iStep evs) acc).2 = true → acc.2 = true ∨ (l.foldl (iStep evs) acc).1.count true < acc.1.count true)
  | [], _ => ⟨Nat.le_refl _, .inl⟩
  | x :: l, acc => by
    have h1 := iStep_count evs acc x
    have h2 := iFold_count evs l (iStep evs acc x)
    rw [List.foldl_cons]
    refine ⟨Nat.le_trans h2.1 h1.1, fun h => ?_⟩
    rcases h2.2 h with h3 | h3
    · rcases h1.2 h3 with h4 | h4
      · exact .inl h4
      · exact .inr (by omega)
    · exact .inr (by omega)

set_option maxRecDepth 100000 in
set_option maxHeartbeats 1600000 in
theorem interior_any (v vs vv : Value) (a : Aut) (set evs : List Int) (w : World) (ha : RdA w v a) (hs : a.small) (h1 : RdI w vs set) (h2 : RdI w vv evs) (hl1 : set.length ≤ 1000000) (hl2 : evs.length ≤ 1000000) :
    Calls Try.prog 23 #[v, vs, vv] w (Ret w (ListPost (err2 a.err (err2 (setErr a.n none set) (setErr 32 none evs))) (interior a.n.toNat a.es set evs))) := by
  have ha0 := ha
  obtain ⟨va, vm, ve, rfl, ⟨aa, ca, rfl, hra⟩, ⟨am, cm, rfl, hrm⟩, ⟨ae, ce, rfl, hre⟩⟩ := ha
  have Ha0 := Lib.hid ha0
  have Hs := Lib.hid hs
  have Hr1 := Lib.hid h1
  have Hr2 := Lib.hid h2
  clear ha0 hs h1 h2
  go_enter Try.func23, Try.ntmps23
  go_wp2_with fail
  refine (closure_any _ vs vv a set evs _ (Ha0.out.mono (by (repeat (first | with_reducible exact Below.refl _ _ | with_reducible exact Ha0 | (with_reducible refine belCall ?_ Ha0 (by first | omega | (simp; done) | (simp; omega) | (simp at *; omega))) | (with_reducible refine Below.alloc ?_ (by first | omega | (simp; done) | (simp; omega) | (simp at *; omega)) _) | (with_reducible refine Below.drew ?_) | (with_reducible refine Below.setCell ?_ (by first | omega | (simp; done) | (simp; omega) | (simp at *; omega)) _))))) Hs.out (Hr1.out.mono (by (repeat (first | with_reducible exact Below.refl _ _ | with_reducible exact Ha0 | (with_reducible refine belCall ?_ Ha0 (by first | omega | (simp; done) | (simp; omega) | (simp at *; omega))) | (with_reducible refine Below.alloc ?_ (by first | omega | (simp; done) | (simp; omega) | (simp at *; omega)) _) | (with_reducible refine Below.drew ?_) | (with_reducible refine Below.setCell ?_ (by first | omega | (simp; done) | (simp; omega) | (simp at *; omega)) _))))) (Hr2.out.mono (by (repeat (first | with_reducible exact Below.refl _ _ | with_reducible exact Ha0 | (with_reducible refine belCall ?_ Ha0 (by first | omega | (simp; done) | (simp; omega) | (simp at *; omega))) | (with_reducible refine Below.alloc ?_ (by first | omega | (simp; done) | (simp; omega) | (simp at *; omega)) _) | (with_reducible refine Below.drew ?_) | (with_reducible refine Below.setCell ?_ (by first | omega | (simp; done) | (simp; omega) | (simp at *; omega)) _))))) hl1 hl2).mono ?_
  rintro e w1 ⟨_, rfl, rfl, hb1⟩
  have hW1 : Below w.heap.size w w1 := ((Below.refl _ _).alloc (Nat.le_refl _) _).trans (hb1.mono (by simp))
  have hbx := box4 hb1
  clear hb1
  by_cases h1 : err2 a.err (err2 (setErr a.n none set) (setErr 32 none evs)) = 0
  · have herr : a.err = 0 ∧ setErr a.n none set = 0 ∧ setErr 32 none evs = 0 := by
      unfold err2 at h1
      split at h1
      · rename_i g1
        split at h1
        · rename_i g2; exact ⟨g1, g2, h1⟩
        · rename_i g2; exact absurd h1 g2
      · rename_i g1; exact absurd h1 g1
    have hok := Aut.ok_of herr.1
    have hin := setErr_zero herr.2.1
    have H1 := Lib.hid h1
    rw [h1]
    clear h1 herr
    have hn0 := hok.n0
    have hn1 := hok.n1
    have Hes := Lib.hid hok.es
    have Hin := Lib.hid hin
    have hae := Hs.out.es
    clear hok hin
    have Hres : Hid (interior a.n.toNat a.es set evs = interior a.n.toNat a.es set evs) := rfl
    generalize hn : a.n = an at *
    obtain ⟨n, rfl⟩ := Int.eq_ofNat_of_zero_le hn0
    rw [Int.toNat_natCast] at *
    have hn' : n ≤ 4096 := by omega
    have Hn := Lib.hid hn
    clear hn hn0 hn1 Hres
    obtain ⟨x0, x1, x2, x3, x4⟩ := hbx
    have Hbx := Lib.hid (And.intro x0 (And.intro x1 (And.intro x2 (And.intro x3 x4))))
    go_wp2_with fail
    refine (flags_any _ _ _ vs n set _ (Hr1.out.mono hW1) hl1 (by omega) Hin.out).mono ?_
    rintro e w2 ⟨_, rfl, hown, hb2⟩
    have hrow : Row w2 w1.heap.size (fun _ => 1) 1 4 1 _ n (bools (flagL n set)) := Row.of_own hown (Nat.le_refl _) (fun _ _ _ => rfl)
    have hfl := flagL_length n set
    have hlen : a.es.length ≤ 1000000 := hae
    clear hown
    obtain ⟨af, cf, rfl⟩ := hrow.val
    have Hes2 := Lib.hid (fun (x : Ed) (hx : x ∈ a.es) => Hes.out x hx)
    go_wp2_with fail
    clear x0 x1 x2 x3
    go_loopg [10] ((flagL n set).count true + 1) (fun k g wr => ∃ (fl : List Bool) (gb : Bool) (f : Nat), g = .bool gb ∧ Hid (fl.length = n) ∧ Below w1.heap.size w1 wr ∧ Row wr w1.heap.size (fun _ => 1) 1 4 1 (.slice af n cf) n (bools fl) ∧
      Hid (iLoop a.es evs ((flagL n set).count true + 1) (flagL n set) = if gb = true then iLoop a.es evs (f + 1) fl else fl) ∧ fl.count true ≤ f ∧ k = if gb = true then fl.count true + 1 else 0)
    case atStart => exact ⟨flagL n set, true, _, rfl, hfl, hb2, hrow, rfl, Nat.le_refl _, rfl⟩
    case round =>
      clear hrow hb2 hfl
      obtain ⟨fl, gb, f, rfl, hfl, hB, hrow, hit, hcf, hgk⟩ := hrel
      have c3 : wr.cell? ⟨w.heap.size, 3, none⟩ = some (.slice ae a.es.length ce) := keep hB Hbx.out.2.2.2.1 x4
      have Hgk := Lib.hid hgk
      clear hgk
      cases gb with
      | false =>
        have Hit : Hid (iLoop a.es evs ((flagL n set).count true + 1) (flagL n set) = fl) := by
          show _ = _
          have := hit.out; simpa using this
        clear hit
        have hfl2 : fl.length ≤ 1000000 := by rw [hfl.out]; omega
        have hRB : RdB wr (.slice af n cf) fl := by
          have h := hrow
          rw [← hfl.out] at h
          obtain ⟨a9, c9, e9, h9⟩ := h.rd
          rw [hfl.out] at e9 
          cases e9
          refine ⟨af, cf, by rw [hfl.out], h9⟩
        have HRB := Lib.hid hRB
        clear hRB
        go_wp2_with fail
        refine (list_any _ fl _ HRB.out hfl2).mono ?_
        rintro e w5 ⟨v5, rfl, hown5, hb5⟩
        have Hown5 := Lib.hid hown5
        obtain ⟨a5, c5, rfl, hr5⟩ := RdS.of_own hown5
        clear hown5 hr5
        go_wp2_with fail
        go_ret2
        refine ⟨_, rfl, ?_, (hW1.trans (hB.mono hW1.size)).trans (hb5.mono (Nat.le_trans hW1.size hB.size))⟩
        rw [ListPost, if_pos H1.out]
        refine ⟨_, rfl, ?_⟩
        rw [interior, Hit.out]
        exact RdI.of_own Hown5.out
      | true =>
        have Hit : Hid (iLoop a.es evs ((flagL n set).count true + 1) (flagL n set) = iLoop a.es evs (f + 1) fl) := by
          show _ = _
          have := hit.out; simpa using this
        clear hit
        have Hfold : Hid (a.es.foldl (iStep evs) (fl, false) = a.es.foldl (iStep evs) (fl, false)) := rfl
        go_wp2_with fail
        clear c3
        go_loopg [10, 27] a.es.length (fun k g i wr' => ∃ (kk : Nat) (fl' : List Bool) (gb : Bool), i = .int .i64 kk ∧ g = .bool gb ∧ kk ≤ a.es.length ∧ k = a.es.length - kk ∧ Hid (fl'.length = n) ∧ Below w1.heap.size w1 wr' ∧ Row wr' w1.heap.size (fun _ => 1) 1 4 1 (.slice af n cf) n (bools fl') ∧
          Hid (a.es.foldl (iStep evs) (fl, false) = (a.es.drop kk).foldl (iStep evs) (fl', gb)))
        case atStart => exact ⟨0, fl, false, rfl, rfl, Nat.zero_le _, rfl, hfl, hB, hrow, rfl⟩
        case round =>
          clear hrow hB
          obtain ⟨kk, fl', gb, rfl, rfl, hkk, hgk', hfl', hB, hrow, hfold⟩ := hrel
          have Hgk' := Lib.hid hgk'
          clear hgk'
          have hsz := hB.size
          by_cases hlt : kk < a.es.length
          · obtain ⟨b, off, rfl, d0, d1, d2⟩ := hre.at_edge kk hlt
            have hx := Hes.out a.es[kk] (List.getElem_mem hlt)
            have Hdrop : Hid ((a.es.drop kk).foldl (iStep evs) (fl', gb) = (a.es.drop (kk + 1)).foldl (iStep evs) (iStep evs (fl', gb) a.es[kk])) := by
              show _ = _
              rw [List.drop_eq_getElem_cons hlt, List.foldl_cons]
            have hbz := World.block_lt_of_cell? _ _ d0
            dsimp only at hbz
            have hwz := hW1.size
            replace d0 := keep hB (keep0 hW1 d0) (Nat.lt_of_lt_of_le hbz hwz)
            replace d1 := keep hB (keep0 hW1 d1) (Nat.lt_of_lt_of_le hbz hwz)
            replace d2 := keep hB (keep0 hW1 d2) (Nat.lt_of_lt_of_le hbz hwz)
            generalize a.es[kk] = x at *
            obtain ⟨hx0, hx1, hx2, hx3⟩ := hx
            obtain ⟨f0, e0, t0⟩ := x
            dsimp only at *
            obtain ⟨xf, rfl⟩ := Int.eq_ofNat_of_zero_le hx0
            obtain ⟨xt, rfl⟩ := Int.eq_ofNat_of_zero_le hx2
            have hxf : xf < n := by omega
            have hxt : xt < n := by omega
            obtain ⟨gB, gO, gC, e1, hgl, hgb, _⟩ := hrow.addr (by omega)
            cases e1
            have Hget : Hid (∀ j, j < n → wr.cell? ⟨gB, gO + j, none⟩ = some (.bool (fl'.getD j false))) := by
              intro j hj
              rw [hrow.cellAt j (by omega), List.getElem?_map, List.getElem?_eq_getElem (by rw [hfl'.out]; exact hj), List.getD_eq_getElem?_getD, List.getElem?_eq_getElem (by rw [hfl'.out]; exact hj)]
              rfl
            have g1 := Hget.out xf hxf
            have g2 := Hget.out xt hxt
            have Hstep : Hid (iStep evs (fl', gb) ⟨xf, e0, xt⟩ = if fl'.getD xf false = true ∧ fl'.getD xt false = false ∧ hasB evs e0 = true then (fl'.set xf false, true) else (fl', gb)) := rfl
            have Hset := Lib.hid (hrow.set xf (.bool false))
            have hB2 := belTurn hB Hset.out.2 hsz
            have fz := hrow.frozenAt (gO + xf)
            have HX := Lib.hid (And.intro hx0 (And.intro hx1 (And.intro hx2 hx3)))
            have hBW := hW1.trans (hB.mono hW1.size)
            have hrel0 : Hid (∀ acc, iStep evs (fl', gb) ⟨xf, e0, xt⟩ = acc → a.es.foldl (iStep evs) (fl, false) = (a.es.drop (kk + 1)).foldl (iStep evs) acc) := by
              intro acc h
              rw [hfold.out, Hdrop.out, h]
            clear hx0 hx1 hx2 hx3 Hdrop hfold
            cases q1 : fl'.getD xf false with
            | false =>
              have Q : Hid (iStep evs (fl', gb) ⟨xf, e0, xt⟩ = (fl', gb)) := by
                show _ = _
                rw [Hstep.out, if_neg (by rw [q1]; simp)]
              rw [q1] at g1
              clear q1 Hstep Hget
              go_wp2
              go_roundg (a.es.length - (kk + 1))
              case measure => rw [Hgk'.out]; omega
              case rel => exact ⟨kk + 1, fl', gb, by go_num, rfl, by omega, rfl, hfl', (by (repeat (first | with_reducible exact Below.refl _ _ | with_reducible exact hB | (with_reducible refine belCall ?_ hB (by first | omega | (simp; done) | (simp; omega) | (simp at *; omega))) | (with_reducible refine Below.alloc ?_ (by first | omega | (simp; done) | (simp; omega) | (simp at *; omega)) _) | (with_reducible refine Below.drew ?_) | (with_reducible refine Below.setCell ?_ (by first | omega | (simp; done) | (simp; omega) | (simp at *; omega)) _)))), hrow.below (bel_alloc _ _), hrel0.out _ Q.out⟩
            | true =>
              cases q2 : fl'.getD xt false with
              | true =>
                have Q : Hid (iStep evs (fl', gb) ⟨xf, e0, xt⟩ = (fl', gb)) := by
                  show _ = _
                  rw [Hstep.out, if_neg (by rw [q2]; simp)]
                rw [q1] at g1
                rw [q2] at g2
                clear q1 q2 Hstep Hget
                go_wp2
                go_roundg (a.es.length - (kk + 1))
                case measure => rw [Hgk'.out]; omega
                case rel => exact ⟨kk + 1, fl', gb, by go_num, rfl, by omega, rfl, hfl', (by (repeat (first | with_reducible exact Below.refl _ _ | with_reducible exact hB | (with_reducible refine belCall ?_ hB (by first | omega | (simp; done) | (simp; omega) | (simp at *; omega))) | (with_reducible refine Below.alloc ?_ (by first | omega | (simp; done) | (simp; omega) | (simp at *; omega)) _) | (with_reducible refine Below.drew ?_) | (with_reducible refine Below.setCell ?_ (by first | omega | (simp; done) | (simp; omega) | (simp at *; omega)) _)))), hrow.below (bel_alloc _ _), hrel0.out _ Q.out⟩
              | false =>
                cases q3 : hasB evs e0 with
                | false =>
                  have Q : Hid (iStep evs (fl', gb) ⟨xf, e0, xt⟩ = (fl', gb)) := by
                    show _ = _
                    rw [Hstep.out, if_neg (by rw [q3]; simp)]
                  have Q3 := Lib.hid q3
                  rw [q1] at g1
                  rw [q2] at g2
                  clear q1 q2 q3 Hstep Hget
                  go_wp2_with (go_at_call 57; ((with_reducible refine (contains_any vv evs e0 _ (Hr2.out.mono (by (repeat (first | with_reducible exact Below.refl _ _ | with_reducible exact hBW | (with_reducible refine belCall ?_ hBW (by first | omega | (simp; done) | (simp; omega) | (simp at *; omega))) | (with_reducible refine Below.alloc ?_ (by first | omega | (simp; done) | (simp; omega) | (simp at *; omega)) _) | (with_reducible refine Below.drew ?_) | (with_reducible refine Below.setCell ?_ (by first | omega | (simp; done) | (simp; omega) | (simp at *; omega)) _))))) hl2).mono ?_); rintro e w1 ⟨rfl, rfl⟩; rw [Q3.out]))
                  go_roundg (a.es.length - (kk + 1))
                  case measure => rw [Hgk'.out]; omega
                  case rel => exact ⟨kk + 1, fl', gb, by go_num, rfl, by omega, rfl, hfl', (by (repeat (first | with_reducible exact Below.refl _ _ | with_reducible exact hB | (with_reducible refine belCall ?_ hB (by first | omega | (simp; done) | (simp; omega) | (simp at *; omega))) | (with_reducible refine Below.alloc ?_ (by first | omega | (simp; done) | (simp; omega) | (simp at *; omega)) _) | (with_reducible refine Below.drew ?_) | (with_reducible refine Below.setCell ?_ (by first | omega | (simp; done) | (simp; omega) | (simp at *; omega)) _)))), hrow.below (bel_alloc _ _), hrel0.out _ Q.out⟩
                | true =>
                  have Q : Hid (iStep evs (fl', gb) ⟨xf, e0, xt⟩ = (fl'.set xf false, true)) := by
                    show _ = _
                    rw [Hstep.out, if_pos ⟨q1, q2, q3⟩]
                  have Q3 := Lib.hid q3
                  rw [q1] at g1
                  rw [q2] at g2
                  clear q1 q2 q3 Hstep Hget
                  go_wp2_with (go_at_call 57; ((with_reducible refine (contains_any vv evs e0 _ (Hr2.out.mono (by (repeat (first | with_reducible exact Below.refl _ _ | with_reducible exact hBW | (with_reducible refine belCall ?_ hBW (by first | omega | (simp; done) | (simp; omega) | (simp at *; omega))) | (with_reducible refine Below.alloc ?_ (by first | omega | (simp; done) | (simp; omega) | (simp at *; omega)) _) | (with_reducible refine Below.drew ?_) | (with_reducible refine Below.setCell ?_ (by first | omega | (simp; done) | (simp; omega) | (simp at *; omega)) _))))) hl2).mono ?_); rintro e w1 ⟨rfl, rfl⟩; rw [Q3.out]))
                  go_roundg (a.es.length - (kk + 1))
                  case measure => rw [Hgk'.out]; omega
                  case rel => exact ⟨kk + 1, fl'.set xf false, true, by go_num, rfl, by omega, rfl, by show _ = _; rw [List.length_set]; exact hfl'.out, (by (repeat (first | with_reducible exact Below.refl _ _ | with_reducible exact hB2 | (with_reducible refine belCall ?_ hB2 (by first | omega | (simp; done) | (simp; omega) | (simp at *; omega))) | (with_reducible refine Below.alloc ?_ (by first | omega | (simp; done) | (simp; omega) | (simp at *; omega)) _) | (with_reducible refine Below.drew ?_) | (with_reducible refine Below.setCell ?_ (by first | omega | (simp; done) | (simp; omega) | (simp at *; omega)) _)))), by rw [show bools (fl'.set xf false) = (bools fl').set xf (.bool false) by simp [bools, List.map_set]]; exact Hset.out.1.below (bel_alloc _ _), hrel0.out _ Q.out⟩
          · have hkl : kk = a.es.length := by omega
            have hend : Hid (a.es.foldl (iStep evs) (fl, false) = (fl', gb)) := by
              show _ = _
              rw [hfold.out, hkl, List.drop_length]; rfl
            have Hcnt := Lib.hid (iFold_count evs a.es (fl, false))
            clear hfold hkl
            go_wp2_with fail
            go_roundg (if gb = true then fl'.count true + 1 else 0)
            case measure =>
              rw [Hgk.out]
              cases gb with
              | false => simp
              | true =>
                have h5 := Hcnt.out.2
                rw [hend.out] at h5
                have := h5 rfl
                simp at this
                simp; omega
            case rel =>
              refine ⟨fl', gb, if gb = true then f - 1 else fl'.count true, rfl, hfl', hB, hrow, ?_, ?_, rfl⟩
              · show _ = _
                rw [Hit.out, iLoop, hend.out]
                cases gb with
                | false => rfl
                | true =>
                  have h5 := Hcnt.out.2
                  rw [hend.out] at h5
                  have := h5 rfl
                  simp at this
                  rw [if_pos rfl, if_pos rfl, if_pos rfl, show f - 1 + 1 = f by omega]
              · have h5 := Hcnt.out
                rw [hend.out] at h5
                cases gb with
                | false => simp
                | true =>
                  have := h5.2 rfl
                  simp at this
                  rw [if_pos rfl]
                  omega
  · have H1 := Lib.hid h1
    have h1' : (err2 a.err (err2 (setErr a.n none set) (setErr 32 none evs)) != 0) = true := by simpa using h1
    clear h1
    go_wp2_with fail
    go_ret2
    refine ⟨_, rfl, ?_, hW1⟩
    rw [ListPost, if_neg H1.out]
    rfl
end Go.Proofs.Ythchkddhibhenaa

/- The contract of known: the examples of the chapter. -/
namespace Go.Proofs.Ythchkddhibhenaa
open Go.RowKit

theorem exA_err : exA.err = 0 := by decide +kernel
theorem exA_small : exA.small := ⟨by decide, by decide, by decide⟩
theorem exA_corea : corea exA = [0, 1] := by decide +kernel
theorem exA_dist : backward exA.n.toNat exA.es [3] = [2, -1, 1, 0] := by decide +kernel
theorem exA_distErr : err2 exA.err (setErr exA.n none [3]) = 0 := by decide +kernel
theorem exA_path : reachPath exA 0 [3] [0, 1, 2, 3] = some [1, 0] := by decide +kernel
theorem exA_pathErr : pathErr exA 0 [3] [0, 1, 2, 3] = 0 := by decide +kernel
theorem exA_int : interior exA.n.toNat exA.es [0, 1, 2] [0] = [0, 1] := by decide +kernel
theorem exA_intErr : err2 exA.err (err2 (setErr exA.n none [0, 1, 2]) (setErr 32 none [0])) = 0 := by decide +kernel

/-- An automaton's value written out. -/
theorem RdA.val {w : World} {v : Value} {a : Aut} (h : RdA w v a) : ∃ aa ca am cm ae ce, v = .agg #[.slice aa a.al.length ca, .int .i64 a.n, .slice am a.ms.length cm, .slice ae a.es.length ce] := by
  obtain ⟨va, vm, ve, rfl, ⟨aa, ca, rfl, _⟩, ⟨am, cm, rfl, _⟩, ⟨ae, ce, rfl, _⟩⟩ := h
  exact ⟨_, _, _, _, _, _, rfl⟩

set_option maxRecDepth 100000 in
set_option maxHeartbeats 1600000 in
theorem known_any (w : World) : Calls Try.prog 12 #[] w (Ret w fun u _ => u = .bool true) := by
  go_enter Try.func12, Try.ntmps12
  go_wp2_with fail
  refine (example_any _).mono ?_
  rintro e w1 ⟨v1, rfl, ha1, hb1⟩
  have hW1 := hb1
  have Ha1 := Lib.hid ha1
  obtain ⟨aa1, ca1, am1, cm1, ae1, ce1, rfl⟩ := ha1.val
  clear ha1
  go_wp2_with fail
  refine (corea_any _ exA _ Ha1.out exA_small).mono ?_
  rintro e w2 ⟨v2, rfl, hp2, hb2⟩
  have hW2 := hW1.trans (hb2.mono hW1.size)
  rw [ListPost, if_pos exA_err, exA_corea] at hp2
  obtain ⟨v2, rfl, hr2⟩ := hp2
  have Hr2 := Lib.hid hr2
  obtain ⟨a2, c2, rfl, hr2'⟩ := hr2
  clear hr2' hb1 hb2
  go_wp2_with fail
  refine (example_any _).mono ?_
  rintro e w3 ⟨v3, rfl, ha3, hb3⟩
  have hW3 := hW2.trans (hb3.mono hW2.size)
  have Ha3 := Lib.hid ha3
  obtain ⟨aa3, ca3, am3, cm3, ae3, ce3, rfl⟩ := ha3.val
  have Hr2 := Lib.hid (Hr2.out.mono hb3)
  clear ha3 hb3
  go_wp2_with fail
  refine (distances_any _ _ exA [3] _ (Ha3.out.mono (bel_alloc _ _)) exA_small ⟨_, 1, rfl, RdS.lit (cs := #[.int .i64 3]) (t := 3) (by repeat (first | with_reducible assumption | (with_reducible refine heap_at ?_; (first | (simp; done) | (simp; omega))) | (with_reducible refine heap_past ?_ ?_; (next => first | omega | (simp; done) | (simp; omega))))) rfl (by decide)⟩ (by decide)).mono ?_
  rintro e w4 ⟨v4, rfl, hp4, hb4⟩
  have hW4 := (hW3.alloc hW3.size _).trans (hb4.mono (Nat.le_trans hW3.size (by simp)))
  rw [ListPost, if_pos exA_distErr, exA_dist] at hp4
  obtain ⟨v4, rfl, hr4⟩ := hp4
  have Hr4 := Lib.hid hr4
  obtain ⟨a4, c4, rfl, hr4'⟩ := hr4
  have Hr2 := Lib.hid (RdI.mono (RdI.mono Hr2.out (bel_alloc _ _)) hb4)
  clear hr4' hb4
  go_wp2_with fail
  refine (example_any _).mono ?_
  rintro e w5 ⟨v5, rfl, ha5, hb5⟩
  have hW5 := hW4.trans (hb5.mono hW4.size)
  have Ha5 := Lib.hid ha5
  obtain ⟨aa5, ca5, am5, cm5, ae5, ce5, rfl⟩ := ha5.val
  have Hr2 := Lib.hid (Hr2.out.mono hb5)
  have Hr4 := Lib.hid (Hr4.out.mono hb5)
  clear ha5 hb5
  go_wp2_with fail
  refine (rpath_any _ _ _ exA 0 [3] [0, 1, 2, 3] _ ((Ha5.out.mono (bel_alloc _ _)).mono (bel_alloc _ _)) exA_small ⟨_, 1, rfl, RdS.lit (cs := #[.int .i64 3]) (t := 3) (by repeat (first | with_reducible assumption | (with_reducible refine heap_at ?_; (first | (simp; done) | (simp; omega))) | (with_reducible refine heap_past ?_ ?_; (next => first | omega | (simp; done) | (simp; omega))))) rfl (by decide)⟩ ⟨_, 4, rfl, RdS.lit (cs := #[.int .i64 0, .int .i64 1, .int .i64 2, .int .i64 3]) (t := 3) (by repeat (first | with_reducible assumption | (with_reducible refine heap_at ?_; (first | (simp; done) | (simp; omega))) | (with_reducible refine heap_past ?_ ?_; (next => first | omega | (simp; done) | (simp; omega))))) rfl (by decide)⟩ (by decide) (by decide)).mono ?_
  rintro e w6 ⟨v6, rfl, hp6, hb6⟩
  have hW6 := ((hW5.alloc hW5.size _).alloc (Nat.le_trans hW5.size (by simp)) _).trans (hb6.mono (Nat.le_trans hW5.size (by simp; omega)))
  rw [exA_pathErr, exA_path] at hp6
  unfold PPost at hp6
  rw [if_pos rfl] at hp6
  obtain ⟨v6, rfl, hr6⟩ := hp6
  have Hr6 := Lib.hid hr6
  obtain ⟨a6, c6, rfl, hr6'⟩ := hr6
  have Hr2 := Lib.hid (RdI.mono (RdI.mono (RdI.mono Hr2.out (bel_alloc _ _)) (bel_alloc _ _)) hb6)
  have Hr4 := Lib.hid (RdI.mono (RdI.mono (RdI.mono Hr4.out (bel_alloc _ _)) (bel_alloc _ _)) hb6)
  clear hr6' hb6
  go_wp2_with fail
  refine (example_any _).mono ?_
  rintro e w7 ⟨v7, rfl, ha7, hb7⟩
  have hW7 := hW6.trans (hb7.mono hW6.size)
  have Ha7 := Lib.hid ha7
  obtain ⟨aa7, ca7, am7, cm7, ae7, ce7, rfl⟩ := ha7.val
  have Hr2 := Lib.hid (Hr2.out.mono hb7)
  have Hr4 := Lib.hid (Hr4.out.mono hb7)
  have Hr6 := Lib.hid (Hr6.out.mono hb7)
  clear ha7 hb7
  go_wp2_with fail
  refine (interior_any _ _ _ exA [0, 1, 2] [0] _ ((Ha7.out.mono (bel_alloc _ _)).mono (bel_alloc _ _)) exA_small ⟨_, 3, rfl, RdS.lit (cs := #[.int .i64 0, .int .i64 1, .int .i64 2]) (t := 3) (by repeat (first | with_reducible assumption | (with_reducible refine heap_at ?_; (first | (simp; done) | (simp; omega))) | (with_reducible refine heap_past ?_ ?_; (next => first | omega | (simp; done) | (simp; omega))))) rfl (by decide)⟩ ⟨_, 1, rfl, RdS.lit (cs := #[.int .i64 0]) (t := 3) (by repeat (first | with_reducible assumption | (with_reducible refine heap_at ?_; (first | (simp; done) | (simp; omega))) | (with_reducible refine heap_past ?_ ?_; (next => first | omega | (simp; done) | (simp; omega))))) rfl (by decide)⟩ (by decide) (by decide)).mono ?_
  rintro e w8 ⟨v8, rfl, hp8, hb8⟩
  have hW8 := ((hW7.alloc hW7.size _).alloc (Nat.le_trans hW7.size (by simp)) _).trans (hb8.mono (Nat.le_trans hW7.size (by simp; omega)))
  rw [ListPost, if_pos exA_intErr, exA_int] at hp8
  obtain ⟨v8, rfl, hr8⟩ := hp8
  have Hr8 := Lib.hid hr8
  obtain ⟨a8, c8, rfl, hr8'⟩ := hr8
  have Hr2 := Lib.hid (RdI.mono (RdI.mono (RdI.mono Hr2.out (bel_alloc _ _)) (bel_alloc _ _)) hb8)
  have Hr4 := Lib.hid (RdI.mono (RdI.mono (RdI.mono Hr4.out (bel_alloc _ _)) (bel_alloc _ _)) hb8)
  have Hr6 := Lib.hid (RdI.mono (RdI.mono (RdI.mono Hr6.out (bel_alloc _ _)) (bel_alloc _ _)) hb8)
  clear hr8' hb8 hW1 hW2 hW3 hW4 hW5 hW6 hW7 Ha1 Ha3 Ha5 Ha7
  go_wp2_with fail
  refine (same_any _ _ [0, 1] [0, 1] _ (Hr2.out.mono (bel_alloc _ _)) ⟨_, 2, rfl, RdS.lit (cs := #[.int .i64 0, .int .i64 1]) (t := 3) (by repeat (first | with_reducible assumption | (with_reducible refine heap_at ?_; (first | (simp; done) | (simp; omega))) | (with_reducible refine heap_past ?_ ?_; (next => first | omega | (simp; done) | (simp; omega))))) rfl (by decide)⟩ (by decide) (by decide)).mono ?_
  rintro e w9 ⟨_, rfl, rfl, hb9⟩
  have hW9 := (hW8.alloc hW8.size _).trans (hb9.mono (Nat.le_trans hW8.size (by simp)))
  have Hr4 := Lib.hid (RdI.mono (RdI.mono Hr4.out (bel_alloc _ _)) hb9)
  have Hr6 := Lib.hid (RdI.mono (RdI.mono Hr6.out (bel_alloc _ _)) hb9)
  have Hr8 := Lib.hid (RdI.mono (RdI.mono Hr8.out (bel_alloc _ _)) hb9)
  rw [show sameB [0, 1] [0, 1] = true by decide]
  clear hb9 hW8
  go_wp2_with fail
  refine (same_any _ _ [2, -1, 1, 0] [2, -1, 1, 0] _ (Hr4.out.mono (bel_alloc _ _)) ⟨_, 4, rfl, RdS.lit (cs := #[.int .i64 2, .int .i64 (-1), .int .i64 1, .int .i64 0]) (t := 3) (by repeat (first | with_reducible assumption | (with_reducible refine heap_at ?_; (first | (simp; done) | (simp; omega))) | (with_reducible refine heap_past ?_ ?_; (next => first | omega | (simp; done) | (simp; omega))))) rfl (by decide)⟩ (by decide) (by decide)).mono ?_
  rintro e w10 ⟨_, rfl, rfl, hb10⟩
  have hW10 := (hW9.alloc hW9.size _).trans (hb10.mono (Nat.le_trans hW9.size (by simp)))
  have Hr6 := Lib.hid (RdI.mono (RdI.mono Hr6.out (bel_alloc _ _)) hb10)
  have Hr8 := Lib.hid (RdI.mono (RdI.mono Hr8.out (bel_alloc _ _)) hb10)
  rw [show sameB [2, -1, 1, 0] [2, -1, 1, 0] = true by decide]
  clear hb10 hW9
  go_wp2_with fail
  refine (same_any _ _ [1, 0] [1, 0] _ (Hr6.out.mono (bel_alloc _ _)) ⟨_, 2, rfl, RdS.lit (cs := #[.int .i64 1, .int .i64 0]) (t := 3) (by repeat (first | with_reducible assumption | (with_reducible refine heap_at ?_; (first | (simp; done) | (simp; omega))) | (with_reducible refine heap_past ?_ ?_; (next => first | omega | (simp; done) | (simp; omega))))) rfl (by decide)⟩ (by decide) (by decide)).mono ?_
  rintro e w11 ⟨_, rfl, rfl, hb11⟩
  have hW11 := (hW10.alloc hW10.size _).trans (hb11.mono (Nat.le_trans hW10.size (by simp)))
  have Hr8 := Lib.hid (RdI.mono (RdI.mono Hr8.out (bel_alloc _ _)) hb11)
  rw [show sameB [1, 0] [1, 0] = true by decide]
  clear hb11 hW10
  go_wp2_with fail
  refine (same_any _ _ [0, 1] [0, 1] _ (Hr8.out.mono (bel_alloc _ _)) ⟨_, 2, rfl, RdS.lit (cs := #[.int .i64 0, .int .i64 1]) (t := 3) (by repeat (first | with_reducible assumption | (with_reducible refine heap_at ?_; (first | (simp; done) | (simp; omega))) | (with_reducible refine heap_past ?_ ?_; (next => first | omega | (simp; done) | (simp; omega))))) rfl (by decide)⟩ (by decide) (by decide)).mono ?_
  rintro e w12 ⟨_, rfl, rfl, hb12⟩
  have hW12 := (hW11.alloc hW11.size _).trans (hb12.mono (Nat.le_trans hW11.size (by simp)))
  rw [show sameB [0, 1] [0, 1] = true by decide]
  go_wp2_with fail
  go_ret
  exact ⟨_, rfl, rfl, hW12⟩
end Go.Proofs.Ythchkddhibhenaa

/- Words that the laws over descriptions share. -/
namespace Go.Proofs.Ythchkddhibhenaa
open Go.RowKit

theorem Try.small_size : (Try.prog.info? 25).map (·.size) = some 26 := by kernel_rfl
theorem Desc.size {xs : List Int} (h : Desc xs) : (Try.prog.info? 25).map (·.size) = some (bytes8 xs).size := by
  rw [Try.small_size]
  simp [bytes8, h.len]
/-- The value of an automaton that Make makes. -/
theorem mkA_val {w : World} {v : Value} {xs : List Int} (h : RdA w v (mkA xs)) : ∃ aa ca am cm ae ce, v = .agg #[.slice aa 4 ca, .int .i64 (mkN xs : Nat), .slice am (mkA xs).ms.length cm, .slice ae (mkA xs).es.length ce] := h.val
end Go.Proofs.Ythchkddhibhenaa

/- Words for the last step of each law: arguments that read as before in a world that has grown, and what a description is. -/
namespace Go.Proofs.Ythchkddhibhenaa
open Go.ChangeShapes Go.WideShapes Go.ChangeAt Go.RowKit

theorem Try.own : ownKnob Try.prog.godebug = none := by kernel_rfl
theorem Try.laidOut : laidOutB Try.prog = true := by kernel_rfl

section
variable {H : Type} {enc : TypeId × Value → H}
/-- Types whose values may be carried. -/
def carryB (P : Program) (ts : List TypeId) : Bool := ts.all fun t => P.readableRec t && decide (t < P.types.size)
/-- All arguments read as they did. -/
theorem trodAll_carry {P : Program} (hl : laidOutB P = true) {W W' : World} (hb : Below W.heap.size W W') {sp : Nat → Bool} : ∀ {ts : List TypeId} {vs : List Value} {ds : List (DataW H)} {ps : List MemPlace}, carryB P ts = true →
    DataW.TrodAll enc P W 0 (fun _ => true) true ts vs ds ps → (∀ x ∈ ps, x.block < W.heap.size) → (∀ x ∈ ps, sp x.block = true) → DataW.TrodAll enc P W' 0 sp true ts vs ds ps
  | [], [], [], _, _, h, _, _ => h
  | [], _ :: _, _, _, _, h, _, _ => h.elim
  | [], [], _ :: _, _, _, h, _, _ => h.elim
  | t :: ts, [], _, _, _, h, _, _ => h.elim
  | t :: ts, _ :: _, [], _, _, h, _, _ => h.elim
  | t :: ts, v :: vs, d :: ds, ps, hc, ⟨p, q, h1, h2, e⟩, hlt, hsp => by
    subst e
    unfold carryB at hc
    rw [List.all_cons, Bool.and_eq_true, Bool.and_eq_true] at hc
    exact ⟨p, q, WideElems.Trod_stays hl hc.1.1 (of_decide_eq_true hc.1.2) h1 (fun x hx => hb.same (hlt x (List.mem_append_left _ hx))) (fun x hx => hsp x (List.mem_append_left _ hx)),
      trodAll_carry hl hb hc.2 h2 (fun x hx => hlt x (List.mem_append_right _ hx)) (fun x hx => hsp x (List.mem_append_right _ hx)), rfl⟩

/-- A law's end: it has returned a bool, and nothing that was there has turned. -/
theorem law_post {P : Program} (hl : laidOutB P = true) {f : Func} {s : ChangeSpec} {apart fresh handsOn again : Bool} {W W' : World} {args : Array Value} {ds : List (DataW H)} {before : List MemPlace} {tb : TypeId} {b : Bool}
    (hW : DataW.Whole enc P f.params.toList s.vars apart W args.toList ds [] before) (hv : s.vars = []) (hc : carryB P f.params.toList = true) (hrt : f.resultTypes = #[tb]) (ht : P.underlying tb = some .bool)
    (hr : (s.fn H (ds ++ [])).results = [.lit (.bool b)]) (ha : (s.fn H (ds ++ [])).args = ds) (hvn : (s.fn H (ds ++ [])).vars = []) (hb : Below W.heap.size W W') :
    s.post enc P f apart fresh handsOn again W args (.bool b) W' := by
  have hlt : ∀ p ∈ before, p.block < W.heap.size := fun p hp => hW.lt p hp
  have hWc := hW
  obtain ⟨p, q, hA, hV, rfl, hz, hn⟩ := hWc
  rw [hv] at hV
  obtain ⟨-, rfl⟩ := trodVars_none hV
  rw [List.append_nil] at hlt hz hn
  have hargs : ∀ sp : Nat → Bool, (∀ x ∈ p, sp x.block = true) → DataW.TrodAll enc P W' 0 sp true f.params.toList args.toList (s.fn H (ds ++ [])).args p := fun sp hsp => by
    rw [ha]; exact trodAll_carry hl hb hc hA hlt hsp
  have hres : ∀ (b0 : Nat) (sp : Nat → Bool) (hd : Bool), DataW.TrodAll enc P W' b0 sp hd f.resultTypes.toList ((Value.bool b).resultList f.resultTypes.size) (s.fn H (ds ++ [])).results [] := fun _ _ _ => by
    rw [hr, hrt]; exact trodAll_mk1 (shut_bool ht b)
  have hvars : ∀ sp : Nat → Bool, DataW.TrodVars enc P W' sp s.vars (s.fn H (ds ++ [])).vars [] := fun sp => by rw [hv, hvn]; rfl
  have hold : ∀ x ∈ p, (fun b => decide (b < W.heap.size)) x.block = true := fun x hx => by simpa using hlt x hx
  refine ⟨ds, [], p ++ [], [], p, [], hW, hres _ _ _, hargs _ hold, hvars _, World.keptBut_mono (fun x hx => ?_) (hb.frame (· ∈ p)), fun _ => ?_⟩
  · exact ⟨by rwa [List.append_nil], Or.inr (.inl hx)⟩
  · have hok := ok_one (f := f) (W' := W') (by rw [hrt]) rfl (okWide_bool_mk (W' := W') ht b)
    refine ⟨hok, _, _, ([] ++ p) ++ [], ⟨[] ++ p, [], trodAll_append (hargs _ (fun _ _ => rfl)) (hres _ _ _), hvars _, rfl, ?_, ?_⟩, ?_⟩
    · intro b0 off hp
      have hin : MemPlace.cell b0 off ∈ p := by simpa using hp
      rw [hb.frozen (hlt _ hin)]
      exact hz b0 off hin
    · intro hap
      simpa using hn hap
    · intro x hx _
      simpa using hx
end

set_option maxRecDepth 100000 in
/-- A cell of a byte. -/
theorem cell_u8 {w : World} {r : Reach} {base : Nat} {v : Value} (h : Cell.okWide Try.prog w r base 5 v) : ∃ n : Int, v = .int .u8 n ∧ 0 ≤ n ∧ n < 256 := by
  simp only [Cell.okWide, Try.underlying5] at h
  cases v <;> simp_all [Cell.ok]
  rename_i k n
  obtain ⟨rfl, h2⟩ := h
  simp [IntKind.has, IntKind.min, IntKind.max, IntKind.signed, IntKind.bits] at h2
  omega
theorem Try.small_types : Try.prog.cellTypes Try.prog.depth 25 = some (List.replicate 26 5) := by kernel_rfl
theorem Try.small_cells : Try.prog.cellsOf 25 = 26 := by kernel_rfl
set_option maxRecDepth 100000 in
/-- What a description is. -/
theorem desc_of {w : World} {r : Reach} {base : Nat} {v : Value} (h : Value.okWide Try.prog w r base 25 v) : ∃ xs, v = .agg (bytes8 xs) ∧ Desc xs := by
  simp only [Value.okWide, Try.underlying25] at h
  obtain ⟨cs, rfl, hsz, ts, hts, _, hc⟩ := h
  rw [Try.small_types] at hts
  rw [Try.small_cells] at hsz
  cases hts
  have hall : ∀ i, i < 26 → ∃ n : Int, cs[i]? = some (.int .u8 n) ∧ 0 ≤ n ∧ n < 256 := by
    intro i hi
    obtain ⟨u, hu, hk⟩ := hc i cs[i] (Array.getElem?_eq_getElem (by omega))
    have : u = 5 := by
      have := List.mem_of_getElem? hu
      exact List.eq_of_mem_replicate this
    subst this
    obtain ⟨n, hn, h0, h1⟩ := cell_u8 hk
    exact ⟨n, by rw [Array.getElem?_eq_getElem (by omega), hn], h0, h1⟩
  have hval : ∀ i, i < 26 → ∃ n : Int, cs[i]? = some (.int .u8 n) ∧ n = intOf (cs.getD i undef) ∧ 0 ≤ n ∧ n < 256 := by
    intro i hi
    obtain ⟨n, h1, h2, h3⟩ := hall i hi
    refine ⟨n, h1, ?_, h2, h3⟩
    rw [Array.getD_eq_getD_getElem?, h1]; simp only [Option.getD_some, intOf]
  refine ⟨(List.range 26).map fun i => intOf (cs.getD i undef), ?_, ⟨by simp, fun x hx => ?_⟩⟩
  · congr 1
    apply Array.ext_getElem?
    intro i
    by_cases hi : i < 26
    · obtain ⟨n, h1, h2, _⟩ := hval i hi
      rw [h1, h2]
      simp [bytes8, hi]
    · rw [Array.getElem?_eq_none (by omega)]
      simp [bytes8, hi]
  · obtain ⟨i, hi, rfl⟩ := List.mem_map.1 hx
    obtain ⟨n, _, h2, h3, h4⟩ := hval i (List.mem_range.1 hi)
    rw [← h2]; exact ⟨h3, h4⟩
end Go.Proofs.Ythchkddhibhenaa

/- The contract of add. -/
namespace Go.Proofs.Ythchkddhibhenaa
open Go.RowKit

/-- Where a number stands, or would stand, in an increasing list. -/
def atI (xs : List Int) (n : Int) : Nat := (xs.takeWhile fun x => decide (x < n)).length
/-- The list with the number, if it is new. -/
def addL (xs : List Int) (n : Int) : List Int := if xs[atI xs n]? = some n then xs else xs.take (atI xs n) ++ [n] ++ xs.drop (atI xs n)
theorem atI_le (xs : List Int) (n : Int) : atI xs n ≤ xs.length := by
  unfold atI; exact (List.takeWhile_prefix _).length_le
theorem atI_eq {xs : List Int} {n : Int} {k : Nat} (hk : k ≤ xs.length) (h1 : ∀ j, (h : j < k) → xs[j] < n) (h2 : ∀ h : k < xs.length, ¬ xs[k] < n) : atI xs n = k := by
  unfold atI
  induction xs generalizing k with
  | nil => simp at hk; simp [hk]
  | cons a l ih =>
    cases k with
    | zero =>
      have := h2 (by simp)
      rw [List.takeWhile_cons_of_neg (by simpa using this)]; rfl
    | succ k =>
      have h3 := h1 0 (by omega)
      rw [List.takeWhile_cons_of_pos (by simpa using h3), List.length_cons, ih (k := k) (by simpa using hk)]
      · intro j hj; have := h1 (j + 1) (by omega); simpa using this
      · intro hj; have := h2 (by simpa using hj); simpa using this

theorem Row.rdI2 {w : World} {B : Nat} {tag : Nat → Nat} {t : TypeId} {v : Value} {xs : List Int} {p : Prop} (h : Row w B tag 1 t 1 v xs.length (ints xs)) : RdI w v xs ∧ (p → ∃ tag, Row w B tag 1 t 1 v xs.length (ints xs)) := ⟨h.rdI, fun _ => ⟨tag, h⟩⟩
theorem Row.rdI3 {w : World} {B : Nat} {tag : Nat → Nat} {t : TypeId} {v : Value} {xs : List Int} (h : Row w B tag 1 t 1 v xs.length (ints xs)) : RdI w v xs ∧ ∃ tag, Row w B tag 1 t 1 v xs.length (ints xs) := ⟨h.rdI, tag, h⟩
set_option maxRecDepth 20000 in
theorem add_row (v : Value) (xs : List Int) (n : Int) (w : World) (hr : RdI w v xs) (hl : xs.length ≤ 1000000) :
    Calls Try.prog 51 #[v, .int .i64 n] w (Ret w fun u w' => RdI w' u (addL xs n) ∧ (n ∉ xs → ∃ tag, Row w' w.heap.size tag 1 3 1 u (addL xs n).length (ints (addL xs n)))) := by
  have hr0 := Lib.hid hr
  obtain ⟨a, cap, rfl, hr⟩ := hr
  obtain ⟨i0, hi, hz0, hz1, hz2⟩ := info_parts Try.info_int
  go_enter Try.func51, Try.ntmps51
  go_wp2_with fail
  go_loop [5] (fun i => ∃ k : Nat, k ≤ xs.length ∧ i = .int .i64 k ∧ Hid (∀ j, (h : j < k) → ∀ h2 : j < xs.length, xs[j] < n)) (fun i => xs.length - (intOf i).toNat)
  case atStart => exact ⟨0, Nat.zero_le _, rfl, fun j h => absurd h (by omega)⟩
  case round =>
    obtain ⟨k, hk, rfl, hn⟩ := hrel
    by_cases hlt : k < xs.length
    · obtain ⟨b, off, rfl, hc⟩ := hr.at_int k hlt
      by_cases hx : xs[k] < n
      · have Hx := Lib.hid hx
        generalize xs[k] = y at hc hx
        go_wp2
        go_round
        case rel => exact ⟨k + 1, by omega, by go_num, fun j hj h2 => by
          by_cases e : j = k
          · subst e; exact Hx.out
          · exact hn.out j (by omega) h2⟩
        case measure => simp [intOf]; omega
      · have hat : Hid (atI xs n = k) := atI_eq hk (fun j hj => hn.out j hj (by omega)) (fun _ => hx)
        by_cases he : xs[k] = n
        · have hadd : Hid (addL xs n = xs) := by
            show _ = _
            rw [addL, hat.out, List.getElem?_eq_getElem hlt, he, if_pos rfl]
          have hmem : Hid (n ∈ xs) := by
            show _ ∈ _
            rw [← he]; exact List.getElem_mem hlt
          rw [he] at hc
          clear he hx
          go_wp2
          go_ret
          exact ⟨_, rfl, by rw [hadd.out]; exact ⟨hr0.out, fun h => absurd hmem.out h⟩, Below.refl _ _⟩
        · have hadd : Hid (addL xs n = xs.take k ++ [n] ++ xs.drop k) := by
            show _ = _
            rw [addL, hat.out, List.getElem?_eq_getElem hlt, if_neg (by simpa using he)]
          have hcap := hr.hcap
          have hne : ¬ cap = k := by omega
          have hx' : n < xs[k] := by omega
          have hx2 : (xs[k] == n) = false := by rw [beq_eq_false_iff_ne]; exact he
          have Hsrc := Lib.hid (own_src hr)
          have Hs1 : Hid (∀ j u, (ints (xs.take k))[j]? = some u → w.cell? ((⟨b, off, none⟩ : Addr).add j) = some u) := by
            intro j u hu
            refine Hsrc.out j u ?_
            rw [ints, List.map_take, List.getElem?_take] at hu
            split at hu
            · exact hu
            · cases hu
          have Hs3 : Hid (∀ j u, (ints (xs.drop k))[j]? = some u → w.cell? ((⟨b, off + k, none⟩ : Addr).add j) = some u) := by
            intro j u hu
            rw [ints, List.map_drop, List.getElem?_drop] at hu
            have h1 := Hsrc.out (k + j) u hu
            rw [Addr.add_lit] at h1 ⊢
            rw [Nat.add_assoc]; exact h1
          have hrow := Own.new w w.heap.size (tagUp (fun _ => 0) w.heap.size 1) 1 #[] 3 (Nat.le_refl _) (tagUp_at _ _ _)
          have hr0 : Row (w.alloc (.cells #[] 3)) w.heap.size (tagUp (fun _ => 0) w.heap.size 1) 1 3 1 (.slice (some ⟨w.heap.size, 0, none⟩) 0 0) 0 [] := ⟨by simp, .inr ⟨_, 0, 0, _, rfl, hrow, Nat.le_refl _, by simp [maxLen], by simp, by simp⟩⟩
          have hB0 := bel_alloc w (.cells #[] 3)
          clear he hx hrow
          generalize xs[k] = y at *
          go_wp2_with (first
            | (at_builtin; refine wpList_append_row rfl _ _ 28 rfl 3 i0 (.int .i64 0) 8 Try.underlying28 hi hz0 hz1 hz2 rfl rfl hr0 (some ⟨b, off, none⟩) k cap (ints (xs.take k)) rfl (by simp; omega) (fun e => by cases e) (fun ad e j u hu => by cases e; exact keep0 hB0 (Hs1.out j u hu)) (ints_oneCell .i64 _) (by unfold maxLen; omega) (by omega) hB0.size ?_; intro v1 w1 tag1 hr1 ht1; simp only [Nat.zero_add, List.nil_append] at hr1; have hB1 := belTurn hB0 ht1 hB0.size; obtain ⟨a1, c1, rfl⟩ := hr1.val; have hr1' := hr1.below (bel_alloc w1 (.cells #[.int .i64 n] 3)))
            | (at_builtin; refine wpList_append_row rfl _ _ 28 rfl 3 i0 (.int .i64 0) 8 Try.underlying28 hi hz0 hz1 hz2 rfl rfl hr1' (some ⟨_, 0, none⟩) 1 1 [.int .i64 n] rfl (by simp) (fun e => by cases e) (fun ad e => by cases e; exact new_cells_at _ _ rfl) (by simp [Value.oneCell']) (by unfold maxLen; omega) (by omega) (Nat.le_trans hB1.size (by simp)) ?_; intro v2 w2 tag2 hr2 ht2; have hB2 := belTurn (belCall hB1 (bel_alloc w1 (.cells #[.int .i64 n] 3)) hB1.size) ht2 (Nat.le_trans hB1.size (by simp)); obtain ⟨a2, c2, rfl⟩ := hr2.val)
            | (at_builtin; refine wpList_append_row rfl _ _ 28 rfl 3 i0 (.int .i64 0) 8 Try.underlying28 hi hz0 hz1 hz2 rfl rfl hr2 (some ⟨b, off + k, none⟩) (xs.length - k) (cap - k) (ints (xs.drop k)) rfl (by simp) (fun e => by cases e) (fun ad e j u hu => by cases e; exact keep0 hB2 (Hs3.out j u hu)) (ints_oneCell .i64 _) (by unfold maxLen; omega) (by omega) hB2.size ?_; intro v3 w3 tag3 hr3 ht3; have hB3 := belTurn hB2 ht3 hB2.size; have Hr3 := Lib.hid hr3; clear hr3))
          go_ret
          refine ⟨_, rfl, ?_, hB3⟩
          rw [hadd.out]
          have h9 := Hr3.out
          have e1 : k + 1 + (xs.length - k) = (xs.take k ++ [n] ++ xs.drop k).length := by simp; omega
          rw [e1] at h9
          first | refine Row.rdI2 (tag := tag3) ?_ | refine Row.rdI3 (tag := tag3) ?_
          simpa [ints] using h9
    · have hkl : k = xs.length := by omega
      have hat : Hid (atI xs n = k) := atI_eq hk (fun j hj => hn.out j hj (by omega)) (fun h => absurd h hlt)
      have hadd : Hid (addL xs n = xs ++ [n]) := by
        show _ = _
        rw [addL, hat.out, List.getElem?_eq_none (by omega), if_neg (by simp), List.take_of_length_le (by omega), List.drop_of_length_le (by omega), List.append_nil]
      have hrow := Own.new w w.heap.size (tagUp (fun _ => 0) w.heap.size 1) 1 #[] 3 (Nat.le_refl _) (tagUp_at _ _ _)
      have hrw : Row (w.alloc (.cells #[] 3)) w.heap.size (tagUp (fun _ => 0) w.heap.size 1) 1 3 1 (.slice (some ⟨w.heap.size, 0, none⟩) 0 0) 0 [] := ⟨by simp, .inr ⟨_, 0, 0, _, rfl, hrow, Nat.le_refl _, by simp [maxLen], by simp, by simp⟩⟩
      have hB0 := bel_alloc w (.cells #[] 3)
      have hcap := hr.hcap
      clear hrow
      subst hkl
      cases a with
      | none =>
        obtain rfl : cap = 0 := hr.hnil rfl
        have h0 : xs = [] := List.eq_nil_of_length_eq_zero (by omega)
        subst h0
        go_wp2_with (first
            | (at_builtin; refine wpList_append_row rfl _ _ 28 rfl 3 i0 (.int .i64 0) 8 Try.underlying28 hi hz0 hz1 hz2 rfl rfl hrw none 0 0 [] rfl (by simp) (fun _ => ⟨rfl, rfl⟩) (fun ad e => by cases e) (by simp) (by unfold maxLen; omega) (by omega) hB0.size ?_; intro v1 w1 tag1 hr1 ht1; simp only [Nat.zero_add, List.nil_append] at hr1; have hB1 := belTurn hB0 ht1 hB0.size; obtain ⟨a1, c1, rfl⟩ := hr1.val; have hr1' := hr1.below (bel_alloc w1 (.cells #[.int .i64 n] 3)))
            | (at_builtin; refine wpList_append_row rfl _ _ 28 rfl 3 i0 (.int .i64 0) 8 Try.underlying28 hi hz0 hz1 hz2 rfl rfl hr1' (some ⟨_, 0, none⟩) 1 1 [.int .i64 n] rfl (by simp) (fun e => by cases e) (fun ad e => by cases e; exact new_cells_at _ _ rfl) (by simp [Value.oneCell']) (by unfold maxLen; omega) (by omega) (Nat.le_trans hB1.size (by simp)) ?_; intro v2 w2 tag2 hr2 ht2; have hB2 := belTurn (belCall hB1 (bel_alloc w1 (.cells #[.int .i64 n] 3)) hB1.size) ht2 (Nat.le_trans hB1.size (by simp)); obtain ⟨a2, c2, rfl⟩ := hr2.val)
            | (at_builtin; refine wpList_append_row rfl _ _ 28 rfl 3 i0 (.int .i64 0) 8 Try.underlying28 hi hz0 hz1 hz2 rfl rfl hr2 none 0 0 [] rfl (by simp) (fun _ => ⟨rfl, rfl⟩) (fun ad e => by cases e) (by simp) (by unfold maxLen; omega) (by omega) hB2.size ?_; intro v3 w3 tag3 hr3 ht3; have hB3 := belTurn hB2 ht3 hB2.size; have Hr3 := Lib.hid hr3; clear hr3))
        go_ret
        refine ⟨_, rfl, ?_, hB3⟩
        rw [hadd.out]
        have h9 := Hr3.out
        first | refine Row.rdI2 (tag := tag3) ?_ | refine Row.rdI3 (tag := tag3) ?_
        simpa [ints] using h9
      | some ad =>
        obtain ⟨b, off, sp⟩ := ad
        obtain rfl : sp = none := hr.spot _ rfl
        have Hsrc := Lib.hid (own_src hr)
        by_cases hc : cap = xs.length
        · subst hc
          go_wp2_with (first
              | (at_builtin; refine wpList_append_row rfl _ _ 28 rfl 3 i0 (.int .i64 0) 8 Try.underlying28 hi hz0 hz1 hz2 rfl rfl hrw (some ⟨b, off, none⟩) xs.length xs.length (ints xs) rfl (by simp) (fun e => (by first | cases e | exact ⟨rfl, rfl⟩)) (fun ad e j u hu => by cases e; exact keep0 hB0 (Hsrc.out j u hu)) (ints_oneCell .i64 _) (by unfold maxLen; omega) (by omega) hB0.size ?_; intro v1 w1 tag1 hr1 ht1; simp only [Nat.zero_add, List.nil_append] at hr1; have hB1 := belTurn hB0 ht1 hB0.size; obtain ⟨a1, c1, rfl⟩ := hr1.val; have hr1' := hr1.below (bel_alloc w1 (.cells #[.int .i64 n] 3)))
              | (at_builtin; refine wpList_append_row rfl _ _ 28 rfl 3 i0 (.int .i64 0) 8 Try.underlying28 hi hz0 hz1 hz2 rfl rfl hr1' (some ⟨_, 0, none⟩) 1 1 [.int .i64 n] rfl (by simp) (fun e => by cases e) (fun ad e => by cases e; exact new_cells_at _ _ rfl) (by simp [Value.oneCell']) (by unfold maxLen; omega) (by omega) (Nat.le_trans hB1.size (by simp)) ?_; intro v2 w2 tag2 hr2 ht2; have hB2 := belTurn (belCall hB1 (bel_alloc w1 (.cells #[.int .i64 n] 3)) hB1.size) ht2 (Nat.le_trans hB1.size (by simp)); obtain ⟨a2, c2, rfl⟩ := hr2.val)
              | (at_builtin; refine wpList_append_row rfl _ _ 28 rfl 3 i0 (.int .i64 0) 8 Try.underlying28 hi hz0 hz1 hz2 rfl rfl hr2 (some ⟨b, off, none⟩) 0 0 [] rfl (by simp) (fun e => by cases e) (fun ad e j u hu => by simp at hu) (by simp) (by unfold maxLen; omega) (by omega) hB2.size ?_; intro v3 w3 tag3 hr3 ht3; have hB3 := belTurn hB2 ht3 hB2.size; have Hr3 := Lib.hid hr3; clear hr3))
          go_ret
          refine ⟨_, rfl, ?_, hB3⟩
          rw [hadd.out]
          have h9 := Hr3.out
          first | refine Row.rdI2 (tag := tag3) ?_ | refine Row.rdI3 (tag := tag3) ?_
          simpa [ints] using h9
        · go_wp2_with (first
              | (at_builtin; refine wpList_append_row rfl _ _ 28 rfl 3 i0 (.int .i64 0) 8 Try.underlying28 hi hz0 hz1 hz2 rfl rfl hrw (some ⟨b, off, none⟩) xs.length cap (ints xs) rfl (by simp) (fun e => (by first | cases e | exact ⟨rfl, rfl⟩)) (fun ad e j u hu => by cases e; exact keep0 hB0 (Hsrc.out j u hu)) (ints_oneCell .i64 _) (by unfold maxLen; omega) (by omega) hB0.size ?_; intro v1 w1 tag1 hr1 ht1; simp only [Nat.zero_add, List.nil_append] at hr1; have hB1 := belTurn hB0 ht1 hB0.size; obtain ⟨a1, c1, rfl⟩ := hr1.val; have hr1' := hr1.below (bel_alloc w1 (.cells #[.int .i64 n] 3)))
              | (at_builtin; refine wpList_append_row rfl _ _ 28 rfl 3 i0 (.int .i64 0) 8 Try.underlying28 hi hz0 hz1 hz2 rfl rfl hr1' (some ⟨_, 0, none⟩) 1 1 [.int .i64 n] rfl (by simp) (fun e => by cases e) (fun ad e => by cases e; exact new_cells_at _ _ rfl) (by simp [Value.oneCell']) (by unfold maxLen; omega) (by omega) (Nat.le_trans hB1.size (by simp)) ?_; intro v2 w2 tag2 hr2 ht2; have hB2 := belTurn (belCall hB1 (bel_alloc w1 (.cells #[.int .i64 n] 3)) hB1.size) ht2 (Nat.le_trans hB1.size (by simp)); obtain ⟨a2, c2, rfl⟩ := hr2.val)
              | (at_builtin; refine wpList_append_row rfl _ _ 28 rfl 3 i0 (.int .i64 0) 8 Try.underlying28 hi hz0 hz1 hz2 rfl rfl hr2 (some ⟨b, off + xs.length, none⟩) 0 (cap - xs.length) [] rfl (by simp) (fun e => by cases e) (fun ad e j u hu => by simp at hu) (by simp) (by unfold maxLen; omega) (by omega) hB2.size ?_; intro v3 w3 tag3 hr3 ht3; have hB3 := belTurn hB2 ht3 hB2.size; have Hr3 := Lib.hid hr3; clear hr3))
          go_ret
          refine ⟨_, rfl, ?_, hB3⟩
          rw [hadd.out]
          have h9 := Hr3.out
          first | refine Row.rdI2 (tag := tag3) ?_ | refine Row.rdI3 (tag := tag3) ?_
          simpa [ints] using h9
theorem add_any (v : Value) (xs : List Int) (n : Int) (w : World) (hr : RdI w v xs) (hl : xs.length ≤ 1000000) :
    Calls Try.prog 51 #[v, .int .i64 n] w (Ret w fun u w' => RdI w' u (addL xs n)) :=
  (add_row v xs n w hr hl).mono fun _ _ ⟨u, he, hu, hb⟩ => ⟨u, he, hu.1, hb⟩
end Go.Proofs.Ythchkddhibhenaa
