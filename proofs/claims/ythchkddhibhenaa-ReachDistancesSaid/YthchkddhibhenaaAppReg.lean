/- What holds while a copy of a word, with one letter more, is made in whatever order. -/
import Derived.Test.YthchkddhibhenaaRunInv
namespace Go.Proofs.Ythchkddhibhenaa
open Go Go.RowKit

section
variable {w w' : World} {B : Nat} {tag tag' : Nat → Nat} {k k' : Nat} {t : TypeId} {sz : Nat} {v : Value} {n : Nat} {cs : List Value}
theorem Row.up (h : Row w B tag k t sz v n cs) (o : Obj) (k' : Nat) : Row (w.alloc o) B (tagUp tag w.heap.size k') k t sz v n cs :=
  ⟨h.1, h.2.imp id fun ⟨b, off, cap, cur, h1, h2, h3⟩ => ⟨b, off, cap, cur, h1, ⟨((bel_alloc w o).block b h2.lt).trans h2.heap, (tagUp_lt h2.lt).trans h2.htag, h2.base⟩, h3⟩⟩
theorem Row.fresh (w : World) (B : Nat) (tag : Nat → Nat) (k : Nat) (t : TypeId) (cs : List Value) (hB : B ≤ w.heap.size) (hl : cs.length ≤ maxLen) :
    Row (w.alloc (.cells cs.toArray t)) B (tagUp tag w.heap.size k) k t 1 (.slice (some ⟨w.heap.size, 0, none⟩) cs.length cs.length) cs.length cs :=
  ⟨by simp, .inr ⟨w.heap.size, 0, cs.length, cs.toArray, rfl, Own.new w B _ k _ t hB (tagUp_at _ _ _), Nat.le_refl _, hl, by simp, by simp⟩⟩
end

/-- A slice as the source of an append. -/
theorem RdS.src {w : World} {sz len cap : Nat} {a : Option Addr} {cs : List Value} (h : RdS w sz a len cap cs) : (a = none → len = 0 ∧ cap = 0) ∧ ∀ ad, a = some ad → ∀ j u, cs[j]? = some u → w.cell? (ad.add j) = some u := by
  refine ⟨fun e => ⟨by have := h.hnil e; have := h.hcap; omega, h.hnil e⟩, fun ad e j u hu => ?_⟩
  subst e
  obtain ⟨b, off, sp⟩ := ad
  obtain rfl : sp = none := h.spot _ rfl
  exact own_src h j u hu

/-- append to a row, as an operation of a region that draws. -/
theorem StepG.append_row {P : Program} {ops : Array Oper} {Q : Exit → Act → World → Prop} {o : Oper} {a : Act} {w : World} {K' : Act → World → Prop} {B : Nat} {tag : Nat → Nat} {k : Nat} {sz : Nat} {v : Value} {n : Nat} {cs : List Value} (hgd : o.guard = none) (s x : Operand) (tt : TypeId)
    (ho : o.op = .call { callee := .builtin .append, args := #[s, x], argTypes := #[tt, tt] })
    (e : TypeId) (i : TypeInfo) (z : Value) (bytes : Nat) (ht : P.underlying tt = some (.slice e)) (hi : P.info? e = some i) (hz : i.zero = some z)
    (hsize : i.size = sz) (hby : i.bytes = bytes) (hzs : z.cells.size = sz) (hs : a.eval s = v) (hrow : Row w B tag k e sz v n cs)
    (ao : Option Addr) (m c : Nat) (news : List Value) (hx : a.eval x = .slice ao m c) (hl : news.length = m * sz) (hnone : ao = none → m = 0 ∧ c = 0)
    (hnews : ∀ ad, ao = some ad → ∀ j u, news[j]? = some u → w.cell? (ad.add j) = some u) (h1 : ∀ u ∈ news, u.oneCell' = true)
    (h63 : n + m ≤ maxLen) (hbytes : (n + m) * bytes ≤ 140737488355328) (hB : B ≤ w.heap.size)
    (h : ∀ v' w' tag', Row w' B tag' k e sz v' (n + m) (cs ++ news) → Turn B tag tag' k w w' → K' (a.put o.dst v') w') : StepG P ops Q o a w K' := by
  obtain ⟨v', w', tag', hr, h2, h3⟩ := run_append_row (P := P) (w := w) (ty := o.type) tt e i z bytes ht hi hz hsize hby hzs hrow ao m c news hl hnone hnews h1 h63 hbytes hB
  refine StepG.mk ?_
  rw [if_pos (by simp [Region.wanted, hgd])]
  unfold Oper.wp execOp
  simp only [ho, resolve, invoke, builtin, Sem.run_bind, Sem.run_pure, Result.andThen_ok, List.map_toArray, List.map_cons, List.map_nil, hs, hx, hr]
  exact h v' w' tag' h2 h3

/-- What holds while the word is made: Φ of the rest, PR of the slots that hold no memory of the word. -/
structure RApp (Φ : (Nat → Nat) → World → Prop) (PR : Nat → Value → Prop) (B : Nat) (word : List Int) (x : Int) (l : Array Bool) (us : List Value) (tag : Nat → Nat) (W : World) : Prop where
  len : us.length = 12
  size : B ≤ W.heap.size
  phi : Φ tag W
  pure : ∀ j, j < 12 → l.getD j false = true → PR j (us.getD j undef)
  s0 : l.getD 0 false = true → l.getD 6 false = false → Row W B tag 6 3 1 (us.getD 0 undef) 0 []
  s6 : l.getD 6 false = true → l.getD 10 false = false → Row W B tag 6 3 1 (us.getD 6 undef) word.length (ints word)
  s9 : l.getD 9 false = true → Row W B tag 7 3 1 (us.getD 9 undef) 1 [.int .i64 x]
  s10 : l.getD 10 false = true → Row W B tag 6 3 1 (us.getD 10 undef) (word ++ [x]).length (ints (word ++ [x]))
  s11 : l.getD 11 false = true → Row W B tag 6 3 1 (us.getD 11 undef) (word ++ [x]).length (ints (word ++ [x]))
  o6 : l.getD 6 false = true → l.getD 0 false = true
  o10 : l.getD 10 false = true → l.getD 6 false = true
  o11 : l.getD 11 false = true → l.getD 10 false = true

section
variable {Φ : (Nat → Nat) → World → Prop} {PR : Nat → Value → Prop} {B : Nat} {word : List Int} {x : Int} {l : Array Bool} {us : List Value} {tag tag' : Nat → Nat} {W W' : World} {k : Nat} {v : Value}
theorem RApp.start {us : List Value} (hlen : us.length = 12) (hs : B ≤ W.heap.size) (hphi : Φ tag W) : RApp Φ PR B word x (Array.replicate 12 false) us tag W := by
  have h : ∀ j, (Array.replicate 12 false).getD j false = true → False := by
    intro j
    rw [Array.getD_eq_getD_getElem?, Array.getElem?_replicate]
    split <;> simp
  exact ⟨hlen, hs, hphi, fun j _ e => (h _ e).elim, fun e => (h _ e).elim, fun e => (h _ e).elim, fun e => (h _ e).elim, fun e => (h _ e).elim, fun e => (h _ e).elim, fun e => (h _ e).elim, fun e => (h _ e).elim, fun e => (h _ e).elim⟩
theorem set_self {us : List Value} {k n : Nat} {v : Value} (h : us.length = n) (hk : k < n) : (us.set k v).getD k undef = v := by
  rw [List.getD_eq_getElem?_getD, List.getElem?_set_self (by omega)]; rfl
theorem set_ne {us : List Value} {k j : Nat} {v : Value} (h : k ≠ j) : (us.set k v).getD j undef = us.getD j undef := by
  rw [List.getD_eq_getElem?_getD, List.getElem?_set_ne h, ← List.getD_eq_getElem?_getD]
theorem pure_next {PR : Nat → Value → Prop} {n : Nat} (hl : ∀ j, j < n → (l.setIfInBounds k true).getD j false = (j == k || l.getD j false)) (hlen : us.length = n) (hp : ∀ j, j < n → l.getD j false = true → PR j (us.getD j undef)) (hv : PR k v) : ∀ j, j < n → (l.setIfInBounds k true).getD j false = true → PR j ((us.set k v).getD j undef) := by
  intro j hj h
  by_cases e : k = j
  · subst e
    rw [set_self hlen hj]
    exact hv
  · rw [hl j hj, show (j == k) = false by simp; omega, Bool.false_or] at h
    rw [set_ne e]
    exact hp j hj h
/-- A slot without memory of the word. -/
theorem RApp.pureStep (h : RApp Φ PR B word x l us tag W) (hl : ∀ j, j < 12 → (l.setIfInBounds k true).getD j false = (j == k || l.getD j false)) (hk : k ≠ 0 ∧ k ≠ 6 ∧ k ≠ 9 ∧ k ≠ 10 ∧ k ≠ 11) (hv : PR k v) : RApp Φ PR B word x (l.setIfInBounds k true) (us.set k v) tag W := by
  have e0 := hl 0 (by decide)
  have e6 := hl 6 (by decide)
  have e9 := hl 9 (by decide)
  have e10 := hl 10 (by decide)
  have e11 := hl 11 (by decide)
  rw [show ((0 : Nat) == k) = false by simp; omega, Bool.false_or] at e0
  rw [show ((6 : Nat) == k) = false by simp; omega, Bool.false_or] at e6
  rw [show ((9 : Nat) == k) = false by simp; omega, Bool.false_or] at e9
  rw [show ((10 : Nat) == k) = false by simp; omega, Bool.false_or] at e10
  rw [show ((11 : Nat) == k) = false by simp; omega, Bool.false_or] at e11
  refine ⟨by rw [List.length_set]; exact h.len, h.size, h.phi, pure_next hl h.len h.pure hv, ?_, ?_, ?_, ?_, ?_, ?_, ?_, ?_⟩
  · rw [e0, e6, set_ne (by omega)]; exact h.s0
  · rw [e6, e10, set_ne (by omega)]; exact h.s6
  · rw [e9, set_ne (by omega)]; exact h.s9
  · rw [e10, set_ne (by omega)]; exact h.s10
  · rw [e11, set_ne (by omega)]; exact h.s11
  · rw [e0, e6]; exact h.o6
  · rw [e6, e10]; exact h.o10
  · rw [e11, e10]; exact h.o11
/-- The empty list that is made first. -/
theorem RApp.op0 (h : RApp Φ PR B word x l us tag W) (hl : ∀ j, j < 12 → (l.setIfInBounds 0 true).getD j false = (j == 0 || l.getD j false)) (hphi : ∀ {tag tag' k W W'}, Turn B tag tag' k W W' → B ≤ W.heap.size → 6 ≤ k → Φ tag W → Φ tag' W') (hn : l.getD 0 false = false) (hv : ∀ v, PR 0 v) :
    RApp Φ PR B word x (l.setIfInBounds 0 true) (us.set 0 (.slice (some ⟨W.heap.size, 0, none⟩) 0 0)) (tagUp tag W.heap.size 6) (W.alloc (.cells #[] 3)) := by
  have h6 : l.getD 6 false = false := by
    cases h6 : l.getD 6 false with
    | false => rfl
    | true => rw [h.o6 h6] at hn; cases hn
  refine ⟨by rw [List.length_set]; exact h.len, by have := h.size; simp; omega, hphi (Turn.alloc _) h.size (by decide) h.phi, pure_next hl h.len h.pure (hv _), ?_, ?_, ?_, ?_, ?_, ?_, ?_, ?_⟩
  · intro _ _
    rw [set_self h.len (by decide)]
    exact Row.fresh W B tag 6 3 [] h.size (by decide)
  · rw [hl 6 (by decide), show ((6 : Nat) == 0) = false from rfl, Bool.false_or, h6]; intro e; cases e
  · rw [hl 9 (by decide), show ((9 : Nat) == 0) = false from rfl, Bool.false_or, set_ne (by decide)]; exact fun e => (h.s9 e).up _ _
  · rw [hl 10 (by decide), show ((10 : Nat) == 0) = false from rfl, Bool.false_or, set_ne (by decide)]; exact fun e => (h.s10 e).up _ _
  · rw [hl 11 (by decide), show ((11 : Nat) == 0) = false from rfl, Bool.false_or, set_ne (by decide)]; exact fun e => (h.s11 e).up _ _
  · intro _; rw [hl 0 (by decide)]; rfl
  · rw [hl 6 (by decide), hl 10 (by decide)]; exact h.o10
  · rw [hl 11 (by decide), hl 10 (by decide)]; exact h.o11
/-- The letter's own list. -/
theorem RApp.op9 (h : RApp Φ PR B word x l us tag W) (hl : ∀ j, j < 12 → (l.setIfInBounds 9 true).getD j false = (j == 9 || l.getD j false)) (hphi : ∀ {tag tag' k W W'}, Turn B tag tag' k W W' → B ≤ W.heap.size → 6 ≤ k → Φ tag W → Φ tag' W') (hv : ∀ v, PR 9 v) :
    RApp Φ PR B word x (l.setIfInBounds 9 true) (us.set 9 (.slice (some ⟨W.heap.size, 0, none⟩) 1 1)) (tagUp tag W.heap.size 7) (W.alloc (.cells #[.int .i64 x] 3)) := by
  refine ⟨by rw [List.length_set]; exact h.len, by have := h.size; simp; omega, hphi (Turn.alloc _) h.size (by decide) h.phi, pure_next hl h.len h.pure (hv _), ?_, ?_, ?_, ?_, ?_, ?_, ?_, ?_⟩
  · rw [hl 0 (by decide), hl 6 (by decide), show ((6 : Nat) == 9) = false from rfl, Bool.false_or, show ((0 : Nat) == 9) = false from rfl, Bool.false_or, set_ne (by decide)]; exact fun e e' => (h.s0 e e').up _ _
  · rw [hl 6 (by decide), hl 10 (by decide), show ((6 : Nat) == 9) = false from rfl, Bool.false_or, show ((10 : Nat) == 9) = false from rfl, Bool.false_or, set_ne (by decide)]; exact fun e e' => (h.s6 e e').up _ _
  · intro _
    rw [set_self h.len (by decide)]
    exact Row.fresh W B tag 7 3 [.int .i64 x] h.size (by show 1 ≤ maxLen; decide)
  · rw [hl 10 (by decide), show ((10 : Nat) == 9) = false from rfl, Bool.false_or, set_ne (by decide)]; exact fun e => (h.s10 e).up _ _
  · rw [hl 11 (by decide), show ((11 : Nat) == 9) = false from rfl, Bool.false_or, set_ne (by decide)]; exact fun e => (h.s11 e).up _ _
  · rw [hl 0 (by decide), hl 6 (by decide)]; exact h.o6
  · rw [hl 6 (by decide), hl 10 (by decide)]; exact h.o10
  · rw [hl 11 (by decide), hl 10 (by decide)]; exact h.o11
/-- The word behind the empty list. -/
theorem RApp.op6 (h : RApp Φ PR B word x l us tag W) (hl : ∀ j, j < 12 → (l.setIfInBounds 6 true).getD j false = (j == 6 || l.getD j false)) (hphi : ∀ {tag tag' k W W'}, Turn B tag tag' k W W' → B ≤ W.heap.size → 6 ≤ k → Φ tag W → Φ tag' W') (hn : l.getD 6 false = false) (h0 : l.getD 0 false = true) (hv : ∀ v, PR 6 v)
    {v : Value} (ht : Turn B tag tag' 6 W W') (hr : Row W' B tag' 6 3 1 v (0 + word.length) ([] ++ ints word)) :
    RApp Φ PR B word x (l.setIfInBounds 6 true) (us.set 6 v) tag' W' := by
  have h10 : l.getD 10 false = false := by
    cases h10 : l.getD 10 false with
    | false => rfl
    | true => rw [h.o10 h10] at hn; cases hn
  have h11 : l.getD 11 false = false := by
    cases h11 : l.getD 11 false with
    | false => rfl
    | true => rw [h.o11 h11] at h10; cases h10
  refine ⟨by rw [List.length_set]; exact h.len, Nat.le_trans h.size ht.size, hphi ht h.size (by decide) h.phi, pure_next hl h.len h.pure (hv _), ?_, ?_, ?_, ?_, ?_, ?_, ?_, ?_⟩
  · rw [hl 6 (by decide)]; intro _ e; cases e
  · intro _ _
    rw [set_self h.len (by decide)]
    rw [Nat.zero_add] at hr
    exact hr
  · rw [hl 9 (by decide), show ((9 : Nat) == 6) = false from rfl, Bool.false_or, set_ne (by decide)]; exact fun e => (h.s9 e).turn ht (by decide)
  · rw [hl 10 (by decide), show ((10 : Nat) == 6) = false from rfl, Bool.false_or, h10]; intro e; cases e
  · rw [hl 11 (by decide), show ((11 : Nat) == 6) = false from rfl, Bool.false_or, h11]; intro e; cases e
  · intro _; rw [hl 0 (by decide), h0]; rfl
  · intro _; rw [hl 6 (by decide)]; rfl
  · rw [hl 11 (by decide), hl 10 (by decide)]; exact h.o11
/-- The letter behind the word. -/
theorem RApp.op10 (h : RApp Φ PR B word x l us tag W) (hl : ∀ j, j < 12 → (l.setIfInBounds 10 true).getD j false = (j == 10 || l.getD j false)) (hphi : ∀ {tag tag' k W W'}, Turn B tag tag' k W W' → B ≤ W.heap.size → 6 ≤ k → Φ tag W → Φ tag' W') (hn : l.getD 10 false = false) (h6 : l.getD 6 false = true) (hv : ∀ v, PR 10 v)
    {v : Value} (ht : Turn B tag tag' 6 W W') (hr : Row W' B tag' 6 3 1 v (word.length + 1) (ints word ++ [.int .i64 x])) :
    RApp Φ PR B word x (l.setIfInBounds 10 true) (us.set 10 v) tag' W' := by
  have h11 : l.getD 11 false = false := by
    cases h11 : l.getD 11 false with
    | false => rfl
    | true => rw [h.o11 h11] at hn; cases hn
  refine ⟨by rw [List.length_set]; exact h.len, Nat.le_trans h.size ht.size, hphi ht h.size (by decide) h.phi, pure_next hl h.len h.pure (hv _), ?_, ?_, ?_, ?_, ?_, ?_, ?_, ?_⟩
  · rw [hl 6 (by decide), h6]; intro _ e; cases e
  · rw [hl 10 (by decide)]; intro _ e; cases e
  · rw [hl 9 (by decide), show ((9 : Nat) == 10) = false from rfl, Bool.false_or, set_ne (by decide)]; exact fun e => (h.s9 e).turn ht (by decide)
  · intro _
    rw [set_self h.len (by decide), List.length_append, List.length_singleton]
    have : ints (word ++ [x]) = ints word ++ [.int .i64 x] := by simp [ints]
    rw [this]
    exact hr
  · rw [hl 11 (by decide), show ((11 : Nat) == 10) = false from rfl, Bool.false_or, h11]; intro e; cases e
  · rw [hl 0 (by decide), hl 6 (by decide)]; exact h.o6
  · intro _; rw [hl 6 (by decide), h6]; rfl
  · intro _; rw [hl 10 (by decide)]; rfl
/-- The word's variable. -/
theorem RApp.op11 (h : RApp Φ PR B word x l us tag W) (hl : ∀ j, j < 12 → (l.setIfInBounds 11 true).getD j false = (j == 11 || l.getD j false)) (h10 : l.getD 10 false = true) (hv : ∀ v, PR 11 v) :
    RApp Φ PR B word x (l.setIfInBounds 11 true) (us.set 11 (us.getD 10 undef)) tag W := by
  refine ⟨by rw [List.length_set]; exact h.len, h.size, h.phi, pure_next hl h.len h.pure (hv _), ?_, ?_, ?_, ?_, ?_, ?_, ?_, ?_⟩
  · rw [hl 0 (by decide), hl 6 (by decide), set_ne (by decide)]; exact h.s0
  · rw [hl 6 (by decide), hl 10 (by decide), set_ne (by decide)]; exact h.s6
  · rw [hl 9 (by decide), set_ne (by decide)]; exact h.s9
  · rw [hl 10 (by decide), set_ne (by decide)]; exact h.s10
  · intro _
    rw [set_self h.len (by decide)]
    exact h.s10 h10
  · rw [hl 0 (by decide), hl 6 (by decide)]; exact h.o6
  · rw [hl 6 (by decide), hl 10 (by decide)]; exact h.o10
  · intro _; rw [hl 10 (by decide), h10]; rfl
end
end Go.Proofs.Ythchkddhibhenaa
