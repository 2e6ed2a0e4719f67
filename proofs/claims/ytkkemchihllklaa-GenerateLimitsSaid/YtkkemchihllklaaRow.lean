/- Rows and boxes of the call's own, kept apart by tags: each block from B on has a tag; two rows of different tags lie in different blocks. -/
import Derived.Test.YtkkemchihllklaaBase
import Derived.RangeFuncWrites
namespace Go.Proofs.Ytkkemchihllklaa
open Go.RowKit

/-- Block b is the call's own, of tag k, and holds the cells cs. -/
structure Own (w : World) (B : Nat) (tag : Nat → Nat) (k : Nat) (b : Nat) (cs : Array Value) (t : TypeId) : Prop where
  heap : w.heap[b]? = some (.cells cs t (0, 0))
  htag : tag b = k
  base : B ≤ b

/-- From w to w' blocks of tag k alone have turned, of those from B on. -/
structure Turn (B : Nat) (tag tag' : Nat → Nat) (k : Nat) (w w' : World) : Prop where
  os : w'.os = w.os
  tape : w'.tape = w.tape
  output : w'.output = w.output
  size : w.heap.size ≤ w'.heap.size
  tags : ∀ b, b < w.heap.size → tag' b = tag b
  heap : ∀ b, b < w.heap.size → (b < B ∨ tag b ≠ k) → w'.heap[b]? = w.heap[b]?
  keep : ∀ (b : Nat) (o : Obj), w.heap[b]? = some o → o.isCells = false → w'.heap[b]? = some o

section
variable {w w' : World} {B : Nat} {tag tag' : Nat → Nat} {k k' : Nat} {b : Nat} {cs : Array Value} {t : TypeId}
theorem Own.lt (h : Own w B tag k b cs t) : b < w.heap.size := (Array.getElem?_eq_some_iff.1 h.heap).1
theorem Own.turn (h : Own w B tag k b cs t) (ht : Turn B tag tag' k' w w') (hk : k ≠ k') : Own w' B tag' k b cs t :=
  ⟨(ht.heap b h.lt (Or.inr (h.htag ▸ hk))).trans h.heap, (ht.tags b h.lt).trans h.htag, h.base⟩
theorem Own.below (h : Own w B tag k b cs t) (hb : Below w.heap.size w w') : Own w' B tag k b cs t :=
  ⟨(hb.block b h.lt).trans h.heap, h.htag, h.base⟩
theorem Own.cell (h : Own w B tag k b cs t) (j : Nat) : w.cell? ⟨b, j, none⟩ = cs[j]? := by simp [World.cell?, h.heap]
theorem Own.frozen (h : Own w B tag k b cs t) (j : Nat) : w.frozen? ⟨b, j, none⟩ = false := by simp [World.frozen?, h.heap]
theorem Own.set (h : Own w B tag k b cs t) (j : Nat) (u : Value) : Own (w.setCell ⟨b, j, none⟩ u) B tag k b (cs.setIfInBounds j u) t :=
  ⟨by simp [World.setCell, Array.getElem?_modify, h.heap], h.htag, h.base⟩
theorem Turn.setCell (h : Own w B tag k b cs t) (j : Nat) (u : Value) : Turn B tag tag k w (w.setCell ⟨b, j, none⟩ u) := by
  refine ⟨rfl, rfl, rfl, by simp [World.setCell], fun _ _ => rfl, fun b' _ hne => ?_, fun b' o ho hc => ?_⟩
  · refine Below.heap_setCell _ _ _ _ ?_
    rintro rfl
    rcases hne with h1 | h1
    · exact absurd h.base (Nat.not_le.2 h1)
    · exact h1 h.htag
  · rw [Below.heap_setCell _ _ _ _ ?_, ho]
    rintro rfl
    rw [h.heap] at ho
    cases ho
    cases hc
theorem Turn.refl (B : Nat) (tag : Nat → Nat) (k : Nat) (w : World) : Turn B tag tag k w w := ⟨rfl, rfl, rfl, Nat.le_refl _, fun _ _ => rfl, fun _ _ _ => rfl, fun _ _ h _ => h⟩
theorem Turn.below (hb : Below w.heap.size w w') : Turn B tag tag k w w' := ⟨hb.os, hb.tape, hb.output, hb.size, fun _ _ => rfl, fun b h _ => hb.block b h, fun b _o ho _ => (hb.block b (Array.getElem?_eq_some_iff.1 ho).1).trans ho⟩
theorem Turn.trans {w'' : World} {tag'' : Nat → Nat} (h : Turn B tag tag' k w w') (h2 : Turn B tag' tag'' k w' w'') : Turn B tag tag'' k w w'' :=
  ⟨h2.os.trans h.os, h2.tape.trans h.tape, h2.output.trans h.output, Nat.le_trans h.size h2.size, fun b hb => (h2.tags b (Nat.lt_of_lt_of_le hb h.size)).trans (h.tags b hb),
    fun b hb hne => (h2.heap b (Nat.lt_of_lt_of_le hb h.size) (hne.imp id (fun e => by rw [h.tags b hb]; exact e))).trans (h.heap b hb hne), fun b o ho hc => h2.keep b o (h.keep b o ho hc) hc⟩
theorem belTurn {a : World} (h : Below B a w) (ht : Turn B tag tag' k w w') (hB : B ≤ w.heap.size) : Below B a w' :=
  h.trans ⟨ht.os, ht.tape, ht.output, ht.size, fun b hb => ht.heap b (by omega) (Or.inl hb)⟩
/-- A new block takes the tag that it is given. -/
theorem Own.new (w : World) (B : Nat) (tag : Nat → Nat) (k : Nat) (cs : Array Value) (t : TypeId) (hB : B ≤ w.heap.size) (htag : tag w.heap.size = k) : Own (w.alloc (.cells cs t)) B tag k w.heap.size cs t :=
  ⟨heap_alloc_new w _, htag, hB⟩
end

/-- What a block of a written-out world holds. -/
theorem heap_at {w : World} {o : Obj} {b : Nat} (h : b = w.heap.size) : (w.alloc o).heap[b]? = some o := h ▸ heap_alloc_new w o
theorem heap_past {w : World} {o : Obj} {b : Nat} {x : Option Obj} (h : b ≠ w.heap.size) (h2 : w.heap[b]? = x) : (w.alloc o).heap[b]? = x := by
  show (w.heap.push o)[b]? = _
  rw [Array.getElem?_push, if_neg h, h2]
theorem heap_drewp {w : World} {b : Nat} {x : Option Obj} (h : w.heap[b]? = x) : w.drew.heap[b]? = x := h

theorem bel_alloc (w : World) (o : Obj) : Below w.heap.size w (w.alloc o) := (Below.refl _ _).alloc (Nat.le_refl _) _
theorem bel_drew (w : World) : Below w.heap.size w w.drew := (Below.refl _ _).drew

/-- A slice value of the call's own: n elements, the cells cs; room behind them up to its capacity. -/
def Row (w : World) (B : Nat) (tag : Nat → Nat) (k : Nat) (t : TypeId) (sz : Nat) (v : Value) (n : Nat) (cs : List Value) : Prop :=
  cs.length = n * sz ∧ ((v = .slice none 0 0 ∧ n = 0) ∨
    ∃ b off cap cur, v = .slice (some ⟨b, off, none⟩) n cap ∧ Own w B tag k b cur t ∧ n ≤ cap ∧ cap ≤ maxLen ∧ off + cap * sz ≤ cur.size ∧ (cur.toList.drop off).take (n * sz) = cs)

section
variable {w w' : World} {B : Nat} {tag tag' : Nat → Nat} {k k' : Nat} {t : TypeId} {sz : Nat} {v : Value} {n : Nat} {cs : List Value}
theorem Row.nil (w : World) (B : Nat) (tag : Nat → Nat) (k : Nat) (t : TypeId) (sz : Nat) : Row w B tag k t sz (.slice none 0 0) 0 [] := ⟨by simp, .inl ⟨rfl, rfl⟩⟩
theorem Row.turn (h : Row w B tag k t sz v n cs) (ht : Turn B tag tag' k' w w') (hk : k ≠ k') : Row w' B tag' k t sz v n cs :=
  ⟨h.1, h.2.imp id fun ⟨b, off, cap, cur, h1, h2, h3⟩ => ⟨b, off, cap, cur, h1, h2.turn ht hk, h3⟩⟩
theorem Row.below (h : Row w B tag k t sz v n cs) (hb : Below w.heap.size w w') : Row w' B tag k t sz v n cs :=
  ⟨h.1, h.2.imp id fun ⟨b, off, cap, cur, h1, h2, h3⟩ => ⟨b, off, cap, cur, h1, h2.below hb, h3⟩⟩
/-- Any list that the call has made (a callee's too) is a row, of the tag that is wanted. -/
theorem Row.of_own {B' : Nat} (h : w.ownsRow B' t sz v n cs) (hB : B ≤ B') (htag : ∀ b, B' ≤ b → b < w.heap.size → tag b = k) : Row w B tag k t sz v n cs := by
  refine ⟨h.1, h.2.imp id fun ⟨g, cap, cur, h1, h2, h3, h4, h5, h6, h7⟩ => ⟨g, 0, cap, cur, h1, ⟨h3, htag g h2 (Array.getElem?_eq_some_iff.1 h3).1, Nat.le_trans hB h2⟩, h4, h5, by omega, by simpa using h7⟩⟩
theorem Row.cellAt {b off cap : Nat} (h : Row w B tag k t sz (.slice (some ⟨b, off, none⟩) n cap) n cs) (j : Nat) (hj : j < n * sz) : w.cell? ⟨b, off + j, none⟩ = cs[j]? := by
  rcases h.2 with ⟨h', _⟩ | ⟨b', off', cap', cur, h', ho, h1, h2, h3, h4⟩
  · simp at h'
  · simp only [Value.slice.injEq, Option.some.injEq, Addr.mk.injEq, and_true, true_and] at h'
    obtain ⟨⟨rfl, rfl⟩, rfl⟩ := h'
    rw [ho.cell, ← h4, List.getElem?_take, if_pos hj, List.getElem?_drop]
    simp
theorem Row.frozenAt {b off cap : Nat} (h : Row w B tag k t sz (.slice (some ⟨b, off, none⟩) n cap) n cs) (j : Nat) : w.frozen? ⟨b, j, none⟩ = false := by
  rcases h.2 with ⟨h', _⟩ | ⟨b', off', cap', cur, h', ho, _⟩
  · simp at h'
  · simp only [Value.slice.injEq, Option.some.injEq, Addr.mk.injEq, and_true, true_and] at h'
    obtain ⟨⟨rfl, rfl⟩, rfl⟩ := h'
    exact ho.frozen j
theorem Row.val (h : Row w B tag k t sz v n cs) : ∃ a cap, v = .slice a n cap := by
  rcases h.2 with ⟨h', h0⟩ | ⟨b', off', cap', cur, h', _⟩
  · subst h0; exact ⟨_, _, h'⟩
  · exact ⟨_, _, h'⟩
theorem Row.addr (h : Row w B tag k t sz v n cs) (hn : 0 < n) : ∃ b off cap, v = .slice (some ⟨b, off, none⟩) n cap ∧ b < w.heap.size ∧ B ≤ b ∧ tag b = k := by
  rcases h.2 with ⟨_, h0⟩ | ⟨b', off', cap', cur, h', ho, _⟩
  · omega
  · exact ⟨_, _, _, h', ho.lt, ho.base, ho.htag⟩
theorem Row.rd (h : Row w B tag k t sz v n cs) : ∃ a cap, v = .slice a n cap ∧ RdS w sz a n cap cs := by
  have h0 := h
  rcases h.2 with ⟨rfl, rfl⟩ | ⟨b, off, cap, cur, rfl, ho, h1, h2, h3, h4⟩
  · exact ⟨none, 0, rfl, ⟨h.1, Nat.le_refl _, by simp [maxLen], fun _ => rfl, fun _ e => (by cases e), fun _ e => (by cases e)⟩⟩
  · refine ⟨_, cap, rfl, ⟨h.1, h1, h2, fun e => (by cases e), fun _ e => (by cases e; rfl), fun _ e j hj => ?_⟩⟩
    cases e
    rw [h0.cellAt j (by have := h.1; omega), List.getElem?_eq_getElem hj]
theorem Row.rdI {xs : List Int} (h : Row w B tag k t 1 v xs.length (ints xs)) : RdI w v xs := by
  obtain ⟨a, cap, e, hr⟩ := h.rd
  exact ⟨a, cap, e, hr⟩
theorem Row.at_int {xs : List Int} (h : Row w B tag k t 1 v xs.length (ints xs)) (i : Nat) (hi : i < xs.length) : ∃ b off cap, v = .slice (some ⟨b, off, none⟩) xs.length cap ∧ b < w.heap.size ∧ B ≤ b ∧ w.cell? ⟨b, off + i, none⟩ = some (.int .i64 xs[i]) := by
  obtain ⟨b, off, cap, rfl, hlt, hB, _⟩ := h.addr (by omega)
  refine ⟨b, off, cap, rfl, hlt, hB, ?_⟩
  rw [h.cellAt i (by omega), List.getElem?_map, List.getElem?_eq_getElem hi]; rfl
/-- All but the first element. -/
theorem Row.tail {b off cap m : Nat} {x : Value} (h : Row w B tag k t 1 (.slice (some ⟨b, off, none⟩) (m + 1) cap) (m + 1) (x :: cs)) :
    (cap = 1 → Row w B tag k t 1 (.slice (some ⟨b, off, none⟩) m (cap - 1)) m cs) ∧ (cap ≠ 1 → Row w B tag k t 1 (.slice (some ⟨b, off + 1, none⟩) m (cap - 1)) m cs) := by
  have hl : cs.length = m := by have := h.1; simp at this; omega
  rcases h.2 with ⟨h', _⟩ | ⟨b', off', cap', cur, h', ho, h1, h2, h3, h4⟩
  · simp at h'
  · simp only [Value.slice.injEq, Option.some.injEq, Addr.mk.injEq, and_true, true_and] at h'
    obtain ⟨⟨rfl, rfl⟩, rfl⟩ := h'
    constructor
    · intro hc
      have hm : m = 0 := by omega
      subst hm
      have : cs = [] := List.eq_nil_of_length_eq_zero hl
      subst this
      exact ⟨by simp, .inr ⟨b, off, cap - 1, cur, rfl, ho, by omega, by omega, by omega, by simp⟩⟩
    · intro hc
      refine ⟨by omega, .inr ⟨b, off + 1, cap - 1, cur, rfl, ho, by omega, by omega, by omega, ?_⟩⟩
      rw [Nat.mul_one] at h4 ⊢
      rw [← List.drop_drop]
      have h5 := congrArg List.tail h4
      rw [List.tail_cons] at h5
      rw [← h5, ← List.drop_one, List.drop_take]
      simp
/-- A store into the row. -/
theorem Row.set {b off cap : Nat} (h : Row w B tag k t sz (.slice (some ⟨b, off, none⟩) n cap) n cs) (j : Nat) (u : Value) :
    Row (w.setCell ⟨b, off + j, none⟩ u) B tag k t sz (.slice (some ⟨b, off, none⟩) n cap) n (cs.set j u) ∧ Turn B tag tag k w (w.setCell ⟨b, off + j, none⟩ u) := by
  rcases h.2 with ⟨h', _⟩ | ⟨b', off', cap', cur, h', ho, h1, h2, h3, h4⟩
  · simp at h'
  · simp only [Value.slice.injEq, Option.some.injEq, Addr.mk.injEq, and_true, true_and] at h'
    obtain ⟨⟨rfl, rfl⟩, rfl⟩ := h'
    refine ⟨⟨by simpa using h.1, .inr ⟨b, off, cap, cur.setIfInBounds (off + j) u, rfl, ho.set _ _, h1, h2, by simpa using h3, ?_⟩⟩, Turn.setCell ho _ _⟩
    rw [← h4]
    apply List.ext_getElem?
    intro i
    simp only [Array.toList_setIfInBounds, List.getElem?_take, List.getElem?_drop, List.getElem?_set, List.length_take, List.length_drop]
    by_cases hi : i < n * sz
    · rw [if_pos hi, if_pos hi]
      by_cases he : j = i
      · subst he
        rw [if_pos rfl, if_pos rfl]
        have hl : off + j < cur.toList.length := by
          rw [Array.length_toList]
          have := Nat.mul_le_mul_right sz h1; omega
        rw [if_pos hl, if_pos (by omega)]
      · rw [if_neg (by omega), if_neg he]
    · rw [if_neg hi, if_neg hi]
      by_cases he : j = i
      · subst he; rw [if_pos rfl, if_neg (by omega)]
      · rw [if_neg he]

/-- The tags, the new block's among them. -/
def tagUp (tag : Nat → Nat) (s k : Nat) : Nat → Nat := fun b => if b = s then k else tag b
theorem tagUp_lt {tag : Nat → Nat} {s k b : Nat} (h : b < s) : tagUp tag s k b = tag b := if_neg (by omega)
theorem tagUp_at (tag : Nat → Nat) (s k : Nat) : tagUp tag s k s = k := if_pos rfl

/-- append to a row of the call's own, from whatever source. -/
theorem run_append_row {P : Program} (ty tt e : TypeId) (i : TypeInfo) (z : Value) (bytes : Nat) (ht : P.underlying tt = some (.slice e)) (hi : P.info? e = some i) (hz : i.zero = some z)
    (hsize : i.size = sz) (hby : i.bytes = bytes) (hzs : z.cells.size = sz)
    (hrow : Row w B tag k e sz v n cs) (ao : Option Addr) (m c : Nat) (news : List Value) (hl : news.length = m * sz) (hnone : ao = none → m = 0 ∧ c = 0)
    (hnews : ∀ ad, ao = some ad → ∀ j u, news[j]? = some u → w.cell? (ad.add j) = some u) (h1 : ∀ u ∈ news, u.oneCell' = true)
    (h63 : n + m ≤ maxLen) (hbytes : (n + m) * bytes ≤ 140737488355328) (hB : B ≤ w.heap.size) :
    ∃ v' w' tag', (Builtin.append_ #[tt, tt] ty #[v, .slice ao m c]).run P w = .ok v' w' ∧ Row w' B tag' k e sz v' (n + m) (cs ++ news) ∧ Turn B tag tag' k w w' := by
  subst hsize
  subst hby
  have hlen : (cs ++ news).length = (n + m) * i.size := by rw [List.length_append, hrow.1, hl, Nat.add_mul]
  have hsmall : n + m ≤ 9223372036854775807 := by simp only [maxLen] at h63; omega
  cases ao with
  | none =>
    obtain ⟨rfl, rfl⟩ := hnone rfl
    have hn : news = [] := List.eq_nil_of_length_eq_zero (by simpa using hl)
    subst hn
    refine ⟨v, w, tag, ?_, by simpa using hrow, Turn.refl _ _ _ _⟩
    rcases hrow.2 with ⟨rfl, rfl⟩ | ⟨b, off, cap, cur, rfl, ho, g1, g2, g3, g4⟩
    · simp [Builtin.append_, run_underlying ht, sizeOf, typeInfo, hi, Builtin.lenOf, Builtin.firstCells]
    · simp [Builtin.append_, run_underlying ht, sizeOf, typeInfo, hi, Builtin.lenOf, Builtin.firstCells, g1, storeCells]
  | some a =>
    replace hnews := hnews a rfl
    have grown : ∀ (old : Nat), old < n + m →
        Row (w.drew.alloc (.cells (cs.toArray ++ news.toArray ++ Builtin.zeroCells z.cells (grownCap w (n + m) old e - (n + m))) e)) B (tagUp tag w.heap.size k) k e i.size
          (.slice (some ⟨w.heap.size, 0, none⟩) (n + m) (grownCap w (n + m) old e)) (n + m) (cs ++ news) ∧
        Turn B tag (tagUp tag w.heap.size k) k w (w.drew.alloc (.cells (cs.toArray ++ news.toArray ++ Builtin.zeroCells z.cells (grownCap w (n + m) old e - (n + m))) e)) := by
      intro old ho
      have hge := grownCap_ge w (n + m) old e
      have hcm : grownCap w (n + m) old e ≤ maxLen := grownCap_le_maxLen w (n + m) old e h63
      refine ⟨⟨hlen, .inr ⟨w.heap.size, 0, _, _, rfl, ⟨heap_alloc_new w.drew _, tagUp_at _ _ _, hB⟩, hge, hcm, ?_, ?_⟩⟩, ⟨rfl, rfl, rfl, by simp, fun b hb => tagUp_lt hb, fun b hb _ => heap_alloc_old w.drew _ hb, fun b o ho _ => (heap_alloc_old w.drew _ (Array.getElem?_eq_some_iff.1 ho).1).trans ho⟩⟩
      · simp only [Array.size_append, List.size_toArray, size_zeroCells, hzs, hrow.1, hl, ← Nat.add_mul]
        rw [Nat.zero_add]
        apply Nat.le_of_eq
        congr 1
        omega
      · simp only [Array.toList_append, List.append_assoc, List.drop_zero]
        rw [← List.append_assoc, ← hlen]
        exact List.take_left
    rcases hrow.2 with ⟨rfl, rfl⟩ | ⟨b, off, cap, cur, rfl, ho, g1, g2, g3, g4⟩
    · have hx : cs = [] := List.eq_nil_of_length_eq_zero (by simpa using hrow.1)
      subst hx
      by_cases hm : m = 0
      · subst hm
        have hn : news = [] := List.eq_nil_of_length_eq_zero (by simpa using hl)
        subst hn
        refine ⟨.slice none 0 0, w, tag, ?_, Row.nil _ _ _ _ _ _, Turn.refl _ _ _ _⟩
        simp [Builtin.append_, run_underlying ht, sizeOf, typeInfo, hi, Builtin.lenOf, Builtin.firstCells, loadCells, loadCellsFrom]
      · have hr := run_append_nil (P := P) w tt ty e i z ht hi hz a m c news hl hnews (by omega) (by omega) (by have hb := hbytes; simp only [Nat.zero_add] at hb; omega)
        have hgr := grown 0 (by omega)
        simp only [Nat.zero_add, List.nil_append, Array.empty_append] at hgr ⊢
        exact ⟨_, _, _, hr, hgr.1, hgr.2⟩
    · by_cases hroom : n + m ≤ cap
      · have hfit : off + n * i.size + 0 + news.length ≤ cur.size := by
          rw [hl]
          have := Nat.mul_le_mul_right i.size hroom
          rw [Nat.add_mul] at this; omega
        have hst := run_storeCells_at P b (off + n * i.size) e news 0 cur w ho.heap hfit h1
        have hf := run_firstCells_some (P := P) w i.size m a m c news hl hnews
        simp only [Nat.add_zero] at hst hfit
        refine ⟨.slice (some ⟨b, off, none⟩) (n + m) cap, w.setRow b (cur.toList.take (off + n * i.size) ++ news ++ cur.toList.drop (off + n * i.size + news.length)).toArray, tag, ?_, ⟨hlen, .inr ⟨b, off, cap, _, rfl, ⟨setRow_heap w b cur _ e _ ho.heap, ho.htag, ho.base⟩, hroom, g2, ?_, ?_⟩⟩, ⟨rfl, rfl, rfl, by simp, fun _ _ => rfl, fun b' _ hne => setRow_other w b b' _ ?_, fun b' o hb' hc => (setRow_other w b b' _ ?_).trans hb'⟩⟩
        · simp [Builtin.append_, run_underlying ht, sizeOf, typeInfo, hi, Builtin.lenOf, hroom, hf, Addr.add_lit, hst]
        · simp only [List.size_toArray, List.length_append, List.length_take, List.length_drop, Array.length_toList]
          omega
        · have hcl : (cur.toList.take (off + n * i.size)).drop off = cs := by
            rw [List.drop_take, show off + n * i.size - off = n * i.size by omega, g4]
          rw [List.append_assoc, List.drop_append_of_le_length (by rw [List.length_take, Array.length_toList]; omega), hcl, ← List.append_assoc, ← hlen]
          exact List.take_left
        · rintro rfl
          rcases hne with h2 | h2
          · exact absurd ho.base (Nat.not_le.2 h2)
          · exact h2 ho.htag
        · rintro rfl
          rw [ho.heap] at hb'
          cases hb'
          cases hc
      · have holds : ∀ j u, cs[j]? = some u → w.cell? ((⟨b, off, none⟩ : Addr).add j) = some u := by
          intro j u hu
          have hj := (List.getElem?_eq_some_iff.1 hu).1
          rw [Addr.add_lit, hrow.cellAt j (by have := hrow.1; omega), hu]
        have hr := run_append_grow (P := P) w tt ty e i z ht hi hz ⟨b, off, none⟩ n cap cs hrow.1 holds a m c news hl hnews (by omega) (by omega) (growslice_fits (by omega) hbytes)
        have hgr := grown cap (by omega)
        exact ⟨_, _, _, hr, hgr.1, hgr.2⟩

theorem wpList_append_row {P : Program} {ops : Array Oper} {rest : List Oper} {o : Oper} {a : Act} {Q : Exit → Act → World → Prop} (hgd : o.guard = none) (s x : Operand) (tt : TypeId)
    (ho : o.op = .call { callee := .builtin .append, args := #[s, x], argTypes := #[tt, tt] })
    (e : TypeId) (i : TypeInfo) (z : Value) (bytes : Nat) (ht : P.underlying tt = some (.slice e)) (hi : P.info? e = some i) (hz : i.zero = some z)
    (hsize : i.size = sz) (hby : i.bytes = bytes) (hzs : z.cells.size = sz) (hs : a.eval s = v) (hrow : Row w B tag k e sz v n cs)
    (ao : Option Addr) (m c : Nat) (news : List Value) (hx : a.eval x = .slice ao m c) (hl : news.length = m * sz) (hnone : ao = none → m = 0 ∧ c = 0)
    (hnews : ∀ ad, ao = some ad → ∀ j u, news[j]? = some u → w.cell? (ad.add j) = some u) (h1 : ∀ u ∈ news, u.oneCell' = true)
    (h63 : n + m ≤ maxLen) (hbytes : (n + m) * bytes ≤ 140737488355328) (hB : B ≤ w.heap.size)
    (h : ∀ v' w' tag', Row w' B tag' k e sz v' (n + m) (cs ++ news) → Turn B tag tag' k w w' → wpList P ops Q rest (a.put o.dst v') w') : wpList P ops Q (o :: rest) a w := by
  refine wpList_plain hgd fun K hK => ?_
  obtain ⟨v', w', tag', hr, h2, h3⟩ := run_append_row (P := P) (w := w) (ty := o.type) tt e i z bytes ht hi hz hsize hby hzs hrow ao m c news hl hnone hnews h1 h63 hbytes hB
  unfold Oper.wp execOp
  simp only [ho, resolve, invoke, builtin, Sem.run_bind, Sem.run_pure, Result.andThen_ok, List.map_toArray, List.map_cons, List.map_nil, hs, hx, hr]
  exact hK _ _ (h v' w' tag' h2 h3)
end
end Go.Proofs.Ytkkemchihllklaa
