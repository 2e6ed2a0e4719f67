/- What is known of memory: a world with tags; which blocks a step may turn; values that read as data, and stay. -/
import Derived.Test.YtkkemchihllklaaRt
namespace Go.Proofs.Ytkkemchihllklaa
open Go Go.RowKit

/-- A world, and a tag for each block: 0 where nobody writes any more. -/
structure Sig where
  w : World
  tag : Nat → Nat

/-- From s to s' blocks of the tags of S alone have turned. -/
structure Mv (S : Nat → Prop) (s s' : Sig) : Prop where
  os : s'.w.os = s.w.os
  tape : s'.w.tape = s.w.tape
  output : s'.w.output = s.w.output
  size : s.w.heap.size ≤ s'.w.heap.size
  blk : ∀ b, b < s.w.heap.size → ¬ S (s.tag b) → s'.w.heap[b]? = s.w.heap[b]? ∧ s'.tag b = s.tag b
/-- What nobody writes has stayed. -/
structure Le (s s' : Sig) : Prop where
  size : s.w.heap.size ≤ s'.w.heap.size
  blk : ∀ b, b < s.w.heap.size → s.tag b = 0 → s'.w.heap[b]? = s.w.heap[b]? ∧ s'.tag b = 0
abbrev No : Nat → Prop := fun _ => False
abbrev One (t : Nat) : Nat → Prop := fun x => x = t
theorem no_No {t : Nat} : ¬ No t := id
theorem nor {p q : Prop} (h : ¬ p) (h2 : ¬ q) : ¬ (p ∨ q) := fun e => e.elim h h2

section
variable {S S' : Nat → Prop} {s s' s'' : Sig}
theorem Mv.refl (S : Nat → Prop) (s : Sig) : Mv S s s := ⟨rfl, rfl, rfl, Nat.le_refl _, fun _ _ _ => ⟨rfl, rfl⟩⟩
theorem Mv.trans (h : Mv S s s') (h2 : Mv S s' s'') : Mv S s s'' :=
  ⟨h2.os.trans h.os, h2.tape.trans h.tape, h2.output.trans h.output, Nat.le_trans h.size h2.size, fun b hb hn => by
    obtain ⟨g1, g2⟩ := h.blk b hb hn
    obtain ⟨g3, g4⟩ := h2.blk b (Nat.lt_of_lt_of_le hb h.size) (by rw [g2]; exact hn)
    exact ⟨g3.trans g1, g4.trans g2⟩⟩
theorem Mv.weak (h : Mv S s s') (hs : ∀ t, S t → S' t) : Mv S' s s' := ⟨h.os, h.tape, h.output, h.size, fun b hb hn => h.blk b hb fun e => hn (hs _ e)⟩
theorem Mv.no (h : Mv No s s') : Mv S s s' := h.weak fun _ e => e.elim
theorem Mv.one {t : Nat} (h : Mv (One t) s s') (ht : S t) : Mv S s s' := h.weak fun _ e => e ▸ ht
theorem Mv.le (h : Mv S s s') (h0 : ¬ S 0) : Le s s' := ⟨h.size, fun b hb ht => by
  obtain ⟨g1, g2⟩ := h.blk b hb (by rw [ht]; exact h0)
  exact ⟨g1, g2.trans ht⟩⟩
theorem Le.refl (s : Sig) : Le s s := ⟨Nat.le_refl _, fun _ _ h => ⟨rfl, h⟩⟩
theorem Le.trans (h : Le s s') (h2 : Le s' s'') : Le s s'' := ⟨Nat.le_trans h.size h2.size, fun b hb ht => by
  obtain ⟨g1, g2⟩ := h.blk b hb ht
  obtain ⟨g3, g4⟩ := h2.blk b (Nat.lt_of_lt_of_le hb h.size) g2
  exact ⟨g3.trans g1, g4⟩⟩
/-- All of the tags from N on are given up. -/
def Sig.drop (N : Nat) (s : Sig) : Sig := ⟨s.w, fun b => if N ≤ s.tag b then 0 else s.tag b⟩
theorem Sig.drop_le (N : Nat) (s : Sig) : Le s (s.drop N) := ⟨Nat.le_refl _, fun b _ ht => ⟨rfl, by simp [Sig.drop, ht]⟩⟩
theorem Mv.drop {N : Nat} (h : Mv (fun t => N ≤ t ∨ S t) s s') (hN : ∀ b, b < s.w.heap.size → s.tag b < N) : Mv S s (s'.drop N) :=
  ⟨h.os, h.tape, h.output, h.size, fun b hb hn => by
    obtain ⟨g1, g2⟩ := h.blk b hb (nor (Nat.not_le.2 (hN b hb)) hn)
    refine ⟨g1, ?_⟩
    show (if N ≤ s'.tag b then 0 else s'.tag b) = _
    rw [if_neg (by rw [g2]; exact Nat.not_le.2 (hN b hb)), g2]⟩
theorem tags_bound (f : Nat → Nat) : ∀ n, ∃ N, 0 < N ∧ ∀ b, b < n → f b < N
  | 0 => ⟨1, by omega, fun b h => by omega⟩
  | n + 1 => by
    obtain ⟨N, h0, h⟩ := tags_bound f n
    refine ⟨max N (f n + 1), by omega, fun b hb => ?_⟩
    by_cases e : b = n
    · subst e; omega
    · have := h b (by omega); omega
theorem Sig.fresh (s : Sig) : ∃ N, 0 < N ∧ ∀ b, b < s.w.heap.size → s.tag b < N := tags_bound s.tag _
/-- One tag is given up. -/
def Sig.fz (t : Nat) (s : Sig) : Sig := ⟨s.w, fun b => if s.tag b = t then 0 else s.tag b⟩
theorem Sig.fz_mv (t : Nat) (s : Sig) : Mv (One t) s (s.fz t) := ⟨rfl, rfl, rfl, Nat.le_refl _, fun b _ hn => ⟨rfl, if_neg hn⟩⟩
theorem Below.mv {w' : World} {tag' : Nat → Nat} (h : Below s.w.heap.size s.w w') (ht : ∀ b, b < s.w.heap.size → tag' b = s.tag b) : Mv S s ⟨w', tag'⟩ := ⟨h.os, h.tape, h.output, h.size, fun b hb _ => ⟨h.block b hb, ht b hb⟩⟩
theorem Turn.mv {tag' : Nat → Nat} {t : Nat} {w' : World} (h : Turn 0 s.tag tag' t s.w w') : Mv (One t) s ⟨w', tag'⟩ :=
  ⟨h.os, h.tape, h.output, h.size, fun b hb hn => ⟨h.heap b hb (.inr hn), h.tags b hb⟩⟩
theorem Mv.below (h : Mv No s s') : Below s.w.heap.size s.w s'.w := ⟨h.os, h.tape, h.output, h.size, fun b hb => (h.blk b hb id).1⟩
end

/-- A block of one's own. -/
structure Bx (s : Sig) (t b : Nat) (cs : Array Value) (T : TypeId) : Prop where
  heap : s.w.heap[b]? = some (.cells cs T (0, 0))
  htag : s.tag b = t
/-- Cells that lie somewhere. -/
structure Mem (s : Sig) (t b off : Nat) (c : List Value) : Prop where
  htag : 0 < c.length → s.tag b = t
  cell : ∀ j (h : j < c.length), s.w.cell? ⟨b, off + j, none⟩ = some c[j]
section
variable {S : Nat → Prop} {s s' : Sig} {t b off : Nat} {cs : Array Value} {T : TypeId} {c : List Value}
theorem Bx.lt (h : Bx s t b cs T) : b < s.w.heap.size := (Array.getElem?_eq_some_iff.1 h.heap).1
theorem Bx.mv (h : Bx s t b cs T) (m : Mv S s s') (hn : ¬ S t) : Bx s' t b cs T := by
  obtain ⟨g1, g2⟩ := m.blk b h.lt (by rw [h.htag]; exact hn)
  exact ⟨g1.trans h.heap, g2.trans h.htag⟩
theorem Bx.mem (h : Bx s t b cs T) : Mem s t b 0 cs.toList := ⟨fun _ => h.htag, fun j hj => by
  have : j < cs.size := by simpa using hj
  simp [World.cell?, h.heap, this]⟩
theorem Mem.mv (h : Mem s t b off c) (m : Mv S s s') (hn : ¬ S t) : Mem s' t b off c := by
  by_cases h0 : 0 < c.length
  · have hb : b < s.w.heap.size := World.block_lt_of_cell? _ _ (h.cell 0 h0)
    obtain ⟨g1, g2⟩ := m.blk b hb (by rw [h.htag h0]; exact hn)
    refine ⟨fun _ => g2.trans (h.htag h0), fun j hj => ?_⟩
    rw [← h.cell j hj]
    exact World.cell?_of_block (w := s.w) (a := ⟨b, off + j, none⟩) g1
  · exact ⟨fun h => absurd h h0, fun j hj => by omega⟩
theorem Mem.le (h : Mem s 0 b off c) (m : Le s s') : Mem s' 0 b off c := by
  by_cases h0 : 0 < c.length
  · have hb : b < s.w.heap.size := World.block_lt_of_cell? _ _ (h.cell 0 h0)
    obtain ⟨g1, g2⟩ := m.blk b hb (h.htag h0)
    refine ⟨fun _ => g2, fun j hj => ?_⟩
    rw [← h.cell j hj]
    exact World.cell?_of_block (w := s.w) (a := ⟨b, off + j, none⟩) g1
  · exact ⟨fun h => absurd h h0, fun j hj => by omega⟩
end

/-- How data of a type lie in cells. -/
structure Rep (α : Type) where
  sz : Nat
  rd : Sig → List Value → α → Prop
  len : ∀ {s cs x}, rd s cs x → cs.length = sz
  mono : ∀ {s s' cs x}, Le s s' → rd s cs x → rd s' cs x
  one : ∀ {s cs x}, rd s cs x → ∀ u ∈ cs, u.oneCell' = true
def rK (k : IntKind) : Rep Int := ⟨1, fun _ cs x => cs = [.int k x], fun h => by rw [h]; rfl, fun _ h => h, fun h u hu => by rw [h] at hu; rw [List.mem_singleton.1 hu]; rfl⟩
abbrev rI : Rep Int := rK .i64
def rB : Rep Bool := ⟨1, fun _ cs x => cs = [.bool x], fun h => by rw [h]; rfl, fun _ h => h, fun h u hu => by rw [h] at hu; rw [List.mem_singleton.1 hu]; rfl⟩
def rP {α β : Type} (r : Rep α) (q : Rep β) : Rep (α × β) where
  sz := r.sz + q.sz
  rd s cs x := ∃ c d, cs = c ++ d ∧ r.rd s c x.1 ∧ q.rd s d x.2
  len := by rintro s cs x ⟨c, d, rfl, h1, h2⟩; rw [List.length_append, r.len h1, q.len h2]
  mono := by rintro s s' cs x hl ⟨c, d, rfl, h1, h2⟩; exact ⟨c, d, rfl, r.mono hl h1, q.mono hl h2⟩
  one := by
    rintro s cs x ⟨c, d, rfl, h1, h2⟩ u hu
    rcases List.mem_append.1 hu with h | h
    · exact r.one h1 u h
    · exact q.one h2 u h
def rV {α β : Type} (r : Rep α) (f : β → α) : Rep β := ⟨r.sz, fun s cs x => r.rd s cs (f x), fun h => r.len h, fun hl h => r.mono hl h, fun h => r.one h⟩

/-- The cells of a list's elements. -/
def Cells {α : Type} (r : Rep α) (s : Sig) : List Value → List α → Prop
  | cs, [] => cs = []
  | cs, x :: xs => ∃ c d, cs = c ++ d ∧ r.rd s c x ∧ Cells r s d xs
section
variable {α : Type} {r : Rep α} {s s' : Sig}
theorem Cells.mono (hl : Le s s') : ∀ {cs : List Value} {xs : List α}, Cells r s cs xs → Cells r s' cs xs
  | _, [], h => h
  | _, _ :: _, ⟨c, d, e, h1, h2⟩ => ⟨c, d, e, r.mono hl h1, Cells.mono hl h2⟩
theorem Cells.len : ∀ {cs : List Value} {xs : List α}, Cells r s cs xs → cs.length = xs.length * r.sz
  | _, [], h => by rw [h]; simp
  | _, _ :: xs, ⟨c, d, e, h1, h2⟩ => by rw [e, List.length_append, r.len h1, Cells.len h2, List.length_cons, Nat.succ_mul]; omega
theorem Cells.one : ∀ {cs : List Value} {xs : List α}, Cells r s cs xs → ∀ u ∈ cs, u.oneCell' = true
  | _, [], h, u, hu => by rw [h] at hu; cases hu
  | _, _ :: xs, ⟨c, d, e, h1, h2⟩, u, hu => by
    rw [e] at hu
    rcases List.mem_append.1 hu with h | h
    · exact r.one h1 u h
    · exact Cells.one h2 u h
theorem Cells.append : ∀ {cs ds : List Value} {xs ys : List α}, Cells r s cs xs → Cells r s ds ys → Cells r s (cs ++ ds) (xs ++ ys)
  | _, _, [], _, h, h2 => by rw [h]; exact h2
  | _, _, _ :: _, _, ⟨c, d, e, h1, h2⟩, h3 => ⟨c, d ++ _, by rw [e, List.append_assoc], h1, Cells.append h2 h3⟩
theorem Cells.split : ∀ {cs : List Value} {xs ys : List α}, Cells r s cs (xs ++ ys) → Cells r s (cs.take (xs.length * r.sz)) xs ∧ Cells r s (cs.drop (xs.length * r.sz)) ys
  | cs, [], ys, h => by simpa [Cells] using h
  | _, x :: xs, ys, ⟨c, d, e, h1, h2⟩ => by
    obtain ⟨g1, g2⟩ := Cells.split h2
    subst e
    have hl := r.len h1
    have e1 : (x :: xs).length * r.sz = c.length + xs.length * r.sz := by rw [List.length_cons, Nat.succ_mul, hl]; omega
    rw [e1]
    refine ⟨⟨c, d.take (xs.length * r.sz), ?_, h1, g1⟩, ?_⟩
    · rw [List.take_append, List.take_of_length_le (by omega), show c.length + xs.length * r.sz - c.length = xs.length * r.sz by omega]
    · rw [List.drop_append, List.drop_of_length_le (by omega), show c.length + xs.length * r.sz - c.length = xs.length * r.sz by omega, List.nil_append]
      exact g2
theorem Cells.at {cs : List Value} {xs : List α} (h : Cells r s cs xs) (i : Nat) (hi : i < xs.length) : r.rd s ((cs.drop (i * r.sz)).take r.sz) xs[i] := by
  have e : xs = xs.take i ++ xs.drop i := (List.take_append_drop i xs).symm
  rw [e] at h
  obtain ⟨_, h2⟩ := h.split
  rw [List.length_take, Nat.min_eq_left (by omega), List.drop_eq_getElem_cons hi] at h2
  obtain ⟨c, d, e2, h3, _⟩ := h2
  rw [e2, List.take_append, List.take_of_length_le (by rw [r.len h3]; omega), r.len h3, Nat.sub_self, List.take_zero, List.append_nil]
  exact h3
theorem Cells.set : ∀ {cs : List Value} {xs : List α} (_ : Cells r s cs xs) (i : Nat) {c : List Value} {x : α} (_ : r.rd s c x) (_ : i < xs.length), Cells r s (cs.take (i * r.sz) ++ c ++ cs.drop (i * r.sz + c.length)) (xs.set i x)
  | _, [], _, i, _, _, _, hi => by simp at hi
  | _, y :: ys, ⟨c0, d, e, h1, h2⟩, 0, c, x, hx, _ => by
    subst e
    refine ⟨c, d, ?_, hx, h2⟩
    have := r.len h1
    have := r.len hx
    rw [Nat.zero_mul, List.take_zero, List.nil_append, Nat.zero_add, List.drop_append, List.drop_of_length_le (by omega), List.nil_append, show c.length - c0.length = 0 by omega, List.drop_zero]
  | _, y :: ys, ⟨c0, d, e, h1, h2⟩, i + 1, c, x, hx, hi => by
    subst e
    have hl := r.len h1
    have := Cells.set h2 i hx (by simpa using hi)
    refine ⟨c0, _, ?_, h1, this⟩
    rw [Nat.succ_mul, List.take_append, List.take_of_length_le (by omega), List.drop_append, List.drop_of_length_le (by omega), List.nil_append,
      show i * r.sz + r.sz - c0.length = i * r.sz by omega, show i * r.sz + r.sz + c.length - c0.length = i * r.sz + c.length by omega]
    simp only [List.append_assoc]

/-- A slice that reads as a list, in memory that nobody writes. -/
def RdL (r : Rep α) (s : Sig) (a : Option Addr) (cap : Nat) (xs : List α) : Prop :=
  ∃ cs, RdS s.w r.sz a xs.length cap cs ∧ (∀ ad, a = some ad → 0 < cs.length → s.tag ad.block = 0) ∧ Cells r s cs xs
variable {a : Option Addr} {cap : Nat} {xs ys : List α}
theorem RdL.mono (h : RdL r s a cap xs) (hl : Le s s') : RdL r s' a cap xs := by
  obtain ⟨cs, h1, h2, h3⟩ := h
  refine ⟨cs, ⟨h1.hlen, h1.hcap, h1.hmax, h1.hnil, h1.spot, fun ad e j hj => ?_⟩, fun ad e hj => ?_, h3.mono hl⟩
  · have hc := h1.cell ad e j hj
    rw [← hc]
    exact World.cell?_of_block (w := s.w) (a := ⟨ad.block, ad.off + j, none⟩) (hl.blk _ (World.block_lt_of_cell? _ _ hc) (h2 ad e (by omega))).1
  · exact (hl.blk _ (World.block_lt_of_cell? _ _ (h1.cell ad e 0 hj)) (h2 ad e hj)).2
theorem RdL.nil : RdL r s none 0 [] := ⟨[], ⟨by simp, Nat.le_refl _, by simp [maxLen], fun _ => rfl, fun _ e => (by cases e), fun _ e => (by cases e)⟩, fun _ e => (by cases e), rfl⟩
theorem RdL.le (h : RdL r s a cap xs) : xs.length ≤ maxLen := by
  obtain ⟨cs, h1, _⟩ := h
  exact Nat.le_trans h1.hcap h1.hmax
theorem RdL.at (h : RdL r s a cap xs) (i : Nat) (hi : i < xs.length) : ∃ b off c, a = some ⟨b, off, none⟩ ∧ Mem s 0 b (off + i * r.sz) c ∧ r.rd s c xs[i] := by
  obtain ⟨cs, h1, h2, h3⟩ := h
  obtain ⟨b, off, rfl, hc⟩ := h1.at_elem i hi
  have hx := h3.at i hi
  have hl := h1.hlen
  have hm := Nat.mul_le_mul_right r.sz (show i + 1 ≤ xs.length from hi)
  rw [Nat.succ_mul] at hm
  refine ⟨b, off, _, rfl, ⟨fun h0 => ?_, fun j hj => ?_⟩, hx⟩
  · exact h2 _ rfl (by rw [List.length_take, List.length_drop] at h0; omega)
  · have hj' : j < r.sz := by rw [r.len hx] at hj; exact hj
    rw [Nat.add_assoc, hc (i * r.sz + j) (by omega)]
    simp
end
def rL {α : Type} (r : Rep α) : Rep (List α) where
  sz := 1
  rd s cs xs := ∃ a cap, cs = [.slice a xs.length cap] ∧ RdL r s a cap xs
  len := by rintro s cs x ⟨a, cap, rfl, _⟩; rfl
  mono := by rintro s s' cs x hl ⟨a, cap, rfl, h⟩; exact ⟨a, cap, rfl, h.mono hl⟩
  one := by rintro s cs x ⟨a, cap, rfl, _⟩ u hu; rw [List.mem_singleton.1 hu]; rfl

/-- A slice of one's own that reads as a list. -/
def RowT {α : Type} (r : Rep α) (s : Sig) (t : Nat) (T : TypeId) (a : Option Addr) (cap : Nat) (xs : List α) : Prop :=
  ∃ cs, Row s.w 0 s.tag t T r.sz (.slice a xs.length cap) xs.length cs ∧ Cells r s cs xs
section
variable {α : Type} {r : Rep α} {s s' : Sig} {t : Nat} {T : TypeId} {a : Option Addr} {cap : Nat} {xs ys : List α} {S : Nat → Prop}
theorem Own.mv' {w' : World} {tag' : Nat → Nat} {b : Nat} {cs : Array Value} (h : Own s.w 0 s.tag t b cs T) (m : Mv S s ⟨w', tag'⟩) (hn : ¬ S t) : Own w' 0 tag' t b cs T := by
  obtain ⟨g1, g2⟩ := m.blk b h.lt (by rw [h.htag]; exact hn)
  exact ⟨g1.trans h.heap, g2.trans h.htag, h.base⟩
theorem RowT.mv (h : RowT r s t T a cap xs) (m : Mv S s s') (hn : ¬ S t) (h0 : ¬ S 0) : RowT r s' t T a cap xs := by
  obtain ⟨cs, h1, h2⟩ := h
  exact ⟨cs, ⟨h1.1, h1.2.imp id fun ⟨b, off, cap, cur, g1, g2, g3⟩ => ⟨b, off, cap, cur, g1, Own.mv' g2 m hn, g3⟩⟩, h2.mono (m.le h0)⟩
theorem RowT.nil : RowT r s t T none 0 [] := ⟨[], Row.nil _ _ _ _ _ _, rfl⟩
/-- The row is given up: it is data from now on. -/
theorem RowT.rd (h : RowT r s t T a cap xs) (hl : Le s s') (hw : s'.w = s.w) (ht : ∀ b, s.tag b = t → s'.tag b = 0) : RdL r s' a cap xs := by
  obtain ⟨cs, h1, h2⟩ := h
  obtain ⟨a', cap', e, h3⟩ := h1.rd
  cases e
  refine ⟨cs, by rw [hw]; exact h3, fun ad e h0 => ?_, h2.mono hl⟩
  subst e
  have hx : 0 < xs.length := by
    rcases Nat.eq_zero_or_pos xs.length with h | h
    · have := h1.1; rw [h] at this; omega
    · exact h
  obtain ⟨b, off, cap', e, _, _, g⟩ := h1.addr hx
  cases e
  exact ht _ g
theorem RowT.drop {N : Nat} (h : RowT r s t T a cap xs) (hN : N ≤ t) : RdL r (s.drop N) a cap xs := h.rd (Sig.drop_le N s) rfl fun b e => by simp [Sig.drop, e, hN]
theorem RowT.fz (h : RowT r s t T a cap xs) (h0 : t ≠ 0) : RdL r (s.fz t) a cap xs :=
  h.rd ((Sig.fz_mv t s).le (Ne.symm h0)) rfl fun b e => by simp [Sig.fz, e]
/-- A block that was laid whole is a list. -/
theorem Bx.rdL {b : Nat} {cs : Array Value} (h : Bx s 0 b cs T) (hc : Cells r s cs.toList xs) (hm : xs.length ≤ maxLen) : RdL r s (some ⟨b, 0, none⟩) xs.length xs :=
  ⟨cs.toList, ⟨hc.len, Nat.le_refl _, hm, fun e => (by cases e), fun _ e => (by cases e; rfl), fun _ e j hj => by cases e; exact h.mem.cell j hj⟩, fun _ e _ => by cases e; exact h.htag, hc⟩
/-- A block that was laid whole is a row. -/
theorem Bx.row {b : Nat} {cs : Array Value} (h : Bx s t b cs T) (hc : Cells r s cs.toList xs) (hm : xs.length ≤ maxLen) : RowT r s t T (some ⟨b, 0, none⟩) xs.length xs := by
  have hl := hc.len
  refine ⟨cs.toList, ⟨hl, .inr ⟨b, 0, xs.length, cs, rfl, ⟨h.heap, h.htag, Nat.zero_le _⟩, Nat.le_refl _, hm, ?_, ?_⟩⟩, hc⟩
  · rw [Array.length_toList] at hl; omega
  · rw [List.drop_zero, ← hl, List.take_length]
end
end Go.Proofs.Ytkkemchihllklaa
