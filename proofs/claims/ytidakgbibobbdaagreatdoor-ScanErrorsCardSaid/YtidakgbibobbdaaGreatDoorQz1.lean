/- Parts of the proof, without what nothing here names. -/
import Derived.WalkKit
import Derived.Lib.Hide
import Derived.RangeFuncWrites
import Derived.CallsIn
import Derived.TacticsIn
import Derived.Laws.CopyRow
import Derived.Laws.Tables
import Derived.Great.BuildSlice
import Derived.Laws.Small
import Derived.MapKept
import Derived.Laws.OwnMore
import Derived.Laws.Slices
import Derived.Orders
import Derived.RegionTactic
import Derived.OrdersIn
import Derived.Laws.StructEq
import Derived.Lib.AppendZeros
import Derived.WalkSpells
import Derived.Deep.Slices
import Derived.ChangeSame
import Derived.ProofKit
import Derived.Test.YtidakgbibobbdaaGreatDoorRows
import Derived.Test.YtidakgbibobbdaaGreatDoorTie
import Derived.Test.YtidakgbibobbdaaGreatDoorCards
import Derived.Test.YtidakgbibobbdaaGreatDoorProg
import Derived.Lay
import Derived.LaidMore
import Derived.LaidHandle
import Derived.SevenTiedAt
import Derived.Stop.Joined
import Derived.ChangeKeysEq
import Derived.WideKeyRuns
import Derived.Test.YtidakgbibobbdaaGreatDoorChecked
import Derived.RangeFuncBound
import Derived.RangeFuncCalls
import Derived.RangeFuncLeaves
import Derived.RangeFuncNested
import Derived.Shelf.Abstract
import Derived.Shelf.Strings.Builder1
import Derived.Shelf.Strings.BuilderF
import Derived.Shelf.Strings.BuilderK
import Derived.Shelf.Strconv.Itoa0
import Derived.Shelf.Strconv.Itoa1
import Derived.Shelf.LaysM
import Derived.Shelf.Strconv.Itoa2
import Derived.Shelf.Strconv.Itoa3
import Derived.Shelf.Sort.Plain
import Derived.Shelf.Slices.In.SortNone
import Derived.Shelf.SlSortCmp.NoneTotal
import Derived.Ground.SlsfProg
set_option maxRecDepth 100000
namespace Go.Proofs.YtidakgbibobbdaaGreatDoor
open Go.RowKit

structure RdS (w : World) (sz : Nat) (a : Option Addr) (len cap : Nat) (cs : List Value) : Prop where
 hlen : cs.length = len * sz
 hcap : len ≤ cap
 hmax : cap ≤ maxLen
 hnil : a = none → cap = 0
 spot : ∀ ad, a = some ad → ad.spot = none
 cell : ∀ ad, a = some ad → ∀ j (h : j < cs.length), w.cell? ⟨ad.block, ad.off + j, none⟩ = some cs[j]

theorem keep {B : Nat} {w w' : World} (hb : Below B w w') {a : Addr} {v : Value} (h : w.cell? a = some v) (ha : a.block < B) : w'.cell? a = some v := (hb.cell ha).trans h
theorem keep0 {w w' : World} (hb : Below w.heap.size w w') {a : Addr} {v : Value} (h : w.cell? a = some v) : w'.cell? a = some v := keep hb h (World.block_lt_of_cell? w a h)

theorem RdS.at_elem {w : World} {sz : Nat} {a : Option Addr} {len cap : Nat} {cs : List Value} (h : RdS w sz a len cap cs) (k : Nat) (hk : k < len) :
  ∃ b off, a = some ⟨b, off, none⟩ ∧ ∀ j, (hj : j < cs.length) → w.cell? ⟨b, off + j, none⟩ = some cs[j] := by
 cases a with
 | none => have := h.hnil rfl; have := h.hcap; omega
 | some ad =>
  obtain ⟨b, off, sp⟩ := ad
  obtain h1 := h.spot _ rfl
  subst h1
  exact ⟨b, off, rfl, fun j hj => h.cell _ rfl j hj⟩

abbrev ints (xs : List Int) : List Value := xs.map (Value.int .i64)

def RdI (w : World) (v : Value) (xs : List Int) : Prop := ∃ a cap, v = .slice a xs.length cap ∧ RdS w 1 a xs.length cap (ints xs)

theorem RdS.at_int {w : World} {a : Option Addr} {cap : Nat} {xs : List Int} (h : RdS w 1 a xs.length cap (ints xs)) (k : Nat) (hk : k < xs.length) :
  ∃ b off, a = some ⟨b, off, none⟩ ∧ w.cell? ⟨b, off + k, none⟩ = some (.int .i64 xs[k]) := by
 obtain ⟨b, off, e, hc⟩ := h.at_elem k hk
 exact ⟨b, off, e, by have h' := hc k (by simpa using hk); rwa [List.getElem_map] at h'⟩

structure Ed where
 f : Int
 e : Int
 t : Int
 deriving DecidableEq
theorem flat_at {α : Type} (f : α → List Value) (sz : Nat) (hf : ∀ x, (f x).length = sz) : ∀ (l : List α) (k j : Nat) (hk : k < l.length) (_hj : j < sz), (l.flatMap f)[k * sz + j]? = (f l[k])[j]?
 | [], _, _, hk, _ => absurd hk (by simp)
 | x :: l, 0, j, _, hj => by
  rw [List.flatMap_cons, List.getElem?_append_left (by rw [hf]; omega)]; simp
 | x :: l, k + 1, j, hk, hj => by
  rw [List.flatMap_cons, List.getElem?_append_right (by rw [hf, Nat.succ_mul]; omega), hf]
  rw [show (k + 1) * sz + j - sz = k * sz + j by rw [Nat.succ_mul]; omega]
  rw [flat_at f sz hf l k j (by simpa using hk) hj]; simp
theorem flat_length {α : Type} (f : α → List Value) (sz : Nat) (hf : ∀ x, (f x).length = sz) : ∀ (l : List α), (l.flatMap f).length = l.length * sz
 | [] => by simp
 | x :: l => by rw [List.flatMap_cons, List.length_append, hf, flat_length f sz hf l, List.length_cons, Nat.succ_mul]; omega

def hasB (xs : List Int) (n : Int) : Bool := xs.contains n
theorem hasB_true {xs : List Int} {n : Int} : hasB xs n = true ↔ n ∈ xs := by simp [hasB]
theorem hasB_false {xs : List Int} {n : Int} : hasB xs n = false ↔ n ∉ xs := by simp [hasB]

def setErr (n : Int) : Option Int → List Int → Int
 | _, [] => 0
 | p, x :: xs => if x < 0 ∨ n ≤ x then 2 else if (∃ q, p = some q ∧ x ≤ q) then 5 else setErr n (some x) xs
def prevAt (xs : List Int) (k : Nat) : Option Int := if k = 0 then none else xs[k - 1]?
theorem setErr_drop {n : Int} {xs : List Int} {k : Nat} (hk : k < xs.length) : setErr n (prevAt xs k) (xs.drop k) = if xs[k] < 0 ∨ n ≤ xs[k] then 2 else if (∃ q, prevAt xs k = some q ∧ xs[k] ≤ q) then 5 else setErr n (prevAt xs (k + 1)) (xs.drop (k + 1)) := by
 rw [List.drop_eq_getElem_cons hk, setErr]
 congr 2
 simp [prevAt, List.getElem?_eq_getElem hk]
theorem setErr_2 {n : Int} {xs : List Int} {k : Nat} (hk : k < xs.length) (h : xs[k] < 0 ∨ n ≤ xs[k]) : setErr n (prevAt xs k) (xs.drop k) = 2 := by rw [setErr_drop hk, if_pos h]
theorem setErr_5 {n : Int} {xs : List Int} {k : Nat} (hk : k < xs.length) (h : ¬ (xs[k] < 0 ∨ n ≤ xs[k])) (h0 : 0 < k) (h1 : xs[k] ≤ xs[k - 1]) : setErr n (prevAt xs k) (xs.drop k) = 5 := by
 rw [setErr_drop hk, if_neg h, if_pos]
 exact ⟨xs[k - 1], by rw [prevAt, if_neg (by omega), List.getElem?_eq_getElem (by omega)], h1⟩
theorem setErr_next {n : Int} {xs : List Int} {k : Nat} (hk : k < xs.length) (h : ¬ (xs[k] < 0 ∨ n ≤ xs[k])) (h1 : 0 < k → xs[k - 1] < xs[k]) : setErr n (prevAt xs k) (xs.drop k) = setErr n (prevAt xs (k + 1)) (xs.drop (k + 1)) := by
 rw [setErr_drop hk, if_neg h, if_neg]
 rintro ⟨q, hq, hle⟩
 unfold prevAt at hq
 split at hq
 ·cases hq
 ·rw [List.getElem?_eq_getElem (by omega)] at hq
  have := h1 (by omega)
  have := Option.some.inj hq
  omega
end Go.Proofs.YtidakgbibobbdaaGreatDoor

namespace Go.Proofs.YtidakgbibobbdaaGreatDoor
open Go.RowKit

structure Own (w : World) (B : Nat) (tag : Nat → Nat) (k : Nat) (b : Nat) (cs : Array Value) (t : TypeId) : Prop where
 heap : w.heap[b]? = some (.cells cs t (0, 0))
 htag : tag b = k
 base : B ≤ b

structure Turn (B : Nat) (tag tag' : Nat → Nat) (k : Nat) (w w' : World) : Prop where
 os : w'.os = w.os
 tape : w'.tape = w.tape
 output : w'.output = w.output
 size : w.heap.size ≤ w'.heap.size
 tags : ∀ b, b < w.heap.size → tag' b = tag b
 heap : ∀ b, b < w.heap.size → (b < B ∨ tag b ≠ k) → w'.heap[b]? = w.heap[b]?
 keep : ∀ (b : Nat) (o : Obj), w.heap[b]? = some o → o.isCells = false → w'.heap[b]? = some o

section
variable {w w' : World} {B : Nat} {tag tag' : Nat → Nat} {k k' : Nat} {b : Nat} {cs : Array Value} {t : TypeId}
theorem Own.lt (h : Own w B tag k b cs t) : b < w.heap.size := (Array.getElem?_eq_some_iff.1 h.heap).1
theorem Own.below (h : Own w B tag k b cs t) (hb : Below w.heap.size w w') : Own w' B tag k b cs t :=
 ⟨(hb.block b h.lt).trans h.heap, h.htag, h.base⟩
theorem Own.cell (h : Own w B tag k b cs t) (j : Nat) : w.cell? ⟨b, j, none⟩ = cs[j]? := by simp [World.cell?, h.heap]
theorem Own.frozen (h : Own w B tag k b cs t) (j : Nat) : w.frozen? ⟨b, j, none⟩ = false := by simp [World.frozen?, h.heap]
theorem Own.set (h : Own w B tag k b cs t) (j : Nat) (u : Value) : Own (w.setCell ⟨b, j, none⟩ u) B tag k b (cs.setIfInBounds j u) t :=
 ⟨by simp [World.setCell, Array.getElem?_modify, h.heap], h.htag, h.base⟩
theorem Turn.setCell (h : Own w B tag k b cs t) (j : Nat) (u : Value) : Turn B tag tag k w (w.setCell ⟨b, j, none⟩ u) := by
 refine ⟨rfl, rfl, rfl, by simp [World.setCell], fun _ _ => rfl, fun b' _ hne => ?_, fun b' o ho hc => ?_⟩
 ·refine Below.heap_setCell _ _ _ _ ?_
  rintro rfl
  rcases hne with h1 | h1
  ·exact absurd h.base (Nat.not_le.2 h1)
  ·exact h1 h.htag
 ·rw [Below.heap_setCell _ _ _ _ ?_, ho]
  rintro rfl
  rw [h.heap] at ho
  cases ho
  cases hc
theorem Turn.refl (B : Nat) (tag : Nat → Nat) (k : Nat) (w : World) : Turn B tag tag k w w := ⟨rfl, rfl, rfl, Nat.le_refl _, fun _ _ => rfl, fun _ _ _ => rfl, fun _ _ h _ => h⟩
theorem Turn.below (hb : Below w.heap.size w w') : Turn B tag tag k w w' := ⟨hb.os, hb.tape, hb.output, hb.size, fun _ _ => rfl, fun b h _ => hb.block b h, fun b _o ho _ => (hb.block b (Array.getElem?_eq_some_iff.1 ho).1).trans ho⟩
theorem Turn.trans {w'' : World} {tag'' : Nat → Nat} (h : Turn B tag tag' k w w') (h2 : Turn B tag' tag'' k w' w'') : Turn B tag tag'' k w w'' :=
 ⟨h2.os.trans h.os, h2.tape.trans h.tape, h2.output.trans h.output, Nat.le_trans h.size h2.size, fun b hb => (h2.tags b (Nat.lt_of_lt_of_le hb h.size)).trans (h.tags b hb),
  fun b hb hne => (h2.heap b (Nat.lt_of_lt_of_le hb h.size) (hne.imp id (fun e => by rw [h.tags b hb]; exact e))).trans (h.heap b hb hne), fun b o ho hc => h2.keep b o (h.keep b o ho hc) hc⟩
end

theorem bel_drew (w : World) : Below w.heap.size w w.drew := (Below.refl _ _).drew

def Row (w : World) (B : Nat) (tag : Nat → Nat) (k : Nat) (t : TypeId) (sz : Nat) (v : Value) (n : Nat) (cs : List Value) : Prop :=
 cs.length = n * sz ∧ ((v = .slice none 0 0 ∧ n = 0) ∨
  ∃ b off cap cur, v = .slice (some ⟨b, off, none⟩) n cap ∧ Own w B tag k b cur t ∧ n ≤ cap ∧ cap ≤ maxLen ∧ off + cap * sz ≤ cur.size ∧ (cur.toList.drop off).take (n * sz) = cs)

section
variable {w w' : World} {B : Nat} {tag tag' : Nat → Nat} {k k' : Nat} {t : TypeId} {sz : Nat} {v : Value} {n : Nat} {cs : List Value}
theorem Row.nil (w : World) (B : Nat) (tag : Nat → Nat) (k : Nat) (t : TypeId) (sz : Nat) : Row w B tag k t sz (.slice none 0 0) 0 [] := ⟨by simp, .inl ⟨rfl, rfl⟩⟩
theorem Row.below (h : Row w B tag k t sz v n cs) (hb : Below w.heap.size w w') : Row w' B tag k t sz v n cs :=
 ⟨h.1, h.2.imp id fun ⟨b, off, cap, cur, h1, h2, h3⟩ => ⟨b, off, cap, cur, h1, h2.below hb, h3⟩⟩
theorem Row.cellAt {b off cap : Nat} (h : Row w B tag k t sz (.slice (some ⟨b, off, none⟩) n cap) n cs) (j : Nat) (hj : j < n * sz) : w.cell? ⟨b, off + j, none⟩ = cs[j]? := by
 rcases h.2 with ⟨h', _⟩ | ⟨b', off', cap', cur, h', ho, h1, h2, h3, h4⟩
 ·simp at h'
 ·simp only [Value.slice.injEq, Option.some.injEq, Addr.mk.injEq, and_true, true_and] at h'
  obtain ⟨⟨rfl, rfl⟩, rfl⟩ := h'
  rw [ho.cell, ← h4, List.getElem?_take, if_pos hj, List.getElem?_drop]
  simp
theorem Row.frozenAt {b off cap : Nat} (h : Row w B tag k t sz (.slice (some ⟨b, off, none⟩) n cap) n cs) (j : Nat) : w.frozen? ⟨b, j, none⟩ = false := by
 rcases h.2 with ⟨h', _⟩ | ⟨b', off', cap', cur, h', ho, _⟩
 ·simp at h'
 ·simp only [Value.slice.injEq, Option.some.injEq, Addr.mk.injEq, and_true, true_and] at h'
  obtain ⟨⟨rfl, rfl⟩, rfl⟩ := h'
  exact ho.frozen j
theorem Row.val (h : Row w B tag k t sz v n cs) : ∃ a cap, v = .slice a n cap := by
 rcases h.2 with ⟨h', h0⟩ | ⟨b', off', cap', cur, h', _⟩
 ·subst h0; exact ⟨_, _, h'⟩
 ·exact ⟨_, _, h'⟩
theorem Row.addr (h : Row w B tag k t sz v n cs) (hn : 0 < n) : ∃ b off cap, v = .slice (some ⟨b, off, none⟩) n cap ∧ b < w.heap.size ∧ B ≤ b ∧ tag b = k := by
 rcases h.2 with ⟨_, h0⟩ | ⟨b', off', cap', cur, h', ho, _⟩
 ·omega
 ·exact ⟨_, _, _, h', ho.lt, ho.base, ho.htag⟩
theorem Row.rd (h : Row w B tag k t sz v n cs) : ∃ a cap, v = .slice a n cap ∧ RdS w sz a n cap cs := by
 have h0 := h
 rcases h.2 with ⟨rfl, rfl⟩ | ⟨b, off, cap, cur, rfl, ho, h1, h2, h3, h4⟩
 ·exact ⟨none, 0, rfl, ⟨h.1, Nat.le_refl _, by simp [maxLen], fun _ => rfl, fun _ e => (by cases e), fun _ e => (by cases e)⟩⟩
 ·refine ⟨_, cap, rfl, ⟨h.1, h1, h2, fun e => (by cases e), fun _ e => (by cases e; rfl), fun _ e j hj => ?_⟩⟩
  cases e
  rw [h0.cellAt j (by have := h.1; omega), List.getElem?_eq_getElem hj]
theorem Row.set {b off cap : Nat} (h : Row w B tag k t sz (.slice (some ⟨b, off, none⟩) n cap) n cs) (j : Nat) (u : Value) :
  Row (w.setCell ⟨b, off + j, none⟩ u) B tag k t sz (.slice (some ⟨b, off, none⟩) n cap) n (cs.set j u) ∧ Turn B tag tag k w (w.setCell ⟨b, off + j, none⟩ u) := by
 rcases h.2 with ⟨h', _⟩ | ⟨b', off', cap', cur, h', ho, h1, h2, h3, h4⟩
 ·simp at h'
 ·simp only [Value.slice.injEq, Option.some.injEq, Addr.mk.injEq, and_true, true_and] at h'
  obtain ⟨⟨rfl, rfl⟩, rfl⟩ := h'
  refine ⟨⟨by simpa using h.1, .inr ⟨b, off, cap, cur.setIfInBounds (off + j) u, rfl, ho.set _ _, h1, h2, by simpa using h3, ?_⟩⟩, Turn.setCell ho _ _⟩
  rw [← h4]
  apply List.ext_getElem?
  intro i
  simp only [Array.toList_setIfInBounds, List.getElem?_take, List.getElem?_drop, List.getElem?_set, List.length_take, List.length_drop]
  by_cases hi : i < n * sz
  ·rw [if_pos hi, if_pos hi]
   by_cases he : j = i
   ·subst he
    rw [if_pos rfl, if_pos rfl]
    have hl : off + j < cur.toList.length := by
     rw [Array.length_toList]
     have := Nat.mul_le_mul_right sz h1; omega
    rw [if_pos hl, if_pos (by omega)]
   ·rw [if_neg (by omega), if_neg he]
  ·rw [if_neg hi, if_neg hi]
   by_cases he : j = i
   ·subst he; rw [if_pos rfl, if_neg (by omega)]
   ·rw [if_neg he]

def tagUp (tag : Nat → Nat) (s k : Nat) : Nat → Nat := fun b => if b = s then k else tag b
theorem tagUp_lt {tag : Nat → Nat} {s k b : Nat} (h : b < s) : tagUp tag s k b = tag b := if_neg (by omega)
theorem tagUp_at (tag : Nat → Nat) (s k : Nat) : tagUp tag s k s = k := if_pos rfl

theorem run_append_row {P : Program} (ty tt e : TypeId) (i : TypeInfo) (z : Value) (bytes : Nat) (ht : P.underlying tt = some (.slice e)) (hi : P.info? e = some i) (hz : i.zero = some z)
  (hsize : i.size = sz) (hby : i.bytes = bytes) (hzs : z.cells.size = sz)
  (hrow : Row w B tag k e sz v n cs) (ao : Option Addr) (m c : Nat) (news : List Value) (hl : news.length = m * sz) (hnone : ao = none → m = 0 ∧ c = 0)
  (hnews : ∀ ad, ao = some ad → ∀ j u, news[j]? = some u → w.cell? (ad.add j) = some u) (h1 : ∀ u ∈ news, u.oneCell' = true)
  (h63 : n + m ≤ maxLen) (hbytes : (n + m) * bytes ≤ 140737488355328) (hB : B ≤ w.heap.size) :
  ∃ v' w' tag', (Builtin.append_ #[tt, tt] ty #[v, .slice ao m c]).run P w = .ok v' w' ∧ Row w' B tag' k e sz v' (n + m) (cs ++ news) ∧ Turn B tag tag' k w w' := by
 subst hsize
 subst hby
 have hlen : (cs ++ news).length = (n + m) * i.size := by rw [List.length_append, hrow.1, hl, Nat.add_mul]
 have hsmall : n + m ≤ 9223372036854775807 := by simp only [maxLen] at h63; omega
 cases ao with
 | none =>
  obtain ⟨rfl, rfl⟩ := hnone rfl
  have hn : news = [] := List.eq_nil_of_length_eq_zero (by simpa using hl)
  subst hn
  refine ⟨v, w, tag, ?_, by simpa using hrow, Turn.refl _ _ _ _⟩
  rcases hrow.2 with ⟨rfl, rfl⟩ | ⟨b, off, cap, cur, rfl, ho, g1, g2, g3, g4⟩
  ·simp [Builtin.append_, run_underlying ht, sizeOf, typeInfo, hi, Builtin.lenOf, Builtin.firstCells]
  ·simp [Builtin.append_, run_underlying ht, sizeOf, typeInfo, hi, Builtin.lenOf, Builtin.firstCells, g1, storeCells]
 | some a =>
  replace hnews := hnews a rfl
  have grown : ∀ (old : Nat), old < n + m →
    Row (w.drew.alloc (.cells (cs.toArray ++ news.toArray ++ Builtin.zeroCells z.cells (grownCap w (n + m) old e - (n + m))) e)) B (tagUp tag w.heap.size k) k e i.size
     (.slice (some ⟨w.heap.size, 0, none⟩) (n + m) (grownCap w (n + m) old e)) (n + m) (cs ++ news) ∧
    Turn B tag (tagUp tag w.heap.size k) k w (w.drew.alloc (.cells (cs.toArray ++ news.toArray ++ Builtin.zeroCells z.cells (grownCap w (n + m) old e - (n + m))) e)) := by
   intro old ho
   have hge := grownCap_ge w (n + m) old e
   have hcm : grownCap w (n + m) old e ≤ maxLen := grownCap_le_maxLen w (n + m) old e h63
   refine ⟨⟨hlen, .inr ⟨w.heap.size, 0, _, _, rfl, ⟨heap_alloc_new w.drew _, tagUp_at _ _ _, hB⟩, hge, hcm, ?_, ?_⟩⟩, ⟨rfl, rfl, rfl, by simp, fun b hb => tagUp_lt hb, fun b hb _ => heap_alloc_old w.drew _ hb, fun b o ho _ => (heap_alloc_old w.drew _ (Array.getElem?_eq_some_iff.1 ho).1).trans ho⟩⟩
   ·simp only [Array.size_append, List.size_toArray, size_zeroCells, hzs, hrow.1, hl, ← Nat.add_mul]
    rw [Nat.zero_add]
    apply Nat.le_of_eq
    congr 1
    omega
   ·simp only [Array.toList_append, List.append_assoc, List.drop_zero]
    rw [← List.append_assoc, ← hlen]
    exact List.take_left
  rcases hrow.2 with ⟨rfl, rfl⟩ | ⟨b, off, cap, cur, rfl, ho, g1, g2, g3, g4⟩
  ·have hx : cs = [] := List.eq_nil_of_length_eq_zero (by simpa using hrow.1)
   subst hx
   by_cases hm : m = 0
   ·subst hm
    have hn : news = [] := List.eq_nil_of_length_eq_zero (by simpa using hl)
    subst hn
    refine ⟨.slice none 0 0, w, tag, ?_, Row.nil _ _ _ _ _ _, Turn.refl _ _ _ _⟩
    simp [Builtin.append_, run_underlying ht, sizeOf, typeInfo, hi, Builtin.lenOf, Builtin.firstCells, loadCells, loadCellsFrom]
   ·have hr := run_append_nil (P := P) w tt ty e i z ht hi hz a m c news hl hnews (by omega) (by omega) (by have hb := hbytes; simp only [Nat.zero_add] at hb; omega)
    have hgr := grown 0 (by omega)
    simp only [Nat.zero_add, List.nil_append, Array.empty_append] at hgr ⊢
    exact ⟨_, _, _, hr, hgr.1, hgr.2⟩
  ·by_cases hroom : n + m ≤ cap
   ·have hfit : off + n * i.size + 0 + news.length ≤ cur.size := by
     rw [hl]
     have := Nat.mul_le_mul_right i.size hroom
     rw [Nat.add_mul] at this; omega
    have hst := run_storeCells_at P b (off + n * i.size) e news 0 cur w ho.heap hfit h1
    have hf := run_firstCells_some (P := P) w i.size m a m c news hl hnews
    simp only [Nat.add_zero] at hst hfit
    refine ⟨.slice (some ⟨b, off, none⟩) (n + m) cap, w.setRow b (cur.toList.take (off + n * i.size) ++ news ++ cur.toList.drop (off + n * i.size + news.length)).toArray, tag, ?_, ⟨hlen, .inr ⟨b, off, cap, _, rfl, ⟨setRow_heap w b cur _ e _ ho.heap, ho.htag, ho.base⟩, hroom, g2, ?_, ?_⟩⟩, ⟨rfl, rfl, rfl, by simp, fun _ _ => rfl, fun b' _ hne => setRow_other w b b' _ ?_, fun b' o hb' hc => (setRow_other w b b' _ ?_).trans hb'⟩⟩
    ·simp [Builtin.append_, run_underlying ht, sizeOf, typeInfo, hi, Builtin.lenOf, hroom, hf, Addr.add_lit, hst]
    ·simp only [List.size_toArray, List.length_append, List.length_take, List.length_drop, Array.length_toList]
     omega
    ·have hcl : (cur.toList.take (off + n * i.size)).drop off = cs := by
      rw [List.drop_take, show off + n * i.size - off = n * i.size by omega, g4]
     rw [List.append_assoc, List.drop_append_of_le_length (by rw [List.length_take, Array.length_toList]; omega), hcl, ← List.append_assoc, ← hlen]
     exact List.take_left
    ·rintro rfl
     rcases hne with h2 | h2
     ·exact absurd ho.base (Nat.not_le.2 h2)
     ·exact h2 ho.htag
    ·rintro rfl
     rw [ho.heap] at hb'
     cases hb'
     cases hc
   ·have holds : ∀ j u, cs[j]? = some u → w.cell? ((⟨b, off, none⟩ : Addr).add j) = some u := by
     intro j u hu
     have hj := (List.getElem?_eq_some_iff.1 hu).1
     rw [Addr.add_lit, hrow.cellAt j (by have := hrow.1; omega), hu]
    have hr := run_append_grow (P := P) w tt ty e i z ht hi hz ⟨b, off, none⟩ n cap cs hrow.1 holds a m c news hl hnews (by omega) (by omega) (growslice_fits (by omega) hbytes)
    have hgr := grown cap (by omega)
    exact ⟨_, _, _, hr, hgr.1, hgr.2⟩

end
end Go.Proofs.YtidakgbibobbdaaGreatDoor

namespace Go.Proofs.YtidakgbibobbdaaGreatDoor
open Go Go.RowKit

inductive Iter {S O : Type} (f : S → Option (S ⊕ O)) : S → O → Prop
 | next {s s' : S} {o : O} : f s = some (.inl s') → Iter f s' o → Iter f s o
 | out {s : S} {o : O} : f s = some (.inr o) → Iter f s o
def iterF {S O : Type} (f : S → Option (S ⊕ O)) (n : Nat) : S → Option O :=
 Nat.rec (motive := fun _ => S → Option O) (fun _ => none) (fun _ ih s => match f s with
  | none => none
  | some (.inl s') => ih s'
  | some (.inr o) => some o) n
def iter {S O : Type} (f : S → Option (S ⊕ O)) (s : S) : Option O := iterF f 18446744073709551616 s
section
variable {S O : Type} {f : S → Option (S ⊕ O)} {s s' : S} {o : O}
theorem iterF_succ (n : Nat) (s : S) : iterF f (n + 1) s = match f s with
  | none => none
  | some (.inl s') => iterF f n s'
  | some (.inr o) => some o := rfl
theorem iterF_iter : ∀ {n : Nat} {s : S}, iterF f n s = some o → Iter f s o
 | 0, _, h => by cases h
 | n + 1, s, h => by
  rw [iterF_succ] at h
  split at h
  ·cases h
  ·rename_i h1; exact .next h1 (iterF_iter h)
  ·rename_i h1; cases h; exact .out h1
theorem iter_some (h : iter f s = some o) : Iter f s o := iterF_iter h
theorem iterF_steps (st : Nat → S) : ∀ (n m k : Nat), (∀ i, k ≤ i → i < k + n → f (st i) = some (.inl (st (i + 1)))) → iterF f (n + m) (st k) = iterF f m (st (k + n))
 | 0, m, k, _ => by rw [Nat.zero_add]; rfl
 | n + 1, m, k, h => by
  rw [show n + 1 + m = (n + m) + 1 by omega, iterF_succ, h k (Nat.le_refl _) (by omega)]
  dsimp only
  rw [iterF_steps st n m (k + 1) (fun i h1 h2 => h i (by omega) (by omega))]
  congr 2; omega
theorem iter_run (st : Nat → S) (n : Nat) (hn : n < 18446744073709551616) (h : ∀ i, i < n → f (st i) = some (.inl (st (i + 1)))) (ho : f (st n) = some (.inr o)) : iter f (st 0) = some o := by
 unfold iter
 obtain ⟨m, hm⟩ : ∃ m, 18446744073709551616 = n + (m + 1) := ⟨18446744073709551616 - n - 1, by omega⟩
 rw [hm, iterF_steps st n (m + 1) 0 (fun i _ h2 => h i (by omega)), Nat.zero_add, iterF_succ, ho]
end

abbrev Env := List (Nat × Value)
def Env.get : List (Nat × Value) → Nat → Option Value
 | [], _ => none
 | (i, v) :: e, d => cond (Nat.beq i d) (some v) (Env.get e d)
def Env.ev (e : List (Nat × Value)) : Operand → Option Value
 | .tmp t => Env.get e t
 | .const v => some v
 | .global g => some (.pointer (some ⟨g, 0, none⟩))
 | .func f => some (.func (.func f) #[] #[])
def Env.evs (e : List (Nat × Value)) : List Operand → Option (List Value)
 | [] => some []
 | x :: xs => match Env.ev e x, Env.evs e xs with
  | some v, some vs => some (v :: vs)
  | _, _ => none
def Env.evp (e : List (Nat × Value)) : List (Nat × Operand) → Option (List (Nat × Value))
 | [] => some []
 | (i, x) :: xs => match Env.ev e x, Env.evp e xs with
  | some v, some vs => some ((i, v) :: vs)
  | _, _ => none

structure Fr where
 r : Option Nat
 ds : List Deferred
def Fr.f (Φ : Fr) : Fence := { fn := fun _ => True, depth := none, alive := false, round := Φ.r }
abbrev Fr.o : Fr := ⟨none, []⟩
structure Fits (Φ : Fr) (n : Nat) (e : List (Nat × Value)) (a : Act) : Prop where
 size : a.tmps.size = n
 defers : a.defers = Φ.ds
 has : ∀ d v, Env.get e d = some v → a.tmps[d]? = some v

section
variable {Φ : Fr} {n : Nat} {e e' : List (Nat × Value)} {a : Act}
theorem Fits.ev (h : Fits Φ n e a) {x : Operand} {v : Value} (hx : Env.ev e x = some v) : a.eval x = v := by
 cases x with
 | tmp t => simp only [Env.ev] at hx; simp [Act.eval, h.has t v hx]
 | const u => simp only [Env.ev, Option.some.injEq] at hx; simp [Act.eval, hx]
 | global g => simp only [Env.ev, Option.some.injEq] at hx; simp [Act.eval, hx]
 | func f => simp only [Env.ev, Option.some.injEq] at hx; simp [Act.eval, hx]
theorem Fits.evs (h : Fits Φ n e a) : ∀ {xs : List Operand} {vs : List Value}, Env.evs e xs = some vs → xs.map a.eval = vs
 | [], vs, hx => by simp only [Env.evs, Option.some.injEq] at hx; simp [hx]
 | x :: xs, vs, hx => by
  simp only [Env.evs] at hx
  split at hx
  ·rename_i v us h1 h2
   simp only [Option.some.injEq] at hx
   subst hx
   rw [List.map_cons, h.ev h1, h.evs h2]
  ·cases hx
theorem Fits.evp (h : Fits Φ n e a) : ∀ {xs : List (Nat × Operand)} {vs : List (Nat × Value)}, Env.evp e xs = some vs → xs.map (fun p => (p.1, a.eval p.2)) = vs
 | [], vs, hx => by simp only [Env.evp, Option.some.injEq] at hx; simp [hx]
 | (i, x) :: xs, vs, hx => by
  simp only [Env.evp] at hx
  split at hx
  ·rename_i v us h1 h2
   simp only [Option.some.injEq] at hx
   subst hx
   rw [List.map_cons, h.ev h1, h.evp h2]
  ·cases hx
theorem Fits.put (h : Fits Φ n e a) {d : Nat} (hd : Nat.blt d n = true) (v : Value) : Fits Φ n ((d, v) :: e) (a.put (some d) v) := by
 have hd' : d < n := by simpa using hd
 refine ⟨by simp [Act.put, h.size], h.defers, fun d' v' hg => ?_⟩
 simp only [Env.get] at hg
 by_cases hb : Nat.beq d d' = true
 ·have : d = d' := Nat.eq_of_beq_eq_true hb
  subst this
  rw [hb, cond_true, Option.some.injEq] at hg
  subst hg
  simp [Act.put, h.size, hd']
 ·have hb' : Nat.beq d d' = false := by cases h0 : Nat.beq d d' <;> simp_all
  rw [hb', cond_false] at hg
  have hne : d ≠ d' := fun e => by subst e; simp at hb
  simp only [Act.put]
  rw [Array.getElem?_setIfInBounds_ne hne]
  exact h.has d' v' hg
def Sub (e' e : List (Nat × Value)) : Prop := ∀ d v, Env.get e' d = some v → Env.get e d = some v
theorem Sub.nil : Sub [] e := fun _ _ h => by cases h
theorem Sub.cons {d : Nat} {v : Value} (h : Env.get e d = some v) (hs : Sub e' e) : Sub ((d, v) :: e') e := fun d' v' hg => by
 simp only [Env.get] at hg
 by_cases hb : Nat.beq d d' = true
 ·have : d = d' := Nat.eq_of_beq_eq_true hb
  subst this
  rw [hb, cond_true] at hg
  rw [h, hg]
 ·have hb' : Nat.beq d d' = false := by cases h0 : Nat.beq d d' <;> simp_all
  rw [hb', cond_false] at hg
  exact hs d' v' hg
def Env.gets (e : List (Nat × Value)) : List (Nat × Value) → List (Option Value)
 | [] => []
 | p :: ps => Env.get e p.1 :: Env.gets e ps
def Env.says : List (Nat × Value) → List (Option Value)
 | [] => []
 | p :: ps => some p.2 :: Env.says ps
theorem Sub.rf : ∀ {e' : List (Nat × Value)}, Env.gets e e' = Env.says e' → Sub e' e
 | [], _ => Sub.nil
 | _ :: _, h => Sub.cons (List.cons.inj h).1 (Sub.rf (List.cons.inj h).2)
theorem Fits.sub (h : Fits Φ n e a) (hs : Sub e' e) : Fits Φ n e' a := ⟨h.size, h.defers, fun d v hg => h.has d v (hs d v hg)⟩
end

def Wt (ops : Array Oper) (e : List (Nat × Value)) : Option (Nat × Bool) → Prop
 | none => True
 | some (j, b) => ∃ s, (ops[j]?).bind (·.dst) = some s ∧ Env.get e s = some (.bool b)
theorem Wt.no {ops : Array Oper} {e : List (Nat × Value)} : Wt ops e none := trivial
theorem Wt.mk {ops : Array Oper} {e : List (Nat × Value)} {j s : Nat} {b : Bool} (h : (ops[j]?).bind (·.dst) = some s) (h2 : Env.get e s = some (.bool b)) : Wt ops e (some (j, b)) := ⟨s, h, h2⟩
theorem Wt.wanted {Φ : Fr} {ops : Array Oper} {e : List (Nat × Value)} {o : Oper} {n : Nat} {a : Act} (hf : Fits Φ n e a) (h : Wt ops e o.guard) : Region.wanted o (yielded ops a.tmps) = true := by
 unfold Region.wanted
 cases hg : o.guard with
 | none => rfl
 | some p =>
  obtain ⟨j, b⟩ := p
  rw [hg] at h
  obtain ⟨s, h1, h2⟩ := h
  simp [yielded, h1, hf.has s _ h2]
theorem Wt.unwanted {Φ : Fr} {ops : Array Oper} {e : List (Nat × Value)} {o : Oper} {n : Nat} {a : Act} {j s : Nat} {b : Bool} (hf : Fits Φ n e a) (hg : o.guard = some (j, b)) (h1 : (ops[j]?).bind (·.dst) = some s) (h2 : Env.get e s = some (.bool (!b))) : Region.wanted o (yielded ops a.tmps) = false := by
 unfold Region.wanted
 rw [hg]
 simp [yielded, h1, hf.has s _ h2]

section
variable {Φ : Fr} {P : Program} {Q : Exit → Act → World → Prop} {n : Nat} {e : List (Nat × Value)} {w : World} {ops : Array Oper} {os : List Oper}
def E (Φ : Fr) (P : Program) (Q : Exit → Act → World → Prop) (n : Nat) (c : Code) (e : List (Nat × Value)) (w : World) : Prop := ∀ a, Fits Φ n e a → c.wpIn Φ.f 2 P Q a w
def X (Φ : Fr) (Q : Exit → Act → World → Prop) (n : Nat) (x : Exit) (e : List (Nat × Value)) (w : World) : Prop := ∀ a, Fits Φ n e a → Q x a w
def L (Φ : Fr) (P : Program) (Q : Exit → Act → World → Prop) (n : Nat) (ops : Array Oper) (os : List Oper) (e : List (Nat × Value)) (w : World) : Prop :=
 ∀ is : List Nat, is.map (fun i => ops[i]?) = os.map some → ∀ a, Fits Φ n e a → wpOpsIn Φ.f 2 P ops Q is a w

theorem E.seq {x y : Code} (h : E Φ P (Exit.then (y.wpIn Φ.f 2 P Q) Q) n x e w) : E Φ P Q n (.seq x y) e w := fun a ha => wpIn_seq (h a ha)
theorem E.skip (h : X Φ Q n .normal e w) : E Φ P Q n .skip e w := fun a ha => wpIn_skip (h a ha)
theorem E.block {id : Nat} {c : Code} (h : E Φ P (Exit.inBlock id Q) n c e w) : E Φ P Q n (.block id c) e w := fun a ha => wpIn_block (h a ha)
theorem E.exit {id : Nat} (h : X Φ Q n (.exit id) e w) : E Φ P Q n (.exit id) e w := fun a ha => wpIn_exit (h a ha)
theorem E.ret (h : X Φ Q n .ret e w) : E Φ P Q n .ret e w := fun a ha => wpIn_ret (h a ha)
theorem E.sub {c : Code} {e' : List (Nat × Value)} (hs : Sub e' e) (h : E Φ P Q n c e' w) : E Φ P Q n c e w := fun a ha => h a (ha.sub hs)
theorem E.cT {c : Operand} {x y : Code} {t : Bool} (hx : Env.ev e c = some (.bool t)) (ht : t = true) (h : E Φ P Q n x e w) : E Φ P Q n (.cond c x y) e w :=
 fun a ha => wpIn_cond_true (by rw [ha.ev hx, ht]) (h a ha)
theorem E.cF {c : Operand} {x y : Code} {t : Bool} (hx : Env.ev e c = some (.bool t)) (ht : t = false) (h : E Φ P Q n y e w) : E Φ P Q n (.cond c x y) e w :=
 fun a ha => wpIn_cond_false (by rw [ha.ev hx, ht]) (h a ha)
theorem E.reg {id : Nat} {l : List Oper} (h : L Φ P Q n l.toArray l e w) : E Φ P Q n (.region id l.toArray false) e w := fun a ha => by
 refine wpIn_region (h _ ?_ a ha)
 apply List.ext_getElem?
 intro i
 simp only [List.getElem?_map, List.size_toArray, List.getElem?_toArray]
 by_cases hi : i < l.length
 ·rw [List.getElem?_range hi, List.getElem?_eq_getElem hi]; simp [hi]
 ·rw [List.getElem?_eq_none (by simpa using hi), List.getElem?_eq_none (by omega)]; rfl
theorem X.seqN {y : Code} (h : E Φ P Q n y e w) : X Φ (Exit.then (y.wpIn Φ.f 2 P Q) Q) n .normal e w := h
theorem X.seqX {K : Act → World → Prop} {id : Nat} (h : X Φ Q n (.exit id) e w) : X Φ (Exit.then K Q) n (.exit id) e w := h
theorem X.seqR {K : Act → World → Prop} (h : X Φ Q n .ret e w) : X Φ (Exit.then K Q) n .ret e w := h
theorem X.blkN {id : Nat} (h : X Φ Q n .normal e w) : X Φ (Exit.inBlock id Q) n .normal e w := h
theorem X.blkR {id : Nat} (h : X Φ Q n .ret e w) : X Φ (Exit.inBlock id Q) n .ret e w := h
theorem X.blkE {id : Nat} (h : X Φ Q n .normal e w) : X Φ (Exit.inBlock id Q) n (.exit id) e w := fun a ha => by
 show if id = id then _ else _
 rw [if_pos rfl]; exact h a ha
def LW (Φ : Fr) (P : Program) (Q : Exit → Act → World → Prop) (c : Code) (a : Act) (w : World) : Prop :=
 ∀ (b : Frame) (k : List Item) (cs : List Frame), b.roundOf = Φ.f.round → Φ.f.fn b.fn → Φ.f.room (cs.length + 1 + 2) → ∃ x a' w', Q x a' w' ∧ ArrivesIn (Machine.fenced P Φ.f) P (lone (b.atR a (.code c :: .inLoop c :: k)) cs w) b k cs x a' w'
def H (Φ : Fr) (P : Program) (Q : Exit → Act → World → Prop) (n : Nat) (c : Code) (e : List (Nat × Value)) (w : World) : Prop := ∀ a, Fits Φ n e a → LW Φ P Q c a w
theorem E.loop {c : Code} (h : H Φ P Q n c e w) : E Φ P Q n (.loop c) e w := fun a ha b k cs hro hb hr =>
 let ⟨x, a', w', hq, harr⟩ := h a ha b k cs hro hb hr
 ⟨x, a', w', hq, .of_steps (.one (fenced_calm hb hr rfl) stepR_loop) harr⟩
theorem H.sub {c : Code} {e' : List (Nat × Value)} (hs : Sub e' e) (h : H Φ P Q n c e' w) : H Φ P Q n c e w := fun a ha => h a (ha.sub hs)
theorem H.round {c : Code} (h : E Φ P (Exit.then (LW Φ P Q c) Q) n c e w) : H Φ P Q n c e w := by
 intro a ha b k cs hro hb hr
 obtain ⟨x, a₁, w₁, hq, harr⟩ := h a ha b (.inLoop c :: k) cs hro hb hr
 cases x with
 | normal =>
  obtain ⟨x₂, a₂, w₂, hq₂, harr₂⟩ := hq b k cs hro hb hr
  exact ⟨x₂, a₂, w₂, hq₂, .of_steps (StepsIn.trans harr (.one (fenced_calm hb hr rfl) stepR_inLoop)) harr₂⟩
 | exit id => exact ⟨_, a₁, w₁, hq, .pass (x := .inLoop c) rfl (fun _ _ => .inl (by simp)) harr⟩
 | goto l => exact ⟨_, a₁, w₁, hq, .pass (x := .inLoop c) rfl (fun _ _ => .inl (by simp)) harr⟩
 | ret => exact ⟨_, a₁, w₁, hq, .pass (x := .inLoop c) rfl (fun _ _ => .inl (by simp)) harr⟩
 | panic ch => exact ⟨_, a₁, w₁, hq, .pass (x := .inLoop c) rfl (fun _ _ => .inl (by simp)) harr⟩
 | outgrown => exact ⟨_, a₁, w₁, hq, .pass (x := .inLoop c) rfl (fun _ _ => .inl (by simp)) harr⟩
theorem X.again {c : Code} (h : H Φ P Q n c e w) : X Φ (Exit.then (LW Φ P Q c) Q) n .normal e w := h

theorem L.nil (h : X Φ Q n .normal e w) : L Φ P Q n ops [] e w := fun is his a ha => by
 have : is = [] := by simpa using his
 subst this
 exact h a ha
theorem L.sub {e' : List (Nat × Value)} (hs : Sub e' e) (h : L Φ P Q n ops os e' w) : L Φ P Q n ops os e w := fun is his a ha => h is his a (ha.sub hs)
theorem L.sb {e' : List (Nat × Value)} (h : L Φ P Q n ops os e' w) (hs : Env.gets e e' = Env.says e') : L Φ P Q n ops os e w := L.sub (Sub.rf hs) h
theorem wp_in {o : Oper} {a : Act} {K : Act → World → Prop} (hnd : ∀ c, o.op ≠ .defer c) (h : o.wp P a w K Q) : o.wpIn Φ.f 2 P a w K Q := by
 refine ⟨fun _ _ => trivial, ?_⟩
 have hs : Oper.semAt Φ.f.round a.eval o = execOp a.eval o := by
  cases hr : Φ.f.round with
  | none => rfl
  | some l => exact Oper.semAt_some _ _ _ hnd
 rw [hs]
 unfold Oper.wp at h
 revert h
 generalize (execOp a.eval o).run P w = R
 intro h
 unfold Oper.upon at h
 unfold Oper.uponIn
 split at h
 ·exact h
 ·exact h
 ·exact h
 ·exact ⟨fun e => (by cases e), (callsIn_wide (n := 1)).2 h⟩
 ·refine ⟨fun e => (by cases e), fun c cs _ => ?_⟩
  obtain ⟨v, w', h1, h2⟩ := h c cs
  exact ⟨v, w', h1, (stepsIn_wide (P := P)).2 h2⟩
 ·exact h
 ·exact h.elim
theorem L.op {o : Oper} (hw : Wt ops e o.guard) (h : ∀ a, Fits Φ n e a → ∀ K : Act → World → Prop, (∀ e' a' w', Fits Φ n e' a' → L Φ P Q n ops os e' w' → K a' w') → o.wp P a w K Q) (hnd : ∀ c, o.op ≠ .defer c := by nofun) : L Φ P Q n ops (o :: os) e w := fun is his a ha => by
 cases is with
 | nil => cases his
 | cons i rest =>
  simp only [List.map_cons, List.cons.injEq] at his
  obtain ⟨h1, h2⟩ := his
  simp only [wpOpsIn, h1]
  rw [if_pos (Wt.wanted ha hw)]
  exact wp_in hnd (h a ha _ fun e' a' w' hf hl => hl rest h2 a' hf)
theorem L.skip {d : Nat} {op : Op} {ty : TypeId} {pos : String} {af : Array Edge} {j s : Nat} {b b' : Bool} (h1 : (ops[j]?).bind (·.dst) = some s) (h2 : Env.get e s = some (.bool b')) (hb : b' = !b) (hd : Nat.blt d n = true)
  (h : L Φ P Q n ops os ((d, undef) :: e) w) : L Φ P Q n ops (⟨some d, op, ty, pos, af, some (j, b)⟩ :: os) e w := fun is his a ha => by
 cases is with
 | nil => cases his
 | cons i rest =>
  simp only [List.map_cons, List.cons.injEq] at his
  obtain ⟨g1, g2⟩ := his
  subst hb
  simp only [wpOpsIn, g1]
  rw [if_neg (by rw [Wt.unwanted ha rfl h1 h2]; simp)]
  exact ⟨fun _ _ => trivial, h rest g2 _ (ha.put hd undef)⟩
theorem L.val {d : Nat} {op : Op} {ty : TypeId} {pos : String} {af : Array Edge} {g : Option (Nat × Bool)} {v : Value} {w' : World} (hw : Wt ops e g) (hd : Nat.blt d n = true)
  (hr : ∀ a, Fits Φ n e a → (execOp a.eval ⟨some d, op, ty, pos, af, g⟩).run P w = .ok (.value v) w') (h : L Φ P Q n ops os ((d, v) :: e) w') (hnd : ∀ c, op ≠ .defer c := by nofun) : L Φ P Q n ops (⟨some d, op, ty, pos, af, g⟩ :: os) e w :=
 L.op hw (fun a ha K hK => by
  unfold Oper.wp
  rw [hr a ha]
  exact hK _ _ _ (ha.put hd v) h) hnd
theorem L.unit {op : Op} {ty : TypeId} {pos : String} {af : Array Edge} {g : Option (Nat × Bool)} {w' : World} (hw : Wt ops e g)
  (hr : ∀ a, Fits Φ n e a → (execOp a.eval ⟨none, op, ty, pos, af, g⟩).run P w = .ok .skip w') (h : L Φ P Q n ops os e w') (hnd : ∀ c, op ≠ .defer c := by nofun) : L Φ P Q n ops (⟨none, op, ty, pos, af, g⟩ :: os) e w :=
 L.op hw (fun a ha K hK => by
  unfold Oper.wp
  rw [hr a ha]
  exact hK _ _ _ ha h) hnd
end
end Go.Proofs.YtidakgbibobbdaaGreatDoor

namespace Go.Proofs.YtidakgbibobbdaaGreatDoor
open Go Go.RowKit

structure Sig where
 w : World
 tag : Nat → Nat

structure Mv (S : Nat → Prop) (s s' : Sig) : Prop where
 os : s'.w.os = s.w.os
 tape : s'.w.tape = s.w.tape
 output : s'.w.output = s.w.output
 size : s.w.heap.size ≤ s'.w.heap.size
 blk : ∀ b, b < s.w.heap.size → ¬ S (s.tag b) → s'.w.heap[b]? = s.w.heap[b]? ∧ s'.tag b = s.tag b
structure Le (s s' : Sig) : Prop where
 size : s.w.heap.size ≤ s'.w.heap.size
 blk : ∀ b, b < s.w.heap.size → s.tag b = 0 → s'.w.heap[b]? = s.w.heap[b]? ∧ s'.tag b = 0
abbrev No : Nat → Prop := fun _ => False
abbrev One (t : Nat) : Nat → Prop := fun x => x = t
theorem no_No {t : Nat} : ¬ No t := id
theorem nor {p q : Prop} (h : ¬ p) (h2 : ¬ q) : ¬ (p ∨ q) := fun e => e.elim h h2

section
variable {S S' : Nat → Prop} {s s' s'' : Sig}
theorem Mv.refl (S : Nat → Prop) (s : Sig) : Mv S s s := ⟨rfl, rfl, rfl, Nat.le_refl _, fun _ _ _ => ⟨rfl, rfl⟩⟩
theorem Mv.trans (h : Mv S s s') (h2 : Mv S s' s'') : Mv S s s'' :=
 ⟨h2.os.trans h.os, h2.tape.trans h.tape, h2.output.trans h.output, Nat.le_trans h.size h2.size, fun b hb hn => by
  obtain ⟨g1, g2⟩ := h.blk b hb hn
  obtain ⟨g3, g4⟩ := h2.blk b (Nat.lt_of_lt_of_le hb h.size) (by rw [g2]; exact hn)
  exact ⟨g3.trans g1, g4.trans g2⟩⟩
theorem Mv.weak (h : Mv S s s') (hs : ∀ t, S t → S' t) : Mv S' s s' := ⟨h.os, h.tape, h.output, h.size, fun b hb hn => h.blk b hb fun e => hn (hs _ e)⟩
theorem Mv.no (h : Mv No s s') : Mv S s s' := h.weak fun _ e => e.elim
theorem Mv.one {t : Nat} (h : Mv (One t) s s') (ht : S t) : Mv S s s' := h.weak fun _ e => e ▸ ht
theorem Mv.le (h : Mv S s s') (h0 : ¬ S 0) : Le s s' := ⟨h.size, fun b hb ht => by
 obtain ⟨g1, g2⟩ := h.blk b hb (by rw [ht]; exact h0)
 exact ⟨g1, g2.trans ht⟩⟩
theorem Le.refl (s : Sig) : Le s s := ⟨Nat.le_refl _, fun _ _ h => ⟨rfl, h⟩⟩
theorem Le.trans (h : Le s s') (h2 : Le s' s'') : Le s s'' := ⟨Nat.le_trans h.size h2.size, fun b hb ht => by
 obtain ⟨g1, g2⟩ := h.blk b hb ht
 obtain ⟨g3, g4⟩ := h2.blk b (Nat.lt_of_lt_of_le hb h.size) g2
 exact ⟨g3.trans g1, g4⟩⟩
def Sig.drop (N : Nat) (s : Sig) : Sig := ⟨s.w, fun b => if N ≤ s.tag b then 0 else s.tag b⟩
theorem Sig.drop_le (N : Nat) (s : Sig) : Le s (s.drop N) := ⟨Nat.le_refl _, fun b _ ht => ⟨rfl, by simp [Sig.drop, ht]⟩⟩
theorem tags_bound (f : Nat → Nat) : ∀ n, ∃ N, 0 < N ∧ ∀ b, b < n → f b < N
 | 0 => ⟨1, by omega, fun b h => by omega⟩
 | n + 1 => by
  obtain ⟨N, h0, h⟩ := tags_bound f n
  refine ⟨max N (f n + 1), by omega, fun b hb => ?_⟩
  by_cases e : b = n
  ·subst e; omega
  ·have := h b (by omega); omega
theorem Sig.fresh (s : Sig) : ∃ N, 0 < N ∧ ∀ b, b < s.w.heap.size → s.tag b < N := tags_bound s.tag _
def Sig.fz (t : Nat) (s : Sig) : Sig := ⟨s.w, fun b => if s.tag b = t then 0 else s.tag b⟩
theorem Sig.fz_mv (t : Nat) (s : Sig) : Mv (One t) s (s.fz t) := ⟨rfl, rfl, rfl, Nat.le_refl _, fun b _ hn => ⟨rfl, if_neg hn⟩⟩
theorem Below.mv {w' : World} {tag' : Nat → Nat} (h : Below s.w.heap.size s.w w') (ht : ∀ b, b < s.w.heap.size → tag' b = s.tag b) : Mv S s ⟨w', tag'⟩ := ⟨h.os, h.tape, h.output, h.size, fun b hb _ => ⟨h.block b hb, ht b hb⟩⟩
theorem Turn.mv {tag' : Nat → Nat} {t : Nat} {w' : World} (h : Turn 0 s.tag tag' t s.w w') : Mv (One t) s ⟨w', tag'⟩ :=
 ⟨h.os, h.tape, h.output, h.size, fun b hb hn => ⟨h.heap b hb (.inr hn), h.tags b hb⟩⟩
theorem Mv.below (h : Mv No s s') : Below s.w.heap.size s.w s'.w := ⟨h.os, h.tape, h.output, h.size, fun b hb => (h.blk b hb id).1⟩
end

structure Bx (s : Sig) (t b : Nat) (cs : Array Value) (T : TypeId) : Prop where
 heap : s.w.heap[b]? = some (.cells cs T (0, 0))
 htag : s.tag b = t
structure Mem (s : Sig) (t b off : Nat) (c : List Value) : Prop where
 htag : 0 < c.length → s.tag b = t
 cell : ∀ j (h : j < c.length), s.w.cell? ⟨b, off + j, none⟩ = some c[j]
section
variable {S : Nat → Prop} {s s' : Sig} {t b off : Nat} {cs : Array Value} {T : TypeId} {c : List Value}
theorem Bx.lt (h : Bx s t b cs T) : b < s.w.heap.size := (Array.getElem?_eq_some_iff.1 h.heap).1
theorem Bx.mv (h : Bx s t b cs T) (m : Mv S s s') (hn : ¬ S t) : Bx s' t b cs T := by
 obtain ⟨g1, g2⟩ := m.blk b h.lt (by rw [h.htag]; exact hn)
 exact ⟨g1.trans h.heap, g2.trans h.htag⟩
theorem Bx.mem (h : Bx s t b cs T) : Mem s t b 0 cs.toList := ⟨fun _ => h.htag, fun j hj => by
 have : j < cs.size := by simpa using hj
 simp [World.cell?, h.heap, this]⟩
theorem Mem.mv (h : Mem s t b off c) (m : Mv S s s') (hn : ¬ S t) : Mem s' t b off c := by
 by_cases h0 : 0 < c.length
 ·have hb : b < s.w.heap.size := World.block_lt_of_cell? _ _ (h.cell 0 h0)
  obtain ⟨g1, g2⟩ := m.blk b hb (by rw [h.htag h0]; exact hn)
  refine ⟨fun _ => g2.trans (h.htag h0), fun j hj => ?_⟩
  rw [← h.cell j hj]
  exact World.cell?_of_block (w := s.w) (a := ⟨b, off + j, none⟩) g1
 ·exact ⟨fun h => absurd h h0, fun j hj => by omega⟩
end

structure Rep (α : Type) where
 sz : Nat
 rd : Sig → List Value → α → Prop
 len : ∀ {s cs x}, rd s cs x → cs.length = sz
 mono : ∀ {s s' cs x}, Le s s' → rd s cs x → rd s' cs x
 one : ∀ {s cs x}, rd s cs x → ∀ u ∈ cs, u.oneCell' = true
def rK (k : IntKind) : Rep Int := ⟨1, fun _ cs x => cs = [.int k x], fun h => by rw [h]; rfl, fun _ h => h, fun h u hu => by rw [h] at hu; rw [List.mem_singleton.1 hu]; rfl⟩
def rB : Rep Bool := ⟨1, fun _ cs x => cs = [.bool x], fun h => by rw [h]; rfl, fun _ h => h, fun h u hu => by rw [h] at hu; rw [List.mem_singleton.1 hu]; rfl⟩
def rP {α β : Type} (r : Rep α) (q : Rep β) : Rep (α × β) where
 sz := r.sz + q.sz
 rd s cs x := ∃ c d, cs = c ++ d ∧ r.rd s c x.1 ∧ q.rd s d x.2
 len := by rintro s cs x ⟨c, d, rfl, h1, h2⟩; rw [List.length_append, r.len h1, q.len h2]
 mono := by rintro s s' cs x hl ⟨c, d, rfl, h1, h2⟩; exact ⟨c, d, rfl, r.mono hl h1, q.mono hl h2⟩
 one := by
  rintro s cs x ⟨c, d, rfl, h1, h2⟩ u hu
  rcases List.mem_append.1 hu with h | h
  ·exact r.one h1 u h
  ·exact q.one h2 u h
def Cells {α : Type} (r : Rep α) (s : Sig) : List Value → List α → Prop
 | cs, [] => cs = []
 | cs, x :: xs => ∃ c d, cs = c ++ d ∧ r.rd s c x ∧ Cells r s d xs
section
variable {α : Type} {r : Rep α} {s s' : Sig}
theorem Cells.mono (hl : Le s s') : ∀ {cs : List Value} {xs : List α}, Cells r s cs xs → Cells r s' cs xs
 | _, [], h => h
 | _, _ :: _, ⟨c, d, e, h1, h2⟩ => ⟨c, d, e, r.mono hl h1, Cells.mono hl h2⟩
theorem Cells.len : ∀ {cs : List Value} {xs : List α}, Cells r s cs xs → cs.length = xs.length * r.sz
 | _, [], h => by rw [h]; simp
 | _, _ :: xs, ⟨c, d, e, h1, h2⟩ => by rw [e, List.length_append, r.len h1, Cells.len h2, List.length_cons, Nat.succ_mul]; omega
theorem Cells.one : ∀ {cs : List Value} {xs : List α}, Cells r s cs xs → ∀ u ∈ cs, u.oneCell' = true
 | _, [], h, u, hu => by rw [h] at hu; cases hu
 | _, _ :: xs, ⟨c, d, e, h1, h2⟩, u, hu => by
  rw [e] at hu
  rcases List.mem_append.1 hu with h | h
  ·exact r.one h1 u h
  ·exact Cells.one h2 u h
theorem Cells.append : ∀ {cs ds : List Value} {xs ys : List α}, Cells r s cs xs → Cells r s ds ys → Cells r s (cs ++ ds) (xs ++ ys)
 | _, _, [], _, h, h2 => by rw [h]; exact h2
 | _, _, _ :: _, _, ⟨c, d, e, h1, h2⟩, h3 => ⟨c, d ++ _, by rw [e, List.append_assoc], h1, Cells.append h2 h3⟩
theorem Cells.split : ∀ {cs : List Value} {xs ys : List α}, Cells r s cs (xs ++ ys) → Cells r s (cs.take (xs.length * r.sz)) xs ∧ Cells r s (cs.drop (xs.length * r.sz)) ys
 | cs, [], ys, h => by simpa [Cells] using h
 | _, x :: xs, ys, ⟨c, d, e, h1, h2⟩ => by
  obtain ⟨g1, g2⟩ := Cells.split h2
  subst e
  have hl := r.len h1
  have e1 : (x :: xs).length * r.sz = c.length + xs.length * r.sz := by rw [List.length_cons, Nat.succ_mul, hl]; omega
  rw [e1]
  refine ⟨⟨c, d.take (xs.length * r.sz), ?_, h1, g1⟩, ?_⟩
  ·rw [List.take_append, List.take_of_length_le (by omega), show c.length + xs.length * r.sz - c.length = xs.length * r.sz by omega]
  ·rw [List.drop_append, List.drop_of_length_le (by omega), show c.length + xs.length * r.sz - c.length = xs.length * r.sz by omega, List.nil_append]
   exact g2
theorem Cells.at {cs : List Value} {xs : List α} (h : Cells r s cs xs) (i : Nat) (hi : i < xs.length) : r.rd s ((cs.drop (i * r.sz)).take r.sz) xs[i] := by
 have e : xs = xs.take i ++ xs.drop i := (List.take_append_drop i xs).symm
 rw [e] at h
 obtain ⟨_, h2⟩ := h.split
 rw [List.length_take, Nat.min_eq_left (by omega), List.drop_eq_getElem_cons hi] at h2
 obtain ⟨c, d, e2, h3, _⟩ := h2
 rw [e2, List.take_append, List.take_of_length_le (by rw [r.len h3]; omega), r.len h3, Nat.sub_self, List.take_zero, List.append_nil]
 exact h3
theorem Cells.set : ∀ {cs : List Value} {xs : List α} (_ : Cells r s cs xs) (i : Nat) {c : List Value} {x : α} (_ : r.rd s c x) (_ : i < xs.length), Cells r s (cs.take (i * r.sz) ++ c ++ cs.drop (i * r.sz + c.length)) (xs.set i x)
 | _, [], _, i, _, _, _, hi => by simp at hi
 | _, y :: ys, ⟨c0, d, e, h1, h2⟩, 0, c, x, hx, _ => by
  subst e
  refine ⟨c, d, ?_, hx, h2⟩
  have := r.len h1
  have := r.len hx
  rw [Nat.zero_mul, List.take_zero, List.nil_append, Nat.zero_add, List.drop_append, List.drop_of_length_le (by omega), List.nil_append, show c.length - c0.length = 0 by omega, List.drop_zero]
 | _, y :: ys, ⟨c0, d, e, h1, h2⟩, i + 1, c, x, hx, hi => by
  subst e
  have hl := r.len h1
  have := Cells.set h2 i hx (by simpa using hi)
  refine ⟨c0, _, ?_, h1, this⟩
  rw [Nat.succ_mul, List.take_append, List.take_of_length_le (by omega), List.drop_append, List.drop_of_length_le (by omega), List.nil_append,
   show i * r.sz + r.sz - c0.length = i * r.sz by omega, show i * r.sz + r.sz + c.length - c0.length = i * r.sz + c.length by omega]
  simp only [List.append_assoc]

def RdL (r : Rep α) (s : Sig) (a : Option Addr) (cap : Nat) (xs : List α) : Prop :=
 ∃ cs, RdS s.w r.sz a xs.length cap cs ∧ (∀ ad, a = some ad → 0 < cs.length → s.tag ad.block = 0) ∧ Cells r s cs xs
variable {a : Option Addr} {cap : Nat} {xs ys : List α}
theorem RdL.mono (h : RdL r s a cap xs) (hl : Le s s') : RdL r s' a cap xs := by
 obtain ⟨cs, h1, h2, h3⟩ := h
 refine ⟨cs, ⟨h1.hlen, h1.hcap, h1.hmax, h1.hnil, h1.spot, fun ad e j hj => ?_⟩, fun ad e hj => ?_, h3.mono hl⟩
 ·have hc := h1.cell ad e j hj
  rw [← hc]
  exact World.cell?_of_block (w := s.w) (a := ⟨ad.block, ad.off + j, none⟩) (hl.blk _ (World.block_lt_of_cell? _ _ hc) (h2 ad e (by omega))).1
 ·exact (hl.blk _ (World.block_lt_of_cell? _ _ (h1.cell ad e 0 hj)) (h2 ad e hj)).2
theorem RdL.nil : RdL r s none 0 [] := ⟨[], ⟨by simp, Nat.le_refl _, by simp [maxLen], fun _ => rfl, fun _ e => (by cases e), fun _ e => (by cases e)⟩, fun _ e => (by cases e), rfl⟩
theorem RdL.at (h : RdL r s a cap xs) (i : Nat) (hi : i < xs.length) : ∃ b off c, a = some ⟨b, off, none⟩ ∧ Mem s 0 b (off + i * r.sz) c ∧ r.rd s c xs[i] := by
 obtain ⟨cs, h1, h2, h3⟩ := h
 obtain ⟨b, off, rfl, hc⟩ := h1.at_elem i hi
 have hx := h3.at i hi
 have hl := h1.hlen
 have hm := Nat.mul_le_mul_right r.sz (show i + 1 ≤ xs.length from hi)
 rw [Nat.succ_mul] at hm
 refine ⟨b, off, _, rfl, ⟨fun h0 => ?_, fun j hj => ?_⟩, hx⟩
 ·exact h2 _ rfl (by rw [List.length_take, List.length_drop] at h0; omega)
 ·have hj' : j < r.sz := by rw [r.len hx] at hj; exact hj
  rw [Nat.add_assoc, hc (i * r.sz + j) (by omega)]
  simp
end
def rL {α : Type} (r : Rep α) : Rep (List α) where
 sz := 1
 rd s cs xs := ∃ a cap, cs = [.slice a xs.length cap] ∧ RdL r s a cap xs
 len := by rintro s cs x ⟨a, cap, rfl, _⟩; rfl
 mono := by rintro s s' cs x hl ⟨a, cap, rfl, h⟩; exact ⟨a, cap, rfl, h.mono hl⟩
 one := by rintro s cs x ⟨a, cap, rfl, _⟩ u hu; rw [List.mem_singleton.1 hu]; rfl

def RowT {α : Type} (r : Rep α) (s : Sig) (t : Nat) (T : TypeId) (a : Option Addr) (cap : Nat) (xs : List α) : Prop :=
 ∃ cs, Row s.w 0 s.tag t T r.sz (.slice a xs.length cap) xs.length cs ∧ Cells r s cs xs
section
variable {α : Type} {r : Rep α} {s s' : Sig} {t : Nat} {T : TypeId} {a : Option Addr} {cap : Nat} {xs ys : List α} {S : Nat → Prop}
theorem Own.mv' {w' : World} {tag' : Nat → Nat} {b : Nat} {cs : Array Value} (h : Own s.w 0 s.tag t b cs T) (m : Mv S s ⟨w', tag'⟩) (hn : ¬ S t) : Own w' 0 tag' t b cs T := by
 obtain ⟨g1, g2⟩ := m.blk b h.lt (by rw [h.htag]; exact hn)
 exact ⟨g1.trans h.heap, g2.trans h.htag, h.base⟩
theorem RowT.mv (h : RowT r s t T a cap xs) (m : Mv S s s') (hn : ¬ S t) (h0 : ¬ S 0) : RowT r s' t T a cap xs := by
 obtain ⟨cs, h1, h2⟩ := h
 exact ⟨cs, ⟨h1.1, h1.2.imp id fun ⟨b, off, cap, cur, g1, g2, g3⟩ => ⟨b, off, cap, cur, g1, Own.mv' g2 m hn, g3⟩⟩, h2.mono (m.le h0)⟩
theorem RowT.nil : RowT r s t T none 0 [] := ⟨[], Row.nil _ _ _ _ _ _, rfl⟩
theorem RowT.rd (h : RowT r s t T a cap xs) (hl : Le s s') (hw : s'.w = s.w) (ht : ∀ b, s.tag b = t → s'.tag b = 0) : RdL r s' a cap xs := by
 obtain ⟨cs, h1, h2⟩ := h
 obtain ⟨a', cap', e, h3⟩ := h1.rd
 cases e
 refine ⟨cs, by rw [hw]; exact h3, fun ad e h0 => ?_, h2.mono hl⟩
 subst e
 have hx : 0 < xs.length := by
  rcases Nat.eq_zero_or_pos xs.length with h | h
  ·have := h1.1; rw [h] at this; omega
  ·exact h
 obtain ⟨b, off, cap', e, _, _, g⟩ := h1.addr hx
 cases e
 exact ht _ g
theorem RowT.fz (h : RowT r s t T a cap xs) (h0 : t ≠ 0) : RdL r (s.fz t) a cap xs :=
 h.rd ((Sig.fz_mv t s).le (Ne.symm h0)) rfl fun b e => by simp [Sig.fz, e]
theorem Bx.rdL {b : Nat} {cs : Array Value} (h : Bx s 0 b cs T) (hc : Cells r s cs.toList xs) (hm : xs.length ≤ maxLen) : RdL r s (some ⟨b, 0, none⟩) xs.length xs :=
 ⟨cs.toList, ⟨hc.len, Nat.le_refl _, hm, fun e => (by cases e), fun _ e => (by cases e; rfl), fun _ e j hj => by cases e; exact h.mem.cell j hj⟩, fun _ e _ => by cases e; exact h.htag, hc⟩
theorem Bx.row {b : Nat} {cs : Array Value} (h : Bx s t b cs T) (hc : Cells r s cs.toList xs) (hm : xs.length ≤ maxLen) : RowT r s t T (some ⟨b, 0, none⟩) xs.length xs := by
 have hl := hc.len
 refine ⟨cs.toList, ⟨hl, .inr ⟨b, 0, xs.length, cs, rfl, ⟨h.heap, h.htag, Nat.zero_le _⟩, Nat.le_refl _, hm, ?_, ?_⟩⟩, hc⟩
 ·rw [Array.length_toList] at hl; omega
 ·rw [List.drop_zero, ← hl, List.take_length]
end
end Go.Proofs.YtidakgbibobbdaaGreatDoor

namespace Go.Proofs.YtidakgbibobbdaaGreatDoor
open Go Go.RowKit

structure NAg (P : Program) (T : TypeId) : Prop where
 agg : ∀ w, (isAgg T).run P w = .ok false w
 sz : ∀ w, (sizeOf T).run P w = .ok 1 w
structure Ag (P : Program) (T : TypeId) (m : Nat) : Prop where
 agg : ∀ w, (isAgg T).run P w = .ok true w
 sz : ∀ w, (sizeOf T).run P w = .ok m w
theorem NAg.mk' {P : Program} {T : TypeId} {d : TypeDesc} (h : P.underlying T = some d) (hd : (match d with | .struct _ | .array _ _ => true | _ => false) = false) (hs : (P.info? T).map (·.size) = some 1) : NAg P T := by
 constructor
 ·intro w
  simp only [isAgg, Sem.run_bind, run_underlying h, Result.andThen_ok]
  cases d <;> first | rfl | (simp at hd)
 ·intro w
  cases hi : P.info? T with
  | none => simp [hi] at hs
  | some i => simp [hi] at hs; simp [sizeOf, typeInfo, hi, hs]
theorem Ag.mk' {P : Program} {T : TypeId} {d : TypeDesc} {m : Nat} (h : P.underlying T = some d) (hd : (match d with | .struct _ | .array _ _ => true | _ => false) = true) (hs : (P.info? T).map (·.size) = some m) : Ag P T m := by
 constructor
 ·intro w
  simp only [isAgg, Sem.run_bind, run_underlying h, Result.andThen_ok]
  cases d <;> first | rfl | (simp at hd)
 ·intro w
  cases hi : P.info? T with
  | none => simp [hi] at hs
  | some i => simp [hi] at hs; simp [sizeOf, typeInfo, hi, hs]
def Cf (P : Program) (f : FuncId) : Prop := ∀ args w, (callFunc f args).run P w = .ok (.enter f args) w
theorem Cf.mk {P : Program} {f : FuncId} {fn : Func} (h : P.funcs[f]? = some fn) (hn : (fn.name == "runtime.NumGoroutine") = false) (hb : fn.body.isNone = false) : Cf P f := fun args w => by
 simp only [callFunc, Sem.run_bind, run_program, Result.andThen_ok, h, hn, hb]
 rfl
def FA (P : Program) (S : TypeId) (f o : Nat) : Prop := ∀ w b off, (Instr.fieldAt S (.pointer (some ⟨b, off, none⟩)) f).run P w = .ok (.pointer (some ⟨b, off + o, none⟩)) w
theorem FA.mk {P : Program} {S : TypeId} {fs : Array Field} {f o : Nat} {fd : Field} (h : P.underlying S = some (.struct fs)) (hf : fs[f]? = some fd) (ho : fd.offset = o) (hs : ∃ m, 0 < m ∧ (P.info? fd.type).map (·.size) = some m) : FA P S f o := fun w b off => by
 obtain ⟨m, hm, hs⟩ := hs
 cases hi : P.info? fd.type with
 | none => simp [hi] at hs
 | some i =>
  simp [hi] at hs
  subst ho
  have hsz : (sizeOf fd.type).run P w = .ok m w := by simp [sizeOf, typeInfo, hi, hs]
  have hne : ¬ m = 0 := by omega
  simp only [Instr.fieldAt, Sem.run_bind, run_underlying h, Result.andThen_ok, hf, Instr.sureAddr, Sem.run_pure, fieldPlace, hsz, if_neg hne]
  unfold Addr.add
  split <;> simp_all
structure Sl (P : Program) (T E : TypeId) (m : Nat) : Prop where
 und : P.underlying T = some (.slice E)
 sz : ∀ w, (sizeOf E).run P w = .ok m w
theorem Sl.mk' {P : Program} {T E : TypeId} {m : Nat} (h : P.underlying T = some (.slice E)) (hs : (P.info? E).map (·.size) = some m) : Sl P T E m := ⟨h, fun w => by
 cases hi : P.info? E with
 | none => simp [hi] at hs
 | some i => simp [hi] at hs; simp [sizeOf, typeInfo, hi, hs]⟩

def idx {α : Type} (xs : List α) (i : Int) : Option α := if 0 ≤ i then xs[i.toNat]? else none
theorem idx_some {α : Type} {xs : List α} {i : Int} {x : α} (h : idx xs i = some x) : 0 ≤ i ∧ ∃ hk : i.toNat < xs.length, xs[i.toNat] = x := by
 unfold idx at h
 split at h
 ·rename_i h0
  obtain ⟨hk, e⟩ := List.getElem?_eq_some_iff.1 h
  exact ⟨h0, hk, e⟩
 ·cases h
theorem idx_nat {α : Type} {xs : List α} {k : Nat} : idx xs (k : Int) = xs[k]? := by simp [idx]

def intBin : BinOp → IntKind → Int → Int → Option Value
 | .add, k, a, b => some (.int k (k.wrap (a + b)))
 | .sub, k, a, b => some (.int k (k.wrap (a - b)))
 | .mul, k, a, b => some (.int k (k.wrap (a * b)))
 | .eql, _, a, b => some (.bool (a == b))
 | .neq, _, a, b => some (.bool (a != b))
 | .lss, _, a, b => some (.bool (decide (a < b)))
 | .leq, _, a, b => some (.bool (decide (a ≤ b)))
 | .gtr, _, a, b => some (.bool (decide (a > b)))
 | .geq, _, a, b => some (.bool (decide (a ≥ b)))
 | .and, k, a, b => some (.int k (k.wrap ((BitVec.ofInt k.bits a &&& BitVec.ofInt k.bits b).toNat : Int)))
 | .or, k, a, b => some (.int k (k.wrap ((BitVec.ofInt k.bits a ||| BitVec.ofInt k.bits b).toNat : Int)))
 | _, _, _, _ => none

section
variable {Φ : Fr} {P : Program} {Q : Exit → Act → World → Prop} {n : Nat} {e : List (Nat × Value)} {w : World} {s : Sig} {ops : Array Oper} {os : List Oper} {d : Nat} {ty : TypeId} {pos : String} {af : Array Edge} {g : Option (Nat × Bool)}

theorem L.mv {x : Operand} {v : Value} (hw : Wt ops e g) (hx : Env.ev e x = some v) (hd : Nat.blt d n = true) (h : L Φ P Q n ops os ((d, v) :: e) w) : L Φ P Q n ops (⟨some d, .move x, ty, pos, af, g⟩ :: os) e w :=
 L.val hw hd (fun a ha => by simp [execOp, ha.ev hx]) h
theorem L.as {x : Operand} {v : Value} (hw : Wt ops e g) (hx : Env.ev e x = some v) (hd : Nat.blt d n = true) (h : L Φ P Q n ops os ((d, v) :: e) w) : L Φ P Q n ops (⟨some d, .assign x, ty, pos, af, g⟩ :: os) e w :=
 L.val hw hd (fun a ha => by simp [execOp, ha.ev hx]) h
theorem L.pkT {x y z : Operand} {t : Bool} {v : Value} (hw : Wt ops e g) (hx : Env.ev e x = some (.bool t)) (ht : t = true) (hy : Env.ev e y = some v) (hd : Nat.blt d n = true) (h : L Φ P Q n ops os ((d, v) :: e) w) : L Φ P Q n ops (⟨some d, .pick x y z, ty, pos, af, g⟩ :: os) e w :=
 L.val hw hd (fun a ha => by subst ht; simp [execOp, ha.ev hx, ha.ev hy, asBool]) h
theorem L.pkF {x y z : Operand} {t : Bool} {v : Value} (hw : Wt ops e g) (hx : Env.ev e x = some (.bool t)) (ht : t = false) (hy : Env.ev e z = some v) (hd : Nat.blt d n = true) (h : L Φ P Q n ops os ((d, v) :: e) w) : L Φ P Q n ops (⟨some d, .pick x y z, ty, pos, af, g⟩ :: os) e w :=
 L.val hw hd (fun a ha => by subst ht; simp [execOp, ha.ev hx, ha.ev hy, asBool]) h
theorem L.bi {op : BinOp} {T U : TypeId} {x y : Operand} {k : IntKind} {i j : Int} {v : Value} (hw : Wt ops e g) (hx : Env.ev e x = some (.int k i)) (hy : Env.ev e y = some (.int k j)) (hv : intBin op k i j = some v) (hd : Nat.blt d n = true)
  (h : L Φ P Q n ops os ((d, v) :: e) w) : L Φ P Q n ops (⟨some d, .binOp op T x y U, ty, pos, af, g⟩ :: os) e w :=
 L.val hw hd (fun a ha => by
  simp only [execOp, ha.ev hx, ha.ev hy]
  cases op <;> simp only [intBin, Option.some.injEq, reduceCtorEq] at hv <;> subst hv <;> simp [eqGuard, binOp, Op.intArith, Op.intCmp, Op.intBits]) h
theorem L.shr {T U : TypeId} {x y : Operand} {k k' : IntKind} {i j : Int} (hw : Wt ops e g) (hx : Env.ev e x = some (.int k i)) (hy : Env.ev e y = some (.int k' j)) (hj : ¬ j < 0) (hd : Nat.blt d n = true)
  (h : L Φ P Q n ops os ((d, .int k (i.fdiv (2 ^ (min j.toNat k.bits)))) :: e) w) : L Φ P Q n ops (⟨some d, .binOp .shr T x y U, ty, pos, af, g⟩ :: os) e w :=
 L.val hw hd (fun a ha => by simp [execOp, ha.ev hx, ha.ev hy, eqGuard, binOp, Op.shift, hj]) h
theorem L.beq {T U : TypeId} {x y : Operand} {i j : Bool} (hT : P.underlying T = some .bool) (hw : Wt ops e g) (hx : Env.ev e x = some (.bool i)) (hy : Env.ev e y = some (.bool j)) (hd : Nat.blt d n = true)
  (h : L Φ P Q n ops os ((d, .bool (i == j)) :: e) w) : L Φ P Q n ops (⟨some d, .binOp .eql T x y U, ty, pos, af, g⟩ :: os) e w :=
 L.val hw hd (fun a ha => by
  have hb := run_eql_bool (P := P) w T i j hT
  simp [execOp, ha.ev hx, ha.ev hy, eqGuard, hb, bne]) h
theorem L.bne {T U : TypeId} {x y : Operand} {i j : Bool} (hT : P.underlying T = some .bool) (hw : Wt ops e g) (hx : Env.ev e x = some (.bool i)) (hy : Env.ev e y = some (.bool j)) (hd : Nat.blt d n = true)
  (h : L Φ P Q n ops os ((d, .bool (i != j)) :: e) w) : L Φ P Q n ops (⟨some d, .binOp .neq T x y U, ty, pos, af, g⟩ :: os) e w :=
 L.val hw hd (fun a ha => by
  have hb := run_neq_bool (P := P) w T i j hT
  simp [execOp, ha.ev hx, ha.ev hy, eqGuard, hb]
  cases i <;> cases j <;> rfl) h
theorem L.not {T : TypeId} {x : Operand} {i : Bool} (hw : Wt ops e g) (hx : Env.ev e x = some (.bool i)) (hd : Nat.blt d n = true)
  (h : L Φ P Q n ops os ((d, .bool (!i)) :: e) w) : L Φ P Q n ops (⟨some d, .unOp .not T x, ty, pos, af, g⟩ :: os) e w :=
 L.val hw hd (fun a ha => by simp [execOp, ha.ev hx, Op.unary]) h
theorem L.cv {T U : TypeId} {D : TypeDesc} {x : Operand} {k k' : IntKind} {i : Int} (hT : P.underlying T = some D) (hU : P.underlying U = some (.int k')) (hw : Wt ops e g) (hx : Env.ev e x = some (.int k i)) (hd : Nat.blt d n = true)
  (h : L Φ P Q n ops os ((d, .int k' (k'.wrap i)) :: e) w) : L Φ P Q n ops (⟨some d, .convert T U x, ty, pos, af, g⟩ :: os) e w :=
 L.val hw hd (fun a ha => by simp [execOp, ha.ev hx, convert, run_underlying hT, run_underlying hU, Conv.intToInt]) h
theorem L.ex {x : Operand} {vs : Array Value} {i : Nat} {v : Value} (hw : Wt ops e g) (hx : Env.ev e x = some (.tuple vs)) (hi : vs[i]? = some v) (hd : Nat.blt d n = true)
  (h : L Φ P Q n ops os ((d, v) :: e) w) : L Φ P Q n ops (⟨some d, .extract x i, ty, pos, af, g⟩ :: os) e w :=
 L.val hw hd (fun a ha => by simp [execOp, ha.ev hx, Instr.extract, hi]) h
theorem L.nc {x : Operand} {p : Addr} (hw : Wt ops e g) (hx : Env.ev e x = some (.pointer (some p))) (hd : Nat.blt d n = true)
  (h : L Φ P Q n ops os ((d, .pointer (some p)) :: e) w) : L Φ P Q n ops (⟨some d, .nilCheck x, ty, pos, af, g⟩ :: os) e w :=
 L.val hw hd (fun a ha => by simp [execOp, ha.ev hx]) h
theorem L.len {x : Operand} {T E : TypeId} {m : Nat} {a : Option Addr} {k c : Nat} (hT : Sl P T E m) (hw : Wt ops e g) (hx : Env.ev e x = some (.slice a k c)) (hd : Nat.blt d n = true)
  (h : L Φ P Q n ops os ((d, .int .i64 (k : Int)) :: e) w) : L Φ P Q n ops (⟨some d, .call { callee := .builtin .len, args := #[x], argTypes := #[T] }, ty, pos, af, g⟩ :: os) e w :=
 L.val hw hd (fun ac ha => by simp [execOp, resolve, invoke, builtin, Builtin.len_, ha.ev hx, run_underlying hT.und, goInt]) h
theorem L.fa {S : TypeId} {x : Operand} {f o b off : Nat} (hF : FA P S f o) (hw : Wt ops e g) (hx : Env.ev e x = some (.pointer (some ⟨b, off, none⟩))) (hd : Nat.blt d n = true)
  (h : L Φ P Q n ops os ((d, .pointer (some ⟨b, off + o, none⟩)) :: e) w) : L Φ P Q n ops (⟨some d, .fieldAddr S x f, ty, pos, af, g⟩ :: os) e w :=
 L.val hw hd (fun ac ha => by simp [execOp, ha.ev hx, hF w b off]) h
theorem L.mf {f : Fn} {xs ys : List Operand} {us vs : List Value} (hw : Wt ops e g) (hx : Env.evs e xs = some us) (hy : Env.evs e ys = some vs) (hd : Nat.blt d n = true)
  (h : L Φ P Q n ops os ((d, .func f us.toArray vs.toArray) :: e) w) : L Φ P Q n ops (⟨some d, .makeFunc f xs.toArray ys.toArray, ty, pos, af, g⟩ :: os) e w :=
 L.val hw hd (fun ac ha => by simp [execOp, Instr.makeFunc, List.map_toArray, ha.evs hx, ha.evs hy]) h
theorem L.bd {T : TypeId} {xs : List (Nat × Operand)} {ps : List (Nat × Value)} {cs : Array Value} (hw : Wt ops e g) (hx : Env.evp e xs = some ps) (hb : P.built T ps = some cs) (hd : Nat.blt d n = true)
  (h : L Φ P Q n ops os ((d, .agg cs) :: e) w) : L Φ P Q n ops (⟨some d, .build T xs.toArray, ty, pos, af, g⟩ :: os) e w :=
 L.val hw hd (fun ac ha => by
  have h2 : (xs.toArray.map fun (i, x) => (i, ac.eval x)) = ps.toArray := by rw [List.map_toArray, ← ha.evp hx]
  simp only [execOp]
  rw [h2]
  simp [run_build (P := P) w T ps.toArray cs (by simpa using hb)]) h
theorem L.ld {T : TypeId} {x : Operand} {t b off j o : Nat} {c : List Value} {v : Value} (hm : Mem s t b off c) (hT : NAg P T) (hw : Wt ops e g) (hx : Env.ev e x = some (.pointer (some ⟨b, o, none⟩))) (ho : o = off + j) (hc : c[j]? = some v) (hd : Nat.blt d n = true)
  (h : L Φ P Q n ops os ((d, v) :: e) s.w) : L Φ P Q n ops (⟨some d, .load T x, ty, pos, af, g⟩ :: os) e s.w :=
 L.val hw hd (fun ac ha => by
  subst ho
  obtain ⟨hj, e⟩ := List.getElem?_eq_some_iff.1 hc
  have h1 := hm.cell j hj
  rw [e] at h1
  simp [execOp, Instr.loadAt, Instr.sureAddr, loadVar, ha.ev hx, hT.agg, load, Sem.run, h1]) h
theorem L.lg {T : TypeId} {x : Operand} {t b off j o m : Nat} {c cs : List Value} (hm : Mem s t b off c) (hT : Ag P T m) (hw : Wt ops e g) (hx : Env.ev e x = some (.pointer (some ⟨b, o, none⟩))) (ho : o = off + j) (hc : (c.drop j).take m = cs) (hl : cs.length = m) (hd : Nat.blt d n = true)
  (h : L Φ P Q n ops os ((d, .agg cs.toArray) :: e) s.w) : L Φ P Q n ops (⟨some d, .load T x, ty, pos, af, g⟩ :: os) e s.w :=
 L.val hw hd (fun ac ha => by
  subst ho
  subst hc
  have h1 : (loadCells ⟨b, off + j, none⟩ ((c.drop j).take m).length).run P s.w = .ok ((c.drop j).take m).toArray s.w := by
   refine run_loadCells_list (P := P) s.w ⟨b, off + j, none⟩ _ fun i v hv => ?_
   rw [Addr.add_lit]
   rw [List.getElem?_take] at hv
   split at hv
   ·rw [List.getElem?_drop] at hv
    obtain ⟨hj, e⟩ := List.getElem?_eq_some_iff.1 hv
    have h2 := hm.cell (j + i) hj
    rw [e] at h2
    rw [← h2]
    show s.w.cell? ⟨b, off + j + i, none⟩ = s.w.cell? ⟨b, off + (j + i), none⟩
    rw [Nat.add_assoc]
   ·cases hv
  rw [hl] at h1
  simp [execOp, Instr.loadAt, Instr.sureAddr, loadVar, ha.ev hx, hT.agg, hT.sz, h1]) h
theorem L.box {T : TypeId} {x : Operand} {v : Value} {cs : Array Value} (t : Nat) (hw : Wt ops e g) (hx : Env.ev e x = some v) (hc : v.cells = cs) (hd : Nat.blt d n = true)
  (h : ∀ b s', Mv No s s' → Bx s' t b cs T → L Φ P Q n ops os ((d, .pointer (some ⟨b, 0, none⟩)) :: e) s'.w) : L Φ P Q n ops (⟨some d, .box T x, ty, pos, af, g⟩ :: os) e s.w := by
 subst hc
 refine L.val hw hd (v := .pointer (some ⟨s.w.heap.size, 0, none⟩)) (w' := s.w.alloc (.cells v.cells T)) (fun ac ha => by simp [execOp, Instr.box, newVar, newRow, ha.ev hx]) ?_
 refine h s.w.heap.size ⟨s.w.alloc (.cells v.cells T), tagUp s.tag s.w.heap.size t⟩ ?_ ⟨heap_alloc_new s.w _, tagUp_at _ _ _⟩
 exact ⟨rfl, rfl, rfl, by simp, fun b hb _ => ⟨heap_alloc_old s.w _ hb, tagUp_lt hb⟩⟩
theorem L.al {T : TypeId} {z : Value} {cs : Array Value} (t : Nat) (hz : (P.info? T).bind (·.zero) = some z) (hc : z.cells = cs) (hw : Wt ops e g) (hd : Nat.blt d n = true)
  (h : ∀ b s', Mv No s s' → Bx s' t b cs T → L Φ P Q n ops os ((d, .pointer (some ⟨b, 0, none⟩)) :: e) s'.w) : L Φ P Q n ops (⟨some d, .alloc T, ty, pos, af, g⟩ :: os) e s.w := by
 subst hc
 have hz' : ∀ w, (zeroValue T).run P w = .ok z w := fun w => by
  cases hi : P.info? T with
  | none => simp [hi] at hz
  | some i => simp [hi] at hz; simp [zeroValue, typeInfo, hi, hz]
 refine L.val hw hd (v := .pointer (some ⟨s.w.heap.size, 0, none⟩)) (w' := s.w.alloc (.cells z.cells T)) (fun ac ha => by simp [execOp, Instr.alloc, hz', newVar, newRow]) ?_
 refine h s.w.heap.size ⟨s.w.alloc (.cells z.cells T), tagUp s.tag s.w.heap.size t⟩ ?_ ⟨heap_alloc_new s.w _, tagUp_at _ _ _⟩
 exact ⟨rfl, rfl, rfl, by simp, fun b hb _ => ⟨heap_alloc_old s.w _ hb, tagUp_lt hb⟩⟩
theorem L.bs {T E : TypeId} {k : Nat} {xs : List (Nat × Operand)} {ps : List (Nat × Value)} {ie : TypeInfo} {z : Value} {cs : Array Value} (t : Nat) (hu : P.underlying T = some (.slice E)) (hie : P.info? E = some ie) (hz : ie.zero = some z) (hs : ¬ k * ie.size > 2 ^ 24) (h0 : ¬ k * ie.size = 0)
  (hw : Wt ops e g) (hx : Env.evp e xs = some ps) (hb : Instr.fill (fun i => some (i * ie.size, ie.size)) ((Array.range (k * ie.size)).map (z.cells[· % z.cells.size]!)) ps = some cs) (hd : Nat.blt d n = true)
  (h : ∀ b s', Mv No s s' → Bx s' t b cs E → L Φ P Q n ops os ((d, .slice (some ⟨b, 0, none⟩) k k) :: e) s'.w) : L Φ P Q n ops (⟨some d, .buildSlice T k xs.toArray, ty, pos, af, g⟩ :: os) e s.w := by
 refine L.val hw hd (v := .slice (some ⟨s.w.heap.size, 0, none⟩) k k) (w' := s.w.alloc (.cells cs E)) (fun ac ha => ?_) ?_
 ·have h2 : (xs.toArray.map fun (i, x) => (i, ac.eval x)) = ps.toArray := by rw [List.map_toArray, ← ha.evp hx]
  simp only [execOp]
  rw [h2]
  simp [run_buildSlice (P := P) s.w T E k ps.toArray cs ie z hu hie hz hs h0 (by simpa using hb)]
 ·refine h s.w.heap.size ⟨s.w.alloc (.cells cs E), tagUp s.tag s.w.heap.size t⟩ ?_ ⟨heap_alloc_new s.w _, tagUp_at _ _ _⟩
  exact ⟨rfl, rfl, rfl, by simp, fun b hb _ => ⟨heap_alloc_old s.w _ hb, tagUp_lt hb⟩⟩
theorem L.st {T T' : TypeId} {x y : Operand} {t b o m : Nat} {cs cs' : Array Value} {v : Value} {c : List Value} (hbx : Bx s t b cs T') (hT : ∀ w, (sizeOf T).run P w = .ok m w) (hw : Wt ops e g) (hx : Env.ev e x = some (.pointer (some ⟨b, o, none⟩))) (hy : Env.ev e y = some v)
  (hc : v.cells.toList = c) (hm : c.length = m) (h1' : c.all Value.oneCell' = true) (hf : o + c.length ≤ cs.size) (hcs : (cs.toList.take o ++ c ++ cs.toList.drop (o + c.length)).toArray = cs')
  (h : ∀ s', Mv (One t) s s' → Bx s' t b cs' T' → L Φ P Q n ops os e s'.w) : L Φ P Q n ops (⟨none, .store T x y, ty, pos, af, g⟩ :: os) e s.w := by
 have h1 : ∀ u ∈ c, u.oneCell' = true := List.all_eq_true.1 h1'
 subst hcs
 subst hc
 have hst := run_storeCells_at P b o T' v.cells.toList 0 cs s.w hbx.heap (by simpa using hf) h1
 simp only [Nat.add_zero] at hst
 refine L.unit hw (w' := s.w.setRow b (cs.toList.take o ++ v.cells.toList ++ cs.toList.drop (o + v.cells.toList.length)).toArray) (fun ac ha => ?_) ?_
 ·have hsz : v.cells.size = m := by simpa using hm
  simp [execOp, Instr.storeAt, Instr.sureAddr, storeVar, ha.ev hx, ha.ev hy, hT, hsz]
  have hst' := hst
  simp only [Array.length_toList, hsz] at hst'
  rw [hst']
  simp
 ·refine h ⟨s.w.setRow b _, s.tag⟩ ⟨rfl, rfl, rfl, by simp, fun b' hb hn => ⟨setRow_other _ _ _ _ ?_, rfl⟩⟩ ⟨setRow_heap _ _ _ _ _ _ hbx.heap, hbx.htag⟩
  rintro rfl
  exact hn hbx.htag
end
end Go.Proofs.YtidakgbibobbdaaGreatDoor

namespace Go.Proofs.YtidakgbibobbdaaGreatDoor
open Go Go.RowKit

def app {α : Type} (xs ys : List α) : Option (List α) := if xs.length + ys.length ≤ 4294967296 then some (xs ++ ys) else none
theorem app_some {α : Type} {xs ys zs : List α} (h : app xs ys = some zs) : xs.length + ys.length ≤ 4294967296 ∧ zs = xs ++ ys := by
 unfold app at h
 split at h
 ·exact ⟨by assumption, by cases h; rfl⟩
 ·cases h
theorem app_eq {α : Type} {xs ys : List α} (h : xs.length + ys.length ≤ 4294967296) : app xs ys = some (xs ++ ys) := if_pos h
def mkL {α : Type} (n : Int) (z : α) : Option (List α) := if 0 ≤ n ∧ n ≤ 4294967296 then some (List.replicate n.toNat z) else none
theorem mkL_some {α : Type} {n : Int} {z : α} {zs : List α} (h : mkL n z = some zs) : 0 ≤ n ∧ n ≤ 4294967296 ∧ zs = List.replicate n.toNat z := by
 unfold mkL at h
 split at h
 ·rename_i g; exact ⟨g.1, g.2, by cases h; rfl⟩
 ·cases h
theorem mkL_eq {α : Type} {n : Int} {z : α} (h0 : 0 ≤ n) (h1 : n ≤ 4294967296) : mkL n z = some (List.replicate n.toNat z) := if_pos ⟨h0, h1⟩
def slc {α : Type} (xs : List α) (lo hi : Int) : Option (List α) := if 0 ≤ lo ∧ lo ≤ hi ∧ hi ≤ xs.length then some ((xs.take hi.toNat).drop lo.toNat) else none
theorem slc_some {α : Type} {xs zs : List α} {lo hi : Int} (h : slc xs lo hi = some zs) : 0 ≤ lo ∧ lo ≤ hi ∧ hi ≤ xs.length ∧ zs = (xs.take hi.toNat).drop lo.toNat := by
 unfold slc at h
 split at h
 ·rename_i g; exact ⟨g.1, g.2.1, g.2.2, by cases h; rfl⟩
 ·cases h
def upd {α : Type} (xs : List α) (i : Int) (y : α) : Option (List α) := if 0 ≤ i ∧ i < xs.length then some (xs.set i.toNat y) else none
theorem upd_some {α : Type} {xs zs : List α} {i : Int} {y : α} (h : upd xs i y = some zs) : 0 ≤ i ∧ i.toNat < xs.length ∧ zs = xs.set i.toNat y := by
 unfold upd at h
 split at h
 ·rename_i g; exact ⟨g.1, by omega, by cases h; rfl⟩
 ·cases h

def RdW {α : Type} (r : Rep α) (s : Sig) (a : Option Addr) (cap : Nat) (xs : List α) : Prop := ∃ cs, RdS s.w r.sz a xs.length cap cs ∧ Cells r s cs xs
theorem RdL.wk {α : Type} {r : Rep α} {s : Sig} {a : Option Addr} {cap : Nat} {xs : List α} (h : RdL r s a cap xs) : RdW r s a cap xs := by
 obtain ⟨cs, h1, _, h3⟩ := h; exact ⟨cs, h1, h3⟩
structure Spot (a : Option Addr) (sz k b off : Nat) : Prop where
 is : ∃ o, a = some ⟨b, o, none⟩ ∧ off = o + k * sz

structure Zr (P : Program) {α : Type} (r : Rep α) (E : TypeId) (by_ : Nat) (z : α) : Prop where
 is : ∃ i v, P.info? E = some i ∧ i.size = r.sz ∧ i.bytes = by_ ∧ i.zero = some v ∧ ∀ s, r.rd s v.cells.toList z
structure El (P : Program) (E : TypeId) (m by_ : Nat) : Prop where
 is : ∃ i v, P.info? E = some i ∧ i.size = m ∧ i.bytes = by_ ∧ i.zero = some v ∧ v.cells.size = m

def RetS (S : Nat → Prop) (s : Sig) (Post : Value → Sig → Prop) : Ending → World → Prop := fun en w' => ∃ v s', w' = s'.w ∧ en = .returned v ∧ Mv S s s' ∧ Post v s'

def Env.ofArgs : Nat → List Value → List (Nat × Value)
 | _, [] => []
 | i, v :: vs => (i, v) :: Env.ofArgs (i + 1) vs
theorem Env.get_ofArgs : ∀ {vs : List Value} {i d : Nat} {v : Value}, Env.get (Env.ofArgs i vs) d = some v → i ≤ d ∧ vs[d - i]? = some v
 | [], i, d, v, h => by cases h
 | u :: vs, i, d, v, h => by
  simp only [Env.ofArgs, Env.get] at h
  by_cases hb : Nat.beq i d = true
  ·have e : i = d := Nat.eq_of_beq_eq_true hb
   subst e
   rw [hb, cond_true, Option.some.injEq] at h
   subst h
   exact ⟨Nat.le_refl _, by simp⟩
  ·have hb' : Nat.beq i d = false := by cases h0 : Nat.beq i d <;> simp_all
   rw [hb', cond_false] at h
   obtain ⟨h1, h2⟩ := Env.get_ofArgs h
   refine ⟨by omega, ?_⟩
   rw [← h2, show d - i = (d - (i + 1)) + 1 by omega, List.getElem?_cons_succ]
theorem E.entry {P : Program} {f : FuncId} {fn : Func} {c : Code} {vs : List Value} {w : World} {R : Ending → World → Prop} {n : Nat} {e : List (Nat × Value)} (hf : P.funcs[f]? = some fn) (hb : fn.body = some c) (hn : fn.ntmps = n) (hv : Nat.ble vs.length n = true) (he : Env.ofArgs 0 vs = e)
  (h : E Fr.o P (bodyPost P fn R) n c e w) : Calls P f vs.toArray w R := by
 subst hn
 subst he
 have hv' : vs.length ≤ fn.ntmps := Nat.le_of_ble_eq_true hv
 refine calls_of_wp hf hb ((wpIn_wide (n := 2)).1 (h _ ⟨by simp; omega, rfl, fun d v hg => ?_⟩))
 obtain ⟨_, h2⟩ := Env.get_ofArgs hg
 have hl := (List.getElem?_eq_some_iff.1 h2).1
 rw [Nat.sub_zero] at h2 hl
 rw [Array.getElem?_append_left (by simpa using hl)]
 simpa using h2
def Env.rv (a : Act) : ResultVar → Sem Value
 | .tmp t => pure (a.tmps.getD t undef)
 | .cell b t => do loadVar t (← asAddr (a.tmps.getD b undef))
theorem Env.rv_run {Φ : Fr} {P : Program} {n : Nat} {e : List (Nat × Value)} {a : Act} {w : World} (ha : Fits Φ n e a) {t : Nat} {v : Value} (h : Env.get e t = some v) : (Env.rv a (.tmp t)).run P w = .ok v w := by
 simp [Env.rv, Array.getD_eq_getD_getElem?, ha.has t v h]
section
variable {Φ : Fr} {P : Program} {Q : Exit → Act → World → Prop} {n : Nat} {e : List (Nat × Value)} {w : World} {s : Sig} {ops : Array Oper} {os : List Oper} {d : Nat} {ty : TypeId} {pos : String} {af : Array Edge} {g : Option (Nat × Bool)}
variable {α : Type} {r : Rep α} {t : Nat} {T T' U : TypeId} {a : Option Addr} {cap : Nat} {xs ys : List α}

theorem L.ca {f : FuncId} {xs : List Operand} {vs : List Value} {c : Call} {S : Nat → Prop} {Post : Value → Sig → Prop} (hcf : Cf P f) (hc : c.callee = .value (.func f)) (hca : c.args = xs.toArray) (hw : Wt ops e g) (hx : Env.evs e xs = some vs)
  (hcall : Calls P f vs.toArray s.w (RetS S s Post)) (hd : Nat.blt d n = true) (h : ∀ v s', Mv S s s' → Post v s' → L Φ P Q n ops os ((d, v) :: e) s'.w) : L Φ P Q n ops (⟨some d, .call c, ty, pos, af, g⟩ :: os) e s.w :=
 L.op hw fun ac ha K hK => by
  unfold Oper.wp
  have h2 : c.args.map ac.eval = vs.toArray := by rw [hca, List.map_toArray, ha.evs hx]
  have hrun : (execOp ac.eval ⟨some d, .call c, ty, pos, af, g⟩).run P s.w = .ok (.enter f vs.toArray) s.w := by
   simp [execOp, resolve, hc, h2, Deferred.ofValue, Act.eval, invoke, hcf _ _]
  rw [hrun, Oper.upon_enter]
  refine hcall.mono fun en w' hh => ?_
  obtain ⟨v, s', rfl, rfl, h3, h4⟩ := hh
  exact hK _ _ _ (ha.put hd v) (h v s' h3 h4)
theorem L.ix {x i : Operand} {k : IntKind} {j : Int} {y : α} (hS : Sl P T U r.sz) (hR : RdL r s a cap xs) (hw : Wt ops e g) (hx : Env.ev e x = some (.slice a xs.length cap)) (hi : Env.ev e i = some (.int k j)) (hy : idx xs j = some y) (hd : Nat.blt d n = true)
  (h : ∀ b off c, Mem s 0 b off c → r.rd s c y → L Φ P Q n ops os ((d, .pointer (some ⟨b, off, none⟩)) :: e) s.w) : L Φ P Q n ops (⟨some d, .indexAddr T x i, ty, pos, af, g⟩ :: os) e s.w := by
 obtain ⟨h0, hk, rfl⟩ := idx_some hy
 obtain ⟨b, off, c, rfl, hm, hr⟩ := hR.at j.toNat hk
 refine L.val hw hd (v := .pointer (some ⟨b, off + j.toNat * r.sz, none⟩)) (fun ac ha => ?_) (h _ _ c hm hr)
 have hlt : j < xs.length := by omega
 simp [execOp, Instr.indexAt, ha.ev hx, ha.ev hi, asIntOf, run_underlying hS.und, hS.sz, h0, hlt, Addr.add_lit]
theorem L.ir {x i : Operand} {k : IntKind} {j : Int} {y : α} (hS : Sl P T U r.sz) (hR : RowT r s t T' a cap xs) (hw : Wt ops e g) (hx : Env.ev e x = some (.slice a xs.length cap)) (hi : Env.ev e i = some (.int k j)) (hy : idx xs j = some y) (hd : Nat.blt d n = true)
  (h : ∀ b off c, Mem s t b off c → r.rd s c y → Spot a r.sz j.toNat b off → L Φ P Q n ops os ((d, .pointer (some ⟨b, off, none⟩)) :: e) s.w) : L Φ P Q n ops (⟨some d, .indexAddr T x i, ty, pos, af, g⟩ :: os) e s.w := by
 obtain ⟨h0, hk, rfl⟩ := idx_some hy
 obtain ⟨cs, h1, h2⟩ := hR
 obtain ⟨b, off, cap', e', hlt, _, htag⟩ := h1.addr (by omega)
 simp only [Value.slice.injEq, true_and] at e'
 obtain ⟨rfl, rfl⟩ := e'
 have hx2 := h2.at j.toNat hk
 have hl := h1.1
 have hm := Nat.mul_le_mul_right r.sz (show j.toNat + 1 ≤ xs.length from hk)
 rw [Nat.succ_mul] at hm
 refine L.val hw hd (v := .pointer (some ⟨b, off + j.toNat * r.sz, none⟩)) (fun ac ha => ?_) (h _ _ _ ⟨fun _ => htag, fun j' hj => ?_⟩ hx2 ⟨off, rfl, rfl⟩)
 ·have hlt : j < xs.length := by omega
  simp [execOp, Instr.indexAt, ha.ev hx, ha.ev hi, asIntOf, run_underlying hS.und, hS.sz, h0, hlt, Addr.add_lit]
 ·have hj' : j' < r.sz := by rw [r.len hx2] at hj; exact hj
  rw [Nat.add_assoc, h1.cellAt (j.toNat * r.sz + j') (by omega), List.getElem_take, List.getElem_drop, List.getElem?_eq_getElem]
theorem RdS.srcs {w : World} {sz : Nat} {a : Option Addr} {len cap : Nat} {cs : List Value} (h : RdS w sz a len cap cs) : (a = none → len = 0 ∧ cap = 0) ∧ ∀ ad, a = some ad → ∀ j u, cs[j]? = some u → w.cell? (ad.add j) = some u := by
 refine ⟨fun e => ?_, fun ad e j u hu => ?_⟩
 ·have := h.hnil e; have := h.hcap; omega
 ·obtain ⟨hj, rfl⟩ := List.getElem?_eq_some_iff.1 hu
  rw [← h.cell ad e j hj]
  have := h.spot ad e
  obtain ⟨b, o, sp⟩ := ad
  simp only at this
  subst this
  rw [Addr.add_lit]
theorem L.ap {x y : Operand} {a2 : Option Addr} {cap2 by_ : Nat} {zs : List α} (hU : P.underlying T = some (.slice U)) (hE : El P U r.sz by_) (hby : Nat.ble by_ 32768 = true) (ht : Nat.blt 0 t = true) (hR : RowT r s t U a cap xs) (hY : RdW r s a2 cap2 ys)
  (hw : Wt ops e g) (hx : Env.ev e x = some (.slice a xs.length cap)) (hy : Env.ev e y = some (.slice a2 ys.length cap2)) (hl : app xs ys = some zs) (hd : Nat.blt d n = true)
  (h : ∀ a' cap' s', Mv (One t) s s' → RowT r s' t U a' cap' zs → L Φ P Q n ops os ((d, .slice a' zs.length cap') :: e) s'.w) :
  L Φ P Q n ops (⟨some d, .call { callee := .builtin .append, args := #[x, y], argTypes := #[T, T] }, ty, pos, af, g⟩ :: os) e s.w := by
 obtain ⟨hl1, rfl⟩ := app_some hl
 clear hl
 have hl := hl1
 obtain ⟨cs, h1, h2⟩ := hR
 obtain ⟨ds, g1, g3⟩ := hY
 obtain ⟨i, z, k1, k2, k3, k4, k5⟩ := hE.is
 have hby' : by_ ≤ 32768 := Nat.le_of_ble_eq_true hby
 have ht' : 0 < t := by simpa using ht
 have hbytes : (xs.length + ys.length) * by_ ≤ 140737488355328 := Nat.le_trans (Nat.mul_le_mul hl hby') (by decide)
 obtain ⟨v', w', tag', hrun, hrow, hturn⟩ := run_append_row (P := P) ty T U i z by_ hU k1 k4 k2 k3 k5 h1 a2 ys.length cap2 ds (by rw [g1.hlen]) g1.srcs.1 g1.srcs.2 g3.one (by unfold maxLen; omega) hbytes (Nat.zero_le _)
 obtain ⟨a', cap', rfl⟩ := hrow.val
 have hm : Mv (One t) s ⟨w', tag'⟩ := hturn.mv
 have hle : Le s ⟨w', tag'⟩ := hm.le (by show ¬ 0 = t; omega)
 refine L.val hw hd (v := .slice a' (xs.length + ys.length) cap') (w' := w') (fun ac ha => ?_) ?_
 ·simp [execOp, resolve, invoke, builtin, ha.ev hx, ha.ev hy, hrun]
 ·have := h a' cap' ⟨w', tag'⟩ hm ⟨cs ++ ds, by rw [List.length_append]; exact hrow, Cells.append (h2.mono hle) (g3.mono hle)⟩
  rwa [List.length_append] at this
theorem Cells.rep {z : α} {c : List Value} (hz : r.rd s c z) : ∀ k, Cells r s (List.replicate k c).flatten (List.replicate k z)
 | 0 => rfl
 | k + 1 => ⟨c, _, by rw [List.replicate_succ, List.flatten_cons], hz, Cells.rep hz k⟩
theorem made_flat {c : Array Value} : ∀ (k : Nat), (madeCells c (k * c.size)).toList = (List.replicate k c.toList).flatten := by
 intro k
 apply List.ext_getElem?
 intro i
 by_cases hc : c.size = 0
 ·have : c = #[] := Array.eq_empty_of_size_eq_zero hc
  subst this
  simp [madeCells]
 have hf : (List.replicate k c.toList).flatten = (List.replicate k ()).flatMap (fun _ => c.toList) := by simp [List.flatMap, List.map_replicate]
 rw [hf]
 by_cases hi : i < k * c.size
 ·have e1 : i = (i / c.size) * c.size + i % c.size := by rw [Nat.mul_comm]; exact (Nat.div_add_mod i c.size).symm
  have hm : i % c.size < c.size := Nat.mod_lt _ (by omega)
  have hq : i / c.size < k := (Nat.div_lt_iff_lt_mul (by omega)).2 hi
  have h2 := flat_at (fun _ : Unit => c.toList) c.size (fun _ => by simp) (List.replicate k ()) (i / c.size) (i % c.size) (by simpa using hq) hm
  rw [← e1] at h2
  rw [h2]
  simp [madeCells, hi, hm]
 ·rw [List.getElem?_eq_none (by simp [madeCells]; omega), List.getElem?_eq_none (by rw [flat_length _ c.size (fun _ => by simp)]; simp; omega)]
theorem L.mk {x y : Operand} {k k' : IntKind} {j : Int} {by_ : Nat} {z : α} {zs : List α} (t : Nat) (hU : P.underlying T = some (.slice U)) (hZ : Zr P r U by_ z) (hby : Nat.ble by_ 32768 = true)
  (hw : Wt ops e g) (hx : Env.ev e x = some (.int k j)) (hy : Env.ev e y = some (.int k' j)) (hl : mkL j z = some zs) (hd : Nat.blt d n = true)
  (h : ∀ b s', Mv No s s' → RowT r s' t U (some ⟨b, 0, none⟩) zs.length zs → L Φ P Q n ops os ((d, .slice (some ⟨b, 0, none⟩) zs.length zs.length) :: e) s'.w) :
  L Φ P Q n ops (⟨some d, .makeSlice T x y, ty, pos, af, g⟩ :: os) e s.w := by
 obtain ⟨h0, h1, rfl⟩ := mkL_some hl
 obtain ⟨i, v, k1, k2, k3, k4, k5⟩ := hZ.is
 have hby' : by_ ≤ 32768 := Nat.le_of_ble_eq_true hby
 obtain ⟨m, rfl⟩ : ∃ m : Nat, j = m := ⟨j.toNat, by omega⟩
 have hm32 : m ≤ 4294967296 := by omega
 simp only [Int.toNat_natCast] at h ⊢
 have hbytes : i.bytes * m ≤ 281474976710656 := by
  rw [k3]; exact Nat.le_trans (Nat.mul_le_mul hby' hm32) (by decide)
 have hr := run_make (P := P) s.w T U i v hU k1 k4 k k' m m (by omega) (Int.le_refl _) (by rw [← Int.natCast_mul]; omega) (by omega)
 simp only [Int.toNat_natCast] at hr
 have hvs : v.cells.size = r.sz := by have := r.len (k5 s); simpa using this
 refine L.val hw hd (v := .slice (some ⟨s.w.heap.size, 0, none⟩) m m) (w' := s.w.alloc (.cells (madeCells v.cells (m * i.size)) U)) (fun ac ha => ?_) ?_
 ·simp [execOp, ha.ev hx, ha.ev hy, hr]
 ·have hmv : Mv No s ⟨s.w.alloc (.cells (madeCells v.cells (m * i.size)) U), tagUp s.tag s.w.heap.size t⟩ := ⟨rfl, rfl, rfl, by simp, fun b hb _ => ⟨heap_alloc_old s.w _ hb, tagUp_lt hb⟩⟩
  have hrow := Bx.row (r := r) (s := ⟨s.w.alloc (.cells (madeCells v.cells (m * i.size)) U), tagUp s.tag s.w.heap.size t⟩) (t := t) (T := U) (xs := List.replicate m z) ⟨heap_alloc_new s.w _, tagUp_at _ _ _⟩ (by
   rw [k2, ← hvs, made_flat]
   exact Cells.rep (k5 _) m) (by simp [maxLen]; omega)
  have := h _ _ hmv hrow
  simpa using this
theorem get_splice {β : Type} {l c : List β} {i : Nat} (h : i + c.length ≤ l.length) (j : Nat) : (l.take i ++ c ++ l.drop (i + c.length))[j]? = if i ≤ j ∧ j < i + c.length then c[j - i]? else l[j]? := by
 have hi : (l.take i).length = i := by rw [List.length_take]; omega
 by_cases h1 : j < i
 ·rw [if_neg (by omega), List.append_assoc, List.getElem?_append_left (by omega), List.getElem?_take, if_pos h1]
 ·by_cases h2 : j < i + c.length
  ·rw [if_pos ⟨by omega, h2⟩, List.getElem?_append_left (by rw [List.length_append]; omega), List.getElem?_append_right (by omega), hi]
  ·rw [if_neg (by omega), List.getElem?_append_right (by rw [List.length_append]; omega), List.length_append, hi, List.getElem?_drop]
   congr 1; omega
theorem splice_len {β : Type} {l c : List β} {i : Nat} (h : i + c.length ≤ l.length) : (l.take i ++ c ++ l.drop (i + c.length)).length = l.length := by
 simp only [List.length_append, List.length_take, List.length_drop]; omega
theorem L.sr {x y : Operand} {b o fo m k : Nat} {v : Value} {c : List Value} {z : α} (hR : RowT r s t T' a cap xs) (hsp : Spot a r.sz k b o) (hk : k < xs.length) (ht : Nat.blt 0 t = true) (hT : ∀ w, (sizeOf T).run P w = .ok m w)
  (hw : Wt ops e g) (hx : Env.ev e x = some (.pointer (some ⟨b, o + fo, none⟩))) (hy : Env.ev e y = some v) (hc : v.cells.toList = c) (hm : c.length = m) (hfo : Nat.ble (fo + m) r.sz = true) (h1 : ∀ u ∈ c, u.oneCell' = true)
  (hz : ∀ c0, r.rd s c0 xs[k] → r.rd s (c0.take fo ++ c ++ c0.drop (fo + c.length)) z)
  (h : ∀ s', Mv (One t) s s' → RowT r s' t T' a cap (xs.set k z) → L Φ P Q n ops os e s'.w) : L Φ P Q n ops (⟨none, .store T x y, ty, pos, af, g⟩ :: os) e s.w := by
 subst hc
 obtain ⟨cs, h2, h3⟩ := hR
 obtain ⟨o', rfl, rfl⟩ := hsp.is
 have ht' : 0 < t := by simpa using ht
 have hfo' : fo + m ≤ r.sz := Nat.le_of_ble_eq_true hfo
 rcases h2.2 with ⟨e', _⟩ | ⟨b', off', cap', cur, e', ho, q1, q2, q3, q4⟩
 ·simp at e'
 simp only [Value.slice.injEq, Option.some.injEq, Addr.mk.injEq, and_true, true_and] at e'
 obtain ⟨⟨rfl, rfl⟩, rfl⟩ := e'
 have hkm := Nat.mul_le_mul_right r.sz (show k + 1 ≤ xs.length from hk)
 rw [Nat.succ_mul] at hkm
 have hcm := Nat.mul_le_mul_right r.sz q1
 have hst := run_storeCells_at P b (o' + k * r.sz + fo) T' v.cells.toList 0 cur s.w ho.heap (by omega) h1
 simp only [Nat.add_zero] at hst
 refine L.unit hw (w' := s.w.setRow b (cur.toList.take (o' + k * r.sz + fo) ++ v.cells.toList ++ cur.toList.drop (o' + k * r.sz + fo + v.cells.toList.length)).toArray) (fun ac ha => ?_) ?_
 ·have hsz : v.cells.size = m := by simpa using hm
  simp [execOp, Instr.storeAt, Instr.sureAddr, storeVar, ha.ev hx, ha.ev hy, hT, hsz]
  have hst' := hst
  simp only [Array.length_toList, hsz] at hst'
  rw [hst']
  simp
 ·have hmv : Mv (One t) s ⟨s.w.setRow b (cur.toList.take (o' + k * r.sz + fo) ++ v.cells.toList ++ cur.toList.drop (o' + k * r.sz + fo + v.cells.toList.length)).toArray, s.tag⟩ :=
   ⟨rfl, rfl, rfl, by simp, fun b' hb hn => ⟨setRow_other _ _ _ _ (by rintro rfl; exact hn ho.htag), rfl⟩⟩
  refine h _ hmv ?_
  have hle := hmv.le (show ¬ One t 0 from fun e => by rw [← e] at ht'; exact absurd ht' (Nat.lt_irrefl _))
  have hset := Cells.set h3 k (hz _ (h3.at k hk)) hk
  refine ⟨_, ⟨?_, .inr ⟨b, o', cap, _, rfl, ⟨setRow_heap _ _ _ _ _ _ ho.heap, ho.htag, ho.base⟩, by simpa using q1, q2, ?_, ?_⟩⟩, hset.mono hle⟩
  ·rw [hset.len, List.length_set]
  ·simp only [List.size_toArray, List.length_append, List.length_take, List.length_drop, Array.length_toList] at hm ⊢
   omega
  ·have hcs : cs.length = xs.length * r.sz := h2.1
   have hc0 : ((cs.drop (k * r.sz)).take r.sz).length = r.sz := by rw [List.length_take, List.length_drop]; omega
   have hmid := splice_len (l := (cs.drop (k * r.sz)).take r.sz) (c := v.cells.toList) (i := fo) (by omega)
   have hcl : cur.toList.length = cur.size := Array.length_toList
   apply List.ext_getElem?
   intro j
   rw [get_splice (by rw [hmid, hc0]; omega)]
   simp only [List.getElem?_take, List.getElem?_drop]
   rw [get_splice (by omega)]
   have hcur : ∀ i, i < xs.length * r.sz → cs[i]? = cur.toList[o' + i]? := fun i hi => by rw [← q4, List.getElem?_take, if_pos hi, List.getElem?_drop]
   rw [List.length_set]
   by_cases hj : j < xs.length * r.sz
   ·rw [if_pos hj]
    by_cases hj2 : k * r.sz ≤ j ∧ j < k * r.sz + r.sz
    ·rw [hmid, hc0, if_pos hj2, get_splice (by omega)]
     by_cases hj3 : fo ≤ j - k * r.sz ∧ j - k * r.sz < fo + v.cells.toList.length
     ·rw [if_pos (by omega), if_pos hj3]
      congr 1; omega
     ·rw [if_neg (by omega), if_neg hj3, List.getElem?_take, if_pos (by omega), List.getElem?_drop, hcur _ (by omega)]
      congr 1; omega
    ·rw [hmid, hc0, if_neg hj2, if_neg (by omega), hcur _ hj]
   ·rw [if_neg hj, hmid, hc0, if_neg (by omega), List.getElem?_eq_none (by omega)]
end
end Go.Proofs.YtidakgbibobbdaaGreatDoor

namespace Go.Proofs.YtidakgbibobbdaaGreatDoor
open Go Go.RowKit

theorem count_falses : ∀ {l : List Bool} {i : Nat}, i < l.length → l.getD i true = false → (l.set i true).count false + 1 = l.count false
 | [], _, h, _ => by simp at h
 | a :: l, 0, _, h => by simp at h; subst h; simp
 | a :: l, i + 1, h, h2 => by
  rw [List.set_cons_succ, List.count_cons, List.count_cons]
  have := count_falses (l := l) (i := i) (by simpa using h) (by simpa using h2)
  omega

end Go.Proofs.YtidakgbibobbdaaGreatDoor

namespace Go.Proofs.YtidakgbibobbdaaGreatDoor
open Go Go.RowKit

def afterC (ops : Array Oper) : Bool := (List.range ops.size).all fun j => ((ops[j]?).map fun o => o.after.all fun e => !Region.binds .any e || decide (e.on < j)).getD true

section
variable {P : Program} {ops : Array Oper} {Q : Exit → Act → World → Prop}

theorem all_of_ready2 (hB : afterC ops = true) {listed : Array Bool} (hr : Region.ready .any ops listed = []) : ∀ j, j < ops.size → listed.getD j true = true := by
 intro j
 induction j using Nat.strongRecOn with
 | _ j ih =>
  intro hj
  by_cases h : listed.getD j true = true
  ·exact h
  ·exfalso
   have hf : listed.getD j true = false := by simpa using h
   have : j ∈ Region.ready .any ops listed := by
    refine mem_ready.2 ⟨hf, ops[j], Array.getElem?_eq_getElem hj, fun e he hbd => ?_⟩
    have h1 := List.all_eq_true.1 hB j (List.mem_range.2 hj)
    rw [Array.getElem?_eq_getElem hj] at h1
    simp only [Option.map_some, Option.getD_some] at h1
    have h2 := Array.all_eq_true_iff_forall_mem.1 h1 e he
    simp only [hbd, Bool.not_true, Bool.false_or, decide_eq_true_eq] at h2
    have h3 := ih e.on h2 (by omega)
    have hlt : e.on < listed.size := by
     have hjs : j < listed.size := by
      rcases Nat.lt_or_ge j listed.size with h' | h'
      ·exact h'
      ·rw [Array.getD_eq_getD_getElem?, Array.getElem?_eq_none h'] at hf; cases hf
     omega
    rw [Array.getD_eq_getD_getElem?, Array.getElem?_eq_getElem hlt] at h3 ⊢
    exact h3
   rw [hr] at this
   cases this

end
end Go.Proofs.YtidakgbibobbdaaGreatDoor

namespace Go.Proofs.YtidakgbibobbdaaGreatDoor
open Go Go.RowKit

theorem bindS {α β : Type} {o : Option α} {f : α → Option β} {r : β} (h : o.bind f = some r) : ∃ x, o = some x ∧ f x = some r := Option.bind_eq_some_iff.1 h
theorem ifS {β : Type} {c : Bool} {x y : Option β} {r : β} (h : (if c = true then x else y) = some r) : (c = true ∧ x = some r) ∨ (c = false ∧ y = some r) := by
 cases c
 ·exact .inr ⟨rfl, h⟩
 ·exact .inl ⟨rfl, h⟩
theorem tgN {N i j : Nat} (h : Nat.beq i j = false) : ¬ One (N + i) (N + j) := fun e => by
 have : N + j = N + i := e
 have : i = j := by omega
 subst this
 simp at h
theorem tg0 {N i : Nat} (h : 0 < N) : ¬ One (N + i) 0 := fun e => by
 have : 0 = N + i := e
 omega
theorem tgp {N i : Nat} (h : 0 < N) : Nat.blt 0 (N + i) = true := by simp; omega
theorem tgn {N i : Nat} (h : 0 < N) : N + i ≠ 0 := by omega
abbrev Up (N : Nat) (S : Nat → Prop) : Nat → Prop := fun t => N ≤ t ∨ S t
theorem up {N i : Nat} {S : Nat → Prop} : Up N S (N + i) := .inl (Nat.le_add_right _ _)
section
variable {Φ : Fr} {P : Program} {Q : Exit → Act → World → Prop} {n : Nat} {e e' : List (Nat × Value)} {w : World}
theorem X.sub {x : Exit} (h : X Φ Q n x e' w) (hs : Sub e' e) : X Φ Q n x e w := fun a ha => h a (ha.sub hs)
theorem E.seqJ {x y : Code} (J : List (Nat × Value) → World → Prop) (hy : ∀ e w, J e w → E Φ P Q n y e w)
  (h : (∀ e w, J e w → X Φ (Exit.then (y.wpIn Φ.f 2 P Q) Q) n .normal e w) → E Φ P (Exit.then (y.wpIn Φ.f 2 P Q) Q) n x e w) : E Φ P Q n (.seq x y) e w :=
 E.seq (h fun e w hj => X.seqN (hy e w hj))
theorem E.cut {x : Exit} {c : Code} (J : List (Nat × Value) → World → Prop) (hj : ∀ e w, J e w → X Φ Q n x e w) (h : (∀ e w, J e w → X Φ Q n x e w) → E Φ P Q n c e w) : E Φ P Q n c e w := h hj
theorem Iter.ind {S O : Type} {f : S → Option (S ⊕ O)} {o : O} {motive : S → Prop}
  (h : ∀ st res, f st = some res → (∀ st', res = .inl st' → motive st') → (∀ o', res = .inr o' → o' = o) → motive st) : ∀ {st}, Iter f st o → motive st := by
 intro st hi
 induction hi with
 | next h1 _ ih => exact h _ _ h1 (fun st' e => by cases e; exact ih (fun st res a b c => h st res a b c)) (fun o' e => by cases e)
 | out h1 => exact h _ _ h1 (fun st' e => by cases e) (fun o' e => by cases e; rfl)
theorem E.iter {S O : Type} {f : S → Option (S ⊕ O)} {o : O} {st0 : S} {c : Code} (I : S → List (Nat × Value) → World → Prop) (hi : iter f st0 = some o) (h0 : I st0 e' w) (hs : Sub e' e)
  (round : ∀ st res, f st = some res → (∀ st', res = .inl st' → ∀ e w, I st' e w → X Φ (Exit.then (LW Φ P Q c) Q) n .normal e w) → (∀ o', res = .inr o' → o' = o) → ∀ e w, I st e w → E Φ P (Exit.then (LW Φ P Q c) Q) n c e w) : E Φ P Q n (.loop c) e w := by
 refine E.loop (H.sub hs ?_)
 exact Iter.ind (motive := fun st => ∀ e w, I st e w → H Φ P Q n c e w) (fun st res h1 h2 h3 e w hI => H.round (round st res h1 (fun st' e' e w hI => X.again (h2 st' e' e w hI)) h3 e w hI)) (iter_some hi) _ _ h0
theorem L.toR {ops : Array Oper} {os : List Oper} {s s' : Sig} (hw : s'.w = s.w) (h : L Φ P Q n ops os e s'.w) : L Φ P Q n ops os e s.w := hw ▸ h
end

inductive Rs (P : Program) (e : List (Nat × Value)) (s : Sig) : List ResultVar → List Value → Prop
 | nil : Rs P e s [] []
 | tmp {t : Nat} {v : Value} {rs : List ResultVar} {vs : List Value} : Env.get e t = some v → Rs P e s rs vs → Rs P e s (.tmp t :: rs) (v :: vs)
 | cell {a b t m : Nat} {cs : Array Value} {T T' : TypeId} {rs : List ResultVar} {vs : List Value} : Env.get e a = some (.pointer (some ⟨b, 0, none⟩)) → Bx s t b cs T' → Ag P T m → cs.size = m → Rs P e s rs vs → Rs P e s (.cell a T :: rs) (.agg cs :: vs)
 | one {a b t : Nat} {v : Value} {T T' : TypeId} {rs : List ResultVar} {vs : List Value} : Env.get e a = some (.pointer (some ⟨b, 0, none⟩)) → Bx s t b #[v] T' → NAg P T → Rs P e s rs vs → Rs P e s (.cell a T :: rs) (v :: vs)
theorem Rs.run {Φ : Fr} {P : Program} {n : Nat} {e : List (Nat × Value)} {s : Sig} {a : Act} (ha : Fits Φ n e a) : ∀ {rs : List ResultVar} {vs : List Value}, Rs P e s rs vs → (rs.mapM (Env.rv a)).run P s.w = .ok vs s.w := by
 intro rs vs h
 induction h with
 | nil => rfl
 | tmp h1 _ ih => simp [List.mapM_cons, Env.rv_run ha h1, ih]
 | @cell a0 b t m cs T T' rs vs h1 h2 h3 h4 _ ih =>
  have hl : (loadCells ⟨b, 0, none⟩ cs.toList.length).run P s.w = .ok cs.toList.toArray s.w := by
   refine run_loadCells_list (P := P) s.w ⟨b, 0, none⟩ _ fun i v hv => ?_
   rw [Addr.add_lit]
   have := h2.mem.cell i (List.getElem?_eq_some_iff.1 hv).1
   rw [this, (List.getElem?_eq_some_iff.1 hv).2]
  simp only [Array.length_toList, Array.toArray_toList, h4] at hl
  have : (Env.rv a (.cell a0 T)).run P s.w = .ok (.agg cs) s.w := by
   simp [Env.rv, Array.getD_eq_getD_getElem?, ha.has _ _ h1, asAddr, loadVar, h3.agg, h3.sz, hl]
  simp [List.mapM_cons, this, ih]
 | @one a0 b t v T T' rs vs h1 h2 h3 _ ih =>
  have hl := h2.mem.cell 0 (by simp)
  have : (Env.rv a (.cell a0 T)).run P s.w = .ok v s.w := by
   simp [Env.rv, Array.getD_eq_getD_getElem?, ha.has _ _ h1, asAddr, loadVar, h3.agg, load, Sem.run] at hl ⊢
   simp [hl]
  simp [List.mapM_cons, this, ih]
theorem X.rt {P : Program} {fn : Func} {R : Ending → World → Prop} {n : Nat} {e : List (Nat × Value)} {s : Sig} {rs : List ResultVar} {vs : List Value} {v : Value} {x : Exit} (hx : x = .ret ∨ x = .normal) (hr : fn.results = rs.toArray) (hv : Rs P e s rs vs)
  (hv2 : (if h : vs.toArray.size = 1 then vs.toArray[0] else .tuple vs.toArray) = v) (h : R (.returned v) s.w) : X Fr.o (bodyPost P fn R) n x e s.w := fun a ha => by
 have h1 : (results fn a.tmps).run P s.w = .ok v s.w := by
  have h2 := hv.run (P := P) ha
  have h3 : results fn a.tmps = (do
   let vs ← rs.toArray.mapM (Env.rv a)
   pure (if h : vs.size = 1 then vs[0] else .tuple vs)) := by
   unfold results
   rw [hr]
   rfl
  rw [h3, List.mapM_toArray]
  simp [h2]
  exact hv2
 rcases hx with rfl | rfl
 ·exact ⟨ha.defers, v, h1, h⟩
 ·exact ⟨ha.defers, v, h1, h⟩
end Go.Proofs.YtidakgbibobbdaaGreatDoor

namespace Go.Proofs.YtidakgbibobbdaaGreatDoor
open Go Go.RowKit

theorem orT {c t : Bool} (h : c = true) : true = (c || t) := by subst h; rfl
theorem orF {c t : Bool} (h : c = false) : t = (c || t) := by subst h; rfl
theorem andT {c t : Bool} (h : c = true) : t = (c && t) := by subst h; rfl
theorem andF {c t : Bool} (h : c = false) : false = (c && t) := by subst h; rfl
abbrev W (x : Int) : Int := IntKind.i64.wrap x
theorem Sub.refl {e : List (Nat × Value)} : Sub e e := fun _ _ h => h
section
variable {Φ : Fr} {P : Program} {Q : Exit → Act → World → Prop} {n : Nat} {e : List (Nat × Value)} {w : World} {s : Sig} {ops : Array Oper} {os : List Oper} {d : Nat} {ty : TypeId} {pos : String} {af : Array Edge} {g : Option (Nat × Bool)}
variable {α : Type} {r : Rep α} {t : Nat} {T T' U : TypeId} {a : Option Addr} {cap : Nat} {xs ys : List α}
theorem L.know {d : Nat} {c b : Bool} (h : Env.get e d = some (.bool c)) (hc : c = b) (h2 : L Φ P Q n ops os ((d, .bool b) :: e) w) : L Φ P Q n ops os e w := by
 subst hc
 exact L.sub (Sub.cons h Sub.refl) h2
theorem L.cut (k : Nat) (J : List (Nat × Value) → World → Prop) (hj : ∀ e w, J e w → L Φ P Q n ops (os.drop k) e w) (h : (∀ e w, J e w → L Φ P Q n ops (os.drop k) e w) → L Φ P Q n ops os e w) : L Φ P Q n ops os e w := h hj
theorem L.skipU {d : Nat} {op : Op} {ty : TypeId} {pos : String} {af : Array Edge} {j s : Nat} {b : Bool} (h1 : (ops[j]?).bind (·.dst) = some s) (h2 : Env.get e s = some undef) (hd : Nat.blt d n = true)
  (h : L Φ P Q n ops os ((d, undef) :: e) w) : L Φ P Q n ops (⟨some d, op, ty, pos, af, some (j, b)⟩ :: os) e w := fun is his a ha => by
 cases is with
 | nil => cases his
 | cons i rest =>
  simp only [List.map_cons, List.cons.injEq] at his
  obtain ⟨g1, g2⟩ := his
  simp only [wpOpsIn, g1]
  rw [if_neg (by unfold Region.wanted; simp [yielded, h1, ha.has s _ h2, undef])]
  exact ⟨fun _ _ => trivial, h rest g2 _ (ha.put hd undef)⟩
theorem Sl.elem {m : Nat} (h : Sl P T U m) : P.elem T = U := by simp [Program.elem, h.und]
theorem RdL.part (h : RdL r s a cap xs) {lo hi : Nat} (h1 : lo ≤ hi) (h2 : hi ≤ xs.length) : RdL r s (if cap = lo then a else a.map (·.add (lo * r.sz))) (cap - lo) ((xs.take hi).drop lo) := by
 obtain ⟨cs, g1, g2, g3⟩ := h
 have hl : ((xs.take hi).drop lo).length = hi - lo := by rw [List.length_drop, List.length_take, Nat.min_eq_left h2]
 have e1 : xs = xs.take hi ++ xs.drop hi := (List.take_append_drop hi xs).symm
 rw [e1] at g3
 obtain ⟨k1, _⟩ := g3.split
 have e2 : xs.take hi = (xs.take hi).take lo ++ (xs.take hi).drop lo := (List.take_append_drop lo _).symm
 rw [e2] at k1
 obtain ⟨_, k2⟩ := k1.split
 rw [List.length_take, List.length_take, Nat.min_eq_left h2, Nat.min_eq_left h1] at k2
 rw [← e2, List.length_take, Nat.min_eq_left h2] at k2
 have hlen := k2.len
 have hcs := g1.hlen
 have m1 := Nat.mul_le_mul_right r.sz h1
 have m2 := Nat.mul_le_mul_right r.sz h2
 have hcap := g1.hcap
 refine ⟨_, ⟨hlen, by rw [hl]; omega, Nat.le_trans (Nat.sub_le _ _) g1.hmax, fun e => ?_, fun ad e => ?_, fun ad e j hj => ?_⟩, fun ad e h0 => ?_, k2⟩
 ·split at e
  ·omega
  ·cases a with
   | none => have := g1.hnil rfl; omega
   | some ad => cases e
 ·split at e
  ·exact g1.spot ad e
  ·cases a with
   | none => cases e
   | some ad0 => 
    simp only [Option.map_some, Option.some.injEq] at e
    obtain ⟨b, o, sp⟩ := ad0
    have := g1.spot _ rfl
    simp only at this
    subst this
    rw [Addr.add_lit] at e
    subst e
    rfl
 ·have hj' : j < (hi - lo) * r.sz := by rw [hlen, hl] at hj; exact hj
  have hne : ¬ cap = lo := by
   intro hc
   have : hi - lo = 0 := by omega
   rw [this] at hj'; omega
  rw [if_neg hne] at e
  cases a with
  | none => cases e
  | some ad0 =>
   simp only [Option.map_some, Option.some.injEq] at e
   obtain ⟨b, o, sp⟩ := ad0
   have := g1.spot _ rfl
   simp only at this
   subst this
   rw [Addr.add_lit] at e
   subst e
   have hlt : lo * r.sz + j < cs.length := by rw [Nat.sub_mul] at hj'; omega
   have := g1.cell _ rfl (lo * r.sz + j) hlt
   simp only at this ⊢
   rw [Nat.add_assoc, this]
   simp
 ·have hj' : 0 < (hi - lo) * r.sz := by rw [hlen, hl] at h0; exact h0
  have hne : ¬ cap = lo := by
   intro hc
   have : hi - lo = 0 := by omega
   rw [this] at hj'; omega
  rw [if_neg hne] at e
  cases a with
  | none => cases e
  | some ad0 =>
   simp only [Option.map_some, Option.some.injEq] at e
   obtain ⟨b, o, sp⟩ := ad0
   have := g1.spot _ rfl
   simp only at this
   subst this
   rw [Addr.add_lit] at e
   subst e
   refine g2 ⟨b, o, none⟩ rfl ?_
   rw [Nat.sub_mul] at hj'; omega
theorem L.sh {x hi : Operand} {k' : IntKind} {j : Int} {zs : List α} (hS : Sl P T U r.sz) (hR : RdL r s a cap xs) (hw : Wt ops e g) (hx : Env.ev e x = some (.slice a xs.length cap)) (hj : Env.ev e hi = some (.int k' j)) (hz : slc xs 0 j = some zs) (hd : Nat.blt d n = true)
  (h : ∀ a' cap', RdL r s a' cap' zs → L Φ P Q n ops os ((d, .slice a' zs.length cap') :: e) s.w) : L Φ P Q n ops (⟨some d, .slice T x none (some hi) none, ty, pos, af, g⟩ :: os) e s.w := by
 obtain ⟨h0, h1, h2, rfl⟩ := slc_some hz
 have hl : ((xs.take j.toNat).drop (0 : Int).toNat).length = j.toNat - 0 := by rw [List.length_drop, List.length_take]; simp; omega
 have hp := hR.part (lo := (0 : Int).toNat) (hi := j.toNat) (by simp) (by omega)
 have hcap : xs.length ≤ cap := by obtain ⟨cs, g1, _⟩ := hR; exact g1.hcap
 refine L.val hw hd (fun ac ha => ?_) (h _ _ hp)
 have hr := run_slice_h (P := P) s.w T a xs.length cap (by rw [hS.elem]; exact hS.und) k' j h1 (by omega)
 rw [hS.elem] at hr
 simp only [execOp, ha.ev hx, ha.ev hj, Option.map_some, Option.map_none, Sem.run_bind, run_sliceAt_slice (P := P) s.w T _ _ _ _ (by rw [hS.elem]; exact hS.und), hr, hS.sz, Result.andThen_ok, sliced, Sem.run_pure, hl]
 rfl
theorem L.sf {x lo : Operand} {k : IntKind} {i : Int} {zs : List α} (hS : Sl P T U r.sz) (hR : RdL r s a cap xs) (hw : Wt ops e g) (hx : Env.ev e x = some (.slice a xs.length cap)) (hi1 : Env.ev e lo = some (.int k i)) (hz : slc xs i xs.length = some zs) (hd : Nat.blt d n = true)
  (h : ∀ a' cap', RdL r s a' cap' zs → L Φ P Q n ops os ((d, .slice a' zs.length cap') :: e) s.w) : L Φ P Q n ops (⟨some d, .slice T x (some lo) none none, ty, pos, af, g⟩ :: os) e s.w := by
 obtain ⟨h0, h1, h2, rfl⟩ := slc_some hz
 have hl : ((xs.take (xs.length : Int).toNat).drop i.toNat).length = xs.length - i.toNat := by rw [List.length_drop, List.length_take]; omega
 have hp := hR.part (lo := i.toNat) (hi := (xs.length : Int).toNat) (by omega) (by omega)
 refine L.val hw hd (fun ac ha => ?_) (h _ _ hp)
 have hr := run_slice_l (P := P) s.w T a xs.length cap (by rw [hS.elem]; exact hS.und) k i h0 (by omega)
 rw [hS.elem] at hr
 simp only [execOp, ha.ev hx, ha.ev hi1, Option.map_some, Option.map_none, Sem.run_bind, run_sliceAt_slice (P := P) s.w T _ _ _ _ (by rw [hS.elem]; exact hS.und), hr, hS.sz, Result.andThen_ok, sliced, Sem.run_pure, hl]
end
end Go.Proofs.YtidakgbibobbdaaGreatDoor

namespace Go.Proofs.YtidakgbibobbdaaGreatDoor
open Go Go.RowKit

def AllT (D : Nat → Bool) : List Nat → Prop
 | [] => True
 | j :: js => D j = true ∧ AllT D js
def upD (D : Nat → Bool) (k : Nat) : Nat → Bool := fun j => Nat.beq j k || D j
theorem upD_mono {D : Nat → Bool} {k j : Nat} (h : D j = true) : upD D k j = true := by simp [upD, h]
theorem AllT.mem {D : Nat → Bool} : ∀ {l : List Nat}, AllT D l → ∀ j, j ∈ l → D j = true
 | _ :: _, h, _, .head _ => h.1
 | _ :: _, h, j, .tail _ hj => AllT.mem h.2 j hj
theorem AllT.at {D : Nat → Bool} : ∀ {l : List Nat}, AllT D l → ∀ j, l.contains j = true → D j = true := fun h j hj => h.mem j (List.contains_iff_mem.1 hj)
@[reducible] def AllP : List Prop → Prop
 | [] => True
 | p :: ps => p ∧ AllP ps
theorem AllP.p : ∀ {l : List Prop}, AllP l → ∀ k : Nat, l.getD k True
 | [], _, _ => trivial
 | _ :: _, h, 0 => h.1
 | _ :: _, h, k + 1 => AllP.p h.2 k
theorem AllP.u : ∀ {l : List Prop} (_ : AllP l) (k : Nat) {q : Prop} (_ : q), AllP (l.set k q)
 | [], h, _, _, _ => h
 | _ :: _, h, 0, _, hq => ⟨hq, h.2⟩
 | _ :: _, h, k + 1, _, hq => ⟨h.1, AllP.u h.2 k hq⟩
theorem AllT.of {D : Nat → Bool} : ∀ {l : List Nat}, (∀ j, j ∈ l → D j = true) → AllT D l
 | [], _ => trivial
 | _ :: _, h => ⟨h _ (.head _), AllT.of fun j hj => h j (.tail _ hj)⟩
def chkA (ops : Array Oper) (A : List (List Nat)) : Bool :=
 (List.range ops.size).all fun k => match ops[k]? with
  | none => true
  | some o =>
   let dir := (o.after.toList.filter (Region.binds .any ·)).map (·.on)
   (A.getD k []).all fun x => dir.contains x || dir.any fun d => (A.getD d []).contains x
structure DI (A : List (List Nat)) (m : Nat) (I : (Nat → Bool) → List (Nat × Value) → Sig → Prop) (D : Nat → Bool) (e : List (Nat × Value)) (s : Sig) : Prop where
 clo : ∀ j, j < m → D j = true → AllT D (A.getD j [])
 i : I D e s
def DQ (Q : Exit → Act → World → Prop) (J : Act → World → Prop) : Exit → Act → World → Prop
 | .normal, a, w => J a w
 | x, a, w => Q x a w
def DJ (Φ : Fr) (n : Nat) (I : (Nat → Bool) → List (Nat × Value) → Sig → Prop) (D : Nat → Bool) : Act → World → Prop := fun a w => ∃ e s, Fits Φ n e a ∧ w = s.w ∧ I D e s

section
variable {Φ : Fr} {P : Program} {Q : Exit → Act → World → Prop} {n : Nat} {e : List (Nat × Value)} {s : Sig} {ops : Array Oper}
theorem wpAnyIn_inv2 {I : Array Bool → Act → World → Prop} (hB : afterC ops = true)
  (hstep : ∀ i listed a w, I listed a w → i ∈ Region.ready .any ops listed → wpOpIn Φ.f 2 P ops Q i (I (listed.setIfInBounds i true)) a w)
  (hend : ∀ listed a w, I listed a w → (∀ j, j < ops.size → listed.getD j true = true) → Q .normal a w) :
  ∀ (fuel : Nat) (listed : Array Bool) (a : Act) (w : World), listed.toList.count false ≤ fuel → I listed a w → wpAnyIn Φ.f 2 P .any ops Q fuel listed a w := by
 intro fuel
 induction fuel with
 | zero =>
  intro listed a w hc hI
  have hr : Region.ready .any ops listed = [] := by
   rw [List.eq_nil_iff_forall_not_mem]
   intro i hi
   have h1 := (mem_ready.1 hi).1
   have h2 : false ∈ listed.toList := by
    rcases Nat.lt_or_ge i listed.size with h' | h'
    ·rw [Array.getD_eq_getD_getElem?, Array.getElem?_eq_getElem h'] at h1
     simp only [Option.getD_some] at h1
     rw [← h1, ← Array.getElem_toList]; exact List.getElem_mem _
    ·rw [Array.getD_eq_getD_getElem?, Array.getElem?_eq_none h'] at h1; cases h1
   have := List.count_pos_iff.2 h2
   omega
  exact ⟨hr, hend _ _ _ hI (all_of_ready2 hB hr)⟩
 | succ fuel ih =>
  intro listed a w hc hI
  refine ⟨fun hr => hend _ _ _ hI (all_of_ready2 hB hr), fun i hi => wpOpIn_mono (fun a' w' h => ih _ a' w' ?_ h) (hstep i listed a w hI hi)⟩
  have h1 := (mem_ready.1 hi).1
  have hlt : i < listed.toList.length := by
   rcases Nat.lt_or_ge i listed.size with h' | h'
   ·simpa using h'
   ·rw [Array.getD_eq_getD_getElem?, Array.getElem?_eq_none h'] at h1; cases h1
  have h2 := count_falses hlt (by rw [List.getD_eq_getElem?_getD, Array.getElem?_toList, ← Array.getD_eq_getD_getElem?]; exact h1)
  rw [Array.toList_setIfInBounds]
  omega

theorem wpOp_of_DQ {J : Act → World → Prop} {i : Nat} {a : Act} {w : World} (h : wpOpsIn Φ.f 2 P ops (DQ Q J) [i] a w) : wpOpIn Φ.f 2 P ops Q i J a w := by
 rw [wpOpsIn_cons] at h
 unfold wpOpIn at h ⊢
 cases ho : ops[i]? with
 | none => rw [ho] at h; exact h
 | some o =>
  rw [ho] at h
  dsimp only at h ⊢
  by_cases hw : Region.wanted o (yielded ops a.tmps) = true
  ·rw [if_pos hw] at h ⊢
   refine ⟨h.1, ?_⟩
   have h := h.2
   generalize (o.semAt Φ.f.round a.eval).run P w = r at h ⊢
   cases r with
   | ok nx w' =>
    cases nx with
    | enter f args =>
     refine ⟨h.1, CallsIn.mono h.2 fun en w'' hh => ?_⟩
     cases en with
     | returned v => exact hh
     | panicked ch => exact hh
     | outgrown => exact hh
    | round l f tmps assign body =>
     refine ⟨h.1, RoundIn.mono h.2 fun en w'' hh => ?_⟩
     cases en with
     | returned v => exact hh
     | panicked ch => exact hh
     | outgrown => exact hh
    | _ => exact h
   | halt st w' => cases st <;> exact h
  ·rw [if_neg hw] at h ⊢
   exact h
def DStep (Φ : Fr) (P : Program) (Q : Exit → Act → World → Prop) (n : Nat) (ops : Array Oper) (A : List (List Nat)) (I : (Nat → Bool) → List (Nat × Value) → Sig → Prop) (k : Nat) (o : Oper) : Prop :=
 ∀ D e s, I D e s → D k = false → (∀ j, j < ops.size → (A.getD j []).contains k = true → D j = false) → AllT D (A.getD k []) → L Φ P (DQ Q (DJ Φ n I (upD D k))) n ops [o] e s.w
def DSteps (Φ : Fr) (P : Program) (Q : Exit → Act → World → Prop) (n : Nat) (ops : Array Oper) (A : List (List Nat)) (I : (Nat → Bool) → List (Nat × Value) → Sig → Prop) : Nat → List Oper → Prop
 | _, [] => True
 | k, o :: os => DStep Φ P Q n ops A I k o ∧ DSteps Φ P Q n ops A I (k + 1) os
theorem DSteps.at {A : List (List Nat)} {I : (Nat → Bool) → List (Nat × Value) → Sig → Prop} {l : List Oper} : ∀ {k : Nat}, DSteps Φ P Q n ops A I k l → ∀ j o, l[j]? = some o → DStep Φ P Q n ops A I (k + j) o := by
 induction l with
 | nil => intro k _ j o ho; cases ho
 | cons o os ih =>
  intro k h j o' ho
  obtain ⟨h1, h2⟩ := h
  cases j with
  | zero =>
   rw [List.getElem?_cons_zero, Option.some.injEq] at ho
   subst ho
   exact h1
  | succ j =>
   have := ih h2 j o' (by simpa using ho)
   rwa [show k + 1 + j = k + (j + 1) by omega] at this
theorem E.draw {id : Nat} {l : List Oper} (A : List (List Nat)) (I : (Nat → Bool) → List (Nat × Value) → Sig → Prop) (hm : P.follows .mixedOrders = true) (hB : afterC l.toArray = true) (hA : chkA l.toArray A = true)
  (h0 : ∀ s0, Mv No s s0 → I (fun _ => false) e s0) (hs : DSteps Φ P Q n l.toArray A I 0 l)
  (hend : ∀ D e s1, (∀ j, Nat.blt j l.length = true → D j = true) → I D e s1 → X Φ Q n .normal e s1.w) : E Φ P Q n (.region id l.toArray true) e s.w := by
 intro a ha
 refine wpIn_region_any hm ?_
 have hmv : Mv No s ⟨{ s.w with drawn := s.w.drawn + 1 }, s.tag⟩ := ⟨rfl, rfl, rfl, Nat.le_refl _, fun _ _ _ => ⟨rfl, rfl⟩⟩
 refine wpAnyIn_inv2 (I := fun listed a' w' => listed.size = l.length ∧ ∃ e s, Fits Φ n e a' ∧ w' = s.w ∧ DI A l.length I (fun j => listed.getD j false) e s) hB ?_ ?_ _ _ _ _ (by simp) ?_
 ·rintro i listed a' w' ⟨hsz, e', s', hf, rfl, hI⟩ hr
  obtain ⟨h1, o, ho, hafter⟩ := mem_ready.1 hr
  have hi : i < l.length := by simpa using (Array.getElem?_eq_some_iff.1 ho).1
  have hk : listed.getD i false = false := by
   rw [Array.getD_eq_getD_getElem?, Array.getElem?_eq_getElem (by omega)] at h1 ⊢
   exact h1
  have hall : AllT (fun j => listed.getD j false) (A.getD i []) := by
   refine AllT.of fun x hx => ?_
   have h2 := List.all_eq_true.1 hA i (List.mem_range.2 (by simpa using hi))
   simp only [ho] at h2
   have h3 := List.all_eq_true.1 h2 x hx
   have hdir : ∀ d, d ∈ (o.after.toList.filter (Region.binds .any ·)).map (·.on) → listed.getD d false = true := by
    intro d hd
    obtain ⟨ed, he, rfl⟩ := List.mem_map.1 hd
    obtain ⟨he1, he2⟩ := List.mem_filter.1 he
    exact hafter ed (by simpa using he1) he2
   rcases Bool.or_eq_true_iff.1 h3 with h4 | h4
   ·exact hdir x (by simpa using h4)
   ·obtain ⟨d, hd, hd2⟩ := List.any_eq_true.1 h4
    have hdt := hdir d hd
    have hdl : d < l.length := by
     rcases Nat.lt_or_ge d l.length with h | h
     ·exact h
     ·rw [Array.getD_eq_getD_getElem?, Array.getElem?_eq_none (by omega)] at hdt; cases hdt
    exact (hI.clo d hdl hdt).mem x (by simpa using hd2)
  have hst := hs.at i o (by simpa using ho)
  rw [Nat.zero_add] at hst
  have hup : (fun j => (listed.setIfInBounds i true).getD j false) = upD (fun j => listed.getD j false) i := by
   funext j
   rw [Array.getD_eq_getD_getElem?, Array.getElem?_setIfInBounds]
   by_cases hij : i = j
   ·subst hij; simp [hsz, hi, upD]
   ·have : Nat.beq j i = false := by cases hbb : Nat.beq j i with | false => rfl | true => exact absurd (Nat.eq_of_beq_eq_true hbb).symm hij
    rw [if_neg hij, upD, this, Bool.false_or, Array.getD_eq_getD_getElem?]
  have hfal : ∀ j, j < l.toArray.size → (A.getD j []).contains i = true → listed.getD j false = false := by
   intro j hj hc
   cases hd : listed.getD j false with
   | false => rfl
   | true =>
    have := (hI.clo j (by simpa using hj) hd).mem i (by simpa using hc)
    simp only [hk] at this
    cases this
  have hl := hst _ e' s' hI.i hk hfal hall [i] (by rw [List.map_cons, List.map_nil, ho]; rfl) a' hf
  have hw := wpOp_of_DQ hl
  refine wpOpIn_mono (fun a2 w2 hh => ?_) hw
  obtain ⟨e2, s2, hf2, rfl, hI2⟩ := hh
  refine ⟨by simp [hsz], e2, s2, hf2, rfl, ?_⟩
  rw [hup]
  refine ⟨fun j hj hd => AllT.of fun x hx => ?_, hI2⟩
  by_cases hji : j = i
  ·subst hji; exact upD_mono (hall.mem x hx)
  ·have : upD (fun j => listed.getD j false) i j = listed.getD j false := by
    have : Nat.beq j i = false := by cases hbb : Nat.beq j i with | false => rfl | true => exact absurd (Nat.eq_of_beq_eq_true hbb) hji
    rw [upD, this, Bool.false_or]
   rw [this] at hd
   exact upD_mono ((hI.clo j hj hd).mem x hx)
 ·rintro listed a' w' ⟨hsz, e', s', hf, rfl, hI⟩ hall
  refine hend (fun j => listed.getD j false) e' s' (fun j hj => ?_) hI.i a' hf
  have hj' : j < l.length := by simpa using hj
  have := hall j (by simpa using hj')
  rw [Array.getD_eq_getD_getElem?, Array.getElem?_eq_getElem (by omega)] at this ⊢
  exact this
 ·refine ⟨by simp, e, ⟨{ s.w with drawn := s.w.drawn + 1 }, s.tag⟩, ha, rfl, fun j hj hd => ?_, ?_⟩
  ·rw [Array.getD_eq_getD_getElem?, Array.getElem?_replicate] at hd
   split at hd <;> cases hd
  ·have h1 := h0 _ hmv
   have : (fun j => (Array.replicate l.toArray.size false).getD j false) = fun _ => false := by
    funext j
    rw [Array.getD_eq_getD_getElem?, Array.getElem?_replicate]
    split <;> rfl
   rw [this]
   exact h1

theorem X.dr {I : (Nat → Bool) → List (Nat × Value) → Sig → Prop} {D : Nat → Bool} {e' : List (Nat × Value)} (hs : Sub e' e) (h : I D e' s) : X Φ (DQ Q (DJ Φ n I D)) n .normal e s.w := fun _ ha => ⟨e', s, ha.sub hs, rfl, h⟩
theorem Sub.both {e e' : List (Nat × Value)} {d : Nat} {v : Value} (hs : Sub e e') : Sub ((d, v) :: e) ((d, v) :: e') := fun d' v' hg => by
 simp only [Env.get] at hg ⊢
 by_cases hb : Nat.beq d d' = true
 ·rw [hb] at hg ⊢; exact hg
 ·have hb' : Nat.beq d d' = false := by cases h0 : Nat.beq d d' <;> simp_all
  rw [hb', cond_false] at hg ⊢
  exact hs d' v' hg
theorem L.kn {os : List Oper} {w : World} {d : Nat} {v : Value} (h : Env.get e d = some v) (h2 : L Φ P Q n ops os ((d, v) :: e) w) : L Φ P Q n ops os e w := L.sub (Sub.cons h Sub.refl) h2
def Kn (e : List (Nat × Value)) : List (Nat × Value) → Prop
 | [] => True
 | p :: ps => Env.get e p.1 = some p.2 ∧ Kn e ps
theorem Kn.sub : ∀ {ps : List (Nat × Value)}, Kn e ps → Sub (ps ++ e) e
 | [], _ => Sub.refl
 | _ :: _, h => Sub.cons h.1 (Kn.sub h.2)
theorem Kn.sup : ∀ {ps : List (Nat × Value)}, Kn e ps → Sub e (ps ++ e)
 | [], _ => Sub.refl
 | (d, v) :: ps, h => fun d' v' hg => by
  show Env.get ((d, v) :: (ps ++ e)) d' = some v'
  simp only [Env.get]
  by_cases hb : Nat.beq d d' = true
  ·have : d = d' := Nat.eq_of_beq_eq_true hb
   subst this
   rw [hb, cond_true, ← h.1, hg]
  ·have hb' : Nat.beq d d' = false := by cases h0 : Nat.beq d d' <;> simp_all
   rw [hb', cond_false]
   exact Kn.sup h.2 d' v' hg
theorem L.kns {os : List Oper} {w : World} (ps : List (Nat × Value)) (h : Kn e ps) (h2 : L Φ P Q n ops os (ps ++ e) w) : L Φ P Q n ops os e w := L.sub h.sub h2
theorem X.dk {I : (Nat → Bool) → List (Nat × Value) → Sig → Prop} {D : Nat → Bool} {ps : List (Nat × Value)} {d : Nat} {v : Value} (h : Kn e ps) (hI : I D ((d, v) :: e) s) : X Φ (DQ Q (DJ Φ n I D)) n .normal ((d, v) :: (ps ++ e)) s.w := X.dr (Sub.both h.sup) hI
end
theorem Sub.fresh {e e' : List (Nat × Value)} {d : Nat} {v : Value} (hs : Sub e' e) (h : Env.get e' d = none) : Sub e' ((d, v) :: e) := fun d' v' hg => by
 simp only [Env.get]
 by_cases hb : Nat.beq d d' = true
 ·have : d = d' := Nat.eq_of_beq_eq_true hb
  subst this
  rw [h] at hg; cases hg
 ·have hb' : Nat.beq d d' = false := by cases h0 : Nat.beq d d' <;> simp_all
  rw [hb', cond_false]
  exact hs d' v' hg
theorem upd_len {α : Type} {xs zs : List α} {i : Int} {y : α} (h : upd xs i y = some zs) : zs.length = xs.length := by
 obtain ⟨_, _, rfl⟩ := upd_some h
 exact List.length_set
theorem Env.reval {e : List (Nat × Value)} {d k k' c : Nat} {a : Option Addr} (h : Env.get e d = some (.slice a k c)) (hk : k' = k) : Env.get e d = some (.slice a k' c) := hk ▸ h
section
variable {Φ : Fr} {P : Program} {Q : Exit → Act → World → Prop} {n : Nat} {e : List (Nat × Value)} {w : World} {s : Sig} {ops : Array Oper} {os : List Oper} {d : Nat} {ty : TypeId} {pos : String} {af : Array Edge} {g : Option (Nat × Bool)}
variable {α : Type} {r : Rep α} {t : Nat} {T T' U : TypeId} {a : Option Addr} {cap : Nat} {xs ys zs : List α}
theorem L.reval {d k k' c : Nat} (h : Env.get e d = some (.slice a k c)) (hk : k' = k) (h2 : L Φ P Q n ops os ((d, .slice a k' c) :: e) w) : L Φ P Q n ops os e w := L.kn (Env.reval h hk) h2
theorem L.su {x y : Operand} {b o fo m : Nat} {j : Int} {v : Value} {c : List Value} {y0 z : α} (hR : RowT r s t T' a cap xs) (hsp : Spot a r.sz j.toNat b o) (hi : idx xs j = some y0) (hu : upd xs j z = some zs) (ht : Nat.blt 0 t = true) (hT : ∀ w, (sizeOf T).run P w = .ok m w)
  (hw : Wt ops e g) (hx : Env.ev e x = some (.pointer (some ⟨b, o + fo, none⟩))) (hy : Env.ev e y = some v) (hc : v.cells.toList = c) (hm : c.length = m) (hfo : Nat.ble (fo + m) r.sz = true) (h1' : c.all Value.oneCell' = true)
  (hz : ∀ c0, r.rd s c0 y0 → r.rd s (c0.take fo ++ c ++ c0.drop (fo + c.length)) z)
  (h : ∀ s', Mv (One t) s s' → RowT r s' t T' a cap zs → L Φ P Q n ops os e s'.w) : L Φ P Q n ops (⟨none, .store T x y, ty, pos, af, g⟩ :: os) e s.w := by
 obtain ⟨_, hk, rfl⟩ := upd_some hu
 obtain ⟨_, hk2, e0⟩ := idx_some hi
 exact L.sr hR hsp hk ht hT hw hx hy hc hm hfo (List.all_eq_true.1 h1') (fun c0 hc0 => hz c0 (e0 ▸ hc0)) (fun s' m h' => h s' m h')
end
end Go.Proofs.YtidakgbibobbdaaGreatDoor

namespace Go.Proofs.YtidakgbibobbdaaGreatDoor
open Go Go.RowKit

def fillL (pl : List (Nat × Nat)) : List Value → List (Nat × Value) → Option (List Value)
 | cs, [] => some cs
 | cs, (i, v) :: rest => match pl[i]? with
  | none => none
  | some (off, sz) => if Nat.beq v.cells.toList.length sz && Nat.ble (off + sz) cs.length then fillL pl (cs.take off ++ v.cells.toList ++ cs.drop (off + sz)) rest else none
theorem foldl_put (off : Nat) : ∀ (vs : List Value) (k : Nat) (cs : Array Value), off + k + vs.length ≤ cs.size →
  ((vs.zipIdx k).foldl (fun cs (p : Value × Nat) => cs.setIfInBounds (off + p.2) p.1) cs).toList = cs.toList.take (off + k) ++ vs ++ cs.toList.drop (off + k + vs.length)
 | [], k, cs, h => by simp
 | v :: vs, k, cs, h => by
  simp only [List.length_cons] at h
  rw [List.zipIdx_cons, List.foldl_cons, foldl_put off vs (k + 1) _ (by simp; omega)]
  have hl : cs.toList.length = cs.size := Array.length_toList
  rw [Array.toList_setIfInBounds]
  apply List.ext_getElem?
  intro j
  rw [get_splice (by rw [List.length_set]; omega), get_splice (l := cs.toList) (c := v :: vs) (i := off + k) (by simp only [List.length_cons]; omega)]
  simp only [List.length_cons]
  by_cases h1 : j = off + k
  ·subst h1
   rw [if_neg (by omega), if_pos (by omega), List.getElem?_set_self (by omega), Nat.sub_self]
   rfl
  ·rw [List.getElem?_set_ne (by omega)]
   by_cases h2 : off + (k + 1) ≤ j ∧ j < off + (k + 1) + vs.length
   ·rw [if_pos h2, if_pos (by omega), show j - (off + k) = (j - (off + (k + 1))) + 1 by omega, List.getElem?_cons_succ]
   ·rw [if_neg h2, if_neg (by omega)]
theorem fill_of {place : Nat → Option (Nat × Nat)} {pl : List (Nat × Nat)} (hp : ∀ i p, pl[i]? = some p → place i = some p) : ∀ {ps : List (Nat × Value)} {cs cs' : List Value}, fillL pl cs ps = some cs' → Instr.fill place cs.toArray ps = some cs'.toArray
 | [], cs, cs', h => by simp only [fillL, Option.some.injEq] at h; subst h; rfl
 | (i, v) :: rest, cs, cs', h => by
  simp only [fillL] at h
  split at h
  ·cases h
  ·rename_i off sz hpl
   split at h
   ·rename_i hc
    obtain ⟨h1, h2⟩ := Bool.and_eq_true_iff.1 hc
    have h1 : v.cells.toList.length = sz := Nat.eq_of_beq_eq_true h1
    have h2 : off + sz ≤ cs.length := Nat.le_of_ble_eq_true h2
    simp only [Instr.fill, hp i _ hpl]
    rw [Array.length_toList] at h1
    rw [if_neg (by simp [h1]; omega)]
    have hf := foldl_put off v.cells.toList 0 cs.toArray (by simp [h1]; omega)
    have e : (v.cells.zipIdx.foldl (fun cs (x : Value × Nat) => cs.setIfInBounds (off + x.2) x.1) cs.toArray) = (cs.take off ++ v.cells.toList ++ cs.drop (off + sz)).toArray := by
     apply Array.toList_inj.1
     rw [← Array.foldl_toList, Array.toList_zipIdx, hf]
     simp [h1]
    have := fill_of hp h
    rw [← e] at this
    exact this
   ·cases h
structure Pl (P : Program) (T : TypeId) (pl : List (Nat × Nat)) (z : List Value) : Prop where
 is : ∃ place : Nat → Option (Nat × Nat), (∀ ps, P.built T ps = Instr.fill place z.toArray ps) ∧ ∀ i p, pl[i]? = some p → place i = some p
theorem Pl.str {P : Program} {T : TypeId} {fs : Array Field} {pl : List (Nat × Nat)} {z : List Value} (hu : P.underlying T = some (.struct fs)) (hz : (P.info? T).bind (fun i => i.zero.map (·.cells)) = some z.toArray)
  (hp : fs.toList.mapM (fun f => (P.info? f.type).map fun i => (f.offset, i.size)) = some pl) : Pl P T pl z := ⟨⟨(pl.toArray[·]?), fun ps => by
 unfold Program.built
 cases hi : P.info? T with
 | none => simp [hi] at hz
 | some it =>
  simp only [hi, Option.bind_some] at hz
  cases hzz : it.zero with
  | none => simp [hzz] at hz
  | some v =>
   simp only [hzz, Option.map_some, Option.some.injEq] at hz
   simp only [hu, hzz, hp]
   rw [hz], fun i p h => by simpa using h⟩⟩
def plK (m : Nat) : Nat → Nat → List (Nat × Nat)
 | 0, _ => []
 | k + 1, i => (i * m, m) :: plK m k (i + 1)
theorem plK_get (m : Nat) : ∀ (k i j : Nat) (p : Nat × Nat), (plK m k i)[j]? = some p → p = ((i + j) * m, m)
 | 0, _, _, _, h => by cases h
 | k + 1, i, 0, p, h => by simp only [plK, List.getElem?_cons_zero, Option.some.injEq] at h; rw [← h]; rfl
 | k + 1, i, j + 1, p, h => by
  simp only [plK, List.getElem?_cons_succ] at h
  rw [plK_get m k (i + 1) j p h, show i + 1 + j = i + (j + 1) by omega]
theorem Pl.arr {P : Program} {T U : TypeId} {k m : Nat} {z : List Value} (hu : P.underlying T = some (.array k U)) (hz : (P.info? T).bind (fun i => i.zero.map (·.cells)) = some z.toArray) (hs : (P.info? U).map (·.size) = some m) : Pl P T (plK m k 0) z := ⟨⟨fun i => some (i * m, m), fun ps => by
 unfold Program.built
 cases hi : P.info? T with
 | none => simp [hi] at hz
 | some it =>
  simp only [hi, Option.bind_some] at hz
  cases hzz : it.zero with
  | none => simp [hzz] at hz
  | some v =>
   simp only [hzz, Option.map_some, Option.some.injEq] at hz
   cases hj : P.info? U with
   | none => simp [hj] at hs
   | some ie =>
    simp only [hj, Option.map_some, Option.some.injEq] at hs
    simp only [hu, hzz, hj]
    rw [hz, hs], fun i p h => by rw [plK_get m k 0 i p h, Nat.zero_add]⟩⟩
structure Bs (P : Program) (T E m : Nat) (z : List Value) : Prop where
 und : P.underlying T = some (.slice E)
 is : ∃ ie v, P.info? E = some ie ∧ ie.size = m ∧ ie.zero = some v ∧ v.cells = z.toArray
 len : z.length = m
theorem Bs.mk' {P : Program} {T E m : Nat} {z : List Value} (hu : P.underlying T = some (.slice E)) (hz : (P.info? E).bind (fun i => i.zero.map (·.cells)) = some z.toArray) (hs : (P.info? E).map (·.size) = some m) (hl : z.length = m) : Bs P T E m z := by
 refine ⟨hu, ?_, hl⟩
 cases hi : P.info? E with
 | none => simp [hi] at hz
 | some it =>
  simp only [hi, Option.bind_some] at hz
  simp only [hi, Option.map_some, Option.some.injEq] at hs
  cases hzz : it.zero with
  | none => simp [hzz] at hz
  | some v =>
   simp only [hzz, Option.map_some, Option.some.injEq] at hz
   exact ⟨it, v, rfl, hs, hzz, hz⟩
theorem El.mk' {P : Program} {E m by_ : Nat} {z : Value} (hs : (P.info? E).map (·.size) = some m) (hb : (P.info? E).map (·.bytes) = some by_) (hz : (P.info? E).bind (·.zero) = some z) (hc : z.cells.size = m) : El P E m by_ := by
 constructor
 cases hi : P.info? E with
 | none => simp [hi] at hz
 | some it =>
  simp only [hi, Option.bind_some] at hz
  simp only [hi, Option.map_some, Option.some.injEq] at hs hb
  exact ⟨it, z, rfl, hs, hb, hz, hc⟩
theorem Zr.mk' {P : Program} {α : Type} {r : Rep α} {E by_ : Nat} {y : α} {v : Value} (hs : (P.info? E).map (·.size) = some r.sz) (hb : (P.info? E).map (·.bytes) = some by_) (hz : (P.info? E).bind (·.zero) = some v) (hr : ∀ s, r.rd s v.cells.toList y) : Zr P r E by_ y := by
 constructor
 cases hi : P.info? E with
 | none => simp [hi] at hz
 | some it =>
  simp only [hi, Option.bind_some] at hz
  simp only [hi, Option.map_some, Option.some.injEq] at hs hb
  exact ⟨it, v, rfl, hs, hb, hz, hr⟩

section
variable {Φ : Fr} {P : Program} {Q : Exit → Act → World → Prop} {n : Nat} {e : List (Nat × Value)} {w : World} {s : Sig} {ops : Array Oper} {os : List Oper} {d : Nat} {ty : TypeId} {pos : String} {af : Array Edge} {g : Option (Nat × Bool)}
variable {α : Type} {r : Rep α} {t : Nat} {T T' U : TypeId} {a : Option Addr} {cap : Nat} {xs ys : List α}
theorem L.bu {pl : List (Nat × Nat)} {z cs : List Value} {xs : List (Nat × Operand)} {ps : List (Nat × Value)} (hP : Pl P T pl z) (hw : Wt ops e g) (hx : Env.evp e xs = some ps) (hf : fillL pl z ps = some cs) (hd : Nat.blt d n = true)
  (h : L Φ P Q n ops os ((d, .agg cs.toArray) :: e) w) : L Φ P Q n ops (⟨some d, .build T xs.toArray, ty, pos, af, g⟩ :: os) e w := by
 obtain ⟨place, h1, h2⟩ := hP.is
 exact L.bd hw hx (by rw [h1]; exact fill_of h2 hf) hd h
theorem range_rep {z : List Value} {m : Nat} (hl : z.length = m) : ∀ k, ((Array.range (k * m)).map (z.toArray[· % z.toArray.size]!)) = (List.replicate k z).flatten.toArray := by
 intro k
 have := made_flat (c := z.toArray) k
 apply Array.toList_inj.1
 simp only [List.size_toArray] at this ⊢
 rw [← hl, ← this]
 simp [madeCells]
theorem L.bsE {E m k : Nat} {z cs : List Value} {xs : List (Nat × Operand)} {ps : List (Nat × Value)} (t : Nat) (hB : Bs P T E m z) (hk : k * m ≤ 2 ^ 24) (hw : Wt ops e g) (hx : Env.evp e xs = some ps) (h0 : Nat.blt 0 (k * m) = true)
  (hf : fillL (plK m k 0) (List.replicate k z).flatten ps = some cs) (hd : Nat.blt d n = true)
  (h : ∀ b s', Mv No s s' → Bx s' t b cs.toArray E → L Φ P Q n ops os ((d, .slice (some ⟨b, 0, none⟩) k k) :: e) s'.w) : L Φ P Q n ops (⟨some d, .buildSlice T k xs.toArray, ty, pos, af, g⟩ :: os) e s.w := by
 obtain ⟨ie, v, h1, h2, h3, h4⟩ := hB.is
 have h0' : 0 < k * m := by simpa using h0
 refine L.bs (ie := ie) (z := v) t hB.und h1 h3 (by rw [h2]; omega) (by rw [h2]; omega) hw hx ?_ hd h
 rw [h4, h2, range_rep hB.len]
 exact fill_of (fun i p hp => by rw [plK_get m k 0 i p hp, Nat.zero_add]) hf
theorem L.bs0 {E m : Nat} {z : List Value} (t : Nat) (hB : Bs P T E m z) (hm : m ≤ 2 ^ 24) (hw : Wt ops e g) (hd : Nat.blt d n = true)
  (h : ∀ b s', Mv No s s' → Bx s' t b #[] E → L Φ P Q n ops os ((d, .slice (some ⟨b, 0, none⟩) 0 0) :: e) s'.w) : L Φ P Q n ops (⟨some d, .buildSlice T 0 #[], ty, pos, af, g⟩ :: os) e s.w := by
 obtain ⟨ie, v, h1, h2, h3, h4⟩ := hB.is
 refine L.val hw hd (v := .slice (some ⟨s.w.heap.size, 0, none⟩) 0 0) (w' := s.w.alloc (.cells #[] E)) (fun ac ha => ?_) ?_
 ·simp [execOp, Instr.buildSlice, run_underlying hB.und, sizeOf, typeInfo, h1, Instr.fill, newRow]
  have : (Array.range 0) = #[] := by simp [Array.range]
  simp [this]
 ·refine h s.w.heap.size ⟨s.w.alloc (.cells #[] E), tagUp s.tag s.w.heap.size t⟩ ?_ ⟨heap_alloc_new s.w _, tagUp_at _ _ _⟩
  exact ⟨rfl, rfl, rfl, by simp, fun b hb _ => ⟨heap_alloc_old s.w _ hb, tagUp_lt hb⟩⟩
end

def FV1 {α β : Type} (P : Program) (s : Sig) (v : Value) (arg : α → List Value) (res : β → Value) (m : α → Option β) : Prop :=
 ∃ f fst cap, v = .func (.func f) fst cap ∧ (∀ args w, (callFunc f args).run P w = .ok (.enter f args) w) ∧ ∀ x r, m x = some r → ∀ s', Le s s' → Calls P f (fst ++ (arg x).toArray ++ cap) s'.w (RetS No s' fun v' _ => v' = res r)
theorem FV1.mono {α β : Type} {P : Program} {s s' : Sig} {v : Value} {arg : α → List Value} {res : β → Value} {m : α → Option β} (h : FV1 P s v arg res m) (hl : Le s s') : FV1 P s' v arg res m := by
 obtain ⟨f, fst, cap, h1, h2, h3⟩ := h
 exact ⟨f, fst, cap, h1, h2, fun x r hm s'' hl' => h3 x r hm s'' (hl.trans hl')⟩
def FV2 {α β γ : Type} (P : Program) (s : Sig) (v : Value) (arg : α → β → List Value) (res : γ → Value) (m : α → β → Option γ) : Prop :=
 ∃ f fst cap, v = .func (.func f) fst cap ∧ (∀ args w, (callFunc f args).run P w = .ok (.enter f args) w) ∧ ∀ x y r, m x y = some r → ∀ s', Le s s' → Calls P f (fst ++ (arg x y).toArray ++ cap) s'.w (RetS No s' fun v' _ => v' = res r)
theorem FV2.mono {α β γ : Type} {P : Program} {s s' : Sig} {v : Value} {arg : α → β → List Value} {res : γ → Value} {m : α → β → Option γ} (h : FV2 P s v arg res m) (hl : Le s s') : FV2 P s' v arg res m := by
 obtain ⟨f, fst, cap, h1, h2, h3⟩ := h
 exact ⟨f, fst, cap, h1, h2, fun x y r hm s'' hl' => h3 x y r hm s'' (hl.trans hl')⟩
theorem Bx.le {s s' : Sig} {b : Nat} {cs : Array Value} {T : TypeId} (h : Bx s 0 b cs T) (hl : Le s s') : Bx s' 0 b cs T := by
 obtain ⟨g1, g2⟩ := hl.blk b h.lt h.htag
 exact ⟨g1.trans h.heap, g2⟩
theorem Bx.fz {s : Sig} {t b : Nat} {cs : Array Value} {T : TypeId} (h : Bx s t b cs T) (_h0 : t ≠ 0) : Bx (s.fz t) 0 b cs T := ⟨h.heap, by simp [Sig.fz, h.htag]⟩
section
variable {Φ : Fr} {P : Program} {Q : Exit → Act → World → Prop} {n : Nat} {e : List (Nat × Value)} {s : Sig} {ops : Array Oper} {os : List Oper} {d : Nat} {ty : TypeId} {pos : String} {af : Array Edge} {g : Option (Nat × Bool)} {α β γ : Type}
theorem L.fvc {f : FuncId} {x : Operand} {fst cap : Array Value} {xs : List Operand} {vs : List Value} {c : Call} {S : Nat → Prop} {Post : Value → Sig → Prop} (hcf : ∀ args w, (callFunc f args).run P w = .ok (.enter f args) w) (hc : c.callee = .value x) (hca : c.args = xs.toArray) (hw : Wt ops e g)
  (hx : Env.ev e x = some (.func (.func f) fst cap)) (hxs : Env.evs e xs = some vs)
  (hcall : Calls P f (fst ++ vs.toArray ++ cap) s.w (RetS S s Post)) (hd : Nat.blt d n = true) (h : ∀ v s', Mv S s s' → Post v s' → L Φ P Q n ops os ((d, v) :: e) s'.w) : L Φ P Q n ops (⟨some d, .call c, ty, pos, af, g⟩ :: os) e s.w :=
 L.op hw fun ac ha K hK => by
  unfold Oper.wp
  have h2 : c.args.map ac.eval = vs.toArray := by rw [hca, List.map_toArray, ha.evs hxs]
  have hrun : (execOp ac.eval ⟨some d, .call c, ty, pos, af, g⟩).run P s.w = .ok (.enter f (fst ++ vs.toArray ++ cap)) s.w := by
   simp [execOp, resolve, hc, h2, Deferred.ofValue, ha.ev hx, invoke, hcf _ _]
  rw [hrun, Oper.upon_enter]
  refine hcall.mono fun en w' hh => ?_
  obtain ⟨v, s', rfl, rfl, h3, h4⟩ := hh
  exact hK _ _ _ (ha.put hd v) (h v s' h3 h4)
theorem L.fv1 {x : Operand} {v : Value} {arg : α → List Value} {res : β → Value} {m : α → Option β} {xs : List Operand} {y : α} {r : β} {c : Call} (hF : FV1 P s v arg res m) (hc : c.callee = .value x) (hca : c.args = xs.toArray) (hw : Wt ops e g)
  (hx : Env.ev e x = some v) (hxs : Env.evs e xs = some (arg y)) (hm : m y = some r) (hd : Nat.blt d n = true) (h : ∀ s', Mv No s s' → L Φ P Q n ops os ((d, res r) :: e) s'.w) : L Φ P Q n ops (⟨some d, .call c, ty, pos, af, g⟩ :: os) e s.w := by
 obtain ⟨f, fst, cap, rfl, h2, h3⟩ := hF
 exact L.fvc h2 hc hca hw hx hxs (h3 y r hm s (Le.refl _)) hd fun v s' m h' => by subst h'; exact h s' m
theorem L.fv2 {x : Operand} {v : Value} {arg : α → β → List Value} {res : γ → Value} {m : α → β → Option γ} {xs : List Operand} {y : α} {z : β} {r : γ} {c : Call} (hF : FV2 P s v arg res m) (hc : c.callee = .value x) (hca : c.args = xs.toArray) (hw : Wt ops e g)
  (hx : Env.ev e x = some v) (hxs : Env.evs e xs = some (arg y z)) (hm : m y z = some r) (hd : Nat.blt d n = true) (h : ∀ s', Mv No s s' → L Φ P Q n ops os ((d, res r) :: e) s'.w) : L Φ P Q n ops (⟨some d, .call c, ty, pos, af, g⟩ :: os) e s.w := by
 obtain ⟨f, fst, cap, rfl, h2, h3⟩ := hF
 exact L.fvc h2 hc hca hw hx hxs (h3 y z r hm s (Le.refl _)) hd fun v s' m h' => by subst h'; exact h s' m
end
end Go.Proofs.YtidakgbibobbdaaGreatDoor

namespace Go.Proofs.YtidakgbibobbdaaGreatDoor
open Go Go.RowKit

theorem tgV {N i t : Nat} (h : t < N) : ¬ One (N + i) t := fun e => by
 have : t = N + i := e
 omega
theorem tgW {N i t : Nat} (h : t < N) : ¬ One t (N + i) := fun e => by
 have : N + i = t := e
 omega
theorem tgz {t : Nat} (h : 0 < t) : ¬ One t 0 := fun e => by
 have : 0 = t := e
 omega
theorem tgpV {t : Nat} (h : 0 < t) : Nat.blt 0 t = true := by simpa using h
theorem tpos {N i : Nat} (h : 0 < N) : 0 < N + i := by omega
def BelowT (N : Nat) : List Nat → Prop
 | [] => True
 | t :: ts => t < N ∧ BelowT N ts
theorem BelowT.mono {N M : Nat} (h : N ≤ M) : ∀ {L : List Nat}, BelowT N L → BelowT M L
 | [], _ => trivial
 | _ :: _, h2 => ⟨Nat.lt_of_lt_of_le h2.1 h, BelowT.mono h h2.2⟩
theorem belowT_ex : ∀ L : List Nat, ∃ N, BelowT N L
 | [] => ⟨0, trivial⟩
 | t :: ts => by
  obtain ⟨N, h⟩ := belowT_ex ts
  exact ⟨max N (t + 1), by omega, h.mono (Nat.le_max_left _ _)⟩
theorem Sig.freshL (s : Sig) (L : List Nat) : ∃ N, 0 < N ∧ (∀ b, b < s.w.heap.size → s.tag b < N) ∧ BelowT N L := by
 obtain ⟨N, h0, h⟩ := s.fresh
 obtain ⟨M, h2⟩ := belowT_ex L
 exact ⟨max N M, by omega, fun b hb => by have := h b hb; omega, h2.mono (Nat.le_max_right _ _)⟩

def Sig.ren (N : Nat) (f : Nat → Nat) (s : Sig) : Sig := ⟨s.w, fun b => if N ≤ s.tag b then f (s.tag b - N) else s.tag b⟩
section
variable {S : Nat → Prop} {s s' : Sig} {N t k b cap : Nat} {f : Nat → Nat} {α : Type} {r : Rep α} {T : TypeId} {a : Option Addr} {xs : List α} {cs : Array Value}
theorem Sig.ren_le (hN : 0 < N) : Le s (s.ren N f) := ⟨Nat.le_refl _, fun b _ ht => ⟨rfl, by simp [Sig.ren, ht]; omega⟩⟩
theorem Mv.ren (h : Mv (fun t => N ≤ t ∨ S t) s s') (hN : ∀ b, b < s.w.heap.size → s.tag b < N) : Mv S s (s'.ren N f) :=
 ⟨h.os, h.tape, h.output, h.size, fun b hb hn => by
  obtain ⟨g1, g2⟩ := h.blk b hb (nor (Nat.not_le.2 (hN b hb)) hn)
  refine ⟨g1, ?_⟩
  show (if N ≤ s'.tag b then f (s'.tag b - N) else s'.tag b) = _
  rw [if_neg (by rw [g2]; exact Nat.not_le.2 (hN b hb)), g2]⟩
theorem RowT.as {t' : Nat} (h : RowT r s t T a cap xs) (hl : Le s s') (hw : s'.w = s.w) (ht : ∀ b, s.tag b = t → s'.tag b = t') : RowT r s' t' T a cap xs := by
 obtain ⟨cs, h1, h2⟩ := h
 refine ⟨cs, ⟨h1.1, h1.2.imp id fun ⟨b, off, cap, cur, g1, g2, g3⟩ => ⟨b, off, cap, cur, g1, ⟨by rw [hw]; exact g2.heap, ht b g2.htag, g2.base⟩, g3⟩⟩, h2.mono hl⟩
theorem RowT.ren (h : RowT r s (N + k) T a cap xs) (hN : 0 < N) : RowT r (s.ren N f) (f k) T a cap xs := h.as (Sig.ren_le hN) rfl fun b e => by
 show (if N ≤ s.tag b then f (s.tag b - N) else s.tag b) = _
 rw [e, if_pos (Nat.le_add_right _ _), Nat.add_sub_cancel_left]
theorem RowT.renV (h : RowT r s t T a cap xs) (hN : 0 < N) (ht : t < N) : RowT r (s.ren N f) t T a cap xs := h.as (Sig.ren_le hN) rfl fun b e => by
 show (if N ≤ s.tag b then f (s.tag b - N) else s.tag b) = _
 rw [e, if_neg (by omega)]
theorem RdL.ren (h : RdL r s a cap xs) (hN : 0 < N) : RdL r (s.ren N f) a cap xs := h.mono (Sig.ren_le hN)
theorem RowT.p (h : RowT r s 0 T a cap xs) : RdL r s a cap xs := h.rd (Le.refl _) rfl fun _ e => e
theorem Bx.drop (h : Bx s (N + k) b cs T) : Bx (s.drop N) 0 b cs T := ⟨h.heap, by simp [Sig.drop, h.htag]⟩
end
def lenEq {α β : Type} (xs : List α) (ys : List β) : Option Unit := if xs.length = ys.length then some () else none
theorem len_some {α β : Type} {xs : List α} {ys : List β} {u : Unit} (h : lenEq xs ys = some u) : xs.length = ys.length := by
 unfold lenEq at h
 split at h
 ·assumption
 ·cases h
theorem Calls.lendG {P : Program} {f : FuncId} {args : Array Value} {s s0 : Sig} {Post : Value → Sig → Prop} {R : Value → Prop} (hw : s0.w = s.w) (hc : Calls P f args s0.w (RetS No s0 Post)) (hr : ∀ v s', Post v s' → R v) :
  Calls P f args s.w (RetS No s fun v _ => R v) := by
 rw [← hw]
 refine Calls.mono hc fun en w' hh => ?_
 obtain ⟨v, s', rfl, rfl, hm, hp⟩ := hh
 refine ⟨v, ⟨s'.w, fun b => if b < s.w.heap.size then s.tag b else s'.tag b⟩, rfl, rfl, ⟨?_, ?_, ?_, ?_, fun b hb _ => ⟨?_, if_pos hb⟩⟩, hr v s' hp⟩
 ·rw [← hw]; exact hm.os
 ·rw [← hw]; exact hm.tape
 ·rw [← hw]; exact hm.output
 ·rw [← hw]; exact hm.size
 ·rw [← hw]; exact (hm.blk b (by rw [hw]; exact hb) id).1
theorem oneC {u : Value} {l : List Value} (h : u.oneCell' = true) (h2 : l.all Value.oneCell' = true) : (u :: l).all Value.oneCell' = true := by rw [List.all_cons, h, h2]; rfl
def rng (i : Int) (n : Nat) : Option Unit := if (decide (0 ≤ i) && decide (i < n)) = true then some () else none
section
variable {Φ : Fr} {P : Program} {Q : Exit → Act → World → Prop} {n : Nat} {e : List (Nat × Value)} {w : World} {s : Sig} {ops : Array Oper} {os : List Oper} {d : Nat} {ty : TypeId} {pos : String} {af : Array Edge} {g : Option (Nat × Bool)}
variable {α : Type} {r : Rep α} {t : Nat} {T U : TypeId} {a : Option Addr} {cap : Nat} {xs ys : List α}
theorem reqs (hu : P.underlying T = some (.slice U)) (d k c : Nat) (w : World) : (Op.equalIn (d + 1) T (.slice a k c) (.slice none 0 0)).run P w = .ok a.isNone w := by
 unfold Op.equalIn
 cases a <;> simp [run_underlying hu]
theorem L.nil? {x y : Operand} {k c : Nat} {T' : TypeId} (hu : P.underlying T = some (.slice U)) (hw : Wt ops e g) (hx : Env.ev e x = some (.slice a k c)) (hy : Env.ev e y = some (.slice none 0 0)) (hd : Nat.blt d n = true)
  (h : L Φ P Q n ops os ((d, .bool a.isNone) :: e) w) : L Φ P Q n ops (⟨some d, .binOp .eql T x y T', ty, pos, af, g⟩ :: os) e w :=
 L.val hw hd (fun ac ha => by
  have : (binOp .eql T (.slice a k c) (.slice none 0 0)).run P w = .ok (.bool a.isNone) w := by
   simp only [binOp]
   simp [Op.equal, Op.maxDepth, reqs hu 9999]
  simp [execOp, ha.ev hx, ha.ev hy, eqGuard, this]) h
theorem RdL.eq_nil (h : RdL r s a cap xs) (ha : a.isNone = true) : xs = [] := by
 obtain ⟨cs, h1, _⟩ := h
 have h2 := h1.hnil (by cases a with | none => rfl | some _ => cases ha)
 have := h1.hcap
 exact List.eq_nil_of_length_eq_zero (by omega)
theorem isNoneS (a : Option Addr) : a.isNone = true ∨ a.isNone = false := by cases a <;> simp
end
end Go.Proofs.YtidakgbibobbdaaGreatDoor

namespace Go.Proofs.YtidakgbibobbdaaGreatDoor
open Go Go.RowKit

section
variable {Φ : Fr} {P : Program} {Q : Exit → Act → World → Prop} {n : Nat} {e : List (Nat × Value)} {s : Sig} {ops : Array Oper} {os : List Oper} {d : Nat} {ty : TypeId} {pos : String} {af : Array Edge} {g : Option (Nat × Bool)}
variable {α : Type} {r : Rep α} {N q t b : Nat} {T U kt et : TypeId} {kd : IntKind} {m : List (Int × List α)} {k : Int} {zs : List α} {a : Option Addr} {cap : Nat}
theorem gobj {w : World} {b clock : Nat} {es : List MapEntry} (h1 : w.heap[b]? = some (.map es.toArray clock)) : (getObj b).run P w = .ok (.map es.toArray clock) w := by simp [getObj, Sem.run, h1]
theorem setMap_mv {es es' : List MapEntry} {clock clock' : Nat} (h1 : s.w.heap[b]? = some (.map es.toArray clock)) (ht : s.tag b = t) :
  Mv (One t) s ⟨{ s.w with heap := s.w.heap.setIfInBounds b (.map es'.toArray clock') }, s.tag⟩ ∧ ({ s.w with heap := s.w.heap.setIfInBounds b (.map es'.toArray clock') } : World).heap[b]? = some (.map es'.toArray clock') := by
 have hb : b < s.w.heap.size := (Array.getElem?_eq_some_iff.1 h1).1
 refine ⟨⟨rfl, rfl, rfl, by simp, fun b' hb' hn => ⟨?_, rfl⟩⟩, by simp [hb]⟩
 have : b ≠ b' := fun e => hn (by show s.tag b' = t; rw [← e, ht])
 simp [Array.getElem?_setIfInBounds, this]
theorem sobj {w : World} {b clock : Nat} {es : List MapEntry} (o : Obj) (h1 : w.heap[b]? = some (.map es.toArray clock)) : (setObj b o).run P w = .ok () { w with heap := w.heap.setIfInBounds b o } := by simp [setObj, Sem.run, h1]
theorem lmod {es : List MapEntry} {i : Nat} {e : MapEntry} (f : MapEntry → MapEntry) (h : es[i]? = some e) : es.modify i f = es.set i (f e) := by
 obtain ⟨hi, rfl⟩ := List.getElem?_eq_some_iff.1 h
 apply List.ext_getElem?
 intro j
 by_cases hj : i = j
 ·subst hj
  simp [List.getElem?_modify, hi]
 ·rw [List.getElem?_set_ne hj, List.getElem?_modify]
  simp [hj]
end
end Go.Proofs.YtidakgbibobbdaaGreatDoor

namespace Go.Proofs.YtidakgbibobbdaaGreatDoor
open Go Go.RowKit Go.ChangeShapes Go.WideShapes Go.Deep

def Op (P : Program) {α : Type} (r : Rep α) (Q : α → Prop) (t : TypeId) : Prop :=
 ∀ (H : Type) (enc : TypeId × Value → H) (w : World) (fuel : Nat) (cs : List Value) (x : DataW H × List MemPlace), DataW.trod enc P w 0 (fun _ => true) true fuel t cs = some x → ∃ y : α, r.rd ⟨w, fun _ => 0⟩ cs y ∧ Q y
section
variable {P : Program} {α β : Type} {r : Rep α} {q : Rep β} {Q : α → Prop} {R : β → Prop} {t e : TypeId}
theorem Op.int {k : IntKind} (ht : P.underlying t = some (.int k)) : Op P (rK k) (fun n => k.min ≤ n ∧ n ≤ k.max) t := by
 intro H enc w fuel cs x h
 obtain ⟨n, h1, h2, h3⟩ := DataW.trod_int ht h
 refine ⟨n, h1, ?_⟩
 simpa [Lit.wf] using h3
theorem op_slice {H : Type} {enc : TypeId × Value → H} {w : World} {base fuel : Nat} {v : Value} {x : DataW H × List MemPlace} (ht : P.underlying t = some (.slice e)) (hc : P.cellsOf e = r.sz) (ho : Op P r Q e) (hok : Cell.okWide P w .any base t v)
  (h : DataW.trod enc P w 0 (fun _ => true) true fuel t [v] = some x) : ∃ (a : Option Addr) (c : Nat) (xs : List α), v = .slice a xs.length c ∧ RdL r ⟨w, fun _ => 0⟩ a c xs ∧ ∀ y ∈ xs, Q y := by
 rcases open_slice ht h with ⟨h1, -⟩ | ⟨a, len, cap, m, n, D, Pl, h1, -, h3, h4, h5, -, h7⟩
 ·rw [List.cons.injEq] at h1
  refine ⟨none, 0, [], h1.1, ⟨[], ⟨by simp, by simp, by simp, fun _ => rfl, fun ad e => (by cases e), fun ad e => (by cases e)⟩, fun ad e => (by cases e), rfl⟩, fun y hy => (by cases hy)⟩
 ·rw [List.cons.injEq] at h1
  have hv := h1.1
  subst hv
  rw [if_pos rfl] at h5
  subst h5
  have hsp : a.spot = none := by
   simp only [Cell.okWide, ht, Cell.ok] at hok
   exact hok.2.2.2.1
  have hadd : ∀ k, a.add k = ⟨a.block, a.off + k, none⟩ := fun k => by
   obtain ⟨b, o, sp⟩ := a
   dsimp only at hsp
   subst hsp
   unfold Addr.add
   split
   ·rename_i hk; subst hk; rfl
   ·rfl
  have key : ∀ k, k ≤ len → ∃ (xs : List α) (cs : List Value), xs.length = k ∧ Cells r ⟨w, fun _ => 0⟩ cs xs ∧ (∀ y ∈ xs, Q y) ∧ ∀ j (hj : j < cs.length), w.cell? ⟨a.block, a.off + j, none⟩ = some cs[j] := by
   intro k
   induction k with
   | zero => intro _; exact ⟨[], [], rfl, rfl, fun y hy => (by cases hy), fun j hj => absurd hj (Nat.not_lt_zero _)⟩
   | succ k ih =>
    intro hk
    obtain ⟨xs, cs, g1, g2, g3, g4⟩ := ih (by omega)
    obtain ⟨cs', k1, k2⟩ := h7 k (by omega)
    obtain ⟨y, k3, k4⟩ := ho H enc w n cs' _ k2
    obtain ⟨-, k5, k6⟩ := World.cells?_some k1
    have hl := g2.len
    rw [g1] at hl
    rw [hc] at k5 k6
    refine ⟨xs ++ [y], cs ++ cs', by simp [g1], g2.append ⟨cs', [], by simp, k3, rfl⟩, fun z hz => ?_, fun j hj => ?_⟩
    ·rcases List.mem_append.1 hz with hz | hz
     ·exact g3 z hz
     ·rw [List.mem_singleton.1 hz]; exact k4
    ·by_cases hlt : j < cs.length
     ·rw [List.getElem_append_left hlt]; exact g4 j hlt
     ·have hj2 : j - cs.length < cs'.length := by rw [List.length_append] at hj; omega
      rw [List.getElem_append_right (by omega)]
      have := k6 (j - cs.length) (by omega)
      rw [add_add, hadd, List.getElem?_eq_getElem hj2] at this
      rw [← this]
      congr 2
      omega
  obtain ⟨xs, cs, g1, g2, g3, g4⟩ := key len (Nat.le_refl _)
  subst g1
  refine ⟨some a, m, xs, rfl, ⟨cs, ⟨g2.len, h3, h4, fun e => (by cases e), fun ad e => (by cases e; exact hsp), fun ad e j hj => (by cases e; exact g4 j hj)⟩, fun _ _ _ => rfl, g2⟩, g3⟩
theorem op_agg {w : World} {base : Nat} {v : Value} {fs : Array Field} {ts : List TypeId} (ht : P.underlying t = some (.struct fs)) (hts : P.cellTypes P.depth t = some ts) (hsz : P.cellsOf t = ts.length) (hok : Value.okWide P w .any base t v) :
  ∃ cs, v = .agg cs ∧ cs.size = ts.length ∧ ∀ (i : Nat) (u : TypeId), ts[i]? = some u → ∃ c : Value, cs[i]? = some c ∧ Cell.okWide P w .any base u c := by
 simp only [Value.okWide, ht] at hok
 obtain ⟨cs, rfl, h1, ts', h2, h3, h4⟩ := hok
 rw [hts] at h2
 cases h2
 refine ⟨cs, rfl, by omega, fun i u hu => ?_⟩
 have hlt : i < ts.length := (List.getElem?_eq_some_iff.1 hu).1
 obtain ⟨u', g1, g2⟩ := h4 i cs[i] (Array.getElem?_eq_getElem (by omega))
 rw [Nat.mod_eq_of_lt hlt, hu] at g1
 cases g1
 exact ⟨_, Array.getElem?_eq_getElem (by omega), g2⟩
theorem op_field {H : Type} {enc : TypeId × Value → H} {w : World} {fuel : Nat} {cs : List Value} {x : DataW H × List MemPlace} {fs : Array Field} (ht : P.underlying t = some (.struct fs)) (h : DataW.trod enc P w 0 (fun _ => true) true fuel t cs = some x) {i : Nat} {f : Field} (hf : fs[i]? = some f) :
  ∃ n y, DataW.trod enc P w 0 (fun _ => true) true n f.type ((cs.drop f.offset).take (P.cellsOf f.type)) = some y := by
 obtain ⟨xs, n, _, _, _, h5, h6⟩ := DataW.trod_struct ht h
 have hlt := (Array.getElem?_eq_some_iff.1 hf).1
 exact ⟨n, xs[i]'(by omega), by rw [h6 i f hf, List.getElem?_eq_getElem (by omega)]⟩
theorem op_field1 {H : Type} {enc : TypeId × Value → H} {w : World} {fuel : Nat} {cs : List Value} {x : DataW H × List MemPlace} {fs : Array Field} (ht : P.underlying t = some (.struct fs)) (h : DataW.trod enc P w 0 (fun _ => true) true fuel t cs = some x) (i : Nat) (u : TypeId) {f : Field} {o : Nat} {c : Value} (hf : fs[i]? = some f) (hu : f.type = u) (ho : f.offset = o) (hc : P.cellsOf u = 1) (hat : cs[o]? = some c) :
  ∃ n y, DataW.trod enc P w 0 (fun _ => true) true n u [c] = some y := by
 obtain ⟨n, y, g⟩ := op_field ht h hf
 subst hu
 subst ho
 rw [hc] at g
 obtain ⟨hlt, he⟩ := List.getElem?_eq_some_iff.1 hat
 rw [List.drop_eq_getElem_cons hlt, he, List.take_succ_cons, List.take_zero] at g
 exact ⟨n, y, g⟩
theorem Op.struct3 {γ : Type} {u : Rep γ} {U : γ → Prop} {f0 f1 f2 : Field} (ht : P.underlying t = some (.struct #[f0, f1, f2])) (h0 : Op P r Q f0.type) (h1 : Op P q R f1.type) (h2 : Op P u U f2.type) (o0 : f0.offset = 0) (o1 : f1.offset = r.sz) (o2 : f2.offset = r.sz + q.sz)
  (c0 : P.cellsOf f0.type = r.sz) (c1 : P.cellsOf f1.type = q.sz) (c2 : P.cellsOf f2.type = u.sz) (c : P.cellsOf t = r.sz + q.sz + u.sz) : Op P (rP r (rP q u)) (fun y => Q y.1 ∧ R y.2.1 ∧ U y.2.2) t := by
 intro H enc w fuel cs x h
 obtain ⟨xs, n, _, _, hl, h5, h6⟩ := DataW.trod_struct ht h
 obtain ⟨n0, x0, g0⟩ := op_field (i := 0) (f := f0) ht h rfl
 obtain ⟨n1, x1, g1⟩ := op_field (i := 1) (f := f1) ht h rfl
 obtain ⟨n2, x2, g2⟩ := op_field (i := 2) (f := f2) ht h rfl
 obtain ⟨y0, a0, b0⟩ := h0 _ _ _ _ _ _ g0
 obtain ⟨y1, a1, b1⟩ := h1 _ _ _ _ _ _ g1
 obtain ⟨y2, a2, b2⟩ := h2 _ _ _ _ _ _ g2
 rw [o0, c0] at a0
 rw [o1, c1] at a1
 rw [o2, c2] at a2
 refine ⟨(y0, y1, y2), ⟨_, _, ?_, a0, _, _, rfl, a1, a2⟩, b0, b1, b2⟩
 have e2 : ((cs.drop (r.sz + q.sz)).take u.sz) = cs.drop (r.sz + q.sz) := List.take_of_length_le (by rw [List.length_drop]; omega)
 rw [e2, List.drop_zero, ← List.drop_drop, List.take_append_drop, List.take_append_drop]
end
end Go.Proofs.YtidakgbibobbdaaGreatDoor

namespace Go.Proofs.YtidakgbibobbdaaGreatDoor
open Go Go.ChangeShapes Go.WideShapes Go.ChangeAt Go.RowKit Go.Deep

theorem Tryz.own : ownKnob Tryz.prog.godebug = none := by kernel_rfl
theorem Tryz.laidOut : laidOutB Tryz.prog = true := by kernel_rfl

section
variable {H : Type} {enc : TypeId × Value → H}
def carryB (P : Program) (ts : List TypeId) : Bool := ts.all fun t => P.readableRec t && decide (t < P.types.size)
theorem trodAll_carry {P : Program} (hl : laidOutB P = true) {W W' : World} (hb : Below W.heap.size W W') {sp : Nat → Bool} : ∀ {ts : List TypeId} {vs : List Value} {ds : List (DataW H)} {ps : List MemPlace}, carryB P ts = true →
  DataW.TrodAll enc P W 0 (fun _ => true) true ts vs ds ps → (∀ x ∈ ps, x.block < W.heap.size) → (∀ x ∈ ps, sp x.block = true) → DataW.TrodAll enc P W' 0 sp true ts vs ds ps
 | [], [], [], _, _, h, _, _ => h
 | [], _ :: _, _, _, _, h, _, _ => h.elim
 | [], [], _ :: _, _, _, h, _, _ => h.elim
 | t :: ts, [], _, _, _, h, _, _ => h.elim
 | t :: ts, _ :: _, [], _, _, h, _, _ => h.elim
 | t :: ts, v :: vs, d :: ds, ps, hc, ⟨p, q, h1, h2, e⟩, hlt, hsp => by
  subst e
  unfold carryB at hc
  rw [List.all_cons, Bool.and_eq_true, Bool.and_eq_true] at hc
  exact ⟨p, q, WideElems.Trod_stays hl hc.1.1 (of_decide_eq_true hc.1.2) h1 (fun x hx => hb.same (hlt x (List.mem_append_left _ hx))) (fun x hx => hsp x (List.mem_append_left _ hx)),
   trodAll_carry hl hb hc.2 h2 (fun x hx => hlt x (List.mem_append_right _ hx)) (fun x hx => hsp x (List.mem_append_right _ hx)), rfl⟩

theorem law_post {P : Program} (hl : laidOutB P = true) {f : Func} {s : ChangeSpec} {apart fresh handsOn again : Bool} {W W' : World} {args : Array Value} {ds : List (DataW H)} {before : List MemPlace} {tb : TypeId} {b : Bool}
  (hW : DataW.Whole enc P f.params.toList s.vars apart W args.toList ds [] before) (hv : s.vars = []) (hc : carryB P f.params.toList = true) (hrt : f.resultTypes = #[tb]) (ht : P.underlying tb = some .bool)
  (hr : (s.fn H (ds ++ [])).results = [.lit (.bool b)]) (ha : (s.fn H (ds ++ [])).args = ds) (hvn : (s.fn H (ds ++ [])).vars = []) (hb : Below W.heap.size W W') :
  s.post enc P f apart fresh handsOn again W args (.bool b) W' := by
 have hlt : ∀ p ∈ before, p.block < W.heap.size := fun p hp => hW.lt p hp
 have hWc := hW
 obtain ⟨p, q, hA, hV, rfl, hz, hn⟩ := hWc
 rw [hv] at hV
 obtain ⟨-, rfl⟩ := trodVars_none hV
 rw [List.append_nil] at hlt hz hn
 have hargs : ∀ sp : Nat → Bool, (∀ x ∈ p, sp x.block = true) → DataW.TrodAll enc P W' 0 sp true f.params.toList args.toList (s.fn H (ds ++ [])).args p := fun sp hsp => by
  rw [ha]; exact trodAll_carry hl hb hc hA hlt hsp
 have hres : ∀ (b0 : Nat) (sp : Nat → Bool) (hd : Bool), DataW.TrodAll enc P W' b0 sp hd f.resultTypes.toList ((Value.bool b).resultList f.resultTypes.size) (s.fn H (ds ++ [])).results [] := fun _ _ _ => by
  rw [hr, hrt]; exact trodAll_mk1 (shut_bool ht b)
 have hvars : ∀ sp : Nat → Bool, DataW.TrodVars enc P W' sp s.vars (s.fn H (ds ++ [])).vars [] := fun sp => by rw [hv, hvn]; rfl
 have hold : ∀ x ∈ p, (fun b => decide (b < W.heap.size)) x.block = true := fun x hx => by simpa using hlt x hx
 refine ⟨ds, [], p ++ [], [], p, [], hW, hres _ _ _, hargs _ hold, hvars _, World.keptBut_mono (fun x hx => ?_) (hb.frame (· ∈ p)), fun _ => ?_⟩
 ·exact ⟨by rwa [List.append_nil], Or.inr (.inl hx)⟩
 ·have hok := ok_one (f := f) (W' := W') (by rw [hrt]) rfl (okWide_bool_mk (W' := W') ht b)
  refine ⟨hok, _, _, ([] ++ p) ++ [], ⟨[] ++ p, [], trodAll_append (hargs _ (fun _ _ => rfl)) (hres _ _ _), hvars _, rfl, ?_, ?_⟩, ?_⟩
  ·intro b0 off hp
   have hin : MemPlace.cell b0 off ∈ p := by simpa using hp
   rw [hb.frozen (hlt _ hin)]
   exact hz b0 off hin
  ·intro hap
   simpa using hn hap
  ·intro x hx _
   simpa using hx
end

def lay24 : List (String × DataW Unit) := [("math/bits.deBruijn32tab", Rows.laid_math_bits_deBruijn32tab), ("math/bits.deBruijn64tab", Rows.laid_math_bits_deBruijn64tab), ("internal/strconv.uint64pow10", Rows.laid_internal_strconv_uint64pow10)]
theorem lay24_met (os : Os) (args : Array Value) : laidMetH Tryz.prog lay24 ((World.laidAll Tryz.prog os lay24).forCall (fun _ _ => 0) ⟨#[], args, []⟩).memory :=
 laidMetH_of_parts3 (fuel := 8) (laidMet_laidAll args (by kernel_rfl) (by kernel_rfl)) (by kernel_rfl) (by kernel_rfl)
end Go.Proofs.YtidakgbibobbdaaGreatDoor

namespace Go.Proofs.YtidakgbibobbdaaGreatDoor
open Go Go.ChangeShapes Go.WideShapes Go.ChangeAt Go.RowKit Go.Deep
theorem op_i64 : Op Tryz.prog (rK .i64) (fun n => -9223372036854775808 ≤ n ∧ n < 9223372036854775808) 3 := by
 intro H enc w fuel cs x h
 obtain ⟨y, h1, h2⟩ := (Op.int (P := Tryz.prog) (k := .i64) Tryz.underlying3) H enc w fuel cs x h
 refine ⟨y, h1, ?_⟩
 simp [IntKind.min, IntKind.max, IntKind.signed, IntKind.bits] at h2
 omega
section
variable {H : Type} {enc : TypeId × Value → H} {w : World} {base : Nat} {v : Value} {d : DataW H} {ps : List MemPlace}
/-- A list of ints. -/
theorem arg_ints (hok : Value.okWide Tryz.prog w .any base 22 v) (h : DataW.Trod enc Tryz.prog w 0 (fun _ => true) true 22 v d ps) : ∃ a c xs, v = .slice a xs.length c ∧ RdL (rK .i64) ⟨w, fun _ => 0⟩ a c xs ∧ ∀ y ∈ xs, -9223372036854775808 ≤ y ∧ y < 9223372036854775808 := by
 obtain ⟨fuel, hf⟩ := h
 simp only [Value.okWide, Tryz.underlying22] at hok
 have hv : v.cells.toList = [v] := by
  simp only [Cell.okWide, Tryz.underlying22] at hok
  cases v <;> simp_all [Cell.ok, Value.cells]
 rw [hv] at hf
 exact op_slice Tryz.underlying22 (by kernel_rfl) op_i64 hok hf
theorem tc_ints : Tryz.prog.cellsOf 22 = 1 := by kernel_rfl
theorem tc_int : Tryz.prog.cellsOf 3 = 1 := by kernel_rfl
theorem tc_edges : Tryz.prog.cellsOf 23 = 1 := by kernel_rfl
theorem tc_edge : Tryz.prog.cellsOf 97 = 3 := by kernel_rfl
theorem op_edge : Op Tryz.prog (rP (rK .i64) (rP (rK .i64) (rK .i64))) (fun _ => True) 97 := by
 intro H enc w fuel cs x h
 obtain ⟨y, h1, -⟩ := Op.struct3 Tryz.underlying97 op_i64 op_i64 op_i64 rfl rfl rfl tc_int tc_int tc_int tc_edge H enc w fuel cs x h
 exact ⟨y, h1, trivial⟩
end
end Go.Proofs.YtidakgbibobbdaaGreatDoor

namespace Go.Proofs.YtidakgbibobbdaaGreatDoor
open Go Go.RowKit

section
variable {κ β : Type} [BEq κ]
def kidx (ks : List κ) (k : κ) : Nat := ks.findIdx (fun p => k == p)
def kget (m : List (κ × β)) (k : κ) : Option β := (m.find? fun p => k == p.1).map (·.2)
def kput (m : List (κ × β)) (k : κ) (v : β) : List (κ × β) := if kidx (m.map (·.1)) k < m.length then m.set (kidx (m.map (·.1)) k) (k, v) else m ++ [(k, v)]
theorem kidx_cons (p : κ) (ks : List κ) (k : κ) : kidx (p :: ks) k = if (k == p) = true then 0 else kidx ks k + 1 := by
 unfold kidx
 rw [List.findIdx_cons]
 cases k == p <;> rfl
theorem kget_at : ∀ (m : List (κ × β)) (k : κ), kget m k = (m[kidx (m.map (·.1)) k]?).map (·.2)
 | [], k => rfl
 | p :: m, k => by
  rw [List.map_cons, kidx_cons, kget]
  cases h : k == p.1 with
  | true => rw [List.find?_cons_of_pos (by simp [h]), if_pos rfl]; rfl
  | false =>
   rw [List.find?_cons_of_neg (by simp [h]), if_neg (by simp), List.getElem?_cons_succ]
   exact kget_at m k
end
def KeysG {κ : Type} (kv : κ → Value) : List MapEntry → List κ → Prop
 | [], [] => True
 | e :: es, k :: ks => e.key = kv k ∧ KeysG kv es ks
 | _, _ => False
section
variable {κ : Type} {kv : κ → Value}
theorem KeysG.len : ∀ {es : List MapEntry} {ks : List κ}, KeysG kv es ks → es.length = ks.length
 | [], [], _ => rfl
 | _ :: _, _ :: _, h => by rw [List.length_cons, List.length_cons, KeysG.len h.2]
 | [], _ :: _, h => h.elim
 | _ :: _, [], h => h.elim
theorem KeysG.set : ∀ {es : List MapEntry} {ks : List κ} {i : Nat} {e : MapEntry} {k : κ}, KeysG kv es ks → e.key = kv k → KeysG kv (es.set i e) (ks.set i k)
 | [], [], _, _, _, h, _ => h
 | _ :: _, _ :: _, 0, _, _, h, he => ⟨he, h.2⟩
 | _ :: _, _ :: _, i + 1, _, _, h, he => ⟨h.1, KeysG.set h.2 he⟩
 | [], _ :: _, _, _, _, h, _ => h.elim
 | _ :: _, [], _, _, _, h, _ => h.elim
theorem KeysG.push : ∀ {es : List MapEntry} {ks : List κ} {e : MapEntry} {k : κ}, KeysG kv es ks → e.key = kv k → KeysG kv (es ++ [e]) (ks ++ [k])
 | [], [], _, _, _, he => ⟨he, trivial⟩
 | _ :: _, _ :: _, _, _, h, he => ⟨h.1, KeysG.push h.2 he⟩
 | [], _ :: _, _, _, h, _ => h.elim
 | _ :: _, [], _, _, h, _ => h.elim
theorem KeysG.at : ∀ {es : List MapEntry} {ks : List κ} (_ : KeysG kv es ks) (i : Nat) (h : i < es.length) (h' : i < ks.length), es[i].key = kv ks[i]
 | [], _, _, i, h, _ => by simp at h
 | _ :: _, [], hk, _, _, _ => hk.elim
 | _ :: _, _ :: _, hk, 0, _, _ => hk.1
 | _ :: _, _ :: _, hk, i + 1, h, h' => KeysG.at hk.2 i (by simpa using h) (by simpa using h')
structure KE (P : Program) (kt : TypeId) (kv : κ → Value) [BEq κ] : Prop where
 check : ∀ em k w, (Instr.checkKey em 10000 kt (kv k)).run P w = .ok () w
 find : ∀ (es : List MapEntry) (ks : List κ), KeysG kv es ks → ∀ k w, (Instr.findKey kt (kv k) es).run P w = .ok ((es[kidx ks k]?).map fun e => (kidx ks k, e.val)) w
 stays : ∀ k k' w, (k == k') = true → (Instr.keyThatStays (kv k') (kv k)).run P w = .ok (kv k) w
end
theorem eqS {k k' : ByteArray} (h : (k == k') = true) : k = k' := by
 rw [beq_toListBytes, beq_iff_eq, ByteArray.toList_eq, ByteArray.toList_eq] at h
 exact ByteArray.ext (Array.toList_inj.1 h)
def kvS (x : ByteArray) : Value := .string x
theorem KeysG.findS : ∀ {es : List MapEntry} {ks : List ByteArray} (i0 : Nat), KeysG kvS es ks → ∀ k, Instr.findNow .string (kvS k) es i0 = some ((es[kidx ks k]?).map fun e => (i0 + kidx ks k, e.val))
 | [], [], _, _, _ => rfl
 | e :: es, p :: ks, i0, h, k => by
  rw [kidx_cons]
  simp only [Instr.findNow, h.1, kvS, Instr.sameNow]
  cases hp : k == p with
  | true => rfl
  | false =>
   dsimp only
   rw [show Value.string k = kvS k from rfl, KeysG.findS (i0 + 1) h.2 k, if_neg (by simp), List.getElem?_cons_succ]
   cases es[kidx ks k]? with
   | none => rfl
   | some f => simp only [Option.map_some]; rw [show i0 + 1 + kidx ks k = i0 + (kidx ks k + 1) by omega]
 | [], _ :: _, _, h, _ => h.elim
 | _ :: _, [], _, h, _ => h.elim
theorem KE.string {P : Program} {kt : TypeId} (hu : P.underlying kt = some .string) : KE P kt kvS := by
 refine ⟨fun em k w => ?_, fun es ks h k w => ?_, fun k k' w h => ?_⟩
 ·unfold Instr.checkKey
  simp only [Sem.run_bind, run_underlying hu, Result.andThen]
  rfl
 ·have := KeysG.findS 0 h k
  simp only [Nat.zero_add] at this
  simp [Instr.findKey, run_underlying hu, this]
 ·have h1 : k = k' := eqS h
  subst h1
  simp [Instr.keyThatStays, Instr.sameBits, kvS, h]
def kvP (x : Int × Int) : Value := .agg #[.int .i64 x.1, .int .i64 x.2]
theorem run_eqP {P : Program} {kt e : TypeId} {i : TypeInfo} (hu : P.underlying kt = some (.array 2 e)) (hi : P.info? e = some i) (he : P.underlying e = some (.int .i64)) (hc : P.cellsOf e = 1) (hg : (Go.isAgg e).run P = fun w => .ok false w) (x y : Int × Int) (w : World) :
  (Op.equal kt (kvP x) (kvP y)).run P w = .ok (x == y) w := by
 show (Op.equalIn (9999 + 1) kt (.agg #[.int .i64 x.1, .int .i64 x.2]) (.agg #[.int .i64 y.1, .int .i64 y.2])).run P w = _
 rw [run_equalIn_array w 9999 _ _ hu hi, hc]
 have hp : ∀ (cs : Array Value) (j : Nat) (v : Value) (w : World), cs[j]? = some v → (part e cs (j * 1)).run P w = .ok v w := fun cs j v w hv => by
  have hgw : (Go.isAgg e).run P w = .ok false w := congrFun hg w
  simp [part, hgw, hv]
 have hq : ∀ (a b : Int) (w : World), (Op.equalIn 9999 e (.int .i64 a) (.int .i64 b)).run P w = .ok (a == b) w := fun a b w => run_equalIn_int w 9998 e .i64 .i64 a b he
 simp only [List.range_succ, List.range_zero, List.nil_append, List.cons_append, Op.eqItems, Sem.run_bind]
 rw [hp _ 0 (.int .i64 x.1) w rfl, Result.andThen_ok, hp _ 0 (.int .i64 y.1) w rfl, Result.andThen_ok, hq, Result.andThen_ok]
 obtain ⟨x1, x2⟩ := x
 obtain ⟨y1, y2⟩ := y
 have hbeq : (((x1, x2) : Int × Int) == (y1, y2)) = ((x1 == y1) && (x2 == y2)) := rfl
 rw [hbeq]
 dsimp only
 cases h1 : x1 == y1 with
 | false => simp
 | true =>
  simp only [Bool.not_true, Bool.false_eq_true, if_false, Bool.true_and]
  simp only [Sem.run_bind]
  rw [hp _ 1 (.int .i64 x2) w rfl, Result.andThen_ok, hp _ 1 (.int .i64 y2) w rfl, Result.andThen_ok, hq, Result.andThen_ok]
  cases h2 : x2 == y2 <;> simp
theorem KE.pair {P : Program} {kt e : TypeId} {i : TypeInfo} (hu : P.underlying kt = some (.array 2 e)) (hi : P.info? e = some i) (he : P.underlying e = some (.int .i64)) (hc : P.cellsOf e = 1) (hg : (Go.isAgg e).run P = fun w => .ok false w) : KE P kt kvP := by
 have hp : ∀ (cs : Array Value) (j : Nat) (v : Value) (w : World), cs[j]? = some v → (part e cs (j * 1)).run P w = .ok v w := fun cs j v w hv => by
  have hgw : (Go.isAgg e).run P w = .ok false w := congrFun hg w
  simp [part, hgw, hv]
 have hck : ∀ (em : Bool) (a : Int) (w : World), (Instr.checkKey em 9999 e (.int .i64 a)).run P w = .ok () w := fun em a w => by
  unfold Instr.checkKey
  simp only [Sem.run_bind, run_underlying he, Result.andThen]
  rfl
 refine ⟨fun em k w => ?_, fun es ks h k w => ?_, fun k k' w h => ?_⟩
 ·unfold Instr.checkKey
  simp only [Sem.run_bind, run_underlying hu, Result.andThen_ok, kvP]
  simp only [Std.Legacy.Range.forIn_eq_forIn_range', Std.Legacy.Range.size, Nat.sub_zero, Nat.add_one_sub_one, Nat.div_one, List.range', List.forIn_cons, List.forIn_nil, Sem.run_bind, run_sizeOf w hi, hc]
  have hs : ∀ w, (sizeOf e).run P w = .ok 1 w := fun w => by rw [run_sizeOf w hi, hc]
  have hp0 : (part e #[Value.int .i64 k.1, Value.int .i64 k.2] 0).run P w = .ok (.int .i64 k.1) w := hp #[Value.int .i64 k.1, Value.int .i64 k.2] 0 (.int .i64 k.1) w rfl
  have hp1 : (part e #[Value.int .i64 k.1, Value.int .i64 k.2] 1).run P w = .ok (.int .i64 k.2) w := hp #[Value.int .i64 k.1, Value.int .i64 k.2] 1 (.int .i64 k.2) w rfl
  simp [hs, hp0, hp1, hck]
 ·have hf : ∀ {es : List MapEntry} {ks : List (Int × Int)} (i0 : Nat), KeysG kvP es ks → (Instr.findAsking kt (kvP k) es i0).run P w = .ok ((es[kidx ks k]?).map fun e => (i0 + kidx ks k, e.val)) w := by
   intro es
   induction es with
   | nil =>
    intro ks i0 h
    cases ks with
    | nil => simp [Instr.findAsking]
    | cons _ _ => exact h.elim
   | cons f es ih =>
    intro ks i0 h
    cases ks with
    | nil => exact h.elim
    | cons p ks =>
     rw [kidx_cons]
     simp only [Instr.findAsking, h.1, Sem.run_bind, run_eqP hu hi he hc hg, Result.andThen_ok]
     cases hp : k == p with
     | true => simp
     | false =>
      simp only [Bool.false_eq_true, if_false]
      rw [ih (i0 + 1) h.2, List.getElem?_cons_succ]
      cases es[kidx ks k]? with
      | none => rfl
      | some f => simp only [Option.map_some]; rw [show i0 + 1 + kidx ks k = i0 + (kidx ks k + 1) by omega]
  rw [run_findKey_eq w (by rw [hu])]
  have := hf 0 h
  simpa using this
 ·have h1 : k = k' := by simpa using h
  subst h1
  simp [Instr.keyThatStays, Instr.sameBits, kvP]
section
variable {κ β : Type}
structure MapO (kv : κ → Value) (r : Rep β) (s : Sig) (t : Nat) (T : TypeId) (a : Option Nat) (cap : Nat) (m : List (κ × β)) : Prop where
 cap0 : cap = 0
 is : ∃ (b : Nat) (es : List MapEntry) (clock : Nat), a = some b ∧ s.w.heap[b]? = some (.map es.toArray clock) ∧ s.tag b = t ∧ KeysG kv es (m.map (·.1)) ∧ ∀ (i : Nat) (e : MapEntry) (p : κ × β), es[i]? = some e → m[i]? = some p → r.rd s [e.val] p.2
def MapD (kv : κ → Value) (r : Rep β) (s : Sig) (a : Option Nat) (cap : Nat) (m : List (κ × β)) : Prop := (a = none ∧ cap = 0 ∧ m = []) ∨ MapO kv r s 0 0 a cap m
variable {kv : κ → Value} {r : Rep β} {s s' : Sig} {t cap : Nat} {T : TypeId} {a : Option Nat} {m : List (κ × β)} {S : Nat → Prop}
theorem MapO.mv (h : MapO kv r s t T a cap m) (mv : Mv S s s') (hn : ¬ S t) (h0 : ¬ S 0) : MapO kv r s' t T a cap m := by
 obtain ⟨b, es, clock, h1, h2, h3, h4, h5⟩ := h.is
 obtain ⟨g1, g2⟩ := mv.blk b (Array.getElem?_eq_some_iff.1 h2).1 (by rw [h3]; exact hn)
 exact ⟨h.cap0, b, es, clock, h1, g1.trans h2, g2.trans h3, h4, fun i e p he hp => r.mono (mv.le h0) (h5 i e p he hp)⟩
theorem MapO.as {t' : Nat} {T' : TypeId} (h : MapO kv r s t T a cap m) (hl : Le s s') (hw : s'.w = s.w) (ht : ∀ b, s.tag b = t → s'.tag b = t') : MapO kv r s' t' T' a cap m := by
 obtain ⟨b, es, clock, h1, h2, h3, h4, h5⟩ := h.is
 exact ⟨h.cap0, b, es, clock, h1, by rw [hw]; exact h2, ht b h3, h4, fun i e p he hp => r.mono hl (h5 i e p he hp)⟩
theorem MapD.mono (h : MapD kv r s a cap m) (hl : Le s s') : MapD kv r s' a cap m := by
 rcases h with h | h
 ·exact .inl h
 ·obtain ⟨b, es, clock, h1, h2, h3, h4, h5⟩ := h.is
  obtain ⟨g1, g2⟩ := hl.blk b (Array.getElem?_eq_some_iff.1 h2).1 h3
  exact .inr ⟨h.cap0, b, es, clock, h1, g1.trans h2, g2, h4, fun i e p he hp => r.mono hl (h5 i e p he hp)⟩
theorem MapO.p (h : MapO kv r s 0 T a cap m) : MapD kv r s a cap m := .inr (h.as (Le.refl _) rfl fun _ e => e)
theorem MapO.fz (h : MapO kv r s t T a cap m) (h0 : t ≠ 0) : MapD kv r (s.fz t) a cap m := .inr (h.as ((Sig.fz_mv t s).le (Ne.symm h0)) rfl fun b e => by simp [Sig.fz, e])
theorem MapO.ren {N k : Nat} {f : Nat → Nat} (h : MapO kv r s (N + k) T a cap m) (hN : 0 < N) : MapO kv r (s.ren N f) (f k) T a cap m := h.as (Sig.ren_le hN) rfl fun b e => by
 simp [Sig.ren, e]
theorem MapD.ren {N : Nat} {f : Nat → Nat} (h : MapD kv r s a cap m) (hN : 0 < N) : MapD kv r (s.ren N f) a cap m := h.mono (Sig.ren_le hN)
def MapA (kv : κ → Value) (r : Rep β) (s : Sig) (a : Option Nat) (m : List (κ × β)) : Prop := (a = none ∧ m = []) ∨ ∃ t T cap, MapO kv r s t T a cap m
theorem MapO.any (h : MapO kv r s t T a cap m) : MapA kv r s a m := .inr ⟨_, _, _, h⟩
theorem MapD.any (h : MapD kv r s a cap m) : MapA kv r s a m := h.elim (fun h => .inl ⟨h.1, h.2.2⟩) (fun h => h.any)
def rM (kv : κ → Value) (r : Rep β) : Rep (List (κ × β)) where
 sz := 1
 rd s cs m := ∃ a cap, cs = [Value.map a] ∧ MapD kv r s a cap m
 len := by rintro s cs x ⟨a, cap, rfl, _⟩; rfl
 mono := by rintro s s' cs x hl ⟨a, cap, rfl, h⟩; exact ⟨a, cap, rfl, h.mono hl⟩
 one := by rintro s cs x ⟨a, cap, rfl, _⟩ u hu; rw [List.mem_singleton.1 hu]; rfl
end
section
variable {Φ : Fr} {P : Program} {Q : Exit → Act → World → Prop} {n : Nat} {e : List (Nat × Value)} {s : Sig} {ops : Array Oper} {os : List Oper} {d : Nat} {ty : TypeId} {pos : String} {af : Array Edge} {g : Option (Nat × Bool)}
variable {κ β : Type} {kv : κ → Value} {r : Rep β} {t cap : Nat} {T kt et : TypeId} {a : Option Nat} {m : List (κ × β)} {k : κ} {v : β} {z : β} {zv : Value}
theorem L.mk2 (t : Nat) (hd : Nat.blt d n = true) (hw : Wt ops e g)
  (h : ∀ a cap s', Mv No s s' → MapO kv r s' t T a cap [] → L Φ P Q n ops os ((d, Value.map a) :: e) s'.w) : L Φ P Q n ops (⟨some d, .makeMap T none, ty, pos, af, g⟩ :: os) e s.w := by
 refine L.val hw hd (v := .map (some s.w.heap.size)) (w' := s.w.alloc (.map #[] 0)) (fun ac ha => by simp [execOp, run_makeMap]) ?_
 refine h (some s.w.heap.size) 0 ⟨s.w.alloc (.map #[] 0), tagUp s.tag s.w.heap.size t⟩ ?_ ⟨rfl, s.w.heap.size, [], 0, rfl, heap_alloc_new s.w _, tagUp_at _ _ _, trivial, fun i e p he => by simp at he⟩
 exact ⟨rfl, rfl, rfl, by simp, fun b hb _ => ⟨heap_alloc_old s.w _ hb, tagUp_lt hb⟩⟩
end
section
variable {Φ : Fr} {P : Program} {Q : Exit → Act → World → Prop} {n : Nat} {e : List (Nat × Value)} {s : Sig} {ops : Array Oper} {os : List Oper} {d : Nat} {ty : TypeId} {pos : String} {af : Array Edge} {g : Option (Nat × Bool)}
variable {κ β : Type} [BEq κ] {kv : κ → Value} {r : Rep β} {t cap : Nat} {T kt et : TypeId} {a : Option Nat} {m : List (κ × β)} {k : κ} {v : β} {z : β} {zv : Value}
structure Md (P : Program) (T kt et : TypeId) (kv : κ → Value) (r : Rep β) (z : β) (zv : Value) : Prop where
 und : P.underlying T = some (.map kt et)
 key : KE P kt kv
 zero : ∀ w, (zeroValue et).run P w = .ok zv w
 zrd : ∀ s, r.rd s [zv] z
theorem Md.mk' (h1 : P.underlying T = some (.map kt et)) (h2 : KE P kt kv) (h3 : (P.info? et).bind (·.zero) = some zv) (h4 : ∀ s, r.rd s [zv] z) : Md P T kt et kv r z zv := ⟨h1, h2, fun w => by
 cases hi : P.info? et with
 | none => simp [hi] at h3
 | some i => simp [hi] at h3; simp [zeroValue, typeInfo, hi, h3], h4⟩
theorem look_run (hT : Md P T kt et kv r z zv) (hM : MapA kv r s a m) (ck : Bool) : ∃ u, r.rd s [u] ((kget m k).getD z) ∧ (Instr.lookup T (Value.map a) (kv k) ck).run P s.w = .ok (if ck = true then .tuple #[u, .bool (kget m k).isSome] else u) s.w := by
 rcases hM with ⟨rfl, rfl⟩ | ⟨t, T0, cap, hM⟩
 ·refine ⟨zv, hT.zrd s, ?_⟩
  have hf := hT.key.find [] [] trivial k s.w
  simp only [List.getElem?_nil, Option.map_none] at hf
  simp [Instr.lookup, run_underlying hT.und, hT.key.check, hf, hT.zero, kget]
 ·obtain ⟨b, es, clock, rfl, h2, h3, h4, h5⟩ := hM.is
  have hf := hT.key.find es _ h4 k s.w
  have hlen : es.length = m.length := by rw [h4.len, List.length_map]
  rw [kget_at]
  cases hx : m[kidx (m.map (·.1)) k]? with
  | none =>
   have hge : m.length ≤ kidx (m.map (·.1)) k := by simpa using hx
   rw [List.getElem?_eq_none (by omega), Option.map_none] at hf
   refine ⟨zv, hT.zrd s, ?_⟩
   simp [Instr.lookup, run_underlying hT.und, gobj h2, hT.key.check, hf, hT.zero]
  | some p =>
   obtain ⟨hlt, -⟩ := List.getElem?_eq_some_iff.1 hx
   have hel : kidx (m.map (·.1)) k < es.length := by omega
   rw [List.getElem?_eq_getElem hel, Option.map_some] at hf
   refine ⟨_, h5 _ _ p (List.getElem?_eq_getElem hel) hx, ?_⟩
   simp [Instr.lookup, run_underlying hT.und, gobj h2, hT.key.check, hf]
theorem L.ml {x y : Operand} {kd : IntKind} {r0 : β → Int} (hT : Md P T kt et kv r z zv) (hM : MapA kv r s a m) (hr : ∀ s u v, r.rd s [u] v → u = .int kd (r0 v)) (hw : Wt ops e g) (hx : Env.ev e x = some (Value.map a)) (hy : Env.ev e y = some (kv k)) (hd : Nat.blt d n = true)
  (h : L Φ P Q n ops os ((d, .int kd (r0 ((kget m k).getD z))) :: e) s.w) : L Φ P Q n ops (⟨some d, .lookup T x y false, ty, pos, af, g⟩ :: os) e s.w := by
 obtain ⟨u, h1, h2⟩ := look_run (k := k) hT hM false
 rw [hr _ _ _ h1] at h2
 refine L.val hw hd (fun ac ha => ?_) h
 simp only [execOp, ha.ev hx, ha.ev hy]
 simp [h2]
theorem L.ml2 {x y : Operand} {kd : IntKind} {r0 : β → Int} (hT : Md P T kt et kv r z zv) (hM : MapA kv r s a m) (hr : ∀ s u v, r.rd s [u] v → u = .int kd (r0 v)) (hw : Wt ops e g) (hx : Env.ev e x = some (Value.map a)) (hy : Env.ev e y = some (kv k)) (hd : Nat.blt d n = true)
  (h : L Φ P Q n ops os ((d, .tuple #[.int kd (r0 ((kget m k).getD z)), .bool (kget m k).isSome]) :: e) s.w) : L Φ P Q n ops (⟨some d, .lookup T x y true, ty, pos, af, g⟩ :: os) e s.w := by
 obtain ⟨u, h1, h2⟩ := look_run (k := k) hT hM true
 rw [hr _ _ _ h1] at h2
 refine L.val hw hd (fun ac ha => ?_) h
 simp only [execOp, ha.ev hx, ha.ev hy]
 simp [h2]
theorem L.mu {x y q : Operand} {qv : Value} {T' : TypeId} (hT : Md P T kt et kv r z zv) (hM : MapO kv r s t T' a cap m) (hv : r.rd s [qv] v) (ht0 : 0 < t) (hkk : ∀ k k' : κ, (k == k') = true → k = k') (hw : Wt ops e g) (hx : Env.ev e x = some (Value.map a)) (hy : Env.ev e y = some (kv k)) (hz : Env.ev e q = some qv)
  (h : ∀ s', Mv (One t) s s' → MapO kv r s' t T' a cap (kput m k v) → L Φ P Q n ops os e s'.w) : L Φ P Q n ops (⟨none, .mapUpdate T x y q, ty, pos, af, g⟩ :: os) e s.w := by
 obtain ⟨b, es, clock, rfl, h2, h3, h4, h5⟩ := hM.is
 have hf := hT.key.find es _ h4 k s.w
 have hlen : es.length = m.length := by rw [h4.len, List.length_map]
 by_cases hlt : kidx (m.map (·.1)) k < m.length
 ·have hel : kidx (m.map (·.1)) k < es.length := by omega
  have hkey := h4.at _ hel (by simpa using hlt)
  have hbeq : (k == (m.map (·.1))[kidx (m.map (·.1)) k]'(by simpa using hlt)) = true := List.findIdx_getElem (p := fun p => k == p) (w := by simpa [kidx] using hlt)
  have hst := hT.key.stays k _ s.w hbeq
  rw [← hkey] at hst
  rw [List.getElem?_eq_getElem hel, Option.map_some] at hf
  have hset := setMap_mv (s := s) (t := t) (es' := es.set (kidx (m.map (·.1)) k) { es[kidx (m.map (·.1)) k] with key := kv k, val := qv }) (clock' := clock) h2 h3
  refine L.unit hw (w' := { s.w with heap := s.w.heap.setIfInBounds b (.map (es.set (kidx (m.map (·.1)) k) { es[kidx (m.map (·.1)) k] with key := kv k, val := qv }).toArray clock) }) (fun ac ha => ?_) (h _ hset.1 ?_)
  ·simp [execOp, ha.ev hx, ha.ev hy, ha.ev hz, Instr.mapUpdate, run_underlying hT.und, gobj h2, hT.key.check, hf, hel, hst, sobj _ h2]
   rw [lmod _ (List.getElem?_eq_getElem hel)]
  ·have hk2 : (m.map (·.1))[kidx (m.map (·.1)) k]'(by simpa using hlt) = k := (hkk _ _ hbeq).symm
   refine ⟨hM.cap0, b, _, clock, rfl, hset.2, h3, ?_, fun i f p hf' hp => ?_⟩
   ·rw [kput, if_pos hlt, List.map_set]
    exact h4.set rfl
   ·refine r.mono (hset.1.le (fun e0 => by have : 0 = t := e0; omega)) ?_
    rw [kput, if_pos hlt] at hp
    by_cases hi : kidx (m.map (·.1)) k = i
    ·subst hi
     rw [List.getElem?_set_self hel, Option.some.injEq] at hf'
     rw [List.getElem?_set_self hlt, Option.some.injEq] at hp
     subst hf'; subst hp
     exact hv
    ·rw [List.getElem?_set_ne hi] at hf' hp
     exact h5 i f p hf' hp
 ·rw [List.getElem?_eq_none (by omega), Option.map_none] at hf
  have hset := setMap_mv (s := s) (t := t) (es' := es ++ [(⟨kv k, qv, clock⟩ : MapEntry)]) (clock' := clock + 1) h2 h3
  refine L.unit hw (w' := { s.w with heap := s.w.heap.setIfInBounds b (.map (es ++ [(⟨kv k, qv, clock⟩ : MapEntry)]).toArray (clock + 1)) }) (fun ac ha => ?_) (h _ hset.1 ?_)
  ·simp [execOp, ha.ev hx, ha.ev hy, ha.ev hz, Instr.mapUpdate, run_underlying hT.und, gobj h2, hT.key.check, hf, sobj _ h2]
  ·refine ⟨hM.cap0, b, _, clock + 1, rfl, hset.2, h3, ?_, fun i f p hf' hp => ?_⟩
   ·rw [kput, if_neg hlt, List.map_append]
    exact h4.push rfl
   ·refine r.mono (hset.1.le (fun e0 => by have : 0 = t := e0; omega)) ?_
    rw [kput, if_neg hlt] at hp
    by_cases hi : i < es.length
    ·rw [List.getElem?_append_left hi] at hf'
     rw [List.getElem?_append_left (by omega)] at hp
     exact h5 i f p hf' hp
    ·rw [List.getElem?_append_right (by omega)] at hf'
     rw [List.getElem?_append_right (by omega)] at hp
     by_cases h0 : i - es.length = 0
     ·rw [h0] at hf'
      rw [show i - m.length = 0 by omega] at hp
      simp only [List.getElem?_cons_zero, Option.some.injEq] at hf' hp
      subst hf'; subst hp
      exact hv
     ·rw [List.getElem?_eq_none (by simp; omega)] at hf'; cases hf'
theorem L.ins {x y q : Operand} {qv : Value} {T' : TypeId} (hT : Md P T kt et kv r z zv) (hM : MapO kv r s t T' a cap m) (hv : r.rd s [qv] v) (ht0 : 0 < t) (hkk : ∀ k k' : κ, (k == k') = true → k = k') (hw : Wt ops e g) (hx : Env.ev e x = some (Value.map a)) (hy : Env.ev e y = some (kv k)) (hz : Env.ev e q = some qv)
  (h : ∀ s', Mv (One t) s s' → MapO kv r s' t T' a cap (kput m k v) → L Φ P Q n ops os e s'.w) : L Φ P Q n ops (⟨none, .insert T x y q, ty, pos, af, g⟩ :: os) e s.w := by
 obtain ⟨b, es, clock, rfl, h2, h3, h4, h5⟩ := hM.is
 have hf := hT.key.find es _ h4 k s.w
 have hlen : es.length = m.length := by rw [h4.len, List.length_map]
 by_cases hlt : kidx (m.map (·.1)) k < m.length
 ·have hel : kidx (m.map (·.1)) k < es.length := by omega
  have hkey := h4.at _ hel (by simpa using hlt)
  have hbeq : (k == (m.map (·.1))[kidx (m.map (·.1)) k]'(by simpa using hlt)) = true := List.findIdx_getElem (p := fun p => k == p) (w := by simpa [kidx] using hlt)
  have hst := hT.key.stays k _ s.w hbeq
  rw [← hkey] at hst
  rw [List.getElem?_eq_getElem hel, Option.map_some] at hf
  have hset := setMap_mv (s := s) (t := t) (es' := es.set (kidx (m.map (·.1)) k) { es[kidx (m.map (·.1)) k] with key := kv k, val := qv }) (clock' := clock) h2 h3
  refine L.unit hw (w' := { s.w with heap := s.w.heap.setIfInBounds b (.map (es.set (kidx (m.map (·.1)) k) { es[kidx (m.map (·.1)) k] with key := kv k, val := qv }).toArray clock) }) (fun ac ha => ?_) (h _ hset.1 ?_)
  ·simp [execOp, ha.ev hx, ha.ev hy, ha.ev hz, Instr.mapUpdate, run_underlying hT.und, gobj h2, hT.key.check, hf, hel, hst, sobj _ h2]
   rw [lmod _ (List.getElem?_eq_getElem hel)]
  ·have hk2 : (m.map (·.1))[kidx (m.map (·.1)) k]'(by simpa using hlt) = k := (hkk _ _ hbeq).symm
   refine ⟨hM.cap0, b, _, clock, rfl, hset.2, h3, ?_, fun i f p hf' hp => ?_⟩
   ·rw [kput, if_pos hlt, List.map_set]
    exact h4.set rfl
   ·refine r.mono (hset.1.le (fun e0 => by have : 0 = t := e0; omega)) ?_
    rw [kput, if_pos hlt] at hp
    by_cases hi : kidx (m.map (·.1)) k = i
    ·subst hi
     rw [List.getElem?_set_self hel, Option.some.injEq] at hf'
     rw [List.getElem?_set_self hlt, Option.some.injEq] at hp
     subst hf'; subst hp
     exact hv
    ·rw [List.getElem?_set_ne hi] at hf' hp
     exact h5 i f p hf' hp
 ·rw [List.getElem?_eq_none (by omega), Option.map_none] at hf
  have hset := setMap_mv (s := s) (t := t) (es' := es ++ [(⟨kv k, qv, clock⟩ : MapEntry)]) (clock' := clock + 1) h2 h3
  refine L.unit hw (w' := { s.w with heap := s.w.heap.setIfInBounds b (.map (es ++ [(⟨kv k, qv, clock⟩ : MapEntry)]).toArray (clock + 1)) }) (fun ac ha => ?_) (h _ hset.1 ?_)
  ·simp [execOp, ha.ev hx, ha.ev hy, ha.ev hz, Instr.mapUpdate, run_underlying hT.und, gobj h2, hT.key.check, hf, sobj _ h2]
  ·refine ⟨hM.cap0, b, _, clock + 1, rfl, hset.2, h3, ?_, fun i f p hf' hp => ?_⟩
   ·rw [kput, if_neg hlt, List.map_append]
    exact h4.push rfl
   ·refine r.mono (hset.1.le (fun e0 => by have : 0 = t := e0; omega)) ?_
    rw [kput, if_neg hlt] at hp
    by_cases hi : i < es.length
    ·rw [List.getElem?_append_left hi] at hf'
     rw [List.getElem?_append_left (by omega)] at hp
     exact h5 i f p hf' hp
    ·rw [List.getElem?_append_right (by omega)] at hf'
     rw [List.getElem?_append_right (by omega)] at hp
     by_cases h0 : i - es.length = 0
     ·rw [h0] at hf'
      rw [show i - m.length = 0 by omega] at hp
      simp only [List.getElem?_cons_zero, Option.some.injEq] at hf' hp
      subst hf'; subst hp
      exact hv
     ·rw [List.getElem?_eq_none (by simp; omega)] at hf'; cases hf'
theorem L.mi {x y : Operand} {kd : IntKind} {m : List (κ × Int)} {zi : Int} (hT : Md P T kt et kv (rK kd) zi zv) (hM : MapA kv (rK kd) s a m) (hw : Wt ops e g) (hx : Env.ev e x = some (Value.map a)) (hy : Env.ev e y = some (kv k)) (hd : Nat.blt d n = true)
  (h : L Φ P Q n ops os ((d, .int kd ((kget m k).getD zi)) :: e) s.w) : L Φ P Q n ops (⟨some d, .lookup T x y false, ty, pos, af, g⟩ :: os) e s.w :=
 L.ml (r0 := fun v => v) hT hM (fun _ u v hu => (List.cons.inj hu).1) hw hx hy hd h
theorem L.mi2 {x y : Operand} {kd : IntKind} {m : List (κ × Int)} {zi : Int} (hT : Md P T kt et kv (rK kd) zi zv) (hM : MapA kv (rK kd) s a m) (hw : Wt ops e g) (hx : Env.ev e x = some (Value.map a)) (hy : Env.ev e y = some (kv k)) (hd : Nat.blt d n = true)
  (h : L Φ P Q n ops os ((d, .tuple #[.int kd ((kget m k).getD zi), .bool (kget m k).isSome]) :: e) s.w) : L Φ P Q n ops (⟨some d, .lookup T x y true, ty, pos, af, g⟩ :: os) e s.w :=
 L.ml2 (r0 := fun v => v) hT hM (fun _ u v hu => (List.cons.inj hu).1) hw hx hy hd h
theorem eqP {k k' : Int × Int} (h : (k == k') = true) : k = k' := by simpa using h
theorem KE.pair' {P : Program} {kt e : TypeId} (hu : P.underlying kt = some (.array 2 e)) (hi : (P.info? e).isSome = true) (he : P.underlying e = some (.int .i64)) (hc : P.cellsOf e = 1) (hg : ∀ w, (Go.isAgg e).run P w = .ok false w) : KE P kt kvP := by
 obtain ⟨i, hi⟩ := Option.isSome_iff_exists.1 hi
 exact KE.pair hu hi he hc (funext hg)
end
end Go.Proofs.YtidakgbibobbdaaGreatDoor

namespace Go.Proofs.YtidakgbibobbdaaGreatDoor
open Go.RowKit

theorem take_snoc {α : Type} (xs : List α) (k : Nat) (h : k < xs.length) : xs.take (k + 1) = xs.take k ++ [xs[k]] := by
 rw [List.take_succ_eq_append_getElem h]

end Go.Proofs.YtidakgbibobbdaaGreatDoor

namespace Go.Proofs.YtidakgbibobbdaaGreatDoor
open Go.RowKit

structure Aut where
 al : List Int
 n : Int
 ms : List Int
 es : List Ed
def edErr (al : List Int) (n : Int) : Option Ed → List Ed → Int
 | _, [] => 0
 | p, x :: xs => if (x.f < 0 ∨ n ≤ x.f ∨ x.t < 0 ∨ n ≤ x.t) then 2 else if hasB al x.e = false then 9 else if (∃ q, p = some q ∧ (x.f < q.f ∨ (x.f = q.f ∧ x.e ≤ q.e))) then 5 else edErr al n (some x) xs
end Go.Proofs.YtidakgbibobbdaaGreatDoor

namespace Go.Proofs.YtidakgbibobbdaaGreatDoor
open Go.RowKit

def Aut.err (a : Aut) : Int :=
 if (setErr 32 none a.al != 0) = true then setErr 32 none a.al else if a.n < 0 then 2 else if 4096 < a.n then 3 else if (setErr a.n none a.ms != 0) = true then setErr a.n none a.ms else edErr a.al a.n none a.es

end Go.Proofs.YtidakgbibobbdaaGreatDoor

namespace Go.Proofs.YtidakgbibobbdaaGreatDoor
open Go.RowKit Go.Shelf

def mark (D : Nat) : Deferred := { target := .collected D, args := #[] }
theorem calls_of_marks {P : Program} {f : FuncId} {fn : Func} {c : Code} {args : Array Value} {w : World} {R : Ending → World → Prop} (hf : P.funcs[f]? = some fn) (hb : fn.body = some c)
  (h : c.wp P (bodyPostM Fence.wide 4 P fn R) { tmps := args ++ Array.replicate (fn.ntmps - args.size) undef, defers := [] } w) : Calls P f args w R :=
 (callsIn_wide (n := 4)).1 (callsIn_of_wp_marks hf hb trivial (wpIn_wide.2 h) rfl)
end Go.Proofs.YtidakgbibobbdaaGreatDoor

namespace Go.Proofs.YtidakgbibobbdaaGreatDoor
open Go.RowKit

def revK (xs : List Int) (k : Nat) : List Int := (List.range xs.length).map fun m => if m < k ∨ xs.length - k ≤ m then xs.getD (xs.length - 1 - m) 0 else xs.getD m 0
theorem revK_zero (xs : List Int) : revK xs 0 = xs := by
 apply List.ext_getElem
 ·simp [revK]
 ·intro i h1 h2
  simp only [revK, List.getElem_map, List.getElem_range]
  rw [if_neg (by omega), List.getD_eq_getElem?_getD, List.getElem?_eq_getElem h2]; rfl
theorem revK_get (xs : List Int) (k m : Nat) (hm : m < xs.length) (h : ¬ (m < k ∨ xs.length - k ≤ m)) : (ints (revK xs k))[m]? = some (.int .i64 (xs.getD m 0)) := by
 rw [List.getElem?_map, revK, List.getElem?_map, List.getElem?_range hm]
 simp only [Option.map_some]
 rw [if_neg h]
theorem revK_step (xs : List Int) (k : Nat) (h : 2 * k + 1 < xs.length) : ints (revK xs (k + 1)) = ((ints (revK xs k)).set k (.int .i64 (xs.getD (xs.length - 1 - k) 0))).set (xs.length - 1 - k) (.int .i64 (xs.getD k 0)) := by
 apply List.ext_getElem
 ·simp [revK]
 ·intro i g1 g2
  have hi : i < xs.length := by simpa [revK] using g1
  rw [List.getElem_set, List.getElem_set]
  simp only [revK, List.getElem_map, List.getElem_range]
  by_cases e1 : xs.length - 1 - k = i
  ·rw [if_pos e1, if_pos (by omega)]
   congr 2
   omega
  ·rw [if_neg e1]
   by_cases e2 : k = i
   ·rw [if_pos e2, if_pos (by omega)]
    congr 2
    omega
   ·rw [if_neg e2]
    by_cases e3 : i < k ∨ xs.length - k ≤ i
    ·rw [if_pos e3, if_pos (by omega)]
    ·rw [if_neg e3, if_neg (by omega)]
theorem revK_all (xs : List Int) (k : Nat) (h : xs.length ≤ 2 * k + 1) : revK xs k = xs.reverse := by
 apply List.ext_getElem
 ·simp [revK]
 ·intro i h1 h2
  have hi : i < xs.length := by simpa using h2
  simp only [revK, List.getElem_map, List.getElem_range, List.getElem_reverse]
  split
  ·rw [List.getD_eq_getElem?_getD, List.getElem?_eq_getElem (by omega)]; rfl
  ·have : xs.length - 1 - i = i := by omega
   rw [List.getD_eq_getElem?_getD, List.getElem?_eq_getElem hi, Option.getD_some]
   congr 1
   exact this.symm

theorem reverse_anyT (v : Value) (xs : List Int) (w : World) (B : Nat) (tag : Nat → Nat) (k0 : Nat) (hr : Row w B tag k0 3 1 v xs.length (ints xs)) (hl : xs.length ≤ 1000000) :
  Calls Tryz.prog 112 #[v] w fun e w' => e = .returned (.tuple #[]) ∧ Row w' B tag k0 3 1 v xs.length (ints xs.reverse) ∧ Turn B tag tag k0 w w' := by
 obtain ⟨a, cap, rfl⟩ := hr.val
 go_enter Tryz.func112, Tryz.ntmps112
 go_wp2_with fail
 go_loopw [2, 3] (fun i j wr => ∃ k : Nat, i = .int .i64 k ∧ j = .int .i64 ((xs.length : Int) - 1 - k) ∧ 2 * k ≤ xs.length + 1 ∧ Row wr B tag k0 3 1 (.slice a xs.length cap) xs.length (ints (revK xs k)) ∧ Turn B tag tag k0 w wr) (fun i _ _ => xs.length - (intOf i).toNat)
 case atStart => exact ⟨0, rfl, by simp, by omega, by rw [revK_zero]; exact hr, Turn.refl _ _ _ _⟩
 case round =>
  obtain ⟨k, rfl, rfl, hk, hrow, ht⟩ := hrel
  by_cases hlt : 2 * k + 1 < xs.length
  ·obtain ⟨b, off, cap', e1, hbl, _⟩ := hrow.addr (by omega)
   cases e1
   have c1 := hrow.cellAt k (by omega)
   rw [revK_get xs k k (by omega) (by omega)] at c1
   have c2 := hrow.cellAt (xs.length - 1 - k) (by omega)
   rw [revK_get xs k (xs.length - 1 - k) (by omega) (by omega)] at c2
   have f1 := hrow.frozenAt (off + k)
   have f2 := hrow.frozenAt (off + (xs.length - 1 - k))
   have s1 := hrow.set k (.int .i64 (xs.getD (xs.length - 1 - k) 0))
   have s2 := s1.1.set (xs.length - 1 - k) (.int .i64 (xs.getD k 0))
   rw [← revK_step xs k hlt] at s2
   have S1 := Lib.hid s1.2
   have S2 := Lib.hid s2
   have c3 : (wr.setCell ⟨b, off + k, none⟩ (.int .i64 (xs.getD (xs.length - 1 - k) 0))).cell? ⟨b, off + (xs.length - 1 - k), none⟩ = some (.int .i64 (xs.getD (xs.length - 1 - k) 0)) := by
    rw [World.cell?_setCell_other, c2]
    intro e; simp at e; try omega
   clear s1 s2 hr
   generalize xs.getD (xs.length - 1 - k) 0 = p at *
   generalize xs.getD k 0 = q at *
   have hidx : ((xs.length : Int) - 1 - k).toNat = xs.length - 1 - k := by omega
   go_wp2
   go_region
   go_wp2
   go_roundw
   case rel => exact ⟨k + 1, by go_num, by congr 1; omega, by omega, S2.out.1.below (bel_drew _), ((ht.trans S1.out).trans S2.out.2).trans (Turn.below (bel_drew _))⟩
   case measure => simp [intOf]; omega
  ·go_wp2
   refine ⟨rfl, .tuple #[], by simp [results, Tryz.results112], ⟨rfl, by rw [revK_all xs k (by omega)] at hrow; exact hrow, ht⟩⟩
end Go.Proofs.YtidakgbibobbdaaGreatDoor

namespace Go.Proofs.YtidakgbibobbdaaGreatDoor
open Go.RowKit

theorem setErr_zero {n : Int} : ∀ {p : Option Int} {xs : List Int}, setErr n p xs = 0 → ∀ x ∈ xs, 0 ≤ x ∧ x < n
 | _, [], _, x, hx => by cases hx
 | p, y :: ys, h, x, hx => by
  rw [setErr] at h
  split at h
  ·cases h
  ·rename_i h1
   split at h
   ·cases h
   ·rcases List.mem_cons.1 hx with rfl | h2
    ·omega
    ·exact setErr_zero h x h2
theorem edErr_zero {al : List Int} {n : Int} : ∀ {p : Option Ed} {xs : List Ed}, edErr al n p xs = 0 → ∀ x ∈ xs, 0 ≤ x.f ∧ x.f < n ∧ 0 ≤ x.t ∧ x.t < n
 | _, [], _, x, hx => by cases hx
 | p, y :: ys, h, x, hx => by
  rw [edErr] at h
  split at h
  ·cases h
  ·rename_i h1
   split at h
   ·cases h
   ·split at h
    ·cases h
    ·rcases List.mem_cons.1 hx with rfl | h2
     ·omega
     ·exact edErr_zero h x h2
structure Aut.Ok (a : Aut) : Prop where
 n0 : 0 ≤ a.n
 n1 : a.n ≤ 4096
 ms : ∀ s ∈ a.ms, 0 ≤ s ∧ s < a.n
 es : ∀ x ∈ a.es, 0 ≤ x.f ∧ x.f < a.n ∧ 0 ≤ x.t ∧ x.t < a.n
theorem Aut.ok_of {a : Aut} (h : a.err = 0) : a.Ok := by
 unfold Aut.err at h
 split at h
 ·rename_i h1; rw [h] at h1; cases h1
 ·split at h
  ·cases h
  ·split at h
   ·cases h
   ·split at h
    ·rename_i h1; rw [h] at h1; cases h1
    ·rename_i h1 h2 h3 h4
     have h5 : setErr a.n none a.ms = 0 := by simpa using h4
     exact ⟨by omega, by omega, setErr_zero h5, edErr_zero h⟩

end Go.Proofs.YtidakgbibobbdaaGreatDoor

namespace Go.Proofs.YtidakgbibobbdaaGreatDoor
open Go Go.RowKit
abbrev AutT := List Int × Int × List Int × (List (Int × Int × Int))
def toEd (x : Int × Int × Int) : Ed := ⟨x.1, x.2.1, x.2.2⟩
def toAut (p : AutT) : Aut := ⟨p.1, p.2.1, p.2.2.1, p.2.2.2.map toEd⟩
theorem cells_ints {s : Sig} : ∀ {xs : List Int} {cs : List Value}, Cells (rK .i64) s cs xs → cs = ints xs
 | [], cs, h => h
 | x :: xs, cs, h => by
  obtain ⟨c, d, rfl, h1, h2⟩ := h
  have h1 : c = [.int .i64 x] := h1
  rw [h1, cells_ints h2]; rfl
theorem ints_cells {s : Sig} : ∀ (xs : List Int), Cells (rK .i64) s (ints xs) xs
 | [] => rfl
 | x :: xs => ⟨[.int .i64 x], ints xs, rfl, rfl, ints_cells xs⟩
theorem RdL.rdI {s : Sig} {a : Option Addr} {c : Nat} {xs : List Int} (h : RdL (rK .i64) s a c xs) : RdI s.w (.slice a xs.length c) xs := by
 obtain ⟨cs, h1, _, h3⟩ := h
 rw [cells_ints h3] at h1
 exact ⟨a, c, rfl, h1⟩
def Sig.nw (s : Sig) (w' : World) : Sig := ⟨w', fun b => if b < s.w.heap.size then s.tag b else 0⟩
theorem Sig.nw_mv {s : Sig} {w' : World} (h : Below s.w.heap.size s.w w') : Mv No s (s.nw w') := Below.mv h fun b hb => if_pos hb
end Go.Proofs.YtidakgbibobbdaaGreatDoor

namespace Go.Proofs
open Go.Shelf
def Tryz.lays169_ren : Go.Shelf.Ren := ⟨fun | 169 => 127 | n => n, fun | 70 => 191 | 9 => 9 | 0 => 0 | 72 => 193 | 37 => 89 | 127 => 231 | 3 => 3 | 5 => 5 | n => n, fun | n => n⟩
theorem Tryz.lays169 : Go.Proofs.Lays.n169 Tryz.prog Tryz.lays169_ren := {
 mixed := by kernel_rfl
 f169 := Tryz.func127.trans (congrArg some (by kernel_rfl))
 t0 := Tryz.underlying0
 a0 := Tryz.isAgg0
 z0 := Tryz.sizeOf0
 v0 := Tryz.zeroValue0
 t3 := Tryz.underlying3
 a3 := Tryz.isAgg3
 z3 := Tryz.sizeOf3
 v3 := Tryz.zeroValue3
 t9 := Tryz.underlying9
 a9 := Tryz.isAgg9
 z9 := Tryz.sizeOf9
 v9 := Tryz.zeroValue9
 t37 := Tryz.underlying89
 a37 := Tryz.isAgg89
 z37 := Tryz.sizeOf89
 v37 := Tryz.zeroValue89
 t70 := Tryz.underlying191
 a70 := Tryz.isAgg191
 z70 := Tryz.sizeOf191
 v70 := Tryz.zeroValue191
 t72 := Tryz.underlying193
 a72 := Tryz.isAgg193
 z72 := Tryz.sizeOf193
 v72 := Tryz.zeroValue193
 t127 := Tryz.underlying231
 a127 := Tryz.isAgg231
 z127 := Tryz.sizeOf231
 v127 := Tryz.zeroValue231 }
theorem Tryz.Builder_Extra_169 : Builder.Extra Tryz.prog Tryz.lays169_ren := {
 sizeBuilder := by kernel_rfl
 liesBuilder := by kernel_rfl
 t5 := Tryz.underlying5
 a5 := Tryz.isAgg5
 z5 := Tryz.sizeOf5
 v5 := Tryz.zeroValue5
 infoByte := by kernel_rfl
 cellsByte := by kernel_rfl
 sizeByte := by kernel_rfl
 neB5 := by decide }
open Go.RowKit in
theorem Tryz.Builder_String_any (B b : Nat) (l : List UInt8) (w : World) (h : Lib.IsBuilder 193 5 B b (Lib.byteCells l) w) (hBw : B ≤ w.heap.size) :
  Calls Tryz.prog 127 #[.pointer (some ⟨b, 0, none⟩)] w fun e w' => e = .returned (.string ⟨l.toArray⟩) ∧ Below B w w' := Any.Builder_String_any Tryz.lays169 Tryz.Builder_Extra_169 B b l w h hBw
def Tryz.lays171_ren : Go.Shelf.Ren := ⟨fun | 171 => 125 | 243 => 162 | 246 => 180 | 283 => 201 | 284 => 202 | 285 => 203 | 286 => 204 | 129 => 192 | 317 => 214 | 318 => 215 | 319 => 216 | 320 => 217 | 337 => 228 | 338 => 229 | n => n, fun | 3 => 3 | 9 => 9 | 2 => 2 | 4 => 4 | 171 => 261 | 0 => 0 | 53 => 255 | 37 => 89 | 5 => 5 | 173 => 263 | 212 => 276 | 51 => 253 | 20 => 20 | 213 => 277 | 46 => 216 | 232 => 288 | 233 => 289 | n => n, fun | 17 => 0 | 18 => 1 | 19 => 2 | n => n⟩
theorem Tryz.lays171 : Go.Proofs.Lays.n171 Tryz.prog Tryz.lays171_ren := {
 mixed := by kernel_rfl
 f129 := Tryz.func192.trans (congrArg some (by kernel_rfl))
 f171 := Tryz.func125.trans (congrArg some (by kernel_rfl))
 f243 := Tryz.func162.trans (congrArg some (by kernel_rfl))
 f246 := Tryz.func180.trans (congrArg some (by kernel_rfl))
 f283 := Tryz.func201.trans (congrArg some (by kernel_rfl))
 f284 := Tryz.func202.trans (congrArg some (by kernel_rfl))
 f285 := Tryz.func203.trans (congrArg some (by kernel_rfl))
 f286 := Tryz.func204.trans (congrArg some (by kernel_rfl))
 f317 := Tryz.func214.trans (congrArg some (by kernel_rfl))
 f318 := Tryz.func215.trans (congrArg some (by kernel_rfl))
 f319 := Tryz.func216.trans (congrArg some (by kernel_rfl))
 f320 := Tryz.func217.trans (congrArg some (by kernel_rfl))
 f337 := Tryz.func228.trans (congrArg some (by kernel_rfl))
 f338 := Tryz.func229.trans (congrArg some (by kernel_rfl))
 t0 := Tryz.underlying0
 a0 := Tryz.isAgg0
 z0 := Tryz.sizeOf0
 v0 := Tryz.zeroValue0
 t2 := Tryz.underlying2
 a2 := Tryz.isAgg2
 z2 := Tryz.sizeOf2
 v2 := Tryz.zeroValue2
 t3 := Tryz.underlying3
 a3 := Tryz.isAgg3
 z3 := Tryz.sizeOf3
 v3 := Tryz.zeroValue3
 t4 := Tryz.underlying4
 a4 := Tryz.isAgg4
 z4 := Tryz.sizeOf4
 v4 := Tryz.zeroValue4
 t5 := Tryz.underlying5
 a5 := Tryz.isAgg5
 z5 := Tryz.sizeOf5
 v5 := Tryz.zeroValue5
 t9 := Tryz.underlying9
 a9 := Tryz.isAgg9
 z9 := Tryz.sizeOf9
 v9 := Tryz.zeroValue9
 t20 := Tryz.underlying20
 a20 := Tryz.isAgg20
 z20 := Tryz.sizeOf20
 v20 := Tryz.zeroValue20
 t37 := Tryz.underlying89
 a37 := Tryz.isAgg89
 z37 := Tryz.sizeOf89
 v37 := Tryz.zeroValue89
 t46 := Tryz.underlying216
 a46 := Tryz.isAgg216
 z46 := Tryz.sizeOf216
 v46 := Tryz.zeroValue216
 t51 := Tryz.underlying253
 a51 := Tryz.isAgg253
 z51 := Tryz.sizeOf253
 v51 := Tryz.zeroValue253
 t53 := Tryz.underlying255
 a53 := Tryz.isAgg255
 z53 := Tryz.sizeOf255
 v53 := Tryz.zeroValue255
 t171 := Tryz.underlying261
 a171 := Tryz.isAgg261
 z171 := Tryz.sizeOf261
 v171 := Tryz.zeroValue261
 t173 := Tryz.underlying263
 a173 := Tryz.isAgg263
 z173 := Tryz.sizeOf263
 v173 := Tryz.zeroValue263
 t212 := Tryz.underlying276
 a212 := Tryz.isAgg276
 z212 := Tryz.sizeOf276
 v212 := Tryz.zeroValue276
 t213 := Tryz.underlying277
 a213 := Tryz.isAgg277
 z213 := Tryz.sizeOf277
 t232 := Tryz.underlying288
 a232 := Tryz.isAgg288
 z232 := Tryz.sizeOf288
 v232 := Tryz.zeroValue288
 t233 := Tryz.underlying289
 a233 := Tryz.isAgg289
 z233 := Tryz.sizeOf289
 v233 := Tryz.zeroValue289
 g17 := by kernel_rfl
 g18 := by kernel_rfl
 g19 := by kernel_rfl }
open Go.RowKit Go.Sort Go.Lib in
theorem Tryz.strconv_Itoa_small (i : Nat) (hi : i < 100) (w : World) :
  Calls Tryz.prog 125 #[.int .i64 i] w fun e w' => e = .returned (.string ⟨(Lib.decDigits i).toArray⟩) ∧ w' = w := Any.strconv_Itoa_small Tryz.lays171 i hi w
end Go.Proofs

namespace Go.Proofs.YtidakgbibobbdaaGreatDoor
open Go Go.RowKit
abbrev bT : TypeId := 193
abbrev bE : TypeId := 5
theorem ky_size : (Tryz.prog.info? bT).map (fun i => i.size) = some 2 := by kernel_rfl
theorem ky_lies : liesAt Tryz.prog (Tryz.prog).depth bT (2 / (Tryz.prog).cellsOf bT) 0 bT 1 = true := by kernel_rfl
theorem ky_byte : (Tryz.prog.info? bE).map (fun i => (i.zero, i.size, i.bytes)) = some (some (.int .u8 0), 1, 1) := by kernel_rfl
theorem ky_tp : (Tryz.prog).underlying 191 = some (.pointer bT) := by kernel_rfl
theorem ky_un : (Tryz.prog).underlying 240 = some .unsafePointer := by kernel_rfl
/-- Behind copyCheck the builder knows its address. -/
theorem ky_check (B b : Nat) (bs : List Value) (w : World) (h : Lib.IsBuilder bT bE B b bs w) :
  Calls Tryz.prog 161 #[.pointer (some ⟨b, 0, none⟩)] w fun e w' => e = .returned (.tuple #[]) ∧ Lib.BuilderAt bT bE B b (.pointer (some ⟨b, 0, none⟩)) bs w' ∧ Below B w w' := by
 obtain ⟨j, hj, hjs⟩ := Option.map_eq_some_iff.1 ky_size
 rcases h with h | h
 ·have h0 := h.cell0
  have hsh := h.shape
  have hfz := h.frozen0
  suffices hh : Calls Tryz.prog 161 #[.pointer (some ⟨b, 0, none⟩)] w fun e w' => e = .returned (.tuple #[]) ∧ w' = w.setCell ⟨b, 0, none⟩ (.pointer (some ⟨b, 0, none⟩)) by
   refine hh.mono ?_
   rintro e w' ⟨rfl, rfl⟩
   exact ⟨rfl, h.used _, (Below.refl B w).setCell (p := ⟨b, 0, none⟩) h.1 _⟩
  go_enter Tryz.func161, Tryz.ntmps161
  go_wp2
  rw [Lib.run_to_unsafe w ⟨b, 0, none⟩ ky_tp ky_un hj (by rw [hjs]; decide) hsh (Nat.zero_lt_succ 1)]
  simp only [Result.andThen]
  rw [Oper.upon_value]
  go_wp2
  rw [run_callFunc_extern Tryz.func179 (by kernel_rfl) (by kernel_rfl) (by kernel_rfl) (e := Extern.AbiNoEscape.same) (by kernel_rfl)]
  rw [Lib.run_noEscape]
  simp only [Result.andThen]
  rw [Oper.upon_value]
  go_wp2
  rw [Lib.run_from_unsafe w ⟨b, 0, none⟩ ky_un ky_tp hj hsh ky_lies]
  simp only [Result.andThen]
  rw [Oper.upon_value]
  go_wp2
  go_end0
  exact ⟨rfl, rfl⟩
 ·have h0 := h.cell0
  suffices hh : Calls Tryz.prog 161 #[.pointer (some ⟨b, 0, none⟩)] w fun e w' => e = .returned (.tuple #[]) ∧ w' = w by
   refine hh.mono ?_
   rintro e w' ⟨rfl, rfl⟩
   exact ⟨rfl, h, Below.refl B _⟩
  go_enter Tryz.func161, Tryz.ntmps161
  go_wp2
  rw [Lib.run_neq_ptr_same w _ ky_tp hj]
  go_wp2
  go_end0
  exact ⟨rfl, rfl⟩
theorem ky_byteW (B b : Nat) (bs : List Value) (c : Int) (w : World) (h : Lib.IsBuilder bT bE B b bs w) (hlen : bs.length + 1 ≤ 1000000) (hBw : B ≤ w.heap.size) :
  Calls Tryz.prog 126 #[.pointer (some ⟨b, 0, none⟩), .int .u8 c] w fun e w' => e = .returned .nilIface ∧ Lib.BuilderAt bT bE B b (.pointer (some ⟨b, 0, none⟩)) (bs ++ [.int .u8 c]) w' ∧ Below B w w' := by
 obtain ⟨i0, hi, hz0, hz1, hz2⟩ := info_parts ky_byte
 go_enter Tryz.func126, Tryz.ntmps126
 go_wp2_with (go_at_call 161; refine (ky_check B b bs _ h).mono ?_)
 rintro e w1 ⟨rfl, h1, hb1⟩
 obtain ⟨hB, v, hbk, hown, hne⟩ := h1
 have c1 : w1.cell? ⟨b, 1, none⟩ = some v := by rw [Lib.cell_of_heap hbk]; rfl
 have hlt : b < w1.heap.size := (Array.getElem?_eq_some_iff.1 hbk).1
 have hsz := hb1.size
 go_wp2_with (at_builtin; refine wpList_append_own _ rfl _ _ 89 rfl B bE i0 (.int .u8 0) 1 1 Tryz.underlying89 hi hz0 hz1 hz2 rfl (by decide) _ _ _ rfl (hown.alloc _) ⟨w1.heap.size, 0, none⟩ 1 1 [.int .u8 c] rfl rfl ?c1 ?c2 (by unfold maxLen; omega) (by omega) (by simp; omega) ?_)
 case c1 =>
  intro j u hj
  match j, hj with
  | 0, hj => simp at hj; subst hj; simp [Addr.add]
 case c2 => intro u hu; simp at hu; subst hu; rfl
 intro v' w2 hown' hgrow _
 have hb2 : w2.heap[b]? = some (.cells #[.pointer (some ⟨b, 0, none⟩), v] bT (0, 0)) := by
  rw [hgrow.block b (by simp; omega) (fun e => hne e.symm), Lib.alloc_old w1 _ b hlt]
  exact hbk
 have d1 : w2.cell? ⟨b, 1, none⟩ = some v := by rw [Lib.cell_of_heap hb2]; rfl
 have f1 : w2.frozen? ⟨b, 1, none⟩ = false := Lib.frozen_of_heap hb2 1
 obtain ⟨ao, n', cap, rfl⟩ : ∃ ao n' cap, v' = .slice ao n' cap := by
  rcases hown'.2 with ⟨hv, _⟩ | ⟨g, cap, cur, hv, _⟩ <;> exact ⟨_, _, _, hv⟩
 go_wp2
 go_ret
 refine ⟨rfl, Lib.BuilderAt.put (T := bT) (e := bE) hB hb2 (bs' := bs ++ [.int .u8 c]) (by simpa using hown') (by decide), ?_⟩
 exact ((hb1.alloc (by omega) _).grown hgrow (by simp; omega) (fun k hk => (hown.lt k hk).1)).setCell (p := ⟨b, 1, none⟩) hB _
theorem ky_strW (B b : Nat) (bs : List Value) (t : ByteArray) (w : World) (h : Lib.IsBuilder bT bE B b bs w) (hlen : bs.length + t.size ≤ 1000000) (hBw : B ≤ w.heap.size) :
  Calls Tryz.prog 124 #[.pointer (some ⟨b, 0, none⟩), .string t] w fun e w' => e = .returned (.tuple #[.int .i64 t.size, .nilIface]) ∧ Lib.BuilderAt bT bE B b (.pointer (some ⟨b, 0, none⟩)) (bs ++ Lib.strCells t) w' ∧ Below B w w' := by
 obtain ⟨i0, hi, hz0, hz1, hz2⟩ := info_parts ky_byte
 go_enter Tryz.func124, Tryz.ntmps124
 go_wp2_with (go_at_call 161; refine (ky_check B b bs _ h).mono ?_)
 rintro e w1 ⟨rfl, h1, hb1⟩
 obtain ⟨hB, v, hbk, hown, hne⟩ := h1
 have c1 : w1.cell? ⟨b, 1, none⟩ = some v := by rw [Lib.cell_of_heap hbk]; rfl
 have hlt : b < w1.heap.size := (Array.getElem?_eq_some_iff.1 hbk).1
 have hsz := hb1.size
 go_wp2_with (at_builtin; refine Lib.wpList_append_own_string _ rfl _ _ 89 9 rfl B bE i0 Tryz.underlying89 Tryz.underlying9 hi hz0 hz1 hz2 _ _ _ rfl hown t rfl (by unfold maxLen; omega) (by omega) (by omega) ?_)
 intro v' w2 hown' hgrow _
 have hb2 : w2.heap[b]? = some (.cells #[.pointer (some ⟨b, 0, none⟩), v] bT (0, 0)) := by
  rw [hgrow.block b hlt (fun e => hne e.symm)]
  exact hbk
 have d1 : w2.cell? ⟨b, 1, none⟩ = some v := by rw [Lib.cell_of_heap hb2]; rfl
 have f1 : w2.frozen? ⟨b, 1, none⟩ = false := Lib.frozen_of_heap hb2 1
 obtain ⟨ao, n', cap, rfl⟩ : ∃ ao n' cap, v' = .slice ao n' cap := by
  rcases hown'.2 with ⟨hv, _⟩ | ⟨g, cap, cur, hv, _⟩ <;> exact ⟨_, _, _, hv⟩
 go_wp2
 go_ret2
 refine ⟨rfl, Lib.BuilderAt.put (T := bT) (e := bE) hB hb2 (bs' := bs ++ Lib.strCells t) (by simpa [Lib.strCells_length] using hown') (by decide), ?_⟩
 exact (hb1.grown hgrow (by omega) (fun k hk => (hown.lt k hk).1)).setCell (p := ⟨b, 1, none⟩) hB _
def dig2 (u : Nat) : List UInt8 := if u < 10 then [UInt8.ofNat (48 + u)] else [UInt8.ofNat (48 + u / 10), UInt8.ofNat (48 + u % 10)]
theorem dig2_eq {u : Nat} (h : u < 100) : Lib.decDigits u = dig2 u := by
 unfold dig2
 split
 ·exact Lib.decDigits_one ‹_›
 ·exact Lib.decDigits_two ‹_› h
theorem dig2_len (u : Nat) : (dig2 u).length ≤ 2 := by unfold dig2; split <;> simp
def keyB : List Int → List UInt8
 | [] => []
 | x :: xs => dig2 x.toNat ++ 32 :: keyB xs
theorem keyB_snoc : ∀ (xs : List Int) (x : Int), keyB (xs ++ [x]) = keyB xs ++ dig2 x.toNat ++ [32]
 | [], x => by simp [keyB]
 | y :: ys, x => by rw [List.cons_append, keyB, keyB_snoc ys x, keyB]; simp
theorem keyB_len : ∀ (xs : List Int), (keyB xs).length ≤ 3 * xs.length
 | [] => by simp [keyB]
 | x :: xs => by have h1 := keyB_len xs; have h2 := dig2_len x.toNat; simp only [keyB, List.length_append, List.length_cons]; omega
def m_product_key (p0 : List Int) : Option ByteArray := if (p0.all fun x => decide (0 ≤ x ∧ x < 100)) = true ∧ p0.length ≤ 1000 then some ⟨(keyB p0).toArray⟩ else none
theorem key_any (a : Option Addr) (c : Nat) (xs : List Int) (w : World) (hr : RdS w 1 a xs.length c (ints xs)) (hx : ∀ x ∈ xs, 0 ≤ x ∧ x < 100) (hl : xs.length ≤ 1000) :
  Calls Tryz.prog 79 #[.slice a xs.length c] w fun e w' => e = .returned (.string ⟨(keyB xs).toArray⟩) ∧ Below w.heap.size w w' := by
 have Hx := Lib.hid hx
 clear hx
 go_enter Tryz.func79, Tryz.ntmps79
 go_wp2
 go_loopw [8] (fun i wr => ∃ k : Nat, k ≤ xs.length ∧ i = .int .i64 k ∧ Lib.IsBuilder bT bE w.heap.size w.heap.size (Lib.byteCells (keyB (xs.take k))) wr ∧ Below w.heap.size w wr) (fun i _ => xs.length - (intOf i).toNat)
 case atStart => exact ⟨0, Nat.zero_le _, rfl, Lib.fresh_isBuilder bT bE w, (Below.refl _ w).alloc (Nat.le_refl _) _⟩
 case round =>
  obtain ⟨k, hk, rfl, hI, hbw⟩ := hrel
  by_cases hlt : k < xs.length
  ·obtain ⟨b, off, rfl, hc0⟩ := hr.at_int k hlt
   have hc := keep0 hbw hc0
   have hsz := hbw.size
   obtain ⟨n, hn⟩ : ∃ n : Nat, xs[k] = n := ⟨xs[k].toNat, by have := Hx.out _ (List.getElem_mem hlt); omega⟩
   have hn100 : n < 100 := by have := Hx.out _ (List.getElem_mem hlt); omega
   rw [hn] at hc
   have hkl := keyB_len (xs.take k)
   rw [List.length_take, Nat.min_eq_left hk] at hkl
   have hd2 := dig2_len n
   go_wp2_with (go_at_call 125; refine (Tryz.strconv_Itoa_small n hn100 _).mono ?_)
   rintro e W0 ⟨rfl, rfl⟩
   go_wp2_with (go_at_call 124; refine (ky_strW w.heap.size w.heap.size _ _ _ hI (by rw [Lib.byteCells_length, dig2_eq hn100]; simp [ByteArray.size]; omega) hsz).mono ?_)
   rintro e W1 ⟨rfl, h1, b1⟩
   go_wp2_with (go_at_call 126; refine (ky_byteW w.heap.size w.heap.size _ _ _ (.inr h1) (by rw [List.length_append, Lib.byteCells_length, Lib.strCells_length, dig2_eq hn100]; simp [ByteArray.size]; omega) (Nat.le_trans hsz b1.size)).mono ?_)
   rintro e W2 ⟨rfl, h2, b2⟩
   go_wp2
   go_roundw
   case rel =>
    refine ⟨k + 1, by omega, by go_num, .inr ?_, (hbw.trans b1).trans b2⟩
    rw [take_snoc xs k hlt, keyB_snoc, hn, Lib.byteCells_append, Lib.byteCells_append]
    rw [dig2_eq hn100] at h2
    exact h2
   case measure => simp [intOf]; omega
  ·have hke : k = xs.length := by omega
   subst hke
   rw [List.take_length] at hI
   go_wp2_with (go_at_call 127; refine (Tryz.Builder_String_any w.heap.size w.heap.size _ _ hI hbw.size).mono ?_)
   rintro e W1 ⟨rfl, b1⟩
   go_wp2
   go_ret
   exact ⟨rfl, hbw.trans b1⟩
theorem m_product_key_c {s : Sig} {p0 : List Int} {a1 : Option Addr} {c1 : Nat} {r : ByteArray} (h1 : RdL (rK .i64) s a1 c1 p0) (hm : m_product_key p0 = some r) :
  Calls Tryz.prog 79 #[.slice a1 p0.length c1] s.w (RetS No s fun v s' => v = .string r) := by
 unfold m_product_key at hm
 split at hm
 ·rename_i hc
  cases hm
  obtain ⟨g1, g2⟩ := hc
  obtain ⟨a, c, he, h2⟩ := h1.rdI
  cases he
  refine (key_any _ _ p0 s.w h2 (fun x hx => by simpa using List.all_eq_true.1 g1 x hx) g2).mono fun en w' hh => ?_
  obtain ⟨rfl, hb⟩ := hh
  exact ⟨_, s.nw w', rfl, rfl, Sig.nw_mv hb, rfl⟩
 ·cases hm
end Go.Proofs.YtidakgbibobbdaaGreatDoor

namespace Go.Proofs.YtidakgbibobbdaaGreatDoor
open Go Go.RowKit
def m_slices_Reverse_int (p0 : List Int) : Option (List Int) := if p0.length ≤ 1000000 then some p0.reverse else none
theorem m_slices_Reverse_int_c {s : Sig} {p0 : List Int} {t0 : Nat} {a1 : Option Addr} {c1 : Nat} {r : List Int} (_zt0 : 0 < t0) (h1 : RowT (rK .i64) s t0 3 a1 c1 p0) (hm : m_slices_Reverse_int p0 = some r) :
  Calls Tryz.prog 112 #[.slice a1 p0.length c1] s.w (RetS (One t0) s fun v s' => v = .tuple #[] ∧ RowT (rK .i64) s' t0 3 a1 c1 r) := by
 obtain ⟨hl, rfl⟩ : p0.length ≤ 1000000 ∧ p0.reverse = r := by
  unfold m_slices_Reverse_int at hm
  split at hm
  ·exact ⟨by assumption, Option.some.inj hm⟩
  ·cases hm
 obtain ⟨cs, h2, h3⟩ := h1
 have hc := cells_ints h3
 subst hc
 refine (reverse_anyT _ p0 s.w 0 s.tag t0 h2 hl).mono ?_
 rintro e w' ⟨rfl, hr, ht⟩
 exact ⟨_, ⟨w', s.tag⟩, rfl, rfl, ht.mv, rfl, ints p0.reverse, by rw [List.length_reverse]; exact hr, ints_cells _⟩
end Go.Proofs.YtidakgbibobbdaaGreatDoor

namespace Go.Proofs.YtidakgbibobbdaaGreatDoor
open Go Go.RowKit
theorem K1 {e : List (Nat × Value)} {t1 : Nat} {v1 : Value} (h1 : Env.get e t1 = some v1) : Kn e [(t1, v1)] := ⟨h1, trivial⟩
theorem K2 {e : List (Nat × Value)} {t1 : Nat} {v1 : Value} {t2 : Nat} {v2 : Value} (h1 : Env.get e t1 = some v1) (h2 : Env.get e t2 = some v2) : Kn e [(t1, v1), (t2, v2)] := ⟨h1, h2, trivial⟩
theorem K3 {e : List (Nat × Value)} {t1 : Nat} {v1 : Value} {t2 : Nat} {v2 : Value} {t3 : Nat} {v3 : Value} (h1 : Env.get e t1 = some v1) (h2 : Env.get e t2 = some v2) (h3 : Env.get e t3 = some v3) : Kn e [(t1, v1), (t2, v2), (t3, v3)] := ⟨h1, h2, h3, trivial⟩
theorem K4 {e : List (Nat × Value)} {t1 : Nat} {v1 : Value} {t2 : Nat} {v2 : Value} {t3 : Nat} {v3 : Value} {t4 : Nat} {v4 : Value} (h1 : Env.get e t1 = some v1) (h2 : Env.get e t2 = some v2) (h3 : Env.get e t3 = some v3) (h4 : Env.get e t4 = some v4) : Kn e [(t1, v1), (t2, v2), (t3, v3), (t4, v4)] := ⟨h1, h2, h3, h4, trivial⟩
theorem K5 {e : List (Nat × Value)} {t1 : Nat} {v1 : Value} {t2 : Nat} {v2 : Value} {t3 : Nat} {v3 : Value} {t4 : Nat} {v4 : Value} {t5 : Nat} {v5 : Value} (h1 : Env.get e t1 = some v1) (h2 : Env.get e t2 = some v2) (h3 : Env.get e t3 = some v3) (h4 : Env.get e t4 = some v4) (h5 : Env.get e t5 = some v5) : Kn e [(t1, v1), (t2, v2), (t3, v3), (t4, v4), (t5, v5)] := ⟨h1, h2, h3, h4, h5, trivial⟩
theorem K6 {e : List (Nat × Value)} {t1 : Nat} {v1 : Value} {t2 : Nat} {v2 : Value} {t3 : Nat} {v3 : Value} {t4 : Nat} {v4 : Value} {t5 : Nat} {v5 : Value} {t6 : Nat} {v6 : Value} (h1 : Env.get e t1 = some v1) (h2 : Env.get e t2 = some v2) (h3 : Env.get e t3 = some v3) (h4 : Env.get e t4 = some v4) (h5 : Env.get e t5 = some v5) (h6 : Env.get e t6 = some v6) : Kn e [(t1, v1), (t2, v2), (t3, v3), (t4, v4), (t5, v5), (t6, v6)] := ⟨h1, h2, h3, h4, h5, h6, trivial⟩
abbrev G (D : Nat → Bool) (e : List (Nat × Value)) (k t : Nat) (v : Value) : Prop := D k = true → Env.get e t = some v
/-! Short names (press5.py). -/
theorem Y {ops : Array Oper} {e : List (Nat × Value)} : Wt ops e none := trivial
theorem R {α : Sort _} {a : α} : a = a := rfl
theorem LN {Φ : Fr} {P : Program} {Q : Exit → Act → World → Prop} {n : Nat} {e : List (Nat × Value)} {w : World} {ops : Array Oper} {y : Code} (h : E Φ P Q n y e w) : L Φ P (Exit.then (y.wpIn Φ.f 2 P Q) Q) n ops [] e w := L.nil (X.seqN h)
theorem ER {Φ : Fr} {P : Program} {Q : Exit → Act → World → Prop} {n : Nat} {e : List (Nat × Value)} {w : World} {y : Code} {id : Nat} {l : List Oper} (h : L Φ P (Exit.then (y.wpIn Φ.f 2 P Q) Q) n l.toArray l e w) : E Φ P Q n (.seq (.region id l.toArray false) y) e w := E.seq (E.reg h)
theorem oi {α : Type} {a b : α} (h : some a = some b) : a = b := Option.some.inj h
theorem Mv.z {s s' : Sig} (m : Mv No s s') : Le s s' := m.le no_No
theorem Kn.g {Φ : Fr} {P : Program} {Q : Exit → Act → World → Prop} {n : Nat} {e ps : List (Nat × Value)} {w : World} {ops : Array Oper} {os : List Oper} (h : Kn e ps) (h2 : L Φ P Q n ops os (ps ++ e) w) : L Φ P Q n ops os e w := L.kns ps h h2
theorem tq {N i j : Nat} (h : Nat.beq i j = false) : ¬ One (N + i) (N + j) := tgN h
theorem nb {i j : Nat} (h : Nat.ble i j = true) : i ≤ j := Nat.le_of_ble_eq_true h
abbrev qI := rK .i64
abbrev qT := rP qI (rP qI qI)
end Go.Proofs.YtidakgbibobbdaaGreatDoor

namespace Go.Proofs.YtidakgbibobbdaaGreatDoor
open Go Go.RowKit
structure RowAt {α : Type} (r : Rep α) (s : Sig) (t : Nat) (T : TypeId) (b off cap : Nat) (cur : Array Value) (vs : List Value) (xs : List α) : Prop where
 heap : s.w.heap[b]? = some (.cells cur T (0, 0))
 tag : s.tag b = t
 cap : xs.length ≤ cap ∧ cap ≤ maxLen ∧ off + cap ≤ cur.size
 len : vs.length = xs.length
 cell : ∀ j (h : j < vs.length), cur[off + j]? = some vs[j]
 rd : ∀ j (h : j < vs.length) (h2 : j < xs.length), r.rd s [vs[j]] xs[j]
section
variable {α β : Type} {r : Rep α} {s : Sig} {t : Nat} {T : TypeId} {a : Option Addr} {cap : Nat} {xs ys : List α}
theorem RowT.seen (h : RowT r s t T a cap xs) (h1 : r.sz = 1) : (a = none ∧ cap = 0 ∧ xs = []) ∨ ∃ b off cur vs, a = some ⟨b, off, none⟩ ∧ RowAt r s t T b off cap cur vs xs := by
 obtain ⟨cs, ⟨hl, hrow⟩, hc⟩ := h
 rw [h1, Nat.mul_one] at hl
 rcases hrow with ⟨e, hn⟩ | ⟨b, off, cap', cur, e, ho, k1, k2, k3, k4⟩
 ·simp only [Value.slice.injEq] at e
  exact .inl ⟨e.1, e.2.2, List.eq_nil_of_length_eq_zero hn⟩
 ·simp only [Value.slice.injEq, true_and] at e
  obtain ⟨rfl, rfl⟩ := e
  rw [h1, Nat.mul_one] at k3 k4
  refine .inr ⟨b, off, cur, cs, rfl, ho.heap, ho.htag, ⟨k1, k2, k3⟩, hl, fun j hj => ?_, fun j hj hj2 => ?_⟩
  ·have e2 : cs[j]? = cur.toList[off + j]? := by rw [← k4, List.getElem?_take, if_pos (by omega), List.getElem?_drop]
   rw [List.getElem?_eq_getElem hj] at e2
   rw [← Array.getElem?_toList]
   exact e2.symm
  ·have := hc.at j hj2
   rw [h1, Nat.mul_one, List.drop_eq_getElem_cons hj] at this
   exact this
theorem Cells.of {s : Sig} (h1 : r.sz = 1) : ∀ {cs : List Value} {xs : List α}, cs.length = xs.length → (∀ j (h : j < cs.length) (h2 : j < xs.length), r.rd s [cs[j]] xs[j]) → Cells r s cs xs
 | [], [], _, _ => rfl
 | [], _ :: _, h, _ => by cases h
 | _ :: _, [], h, _ => by cases h
 | c :: cs, x :: xs, h, hr => ⟨[c], cs, rfl, hr 0 (by simp) (by simp), Cells.of h1 (by simpa using h) fun j hj hj2 => hr (j + 1) (by simpa using hj) (by simpa using hj2)⟩
end
end Go.Proofs.YtidakgbibobbdaaGreatDoor

namespace Go.Proofs
open Go.Shelf
def Tryz.lays189_ren : Go.Shelf.Ren := ⟨fun | 189 => 147 | 125 => 170 | 257 => 169 | 128 => 191 | 129 => 192 | 294 => 183 | 295 => 184 | 296 => 185 | 297 => 186 | 298 => 187 | 299 => 188 | 216 => 150 | 300 => 189 | 301 => 190 | 328 => 206 | 329 => 207 | 330 => 208 | 331 => 209 | 332 => 210 | 215 => 164 | 343 => 226 | n => n, fun | 28 => 22 | 3 => 3 | 46 => 216 | 0 => 0 | 51 => 253 | 53 => 255 | 4 => 4 | 183 => 247 | 182 => 246 | 131 => 146 | 5 => 5 | 9 => 9 | 218 => 266 | 222 => 270 | 228 => 283 | 229 => 67 | n => n, fun | n => n⟩
theorem Tryz.lays189 : Go.Proofs.Lays.n189 Tryz.prog Tryz.lays189_ren := {
 mixed := by kernel_rfl
 f125 := Tryz.func170.trans (congrArg some (by kernel_rfl))
 f128 := Tryz.func191.trans (congrArg some (by kernel_rfl))
 f129 := Tryz.func192.trans (congrArg some (by kernel_rfl))
 f189 := Tryz.func147.trans (congrArg some (by kernel_rfl))
 f215 := Tryz.func164.trans (congrArg some (by kernel_rfl))
 f216 := Tryz.func150.trans (congrArg some (by kernel_rfl))
 f257 := Tryz.func169.trans (congrArg some (by kernel_rfl))
 f294 := Tryz.func183.trans (congrArg some (by kernel_rfl))
 f295 := Tryz.func184.trans (congrArg some (by kernel_rfl))
 f296 := Tryz.func185.trans (congrArg some (by kernel_rfl))
 f297 := Tryz.func186.trans (congrArg some (by kernel_rfl))
 f298 := Tryz.func187.trans (congrArg some (by kernel_rfl))
 f299 := Tryz.func188.trans (congrArg some (by kernel_rfl))
 f300 := Tryz.func189.trans (congrArg some (by kernel_rfl))
 f301 := Tryz.func190.trans (congrArg some (by kernel_rfl))
 f328 := Tryz.func206.trans (congrArg some (by kernel_rfl))
 f329 := Tryz.func207.trans (congrArg some (by kernel_rfl))
 f330 := Tryz.func208.trans (congrArg some (by kernel_rfl))
 f331 := Tryz.func209.trans (congrArg some (by kernel_rfl))
 f332 := Tryz.func210.trans (congrArg some (by kernel_rfl))
 f343 := Tryz.func226.trans (congrArg some (by kernel_rfl))
 t0 := Tryz.underlying0
 a0 := Tryz.isAgg0
 z0 := Tryz.sizeOf0
 v0 := Tryz.zeroValue0
 t3 := Tryz.underlying3
 a3 := Tryz.isAgg3
 z3 := Tryz.sizeOf3
 v3 := Tryz.zeroValue3
 t4 := Tryz.underlying4
 a4 := Tryz.isAgg4
 z4 := Tryz.sizeOf4
 v4 := Tryz.zeroValue4
 t5 := Tryz.underlying5
 a5 := Tryz.isAgg5
 z5 := Tryz.sizeOf5
 v5 := Tryz.zeroValue5
 t9 := Tryz.underlying9
 a9 := Tryz.isAgg9
 z9 := Tryz.sizeOf9
 v9 := Tryz.zeroValue9
 t28 := Tryz.underlying22
 a28 := Tryz.isAgg22
 z28 := Tryz.sizeOf22
 v28 := Tryz.zeroValue22
 t46 := Tryz.underlying216
 a46 := Tryz.isAgg216
 z46 := Tryz.sizeOf216
 v46 := Tryz.zeroValue216
 t51 := Tryz.underlying253
 a51 := Tryz.isAgg253
 z51 := Tryz.sizeOf253
 v51 := Tryz.zeroValue253
 t53 := Tryz.underlying255
 a53 := Tryz.isAgg255
 z53 := Tryz.sizeOf255
 v53 := Tryz.zeroValue255
 t131 := Tryz.underlying146
 a131 := Tryz.isAgg146
 z131 := Tryz.sizeOf146
 v131 := Tryz.zeroValue146
 t182 := Tryz.underlying246
 a182 := Tryz.isAgg246
 z182 := Tryz.sizeOf246
 v182 := Tryz.zeroValue246
 t183 := Tryz.underlying247
 a183 := Tryz.isAgg247
 z183 := Tryz.sizeOf247
 v183 := Tryz.zeroValue247
 t218 := Tryz.underlying266
 a218 := Tryz.isAgg266
 z218 := Tryz.sizeOf266
 v218 := Tryz.zeroValue266
 t222 := Tryz.underlying270
 a222 := Tryz.isAgg270
 z222 := Tryz.sizeOf270
 v222 := Tryz.zeroValue270
 t228 := Tryz.underlying283
 a228 := Tryz.isAgg283
 z228 := Tryz.sizeOf283
 v228 := Tryz.zeroValue283
 t229 := Tryz.underlying67
 a229 := Tryz.isAgg67
 z229 := Tryz.sizeOf67
 v229 := Tryz.zeroValue67 }
open Go.RowKit Go.Sort Go.Lib in
theorem Tryz.slices_Sort_int (blk off cap : Nat) (zs : List Int) (w : World) (hH : Holds (Value.int .i64) w blk off zs.toArray) (hblk : blk < w.heap.size) (hsz : zs.length < 4611686018427387904) :
  Calls Tryz.prog 147 #[.slice (some ⟨blk, off, none⟩) zs.length cap] w fun e w' => e = .returned (.tuple #[]) ∧ ∃ n os, w' = grow (putRow (Value.int .i64) (Sort.ahead w n) blk off (zs.mergeSort fun x y => decide (x ≤ y)).toArray) os := Any.slices_Sort_int Tryz.lays189 blk off cap zs w hH hblk hsz
open Go.RowKit Go.Sort Go.Lib in
theorem Tryz.slices_Sort_int_none (p : Option Addr) (cap : Nat) (w : World) :
  Calls Tryz.prog 147 #[.slice p 0 cap] w fun e w' => e = .returned (.tuple #[]) ∧ w' = w := Any.slices_Sort_int_none Tryz.lays189 p cap w
end Go.Proofs

namespace Go.Proofs.YtidakgbibobbdaaGreatDoor
open Go Go.RowKit Go.Sort
section
variable {α β : Type} {r : Rep α} {s : Sig} {t : Nat} {T : TypeId} {a : Option Addr} {cap : Nat} {xs ys : List α}
theorem put_block {enc : β → Value} [Inhabited β] {w : World} {b off n : Nat} {d : Array β} {os : Array Obj} {cur : Array Value} {fr : Nat × Nat} (h : w.heap[b]? = some (.cells cur T fr)) : (grow (putRow enc (Sort.ahead w n) b off d) os).heap[b]? = some (.cells (putCells enc off d cur) T fr) := by
 have hb : b < w.heap.size := (Array.getElem?_eq_some_iff.1 h).1
 show ((w.heap.modify b (onCells (putCells enc off d))) ++ os)[b]? = _
 rw [Array.getElem?_append_left (by simpa using hb), Array.getElem?_modify, if_pos rfl, h]
 rfl
theorem put_other {enc : β → Value} [Inhabited β] {w : World} {b b' off n : Nat} {d : Array β} {os : Array Obj} (hb : b' < w.heap.size) (hne : b' ≠ b) : (grow (putRow enc (Sort.ahead w n) b off d) os).heap[b']? = w.heap[b']? := by
 show ((w.heap.modify b (onCells (putCells enc off d))) ++ os)[b']? = _
 rw [Array.getElem?_append_left (by simpa using hb), Array.getElem?_modify, if_neg (Ne.symm hne)]
theorem RowAt.put {b off : Nat} {cur : Array Value} {vs : List Value} (h : RowAt r s t T b off cap cur vs xs) (h1 : r.sz = 1) (ht : 0 < t) {enc : β → Value} [Inhabited β] {d : Array β} (hd : d.size = xs.length) (hy : ys.length = xs.length) (hr : ∀ j, j < d.size → ∀ h2 : j < ys.length, r.rd s [enc d[j]!] ys[j]) {w' : World} (hw : ∃ n os, w' = grow (putRow enc (Sort.ahead s.w n) b off d) os) :
  ∃ s', w' = s'.w ∧ Mv (One t) s s' ∧ RowT r s' t T (some ⟨b, off, none⟩) cap ys := by
 obtain ⟨n, os, rfl⟩ := hw
 have hb : b < s.w.heap.size := (Array.getElem?_eq_some_iff.1 h.heap).1
 refine ⟨⟨_, fun b => if b < s.w.heap.size then s.tag b else 0⟩, rfl, ⟨rfl, rfl, rfl, ?_, fun b' hb' hn => ⟨put_other hb' fun e => hn (by rw [e]; exact h.tag), if_pos hb'⟩⟩, ?_⟩
 ·show _ ≤ ((s.w.heap.modify b _) ++ os).size
  simp
 ·have hm : Mv (One t) s ⟨grow (putRow enc (Sort.ahead s.w n) b off d) os, fun b => if b < s.w.heap.size then s.tag b else 0⟩ := ⟨rfl, rfl, rfl, (by show _ ≤ ((s.w.heap.modify b _) ++ os).size; simp), fun b' hb' hn => ⟨put_other hb' fun e => hn (by rw [e]; exact h.tag), if_pos hb'⟩⟩
  have hle := hm.le (by show ¬ 0 = t; omega)
  have hcap := h.cap
  have hcs : ((putCells enc off d cur).toList.drop off).take (ys.length * 1) = (d.toList.map enc) := by
   rw [Nat.mul_one]
   apply List.ext_getElem?
   intro j
   rw [List.getElem?_take, List.getElem?_drop, List.getElem?_map]
   by_cases hj : j < ys.length
   ·rw [if_pos hj, Array.getElem?_toList, putCells, Array.getElem?_mapIdx, Array.getElem?_eq_getElem (by omega), Option.map_some, if_pos ⟨by omega, by omega⟩, Nat.add_sub_cancel_left, Array.getElem?_toList, Array.getElem?_eq_getElem (by omega), Option.map_some, getElem!_pos _ _ (by omega)]
   ·rw [if_neg hj, Array.getElem?_toList, Array.getElem?_eq_none (by omega)]; rfl
  refine ⟨d.toList.map enc, ⟨by rw [h1, Nat.mul_one, List.length_map, Array.length_toList]; omega, .inr ⟨b, off, cap, putCells enc off d cur, rfl, ⟨put_block h.heap, ?_, Nat.zero_le _⟩, by omega, hcap.2.1, ?_, by rw [h1]; exact hcs⟩⟩, Cells.of h1 (by simp; omega) fun j hj hj2 => ?_⟩
  ·show (if b < s.w.heap.size then s.tag b else 0) = t
   rw [if_pos hb]; exact h.tag
  ·rw [h1, Nat.mul_one, putCells, Array.size_mapIdx]; exact hcap.2.2
  ·have hjd : j < d.size := by simpa using hj
   have := hr j hjd hj2
   rw [getElem!_pos d j hjd] at this
   rw [List.getElem_map, Array.getElem_toList]
   exact r.mono hle this
theorem RowAt.holds {b off : Nat} {cur : Array Value} {vs : List Value} (h : RowAt r s t T b off cap cur vs xs) {enc : β → Value} [Inhabited β] {d : Array β} (hd : d.size = vs.length) (he : ∀ j (h : j < vs.length), enc d[j]! = vs[j]) : Holds enc s.w b off d := fun j hj => by
 have hc := h.cell j (by omega)
 refine ⟨?_, ?_⟩
 ·unfold World.cell?
  rw [h.heap]
  show cur[off + j]? = _
  rw [hc, he j (by omega)]
 ·unfold World.frozen?
  rw [h.heap]
  show (decide (0 ≤ off + j) && decide (off + j < 0)) = false
  simp
end
def isI (x : Int) : List Int → List Int
 | [] => [x]
 | y :: l => if x ≤ y then x :: y :: l else y :: isI x l
def isL : List Int → List Int
 | [] => []
 | x :: l => isI x (isL l)
theorem isI_perm (x : Int) : ∀ l : List Int, (isI x l).Perm (x :: l)
 | [] => .refl _
 | y :: l => by
  unfold isI
  split
  ·exact .refl _
  ·exact ((isI_perm x l).cons y).trans (.swap x y l)
theorem isL_perm : ∀ l : List Int, (isL l).Perm l
 | [] => .refl _
 | x :: l => (isI_perm x _).trans ((isL_perm l).cons x)
theorem isI_pw (x : Int) : ∀ {l : List Int}, l.Pairwise (· ≤ ·) → (isI x l).Pairwise (· ≤ ·)
 | [], _ => by simp [isI]
 | y :: l, h => by
  obtain ⟨h1, h2⟩ := List.pairwise_cons.1 h
  unfold isI
  split
  ·rename_i hxy
   refine List.pairwise_cons.2 ⟨fun z hz => ?_, h⟩
   rcases List.mem_cons.1 hz with rfl | hz
   ·exact hxy
   ·exact Int.le_trans hxy (h1 z hz)
  ·rename_i hxy
   refine List.pairwise_cons.2 ⟨fun z hz => ?_, isI_pw x h2⟩
   rcases List.mem_cons.1 ((isI_perm x l).mem_iff.1 hz) with rfl | hz
   ·omega
   ·exact h1 z hz
theorem isL_pw : ∀ l : List Int, (isL l).Pairwise (· ≤ ·)
 | [] => .nil
 | x :: l => isI_pw x (isL_pw l)
theorem isL_eq (l : List Int) : isL l = l.mergeSort fun x y => decide (x ≤ y) := by
 refine List.Perm.eq_of_pairwise (le := (· ≤ ·)) (fun a b _ _ h1 h2 => Int.le_antisymm h1 h2) (isL_pw l) ?_ ((isL_perm l).trans (List.mergeSort_perm l _).symm)
 exact (List.pairwise_mergeSort (le := fun x y : Int => decide (x ≤ y)) (fun a b c h1 h2 => by simp at *; omega) (fun a b => by simp; omega) l).imp fun h => by simpa using h
def m_slices_Sort_int (p0 : List Int) : Option (List Int) := if p0.length ≤ 4294967296 then some (isL p0) else none
theorem m_slices_Sort_int_c {s : Sig} {p0 : List Int} {t0 : Nat} {a1 : Option Addr} {c1 : Nat} {r : List Int} (zt0 : 0 < t0) (h1 : RowT (rK .i64) s t0 3 a1 c1 p0) (hm : m_slices_Sort_int p0 = some r) :
  Calls Tryz.prog 147 #[.slice a1 p0.length c1] s.w (RetS (One t0) s fun v s' => v = .tuple #[] ∧ RowT (rK .i64) s' t0 3 a1 c1 r) := by
 obtain ⟨hl, rfl⟩ : p0.length ≤ 4294967296 ∧ p0.mergeSort (fun x y => decide (x ≤ y)) = r := by
  unfold m_slices_Sort_int at hm
  rw [isL_eq] at hm
  split at hm
  ·exact ⟨by assumption, Option.some.inj hm⟩
  ·cases hm
 rcases h1.seen rfl with ⟨rfl, rfl, rfl⟩ | ⟨b, off, cur, vs, rfl, h⟩
 ·refine (Tryz.slices_Sort_int_none none 0 s.w).mono ?_
  rintro e w' ⟨rfl, rfl⟩
  exact ⟨_, s, rfl, rfl, Mv.refl _ _, rfl, by simpa using RowT.nil⟩
 ·have hv : ∀ j (h2 : j < vs.length) (h3 : j < p0.length), vs[j] = .int .i64 p0[j] := fun j h2 h3 => by
   have := h.rd j h2 h3
   exact List.head_eq_of_cons_eq this
  have hlen := h.len
  have hb : b < s.w.heap.size := (Array.getElem?_eq_some_iff.1 h.heap).1
  refine (Tryz.slices_Sort_int b off c1 p0 s.w (h.holds (by simp [hlen]) fun j hj => ?_) hb (by omega)).mono ?_
  ·rw [hv j hj (by omega), getElem!_pos _ _ (by simp; omega)]
   simp
  ·rintro e w' ⟨rfl, hw⟩
   obtain ⟨s', hw', hm, hr⟩ := h.put rfl zt0 (ys := p0.mergeSort fun x y => decide (x ≤ y)) (by simp) (by simp) (fun j hj h2 => by
    have e := getElem!_pos (p0.mergeSort fun x y => decide (x ≤ y)).toArray j hj
    rw [e]
    show [_] = [_]
    simp) hw
   exact ⟨_, s', hw', rfl, hm, rfl, hr⟩
end Go.Proofs.YtidakgbibobbdaaGreatDoor

namespace Go.Proofs.YtidakgbibobbdaaGreatDoor
open Go Go.RowKit

def Yd (P : Program) (l N : Nat) (enc : Nat → List Value) (J : Nat → Sig → Prop) : Prop :=
 ∀ k, k < N → ∀ s, J k s → YieldAt Fence.wide 2 P l (enc k).toArray s.w fun e W' => e = .returned (.bool true) ∧ ∃ s', W' = s'.w ∧ Le s s' ∧ J (k + 1) s'
def FI (P : Program) (s : Sig) (v : Value) (N : Nat) (enc : Nat → List Value) : Prop :=
 ∃ gf lb, v = .func (.func gf) #[] lb ∧ Cf P gf ∧ ∀ (l : Nat) (J : Nat → Sig → Prop) (s1 : Sig), Le s s1 → (∀ k a b, J k a → Mv No a b → J k b) → Yd P l N enc J → J 0 s1 →
  Calls P gf (#[.func (.yield l) #[] #[]] ++ lb) s1.w fun e W' => (∃ v, e = .returned v) ∧ ∃ s2, W' = s2.w ∧ J N s2
theorem FI.mono {P : Program} {s s' : Sig} {v : Value} {N : Nat} {enc : Nat → List Value} (h : FI P s v N enc) (m : Le s s') : FI P s' v N enc := by
 obtain ⟨gf, lb, e, hc, h⟩ := h
 exact ⟨gf, lb, e, hc, fun l J s1 h1 h2 h3 h4 => h l J s1 (m.trans h1) h2 h3 h4⟩
def Lf (s0 s : Sig) : Prop := Le s0 s
theorem Lf.mono {s0 s s' : Sig} (h : Lf s0 s) (m : Le s s') : Lf s0 s' := Le.trans h m
structure Rc (s : Sig) (t u D : Nat) (r : Loop) : Prop where
 lp : s.w.heap[D + 1]? = some (.loop r)
 mark : s.w.heap[D]? = some (.deferred (some []))
 tr : s.tag (D + 1) = t
 tm : s.tag D = u
theorem Rc.mv {S : Nat → Prop} {s s' : Sig} {t u D : Nat} {r : Loop} (h : Rc s t u D r) (m : Mv S s s') (hn : ¬ S t) (hu : ¬ S u) : Rc s' t u D r := by
 obtain ⟨g1, g2⟩ := m.blk (D + 1) (Array.getElem?_eq_some_iff.1 h.lp).1 (by rw [h.tr]; exact hn)
 obtain ⟨g3, g4⟩ := m.blk D (Array.getElem?_eq_some_iff.1 h.mark).1 (by rw [h.tm]; exact hu)
 exact ⟨g1.trans h.lp, g3.trans h.mark, g2.trans h.tr, g4.trans h.tm⟩
structure Mk (s : Sig) (t D : Nat) : Prop where
 mark : s.w.heap[D]? = some (.deferred (some []))
 tm : s.tag D = t
theorem Rc.put {s : Sig} {t u D : Nat} {r : Loop} (h : Rc s t u D r) (r' : Loop) : Mv (One t) s ⟨s.w.putObj (D + 1) (.loop r'), s.tag⟩ ∧ Rc ⟨s.w.putObj (D + 1) (.loop r'), s.tag⟩ t u D r' := by
 have hl := (Array.getElem?_eq_some_iff.1 h.lp).1
 refine ⟨⟨rfl, rfl, rfl, by simp [World.putObj], fun b hb hn => ⟨World.putObj_heap_other fun e => hn ?_, rfl⟩⟩, ⟨World.putObj_heap_same hl, (World.putObj_heap_other (by omega)).trans h.mark, h.tr, h.tm⟩⟩
 subst e; exact h.tr
def Env.zp : List Nat → List Value → List (Nat × Value) → List (Nat × Value)
 | p :: ps, v :: vs, e => Env.zp ps vs ((p, v) :: e)
 | _, _, e => e
theorem Fits.zp {Φ : Fr} {n : Nat} : ∀ {ps : List Nat} {vs : List Value} {e : List (Nat × Value)} {a : Act}, (∀ p ∈ ps, p < n) → Fits Φ n e a →
  Fits Φ n (Env.zp ps vs e) { a with tmps := (ps.zip vs).foldl (fun t (p, v) => t.setIfInBounds p v) a.tmps }
 | [], _, _, _, _, h => by simpa [Env.zp] using h
 | _ :: _, [], _, _, _, h => by simpa [Env.zp] using h
 | p :: ps, v :: vs, e, a, hp, h => by
  have := Fits.zp (ps := ps) (vs := vs) (fun q hq => hp q (List.mem_cons_of_mem _ hq)) (h.put (d := p) (by simpa using hp p (List.mem_cons_self ..)) v)
  simpa [Env.zp, Act.put] using this
def RQ (K : Sig → Prop) : Exit → Act → World → Prop
 | .normal, _, W => ∃ c : Sig, W = c.w ∧ K c
 | _, _, _ => False
def RB (Φ : Fr) (P : Program) (l : Nat) (body : Code) (K : Sig → Prop) (a : Act) (w : World) : Prop := ∃ w₂, (Instr.beginRound l).run P w = .ok () w₂ ∧ body.wpIn Φ.f 2 P (RQ K) a w₂
theorem X.beg {Φ : Fr} {P : Program} {n t u D : Nat} {r : Loop} {body : Code} {K : Sig → Prop} {e : List (Nat × Value)} {s : Sig} (h : Rc s t u D r) (hr : r.state = .ready)
  (hb : ∀ s', Mv (One t) s s' → Rc s' t u D { r with state := .busy } → E Φ P (RQ K) n body e s'.w) : X Φ (Exit.then (RB Φ P (D + 1) body K) (fun _ _ _ => False)) n .normal e s.w := fun a ha =>
 ⟨_, run_beginRound h.lp hr, hb _ (h.put _).1 (h.put _).2 a ha⟩
theorem X.rnd {Φ : Fr} {n : Nat} {K : Sig → Prop} {e : List (Nat × Value)} {s : Sig} (h : K s) : X Φ (RQ K) n .normal e s.w := fun _ _ => ⟨s, rfl, h⟩
theorem E.range {ds : List Deferred} {P : Program} {Q : Exit → Act → World → Prop} {n : Nat} {e : List (Nat × Value)} {s : Sig} {g : Operand} {ps : Array Tmp} {assign body : Code} {v : Value} {N : Nat} {enc : Nat → List Value} (t u : Nat) (ht : t ≠ 0) (htu : t ≠ u)
  (J : Nat → Sig → Prop) (hg : Env.ev e g = some v) (hit : FI P s v N enc) (hps : ∀ k, (enc k).length = ps.size) (hpn : ∀ p ∈ ps.toList, p < n) (h0 : J 0 s)
  (hbody : ∀ (k D : Nat) (r : Loop) (a b : Sig), k < N → J k a → Mv (One t) a b → Rc b t u D r → r.state = .ready →
   E ⟨some (D + 1), []⟩ P (Exit.then (RB ⟨some (D + 1), []⟩ P (D + 1) body (fun c => J (k + 1) c ∧ Rc c t u D { r with state := .busy } ∧ Le b c)) (fun _ _ _ => False)) n assign (Env.zp ps.toList (enc k) e) b.w)
  (hend : ∀ (D : Nat) (a b : Sig), s.w.heap.size ≤ D → J N a → Mv (One t) a b → Mk b u D → X ⟨none, mark D :: ds⟩ Q n .normal e b.w) : E ⟨none, ds⟩ P Q n (.rangeFunc g ps assign body) e s.w := by
 obtain ⟨gf, lb, rfl, hcf, hit⟩ := hit
 intro ac ha
 refine wpIn_rangeFunc ?_
 intro fn _
 obtain ⟨r0, hr0⟩ : ∃ r0 : Loop, r0 = { state := .ready, pending := none, fn, tmps := ac.tmps, params := ps, assign, body, defers := s.w.heap.size } := ⟨_, rfl⟩
 obtain ⟨W1, hW1⟩ : ∃ W1, (s.w.alloc (.deferred (some []))).alloc (.loop r0) = W1 := ⟨_, rfl⟩
 have hsz : (s.w.alloc (.deferred (some []))).heap.size = s.w.heap.size + 1 := World.size_alloc _ _
 have hL1 : W1.heap[s.w.heap.size + 1]? = some (.loop r0) := by
  rw [← hW1]; have := World.alloc_heap_new (s.w.alloc (.deferred (some []))) (.loop r0); rwa [World.size_alloc] at this
 have hK1 : W1.heap[s.w.heap.size]? = some (.deferred (some [])) := by
  rw [← hW1]; exact (Below.heap_alloc _ _ _ (by simp)).trans (World.alloc_heap_new s.w _)
 have hb1 : Below s.w.heap.size s.w W1 := by
  rw [← hW1]; exact ((Below.refl _ s.w).alloc (Nat.le_refl _) _).alloc (by simp) _
 obtain ⟨tg, htg⟩ : ∃ tg : Nat → Nat, tg = fun b => if b < s.w.heap.size then s.tag b else if b = s.w.heap.size then u else t := ⟨_, rfl⟩
 have hm1 : Mv No s ⟨W1, tg⟩ := Below.mv hb1 fun b hb => by rw [htg]; exact if_pos hb
 have hRc1 : Rc ⟨W1, tg⟩ t u s.w.heap.size r0 := ⟨hL1, hK1, by rw [htg]; exact (if_neg (by omega)).trans (if_neg (by omega)), by rw [htg]; exact (if_neg (by omega)).trans (if_pos rfl)⟩
 have hev : ac.eval g = .func (.func gf) #[] lb := ha.ev hg
 refine ⟨s.w.heap.size + 1, [{ target := .collected s.w.heap.size, args := #[] }], W1, { target := .fn (.func gf) lb, args := #[.func (.yield (s.w.heap.size + 1)) #[] #[]] }, W1, gf,
  #[.func (.yield (s.w.heap.size + 1)) #[] #[]] ++ lb, W1, ?_, ?_, ?_, ?_, fun e => (by cases e), ?_⟩
 ·rw [← hW1, hr0]; exact run_enterLoop_outer _ _ _ _ _
 ·simp only [resolve, hev]
  simp [go_sem]
 ·intro f' _; trivial
 ·have := hcf (#[.func (.yield (s.w.heap.size + 1)) #[] #[]] ++ lb) W1
  simp [invoke, go_sem] at this ⊢
  exact this
 ·obtain ⟨J', hJ'⟩ : ∃ J' : Nat → Sig → Prop, J' = fun k b => (∃ a, J k a ∧ Mv (One t) a b) ∧ Rc b t u s.w.heap.size r0 := ⟨_, rfl⟩
  have h := hit (s.w.heap.size + 1) J' ⟨W1, tg⟩ (hm1.le no_No) (by
   intro k a b hk hm
   rw [hJ'] at hk ⊢
   obtain ⟨⟨a0, h1, h2⟩, h3⟩ := hk
   exact ⟨⟨a0, h1, h2.trans hm.no⟩, h3.mv hm no_No no_No⟩) (by
   intro k hkN a hk
   rw [hJ'] at hk ⊢
   obtain ⟨⟨a0, h1, h2⟩, h3⟩ := hk
   have hy := run_yield (P := P) (args := (enc k).toArray) h3.lp (by rw [hr0]; simpa using hps k)
   rw [hr0] at hy
   refine ⟨fn, _, assign, body, hy, roundIn_of_wpIn trivial ?_⟩
   have hf0 : Fits ⟨some (s.w.heap.size + 1), []⟩ n e { tmps := ac.tmps, defers := [] } := ⟨ha.size, rfl, ha.has⟩
   have hf := hf0.zp (ps := ps.toList) (vs := enc k) hpn
   have hfold : (Array.zip ps (enc k).toArray).foldl (fun t (x : Tmp × Value) => t.setIfInBounds x.1 x.2) ac.tmps = (ps.toList.zip (enc k)).foldl (fun t (x : Nat × Value) => t.setIfInBounds x.1 x.2) ac.tmps := by
    rw [← Array.foldl_toList, Array.toList_zip]
   have hb := hbody k s.w.heap.size r0 a0 a hkN h1 h2 h3 (by rw [hr0]) _ hf
   rw [← hfold] at hb
   refine wpIn_mono hb fun ex a1 w1 hq => ?_
   cases ex <;> first | exact hq | skip
   obtain ⟨w2, hq1, hq2⟩ := hq
   refine ⟨w2, hq1, wpIn_mono hq2 fun ex a3 w3 hq => ?_⟩
   cases ex <;> first | exact hq.elim | skip
   obtain ⟨c, rfl, hJc, hRc, hle⟩ := hq
   obtain ⟨g1, g2⟩ := hRc.put r0
   have hend := run_endRound (P := P) none hRc.lp
   refine ⟨_, _, hend, rfl, ⟨c.w.putObj (s.w.heap.size + 1) (.loop r0), c.tag⟩, ?_, hle.trans (g1.le (Ne.symm ht)), ⟨c, hJc, g1⟩, g2⟩
   rw [hr0]; rfl) (by
   rw [hJ']
   exact ⟨⟨s, h0, hm1.no⟩, hRc1⟩)
  refine (callsIn_wide (n := 1)).2 (h.mono ?_)
  rintro en W2 ⟨⟨vv, rfl⟩, s2, rfl, h5⟩
  rw [hJ'] at h5
  obtain ⟨⟨a0, h1, h2⟩, h3⟩ := h5
  obtain ⟨g1, g2⟩ := h3.put { r0 with state := .exhausted, pending := none }
  have hen := run_endLoop (P := P) h3.lp (by rw [hr0]; simp)
  rw [show r0.pending = none by rw [hr0]] at hen
  refine ⟨none, _, hen, ?_⟩
  refine hend s.w.heap.size a0 _ (Nat.le_refl _) h1 (h2.trans g1) ⟨g2.mark, g2.tm⟩ _ ?_
  exact ⟨ha.size, by rw [← show ac.defers = ds from ha.defers]; rfl, ha.has⟩

theorem L.opIn {Φ : Fr} {P : Program} {Q : Exit → Act → World → Prop} {n : Nat} {e : List (Nat × Value)} {w : World} {ops : Array Oper} {os : List Oper} {o : Oper} (hw : Wt ops e o.guard) (h : ∀ a, Fits Φ n e a → ∀ K : Act → World → Prop, (∀ e' a' w', Fits Φ n e' a' → L Φ P Q n ops os e' w' → K a' w') → o.wpIn Φ.f 2 P a w K Q) : L Φ P Q n ops (o :: os) e w := fun is his a ha => by
 cases is with
 | nil => cases his
 | cons i rest =>
  simp only [List.map_cons, List.cons.injEq] at his
  obtain ⟨h1, h2⟩ := his
  simp only [wpOpsIn, h1]
  rw [if_pos (Wt.wanted ha hw)]
  exact h a ha _ fun e' a' w' hf hl => hl rest h2 a' hf
theorem L.yd {P : Program} {Q : Exit → Act → World → Prop} {n : Nat} {e : List (Nat × Value)} {s : Sig} {ops : Array Oper} {os : List Oper} {d : Nat} {ty : TypeId} {pos : String} {af : Array Edge} {g : Option (Nat × Bool)} {c : Call} {x : Operand} {xs : List Operand} {l N k : Nat} {enc : Nat → List Value} {J : Nat → Sig → Prop}
  (hY : Yd P l N enc J) (hk : k < N) (hJ : J k s) (hc : c.callee = .value x) (hca : c.args = xs.toArray) (hw : Wt ops e g) (hx : Env.ev e x = some (.func (.yield l) #[] #[])) (hxs : Env.evs e xs = some (enc k)) (hd : Nat.blt d n = true)
  (h : ∀ s', Le s s' → J (k + 1) s' → L Fr.o P Q n ops os ((d, .bool true) :: e) s'.w) : L Fr.o P Q n ops (⟨some d, .call c, ty, pos, af, g⟩ :: os) e s.w :=
 L.opIn hw fun ac ha K hK => by
  obtain ⟨fn, tmps, assign, body, hy, hR⟩ := hY k hk s hJ
  refine ⟨fun _ _ => trivial, ?_⟩
  have h2 : c.args.map ac.eval = (enc k).toArray := by rw [hca, List.map_toArray, ha.evs hxs]
  have h3 : ac.eval x = .func (.yield l) #[] #[] := ha.ev hx
  have hrun : (Oper.semAt Fr.o.f.round ac.eval ⟨some d, .call c, ty, pos, af, g⟩).run P s.w = .ok (.round l fn tmps assign body) s.w := by
   show (execOp ac.eval ⟨some d, .call c, ty, pos, af, g⟩).run P s.w = _
   simp [execOp, resolve, hc, h2, h3, Deferred.ofValue, invoke, hy]
  rw [hrun]
  refine ⟨fun e => (by cases e), ?_⟩
  have hR1 : RoundIn Fr.o.f (2 - 1) P l fn tmps assign body s.w fun e W' => e = .returned (.bool true) ∧ ∃ s', W' = s'.w ∧ Le s s' ∧ J (k + 1) s' := ⟨trivial, fun c cs hr => hR.2 c cs (fun d hd => by cases hd)⟩
  refine hR1.mono ?_
  rintro en W' ⟨rfl, s', rfl, hle, hJ'⟩
  exact hK _ _ _ (ha.put hd (.bool true)) (h s' hle hJ')

def rngF {S : Type} (f : Nat → S → Option S) : Nat → Nat → S → Option S
 | 0, _, s => some s
 | m + 1, k, s => (f k s).bind (rngF f m (k + 1))
theorem rng_step {S : Type} {f : Nat → S → Option S} {N k : Nat} {s o : S} (hk : k < N) (h : rngF f (N - k) k s = some o) : ∃ s', f k s = some s' ∧ rngF f (N - (k + 1)) (k + 1) s' = some o := by
 rw [show N - k = (N - (k + 1)) + 1 by omega, rngF] at h
 exact Option.bind_eq_some_iff.1 h
theorem rng_end {S : Type} {f : Nat → S → Option S} {N : Nat} {s o : S} (h : rngF f (N - N) N s = some o) : s = o := by
 rw [Nat.sub_self, rngF] at h
 exact Option.some.inj h
def Mks (s : Sig) (t : Nat) (ds : List Deferred) : Prop := ∃ Ds : List Nat, ds = Ds.map mark ∧ Ds.Nodup ∧ ∀ D ∈ Ds, s.w.heap[D]? = some (.deferred (some [])) ∧ s.tag D = t
theorem Mks.nil {s : Sig} {t : Nat} : Mks s t [] := ⟨[], rfl, List.nodup_nil, fun _ h => by cases h⟩
theorem Mks.mv {S : Nat → Prop} {s s' : Sig} {t : Nat} {ds : List Deferred} (h : Mks s t ds) (m : Mv S s s') (hn : ¬ S t) : Mks s' t ds := by
 obtain ⟨Ds, h1, h2, h3⟩ := h
 refine ⟨Ds, h1, h2, fun D hD => ?_⟩
 obtain ⟨g1, g2⟩ := h3 D hD
 obtain ⟨g3, g4⟩ := m.blk D (Array.getElem?_eq_some_iff.1 g1).1 (by rw [g2]; exact hn)
 exact ⟨g3.trans g1, g4.trans g2⟩
theorem Mks.old {s : Sig} {t : Nat} {ds : List Deferred} (h : Mks s t ds) : ∀ D, mark D ∈ ds → D < s.w.heap.size := by
 obtain ⟨Ds, rfl, _, h3⟩ := h
 intro D hD
 obtain ⟨D', h4, h5⟩ := List.mem_map.1 hD
 cases h5
 exact (Array.getElem?_eq_some_iff.1 (h3 _ h4).1).1
theorem Mks.cons {s : Sig} {t D N : Nat} {ds : List Deferred} (h : Mks s t ds) (ho : ∀ D, mark D ∈ ds → D < N) (hD : N ≤ D) (hk : Mk s t D) : Mks s t (mark D :: ds) := by
 obtain ⟨Ds, rfl, h2, h3⟩ := h
 refine ⟨D :: Ds, rfl, List.nodup_cons.2 ⟨fun hm => ?_, h2⟩, fun D' hD' => ?_⟩
 ·have := ho D (List.mem_map.2 ⟨D, hm, rfl⟩); omega
 ·rcases List.mem_cons.1 hD' with rfl | h4
  ·exact ⟨hk.mark, hk.tm⟩
  ·exact h3 D' h4
theorem leavesT {F : Fence} {n : Nat} {P : Program} {fn : Func} {tmps : Array Value} {R : Ending → World → Prop} {t : Nat} : ∀ (Ds : List Nat) (s : Sig), Ds.Nodup → (∀ D ∈ Ds, s.w.heap[D]? = some (.deferred (some [])) ∧ s.tag D = t) →
  (∀ s', Mv (One t) s s' → ∃ v, (results fn tmps).run P s'.w = .ok v s'.w ∧ R (.returned v) s'.w) → LeavesInM F n P fn tmps R (Ds.map mark) .returning s.w
 | [], s, _, _, hfin => hfin s (Mv.refl _ _)
 | D :: Ds, s, hnd, hD, hfin => by
  obtain ⟨hd, ht⟩ := hD D (List.mem_cons_self ..)
  have hm : Mv (One t) s ⟨s.w.putObj D (.deferred none), s.tag⟩ := by
   refine ⟨rfl, rfl, rfl, by simp [World.putObj], fun b hb hn => ⟨World.putObj_heap_other fun e => hn ?_, rfl⟩⟩
   subst e; exact ht
  refine ⟨by simp, .inl ⟨D, _, rfl, run_takeDeferred hd, leavesT Ds ⟨s.w.putObj D (.deferred none), s.tag⟩ (List.nodup_cons.1 hnd).2 (fun D' hD' => ⟨?_, (hD D' (List.mem_cons_of_mem _ hD')).2⟩) fun s' hs' => hfin s' (hm.trans hs')⟩⟩
  show (s.w.putObj D (.deferred none)).heap[D']? = _
  rw [World.putObj_heap_other ?_]
  ·exact (hD D' (List.mem_cons_of_mem _ hD')).1
  ·rintro rfl; exact (List.nodup_cons.1 hnd).1 hD'
theorem X.lv {P : Program} {fn : Func} {R : Ending → World → Prop} {n t : Nat} {e : List (Nat × Value)} {s : Sig} {ds : List Deferred} {x : Exit} (hx : x = .ret ∨ x = .normal) (hk : Mks s t ds) (h : ∀ s', Mv (One t) s s' → X Fr.o (bodyPost P fn R) n x e s'.w) :
  X ⟨none, ds⟩ (bodyPostM Fence.wide 4 P fn R) n x e s.w := fun a ha => by
 obtain ⟨Ds, rfl, h2, h3⟩ := hk
 have hl : LeavesInM Fence.wide 4 P fn a.tmps R (Ds.map mark) .returning s.w := leavesT Ds s h2 h3 fun s' hs' => by
  have := h s' hs' { a with defers := [] } ⟨ha.size, rfl, ha.has⟩
  rcases hx with rfl | rfl
  ·exact this.2
  ·exact this.2
 obtain ⟨tmps, dd⟩ := a
 obtain rfl : dd = Ds.map mark := ha.defers
 rcases hx with rfl | rfl
 ·exact hl
 ·exact hl
theorem E.entryM {P : Program} {f : FuncId} {fn : Func} {c : Code} {vs : List Value} {w : World} {R : Ending → World → Prop} {n : Nat} {e : List (Nat × Value)} (hf : P.funcs[f]? = some fn) (hb : fn.body = some c) (hn : fn.ntmps = n) (hv : Nat.ble vs.length n = true) (he : Env.ofArgs 0 vs = e)
  (h : E Fr.o P (bodyPostM Fence.wide 4 P fn R) n c e w) : Calls P f vs.toArray w R := by
 subst hn
 subst he
 have hv' : vs.length ≤ fn.ntmps := Nat.le_of_ble_eq_true hv
 refine calls_of_marks hf hb ((wpIn_wide (n := 2)).1 (h _ ⟨by simp; omega, rfl, fun d v hg => ?_⟩))
 obtain ⟨_, h2⟩ := Env.get_ofArgs hg
 have hl := (List.getElem?_eq_some_iff.1 h2).1
 rw [Nat.sub_zero] at h2 hl
 rw [Array.getElem?_append_left (by simpa using hl)]
 simpa using h2
end Go.Proofs.YtidakgbibobbdaaGreatDoor

