/- What a slice value reads as in a world, and small words for contracts. -/
import Derived.WalkKit
import Derived.Lib.Hide
namespace Go.Proofs.Ytkkemchihllklaa
open Go.RowKit

/-- A slice value reads in w as the cells cs, sz cells an element. -/
structure RdS (w : World) (sz : Nat) (a : Option Addr) (len cap : Nat) (cs : List Value) : Prop where
  hlen : cs.length = len * sz
  hcap : len ≤ cap
  hmax : cap ≤ maxLen
  hnil : a = none → cap = 0
  spot : ∀ ad, a = some ad → ad.spot = none
  cell : ∀ ad, a = some ad → ∀ j (h : j < cs.length), w.cell? ⟨ad.block, ad.off + j, none⟩ = some cs[j]

/-- A cell stays. -/
theorem keep {B : Nat} {w w' : World} (hb : Below B w w') {a : Addr} {v : Value} (h : w.cell? a = some v) (ha : a.block < B) : w'.cell? a = some v := (hb.cell ha).trans h
/-- What was there when the call began stays. -/
theorem keep0 {w w' : World} (hb : Below w.heap.size w w') {a : Addr} {v : Value} (h : w.cell? a = some v) : w'.cell? a = some v := keep hb h (World.block_lt_of_cell? w a h)

/-- Behind a call that keeps all that was there. -/
theorem belCall {B : Nat} {a w w' : World} (h : Below B a w) (h2 : Below w.heap.size w w') (hB : B ≤ w.heap.size) : Below B a w' := h.trans (h2.mono hB)

theorem RdS.mono {w w' : World} {sz : Nat} {a : Option Addr} {len cap : Nat} {cs : List Value} (h : RdS w sz a len cap cs) (hb : Below w.heap.size w w') : RdS w' sz a len cap cs :=
  ⟨h.hlen, h.hcap, h.hmax, h.hnil, h.spot, fun ad e j hj => keep0 hb (h.cell ad e j hj)⟩

/-- Where there is an element there is an address. -/
theorem RdS.at_elem {w : World} {sz : Nat} {a : Option Addr} {len cap : Nat} {cs : List Value} (h : RdS w sz a len cap cs) (k : Nat) (hk : k < len) :
    ∃ b off, a = some ⟨b, off, none⟩ ∧ ∀ j, (hj : j < cs.length) → w.cell? ⟨b, off + j, none⟩ = some cs[j] := by
  cases a with
  | none => have := h.hnil rfl; have := h.hcap; omega
  | some ad =>
    obtain ⟨b, off, sp⟩ := ad
    obtain h1 := h.spot _ rfl
    subst h1
    exact ⟨b, off, rfl, fun j hj => h.cell _ rfl j hj⟩

abbrev ints (xs : List Int) : List Value := xs.map (Value.int .i64)

/-- A value reads as a list of ints. -/
def RdI (w : World) (v : Value) (xs : List Int) : Prop := ∃ a cap, v = .slice a xs.length cap ∧ RdS w 1 a xs.length cap (ints xs)

theorem RdI.mono {w w' : World} {v : Value} {xs : List Int} (h : RdI w v xs) (hb : Below w.heap.size w w') : RdI w' v xs := by
  obtain ⟨a, cap, rfl, hr⟩ := h
  exact ⟨a, cap, rfl, hr.mono hb⟩

/-- The cell of one element. -/
theorem RdS.at_int {w : World} {a : Option Addr} {cap : Nat} {xs : List Int} (h : RdS w 1 a xs.length cap (ints xs)) (k : Nat) (hk : k < xs.length) :
    ∃ b off, a = some ⟨b, off, none⟩ ∧ w.cell? ⟨b, off + k, none⟩ = some (.int .i64 xs[k]) := by
  obtain ⟨b, off, e, hc⟩ := h.at_elem k hk
  exact ⟨b, off, e, by have h' := hc k (by simpa using hk); rwa [List.getElem_map] at h'⟩

/-- An edge. -/
structure Ed where
  f : Int
  e : Int
  t : Int
  deriving DecidableEq
def Ed.cells (x : Ed) : List Value := [.int .i64 x.f, .int .i64 x.e, .int .i64 x.t]

/-- The cells of a list of elements of sz cells each: where the j-th of the k-th lies. -/
theorem flat_at {α : Type} (f : α → List Value) (sz : Nat) (hf : ∀ x, (f x).length = sz) : ∀ (l : List α) (k j : Nat) (hk : k < l.length) (_hj : j < sz), (l.flatMap f)[k * sz + j]? = (f l[k])[j]?
  | [], _, _, hk, _ => absurd hk (by simp)
  | x :: l, 0, j, _, hj => by
    rw [List.flatMap_cons, List.getElem?_append_left (by rw [hf]; omega)]; simp
  | x :: l, k + 1, j, hk, hj => by
    rw [List.flatMap_cons, List.getElem?_append_right (by rw [hf, Nat.succ_mul]; omega), hf]
    rw [show (k + 1) * sz + j - sz = k * sz + j by rw [Nat.succ_mul]; omega]
    rw [flat_at f sz hf l k j (by simpa using hk) hj]; simp
theorem flat_length {α : Type} (f : α → List Value) (sz : Nat) (hf : ∀ x, (f x).length = sz) : ∀ (l : List α), (l.flatMap f).length = l.length * sz
  | [] => by simp
  | x :: l => by rw [List.flatMap_cons, List.length_append, hf, flat_length f sz hf l, List.length_cons, Nat.succ_mul]; omega

abbrev edCells (es : List Ed) : List Value := es.flatMap Ed.cells

/-- A value reads as a list of edges. -/
def RdE (w : World) (v : Value) (es : List Ed) : Prop := ∃ a cap, v = .slice a es.length cap ∧ RdS w 3 a es.length cap (edCells es)
theorem RdE.mono {w w' : World} {v : Value} {xs : List Ed} (h : RdE w v xs) (hb : Below w.heap.size w w') : RdE w' v xs := by
  obtain ⟨a, cap, rfl, hr⟩ := h
  exact ⟨a, cap, rfl, hr.mono hb⟩
theorem RdS.at_flat {α : Type} {f : α → List Value} {sz : Nat} (hf : ∀ x, (f x).length = sz) {w : World} {a : Option Addr} {cap : Nat} {es : List α} (h : RdS w sz a es.length cap (es.flatMap f)) (k : Nat) (hk : k < es.length) :
    ∃ b off, a = some ⟨b, off, none⟩ ∧ ∀ j, j < sz → w.cell? ⟨b, off + k * sz + j, none⟩ = (f es[k])[j]? := by
  obtain ⟨b, off, e, hc⟩ := h.at_elem k hk
  refine ⟨b, off, e, fun j hj => ?_⟩
  have hlt : k * sz + j < (es.flatMap f).length := by
    rw [flat_length f sz hf]
    have := Nat.mul_le_mul_right sz (show k + 1 ≤ es.length from hk)
    rw [Nat.succ_mul] at this; omega
  have h1 := hc (k * sz + j) hlt
  rw [← flat_at f sz hf es k j hk hj, Nat.add_assoc, h1, List.getElem?_eq_getElem hlt]
theorem RdS.at_edge {w : World} {a : Option Addr} {cap : Nat} {es : List Ed} (h : RdS w 3 a es.length cap (edCells es)) (k : Nat) (hk : k < es.length) :
    ∃ b off, a = some ⟨b, off, none⟩ ∧ w.cell? ⟨b, off + k * 3, none⟩ = some (.int .i64 es[k].f) ∧ w.cell? ⟨b, off + k * 3 + 1, none⟩ = some (.int .i64 es[k].e) ∧ w.cell? ⟨b, off + k * 3 + 2, none⟩ = some (.int .i64 es[k].t) := by
  obtain ⟨b, off, e, hc⟩ := h.at_flat (f := Ed.cells) (fun _ => rfl) k hk
  exact ⟨b, off, e, hc 0 (by omega), hc 1 (by omega), hc 2 (by omega)⟩

/-- Whether a list contains a number. -/
def hasB (xs : List Int) (n : Int) : Bool := xs.contains n
theorem hasB_true {xs : List Int} {n : Int} : hasB xs n = true ↔ n ∈ xs := by simp [hasB]
theorem hasB_false {xs : List Int} {n : Int} : hasB xs n = false ↔ n ∉ xs := by simp [hasB]

/-- The first error of a set of numbers below n; p is the number before. -/
def setErr (n : Int) : Option Int → List Int → Int
  | _, [] => 0
  | p, x :: xs => if x < 0 ∨ n ≤ x then 2 else if (∃ q, p = some q ∧ x ≤ q) then 5 else setErr n (some x) xs
def prevAt (xs : List Int) (k : Nat) : Option Int := if k = 0 then none else xs[k - 1]?
theorem setErr_drop {n : Int} {xs : List Int} {k : Nat} (hk : k < xs.length) : setErr n (prevAt xs k) (xs.drop k) = if xs[k] < 0 ∨ n ≤ xs[k] then 2 else if (∃ q, prevAt xs k = some q ∧ xs[k] ≤ q) then 5 else setErr n (prevAt xs (k + 1)) (xs.drop (k + 1)) := by
  rw [List.drop_eq_getElem_cons hk, setErr]
  congr 2
  simp [prevAt, List.getElem?_eq_getElem hk]
theorem setErr_2 {n : Int} {xs : List Int} {k : Nat} (hk : k < xs.length) (h : xs[k] < 0 ∨ n ≤ xs[k]) : setErr n (prevAt xs k) (xs.drop k) = 2 := by rw [setErr_drop hk, if_pos h]
theorem setErr_5 {n : Int} {xs : List Int} {k : Nat} (hk : k < xs.length) (h : ¬ (xs[k] < 0 ∨ n ≤ xs[k])) (h0 : 0 < k) (h1 : xs[k] ≤ xs[k - 1]) : setErr n (prevAt xs k) (xs.drop k) = 5 := by
  rw [setErr_drop hk, if_neg h, if_pos]
  exact ⟨xs[k - 1], by rw [prevAt, if_neg (by omega), List.getElem?_eq_getElem (by omega)], h1⟩
theorem setErr_next {n : Int} {xs : List Int} {k : Nat} (hk : k < xs.length) (h : ¬ (xs[k] < 0 ∨ n ≤ xs[k])) (h1 : 0 < k → xs[k - 1] < xs[k]) : setErr n (prevAt xs k) (xs.drop k) = setErr n (prevAt xs (k + 1)) (xs.drop (k + 1)) := by
  rw [setErr_drop hk, if_neg h, if_neg]
  rintro ⟨q, hq, hle⟩
  unfold prevAt at hq
  split at hq
  · cases hq
  · rw [List.getElem?_eq_getElem (by omega)] at hq
    have := h1 (by omega)
    have := Option.some.inj hq
    omega
theorem setErr_end {n : Int} {xs : List Int} {k : Nat} (hk : ¬ k < xs.length) : setErr n (prevAt xs k) (xs.drop k) = 0 := by
  rw [List.drop_of_length_le (by omega)]; cases prevAt xs k <;> rfl

/-- The function returns a value of which R holds, and nothing that was there has turned. -/
def Ret (w : World) (R : Value → World → Prop) (e : Ending) (w' : World) : Prop := ∃ v, e = .returned v ∧ R v w' ∧ Below w.heap.size w w'

theorem ret_bool {a b : Bool} (h : a = b) : Ending.returned (.bool a) = .returned (.bool b) := by rw [h]
theorem ret_int {k : IntKind} {a b : Int} (h : a = b) : Ending.returned (.int k a) = .returned (.int k b) := by rw [h]
end Go.Proofs.Ytkkemchihllklaa
