/- Texts joined: Base, Reads, Check, CheckB, Own, Bits, Row, RegInv, Example. Each is introduced by its own sentence. -/
import Derived.WalkKit
import Derived.Lib.Hide
import Derived.Test.YthchkddhibhenaaChecked
import Derived.RangeFuncWrites
import Derived.Orders
import Derived.RegionTactic
/- What a slice value reads as in a world, and small words for contracts. -/
namespace Go.Proofs.Ythchkddhibhenaa
open Go.RowKit

/-- A slice value reads in w as the cells cs, sz cells an element. -/
structure RdS (w : World) (sz : Nat) (a : Option Addr) (len cap : Nat) (cs : List Value) : Prop where
  hlen : cs.length = len * sz
  hcap : len ≤ cap
  hmax : cap ≤ maxLen
  hnil : a = none → cap = 0
  spot : ∀ ad, a = some ad → ad.spot = none
  cell : ∀ ad, a = some ad → ∀ j (h : j < cs.length), w.cell? ⟨ad.block, ad.off + j, none⟩ = some cs[j]

/-- A cell stays. -/
theorem keep {B : Nat} {w w' : World} (hb : Below B w w') {a : Addr} {v : Value} (h : w.cell? a = some v) (ha : a.block < B) : w'.cell? a = some v := (hb.cell ha).trans h
/-- What was there when the call began stays. -/
theorem keep0 {w w' : World} (hb : Below w.heap.size w w') {a : Addr} {v : Value} (h : w.cell? a = some v) : w'.cell? a = some v := keep hb h (World.block_lt_of_cell? w a h)

/-- Behind a call that keeps all that was there. -/
theorem belCall {B : Nat} {a w w' : World} (h : Below B a w) (h2 : Below w.heap.size w w') (hB : B ≤ w.heap.size) : Below B a w' := h.trans (h2.mono hB)

theorem RdS.mono {w w' : World} {sz : Nat} {a : Option Addr} {len cap : Nat} {cs : List Value} (h : RdS w sz a len cap cs) (hb : Below w.heap.size w w') : RdS w' sz a len cap cs :=
  ⟨h.hlen, h.hcap, h.hmax, h.hnil, h.spot, fun ad e j hj => keep0 hb (h.cell ad e j hj)⟩

/-- Where there is an element there is an address. -/
theorem RdS.at_elem {w : World} {sz : Nat} {a : Option Addr} {len cap : Nat} {cs : List Value} (h : RdS w sz a len cap cs) (k : Nat) (hk : k < len) :
    ∃ b off, a = some ⟨b, off, none⟩ ∧ ∀ j, (hj : j < cs.length) → w.cell? ⟨b, off + j, none⟩ = some cs[j] := by
  cases a with
  | none => have := h.hnil rfl; have := h.hcap; omega
  | some ad =>
    obtain ⟨b, off, sp⟩ := ad
    obtain h1 := h.spot _ rfl
    subst h1
    exact ⟨b, off, rfl, fun j hj => h.cell _ rfl j hj⟩

abbrev ints (xs : List Int) : List Value := xs.map (Value.int .i64)

/-- A value reads as a list of ints. -/
def RdI (w : World) (v : Value) (xs : List Int) : Prop := ∃ a cap, v = .slice a xs.length cap ∧ RdS w 1 a xs.length cap (ints xs)

theorem RdI.mono {w w' : World} {v : Value} {xs : List Int} (h : RdI w v xs) (hb : Below w.heap.size w w') : RdI w' v xs := by
  obtain ⟨a, cap, rfl, hr⟩ := h
  exact ⟨a, cap, rfl, hr.mono hb⟩

/-- The cell of one element. -/
theorem RdS.at_int {w : World} {a : Option Addr} {cap : Nat} {xs : List Int} (h : RdS w 1 a xs.length cap (ints xs)) (k : Nat) (hk : k < xs.length) :
    ∃ b off, a = some ⟨b, off, none⟩ ∧ w.cell? ⟨b, off + k, none⟩ = some (.int .i64 xs[k]) := by
  obtain ⟨b, off, e, hc⟩ := h.at_elem k hk
  exact ⟨b, off, e, by have h' := hc k (by simpa using hk); rwa [List.getElem_map] at h'⟩

/-- An edge. -/
structure Ed where
  f : Int
  e : Int
  t : Int
  deriving DecidableEq
def Ed.cells (x : Ed) : List Value := [.int .i64 x.f, .int .i64 x.e, .int .i64 x.t]

/-- The cells of a list of elements of sz cells each: where the j-th of the k-th lies. -/
theorem flat_at {α : Type} (f : α → List Value) (sz : Nat) (hf : ∀ x, (f x).length = sz) : ∀ (l : List α) (k j : Nat) (hk : k < l.length) (hj : j < sz), (l.flatMap f)[k * sz + j]? = (f l[k])[j]?
  | [], _, _, hk, _ => absurd hk (by simp)
  | x :: l, 0, j, _, hj => by
    rw [List.flatMap_cons, List.getElem?_append_left (by rw [hf]; omega)]; simp
  | x :: l, k + 1, j, hk, hj => by
    rw [List.flatMap_cons, List.getElem?_append_right (by rw [hf, Nat.succ_mul]; omega), hf]
    rw [show (k + 1) * sz + j - sz = k * sz + j by rw [Nat.succ_mul]; omega]
    rw [flat_at f sz hf l k j (by simpa using hk) hj]; simp
theorem flat_length {α : Type} (f : α → List Value) (sz : Nat) (hf : ∀ x, (f x).length = sz) : ∀ (l : List α), (l.flatMap f).length = l.length * sz
  | [] => by simp
  | x :: l => by rw [List.flatMap_cons, List.length_append, hf, flat_length f sz hf l, List.length_cons, Nat.succ_mul]; omega

abbrev edCells (es : List Ed) : List Value := es.flatMap Ed.cells

/-- A value reads as a list of edges. -/
def RdE (w : World) (v : Value) (es : List Ed) : Prop := ∃ a cap, v = .slice a es.length cap ∧ RdS w 3 a es.length cap (edCells es)
theorem RdE.mono {w w' : World} {v : Value} {xs : List Ed} (h : RdE w v xs) (hb : Below w.heap.size w w') : RdE w' v xs := by
  obtain ⟨a, cap, rfl, hr⟩ := h
  exact ⟨a, cap, rfl, hr.mono hb⟩
theorem RdS.at_flat {α : Type} {f : α → List Value} {sz : Nat} (hf : ∀ x, (f x).length = sz) {w : World} {a : Option Addr} {cap : Nat} {es : List α} (h : RdS w sz a es.length cap (es.flatMap f)) (k : Nat) (hk : k < es.length) :
    ∃ b off, a = some ⟨b, off, none⟩ ∧ ∀ j, j < sz → w.cell? ⟨b, off + k * sz + j, none⟩ = (f es[k])[j]? := by
  obtain ⟨b, off, e, hc⟩ := h.at_elem k hk
  refine ⟨b, off, e, fun j hj => ?_⟩
  have hlt : k * sz + j < (es.flatMap f).length := by
    rw [flat_length f sz hf]
    have := Nat.mul_le_mul_right sz (show k + 1 ≤ es.length from hk)
    rw [Nat.succ_mul] at this; omega
  have h1 := hc (k * sz + j) hlt
  rw [← flat_at f sz hf es k j hk hj, Nat.add_assoc, h1, List.getElem?_eq_getElem hlt]
theorem RdS.at_edge {w : World} {a : Option Addr} {cap : Nat} {es : List Ed} (h : RdS w 3 a es.length cap (edCells es)) (k : Nat) (hk : k < es.length) :
    ∃ b off, a = some ⟨b, off, none⟩ ∧ w.cell? ⟨b, off + k * 3, none⟩ = some (.int .i64 es[k].f) ∧ w.cell? ⟨b, off + k * 3 + 1, none⟩ = some (.int .i64 es[k].e) ∧ w.cell? ⟨b, off + k * 3 + 2, none⟩ = some (.int .i64 es[k].t) := by
  obtain ⟨b, off, e, hc⟩ := h.at_flat (f := Ed.cells) (fun _ => rfl) k hk
  exact ⟨b, off, e, hc 0 (by omega), hc 1 (by omega), hc 2 (by omega)⟩

/-- Whether a list contains a number. -/
def hasB (xs : List Int) (n : Int) : Bool := xs.contains n
theorem hasB_true {xs : List Int} {n : Int} : hasB xs n = true ↔ n ∈ xs := by simp [hasB]
theorem hasB_false {xs : List Int} {n : Int} : hasB xs n = false ↔ n ∉ xs := by simp [hasB]

/-- The first error of a set of numbers below n; p is the number before. -/
def setErr (n : Int) : Option Int → List Int → Int
  | _, [] => 0
  | p, x :: xs => if x < 0 ∨ n ≤ x then 2 else if (∃ q, p = some q ∧ x ≤ q) then 5 else setErr n (some x) xs
def prevAt (xs : List Int) (k : Nat) : Option Int := if k = 0 then none else xs[k - 1]?
theorem setErr_drop {n : Int} {xs : List Int} {k : Nat} (hk : k < xs.length) : setErr n (prevAt xs k) (xs.drop k) = if xs[k] < 0 ∨ n ≤ xs[k] then 2 else if (∃ q, prevAt xs k = some q ∧ xs[k] ≤ q) then 5 else setErr n (prevAt xs (k + 1)) (xs.drop (k + 1)) := by
  rw [List.drop_eq_getElem_cons hk, setErr]
  congr 2
  simp [prevAt, List.getElem?_eq_getElem hk]
theorem setErr_2 {n : Int} {xs : List Int} {k : Nat} (hk : k < xs.length) (h : xs[k] < 0 ∨ n ≤ xs[k]) : setErr n (prevAt xs k) (xs.drop k) = 2 := by rw [setErr_drop hk, if_pos h]
theorem setErr_5 {n : Int} {xs : List Int} {k : Nat} (hk : k < xs.length) (h : ¬ (xs[k] < 0 ∨ n ≤ xs[k])) (h0 : 0 < k) (h1 : xs[k] ≤ xs[k - 1]) : setErr n (prevAt xs k) (xs.drop k) = 5 := by
  rw [setErr_drop hk, if_neg h, if_pos]
  exact ⟨xs[k - 1], by rw [prevAt, if_neg (by omega), List.getElem?_eq_getElem (by omega)], h1⟩
theorem setErr_next {n : Int} {xs : List Int} {k : Nat} (hk : k < xs.length) (h : ¬ (xs[k] < 0 ∨ n ≤ xs[k])) (h1 : 0 < k → xs[k - 1] < xs[k]) : setErr n (prevAt xs k) (xs.drop k) = setErr n (prevAt xs (k + 1)) (xs.drop (k + 1)) := by
  rw [setErr_drop hk, if_neg h, if_neg]
  rintro ⟨q, hq, hle⟩
  unfold prevAt at hq
  split at hq
  · cases hq
  · rw [List.getElem?_eq_getElem (by omega)] at hq
    have := h1 (by omega)
    have := Option.some.inj hq
    omega
theorem setErr_end {n : Int} {xs : List Int} {k : Nat} (hk : ¬ k < xs.length) : setErr n (prevAt xs k) (xs.drop k) = 0 := by
  rw [List.drop_of_length_le (by omega)]; cases prevAt xs k <;> rfl

/-- The function returns a value of which R holds, and nothing that was there has turned. -/
def Ret (w : World) (R : Value → World → Prop) (e : Ending) (w' : World) : Prop := ∃ v, e = .returned v ∧ R v w' ∧ Below w.heap.size w w'

theorem ret_bool {a b : Bool} (h : a = b) : Ending.returned (.bool a) = .returned (.bool b) := by rw [h]
theorem ret_int {k : IntKind} {a b : Int} (h : a = b) : Ending.returned (.int k a) = .returned (.int k b) := by rw [h]
end Go.Proofs.Ythchkddhibhenaa

/- Contracts of the functions that only read lists of ints. -/
namespace Go.Proofs.Ythchkddhibhenaa
open Go.RowKit

theorem take_snoc {α : Type} (xs : List α) (k : Nat) (h : k < xs.length) : xs.take (k + 1) = xs.take k ++ [xs[k]] := by
  rw [List.take_succ_eq_append_getElem h]

theorem notin_snoc {xs : List Int} {k : Nat} {n : Int} (h : k < xs.length) (hn : Hid (n ∉ xs.take k)) (hx : (xs[k] == n) = false) : Hid (n ∉ xs.take (k + 1)) := by
  show n ∉ xs.take (k + 1)
  rw [take_snoc xs k h, List.mem_append]
  rintro (h1 | h1)
  · exact hn.out h1
  · rw [List.mem_singleton.1 h1, beq_self_eq_true] at hx; cases hx

theorem notin_all {xs : List Int} {k : Nat} {n : Int} (hk : k ≤ xs.length) (h : ¬ k < xs.length) (hn : Hid (n ∉ xs.take k)) : n ∉ xs := by
  have h1 := hn.out
  rwa [List.take_of_length_le (by omega)] at h1

theorem has_any (v : Value) (xs : List Int) (n : Int) (w : World) (hr : RdI w v xs) (hl : xs.length ≤ 1000000) :
    Calls Try.prog 50 #[v, .int .i64 n] w fun e w' => e = .returned (.bool (hasB xs n)) ∧ w = w' := by
  obtain ⟨a, cap, rfl, hr⟩ := hr
  go_enter Try.func50, Try.ntmps50
  go_wp2
  go_loop [5] (fun i => ∃ k : Nat, k ≤ xs.length ∧ i = .int .i64 k ∧ Hid (n ∉ xs.take k)) (fun i => xs.length - (intOf i).toNat)
  case atStart => exact ⟨0, Nat.zero_le _, rfl, by simp [Hid]⟩
  case round =>
    obtain ⟨k, hk, rfl, hn⟩ := hrel
    by_cases hlt : k < xs.length
    · obtain ⟨b, off, rfl, hc⟩ := hr.at_int k hlt
      go_wp2
      · have hx : (xs[k] == n) = true := by assumption
        go_ret
        exact ⟨ret_bool (hasB_true.2 (eq_of_beq hx ▸ List.getElem_mem hlt)).symm, rfl⟩
      · have hx : (xs[k] == n) = false := by assumption
        go_round
        case rel => exact ⟨k + 1, by omega, by go_num, notin_snoc hlt hn hx⟩
        case measure => simp [intOf]; omega
    · go_wp2
      go_ret
      exact ⟨ret_bool (hasB_false.2 (notin_all hk hlt hn)).symm, rfl⟩

theorem acheckSet_any (v : Value) (xs : List Int) (n : Int) (w : World) (hr : RdI w v xs) (hl : xs.length ≤ 1000000) :
    Calls Try.prog 77 #[v, .int .i64 n] w fun e w' => e = .returned (.int .i64 (setErr n none xs)) ∧ w = w' := by
  obtain ⟨a, cap, rfl, hr⟩ := hr
  go_enter Try.func77, Try.ntmps77
  go_wp2
  go_loop [9] (fun i => ∃ k : Nat, k ≤ xs.length ∧ i = .int .i64 k ∧ Hid (setErr n none xs = setErr n (prevAt xs k) (xs.drop k))) (fun i => xs.length - (intOf i).toNat)
  case atStart => exact ⟨0, Nat.zero_le _, rfl, by simp [Hid, prevAt]⟩
  case round =>
    obtain ⟨k, hk, rfl, hn⟩ := hrel
    by_cases hlt : k < xs.length
    · obtain ⟨b, off, rfl, hc⟩ := hr.at_int k hlt
      obtain ⟨b', off', hb', hc'⟩ := hr.at_int (k - 1) (by omega)
      cases hb'
      by_cases h0 : 0 < k
      all_goals
        go_wp2
        all_goals first
          | (go_ret; exact ⟨ret_int (hn.out.trans (setErr_2 hlt (by omega))).symm, rfl⟩)
          | (go_ret; exact ⟨ret_int (hn.out.trans (setErr_5 hlt (by omega) (by omega) (by omega))).symm, rfl⟩)
          | (go_round
             case rel => exact ⟨k + 1, by omega, by go_num, hn.out.trans (setErr_next hlt (by omega) (by omega))⟩
             case measure => simp [intOf]; omega)
    · go_wp2
      go_ret
      exact ⟨ret_int (hn.out.trans (setErr_end hlt)).symm, rfl⟩

theorem rcheckSet_any (v : Value) (xs : List Int) (n : Int) (w : World) (hr : RdI w v xs) (hl : xs.length ≤ 1000000) :
    Calls Try.prog 61 #[v, .int .i64 n] w fun e w' => e = .returned (.int .i64 (setErr n none xs)) ∧ w = w' := by
  obtain ⟨a, cap, rfl, hr⟩ := hr
  go_enter Try.func61, Try.ntmps61
  go_wp2
  go_loop [9] (fun i => ∃ k : Nat, k ≤ xs.length ∧ i = .int .i64 k ∧ Hid (setErr n none xs = setErr n (prevAt xs k) (xs.drop k))) (fun i => xs.length - (intOf i).toNat)
  case atStart => exact ⟨0, Nat.zero_le _, rfl, by simp [Hid, prevAt]⟩
  case round =>
    obtain ⟨k, hk, rfl, hn⟩ := hrel
    by_cases hlt : k < xs.length
    · obtain ⟨b, off, rfl, hc⟩ := hr.at_int k hlt
      obtain ⟨b', off', hb', hc'⟩ := hr.at_int (k - 1) (by omega)
      cases hb'
      by_cases h0 : 0 < k
      all_goals
        go_wp2
        all_goals first
          | (go_ret; exact ⟨ret_int (hn.out.trans (setErr_2 hlt (by omega))).symm, rfl⟩)
          | (go_ret; exact ⟨ret_int (hn.out.trans (setErr_5 hlt (by omega) (by omega) (by omega))).symm, rfl⟩)
          | (go_round
             case rel => exact ⟨k + 1, by omega, by go_num, hn.out.trans (setErr_next hlt (by omega) (by omega))⟩
             case measure => simp [intOf]; omega)
    · go_wp2
      go_ret
      exact ⟨ret_int (hn.out.trans (setErr_end hlt)).symm, rfl⟩

/-- The place of a number in a list, or -1. -/
def idxI (xs : List Int) (n : Int) : Int := if n ∈ xs then (xs.idxOf n : Int) else -1
theorem idxI_at {xs : List Int} {n : Int} {k : Nat} (h : k < xs.length) (hn : Hid (n ∉ xs.take k)) (hx : (n == xs[k]) = true) : idxI xs n = k := by
  have hx' := eq_of_beq hx
  have hm : n ∈ xs := hx' ▸ List.getElem_mem h
  rw [idxI, if_pos hm]
  congr 1
  have h1 := hn.out
  rw [← List.take_append_drop k xs, List.idxOf_append, if_neg h1, List.drop_eq_getElem_cons h, ← hx', List.idxOf_cons_self, List.length_take]
  omega
theorem idxI_none {xs : List Int} {n : Int} (h : n ∉ xs) : idxI xs n = -1 := by rw [idxI, if_neg h]
theorem idxI_hasB (xs : List Int) (n : Int) : decide (0 ≤ idxI xs n) = hasB xs n := by
  by_cases h : n ∈ xs
  · rw [hasB_true.2 h, idxI, if_pos h]; simp
  · rw [hasB_false.2 h, idxI_none h]; rfl

theorem index_any (v : Value) (xs : List Int) (n : Int) (w : World) (hr : RdI w v xs) (hl : xs.length ≤ 1000000) :
    Calls Try.prog 80 #[v, .int .i64 n] w fun e w' => e = .returned (.int .i64 (idxI xs n)) ∧ w = w' := by
  obtain ⟨a, cap, rfl, hr⟩ := hr
  go_enter Try.func80, Try.ntmps80
  go_wp2
  go_loop [8] (fun i => ∃ k : Nat, k ≤ xs.length ∧ i = .int .i64 k ∧ Hid (n ∉ xs.take k)) (fun i => xs.length - (intOf i).toNat)
  case atStart => exact ⟨0, Nat.zero_le _, rfl, by simp [Hid]⟩
  case round =>
    obtain ⟨k, hk, rfl, hn⟩ := hrel
    by_cases hlt : k < xs.length
    · obtain ⟨b, off, rfl, hc⟩ := hr.at_int k hlt
      go_wp2
      · have hx : (n == xs[k]) = true := by assumption
        go_ret
        exact ⟨ret_int (idxI_at hlt hn hx).symm, rfl⟩
      · have hx : (n == xs[k]) = false := by assumption
        go_round
        case rel => exact ⟨k + 1, by omega, by go_num, notin_snoc hlt hn (by rw [Bool.eq_false_iff] at hx ⊢; intro h; exact hx (by rw [eq_of_beq h]; exact beq_self_eq_true _))⟩
        case measure => simp [intOf]; omega
    · go_wp2
      go_ret
      exact ⟨ret_int (idxI_none (notin_all hk hlt hn)).symm, rfl⟩

theorem contains_any (v : Value) (xs : List Int) (n : Int) (w : World) (hr : RdI w v xs) (hl : xs.length ≤ 1000000) :
    Calls Try.prog 57 #[v, .int .i64 n] w fun e w' => e = .returned (.bool (hasB xs n)) ∧ w = w' := by
  go_enter Try.func57, Try.ntmps57
  go_wp2_with (go_at_call 80; ((with_reducible refine (index_any _ _ _ _ hr hl).mono ?_); rintro e w1 ⟨rfl, rfl⟩))
  go_ret
  exact ⟨ret_bool (idxI_hasB xs n), rfl⟩
end Go.Proofs.Ythchkddhibhenaa

/- The contract of automaton.Check. -/
namespace Go.Proofs.Ythchkddhibhenaa
open Go.RowKit

/-- An automaton. -/
structure Aut where
  al : List Int
  n : Int
  ms : List Int
  es : List Ed
def RdA (w : World) (v : Value) (a : Aut) : Prop := ∃ va vm ve, v = .agg #[va, .int .i64 a.n, vm, ve] ∧ RdI w va a.al ∧ RdI w vm a.ms ∧ RdE w ve a.es
theorem RdA.mono {w w' : World} {v : Value} {a : Aut} (h : RdA w v a) (hb : Below w.heap.size w w') : RdA w' v a := by
  obtain ⟨va, vm, ve, rfl, h1, h2, h3⟩ := h
  exact ⟨va, vm, ve, rfl, h1.mono hb, h2.mono hb, h3.mono hb⟩
/-- Short lists. -/
structure Aut.small (a : Aut) : Prop where
  al : a.al.length ≤ 1000000
  ms : a.ms.length ≤ 1000000
  es : a.es.length ≤ 1000000

/-- The first error of the edges; p is the edge before. -/
def edErr (al : List Int) (n : Int) : Option Ed → List Ed → Int
  | _, [] => 0
  | p, x :: xs => if (x.f < 0 ∨ n ≤ x.f ∨ x.t < 0 ∨ n ≤ x.t) then 2 else if hasB al x.e = false then 9 else if (∃ q, p = some q ∧ (x.f < q.f ∨ (x.f = q.f ∧ x.e ≤ q.e))) then 5 else edErr al n (some x) xs
def edPrev (xs : List Ed) (k : Nat) : Option Ed := if k = 0 then none else xs[k - 1]?
theorem edErr_drop {al : List Int} {n : Int} {xs : List Ed} {k : Nat} (hk : k < xs.length) : edErr al n (edPrev xs k) (xs.drop k) = if (xs[k].f < 0 ∨ n ≤ xs[k].f ∨ xs[k].t < 0 ∨ n ≤ xs[k].t) then 2 else if hasB al xs[k].e = false then 9 else if (∃ q, edPrev xs k = some q ∧ (xs[k].f < q.f ∨ (xs[k].f = q.f ∧ xs[k].e ≤ q.e))) then 5 else edErr al n (edPrev xs (k + 1)) (xs.drop (k + 1)) := by
  rw [List.drop_eq_getElem_cons hk, edErr]
  congr 3
  simp [edPrev, List.getElem?_eq_getElem hk]
theorem edErr_2 {al : List Int} {n : Int} {xs : List Ed} {k : Nat} (hk : k < xs.length) (h : xs[k].f < 0 ∨ n ≤ xs[k].f ∨ xs[k].t < 0 ∨ n ≤ xs[k].t) : edErr al n (edPrev xs k) (xs.drop k) = 2 := by rw [edErr_drop hk, if_pos h]
theorem edErr_9 {al : List Int} {n : Int} {xs : List Ed} {k : Nat} (hk : k < xs.length) (h : ¬ (xs[k].f < 0 ∨ n ≤ xs[k].f ∨ xs[k].t < 0 ∨ n ≤ xs[k].t)) (h0 : (!hasB al xs[k].e) = true) : edErr al n (edPrev xs k) (xs.drop k) = 9 := by rw [edErr_drop hk, if_neg h, if_pos (by simpa using h0)]
theorem edErr_5 {al : List Int} {n : Int} {xs : List Ed} {k : Nat} (hk : k < xs.length) (h : ¬ (xs[k].f < 0 ∨ n ≤ xs[k].f ∨ xs[k].t < 0 ∨ n ≤ xs[k].t)) (h0 : (!hasB al xs[k].e) = false) (h1 : 0 < k) (h2 : xs[k].f < xs[k-1].f ∨ (xs[k].f = xs[k-1].f ∧ xs[k].e ≤ xs[k-1].e)) : edErr al n (edPrev xs k) (xs.drop k) = 5 := by
  rw [edErr_drop hk, if_neg h, if_neg (by simpa using h0), if_pos]
  exact ⟨xs[k - 1], by rw [edPrev, if_neg (by omega), List.getElem?_eq_getElem (by omega)], h2⟩
theorem edErr_next {al : List Int} {n : Int} {xs : List Ed} {k : Nat} (hk : k < xs.length) (h : ¬ (xs[k].f < 0 ∨ n ≤ xs[k].f ∨ xs[k].t < 0 ∨ n ≤ xs[k].t)) (h0 : (!hasB al xs[k].e) = false) (h2 : 0 < k → ¬ (xs[k].f < xs[k-1].f ∨ (xs[k].f = xs[k-1].f ∧ xs[k].e ≤ xs[k-1].e))) : edErr al n (edPrev xs k) (xs.drop k) = edErr al n (edPrev xs (k + 1)) (xs.drop (k + 1)) := by
  rw [edErr_drop hk, if_neg h, if_neg (by simpa using h0), if_neg]
  rintro ⟨q, hq, hle⟩
  unfold edPrev at hq
  split at hq
  · cases hq
  · rw [List.getElem?_eq_getElem (by omega)] at hq
    exact h2 (by omega) (Option.some.inj hq ▸ hle)
theorem edErr_end {al : List Int} {n : Int} {xs : List Ed} {k : Nat} (hk : ¬ k < xs.length) : edErr al n (edPrev xs k) (xs.drop k) = 0 := by
  rw [List.drop_of_length_le (by omega)]; cases edPrev xs k <;> rfl

set_option maxRecDepth 100000 in
set_option maxHeartbeats 2000000 in
theorem checkEdges_any (v : Value) (a : Aut) (w : World) (hr : RdA w v a) (hs : a.small) :
    Calls Try.prog 78 #[v] w (Ret w fun u _ => u = .int .i64 (edErr a.al a.n none a.es)) := by
  obtain ⟨va, vm, ve, rfl, ⟨aa, ca, rfl, hra⟩, ⟨am, cm, rfl, hrm⟩, ⟨ae, ce, rfl, hre⟩⟩ := hr
  obtain ⟨al, n, ms, es⟩ := a
  obtain ⟨hs1, hs2, hs3⟩ := hs
  dsimp only at *
  have hA : RdI w (.slice aa al.length ca) al := ⟨aa, ca, rfl, hra⟩
  go_enter Try.func78, Try.ntmps78
  go_wp2
  go_loopw [9] (fun j wr => ∃ k : Nat, k ≤ es.length ∧ j = .int .i64 k ∧ Hid (edErr al n none es = edErr al n (edPrev es k) (es.drop k)) ∧ Below (w.heap.size + 1) (w.alloc (.cells #[.slice aa al.length ca, .int .i64 n, .slice am ms.length cm, .slice ae es.length ce] 31)) wr) (fun j wr => es.length - (intOf j).toNat)
  case atStart => exact ⟨0, Nat.zero_le _, rfl, by simp [Hid, edPrev], Below.refl _ _⟩
  case round =>
    obtain ⟨k, hk, rfl, hn, hB⟩ := hrel
    have hB0 : Below w.heap.size w wr := ((Below.refl _ _).alloc (Nat.le_refl _) _).trans (hB.mono (Nat.le_succ _))
    by_cases hlt : k < es.length
    · obtain ⟨b, off, rfl, c0, c1, c2⟩ := hre.at_edge k hlt
      obtain ⟨b', off', hb', d0, d1, d2⟩ := hre.at_edge (k - 1) (by omega)
      cases hb'
      have hbx : ∀ o, wr.cell? ⟨w.heap.size, o, none⟩ = (w.alloc (.cells #[.slice aa al.length ca, .int .i64 n, .slice am ms.length cm, .slice (some ⟨b, off, none⟩) es.length ce] 31)).cell? ⟨w.heap.size, o, none⟩ := fun o => hB.cell (p := ⟨w.heap.size, o, none⟩) (by simp)
      replace c0 := keep0 hB0 c0
      replace c1 := keep0 hB0 c1
      replace c2 := keep0 hB0 c2
      replace d0 := keep0 hB0 d0
      replace d1 := keep0 hB0 d1
      replace d2 := keep0 hB0 d2
      have hz : w.heap.size < wr.heap.size := by have := hB.size; simp at this; omega
      have hbz : b < wr.heap.size := World.block_lt_of_cell? wr _ c0
      by_cases h0 : 0 < k
      all_goals
        go_wp2_with (go_at_call 57; ((with_reducible refine (contains_any _ _ _ _ (hA.mono (by (repeat (first | with_reducible exact Below.refl _ _ | with_reducible exact hB0 | (with_reducible refine belCall ?_ hB0 (by first | omega | (simp; done) | (simp; omega) | (simp at *; omega))) | (with_reducible refine Below.alloc ?_ (by first | omega | (simp; done) | (simp; omega) | (simp at *; omega)) _) | (with_reducible refine Below.drew ?_) | (with_reducible refine Below.setCell ?_ (by first | omega | (simp; done) | (simp; omega) | (simp at *; omega)) _))))) hs1).mono ?_); rintro e w1 ⟨rfl, rfl⟩))
        all_goals first
          | (go_ret; exact ⟨_, rfl, congrArg (Value.int .i64) (hn.out.trans (edErr_2 hlt (by omega))).symm, (by (repeat (first | with_reducible exact Below.refl _ _ | with_reducible exact hB0 | (with_reducible refine belCall ?_ hB0 (by first | omega | (simp; done) | (simp; omega) | (simp at *; omega))) | (with_reducible refine Below.alloc ?_ (by first | omega | (simp; done) | (simp; omega) | (simp at *; omega)) _) | (with_reducible refine Below.drew ?_) | (with_reducible refine Below.setCell ?_ (by first | omega | (simp; done) | (simp; omega) | (simp at *; omega)) _))))⟩)
          | (go_ret; exact ⟨_, rfl, congrArg (Value.int .i64) (hn.out.trans (edErr_9 hlt (by omega) (by assumption))).symm, (by (repeat (first | with_reducible exact Below.refl _ _ | with_reducible exact hB0 | (with_reducible refine belCall ?_ hB0 (by first | omega | (simp; done) | (simp; omega) | (simp at *; omega))) | (with_reducible refine Below.alloc ?_ (by first | omega | (simp; done) | (simp; omega) | (simp at *; omega)) _) | (with_reducible refine Below.drew ?_) | (with_reducible refine Below.setCell ?_ (by first | omega | (simp; done) | (simp; omega) | (simp at *; omega)) _))))⟩)
          | (go_ret; exact ⟨_, rfl, congrArg (Value.int .i64) (hn.out.trans (edErr_5 hlt (by omega) (by assumption) (by omega) (by omega))).symm, (by (repeat (first | with_reducible exact Below.refl _ _ | with_reducible exact hB0 | (with_reducible refine belCall ?_ hB0 (by first | omega | (simp; done) | (simp; omega) | (simp at *; omega))) | (with_reducible refine Below.alloc ?_ (by first | omega | (simp; done) | (simp; omega) | (simp at *; omega)) _) | (with_reducible refine Below.drew ?_) | (with_reducible refine Below.setCell ?_ (by first | omega | (simp; done) | (simp; omega) | (simp at *; omega)) _))))⟩)
          | (go_roundw
             case rel => exact ⟨k + 1, by omega, by go_num, hn.out.trans (edErr_next hlt (by omega) (by assumption) (by omega)), (by (repeat (first | with_reducible exact Below.refl _ _ | with_reducible exact hB | (with_reducible refine belCall ?_ hB (by first | omega | (simp; done) | (simp; omega) | (simp at *; omega))) | (with_reducible refine Below.alloc ?_ (by first | omega | (simp; done) | (simp; omega) | (simp at *; omega)) _) | (with_reducible refine Below.drew ?_) | (with_reducible refine Below.setCell ?_ (by first | omega | (simp; done) | (simp; omega) | (simp at *; omega)) _))))⟩
             case measure => simp [intOf]; omega)
    · go_wp2
      (go_ret; exact ⟨_, rfl, congrArg (Value.int .i64) (hn.out.trans (edErr_end hlt)).symm, (by (repeat (first | with_reducible exact Below.refl _ _ | with_reducible exact hB0 | (with_reducible refine belCall ?_ hB0 (by first | omega | (simp; done) | (simp; omega) | (simp at *; omega))) | (with_reducible refine Below.alloc ?_ (by first | omega | (simp; done) | (simp; omega) | (simp at *; omega)) _) | (with_reducible refine Below.drew ?_) | (with_reducible refine Below.setCell ?_ (by first | omega | (simp; done) | (simp; omega) | (simp at *; omega)) _))))⟩)
end Go.Proofs.Ythchkddhibhenaa

/- The contract of automaton.Check. -/
namespace Go.Proofs.Ythchkddhibhenaa
open Go.RowKit

/-- The error of an automaton. -/
def Aut.err (a : Aut) : Int :=
  if (setErr 32 none a.al != 0) = true then setErr 32 none a.al else if a.n < 0 then 2 else if 4096 < a.n then 3 else if (setErr a.n none a.ms != 0) = true then setErr a.n none a.ms else edErr a.al a.n none a.es

theorem check_any (v : Value) (a : Aut) (w : World) (hr : RdA w v a) (hs : a.small) :
    Calls Try.prog 43 #[v] w (Ret w fun u _ => u = .int .i64 a.err) := by
  have hr0 := hr
  obtain ⟨va, vm, ve, rfl, ha, hm, he⟩ := hr
  have hs0 := hs
  obtain ⟨al, n, ms, es⟩ := a
  obtain ⟨hs1, hs2, hs3⟩ := hs
  dsimp only at *
  go_enter Try.func43, Try.ntmps43
  go_wp2_with (first | (go_at_call 77; ((with_reducible refine (acheckSet_any _ _ _ _ (ha.mono (by (repeat (first | with_reducible exact Below.refl _ _ | with_reducible exact hb | (with_reducible refine belCall ?_ hb (by first | omega | (simp; done) | (simp; omega) | (simp at *; omega))) | (with_reducible refine Below.alloc ?_ (by first | omega | (simp; done) | (simp; omega) | (simp at *; omega)) _) | (with_reducible refine Below.drew ?_) | (with_reducible refine Below.setCell ?_ (by first | omega | (simp; done) | (simp; omega) | (simp at *; omega)) _))))) hs1).mono ?_); rintro e w1 ⟨rfl, rfl⟩)) | (go_at_call 77; ((with_reducible refine (acheckSet_any _ _ _ _ (hm.mono (by (repeat (first | with_reducible exact Below.refl _ _ | with_reducible exact hb | (with_reducible refine belCall ?_ hb (by first | omega | (simp; done) | (simp; omega) | (simp at *; omega))) | (with_reducible refine Below.alloc ?_ (by first | omega | (simp; done) | (simp; omega) | (simp at *; omega)) _) | (with_reducible refine Below.drew ?_) | (with_reducible refine Below.setCell ?_ (by first | omega | (simp; done) | (simp; omega) | (simp at *; omega)) _))))) hs2).mono ?_); rintro e w1 ⟨rfl, rfl⟩)) | (go_at_call 78; ((with_reducible refine (checkEdges_any _ _ _ (hr0.mono (by (repeat (first | with_reducible exact Below.refl _ _ | with_reducible exact hb | (with_reducible refine belCall ?_ hb (by first | omega | (simp; done) | (simp; omega) | (simp at *; omega))) | (with_reducible refine Below.alloc ?_ (by first | omega | (simp; done) | (simp; omega) | (simp at *; omega)) _) | (with_reducible refine Below.drew ?_) | (with_reducible refine Below.setCell ?_ (by first | omega | (simp; done) | (simp; omega) | (simp at *; omega)) _))))) hs0).mono ?_); rintro e w1 ⟨_, rfl, rfl, hb⟩)))
  all_goals
    go_ret
    refine ⟨_, rfl, congrArg (Value.int .i64) ?_, ?_⟩
    · simp [Aut.err, *]
      try omega
    · first | ((repeat (first | with_reducible exact Below.refl _ _ | with_reducible exact hb | (with_reducible refine belCall ?_ hb (by first | omega | (simp; done) | (simp; omega) | (simp at *; omega))) | (with_reducible refine Below.alloc ?_ (by first | omega | (simp; done) | (simp; omega) | (simp at *; omega)) _) | (with_reducible refine Below.drew ?_) | (with_reducible refine Below.setCell ?_ (by first | omega | (simp; done) | (simp; omega) | (simp at *; omega)) _))); done) | ((repeat (first | with_reducible exact Below.refl _ _ | with_reducible exact hr0 | (with_reducible refine belCall ?_ hr0 (by first | omega | (simp; done) | (simp; omega) | (simp at *; omega))) | (with_reducible refine Below.alloc ?_ (by first | omega | (simp; done) | (simp; omega) | (simp at *; omega)) _) | (with_reducible refine Below.drew ?_) | (with_reducible refine Below.setCell ?_ (by first | omega | (simp; done) | (simp; omega) | (simp at *; omega)) _))); done)
end Go.Proofs.Ythchkddhibhenaa

/- Contracts of flags, list and Clone: functions that make one list. -/
namespace Go.Proofs.Ythchkddhibhenaa
open Go.RowKit

theorem Try.info_int : (Try.prog.info? 3).map (fun i => (i.zero, i.size, i.bytes)) = some (some (.int .i64 0), 1, 8) := by kernel_rfl
theorem Try.info_bool : (Try.prog.info? 4).map (fun i => (i.zero, i.size, i.bytes)) = some (some (.bool false), 1, 1) := by kernel_rfl

abbrev bools (xs : List Bool) : List Value := xs.map Value.bool

/-- A row of the call's own reads as its cells. -/
theorem RdS.of_own {w : World} {B : Nat} {t : TypeId} {sz : Nat} {v : Value} {n : Nat} {cs : List Value} (h : w.ownsRow B t sz v n cs) : ∃ a cap, v = .slice a n cap ∧ RdS w sz a n cap cs := by
  rcases h.2 with ⟨rfl, rfl⟩ | ⟨g, cap, cur, rfl, hb, hg, h1, h2, h3, h4⟩
  · refine ⟨none, 0, rfl, ⟨h.1, Nat.le_refl _, by simp [maxLen], fun _ => rfl, fun _ e => (by cases e), fun _ e => (by cases e)⟩⟩
  · refine ⟨_, cap, rfl, ⟨h.1, h1, h2, fun e => (by cases e), fun _ e => (by cases e; rfl), fun _ e j hj => ?_⟩⟩
    cases e
    have := h.cellAt j (by have := h.1; omega)
    simp only [Nat.zero_add]
    rw [this, List.getElem?_eq_getElem hj]
theorem RdI.of_own {w : World} {B : Nat} {t : TypeId} {v : Value} {xs : List Int} (h : w.ownsRow B t 1 v xs.length (ints xs)) : RdI w v xs := by
  obtain ⟨a, cap, e, hr⟩ := RdS.of_own h
  exact ⟨a, cap, e, hr⟩

/-- The cells of a new block. -/
theorem new_cells (w : World) (cs : List Value) (t : TypeId) : ∀ j u, cs[j]? = some u → (w.alloc (.cells cs.toArray t)).cell? ((⟨w.heap.size, 0, none⟩ : Addr).add j) = some u := by
  intro j u h
  have : (⟨w.heap.size, 0, none⟩ : Addr).add j = ⟨w.heap.size, j, none⟩ := by unfold Addr.add; split <;> simp_all
  rw [this, World.cell?_alloc_new]
  simpa using h
theorem new_cells_at {w : World} {s : Nat} (cs : List Value) (t : TypeId) (h : s = w.heap.size) : ∀ j u, cs[j]? = some u → (w.alloc (.cells cs.toArray t)).cell? ((⟨s, 0, none⟩ : Addr).add j) = some u := by
  subst h
  exact new_cells w cs t
/-- The cells of a slice, as an append reads them. -/
theorem own_src {w : World} {sz b off len cap : Nat} {cs : List Value} (h : RdS w sz (some ⟨b, off, none⟩) len cap cs) : ∀ j u, cs[j]? = some u → w.cell? ((⟨b, off, none⟩ : Addr).add j) = some u := by
  intro j u hu
  obtain ⟨hj, rfl⟩ := List.getElem?_eq_some_iff.1 hu
  have h1 := h.cell _ rfl j hj
  by_cases h0 : j = 0
  · subst h0; simpa [Addr.add] using h1
  · simpa [Addr.add, h0] using h1
/-- A cell that may be written. -/
theorem own_cell {w : World} {B : Nat} {t : TypeId} {g n cap : Nat} {xs : List Value} (h : w.ownsRow B t 1 (.slice (some ⟨g, 0, none⟩) n cap) n xs) (j : Nat) (hj : j < n) : ∃ u, w.cell? ⟨g, j, none⟩ = some u := by
  have h1 := h.cellAt j (by omega)
  rw [List.getElem?_eq_getElem (by have := h.1; omega)] at h1
  exact ⟨_, h1⟩

/-- The flags of a set. -/
def flagL (n : Nat) (set : List Int) : List Bool := (List.range n).map fun i => hasB set (i : Nat)
theorem flagL_length (n : Nat) (set : List Int) : (flagL n set).length = n := by simp [flagL]
theorem flagL_nil (n : Nat) : bools (flagL n []) = List.replicate n (Value.bool false) := by
  apply List.ext_getElem
  · simp [flagL]
  · intro i h1 h2; simp [flagL, hasB]
theorem flagL_snoc (n : Nat) (set : List Int) (x : Int) (h0 : 0 ≤ x) : bools (flagL n (set ++ [x])) = (bools (flagL n set)).set x.toNat (.bool true) := by
  apply List.ext_getElem
  · simp [flagL]
  · intro i h1 h2
    rw [List.getElem_set]
    simp only [flagL, List.getElem_map, List.getElem_range, hasB, List.contains_eq_mem, List.mem_append, List.mem_singleton]
    by_cases hi : x.toNat = i
    · rw [if_pos hi]
      have : (i : Int) = x := by omega
      simp [this]
    · rw [if_neg hi]
      have : ¬ (i : Int) = x := by omega
      simp [this]

theorem flags_any (va vm ve v : Value) (n : Nat) (set : List Int) (w : World) (hr : RdI w v set) (hl : set.length ≤ 1000000) (hn : n ≤ 1000000) (hin : ∀ x ∈ set, 0 ≤ x ∧ x < n) :
    Calls Try.prog 52 #[.agg #[va, .int .i64 n, vm, ve], v] w (Ret w fun u w' => w'.ownsRow w.heap.size 4 1 u n (bools (flagL n set))) := by
  obtain ⟨a, cap, rfl, hr⟩ := hr
  obtain ⟨i0, hi, hz0, hz1, hz2⟩ := info_parts Try.info_bool
  have Hin := Lib.hid hin
  clear hin
  go_enter Try.func52, Try.ntmps52
  go_wp2_with (at_make; refine wpList_make_full _ rfl _ _ 86 rfl w.heap.size 4 i0 (.bool false) 1 Try.underlying86 hi hz0 hz1 .i64 .i64 _ _ (n) rfl rfl (by first | rfl | omega) (by first | rfl | omega) (by rw [hz2]; omega) (by unfold maxLen; omega) (by first | omega | (simp; done) | (simp; omega) | (simp at *; omega)) ?_; intro w0 hown hgrow0)
  have hown1 : w0.ownsRow w.heap.size 4 1 (.slice (some ⟨w.heap.size + 1, 0, none⟩) n n) n (bools (flagL n [])) := by
    rw [flagL_nil]; simpa [Value.cells, toList_madeCells_one] using hown
  have hB0 : Below w.heap.size w w0 := Below.grown (by (repeat (first | with_reducible exact Below.refl _ _ | with_reducible exact hr | (with_reducible refine belCall ?_ hr (by first | omega | (simp; done) | (simp; omega) | (simp at *; omega))) | (with_reducible refine Below.alloc ?_ (by first | omega | (simp; done) | (simp; omega) | (simp at *; omega)) _) | (with_reducible refine Below.drew ?_) | (with_reducible refine Below.setCell ?_ (by first | omega | (simp; done) | (simp; omega) | (simp at *; omega)) _)))) hgrow0 (by simp) (fun k e => (by cases e))
  clear hown hgrow0
  go_wp2_with fail
  go_loopw [13] (fun i wr => ∃ k : Nat, k ≤ set.length ∧ i = .int .i64 k ∧ Below w.heap.size w wr ∧ wr.ownsRow w.heap.size 4 1 (.slice (some ⟨w.heap.size + 1, 0, none⟩) n n) n (bools (flagL n (set.take k)))) (fun i _ => set.length - (intOf i).toNat)
  case atStart => exact ⟨0, Nat.zero_le _, rfl, hB0, by simpa using hown1⟩
  case round =>
    obtain ⟨k, hk, rfl, hB, hown⟩ := hrel
    clear hown1 hB0
    by_cases hlt : k < set.length
    · obtain ⟨b, off, rfl, hc⟩ := hr.at_int k hlt
      replace hc := keep0 hB hc
      obtain ⟨hx0, hx1⟩ := Hin.out set[k] (List.getElem_mem hlt)
      obtain ⟨u, hci⟩ := own_cell hown set[k].toNat (by omega)
      have hfi := hown.frozenAt set[k].toNat
      have hst := hown.stored set[k].toNat (.bool true)
      rw [← flagL_snoc n _ _ hx0, ← take_snoc set k hlt] at hst
      have Hst := Lib.hid hst
      clear hst
      go_wp2
      go_roundw
      case rel => exact ⟨k + 1, by omega, by go_num, (by (repeat (first | with_reducible exact Below.refl _ _ | with_reducible exact hB | (with_reducible refine belCall ?_ hB (by first | omega | (simp; done) | (simp; omega) | (simp at *; omega))) | (with_reducible refine Below.alloc ?_ (by first | omega | (simp; done) | (simp; omega) | (simp at *; omega)) _) | (with_reducible refine Below.drew ?_) | (with_reducible refine Below.setCell ?_ (by first | omega | (simp; done) | (simp; omega) | (simp at *; omega)) _)))), Hst.out.1⟩
      case measure => simp [intOf]; omega
    · go_wp2
      go_ret
      exact ⟨_, rfl, by rw [List.take_of_length_le (by omega)] at hown; exact hown, hB⟩

/-- The numbers of the flags that are set, below k. -/
def listK (fl : List Bool) (k : Nat) : List Int := ((List.range k).filter fun i => fl.getD i false).map fun (i : Nat) => (i : Int)
def listL (fl : List Bool) : List Int := listK fl fl.length
theorem listK_true {fl : List Bool} {k : Nat} (h : k < fl.length) (hx : fl[k] = true) : listK fl (k + 1) = listK fl k ++ [(k : Int)] := by
  simp [listK, List.range_succ, List.filter_append, List.getD, h, hx]
theorem listK_false {fl : List Bool} {k : Nat} (h : k < fl.length) (hx : fl[k] = false) : listK fl (k + 1) = listK fl k := by
  simp [listK, List.range_succ, List.filter_append, List.getD, h, hx]
theorem listK_le (fl : List Bool) (k : Nat) : (listK fl k).length ≤ k := by
  unfold listK
  rw [List.length_map]
  exact Nat.le_trans (List.length_filter_le _ _) (by simp)

/-- A value reads as a list of flags. -/
def RdB (w : World) (v : Value) (xs : List Bool) : Prop := ∃ a cap, v = .slice a xs.length cap ∧ RdS w 1 a xs.length cap (bools xs)
theorem RdB.mono {w w' : World} {v : Value} {xs : List Bool} (h : RdB w v xs) (hb : Below w.heap.size w w') : RdB w' v xs := by
  obtain ⟨a, cap, rfl, hr⟩ := h
  exact ⟨a, cap, rfl, hr.mono hb⟩
theorem RdB.of_own {w : World} {B : Nat} {t : TypeId} {v : Value} {xs : List Bool} (h : w.ownsRow B t 1 v xs.length (bools xs)) : RdB w v xs := by
  obtain ⟨a, cap, e, hr⟩ := RdS.of_own h
  exact ⟨a, cap, e, hr⟩
theorem RdS.at_bool {w : World} {a : Option Addr} {cap : Nat} {xs : List Bool} (h : RdS w 1 a xs.length cap (bools xs)) (k : Nat) (hk : k < xs.length) :
    ∃ b off, a = some ⟨b, off, none⟩ ∧ w.cell? ⟨b, off + k, none⟩ = some (.bool xs[k]) := by
  obtain ⟨b, off, e, hc⟩ := h.at_elem k hk
  exact ⟨b, off, e, by have h' := hc k (by simpa using hk); rwa [List.getElem_map] at h'⟩

theorem list_any (v : Value) (fl : List Bool) (w : World) (hr : RdB w v fl) (hl : fl.length ≤ 1000000) :
    Calls Try.prog 58 #[v] w (Ret w fun u w' => w'.ownsRow w.heap.size 3 1 u (listL fl).length (ints (listL fl))) := by
  obtain ⟨a, cap, rfl, hr⟩ := hr
  obtain ⟨i0, hi, hz0, hz1, hz2⟩ := info_parts Try.info_int
  go_enter Try.func58, Try.ntmps58
  go_wp2_with fail
  go_loopw [3, 8] (fun v i wr => ∃ k : Nat, k ≤ fl.length ∧ i = .int .i64 k ∧ Below w.heap.size w wr ∧ wr.ownsRow w.heap.size 3 1 v (listK fl k).length (ints (listK fl k))) (fun _ i _ => fl.length - (intOf i).toNat)
  case atStart => exact ⟨0, Nat.zero_le _, rfl, Below.refl _ _, by simpa [listK] using World.ownsRow_nil w w.heap.size 3 1⟩
  case round =>
    obtain ⟨k, hk, rfl, hB, hown⟩ := hrel
    have hle := listK_le fl k
    have hsz := hB.size
    by_cases hlt : k < fl.length
    · obtain ⟨b, off, rfl, hc⟩ := hr.at_bool k hlt
      replace hc := keep0 hB hc
      cases hx : fl[k]
      · have hs := Lib.hid (listK_false hlt hx)
        rw [hx] at hc
        clear hx
        go_wp2
        go_roundw
        case rel => exact ⟨k + 1, by omega, by go_num, hB, by rw [hs.out]; exact hown⟩
        case measure => simp [intOf]; omega
      · have hs := Lib.hid (listK_true hlt hx)
        rw [hx] at hc
        clear hx
        go_wp2_with ((at_builtin; refine wpList_append_own _ rfl _ _ 28 rfl (w.heap.size) 3 i0 (.int .i64 0) 1 8 Try.underlying28 hi hz0 hz1 hz2 rfl (by decide) _ ((listK fl k).length) _ rfl ((hown).alloc _) ⟨_, 0, none⟩ 1 1 [.int .i64 k] rfl rfl (new_cells _ [_] _) (by simp [Value.oneCell']) (by unfold maxLen; omega) (by omega) (by first | omega | (simp; done) | (simp; omega) | (simp at *; omega)) ?_; intro v1 w1 hown1 hgrow1 _); have Hown := Lib.hid hown1; clear hown1)
        go_roundw
        case rel =>
          refine ⟨k + 1, by omega, by go_num, Below.grown (by (repeat (first | with_reducible exact Below.refl _ _ | with_reducible exact hB | (with_reducible refine belCall ?_ hB (by first | omega | (simp; done) | (simp; omega) | (simp at *; omega))) | (with_reducible refine Below.alloc ?_ (by first | omega | (simp; done) | (simp; omega) | (simp at *; omega)) _) | (with_reducible refine Below.drew ?_) | (with_reducible refine Below.setCell ?_ (by first | omega | (simp; done) | (simp; omega) | (simp at *; omega)) _)))) hgrow1 (by first | omega | (simp; done) | (simp; omega) | (simp at *; omega)) (fun j e => (hown.lt j e).1), ?_⟩
          have h1 := Hown.out
          rw [hs.out]
          simpa [ints] using h1
        case measure => simp [intOf]; omega
    · go_wp2
      go_ret
      obtain rfl : k = fl.length := by omega
      exact ⟨_, rfl, hown, hB⟩
end Go.Proofs.Ythchkddhibhenaa

/- The contract of Bits. -/
namespace Go.Proofs.Ythchkddhibhenaa
open Go.RowKit

/-- Whether bit k of b is set. -/
def bitB (b : Int) (k : Nat) : Bool := b / 2 ^ k % 2 == 1
/-- The numbers below k whose bits are set. -/
def bitsL (b : Int) (k : Nat) : List Int := ((List.range k).filter fun i => bitB b i).map fun (i : Nat) => (i : Int)
theorem bitsL_true {b : Int} {k : Nat} (h : bitB b k = true) : bitsL b (k + 1) = bitsL b k ++ [(k : Int)] := by simp [bitsL, List.range_succ, List.filter_append, h]
theorem bitsL_false {b : Int} {k : Nat} (h : bitB b k = false) : bitsL b (k + 1) = bitsL b k := by simp [bitsL, List.range_succ, List.filter_append, h]
theorem bitsL_le (b : Int) (k : Nat) : (bitsL b k).length ≤ k := by
  unfold bitsL
  rw [List.length_map]
  exact Nat.le_trans (List.length_filter_le _ _) (by simp)

set_option maxRecDepth 20000 in
theorem bits_any (b : Int) (n : Nat) (w : World) (hb0 : 0 ≤ b) (hb1 : b < 256) (hn : n ≤ 8) :
    Calls Try.prog 14 #[.int .u8 b, .int .i64 n] w (Ret w fun u w' => w'.ownsRow w.heap.size 3 1 u (bitsL b n).length (ints (bitsL b n))) := by
  obtain ⟨i0, hi, hz0, hz1, hz2⟩ := info_parts Try.info_int
  go_enter Try.func14, Try.ntmps14
  go_wp2_with fail
  go_loopw [5, 6] (fun v i wr => ∃ k : Nat, k ≤ n ∧ i = .int .i64 k ∧ Below w.heap.size w wr ∧ wr.ownsRow w.heap.size 3 1 v (bitsL b k).length (ints (bitsL b k))) (fun _ i _ => n - (intOf i).toNat)
  case atStart => exact ⟨0, Nat.zero_le _, rfl, Below.refl _ _, by simpa [bitsL] using World.ownsRow_nil w w.heap.size 3 1⟩
  case round =>
    obtain ⟨k, hk, rfl, hB, hown⟩ := hrel
    have hsz := hB.size
    have hle := bitsL_le b k
    by_cases hlt : k < n
    · have hk8 : k < 8 := by omega
      have hk0 : (0 : Int) ≤ k := by omega
      have hk9 : (k : Int) < 8 := by omega
      have hbits : bits .and .u8 (b / 2 ^ k) 1 = b / 2 ^ k % 2 := by
        have q0 : 0 ≤ b / 2 ^ k := Int.ediv_nonneg hb0 (by have := Int.pow_pos (n := (2 : Int)) (m := k) (by decide); omega)
        have q1 : b / 2 ^ k < 256 := Int.lt_of_le_of_lt (Int.ediv_le_self _ hb0) hb1
        rw [u8_and _ 1 q0 q1 (by decide) (by decide), show Int.toNat 1 = 1 from rfl, Nat.and_one_is_mod]
        omega
      cases hx : bitB b k
      · have hs := Lib.hid (bitsL_false hx)
        have hx' : (bits .and .u8 (b / 2 ^ k) 1 == 1) = false := by rw [hbits]; exact hx
        clear hx hbits
        go_wp2
        go_roundw
        case rel => exact ⟨k + 1, by omega, by go_num, hB, by rw [hs.out]; exact hown⟩
        case measure => simp [intOf]; omega
      · have hs := Lib.hid (bitsL_true hx)
        have hx' : (bits .and .u8 (b / 2 ^ k) 1 == 1) = true := by rw [hbits]; exact hx
        clear hx hbits
        go_wp2_with ((at_builtin; refine wpList_append_own _ rfl _ _ 28 rfl (w.heap.size) 3 i0 (.int .i64 0) 1 8 Try.underlying28 hi hz0 hz1 hz2 rfl (by decide) _ ((bitsL b k).length) _ rfl ((hown).alloc _) ⟨_, 0, none⟩ 1 1 [.int .i64 k] rfl rfl (new_cells _ [_] _) (by simp [Value.oneCell']) (by unfold maxLen; omega) (by omega) (by first | omega | (simp; done) | (simp; omega) | (simp at *; omega)) ?_; intro v1 w1 hown1 hgrow1 _); have Hown := Lib.hid hown1; clear hown1)
        go_roundw
        case rel =>
          refine ⟨k + 1, by omega, by go_num, Below.grown (by (repeat (first | with_reducible exact Below.refl _ _ | with_reducible exact hB | (with_reducible refine belCall ?_ hB (by first | omega | (simp; done) | (simp; omega) | (simp at *; omega))) | (with_reducible refine Below.alloc ?_ (by first | omega | (simp; done) | (simp; omega) | (simp at *; omega)) _) | (with_reducible refine Below.drew ?_) | (with_reducible refine Below.setCell ?_ (by first | omega | (simp; done) | (simp; omega) | (simp at *; omega)) _)))) hgrow1 (by first | omega | (simp; done) | (simp; omega) | (simp at *; omega)) (fun j e => (hown.lt j e).1), ?_⟩
          have h1 := Hown.out
          rw [hs.out]
          simpa [ints] using h1
        case measure => simp [intOf]; omega
    · go_wp2
      go_ret
      obtain rfl : n = k := by omega
      exact ⟨_, rfl, hown, hB⟩
end Go.Proofs.Ythchkddhibhenaa

/- Rows and boxes of the call's own, kept apart by tags: each block from B on has a tag; two rows of different tags lie in different blocks. -/
namespace Go.Proofs.Ythchkddhibhenaa
open Go.RowKit

/-- Block b is the call's own, of tag k, and holds the cells cs. -/
structure Own (w : World) (B : Nat) (tag : Nat → Nat) (k : Nat) (b : Nat) (cs : Array Value) (t : TypeId) : Prop where
  heap : w.heap[b]? = some (.cells cs t (0, 0))
  htag : tag b = k
  base : B ≤ b

/-- From w to w' blocks of tag k alone have turned, of those from B on. -/
structure Turn (B : Nat) (tag tag' : Nat → Nat) (k : Nat) (w w' : World) : Prop where
  os : w'.os = w.os
  tape : w'.tape = w.tape
  output : w'.output = w.output
  size : w.heap.size ≤ w'.heap.size
  tags : ∀ b, b < w.heap.size → tag' b = tag b
  heap : ∀ b, b < w.heap.size → (b < B ∨ tag b ≠ k) → w'.heap[b]? = w.heap[b]?
  keep : ∀ (b : Nat) (o : Obj), w.heap[b]? = some o → o.isCells = false → w'.heap[b]? = some o

section
variable {w w' : World} {B : Nat} {tag tag' : Nat → Nat} {k k' : Nat} {b : Nat} {cs : Array Value} {t : TypeId}
theorem Own.lt (h : Own w B tag k b cs t) : b < w.heap.size := (Array.getElem?_eq_some_iff.1 h.heap).1
theorem Own.turn (h : Own w B tag k b cs t) (ht : Turn B tag tag' k' w w') (hk : k ≠ k') : Own w' B tag' k b cs t :=
  ⟨(ht.heap b h.lt (Or.inr (h.htag ▸ hk))).trans h.heap, (ht.tags b h.lt).trans h.htag, h.base⟩
theorem Own.below (h : Own w B tag k b cs t) (hb : Below w.heap.size w w') : Own w' B tag k b cs t :=
  ⟨(hb.block b h.lt).trans h.heap, h.htag, h.base⟩
theorem Own.cell (h : Own w B tag k b cs t) (j : Nat) : w.cell? ⟨b, j, none⟩ = cs[j]? := by simp [World.cell?, h.heap]
theorem Own.frozen (h : Own w B tag k b cs t) (j : Nat) : w.frozen? ⟨b, j, none⟩ = false := by simp [World.frozen?, h.heap]
theorem Own.set (h : Own w B tag k b cs t) (j : Nat) (u : Value) : Own (w.setCell ⟨b, j, none⟩ u) B tag k b (cs.setIfInBounds j u) t :=
  ⟨by simp [World.setCell, Array.getElem?_modify, h.heap], h.htag, h.base⟩
theorem Turn.setCell (h : Own w B tag k b cs t) (j : Nat) (u : Value) : Turn B tag tag k w (w.setCell ⟨b, j, none⟩ u) := by
  refine ⟨rfl, rfl, rfl, by simp [World.setCell], fun _ _ => rfl, fun b' _ hne => ?_, fun b' o ho hc => ?_⟩
  · refine Below.heap_setCell _ _ _ _ ?_
    rintro rfl
    rcases hne with h1 | h1
    · exact absurd h.base (Nat.not_le.2 h1)
    · exact h1 h.htag
  · rw [Below.heap_setCell _ _ _ _ ?_, ho]
    rintro rfl
    rw [h.heap] at ho
    cases ho
    cases hc
theorem Turn.refl (B : Nat) (tag : Nat → Nat) (k : Nat) (w : World) : Turn B tag tag k w w := ⟨rfl, rfl, rfl, Nat.le_refl _, fun _ _ => rfl, fun _ _ _ => rfl, fun _ _ h _ => h⟩
theorem Turn.below (hb : Below w.heap.size w w') : Turn B tag tag k w w' := ⟨hb.os, hb.tape, hb.output, hb.size, fun _ _ => rfl, fun b h _ => hb.block b h, fun b o ho _ => (hb.block b (Array.getElem?_eq_some_iff.1 ho).1).trans ho⟩
theorem Turn.trans {w'' : World} {tag'' : Nat → Nat} (h : Turn B tag tag' k w w') (h2 : Turn B tag' tag'' k w' w'') : Turn B tag tag'' k w w'' :=
  ⟨h2.os.trans h.os, h2.tape.trans h.tape, h2.output.trans h.output, Nat.le_trans h.size h2.size, fun b hb => (h2.tags b (Nat.lt_of_lt_of_le hb h.size)).trans (h.tags b hb),
    fun b hb hne => (h2.heap b (Nat.lt_of_lt_of_le hb h.size) (hne.imp id (fun e => by rw [h.tags b hb]; exact e))).trans (h.heap b hb hne), fun b o ho hc => h2.keep b o (h.keep b o ho hc) hc⟩
theorem belTurn {a : World} (h : Below B a w) (ht : Turn B tag tag' k w w') (hB : B ≤ w.heap.size) : Below B a w' :=
  h.trans ⟨ht.os, ht.tape, ht.output, ht.size, fun b hb => ht.heap b (by omega) (Or.inl hb)⟩
/-- A new block takes the tag that it is given. -/
theorem Own.new (w : World) (B : Nat) (tag : Nat → Nat) (k : Nat) (cs : Array Value) (t : TypeId) (hB : B ≤ w.heap.size) (htag : tag w.heap.size = k) : Own (w.alloc (.cells cs t)) B tag k w.heap.size cs t :=
  ⟨heap_alloc_new w _, htag, hB⟩
end

/-- What a block of a written-out world holds. -/
theorem heap_at {w : World} {o : Obj} {b : Nat} (h : b = w.heap.size) : (w.alloc o).heap[b]? = some o := h ▸ heap_alloc_new w o
theorem heap_past {w : World} {o : Obj} {b : Nat} {x : Option Obj} (h : b ≠ w.heap.size) (h2 : w.heap[b]? = x) : (w.alloc o).heap[b]? = x := by
  show (w.heap.push o)[b]? = _
  rw [Array.getElem?_push, if_neg h, h2]
theorem heap_drewp {w : World} {b : Nat} {x : Option Obj} (h : w.heap[b]? = x) : w.drew.heap[b]? = x := h

theorem bel_alloc (w : World) (o : Obj) : Below w.heap.size w (w.alloc o) := (Below.refl _ _).alloc (Nat.le_refl _) _
theorem bel_drew (w : World) : Below w.heap.size w w.drew := (Below.refl _ _).drew

/-- A slice value of the call's own: n elements, the cells cs; room behind them up to its capacity. -/
def Row (w : World) (B : Nat) (tag : Nat → Nat) (k : Nat) (t : TypeId) (sz : Nat) (v : Value) (n : Nat) (cs : List Value) : Prop :=
  cs.length = n * sz ∧ ((v = .slice none 0 0 ∧ n = 0) ∨
    ∃ b off cap cur, v = .slice (some ⟨b, off, none⟩) n cap ∧ Own w B tag k b cur t ∧ n ≤ cap ∧ cap ≤ maxLen ∧ off + cap * sz ≤ cur.size ∧ (cur.toList.drop off).take (n * sz) = cs)

section
variable {w w' : World} {B : Nat} {tag tag' : Nat → Nat} {k k' : Nat} {t : TypeId} {sz : Nat} {v : Value} {n : Nat} {cs : List Value}
theorem Row.nil (w : World) (B : Nat) (tag : Nat → Nat) (k : Nat) (t : TypeId) (sz : Nat) : Row w B tag k t sz (.slice none 0 0) 0 [] := ⟨by simp, .inl ⟨rfl, rfl⟩⟩
theorem Row.turn (h : Row w B tag k t sz v n cs) (ht : Turn B tag tag' k' w w') (hk : k ≠ k') : Row w' B tag' k t sz v n cs :=
  ⟨h.1, h.2.imp id fun ⟨b, off, cap, cur, h1, h2, h3⟩ => ⟨b, off, cap, cur, h1, h2.turn ht hk, h3⟩⟩
theorem Row.below (h : Row w B tag k t sz v n cs) (hb : Below w.heap.size w w') : Row w' B tag k t sz v n cs :=
  ⟨h.1, h.2.imp id fun ⟨b, off, cap, cur, h1, h2, h3⟩ => ⟨b, off, cap, cur, h1, h2.below hb, h3⟩⟩
/-- Any list that the call has made (a callee's too) is a row, of the tag that is wanted. -/
theorem Row.of_own {B' : Nat} (h : w.ownsRow B' t sz v n cs) (hB : B ≤ B') (htag : ∀ b, B' ≤ b → b < w.heap.size → tag b = k) : Row w B tag k t sz v n cs := by
  refine ⟨h.1, h.2.imp id fun ⟨g, cap, cur, h1, h2, h3, h4, h5, h6, h7⟩ => ⟨g, 0, cap, cur, h1, ⟨h3, htag g h2 (Array.getElem?_eq_some_iff.1 h3).1, Nat.le_trans hB h2⟩, h4, h5, by omega, by simpa using h7⟩⟩
theorem Row.cellAt {b off cap : Nat} (h : Row w B tag k t sz (.slice (some ⟨b, off, none⟩) n cap) n cs) (j : Nat) (hj : j < n * sz) : w.cell? ⟨b, off + j, none⟩ = cs[j]? := by
  rcases h.2 with ⟨h', _⟩ | ⟨b', off', cap', cur, h', ho, h1, h2, h3, h4⟩
  · simp at h'
  · simp only [Value.slice.injEq, Option.some.injEq, Addr.mk.injEq, and_true, true_and] at h'
    obtain ⟨⟨rfl, rfl⟩, rfl⟩ := h'
    rw [ho.cell, ← h4, List.getElem?_take, if_pos hj, List.getElem?_drop]
    simp
theorem Row.frozenAt {b off cap : Nat} (h : Row w B tag k t sz (.slice (some ⟨b, off, none⟩) n cap) n cs) (j : Nat) : w.frozen? ⟨b, j, none⟩ = false := by
  rcases h.2 with ⟨h', _⟩ | ⟨b', off', cap', cur, h', ho, _⟩
  · simp at h'
  · simp only [Value.slice.injEq, Option.some.injEq, Addr.mk.injEq, and_true, true_and] at h'
    obtain ⟨⟨rfl, rfl⟩, rfl⟩ := h'
    exact ho.frozen j
theorem Row.val (h : Row w B tag k t sz v n cs) : ∃ a cap, v = .slice a n cap := by
  rcases h.2 with ⟨h', h0⟩ | ⟨b', off', cap', cur, h', _⟩
  · subst h0; exact ⟨_, _, h'⟩
  · exact ⟨_, _, h'⟩
theorem Row.addr (h : Row w B tag k t sz v n cs) (hn : 0 < n) : ∃ b off cap, v = .slice (some ⟨b, off, none⟩) n cap ∧ b < w.heap.size ∧ B ≤ b ∧ tag b = k := by
  rcases h.2 with ⟨_, h0⟩ | ⟨b', off', cap', cur, h', ho, _⟩
  · omega
  · exact ⟨_, _, _, h', ho.lt, ho.base, ho.htag⟩
theorem Row.rd (h : Row w B tag k t sz v n cs) : ∃ a cap, v = .slice a n cap ∧ RdS w sz a n cap cs := by
  have h0 := h
  rcases h.2 with ⟨rfl, rfl⟩ | ⟨b, off, cap, cur, rfl, ho, h1, h2, h3, h4⟩
  · exact ⟨none, 0, rfl, ⟨h.1, Nat.le_refl _, by simp [maxLen], fun _ => rfl, fun _ e => (by cases e), fun _ e => (by cases e)⟩⟩
  · refine ⟨_, cap, rfl, ⟨h.1, h1, h2, fun e => (by cases e), fun _ e => (by cases e; rfl), fun _ e j hj => ?_⟩⟩
    cases e
    rw [h0.cellAt j (by have := h.1; omega), List.getElem?_eq_getElem hj]
theorem Row.rdI {xs : List Int} (h : Row w B tag k t 1 v xs.length (ints xs)) : RdI w v xs := by
  obtain ⟨a, cap, e, hr⟩ := h.rd
  exact ⟨a, cap, e, hr⟩
theorem Row.at_int {xs : List Int} (h : Row w B tag k t 1 v xs.length (ints xs)) (i : Nat) (hi : i < xs.length) : ∃ b off cap, v = .slice (some ⟨b, off, none⟩) xs.length cap ∧ b < w.heap.size ∧ B ≤ b ∧ w.cell? ⟨b, off + i, none⟩ = some (.int .i64 xs[i]) := by
  obtain ⟨b, off, cap, rfl, hlt, hB, _⟩ := h.addr (by omega)
  refine ⟨b, off, cap, rfl, hlt, hB, ?_⟩
  rw [h.cellAt i (by omega), List.getElem?_map, List.getElem?_eq_getElem hi]; rfl
/-- All but the first element. -/
theorem Row.tail {b off cap m : Nat} {x : Value} (h : Row w B tag k t 1 (.slice (some ⟨b, off, none⟩) (m + 1) cap) (m + 1) (x :: cs)) :
    (cap = 1 → Row w B tag k t 1 (.slice (some ⟨b, off, none⟩) m (cap - 1)) m cs) ∧ (cap ≠ 1 → Row w B tag k t 1 (.slice (some ⟨b, off + 1, none⟩) m (cap - 1)) m cs) := by
  have hl : cs.length = m := by have := h.1; simp at this; omega
  rcases h.2 with ⟨h', _⟩ | ⟨b', off', cap', cur, h', ho, h1, h2, h3, h4⟩
  · simp at h'
  · simp only [Value.slice.injEq, Option.some.injEq, Addr.mk.injEq, and_true, true_and] at h'
    obtain ⟨⟨rfl, rfl⟩, rfl⟩ := h'
    constructor
    · intro hc
      have hm : m = 0 := by omega
      subst hm
      have : cs = [] := List.eq_nil_of_length_eq_zero hl
      subst this
      exact ⟨by simp, .inr ⟨b, off, cap - 1, cur, rfl, ho, by omega, by omega, by omega, by simp⟩⟩
    · intro hc
      refine ⟨by omega, .inr ⟨b, off + 1, cap - 1, cur, rfl, ho, by omega, by omega, by omega, ?_⟩⟩
      rw [Nat.mul_one] at h4 ⊢
      rw [← List.drop_drop]
      have h5 := congrArg List.tail h4
      rw [List.tail_cons] at h5
      rw [← h5, ← List.drop_one, List.drop_take]
      simp
/-- A store into the row. -/
theorem Row.set {b off cap : Nat} (h : Row w B tag k t sz (.slice (some ⟨b, off, none⟩) n cap) n cs) (j : Nat) (u : Value) :
    Row (w.setCell ⟨b, off + j, none⟩ u) B tag k t sz (.slice (some ⟨b, off, none⟩) n cap) n (cs.set j u) ∧ Turn B tag tag k w (w.setCell ⟨b, off + j, none⟩ u) := by
  rcases h.2 with ⟨h', _⟩ | ⟨b', off', cap', cur, h', ho, h1, h2, h3, h4⟩
  · simp at h'
  · simp only [Value.slice.injEq, Option.some.injEq, Addr.mk.injEq, and_true, true_and] at h'
    obtain ⟨⟨rfl, rfl⟩, rfl⟩ := h'
    refine ⟨⟨by simpa using h.1, .inr ⟨b, off, cap, cur.setIfInBounds (off + j) u, rfl, ho.set _ _, h1, h2, by simpa using h3, ?_⟩⟩, Turn.setCell ho _ _⟩
    rw [← h4]
    apply List.ext_getElem?
    intro i
    simp only [Array.toList_setIfInBounds, List.getElem?_take, List.getElem?_drop, List.getElem?_set, List.length_take, List.length_drop]
    by_cases hi : i < n * sz
    · rw [if_pos hi, if_pos hi]
      by_cases he : j = i
      · subst he
        rw [if_pos rfl, if_pos rfl]
        have hl : off + j < cur.toList.length := by
          rw [Array.length_toList]
          have := Nat.mul_le_mul_right sz h1; omega
        rw [if_pos hl, if_pos (by omega)]
      · rw [if_neg (by omega), if_neg he]
    · rw [if_neg hi, if_neg hi]
      by_cases he : j = i
      · subst he; rw [if_pos rfl, if_neg (by omega)]
      · rw [if_neg he]

/-- The tags, the new block's among them. -/
def tagUp (tag : Nat → Nat) (s k : Nat) : Nat → Nat := fun b => if b = s then k else tag b
theorem tagUp_lt {tag : Nat → Nat} {s k b : Nat} (h : b < s) : tagUp tag s k b = tag b := if_neg (by omega)
theorem tagUp_at (tag : Nat → Nat) (s k : Nat) : tagUp tag s k s = k := if_pos rfl

/-- append to a row of the call's own, from whatever source. -/
theorem run_append_row {P : Program} (ty tt e : TypeId) (i : TypeInfo) (z : Value) (bytes : Nat) (ht : P.underlying tt = some (.slice e)) (hi : P.info? e = some i) (hz : i.zero = some z)
    (hsize : i.size = sz) (hby : i.bytes = bytes) (hzs : z.cells.size = sz)
    (hrow : Row w B tag k e sz v n cs) (ao : Option Addr) (m c : Nat) (news : List Value) (hl : news.length = m * sz) (hnone : ao = none → m = 0 ∧ c = 0)
    (hnews : ∀ ad, ao = some ad → ∀ j u, news[j]? = some u → w.cell? (ad.add j) = some u) (h1 : ∀ u ∈ news, u.oneCell' = true)
    (h63 : n + m ≤ maxLen) (hbytes : (n + m) * bytes ≤ 140737488355328) (hB : B ≤ w.heap.size) :
    ∃ v' w' tag', (Builtin.append_ #[tt, tt] ty #[v, .slice ao m c]).run P w = .ok v' w' ∧ Row w' B tag' k e sz v' (n + m) (cs ++ news) ∧ Turn B tag tag' k w w' := by
  subst hsize
  subst hby
  have hlen : (cs ++ news).length = (n + m) * i.size := by rw [List.length_append, hrow.1, hl, Nat.add_mul]
  have hsmall : n + m ≤ 9223372036854775807 := by simp only [maxLen] at h63; omega
  cases ao with
  | none =>
    obtain ⟨rfl, rfl⟩ := hnone rfl
    have hn : news = [] := List.eq_nil_of_length_eq_zero (by simpa using hl)
    subst hn
    refine ⟨v, w, tag, ?_, by simpa using hrow, Turn.refl _ _ _ _⟩
    rcases hrow.2 with ⟨rfl, rfl⟩ | ⟨b, off, cap, cur, rfl, ho, g1, g2, g3, g4⟩
    · simp [Builtin.append_, run_underlying ht, sizeOf, typeInfo, hi, Builtin.lenOf, Builtin.firstCells]
    · simp [Builtin.append_, run_underlying ht, sizeOf, typeInfo, hi, Builtin.lenOf, Builtin.firstCells, g1, storeCells]
  | some a =>
    replace hnews := hnews a rfl
    have grown : ∀ (old : Nat), old < n + m →
        Row (w.drew.alloc (.cells (cs.toArray ++ news.toArray ++ Builtin.zeroCells z.cells (grownCap w (n + m) old e - (n + m))) e)) B (tagUp tag w.heap.size k) k e i.size
          (.slice (some ⟨w.heap.size, 0, none⟩) (n + m) (grownCap w (n + m) old e)) (n + m) (cs ++ news) ∧
        Turn B tag (tagUp tag w.heap.size k) k w (w.drew.alloc (.cells (cs.toArray ++ news.toArray ++ Builtin.zeroCells z.cells (grownCap w (n + m) old e - (n + m))) e)) := by
      intro old ho
      have hge := grownCap_ge w (n + m) old e
      have hcm : grownCap w (n + m) old e ≤ maxLen := grownCap_le_maxLen w (n + m) old e h63
      refine ⟨⟨hlen, .inr ⟨w.heap.size, 0, _, _, rfl, ⟨heap_alloc_new w.drew _, tagUp_at _ _ _, hB⟩, hge, hcm, ?_, ?_⟩⟩, ⟨rfl, rfl, rfl, by simp, fun b hb => tagUp_lt hb, fun b hb _ => heap_alloc_old w.drew _ hb, fun b o ho _ => (heap_alloc_old w.drew _ (Array.getElem?_eq_some_iff.1 ho).1).trans ho⟩⟩
      · simp only [Array.size_append, List.size_toArray, size_zeroCells, hzs, hrow.1, hl, ← Nat.add_mul]
        rw [Nat.zero_add]
        apply Nat.le_of_eq
        congr 1
        omega
      · simp only [Array.toList_append, List.append_assoc, List.drop_zero]
        rw [← List.append_assoc, ← hlen]
        exact List.take_left
    rcases hrow.2 with ⟨rfl, rfl⟩ | ⟨b, off, cap, cur, rfl, ho, g1, g2, g3, g4⟩
    · have hx : cs = [] := List.eq_nil_of_length_eq_zero (by simpa using hrow.1)
      subst hx
      by_cases hm : m = 0
      · subst hm
        have hn : news = [] := List.eq_nil_of_length_eq_zero (by simpa using hl)
        subst hn
        refine ⟨.slice none 0 0, w, tag, ?_, Row.nil _ _ _ _ _ _, Turn.refl _ _ _ _⟩
        simp [Builtin.append_, run_underlying ht, sizeOf, typeInfo, hi, Builtin.lenOf, Builtin.firstCells, loadCells, loadCellsFrom]
      · have hr := run_append_nil (P := P) w tt ty e i z ht hi hz a m c news hl hnews (by omega) (by omega) (by have hb := hbytes; simp only [Nat.zero_add] at hb; omega)
        have hgr := grown 0 (by omega)
        simp only [Nat.zero_add, List.nil_append, Array.empty_append] at hgr ⊢
        exact ⟨_, _, _, hr, hgr.1, hgr.2⟩
    · by_cases hroom : n + m ≤ cap
      · have hfit : off + n * i.size + 0 + news.length ≤ cur.size := by
          rw [hl]
          have := Nat.mul_le_mul_right i.size hroom
          rw [Nat.add_mul] at this; omega
        have hst := run_storeCells_at P b (off + n * i.size) e news 0 cur w ho.heap hfit h1
        have hf := run_firstCells_some (P := P) w i.size m a m c news hl hnews
        simp only [Nat.add_zero] at hst hfit
        refine ⟨.slice (some ⟨b, off, none⟩) (n + m) cap, w.setRow b (cur.toList.take (off + n * i.size) ++ news ++ cur.toList.drop (off + n * i.size + news.length)).toArray, tag, ?_, ⟨hlen, .inr ⟨b, off, cap, _, rfl, ⟨setRow_heap w b cur _ e _ ho.heap, ho.htag, ho.base⟩, hroom, g2, ?_, ?_⟩⟩, ⟨rfl, rfl, rfl, by simp, fun _ _ => rfl, fun b' _ hne => setRow_other w b b' _ ?_, fun b' o hb' hc => (setRow_other w b b' _ ?_).trans hb'⟩⟩
        · simp [Builtin.append_, run_underlying ht, sizeOf, typeInfo, hi, Builtin.lenOf, hroom, hf, Addr.add_lit, hst]
        · simp only [List.size_toArray, List.length_append, List.length_take, List.length_drop, Array.length_toList]
          omega
        · have hcl : (cur.toList.take (off + n * i.size)).drop off = cs := by
            rw [List.drop_take, show off + n * i.size - off = n * i.size by omega, g4]
          rw [List.append_assoc, List.drop_append_of_le_length (by rw [List.length_take, Array.length_toList]; omega), hcl, ← List.append_assoc, ← hlen]
          exact List.take_left
        · rintro rfl
          rcases hne with h2 | h2
          · exact absurd ho.base (Nat.not_le.2 h2)
          · exact h2 ho.htag
        · rintro rfl
          rw [ho.heap] at hb'
          cases hb'
          cases hc
      · have holds : ∀ j u, cs[j]? = some u → w.cell? ((⟨b, off, none⟩ : Addr).add j) = some u := by
          intro j u hu
          have hj := (List.getElem?_eq_some_iff.1 hu).1
          rw [Addr.add_lit, hrow.cellAt j (by have := hrow.1; omega), hu]
        have hr := run_append_grow (P := P) w tt ty e i z ht hi hz ⟨b, off, none⟩ n cap cs hrow.1 holds a m c news hl hnews (by omega) (by omega) (growslice_fits (by omega) hbytes)
        have hgr := grown cap (by omega)
        exact ⟨_, _, _, hr, hgr.1, hgr.2⟩

theorem wpList_append_row {P : Program} {ops : Array Oper} {rest : List Oper} {o : Oper} {a : Act} {Q : Exit → Act → World → Prop} (hgd : o.guard = none) (s x : Operand) (tt : TypeId)
    (ho : o.op = .call { callee := .builtin .append, args := #[s, x], argTypes := #[tt, tt] })
    (e : TypeId) (i : TypeInfo) (z : Value) (bytes : Nat) (ht : P.underlying tt = some (.slice e)) (hi : P.info? e = some i) (hz : i.zero = some z)
    (hsize : i.size = sz) (hby : i.bytes = bytes) (hzs : z.cells.size = sz) (hs : a.eval s = v) (hrow : Row w B tag k e sz v n cs)
    (ao : Option Addr) (m c : Nat) (news : List Value) (hx : a.eval x = .slice ao m c) (hl : news.length = m * sz) (hnone : ao = none → m = 0 ∧ c = 0)
    (hnews : ∀ ad, ao = some ad → ∀ j u, news[j]? = some u → w.cell? (ad.add j) = some u) (h1 : ∀ u ∈ news, u.oneCell' = true)
    (h63 : n + m ≤ maxLen) (hbytes : (n + m) * bytes ≤ 140737488355328) (hB : B ≤ w.heap.size)
    (h : ∀ v' w' tag', Row w' B tag' k e sz v' (n + m) (cs ++ news) → Turn B tag tag' k w w' → wpList P ops Q rest (a.put o.dst v') w') : wpList P ops Q (o :: rest) a w := by
  refine wpList_plain hgd fun K hK => ?_
  obtain ⟨v', w', tag', hr, h2, h3⟩ := run_append_row (P := P) (w := w) (ty := o.type) tt e i z bytes ht hi hz hsize hby hzs hrow ao m c news hl hnone hnews h1 h63 hbytes hB
  unfold Oper.wp execOp
  simp only [ho, resolve, invoke, builtin, Sem.run_bind, Sem.run_pure, Result.andThen_ok, List.map_toArray, List.map_cons, List.map_nil, hs, hx, hr]
  exact hK _ _ (h v' w' tag' h2 h3)
end
end Go.Proofs.Ythchkddhibhenaa

/- A law for a region that draws its order: an invariant over what has been carried out and the slots that the region writes. -/
namespace Go.Proofs.Ythchkddhibhenaa
open Go Go.RowKit

/-- A frame with some slots written. -/
def puts : Act → List Nat → List Value → Act
  | a, d :: ds, u :: us => puts (a.put (some d) u) ds us
  | a, _, _ => a
theorem puts_self (a : Act) : ∀ ds : List Nat, puts a ds (ds.map fun d => a.tmps.getD d undef) = a
  | [] => rfl
  | d :: ds => by
    rw [List.map_cons, puts]
    have : a.put (some d) (a.tmps.getD d undef) = a := by
      unfold Act.put
      dsimp only
      rcases Nat.lt_or_ge d a.tmps.size with h | h
      · have : a.tmps.setIfInBounds d (a.tmps.getD d undef) = a.tmps := by
          rw [Array.getD_eq_getD_getElem?, Array.getElem?_eq_getElem h]
          simp [Array.setIfInBounds, h]
        rw [this]
      · have : a.tmps.setIfInBounds d (a.tmps.getD d undef) = a.tmps := by
          simp [Array.setIfInBounds, Nat.not_lt.2 h]
        rw [this]
    rw [this]
    exact puts_self a ds
/-- Each operation waits for earlier ones alone. -/
def afterB (ops : Array Oper) : Bool := (List.range ops.size).all fun j => ((ops[j]?).map fun o => o.after.all fun e => decide (e.on < j)).getD true

theorem count_falses : ∀ {l : List Bool} {i : Nat}, i < l.length → l.getD i true = false → (l.set i true).count false + 1 = l.count false
  | [], _, h, _ => by simp at h
  | a :: l, 0, _, h => by simp at h; subst h; simp
  | a :: l, i + 1, h, h2 => by
    rw [List.set_cons_succ, List.count_cons, List.count_cons]
    have := count_falses (l := l) (i := i) (by simpa using h) (by simpa using h2)
    omega

section
variable {P : Program} {ops : Array Oper} {Q : Exit → Act → World → Prop} {md : Region.Mode}

theorem all_of_ready (hB : afterB ops = true) {listed : Array Bool} (hr : Region.ready md ops listed = []) : ∀ j, j < ops.size → listed.getD j true = true := by
  intro j
  induction j using Nat.strongRecOn with
  | _ j ih =>
    intro hj
    by_cases h : listed.getD j true = true
    · exact h
    · exfalso
      have hf : listed.getD j true = false := by simpa using h
      have : j ∈ Region.ready md ops listed := by
        refine mem_ready.2 ⟨hf, ops[j], Array.getElem?_eq_getElem hj, fun e he _ => ?_⟩
        have h1 := List.all_eq_true.1 hB j (List.mem_range.2 hj)
        rw [Array.getElem?_eq_getElem hj] at h1
        simp only [Option.map_some, Option.getD_some] at h1
        have h2 := Array.all_eq_true_iff_forall_mem.1 h1 e he
        simp only [decide_eq_true_eq] at h2
        have h3 := ih e.on h2 (by omega)
        have hlt : e.on < listed.size := by
          have hjs : j < listed.size := by
            rcases Nat.lt_or_ge j listed.size with h' | h'
            · exact h'
            · rw [Array.getD_eq_getD_getElem?, Array.getElem?_eq_none h'] at hf; cases hf
          omega
        rw [Array.getD_eq_getD_getElem?, Array.getElem?_eq_getElem hlt] at h3 ⊢
        exact h3
      rw [hr] at this
      cases this

theorem wpAny_inv {I : Array Bool → Act → World → Prop} (hB : afterB ops = true)
    (hstep : ∀ i listed a w, I listed a w → i ∈ Region.ready md ops listed → wpOp P ops Q i (I (listed.setIfInBounds i true)) a w)
    (hend : ∀ listed a w, I listed a w → (∀ j, j < ops.size → listed.getD j true = true) → Q .normal a w) :
    ∀ (fuel : Nat) (listed : Array Bool) (a : Act) (w : World), listed.toList.count false ≤ fuel → I listed a w → wpAny P md ops Q fuel listed a w := by
  intro fuel
  induction fuel with
  | zero =>
    intro listed a w hc hI
    have hr : Region.ready md ops listed = [] := by
      rw [List.eq_nil_iff_forall_not_mem]
      intro i hi
      have h1 := (mem_ready.1 hi).1
      have h2 : false ∈ listed.toList := by
        rcases Nat.lt_or_ge i listed.size with h' | h'
        · rw [Array.getD_eq_getD_getElem?, Array.getElem?_eq_getElem h'] at h1
          simp only [Option.getD_some] at h1
          rw [← h1, ← Array.getElem_toList]; exact List.getElem_mem _
        · rw [Array.getD_eq_getD_getElem?, Array.getElem?_eq_none h'] at h1; cases h1
      have := List.count_pos_iff.2 h2
      omega
    exact ⟨hr, hend _ _ _ hI (all_of_ready hB hr)⟩
  | succ fuel ih =>
    intro listed a w hc hI
    refine ⟨fun hr => hend _ _ _ hI (all_of_ready hB hr), fun i hi => wpOp_mono (fun a' w' h => ih _ a' w' ?_ h) (hstep i listed a w hI hi)⟩
    have h1 := (mem_ready.1 hi).1
    have hlt : i < listed.toList.length := by
      rcases Nat.lt_or_ge i listed.size with h' | h'
      · simpa using h'
      · rw [Array.getD_eq_getD_getElem?, Array.getElem?_eq_none h'] at h1; cases h1
    have h2 := count_falses hlt (by rw [List.getD_eq_getElem?_getD, Array.getElem?_toList, ← Array.getD_eq_getD_getElem?]; exact h1)
    rw [Array.toList_setIfInBounds]
    omega

/-- What one operation has to show. -/
structure StepG (P : Program) (ops : Array Oper) (Q : Exit → Act → World → Prop) (o : Oper) (a : Act) (w : World) (K' : Act → World → Prop) : Prop where
  out : if Region.wanted o (yielded ops a.tmps) = true then Oper.wp P o a w K' Q else K' (a.put o.dst undef) w
/-- The steps from operation k on. -/
def Steps (P : Program) (ops : Array Oper) (Q : Exit → Act → World → Prop) (md : Region.Mode) (I : Array Bool → List Value → World → Prop) (a : Act) (ds : List Nat) (k : Nat) : Prop :=
  ∀ i, k ≤ i → i < ops.size → ∀ (listed : Array Bool) (us : List Value) (w : World), listed.size = ops.size → I listed us w → i ∈ Region.ready md ops listed →
    wpOp P ops Q i (fun a' w' => ∃ us', puts a ds us' = a' ∧ I (listed.setIfInBounds i true) us' w') (puts a ds us) w
theorem Steps.nil {I : Array Bool → List Value → World → Prop} {a : Act} {ds : List Nat} {k : Nat} (h : ops.size ≤ k) : Steps P ops Q md I a ds k := fun i h1 h2 => by omega
theorem Steps.cons {I : Array Bool → List Value → World → Prop} {a : Act} {ds : List Nat} {k : Nat} {o : Oper} (ho : ops[k]? = some o)
    (h : ∀ (listed : Array Bool) (us : List Value) (w : World), (∀ j, j < ops.size → (listed.setIfInBounds k true).getD j false = (j == k || listed.getD j false)) → I listed us w → (o.after.all fun e => !Region.binds md e || listed.getD e.on false) = true →
      listed.getD k false = false → ∀ K' : Act → World → Prop, (∀ us' a' w', puts a ds us' = a' → I (listed.setIfInBounds k true) us' w' → K' a' w') →
      StepG P ops Q o (puts a ds us) w K')
    (hs : Steps P ops Q md I a ds (k + 1)) : Steps P ops Q md I a ds k := fun i hki hi listed us w hsz hI hr => by
  by_cases e : i = k
  · subst e
    refine wpOp_step ho fun K' hK => (h listed us w (fun j hj => ?_) hI ?_ ?_ K' (fun us' a' w' e h => hK a' w' ⟨us', e, h⟩)).out
    · rw [Array.getD_eq_getD_getElem?, Array.getD_eq_getD_getElem?, Array.getElem?_setIfInBounds]
      by_cases hij : i = j
      · subst hij; simp [hsz, hi]
      · have : (j == i) = false := by simp; omega
        rw [if_neg hij, this, Bool.false_or]
    · obtain ⟨h1, o', h2, h3⟩ := mem_ready.1 hr
      rw [ho] at h2
      cases h2
      rw [Array.all_eq_true_iff_forall_mem]
      intro e he
      by_cases hb : Region.binds md e = true
      · rw [h3 e he hb]; simp
      · simp [hb]
    · have h1 := (mem_ready.1 hr).1
      rw [Array.getD_eq_getD_getElem?, Array.getElem?_eq_getElem (by omega)] at h1 ⊢
      exact h1
  · exact hs i (by omega) hi listed us w hsz hI hr
theorem wp_region_inv {id : Nat} {a : Act} {w : World} (I : Array Bool → List Value → World → Prop) (ds : List Nat) (hm : P.follows .mixedOrders = true) (hB : afterB ops = true)
    (hI : I (Array.replicate ops.size false) (ds.map fun d => a.tmps.getD d undef) w.drew)
    (hs : Steps P ops Q .any I a ds 0)
    (hend : ∀ listed us w, I listed us w → (∀ j, j < ops.size → listed.getD j false = true) → Q .normal (puts a ds us) w) : (Code.region id ops true).wp P Q a w := by
  refine wp_region_any hm ?_
  refine wpAny_inv (I := fun listed a' w' => listed.size = ops.size ∧ ∃ us, puts a ds us = a' ∧ I listed us w') hB ?_ ?_ _ _ _ _ (by simp) ⟨by simp, _, puts_self a ds, hI⟩
  · rintro i listed a' w' ⟨hsz, us, rfl, hI⟩ hr
    have hi : i < ops.size := by
      obtain ⟨_, o, ho, _⟩ := mem_ready.1 hr
      exact (Array.getElem?_eq_some_iff.1 ho).1
    exact wpOp_mono (fun a w h => ⟨by simp [hsz], h⟩) (hs i (Nat.zero_le _) hi listed us w' hsz hI hr)
  · rintro listed a' w' ⟨hsz, us, rfl, hI⟩ hall
    refine hend listed us w' hI (fun j hj => ?_)
    have := hall j hj
    rw [Array.getD_eq_getD_getElem?, Array.getElem?_eq_getElem (by omega)] at this ⊢
    exact this
end

theorem up_ne {l : Array Bool} {k n : Nat} (hl : ∀ j, j < n → (l.setIfInBounds k true).getD j false = (j == k || l.getD j false)) (j : Nat) (hj : j < n) (hne : (j == k) = false) : (l.setIfInBounds k true).getD j false = l.getD j false := by
  rw [hl j hj, hne, Bool.false_or]

/-- A box of four cells behind a turn of other blocks. -/
structure Box4 (w : World) (tag : Nat → Nat) (b : Nat) (c0 c1 c2 c3 : Value) : Prop where
  htag : tag b = 0
  lt : b < w.heap.size
  x0 : w.cell? ⟨b, 0, none⟩ = some c0
  x1 : w.cell? ⟨b, 1, none⟩ = some c1
  x2 : w.cell? ⟨b, 2, none⟩ = some c2
  x3 : w.cell? ⟨b, 3, none⟩ = some c3
theorem Turn.cell {w w' : World} {B : Nat} {tag tag' : Nat → Nat} {k b : Nat} (ht : Turn B tag tag' k w w') (hb : b < w.heap.size) (hne : tag b ≠ k) (o : Nat) : w'.cell? ⟨b, o, none⟩ = w.cell? ⟨b, o, none⟩ := by
  simp only [World.cell?]
  rw [ht.heap b hb (.inr hne)]
theorem Box4.turn {w w' : World} {B : Nat} {tag tag' : Nat → Nat} {k b : Nat} {c0 c1 c2 c3 : Value} (h : Box4 w tag b c0 c1 c2 c3) (ht : Turn B tag tag' k w w') (hk : 0 ≠ k) : Box4 w' tag' b c0 c1 c2 c3 :=
  have hne : tag b ≠ k := by rw [h.htag]; exact hk
  ⟨(ht.tags b h.lt).trans h.htag, Nat.lt_of_lt_of_le h.lt ht.size, (ht.cell h.lt hne _).trans h.x0, (ht.cell h.lt hne _).trans h.x1, (ht.cell h.lt hne _).trans h.x2, (ht.cell h.lt hne _).trans h.x3⟩
/-- A callee's new blocks take one tag. -/
def tagFrom (tag : Nat → Nat) (s k : Nat) : Nat → Nat := fun b => if b < s then tag b else k
theorem Turn.call {w w' : World} {B : Nat} {tag : Nat → Nat} {k : Nat} (hb : Below w.heap.size w w') : Turn B tag (tagFrom tag w.heap.size k) k w w' :=
  ⟨hb.os, hb.tape, hb.output, hb.size, fun b h => if_pos h, fun b h _ => hb.block b h, fun b o ho _ => (hb.block b (Array.getElem?_eq_some_iff.1 ho).1).trans ho⟩
theorem Turn.alloc {w : World} {B : Nat} {tag : Nat → Nat} {k : Nat} (o : Obj) : Turn B tag (tagUp tag w.heap.size k) k w (w.alloc o) :=
  ⟨rfl, rfl, rfl, by simp, fun b h => tagUp_lt h, fun b h _ => heap_alloc_old w o h, fun b o' ho _ => (heap_alloc_old w o (Array.getElem?_eq_some_iff.1 ho).1).trans ho⟩
theorem Row.of_call {w w' : World} {B : Nat} {tag : Nat → Nat} {k : Nat} {t : TypeId} {sz : Nat} {v : Value} {n : Nat} {cs : List Value} (h : w'.ownsRow w.heap.size t sz v n cs) (hB : B ≤ w.heap.size) : Row w' B (tagFrom tag w.heap.size k) k t sz v n cs :=
  Row.of_own h hB (fun b h1 _ => if_neg (by omega))
end Go.Proofs.Ythchkddhibhenaa

/- The contract of example. -/
namespace Go.Proofs.Ythchkddhibhenaa
open Go.RowKit

/-- The automaton of the examples. -/
def exA : Aut := ⟨[0, 1], 4, [1], [⟨0, 0, 1⟩, ⟨0, 1, 2⟩, ⟨1, 0, 1⟩, ⟨2, 0, 3⟩, ⟨3, 1, 2⟩]⟩

/-- A new block read whole. -/
theorem RdS.lit {w : World} {sz b len : Nat} {cs : Array Value} {t : TypeId} (h : w.heap[b]? = some (.cells cs t (0, 0))) (hl : cs.size = len * sz) (hm : len ≤ 1000000) : RdS w sz (some ⟨b, 0, none⟩) len len cs.toList := by
  refine ⟨by simpa using hl, Nat.le_refl _, by unfold maxLen; omega, fun e => (by cases e), fun _ e => (by cases e; rfl), fun _ e j hj => ?_⟩
  cases e
  simp only [Nat.zero_add]
  rw [World.cell?, h]
  simp at hj
  simp [hj]

theorem example_any (w : World) : Calls Try.prog 46 #[] w (Ret w fun u w' => RdA w' u exA) := by
  go_enter Try.func46, Try.ntmps46
  go_wp2_with fail
  refine bodyPost_ret (v := .agg #[.slice (some ⟨w.heap.size + 1, 0, none⟩) 2 2, .int .i64 4, .slice (some ⟨w.heap.size + 1 + 1, 0, none⟩) 1 1, .slice (some ⟨w.heap.size + 1 + 1 + 1, 0, none⟩) 5 5]) (by simp [results, Try.results46, go_sem]) rfl ⟨_, rfl, ?_, (((((Below.refl _ _).alloc (Nat.le_refl _) _).alloc (by simp) _).alloc (by simp; omega) _).alloc (by simp; omega) _)⟩
  refine ⟨_, _, _, rfl, ⟨_, _, rfl, RdS.lit (cs := #[.int .i64 0, .int .i64 1]) (t := 3) (by repeat (first | with_reducible assumption | (with_reducible refine heap_at ?_; (first | (simp; done) | (simp; omega))) | (with_reducible refine heap_past ?_ ?_; (next => first | omega | (simp; done) | (simp; omega))))) rfl (by decide)⟩, ⟨_, _, rfl, RdS.lit (cs := #[.int .i64 1]) (t := 3) (by repeat (first | with_reducible assumption | (with_reducible refine heap_at ?_; (first | (simp; done) | (simp; omega))) | (with_reducible refine heap_past ?_ ?_; (next => first | omega | (simp; done) | (simp; omega))))) rfl (by decide)⟩, ⟨_, _, rfl, ?_⟩⟩
  exact RdS.lit (cs := #[.int .i64 0, .int .i64 0, .int .i64 1, .int .i64 0, .int .i64 1, .int .i64 2, .int .i64 1, .int .i64 0, .int .i64 1, .int .i64 2, .int .i64 0, .int .i64 3, .int .i64 3, .int .i64 1, .int .i64 2]) (t := 45) (len := 5) (by repeat (first | with_reducible assumption | (with_reducible refine heap_at ?_; (first | (simp; done) | (simp; omega))) | (with_reducible refine heap_past ?_ ?_; (next => first | omega | (simp; done) | (simp; omega))))) rfl (by decide)
end Go.Proofs.Ythchkddhibhenaa
