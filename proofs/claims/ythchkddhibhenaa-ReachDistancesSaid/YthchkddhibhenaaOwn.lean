/- Contracts of flags, list and Clone: functions that make one list. -/
import Derived.Test.YthchkddhibhenaaCheckB
namespace Go.Proofs.Ythchkddhibhenaa
open Go.RowKit

theorem Try.info_int : (Try.prog.info? 3).map (fun i => (i.zero, i.size, i.bytes)) = some (some (.int .i64 0), 1, 8) := by kernel_rfl
theorem Try.info_bool : (Try.prog.info? 4).map (fun i => (i.zero, i.size, i.bytes)) = some (some (.bool false), 1, 1) := by kernel_rfl

abbrev bools (xs : List Bool) : List Value := xs.map Value.bool

/-- A row of the call's own reads as its cells. -/
theorem RdS.of_own {w : World} {B : Nat} {t : TypeId} {sz : Nat} {v : Value} {n : Nat} {cs : List Value} (h : w.ownsRow B t sz v n cs) : ∃ a cap, v = .slice a n cap ∧ RdS w sz a n cap cs := by
  rcases h.2 with ⟨rfl, rfl⟩ | ⟨g, cap, cur, rfl, hb, hg, h1, h2, h3, h4⟩
  · refine ⟨none, 0, rfl, ⟨h.1, Nat.le_refl _, by simp [maxLen], fun _ => rfl, fun _ e => (by cases e), fun _ e => (by cases e)⟩⟩
  · refine ⟨_, cap, rfl, ⟨h.1, h1, h2, fun e => (by cases e), fun _ e => (by cases e; rfl), fun _ e j hj => ?_⟩⟩
    cases e
    have := h.cellAt j (by have := h.1; omega)
    simp only [Nat.zero_add]
    rw [this, List.getElem?_eq_getElem hj]
theorem RdI.of_own {w : World} {B : Nat} {t : TypeId} {v : Value} {xs : List Int} (h : w.ownsRow B t 1 v xs.length (ints xs)) : RdI w v xs := by
  obtain ⟨a, cap, e, hr⟩ := RdS.of_own h
  exact ⟨a, cap, e, hr⟩

/-- The cells of a new block. -/
theorem new_cells (w : World) (cs : List Value) (t : TypeId) : ∀ j u, cs[j]? = some u → (w.alloc (.cells cs.toArray t)).cell? ((⟨w.heap.size, 0, none⟩ : Addr).add j) = some u := by
  intro j u h
  have : (⟨w.heap.size, 0, none⟩ : Addr).add j = ⟨w.heap.size, j, none⟩ := by unfold Addr.add; split <;> simp_all
  rw [this, World.cell?_alloc_new]
  simpa using h
theorem new_cells_at {w : World} {s : Nat} (cs : List Value) (t : TypeId) (h : s = w.heap.size) : ∀ j u, cs[j]? = some u → (w.alloc (.cells cs.toArray t)).cell? ((⟨s, 0, none⟩ : Addr).add j) = some u := by
  subst h
  exact new_cells w cs t
/-- The cells of a slice, as an append reads them. -/
theorem own_src {w : World} {sz b off len cap : Nat} {cs : List Value} (h : RdS w sz (some ⟨b, off, none⟩) len cap cs) : ∀ j u, cs[j]? = some u → w.cell? ((⟨b, off, none⟩ : Addr).add j) = some u := by
  intro j u hu
  obtain ⟨hj, rfl⟩ := List.getElem?_eq_some_iff.1 hu
  have h1 := h.cell _ rfl j hj
  by_cases h0 : j = 0
  · subst h0; simpa [Addr.add] using h1
  · simpa [Addr.add, h0] using h1
/-- A cell that may be written. -/
theorem own_cell {w : World} {B : Nat} {t : TypeId} {g n cap : Nat} {xs : List Value} (h : w.ownsRow B t 1 (.slice (some ⟨g, 0, none⟩) n cap) n xs) (j : Nat) (hj : j < n) : ∃ u, w.cell? ⟨g, j, none⟩ = some u := by
  have h1 := h.cellAt j (by omega)
  rw [List.getElem?_eq_getElem (by have := h.1; omega)] at h1
  exact ⟨_, h1⟩

/-- The flags of a set. -/
def flagL (n : Nat) (set : List Int) : List Bool := (List.range n).map fun i => hasB set (i : Nat)
theorem flagL_length (n : Nat) (set : List Int) : (flagL n set).length = n := by simp [flagL]
theorem flagL_nil (n : Nat) : bools (flagL n []) = List.replicate n (Value.bool false) := by
  apply List.ext_getElem
  · simp [flagL]
  · intro i h1 h2; simp [flagL, hasB]
theorem flagL_snoc (n : Nat) (set : List Int) (x : Int) (h0 : 0 ≤ x) : bools (flagL n (set ++ [x])) = (bools (flagL n set)).set x.toNat (.bool true) := by
  apply List.ext_getElem
  · simp [flagL]
  · intro i h1 h2
    rw [List.getElem_set]
    simp only [flagL, List.getElem_map, List.getElem_range, hasB, List.contains_eq_mem, List.mem_append, List.mem_singleton]
    by_cases hi : x.toNat = i
    · rw [if_pos hi]
      have : (i : Int) = x := by omega
      simp [this]
    · rw [if_neg hi]
      have : ¬ (i : Int) = x := by omega
      simp [this]

theorem flags_any (va vm ve v : Value) (n : Nat) (set : List Int) (w : World) (hr : RdI w v set) (hl : set.length ≤ 1000000) (hn : n ≤ 1000000) (hin : ∀ x ∈ set, 0 ≤ x ∧ x < n) :
    Calls Try.prog 52 #[.agg #[va, .int .i64 n, vm, ve], v] w (Ret w fun u w' => w'.ownsRow w.heap.size 4 1 u n (bools (flagL n set))) := by
  obtain ⟨a, cap, rfl, hr⟩ := hr
  obtain ⟨i0, hi, hz0, hz1, hz2⟩ := info_parts Try.info_bool
  have Hin := Lib.hid hin
  clear hin
  go_enter Try.func52, Try.ntmps52
  go_wp2_with (at_make; refine wpList_make_full _ rfl _ _ 86 rfl w.heap.size 4 i0 (.bool false) 1 Try.underlying86 hi hz0 hz1 .i64 .i64 _ _ (n) rfl rfl (by first | rfl | omega) (by first | rfl | omega) (by rw [hz2]; omega) (by unfold maxLen; omega) (by first | omega | (simp; done) | (simp; omega) | (simp at *; omega)) ?_; intro w0 hown hgrow0)
  have hown1 : w0.ownsRow w.heap.size 4 1 (.slice (some ⟨w.heap.size + 1, 0, none⟩) n n) n (bools (flagL n [])) := by
    rw [flagL_nil]; simpa [Value.cells, toList_madeCells_one] using hown
  have hB0 : Below w.heap.size w w0 := Below.grown (by (repeat (first | with_reducible exact Below.refl _ _ | with_reducible exact hr | (with_reducible refine belCall ?_ hr (by first | omega | (simp; done) | (simp; omega) | (simp at *; omega))) | (with_reducible refine Below.alloc ?_ (by first | omega | (simp; done) | (simp; omega) | (simp at *; omega)) _) | (with_reducible refine Below.drew ?_) | (with_reducible refine Below.setCell ?_ (by first | omega | (simp; done) | (simp; omega) | (simp at *; omega)) _)))) hgrow0 (by simp) (fun k e => (by cases e))
  clear hown hgrow0
  go_wp2_with fail
  go_loopw [13] (fun i wr => ∃ k : Nat, k ≤ set.length ∧ i = .int .i64 k ∧ Below w.heap.size w wr ∧ wr.ownsRow w.heap.size 4 1 (.slice (some ⟨w.heap.size + 1, 0, none⟩) n n) n (bools (flagL n (set.take k)))) (fun i _ => set.length - (intOf i).toNat)
  case atStart => exact ⟨0, Nat.zero_le _, rfl, hB0, by simpa using hown1⟩
  case round =>
    obtain ⟨k, hk, rfl, hB, hown⟩ := hrel
    clear hown1 hB0
    by_cases hlt : k < set.length
    · obtain ⟨b, off, rfl, hc⟩ := hr.at_int k hlt
      replace hc := keep0 hB hc
      obtain ⟨hx0, hx1⟩ := Hin.out set[k] (List.getElem_mem hlt)
      obtain ⟨u, hci⟩ := own_cell hown set[k].toNat (by omega)
      have hfi := hown.frozenAt set[k].toNat
      have hst := hown.stored set[k].toNat (.bool true)
      rw [← flagL_snoc n _ _ hx0, ← take_snoc set k hlt] at hst
      have Hst := Lib.hid hst
      clear hst
      go_wp2
      go_roundw
      case rel => exact ⟨k + 1, by omega, by go_num, (by (repeat (first | with_reducible exact Below.refl _ _ | with_reducible exact hB | (with_reducible refine belCall ?_ hB (by first | omega | (simp; done) | (simp; omega) | (simp at *; omega))) | (with_reducible refine Below.alloc ?_ (by first | omega | (simp; done) | (simp; omega) | (simp at *; omega)) _) | (with_reducible refine Below.drew ?_) | (with_reducible refine Below.setCell ?_ (by first | omega | (simp; done) | (simp; omega) | (simp at *; omega)) _)))), Hst.out.1⟩
      case measure => simp [intOf]; omega
    · go_wp2
      go_ret
      exact ⟨_, rfl, by rw [List.take_of_length_le (by omega)] at hown; exact hown, hB⟩

/-- The numbers of the flags that are set, below k. -/
def listK (fl : List Bool) (k : Nat) : List Int := ((List.range k).filter fun i => fl.getD i false).map fun (i : Nat) => (i : Int)
def listL (fl : List Bool) : List Int := listK fl fl.length
theorem listK_true {fl : List Bool} {k : Nat} (h : k < fl.length) (hx : fl[k] = true) : listK fl (k + 1) = listK fl k ++ [(k : Int)] := by
  simp [listK, List.range_succ, List.filter_append, List.getD, h, hx]
theorem listK_false {fl : List Bool} {k : Nat} (h : k < fl.length) (hx : fl[k] = false) : listK fl (k + 1) = listK fl k := by
  simp [listK, List.range_succ, List.filter_append, List.getD, h, hx]
theorem listK_le (fl : List Bool) (k : Nat) : (listK fl k).length ≤ k := by
  unfold listK
  rw [List.length_map]
  exact Nat.le_trans (List.length_filter_le _ _) (by simp)

/-- A value reads as a list of flags. -/
def RdB (w : World) (v : Value) (xs : List Bool) : Prop := ∃ a cap, v = .slice a xs.length cap ∧ RdS w 1 a xs.length cap (bools xs)
theorem RdB.mono {w w' : World} {v : Value} {xs : List Bool} (h : RdB w v xs) (hb : Below w.heap.size w w') : RdB w' v xs := by
  obtain ⟨a, cap, rfl, hr⟩ := h
  exact ⟨a, cap, rfl, hr.mono hb⟩
theorem RdB.of_own {w : World} {B : Nat} {t : TypeId} {v : Value} {xs : List Bool} (h : w.ownsRow B t 1 v xs.length (bools xs)) : RdB w v xs := by
  obtain ⟨a, cap, e, hr⟩ := RdS.of_own h
  exact ⟨a, cap, e, hr⟩
theorem RdS.at_bool {w : World} {a : Option Addr} {cap : Nat} {xs : List Bool} (h : RdS w 1 a xs.length cap (bools xs)) (k : Nat) (hk : k < xs.length) :
    ∃ b off, a = some ⟨b, off, none⟩ ∧ w.cell? ⟨b, off + k, none⟩ = some (.bool xs[k]) := by
  obtain ⟨b, off, e, hc⟩ := h.at_elem k hk
  exact ⟨b, off, e, by have h' := hc k (by simpa using hk); rwa [List.getElem_map] at h'⟩

theorem list_any (v : Value) (fl : List Bool) (w : World) (hr : RdB w v fl) (hl : fl.length ≤ 1000000) :
    Calls Try.prog 58 #[v] w (Ret w fun u w' => w'.ownsRow w.heap.size 3 1 u (listL fl).length (ints (listL fl))) := by
  obtain ⟨a, cap, rfl, hr⟩ := hr
  obtain ⟨i0, hi, hz0, hz1, hz2⟩ := info_parts Try.info_int
  go_enter Try.func58, Try.ntmps58
  go_wp2_with fail
  go_loopw [3, 8] (fun v i wr => ∃ k : Nat, k ≤ fl.length ∧ i = .int .i64 k ∧ Below w.heap.size w wr ∧ wr.ownsRow w.heap.size 3 1 v (listK fl k).length (ints (listK fl k))) (fun _ i _ => fl.length - (intOf i).toNat)
  case atStart => exact ⟨0, Nat.zero_le _, rfl, Below.refl _ _, by simpa [listK] using World.ownsRow_nil w w.heap.size 3 1⟩
  case round =>
    obtain ⟨k, hk, rfl, hB, hown⟩ := hrel
    have hle := listK_le fl k
    have hsz := hB.size
    by_cases hlt : k < fl.length
    · obtain ⟨b, off, rfl, hc⟩ := hr.at_bool k hlt
      replace hc := keep0 hB hc
      cases hx : fl[k]
      · have hs := Lib.hid (listK_false hlt hx)
        rw [hx] at hc
        clear hx
        go_wp2
        go_roundw
        case rel => exact ⟨k + 1, by omega, by go_num, hB, by rw [hs.out]; exact hown⟩
        case measure => simp [intOf]; omega
      · have hs := Lib.hid (listK_true hlt hx)
        rw [hx] at hc
        clear hx
        go_wp2_with ((at_builtin; refine wpList_append_own _ rfl _ _ 28 rfl (w.heap.size) 3 i0 (.int .i64 0) 1 8 Try.underlying28 hi hz0 hz1 hz2 rfl (by decide) _ ((listK fl k).length) _ rfl ((hown).alloc _) ⟨_, 0, none⟩ 1 1 [.int .i64 k] rfl rfl (new_cells _ [_] _) (by simp [Value.oneCell']) (by unfold maxLen; omega) (by omega) (by first | omega | (simp; done) | (simp; omega) | (simp at *; omega)) ?_; intro v1 w1 hown1 hgrow1 _); have Hown := Lib.hid hown1; clear hown1)
        go_roundw
        case rel =>
          refine ⟨k + 1, by omega, by go_num, Below.grown (by (repeat (first | with_reducible exact Below.refl _ _ | with_reducible exact hB | (with_reducible refine belCall ?_ hB (by first | omega | (simp; done) | (simp; omega) | (simp at *; omega))) | (with_reducible refine Below.alloc ?_ (by first | omega | (simp; done) | (simp; omega) | (simp at *; omega)) _) | (with_reducible refine Below.drew ?_) | (with_reducible refine Below.setCell ?_ (by first | omega | (simp; done) | (simp; omega) | (simp at *; omega)) _)))) hgrow1 (by first | omega | (simp; done) | (simp; omega) | (simp at *; omega)) (fun j e => (hown.lt j e).1), ?_⟩
          have h1 := Hown.out
          rw [hs.out]
          simpa [ints] using h1
        case measure => simp [intOf]; omega
    · go_wp2
      go_ret
      obtain rfl : k = fl.length := by omega
      exact ⟨_, rfl, hown, hB⟩
end Go.Proofs.Ythchkddhibhenaa
