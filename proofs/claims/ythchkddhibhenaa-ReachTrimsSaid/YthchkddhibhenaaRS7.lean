/- Texts joined: Reverse, RowIn. Each is introduced by its own sentence. -/
import Derived.OwnWalkIn
import Derived.Test.YthchkddhibhenaaRS1
import Derived.Test.YthchkddhibhenaaRS2
/- The contract of slices.Reverse at ints, on a row of the caller's own. -/
namespace Go.Proofs.Ythchkddhibhenaa
open Go.RowKit

/-- The first and the last k have changed places. -/
def revK (xs : List Int) (k : Nat) : List Int := (List.range xs.length).map fun m => if m < k ∨ xs.length - k ≤ m then xs.getD (xs.length - 1 - m) 0 else xs.getD m 0
theorem revK_length (xs : List Int) (k : Nat) : (revK xs k).length = xs.length := by simp [revK]
theorem revK_zero (xs : List Int) : revK xs 0 = xs := by
  apply List.ext_getElem
  · simp [revK]
  · intro i h1 h2
    simp only [revK, List.getElem_map, List.getElem_range]
    rw [if_neg (by omega), List.getD_eq_getElem?_getD, List.getElem?_eq_getElem h2]; rfl
theorem revK_get (xs : List Int) (k m : Nat) (hm : m < xs.length) (h : ¬ (m < k ∨ xs.length - k ≤ m)) : (ints (revK xs k))[m]? = some (.int .i64 (xs.getD m 0)) := by
  rw [List.getElem?_map, revK, List.getElem?_map, List.getElem?_range hm]
  simp only [Option.map_some]
  rw [if_neg h]
theorem revK_step (xs : List Int) (k : Nat) (h : 2 * k + 1 < xs.length) : ints (revK xs (k + 1)) = ((ints (revK xs k)).set k (.int .i64 (xs.getD (xs.length - 1 - k) 0))).set (xs.length - 1 - k) (.int .i64 (xs.getD k 0)) := by
  apply List.ext_getElem
  · simp [revK]
  · intro i g1 g2
    have hi : i < xs.length := by simpa [revK] using g1
    rw [List.getElem_set, List.getElem_set]
    simp only [revK, List.getElem_map, List.getElem_range]
    by_cases e1 : xs.length - 1 - k = i
    · rw [if_pos e1, if_pos (by omega)]
      congr 2
      omega
    · rw [if_neg e1]
      by_cases e2 : k = i
      · rw [if_pos e2, if_pos (by omega)]
        congr 2
        omega
      · rw [if_neg e2]
        by_cases e3 : i < k ∨ xs.length - k ≤ i
        · rw [if_pos e3, if_pos (by omega)]
        · rw [if_neg e3, if_neg (by omega)]
theorem revK_all (xs : List Int) (k : Nat) (h : xs.length ≤ 2 * k + 1) : revK xs k = xs.reverse := by
  apply List.ext_getElem
  · simp [revK]
  · intro i h1 h2
    have hi : i < xs.length := by simpa using h2
    simp only [revK, List.getElem_map, List.getElem_range, List.getElem_reverse]
    split
    · rw [List.getD_eq_getElem?_getD, List.getElem?_eq_getElem (by omega)]; rfl
    · have : xs.length - 1 - i = i := by omega
      rw [List.getD_eq_getElem?_getD, List.getElem?_eq_getElem hi, Option.getD_some]
      congr 1
      exact this.symm

set_option maxRecDepth 100000 in
theorem reverse_any (v : Value) (xs : List Int) (w : World) (B : Nat) (tag : Nat → Nat) (k0 : Nat) (hr : Row w B tag k0 3 1 v xs.length (ints xs)) (hl : xs.length ≤ 1000000) :
    Calls Try.prog 79 #[v] w fun e w' => (∃ r, e = .returned r) ∧ Row w' B tag k0 3 1 v xs.length (ints xs.reverse) ∧ Turn B tag tag k0 w w' := by
  obtain ⟨a, cap, rfl⟩ := hr.val
  go_enter Try.func79, Try.ntmps79
  go_wp2_with fail
  go_loopw [2, 3] (fun i j wr => ∃ k : Nat, i = .int .i64 k ∧ j = .int .i64 ((xs.length : Int) - 1 - k) ∧ 2 * k ≤ xs.length + 1 ∧ Row wr B tag k0 3 1 (.slice a xs.length cap) xs.length (ints (revK xs k)) ∧ Turn B tag tag k0 w wr) (fun i _ _ => xs.length - (intOf i).toNat)
  case atStart => exact ⟨0, rfl, by simp, by omega, by rw [revK_zero]; exact hr, Turn.refl _ _ _ _⟩
  case round =>
    obtain ⟨k, rfl, rfl, hk, hrow, ht⟩ := hrel
    by_cases hlt : 2 * k + 1 < xs.length
    · obtain ⟨b, off, cap', e1, hbl, _⟩ := hrow.addr (by omega)
      cases e1
      have c1 := hrow.cellAt k (by omega)
      rw [revK_get xs k k (by omega) (by omega)] at c1
      have c2 := hrow.cellAt (xs.length - 1 - k) (by omega)
      rw [revK_get xs k (xs.length - 1 - k) (by omega) (by omega)] at c2
      have f1 := hrow.frozenAt (off + k)
      have f2 := hrow.frozenAt (off + (xs.length - 1 - k))
      have s1 := hrow.set k (.int .i64 (xs.getD (xs.length - 1 - k) 0))
      have s2 := s1.1.set (xs.length - 1 - k) (.int .i64 (xs.getD k 0))
      rw [← revK_step xs k hlt] at s2
      have S1 := Lib.hid s1.2
      have S2 := Lib.hid s2
      have c3 : (wr.setCell ⟨b, off + k, none⟩ (.int .i64 (xs.getD (xs.length - 1 - k) 0))).cell? ⟨b, off + (xs.length - 1 - k), none⟩ = some (.int .i64 (xs.getD (xs.length - 1 - k) 0)) := by
        rw [World.cell?_setCell_other, c2]
        intro e; simp at e; try omega
      clear s1 s2 hr
      generalize xs.getD (xs.length - 1 - k) 0 = p at *
      generalize xs.getD k 0 = q at *
      have hidx : ((xs.length : Int) - 1 - k).toNat = xs.length - 1 - k := by omega
      go_wp2
      go_region
      go_wp2
      go_roundw
      case rel => exact ⟨k + 1, by go_num, by congr 1; omega, by omega, S2.out.1.below (bel_drew _), ((ht.trans S1.out).trans S2.out.2).trans (Turn.below (bel_drew _))⟩
      case measure => simp [intOf]; omega
    · go_wp2
      refine ⟨rfl, .tuple #[], by simp [results, Try.results79], ⟨⟨_, rfl⟩, by rw [revK_all xs k (by omega)] at hrow; exact hrow, ht⟩⟩
end Go.Proofs.Ythchkddhibhenaa

/- append to a row of the call's own, inside a fence. -/
namespace Go.Proofs.Ythchkddhibhenaa
open Go.RowKit

theorem wpListIn_append_row {F : Fence} {nF : Nat} {P : Program} {ops : Array Oper} {rest : List Oper} {o : Oper} {a : Act} {Q : Exit → Act → World → Prop}
    {w : World} {B : Nat} {tag : Nat → Nat} {k : Nat} {sz : Nat} {v : Value} {n : Nat} {cs : List Value} (hgd : o.guard = none) (s x : Operand) (tt : TypeId)
    (ho : o.op = .call { callee := .builtin .append, args := #[s, x], argTypes := #[tt, tt] })
    (e : TypeId) (i : TypeInfo) (z : Value) (bytes : Nat) (ht : P.underlying tt = some (.slice e)) (hi : P.info? e = some i) (hz : i.zero = some z)
    (hsize : i.size = sz) (hby : i.bytes = bytes) (hzs : z.cells.size = sz) (hs : a.eval s = v) (hrow : Row w B tag k e sz v n cs)
    (ao : Option Addr) (m c : Nat) (news : List Value) (hx : a.eval x = .slice ao m c) (hl : news.length = m * sz) (hnone : ao = none → m = 0 ∧ c = 0)
    (hnews : ∀ ad, ao = some ad → ∀ j u, news[j]? = some u → w.cell? (ad.add j) = some u) (h1 : ∀ u ∈ news, u.oneCell' = true)
    (h63 : n + m ≤ maxLen) (hbytes : (n + m) * bytes ≤ 140737488355328) (hB : B ≤ w.heap.size)
    (h : ∀ v' w' tag', Row w' B tag' k e sz v' (n + m) (cs ++ news) → Turn B tag tag' k w w' → wpListIn F nF P ops Q rest (a.put o.dst v') w') : wpListIn F nF P ops Q (o :: rest) a w := by
  refine wpListIn_plain hgd fun K hK' => ?_
  obtain ⟨v', w', tag', hrun, h2, h3⟩ := run_append_row (P := P) (w := w) (ty := o.type) tt e i z bytes ht hi hz hsize hby hzs hrow ao m c news hl hnone hnews h1 h63 hbytes hB
  unfold Oper.wpIn
  refine ⟨?_, ?_⟩
  · simp [Oper.about, ho, resolve, Target.leads, Sem.run_pure]
  · rw [Oper.semAt_plain F _ _ (by rw [ho]; intro c hc'; cases hc')]
    simp [execOp, ho, resolve, invoke, builtin, hs, hx, hrun, Result.andThen]
    exact hK' _ _ (h v' w' tag' h2 h3)
end Go.Proofs.Ythchkddhibhenaa
