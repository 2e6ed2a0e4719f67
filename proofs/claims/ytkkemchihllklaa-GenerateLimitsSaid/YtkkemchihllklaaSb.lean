/- The generated list is genP: what event, command and Generate compute. -/
import Derived.Test.YtkkemchihllklaaSa
namespace Go.Proofs.Ytkkemchihllklaa
open Go Go.RowKit

/-- An instruction as the printed functions have it. -/
def insP (x : Ins) : Int × Int := (x.op, x.arg)
theorem put_eq {l ps : List (Int × Int)} {i o : Int} (h : l.length + ps.length ≤ 4294967296) : m_generate_assembler_put (l, i, o) ps = some (l ++ ps, i, o) := by
  have hi : iter (m_generate_assembler_put_l1 ps) (0, l) = some (l ++ ps) := by
    have := iter_run (f := m_generate_assembler_put_l1 ps) (fun k => ((k : Int), l ++ ps.take k)) ps.length (by omega) (o := l ++ ps) (fun k hk => by
      rw [m_generate_assembler_put_l1, if_pos (by simp; omega)]
      dsimp only
      rw [idx_at hk, Option.bind_some, app_eq (by simp; omega), Option.bind_some, show (k : Int) + 1 = ((k + 1 : Nat) : Int) by omega, W_nat (by omega), List.take_succ_eq_append_getElem hk, List.append_assoc]) (by
      rw [m_generate_assembler_put_l1, if_neg (by simp)]
      simp)
    simpa using this
  rw [m_generate_assembler_put, hi]
  rfl
theorem memory_eq {l : List (Int × Int)} {i o k : Int} (h0 : 0 ≤ i ∧ i ≤ 1000000) (h1 : 0 ≤ o ∧ o ≤ 1000000) (h2 : 0 ≤ k ∧ k ≤ 1000000) : m_generate_assembler_memory (l, i, o) k = some (i + o + k) := by
  rw [m_generate_assembler_memory]
  dsimp only
  rw [W_of (x := i + o) (by omega) (by omega), W_of (by omega) (by omega)]
theorem output_eq {l : List (Int × Int)} {i o k : Int} (h0 : 0 ≤ i ∧ i ≤ 1000000) (h2 : 0 ≤ k ∧ k ≤ 1000000) : m_generate_assembler_output (l, i, o) k = some (i + k) := by
  rw [m_generate_assembler_output]
  dsimp only
  rw [W_of (by omega) (by omega)]
theorem edgeI_map (moved : Nat) (e : Nat × Nat) : (edgeI moved e).map insP = [(1, (e.1 : Int)), (4, (moved : Int)), (10, (e.1 : Int)), (9, (e.2 : Int)), (9, (moved : Int))] := rfl
theorem flat5 {moved : Nat} {E : List (Nat × Nat)} : ((E.flatMap (edgeI moved)).map insP).length = 5 * E.length := by rw [List.length_map, flatMap_len5]
theorem event_loop {l : List (Int × Int)} {M C moved : Nat} {E : List Ed} (hE : ∀ x ∈ E, 0 ≤ x.f ∧ x.f ≤ 100000 ∧ 0 ≤ x.t ∧ x.t ≤ 100000) (hM : M ≤ 100000) (hC : C ≤ 100000) (hl : l.length + 5 * E.length ≤ 4000000000) :
    iter (m_generate_assembler_event_l1 (moved : Int) (E.map edP)) (0, l, (M : Int), (C : Int)) = some (l ++ ((E.map fun x => (M + C + x.f.toNat, M + C + x.t.toNat)).flatMap (edgeI moved)).map insP, (M : Int), (C : Int)) := by
  have := iter_run (f := m_generate_assembler_event_l1 (moved : Int) (E.map edP)) (fun k => ((k : Int), l ++ (((E.take k).map fun x => (M + C + x.f.toNat, M + C + x.t.toNat)).flatMap (edgeI moved)).map insP, (M : Int), (C : Int))) E.length (by omega) (o := (l ++ ((E.map fun x => (M + C + x.f.toNat, M + C + x.t.toNat)).flatMap (edgeI moved)).map insP, (M : Int), (C : Int))) (fun k hk => by
    have hx := hE E[k] (List.getElem_mem hk)
    rw [m_generate_assembler_event_l1, if_pos (by simp; omega)]
    dsimp only
    rw [idx_at (by simpa using hk), Option.bind_some, List.getElem_map]
    dsimp only [edP]
    rw [memory_eq (by omega) (by omega) (by omega), Option.bind_some, memory_eq (by omega) (by omega) (by omega), Option.bind_some, put_eq (by simp only [List.length_append, flatMap_len5, List.length_map, List.length_take, List.length_cons, List.length_nil]; omega), Option.bind_some,
      show (k : Int) + 1 = ((k + 1 : Nat) : Int) by omega, W_nat (by omega), List.take_succ_eq_append_getElem hk, List.map_append, List.flatMap_append, List.map_append, List.append_assoc]
    have e1 : ((M + C + E[k].f.toNat : Nat) : Int) = M + C + E[k].f := by omega
    have e2 : ((M + C + E[k].t.toNat : Nat) : Int) = M + C + E[k].t := by omega
    rw [List.map_cons, List.map_nil, List.flatMap_cons, List.flatMap_nil, List.append_nil, edgeI_map]
    dsimp only
    rw [e1, e2]) (by
    rw [m_generate_assembler_event_l1, if_neg (by simp), List.take_length])
  simpa using this
theorem event_eq {l : List (Int × Int)} {M C i moved alarm : Nat} {E : List Ed} (hE : ∀ x ∈ E, 0 ≤ x.f ∧ x.f ≤ 100000 ∧ 0 ≤ x.t ∧ x.t ≤ 100000) (hM : M ≤ 100000) (hC : C ≤ 100000) (hl : l.length + 5 * E.length ≤ 3000000000) :
    m_generate_assembler_event (l, (M : Int), (C : Int)) (i : Int) (moved : Int) (alarm : Int) (E.map edP) =
      some (l ++ (eventI i moved alarm (E.map fun x => (M + C + x.f.toNat, M + C + x.t.toNat)) l.length).map insP, (M : Int), (C : Int)) := by
  have hX : ∀ X : List (Int × Int), X.length = 5 * E.length →
      (idx (l ++ [(2, (i : Int)), (12, 0)] ++ [(1, (i : Int)), (10, (moved : Int))] ++ X ++ [(2, (moved : Int)), (9, (alarm : Int))]) (W (((l ++ [(2, (i : Int)), (12, 0)]).length : Int) - 1))) = some (12, 0) ∧
      upd (l ++ [(2, (i : Int)), (12, 0)] ++ [(1, (i : Int)), (10, (moved : Int))] ++ X ++ [(2, (moved : Int)), (9, (alarm : Int))]) (W (((l ++ [(2, (i : Int)), (12, 0)]).length : Int) - 1)) (12, ((l ++ [(2, (i : Int)), (12, 0)] ++ [(1, (i : Int)), (10, (moved : Int))] ++ X ++ [(2, (moved : Int)), (9, (alarm : Int))]).length : Int)) =
        some (l ++ ([(2, (i : Int)), (12, ((l.length + 6 + 5 * E.length : Nat) : Int)), (1, (i : Int)), (10, (moved : Int))] ++ (X ++ [(2, (moved : Int)), (9, (alarm : Int))]))) := by
    intro X hX
    have e0 : W (((l ++ [(2, (i : Int)), (12, 0)]).length : Int) - 1) = ((l.length + 1 : Nat) : Int) := by
      rw [List.length_append, List.length_cons, List.length_cons, List.length_nil, show (((l.length + (0 + 1 + 1) : Nat) : Int) - 1) = ((l.length + 1 : Nat) : Int) by omega, W_nat (by omega)]
    rw [e0]
    have e1 : (l ++ [(2, (i : Int)), (12, 0)] ++ [(1, (i : Int)), (10, (moved : Int))] ++ X ++ [(2, (moved : Int)), (9, (alarm : Int))]) = l ++ ((2, (i : Int)) :: (12, 0) :: ([(1, (i : Int)), (10, (moved : Int))] ++ (X ++ [(2, (moved : Int)), (9, (alarm : Int))]))) := by simp
    rw [e1]
    constructor
    · rw [idx_nat, List.getElem?_append_right (by omega), show l.length + 1 - l.length = 1 by omega]
      rfl
    · unfold upd
      rw [if_pos ⟨by omega, by simp only [List.length_append, List.length_cons, List.length_nil]; omega⟩, Int.toNat_natCast, List.set_append_right _ _ (by omega), show l.length + 1 - l.length = 1 by omega]
      simp only [List.set_cons_succ, List.set_cons_zero, List.length_append, List.length_cons, List.length_nil, hX, List.cons_append, List.nil_append]
      congr 4
      simp only [Prod.mk.injEq, true_and]
      omega
  have hflat : (((E.map fun x => (M + C + x.f.toNat, M + C + x.t.toNat)).flatMap (edgeI moved)).map insP).length = 5 * E.length := by rw [flat5, List.length_map]
  rw [m_generate_assembler_event, put_eq (by simp; omega), Option.bind_some, put_eq (by simp; omega), Option.bind_some, event_loop hE hM hC (by simp; omega), Option.bind_some, put_eq (by simp only [List.length_append, List.length_map, flatMap_len5, List.length_cons, List.length_nil]; omega), Option.bind_some]
  dsimp only
  obtain ⟨g1, g2⟩ := hX _ hflat
  rw [g1, Option.bind_some]
  dsimp only
  rw [g2, Option.bind_some, eventI]
  simp only [List.map_append, List.map_cons, List.map_nil, insP, List.length_map]
end Go.Proofs.Ytkkemchihllklaa
