/- The inputs, and the scan. -/
import Derived.Test.YtkkemchihllklaaSf
namespace Go.Proofs.Ytkkemchihllklaa
open Go Go.RowKit

theorem fill_set {ys : List Bool} {k : Nat} (h : k < ys.length) : (ys.take k ++ List.replicate (ys.length - k) false).set k ys[k] = ys.take (k + 1) ++ List.replicate (ys.length - (k + 1)) false := by
  have hl : (ys.take k).length = k := by simp; omega
  rw [List.set_append_right _ _ (by omega), hl, Nat.sub_self, show ys.length - k = (ys.length - (k + 1)) + 1 by omega, List.replicate_succ, List.set_cons_zero, List.take_succ_eq_append_getElem h, List.append_assoc]
  rfl
theorem inputs_eq {p : Int × Int × Int × List Bool × List (Int × Int)} {al ctrl ev : List Int} {n : Int} (ha : al.length < 4294967296) (he : ev.length < 4294967296) (ia : Inc al) (ie : Inc ev) (hs : setErr 32 none ev = 0) (hb : subB ev al = true) :
    m_generate_Inputs (p, al, ctrl, n) ev = some (al.map (hasB ev), 0) := by
  have hi : iter (m_generate_Inputs_l1 (p, al, ctrl, n) ev) (0, List.replicate al.length false) = some (al.map (hasB ev)) := by
    have hml : (al.map (hasB ev)).length = al.length := List.length_map ..
    have e0 : ((0 : Int), List.replicate al.length false) = (fun k : Nat => ((k : Int), (al.map (hasB ev)).take k ++ List.replicate ((al.map (hasB ev)).length - k) false)) 0 := by simp
    refine Eq.trans (congrArg _ e0) (iter_run (f := m_generate_Inputs_l1 (p, al, ctrl, n) ev) (fun k : Nat => ((k : Int), (al.map (hasB ev)).take k ++ List.replicate ((al.map (hasB ev)).length - k) false)) al.length (by omega) (fun k hk => ?_) ?_)
    · rw [m_generate_Inputs_l1]
      dsimp only
      have hk2 : k < ((al.map (hasB ev)).take k ++ List.replicate ((al.map (hasB ev)).length - k) false).length := by simp; omega
      rw [if_pos (by simp; omega), idx_at hk, Option.bind_some, containsA_eq he ie, Option.bind_some, idx_at hk2, Option.bind_some, upd, if_pos ⟨by omega, by omega⟩, Option.bind_some, Int.toNat_natCast,
        show (k : Int) + 1 = ((k + 1 : Nat) : Int) by omega, W_nat (by omega), show hasB ev al[k] = (al.map (hasB ev))[k]'(by rw [hml]; exact hk) by simp, fill_set (by rw [hml]; exact hk)]
    · rw [m_generate_Inputs_l1]
      dsimp only
      rw [if_neg (by simp), hml, Nat.sub_self, List.take_of_length_le (by omega), List.replicate_zero, List.append_nil]
  rw [m_generate_Inputs]
  dsimp only
  rw [among_eq he ha ie ia hs hb, Option.bind_some, if_neg (by simp), mkL_eq (by omega) (by omega), Option.bind_some, Int.toNat_natCast, hi]
  rfl
/-- Three lists one behind the other. -/
theorem concat_eq {x y z : List Bool} (h : x.length + y.length + z.length ≤ 100000) : m_slices_Concat_bool [x, y, z] = some (x ++ y ++ z) := by
  have h1 : iter (m_slices_Concat_bool_l1 [x, y, z]) (0, 0) = some ((x.length + y.length + z.length : Nat) : Int) := by
    refine iter_of (n := 4) (by omega) ?_
    have hn : ∀ (i : Nat) (k : Nat) (l : List Bool), [x, y, z][i]? = some l → k + l.length ≤ 100000 → i < 3 → m_slices_Concat_bool_l1 [x, y, z] ((i : Int), (k : Int)) = some (.inl (((i + 1 : Nat) : Int), ((k + l.length : Nat) : Int))) := fun i k l hl hk hi => by
      rw [m_slices_Concat_bool_l1]
      dsimp only
      rw [if_pos (by simp; omega), idx_nat, hl, Option.bind_some, show (k : Int) + (l.length : Int) = ((k + l.length : Nat) : Int) by omega, W_nat (by omega), if_neg (by simp; omega), m_slices_Concat_bool_j1]
      dsimp only
      rw [show (i : Int) + 1 = ((i + 1 : Nat) : Int) by omega, W_nat (by omega)]
    rw [iterF_succ, show m_slices_Concat_bool_l1 [x, y, z] (0, 0) = _ from hn 0 0 x rfl (by omega) (by omega)]
    dsimp only
    rw [iterF_succ, hn (0 + 1) (0 + x.length) y rfl (by omega) (by omega)]
    dsimp only
    rw [iterF_succ, hn (0 + 1 + 1) (0 + x.length + y.length) z rfl (by omega) (by omega)]
    dsimp only
    rw [iterF_succ, m_slices_Concat_bool_l1, if_neg (by simp)]
    show some ((0 + x.length + y.length + z.length : Nat) : Int) = _
    rw [Nat.zero_add]
  have h2 : iter (m_slices_Concat_bool_l2 [x, y, z]) (0, ([] : List Bool)) = some (x ++ y ++ z) := by
    refine iter_of (n := 4) (by omega) ?_
    have hn : ∀ (i : Nat) (k l : List Bool), [x, y, z][i]? = some l → k.length + l.length ≤ 100000 → i < 3 → m_slices_Concat_bool_l2 [x, y, z] ((i : Int), k) = some (.inl (((i + 1 : Nat) : Int), k ++ l)) := fun i k l hl hk hi => by
      rw [m_slices_Concat_bool_l2]
      dsimp only
      rw [if_pos (by simp; omega), idx_nat, hl, Option.bind_some, app_eq (by omega), Option.bind_some, show (i : Int) + 1 = ((i + 1 : Nat) : Int) by omega, W_nat (by omega)]
    rw [iterF_succ, show m_slices_Concat_bool_l2 [x, y, z] (0, []) = _ from hn 0 [] x rfl (by simp; omega) (by omega)]
    dsimp only
    rw [iterF_succ, hn (0 + 1) ([] ++ x) y rfl (by simp; omega) (by omega)]
    dsimp only
    rw [iterF_succ, hn (0 + 1 + 1) ([] ++ x ++ y) z rfl (by simp; omega) (by omega)]
    dsimp only
    rw [iterF_succ, m_slices_Concat_bool_l2, if_neg (by simp)]
    rfl
  rw [m_slices_Concat_bool, h1, Option.bind_some, m_slices_Grow_bool, if_pos ⟨rfl, by omega, by omega⟩, Option.bind_some, h2]
  rfl
theorem begin_eq {m c n : Nat} {start : List Bool} {L : List Ins} (h : PrgIn m c n start L) {inp out mem : List Bool} (hi : inp.length = m) (ho : out.length = c) (hm : mem.length = n) :
    m_instruction_begin (prgP m c n start L) (out, mem) inp = some (inp ++ out ++ mem, 0) := by
  have h1 := h.hm; have h2 := h.hc; have h3 := h.hn
  rw [m_instruction_begin, pcheck_eq h, Option.bind_some, if_neg (by simp), if_neg (by simp [prgP, hi, ho, hm]), concat_eq (by show inp.length + out.length + mem.length ≤ _; omega)]
  rfl
/-- One round of a scan. -/
theorem scan_step {m c n : Nat} {start : List Bool} {L : List Ins} (h : PrgIn m c n start L) {T} (hT : m_instruction_operations = some T) {i : Nat} (hi : i < L.length) {acc : Bool} {xs : List Int} {b : List Bool} (hx : xs.length ≤ i) (hb : b.length = m + c + n) :
    m_instruction_scan_l1 (prgP m c n start L) T ((i : Int), acc, xs, b) = some (.inl (((insStep L[i] i acc b).1 : Int), (insStep L[i] i acc b).2.1, xs ++ [(i : Int)], (insStep L[i] i acc b).2.2)) := by
  have hlen := h.len
  have hk := h.ok i L[i] (List.getElem?_eq_getElem hi)
  obtain ⟨T', e, hT', hl, he, hcase⟩ := ops_at hk.op.1 hk.op.2
  rw [hT] at hT'
  cases hT'
  have hop := hk.op
  have hat : idx (prgP m c n start L).2.2.2.2 (i : Int) = some (insP L[i]) := by
    rw [idx_at (by simpa [prgP] using hi)]; simp [prgP]
  have hinc : W ((i : Int) + 1) = ((i + 1 : Nat) : Int) := by rw [show (i : Int) + 1 = ((i + 1 : Nat) : Int) by omega, W_nat (by omega)]
  rw [m_instruction_scan_l1]
  dsimp only
  rw [if_pos (by simp [prgP]; omega), app_eq (by simp; omega), Option.bind_some, hat, Option.bind_some, show idx T (W ((insP L[i]).1 - 1)) = some e from he, Option.bind_some, hinc]
  have hbit : L[i].op ≤ 10 → idx b (insP L[i]).2 = some (b.getD L[i].arg.toNat false) := fun h10 => by
    have h1 := hk.bit h10
    show idx b L[i].arg = _
    rw [show L[i].arg = (L[i].arg.toNat : Int) by omega, idx_at (by omega), Int.toNat_natCast, List.getD_eq_getElem?_getD, List.getElem?_eq_getElem (by omega)]
    rfl
  rcases hcase with ⟨h1, h2, h3, f, hf, hf2⟩ | ⟨h1, h1', h2, h3, f, hf, hf2⟩ | ⟨h1, h2, h3, f, hf, hf2⟩
  · rw [if_pos (by rw [hf]; rfl), hbit (by omega), Option.bind_some, hf, Option.bind_some, hf2 _ _ L[i].arg, Option.bind_some]
    have e1 : insNext L[i] i acc = i + 1 := by rw [insNext, if_pos ⟨hop.1, by omega⟩]
    have e2 : insBits L[i] acc b = b := by
      rw [insBits, if_neg (by omega), if_neg (by omega), if_neg (by omega), if_neg (by omega)]
    simp only [insStep, e1, e2]
  · have h10 := hk.bit h1'
    rw [if_neg (by rw [h2]; simp), if_pos (by rw [hf]; rfl), hbit h1', Option.bind_some, hf, Option.bind_some, hf2, Option.bind_some, Option.bind_some]
    have e1 : insNext L[i] i acc = i + 1 := by rw [insNext, if_pos ⟨hop.1, by omega⟩]
    have e2 : ∀ v, insAcc L[i] acc v = acc := fun v => by
      rw [insAcc, if_neg (by omega), if_neg (by omega), if_neg (by omega), if_neg (by omega), if_neg (by omega), if_neg (by omega)]
    have e3 := insBits_st h1 h1' L[i].arg acc b
    rw [show upd b (insP L[i]).2 (stB L[i].op acc (b.getD L[i].arg.toNat false)) = some (insBits L[i] acc b) from by
      rw [show insBits L[i] acc b = _ from e3]
      exact if_pos ⟨h10.1, by show L[i].arg < _; omega⟩, Option.bind_some]
    simp only [insStep, e1, e2]
  · have hj := hk.jump h1
    rw [if_neg (by rw [h2]; simp), if_neg (by rw [h3]; simp), hf, Option.bind_some, hf2, Option.bind_some]
    have e2 : ∀ v, insAcc L[i] acc v = acc := fun v => by
      rw [insAcc, if_neg (by omega), if_neg (by omega), if_neg (by omega), if_neg (by omega), if_neg (by omega), if_neg (by omega)]
    have e3 : insBits L[i] acc b = b := by
      rw [insBits, if_neg (by omega), if_neg (by omega), if_neg (by omega), if_neg (by omega)]
    have e1 : ((insNext L[i] i acc : Nat) : Int) = if (if L[i].op = 11 then true else if L[i].op = 12 then acc else !acc) = true then L[i].arg else ((i + 1 : Nat) : Int) := by
      rw [insNext, if_neg (by omega)]
      have ha : (L[i].arg.toNat : Int) = L[i].arg := by omega
      by_cases h11 : L[i].op = 11
      · rw [if_pos h11, if_pos h11, if_pos rfl, ha]
      · rw [if_neg h11, if_neg h11]
        by_cases h12 : L[i].op = 12
        · rw [if_pos h12, if_pos h12]
          cases acc
          · rfl
          · rw [if_pos rfl, if_pos rfl, ha]
        · rw [if_neg h12, if_neg h12]
          cases acc
          · show ((if false = true then i + 1 else L[i].arg.toNat : Nat) : Int) = _
            rw [if_neg (by simp)]
            exact ha
          · rfl
    simp only [insStep, e2, e3, e1]
    generalize (if L[i].op = 11 then true else if L[i].op = 12 then acc else !acc) = q
    cases q <;> rfl
end Go.Proofs.Ytkkemchihllklaa
