/- A scan of a program, and what a state shows. -/
import Derived.Test.YtkkemchihllklaaSg
import Derived.Test.YtkkemchihllklaaG9
namespace Go.Proofs.Ytkkemchihllklaa
open Go Go.RowKit

theorem PrgIn.fwd {m c n : Nat} {start : List Bool} {L : List Ins} (h : PrgIn m c n start L) : Fwd L := fun i x hx ho => by
  have hk := h.ok i x hx
  have := hk.op
  exact (hk.jump (by omega)).1
theorem insBits_len (x : Ins) (acc : Bool) (b : List Bool) : (insBits x acc b).length = b.length := by
  unfold insBits
  split
  · simp
  · split
    · simp
    · split
      · simp
      · split <;> simp
theorem scan_go {m c n : Nat} {start : List Bool} {L : List Ins} (h : PrgIn m c n start L) {T} (hT : m_instruction_operations = some T) : ∀ (f i : Nat) (acc : Bool) (xs : List Int) (b : List Bool), L.length ≤ i + f → xs.length ≤ i → b.length = m + c + n →
    (evalAt L i acc b).length = b.length ∧ ∃ ys, iterF (m_instruction_scan_l1 (prgP m c n start L) T) (f + 1) ((i : Int), acc, xs, b) = some (ys, evalAt L i acc b) := by
  intro f
  induction f with
  | zero =>
    intro i acc xs b h1 h2 h3
    rw [evalAt_end (by omega)]
    refine ⟨rfl, xs, ?_⟩
    rw [iterF_succ, m_instruction_scan_l1]
    dsimp only
    rw [if_neg (by simp [prgP]; omega)]
  | succ f ih =>
    intro i acc xs b h1 h2 h3
    by_cases hi : i < L.length
    · have hx : L[i]? = some L[i] := List.getElem?_eq_getElem hi
      have hg := insStep_gt h.fwd hx acc b
      have hl : (insStep L[i] i acc b).2.2.length = b.length := insBits_len ..
      obtain ⟨e1, ys, e2⟩ := ih (insStep L[i] i acc b).1 (insStep L[i] i acc b).2.1 (xs ++ [(i : Int)]) (insStep L[i] i acc b).2.2 (by omega) (by simp; omega) (by omega)
      rw [evalAt_step h.fwd hx, iterF_succ, scan_step h hT hi h2 h3]
      exact ⟨by omega, ys, e2⟩
    · rw [evalAt_end (by omega)]
      refine ⟨rfl, xs, ?_⟩
      rw [iterF_succ, m_instruction_scan_l1]
      dsimp only
      rw [if_neg (by simp [prgP]; omega)]
theorem ops_some : ∃ T, m_instruction_operations = some T := by
  obtain ⟨T, _, h, _⟩ := ops_at (op := 1) (by omega) (by omega)
  exact ⟨T, h⟩
theorem pscan_eq {m c n : Nat} {start : List Bool} {L : List Ins} (h : PrgIn m c n start L) {b : List Bool} (hb : b.length = m + c + n) : (evalAt L 0 false b).length = b.length ∧ ∃ ys, m_instruction_scan (prgP m c n start L) b = some (ys, evalAt L 0 false b) := by
  obtain ⟨T, hT⟩ := ops_some
  obtain ⟨h1, ys, h2⟩ := scan_go h hT L.length 0 false [] b (by omega) (by simp) hb
  have h5 := h.len
  refine ⟨h1, ys, ?_⟩
  rw [m_instruction_scan, hT, Option.bind_some, show iter (m_instruction_scan_l1 (prgP m c n start L) T) (0, false, ([] : List Int), b) = _ from iter_of (by omega) h2]
  rfl
theorem pstate_eq {m c n : Nat} {start : List Bool} {L : List Ins} (h : PrgIn m c n start L) {b : List Bool} (hb : b.length = m + c + n) : m_instruction_state (prgP m c n start L) b = some ((b.drop m).take c, b.drop (m + c)) := by
  have h1 := h.hm; have h2 := h.hc; have h3 := h.hn
  rw [m_instruction_state]
  dsimp only [prgP]
  rw [show (m : Int) + c = ((m + c : Nat) : Int) by omega, W_nat (by omega), slc3, if_pos ⟨by omega, by omega, by omega, by omega⟩, Option.bind_some, slc3, if_pos ⟨by omega, by omega, by omega, by omega⟩, Option.bind_some,
    Int.toNat_natCast, Int.toNat_natCast, Int.toNat_natCast, List.drop_take, List.take_of_length_le (Nat.le_refl _), show m + c - m = c by omega]
/-- A scan of a program. -/
theorem iscan_eq {m c n : Nat} {start : List Bool} {L : List Ins} (h : PrgIn m c n start L) {inp out mem : List Bool} (hi : inp.length = m) (ho : out.length = c) (hm : mem.length = n) :
    m_instruction_Scan (prgP m c n start L) (out, mem) inp = some ((((evalAt L 0 false (inp ++ out ++ mem)).drop m).take c, (evalAt L 0 false (inp ++ out ++ mem)).drop (m + c)), 0) := by
  have hb : (inp ++ out ++ mem).length = m + c + n := by simp; omega
  obtain ⟨h1, ys, h2⟩ := pscan_eq h hb
  rw [m_instruction_Scan, begin_eq h hi ho hm, Option.bind_some, if_neg (by simp)]
  dsimp only
  rw [h2, Option.bind_some]
  dsimp only
  rw [lenEq, if_pos h1, Option.bind_some, pstate_eq h (by omega)]
  rfl
section
variable {a : Aut} {ctrl : List Int} {n : Nat}
/-- The generated program is valid. -/
theorem genP_in (h : GenIn a ctrl n) (ia : Inc a.al) (ic : Inc ctrl) : PrgIn a.al.length (ctrl.length + 1) (n + 1) (true :: List.replicate n false) (genP a ctrl) := by
  have h0 := h.n0; have h1 := h.n1; have h2 := h.es; have h3 := h.al; have h4 := h.ct; have h5 := h.hn
  have h6 := genP_len ia ic (a := a)
  exact ⟨by omega, by omega, by omega, by simp, by omega, genP_ok h5 h.ed⟩
theorem gscan_eq (h : GenIn a ctrl n) (ia : Inc a.al) (ic : Inc ctrl) {ev : List Int} (ie : Inc ev) (hl : ev.length < 4294967296) (he : setErr 32 none ev = 0) (hs : subB ev a.al = true) {out mem : List Bool} (ho : out.length = ctrl.length + 1) (hm : mem.length = n + 1) :
    m_generate_Scan (codeP a ctrl n) (out, mem) ev = some ((((evalAt (genP a ctrl) 0 false (a.al.map (hasB ev) ++ out ++ mem)).drop a.al.length).take (ctrl.length + 1), (evalAt (genP a ctrl) 0 false (a.al.map (hasB ev) ++ out ++ mem)).drop (a.al.length + (ctrl.length + 1))), 0) := by
  have h3 := h.al
  rw [m_generate_Scan, codeP, inputs_eq (by omega) hl ia ie he hs, Option.bind_some, if_neg (by simp)]
  show (m_instruction_Scan (prgP a.al.length (ctrl.length + 1) (n + 1) (true :: List.replicate n false) (genP a ctrl)) (out, mem) (a.al.map (hasB ev))).bind (fun r => some r) = _
  rw [iscan_eq (genP_in h ia ic) (by simp) ho hm]
  rfl
theorem fits_eq {out mem : List Bool} (ho : out.length = ctrl.length + 1) (hm : mem.length = n + 1) : m_generate_fits (codeP a ctrl n) (out, mem) = some 0 := by
  rw [m_generate_fits, if_neg (by simp [codeP, ho, hm])]
theorem alarmed_eq (h : GenIn a ctrl n) {out mem : List Bool} (ho : out.length = ctrl.length + 1) (hm : mem.length = n + 1) : m_generate_Alarmed (codeP a ctrl n) (out, mem) = some (out.getD ctrl.length false, 0) := by
  rw [m_generate_Alarmed, fits_eq ho hm, Option.bind_some, if_neg (by simp), show idx (out, mem).1 ((codeP a ctrl n).2.2.1.length : Int) = some (out[ctrl.length]'(by omega)) from idx_at (xs := out) (i := ctrl.length) (by omega), Option.bind_some, List.getD_eq_getElem?_getD, List.getElem?_eq_getElem (by omega)]
  rfl
theorem enabled_eq (h : GenIn a ctrl n) {out mem : List Bool} (ho : out.length = ctrl.length + 1) (hm : mem.length = n + 1) {q : Int → Bool} (hq : ∀ k, k < ctrl.length → out.getD k false = q (ctrl.getD k 0)) :
    m_generate_Enabled (codeP a ctrl n) (out, mem) = some (ctrl.filter q, 0) := by
  have h4 := h.ct
  have hi : iter (m_generate_Enabled_l1 (codeP a ctrl n) (out, mem)) (0, ([] : List Int)) = some (ctrl.filter q) := by
    have e0 : ((0 : Int), ([] : List Int)) = (fun k : Nat => ((k : Int), (ctrl.take k).filter q)) 0 := by simp
    refine Eq.trans (congrArg _ e0) (iter_run (f := m_generate_Enabled_l1 (codeP a ctrl n) (out, mem)) (fun k : Nat => ((k : Int), (ctrl.take k).filter q)) ctrl.length (by omega) (fun k hk => ?_) ?_)
    · rw [m_generate_Enabled_l1]
      dsimp only
      have ht : (ctrl.take (k + 1)).filter q = (ctrl.take k).filter q ++ (if q ctrl[k] then [ctrl[k]] else []) := by
        rw [List.take_succ_eq_append_getElem hk, List.filter_append]
        cases hc : q ctrl[k] <;> simp [hc]
      have hk3 : out[k]'(by omega) = q ctrl[k] := by
        have := hq k hk
        rwa [List.getD_eq_getElem?_getD, List.getElem?_eq_getElem (by omega), List.getD_eq_getElem?_getD, List.getElem?_eq_getElem hk] at this
      have hlen : ((ctrl.take k).filter q).length ≤ 32 := Nat.le_trans (List.length_filter_le ..) (by simp; omega)
      rw [if_pos (show decide ((k : Int) < ((codeP a ctrl n).2.2.1.length : Int)) = true from decide_eq_true (show (k : Int) < (ctrl.length : Int) by omega)), show idx (codeP a ctrl n).2.2.1 (k : Int) = some ctrl[k] from idx_at hk, Option.bind_some, idx_at (by omega), Option.bind_some, hk3, ht]
      cases hc : q ctrl[k] with
      | true =>
        rw [if_pos rfl, app_eq (by simp; omega), Option.bind_some, m_generate_Enabled_j1, show (k : Int) + 1 = ((k + 1 : Nat) : Int) by omega, W_nat (by omega)]
        rfl
      | false =>
        rw [if_neg (by simp), m_generate_Enabled_j1, show (k : Int) + 1 = ((k + 1 : Nat) : Int) by omega, W_nat (by omega), if_neg (by simp), List.append_nil]
    · rw [m_generate_Enabled_l1]
      dsimp only
      rw [if_neg (show ¬ decide ((ctrl.length : Int) < ((codeP a ctrl n).2.2.1.length : Int)) = true from by rw [decide_eq_true_eq]; show ¬ (ctrl.length : Int) < (ctrl.length : Int); omega), List.take_of_length_le (Nat.le_refl _)]
  rw [m_generate_Enabled, fits_eq ho hm, Option.bind_some, if_neg (by simp), hi]
  rfl
theorem gstate_eq (h : GenIn a ctrl n) {out mem : List Bool} (ho : out.length = ctrl.length + 1) (hm : mem.length = n + 1) {s : Nat} (hs : s < n) (hq : ∀ k, k < n → mem.getD k false = decide (k = s)) :
    m_generate_State (codeP a ctrl n) (out, mem) = some ((s : Int), 0) := by
  have h1 := h.n1
  have hl : (mem.take n).length = n := by simp; omega
  have hi : iter (m_generate_State_l1 (mem.take n)) (0, 0, 0) = some (1, (s : Int)) := by
    have e0 : ((0 : Int), (0 : Int), (0 : Int)) = (fun k : Nat => ((k : Int), (if s < k then 1 else 0 : Int), (if s < k then (s : Int) else 0))) 0 := by simp
    refine Eq.trans (congrArg _ e0) (iter_run (f := m_generate_State_l1 (mem.take n)) (fun k : Nat => ((k : Int), (if s < k then 1 else 0 : Int), (if s < k then (s : Int) else 0))) n (by omega) (fun k hk => ?_) ?_)
    · rw [m_generate_State_l1]
      dsimp only
      have hk3 : (mem.take n)[k]'(by omega) = decide (k = s) := by
        have := hq k hk
        rw [List.getElem_take]
        rwa [List.getD_eq_getElem?_getD, List.getElem?_eq_getElem (by omega)] at this
      rw [if_pos (by rw [hl]; simp; omega), idx_at (by omega), Option.bind_some, hk3]
      by_cases hks : k = s
      · subst hks
        rw [if_pos (by simp), if_neg (by omega), if_neg (by omega), if_pos (by omega), if_pos (by omega), m_generate_State_j1, show (k : Int) + 1 = ((k + 1 : Nat) : Int) by omega, W_nat (by omega)]
        rfl
      · rw [if_neg (by simpa using hks), m_generate_State_j1, show (k : Int) + 1 = ((k + 1 : Nat) : Int) by omega, W_nat (by omega)]
        by_cases hsk : s < k
        · rw [if_pos hsk, if_pos hsk, if_pos (by omega), if_pos (by omega)]
        · rw [if_neg hsk, if_neg hsk, if_neg (by omega), if_neg (by omega)]
    · rw [m_generate_State_l1]
      dsimp only
      rw [if_neg (by rw [hl]; simp), if_pos hs, if_pos hs]
  rw [m_generate_State, fits_eq ho hm, Option.bind_some, if_neg (by simp), show slc (out, mem).2 0 (codeP a ctrl n).2.2.2 = some (mem.take n) from by
    show slc mem 0 (n : Int) = _
    rw [slc, if_pos ⟨by omega, by omega, by omega⟩]; simp, Option.bind_some, hi, Option.bind_some, if_neg (by simp)]
end
end Go.Proofs.Ytkkemchihllklaa
