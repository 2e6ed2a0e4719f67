/- The check of a program, and a scan of its list. -/
import Derived.Test.YtkkemchihllklaaSd
import Derived.Test.YtkkemchihllklaaG8
namespace Go.Proofs.Ytkkemchihllklaa
open Go Go.RowKit

/-- A program as the printed functions have it. -/
def prgP (m c n : Nat) (start : List Bool) (L : List Ins) : Int × Int × Int × List Bool × List (Int × Int) := ((m : Int), (c : Int), (n : Int), start, L.map insP)
/-- What a store puts. -/
def stB (op : Int) (acc v : Bool) : Bool := if op = 7 then acc else if op = 8 then !acc else if op = 9 then v || acc else v && !acc
theorem insBits_st {op : Int} (h1 : 7 ≤ op) (h2 : op ≤ 10) (k : Int) (acc : Bool) (b : List Bool) : insBits ⟨op, k⟩ acc b = b.set k.toNat (stB op acc (b.getD k.toNat false)) := by
  have hc : op = 7 ∨ op = 8 ∨ op = 9 ∨ op = 10 := by omega
  rcases hc with rfl | rfl | rfl | rfl <;> rfl
/-- What the table of the operations says. -/
theorem ops_at {op : Int} (h1 : 1 ≤ op) (h2 : op ≤ 13) : ∃ T e, m_instruction_operations = some T ∧ T.length = 13 ∧ idx T (W (op - 1)) = some e ∧
    ((op ≤ 6 ∧ e.2.2.2.1 = none ∧ e.2.2.2.2 = none ∧ ∃ f, e.2.2.1 = some f ∧ ∀ acc v k, f acc v = some (insAcc ⟨op, k⟩ acc v)) ∨
     (7 ≤ op ∧ op ≤ 10 ∧ e.2.2.1 = none ∧ e.2.2.2.2 = none ∧ ∃ f, e.2.2.2.1 = some f ∧ ∀ acc v, f acc v = some (stB op acc v)) ∨
     (11 ≤ op ∧ e.2.2.1 = none ∧ e.2.2.2.1 = none ∧ ∃ f, e.2.2.2.2 = some f ∧ ∀ acc, f acc = some (if op = 11 then true else if op = 12 then acc else !acc))) := by
  have hc : op = 1 ∨ op = 2 ∨ op = 3 ∨ op = 4 ∨ op = 5 ∨ op = 6 ∨ op = 7 ∨ op = 8 ∨ op = 9 ∨ op = 10 ∨ op = 11 ∨ op = 12 ∨ op = 13 := by omega
  rcases hc with rfl | rfl | rfl | rfl | rfl | rfl | rfl | rfl | rfl | rfl | rfl | rfl | rfl
  all_goals refine ⟨_, _, rfl, rfl, rfl, ?_⟩
  · exact .inl ⟨by decide, rfl, rfl, _, rfl, fun _ _ _ => rfl⟩
  · exact .inl ⟨by decide, rfl, rfl, _, rfl, fun _ _ _ => rfl⟩
  · exact .inl ⟨by decide, rfl, rfl, _, rfl, fun _ _ _ => rfl⟩
  · exact .inl ⟨by decide, rfl, rfl, _, rfl, fun _ _ _ => rfl⟩
  · exact .inl ⟨by decide, rfl, rfl, _, rfl, fun _ _ _ => rfl⟩
  · exact .inl ⟨by decide, rfl, rfl, _, rfl, fun _ _ _ => rfl⟩
  · exact .inr (.inl ⟨by decide, by decide, rfl, rfl, _, rfl, fun _ _ => rfl⟩)
  · exact .inr (.inl ⟨by decide, by decide, rfl, rfl, _, rfl, fun _ _ => rfl⟩)
  · exact .inr (.inl ⟨by decide, by decide, rfl, rfl, _, rfl, fun _ _ => rfl⟩)
  · exact .inr (.inl ⟨by decide, by decide, rfl, rfl, _, rfl, fun _ _ => rfl⟩)
  · exact .inr (.inr ⟨by decide, rfl, rfl, _, rfl, fun _ => rfl⟩)
  · exact .inr (.inr ⟨by decide, rfl, rfl, _, rfl, fun _ => rfl⟩)
  · exact .inr (.inr ⟨by decide, rfl, rfl, _, rfl, fun _ => rfl⟩)
/-- A valid program. -/
structure PrgIn (m c n : Nat) (start : List Bool) (L : List Ins) : Prop where
  hm : m ≤ 256
  hc : c ≤ 256
  hn : n ≤ 256
  st : start.length = n
  len : L.length ≤ 2048
  ok : ∀ (i : Nat) (x : Ins), L[i]? = some x → InsOk L.length (m + c + n) m i x
section
variable {m c n : Nat} {start : List Bool} {L : List Ins}
theorem head_eq (h : PrgIn m c n start L) : m_instruction_checkHead (prgP m c n start L) = some 0 := by
  have h1 := h.hm; have h2 := h.hc; have h3 := h.hn; have h4 := h.st; have h5 := h.len
  have hi : iter (m_instruction_checkHead_l1 (prgP m c n start L)) 0 = some (.inl ()) := by
    refine iter_run (f := m_instruction_checkHead_l1 (prgP m c n start L)) (fun k => (k : Int)) 3 (by omega) (fun k hk => ?_) ?_
    · rw [m_instruction_checkHead_l1, if_pos (by simp; omega)]
      have hx : ∃ x : Nat, idx ([(prgP m c n start L).1, (prgP m c n start L).2.1, (prgP m c n start L).2.2.1] : List Int) (k : Int) = some (x : Int) ∧ x ≤ 256 := by
        have : k = 0 ∨ k = 1 ∨ k = 2 := by omega
        rcases this with rfl | rfl | rfl
        · exact ⟨m, rfl, h1⟩
        · exact ⟨c, rfl, h2⟩
        · exact ⟨n, rfl, h3⟩
      obtain ⟨x, hx, hle⟩ := hx
      rw [hx, Option.bind_some, if_neg (by simp only [Bool.or_eq_true, decide_eq_true_eq]; omega), show (k : Int) + 1 = ((k + 1 : Nat) : Int) by omega, W_nat (by omega)]
    · rfl
  rw [m_instruction_checkHead, hi, Option.bind_some]
  dsimp only
  rw [if_neg (by simp [prgP, h4]), if_neg (by simp [prgP]; omega)]
theorem width_eq (h : PrgIn m c n start L) : m_instruction_width (prgP m c n start L) = some ((m + c + n : Nat) : Int) := by
  have h1 := h.hm; have h2 := h.hc; have h3 := h.hn
  rw [m_instruction_width]
  dsimp only [prgP]
  rw [W_of (x := (m : Int) + c) (by omega) (by omega), W_of (by omega) (by omega)]
  simp
theorem ins_eq (h : PrgIn m c n start L) {i : Nat} (hi : i < L.length) : m_instruction_checkInstruction (prgP m c n start L) (i : Int) = some 0 := by
  have hk := h.ok i L[i] (List.getElem?_eq_getElem hi)
  obtain ⟨T, e, hT, hl, he, hcase⟩ := ops_at hk.op.1 hk.op.2
  have hat : idx (prgP m c n start L).2.2.2.2 (i : Int) = some (insP L[i]) := by
    rw [idx_at (by simpa [prgP] using hi)]; simp [prgP]
  have hop := hk.op
  rw [m_instruction_checkInstruction, hat, Option.bind_some, hT, Option.bind_some, if_neg (by rw [hl]; simp only [Bool.or_eq_true, decide_eq_true_eq]; show ¬ (L[i].op < 1 ∨ L[i].op > ((13 : Nat) : Int)); omega),
    show idx T (W ((insP L[i]).1 - 1)) = some e from he, Option.bind_some]
  have hw := width_eq h
  have hj : ∀ b : Bool, m_instruction_checkInstruction_j1 (prgP m c n start L) (insP L[i]) e b = if b then some 2 else if (e.2.2.2.1.isSome && decide (L[i].arg < (m : Int))) then some 19 else some 0 := fun b => rfl
  have hbit : e.2.2.2.2 = none → L[i].op ≤ 10 → (e.2.2.2.1.isSome = true → 7 ≤ L[i].op) → (if e.2.2.2.2.isSome = true then (if ((decide ((insP L[i]).2 ≤ (i : Int))) || (decide ((insP L[i]).2 > ((prgP m c n start L).2.2.2.2.length : Int)))) = true then some 2 else some 0) else if decide ((insP L[i]).2 < 0) = true then m_instruction_checkInstruction_j1 (prgP m c n start L) (insP L[i]) e true else (m_instruction_width (prgP m c n start L)).bind fun r51 => m_instruction_checkInstruction_j1 (prgP m c n start L) (insP L[i]) e (decide ((insP L[i]).2 ≥ r51))) = some 0 := by
    intro h1 h2 h3
    have hb := hk.bit h2
    rw [if_neg (by rw [h1]; simp), if_neg (show ¬ decide ((insP L[i]).2 < 0) = true by rw [decide_eq_true_eq]; show ¬ L[i].arg < 0; omega), hw, Option.bind_some, hj, if_neg (show ¬ decide ((insP L[i]).2 ≥ ((m + c + n : Nat) : Int)) = true by rw [decide_eq_true_eq]; show ¬ L[i].arg ≥ _; omega)]
    rw [if_neg]
    rw [Bool.and_eq_true, decide_eq_true_eq]
    rintro ⟨h4, h5⟩
    have := hk.store (h3 h4) h2
    omega
  rcases hcase with ⟨h1, h2, h3, _⟩ | ⟨h1, h2, h3, h4, _⟩ | ⟨h1, h2, h3, f, h4, _⟩
  · exact hbit h3 (by omega) (fun h => by rw [h2] at h; cases h)
  · exact hbit h4 h2 (fun _ => h1)
  · have hb := hk.jump h1
    have hlen : (prgP m c n start L).2.2.2.2.length = L.length := by simp [prgP]
    rw [if_pos (by rw [h4]; rfl), if_neg]
    rw [hlen]
    simp only [Bool.or_eq_true, decide_eq_true_eq]
    show ¬ (L[i].arg ≤ (i : Int) ∨ L[i].arg > (L.length : Int))
    omega
theorem pcheck_eq (h : PrgIn m c n start L) : m_instruction_Check (prgP m c n start L) = some 0 := by
  have h5 := h.len
  have hlen : (prgP m c n start L).2.2.2.2.length = L.length := by simp [prgP]
  have hi : iter (m_instruction_Check_l1 (prgP m c n start L)) 0 = some (.inl ()) := by
    refine iter_run (f := m_instruction_Check_l1 (prgP m c n start L)) (fun k => (k : Int)) L.length (by omega) (fun k hk => ?_) ?_
    · rw [m_instruction_Check_l1, if_pos (by rw [hlen]; simp; omega), ins_eq h hk, Option.bind_some, if_neg (by simp), show (k : Int) + 1 = ((k + 1 : Nat) : Int) by omega, W_nat (by omega)]
    · rw [m_instruction_Check_l1, if_neg (by rw [hlen]; simp)]
  rw [m_instruction_Check, head_eq h, Option.bind_some, if_neg (by simp), hi]
  rfl
theorem start_eq (h : PrgIn m c n start L) : m_instruction_Start (prgP m c n start L) = some ((List.replicate c false, start), 0) := by
  have h2 := h.hc; have h3 := h.hn; have h4 := h.st
  rw [m_instruction_Start, pcheck_eq h, Option.bind_some, if_neg (by simp)]
  dsimp only [prgP]
  rw [mkL_eq (by omega) (by omega), Option.bind_some, app_eq (by simp; omega), Option.bind_some]
  simp
end
end Go.Proofs.Ytkkemchihllklaa
