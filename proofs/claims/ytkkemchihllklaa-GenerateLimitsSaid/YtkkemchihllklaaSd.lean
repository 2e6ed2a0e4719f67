/- What Generate computes, of what it takes. -/
import Derived.Test.YtkkemchihllklaaSc
namespace Go.Proofs.Ytkkemchihllklaa
open Go Go.RowKit

theorem eventsI_snoc (moved alarm : Nat) : ∀ (l : List (Nat × List (Nat × Nat))) (x : Nat × List (Nat × Nat)) (s : Nat), eventsI moved alarm (l ++ [x]) s = eventsI moved alarm l s ++ eventI x.1 moved alarm x.2 (s + (eventsI moved alarm l s).length)
  | [], x, s => by simp [eventsI]
  | (i, es) :: l, x, s => by
    rw [List.cons_append, eventsI, eventsI, eventsI_snoc moved alarm l x, List.append_assoc, List.length_append, eventI_len]
    congr 3
    omega
theorem commandsI_snoc (l : List (Nat × List Nat)) (x : Nat × List Nat) : commandsI (l ++ [x]) = commandsI l ++ commandI x.1 x.2 := by simp [commandsI]
theorem commandI_le (o : Nat) (ms : List Nat) : (commandI o ms).length ≤ ms.length + 3 := by cases ms <;> simp [commandI]
/-- What Generate asks of its arguments. -/
structure GenIn (a : Aut) (ctrl : List Int) (n : Nat) : Prop where
  hn : a.n = n
  n0 : 0 < n
  n1 : n ≤ 64
  es : a.es.length ≤ 256
  al : a.al.length ≤ 32
  ct : ctrl.length ≤ 32
  ed : ∀ x ∈ a.es, 0 ≤ x.f ∧ x.f < (n : Int) ∧ 0 ≤ x.t ∧ x.t < (n : Int)
def shiftE (a : Aut) (ctrl : List Int) : List (Nat × List (Nat × Nat)) := (evsOf a).map fun x => (x.1, x.2.map fun e => (a.al.length + (ctrl.length + 1) + e.1, a.al.length + (ctrl.length + 1) + e.2))
def shiftC (a : Aut) (ctrl : List Int) : List (Nat × List Nat) := (cmsOf a ctrl).map fun x => (a.al.length + x.1, x.2.map fun y => a.al.length + (ctrl.length + 1) + y)
section
variable {a : Aut} {ctrl : List Int} {n : Nat}
theorem shiftE_len : (shiftE a ctrl).length = a.al.length := by simp [shiftE, evsOf]
theorem shiftC_len : (shiftC a ctrl).length = ctrl.length := by simp [shiftC, cmsOf]
theorem shiftE_at {k : Nat} (hk : k < a.al.length) : (shiftE a ctrl)[k]'(by rw [shiftE_len]; exact hk) = (k, (a.es.filter fun x => x.e == a.al[k]).map fun x => (a.al.length + (ctrl.length + 1) + x.f.toNat, a.al.length + (ctrl.length + 1) + x.t.toNat)) := by
  simp [shiftE, evsOf, List.getD_eq_getElem?_getD, hk, List.map_map, Function.comp_def]
theorem shiftC_at {k : Nat} (hk : k < ctrl.length) : (shiftC a ctrl)[k]'(by rw [shiftC_len]; exact hk) = (a.al.length + k, (a.es.filter fun x => x.e == ctrl[k]).map fun x => a.al.length + (ctrl.length + 1) + x.f.toNat) := by
  simp [shiftC, cmsOf, List.getD_eq_getElem?_getD, hk, List.map_map, Function.comp_def]
theorem filt_le (k : Int) : (a.es.filter fun x => x.e == k).length ≤ a.es.length := List.length_filter_le _ _
theorem gen_len {moved alarm : Nat} (h : GenIn a ctrl n) : ∀ k, k ≤ a.al.length → (eventsI moved alarm ((shiftE a ctrl).take k) 0).length ≤ k * 2000
  | 0, _ => by simp [eventsI]
  | k + 1, hk => by
    have ih := gen_len (moved := moved) (alarm := alarm) h k (by omega)
    rw [List.take_succ_eq_append_getElem (by rw [shiftE_len]; omega), eventsI_snoc, List.length_append, eventI_len, shiftE_at (by omega)]
    have := filt_le (a := a) a.al[k]
    have := h.es
    simp only [List.length_map]
    omega
theorem gen_events (h : GenIn a ctrl n) : iter (m_generate_Generate_l2 (autP a) ctrl (gather (fun x => x.f) a.es, gather edP a.es)) (0, ([] : List (Int × Int)), (a.al.length : Int), ((ctrl.length + 1 : Nat) : Int)) =
    some ((eventsI (a.al.length + (ctrl.length + 1) + n) (a.al.length + ctrl.length) (shiftE a ctrl) 0).map insP, (a.al.length : Int), ((ctrl.length + 1 : Nat) : Int)) := by
  have h1 := h.n1; have h2 := h.es; have h3 := h.al; have h4 := h.ct; have h5 := h.hn
  refine iter_run (f := m_generate_Generate_l2 (autP a) ctrl (gather (fun x => x.f) a.es, gather edP a.es)) (fun k => ((k : Int), (eventsI (a.al.length + (ctrl.length + 1) + n) (a.al.length + ctrl.length) ((shiftE a ctrl).take k) 0).map insP, (a.al.length : Int), ((ctrl.length + 1 : Nat) : Int))) a.al.length (by omega) (fun k hk => ?_) ?_
  · rw [m_generate_Generate_l2, if_pos (by simp [autP]; omega)]
    dsimp only [autP]
    have hg := gen_len (moved := a.al.length + (ctrl.length + 1) + n) (alarm := a.al.length + ctrl.length) h k (by omega)
    have hf := filt_le (a := a) a.al[k]
    rw [idx_at hk, Option.bind_some, memory_eq (by omega) (by omega) (by omega), Option.bind_some, output_eq (by omega) (by omega), Option.bind_some,
      show mgetD [] (gather edP a.es) a.al[k] = (a.es.filter fun x => x.e == a.al[k]).map edP from by rw [gather, gather_get]; rfl,
      show (a.al.length : Int) + ((ctrl.length + 1 : Nat) : Int) + a.n = ((a.al.length + (ctrl.length + 1) + n : Nat) : Int) by omega,
      show (a.al.length : Int) + (ctrl.length : Int) = ((a.al.length + ctrl.length : Nat) : Int) by omega,
      event_eq (fun x hx => by have := h.ed x (List.mem_filter.1 hx).1; omega) (by omega) (by omega) (by rw [List.length_map]; omega), Option.bind_some,
      show (k : Int) + 1 = ((k + 1 : Nat) : Int) by omega, W_nat (by omega), List.take_succ_eq_append_getElem (by rw [shiftE_len]; exact hk), eventsI_snoc, List.map_append, shiftE_at hk, Nat.zero_add, List.length_map]
  · rw [m_generate_Generate_l2, if_neg (by simp [autP]), List.take_of_length_le (by rw [shiftE_len]; omega)]
set_option maxHeartbeats 1000000 in
theorem gen_commands (h : GenIn a ctrl n) {L : List (Int × Int)} (hL : L.length ≤ 100000) : iter (m_generate_Generate_l3 ctrl (gather (fun x => x.f) a.es, gather edP a.es)) (0, L, (a.al.length : Int), ((ctrl.length + 1 : Nat) : Int)) =
    some (L ++ (commandsI (shiftC a ctrl)).map insP, (a.al.length : Int), ((ctrl.length + 1 : Nat) : Int)) := by
  have h1 := h.n1; have h2 := h.es; have h3 := h.al; have h4 := h.ct; have h5 := h.hn
  have hcl : ∀ k, k ≤ ctrl.length → (commandsI ((shiftC a ctrl).take k)).length ≤ k * 2000 := by
    intro k
    induction k with
    | zero => intro _; simp [commandsI]
    | succ k ih =>
      intro hk
      have := ih (by omega)
      rw [List.take_succ_eq_append_getElem (by rw [shiftC_len]; omega)]
      rw [commandsI_snoc, List.length_append, shiftC_at (by omega)]
      have hf := filt_le (a := a) ctrl[k]
      have := commandI_le (a.al.length + k) ((a.es.filter fun x => x.e == ctrl[k]).map fun x => a.al.length + (ctrl.length + 1) + x.f.toNat)
      rw [List.length_map] at this
      dsimp only
      omega
  have key := iter_run (f := m_generate_Generate_l3 ctrl (gather (fun x => x.f) a.es, gather edP a.es)) (fun k => ((k : Int), L ++ (commandsI ((shiftC a ctrl).take k)).map insP, (a.al.length : Int), ((ctrl.length + 1 : Nat) : Int))) ctrl.length (by omega) (o := (L ++ (commandsI (shiftC a ctrl)).map insP, (a.al.length : Int), ((ctrl.length + 1 : Nat) : Int))) (fun k hk => by
    rw [m_generate_Generate_l3, if_pos (by simp; omega)]
    dsimp only
    have hg := hcl k (by omega)
    have hf := filt_le (a := a) ctrl[k]
    have hms : mgetD [] (gather (fun x => x.f) a.es) ctrl[k] = (((a.es.filter fun x => x.e == ctrl[k]).map fun x => x.f.toNat).map fun k : Nat => (k : Int)) := by
      rw [gather, gather_get, List.map_map]
      simp only [mgetD, List.nil_append]
      refine List.map_congr_left fun x hx => ?_
      have := h.ed x (List.mem_filter.1 hx).1
      simp only [Function.comp_def]
      omega
    rw [idx_at hk, Option.bind_some, output_eq (by omega) (by omega), Option.bind_some, hms,
      show (a.al.length : Int) + (k : Int) = ((a.al.length + k : Nat) : Int) by omega,
      command_eq (fun x hx => by
        obtain ⟨y, hy, rfl⟩ := List.mem_map.1 hx
        have := h.ed y (List.mem_filter.1 hy).1
        omega) (by omega) (by omega) (by simp only [List.length_append, List.length_map]; omega), Option.bind_some,
      show (k : Int) + 1 = ((k + 1 : Nat) : Int) by omega, W_nat (by omega), List.take_succ_eq_append_getElem (by rw [shiftC_len]; exact hk), List.append_assoc, ← List.map_append]
    rw [commandsI_snoc, shiftC_at hk, List.map_map]
    rfl) (by
    rw [m_generate_Generate_l3, if_neg (by simp), List.take_of_length_le (by rw [shiftC_len]; omega)])
  rw [List.take_zero] at key
  simpa [commandsI] using key
theorem clone_eq {xs : List Int} (h : xs.length ≤ 4294967296) : m_slices_Clone_int xs = some xs := by
  rw [m_slices_Clone_int, app_eq (by simpa using h)]; rfl
/-- The code of a supervisor. -/
def codeP (a : Aut) (ctrl : List Int) (n : Nat) : (Int × Int × Int × List Bool × List (Int × Int)) × List Int × List Int × Int :=
  (((a.al.length : Int), ((ctrl.length + 1 : Nat) : Int), ((n + 1 : Nat) : Int), true :: List.replicate n false, (genP a ctrl).map insP), a.al, ctrl, (n : Int))
set_option maxHeartbeats 1000000 in
theorem generate_eq (h : GenIn a ctrl n) (hms : a.ms.length ≤ 1000000) (he : a.err = 0) (hc : setErr 32 none ctrl = 0) (hs : m_alphabet_Subset ctrl a.al = some true) : m_generate_Generate (autP a) ctrl = some (codeP a ctrl n, 0) := by
  have h0 := h.n0; have h1 := h.n1; have h2 := h.es; have h3 := h.al; have h4 := h.ct; have h5 := h.hn
  have hg := gen_len (moved := a.al.length + (ctrl.length + 1) + n) (alarm := a.al.length + ctrl.length) h a.al.length (Nat.le_refl _)
  rw [List.take_of_length_le (by rw [shiftE_len]; omega)] at hg
  rw [m_generate_Generate, check_eq (by omega) (by omega) (by omega), Option.bind_some, he, if_neg (by simp), checkSet2_eq (by omega), Option.bind_some, hc, if_neg (by simp),
    show m_alphabet_Subset ctrl (autP a).1 = some true from hs, Option.bind_some, if_neg (by simp), if_neg (by simp [autP]; omega), if_neg (by simp [autP]; omega), gen_maps (by omega), Option.bind_some,
    show (autP a).1.length = a.al.length from rfl, show W ((ctrl.length : Int) + 1) = ((ctrl.length + 1 : Nat) : Int) by rw [show (ctrl.length : Int) + 1 = ((ctrl.length + 1 : Nat) : Int) by omega, W_nat (by omega)],
    gen_events h, Option.bind_some, gen_commands h (by rw [List.length_map]; omega), Option.bind_some,
    show W ((autP a).2.1 + 1) = ((n + 1 : Nat) : Int) by
      show W (a.n + 1) = _
      rw [show a.n + 1 = ((n + 1 : Nat) : Int) by omega, W_nat (by omega)],
    mkL_eq (by omega) (by omega), Option.bind_some, Int.toNat_natCast]
  have hi : idx (List.replicate (n + 1) false) 0 = some false := by rw [List.replicate_succ]; rfl
  have hu : upd (List.replicate (n + 1) false) 0 true = some (true :: List.replicate n false) := by
    unfold upd
    rw [if_pos (by simp), List.replicate_succ]
    rfl
  rw [hi, Option.bind_some, hu, Option.bind_some, show (autP a).1 = a.al from rfl, clone_eq (by omega), Option.bind_some, clone_eq (by omega), Option.bind_some]
  have e2 : (autP a).2.1 = (n : Int) := h5
  rw [e2]
  simp only [codeP, genP, genI, List.map_append, List.length_cons, List.length_replicate, h5, Int.toNat_natCast]
  rfl
end
end Go.Proofs.Ytkkemchihllklaa
