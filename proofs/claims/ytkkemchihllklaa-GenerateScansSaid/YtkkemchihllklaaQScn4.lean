/- Parts of the proof, without what nothing here names. -/
import Derived.Test.YtkkemchihllklaaProg
import Derived.Test.YtkkemchihllklaaQScn3
namespace Go.Proofs.Ytkkemchihllklaa
open Go Go.RowKit

theorem command_loop {l : List (Int × Int)} {M C : Nat} {ms : List Nat} (hms : ∀ x ∈ ms, x ≤ 100000) (hM : M ≤ 100000) (hC : C ≤ 100000) (hl : l.length + ms.length ≤ 3000000000) :
    iter (m_generate_assembler_command_l1 (ms.map fun k : Nat => (k : Int))) (0, l, (M : Int), (C : Int)) =
      some (l ++ (match ms with | [] => [] | m :: r => (⟨1, ((M + C + m : Nat) : Int)⟩ : Ins) :: r.map (fun k : Nat => (⟨5, ((M + C + k : Nat) : Int)⟩ : Ins))).map insP, (M : Int), (C : Int)) := by
  have hL : ∀ k, (h : k < ms.length) → ((match ms with | [] => [] | m :: r => (⟨1, ((M + C + m : Nat) : Int)⟩ : Ins) :: r.map (fun k : Nat => (⟨5, ((M + C + k : Nat) : Int)⟩ : Ins))).map insP)[k]? = some (if k = 0 then 1 else 5, ((M + C + ms[k] : Nat) : Int)) := by
    intro k h
    cases ms with
    | nil => simp at h
    | cons m r =>
      cases k with
      | zero => rfl
      | succ k => simp at h; simp [h, insP]
  have hlen : ((match ms with | [] => [] | m :: r => (⟨1, ((M + C + m : Nat) : Int)⟩ : Ins) :: r.map (fun k : Nat => (⟨5, ((M + C + k : Nat) : Int)⟩ : Ins))).map insP).length = ms.length := by cases ms <;> simp
  generalize ((match ms with | [] => [] | m :: r => (⟨1, ((M + C + m : Nat) : Int)⟩ : Ins) :: r.map (fun k : Nat => (⟨5, ((M + C + k : Nat) : Int)⟩ : Ins))).map insP) = L at hL hlen
  have := iter_run (f := m_generate_assembler_command_l1 (ms.map fun k : Nat => (k : Int))) (fun k => ((k : Int), l ++ L.take k, (M : Int), (C : Int))) ms.length (by omega) (o := (l ++ L, (M : Int), (C : Int))) (fun k hk => by
    have hx := hms ms[k] (List.getElem_mem hk)
    rw [m_generate_assembler_command_l1, if_pos (by simp; omega)]
    dsimp only
    rw [idx_at (by simpa using hk), Option.bind_some, List.getElem_map]
    have hop : idx ([1, 5] : List Int) (if 1 < (k : Int) then 1 else (k : Int)) = some (if k = 0 then 1 else 5) := by
      by_cases h0 : k = 0
      · subst h0; rfl
      · have : (if 1 < (k : Int) then 1 else (k : Int)) = 1 := by split <;> omega
        rw [this, if_neg h0]; rfl
    rw [hop, Option.bind_some, memory_eq (by omega) (by omega) (by omega), Option.bind_some, put_eq (by simp only [List.length_append, List.length_take, List.length_cons, List.length_nil]; omega), Option.bind_some,
      show (k : Int) + 1 = ((k + 1 : Nat) : Int) by omega, W_nat (by omega), List.append_assoc]
    have hk' : k < L.length := by omega
    have e := hL k hk
    rw [List.getElem?_eq_getElem hk', Option.some.injEq] at e
    rw [List.take_succ_eq_append_getElem hk', e]
    rfl) (by
    rw [m_generate_assembler_command_l1, if_neg (by simp), List.take_of_length_le (by omega)])
  simpa using this
theorem command_eq {l : List (Int × Int)} {M C o : Nat} {ms : List Nat} (hms : ∀ x ∈ ms, x ≤ 100000) (hM : M ≤ 100000) (hC : C ≤ 100000) (hl : l.length + ms.length ≤ 2000000000) :
    m_generate_assembler_command (l, (M : Int), (C : Int)) (o : Int) (ms.map fun k : Nat => (k : Int)) = some (l ++ (commandI o (ms.map fun k => M + C + k)).map insP, (M : Int), (C : Int)) := by
  rw [m_generate_assembler_command]
  cases ms with
  | nil =>
    rw [if_pos (by simp), put_eq (by simp; simp at hl; omega), Option.bind_some]
    rfl
  | cons m r =>
    rw [if_neg (by simp; omega), command_loop hms hM hC (by omega), Option.bind_some, put_eq (by simp at hl ⊢; omega), Option.bind_some]
    simp [commandI, insP, List.append_assoc]

/-- Events of an edge, gathered. -/
theorem mgetD_mput {β : Type} (d : β) : ∀ (m : List (Int × β)) (k : Int) (v : β) (k' : Int), mgetD d (mput m k v) k' = if k = k' then v else mgetD d m k'
  | [], k, v, k' => by
    simp only [mput, mgetD]
    by_cases h : k = k' <;> simp [h]
  | p :: m, k, v, k' => by
    by_cases hp : (p.1 == k) = true
    · have e : p.1 = k := by simpa using hp
      simp only [mput, if_pos hp, mgetD]
      by_cases h : k = k'
      · simp [e, h]
      · simp [e, h]
    · have e : ¬ p.1 = k := by simpa using hp
      simp only [mput, if_neg hp, mgetD, mgetD_mput d m k v k']
      by_cases h : k = k'
      · subst h; simp [e]
      · simp [h]
def gather {β : Type} (f : Ed → β) (es : List Ed) : List (Int × List β) := es.foldl (fun m x => mput m x.e (mgetD [] m x.e ++ [f x])) []
theorem gather_get {β : Type} (f : Ed → β) (k : Int) : ∀ (es : List Ed) (m : List (Int × List β)), mgetD [] (es.foldl (fun m x => mput m x.e (mgetD [] m x.e ++ [f x])) m) k = mgetD [] m k ++ (es.filter fun x => x.e == k).map f
  | [], m => by simp
  | x :: es, m => by
    rw [List.foldl_cons, gather_get f k es, mgetD_mput]
    by_cases h : x.e = k
    · rw [if_pos h, List.filter_cons_of_pos (by simpa using h), h]; simp
    · rw [if_neg h, List.filter_cons_of_neg (by simpa using h)]
theorem gather_len {β : Type} (f : Ed → β) (es : List Ed) (k : Int) : (mgetD [] (gather f es) k).length ≤ es.length := by
  rw [gather, gather_get]
  simp only [mgetD, List.nil_append, List.length_map]
  exact List.length_filter_le _ _
theorem gather_snoc {β : Type} (f : Ed → β) (es : List Ed) (x : Ed) : gather f (es ++ [x]) = mput (gather f es) x.e (mgetD [] (gather f es) x.e ++ [f x]) := by simp [gather]
theorem gen_maps {a : Aut} (hl : a.es.length ≤ 1000000) : iter (m_generate_Generate_l1 (autP a)) (0, ([] : List (Int × List Int)), ([] : List (Int × List (Int × Int × Int)))) = some (gather (fun x => x.f) a.es, gather edP a.es) := by
  have hlen : (autP a).2.2.2.length = a.es.length := by simp [autP]
  have := iter_run (f := m_generate_Generate_l1 (autP a)) (fun k => ((k : Int), gather (fun x => x.f) (a.es.take k), gather edP (a.es.take k))) a.es.length (by omega) (o := (gather (fun x => x.f) a.es, gather edP a.es)) (fun k hk => by
    rw [m_generate_Generate_l1, if_pos (by rw [hlen]; simp; omega)]
    dsimp only
    have h1 := gather_len edP (a.es.take k) a.es[k].e
    have h2 := gather_len (fun x => x.f) (a.es.take k) a.es[k].e
    rw [List.length_take] at h1 h2
    rw [idx_at (by rw [hlen]; exact hk), Option.bind_some, show (autP a).2.2.2[k]'(by rw [hlen]; exact hk) = edP a.es[k] from by simp [autP]]
    dsimp only [edP]
    rw [app_eq (by simp only [List.length_cons, List.length_nil]; omega), Option.bind_some, app_eq (by simp only [List.length_cons, List.length_nil]; omega), Option.bind_some,
      show (k : Int) + 1 = ((k + 1 : Nat) : Int) by omega, W_nat (by omega), List.take_succ_eq_append_getElem hk, gather_snoc, gather_snoc]
    rfl) (by
    rw [m_generate_Generate_l1, if_neg (by rw [hlen]; simp), List.take_length])
  simpa [gather] using this
end Go.Proofs.Ytkkemchihllklaa

namespace Go.Proofs.Ytkkemchihllklaa
open Go Go.RowKit

theorem eventsI_snoc (moved alarm : Nat) : ∀ (l : List (Nat × List (Nat × Nat))) (x : Nat × List (Nat × Nat)) (s : Nat), eventsI moved alarm (l ++ [x]) s = eventsI moved alarm l s ++ eventI x.1 moved alarm x.2 (s + (eventsI moved alarm l s).length)
  | [], x, s => by simp [eventsI]
  | (i, es) :: l, x, s => by
    rw [List.cons_append, eventsI, eventsI, eventsI_snoc moved alarm l x, List.append_assoc, List.length_append, eventI_len]
    congr 3
    omega
theorem commandsI_snoc (l : List (Nat × List Nat)) (x : Nat × List Nat) : commandsI (l ++ [x]) = commandsI l ++ commandI x.1 x.2 := by simp [commandsI]
theorem commandI_le (o : Nat) (ms : List Nat) : (commandI o ms).length ≤ ms.length + 3 := by cases ms <;> simp [commandI]
/-- What Generate asks of its arguments. -/
structure GenIn (a : Aut) (ctrl : List Int) (n : Nat) : Prop where
  hn : a.n = n
  n0 : 0 < n
  n1 : n ≤ 64
  es : a.es.length ≤ 256
  al : a.al.length ≤ 32
  ct : ctrl.length ≤ 32
  ed : ∀ x ∈ a.es, 0 ≤ x.f ∧ x.f < (n : Int) ∧ 0 ≤ x.t ∧ x.t < (n : Int)
def shiftE (a : Aut) (ctrl : List Int) : List (Nat × List (Nat × Nat)) := (evsOf a).map fun x => (x.1, x.2.map fun e => (a.al.length + (ctrl.length + 1) + e.1, a.al.length + (ctrl.length + 1) + e.2))
def shiftC (a : Aut) (ctrl : List Int) : List (Nat × List Nat) := (cmsOf a ctrl).map fun x => (a.al.length + x.1, x.2.map fun y => a.al.length + (ctrl.length + 1) + y)
section
variable {a : Aut} {ctrl : List Int} {n : Nat}
theorem shiftE_len : (shiftE a ctrl).length = a.al.length := by simp [shiftE, evsOf]
theorem shiftC_len : (shiftC a ctrl).length = ctrl.length := by simp [shiftC, cmsOf]
theorem shiftE_at {k : Nat} (hk : k < a.al.length) : (shiftE a ctrl)[k]'(by rw [shiftE_len]; exact hk) = (k, (a.es.filter fun x => x.e == a.al[k]).map fun x => (a.al.length + (ctrl.length + 1) + x.f.toNat, a.al.length + (ctrl.length + 1) + x.t.toNat)) := by
  simp [shiftE, evsOf, List.getD_eq_getElem?_getD, hk, List.map_map, Function.comp_def]
theorem shiftC_at {k : Nat} (hk : k < ctrl.length) : (shiftC a ctrl)[k]'(by rw [shiftC_len]; exact hk) = (a.al.length + k, (a.es.filter fun x => x.e == ctrl[k]).map fun x => a.al.length + (ctrl.length + 1) + x.f.toNat) := by
  simp [shiftC, cmsOf, List.getD_eq_getElem?_getD, hk, List.map_map, Function.comp_def]
theorem filt_le (k : Int) : (a.es.filter fun x => x.e == k).length ≤ a.es.length := List.length_filter_le _ _
theorem gen_len {moved alarm : Nat} (h : GenIn a ctrl n) : ∀ k, k ≤ a.al.length → (eventsI moved alarm ((shiftE a ctrl).take k) 0).length ≤ k * 2000
  | 0, _ => by simp [eventsI]
  | k + 1, hk => by
    have ih := gen_len (moved := moved) (alarm := alarm) h k (by omega)
    rw [List.take_succ_eq_append_getElem (by rw [shiftE_len]; omega), eventsI_snoc, List.length_append, eventI_len, shiftE_at (by omega)]
    have := filt_le (a := a) a.al[k]
    have := h.es
    simp only [List.length_map]
    omega
theorem gen_events (h : GenIn a ctrl n) : iter (m_generate_Generate_l2 (autP a) ctrl (gather (fun x => x.f) a.es, gather edP a.es)) (0, ([] : List (Int × Int)), (a.al.length : Int), ((ctrl.length + 1 : Nat) : Int)) =
    some ((eventsI (a.al.length + (ctrl.length + 1) + n) (a.al.length + ctrl.length) (shiftE a ctrl) 0).map insP, (a.al.length : Int), ((ctrl.length + 1 : Nat) : Int)) := by
  have h1 := h.n1; have h2 := h.es; have h3 := h.al; have h4 := h.ct; have h5 := h.hn
  refine iter_run (f := m_generate_Generate_l2 (autP a) ctrl (gather (fun x => x.f) a.es, gather edP a.es)) (fun k => ((k : Int), (eventsI (a.al.length + (ctrl.length + 1) + n) (a.al.length + ctrl.length) ((shiftE a ctrl).take k) 0).map insP, (a.al.length : Int), ((ctrl.length + 1 : Nat) : Int))) a.al.length (by omega) (fun k hk => ?_) ?_
  · rw [m_generate_Generate_l2, if_pos (by simp [autP]; omega)]
    dsimp only [autP]
    have hg := gen_len (moved := a.al.length + (ctrl.length + 1) + n) (alarm := a.al.length + ctrl.length) h k (by omega)
    have hf := filt_le (a := a) a.al[k]
    rw [idx_at hk, Option.bind_some, memory_eq (by omega) (by omega) (by omega), Option.bind_some, output_eq (by omega) (by omega), Option.bind_some,
      show mgetD [] (gather edP a.es) a.al[k] = (a.es.filter fun x => x.e == a.al[k]).map edP from by rw [gather, gather_get]; rfl,
      show (a.al.length : Int) + ((ctrl.length + 1 : Nat) : Int) + a.n = ((a.al.length + (ctrl.length + 1) + n : Nat) : Int) by omega,
      show (a.al.length : Int) + (ctrl.length : Int) = ((a.al.length + ctrl.length : Nat) : Int) by omega,
      event_eq (fun x hx => by have := h.ed x (List.mem_filter.1 hx).1; omega) (by omega) (by omega) (by rw [List.length_map]; omega), Option.bind_some,
      show (k : Int) + 1 = ((k + 1 : Nat) : Int) by omega, W_nat (by omega), List.take_succ_eq_append_getElem (by rw [shiftE_len]; exact hk), eventsI_snoc, List.map_append, shiftE_at hk, Nat.zero_add, List.length_map]
  · rw [m_generate_Generate_l2, if_neg (by simp [autP]), List.take_of_length_le (by rw [shiftE_len]; omega)]
set_option maxHeartbeats 1000000 in
theorem gen_commands (h : GenIn a ctrl n) {L : List (Int × Int)} (hL : L.length ≤ 100000) : iter (m_generate_Generate_l3 ctrl (gather (fun x => x.f) a.es, gather edP a.es)) (0, L, (a.al.length : Int), ((ctrl.length + 1 : Nat) : Int)) =
    some (L ++ (commandsI (shiftC a ctrl)).map insP, (a.al.length : Int), ((ctrl.length + 1 : Nat) : Int)) := by
  have h1 := h.n1; have h2 := h.es; have h3 := h.al; have h4 := h.ct; have h5 := h.hn
  have hcl : ∀ k, k ≤ ctrl.length → (commandsI ((shiftC a ctrl).take k)).length ≤ k * 2000 := by
    intro k
    induction k with
    | zero => intro _; simp [commandsI]
    | succ k ih =>
      intro hk
      have := ih (by omega)
      rw [List.take_succ_eq_append_getElem (by rw [shiftC_len]; omega)]
      rw [commandsI_snoc, List.length_append, shiftC_at (by omega)]
      have hf := filt_le (a := a) ctrl[k]
      have := commandI_le (a.al.length + k) ((a.es.filter fun x => x.e == ctrl[k]).map fun x => a.al.length + (ctrl.length + 1) + x.f.toNat)
      rw [List.length_map] at this
      dsimp only
      omega
  have key := iter_run (f := m_generate_Generate_l3 ctrl (gather (fun x => x.f) a.es, gather edP a.es)) (fun k => ((k : Int), L ++ (commandsI ((shiftC a ctrl).take k)).map insP, (a.al.length : Int), ((ctrl.length + 1 : Nat) : Int))) ctrl.length (by omega) (o := (L ++ (commandsI (shiftC a ctrl)).map insP, (a.al.length : Int), ((ctrl.length + 1 : Nat) : Int))) (fun k hk => by
    rw [m_generate_Generate_l3, if_pos (by simp; omega)]
    dsimp only
    have hg := hcl k (by omega)
    have hf := filt_le (a := a) ctrl[k]
    have hms : mgetD [] (gather (fun x => x.f) a.es) ctrl[k] = (((a.es.filter fun x => x.e == ctrl[k]).map fun x => x.f.toNat).map fun k : Nat => (k : Int)) := by
      rw [gather, gather_get, List.map_map]
      simp only [mgetD, List.nil_append]
      refine List.map_congr_left fun x hx => ?_
      have := h.ed x (List.mem_filter.1 hx).1
      simp only [Function.comp_def]
      omega
    rw [idx_at hk, Option.bind_some, output_eq (by omega) (by omega), Option.bind_some, hms,
      show (a.al.length : Int) + (k : Int) = ((a.al.length + k : Nat) : Int) by omega,
      command_eq (fun x hx => by
        obtain ⟨y, hy, rfl⟩ := List.mem_map.1 hx
        have := h.ed y (List.mem_filter.1 hy).1
        omega) (by omega) (by omega) (by simp only [List.length_append, List.length_map]; omega), Option.bind_some,
      show (k : Int) + 1 = ((k + 1 : Nat) : Int) by omega, W_nat (by omega), List.take_succ_eq_append_getElem (by rw [shiftC_len]; exact hk), List.append_assoc, ← List.map_append]
    rw [commandsI_snoc, shiftC_at hk, List.map_map]
    rfl) (by
    rw [m_generate_Generate_l3, if_neg (by simp), List.take_of_length_le (by rw [shiftC_len]; omega)])
  rw [List.take_zero] at key
  simpa [commandsI] using key
theorem clone_eq {xs : List Int} (h : xs.length ≤ 4294967296) : m_slices_Clone_int xs = some xs := by
  rw [m_slices_Clone_int, app_eq (by simpa using h)]; rfl
/-- The code of a supervisor. -/
def codeP (a : Aut) (ctrl : List Int) (n : Nat) : (Int × Int × Int × List Bool × List (Int × Int)) × List Int × List Int × Int :=
  (((a.al.length : Int), ((ctrl.length + 1 : Nat) : Int), ((n + 1 : Nat) : Int), true :: List.replicate n false, (genP a ctrl).map insP), a.al, ctrl, (n : Int))
set_option maxHeartbeats 1000000 in
theorem generate_eq (h : GenIn a ctrl n) (hms : a.ms.length ≤ 1000000) (he : a.err = 0) (hc : setErr 32 none ctrl = 0) (hs : m_alphabet_Subset ctrl a.al = some true) : m_generate_Generate (autP a) ctrl = some (codeP a ctrl n, 0) := by
  have h0 := h.n0; have h1 := h.n1; have h2 := h.es; have h3 := h.al; have h4 := h.ct; have h5 := h.hn
  have hg := gen_len (moved := a.al.length + (ctrl.length + 1) + n) (alarm := a.al.length + ctrl.length) h a.al.length (Nat.le_refl _)
  rw [List.take_of_length_le (by rw [shiftE_len]; omega)] at hg
  rw [m_generate_Generate, check_eq (by omega) (by omega) (by omega), Option.bind_some, he, if_neg (by simp), checkSet2_eq (by omega), Option.bind_some, hc, if_neg (by simp),
    show m_alphabet_Subset ctrl (autP a).1 = some true from hs, Option.bind_some, if_neg (by simp), if_neg (by simp [autP]; omega), if_neg (by simp [autP]; omega), gen_maps (by omega), Option.bind_some,
    show (autP a).1.length = a.al.length from rfl, show W ((ctrl.length : Int) + 1) = ((ctrl.length + 1 : Nat) : Int) by rw [show (ctrl.length : Int) + 1 = ((ctrl.length + 1 : Nat) : Int) by omega, W_nat (by omega)],
    gen_events h, Option.bind_some, gen_commands h (by rw [List.length_map]; omega), Option.bind_some,
    show W ((autP a).2.1 + 1) = ((n + 1 : Nat) : Int) by
      show W (a.n + 1) = _
      rw [show a.n + 1 = ((n + 1 : Nat) : Int) by omega, W_nat (by omega)],
    mkL_eq (by omega) (by omega), Option.bind_some, Int.toNat_natCast]
  have hi : idx (List.replicate (n + 1) false) 0 = some false := by rw [List.replicate_succ]; rfl
  have hu : upd (List.replicate (n + 1) false) 0 true = some (true :: List.replicate n false) := by
    unfold upd
    rw [if_pos (by simp), List.replicate_succ]
    rfl
  rw [hi, Option.bind_some, hu, Option.bind_some, show (autP a).1 = a.al from rfl, clone_eq (by omega), Option.bind_some, clone_eq (by omega), Option.bind_some]
  have e2 : (autP a).2.1 = (n : Int) := h5
  rw [e2]
  simp only [codeP, genP, genI, List.map_append, List.length_cons, List.length_replicate, h5, Int.toNat_natCast]
  rfl
end
end Go.Proofs.Ytkkemchihllklaa

namespace Go.Proofs.Ytkkemchihllklaa
open Go Go.RowKit
/-- What instruction.operations$3 computes. -/
noncomputable def m_instruction_operations_3 (p0 : Bool) (p1 : Bool) : Option Bool :=
  some (p0 && p1)
set_option maxRecDepth 100000 in
set_option maxHeartbeats 8000000 in
theorem m_instruction_operations_3_c {s : Sig} {p0 : Bool} {p1 : Bool} {r : Bool} (hm : m_instruction_operations_3 p0 p1 = some r) :
    Calls Try.prog 89 #[.bool p0, .bool p1] s.w (RetS No s fun v s' => v = .bool r) := by
 unfold m_instruction_operations_3 at hm
 obtain ⟨N, hN, hNb⟩ := s.fresh
 have m0 : Mv (Up N No) s s := Mv.refl _ _
 refine E.entry Try.func89 rfl Try.ntmps89 rfl rfl (E.seq (E.reg (L.as Wt.no rfl rfl (L.nil (X.seqN (E.seq (E.reg (L.mv Wt.no rfl rfl (L.mv Wt.no rfl rfl (L.cut 2 (fun e w => ∃ (v1 : Bool), (p0 && p1) = v1 ∧ e = (8, .bool v1) :: [] ∧ w = s.w) ?_ ?_))))))))))
 ·rintro _ _ ⟨v1, rfl, rfl, rfl⟩
  refine L.as Wt.no rfl rfl (L.nil (X.seqN (E.ret ?_)))
  obtain rfl := Option.some.inj hm
  exact X.rt (.inl rfl) Try.results89 (Rs.tmp rfl Rs.nil) rfl ⟨_, (s).ren N (fun _ => 0), rfl, rfl, m0.ren hNb, rfl⟩
 ·intro J2
  rcases Bool.eq_false_or_eq_true p0 with hc | hc
  ·exact L.know (d := 6) rfl hc (L.mv (Wt.mk rfl rfl) rfl rfl (L.pkT Wt.no rfl rfl rfl rfl (L.sb (J2 _ _ ⟨p1, (andT hc).symm, rfl, rfl⟩) rfl)))
  ·exact L.know (d := 6) rfl hc (L.skip rfl rfl rfl rfl (L.pkF Wt.no rfl rfl rfl rfl (L.sb (J2 _ _ ⟨false, (andF hc).symm, rfl, rfl⟩) rfl)))

/-- What instruction.operations$4 computes. -/
noncomputable def m_instruction_operations_4 (p0 : Bool) (p1 : Bool) : Option Bool :=
  some (p0 && (!p1))
set_option maxRecDepth 100000 in
set_option maxHeartbeats 8000000 in
theorem m_instruction_operations_4_c {s : Sig} {p0 : Bool} {p1 : Bool} {r : Bool} (hm : m_instruction_operations_4 p0 p1 = some r) :
    Calls Try.prog 90 #[.bool p0, .bool p1] s.w (RetS No s fun v s' => v = .bool r) := by
 unfold m_instruction_operations_4 at hm
 obtain ⟨N, hN, hNb⟩ := s.fresh
 have m0 : Mv (Up N No) s s := Mv.refl _ _
 refine E.entry Try.func90 rfl Try.ntmps90 rfl rfl (E.seq (E.reg (L.as Wt.no rfl rfl (L.nil (X.seqN (E.seq (E.reg (L.mv Wt.no rfl rfl (L.mv Wt.no rfl rfl (L.cut 3 (fun e w => ∃ (v1 : Bool), (p0 && (!p1)) = v1 ∧ e = (9, .bool v1) :: [] ∧ w = s.w) ?_ ?_))))))))))
 ·rintro _ _ ⟨v1, rfl, rfl, rfl⟩
  refine L.as Wt.no rfl rfl (L.nil (X.seqN (E.ret ?_)))
  obtain rfl := Option.some.inj hm
  exact X.rt (.inl rfl) Try.results90 (Rs.tmp rfl Rs.nil) rfl ⟨_, (s).ren N (fun _ => 0), rfl, rfl, m0.ren hNb, rfl⟩
 ·intro J2
  rcases Bool.eq_false_or_eq_true p0 with hc | hc
  ·exact L.know (d := 6) rfl hc (L.mv (Wt.mk rfl rfl) rfl rfl (L.not (Wt.mk rfl rfl) rfl rfl (L.pkT Wt.no rfl rfl rfl rfl (L.sb (J2 _ _ ⟨(!p1), (andT hc).symm, rfl, rfl⟩) rfl))))
  ·exact L.know (d := 6) rfl hc (L.skip rfl rfl rfl rfl (L.skip rfl rfl rfl rfl (L.pkF Wt.no rfl rfl rfl rfl (L.sb (J2 _ _ ⟨false, (andF hc).symm, rfl, rfl⟩) rfl))))

/-- What instruction.operations$5 computes. -/
noncomputable def m_instruction_operations_5 (p0 : Bool) (p1 : Bool) : Option Bool :=
  some (p0 || p1)
set_option maxRecDepth 100000 in
set_option maxHeartbeats 8000000 in
theorem m_instruction_operations_5_c {s : Sig} {p0 : Bool} {p1 : Bool} {r : Bool} (hm : m_instruction_operations_5 p0 p1 = some r) :
    Calls Try.prog 91 #[.bool p0, .bool p1] s.w (RetS No s fun v s' => v = .bool r) := by
 unfold m_instruction_operations_5 at hm
 obtain ⟨N, hN, hNb⟩ := s.fresh
 have m0 : Mv (Up N No) s s := Mv.refl _ _
 refine E.entry Try.func91 rfl Try.ntmps91 rfl rfl (E.seq (E.reg (L.as Wt.no rfl rfl (L.nil (X.seqN (E.seq (E.reg (L.mv Wt.no rfl rfl (L.mv Wt.no rfl rfl (L.cut 2 (fun e w => ∃ (v1 : Bool), (p0 || p1) = v1 ∧ e = (8, .bool v1) :: [] ∧ w = s.w) ?_ ?_))))))))))
 ·rintro _ _ ⟨v1, rfl, rfl, rfl⟩
  refine L.as Wt.no rfl rfl (L.nil (X.seqN (E.ret ?_)))
  obtain rfl := Option.some.inj hm
  exact X.rt (.inl rfl) Try.results91 (Rs.tmp rfl Rs.nil) rfl ⟨_, (s).ren N (fun _ => 0), rfl, rfl, m0.ren hNb, rfl⟩
 ·intro J2
  rcases Bool.eq_false_or_eq_true p0 with hc | hc
  ·exact L.know (d := 6) rfl hc (L.skip rfl rfl rfl rfl (L.pkT Wt.no rfl rfl rfl rfl (L.sb (J2 _ _ ⟨true, (orT hc).symm, rfl, rfl⟩) rfl)))
  ·exact L.know (d := 6) rfl hc (L.mv (Wt.mk rfl rfl) rfl rfl (L.pkF Wt.no rfl rfl rfl rfl (L.sb (J2 _ _ ⟨p1, (orF hc).symm, rfl, rfl⟩) rfl)))

/-- What instruction.operations$6 computes. -/
noncomputable def m_instruction_operations_6 (p0 : Bool) (p1 : Bool) : Option Bool :=
  some (p0 || (!p1))
set_option maxRecDepth 100000 in
set_option maxHeartbeats 8000000 in
theorem m_instruction_operations_6_c {s : Sig} {p0 : Bool} {p1 : Bool} {r : Bool} (hm : m_instruction_operations_6 p0 p1 = some r) :
    Calls Try.prog 92 #[.bool p0, .bool p1] s.w (RetS No s fun v s' => v = .bool r) := by
 unfold m_instruction_operations_6 at hm
 obtain ⟨N, hN, hNb⟩ := s.fresh
 have m0 : Mv (Up N No) s s := Mv.refl _ _
 refine E.entry Try.func92 rfl Try.ntmps92 rfl rfl (E.seq (E.reg (L.as Wt.no rfl rfl (L.nil (X.seqN (E.seq (E.reg (L.mv Wt.no rfl rfl (L.mv Wt.no rfl rfl (L.cut 3 (fun e w => ∃ (v1 : Bool), (p0 || (!p1)) = v1 ∧ e = (9, .bool v1) :: [] ∧ w = s.w) ?_ ?_))))))))))
 ·rintro _ _ ⟨v1, rfl, rfl, rfl⟩
  refine L.as Wt.no rfl rfl (L.nil (X.seqN (E.ret ?_)))
  obtain rfl := Option.some.inj hm
  exact X.rt (.inl rfl) Try.results92 (Rs.tmp rfl Rs.nil) rfl ⟨_, (s).ren N (fun _ => 0), rfl, rfl, m0.ren hNb, rfl⟩
 ·intro J2
  rcases Bool.eq_false_or_eq_true p0 with hc | hc
  ·exact L.know (d := 6) rfl hc (L.skip rfl rfl rfl rfl (L.skip rfl rfl rfl rfl (L.pkT Wt.no rfl rfl rfl rfl (L.sb (J2 _ _ ⟨true, (orT hc).symm, rfl, rfl⟩) rfl))))
  ·exact L.know (d := 6) rfl hc (L.mv (Wt.mk rfl rfl) rfl rfl (L.not (Wt.mk rfl rfl) rfl rfl (L.pkF Wt.no rfl rfl rfl rfl (L.sb (J2 _ _ ⟨(!p1), (orF hc).symm, rfl, rfl⟩) rfl))))

/-- What instruction.operations$7 computes. -/
noncomputable def m_instruction_operations_7 (p0 : Bool) (p1 : Bool) : Option Bool :=
  some p0
set_option maxRecDepth 100000 in
set_option maxHeartbeats 8000000 in
theorem m_instruction_operations_7_c {s : Sig} {p0 : Bool} {p1 : Bool} {r : Bool} (hm : m_instruction_operations_7 p0 p1 = some r) :
    Calls Try.prog 93 #[.bool p0, .bool p1] s.w (RetS No s fun v s' => v = .bool r) := by
 unfold m_instruction_operations_7 at hm
 obtain ⟨N, hN, hNb⟩ := s.fresh
 have m0 : Mv (Up N No) s s := Mv.refl _ _
 refine E.entry Try.func93 rfl Try.ntmps93 rfl rfl (E.seq (E.reg (L.as Wt.no rfl rfl (L.nil (X.seqN (E.seq (E.reg (L.mv Wt.no rfl rfl (L.as Wt.no rfl rfl (L.nil (X.seqN (E.ret ?_))))))))))))
 obtain rfl := Option.some.inj hm
 exact X.rt (.inl rfl) Try.results93 (Rs.tmp rfl Rs.nil) rfl ⟨_, (s).ren N (fun _ => 0), rfl, rfl, m0.ren hNb, rfl⟩

/-- What instruction.operations$8 computes. -/
noncomputable def m_instruction_operations_8 (p0 : Bool) (p1 : Bool) : Option Bool :=
  some (!p0)
set_option maxRecDepth 100000 in
set_option maxHeartbeats 8000000 in
theorem m_instruction_operations_8_c {s : Sig} {p0 : Bool} {p1 : Bool} {r : Bool} (hm : m_instruction_operations_8 p0 p1 = some r) :
    Calls Try.prog 94 #[.bool p0, .bool p1] s.w (RetS No s fun v s' => v = .bool r) := by
 unfold m_instruction_operations_8 at hm
 obtain ⟨N, hN, hNb⟩ := s.fresh
 have m0 : Mv (Up N No) s s := Mv.refl _ _
 refine E.entry Try.func94 rfl Try.ntmps94 rfl rfl (E.seq (E.reg (L.as Wt.no rfl rfl (L.nil (X.seqN (E.seq (E.reg (L.mv Wt.no rfl rfl (L.not Wt.no rfl rfl (L.as Wt.no rfl rfl (L.nil (X.seqN (E.ret ?_)))))))))))))
 obtain rfl := Option.some.inj hm
 exact X.rt (.inl rfl) Try.results94 (Rs.tmp rfl Rs.nil) rfl ⟨_, (s).ren N (fun _ => 0), rfl, rfl, m0.ren hNb, rfl⟩

/-- What instruction.operations$9 computes. -/
noncomputable def m_instruction_operations_9 (p0 : Bool) (p1 : Bool) : Option Bool :=
  some (p1 || p0)
set_option maxRecDepth 100000 in
set_option maxHeartbeats 8000000 in
theorem m_instruction_operations_9_c {s : Sig} {p0 : Bool} {p1 : Bool} {r : Bool} (hm : m_instruction_operations_9 p0 p1 = some r) :
    Calls Try.prog 95 #[.bool p0, .bool p1] s.w (RetS No s fun v s' => v = .bool r) := by
 unfold m_instruction_operations_9 at hm
 obtain ⟨N, hN, hNb⟩ := s.fresh
 have m0 : Mv (Up N No) s s := Mv.refl _ _
 refine E.entry Try.func95 rfl Try.ntmps95 rfl rfl (E.seq (E.reg (L.as Wt.no rfl rfl (L.nil (X.seqN (E.seq (E.reg (L.mv Wt.no rfl rfl (L.mv Wt.no rfl rfl (L.cut 2 (fun e w => ∃ (v1 : Bool), (p1 || p0) = v1 ∧ e = (8, .bool v1) :: [] ∧ w = s.w) ?_ ?_))))))))))
 ·rintro _ _ ⟨v1, rfl, rfl, rfl⟩
  refine L.as Wt.no rfl rfl (L.nil (X.seqN (E.ret ?_)))
  obtain rfl := Option.some.inj hm
  exact X.rt (.inl rfl) Try.results95 (Rs.tmp rfl Rs.nil) rfl ⟨_, (s).ren N (fun _ => 0), rfl, rfl, m0.ren hNb, rfl⟩
 ·intro J2
  rcases Bool.eq_false_or_eq_true p1 with hc | hc
  ·exact L.know (d := 6) rfl hc (L.skip rfl rfl rfl rfl (L.pkT Wt.no rfl rfl rfl rfl (L.sb (J2 _ _ ⟨true, (orT hc).symm, rfl, rfl⟩) rfl)))
  ·exact L.know (d := 6) rfl hc (L.mv (Wt.mk rfl rfl) rfl rfl (L.pkF Wt.no rfl rfl rfl rfl (L.sb (J2 _ _ ⟨p0, (orF hc).symm, rfl, rfl⟩) rfl)))

end Go.Proofs.Ytkkemchihllklaa

namespace Go.Proofs.Ytkkemchihllklaa
open Go Go.RowKit
/-- What instruction.operations$10 computes. -/
noncomputable def m_instruction_operations_10 (p0 : Bool) (p1 : Bool) : Option Bool :=
  some (p1 && (!p0))
set_option maxRecDepth 100000 in
set_option maxHeartbeats 8000000 in
theorem m_instruction_operations_10_c {s : Sig} {p0 : Bool} {p1 : Bool} {r : Bool} (hm : m_instruction_operations_10 p0 p1 = some r) :
    Calls Try.prog 96 #[.bool p0, .bool p1] s.w (RetS No s fun v s' => v = .bool r) := by
 unfold m_instruction_operations_10 at hm
 obtain ⟨N, hN, hNb⟩ := s.fresh
 have m0 : Mv (Up N No) s s := Mv.refl _ _
 refine E.entry Try.func96 rfl Try.ntmps96 rfl rfl (E.seq (E.reg (L.as Wt.no rfl rfl (L.nil (X.seqN (E.seq (E.reg (L.mv Wt.no rfl rfl (L.mv Wt.no rfl rfl (L.cut 3 (fun e w => ∃ (v1 : Bool), (p1 && (!p0)) = v1 ∧ e = (9, .bool v1) :: [] ∧ w = s.w) ?_ ?_))))))))))
 ·rintro _ _ ⟨v1, rfl, rfl, rfl⟩
  refine L.as Wt.no rfl rfl (L.nil (X.seqN (E.ret ?_)))
  obtain rfl := Option.some.inj hm
  exact X.rt (.inl rfl) Try.results96 (Rs.tmp rfl Rs.nil) rfl ⟨_, (s).ren N (fun _ => 0), rfl, rfl, m0.ren hNb, rfl⟩
 ·intro J2
  rcases Bool.eq_false_or_eq_true p1 with hc | hc
  ·exact L.know (d := 6) rfl hc (L.mv (Wt.mk rfl rfl) rfl rfl (L.not (Wt.mk rfl rfl) rfl rfl (L.pkT Wt.no rfl rfl rfl rfl (L.sb (J2 _ _ ⟨(!p0), (andT hc).symm, rfl, rfl⟩) rfl))))
  ·exact L.know (d := 6) rfl hc (L.skip rfl rfl rfl rfl (L.skip rfl rfl rfl rfl (L.pkF Wt.no rfl rfl rfl rfl (L.sb (J2 _ _ ⟨false, (andF hc).symm, rfl, rfl⟩) rfl))))

/-- What instruction.operations$11 computes. -/
noncomputable def m_instruction_operations_11 (p0 : Bool) : Option Bool :=
  some true
set_option maxRecDepth 100000 in
set_option maxHeartbeats 8000000 in
theorem m_instruction_operations_11_c {s : Sig} {p0 : Bool} {r : Bool} (hm : m_instruction_operations_11 p0 = some r) :
    Calls Try.prog 97 #[.bool p0] s.w (RetS No s fun v s' => v = .bool r) := by
 unfold m_instruction_operations_11 at hm
 obtain ⟨N, hN, hNb⟩ := s.fresh
 have m0 : Mv (Up N No) s s := Mv.refl _ _
 refine E.entry Try.func97 rfl Try.ntmps97 rfl rfl (E.seq (E.reg (L.as Wt.no rfl rfl (L.nil (X.seqN (E.seq (E.reg (L.as Wt.no rfl rfl (L.nil (X.seqN (E.ret ?_)))))))))))
 obtain rfl := Option.some.inj hm
 exact X.rt (.inl rfl) Try.results97 (Rs.tmp rfl Rs.nil) rfl ⟨_, (s).ren N (fun _ => 0), rfl, rfl, m0.ren hNb, rfl⟩

/-- What instruction.operations$12 computes. -/
noncomputable def m_instruction_operations_12 (p0 : Bool) : Option Bool :=
  some p0
set_option maxRecDepth 100000 in
set_option maxHeartbeats 8000000 in
theorem m_instruction_operations_12_c {s : Sig} {p0 : Bool} {r : Bool} (hm : m_instruction_operations_12 p0 = some r) :
    Calls Try.prog 98 #[.bool p0] s.w (RetS No s fun v s' => v = .bool r) := by
 unfold m_instruction_operations_12 at hm
 obtain ⟨N, hN, hNb⟩ := s.fresh
 have m0 : Mv (Up N No) s s := Mv.refl _ _
 refine E.entry Try.func98 rfl Try.ntmps98 rfl rfl (E.seq (E.reg (L.as Wt.no rfl rfl (L.nil (X.seqN (E.seq (E.reg (L.mv Wt.no rfl rfl (L.as Wt.no rfl rfl (L.nil (X.seqN (E.ret ?_))))))))))))
 obtain rfl := Option.some.inj hm
 exact X.rt (.inl rfl) Try.results98 (Rs.tmp rfl Rs.nil) rfl ⟨_, (s).ren N (fun _ => 0), rfl, rfl, m0.ren hNb, rfl⟩

/-- What instruction.operations$13 computes. -/
noncomputable def m_instruction_operations_13 (p0 : Bool) : Option Bool :=
  some (!p0)
set_option maxRecDepth 100000 in
set_option maxHeartbeats 8000000 in
theorem m_instruction_operations_13_c {s : Sig} {p0 : Bool} {r : Bool} (hm : m_instruction_operations_13 p0 = some r) :
    Calls Try.prog 99 #[.bool p0] s.w (RetS No s fun v s' => v = .bool r) := by
 unfold m_instruction_operations_13 at hm
 obtain ⟨N, hN, hNb⟩ := s.fresh
 have m0 : Mv (Up N No) s s := Mv.refl _ _
 refine E.entry Try.func99 rfl Try.ntmps99 rfl rfl (E.seq (E.reg (L.as Wt.no rfl rfl (L.nil (X.seqN (E.seq (E.reg (L.mv Wt.no rfl rfl (L.not Wt.no rfl rfl (L.as Wt.no rfl rfl (L.nil (X.seqN (E.ret ?_)))))))))))))
 obtain rfl := Option.some.inj hm
 exact X.rt (.inl rfl) Try.results99 (Rs.tmp rfl Rs.nil) rfl ⟨_, (s).ren N (fun _ => 0), rfl, rfl, m0.ren hNb, rfl⟩

theorem bs124 : Bs Try.prog 124 129 5 [.int .i64 0, .string (⟨#[]⟩ : ByteArray), .nilFunc, .nilFunc, .nilFunc] := Bs.mk' Try.underlying124 (by kernel_rfl) (by kernel_rfl) rfl
theorem cf87 : Cf Try.prog 87 := Cf.mk Try.func87 (by kernel_rfl) (by kernel_rfl)
theorem cf88 : Cf Try.prog 88 := Cf.mk Try.func88 (by kernel_rfl) (by kernel_rfl)
theorem cf89 : Cf Try.prog 89 := Cf.mk Try.func89 (by kernel_rfl) (by kernel_rfl)
theorem cf90 : Cf Try.prog 90 := Cf.mk Try.func90 (by kernel_rfl) (by kernel_rfl)
theorem cf91 : Cf Try.prog 91 := Cf.mk Try.func91 (by kernel_rfl) (by kernel_rfl)
theorem cf92 : Cf Try.prog 92 := Cf.mk Try.func92 (by kernel_rfl) (by kernel_rfl)
theorem cf93 : Cf Try.prog 93 := Cf.mk Try.func93 (by kernel_rfl) (by kernel_rfl)
theorem cf94 : Cf Try.prog 94 := Cf.mk Try.func94 (by kernel_rfl) (by kernel_rfl)
theorem cf95 : Cf Try.prog 95 := Cf.mk Try.func95 (by kernel_rfl) (by kernel_rfl)
theorem cf96 : Cf Try.prog 96 := Cf.mk Try.func96 (by kernel_rfl) (by kernel_rfl)
theorem cf97 : Cf Try.prog 97 := Cf.mk Try.func97 (by kernel_rfl) (by kernel_rfl)
theorem cf98 : Cf Try.prog 98 := Cf.mk Try.func98 (by kernel_rfl) (by kernel_rfl)
theorem cf99 : Cf Try.prog 99 := Cf.mk Try.func99 (by kernel_rfl) (by kernel_rfl)
theorem pl129 : Pl Try.prog 129 [(0, 1), (1, 1), (2, 1), (3, 1), (4, 1)] [.int .i64 0, .string (⟨#[]⟩ : ByteArray), .nilFunc, .nilFunc, .nilFunc] := Pl.str Try.underlying129 (by kernel_rfl) (by kernel_rfl)
theorem fv87 {s : Sig} : FV2 Try.prog s (.func (.func 87) #[] #[]) (fun (x0 : Bool) (x1 : Bool) => [.bool x0, .bool x1]) (fun r => .bool r) m_instruction_operations_1 := ⟨87, #[], #[], rfl, cf87, fun x0 x1 r hm s' hl => by have hh := m_instruction_operations_1_c (s := s') hm; simpa using hh⟩
theorem fv88 {s : Sig} : FV2 Try.prog s (.func (.func 88) #[] #[]) (fun (x0 : Bool) (x1 : Bool) => [.bool x0, .bool x1]) (fun r => .bool r) m_instruction_operations_2 := ⟨88, #[], #[], rfl, cf88, fun x0 x1 r hm s' hl => by have hh := m_instruction_operations_2_c (s := s') hm; simpa using hh⟩
theorem fv89 {s : Sig} : FV2 Try.prog s (.func (.func 89) #[] #[]) (fun (x0 : Bool) (x1 : Bool) => [.bool x0, .bool x1]) (fun r => .bool r) m_instruction_operations_3 := ⟨89, #[], #[], rfl, cf89, fun x0 x1 r hm s' hl => by have hh := m_instruction_operations_3_c (s := s') hm; simpa using hh⟩
theorem fv90 {s : Sig} : FV2 Try.prog s (.func (.func 90) #[] #[]) (fun (x0 : Bool) (x1 : Bool) => [.bool x0, .bool x1]) (fun r => .bool r) m_instruction_operations_4 := ⟨90, #[], #[], rfl, cf90, fun x0 x1 r hm s' hl => by have hh := m_instruction_operations_4_c (s := s') hm; simpa using hh⟩
theorem fv91 {s : Sig} : FV2 Try.prog s (.func (.func 91) #[] #[]) (fun (x0 : Bool) (x1 : Bool) => [.bool x0, .bool x1]) (fun r => .bool r) m_instruction_operations_5 := ⟨91, #[], #[], rfl, cf91, fun x0 x1 r hm s' hl => by have hh := m_instruction_operations_5_c (s := s') hm; simpa using hh⟩
theorem fv92 {s : Sig} : FV2 Try.prog s (.func (.func 92) #[] #[]) (fun (x0 : Bool) (x1 : Bool) => [.bool x0, .bool x1]) (fun r => .bool r) m_instruction_operations_6 := ⟨92, #[], #[], rfl, cf92, fun x0 x1 r hm s' hl => by have hh := m_instruction_operations_6_c (s := s') hm; simpa using hh⟩
theorem fv93 {s : Sig} : FV2 Try.prog s (.func (.func 93) #[] #[]) (fun (x0 : Bool) (x1 : Bool) => [.bool x0, .bool x1]) (fun r => .bool r) m_instruction_operations_7 := ⟨93, #[], #[], rfl, cf93, fun x0 x1 r hm s' hl => by have hh := m_instruction_operations_7_c (s := s') hm; simpa using hh⟩
theorem fv94 {s : Sig} : FV2 Try.prog s (.func (.func 94) #[] #[]) (fun (x0 : Bool) (x1 : Bool) => [.bool x0, .bool x1]) (fun r => .bool r) m_instruction_operations_8 := ⟨94, #[], #[], rfl, cf94, fun x0 x1 r hm s' hl => by have hh := m_instruction_operations_8_c (s := s') hm; simpa using hh⟩
theorem fv95 {s : Sig} : FV2 Try.prog s (.func (.func 95) #[] #[]) (fun (x0 : Bool) (x1 : Bool) => [.bool x0, .bool x1]) (fun r => .bool r) m_instruction_operations_9 := ⟨95, #[], #[], rfl, cf95, fun x0 x1 r hm s' hl => by have hh := m_instruction_operations_9_c (s := s') hm; simpa using hh⟩
theorem fv96 {s : Sig} : FV2 Try.prog s (.func (.func 96) #[] #[]) (fun (x0 : Bool) (x1 : Bool) => [.bool x0, .bool x1]) (fun r => .bool r) m_instruction_operations_10 := ⟨96, #[], #[], rfl, cf96, fun x0 x1 r hm s' hl => by have hh := m_instruction_operations_10_c (s := s') hm; simpa using hh⟩
theorem fv97 {s : Sig} : FV1 Try.prog s (.func (.func 97) #[] #[]) (fun (x0 : Bool) => [.bool x0]) (fun r => .bool r) m_instruction_operations_11 := ⟨97, #[], #[], rfl, cf97, fun x0 r hm s' hl => by have hh := m_instruction_operations_11_c (s := s') hm; simpa using hh⟩
theorem fv98 {s : Sig} : FV1 Try.prog s (.func (.func 98) #[] #[]) (fun (x0 : Bool) => [.bool x0]) (fun r => .bool r) m_instruction_operations_12 := ⟨98, #[], #[], rfl, cf98, fun x0 r hm s' hl => by have hh := m_instruction_operations_12_c (s := s') hm; simpa using hh⟩
theorem fv99 {s : Sig} : FV1 Try.prog s (.func (.func 99) #[] #[]) (fun (x0 : Bool) => [.bool x0]) (fun r => .bool r) m_instruction_operations_13 := ⟨99, #[], #[], rfl, cf99, fun x0 r hm s' hl => by have hh := m_instruction_operations_13_c (s := s') hm; simpa using hh⟩
/-- What instruction.operations computes. -/
noncomputable def m_instruction_operations : Option (List (Int × ByteArray × (Option (Bool → Bool → Option Bool)) × (Option (Bool → Bool → Option Bool)) × (Option (Bool → Option Bool)))) :=
  some ([(1, (⟨#[76, 68]⟩ : ByteArray), (some m_instruction_operations_1), none, none), (2, (⟨#[76, 68, 78]⟩ : ByteArray), (some m_instruction_operations_2), none, none), (3, (⟨#[65, 78, 68]⟩ : ByteArray), (some m_instruction_operations_3), none, none), (4, (⟨#[65, 78, 68, 78]⟩ : ByteArray), (some m_instruction_operations_4), none, none), (5, (⟨#[79, 82]⟩ : ByteArray), (some m_instruction_operations_5), none, none), (6, (⟨#[79, 82, 78]⟩ : ByteArray), (some m_instruction_operations_6), none, none), (7, (⟨#[83, 84]⟩ : ByteArray), none, (some m_instruction_operations_7), none), (8, (⟨#[83, 84, 78]⟩ : ByteArray), none, (some m_instruction_operations_8), none), (9, (⟨#[83]⟩ : ByteArray), none, (some m_instruction_operations_9), none), (10, (⟨#[82]⟩ : ByteArray), none, (some m_instruction_operations_10), none), (11, (⟨#[74, 77, 80]⟩ : ByteArray), none, none, (some m_instruction_operations_11)), (12, (⟨#[74, 77, 80, 67]⟩ : ByteArray), none, none, (some m_instruction_operations_12)), (13, (⟨#[74, 77, 80, 67, 78]⟩ : ByteArray), none, none, (some m_instruction_operations_13))] : List (Int × ByteArray × (Option (Bool → Bool → Option Bool)) × (Option (Bool → Bool → Option Bool)) × (Option (Bool → Option Bool))))
set_option maxRecDepth 100000 in
set_option maxHeartbeats 8000000 in
theorem m_instruction_operations_c {s : Sig} {r : (List (Int × ByteArray × (Option (Bool → Bool → Option Bool)) × (Option (Bool → Bool → Option Bool)) × (Option (Bool → Option Bool))))} (hm : m_instruction_operations = some r) :
    Calls Try.prog 74 #[] s.w (RetS No s fun v s' => ∃ (a1 : Option Addr) (c1 : Nat), v = .slice a1 r.length c1 ∧ RdL (rP (rK .i64) (rP rStr (rP (rF2 Try.prog (fun (x0 : Bool) (x1 : Bool) => [.bool x0, .bool x1]) (fun (r : Bool) => .bool r)) (rP (rF2 Try.prog (fun (x0 : Bool) (x1 : Bool) => [.bool x0, .bool x1]) (fun (r : Bool) => .bool r)) (rF1 Try.prog (fun (x0 : Bool) => [.bool x0]) (fun (r : Bool) => .bool r)))))) s' a1 c1 r) := by
 unfold m_instruction_operations at hm
 obtain ⟨N, hN, hNb⟩ := s.fresh
 have m0 : Mv (Up N No) s s := Mv.refl _ _
 refine E.entry Try.func74 rfl Try.ntmps74 rfl rfl (E.seq (E.reg (L.as Wt.no rfl rfl (L.nil (X.seqN (E.seq (E.reg (L.bu (cs := [.int .i64 1, .string (⟨#[76, 68]⟩ : ByteArray), (.func (.func 87) #[] #[]), .nilFunc, .nilFunc]) pl129 Wt.no rfl rfl rfl (L.bu (cs := [.int .i64 2, .string (⟨#[76, 68, 78]⟩ : ByteArray), (.func (.func 88) #[] #[]), .nilFunc, .nilFunc]) pl129 Wt.no rfl rfl rfl (L.bu (cs := [.int .i64 3, .string (⟨#[65, 78, 68]⟩ : ByteArray), (.func (.func 89) #[] #[]), .nilFunc, .nilFunc]) pl129 Wt.no rfl rfl rfl (L.bu (cs := [.int .i64 4, .string (⟨#[65, 78, 68, 78]⟩ : ByteArray), (.func (.func 90) #[] #[]), .nilFunc, .nilFunc]) pl129 Wt.no rfl rfl rfl (L.bu (cs := [.int .i64 5, .string (⟨#[79, 82]⟩ : ByteArray), (.func (.func 91) #[] #[]), .nilFunc, .nilFunc]) pl129 Wt.no rfl rfl rfl (L.bu (cs := [.int .i64 6, .string (⟨#[79, 82, 78]⟩ : ByteArray), (.func (.func 92) #[] #[]), .nilFunc, .nilFunc]) pl129 Wt.no rfl rfl rfl (L.bu (cs := [.int .i64 7, .string (⟨#[83, 84]⟩ : ByteArray), .nilFunc, (.func (.func 93) #[] #[]), .nilFunc]) pl129 Wt.no rfl rfl rfl (L.bu (cs := [.int .i64 8, .string (⟨#[83, 84, 78]⟩ : ByteArray), .nilFunc, (.func (.func 94) #[] #[]), .nilFunc]) pl129 Wt.no rfl rfl rfl (L.bu (cs := [.int .i64 9, .string (⟨#[83]⟩ : ByteArray), .nilFunc, (.func (.func 95) #[] #[]), .nilFunc]) pl129 Wt.no rfl rfl rfl (L.bu (cs := [.int .i64 10, .string (⟨#[82]⟩ : ByteArray), .nilFunc, (.func (.func 96) #[] #[]), .nilFunc]) pl129 Wt.no rfl rfl rfl (L.bu (cs := [.int .i64 11, .string (⟨#[74, 77, 80]⟩ : ByteArray), .nilFunc, .nilFunc, (.func (.func 97) #[] #[])]) pl129 Wt.no rfl rfl rfl (L.bu (cs := [.int .i64 12, .string (⟨#[74, 77, 80, 67]⟩ : ByteArray), .nilFunc, .nilFunc, (.func (.func 98) #[] #[])]) pl129 Wt.no rfl rfl rfl (L.bu (cs := [.int .i64 13, .string (⟨#[74, 77, 80, 67, 78]⟩ : ByteArray), .nilFunc, .nilFunc, (.func (.func 99) #[] #[])]) pl129 Wt.no rfl rfl rfl (L.bsE (k := 13) (cs := [.int .i64 1, .string (⟨#[76, 68]⟩ : ByteArray), (.func (.func 87) #[] #[]), .nilFunc, .nilFunc, .int .i64 2, .string (⟨#[76, 68, 78]⟩ : ByteArray), (.func (.func 88) #[] #[]), .nilFunc, .nilFunc, .int .i64 3, .string (⟨#[65, 78, 68]⟩ : ByteArray), (.func (.func 89) #[] #[]), .nilFunc, .nilFunc, .int .i64 4, .string (⟨#[65, 78, 68, 78]⟩ : ByteArray), (.func (.func 90) #[] #[]), .nilFunc, .nilFunc, .int .i64 5, .string (⟨#[79, 82]⟩ : ByteArray), (.func (.func 91) #[] #[]), .nilFunc, .nilFunc, .int .i64 6, .string (⟨#[79, 82, 78]⟩ : ByteArray), (.func (.func 92) #[] #[]), .nilFunc, .nilFunc, .int .i64 7, .string (⟨#[83, 84]⟩ : ByteArray), .nilFunc, (.func (.func 93) #[] #[]), .nilFunc, .int .i64 8, .string (⟨#[83, 84, 78]⟩ : ByteArray), .nilFunc, (.func (.func 94) #[] #[]), .nilFunc, .int .i64 9, .string (⟨#[83]⟩ : ByteArray), .nilFunc, (.func (.func 95) #[] #[]), .nilFunc, .int .i64 10, .string (⟨#[82]⟩ : ByteArray), .nilFunc, (.func (.func 96) #[] #[]), .nilFunc, .int .i64 11, .string (⟨#[74, 77, 80]⟩ : ByteArray), .nilFunc, .nilFunc, (.func (.func 97) #[] #[]), .int .i64 12, .string (⟨#[74, 77, 80, 67]⟩ : ByteArray), .nilFunc, .nilFunc, (.func (.func 98) #[] #[]), .int .i64 13, .string (⟨#[74, 77, 80, 67, 78]⟩ : ByteArray), .nilFunc, .nilFunc, (.func (.func 99) #[] #[])]) 0 bs124 (Nat.le_of_ble_eq_true rfl) Wt.no rfl rfl rfl rfl fun b2 s3 m4 bx2 => ?_)))))))))))))))))))))
 replace m0 := m0.trans m4.no
 have h2 := Bx.rdL (r := (rP (rK .i64) (rP rStr (rP (rF2 Try.prog (fun (x0 : Bool) (x1 : Bool) => [.bool x0, .bool x1]) (fun (r : Bool) => .bool r)) (rP (rF2 Try.prog (fun (x0 : Bool) (x1 : Bool) => [.bool x0, .bool x1]) (fun (r : Bool) => .bool r)) (rF1 Try.prog (fun (x0 : Bool) => [.bool x0]) (fun (r : Bool) => .bool r))))))) (xs := ([(1, (⟨#[76, 68]⟩ : ByteArray), (some m_instruction_operations_1), none, none), (2, (⟨#[76, 68, 78]⟩ : ByteArray), (some m_instruction_operations_2), none, none), (3, (⟨#[65, 78, 68]⟩ : ByteArray), (some m_instruction_operations_3), none, none), (4, (⟨#[65, 78, 68, 78]⟩ : ByteArray), (some m_instruction_operations_4), none, none), (5, (⟨#[79, 82]⟩ : ByteArray), (some m_instruction_operations_5), none, none), (6, (⟨#[79, 82, 78]⟩ : ByteArray), (some m_instruction_operations_6), none, none), (7, (⟨#[83, 84]⟩ : ByteArray), none, (some m_instruction_operations_7), none), (8, (⟨#[83, 84, 78]⟩ : ByteArray), none, (some m_instruction_operations_8), none), (9, (⟨#[83]⟩ : ByteArray), none, (some m_instruction_operations_9), none), (10, (⟨#[82]⟩ : ByteArray), none, (some m_instruction_operations_10), none), (11, (⟨#[74, 77, 80]⟩ : ByteArray), none, none, (some m_instruction_operations_11)), (12, (⟨#[74, 77, 80, 67]⟩ : ByteArray), none, none, (some m_instruction_operations_12)), (13, (⟨#[74, 77, 80, 67, 78]⟩ : ByteArray), none, none, (some m_instruction_operations_13))] : List (Int × ByteArray × (Option (Bool → Bool → Option Bool)) × (Option (Bool → Bool → Option Bool)) × (Option (Bool → Option Bool))))) bx2 ⟨[.int .i64 1, .string (⟨#[76, 68]⟩ : ByteArray), (.func (.func 87) #[] #[]), .nilFunc, .nilFunc], _, rfl, ⟨[.int .i64 1], [.string (⟨#[76, 68]⟩ : ByteArray), (.func (.func 87) #[] #[]), .nilFunc, .nilFunc], rfl, rfl, ⟨[.string (⟨#[76, 68]⟩ : ByteArray)], [(.func (.func 87) #[] #[]), .nilFunc, .nilFunc], rfl, rfl, ⟨[(.func (.func 87) #[] #[])], [.nilFunc, .nilFunc], rfl, ⟨_, rfl, fv87⟩, ⟨[.nilFunc], [.nilFunc], rfl, ⟨_, rfl, rfl⟩, ⟨_, rfl, rfl⟩⟩⟩⟩⟩, ⟨[.int .i64 2, .string (⟨#[76, 68, 78]⟩ : ByteArray), (.func (.func 88) #[] #[]), .nilFunc, .nilFunc], _, rfl, ⟨[.int .i64 2], [.string (⟨#[76, 68, 78]⟩ : ByteArray), (.func (.func 88) #[] #[]), .nilFunc, .nilFunc], rfl, rfl, ⟨[.string (⟨#[76, 68, 78]⟩ : ByteArray)], [(.func (.func 88) #[] #[]), .nilFunc, .nilFunc], rfl, rfl, ⟨[(.func (.func 88) #[] #[])], [.nilFunc, .nilFunc], rfl, ⟨_, rfl, fv88⟩, ⟨[.nilFunc], [.nilFunc], rfl, ⟨_, rfl, rfl⟩, ⟨_, rfl, rfl⟩⟩⟩⟩⟩, ⟨[.int .i64 3, .string (⟨#[65, 78, 68]⟩ : ByteArray), (.func (.func 89) #[] #[]), .nilFunc, .nilFunc], _, rfl, ⟨[.int .i64 3], [.string (⟨#[65, 78, 68]⟩ : ByteArray), (.func (.func 89) #[] #[]), .nilFunc, .nilFunc], rfl, rfl, ⟨[.string (⟨#[65, 78, 68]⟩ : ByteArray)], [(.func (.func 89) #[] #[]), .nilFunc, .nilFunc], rfl, rfl, ⟨[(.func (.func 89) #[] #[])], [.nilFunc, .nilFunc], rfl, ⟨_, rfl, fv89⟩, ⟨[.nilFunc], [.nilFunc], rfl, ⟨_, rfl, rfl⟩, ⟨_, rfl, rfl⟩⟩⟩⟩⟩, ⟨[.int .i64 4, .string (⟨#[65, 78, 68, 78]⟩ : ByteArray), (.func (.func 90) #[] #[]), .nilFunc, .nilFunc], _, rfl, ⟨[.int .i64 4], [.string (⟨#[65, 78, 68, 78]⟩ : ByteArray), (.func (.func 90) #[] #[]), .nilFunc, .nilFunc], rfl, rfl, ⟨[.string (⟨#[65, 78, 68, 78]⟩ : ByteArray)], [(.func (.func 90) #[] #[]), .nilFunc, .nilFunc], rfl, rfl, ⟨[(.func (.func 90) #[] #[])], [.nilFunc, .nilFunc], rfl, ⟨_, rfl, fv90⟩, ⟨[.nilFunc], [.nilFunc], rfl, ⟨_, rfl, rfl⟩, ⟨_, rfl, rfl⟩⟩⟩⟩⟩, ⟨[.int .i64 5, .string (⟨#[79, 82]⟩ : ByteArray), (.func (.func 91) #[] #[]), .nilFunc, .nilFunc], _, rfl, ⟨[.int .i64 5], [.string (⟨#[79, 82]⟩ : ByteArray), (.func (.func 91) #[] #[]), .nilFunc, .nilFunc], rfl, rfl, ⟨[.string (⟨#[79, 82]⟩ : ByteArray)], [(.func (.func 91) #[] #[]), .nilFunc, .nilFunc], rfl, rfl, ⟨[(.func (.func 91) #[] #[])], [.nilFunc, .nilFunc], rfl, ⟨_, rfl, fv91⟩, ⟨[.nilFunc], [.nilFunc], rfl, ⟨_, rfl, rfl⟩, ⟨_, rfl, rfl⟩⟩⟩⟩⟩, ⟨[.int .i64 6, .string (⟨#[79, 82, 78]⟩ : ByteArray), (.func (.func 92) #[] #[]), .nilFunc, .nilFunc], _, rfl, ⟨[.int .i64 6], [.string (⟨#[79, 82, 78]⟩ : ByteArray), (.func (.func 92) #[] #[]), .nilFunc, .nilFunc], rfl, rfl, ⟨[.string (⟨#[79, 82, 78]⟩ : ByteArray)], [(.func (.func 92) #[] #[]), .nilFunc, .nilFunc], rfl, rfl, ⟨[(.func (.func 92) #[] #[])], [.nilFunc, .nilFunc], rfl, ⟨_, rfl, fv92⟩, ⟨[.nilFunc], [.nilFunc], rfl, ⟨_, rfl, rfl⟩, ⟨_, rfl, rfl⟩⟩⟩⟩⟩, ⟨[.int .i64 7, .string (⟨#[83, 84]⟩ : ByteArray), .nilFunc, (.func (.func 93) #[] #[]), .nilFunc], _, rfl, ⟨[.int .i64 7], [.string (⟨#[83, 84]⟩ : ByteArray), .nilFunc, (.func (.func 93) #[] #[]), .nilFunc], rfl, rfl, ⟨[.string (⟨#[83, 84]⟩ : ByteArray)], [.nilFunc, (.func (.func 93) #[] #[]), .nilFunc], rfl, rfl, ⟨[.nilFunc], [(.func (.func 93) #[] #[]), .nilFunc], rfl, ⟨_, rfl, rfl⟩, ⟨[(.func (.func 93) #[] #[])], [.nilFunc], rfl, ⟨_, rfl, fv93⟩, ⟨_, rfl, rfl⟩⟩⟩⟩⟩, ⟨[.int .i64 8, .string (⟨#[83, 84, 78]⟩ : ByteArray), .nilFunc, (.func (.func 94) #[] #[]), .nilFunc], _, rfl, ⟨[.int .i64 8], [.string (⟨#[83, 84, 78]⟩ : ByteArray), .nilFunc, (.func (.func 94) #[] #[]), .nilFunc], rfl, rfl, ⟨[.string (⟨#[83, 84, 78]⟩ : ByteArray)], [.nilFunc, (.func (.func 94) #[] #[]), .nilFunc], rfl, rfl, ⟨[.nilFunc], [(.func (.func 94) #[] #[]), .nilFunc], rfl, ⟨_, rfl, rfl⟩, ⟨[(.func (.func 94) #[] #[])], [.nilFunc], rfl, ⟨_, rfl, fv94⟩, ⟨_, rfl, rfl⟩⟩⟩⟩⟩, ⟨[.int .i64 9, .string (⟨#[83]⟩ : ByteArray), .nilFunc, (.func (.func 95) #[] #[]), .nilFunc], _, rfl, ⟨[.int .i64 9], [.string (⟨#[83]⟩ : ByteArray), .nilFunc, (.func (.func 95) #[] #[]), .nilFunc], rfl, rfl, ⟨[.string (⟨#[83]⟩ : ByteArray)], [.nilFunc, (.func (.func 95) #[] #[]), .nilFunc], rfl, rfl, ⟨[.nilFunc], [(.func (.func 95) #[] #[]), .nilFunc], rfl, ⟨_, rfl, rfl⟩, ⟨[(.func (.func 95) #[] #[])], [.nilFunc], rfl, ⟨_, rfl, fv95⟩, ⟨_, rfl, rfl⟩⟩⟩⟩⟩, ⟨[.int .i64 10, .string (⟨#[82]⟩ : ByteArray), .nilFunc, (.func (.func 96) #[] #[]), .nilFunc], _, rfl, ⟨[.int .i64 10], [.string (⟨#[82]⟩ : ByteArray), .nilFunc, (.func (.func 96) #[] #[]), .nilFunc], rfl, rfl, ⟨[.string (⟨#[82]⟩ : ByteArray)], [.nilFunc, (.func (.func 96) #[] #[]), .nilFunc], rfl, rfl, ⟨[.nilFunc], [(.func (.func 96) #[] #[]), .nilFunc], rfl, ⟨_, rfl, rfl⟩, ⟨[(.func (.func 96) #[] #[])], [.nilFunc], rfl, ⟨_, rfl, fv96⟩, ⟨_, rfl, rfl⟩⟩⟩⟩⟩, ⟨[.int .i64 11, .string (⟨#[74, 77, 80]⟩ : ByteArray), .nilFunc, .nilFunc, (.func (.func 97) #[] #[])], _, rfl, ⟨[.int .i64 11], [.string (⟨#[74, 77, 80]⟩ : ByteArray), .nilFunc, .nilFunc, (.func (.func 97) #[] #[])], rfl, rfl, ⟨[.string (⟨#[74, 77, 80]⟩ : ByteArray)], [.nilFunc, .nilFunc, (.func (.func 97) #[] #[])], rfl, rfl, ⟨[.nilFunc], [.nilFunc, (.func (.func 97) #[] #[])], rfl, ⟨_, rfl, rfl⟩, ⟨[.nilFunc], [(.func (.func 97) #[] #[])], rfl, ⟨_, rfl, rfl⟩, ⟨_, rfl, fv97⟩⟩⟩⟩⟩, ⟨[.int .i64 12, .string (⟨#[74, 77, 80, 67]⟩ : ByteArray), .nilFunc, .nilFunc, (.func (.func 98) #[] #[])], _, rfl, ⟨[.int .i64 12], [.string (⟨#[74, 77, 80, 67]⟩ : ByteArray), .nilFunc, .nilFunc, (.func (.func 98) #[] #[])], rfl, rfl, ⟨[.string (⟨#[74, 77, 80, 67]⟩ : ByteArray)], [.nilFunc, .nilFunc, (.func (.func 98) #[] #[])], rfl, rfl, ⟨[.nilFunc], [.nilFunc, (.func (.func 98) #[] #[])], rfl, ⟨_, rfl, rfl⟩, ⟨[.nilFunc], [(.func (.func 98) #[] #[])], rfl, ⟨_, rfl, rfl⟩, ⟨_, rfl, fv98⟩⟩⟩⟩⟩, ⟨[.int .i64 13, .string (⟨#[74, 77, 80, 67, 78]⟩ : ByteArray), .nilFunc, .nilFunc, (.func (.func 99) #[] #[])], _, rfl, ⟨[.int .i64 13], [.string (⟨#[74, 77, 80, 67, 78]⟩ : ByteArray), .nilFunc, .nilFunc, (.func (.func 99) #[] #[])], rfl, rfl, ⟨[.string (⟨#[74, 77, 80, 67, 78]⟩ : ByteArray)], [.nilFunc, .nilFunc, (.func (.func 99) #[] #[])], rfl, rfl, ⟨[.nilFunc], [.nilFunc, (.func (.func 99) #[] #[])], rfl, ⟨_, rfl, rfl⟩, ⟨[.nilFunc], [(.func (.func 99) #[] #[])], rfl, ⟨_, rfl, rfl⟩, ⟨_, rfl, fv99⟩⟩⟩⟩⟩, rfl⟩⟩⟩⟩⟩⟩⟩⟩⟩⟩⟩⟩⟩ (Nat.le_of_ble_eq_true rfl)
 refine L.as Wt.no rfl rfl (L.nil (X.seqN (E.ret ?_)))
 obtain rfl := Option.some.inj hm
 exact X.rt (.inl rfl) Try.results74 (Rs.tmp rfl Rs.nil) rfl ⟨_, (s3).ren N (fun _ => 0), rfl, rfl, m0.ren hNb, ⟨(some ⟨b2, 0, none⟩), ([(1, (⟨#[76, 68]⟩ : ByteArray), (some m_instruction_operations_1), none, none), (2, (⟨#[76, 68, 78]⟩ : ByteArray), (some m_instruction_operations_2), none, none), (3, (⟨#[65, 78, 68]⟩ : ByteArray), (some m_instruction_operations_3), none, none), (4, (⟨#[65, 78, 68, 78]⟩ : ByteArray), (some m_instruction_operations_4), none, none), (5, (⟨#[79, 82]⟩ : ByteArray), (some m_instruction_operations_5), none, none), (6, (⟨#[79, 82, 78]⟩ : ByteArray), (some m_instruction_operations_6), none, none), (7, (⟨#[83, 84]⟩ : ByteArray), none, (some m_instruction_operations_7), none), (8, (⟨#[83, 84, 78]⟩ : ByteArray), none, (some m_instruction_operations_8), none), (9, (⟨#[83]⟩ : ByteArray), none, (some m_instruction_operations_9), none), (10, (⟨#[82]⟩ : ByteArray), none, (some m_instruction_operations_10), none), (11, (⟨#[74, 77, 80]⟩ : ByteArray), none, none, (some m_instruction_operations_11)), (12, (⟨#[74, 77, 80, 67]⟩ : ByteArray), none, none, (some m_instruction_operations_12)), (13, (⟨#[74, 77, 80, 67, 78]⟩ : ByteArray), none, none, (some m_instruction_operations_13))] : List (Int × ByteArray × (Option (Bool → Bool → Option Bool)) × (Option (Bool → Bool → Option Bool)) × (Option (Bool → Option Bool)))).length, rfl, (h2.ren hN)⟩⟩

/-- What instruction.width computes. -/
noncomputable def m_instruction_width (p0 : Int × Int × Int × List Bool × (List (Int × Int))) : Option Int :=
  some (W ((W (p0.1 + p0.2.1)) + p0.2.2.1))
set_option maxRecDepth 100000 in
set_option maxHeartbeats 8000000 in
theorem m_instruction_width_c {s : Sig} {p0 : Int × Int × Int × List Bool × (List (Int × Int))} {a1 : Option Addr} {c1 : Nat} {a2 : Option Addr} {c2 : Nat} {r : Int} (h1 : RdL rB s a1 c1 p0.2.2.2.1) (h2 : RdL (rP (rK .i64) (rK .i64)) s a2 c2 p0.2.2.2.2) (hm : m_instruction_width p0 = some r) :
    Calls Try.prog 75 #[.agg #[.int .i64 p0.1, .int .i64 p0.2.1, .int .i64 p0.2.2.1, .slice a1 p0.2.2.2.1.length c1, .slice a2 p0.2.2.2.2.length c2]] s.w (RetS No s fun v s' => v = .int .i64 r) := by
 unfold m_instruction_width at hm
 obtain ⟨N, hN, hNb⟩ := s.fresh
 have m0 : Mv (Up N No) s s := Mv.refl _ _
 refine E.entry Try.func75 rfl Try.ntmps75 rfl rfl (E.seq (E.reg (L.box (N + 0) Wt.no rfl rfl rfl fun b3 s4 m5 bx3 => ?_)))
 replace m0 := m0.trans m5.no
 refine L.as Wt.no rfl rfl (L.nil (X.seqN (E.seq (E.reg (L.fa fa32_0 Wt.no rfl rfl (L.ld (j := 0) bx3.mem nag3 Wt.no rfl rfl rfl rfl (L.fa fa32_1 Wt.no rfl rfl (L.ld (j := 1) bx3.mem nag3 Wt.no rfl rfl rfl rfl (L.bi Wt.no rfl rfl rfl rfl (L.fa fa32_2 Wt.no rfl rfl (L.ld (j := 2) bx3.mem nag3 Wt.no rfl rfl rfl rfl (L.bi Wt.no rfl rfl rfl rfl (L.as Wt.no rfl rfl (L.nil (X.seqN (E.ret ?_))))))))))))))))
 obtain rfl := Option.some.inj hm
 exact X.rt (.inl rfl) Try.results75 (Rs.tmp rfl Rs.nil) rfl ⟨_, (s4).ren N (fun _ => 0), rfl, rfl, m0.ren hNb, rfl⟩

theorem ag119 : Ag Try.prog 119 2 := Ag.mk' Try.underlying119 rfl (by kernel_rfl)
theorem ag129 : Ag Try.prog 129 5 := Ag.mk' Try.underlying129 rfl (by kernel_rfl)
theorem ag32 : Ag Try.prog 32 5 := Ag.mk' Try.underlying32 rfl (by kernel_rfl)
theorem cf74 : Cf Try.prog 74 := Cf.mk Try.func74 (by kernel_rfl) (by kernel_rfl)
theorem cf75 : Cf Try.prog 75 := Cf.mk Try.func75 (by kernel_rfl) (by kernel_rfl)
theorem fa119_0 : FA Try.prog 119 0 0 := FA.mk Try.underlying119 rfl rfl ⟨1, by decide, by kernel_rfl⟩
theorem fa129_3 : FA Try.prog 129 3 3 := FA.mk Try.underlying129 rfl rfl ⟨1, by decide, by kernel_rfl⟩
theorem fa129_4 : FA Try.prog 129 4 4 := FA.mk Try.underlying129 rfl rfl ⟨1, by decide, by kernel_rfl⟩
theorem nag126 : NAg Try.prog 126 := NAg.mk' Try.underlying126 rfl (by kernel_rfl)
theorem nag127 : NAg Try.prog 127 := NAg.mk' Try.underlying127 rfl (by kernel_rfl)
theorem sl124 : Sl Try.prog 124 129 5 := Sl.mk' Try.underlying124 (by kernel_rfl)
theorem zz119 : (Try.prog.info? 119).bind (·.zero) = some (.agg #[.int .i64 0, .int .i64 0]) := by kernel_rfl
theorem zz129 : (Try.prog.info? 129).bind (·.zero) = some (.agg #[.int .i64 0, .string (⟨#[]⟩ : ByteArray), .nilFunc, .nilFunc, .nilFunc]) := by kernel_rfl
noncomputable def m_instruction_checkInstruction_j1 (p0 : Int × Int × Int × List Bool × (List (Int × Int))) (x6 : Int × Int) (x18 : Int × ByteArray × (Option (Bool → Bool → Option Bool)) × (Option (Bool → Bool → Option Bool)) × (Option (Bool → Option Bool))) (b30 : Bool) : Option Int :=
  if b30 then
    some 2
  else
    if (x18.2.2.2.1.isSome && (decide (x6.2 < p0.1))) then
      some 19
    else
      some 0
/-- What instruction.checkInstruction computes. -/
noncomputable def m_instruction_checkInstruction (p0 : Int × Int × Int × List Bool × (List (Int × Int))) (p1 : Int) : Option Int :=
  (idx p0.2.2.2.2 p1).bind fun x6 =>
  (m_instruction_operations).bind fun r13 =>
  if ((decide (x6.1 < 1)) || (decide (x6.1 > (r13.length : Int)))) then
    some 11
  else
    (idx r13 (W (x6.1 - 1))).bind fun x18 =>
    if x18.2.2.2.2.isSome then
      if ((decide (x6.2 ≤ p1)) || (decide (x6.2 > (p0.2.2.2.2.length : Int)))) then
        some 2
      else
        some 0
    else
      if decide (x6.2 < 0) then
        m_instruction_checkInstruction_j1 p0 x6 x18 true
      else
        (m_instruction_width p0).bind fun r51 =>
        m_instruction_checkInstruction_j1 p0 x6 x18 (decide (x6.2 ≥ r51))
set_option maxRecDepth 100000 in
set_option maxHeartbeats 8000000 in
theorem m_instruction_checkInstruction_c {s : Sig} {p0 : Int × Int × Int × List Bool × (List (Int × Int))} {p1 : Int} {a1 : Option Addr} {c1 : Nat} {a2 : Option Addr} {c2 : Nat} {r : Int} (h1 : RdL rB s a1 c1 p0.2.2.2.1) (h2 : RdL (rP (rK .i64) (rK .i64)) s a2 c2 p0.2.2.2.2) (hm : m_instruction_checkInstruction p0 p1 = some r) :
    Calls Try.prog 58 #[.agg #[.int .i64 p0.1, .int .i64 p0.2.1, .int .i64 p0.2.2.1, .slice a1 p0.2.2.2.1.length c1, .slice a2 p0.2.2.2.2.length c2], .int .i64 p1] s.w (RetS No s fun v s' => v = .int .i64 r) := by
 unfold m_instruction_checkInstruction at hm
 obtain ⟨N, hN, hNb⟩ := s.fresh
 have m0 : Mv (Up N No) s s := Mv.refl _ _
 refine E.entry Try.func58 rfl Try.ntmps58 rfl rfl (E.seq (E.reg (L.box (N + 0) Wt.no rfl rfl rfl fun b3 s4 m5 bx3 => ?_)))
 replace m0 := m0.trans m5.no
 replace h1 := h1.mono (m5.le no_No)
 replace h2 := h2.mono (m5.le no_No)
 refine L.as Wt.no rfl rfl (L.nil (X.seqN (E.seq (E.reg (L.fa fa32_4 Wt.no rfl rfl (L.ld (j := 4) bx3.mem nag30 Wt.no rfl rfl rfl rfl (L.mv Wt.no rfl rfl ?_)))))))
 obtain ⟨x6, ex6, hm⟩ := bindS hm
 refine L.ix (r := (rP (rK .i64) (rK .i64))) sl30 h2 Wt.no rfl rfl ex6 rfl fun b7 o7 cc7 me7 rd7 => ?_
 obtain ⟨_, _, rfl, rfl, rfl⟩ := rd7
 refine L.lg (j := 0) (cs := [.int .i64 x6.1, .int .i64 x6.2]) me7 ag119 Wt.no rfl rfl rfl rfl rfl (L.al (N + 1) zz119 rfl Wt.no rfl fun b8 s9 m10 bx8 => ?_)
 replace m0 := m0.trans m10.no
 replace bx3 := bx3.mv m10 no_No
 replace h1 := h1.mono (m10.le no_No)
 replace h2 := h2.mono (m10.le no_No)
 refine L.st (c := [.int .i64 x6.1, .int .i64 x6.2]) (cs' := #[.int .i64 x6.1, .int .i64 x6.2]) bx8 ag119.sz Wt.no rfl rfl rfl rfl rfl (Nat.le_of_ble_eq_true rfl) rfl fun s11 m12 bx8 => ?_
 replace m0 := m0.trans (m12.one up)
 replace bx3 := bx3.mv m12 (tgN (by decide))
 replace h1 := h1.mono (m12.le (tg0 hN))
 replace h2 := h2.mono (m12.le (tg0 hN))
 refine L.nil (X.seqN (E.seq (E.reg ?_)))
 obtain ⟨r13, er13, hm⟩ := bindS hm
 refine L.ca cf74 rfl rfl Wt.no rfl (m_instruction_operations_c (s := s11) er13) rfl ?_
 rintro _ s14 m15 ⟨a16, c16, rfl, h16⟩
 replace m0 := m0.trans m15.no
 replace bx3 := bx3.mv m15 no_No
 replace h1 := h1.mono (m15.le no_No)
 replace h2 := h2.mono (m15.le no_No)
 replace bx8 := bx8.mv m15 no_No
 refine L.as Wt.no rfl rfl (L.nil (X.seqN (E.seq (E.seq (E.reg (L.fa fa119_0 Wt.no rfl rfl (L.ld (j := 0) bx8.mem nag3 Wt.no rfl rfl rfl rfl (L.bi Wt.no rfl rfl rfl rfl (L.mv Wt.no rfl rfl (L.cut 6 (fun e w => ∃ (v17 : Bool), ((decide (x6.1 < 1)) || (decide (x6.1 > (r13.length : Int)))) = v17 ∧ e = (23, .bool v17) :: [(6, .slice a16 r13.length c16), (5, .pointer (some ⟨b8, 0, none⟩)), (2, .pointer (some ⟨b3, 0, none⟩)), (1, .int .i64 p1)] ∧ w = s14.w) ?_ ?_))))))))))
 ·rintro _ _ ⟨v17, rfl, rfl, rfl⟩
  refine L.nil (X.seqN ?_)
  rcases ifS hm with ⟨hc, hm⟩ | ⟨hc, hm⟩
  ·refine E.cT rfl hc (E.seq (E.reg (L.as Wt.no rfl rfl (L.nil (X.seqN (E.ret (X.seqR ?_)))))))
   obtain rfl := Option.some.inj hm
   exact X.rt (.inl rfl) Try.results58 (Rs.tmp rfl Rs.nil) rfl ⟨_, (s14).ren N (fun _ => 0), rfl, rfl, m0.ren hNb, rfl⟩
  ·refine E.cF rfl hc (E.skip (X.seqN (E.seq (E.reg (L.mv Wt.no rfl rfl (L.fa fa119_0 Wt.no rfl rfl (L.ld (j := 0) bx8.mem nag3 Wt.no rfl rfl rfl rfl (L.bi Wt.no rfl rfl rfl rfl ?_))))))))
   obtain ⟨x18, ex18, hm⟩ := bindS hm
   refine L.ix (r := (rP (rK .i64) (rP rStr (rP (rF2 Try.prog (fun (x0 : Bool) (x1 : Bool) => [.bool x0, .bool x1]) (fun (r : Bool) => .bool r)) (rP (rF2 Try.prog (fun (x0 : Bool) (x1 : Bool) => [.bool x0, .bool x1]) (fun (r : Bool) => .bool r)) (rF1 Try.prog (fun (x0 : Bool) => [.bool x0]) (fun (r : Bool) => .bool r))))))) sl124 h16 Wt.no rfl rfl ex18 rfl fun b19 o19 cc19 me19 rd19 => ?_
   obtain ⟨_, _, rfl, rfl, ⟨_, _, rfl, rfl, ⟨_, _, rfl, ⟨v20, rfl, h20⟩, ⟨_, _, rfl, ⟨v21, rfl, h21⟩, ⟨v22, rfl, h22⟩⟩⟩⟩⟩ := rd19
   refine L.lg (j := 0) (cs := [.int .i64 x18.1, .string x18.2.1, v20, v21, v22]) me19 ag129 Wt.no rfl rfl rfl rfl rfl (L.al (N + 2) zz129 rfl Wt.no rfl fun b23 s24 m25 bx23 => ?_)
   replace m0 := m0.trans m25.no
   replace h20 := h20.mono (m25.le no_No)
   replace h21 := h21.mono (m25.le no_No)
   replace h22 := h22.mono (m25.le no_No)
   replace bx3 := bx3.mv m25 no_No
   replace h1 := h1.mono (m25.le no_No)
   replace h2 := h2.mono (m25.le no_No)
   replace bx8 := bx8.mv m25 no_No
   refine L.st (c := [.int .i64 x18.1, .string x18.2.1, v20, v21, v22]) (cs' := #[.int .i64 x18.1, .string x18.2.1, v20, v21, v22]) bx23 ag129.sz Wt.no rfl rfl rfl rfl (oneC rfl (oneC rfl (oneC h20.one (oneC h21.one (oneC h22.one rfl))))) (Nat.le_of_ble_eq_true rfl) rfl fun s26 m27 bx23 => ?_
   replace m0 := m0.trans (m27.one up)
   replace bx3 := bx3.mv m27 (tgN (by decide))
   replace h1 := h1.mono (m27.le (tg0 hN))
   replace h2 := h2.mono (m27.le (tg0 hN))
   replace bx8 := bx8.mv m27 (tgN (by decide))
   replace h20 := h20.mono (m27.le (tg0 hN))
   replace h21 := h21.mono (m27.le (tg0 hN))
   replace h22 := h22.mono (m27.le (tg0 hN))
   refine L.nil (X.seqN (E.seq (E.seq (E.reg (L.fa fa129_4 Wt.no rfl rfl (L.ld (j := 4) bx23.mem nag127 Wt.no rfl rfl rfl rfl (L.fne1 Try.underlying127 h22 Wt.no rfl rfl rfl (L.nil (X.seqN ?_)))))))))
   rcases ifS hm with ⟨hc, hm⟩ | ⟨hc, hm⟩
   ·refine E.cT rfl hc (E.seq (E.seq (E.reg (L.fa fa119_1 Wt.no rfl rfl (L.ld (j := 1) bx8.mem nag3 Wt.no rfl rfl rfl rfl (L.mv Wt.no rfl rfl (L.bi Wt.no rfl rfl rfl rfl (L.mv Wt.no rfl rfl (L.cut 7 (fun e w => ∃ (v28 : Bool), ((decide (x6.2 ≤ p1)) || (decide (x6.2 > (p0.2.2.2.2.length : Int)))) = v28 ∧ e = (44, .bool v28) :: [] ∧ w = s26.w) ?_ ?_)))))))))
    ·rintro _ _ ⟨v28, rfl, rfl, rfl⟩
     refine L.nil (X.seqN ?_)
     rcases ifS hm with ⟨hc, hm⟩ | ⟨hc, hm⟩
     ·refine E.cT rfl hc (E.seq (E.reg (L.as Wt.no rfl rfl (L.nil (X.seqN (E.ret (X.seqR (X.seqR ?_))))))))
      obtain rfl := Option.some.inj hm
      exact X.rt (.inl rfl) Try.results58 (Rs.tmp rfl Rs.nil) rfl ⟨_, (s26).ren N (fun _ => 0), rfl, rfl, m0.ren hNb, rfl⟩
     ·refine E.cF rfl hc (E.skip (X.seqN (E.seq (E.reg (L.as Wt.no rfl rfl (L.nil (X.seqN (E.ret (X.seqR ?_)))))))))
      obtain rfl := Option.some.inj hm
      exact X.rt (.inl rfl) Try.results58 (Rs.tmp rfl Rs.nil) rfl ⟨_, (s26).ren N (fun _ => 0), rfl, rfl, m0.ren hNb, rfl⟩
    ·intro J29
     rcases Bool.eq_false_or_eq_true (decide (x6.2 ≤ p1)) with hc | hc
     ·exact L.know (d := 37) rfl hc (L.skip rfl rfl rfl rfl (L.skip rfl rfl rfl rfl (L.skip rfl rfl rfl rfl (L.skip rfl rfl rfl rfl (L.skip rfl rfl rfl rfl (L.skip rfl rfl rfl rfl (L.pkT Wt.no rfl rfl rfl rfl (L.sb (J29 _ _ ⟨true, (orT hc).symm, rfl, rfl⟩) rfl))))))))
     ·exact L.know (d := 37) rfl hc (L.fa fa119_1 (Wt.mk rfl rfl) rfl rfl (L.ld (j := 1) bx8.mem nag3 (Wt.mk rfl rfl) rfl rfl rfl rfl (L.fa fa32_4 (Wt.mk rfl rfl) rfl rfl (L.ld (j := 4) bx3.mem nag30 (Wt.mk rfl rfl) rfl rfl rfl rfl (L.len sl30 (Wt.mk rfl rfl) rfl rfl (L.bi (Wt.mk rfl rfl) rfl rfl rfl rfl (L.pkF Wt.no rfl rfl rfl rfl (L.sb (J29 _ _ ⟨(decide (x6.2 > (p0.2.2.2.2.length : Int))), (orF hc).symm, rfl, rfl⟩) rfl))))))))
   ·refine E.cF rfl hc (E.skip (X.seqN (E.seq (E.seqJ (fun e w => ∃ (s31 : Sig) (b30 : Bool), m_instruction_checkInstruction_j1 p0 x6 x18 b30 = some r ∧ Mv (Up N No) s s31 ∧ RdL rB s31 a1 c1 p0.2.2.2.1 ∧ RdL (rP (rK .i64) (rK .i64)) s31 a2 c2 p0.2.2.2.2 ∧ FO2 Try.prog s31 v20 (fun (x0 : Bool) (x1 : Bool) => [.bool x0, .bool x1]) (fun (r : Bool) => .bool r) x18.2.2.1 ∧ FO2 Try.prog s31 v21 (fun (x0 : Bool) (x1 : Bool) => [.bool x0, .bool x1]) (fun (r : Bool) => .bool r) x18.2.2.2.1 ∧ FO1 Try.prog s31 v22 (fun (x0 : Bool) => [.bool x0]) (fun (r : Bool) => .bool r) x18.2.2.2.2 ∧ Bx s31 (N + 0) b3 #[.int .i64 p0.1, .int .i64 p0.2.1, .int .i64 p0.2.2.1, .slice a1 p0.2.2.2.1.length c1, .slice a2 p0.2.2.2.2.length c2] 32 ∧ Bx s31 (N + 1) b8 #[.int .i64 x6.1, .int .i64 x6.2] 119 ∧ Bx s31 (N + 2) b23 #[.int .i64 x18.1, .string x18.2.1, v20, v21, v22] 129 ∧ e = [(54, .bool b30), (7, .pointer (some ⟨b23, 0, none⟩)), (5, .pointer (some ⟨b8, 0, none⟩)), (2, .pointer (some ⟨b3, 0, none⟩))] ∧ w = s31.w) ?_ ?_))))
    ·rintro _ _ ⟨s31, b30, hm, m0, h1, h2, h20, h21, h22, bx3, bx8, bx23, rfl, rfl⟩
     unfold m_instruction_checkInstruction_j1 at hm
     rcases ifS hm with ⟨hc, hm⟩ | ⟨hc, hm⟩
     ·refine E.cT rfl hc (E.seq (E.reg (L.as Wt.no rfl rfl (L.nil (X.seqN (E.ret (X.seqR ?_)))))))
      obtain rfl := Option.some.inj hm
      exact X.rt (.inl rfl) Try.results58 (Rs.tmp rfl Rs.nil) rfl ⟨_, (s31).ren N (fun _ => 0), rfl, rfl, m0.ren hNb, rfl⟩
     ·refine E.cF rfl hc (E.skip (X.seqN (E.seq (E.seq (E.reg (L.fa fa129_3 Wt.no rfl rfl (L.ld (j := 3) bx23.mem nag126 Wt.no rfl rfl rfl rfl (L.fne2 Try.underlying126 h21 Wt.no rfl rfl rfl (L.mv Wt.no rfl rfl (L.cut 6 (fun e w => ∃ (v33 : Bool), (x18.2.2.2.1.isSome && (decide (x6.2 < p0.1))) = v33 ∧ e = (64, .bool v33) :: [] ∧ w = s31.w) ?_ ?_))))))))))
      ·rintro _ _ ⟨v33, rfl, rfl, rfl⟩
       refine L.nil (X.seqN ?_)
       rcases ifS hm with ⟨hc, hm⟩ | ⟨hc, hm⟩
       ·refine E.cT rfl hc (E.seq (E.reg (L.as Wt.no rfl rfl (L.nil (X.seqN (E.ret (X.seqR ?_)))))))
        obtain rfl := Option.some.inj hm
        exact X.rt (.inl rfl) Try.results58 (Rs.tmp rfl Rs.nil) rfl ⟨_, (s31).ren N (fun _ => 0), rfl, rfl, m0.ren hNb, rfl⟩
       ·refine E.cF rfl hc (E.skip (X.seqN (E.seq (E.reg (L.as Wt.no rfl rfl (L.nil (X.seqN (E.ret ?_))))))))
        obtain rfl := Option.some.inj hm
        exact X.rt (.inl rfl) Try.results58 (Rs.tmp rfl Rs.nil) rfl ⟨_, (s31).ren N (fun _ => 0), rfl, rfl, m0.ren hNb, rfl⟩
      ·intro J34
       rcases Bool.eq_false_or_eq_true x18.2.2.2.1.isSome with hc | hc
       ·exact L.know (d := 58) rfl hc (L.fa fa119_1 (Wt.mk rfl rfl) rfl rfl (L.ld (j := 1) bx8.mem nag3 (Wt.mk rfl rfl) rfl rfl rfl rfl (L.fa fa32_0 (Wt.mk rfl rfl) rfl rfl (L.ld (j := 0) bx3.mem nag3 (Wt.mk rfl rfl) rfl rfl rfl rfl (L.bi (Wt.mk rfl rfl) rfl rfl rfl rfl (L.pkT Wt.no rfl rfl rfl rfl (L.sb (J34 _ _ ⟨(decide (x6.2 < p0.1)), (andT hc).symm, rfl, rfl⟩) rfl)))))))
       ·exact L.know (d := 58) rfl hc (L.skip rfl rfl rfl rfl (L.skip rfl rfl rfl rfl (L.skip rfl rfl rfl rfl (L.skip rfl rfl rfl rfl (L.skip rfl rfl rfl rfl (L.pkF Wt.no rfl rfl rfl rfl (L.sb (J34 _ _ ⟨false, (andF hc).symm, rfl, rfl⟩) rfl)))))))
    ·intro Jj32
     rcases ifS hm with ⟨hc39, hm⟩ | ⟨hc39, hm⟩
     ·have _ := hN
      refine E.draw [[], [0], [0, 1], [0, 1, 2], [0, 1, 2, 3], [0, 1, 2, 3, 4], [0, 1, 2, 3], [0, 1, 2, 3, 6], [0, 1, 2, 3, 4, 5, 6, 7], [0, 1, 2, 3, 4, 5, 6, 7, 8]] (fun D e sx => Mv No s26 sx ∧ Sub [(7, .pointer (some ⟨b23, 0, none⟩)), (5, .pointer (some ⟨b8, 0, none⟩)), (2, .pointer (some ⟨b3, 0, none⟩))] e ∧ (D 0 = true → (Env.get e 45 = some (.pointer (some ⟨b8, 1, none⟩)))) ∧ (D 1 = true → (Env.get e 46 = some (.int .i64 x6.2))) ∧ (D 2 = true → (Env.get e 47 = some (.bool (decide (x6.2 < 0))))) ∧ (D 3 = true → (Env.get e 48 = some (.bool (decide (x6.2 < 0))))) ∧ (D 4 = true → (Env.get e 49 = some undef)) ∧ (D 5 = true → (Env.get e 50 = some undef)) ∧ (D 6 = true → (Env.get e 51 = some undef)) ∧ (D 7 = true → (Env.get e 52 = some undef)) ∧ (D 8 = true → (Env.get e 53 = some undef)) ∧ (D 9 = true → (Env.get e 54 = some (.bool true)))) (by kernel_rfl) (by kernel_rfl) (by kernel_rfl) ?_ ?_ ?_
      ·intro sz mz
       exact ⟨mz, (Sub.rf rfl), nofun, nofun, nofun, nofun, nofun, nofun, nofun, nofun, nofun, nofun⟩
      ·refine ⟨?_, ?_, ?_, ?_, ?_, ?_, ?_, ?_, ?_, ?_, trivial⟩
       ·rintro D e s35 ⟨im, ib, i0, t_⟩ hk hf ha
        have kn : Kn e [(5, .pointer (some ⟨b8, 0, none⟩))] := ⟨(ib 5 _ rfl), trivial⟩
        exact L.kns _ kn (L.fa fa119_1 Wt.no rfl rfl (L.nil (X.dk kn ⟨im, Sub.fresh ib rfl, fun _ => rfl, t_⟩)))
       ·rintro D e s36 ⟨im, ib, i0, i1, t_⟩ hk hf ha
        obtain ⟨d0, -⟩ := ha
        have g0_ := i0 d0
        have bx8 := bx8.mv im no_No
        have kn : Kn e [(45, .pointer (some ⟨b8, 1, none⟩))] := ⟨g0_, trivial⟩
        exact L.kns _ kn (L.ld (j := 1) bx8.mem nag3 Wt.no rfl rfl rfl rfl (L.nil (X.dk kn ⟨im, Sub.fresh ib rfl, i0, fun _ => rfl, t_⟩)))
       ·rintro D e s37 ⟨im, ib, i0, i1, i2, t_⟩ hk hf ha
        obtain ⟨d0, d1, -⟩ := ha
        have g1_ := i1 d1
        have kn : Kn e [(46, .int .i64 x6.2)] := ⟨g1_, trivial⟩
        exact L.kns _ kn (L.bi Wt.no rfl rfl rfl rfl (L.nil (X.dk kn ⟨im, Sub.fresh ib rfl, i0, i1, fun _ => rfl, t_⟩)))
       ·rintro D e s38 ⟨im, ib, i0, i1, i2, i3, t_⟩ hk hf ha
        obtain ⟨d0, d1, d2, -⟩ := ha
        have g2_ := i2 d2
        have kn : Kn e [(47, .bool (decide (x6.2 < 0)))] := ⟨g2_, trivial⟩
        exact L.kns _ kn (L.mv Wt.no rfl rfl (L.nil (X.dk kn ⟨im, Sub.fresh ib rfl, i0, i1, i2, fun _ => rfl, t_⟩)))
       ·rintro D e s40 ⟨im, ib, i0, i1, i2, i3, i4, t_⟩ hk hf ha
        obtain ⟨d0, d1, d2, d3, -⟩ := ha
        have g3_ := i3 d3
        rw [hc39] at g3_
        have kn : Kn e [(5, .pointer (some ⟨b8, 0, none⟩)), (48, .bool true)] := ⟨(ib 5 _ rfl), g3_, trivial⟩
        exact L.kns _ kn (L.skip rfl rfl rfl rfl (L.nil (X.dk kn ⟨im, Sub.fresh ib rfl, i0, i1, i2, i3, fun _ => rfl, t_⟩)))
       ·rintro D e s41 ⟨im, ib, i0, i1, i2, i3, i4, i5, t_⟩ hk hf ha
        obtain ⟨d0, d1, d2, d3, d4, -⟩ := ha
        have g3_ := i3 d3
        have g4_ := i4 d4
        rw [hc39] at g3_
        have kn : Kn e [(49, undef), (48, .bool true)] := ⟨g4_, g3_, trivial⟩
        exact L.kns _ kn (L.skip rfl rfl rfl rfl (L.nil (X.dk kn ⟨im, Sub.fresh ib rfl, i0, i1, i2, i3, i4, fun _ => rfl, t_⟩)))
       ·rintro D e s42 ⟨im, ib, i0, i1, i2, i3, i4, i5, i6, t_⟩ hk hf ha
        obtain ⟨d0, d1, d2, d3, -⟩ := ha
        have g3_ := i3 d3
        rw [hc39] at g3_
        have kn : Kn e [(2, .pointer (some ⟨b3, 0, none⟩)), (48, .bool true)] := ⟨(ib 2 _ rfl), g3_, trivial⟩
        exact L.kns _ kn (L.skip rfl rfl rfl rfl (L.nil (X.dk kn ⟨im, Sub.fresh ib rfl, i0, i1, i2, i3, i4, i5, fun _ => rfl, t_⟩)))
       ·rintro D e s43 ⟨im, ib, i0, i1, i2, i3, i4, i5, i6, i7, t_⟩ hk hf ha
        obtain ⟨d0, d1, d2, d3, d6, -⟩ := ha
        have g3_ := i3 d3
        have g6_ := i6 d6
        rw [hc39] at g3_
        have kn : Kn e [(51, undef), (48, .bool true)] := ⟨g6_, g3_, trivial⟩
        exact L.kns _ kn (L.skip rfl rfl rfl rfl (L.nil (X.dk kn ⟨im, Sub.fresh ib rfl, i0, i1, i2, i3, i4, i5, i6, fun _ => rfl, t_⟩)))
       ·rintro D e s44 ⟨im, ib, i0, i1, i2, i3, i4, i5, i6, i7, i8, i9⟩ hk hf ha
        obtain ⟨d0, d1, d2, d3, d4, d5, d6, d7, -⟩ := ha
        have g3_ := i3 d3
        have g5_ := i5 d5
        have g7_ := i7 d7
        rw [hc39] at g3_
        have kn : Kn e [(50, undef), (52, undef), (48, .bool true)] := ⟨g5_, g7_, g3_, trivial⟩
        exact L.kns _ kn (L.skip rfl rfl rfl rfl (L.nil (X.dk kn ⟨im, Sub.fresh ib rfl, i0, i1, i2, i3, i4, i5, i6, i7, fun _ => rfl, i9⟩)))
       ·rintro D e s45 ⟨im, ib, i0, i1, i2, i3, i4, i5, i6, i7, i8, i9⟩ hk hf ha
        obtain ⟨d0, d1, d2, d3, d4, d5, d6, d7, d8, -⟩ := ha
        have g3_ := i3 d3
        have g8_ := i8 d8
        rw [hc39] at g3_
        have kn : Kn e [(48, .bool true), (53, undef)] := ⟨g3_, g8_, trivial⟩
        exact L.kns _ kn (L.pkT Wt.no rfl rfl rfl rfl (L.nil (X.dk kn ⟨im, Sub.fresh ib rfl, i0, i1, i2, i3, i4, i5, i6, i7, i8, fun _ => rfl⟩)))
      ·rintro D e s46 hD ⟨im, ib, i0, i1, i2, i3, i4, i5, i6, i7, i8, i9⟩
       have g9_ := i9 (hD 9 rfl)
       have bx23 := bx23.mv im no_No
       have h20 := h20.mono (im.le no_No)
       have h21 := h21.mono (im.le no_No)
       have h22 := h22.mono (im.le no_No)
       have bx8 := bx8.mv im no_No
       have bx3 := bx3.mv im no_No
       have h1 := h1.mono (im.le no_No)
       have h2 := h2.mono (im.le no_No)
       have m0 := m0.trans im.no
       refine X.sub (e' := [(54, .bool true), (7, .pointer (some ⟨b23, 0, none⟩)), (5, .pointer (some ⟨b8, 0, none⟩)), (2, .pointer (some ⟨b3, 0, none⟩))]) ?_ (Sub.cons g9_ (Sub.cons (ib 7 _ rfl) (Sub.cons (ib 5 _ rfl) (Sub.cons (ib 2 _ rfl) Sub.nil))))
       exact X.sub (Jj32 _ _ ⟨s46, true, hm, m0, h1, h2, h20, h21, h22, bx3, bx8, bx23, rfl, rfl⟩) (Sub.rf rfl)
     ·have _ := hN
      obtain ⟨r51, er51, hm⟩ := bindS hm
      refine E.draw [[], [0], [0, 1], [0, 1, 2], [0, 1, 2, 3], [0, 1, 2, 3, 4], [0, 1, 2, 3], [0, 1, 2, 3, 6], [0, 1, 2, 3, 4, 5, 6, 7], [0, 1, 2, 3, 4, 5, 6, 7, 8]] (fun D e sx => Mv No s26 sx ∧ Sub [(7, .pointer (some ⟨b23, 0, none⟩)), (5, .pointer (some ⟨b8, 0, none⟩)), (2, .pointer (some ⟨b3, 0, none⟩))] e ∧ (D 0 = true → (Env.get e 45 = some (.pointer (some ⟨b8, 1, none⟩)))) ∧ (D 1 = true → (Env.get e 46 = some (.int .i64 x6.2))) ∧ (D 2 = true → (Env.get e 47 = some (.bool (decide (x6.2 < 0))))) ∧ (D 3 = true → (Env.get e 48 = some (.bool (decide (x6.2 < 0))))) ∧ (D 4 = true → (Env.get e 49 = some (.pointer (some ⟨b8, 1, none⟩)))) ∧ (D 5 = true → (Env.get e 50 = some (.int .i64 x6.2))) ∧ (D 6 = true → (Env.get e 51 = some (.agg #[.int .i64 p0.1, .int .i64 p0.2.1, .int .i64 p0.2.2.1, .slice a1 p0.2.2.2.1.length c1, .slice a2 p0.2.2.2.2.length c2]))) ∧ (D 7 = true → (Env.get e 52 = some (.int .i64 r51))) ∧ (D 8 = true → (Env.get e 53 = some (.bool (decide (x6.2 ≥ r51))))) ∧ (D 9 = true → (Env.get e 54 = some (.bool (decide (x6.2 ≥ r51)))))) (by kernel_rfl) (by kernel_rfl) (by kernel_rfl) ?_ ?_ ?_
      ·intro sz mz
       exact ⟨mz, (Sub.rf rfl), nofun, nofun, nofun, nofun, nofun, nofun, nofun, nofun, nofun, nofun⟩
      ·refine ⟨?_, ?_, ?_, ?_, ?_, ?_, ?_, ?_, ?_, ?_, trivial⟩
       ·rintro D e s35 ⟨im, ib, i0, t_⟩ hk hf ha
        have kn : Kn e [(5, .pointer (some ⟨b8, 0, none⟩))] := ⟨(ib 5 _ rfl), trivial⟩
        exact L.kns _ kn (L.fa fa119_1 Wt.no rfl rfl (L.nil (X.dk kn ⟨im, Sub.fresh ib rfl, fun _ => rfl, t_⟩)))
       ·rintro D e s36 ⟨im, ib, i0, i1, t_⟩ hk hf ha
        obtain ⟨d0, -⟩ := ha
        have g0_ := i0 d0
        have bx8 := bx8.mv im no_No
        have kn : Kn e [(45, .pointer (some ⟨b8, 1, none⟩))] := ⟨g0_, trivial⟩
        exact L.kns _ kn (L.ld (j := 1) bx8.mem nag3 Wt.no rfl rfl rfl rfl (L.nil (X.dk kn ⟨im, Sub.fresh ib rfl, i0, fun _ => rfl, t_⟩)))
       ·rintro D e s37 ⟨im, ib, i0, i1, i2, t_⟩ hk hf ha
        obtain ⟨d0, d1, -⟩ := ha
        have g1_ := i1 d1
        have kn : Kn e [(46, .int .i64 x6.2)] := ⟨g1_, trivial⟩
        exact L.kns _ kn (L.bi Wt.no rfl rfl rfl rfl (L.nil (X.dk kn ⟨im, Sub.fresh ib rfl, i0, i1, fun _ => rfl, t_⟩)))
       ·rintro D e s38 ⟨im, ib, i0, i1, i2, i3, t_⟩ hk hf ha
        obtain ⟨d0, d1, d2, -⟩ := ha
        have g2_ := i2 d2
        have kn : Kn e [(47, .bool (decide (x6.2 < 0)))] := ⟨g2_, trivial⟩
        exact L.kns _ kn (L.mv Wt.no rfl rfl (L.nil (X.dk kn ⟨im, Sub.fresh ib rfl, i0, i1, i2, fun _ => rfl, t_⟩)))
       ·rintro D e s47 ⟨im, ib, i0, i1, i2, i3, i4, t_⟩ hk hf ha
        obtain ⟨d0, d1, d2, d3, -⟩ := ha
        have g3_ := i3 d3
        rw [hc39] at g3_
        have kn : Kn e [(5, .pointer (some ⟨b8, 0, none⟩)), (48, .bool false)] := ⟨(ib 5 _ rfl), g3_, trivial⟩
        exact L.kns _ kn (L.fa fa119_1 (Wt.mk rfl rfl) rfl rfl (L.nil (X.dk kn ⟨im, Sub.fresh ib rfl, i0, i1, i2, i3, fun _ => rfl, t_⟩)))
       ·rintro D e s48 ⟨im, ib, i0, i1, i2, i3, i4, i5, t_⟩ hk hf ha
        obtain ⟨d0, d1, d2, d3, d4, -⟩ := ha
        have g3_ := i3 d3
        have g4_ := i4 d4
        have bx8 := bx8.mv im no_No
        rw [hc39] at g3_
        have kn : Kn e [(49, .pointer (some ⟨b8, 1, none⟩)), (48, .bool false)] := ⟨g4_, g3_, trivial⟩
        exact L.kns _ kn (L.ld (j := 1) bx8.mem nag3 (Wt.mk rfl rfl) rfl rfl rfl rfl (L.nil (X.dk kn ⟨im, Sub.fresh ib rfl, i0, i1, i2, i3, i4, fun _ => rfl, t_⟩)))
       ·rintro D e s49 ⟨im, ib, i0, i1, i2, i3, i4, i5, i6, t_⟩ hk hf ha
        obtain ⟨d0, d1, d2, d3, -⟩ := ha
        have g3_ := i3 d3
        have bx3 := bx3.mv im no_No
        rw [hc39] at g3_
        have kn : Kn e [(2, .pointer (some ⟨b3, 0, none⟩)), (48, .bool false)] := ⟨(ib 2 _ rfl), g3_, trivial⟩
        exact L.kns _ kn (L.lg (j := 0) (cs := [.int .i64 p0.1, .int .i64 p0.2.1, .int .i64 p0.2.2.1, .slice a1 p0.2.2.2.1.length c1, .slice a2 p0.2.2.2.2.length c2]) bx3.mem ag32 (Wt.mk rfl rfl) rfl rfl rfl rfl rfl (L.nil (X.dk kn ⟨im, Sub.fresh ib rfl, i0, i1, i2, i3, i4, i5, fun _ => rfl, t_⟩)))
       ·rintro D e s50 ⟨im, ib, i0, i1, i2, i3, i4, i5, i6, i7, t_⟩ hk hf ha
        obtain ⟨d0, d1, d2, d3, d6, -⟩ := ha
        have g3_ := i3 d3
        have g6_ := i6 d6
        have h1 := h1.mono (im.le no_No)
        have h2 := h2.mono (im.le no_No)
        rw [hc39] at g3_
        have kn : Kn e [(51, .agg #[.int .i64 p0.1, .int .i64 p0.2.1, .int .i64 p0.2.2.1, .slice a1 p0.2.2.2.1.length c1, .slice a2 p0.2.2.2.2.length c2]), (48, .bool false)] := ⟨g6_, g3_, trivial⟩
        refine L.kns _ kn (L.ca cf75 rfl rfl (Wt.mk rfl rfl) rfl (m_instruction_width_c (s := s50) (p0 := p0) h1 h2 er51) rfl ?_)
        rintro _ s52 m53 rfl
        exact L.nil (X.dk kn ⟨im.trans m53.no, Sub.fresh ib rfl, i0, i1, i2, i3, i4, i5, i6, fun _ => rfl, t_⟩)
       ·rintro D e s54 ⟨im, ib, i0, i1, i2, i3, i4, i5, i6, i7, i8, i9⟩ hk hf ha
        obtain ⟨d0, d1, d2, d3, d4, d5, d6, d7, -⟩ := ha
        have g3_ := i3 d3
        have g5_ := i5 d5
        have g7_ := i7 d7
        rw [hc39] at g3_
        have kn : Kn e [(50, .int .i64 x6.2), (52, .int .i64 r51), (48, .bool false)] := ⟨g5_, g7_, g3_, trivial⟩
        exact L.kns _ kn (L.bi (Wt.mk rfl rfl) rfl rfl rfl rfl (L.nil (X.dk kn ⟨im, Sub.fresh ib rfl, i0, i1, i2, i3, i4, i5, i6, i7, fun _ => rfl, i9⟩)))
       ·rintro D e s55 ⟨im, ib, i0, i1, i2, i3, i4, i5, i6, i7, i8, i9⟩ hk hf ha
        obtain ⟨d0, d1, d2, d3, d4, d5, d6, d7, d8, -⟩ := ha
        have g3_ := i3 d3
        have g8_ := i8 d8
        rw [hc39] at g3_
        have kn : Kn e [(48, .bool false), (53, .bool (decide (x6.2 ≥ r51)))] := ⟨g3_, g8_, trivial⟩
        exact L.kns _ kn (L.pkF Wt.no rfl rfl rfl rfl (L.nil (X.dk kn ⟨im, Sub.fresh ib rfl, i0, i1, i2, i3, i4, i5, i6, i7, i8, fun _ => rfl⟩)))
      ·rintro D e s56 hD ⟨im, ib, i0, i1, i2, i3, i4, i5, i6, i7, i8, i9⟩
       have g9_ := i9 (hD 9 rfl)
       have bx23 := bx23.mv im no_No
       have h20 := h20.mono (im.le no_No)
       have h21 := h21.mono (im.le no_No)
       have h22 := h22.mono (im.le no_No)
       have bx8 := bx8.mv im no_No
       have bx3 := bx3.mv im no_No
       have h1 := h1.mono (im.le no_No)
       have h2 := h2.mono (im.le no_No)
       have m0 := m0.trans im.no
       refine X.sub (e' := [(54, .bool (decide (x6.2 ≥ r51))), (7, .pointer (some ⟨b23, 0, none⟩)), (5, .pointer (some ⟨b8, 0, none⟩)), (2, .pointer (some ⟨b3, 0, none⟩))]) ?_ (Sub.cons g9_ (Sub.cons (ib 7 _ rfl) (Sub.cons (ib 5 _ rfl) (Sub.cons (ib 2 _ rfl) Sub.nil))))
       exact X.sub (Jj32 _ _ ⟨s56, (decide (x6.2 ≥ r51)), hm, m0, h1, h2, h20, h21, h22, bx3, bx8, bx23, rfl, rfl⟩) (Sub.rf rfl)
 ·intro J57
  rcases Bool.eq_false_or_eq_true (decide (x6.1 < 1)) with hc | hc
  ·exact L.know (d := 17) rfl hc (L.skip rfl rfl rfl rfl (L.skip rfl rfl rfl rfl (L.skip rfl rfl rfl rfl (L.skip rfl rfl rfl rfl (L.skip rfl rfl rfl rfl (L.pkT Wt.no rfl rfl rfl rfl (L.sb (J57 _ _ ⟨true, (orT hc).symm, rfl, rfl⟩) rfl)))))))
  ·exact L.know (d := 17) rfl hc (L.fa fa119_0 (Wt.mk rfl rfl) rfl rfl (L.ld (j := 0) bx8.mem nag3 (Wt.mk rfl rfl) rfl rfl rfl rfl (L.mv (Wt.mk rfl rfl) rfl rfl (L.len sl124 (Wt.mk rfl rfl) rfl rfl (L.bi (Wt.mk rfl rfl) rfl rfl rfl rfl (L.pkF Wt.no rfl rfl rfl rfl (L.sb (J57 _ _ ⟨(decide (x6.1 > (r13.length : Int))), (orF hc).symm, rfl, rfl⟩) rfl)))))))

end Go.Proofs.Ytkkemchihllklaa

namespace Go.Proofs.Ytkkemchihllklaa
open Go Go.RowKit
theorem cf57 : Cf Try.prog 57 := Cf.mk Try.func57 (by kernel_rfl) (by kernel_rfl)
theorem cf58 : Cf Try.prog 58 := Cf.mk Try.func58 (by kernel_rfl) (by kernel_rfl)
noncomputable def m_instruction_Check_l1 (p0 : Int × Int × Int × List Bool × (List (Int × Int))) (st14 : Int) : Option (Int ⊕ (Unit ⊕ Int)) :=
  if decide (st14 < (p0.2.2.2.2.length : Int)) then
    (m_instruction_checkInstruction p0 st14).bind fun r23 =>
    if (r23 != 0) then
      some (.inr (.inr (r23)))
    else
      some (.inl (W (st14 + 1)))
  else
    some (.inr (.inl ()))
/-- What instruction.Check computes. -/
noncomputable def m_instruction_Check (p0 : Int × Int × Int × List Bool × (List (Int × Int))) : Option Int :=
  (m_instruction_checkHead p0).bind fun r6 =>
  if (r6 != 0) then
    some r6
  else
    (iter (m_instruction_Check_l1 p0) 0).bind fun o14 =>
    match o14 with
    | .inl u17 =>
      some 0
    | .inr (u20) =>
      some u20
set_option maxRecDepth 100000 in
set_option maxHeartbeats 8000000 in
theorem m_instruction_Check_c {s : Sig} {p0 : Int × Int × Int × List Bool × (List (Int × Int))} {a1 : Option Addr} {c1 : Nat} {a2 : Option Addr} {c2 : Nat} {r : Int} (h1 : RdL rB s a1 c1 p0.2.2.2.1) (h2 : RdL (rP (rK .i64) (rK .i64)) s a2 c2 p0.2.2.2.2) (hm : m_instruction_Check p0 = some r) :
    Calls Try.prog 26 #[.agg #[.int .i64 p0.1, .int .i64 p0.2.1, .int .i64 p0.2.2.1, .slice a1 p0.2.2.2.1.length c1, .slice a2 p0.2.2.2.2.length c2]] s.w (RetS No s fun v s' => v = .int .i64 r) := by
 unfold m_instruction_Check at hm
 obtain ⟨N, hN, hNb⟩ := s.fresh
 have m0 : Mv (Up N No) s s := Mv.refl _ _
 refine E.entry Try.func26 rfl Try.ntmps26 rfl rfl (E.seq (E.reg (L.box (N + 0) Wt.no rfl rfl rfl fun b3 s4 m5 bx3 => ?_)))
 replace m0 := m0.trans m5.no
 replace h1 := h1.mono (m5.le no_No)
 replace h2 := h2.mono (m5.le no_No)
 refine L.as Wt.no rfl rfl (L.nil (X.seqN (E.seq (E.seq (E.reg (L.lg (j := 0) (cs := [.int .i64 p0.1, .int .i64 p0.2.1, .int .i64 p0.2.2.1, .slice a1 p0.2.2.2.1.length c1, .slice a2 p0.2.2.2.2.length c2]) bx3.mem ag32 Wt.no rfl rfl rfl rfl rfl ?_))))))
 obtain ⟨r6, er6, hm⟩ := bindS hm
 refine L.ca cf57 rfl rfl Wt.no rfl (m_instruction_checkHead_c (s := s4) (p0 := p0) h1 h2 er6) rfl ?_
 rintro _ s7 m8 rfl
 replace m0 := m0.trans m8.no
 replace bx3 := bx3.mv m8 no_No
 replace h1 := h1.mono (m8.le no_No)
 replace h2 := h2.mono (m8.le no_No)
 refine L.as Wt.no rfl rfl (L.nil (X.seqN (E.seq (E.reg (L.mv Wt.no rfl rfl (L.bi Wt.no rfl rfl rfl rfl (L.nil (X.seqN ?_))))))))
 rcases ifS hm with ⟨hc, hm⟩ | ⟨hc, hm⟩
 ·refine E.cT rfl hc (E.seq (E.reg (L.mv Wt.no rfl rfl (L.as Wt.no rfl rfl (L.nil (X.seqN (E.ret (X.seqR ?_))))))))
  obtain rfl := Option.some.inj hm
  exact X.rt (.inl rfl) Try.results26 (Rs.tmp rfl Rs.nil) rfl ⟨_, (s7).ren N (fun _ => 0), rfl, rfl, m0.ren hNb, rfl⟩
 ·refine E.cF rfl hc (E.skip (X.seqN (E.seq (E.seq (E.reg (L.fa fa32_4 Wt.no rfl rfl (L.ld (j := 4) bx3.mem nag30 Wt.no rfl rfl rfl rfl (L.len sl30 Wt.no rfl rfl (L.mv Wt.no rfl rfl (L.nil (X.seqN (E.block ?_))))))))))))
  obtain ⟨o14, eo14, hm⟩ := bindS hm
  refine E.cut (x := .exit 0) (fun e w => ∃ (s18 : Sig) (u17 : Unit), o14 = .inl u17 ∧ Mv (Up N No) s s18 ∧ e = [] ∧ w = s18.w) ?_ ?_
  ·rintro _ _ ⟨s18, u17, rfl, m0, rfl, rfl⟩
   dsimp only at hm
   refine X.blkE (X.seqN (E.seq (E.reg (L.as Wt.no rfl rfl (L.nil (X.seqN (E.ret ?_)))))))
   obtain rfl := Option.some.inj hm
   exact X.rt (.inl rfl) Try.results26 (Rs.tmp rfl Rs.nil) rfl ⟨_, (s18).ren N (fun _ => 0), rfl, rfl, m0.ren hNb, rfl⟩
  intro K19
  refine E.cut (x := .ret) (fun e w => ∃ (s21 : Sig) (u20 : Int), o14 = .inr (u20) ∧ Mv (Up N No) s s21 ∧ e = [(2, .int .i64 u20)] ∧ w = s21.w) ?_ ?_
  ·rintro _ _ ⟨s21, u20, rfl, m0, rfl, rfl⟩
   dsimp only at hm
   refine X.blkR (X.seqR ?_)
   obtain rfl := Option.some.inj hm
   exact X.rt (.inl rfl) Try.results26 (Rs.tmp rfl Rs.nil) rfl ⟨_, (s21).ren N (fun _ => 0), rfl, rfl, m0.ren hNb, rfl⟩
  intro K22
  refine E.iter (fun (st14 : Int) (e : List (Nat × Value)) (w : World) => ∃ (s16 : Sig), Mv (Up N No) s s16 ∧ RdL rB s16 a1 c1 p0.2.2.2.1 ∧ RdL (rP (rK .i64) (rK .i64)) s16 a2 c2 p0.2.2.2.2 ∧ Bx s16 (N + 0) b3 #[.int .i64 p0.1, .int .i64 p0.2.1, .int .i64 p0.2.2.1, .slice a1 p0.2.2.2.1.length c1, .slice a2 p0.2.2.2.2.length c2] 32 ∧ e = [(14, .int .i64 st14), (13, .int .i64 (p0.2.2.2.2.length : Int)), (1, .pointer (some ⟨b3, 0, none⟩))] ∧ w = s16.w) eo14 ⟨s7, m0, h1, h2, bx3, rfl, rfl⟩ (Sub.rf rfl) ?_
  rintro st14 res14 hm ih14 ho14 _ _ ⟨s16, m0, h1, h2, bx3, rfl, rfl⟩
  unfold m_instruction_Check_l1 at hm
  refine E.seq (E.reg (L.bi Wt.no rfl rfl rfl rfl (L.nil (X.seqN (E.seq ?_)))))
  rcases ifS hm with ⟨hc, hm⟩ | ⟨hc, hm⟩
  ·refine E.cT rfl hc (E.skip (X.seqN (E.seq (E.block (E.seq (E.reg (L.mv Wt.no rfl rfl (L.as Wt.no rfl rfl (L.nil (X.seqN (E.seq (E.reg (L.lg (j := 0) (cs := [.int .i64 p0.1, .int .i64 p0.2.1, .int .i64 p0.2.2.1, .slice a1 p0.2.2.2.1.length c1, .slice a2 p0.2.2.2.2.length c2]) bx3.mem ag32 Wt.no rfl rfl rfl rfl rfl (L.mv Wt.no rfl rfl ?_))))))))))))))
   obtain ⟨r23, er23, hm⟩ := bindS hm
   refine L.ca cf58 rfl rfl Wt.no rfl (m_instruction_checkInstruction_c (s := s16) (p0 := p0) (p1 := st14) h1 h2 er23) rfl ?_
   rintro _ s24 m25 rfl
   replace m0 := m0.trans m25.no
   replace bx3 := bx3.mv m25 no_No
   replace h1 := h1.mono (m25.le no_No)
   replace h2 := h2.mono (m25.le no_No)
   refine L.as Wt.no rfl rfl (L.nil (X.seqN (E.seq (E.reg (L.mv Wt.no rfl rfl (L.bi Wt.no rfl rfl rfl rfl (L.nil (X.seqN ?_))))))))
   rcases ifS hm with ⟨hc, hm⟩ | ⟨hc, hm⟩
   ·refine E.cT rfl hc (E.seq (E.reg (L.mv Wt.no rfl rfl (L.as Wt.no rfl rfl (L.nil (X.seqN (E.ret (X.blkR (X.seqR (X.seqR ?_))))))))))
    have hx := ho14 _ (Option.some.inj hm).symm
    exact X.sub (K22 _ _ ⟨s24, r23, hx.symm, m0, rfl, rfl⟩) (Sub.rf rfl)
   ·exact E.cF rfl hc (E.skip (X.blkN (X.seqN (E.reg (L.bi Wt.no rfl rfl rfl rfl (L.mv Wt.no rfl rfl (L.nil (X.sub (ih14 _ (Option.some.inj hm).symm _ _ ⟨s24, m0, h1, h2, bx3, rfl, rfl⟩) (Sub.rf rfl)))))))))
  ·refine E.cF rfl hc (E.exit (X.seqX (X.seqX ?_)))
   have hx := ho14 _ (Option.some.inj hm).symm
   exact X.sub (K19 _ _ ⟨s16, (), hx.symm, m0, rfl, rfl⟩) Sub.nil

theorem ag39 : Ag Try.prog 39 2 := Ag.mk' Try.underlying39 rfl (by kernel_rfl)
theorem bs29 : Bs Try.prog 29 4 1 [.bool false] := Bs.mk' Try.underlying29 (by kernel_rfl) (by kernel_rfl) rfl
theorem cf26 : Cf Try.prog 26 := Cf.mk Try.func26 (by kernel_rfl) (by kernel_rfl)
theorem el4 : El Try.prog 4 1 1 := El.mk' (z := .bool false) (by kernel_rfl) (by kernel_rfl) (by kernel_rfl) rfl
theorem pl39 : Pl Try.prog 39 [(0, 1), (1, 1)] [.slice none 0 0, .slice none 0 0] := Pl.str Try.underlying39 (by kernel_rfl) (by kernel_rfl)
theorem zz39 : (Try.prog.info? 39).bind (·.zero) = some (.agg #[.slice none 0 0, .slice none 0 0]) := by kernel_rfl
/-- What instruction.Start computes. -/
noncomputable def m_instruction_Start (p0 : Int × Int × Int × List Bool × (List (Int × Int))) : Option ((List Bool × List Bool) × Int) :=
  (m_instruction_Check p0).bind fun r11 =>
  if (r11 != 0) then
    some ((([] : List Bool), ([] : List Bool)), r11)
  else
    (mkL p0.2.1 false).bind fun x19 =>
    (app ([] : List Bool) p0.2.2.2.1).bind fun x30 =>
    some ((x19, x30), 0)
set_option maxRecDepth 100000 in
set_option maxHeartbeats 8000000 in
theorem m_instruction_Start_c {s : Sig} {p0 : Int × Int × Int × List Bool × (List (Int × Int))} {a1 : Option Addr} {c1 : Nat} {a2 : Option Addr} {c2 : Nat} {u0 : Nat} {u1 : Nat} {r : (List Bool × List Bool) × Int} (h1 : RdL rB s a1 c1 p0.2.2.2.1) (h2 : RdL (rP (rK .i64) (rK .i64)) s a2 c2 p0.2.2.2.2) (hm : m_instruction_Start p0 = some r) :
    Calls Try.prog 13 #[.agg #[.int .i64 p0.1, .int .i64 p0.2.1, .int .i64 p0.2.2.1, .slice a1 p0.2.2.2.1.length c1, .slice a2 p0.2.2.2.2.length c2]] s.w (RetS No s fun v s' => ∃ (a3 : Option Addr) (c3 : Nat) (a4 : Option Addr) (c4 : Nat), v = .tuple #[.agg #[.slice a3 r.1.1.length c3, .slice a4 r.1.2.length c4], .int .i64 r.2] ∧ RowT rB s' u0 4 a3 c3 r.1.1 ∧ RowT rB s' u1 4 a4 c4 r.1.2) := by
 unfold m_instruction_Start at hm
 obtain ⟨N, hN, hNb⟩ := s.fresh
 have m0 : Mv (Up N No) s s := Mv.refl _ _
 refine E.entry Try.func13 rfl Try.ntmps13 rfl rfl (E.seq (E.reg (L.box (N + 0) Wt.no rfl rfl rfl fun b5 s6 m7 bx5 => ?_)))
 replace m0 := m0.trans m7.no
 replace h1 := h1.mono (m7.le no_No)
 replace h2 := h2.mono (m7.le no_No)
 refine L.al (N + 1) zz39 rfl Wt.no rfl fun b8 s9 m10 bx8 => ?_
 replace m0 := m0.trans m10.no
 replace bx5 := bx5.mv m10 no_No
 replace h1 := h1.mono (m10.le no_No)
 replace h2 := h2.mono (m10.le no_No)
 refine L.as Wt.no rfl rfl (L.nil (X.seqN (E.seq (E.seq (E.reg (L.lg (j := 0) (cs := [.int .i64 p0.1, .int .i64 p0.2.1, .int .i64 p0.2.2.1, .slice a1 p0.2.2.2.1.length c1, .slice a2 p0.2.2.2.2.length c2]) bx5.mem ag32 Wt.no rfl rfl rfl rfl rfl ?_))))))
 obtain ⟨r11, er11, hm⟩ := bindS hm
 refine L.ca cf26 rfl rfl Wt.no rfl (m_instruction_Check_c (s := s9) (p0 := p0) h1 h2 er11) rfl ?_
 rintro _ s12 m13 rfl
 replace m0 := m0.trans m13.no
 replace bx5 := bx5.mv m13 no_No
 replace h1 := h1.mono (m13.le no_No)
 replace bx8 := bx8.mv m13 no_No
 refine L.as Wt.no rfl rfl (L.nil (X.seqN (E.seq (E.reg (L.mv Wt.no rfl rfl (L.bi Wt.no rfl rfl rfl rfl (L.nil (X.seqN ?_))))))))
 rcases ifS hm with ⟨hc, hm⟩ | ⟨hc, hm⟩
 ·refine E.cT rfl hc (E.seq (E.reg (L.bu (cs := [.slice none 0 0, .slice none 0 0]) pl39 Wt.no rfl rfl rfl (L.mv Wt.no rfl rfl (L.st (c := [.slice none 0 0, .slice none 0 0]) (cs' := #[.slice none 0 0, .slice none 0 0]) bx8 ag39.sz Wt.no rfl rfl rfl rfl rfl (Nat.le_of_ble_eq_true rfl) rfl fun s14 m15 bx8 => ?_)))))
  replace m0 := m0.trans (m15.one up)
  refine L.as Wt.no rfl rfl (L.nil (X.seqN (E.ret (X.seqR ?_))))
  obtain rfl := Option.some.inj hm
  exact X.rt (.inl rfl) Try.results13 (Rs.cell rfl bx8 ag39 rfl (Rs.tmp rfl Rs.nil)) rfl ⟨_, (s14).ren N (fun _ => 0), rfl, rfl, m0.ren hNb, ⟨none, 0, none, 0, rfl, RowT.nil, RowT.nil⟩⟩
 ·refine E.cF rfl hc (E.skip (X.seqN (E.seq ?_)))
  obtain ⟨x19, ex19, hm⟩ := bindS hm
  obtain ⟨x30, ex30, hm⟩ := bindS hm
  refine E.draw [[], [0], [0, 1], [], [], [4], [3, 4, 5], [0, 1, 2, 3, 4, 5, 6], [0, 1, 2, 3, 4, 5, 6, 7], [0, 1, 2, 3, 4, 5, 6, 7, 8]] (fun D e sx => Mv (fun t => t = (N + 1) ∨ t = (N + 3)) s12 sx ∧ Sub [(2, .pointer (some ⟨b8, 0, none⟩)), (1, .pointer (some ⟨b5, 0, none⟩))] e ∧ (D 0 = true → (Env.get e 11 = some (.pointer (some ⟨b5, 1, none⟩)))) ∧ (D 1 = true → (Env.get e 12 = some (.int .i64 p0.2.1))) ∧ (D 2 = true → (∃ (b20 : Nat), Env.get e 13 = some (.slice (some ⟨b20, 0, none⟩) x19.length x19.length) ∧ RowT rB sx (N + 2) 4 (some ⟨b20, 0, none⟩) x19.length x19)) ∧ (D 3 = true → (∃ (b24 : Nat), Env.get e 14 = some (.slice (some ⟨b24, 0, none⟩) ([] : List Bool).length 0))) ∧ (D 4 = true → (Env.get e 15 = some (.pointer (some ⟨b5, 3, none⟩)))) ∧ (D 5 = true → (Env.get e 16 = some (.slice a1 p0.2.2.2.1.length c1))) ∧ (D 6 = true → (∃ (a31 : Option Addr) (c31 : Nat), Env.get e 17 = some (.slice a31 x30.length c31))) ∧ (D 7 = true → ∀ (b20 : Nat) (a31 : Option Addr) (c31 : Nat), Env.get e 13 = some (.slice (some ⟨b20, 0, none⟩) x19.length x19.length) → Env.get e 17 = some (.slice a31 x30.length c31) → (Env.get e 18 = some (.agg #[.slice (some ⟨b20, 0, none⟩) x19.length x19.length, .slice a31 x30.length c31]))) ∧ (D 9 = true → (Env.get e 3 = some (.int .i64 0))) ∧ (D 8 = false → Bx sx (N + 1) b8 #[.slice none 0 0, .slice none 0 0] 39) ∧ (D 8 = true → ∀ (b20 : Nat) (a31 : Option Addr) (c31 : Nat), Env.get e 13 = some (.slice (some ⟨b20, 0, none⟩) x19.length x19.length) → Env.get e 17 = some (.slice a31 x30.length c31) → Bx sx (N + 1) b8 #[.slice (some ⟨b20, 0, none⟩) x19.length x19.length, .slice a31 x30.length c31] 39) ∧ (D 3 = true → D 6 = false → ∀ (b24 : Nat), Env.get e 14 = some (.slice (some ⟨b24, 0, none⟩) ([] : List Bool).length 0) → RowT rB sx (N + 3) 4 (some ⟨b24, 0, none⟩) 0 ([] : List Bool)) ∧ (D 6 = true → ∀ (a31 : Option Addr) (c31 : Nat), Env.get e 17 = some (.slice a31 x30.length c31) → RowT rB sx (N + 3) 4 a31 c31 x30)) (by kernel_rfl) (by kernel_rfl) (by kernel_rfl) ?_ ?_ ?_
  ·intro sz mz
   exact ⟨mz.no, (Sub.rf rfl), nofun, nofun, nofun, nofun, nofun, nofun, nofun, nofun, nofun, fun _ => bx8.mv mz no_No, nofun, nofun, nofun⟩
  ·refine ⟨?_, ?_, ?_, ?_, ?_, ?_, ?_, ?_, ?_, ?_, trivial⟩
   ·rintro D e s16 ⟨im, ib, i0, t_⟩ hk hf ha
    have kn : Kn e [(1, .pointer (some ⟨b5, 0, none⟩))] := ⟨(ib 1 _ rfl), trivial⟩
    exact L.kns _ kn (L.fa fa32_1 Wt.no rfl rfl (L.nil (X.dk kn ⟨im, Sub.fresh ib rfl, fun _ => rfl, t_⟩)))
   ·rintro D e s17 ⟨im, ib, i0, i1, t_⟩ hk hf ha
    obtain ⟨d0, -⟩ := ha
    have g0_ := i0 d0
    have bx5 := bx5.mv im (nor (tgN (by decide)) (tgN (by decide)))
    have kn : Kn e [(11, .pointer (some ⟨b5, 1, none⟩))] := ⟨g0_, trivial⟩
    exact L.kns _ kn (L.ld (j := 1) bx5.mem nag3 Wt.no rfl rfl rfl rfl (L.nil (X.dk kn ⟨im, Sub.fresh ib rfl, i0, fun _ => rfl, t_⟩)))
   ·rintro D e s18 ⟨im, ib, i0, i1, i2, i3, i4, i5, i6, i7, i8, i9, i10, i11, i12⟩ hk hf ha
    obtain ⟨d0, d1, -⟩ := ha
    have g1_ := i1 d1
    have kn : Kn e [(12, .int .i64 p0.2.1)] := ⟨g1_, trivial⟩
    exact L.kns _ kn (L.mk (z := false) (N + 2) Try.underlying29 zr4 rfl Wt.no rfl rfl ex19 rfl fun b20 s21 m22 h20 => L.nil (X.dk kn ⟨im.trans m22.no, Sub.fresh ib rfl, i0, i1, fun _ => ⟨b20, rfl, h20⟩, i3, i4, i5, i6, fun z => Bool.noConfusion ((hf 7 (Nat.le_of_ble_eq_true rfl) rfl).symm.trans z), i8, fun z2 => ((i9 z2).mv m22 no_No), fun z => Bool.noConfusion ((hf 8 (Nat.le_of_ble_eq_true rfl) rfl).symm.trans z), fun z z2 b24 q3 => ((i11 z z2 b24 q3).mv m22 no_No no_No), fun z a31 c31 q6 => ((i12 z a31 c31 q6).mv m22 no_No no_No)⟩))
   ·rintro D e s23 ⟨im, ib, i0, i1, i2, i3, i4, i5, i6, i7, i8, i9, i10, i11, i12⟩ hk hf ha
    refine L.bs0 (N + 3) bs29 (Nat.le_of_ble_eq_true rfl) Wt.no rfl fun b24 s25 m26 bx24 => ?_
    have h24 := Bx.row (r := rB) (xs := ([] : List Bool)) bx24 rfl (Nat.le_of_ble_eq_true rfl)
    exact L.nil (X.dr (s := s25) (e' := (14, .slice (some ⟨b24, 0, none⟩) ([] : List Bool).length 0) :: e) (Sub.both (Sub.refl)) ⟨im.trans m26.no, Sub.fresh ib rfl, i0, i1, fun z => let ⟨b20, q, h20⟩ := i2 z; ⟨b20, q, (h20.mv m26 no_No no_No)⟩, fun _ => ⟨b24, rfl⟩, i4, i5, i6, i7, i8, fun z2 => ((i9 z2).mv m26 no_No), fun z b20 a31 c31 q2 q6 => ((i10 z b20 a31 c31 q2 q6).mv m26 no_No), fun _ _ _ q3 => by cases (show some (.slice (some ⟨b24, 0, none⟩) ([] : List Bool).length 0 : Value) = some _ from q3); exact h24, fun z a31 c31 q6 => ((i12 z a31 c31 q6).mv m26 no_No no_No)⟩)
   ·rintro D e s27 ⟨im, ib, i0, i1, i2, i3, i4, t_⟩ hk hf ha
    have kn : Kn e [(1, .pointer (some ⟨b5, 0, none⟩))] := ⟨(ib 1 _ rfl), trivial⟩
    exact L.kns _ kn (L.fa fa32_3 Wt.no rfl rfl (L.nil (X.dk kn ⟨im, Sub.fresh ib rfl, i0, i1, i2, i3, fun _ => rfl, t_⟩)))
   ·rintro D e s28 ⟨im, ib, i0, i1, i2, i3, i4, i5, t_⟩ hk hf ha
    obtain ⟨d4, -⟩ := ha
    have g4_ := i4 d4
    have bx5 := bx5.mv im (nor (tgN (by decide)) (tgN (by decide)))
    have kn : Kn e [(15, .pointer (some ⟨b5, 3, none⟩))] := ⟨g4_, trivial⟩
    exact L.kns _ kn (L.ld (j := 3) bx5.mem nag29 Wt.no rfl rfl rfl rfl (L.nil (X.dk kn ⟨im, Sub.fresh ib rfl, i0, i1, i2, i3, i4, fun _ => rfl, t_⟩)))
   ·rintro D e s29 ⟨im, ib, i0, i1, i2, i3, i4, i5, i6, i7, i8, i9, i10, i11, i12⟩ hk hf ha
    obtain ⟨d3, d4, d5, -⟩ := ha
    obtain ⟨b24, g3_⟩ := i3 d3
    have g5_ := i5 d5
    obtain h24 := i11 d3 hk b24 g3_
    have h1 := h1.mono (im.le (nor (tg0 hN) (tg0 hN)))
    have kn : Kn e [(14, .slice (some ⟨b24, 0, none⟩) ([] : List Bool).length 0), (16, .slice a1 p0.2.2.2.1.length c1)] := ⟨g3_, g5_, trivial⟩
    exact L.kns _ kn (L.ap (r := rB) Try.underlying29 el4 rfl (tgp hN) h24 h1.wk Wt.no rfl rfl ex30 rfl fun a31 c31 s32 m33 h31 => L.nil (X.dk kn ⟨im.trans (m33.one (.inr rfl)), Sub.fresh ib rfl, i0, i1, fun z => let ⟨b20, q, h20⟩ := i2 z; ⟨b20, q, (h20.mv m33 (tgN (by decide)) (tg0 hN))⟩, i3, i4, i5, fun _ => ⟨a31, c31, rfl⟩, fun z => Bool.noConfusion ((hf 7 (Nat.le_of_ble_eq_true rfl) rfl).symm.trans z), i8, fun z2 => ((i9 z2).mv m33 (tgN (by decide))), fun z => Bool.noConfusion ((hf 8 (Nat.le_of_ble_eq_true rfl) rfl).symm.trans z), fun _ z => Bool.noConfusion (show true = false from z), fun _ _ _ q6 => by cases (show some (.slice a31 x30.length c31 : Value) = some _ from q6); exact h31⟩))
   ·rintro D e s34 ⟨im, ib, i0, i1, i2, i3, i4, i5, i6, i7, t_⟩ hk hf ha
    obtain ⟨d0, d1, d2, d3, d4, d5, d6, -⟩ := ha
    obtain ⟨b20, g2_, h20⟩ := i2 d2
    obtain ⟨a31, c31, g6_⟩ := i6 d6
    have kn : Kn e [(13, .slice (some ⟨b20, 0, none⟩) x19.length x19.length), (17, .slice a31 x30.length c31)] := ⟨g2_, g6_, trivial⟩
    exact L.kns _ kn (L.bu (cs := [.slice (some ⟨b20, 0, none⟩) x19.length x19.length, .slice a31 x30.length c31]) pl39 Wt.no rfl rfl rfl (L.nil (X.dk kn ⟨im, Sub.fresh ib rfl, i0, i1, i2, i3, i4, i5, i6, fun _ _ _ _ q2 q6 => by cases g2_.symm.trans q2; cases g6_.symm.trans q6; exact rfl, t_⟩)))
   ·rintro D e s35 ⟨im, ib, i0, i1, i2, i3, i4, i5, i6, i7, i8, i9, i10, i11, i12⟩ hk hf ha
    obtain ⟨d0, d1, d2, d3, d4, d5, d6, d7, -⟩ := ha
    obtain ⟨b20, g2_, h20⟩ := i2 d2
    obtain ⟨a31, c31, g6_⟩ := i6 d6
    have g7_ := i7 d7 b20 a31 c31 g2_ g6_
    obtain bx8 := i9 hk
    have kn : Kn e [(2, .pointer (some ⟨b8, 0, none⟩)), (18, .agg #[.slice (some ⟨b20, 0, none⟩) x19.length x19.length, .slice a31 x30.length c31])] := ⟨(ib 2 _ rfl), g7_, trivial⟩
    exact L.kns _ kn (L.st (c := [.slice (some ⟨b20, 0, none⟩) x19.length x19.length, .slice a31 x30.length c31]) (cs' := #[.slice (some ⟨b20, 0, none⟩) x19.length x19.length, .slice a31 x30.length c31]) bx8 ag39.sz Wt.no rfl rfl rfl rfl rfl (Nat.le_of_ble_eq_true rfl) rfl fun s36 m37 bx8 => L.nil (X.dn kn ⟨im.trans (m37.one (.inl rfl)), ib, i0, i1, fun z => let ⟨b20, q, h20⟩ := i2 z; ⟨b20, q, (h20.mv m37 (tgN (by decide)) (tg0 hN))⟩, i3, i4, i5, i6, i7, i8, fun z => Bool.noConfusion (show true = false from z), fun _ _ _ _ q2 q6 => by cases g2_.symm.trans q2; cases g6_.symm.trans q6; exact bx8, fun z z2 b24 q3 => ((i11 z z2 b24 q3).mv m37 (tgN (by decide)) (tg0 hN)), fun z a31 c31 q6 => ((i12 z a31 c31 q6).mv m37 (tgN (by decide)) (tg0 hN))⟩))
   ·rintro D e s38 ⟨im, ib, i0, i1, i2, i3, i4, i5, i6, i7, i8, t_⟩ hk hf ha
    obtain ⟨d0, d1, d2, d3, d4, d5, d6, d7, d8, -⟩ := ha
    exact L.as Wt.no rfl rfl (L.nil (X.dr (s := s38) (e' := (3, .int .i64 0) :: e) (Sub.both (Sub.refl)) ⟨im, Sub.fresh ib rfl, i0, i1, i2, i3, i4, i5, i6, i7, fun _ => rfl, t_⟩))
  ·rintro D e s39 hD ⟨im, ib, i0, i1, i2, i3, i4, i5, i6, i7, i8, i9, i10, i11, i12⟩
   obtain ⟨b20, g2_, h20⟩ := i2 (hD 2 rfl)
   obtain ⟨a31, c31, g6_⟩ := i6 (hD 6 rfl)
   have g9_ := i8 (hD 9 rfl)
   obtain bx8 := i10 (hD 8 rfl) b20 a31 c31 g2_ g6_
   obtain h31 := i12 (hD 6 rfl) a31 c31 g6_
   have m0 := m0.trans (im.weak fun _ e => by rcases e with e | e; (rw [e]; exact up); (rw [e]; exact up))
   refine X.sub (e' := [(3, .int .i64 0), (2, .pointer (some ⟨b8, 0, none⟩))]) ?_ (Sub.cons g9_ (Sub.cons (ib 2 _ rfl) Sub.nil))
   refine X.seqN (E.ret ?_)
   obtain rfl := Option.some.inj hm
   exact X.rt (.inl rfl) Try.results13 (Rs.cell rfl bx8 ag39 rfl (Rs.tmp rfl Rs.nil)) rfl ⟨_, (s39).ren N (fun k => cond (Nat.beq k 3) u1 (cond (Nat.beq k 2) u0 (0))), rfl, rfl, m0.ren hNb, ⟨(some ⟨b20, 0, none⟩), x19.length, a31, c31, rfl, (h20.ren hN), (h31.ren hN)⟩⟩

/-- What generate.among computes. -/
noncomputable def m_generate_among (p0 : List Int) (p1 : List Int) : Option Int :=
  (m_alphabet_CheckSet p0 32).bind fun r3 =>
  if (r3 != 0) then
    some r3
  else
    (m_alphabet_Subset p0 p1).bind fun r6 =>
    if (!r6) then
      some 9
    else
      some 0
set_option maxRecDepth 100000 in
set_option maxHeartbeats 8000000 in
theorem m_generate_among_c {s : Sig} {p0 : List Int} {p1 : List Int} {a1 : Option Addr} {c1 : Nat} {a2 : Option Addr} {c2 : Nat} {r : Int} (h1 : RdL (rK .i64) s a1 c1 p0) (h2 : RdL (rK .i64) s a2 c2 p1) (hm : m_generate_among p0 p1 = some r) :
    Calls Try.prog 51 #[.slice a1 p0.length c1, .slice a2 p1.length c2] s.w (RetS No s fun v s' => v = .int .i64 r) := by
 unfold m_generate_among at hm
 obtain ⟨N, hN, hNb⟩ := s.fresh
 have m0 : Mv (Up N No) s s := Mv.refl _ _
 refine E.entry Try.func51 rfl Try.ntmps51 rfl rfl (E.seq (E.reg (L.as Wt.no rfl rfl (L.nil (X.seqN (E.seq (E.seq (E.reg (L.mv Wt.no rfl rfl ?_)))))))))
 obtain ⟨r3, er3, hm⟩ := bindS hm
 refine L.ca cf28 rfl rfl Wt.no rfl (m_alphabet_CheckSet_c (s := s) (p0 := p0) (p1 := 32) h1 er3) rfl ?_
 rintro _ s4 m5 rfl
 replace m0 := m0.trans m5.no
 replace h1 := h1.mono (m5.le no_No)
 replace h2 := h2.mono (m5.le no_No)
 refine L.as Wt.no rfl rfl (L.nil (X.seqN (E.seq (E.reg (L.mv Wt.no rfl rfl (L.bi Wt.no rfl rfl rfl rfl (L.nil (X.seqN ?_))))))))
 rcases ifS hm with ⟨hc, hm⟩ | ⟨hc, hm⟩
 ·refine E.cT rfl hc (E.seq (E.reg (L.mv Wt.no rfl rfl (L.as Wt.no rfl rfl (L.nil (X.seqN (E.ret (X.seqR ?_))))))))
  obtain rfl := Option.some.inj hm
  exact X.rt (.inl rfl) Try.results51 (Rs.tmp rfl Rs.nil) rfl ⟨_, (s4).ren N (fun _ => 0), rfl, rfl, m0.ren hNb, rfl⟩
 ·refine E.cF rfl hc (E.skip (X.seqN (E.seq (E.seq (E.reg (L.mv Wt.no rfl rfl (L.mv Wt.no rfl rfl ?_)))))))
  obtain ⟨r6, er6, hm⟩ := bindS hm
  refine L.ca cf39 rfl rfl Wt.no rfl (m_alphabet_Subset_c (s := s4) (p0 := p0) (p1 := p1) h1 h2 er6) rfl ?_
  rintro _ s7 m8 rfl
  replace m0 := m0.trans m8.no
  refine L.not Wt.no rfl rfl (L.nil (X.seqN ?_))
  rcases ifS hm with ⟨hc, hm⟩ | ⟨hc, hm⟩
  ·refine E.cT rfl hc (E.seq (E.reg (L.as Wt.no rfl rfl (L.nil (X.seqN (E.ret (X.seqR ?_)))))))
   obtain rfl := Option.some.inj hm
   exact X.rt (.inl rfl) Try.results51 (Rs.tmp rfl Rs.nil) rfl ⟨_, (s7).ren N (fun _ => 0), rfl, rfl, m0.ren hNb, rfl⟩
  ·refine E.cF rfl hc (E.skip (X.seqN (E.seq (E.reg (L.as Wt.no rfl rfl (L.nil (X.seqN (E.ret ?_))))))))
   obtain rfl := Option.some.inj hm
   exact X.rt (.inl rfl) Try.results51 (Rs.tmp rfl Rs.nil) rfl ⟨_, (s7).ren N (fun _ => 0), rfl, rfl, m0.ren hNb, rfl⟩

/-- What cmp.isNaN<int> computes. -/
noncomputable def m_cmp_isNaN_int (p0 : Int) : Option Bool :=
  some (p0 != p0)
set_option maxRecDepth 100000 in
set_option maxHeartbeats 8000000 in
theorem m_cmp_isNaN_int_c {s : Sig} {p0 : Int} {r : Bool} (hm : m_cmp_isNaN_int p0 = some r) :
    Calls Try.prog 105 #[.int .i64 p0] s.w (RetS No s fun v s' => v = .bool r) := by
 unfold m_cmp_isNaN_int at hm
 obtain ⟨N, hN, hNb⟩ := s.fresh
 have m0 : Mv (Up N No) s s := Mv.refl _ _
 refine E.entry Try.func105 rfl Try.ntmps105 rfl rfl (E.seq (E.reg (L.as Wt.no rfl rfl (L.nil (X.seqN (E.seq (E.reg (L.mv Wt.no rfl rfl (L.mv Wt.no rfl rfl (L.bi Wt.no rfl rfl rfl rfl (L.as Wt.no rfl rfl (L.nil (X.seqN (E.ret ?_))))))))))))))
 obtain rfl := Option.some.inj hm
 exact X.rt (.inl rfl) Try.results105 (Rs.tmp rfl Rs.nil) rfl ⟨_, (s).ren N (fun _ => 0), rfl, rfl, m0.ren hNb, rfl⟩

theorem cf105 : Cf Try.prog 105 := Cf.mk Try.func105 (by kernel_rfl) (by kernel_rfl)
/-- What cmp.Less<int> computes. -/
noncomputable def m_cmp_Less_int (p0 : Int) (p1 : Int) : Option Bool :=
  (m_cmp_isNaN_int p0).bind fun r1 =>
  (if r1 then
    (m_cmp_isNaN_int p1).bind fun r10 =>
    some (!r10)
  else
    some false).bind fun b4 =>
  some (b4 || (decide (p0 < p1)))
set_option maxRecDepth 100000 in
set_option maxHeartbeats 8000000 in
theorem m_cmp_Less_int_c {s : Sig} {p0 : Int} {p1 : Int} {r : Bool} (hm : m_cmp_Less_int p0 p1 = some r) :
    Calls Try.prog 84 #[.int .i64 p0, .int .i64 p1] s.w (RetS No s fun v s' => v = .bool r) := by
 unfold m_cmp_Less_int at hm
 obtain ⟨N, hN, hNb⟩ := s.fresh
 have m0 : Mv (Up N No) s s := Mv.refl _ _
 refine E.entry Try.func84 rfl Try.ntmps84 rfl rfl (E.seq (E.reg (L.as Wt.no rfl rfl (L.nil (X.seqN (E.seq (E.reg (L.mv Wt.no rfl rfl ?_))))))))
 obtain ⟨r1, er1, hm⟩ := bindS hm
 refine L.ca cf105 rfl rfl Wt.no rfl (m_cmp_isNaN_int_c (s := s) (p0 := p0) er1) rfl ?_
 rintro _ s2 m3 rfl
 replace m0 := m0.trans m3.no
 refine L.mv Wt.no rfl rfl ?_
 obtain ⟨b4, eb4, hm⟩ := bindS hm
 refine L.cut 4 (fun e w => ∃ (s6 : Sig) (v5 : Bool), b4 = v5 ∧ Mv (Up N No) s s6 ∧ e = (11, .bool v5) :: [(0, .int .i64 p0), (1, .int .i64 p1)] ∧ w = s6.w) ?_ ?_
 ·rintro _ _ ⟨s6, v5, rfl, m0, rfl, rfl⟩
  refine L.mv Wt.no rfl rfl (L.cut 4 (fun e w => ∃ (v7 : Bool), (b4 || (decide (p0 < p1))) = v7 ∧ e = (16, .bool v7) :: [] ∧ w = s6.w) ?_ ?_)
  ·rintro _ _ ⟨v7, rfl, rfl, rfl⟩
   refine L.as Wt.no rfl rfl (L.nil (X.seqN (E.ret ?_)))
   obtain rfl := Option.some.inj hm
   exact X.rt (.inl rfl) Try.results84 (Rs.tmp rfl Rs.nil) rfl ⟨_, (s6).ren N (fun _ => 0), rfl, rfl, m0.ren hNb, rfl⟩
  ·intro J8
   rcases Bool.eq_false_or_eq_true b4 with hc | hc
   ·exact L.know (d := 12) rfl hc (L.skip rfl rfl rfl rfl (L.skip rfl rfl rfl rfl (L.skip rfl rfl rfl rfl (L.pkT Wt.no rfl rfl rfl rfl (L.sb (J8 _ _ ⟨true, (orT hc).symm, rfl, rfl⟩) rfl)))))
   ·exact L.know (d := 12) rfl hc (L.mv (Wt.mk rfl rfl) rfl rfl (L.mv (Wt.mk rfl rfl) rfl rfl (L.bi (Wt.mk rfl rfl) rfl rfl rfl rfl (L.pkF Wt.no rfl rfl rfl rfl (L.sb (J8 _ _ ⟨(decide (p0 < p1)), (orF hc).symm, rfl, rfl⟩) rfl)))))
 ·intro J9
  rcases ifS eb4 with ⟨hc, hm⟩ | ⟨hc, hm⟩
  ·refine L.know (d := 7) rfl hc (L.mv (Wt.mk rfl rfl) rfl rfl ?_)
   obtain ⟨r10, er10, hm⟩ := bindS hm
   refine L.ca cf105 rfl rfl (Wt.mk rfl rfl) rfl (m_cmp_isNaN_int_c (s := s2) (p0 := p1) er10) rfl ?_
   rintro _ s11 m12 rfl
   replace m0 := m0.trans m12.no
   exact L.not (Wt.mk rfl rfl) rfl rfl (L.pkT Wt.no rfl rfl rfl rfl (L.sb (J9 _ _ ⟨s11, (!r10), (Option.some.inj hm).symm, m0, rfl, rfl⟩) rfl))
  ·exact L.know (d := 7) rfl hc (L.skip rfl rfl rfl rfl (L.skip rfl rfl rfl rfl (L.skip rfl rfl rfl rfl (L.pkF Wt.no rfl rfl rfl rfl (L.sb (J9 _ _ ⟨s2, false, (Option.some.inj hm).symm, m0, rfl, rfl⟩) rfl)))))

/-- What slices.isNaN<int> computes. -/
noncomputable def m_slices_isNaN_int (p0 : Int) : Option Bool :=
  some (p0 != p0)
set_option maxRecDepth 100000 in
set_option maxHeartbeats 8000000 in
theorem m_slices_isNaN_int_c {s : Sig} {p0 : Int} {r : Bool} (hm : m_slices_isNaN_int p0 = some r) :
    Calls Try.prog 85 #[.int .i64 p0] s.w (RetS No s fun v s' => v = .bool r) := by
 unfold m_slices_isNaN_int at hm
 obtain ⟨N, hN, hNb⟩ := s.fresh
 have m0 : Mv (Up N No) s s := Mv.refl _ _
 refine E.entry Try.func85 rfl Try.ntmps85 rfl rfl (E.seq (E.reg (L.as Wt.no rfl rfl (L.nil (X.seqN (E.seq (E.reg (L.mv Wt.no rfl rfl (L.mv Wt.no rfl rfl (L.bi Wt.no rfl rfl rfl rfl (L.as Wt.no rfl rfl (L.nil (X.seqN (E.ret ?_))))))))))))))
 obtain rfl := Option.some.inj hm
 exact X.rt (.inl rfl) Try.results85 (Rs.tmp rfl Rs.nil) rfl ⟨_, (s).ren N (fun _ => 0), rfl, rfl, m0.ren hNb, rfl⟩

theorem cf84 : Cf Try.prog 84 := Cf.mk Try.func84 (by kernel_rfl) (by kernel_rfl)
theorem cf85 : Cf Try.prog 85 := Cf.mk Try.func85 (by kernel_rfl) (by kernel_rfl)
noncomputable def m_slices_BinarySearch_int_l1 (p0 : List Int) (p1 : Int) (st11 : Int × Int) : Option ((Int × Int) ⊕ Int) :=
  if decide (st11.2 < st11.1) then
    (idx p0 (W ((IntKind.u64.wrap (W (st11.2 + st11.1))).fdiv (2 ^ (min (1 : Int).toNat 64))))).bind fun x38 =>
    (m_cmp_Less_int x38 p1).bind fun r40 =>
    if r40 then
      some (.inl (st11.1, W ((W ((IntKind.u64.wrap (W (st11.2 + st11.1))).fdiv (2 ^ (min (1 : Int).toNat 64)))) + 1)))
    else
      some (.inl (W ((IntKind.u64.wrap (W (st11.2 + st11.1))).fdiv (2 ^ (min (1 : Int).toNat 64))), st11.2))
  else
    some (.inr st11.2)
/-- What slices.BinarySearch<<>int,int> computes. -/
noncomputable def m_slices_BinarySearch_int (p0 : List Int) (p1 : Int) : Option (Int × Bool) :=
  (iter (m_slices_BinarySearch_int_l1 p0 p1) ((p0.length : Int), 0)).bind fun o11 =>
  (if decide (o11 < (p0.length : Int)) then
    (idx p0 o11).bind fun x19 =>
    (if (x19 == p1) then
      some true
    else
      (idx p0 o11).bind fun x25 =>
      (m_slices_isNaN_int x25).bind fun r27 =>
      (if r27 then
        (m_slices_isNaN_int p1).bind fun r34 =>
        some r34
      else
        some false).bind fun b30 =>
      some b30).bind fun b21 =>
    some b21
  else
    some false).bind fun b15 =>
  some (o11, b15)
set_option maxRecDepth 100000 in
set_option maxHeartbeats 8000000 in
theorem m_slices_BinarySearch_int_c {s : Sig} {p0 : List Int} {p1 : Int} {a1 : Option Addr} {c1 : Nat} {r : Int × Bool} (h1 : RdL (rK .i64) s a1 c1 p0) (hm : m_slices_BinarySearch_int p0 p1 = some r) :
    Calls Try.prog 72 #[.slice a1 p0.length c1, .int .i64 p1] s.w (RetS No s fun v s' => v = .tuple #[.int .i64 r.1, .bool r.2]) := by
 unfold m_slices_BinarySearch_int at hm
 obtain ⟨N, hN, hNb⟩ := s.fresh
 have m0 : Mv (Up N No) s s := Mv.refl _ _
 refine E.entry Try.func72 rfl Try.ntmps72 rfl rfl (E.seq (E.reg (L.as Wt.no rfl rfl (L.as Wt.no rfl rfl (L.nil (X.seqN (E.seq (E.reg (L.mv Wt.no rfl rfl (L.len sl23 Wt.no rfl rfl (L.as Wt.no rfl rfl (L.nil (X.seqN (E.seq (E.reg (L.mv Wt.no rfl rfl (L.as Wt.no rfl rfl (L.as Wt.no rfl rfl (L.nil (X.seqN (E.seq (E.block ?_))))))))))))))))))))))
 obtain ⟨o11, eo11, hm⟩ := bindS hm
 refine E.cut (x := .exit 0) (fun e w => ∃ (s14 : Sig), Mv (Up N No) s s14 ∧ RdL (rK .i64) s14 a1 c1 p0 ∧ e = [(7, .int .i64 o11), (6, .int .i64 (p0.length : Int)), (0, .slice a1 p0.length c1), (1, .int .i64 p1)] ∧ w = s14.w) ?_ ?_
 ·rintro _ _ ⟨s14, m0, h1, rfl, rfl⟩
  refine X.blkE (X.seqN (E.seq (E.reg (L.mv Wt.no rfl rfl (L.mv Wt.no rfl rfl (L.mv Wt.no rfl rfl (L.bi Wt.no rfl rfl rfl rfl (L.mv Wt.no rfl rfl ?_))))))))
  obtain ⟨b15, eb15, hm⟩ := bindS hm
  refine L.cut 18 (fun e w => ∃ (s17 : Sig) (v16 : Bool), b15 = v16 ∧ Mv (Up N No) s s17 ∧ e = (53, .bool v16) :: [(31, .int .i64 o11)] ∧ w = s17.w) ?_ ?_
  ·rintro _ _ ⟨s17, v16, rfl, m0, rfl, rfl⟩
   refine L.as Wt.no rfl rfl (L.as Wt.no rfl rfl (L.nil (X.seqN (E.ret ?_))))
   obtain rfl := Option.some.inj hm
   exact X.rt (.inl rfl) Try.results72 (Rs.tmp rfl (Rs.tmp rfl Rs.nil)) rfl ⟨_, (s17).ren N (fun _ => 0), rfl, rfl, m0.ren hNb, rfl⟩
  ·intro J18
   rcases ifS eb15 with ⟨hc, hm⟩ | ⟨hc, hm⟩
   ·refine L.know (d := 35) rfl hc (L.mv (Wt.mk rfl rfl) rfl rfl (L.mv (Wt.mk rfl rfl) rfl rfl ?_))
    obtain ⟨x19, ex19, hm⟩ := bindS hm
    refine L.ix (r := (rK .i64)) sl23 h1 (Wt.mk rfl rfl) rfl rfl ex19 rfl fun b20 o20 cc20 me20 rd20 => ?_
    obtain rfl := rd20
    refine L.ld (j := 0) me20 nag3 (Wt.mk rfl rfl) rfl rfl rfl rfl (L.mv (Wt.mk rfl rfl) rfl rfl (L.bi (Wt.mk rfl rfl) rfl rfl rfl rfl (L.mv (Wt.mk rfl rfl) rfl rfl ?_)))
    obtain ⟨b21, eb21, hm⟩ := bindS hm
    refine L.cut 10 (fun e w => ∃ (s23 : Sig) (v22 : Bool), b21 = v22 ∧ Mv (Up N No) s s23 ∧ e = (52, .bool v22) :: [(35, .bool true), (31, .int .i64 o11)] ∧ w = s23.w) ?_ ?_
    ·rintro _ _ ⟨s23, v22, rfl, m0, rfl, rfl⟩
     exact L.pkT Wt.no rfl rfl rfl rfl (L.sb (J18 _ _ ⟨s23, b21, (Option.some.inj hm).symm, m0, rfl, rfl⟩) rfl)
    ·intro J24
     rcases ifS eb21 with ⟨hc, hm⟩ | ⟨hc, hm⟩
     ·exact L.know (d := 42) rfl hc (L.skip rfl rfl rfl rfl (L.skip rfl rfl rfl rfl (L.skip rfl rfl rfl rfl (L.skip rfl rfl rfl rfl (L.skip rfl rfl rfl rfl (L.skip rfl rfl rfl rfl (L.skipU rfl rfl rfl (L.skipU rfl rfl rfl (L.skip rfl rfl rfl rfl (L.pkT (Wt.mk rfl rfl) rfl rfl rfl rfl (L.sb (J24 _ _ ⟨s14, true, (Option.some.inj hm).symm, m0, rfl, rfl⟩) rfl)))))))))))
     ·refine L.know (d := 42) rfl hc (L.mv (Wt.mk rfl rfl) rfl rfl (L.mv (Wt.mk rfl rfl) rfl rfl ?_))
      obtain ⟨x25, ex25, hm⟩ := bindS hm
      refine L.ix (r := (rK .i64)) sl23 h1 (Wt.mk rfl rfl) rfl rfl ex25 rfl fun b26 o26 cc26 me26 rd26 => ?_
      obtain rfl := rd26
      refine L.ld (j := 0) me26 nag3 (Wt.mk rfl rfl) rfl rfl rfl rfl ?_
      obtain ⟨r27, er27, hm⟩ := bindS hm
      refine L.ca cf85 rfl rfl (Wt.mk rfl rfl) rfl (m_slices_isNaN_int_c (s := s14) (p0 := x25) er27) rfl ?_
      rintro _ s28 m29 rfl
      replace m0 := m0.trans m29.no
      refine L.mv (Wt.mk rfl rfl) rfl rfl ?_
      obtain ⟨b30, eb30, hm⟩ := bindS hm
      refine L.cut 3 (fun e w => ∃ (s32 : Sig) (v31 : Bool), b30 = v31 ∧ Mv (Up N No) s s32 ∧ e = (51, .bool v31) :: [(42, .bool false), (35, .bool true), (31, .int .i64 o11)] ∧ w = s32.w) ?_ ?_
      ·rintro _ _ ⟨s32, v31, rfl, m0, rfl, rfl⟩
       exact L.pkF (Wt.mk rfl rfl) rfl rfl rfl rfl (L.sb (J24 _ _ ⟨s32, b30, (Option.some.inj hm).symm, m0, rfl, rfl⟩) rfl)
      ·intro J33
       rcases ifS eb30 with ⟨hc, hm⟩ | ⟨hc, hm⟩
       ·refine L.know (d := 48) rfl hc (L.mv (Wt.mk rfl rfl) rfl rfl ?_)
        obtain ⟨r34, er34, hm⟩ := bindS hm
        refine L.ca cf85 rfl rfl (Wt.mk rfl rfl) rfl (m_slices_isNaN_int_c (s := s28) (p0 := p1) er34) rfl ?_
        rintro _ s35 m36 rfl
        replace m0 := m0.trans m36.no
        exact L.pkT (Wt.mk rfl rfl) rfl rfl rfl rfl (L.sb (J33 _ _ ⟨s35, r34, (Option.some.inj hm).symm, m0, rfl, rfl⟩) rfl)
       ·exact L.know (d := 48) rfl hc (L.skip rfl rfl rfl rfl (L.skip rfl rfl rfl rfl (L.pkF (Wt.mk rfl rfl) rfl rfl rfl rfl (L.sb (J33 _ _ ⟨s28, false, (Option.some.inj hm).symm, m0, rfl, rfl⟩) rfl))))
   ·exact L.know (d := 35) rfl hc (L.skip rfl rfl rfl rfl (L.skip rfl rfl rfl rfl (L.skip rfl rfl rfl rfl (L.skip rfl rfl rfl rfl (L.skip rfl rfl rfl rfl (L.skip rfl rfl rfl rfl (L.skip rfl rfl rfl rfl (L.skipU rfl rfl rfl (L.skipU rfl rfl rfl (L.skipU rfl rfl rfl (L.skipU rfl rfl rfl (L.skipU rfl rfl rfl (L.skipU rfl rfl rfl (L.skipU rfl rfl rfl (L.skipU rfl rfl rfl (L.skipU rfl rfl rfl (L.skip rfl rfl rfl rfl (L.pkF Wt.no rfl rfl rfl rfl (L.sb (J18 _ _ ⟨s14, false, (Option.some.inj hm).symm, m0, rfl, rfl⟩) rfl)))))))))))))))))))
 intro K37
 refine E.iter (fun (st11 : Int × Int) (e : List (Nat × Value)) (w : World) => ∃ (s13 : Sig), Mv (Up N No) s s13 ∧ RdL (rK .i64) s13 a1 c1 p0 ∧ e = [(8, .int .i64 st11.1), (7, .int .i64 st11.2), (6, .int .i64 (p0.length : Int)), (0, .slice a1 p0.length c1), (1, .int .i64 p1)] ∧ w = s13.w) eo11 ⟨s, m0, h1, rfl, rfl⟩ (Sub.rf rfl) ?_
 rintro st11 res11 hm ih11 ho11 _ _ ⟨s13, m0, h1, rfl, rfl⟩
 unfold m_slices_BinarySearch_int_l1 at hm
 refine E.seq (E.seq (E.reg (L.mv Wt.no rfl rfl (L.mv Wt.no rfl rfl (L.bi Wt.no rfl rfl rfl rfl (L.nil (X.seqN ?_)))))))
 rcases ifS hm with ⟨hc, hm⟩ | ⟨hc, hm⟩
 ·refine E.cT rfl hc (E.skip (X.seqN (E.block (E.seq (E.reg (L.mv Wt.no rfl rfl (L.mv Wt.no rfl rfl (L.bi Wt.no rfl rfl rfl rfl (L.cv Try.underlying3 Try.underlying136 Wt.no rfl rfl (L.shr Wt.no rfl rfl (by decide) rfl (L.cv Try.underlying136 Try.underlying3 Wt.no rfl rfl (L.as Wt.no rfl rfl (L.nil (X.seqN (E.seq (E.reg (L.mv Wt.no rfl rfl (L.mv Wt.no rfl rfl ?_))))))))))))))))))
  obtain ⟨x38, ex38, hm⟩ := bindS hm
  refine L.ix (r := (rK .i64)) sl23 h1 Wt.no rfl rfl ex38 rfl fun b39 o39 cc39 me39 rd39 => ?_
  obtain rfl := rd39
  refine L.ld (j := 0) me39 nag3 Wt.no rfl rfl rfl rfl (L.mv Wt.no rfl rfl ?_)
  obtain ⟨r40, er40, hm⟩ := bindS hm
  refine L.ca cf84 rfl rfl Wt.no rfl (m_cmp_Less_int_c (s := s13) (p0 := x38) (p1 := p1) er40) rfl ?_
  rintro _ s41 m42 rfl
  replace m0 := m0.trans m42.no
  replace h1 := h1.mono (m42.le no_No)
  refine L.nil (X.seqN ?_)
  rcases ifS hm with ⟨hc, hm⟩ | ⟨hc, hm⟩
  ·exact E.cT rfl hc (E.reg (L.mv Wt.no rfl rfl (L.bi Wt.no rfl rfl rfl rfl (L.as Wt.no rfl rfl (L.nil (X.blkN (X.sub (ih11 _ (Option.some.inj hm).symm _ _ ⟨s41, m0, h1, rfl, rfl⟩) (Sub.rf rfl))))))))
  ·exact E.cF rfl hc (E.reg (L.mv Wt.no rfl rfl (L.as Wt.no rfl rfl (L.nil (X.blkN (X.sub (ih11 _ (Option.some.inj hm).symm _ _ ⟨s41, m0, h1, rfl, rfl⟩) (Sub.rf rfl)))))))
 ·refine E.cF rfl hc (E.exit (X.seqX (X.seqX ?_)))
  have hx := ho11 _ (Option.some.inj hm).symm
  subst hx
  exact X.sub (K37 _ _ ⟨s13, m0, h1, rfl, rfl⟩) (Sub.rf rfl)

end Go.Proofs.Ytkkemchihllklaa

namespace Go.Proofs.Ytkkemchihllklaa
open Go Go.RowKit
theorem cf72 : Cf Try.prog 72 := Cf.mk Try.func72 (by kernel_rfl) (by kernel_rfl)
/-- What alphabet.Contains computes. -/
noncomputable def m_alphabet_Contains (p0 : List Int) (p1 : Int) : Option Bool :=
  (m_slices_BinarySearch_int p0 p1).bind fun r2 =>
  some r2.2
set_option maxRecDepth 100000 in
set_option maxHeartbeats 8000000 in
theorem m_alphabet_Contains_c {s : Sig} {p0 : List Int} {p1 : Int} {a1 : Option Addr} {c1 : Nat} {r : Bool} (h1 : RdL (rK .i64) s a1 c1 p0) (hm : m_alphabet_Contains p0 p1 = some r) :
    Calls Try.prog 52 #[.slice a1 p0.length c1, .int .i64 p1] s.w (RetS No s fun v s' => v = .bool r) := by
 unfold m_alphabet_Contains at hm
 obtain ⟨N, hN, hNb⟩ := s.fresh
 have m0 : Mv (Up N No) s s := Mv.refl _ _
 refine E.entry Try.func52 rfl Try.ntmps52 rfl rfl (E.seq (E.reg (L.as Wt.no rfl rfl (L.nil (X.seqN (E.seq (E.reg (L.mv Wt.no rfl rfl (L.mv Wt.no rfl rfl ?_)))))))))
 obtain ⟨r2, er2, hm⟩ := bindS hm
 refine L.ca cf72 rfl rfl Wt.no rfl (m_slices_BinarySearch_int_c (s := s) (p0 := p0) (p1 := p1) h1 er2) rfl ?_
 rintro _ s3 m4 rfl
 replace m0 := m0.trans m4.no
 refine L.mv Wt.no rfl rfl (L.ex Wt.no rfl rfl rfl (L.ex Wt.no rfl rfl rfl (L.as Wt.no rfl rfl (L.as Wt.no rfl rfl (L.nil (X.seqN (E.seq (E.reg (L.mv Wt.no rfl rfl (L.as Wt.no rfl rfl (L.nil (X.seqN (E.ret ?_)))))))))))))
 obtain rfl := Option.some.inj hm
 exact X.rt (.inl rfl) Try.results52 (Rs.tmp rfl Rs.nil) rfl ⟨_, (s3).ren N (fun _ => 0), rfl, rfl, m0.ren hNb, rfl⟩

theorem cf51 : Cf Try.prog 51 := Cf.mk Try.func51 (by kernel_rfl) (by kernel_rfl)
theorem cf52 : Cf Try.prog 52 := Cf.mk Try.func52 (by kernel_rfl) (by kernel_rfl)
theorem fa34_1 : FA Try.prog 34 1 5 := FA.mk Try.underlying34 rfl rfl ⟨1, by decide, by kernel_rfl⟩
noncomputable def m_generate_Inputs_l1 (p0 : (Int × Int × Int × List Bool × (List (Int × Int))) × List Int × List Int × Int) (p1 : List Int) (st31 : Int × List Bool) : Option ((Int × List Bool) ⊕ (List Bool)) :=
  if decide (st31.1 < (p0.2.1.length : Int)) then
    (idx p0.2.1 st31.1).bind fun x36 =>
    (m_alphabet_Contains p1 x36).bind fun r38 =>
    (idx st31.2 st31.1).bind fun x41 =>
    (upd st31.2 st31.1 r38).bind fun x43 =>
    some (.inl (W (st31.1 + 1), x43))
  else
    some (.inr st31.2)
/-- What generate.Inputs computes. -/
noncomputable def m_generate_Inputs (p0 : (Int × Int × Int × List Bool × (List (Int × Int))) × List Int × List Int × Int) (p1 : List Int) : Option (List Bool × Int) :=
  (m_generate_among p1 p0.2.1).bind fun r10 =>
  if (r10 != 0) then
    some (([] : List Bool), r10)
  else
    (mkL (p0.2.1.length : Int) false).bind fun x13 =>
    (iter (m_generate_Inputs_l1 p0 p1) (0, x13)).bind fun o31 =>
    some (o31, 0)
set_option maxRecDepth 100000 in
set_option maxHeartbeats 8000000 in
theorem m_generate_Inputs_c {s : Sig} {p0 : (Int × Int × Int × List Bool × (List (Int × Int))) × List Int × List Int × Int} {p1 : List Int} {a1 : Option Addr} {c1 : Nat} {a2 : Option Addr} {c2 : Nat} {a3 : Option Addr} {c3 : Nat} {a4 : Option Addr} {c4 : Nat} {a5 : Option Addr} {c5 : Nat} {u0 : Nat} {r : List Bool × Int} (h1 : RdL rB s a1 c1 p0.1.2.2.2.1) (h2 : RdL (rP (rK .i64) (rK .i64)) s a2 c2 p0.1.2.2.2.2) (h3 : RdL (rK .i64) s a3 c3 p0.2.1) (h4 : RdL (rK .i64) s a4 c4 p0.2.2.1) (h5 : RdL (rK .i64) s a5 c5 p1) (hm : m_generate_Inputs p0 p1 = some r) :
    Calls Try.prog 22 #[.agg #[.int .i64 p0.1.1, .int .i64 p0.1.2.1, .int .i64 p0.1.2.2.1, .slice a1 p0.1.2.2.2.1.length c1, .slice a2 p0.1.2.2.2.2.length c2, .slice a3 p0.2.1.length c3, .slice a4 p0.2.2.1.length c4, .int .i64 p0.2.2.2], .slice a5 p1.length c5] s.w (RetS No s fun v s' => ∃ (a6 : Option Addr) (c6 : Nat), v = .tuple #[.slice a6 r.1.length c6, .int .i64 r.2] ∧ RowT rB s' u0 4 a6 c6 r.1) := by
 unfold m_generate_Inputs at hm
 obtain ⟨N, hN, hNb⟩ := s.fresh
 have m0 : Mv (Up N No) s s := Mv.refl _ _
 refine E.entry Try.func22 rfl Try.ntmps22 rfl rfl (E.seq (E.reg (L.box (N + 0) Wt.no rfl rfl rfl fun b7 s8 m9 bx7 => ?_)))
 replace m0 := m0.trans m9.no
 replace h5 := h5.mono (m9.le no_No)
 replace h3 := h3.mono (m9.le no_No)
 refine L.as Wt.no rfl rfl (L.as Wt.no rfl rfl (L.nil (X.seqN (E.seq (E.seq (E.reg (L.mv Wt.no rfl rfl (L.fa fa34_1 Wt.no rfl rfl (L.ld (j := 5) bx7.mem nag23 Wt.no rfl rfl rfl rfl ?_)))))))))
 obtain ⟨r10, er10, hm⟩ := bindS hm
 refine L.ca cf51 rfl rfl Wt.no rfl (m_generate_among_c (s := s8) (p0 := p1) (p1 := p0.2.1) h5 h3 er10) rfl ?_
 rintro _ s11 m12 rfl
 replace m0 := m0.trans m12.no
 replace h5 := h5.mono (m12.le no_No)
 replace bx7 := bx7.mv m12 no_No
 replace h3 := h3.mono (m12.le no_No)
 refine L.as Wt.no rfl rfl (L.nil (X.seqN (E.seq (E.reg (L.mv Wt.no rfl rfl (L.bi Wt.no rfl rfl rfl rfl (L.nil (X.seqN ?_))))))))
 rcases ifS hm with ⟨hc, hm⟩ | ⟨hc, hm⟩
 ·refine E.cT rfl hc (E.seq (E.reg (L.mv Wt.no rfl rfl (L.as Wt.no rfl rfl (L.as Wt.no rfl rfl (L.nil (X.seqN (E.ret (X.seqR ?_)))))))))
  obtain rfl := Option.some.inj hm
  exact X.rt (.inl rfl) Try.results22 (Rs.tmp rfl (Rs.tmp rfl Rs.nil)) rfl ⟨_, (s11).ren N (fun _ => 0), rfl, rfl, m0.ren hNb, ⟨none, 0, rfl, RowT.nil⟩⟩
 ·refine E.cF rfl hc (E.skip (X.seqN (E.seq (E.reg (L.fa fa34_1 Wt.no rfl rfl (L.ld (j := 5) bx7.mem nag23 Wt.no rfl rfl rfl rfl (L.len sl23 Wt.no rfl rfl ?_)))))))
  obtain ⟨x13, ex13, hm⟩ := bindS hm
  refine L.mk (z := false) (N + 1) Try.underlying29 zr4 rfl Wt.no rfl rfl ex13 rfl fun b14 s15 m16 h14 => ?_
  replace m0 := m0.trans m16.no
  replace h5 := h5.mono (m16.le no_No)
  replace bx7 := bx7.mv m16 no_No
  replace h3 := h3.mono (m16.le no_No)
  refine L.as Wt.no rfl rfl (L.nil (X.seqN (E.seq (E.seq (E.reg (L.fa fa34_1 Wt.no rfl rfl (L.ld (j := 5) bx7.mem nag23 Wt.no rfl rfl rfl rfl (L.len sl23 Wt.no rfl rfl (L.mv Wt.no rfl rfl (L.nil (X.seqN (E.block ?_))))))))))))
  obtain ⟨o31, eo31, hm⟩ := bindS hm
  refine E.cut (x := .exit 0) (fun e w => ∃ (s34 : Sig), Mv (Up N No) s s34 ∧ RowT rB s34 (N + 1) 4 (some ⟨b14, 0, none⟩) x13.length o31 ∧ e = [(7, .slice (some ⟨b14, 0, none⟩) o31.length x13.length)] ∧ w = s34.w) ?_ ?_
  ·rintro _ _ ⟨s34, m0, h14, rfl, rfl⟩
   refine X.blkE (X.seqN (E.seq (E.reg (L.mv Wt.no rfl rfl (L.as Wt.no rfl rfl (L.as Wt.no rfl rfl (L.nil (X.seqN (E.ret ?_)))))))))
   obtain rfl := Option.some.inj hm
   exact X.rt (.inl rfl) Try.results22 (Rs.tmp rfl (Rs.tmp rfl Rs.nil)) rfl ⟨_, (s34).ren N (fun k => cond (Nat.beq k 1) u0 (0)), rfl, rfl, m0.ren hNb, ⟨(some ⟨b14, 0, none⟩), x13.length, rfl, (h14.ren hN)⟩⟩
  intro K35
  refine E.iter (fun (st31 : Int × List Bool) (e : List (Nat × Value)) (w : World) => ∃ (s33 : Sig), Mv (Up N No) s s33 ∧ RdL (rK .i64) s33 a3 c3 p0.2.1 ∧ RowT rB s33 (N + 1) 4 (some ⟨b14, 0, none⟩) x13.length st31.2 ∧ RdL (rK .i64) s33 a5 c5 p1 ∧ e = [(24, .int .i64 st31.1), (23, .int .i64 (p0.2.1.length : Int)), (22, .slice a3 p0.2.1.length c3), (7, .slice (some ⟨b14, 0, none⟩) st31.2.length x13.length), (1, .slice a5 p1.length c5)] ∧ w = s33.w) eo31 ⟨s15, m0, h3, h14, h5, rfl, rfl⟩ (Sub.rf rfl) ?_
  rintro st31 res31 hm ih31 ho31 _ _ ⟨s33, m0, h3, h14, h5, rfl, rfl⟩
  unfold m_generate_Inputs_l1 at hm
  refine E.seq (E.reg (L.bi Wt.no rfl rfl rfl rfl (L.nil (X.seqN (E.seq ?_)))))
  rcases ifS hm with ⟨hc, hm⟩ | ⟨hc, hm⟩
  ·refine E.cT rfl hc (E.skip (X.seqN (E.seq (E.block (E.seq (E.reg (L.mv Wt.no rfl rfl ?_)))))))
   obtain ⟨x36, ex36, hm⟩ := bindS hm
   refine L.ix (r := (rK .i64)) sl23 h3 Wt.no rfl rfl ex36 rfl fun b37 o37 cc37 me37 rd37 => ?_
   obtain rfl := rd37
   refine L.ld (j := 0) me37 nag3 Wt.no rfl rfl rfl rfl (L.as Wt.no rfl rfl (L.as Wt.no rfl rfl (L.nil (X.seqN (E.reg (L.mv Wt.no rfl rfl (L.mv Wt.no rfl rfl (L.mv Wt.no rfl rfl (L.mv Wt.no rfl rfl ?_)))))))))
   obtain ⟨r38, er38, hm⟩ := bindS hm
   refine L.ca cf52 rfl rfl Wt.no rfl (m_alphabet_Contains_c (s := s33) (p0 := p1) (p1 := x36) h5 er38) rfl ?_
   rintro _ s39 m40 rfl
   replace m0 := m0.trans m40.no
   replace h5 := h5.mono (m40.le no_No)
   replace h14 := h14.mv m40 no_No no_No
   replace h3 := h3.mono (m40.le no_No)
   obtain ⟨x41, ex41, hm⟩ := bindS hm
   refine L.ir (r := rB) sl29 h14 Wt.no rfl rfl ex41 rfl fun b42 o42 cc42 me42 rd42 sp42 => ?_
   obtain rfl := rd42
   obtain ⟨x43, ex43, hm⟩ := bindS hm
   have elx43 := upd_len ex43
   refine L.su (fo := 0) (c := [.bool r38]) (z := r38) h14 sp42 ex41 ex43 (tgp hN) nag4.sz Wt.no rfl rfl rfl rfl rfl rfl (fun c0 hc0 => by obtain rfl := hc0; exact rfl) fun s44 m45 h14 => ?_
   replace m0 := m0.trans (m45.one up)
   replace h5 := h5.mono (m45.le (tg0 hN))
   replace h3 := h3.mono (m45.le (tg0 hN))
   exact L.reval (d := 7) rfl elx43 (L.nil (X.blkN (X.seqN (E.reg (L.bi Wt.no rfl rfl rfl rfl (L.mv Wt.no rfl rfl (L.nil (X.sub (ih31 _ (Option.some.inj hm).symm _ _ ⟨s44, m0, h3, h14, h5, rfl, rfl⟩) (Sub.rf rfl)))))))))
  ·refine E.cF rfl hc (E.exit (X.seqX (X.seqX ?_)))
   have hx := ho31 _ (Option.some.inj hm).symm
   subst hx
   exact X.sub (K35 _ _ ⟨s33, m0, h14, rfl, rfl⟩) (Sub.rf rfl)

theorem cf86 : Cf Try.prog 86 := Cf.mk Try.func86 (by kernel_rfl) (by kernel_rfl)
theorem sl138 : Sl Try.prog 138 29 1 := Sl.mk' Try.underlying138 (by kernel_rfl)
noncomputable def m_slices_Concat_bool_l2 (p0 : List (List Bool)) (st34 : Int × List Bool) : Option ((Int × List Bool) ⊕ (List Bool)) :=
  if decide (st34.1 < (p0.length : Int)) then
    (idx p0 st34.1).bind fun x40 =>
    (app st34.2 x40).bind fun x43 =>
    some (.inl (W (st34.1 + 1), x43))
  else
    some (.inr st34.2)
noncomputable def m_slices_Concat_bool_j1 (st13 : Int × Int) (n48 : Int) : Option ((Int × Int) ⊕ Int) :=
  some (.inl (W (st13.1 + 1), n48))
noncomputable def m_slices_Concat_bool_l1 (p0 : List (List Bool)) (st13 : Int × Int) : Option ((Int × Int) ⊕ Int) :=
  if decide (st13.1 < (p0.length : Int)) then
    (idx p0 st13.1).bind fun x51 =>
    if decide ((W (st13.2 + (x51.length : Int))) < 0) then
      none
    else
      m_slices_Concat_bool_j1 st13 (W (st13.2 + (x51.length : Int)))
  else
    some (.inr st13.2)
/-- What slices.Concat<<>bool,bool> computes. -/
noncomputable def m_slices_Concat_bool (p0 : List (List Bool)) : Option (List Bool) :=
  (iter (m_slices_Concat_bool_l1 p0) (0, 0)).bind fun o13 =>
  (m_slices_Grow_bool ([] : List Bool) o13).bind fun r17 =>
  (iter (m_slices_Concat_bool_l2 p0) (0, r17)).bind fun o34 =>
  some o34
set_option maxRecDepth 100000 in
set_option maxHeartbeats 8000000 in
theorem m_slices_Concat_bool_c {s : Sig} {p0 : List (List Bool)} {a1 : Option Addr} {c1 : Nat} {u0 : Nat} {r : List Bool} (h1 : RdL (rL rB) s a1 c1 p0) (hm : m_slices_Concat_bool p0 = some r) :
    Calls Try.prog 73 #[.slice a1 p0.length c1] s.w (RetS No s fun v s' => ∃ (a2 : Option Addr) (c2 : Nat), v = .slice a2 r.length c2 ∧ RowT rB s' u0 4 a2 c2 r) := by
 unfold m_slices_Concat_bool at hm
 obtain ⟨N, hN, hNb⟩ := s.fresh
 have m0 : Mv (Up N No) s s := Mv.refl _ _
 refine E.entry Try.func73 rfl Try.ntmps73 rfl rfl (E.seq (E.reg (L.as Wt.no rfl rfl (L.nil (X.seqN (E.seq (E.reg (L.as Wt.no rfl rfl (L.nil (X.seqN (E.seq (E.seq (E.reg (L.mv Wt.no rfl rfl (L.len sl138 Wt.no rfl rfl (L.mv Wt.no rfl rfl (L.nil (X.seqN (E.block ?_)))))))))))))))))))
 obtain ⟨o13, eo13, hm⟩ := bindS hm
 refine E.cut (x := .exit 0) (fun e w => ∃ (s16 : Sig), Mv (Up N No) s s16 ∧ RdL (rL rB) s16 a1 c1 p0 ∧ e = [(3, .int .i64 o13), (0, .slice a1 p0.length c1)] ∧ w = s16.w) ?_ ?_
 ·rintro _ _ ⟨s16, m0, h1, rfl, rfl⟩
  refine X.blkE (X.seqN (E.seq (E.reg (L.mv Wt.no rfl rfl ?_))))
  obtain ⟨r17, er17, hm⟩ := bindS hm
  refine L.ca cf86 rfl rfl Wt.no rfl (m_slices_Grow_bool_c (s := s16) (p0 := ([] : List Bool)) (p1 := o13) (u0 := (N + 0)) er17) rfl ?_
  rintro _ s18 m19 ⟨a20, c20, rfl, h20⟩
  replace m0 := m0.trans m19.no
  replace h1 := h1.mono (m19.le no_No)
  refine L.as Wt.no rfl rfl (L.nil (X.seqN (E.seq (E.seq (E.reg (L.mv Wt.no rfl rfl (L.len sl138 Wt.no rfl rfl (L.mv Wt.no rfl rfl (L.nil (X.seqN (E.block ?_)))))))))))
  obtain ⟨o34, eo34, hm⟩ := bindS hm
  refine E.cut (x := .exit 2) (fun e w => ∃ (s38 : Sig) (a36 : Option Addr) (c36 : Nat), Mv (Up N No) s s38 ∧ RowT rB s38 (N + 0) 4 a36 c36 o34 ∧ e = [(6, .slice a36 o34.length c36)] ∧ w = s38.w) ?_ ?_
  ·rintro _ _ ⟨s38, a36, c36, m0, h36, rfl, rfl⟩
   refine X.blkE (X.seqN (E.seq (E.reg (L.mv Wt.no rfl rfl (L.as Wt.no rfl rfl (L.nil (X.seqN (E.ret ?_))))))))
   obtain rfl := Option.some.inj hm
   exact X.rt (.inl rfl) Try.results73 (Rs.tmp rfl Rs.nil) rfl ⟨_, (s38).ren N (fun k => cond (Nat.beq k 0) u0 (0)), rfl, rfl, m0.ren hNb, ⟨a36, c36, rfl, (h36.ren hN)⟩⟩
  intro K39
  refine E.iter (fun (st34 : Int × List Bool) (e : List (Nat × Value)) (w : World) => ∃ (s37 : Sig) (a23 : Option Addr) (c23 : Nat), Mv (Up N No) s s37 ∧ RdL (rL rB) s37 a1 c1 p0 ∧ RowT rB s37 (N + 0) 4 a23 c23 st34.2 ∧ e = [(27, .int .i64 st34.1), (26, .int .i64 (p0.length : Int)), (25, .slice a1 p0.length c1), (6, .slice a23 st34.2.length c23)] ∧ w = s37.w) eo34 ⟨s18, a20, c20, m0, h1, h20, rfl, rfl⟩ (Sub.rf rfl) ?_
  rintro st34 res34 hm ih34 ho34 _ _ ⟨s37, a23, c23, m0, h1, h23, rfl, rfl⟩
  unfold m_slices_Concat_bool_l2 at hm
  refine E.seq (E.reg (L.bi Wt.no rfl rfl rfl rfl (L.nil (X.seqN (E.seq ?_)))))
  rcases ifS hm with ⟨hc, hm⟩ | ⟨hc, hm⟩
  ·refine E.cT rfl hc (E.skip (X.seqN (E.seq (E.block (E.seq (E.reg ?_))))))
   obtain ⟨x40, ex40, hm⟩ := bindS hm
   refine L.ix (r := (rL rB)) sl138 h1 Wt.no rfl rfl ex40 rfl fun b41 o41 cc41 me41 rd41 => ?_
   obtain ⟨a42, c42, rfl, h42⟩ := rd41
   refine L.ld (j := 0) me41 nag29 Wt.no rfl rfl rfl rfl (L.as Wt.no rfl rfl (L.nil (X.seqN (E.reg (L.mv Wt.no rfl rfl (L.mv Wt.no rfl rfl ?_))))))
   obtain ⟨x43, ex43, hm⟩ := bindS hm
   refine L.ap (r := rB) Try.underlying29 el4 rfl (tgp hN) h23 h42.wk Wt.no rfl rfl ex43 rfl fun a44 c44 s45 m46 h44 => ?_
   replace m0 := m0.trans (m46.one up)
   replace h1 := h1.mono (m46.le (tg0 hN))
   exact L.as Wt.no rfl rfl (L.nil (X.blkN (X.seqN (E.reg (L.bi Wt.no rfl rfl rfl rfl (L.mv Wt.no rfl rfl (L.nil (X.sub (ih34 _ (Option.some.inj hm).symm _ _ ⟨s45, a44, c44, m0, h1, h44, rfl, rfl⟩) (Sub.rf rfl)))))))))
  ·refine E.cF rfl hc (E.exit (X.seqX (X.seqX ?_)))
   have hx := ho34 _ (Option.some.inj hm).symm
   subst hx
   exact X.sub (K39 _ _ ⟨s37, a23, c23, m0, h23, rfl, rfl⟩) (Sub.rf rfl)
 intro K47
 refine E.iter (fun (st13 : Int × Int) (e : List (Nat × Value)) (w : World) => ∃ (s15 : Sig), Mv (Up N No) s s15 ∧ RdL (rL rB) s15 a1 c1 p0 ∧ e = [(11, .int .i64 st13.1), (10, .int .i64 (p0.length : Int)), (9, .slice a1 p0.length c1), (3, .int .i64 st13.2), (0, .slice a1 p0.length c1)] ∧ w = s15.w) eo13 ⟨s, m0, h1, rfl, rfl⟩ (Sub.rf rfl) ?_
 rintro st13 res13 hm ih13 ho13 _ _ ⟨s15, m0, h1, rfl, rfl⟩
 unfold m_slices_Concat_bool_l1 at hm
 refine E.seq (E.reg (L.bi Wt.no rfl rfl rfl rfl (L.nil (X.seqN (E.seq ?_)))))
 rcases ifS hm with ⟨hc, hm⟩ | ⟨hc, hm⟩
 ·refine E.cT rfl hc (E.skip (X.seqN (E.seqJ (fun e w => ∃ (s49 : Sig) (n48 : Int), m_slices_Concat_bool_j1 st13 n48 = some res13 ∧ Mv (Up N No) s s49 ∧ RdL (rL rB) s49 a1 c1 p0 ∧ e = [(3, .int .i64 n48), (11, .int .i64 st13.1), (10, .int .i64 (p0.length : Int)), (9, .slice a1 p0.length c1), (0, .slice a1 p0.length c1)] ∧ w = s49.w) ?_ ?_)))
  ·rintro _ _ ⟨s49, n48, hm, m0, h1, rfl, rfl⟩
   unfold m_slices_Concat_bool_j1 at hm
   exact E.reg (L.bi Wt.no rfl rfl rfl rfl (L.mv Wt.no rfl rfl (L.nil (X.sub (ih13 _ (Option.some.inj hm).symm _ _ ⟨s49, m0, h1, rfl, rfl⟩) (Sub.rf rfl)))))
  ·intro Jj50
   refine E.block (E.seq (E.reg ?_))
   obtain ⟨x51, ex51, hm⟩ := bindS hm
   refine L.ix (r := (rL rB)) sl138 h1 Wt.no rfl rfl ex51 rfl fun b52 o52 cc52 me52 rd52 => ?_
   obtain ⟨a53, c53, rfl, h53⟩ := rd52
   refine L.ld (j := 0) me52 nag29 Wt.no rfl rfl rfl rfl (L.as Wt.no rfl rfl (L.nil (X.seqN (E.seq (E.reg (L.mv Wt.no rfl rfl (L.mv Wt.no rfl rfl (L.len sl29 Wt.no rfl rfl (L.bi Wt.no rfl rfl rfl rfl (L.as Wt.no rfl rfl (L.nil (X.seqN (E.seq (E.reg (L.mv Wt.no rfl rfl (L.bi Wt.no rfl rfl rfl rfl (L.nil (X.seqN ?_))))))))))))))))))
   rcases ifS hm with ⟨hc, hm⟩ | ⟨hc, hm⟩
   ·refine E.cT rfl hc (E.reg ?_)
    cases hm
   ·exact E.cF rfl hc (E.skip (X.blkN (X.sub (Jj50 _ _ ⟨s15, (W (st13.2 + (x51.length : Int))), hm, m0, h1, rfl, rfl⟩) (Sub.rf rfl))))
 ·refine E.cF rfl hc (E.exit (X.seqX (X.seqX ?_)))
  have hx := ho13 _ (Option.some.inj hm).symm
  subst hx
  exact X.sub (K47 _ _ ⟨s15, m0, h1, rfl, rfl⟩) (Sub.rf rfl)

theorem bs138 : Bs Try.prog 138 29 1 [.slice none 0 0] := Bs.mk' Try.underlying138 (by kernel_rfl) (by kernel_rfl) rfl
theorem cf73 : Cf Try.prog 73 := Cf.mk Try.func73 (by kernel_rfl) (by kernel_rfl)
theorem fa39_0 : FA Try.prog 39 0 0 := FA.mk Try.underlying39 rfl rfl ⟨1, by decide, by kernel_rfl⟩
theorem fa39_1 : FA Try.prog 39 1 1 := FA.mk Try.underlying39 rfl rfl ⟨1, by decide, by kernel_rfl⟩
/-- What instruction.begin computes. -/
noncomputable def m_instruction_begin (p0 : Int × Int × Int × List Bool × (List (Int × Int))) (p1 : List Bool × List Bool) (p2 : List Bool) : Option (List Bool × Int) :=
  (m_instruction_Check p0).bind fun r13 =>
  if (r13 != 0) then
    some (([] : List Bool), r13)
  else
    if ((((p2.length : Int) != p0.1) || ((p1.1.length : Int) != p0.2.1)) || ((p1.2.length : Int) != p0.2.2.1)) then
      some (([] : List Bool), 4)
    else
      (m_slices_Concat_bool ([p2, p1.1, p1.2] : List (List Bool))).bind fun r21 =>
      some (r21, 0)
set_option maxRecDepth 100000 in
set_option maxHeartbeats 8000000 in
theorem m_instruction_begin_c {s : Sig} {p0 : Int × Int × Int × List Bool × (List (Int × Int))} {p1 : List Bool × List Bool} {p2 : List Bool} {a1 : Option Addr} {c1 : Nat} {a2 : Option Addr} {c2 : Nat} {a3 : Option Addr} {c3 : Nat} {a4 : Option Addr} {c4 : Nat} {a5 : Option Addr} {c5 : Nat} {u0 : Nat} {r : List Bool × Int} (h1 : RdL rB s a1 c1 p0.2.2.2.1) (h2 : RdL (rP (rK .i64) (rK .i64)) s a2 c2 p0.2.2.2.2) (h3 : RdL rB s a3 c3 p1.1) (h4 : RdL rB s a4 c4 p1.2) (h5 : RdL rB s a5 c5 p2) (hm : m_instruction_begin p0 p1 p2 = some r) :
    Calls Try.prog 54 #[.agg #[.int .i64 p0.1, .int .i64 p0.2.1, .int .i64 p0.2.2.1, .slice a1 p0.2.2.2.1.length c1, .slice a2 p0.2.2.2.2.length c2], .agg #[.slice a3 p1.1.length c3, .slice a4 p1.2.length c4], .slice a5 p2.length c5] s.w (RetS No s fun v s' => ∃ (a6 : Option Addr) (c6 : Nat), v = .tuple #[.slice a6 r.1.length c6, .int .i64 r.2] ∧ RowT rB s' u0 4 a6 c6 r.1) := by
 unfold m_instruction_begin at hm
 obtain ⟨N, hN, hNb⟩ := s.fresh
 have m0 : Mv (Up N No) s s := Mv.refl _ _
 refine E.entry Try.func54 rfl Try.ntmps54 rfl rfl (E.seq (E.reg (L.box (N + 0) Wt.no rfl rfl rfl fun b7 s8 m9 bx7 => ?_)))
 replace m0 := m0.trans m9.no
 replace h3 := h3.mono (m9.le no_No)
 replace h4 := h4.mono (m9.le no_No)
 replace h5 := h5.mono (m9.le no_No)
 replace h1 := h1.mono (m9.le no_No)
 replace h2 := h2.mono (m9.le no_No)
 refine L.box (N + 1) Wt.no rfl rfl rfl fun b10 s11 m12 bx10 => ?_
 replace m0 := m0.trans m12.no
 replace h5 := h5.mono (m12.le no_No)
 replace bx7 := bx7.mv m12 no_No
 replace h1 := h1.mono (m12.le no_No)
 replace h2 := h2.mono (m12.le no_No)
 replace h3 := h3.mono (m12.le no_No)
 replace h4 := h4.mono (m12.le no_No)
 refine L.as Wt.no rfl rfl (L.as Wt.no rfl rfl (L.nil (X.seqN (E.seq (E.seq (E.reg (L.lg (j := 0) (cs := [.int .i64 p0.1, .int .i64 p0.2.1, .int .i64 p0.2.2.1, .slice a1 p0.2.2.2.1.length c1, .slice a2 p0.2.2.2.2.length c2]) bx7.mem ag32 Wt.no rfl rfl rfl rfl rfl ?_)))))))
 obtain ⟨r13, er13, hm⟩ := bindS hm
 refine L.ca cf26 rfl rfl Wt.no rfl (m_instruction_Check_c (s := s11) (p0 := p0) h1 h2 er13) rfl ?_
 rintro _ s14 m15 rfl
 replace m0 := m0.trans m15.no
 replace h5 := h5.mono (m15.le no_No)
 replace bx7 := bx7.mv m15 no_No
 replace bx10 := bx10.mv m15 no_No
 replace h3 := h3.mono (m15.le no_No)
 replace h4 := h4.mono (m15.le no_No)
 refine L.as Wt.no rfl rfl (L.nil (X.seqN (E.seq (E.reg (L.mv Wt.no rfl rfl (L.bi Wt.no rfl rfl rfl rfl (L.nil (X.seqN ?_))))))))
 rcases ifS hm with ⟨hc, hm⟩ | ⟨hc, hm⟩
 ·refine E.cT rfl hc (E.seq (E.reg (L.mv Wt.no rfl rfl (L.as Wt.no rfl rfl (L.as Wt.no rfl rfl (L.nil (X.seqN (E.ret (X.seqR ?_)))))))))
  obtain rfl := Option.some.inj hm
  exact X.rt (.inl rfl) Try.results54 (Rs.tmp rfl (Rs.tmp rfl Rs.nil)) rfl ⟨_, (s14).ren N (fun _ => 0), rfl, rfl, m0.ren hNb, ⟨none, 0, rfl, RowT.nil⟩⟩
 ·refine E.cF rfl hc (E.skip (X.seqN (E.seq (E.seq (E.reg (L.mv Wt.no rfl rfl (L.len sl29 Wt.no rfl rfl (L.fa fa32_0 Wt.no rfl rfl (L.ld (j := 0) bx7.mem nag3 Wt.no rfl rfl rfl rfl (L.bi Wt.no rfl rfl rfl rfl (L.mv Wt.no rfl rfl (L.cut 7 (fun e w => ∃ (v16 : Bool), (((p2.length : Int) != p0.1) || ((p1.1.length : Int) != p0.2.1)) = v16 ∧ e = (26, .bool v16) :: [(4, .pointer (some ⟨b10, 0, none⟩)), (3, .pointer (some ⟨b7, 0, none⟩)), (2, .slice a5 p2.length c5)] ∧ w = s14.w) ?_ ?_))))))))))))
  ·rintro _ _ ⟨v16, rfl, rfl, rfl⟩
   refine L.mv Wt.no rfl rfl (L.cut 7 (fun e w => ∃ (v17 : Bool), ((((p2.length : Int) != p0.1) || ((p1.1.length : Int) != p0.2.1)) || ((p1.2.length : Int) != p0.2.2.1)) = v17 ∧ e = (34, .bool v17) :: [(4, .pointer (some ⟨b10, 0, none⟩)), (2, .slice a5 p2.length c5)] ∧ w = s14.w) ?_ ?_)
   ·rintro _ _ ⟨v17, rfl, rfl, rfl⟩
    refine L.nil (X.seqN ?_)
    rcases ifS hm with ⟨hc, hm⟩ | ⟨hc, hm⟩
    ·refine E.cT rfl hc (E.seq (E.reg (L.as Wt.no rfl rfl (L.as Wt.no rfl rfl (L.nil (X.seqN (E.ret (X.seqR ?_))))))))
     obtain rfl := Option.some.inj hm
     exact X.rt (.inl rfl) Try.results54 (Rs.tmp rfl (Rs.tmp rfl Rs.nil)) rfl ⟨_, (s14).ren N (fun _ => 0), rfl, rfl, m0.ren hNb, ⟨none, 0, rfl, RowT.nil⟩⟩
    ·refine E.cF rfl hc (E.skip (X.seqN (E.seq (E.reg (L.mv Wt.no rfl rfl (L.fa fa39_0 Wt.no rfl rfl (L.ld (j := 0) bx10.mem nag29 Wt.no rfl rfl rfl rfl (L.fa fa39_1 Wt.no rfl rfl (L.ld (j := 1) bx10.mem nag29 Wt.no rfl rfl rfl rfl (L.bsE (k := 3) (cs := [.slice a5 p2.length c5, .slice a3 p1.1.length c3, .slice a4 p1.2.length c4]) 0 bs138 (Nat.le_of_ble_eq_true rfl) Wt.no rfl rfl rfl rfl fun b18 s19 m20 bx18 => ?_))))))))))
     replace m0 := m0.trans m20.no
     replace h5 := h5.mono (m20.le no_No)
     replace h3 := h3.mono (m20.le no_No)
     replace h4 := h4.mono (m20.le no_No)
     have h18 := Bx.rdL (r := (rL rB)) (xs := ([p2, p1.1, p1.2] : List (List Bool))) bx18 ⟨[.slice a5 p2.length c5], _, rfl, ⟨_, _, rfl, h5⟩, ⟨[.slice a3 p1.1.length c3], _, rfl, ⟨_, _, rfl, h3⟩, ⟨[.slice a4 p1.2.length c4], _, rfl, ⟨_, _, rfl, h4⟩, rfl⟩⟩⟩ (Nat.le_of_ble_eq_true rfl)
     obtain ⟨r21, er21, hm⟩ := bindS hm
     refine L.ca cf73 rfl rfl Wt.no rfl (m_slices_Concat_bool_c (s := s19) (p0 := ([p2, p1.1, p1.2] : List (List Bool))) (u0 := (N + 2)) h18 er21) rfl ?_
     rintro _ s22 m23 ⟨a24, c24, rfl, h24⟩
     replace m0 := m0.trans m23.no
     refine L.as Wt.no rfl rfl (L.as Wt.no rfl rfl (L.nil (X.seqN (E.ret ?_))))
     obtain rfl := Option.some.inj hm
     exact X.rt (.inl rfl) Try.results54 (Rs.tmp rfl (Rs.tmp rfl Rs.nil)) rfl ⟨_, (s22).ren N (fun k => cond (Nat.beq k 2) u0 (0)), rfl, rfl, m0.ren hNb, ⟨a24, c24, rfl, (h24.ren hN)⟩⟩
   ·intro J25
    rcases Bool.eq_false_or_eq_true (((p2.length : Int) != p0.1) || ((p1.1.length : Int) != p0.2.1)) with hc | hc
    ·exact L.know (d := 27) rfl hc (L.skip rfl rfl rfl rfl (L.skip rfl rfl rfl rfl (L.skip rfl rfl rfl rfl (L.skip rfl rfl rfl rfl (L.skip rfl rfl rfl rfl (L.skip rfl rfl rfl rfl (L.pkT Wt.no rfl rfl rfl rfl (L.sb (J25 _ _ ⟨true, (orT hc).symm, rfl, rfl⟩) rfl))))))))
    ·exact L.know (d := 27) rfl hc (L.fa fa39_1 (Wt.mk rfl rfl) rfl rfl (L.ld (j := 1) bx10.mem nag29 (Wt.mk rfl rfl) rfl rfl rfl rfl (L.len sl29 (Wt.mk rfl rfl) rfl rfl (L.fa fa32_2 (Wt.mk rfl rfl) rfl rfl (L.ld (j := 2) bx7.mem nag3 (Wt.mk rfl rfl) rfl rfl rfl rfl (L.bi (Wt.mk rfl rfl) rfl rfl rfl rfl (L.pkF Wt.no rfl rfl rfl rfl (L.sb (J25 _ _ ⟨((p1.2.length : Int) != p0.2.2.1), (orF hc).symm, rfl, rfl⟩) rfl))))))))
  ·intro J26
   rcases Bool.eq_false_or_eq_true ((p2.length : Int) != p0.1) with hc | hc
   ·exact L.know (d := 19) rfl hc (L.skip rfl rfl rfl rfl (L.skip rfl rfl rfl rfl (L.skip rfl rfl rfl rfl (L.skip rfl rfl rfl rfl (L.skip rfl rfl rfl rfl (L.skip rfl rfl rfl rfl (L.pkT Wt.no rfl rfl rfl rfl (L.sb (J26 _ _ ⟨true, (orT hc).symm, rfl, rfl⟩) rfl))))))))
   ·exact L.know (d := 19) rfl hc (L.fa fa39_0 (Wt.mk rfl rfl) rfl rfl (L.ld (j := 0) bx10.mem nag29 (Wt.mk rfl rfl) rfl rfl rfl rfl (L.len sl29 (Wt.mk rfl rfl) rfl rfl (L.fa fa32_1 (Wt.mk rfl rfl) rfl rfl (L.ld (j := 1) bx7.mem nag3 (Wt.mk rfl rfl) rfl rfl rfl rfl (L.bi (Wt.mk rfl rfl) rfl rfl rfl rfl (L.pkF Wt.no rfl rfl rfl rfl (L.sb (J26 _ _ ⟨((p1.1.length : Int) != p0.2.1), (orF hc).symm, rfl, rfl⟩) rfl))))))))

theorem fa129_2 : FA Try.prog 129 2 2 := FA.mk Try.underlying129 rfl rfl ⟨1, by decide, by kernel_rfl⟩
noncomputable def m_instruction_scan_l1 (p0 : Int × Int × Int × List Bool × (List (Int × Int))) (r8 : (List (Int × ByteArray × (Option (Bool → Bool → Option Bool)) × (Option (Bool → Bool → Option Bool)) × (Option (Bool → Option Bool))))) (st93 : Int × Bool × List Int × List Bool) : Option ((Int × Bool × List Int × List Bool) ⊕ (List Int × List Bool)) :=
  if decide (st93.1 < (p0.2.2.2.2.length : Int)) then
    (app st93.2.2.1 ([st93.1] : List Int)).bind fun x103 =>
    (idx p0.2.2.2.2 st93.1).bind fun x107 =>
    (idx r8 (W (x107.1 - 1))).bind fun x114 =>
    if x114.2.2.1.isSome then
      (idx st93.2.2.2 x107.2).bind fun x131 =>
      x114.2.2.1.bind fun f135 =>
      (f135 st93.2.1 x131).bind fun r136 =>
      some (.inl (W (st93.1 + 1), r136, x103, st93.2.2.2))
    else
      if x114.2.2.2.1.isSome then
        (idx st93.2.2.2 x107.2).bind fun x151 =>
        x114.2.2.2.1.bind fun f155 =>
        (f155 st93.2.1 x151).bind fun r156 =>
        (idx st93.2.2.2 x107.2).bind fun x160 =>
        (upd st93.2.2.2 x107.2 r156).bind fun x163 =>
        some (.inl (W (st93.1 + 1), st93.2.1, x103, x163))
      else
        x114.2.2.2.2.bind fun f167 =>
        (f167 st93.2.1).bind fun r168 =>
        if r168 then
          some (.inl (x107.2, st93.2.1, x103, st93.2.2.2))
        else
          some (.inl (W (st93.1 + 1), st93.2.1, x103, st93.2.2.2))
  else
    some (.inr st93.2.2)
/-- What instruction.scan computes. -/
noncomputable def m_instruction_scan (p0 : Int × Int × Int × List Bool × (List (Int × Int))) (p1 : List Bool) : Option (List Int × List Bool) :=
  (m_instruction_operations).bind fun r8 =>
  (iter (m_instruction_scan_l1 p0 r8) (0, false, ([] : List Int), p1)).bind fun o93 =>
  some o93
set_option maxRecDepth 100000 in
set_option maxHeartbeats 8000000 in
theorem m_instruction_scan_c {s : Sig} {p0 : Int × Int × Int × List Bool × (List (Int × Int))} {p1 : List Bool} {a1 : Option Addr} {c1 : Nat} {a2 : Option Addr} {c2 : Nat} {t1 : Nat} {a3 : Option Addr} {c3 : Nat} {u0 : Nat} {r : List Int × List Bool} (zt1 : 0 < t1) (h1 : RdL rB s a1 c1 p0.2.2.2.1) (h2 : RdL (rP (rK .i64) (rK .i64)) s a2 c2 p0.2.2.2.2) (h3 : RowT rB s t1 4 a3 c3 p1) (hm : m_instruction_scan p0 p1 = some r) :
    Calls Try.prog 55 #[.agg #[.int .i64 p0.1, .int .i64 p0.2.1, .int .i64 p0.2.2.1, .slice a1 p0.2.2.2.1.length c1, .slice a2 p0.2.2.2.2.length c2], .slice a3 p1.length c3] s.w (RetS (One t1) s fun v s' => ∃ (a4 : Option Addr) (c4 : Nat), v = .slice a4 r.1.length c4 ∧ RowT (rK .i64) s' u0 3 a4 c4 r.1 ∧ RowT rB s' t1 4 a3 c3 r.2) := by
 unfold m_instruction_scan at hm
 obtain ⟨N, hN, hNb, lt1, -⟩ := s.freshL [t1]
 have m0 : Mv (Up N (One t1)) s s := Mv.refl _ _
 refine E.entry Try.func55 rfl Try.ntmps55 rfl rfl (E.seq (E.reg (L.box (N + 0) Wt.no rfl rfl rfl fun b5 s6 m7 bx5 => ?_)))
 replace m0 := m0.trans m7.no
 replace h3 := h3.mv m7 no_No no_No
 replace h1 := h1.mono (m7.le no_No)
 replace h2 := h2.mono (m7.le no_No)
 refine L.as Wt.no rfl rfl (L.nil (X.seqN (E.seq (E.reg ?_))))
 obtain ⟨r8, er8, hm⟩ := bindS hm
 refine L.ca cf74 rfl rfl Wt.no rfl (m_instruction_operations_c (s := s6) er8) rfl ?_
 rintro _ s9 m10 ⟨a11, c11, rfl, h11⟩
 replace m0 := m0.trans m10.no
 replace h3 := h3.mv m10 no_No no_No
 replace bx5 := bx5.mv m10 no_No
 replace h1 := h1.mono (m10.le no_No)
 replace h2 := h2.mono (m10.le no_No)
 refine L.as Wt.no rfl rfl (L.nil (X.seqN (E.seq (E.reg (L.as Wt.no rfl rfl (L.nil (X.seqN (E.seq (E.reg (L.as Wt.no rfl rfl (L.nil (X.seqN (E.seq (E.seq (E.reg (L.as Wt.no rfl rfl (L.nil (X.seqN (E.block ?_)))))))))))))))))))
 obtain ⟨o93, eo93, hm⟩ := bindS hm
 refine E.cut (x := .exit 0) (fun e w => ∃ (s98 : Sig) (a95 : Option Addr) (c95 : Nat), Mv (Up N (One t1)) s s98 ∧ RowT (rK .i64) s98 (N + 1) 3 a95 c95 o93.1 ∧ RowT rB s98 t1 4 a3 c3 o93.2 ∧ e = [(6, .slice a95 o93.1.length c95)] ∧ w = s98.w) ?_ ?_
 ·rintro _ _ ⟨s98, a95, c95, m0, h95, h3, rfl, rfl⟩
  refine X.blkE (X.seqN (E.seq (E.reg (L.mv Wt.no rfl rfl (L.as Wt.no rfl rfl (L.nil (X.seqN (E.ret ?_))))))))
  obtain rfl := Option.some.inj hm
  exact X.rt (.inl rfl) Try.results55 (Rs.tmp rfl Rs.nil) rfl ⟨_, (s98).ren N (fun k => cond (Nat.beq k 1) u0 (0)), rfl, rfl, m0.ren hNb, ⟨a95, c95, rfl, (h95.ren hN), (h3.renV hN lt1)⟩⟩
 intro K99
 refine E.iter (fun (st93 : Int × Bool × List Int × List Bool) (e : List (Nat × Value)) (w : World) => ∃ (s97 : Sig) (a15 : Option Addr) (c15 : Nat), Mv (Up N (One t1)) s s97 ∧ RowT (rK .i64) s97 (N + 1) 3 a15 c15 st93.2.2.1 ∧ RdL (rP (rK .i64) (rP rStr (rP (rF2 Try.prog (fun (x0 : Bool) (x1 : Bool) => [.bool x0, .bool x1]) (fun (r : Bool) => .bool r)) (rP (rF2 Try.prog (fun (x0 : Bool) (x1 : Bool) => [.bool x0, .bool x1]) (fun (r : Bool) => .bool r)) (rF1 Try.prog (fun (x0 : Bool) => [.bool x0]) (fun (r : Bool) => .bool r)))))) s97 a11 c11 r8 ∧ RowT rB s97 t1 4 a3 c3 st93.2.2.2 ∧ RdL rB s97 a1 c1 p0.2.2.2.1 ∧ RdL (rP (rK .i64) (rK .i64)) s97 a2 c2 p0.2.2.2.2 ∧ Bx s97 (N + 0) b5 #[.int .i64 p0.1, .int .i64 p0.2.1, .int .i64 p0.2.2.1, .slice a1 p0.2.2.2.1.length c1, .slice a2 p0.2.2.2.2.length c2] 32 ∧ e = [(8, .int .i64 st93.1), (7, .bool st93.2.1), (6, .slice a15 st93.2.2.1.length c15), (5, .slice a11 r8.length c11), (2, .pointer (some ⟨b5, 0, none⟩)), (1, .slice a3 st93.2.2.2.length c3)] ∧ w = s97.w) eo93 ⟨s9, none, 0, m0, RowT.nil, h11, h3, h1, h2, bx5, rfl, rfl⟩ (Sub.rf rfl) ?_
 rintro st93 res93 hm ih93 ho93 _ _ ⟨s97, a15, c15, m0, h15, h11, h3, h1, h2, bx5, rfl, rfl⟩
 unfold m_instruction_scan_l1 at hm
 refine E.seq (E.seq (E.reg (L.mv Wt.no rfl rfl (L.fa fa32_4 Wt.no rfl rfl (L.ld (j := 4) bx5.mem nag30 Wt.no rfl rfl rfl rfl (L.len sl30 Wt.no rfl rfl (L.bi Wt.no rfl rfl rfl rfl (L.nil (X.seqN ?_)))))))))
 rcases ifS hm with ⟨hc, hm⟩ | ⟨hc, hm⟩
 ·refine E.cT rfl hc (E.skip (X.seqN (E.block (E.seq (E.reg (L.mv Wt.no rfl rfl (L.mv Wt.no rfl rfl (L.bsE (k := 1) (cs := [.int .i64 st93.1]) 0 bs23 (Nat.le_of_ble_eq_true rfl) Wt.no rfl rfl rfl rfl fun b100 s101 m102 bx100 => ?_))))))))
  replace m0 := m0.trans m102.no
  replace h3 := h3.mv m102 no_No no_No
  replace h15 := h15.mv m102 no_No no_No
  replace h11 := h11.mono (m102.le no_No)
  replace bx5 := bx5.mv m102 no_No
  replace h1 := h1.mono (m102.le no_No)
  replace h2 := h2.mono (m102.le no_No)
  have h100 := Bx.rdL (r := (rK .i64)) (xs := ([st93.1] : List Int)) bx100 ⟨[.int .i64 st93.1], _, rfl, rfl, rfl⟩ (Nat.le_of_ble_eq_true rfl)
  obtain ⟨x103, ex103, hm⟩ := bindS hm
  refine L.ap (r := (rK .i64)) Try.underlying23 el3 rfl (tgp hN) h15 h100.wk Wt.no rfl rfl ex103 rfl fun a104 c104 s105 m106 h104 => ?_
  replace m0 := m0.trans (m106.one up)
  replace h3 := h3.mv m106 (tgV lt1) (tg0 hN)
  replace h11 := h11.mono (m106.le (tg0 hN))
  replace bx5 := bx5.mv m106 (tgN (by decide))
  replace h1 := h1.mono (m106.le (tg0 hN))
  replace h2 := h2.mono (m106.le (tg0 hN))
  refine L.as Wt.no rfl rfl (L.nil (X.seqN (E.seq (E.reg (L.fa fa32_4 Wt.no rfl rfl (L.ld (j := 4) bx5.mem nag30 Wt.no rfl rfl rfl rfl (L.mv Wt.no rfl rfl ?_)))))))
  obtain ⟨x107, ex107, hm⟩ := bindS hm
  refine L.ix (r := (rP (rK .i64) (rK .i64))) sl30 h2 Wt.no rfl rfl ex107 rfl fun b108 o108 cc108 me108 rd108 => ?_
  obtain ⟨_, _, rfl, rfl, rfl⟩ := rd108
  refine L.lg (j := 0) (cs := [.int .i64 x107.1, .int .i64 x107.2]) me108 ag119 Wt.no rfl rfl rfl rfl rfl (L.al (N + 2) zz119 rfl Wt.no rfl fun b109 s110 m111 bx109 => ?_)
  replace m0 := m0.trans m111.no
  replace h3 := h3.mv m111 no_No no_No
  replace h11 := h11.mono (m111.le no_No)
  replace h104 := h104.mv m111 no_No no_No
  replace bx5 := bx5.mv m111 no_No
  replace h1 := h1.mono (m111.le no_No)
  replace h2 := h2.mono (m111.le no_No)
  refine L.st (c := [.int .i64 x107.1, .int .i64 x107.2]) (cs' := #[.int .i64 x107.1, .int .i64 x107.2]) bx109 ag119.sz Wt.no rfl rfl rfl rfl rfl (Nat.le_of_ble_eq_true rfl) rfl fun s112 m113 bx109 => ?_
  replace m0 := m0.trans (m113.one up)
  replace h3 := h3.mv m113 (tgV lt1) (tg0 hN)
  replace h11 := h11.mono (m113.le (tg0 hN))
  replace h104 := h104.mv m113 (tgN (by decide)) (tg0 hN)
  replace bx5 := bx5.mv m113 (tgN (by decide))
  replace h1 := h1.mono (m113.le (tg0 hN))
  replace h2 := h2.mono (m113.le (tg0 hN))
  refine L.nil (X.seqN (E.seq (E.reg (L.mv Wt.no rfl rfl (L.fa fa119_0 Wt.no rfl rfl (L.ld (j := 0) bx109.mem nag3 Wt.no rfl rfl rfl rfl (L.bi Wt.no rfl rfl rfl rfl ?_)))))))
  obtain ⟨x114, ex114, hm⟩ := bindS hm
  refine L.ix (r := (rP (rK .i64) (rP rStr (rP (rF2 Try.prog (fun (x0 : Bool) (x1 : Bool) => [.bool x0, .bool x1]) (fun (r : Bool) => .bool r)) (rP (rF2 Try.prog (fun (x0 : Bool) (x1 : Bool) => [.bool x0, .bool x1]) (fun (r : Bool) => .bool r)) (rF1 Try.prog (fun (x0 : Bool) => [.bool x0]) (fun (r : Bool) => .bool r))))))) sl124 h11 Wt.no rfl rfl ex114 rfl fun b115 o115 cc115 me115 rd115 => ?_
  obtain ⟨_, _, rfl, rfl, ⟨_, _, rfl, rfl, ⟨_, _, rfl, ⟨v116, rfl, h116⟩, ⟨_, _, rfl, ⟨v117, rfl, h117⟩, ⟨v118, rfl, h118⟩⟩⟩⟩⟩ := rd115
  refine L.lg (j := 0) (cs := [.int .i64 x114.1, .string x114.2.1, v116, v117, v118]) me115 ag129 Wt.no rfl rfl rfl rfl rfl (L.al (N + 3) zz129 rfl Wt.no rfl fun b119 s120 m121 bx119 => ?_)
  replace m0 := m0.trans m121.no
  replace h3 := h3.mv m121 no_No no_No
  replace h11 := h11.mono (m121.le no_No)
  replace h104 := h104.mv m121 no_No no_No
  replace h116 := h116.mono (m121.le no_No)
  replace h117 := h117.mono (m121.le no_No)
  replace h118 := h118.mono (m121.le no_No)
  replace bx5 := bx5.mv m121 no_No
  replace h1 := h1.mono (m121.le no_No)
  replace h2 := h2.mono (m121.le no_No)
  replace bx109 := bx109.mv m121 no_No
  refine L.st (c := [.int .i64 x114.1, .string x114.2.1, v116, v117, v118]) (cs' := #[.int .i64 x114.1, .string x114.2.1, v116, v117, v118]) bx119 ag129.sz Wt.no rfl rfl rfl rfl (oneC rfl (oneC rfl (oneC h116.one (oneC h117.one (oneC h118.one rfl))))) (Nat.le_of_ble_eq_true rfl) rfl fun s122 m123 bx119 => ?_
  replace m0 := m0.trans (m123.one up)
  replace h3 := h3.mv m123 (tgV lt1) (tg0 hN)
  replace h11 := h11.mono (m123.le (tg0 hN))
  replace h104 := h104.mv m123 (tgN (by decide)) (tg0 hN)
  replace bx5 := bx5.mv m123 (tgN (by decide))
  replace h1 := h1.mono (m123.le (tg0 hN))
  replace h2 := h2.mono (m123.le (tg0 hN))
  replace bx109 := bx109.mv m123 (tgN (by decide))
  replace h116 := h116.mono (m123.le (tg0 hN))
  replace h117 := h117.mono (m123.le (tg0 hN))
  replace h118 := h118.mono (m123.le (tg0 hN))
  refine L.nil (X.seqN (E.seq (E.reg (L.mv Wt.no rfl rfl (L.bi Wt.no rfl rfl rfl rfl (L.as Wt.no rfl rfl (L.nil (X.seqN (E.block (E.seq (E.reg (L.fa fa129_2 Wt.no rfl rfl (L.ld (j := 2) bx119.mem nag126 Wt.no rfl rfl rfl rfl (L.fne2 Try.underlying126 h116 Wt.no rfl rfl rfl (L.as Wt.no rfl rfl (L.nil (X.seqN ?_)))))))))))))))))
  rcases ifS hm with ⟨hc, hm⟩ | ⟨hc, hm⟩
  ·refine E.cT rfl hc ?_
   obtain ⟨x131, ex131, hm⟩ := bindS hm
   obtain ⟨f135, ef135, hm⟩ := bindS hm
   obtain ⟨r136, er136, hm⟩ := bindS hm
   refine E.draw [[], [0], [], [], [], [4], [3, 4, 5], [3, 4, 5, 6], [0, 1, 2, 3, 4, 5, 6, 7], [0, 1, 2, 3, 4, 5, 6, 7, 8]] (fun D e sx => Mv No s122 sx ∧ Sub [(8, .int .i64 (W (st93.1 + 1))), (10, .pointer (some ⟨b119, 0, none⟩)), (9, .pointer (some ⟨b109, 0, none⟩)), (6, .slice a104 x103.length c104), (5, .slice a11 r8.length c11), (2, .pointer (some ⟨b5, 0, none⟩)), (1, .slice a3 st93.2.2.2.length c3)] e ∧ (D 9 = false → Env.get e 7 = some (.bool st93.2.1)) ∧ (D 0 = true → (Env.get e 38 = some (.pointer (some ⟨b119, 2, none⟩)))) ∧ (D 1 = true → (Env.get e 39 = some v116)) ∧ (D 2 = true → (Env.get e 40 = some (.bool st93.2.1))) ∧ (D 3 = true → (Env.get e 41 = some (.slice a3 st93.2.2.2.length c3))) ∧ (D 4 = true → (Env.get e 42 = some (.pointer (some ⟨b109, 1, none⟩)))) ∧ (D 5 = true → (Env.get e 43 = some (.int .i64 x107.2))) ∧ (D 6 = true → (∃ (b132 : Nat) (o132 : Nat), Env.get e 44 = some (.pointer (some ⟨b132, o132, none⟩)) ∧ Mem sx t1 b132 o132 [.bool x131] ∧ Spot a3 rB.sz (x107.2).toNat b132 o132)) ∧ (D 7 = true → (Env.get e 45 = some (.bool x131))) ∧ (D 8 = true → (Env.get e 46 = some (.bool r136))) ∧ (D 9 = true → (Env.get e 7 = some (.bool r136)))) (by kernel_rfl) (by kernel_rfl) (by kernel_rfl) ?_ ?_ ?_
   ·intro sz mz
    exact ⟨mz, (Sub.rf rfl), fun _ => rfl, nofun, nofun, nofun, nofun, nofun, nofun, nofun, nofun, nofun, nofun⟩
   ·refine ⟨?_, ?_, ?_, ?_, ?_, ?_, ?_, ?_, ?_, ?_, trivial⟩
    ·rintro D e s124 ⟨im, ib, i0, i1, t_⟩ hk hf ha
     have kn : Kn e [(10, .pointer (some ⟨b119, 0, none⟩))] := ⟨(ib 10 _ rfl), trivial⟩
     exact L.kns _ kn (L.fa fa129_2 Wt.no rfl rfl (L.nil (X.dk kn ⟨im, Sub.fresh ib rfl, i0, fun _ => rfl, t_⟩)))
    ·rintro D e s125 ⟨im, ib, i0, i1, i2, t_⟩ hk hf ha
     obtain ⟨d0, -⟩ := ha
     have g0_ := i1 d0
     have bx119 := bx119.mv im no_No
     have kn : Kn e [(38, .pointer (some ⟨b119, 2, none⟩))] := ⟨g0_, trivial⟩
     exact L.kns _ kn (L.ld (j := 2) bx119.mem nag126 Wt.no rfl rfl rfl rfl (L.nil (X.dk kn ⟨im, Sub.fresh ib rfl, i0, i1, fun _ => rfl, t_⟩)))
    ·rintro D e s126 ⟨im, ib, i0, i1, i2, i3, t_⟩ hk hf ha
     have kn : Kn e [(7, .bool st93.2.1)] := ⟨(i0 (hf 9 (Nat.le_of_ble_eq_true rfl) rfl)), trivial⟩
     exact L.kns _ kn (L.mv Wt.no rfl rfl (L.nil (X.dk kn ⟨im, Sub.fresh ib rfl, i0, i1, i2, fun _ => rfl, t_⟩)))
    ·rintro D e s127 ⟨im, ib, i0, i1, i2, i3, i4, t_⟩ hk hf ha
     have kn : Kn e [(1, .slice a3 st93.2.2.2.length c3)] := ⟨(ib 1 _ rfl), trivial⟩
     exact L.kns _ kn (L.mv Wt.no rfl rfl (L.nil (X.dk kn ⟨im, Sub.fresh ib rfl, i0, i1, i2, i3, fun _ => rfl, t_⟩)))
    ·rintro D e s128 ⟨im, ib, i0, i1, i2, i3, i4, i5, t_⟩ hk hf ha
     have kn : Kn e [(9, .pointer (some ⟨b109, 0, none⟩))] := ⟨(ib 9 _ rfl), trivial⟩
     exact L.kns _ kn (L.fa fa119_1 Wt.no rfl rfl (L.nil (X.dk kn ⟨im, Sub.fresh ib rfl, i0, i1, i2, i3, i4, fun _ => rfl, t_⟩)))
    ·rintro D e s129 ⟨im, ib, i0, i1, i2, i3, i4, i5, i6, t_⟩ hk hf ha
     obtain ⟨d4, -⟩ := ha
     have g4_ := i5 d4
     have bx109 := bx109.mv im no_No
     have kn : Kn e [(42, .pointer (some ⟨b109, 1, none⟩))] := ⟨g4_, trivial⟩
     exact L.kns _ kn (L.ld (j := 1) bx109.mem nag3 Wt.no rfl rfl rfl rfl (L.nil (X.dk kn ⟨im, Sub.fresh ib rfl, i0, i1, i2, i3, i4, i5, fun _ => rfl, t_⟩)))
    ·rintro D e s130 ⟨im, ib, i0, i1, i2, i3, i4, i5, i6, i7, t_⟩ hk hf ha
     obtain ⟨d3, d4, d5, -⟩ := ha
     have g3_ := i4 d3
     have g5_ := i6 d5
     have h3 := h3.mv im no_No no_No
     have kn : Kn e [(41, .slice a3 st93.2.2.2.length c3), (43, .int .i64 x107.2)] := ⟨g3_, g5_, trivial⟩
     refine L.kns _ kn (L.ir (r := rB) sl29 h3 Wt.no rfl rfl ex131 rfl fun b132 o132 cc132 me132 rd132 sp132 => ?_)
     obtain rfl := rd132
     exact L.nil (X.dk kn ⟨im, Sub.fresh ib rfl, i0, i1, i2, i3, i4, i5, i6, fun _ => ⟨b132, o132, rfl, me132, sp132⟩, t_⟩)
    ·rintro D e s133 ⟨im, ib, i0, i1, i2, i3, i4, i5, i6, i7, i8, t_⟩ hk hf ha
     obtain ⟨d3, d4, d5, d6, -⟩ := ha
     obtain ⟨b132, o132, g6_, me132, sp132⟩ := i7 d6
     have kn : Kn e [(44, .pointer (some ⟨b132, o132, none⟩))] := ⟨g6_, trivial⟩
     exact L.kns _ kn (L.ld (j := 0) me132 nag4 Wt.no rfl rfl rfl rfl (L.nil (X.dk kn ⟨im, Sub.fresh ib rfl, i0, i1, i2, i3, i4, i5, i6, i7, fun _ => rfl, t_⟩)))
    ·rintro D e s134 ⟨im, ib, i0, i1, i2, i3, i4, i5, i6, i7, i8, i9, i10⟩ hk hf ha
     obtain ⟨d0, d1, d2, d3, d4, d5, d6, d7, -⟩ := ha
     have g1_ := i2 d1
     have g2_ := i3 d2
     have g7_ := i8 d7
     have h116 := h116.mono (im.le no_No)
     have kn : Kn e [(39, v116), (40, .bool st93.2.1), (45, .bool x131)] := ⟨g1_, g2_, g7_, trivial⟩
     refine L.kns _ kn ?_
     have hf135 := FO2.some h116 ef135
     exact L.fv2 (y := st93.2.1) (z := x131) hf135 rfl rfl Wt.no rfl rfl er136 rfl fun s137 m138 => L.nil (X.dk kn ⟨im.trans m138.no, Sub.fresh ib rfl, i0, i1, i2, i3, i4, i5, i6, fun z => let ⟨b132, o132, q, me132, sp132⟩ := i7 z; ⟨b132, o132, q, (me132.mv m138 no_No), sp132⟩, i8, fun _ => rfl, i10⟩)
    ·rintro D e s139 ⟨im, ib, i0, i1, i2, i3, i4, i5, i6, i7, i8, i9, i10⟩ hk hf ha
     obtain ⟨d0, d1, d2, d3, d4, d5, d6, d7, d8, -⟩ := ha
     have g8_ := i9 d8
     have kn : Kn e [(46, .bool r136)] := ⟨g8_, trivial⟩
     exact L.kns _ kn (L.as Wt.no rfl rfl (L.nil (X.dk kn ⟨im, Sub.fresh ib rfl, fun z => Bool.noConfusion (show true = false from z), i1, i2, i3, i4, i5, i6, i7, i8, i9, fun _ => rfl⟩)))
   ·rintro D e s140 hD ⟨im, ib, i0, i1, i2, i3, i4, i5, i6, i7, i8, i9, i10⟩
    have g9_ := i10 (hD 9 rfl)
    have h104 := h104.mv im no_No no_No
    have h11 := h11.mono (im.le no_No)
    have bx5 := bx5.mv im no_No
    have h1 := h1.mono (im.le no_No)
    have h2 := h2.mono (im.le no_No)
    have h3 := h3.mv im no_No no_No
    have m0 := m0.trans im.no
    refine X.sub (e' := [(7, .bool r136), (8, .int .i64 (W (st93.1 + 1))), (6, .slice a104 x103.length c104), (5, .slice a11 r8.length c11), (2, .pointer (some ⟨b5, 0, none⟩)), (1, .slice a3 st93.2.2.2.length c3)]) ?_ (Sub.cons g9_ (Sub.cons (ib 8 _ rfl) (Sub.cons (ib 6 _ rfl) (Sub.cons (ib 5 _ rfl) (Sub.cons (ib 2 _ rfl) (Sub.cons (ib 1 _ rfl) Sub.nil))))))
    exact X.blkN (X.blkN (X.sub (ih93 _ (Option.some.inj hm).symm _ _ ⟨s140, a104, c104, m0, h104, h11, h3, h1, h2, bx5, rfl, rfl⟩) (Sub.rf rfl)))
  ·refine E.cF rfl hc (E.seq (E.reg (L.fa fa129_3 Wt.no rfl rfl (L.ld (j := 3) bx119.mem nag126 Wt.no rfl rfl rfl rfl (L.fne2 Try.underlying126 h117 Wt.no rfl rfl rfl (L.as Wt.no rfl rfl (L.nil (X.seqN ?_))))))))
   rcases ifS hm with ⟨hc, hm⟩ | ⟨hc, hm⟩
   ·refine E.cT rfl hc ?_
    obtain ⟨x151, ex151, hm⟩ := bindS hm
    obtain ⟨f155, ef155, hm⟩ := bindS hm
    obtain ⟨r156, er156, hm⟩ := bindS hm
    obtain ⟨x160, ex160, hm⟩ := bindS hm
    obtain ⟨x163, ex163, hm⟩ := bindS hm
    have elx163 := upd_len ex163
    refine E.draw [[], [], [1], [], [3], [], [], [], [7], [6, 7, 8], [6, 7, 8, 9], [3, 4, 5, 6, 7, 8, 9, 10], [0, 1, 2, 3, 4, 5, 6, 7, 8, 9, 10, 11], [0, 1, 2, 3, 4, 5, 6, 7, 8, 9, 10, 11, 12]] (fun D e sx => Mv (One t1) s122 sx ∧ Sub [(8, .int .i64 (W (st93.1 + 1))), (10, .pointer (some ⟨b119, 0, none⟩)), (9, .pointer (some ⟨b109, 0, none⟩)), (6, .slice a104 x103.length c104), (7, .bool st93.2.1), (5, .slice a11 r8.length c11), (2, .pointer (some ⟨b5, 0, none⟩)), (1, .slice a3 st93.2.2.2.length c3)] e ∧ (D 0 = true → (Env.get e 51 = some (.slice a3 st93.2.2.2.length c3))) ∧ (D 1 = true → (Env.get e 52 = some (.pointer (some ⟨b109, 1, none⟩)))) ∧ (D 2 = true → (Env.get e 53 = some (.int .i64 x107.2))) ∧ (D 3 = true → (Env.get e 54 = some (.pointer (some ⟨b119, 3, none⟩)))) ∧ (D 4 = true → (Env.get e 55 = some v117)) ∧ (D 5 = true → (Env.get e 56 = some (.bool st93.2.1))) ∧ (D 6 = true → (Env.get e 57 = some (.slice a3 st93.2.2.2.length c3))) ∧ (D 7 = true → (Env.get e 58 = some (.pointer (some ⟨b109, 1, none⟩)))) ∧ (D 8 = true → (Env.get e 59 = some (.int .i64 x107.2))) ∧ (D 9 = true → (∃ (b152 : Nat) (o152 : Nat), Env.get e 60 = some (.pointer (some ⟨b152, o152, none⟩)) ∧ Spot a3 rB.sz (x107.2).toNat b152 o152)) ∧ (D 10 = true → (Env.get e 61 = some (.bool x151))) ∧ (D 11 = true → (Env.get e 62 = some (.bool r156))) ∧ (D 12 = true → (∃ (b161 : Nat) (o161 : Nat), Env.get e 63 = some (.pointer (some ⟨b161, o161, none⟩)) ∧ Spot a3 rB.sz (x107.2).toNat b161 o161)) ∧ (D 13 = false → RowT rB sx t1 4 a3 c3 st93.2.2.2) ∧ (D 13 = true → RowT rB sx t1 4 a3 c3 x163) ∧ (D 9 = true → D 13 = false → ∀ (b152 : Nat) (o152 : Nat), Env.get e 60 = some (.pointer (some ⟨b152, o152, none⟩)) → Mem sx t1 b152 o152 [.bool x151]) ∧ (D 12 = true → D 13 = false → ∀ (b161 : Nat) (o161 : Nat), Env.get e 63 = some (.pointer (some ⟨b161, o161, none⟩)) → Mem sx t1 b161 o161 [.bool x160])) (by kernel_rfl) (by kernel_rfl) (by kernel_rfl) ?_ ?_ ?_
    ·intro sz mz
     exact ⟨mz.no, (Sub.rf rfl), nofun, nofun, nofun, nofun, nofun, nofun, nofun, nofun, nofun, nofun, nofun, nofun, nofun, fun _ => h3.mv mz no_No no_No, nofun, nofun, nofun⟩
    ·refine ⟨?_, ?_, ?_, ?_, ?_, ?_, ?_, ?_, ?_, ?_, ?_, ?_, ?_, ?_, trivial⟩
     ·rintro D e s141 ⟨im, ib, i0, t_⟩ hk hf ha
      have kn : Kn e [(1, .slice a3 st93.2.2.2.length c3)] := ⟨(ib 1 _ rfl), trivial⟩
      exact L.kns _ kn (L.mv Wt.no rfl rfl (L.nil (X.dk kn ⟨im, Sub.fresh ib rfl, fun _ => rfl, t_⟩)))
     ·rintro D e s142 ⟨im, ib, i0, i1, t_⟩ hk hf ha
      have kn : Kn e [(9, .pointer (some ⟨b109, 0, none⟩))] := ⟨(ib 9 _ rfl), trivial⟩
      exact L.kns _ kn (L.fa fa119_1 Wt.no rfl rfl (L.nil (X.dk kn ⟨im, Sub.fresh ib rfl, i0, fun _ => rfl, t_⟩)))
     ·rintro D e s143 ⟨im, ib, i0, i1, i2, t_⟩ hk hf ha
      obtain ⟨d1, -⟩ := ha
      have g1_ := i1 d1
      have bx109 := bx109.mv im (tgW lt1)
      have kn : Kn e [(52, .pointer (some ⟨b109, 1, none⟩))] := ⟨g1_, trivial⟩
      exact L.kns _ kn (L.ld (j := 1) bx109.mem nag3 Wt.no rfl rfl rfl rfl (L.nil (X.dk kn ⟨im, Sub.fresh ib rfl, i0, i1, fun _ => rfl, t_⟩)))
     ·rintro D e s144 ⟨im, ib, i0, i1, i2, i3, t_⟩ hk hf ha
      have kn : Kn e [(10, .pointer (some ⟨b119, 0, none⟩))] := ⟨(ib 10 _ rfl), trivial⟩
      exact L.kns _ kn (L.fa fa129_3 Wt.no rfl rfl (L.nil (X.dk kn ⟨im, Sub.fresh ib rfl, i0, i1, i2, fun _ => rfl, t_⟩)))
     ·rintro D e s145 ⟨im, ib, i0, i1, i2, i3, i4, t_⟩ hk hf ha
      obtain ⟨d3, -⟩ := ha
      have g3_ := i3 d3
      have bx119 := bx119.mv im (tgW lt1)
      have kn : Kn e [(54, .pointer (some ⟨b119, 3, none⟩))] := ⟨g3_, trivial⟩
      exact L.kns _ kn (L.ld (j := 3) bx119.mem nag126 Wt.no rfl rfl rfl rfl (L.nil (X.dk kn ⟨im, Sub.fresh ib rfl, i0, i1, i2, i3, fun _ => rfl, t_⟩)))
     ·rintro D e s146 ⟨im, ib, i0, i1, i2, i3, i4, i5, t_⟩ hk hf ha
      have kn : Kn e [(7, .bool st93.2.1)] := ⟨(ib 7 _ rfl), trivial⟩
      exact L.kns _ kn (L.mv Wt.no rfl rfl (L.nil (X.dk kn ⟨im, Sub.fresh ib rfl, i0, i1, i2, i3, i4, fun _ => rfl, t_⟩)))
     ·rintro D e s147 ⟨im, ib, i0, i1, i2, i3, i4, i5, i6, t_⟩ hk hf ha
      have kn : Kn e [(1, .slice a3 st93.2.2.2.length c3)] := ⟨(ib 1 _ rfl), trivial⟩
      exact L.kns _ kn (L.mv Wt.no rfl rfl (L.nil (X.dk kn ⟨im, Sub.fresh ib rfl, i0, i1, i2, i3, i4, i5, fun _ => rfl, t_⟩)))
     ·rintro D e s148 ⟨im, ib, i0, i1, i2, i3, i4, i5, i6, i7, t_⟩ hk hf ha
      have kn : Kn e [(9, .pointer (some ⟨b109, 0, none⟩))] := ⟨(ib 9 _ rfl), trivial⟩
      exact L.kns _ kn (L.fa fa119_1 Wt.no rfl rfl (L.nil (X.dk kn ⟨im, Sub.fresh ib rfl, i0, i1, i2, i3, i4, i5, i6, fun _ => rfl, t_⟩)))
     ·rintro D e s149 ⟨im, ib, i0, i1, i2, i3, i4, i5, i6, i7, i8, t_⟩ hk hf ha
      obtain ⟨d7, -⟩ := ha
      have g7_ := i7 d7
      have bx109 := bx109.mv im (tgW lt1)
      have kn : Kn e [(58, .pointer (some ⟨b109, 1, none⟩))] := ⟨g7_, trivial⟩
      exact L.kns _ kn (L.ld (j := 1) bx109.mem nag3 Wt.no rfl rfl rfl rfl (L.nil (X.dk kn ⟨im, Sub.fresh ib rfl, i0, i1, i2, i3, i4, i5, i6, i7, fun _ => rfl, t_⟩)))
     ·rintro D e s150 ⟨im, ib, i0, i1, i2, i3, i4, i5, i6, i7, i8, i9, i10, i11, i12, i13, i14, i15, i16⟩ hk hf ha
      obtain ⟨d6, d7, d8, -⟩ := ha
      have g6_ := i6 d6
      have g8_ := i8 d8
      obtain h3 := i13 (hf 13 (Nat.le_of_ble_eq_true rfl) rfl)
      have kn : Kn e [(57, .slice a3 st93.2.2.2.length c3), (59, .int .i64 x107.2)] := ⟨g6_, g8_, trivial⟩
      refine L.kns _ kn (L.ir (r := rB) sl29 h3 Wt.no rfl rfl ex151 rfl fun b152 o152 cc152 me152 rd152 sp152 => ?_)
      obtain rfl := rd152
      exact L.nil (X.dk kn ⟨im, Sub.fresh ib rfl, i0, i1, i2, i3, i4, i5, i6, i7, i8, fun _ => ⟨b152, o152, rfl, sp152⟩, i10, i11, i12, i13, i14, fun _ _ _ _ q9 => by cases (show some (.pointer (some ⟨b152, o152, none⟩) : Value) = some _ from q9); exact me152, i16⟩)
     ·rintro D e s153 ⟨im, ib, i0, i1, i2, i3, i4, i5, i6, i7, i8, i9, i10, i11, i12, i13, i14, i15, i16⟩ hk hf ha
      obtain ⟨d6, d7, d8, d9, -⟩ := ha
      obtain ⟨b152, o152, g9_, sp152⟩ := i9 d9
      have me152 := i15 d9 (hf 13 (Nat.le_of_ble_eq_true rfl) rfl) b152 o152 g9_
      have kn : Kn e [(60, .pointer (some ⟨b152, o152, none⟩))] := ⟨g9_, trivial⟩
      exact L.kns _ kn (L.ld (j := 0) me152 nag4 Wt.no rfl rfl rfl rfl (L.nil (X.dk kn ⟨im, Sub.fresh ib rfl, i0, i1, i2, i3, i4, i5, i6, i7, i8, i9, fun _ => rfl, i11, i12, i13, i14, i15, i16⟩)))
     ·rintro D e s154 ⟨im, ib, i0, i1, i2, i3, i4, i5, i6, i7, i8, i9, i10, i11, i12, i13, i14, i15, i16⟩ hk hf ha
      obtain ⟨d3, d4, d5, d6, d7, d8, d9, d10, -⟩ := ha
      have g4_ := i4 d4
      have g5_ := i5 d5
      have g10_ := i10 d10
      have h117 := h117.mono (im.le (tgz zt1))
      have kn : Kn e [(55, v117), (56, .bool st93.2.1), (61, .bool x151)] := ⟨g4_, g5_, g10_, trivial⟩
      refine L.kns _ kn ?_
      have hf155 := FO2.some h117 ef155
      exact L.fv2 (y := st93.2.1) (z := x151) hf155 rfl rfl Wt.no rfl rfl er156 rfl fun s157 m158 => L.nil (X.dk kn ⟨im.trans m158.no, Sub.fresh ib rfl, i0, i1, i2, i3, i4, i5, i6, i7, i8, fun z => let ⟨b152, o152, q, sp152⟩ := i9 z; ⟨b152, o152, q, sp152⟩, i10, fun _ => rfl, fun z => let ⟨b161, o161, q, sp161⟩ := i12 z; ⟨b161, o161, q, sp161⟩, fun z2 => ((i13 z2).mv m158 no_No no_No), fun z => ((i14 z).mv m158 no_No no_No), fun z y13 b152 o152 q9 => ((i15 z y13 b152 o152 q9).mv m158 no_No), fun z y13 b161 o161 q12 => ((i16 z y13 b161 o161 q12).mv m158 no_No)⟩)
     ·rintro D e s159 ⟨im, ib, i0, i1, i2, i3, i4, i5, i6, i7, i8, i9, i10, i11, i12, i13, i14, i15, i16⟩ hk hf ha
      obtain ⟨d0, d1, d2, d3, d4, d5, d6, d7, d8, d9, d10, d11, -⟩ := ha
      have g0_ := i0 d0
      have g2_ := i2 d2
      obtain h3 := i13 (hf 13 (Nat.le_of_ble_eq_true rfl) rfl)
      have kn : Kn e [(51, .slice a3 st93.2.2.2.length c3), (53, .int .i64 x107.2)] := ⟨g0_, g2_, trivial⟩
      refine L.kns _ kn (L.ir (r := rB) sl29 h3 Wt.no rfl rfl ex160 rfl fun b161 o161 cc161 me161 rd161 sp161 => ?_)
      obtain rfl := rd161
      exact L.nil (X.dk kn ⟨im, Sub.fresh ib rfl, i0, i1, i2, i3, i4, i5, i6, i7, i8, i9, i10, i11, fun _ => ⟨b161, o161, rfl, sp161⟩, i13, i14, i15, fun _ _ _ _ q12 => by cases (show some (.pointer (some ⟨b161, o161, none⟩) : Value) = some _ from q12); exact me161⟩)
     ·rintro D e s162 ⟨im, ib, i0, i1, i2, i3, i4, i5, i6, i7, i8, i9, i10, i11, i12, i13, i14, i15, i16⟩ hk hf ha
      obtain ⟨d0, d1, d2, d3, d4, d5, d6, d7, d8, d9, d10, d11, d12, -⟩ := ha
      have g11_ := i11 d11
      obtain ⟨b161, o161, g12_, sp161⟩ := i12 d12
      obtain h3 := i13 hk
      have kn : Kn e [(63, .pointer (some ⟨b161, o161, none⟩)), (62, .bool r156)] := ⟨g12_, g11_, trivial⟩
      exact L.kns _ kn (L.su (fo := 0) (c := [.bool r156]) (z := r156) h3 sp161 ex160 ex163 (tgpV zt1) nag4.sz Wt.no rfl rfl rfl rfl rfl rfl (fun c0 hc0 => by obtain rfl := hc0; exact rfl) fun s164 m165 h3 => L.nil (X.dn kn ⟨im.trans (m165.one rfl), ib, i0, i1, i2, i3, i4, i5, i6, i7, i8, fun z => let ⟨b152, o152, q, sp152⟩ := i9 z; ⟨b152, o152, q, sp152⟩, i10, i11, fun z => let ⟨b161, o161, q, sp161⟩ := i12 z; ⟨b161, o161, q, sp161⟩, fun z => Bool.noConfusion (show true = false from z), fun _ => by exact h3, fun _ y13 => Bool.noConfusion (show true = false from y13), fun _ y13 => Bool.noConfusion (show true = false from y13)⟩))
    ·rintro D e s166 hD ⟨im, ib, i0, i1, i2, i3, i4, i5, i6, i7, i8, i9, i10, i11, i12, i13, i14, i15, i16⟩
     obtain h3 := i14 (hD 13 rfl)
     have h104 := h104.mv im (tgW lt1) (tgz zt1)
     have h11 := h11.mono (im.le (tgz zt1))
     have bx5 := bx5.mv im (tgW lt1)
     have h1 := h1.mono (im.le (tgz zt1))
     have h2 := h2.mono (im.le (tgz zt1))
     have m0 := m0.trans (im.one (.inr rfl))
     refine X.sub (e' := [(8, .int .i64 (W (st93.1 + 1))), (6, .slice a104 x103.length c104), (7, .bool st93.2.1), (5, .slice a11 r8.length c11), (2, .pointer (some ⟨b5, 0, none⟩)), (1, .slice a3 st93.2.2.2.length c3)]) ?_ (Sub.cons (ib 8 _ rfl) (Sub.cons (ib 6 _ rfl) (Sub.cons (ib 7 _ rfl) (Sub.cons (ib 5 _ rfl) (Sub.cons (ib 2 _ rfl) (Sub.cons (ib 1 _ rfl) Sub.nil))))))
     exact X.reval (d := 1) rfl elx163 (X.blkN (X.blkN (X.sub (ih93 _ (Option.some.inj hm).symm _ _ ⟨s166, a104, c104, m0, h104, h11, h3, h1, h2, bx5, rfl, rfl⟩) (Sub.rf rfl))))
   ·refine E.cF rfl hc (E.seq (E.reg (L.fa fa129_4 Wt.no rfl rfl (L.ld (j := 4) bx119.mem nag127 Wt.no rfl rfl rfl rfl (L.mv Wt.no rfl rfl ?_)))))
    obtain ⟨f167, ef167, hm⟩ := bindS hm
    have hf167 := FO1.some h118 ef167
    obtain ⟨r168, er168, hm⟩ := bindS hm
    refine L.fv1 (y := st93.2.1) hf167 rfl rfl Wt.no rfl rfl er168 rfl fun s169 m170 => ?_
    replace m0 := m0.trans m170.no
    replace h3 := h3.mv m170 no_No no_No
    replace h11 := h11.mono (m170.le no_No)
    replace h104 := h104.mv m170 no_No no_No
    replace bx5 := bx5.mv m170 no_No
    replace h1 := h1.mono (m170.le no_No)
    replace h2 := h2.mono (m170.le no_No)
    replace bx109 := bx109.mv m170 no_No
    refine L.as Wt.no rfl rfl (L.nil (X.seqN ?_))
    rcases ifS hm with ⟨hc, hm⟩ | ⟨hc, hm⟩
    ·exact E.cT rfl hc (E.reg (L.fa fa119_1 Wt.no rfl rfl (L.ld (j := 1) bx109.mem nag3 Wt.no rfl rfl rfl rfl (L.as Wt.no rfl rfl (L.nil (X.blkN (X.blkN (X.sub (ih93 _ (Option.some.inj hm).symm _ _ ⟨s169, a104, c104, m0, h104, h11, h3, h1, h2, bx5, rfl, rfl⟩) (Sub.rf rfl)))))))))
    ·exact E.cF rfl hc (E.skip (X.blkN (X.blkN (X.sub (ih93 _ (Option.some.inj hm).symm _ _ ⟨s169, a104, c104, m0, h104, h11, h3, h1, h2, bx5, rfl, rfl⟩) (Sub.rf rfl)))))
 ·refine E.cF rfl hc (E.exit (X.seqX (X.seqX ?_)))
  have hx := ho93 _ (Option.some.inj hm).symm
  subst hx
  exact X.sub (K99 _ _ ⟨s97, a15, c15, m0, h15, h3, rfl, rfl⟩) (Sub.rf rfl)

/-- What instruction.state computes. -/
noncomputable def m_instruction_state (p0 : Int × Int × Int × List Bool × (List (Int × Int))) (p1 : List Bool) : Option (List Bool × List Bool) :=
  (slc3 p1 p0.1 (W (p0.1 + p0.2.1)) (W (p0.1 + p0.2.1))).bind fun x18 =>
  (slc3 p1 (W (p0.1 + p0.2.1)) (p1.length : Int) (p1.length : Int)).bind fun x27 =>
  some (x18, x27)
set_option maxRecDepth 100000 in
set_option maxHeartbeats 8000000 in
theorem m_instruction_state_c {s : Sig} {p0 : Int × Int × Int × List Bool × (List (Int × Int))} {p1 : List Bool} {a1 : Option Addr} {c1 : Nat} {a2 : Option Addr} {c2 : Nat} {a3 : Option Addr} {c3 : Nat} {r : (List Bool × List Bool)} (h1 : RdL rB s a1 c1 p0.2.2.2.1) (h2 : RdL (rP (rK .i64) (rK .i64)) s a2 c2 p0.2.2.2.2) (h3 : RdL rB s a3 c3 p1) (hm : m_instruction_state p0 p1 = some r) :
    Calls Try.prog 56 #[.agg #[.int .i64 p0.1, .int .i64 p0.2.1, .int .i64 p0.2.2.1, .slice a1 p0.2.2.2.1.length c1, .slice a2 p0.2.2.2.2.length c2], .slice a3 p1.length c3] s.w (RetS No s fun v s' => ∃ (a4 : Option Addr) (c4 : Nat) (a5 : Option Addr) (c5 : Nat), v = .agg #[.slice a4 r.1.length c4, .slice a5 r.2.length c5] ∧ RdL rB s' a4 c4 r.1 ∧ RdL rB s' a5 c5 r.2) := by
 unfold m_instruction_state at hm
 obtain ⟨N, hN, hNb⟩ := s.fresh
 have m0 : Mv (Up N No) s s := Mv.refl _ _
 refine E.entry Try.func56 rfl Try.ntmps56 rfl rfl (E.seq (E.reg (L.box (N + 0) Wt.no rfl rfl rfl fun b6 s7 m8 bx6 => ?_)))
 replace m0 := m0.trans m8.no
 replace h3 := h3.mono (m8.le no_No)
 refine L.al (N + 1) zz39 rfl Wt.no rfl fun b9 s10 m11 bx9 => ?_
 replace m0 := m0.trans m11.no
 replace h3 := h3.mono (m11.le no_No)
 replace bx6 := bx6.mv m11 no_No
 refine L.nil (X.seqN (E.seq (E.reg (L.fa fa32_0 Wt.no rfl rfl (L.ld (j := 0) bx6.mem nag3 Wt.no rfl rfl rfl rfl (L.fa fa32_1 Wt.no rfl rfl (L.ld (j := 1) bx6.mem nag3 Wt.no rfl rfl rfl rfl (L.bi Wt.no rfl rfl rfl rfl (L.as Wt.no rfl rfl (L.nil (X.seqN (E.seq ?_))))))))))))
 obtain ⟨x18, ex18, hm⟩ := bindS hm
 obtain ⟨x27, ex27, hm⟩ := bindS hm
 refine E.draw [[], [], [1], [], [], [0, 1, 2, 3, 4], [], [], [], [8], [], [10], [6, 7, 8, 9, 10, 11], [0, 1, 2, 3, 4, 5, 6, 7, 8, 9, 10, 11, 12], [0, 1, 2, 3, 4, 5, 6, 7, 8, 9, 10, 11, 12, 13]] (fun D e sx => Mv (One (N + 1)) s10 sx ∧ Sub [(5, .int .i64 (W (p0.1 + p0.2.1))), (4, .pointer (some ⟨b9, 0, none⟩)), (2, .pointer (some ⟨b6, 0, none⟩)), (1, .slice a3 p1.length c3)] e ∧ (D 0 = true → (Env.get e 11 = some (.slice a3 p1.length c3))) ∧ (D 1 = true → (Env.get e 12 = some (.pointer (some ⟨b6, 0, none⟩)))) ∧ (D 2 = true → (Env.get e 13 = some (.int .i64 p0.1))) ∧ (D 3 = true → (Env.get e 14 = some (.int .i64 (W (p0.1 + p0.2.1))))) ∧ (D 4 = true → (Env.get e 15 = some (.int .i64 (W (p0.1 + p0.2.1))))) ∧ (D 5 = true → (∃ (a19 : Option Addr) (c19 : Nat), Env.get e 16 = some (.slice a19 x18.length c19) ∧ RdL rB sx a19 c19 x18)) ∧ (D 6 = true → (Env.get e 17 = some (.slice a3 p1.length c3))) ∧ (D 7 = true → (Env.get e 18 = some (.int .i64 (W (p0.1 + p0.2.1))))) ∧ (D 8 = true → (Env.get e 19 = some (.slice a3 p1.length c3))) ∧ (D 9 = true → (Env.get e 20 = some (.int .i64 (p1.length : Int)))) ∧ (D 10 = true → (Env.get e 21 = some (.slice a3 p1.length c3))) ∧ (D 11 = true → (Env.get e 22 = some (.int .i64 (p1.length : Int)))) ∧ (D 12 = true → (∃ (a28 : Option Addr) (c28 : Nat), Env.get e 23 = some (.slice a28 x27.length c28) ∧ RdL rB sx a28 c28 x27)) ∧ (D 13 = true → ∀ (a19 : Option Addr) (c19 : Nat) (a28 : Option Addr) (c28 : Nat), Env.get e 16 = some (.slice a19 x18.length c19) → Env.get e 23 = some (.slice a28 x27.length c28) → (Env.get e 24 = some (.agg #[.slice a19 x18.length c19, .slice a28 x27.length c28]))) ∧ (D 14 = false → Bx sx (N + 1) b9 #[.slice none 0 0, .slice none 0 0] 39) ∧ (D 14 = true → ∀ (a19 : Option Addr) (c19 : Nat) (a28 : Option Addr) (c28 : Nat), Env.get e 16 = some (.slice a19 x18.length c19) → Env.get e 23 = some (.slice a28 x27.length c28) → Bx sx (N + 1) b9 #[.slice a19 x18.length c19, .slice a28 x27.length c28] 39)) (by kernel_rfl) (by kernel_rfl) (by kernel_rfl) ?_ ?_ ?_
 ·intro sz mz
  exact ⟨mz.no, (Sub.rf rfl), nofun, nofun, nofun, nofun, nofun, nofun, nofun, nofun, nofun, nofun, nofun, nofun, nofun, nofun, fun _ => bx9.mv mz no_No, nofun⟩
 ·refine ⟨?_, ?_, ?_, ?_, ?_, ?_, ?_, ?_, ?_, ?_, ?_, ?_, ?_, ?_, ?_, trivial⟩
  ·rintro D e s12 ⟨im, ib, i0, t_⟩ hk hf ha
   have kn : Kn e [(1, .slice a3 p1.length c3)] := ⟨(ib 1 _ rfl), trivial⟩
   exact L.kns _ kn (L.mv Wt.no rfl rfl (L.nil (X.dk kn ⟨im, Sub.fresh ib rfl, fun _ => rfl, t_⟩)))
  ·rintro D e s13 ⟨im, ib, i0, i1, t_⟩ hk hf ha
   have kn : Kn e [(2, .pointer (some ⟨b6, 0, none⟩))] := ⟨(ib 2 _ rfl), trivial⟩
   exact L.kns _ kn (L.fa fa32_0 Wt.no rfl rfl (L.nil (X.dk kn ⟨im, Sub.fresh ib rfl, i0, fun _ => rfl, t_⟩)))
  ·rintro D e s14 ⟨im, ib, i0, i1, i2, t_⟩ hk hf ha
   obtain ⟨d1, -⟩ := ha
   have g1_ := i1 d1
   have bx6 := bx6.mv im (tgN (by decide))
   have kn : Kn e [(12, .pointer (some ⟨b6, 0, none⟩))] := ⟨g1_, trivial⟩
   exact L.kns _ kn (L.ld (j := 0) bx6.mem nag3 Wt.no rfl rfl rfl rfl (L.nil (X.dk kn ⟨im, Sub.fresh ib rfl, i0, i1, fun _ => rfl, t_⟩)))
  ·rintro D e s15 ⟨im, ib, i0, i1, i2, i3, t_⟩ hk hf ha
   have kn : Kn e [(5, .int .i64 (W (p0.1 + p0.2.1)))] := ⟨(ib 5 _ rfl), trivial⟩
   exact L.kns _ kn (L.mv Wt.no rfl rfl (L.nil (X.dk kn ⟨im, Sub.fresh ib rfl, i0, i1, i2, fun _ => rfl, t_⟩)))
  ·rintro D e s16 ⟨im, ib, i0, i1, i2, i3, i4, t_⟩ hk hf ha
   have kn : Kn e [(5, .int .i64 (W (p0.1 + p0.2.1)))] := ⟨(ib 5 _ rfl), trivial⟩
   exact L.kns _ kn (L.mv Wt.no rfl rfl (L.nil (X.dk kn ⟨im, Sub.fresh ib rfl, i0, i1, i2, i3, fun _ => rfl, t_⟩)))
  ·rintro D e s17 ⟨im, ib, i0, i1, i2, i3, i4, i5, i6, i7, i8, i9, i10, i11, i12, i13, i14, i15⟩ hk hf ha
   obtain ⟨d0, d1, d2, d3, d4, -⟩ := ha
   have g0_ := i0 d0
   have g2_ := i2 d2
   have g3_ := i3 d3
   have g4_ := i4 d4
   have h3 := h3.mono (im.le (tg0 hN))
   have kn : Kn e [(11, .slice a3 p1.length c3), (13, .int .i64 p0.1), (14, .int .i64 (W (p0.1 + p0.2.1))), (15, .int .i64 (W (p0.1 + p0.2.1)))] := ⟨g0_, g2_, g3_, g4_, trivial⟩
   exact L.kns _ kn (L.s3 (r := rB) sl29 h3 Wt.no rfl rfl rfl rfl ex18 rfl fun a19 c19 h19 => L.nil (X.dk kn ⟨im, Sub.fresh ib rfl, i0, i1, i2, i3, i4, fun _ => ⟨a19, c19, rfl, h19⟩, i6, i7, i8, i9, i10, i11, i12, fun z => Bool.noConfusion ((hf 13 (Nat.le_of_ble_eq_true rfl) rfl).symm.trans z), i14, fun z => Bool.noConfusion ((hf 14 (Nat.le_of_ble_eq_true rfl) rfl).symm.trans z)⟩))
  ·rintro D e s20 ⟨im, ib, i0, i1, i2, i3, i4, i5, i6, t_⟩ hk hf ha
   have kn : Kn e [(1, .slice a3 p1.length c3)] := ⟨(ib 1 _ rfl), trivial⟩
   exact L.kns _ kn (L.mv Wt.no rfl rfl (L.nil (X.dk kn ⟨im, Sub.fresh ib rfl, i0, i1, i2, i3, i4, i5, fun _ => rfl, t_⟩)))
  ·rintro D e s21 ⟨im, ib, i0, i1, i2, i3, i4, i5, i6, i7, t_⟩ hk hf ha
   have kn : Kn e [(5, .int .i64 (W (p0.1 + p0.2.1)))] := ⟨(ib 5 _ rfl), trivial⟩
   exact L.kns _ kn (L.mv Wt.no rfl rfl (L.nil (X.dk kn ⟨im, Sub.fresh ib rfl, i0, i1, i2, i3, i4, i5, i6, fun _ => rfl, t_⟩)))
  ·rintro D e s22 ⟨im, ib, i0, i1, i2, i3, i4, i5, i6, i7, i8, t_⟩ hk hf ha
   have kn : Kn e [(1, .slice a3 p1.length c3)] := ⟨(ib 1 _ rfl), trivial⟩
   exact L.kns _ kn (L.mv Wt.no rfl rfl (L.nil (X.dk kn ⟨im, Sub.fresh ib rfl, i0, i1, i2, i3, i4, i5, i6, i7, fun _ => rfl, t_⟩)))
  ·rintro D e s23 ⟨im, ib, i0, i1, i2, i3, i4, i5, i6, i7, i8, i9, t_⟩ hk hf ha
   obtain ⟨d8, -⟩ := ha
   have g8_ := i8 d8
   have kn : Kn e [(19, .slice a3 p1.length c3)] := ⟨g8_, trivial⟩
   exact L.kns _ kn (L.len sl29 Wt.no rfl rfl (L.nil (X.dk kn ⟨im, Sub.fresh ib rfl, i0, i1, i2, i3, i4, i5, i6, i7, i8, fun _ => rfl, t_⟩)))
  ·rintro D e s24 ⟨im, ib, i0, i1, i2, i3, i4, i5, i6, i7, i8, i9, i10, t_⟩ hk hf ha
   have kn : Kn e [(1, .slice a3 p1.length c3)] := ⟨(ib 1 _ rfl), trivial⟩
   exact L.kns _ kn (L.mv Wt.no rfl rfl (L.nil (X.dk kn ⟨im, Sub.fresh ib rfl, i0, i1, i2, i3, i4, i5, i6, i7, i8, i9, fun _ => rfl, t_⟩)))
  ·rintro D e s25 ⟨im, ib, i0, i1, i2, i3, i4, i5, i6, i7, i8, i9, i10, i11, t_⟩ hk hf ha
   obtain ⟨d10, -⟩ := ha
   have g10_ := i10 d10
   have kn : Kn e [(21, .slice a3 p1.length c3)] := ⟨g10_, trivial⟩
   exact L.kns _ kn (L.len sl29 Wt.no rfl rfl (L.nil (X.dk kn ⟨im, Sub.fresh ib rfl, i0, i1, i2, i3, i4, i5, i6, i7, i8, i9, i10, fun _ => rfl, t_⟩)))
  ·rintro D e s26 ⟨im, ib, i0, i1, i2, i3, i4, i5, i6, i7, i8, i9, i10, i11, i12, i13, i14, i15⟩ hk hf ha
   obtain ⟨d6, d7, d8, d9, d10, d11, -⟩ := ha
   have g6_ := i6 d6
   have g7_ := i7 d7
   have g9_ := i9 d9
   have g11_ := i11 d11
   have h3 := h3.mono (im.le (tg0 hN))
   have kn : Kn e [(17, .slice a3 p1.length c3), (18, .int .i64 (W (p0.1 + p0.2.1))), (20, .int .i64 (p1.length : Int)), (22, .int .i64 (p1.length : Int))] := ⟨g6_, g7_, g9_, g11_, trivial⟩
   exact L.kns _ kn (L.s3 (r := rB) sl29 h3 Wt.no rfl rfl rfl rfl ex27 rfl fun a28 c28 h28 => L.nil (X.dk kn ⟨im, Sub.fresh ib rfl, i0, i1, i2, i3, i4, i5, i6, i7, i8, i9, i10, i11, fun _ => ⟨a28, c28, rfl, h28⟩, fun z => Bool.noConfusion ((hf 13 (Nat.le_of_ble_eq_true rfl) rfl).symm.trans z), i14, fun z => Bool.noConfusion ((hf 14 (Nat.le_of_ble_eq_true rfl) rfl).symm.trans z)⟩))
  ·rintro D e s29 ⟨im, ib, i0, i1, i2, i3, i4, i5, i6, i7, i8, i9, i10, i11, i12, i13, t_⟩ hk hf ha
   obtain ⟨d0, d1, d2, d3, d4, d5, d6, d7, d8, d9, d10, d11, d12, -⟩ := ha
   obtain ⟨a19, c19, g5_, h19⟩ := i5 d5
   obtain ⟨a28, c28, g12_, h28⟩ := i12 d12
   have kn : Kn e [(16, .slice a19 x18.length c19), (23, .slice a28 x27.length c28)] := ⟨g5_, g12_, trivial⟩
   exact L.kns _ kn (L.bu (cs := [.slice a19 x18.length c19, .slice a28 x27.length c28]) pl39 Wt.no rfl rfl rfl (L.nil (X.dk kn ⟨im, Sub.fresh ib rfl, i0, i1, i2, i3, i4, i5, i6, i7, i8, i9, i10, i11, i12, fun _ _ _ _ _ q5 q12 => by cases g5_.symm.trans q5; cases g12_.symm.trans q12; exact rfl, t_⟩)))
  ·rintro D e s30 ⟨im, ib, i0, i1, i2, i3, i4, i5, i6, i7, i8, i9, i10, i11, i12, i13, i14, i15⟩ hk hf ha
   obtain ⟨d0, d1, d2, d3, d4, d5, d6, d7, d8, d9, d10, d11, d12, d13, -⟩ := ha
   obtain ⟨a19, c19, g5_, h19⟩ := i5 d5
   obtain ⟨a28, c28, g12_, h28⟩ := i12 d12
   have g13_ := i13 d13 a19 c19 a28 c28 g5_ g12_
   obtain bx9 := i14 hk
   have kn : Kn e [(4, .pointer (some ⟨b9, 0, none⟩)), (24, .agg #[.slice a19 x18.length c19, .slice a28 x27.length c28])] := ⟨(ib 4 _ rfl), g13_, trivial⟩
   exact L.kns _ kn (L.st (c := [.slice a19 x18.length c19, .slice a28 x27.length c28]) (cs' := #[.slice a19 x18.length c19, .slice a28 x27.length c28]) bx9 ag39.sz Wt.no rfl rfl rfl rfl rfl (Nat.le_of_ble_eq_true rfl) rfl fun s31 m32 bx9 => L.nil (X.dn kn ⟨im.trans (m32.one rfl), ib, i0, i1, i2, i3, i4, fun z => let ⟨a19, c19, q, h19⟩ := i5 z; ⟨a19, c19, q, (h19.mono (m32.le (tg0 hN)))⟩, i6, i7, i8, i9, i10, i11, fun z => let ⟨a28, c28, q, h28⟩ := i12 z; ⟨a28, c28, q, (h28.mono (m32.le (tg0 hN)))⟩, i13, fun z => Bool.noConfusion (show true = false from z), fun _ _ _ _ _ q5 q12 => by cases g5_.symm.trans q5; cases g12_.symm.trans q12; exact bx9⟩))
 ·rintro D e s33 hD ⟨im, ib, i0, i1, i2, i3, i4, i5, i6, i7, i8, i9, i10, i11, i12, i13, i14, i15⟩
  obtain ⟨a19, c19, g5_, h19⟩ := i5 (hD 5 rfl)
  obtain ⟨a28, c28, g12_, h28⟩ := i12 (hD 12 rfl)
  obtain bx9 := i15 (hD 14 rfl) a19 c19 a28 c28 g5_ g12_
  have m0 := m0.trans (im.one up)
  refine X.sub (e' := [(4, .pointer (some ⟨b9, 0, none⟩))]) ?_ (Sub.cons (ib 4 _ rfl) Sub.nil)
  refine X.seqN (E.ret ?_)
  obtain rfl := Option.some.inj hm
  exact X.rt (.inl rfl) Try.results56 (Rs.cell rfl bx9 ag39 rfl Rs.nil) rfl ⟨_, (s33).ren N (fun _ => 0), rfl, rfl, m0.ren hNb, ⟨a19, c19, a28, c28, rfl, (h19.ren hN), (h28.ren hN)⟩⟩

end Go.Proofs.Ytkkemchihllklaa

