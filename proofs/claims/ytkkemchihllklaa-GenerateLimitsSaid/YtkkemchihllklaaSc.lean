/- What command and Generate compute. -/
import Derived.Test.YtkkemchihllklaaSb
namespace Go.Proofs.Ytkkemchihllklaa
open Go Go.RowKit

theorem command_loop {l : List (Int × Int)} {M C : Nat} {ms : List Nat} (hms : ∀ x ∈ ms, x ≤ 100000) (hM : M ≤ 100000) (hC : C ≤ 100000) (hl : l.length + ms.length ≤ 3000000000) :
    iter (m_generate_assembler_command_l1 (ms.map fun k : Nat => (k : Int))) (0, l, (M : Int), (C : Int)) =
      some (l ++ (match ms with | [] => [] | m :: r => (⟨1, ((M + C + m : Nat) : Int)⟩ : Ins) :: r.map (fun k : Nat => (⟨5, ((M + C + k : Nat) : Int)⟩ : Ins))).map insP, (M : Int), (C : Int)) := by
  have hL : ∀ k, (h : k < ms.length) → ((match ms with | [] => [] | m :: r => (⟨1, ((M + C + m : Nat) : Int)⟩ : Ins) :: r.map (fun k : Nat => (⟨5, ((M + C + k : Nat) : Int)⟩ : Ins))).map insP)[k]? = some (if k = 0 then 1 else 5, ((M + C + ms[k] : Nat) : Int)) := by
    intro k h
    cases ms with
    | nil => simp at h
    | cons m r =>
      cases k with
      | zero => rfl
      | succ k => simp at h; simp [h, insP]
  have hlen : ((match ms with | [] => [] | m :: r => (⟨1, ((M + C + m : Nat) : Int)⟩ : Ins) :: r.map (fun k : Nat => (⟨5, ((M + C + k : Nat) : Int)⟩ : Ins))).map insP).length = ms.length := by cases ms <;> simp
  generalize ((match ms with | [] => [] | m :: r => (⟨1, ((M + C + m : Nat) : Int)⟩ : Ins) :: r.map (fun k : Nat => (⟨5, ((M + C + k : Nat) : Int)⟩ : Ins))).map insP) = L at hL hlen
  have := iter_run (f := m_generate_assembler_command_l1 (ms.map fun k : Nat => (k : Int))) (fun k => ((k : Int), l ++ L.take k, (M : Int), (C : Int))) ms.length (by omega) (o := (l ++ L, (M : Int), (C : Int))) (fun k hk => by
    have hx := hms ms[k] (List.getElem_mem hk)
    rw [m_generate_assembler_command_l1, if_pos (by simp; omega)]
    dsimp only
    rw [idx_at (by simpa using hk), Option.bind_some, List.getElem_map]
    have hop : idx ([1, 5] : List Int) (if 1 < (k : Int) then 1 else (k : Int)) = some (if k = 0 then 1 else 5) := by
      by_cases h0 : k = 0
      · subst h0; rfl
      · have : (if 1 < (k : Int) then 1 else (k : Int)) = 1 := by split <;> omega
        rw [this, if_neg h0]; rfl
    rw [hop, Option.bind_some, memory_eq (by omega) (by omega) (by omega), Option.bind_some, put_eq (by simp only [List.length_append, List.length_take, List.length_cons, List.length_nil]; omega), Option.bind_some,
      show (k : Int) + 1 = ((k + 1 : Nat) : Int) by omega, W_nat (by omega), List.append_assoc]
    have hk' : k < L.length := by omega
    have e := hL k hk
    rw [List.getElem?_eq_getElem hk', Option.some.injEq] at e
    rw [List.take_succ_eq_append_getElem hk', e]
    rfl) (by
    rw [m_generate_assembler_command_l1, if_neg (by simp), List.take_of_length_le (by omega)])
  simpa using this
theorem command_eq {l : List (Int × Int)} {M C o : Nat} {ms : List Nat} (hms : ∀ x ∈ ms, x ≤ 100000) (hM : M ≤ 100000) (hC : C ≤ 100000) (hl : l.length + ms.length ≤ 2000000000) :
    m_generate_assembler_command (l, (M : Int), (C : Int)) (o : Int) (ms.map fun k : Nat => (k : Int)) = some (l ++ (commandI o (ms.map fun k => M + C + k)).map insP, (M : Int), (C : Int)) := by
  rw [m_generate_assembler_command]
  cases ms with
  | nil =>
    rw [if_pos (by simp), put_eq (by simp; simp at hl; omega), Option.bind_some]
    rfl
  | cons m r =>
    rw [if_neg (by simp; omega), command_loop hms hM hC (by omega), Option.bind_some, put_eq (by simp at hl ⊢; omega), Option.bind_some]
    simp [commandI, insP, List.append_assoc]

/-- Events of an edge, gathered. -/
theorem mgetD_mput {β : Type} (d : β) : ∀ (m : List (Int × β)) (k : Int) (v : β) (k' : Int), mgetD d (mput m k v) k' = if k = k' then v else mgetD d m k'
  | [], k, v, k' => by
    simp only [mput, mgetD]
    by_cases h : k = k' <;> simp [h]
  | p :: m, k, v, k' => by
    by_cases hp : (p.1 == k) = true
    · have e : p.1 = k := by simpa using hp
      simp only [mput, if_pos hp, mgetD]
      by_cases h : k = k'
      · simp [e, h]
      · simp [e, h]
    · have e : ¬ p.1 = k := by simpa using hp
      simp only [mput, if_neg hp, mgetD, mgetD_mput d m k v k']
      by_cases h : k = k'
      · subst h; simp [e]
      · simp [h]
def gather {β : Type} (f : Ed → β) (es : List Ed) : List (Int × List β) := es.foldl (fun m x => mput m x.e (mgetD [] m x.e ++ [f x])) []
theorem gather_get {β : Type} (f : Ed → β) (k : Int) : ∀ (es : List Ed) (m : List (Int × List β)), mgetD [] (es.foldl (fun m x => mput m x.e (mgetD [] m x.e ++ [f x])) m) k = mgetD [] m k ++ (es.filter fun x => x.e == k).map f
  | [], m => by simp
  | x :: es, m => by
    rw [List.foldl_cons, gather_get f k es, mgetD_mput]
    by_cases h : x.e = k
    · rw [if_pos h, List.filter_cons_of_pos (by simpa using h), h]; simp
    · rw [if_neg h, List.filter_cons_of_neg (by simpa using h)]
theorem gather_len {β : Type} (f : Ed → β) (es : List Ed) (k : Int) : (mgetD [] (gather f es) k).length ≤ es.length := by
  rw [gather, gather_get]
  simp only [mgetD, List.nil_append, List.length_map]
  exact List.length_filter_le _ _
theorem gather_snoc {β : Type} (f : Ed → β) (es : List Ed) (x : Ed) : gather f (es ++ [x]) = mput (gather f es) x.e (mgetD [] (gather f es) x.e ++ [f x]) := by simp [gather]
theorem gen_maps {a : Aut} (hl : a.es.length ≤ 1000000) : iter (m_generate_Generate_l1 (autP a)) (0, ([] : List (Int × List Int)), ([] : List (Int × List (Int × Int × Int)))) = some (gather (fun x => x.f) a.es, gather edP a.es) := by
  have hlen : (autP a).2.2.2.length = a.es.length := by simp [autP]
  have := iter_run (f := m_generate_Generate_l1 (autP a)) (fun k => ((k : Int), gather (fun x => x.f) (a.es.take k), gather edP (a.es.take k))) a.es.length (by omega) (o := (gather (fun x => x.f) a.es, gather edP a.es)) (fun k hk => by
    rw [m_generate_Generate_l1, if_pos (by rw [hlen]; simp; omega)]
    dsimp only
    have h1 := gather_len edP (a.es.take k) a.es[k].e
    have h2 := gather_len (fun x => x.f) (a.es.take k) a.es[k].e
    rw [List.length_take] at h1 h2
    rw [idx_at (by rw [hlen]; exact hk), Option.bind_some, show (autP a).2.2.2[k]'(by rw [hlen]; exact hk) = edP a.es[k] from by simp [autP]]
    dsimp only [edP]
    rw [app_eq (by simp only [List.length_cons, List.length_nil]; omega), Option.bind_some, app_eq (by simp only [List.length_cons, List.length_nil]; omega), Option.bind_some,
      show (k : Int) + 1 = ((k + 1 : Nat) : Int) by omega, W_nat (by omega), List.take_succ_eq_append_getElem hk, gather_snoc, gather_snoc]
    rfl) (by
    rw [m_generate_Generate_l1, if_neg (by rw [hlen]; simp), List.take_length])
  simpa [gather] using this
end Go.Proofs.Ytkkemchihllklaa
