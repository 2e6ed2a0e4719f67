/- BlockingVerifies returns true for every pair of descriptions and every two bytes, and leaves its arguments as they were. The condition: three tables of Go's library (math/bits, internal/strconv) hold what their source text lays, and the card ties this to the text. -/
import Derived.Deep.Slices
import Derived.ChangeSame
import Derived.ProofKit
import Derived.Test.YtfbapajcheammaaDoorRows
import Derived.Test.YtfbapajcheammaaDoorTie
import Derived.Test.YtfbapajcheammaaDoorCards
import Derived.Lay
import Derived.LaidMore
import Derived.LaidHandle
import Derived.SevenTiedAt
import Derived.Stop.Joined
import Derived.Test.YtfbapajcheammaaDoorQV6
namespace Go.Proofs.YtfbapajcheammaaDoor
open Go Go.RowKit
section
variable {κ β : Type} [BEq κ]
theorem kget_mem {m : List (κ × β)} {k : κ} {v : β} (h : kget m k = some v) : ∃ e ∈ m, e.2 = v := by
  unfold kget at h
  rw [Option.map_eq_some_iff] at h
  obtain ⟨e, h1, h2⟩ := h
  exact ⟨e, List.mem_of_find?_eq_some h1, h2⟩
theorem kput_mem {m : List (κ × β)} {k : κ} {v : β} {e : κ × β} (h : e ∈ kput m k v) : e ∈ m ∨ e = (k, v) := by
  unfold kput at h
  split at h
  · exact List.mem_or_eq_of_mem_set h
  · rcases List.mem_append.1 h with h | h
    · exact .inl h
    · exact .inr (List.mem_singleton.1 h)
theorem kget_isSome {m : List (κ × β)} {k : κ} : (kget m k).isSome = m.any fun p => k == p.1 := by
  unfold kget
  induction m with
  | nil => rfl
  | cons p m ih =>
    rw [List.any_cons]
    cases h : k == p.1 with
    | true => rw [List.find?_cons_of_pos (by simpa using h)]; rfl
    | false => rw [List.find?_cons_of_neg (by simp [h])]; simpa using ih
end
theorem beqB (k : ByteArray) : (k == k) = true := by rw [beq_toListBytes]; simp
theorem kput_self {β : Type} {m : List (ByteArray × β)} {k : ByteArray} {v : β} : (kget (kput m k v) k).isSome = true := by
  rw [kget_isSome, List.any_eq_true]
  refine ⟨(k, v), ?_, beqB k⟩
  unfold kput
  split
  · rename_i h; exact List.mem_set h _
  · exact List.mem_append_right _ (List.mem_singleton.2 rfl)
theorem kput_keep {β : Type} {m : List (ByteArray × β)} {k q : ByteArray} {v : β} (h : (kget m q).isSome = true) : (kget (kput m k v) q).isSome = true := by
  rw [kget_isSome, List.any_eq_true] at h ⊢
  obtain ⟨e, h1, h2⟩ := h
  have hq := eqS h2
  unfold kput
  split
  · rename_i hlt
    obtain ⟨i, hi, rfl⟩ := List.getElem_of_mem h1
    by_cases e : kidx (m.map (·.1)) k = i
    · refine ⟨(k, v), List.mem_set hlt _, ?_⟩
      have hk : (fun p => k == p) ((m.map (·.1))[kidx (m.map (·.1)) k]'(by rw [List.length_map]; exact hlt)) = true := List.findIdx_getElem (p := fun p => k == p) (w := by rw [List.length_map]; exact hlt)
      rw [List.getElem_map] at hk
      have hk := eqS hk
      subst e
      rw [hq, ← hk]
      exact beqB k
    · refine ⟨m[i], ?_, h2⟩
      have := List.getElem_set_ne (l := m) e (a := (k, v)) (by rw [List.length_set]; exact hi)
      rw [← this]
      exact List.getElem_mem _
  · exact ⟨e, List.mem_append_left _ h1, h2⟩

/-- A tuple of states of the automata in a list. -/
def InT (l : List AutT) (t : List Int) : Prop := t.length = l.length ∧ ∀ i (h : i < l.length) (h' : i < t.length), 0 ≤ t[i] ∧ t[i] < l[i].2.1
theorem InT.set {l : List AutT} {t : List Int} (h : InT l t) {i : Nat} (hi : i < l.length) {v : Int} (h0 : 0 ≤ v) (h1 : v < l[i].2.1) : InT l (t.set i v) := by
  refine ⟨by rw [List.length_set]; exact h.1, fun k hk hk' => ?_⟩
  rw [List.getElem_set]
  split
  · rename_i e; subst e; exact ⟨h0, h1⟩
  · exact h.2 k hk _
/-- A list of right automata, each with 1 to 6 states. -/
structure LOk (l : List AutT) : Prop where
  len : l.length ≤ 3
  right : ∀ a ∈ l, ∃ n : Nat, 1 ≤ n ∧ n ≤ 6 ∧ Right a n
structure MOk (l : List AutT) (m : List AutT × List Int × List (List ((Int × Int) × Int))) : Prop where
  ml : m.1 = l
  ev : Alp m.2.1
  len : m.2.2.length = l.length
  edge : ∀ i (h : i < l.length) (h' : i < m.2.2.length), ∀ e ∈ m.2.2[i], 0 ≤ e.2 ∧ e.2 < l[i].2.1
theorem pcheck_eq {l : List AutT} (h : LOk l) : m_product_Check l = some 0 := by
  have hl := h.len
  obtain ⟨o, h1, rfl⟩ := iter_inv (f := m_product_Check_l1 l) (fun i s => s = (i : Int)) (fun o => o = .inl ()) l.length 0 (by omega) (fun i s hi e1 => by
      subst e1
      obtain ⟨n, _, _, hr⟩ := h.right _ (List.getElem_mem hi)
      refine .inl ⟨((i + 1 : Nat) : Int), ?_, rfl⟩
      rw [m_product_Check_l1, if_pos (ct_lt hi), idx_at hi, Option.bind_some, hr.check, Option.bind_some, if_neg (by simp), nxt (by omega)]) (fun s e1 => by
      subst e1
      exact ⟨_, by rw [m_product_Check_l1, if_neg ct_ge], rfl⟩) (Nat.zero_le _) 0 rfl
  rw [m_product_Check, if_neg (by simp; omega), h1]
  rfl
theorem open_in {a : AutT} {n : Nat} (hr : Right a n) : ∃ o, iter (m_product_open_l2 a) (0, ([] : List ((Int × Int) × Int))) = some o ∧ ∀ e ∈ o, 0 ≤ e.2 ∧ e.2 < (n : Int) := by
  have hl := hr.l3
  refine iter_inv (f := m_product_open_l2 a) (fun i s => s.1 = (i : Int) ∧ ∀ e ∈ s.2, 0 ≤ e.2 ∧ e.2 < (n : Int)) (fun o => ∀ e ∈ o, 0 ≤ e.2 ∧ e.2 < (n : Int)) a.2.2.2.length 0 (by omega) (fun i s hi ⟨e1, g1⟩ => ?_) (fun s ⟨e1, g1⟩ => ?_) (Nat.zero_le _) _ ⟨rfl, fun e he => (by cases he)⟩
  · obtain ⟨k, out⟩ := s
    dsimp only at e1 g1
    subst e1
    have hx := hr.es _ (List.getElem_mem hi)
    refine .inl ⟨(((i + 1 : Nat) : Int), kput out (a.2.2.2[i].1, a.2.2.2[i].2.1) a.2.2.2[i].2.2), ?_, rfl, fun e he => ?_⟩
    · rw [m_product_open_l2]
      dsimp only
      rw [if_pos (ct_lt hi), idx_at hi, Option.bind_some, nxt (by omega)]
    · rcases kput_mem he with he | he
      · exact g1 e he
      · rw [he]; exact ⟨hx.2.2.1, hx.2.2.2.1⟩
  · obtain ⟨k, out⟩ := s
    dsimp only at e1 g1
    subst e1
    refine ⟨out, ?_, g1⟩
    rw [m_product_open_l2]
    dsimp only
    rw [if_neg ct_ge]
theorem open_ex {l : List AutT} (h : LOk l) : ∃ m, m_product_open l = some m ∧ MOk l m := by
  have hl := h.len
  obtain ⟨ev, he, hev⟩ := events_ex (l := l) (by omega) (fun a ha => by
    obtain ⟨n, _, _, hr⟩ := h.right a ha
    exact ⟨hr.ali, hr.alr⟩)
  obtain ⟨o, h1, h2⟩ := iter_inv (f := m_product_open_l1 l) (fun i s => i ≤ l.length ∧ s.1 = (i : Int) ∧ s.2.length = i ∧ ∀ k (h : k < l.length) (h' : k < s.2.length), ∀ e ∈ s.2[k], 0 ≤ e.2 ∧ e.2 < l[k].2.1) (fun o => o.length = l.length ∧ ∀ k (h : k < l.length) (h' : k < o.length), ∀ e ∈ o[k], 0 ≤ e.2 ∧ e.2 < l[k].2.1) l.length 0 (by omega) (fun i s hi ⟨_, e1, g1, g2⟩ => by
      obtain ⟨k, out⟩ := s
      dsimp only at e1 g1 g2
      subst e1
      obtain ⟨n, _, _, hr⟩ := h.right _ (List.getElem_mem hi)
      obtain ⟨o, e, g3⟩ := open_in hr
      refine .inl ⟨(((i + 1 : Nat) : Int), out ++ [o]), ?_, by omega, rfl, by simp [g1], fun k hk hk' x hx => ?_⟩
      · rw [m_product_open_l1]
        dsimp only
        rw [if_pos (ct_lt hi), idx_at hi, Option.bind_some, e, Option.bind_some, app_eq (by simp; omega), Option.bind_some, nxt (by omega)]
      · dsimp only at hx
        by_cases hki : k < out.length
        · rw [List.getElem_append_left hki] at hx; exact g2 k hk hki x hx
        · have hk2 : k = i := by simp at hk'; omega
          subst hk2
          rw [List.getElem_append_right (by omega)] at hx
          simp only [g1, Nat.sub_self, List.getElem_cons_zero] at hx
          rw [hr.nn]
          exact g3 x hx) (fun s ⟨_, e1, g1, g2⟩ => by
      obtain ⟨k, out⟩ := s
      dsimp only at e1 g1 g2
      subst e1
      refine ⟨out, ?_, g1, g2⟩
      rw [m_product_open_l1]
      dsimp only
      rw [if_neg ct_ge]) (Nat.zero_le _) (0, []) ⟨Nat.zero_le _, rfl, rfl, fun k hk hk' => (by simp at hk')⟩
  exact ⟨(l, ev, o), by rw [m_product_open, he, Option.bind_some, h1]; rfl, rfl, hev, h2.1, h2.2⟩
theorem initial_eq {l : List AutT} (h : LOk l) {m : List AutT × List Int × List (List ((Int × Int) × Int))} (hm : MOk l m) : ∃ t, m_product_machine_initial m = some (t, true) ∧ InT l t := by
  have hl := h.len
  obtain ⟨m1, m2, m3⟩ := m
  obtain ⟨rfl, hev, hlen, _⟩ := hm
  dsimp only at *
  obtain ⟨o, h1, rfl⟩ := iter_inv (f := m_product_machine_initial_l1 (m1, m2, m3)) (fun i s => s = (i : Int)) (fun o => o = .inl ()) m1.length 0 (by omega) (fun i s hi e1 => by
      subst e1
      obtain ⟨n, hn, _, hr⟩ := h.right _ (List.getElem_mem hi)
      refine .inl ⟨((i + 1 : Nat) : Int), ?_, rfl⟩
      rw [m_product_machine_initial_l1]
      dsimp only
      rw [if_pos (ct_lt hi), idx_at hi, Option.bind_some, hr.nn, if_neg (by simp; omega), nxt (by omega)]) (fun s e1 => by
      subst e1
      refine ⟨_, ?_, rfl⟩
      rw [m_product_machine_initial_l1]
      dsimp only
      rw [if_neg ct_ge]) (Nat.zero_le _) 0 rfl
  have hmk : mkL (m1.length : Int) (0 : Int) = some (List.replicate m1.length 0) := by unfold mkL; rw [if_pos ⟨by omega, by omega⟩, Int.toNat_natCast]
  refine ⟨List.replicate m1.length 0, ?_, by simp, fun i hi hi' => ?_⟩
  · rw [m_product_machine_initial, h1, Option.bind_some]
    dsimp only
    rw [hmk, Option.bind_some]
  · obtain ⟨n, hn, _, hr⟩ := h.right _ (List.getElem_mem hi)
    rw [List.getElem_replicate, hr.nn]
    omega
theorem step_ex {l : List AutT} (h : LOk l) {m : List AutT × List Int × List (List ((Int × Int) × Int))} (hm : MOk l m) {t : List Int} (ht : InT l t) (e : Int) : ∃ r, m_product_machine_step m t e = some r ∧ (r.2 = true → InT l r.1) := by
  have hl := h.len
  obtain ⟨m1, m2, m3⟩ := m
  obtain ⟨rfl, hev, hlen, hed⟩ := hm
  dsimp only at *
  obtain ⟨o, h1, h2⟩ := iter_inv (f := m_product_machine_step_l1 (m1, m2, m3) t e) (fun i s => s.1 = (i : Int) ∧ InT m1 s.2) (fun o => ∀ u, o = .inl u → InT m1 u) m1.length 0 (by omega) (fun i s hi ⟨e1, g1⟩ => by
      obtain ⟨k, out⟩ := s
      dsimp only at e1 g1
      subst e1
      obtain ⟨n, hn, _, hr⟩ := h.right _ (List.getElem_mem hi)
      have ha : m1[i].1.length < 4294967296 := by have := hr.l1; omega
      have hj : ∀ u : List Int, m_product_machine_step_j1 ((i : Int), out) u = some (.inl (((i + 1 : Nat) : Int), u)) := fun u => by
        rw [m_product_machine_step_j1]; dsimp only; rw [nxt (by omega)]
      rw [m_product_machine_step_l1]
      dsimp only
      rw [if_pos (ct_lt hi), idx_at hi, Option.bind_some, containsA_eq ha hr.ali, Option.bind_some]
      cases hb : hasB m1[i].1 e with
      | false =>
        rw [if_pos (by simp), hj]
        exact .inl ⟨_, rfl, rfl, g1⟩
      | true =>
        rw [if_neg (by simp), idx_at (by omega), Option.bind_some, idx_at (by have := ht.1; omega), Option.bind_some]
        cases hg : kget m3[i] (t[i]'(by have := ht.1; omega), e) with
        | none =>
          rw [if_pos (by simp)]
          exact .inr ⟨_, rfl, fun u hu => by cases hu⟩
        | some v =>
          obtain ⟨x, hx, rfl⟩ := kget_mem hg
          have hv := hed i hi (by omega) x hx
          rw [if_neg (by simp), idx_at (by have := g1.1; omega), Option.bind_some, upd_at (by have := g1.1; omega), Option.bind_some, hj]
          exact .inl ⟨_, rfl, rfl, g1.set hi hv.1 hv.2⟩) (fun s ⟨e1, g1⟩ => by
      obtain ⟨k, out⟩ := s
      dsimp only at e1 g1
      subst e1
      refine ⟨.inl out, ?_, fun u hu => by cases hu; exact g1⟩
      rw [m_product_machine_step_l1]
      dsimp only
      rw [if_neg ct_ge]) (Nat.zero_le _) (0, t) ⟨rfl, ht⟩
  rw [m_product_machine_step, clone_eq (by have := ht.1; omega), Option.bind_some, h1, Option.bind_some]
  cases o with
  | inl u => exact ⟨_, rfl, fun _ => h2 u rfl⟩
  | inr u => exact ⟨_, rfl, fun hb => by cases hb⟩
theorem marked_ex {l : List AutT} (h : LOk l) {m : List AutT × List Int × List (List ((Int × Int) × Int))} (hm : MOk l m) {t : List Int} (ht : InT l t) : ∃ b, m_product_machine_marked m t = some b := by
  have hl := h.len
  obtain ⟨m1, m2, m3⟩ := m
  obtain ⟨rfl, hev, hlen, hed⟩ := hm
  dsimp only at *
  obtain ⟨o, h1, h2⟩ := iter_inv (f := m_product_machine_marked_l1 (m1, m2, m3) t) (fun i s => s = (i : Int)) (fun _ => True) m1.length 0 (by omega) (fun i s hi e1 => by
      subst e1
      obtain ⟨n, hn, _, hr⟩ := h.right _ (List.getElem_mem hi)
      have ha : m1[i].2.2.1.length < 4294967296 := by have := hr.l2; omega
      rw [m_product_machine_marked_l1]
      dsimp only
      rw [if_pos (ct_lt hi), idx_at hi, Option.bind_some, idx_at (by have := ht.1; omega), Option.bind_some, containsA_eq ha hr.msi, Option.bind_some]
      cases hb : hasB m1[i].2.2.1 (t[i]'(by have := ht.1; omega)) with
      | false => rw [if_pos (by simp)]; exact .inr ⟨_, rfl, trivial⟩
      | true => rw [if_neg (by simp), nxt (by omega)]; exact .inl ⟨_, rfl, rfl⟩) (fun s e1 => by
      subst e1
      refine ⟨.inl (), ?_, trivial⟩
      rw [m_product_machine_marked_l1]
      dsimp only
      rw [if_neg ct_ge]) (Nat.zero_le _) 0 rfl
  rw [m_product_machine_marked, h1, Option.bind_some]
  cases o with
  | inl u => exact ⟨_, rfl⟩
  | inr u => exact ⟨_, rfl⟩
def keyK (t : List Int) : ByteArray := ⟨(keyB t).toArray⟩
theorem key_eq {l : List AutT} (h : LOk l) {t : List Int} (ht : InT l t) : m_product_key t = some (keyK t) := by
  have hl := h.len
  have hc : (t.all fun x => decide (0 ≤ x ∧ x < 100)) = true := by
    rw [List.all_eq_true]
    intro x hx
    obtain ⟨i, hi, rfl⟩ := List.getElem_of_mem hx
    have hi' : i < l.length := by have := ht.1; omega
    obtain ⟨n, hn, hn6, hr⟩ := h.right _ (List.getElem_mem hi')
    have := ht.2 i hi' hi
    rw [hr.nn] at this
    simp; omega
  rw [m_product_key, if_pos ⟨hc, by have := ht.1; omega⟩]
  rfl
end Go.Proofs.YtfbapajcheammaaDoor

namespace Go.Proofs.YtfbapajcheammaaDoor
open Go Go.RowKit
theorem nodup_len : ∀ (N : Nat) (l : List Nat), l.Nodup → (∀ x ∈ l, x < N) → l.length ≤ N
  | 0, [], _, _ => Nat.le_refl _
  | 0, x :: l, _, h => absurd (h x (List.mem_cons_self ..)) (by omega)
  | N + 1, l, hn, h => by
    by_cases hm : N ∈ l
    · have h1 := nodup_len N (l.erase N) (hn.erase N) (fun x hx => by
        have h2 := (hn.mem_erase_iff).1 hx
        have := h x h2.2
        omega)
      rw [List.length_erase_of_mem hm] at h1
      omega
    · have h1 := nodup_len N l hn (fun x hx => by
        have := h x hx
        have : x ≠ N := fun e => hm (e ▸ hx)
        omega)
      omega
/-- A tuple as one number. -/
def tcode : List Int → Nat
  | [] => 0
  | x :: t => x.toNat + 6 * tcode t
theorem tcode_inj : ∀ {s t : List Int}, s.length = t.length → (∀ x ∈ s, 0 ≤ x ∧ x < 6) → (∀ x ∈ t, 0 ≤ x ∧ x < 6) → tcode s = tcode t → s = t
  | [], [], _, _, _, _ => rfl
  | [], _ :: _, h, _, _, _ => by simp at h
  | _ :: _, [], h, _, _, _ => by simp at h
  | x :: s, y :: t, h, hs, ht, e => by
    have h1 := hs x (List.mem_cons_self ..)
    have h2 := ht y (List.mem_cons_self ..)
    simp only [tcode] at e
    have hxy : x = y := by omega
    subst hxy
    rw [tcode_inj (s := s) (t := t) (by simpa using h) (fun z hz => hs z (List.mem_cons_of_mem _ hz)) (fun z hz => ht z (List.mem_cons_of_mem _ hz)) (by omega)]
theorem tcode_lt : ∀ {t : List Int}, (∀ x ∈ t, 0 ≤ x ∧ x < 6) → tcode t < 6 ^ t.length
  | [], _ => by simp [tcode]
  | x :: t, h => by
    have h1 := h x (List.mem_cons_self ..)
    have h2 := tcode_lt (t := t) (fun z hz => h z (List.mem_cons_of_mem _ hz))
    rw [List.length_cons, Nat.pow_succ, tcode]
    omega
theorem InT.small {l : List AutT} (h : LOk l) {t : List Int} (ht : InT l t) : ∀ x ∈ t, 0 ≤ x ∧ x < 6 := by
  intro x hx
  obtain ⟨i, hi, rfl⟩ := List.getElem_of_mem hx
  have hi' : i < l.length := by have := ht.1; omega
  obtain ⟨n, hn, hn6, hr⟩ := h.right _ (List.getElem_mem hi')
  have := ht.2 i hi' hi
  rw [hr.nn] at this
  omega
theorem tuples_len {l : List AutT} (h : LOk l) {T : List (List Int)} (hn : T.Nodup) (hT : ∀ t ∈ T, InT l t) : T.length ≤ 216 := by
  have h1 := nodup_len (6 ^ l.length) (T.map tcode) ?_ ?_
  · rw [List.length_map] at h1
    have h2 : 6 ^ l.length ≤ 6 ^ 3 := Nat.pow_le_pow_right (by omega) h.len
    omega
  · rw [List.Nodup, List.pairwise_map]
    refine List.Pairwise.imp_of_mem (fun {a b} ha hb hab e => hab ?_) hn
    exact tcode_inj ((hT a ha).1.trans (hT b hb).1.symm) ((hT a ha).small h) ((hT b hb).small h) e
  · intro x hx
    obtain ⟨t, ht, rfl⟩ := List.mem_map.1 hx
    rw [← (hT t ht).1]
    exact tcode_lt ((hT t ht).small h)

abbrev Kno := List (ByteArray × Int)
/-- What holds while the product is made: state i, event j. -/
structure SI (l : List AutT) (ev : List Int) (i j : Nat) (kn : Kno) (T : List (List Int)) (E : List (Int × Int × Int)) : Prop where
  pos : 0 < T.length
  nd : T.Nodup
  inT : ∀ t ∈ T, InT l t
  key : ∀ t ∈ T, (kget kn (keyK t)).isSome = true
  val : ∀ e ∈ kn, 0 ≤ e.2 ∧ e.2 < (T.length : Int)
  er : ∀ x ∈ E, 0 ≤ x.1 ∧ x.1 ≤ (i : Int) ∧ 0 ≤ x.2.2 ∧ x.2.2 < (T.length : Int) ∧ x.2.1 ∈ ev
  es : ∀ x ∈ E, x.1 = (i : Int) → x.2.1 ∈ ev.take j
  so : E.Pairwise fun x y => x.1 < y.1 ∨ (x.1 = y.1 ∧ x.2.1 < y.2.1)
  el : E.length ≤ 32 * i + j
  lk : ∀ k : Nat, 0 < k → k < T.length → ∃ x ∈ E, x.2.2 = (k : Int) ∧ 0 ≤ x.1 ∧ x.1 < (k : Int)
section
variable {l : List AutT} {ev : List Int} {i j : Nat} {kn : Kno} {T : List (List Int)} {E : List (Int × Int × Int)}
theorem SI.skip (h : SI l ev i j kn T E) : SI l ev i (j + 1) kn T E :=
  ⟨h.pos, h.nd, h.inT, h.key, h.val, h.er, fun x hx e => (List.take_subset_take_left ev (Nat.le_succ j)) (h.es x hx e), h.so, by have := h.el; omega, h.lk⟩
theorem SI.next (h : SI l ev i j kn T E) (hj : j ≤ 32) : SI l ev (i + 1) 0 kn T E :=
  ⟨h.pos, h.nd, h.inT, h.key, h.val, fun x hx => by have := h.er x hx; exact ⟨this.1, by omega, this.2.2⟩, fun x hx e => by have := h.er x hx; omega, h.so, by have := h.el; omega, h.lk⟩
theorem take_lt (he : Inc ev) (hj : j < ev.length) : ∀ x ∈ ev.take j, x < ev[j] := fun x hx => by
  obtain ⟨k, hk, rfl⟩ := List.getElem_of_mem hx
  rw [List.length_take] at hk
  rw [List.getElem_take]
  exact List.pairwise_iff_getElem.1 he k j (by omega) hj (by omega)
theorem SI.edge (h : SI l ev i j kn T E) (he : Inc ev) (hi : i < T.length) (hj : j < ev.length) {q : Int} (h0 : 0 ≤ q) (h1 : q < T.length) : SI l ev i (j + 1) kn T (E ++ [((i : Int), ev[j], q)]) := by
  refine ⟨h.pos, h.nd, h.inT, h.key, h.val, fun x hx => ?_, fun x hx e => ?_, ?_, by have := h.el; rw [List.length_append, List.length_singleton]; omega, fun k h2 h3 => ?_⟩
  · rcases List.mem_append.1 hx with hx | hx
    · exact h.er x hx
    · rw [List.mem_singleton.1 hx]; exact ⟨by dsimp only; omega, by dsimp only; omega, h0, h1, List.getElem_mem _⟩
  · rcases List.mem_append.1 hx with hx | hx
    · exact (List.take_subset_take_left ev (Nat.le_succ j)) (h.es x hx e)
    · rw [List.mem_singleton.1 hx, take_snoc ev j hj]; exact List.mem_append_right _ (List.mem_singleton.2 rfl)
  · rw [List.pairwise_append]
    refine ⟨h.so, List.pairwise_singleton _ _, fun a ha b hb => ?_⟩
    rw [List.mem_singleton.1 hb]
    have h2 := h.er a ha
    by_cases e : a.1 = (i : Int)
    · exact .inr ⟨e, take_lt he hj _ (h.es a ha e)⟩
    · exact .inl (by dsimp only; omega)
  · obtain ⟨x, hx, h4⟩ := h.lk k h2 h3
    exact ⟨x, List.mem_append_left _ hx, h4⟩
theorem SI.new (h : SI l ev i j kn T E) (he : Inc ev) (hi : i < T.length) (hj : j < ev.length) {t : List Int} (ht : InT l t) (hk : (kget kn (keyK t)).isSome = false) : SI l ev i (j + 1) (kput kn (keyK t) (T.length : Int)) (T ++ [t]) (E ++ [((i : Int), ev[j], (T.length : Int))]) := by
  have hlen : (T ++ [t]).length = T.length + 1 := by simp
  have h0 : SI l ev i j (kput kn (keyK t) (T.length : Int)) T E ∨ True := .inr trivial
  refine ⟨by omega, ?_, fun s hs => ?_, fun s hs => ?_, fun e hx => ?_, fun x hx => ?_, fun x hx e => ?_, ?_, by have := h.el; rw [List.length_append, List.length_singleton]; omega, fun k h2 h3 => ?_⟩
  · rw [List.nodup_append]
    refine ⟨h.nd, by simp, fun a ha b hb => ?_⟩
    rw [List.mem_singleton.1 hb]
    intro e
    subst e
    rw [h.key a ha] at hk
    cases hk
  · rcases List.mem_append.1 hs with hs | hs
    · exact h.inT s hs
    · rw [List.mem_singleton.1 hs]; exact ht
  · rcases List.mem_append.1 hs with hs | hs
    · exact kput_keep (h.key s hs)
    · rw [List.mem_singleton.1 hs]; exact kput_self
  · rw [hlen]
    rcases kput_mem hx with hx | hx
    · have := h.val e hx; omega
    · rw [hx]; dsimp only; omega
  · rw [hlen]
    rcases List.mem_append.1 hx with hx | hx
    · have := h.er x hx; exact ⟨this.1, this.2.1, this.2.2.1, by omega, this.2.2.2.2⟩
    · rw [List.mem_singleton.1 hx]; exact ⟨by dsimp only; omega, by dsimp only; omega, by dsimp only; omega, by dsimp only; omega, List.getElem_mem _⟩
  · rcases List.mem_append.1 hx with hx | hx
    · exact (List.take_subset_take_left ev (Nat.le_succ j)) (h.es x hx e)
    · rw [List.mem_singleton.1 hx, take_snoc ev j hj]; exact List.mem_append_right _ (List.mem_singleton.2 rfl)
  · rw [List.pairwise_append]
    refine ⟨h.so, List.pairwise_singleton _ _, fun a ha b hb => ?_⟩
    rw [List.mem_singleton.1 hb]
    have h2 := h.er a ha
    by_cases e : a.1 = (i : Int)
    · exact .inr ⟨e, take_lt he hj _ (h.es a ha e)⟩
    · exact .inl (by dsimp only; omega)
  · by_cases h4 : k < T.length
    · obtain ⟨x, hx, h5⟩ := h.lk k h2 h4
      exact ⟨x, List.mem_append_left _ hx, h5⟩
    · have : k = T.length := by omega
      subst this
      exact ⟨_, List.mem_append_right _ (List.mem_singleton.2 rfl), rfl, by dsimp only; omega, by dsimp only; omega⟩
end
theorem sync_inner {l : List AutT} (h : LOk l) {m : List AutT × List Int × List (List ((Int × Int) × Int))} (hm : MOk l m) {i : Nat} {kn : Kno} {T : List (List Int)} {E : List (Int × Int × Int)} (z : Kno × List (List Int) × List Int × List (Int × Int × Int)) (hS : SI l m.2.1 i 0 kn T E) (hi : i < T.length) :
    ∃ kn' T' E', iter (m_product_Synchronous_l2 m ((i : Int), z)) (0, kn, T, E) = some (.inl (kn', T', E')) ∧ SI l m.2.1 (i + 1) 0 kn' T' E' ∧ i < T'.length := by
  have hal := hm.ev.len
  obtain ⟨o, h1, h2⟩ := iter_inv (f := m_product_Synchronous_l2 m ((i : Int), z)) (fun j s => s.1 = (j : Int) ∧ j ≤ m.2.1.length ∧ SI l m.2.1 i j s.2.1 s.2.2.1 s.2.2.2 ∧ i < s.2.2.1.length) (fun o => ∃ kn' T' E', o = .inl (kn', T', E') ∧ SI l m.2.1 (i + 1) 0 kn' T' E' ∧ i < T'.length) m.2.1.length 0 (by omega) (fun j s hj ⟨e1, _, hS, hi⟩ => by
      obtain ⟨k, kn, T, E⟩ := s
      dsimp only at e1 hS hi
      subst e1
      have hTl := tuples_len h hS.nd hS.inT
      have hj2 : ∀ a b c, m_product_Synchronous_j2 ((j : Int), kn, T, E) a b c = some (.inl (((j + 1 : Nat) : Int), a, b, c)) := fun a b c => by
        rw [m_product_Synchronous_j2]; dsimp only; rw [nxt (by omega)]
      have hj3 : ∀ x b n c, m_product_Synchronous_j3 ((i : Int), z) ((j : Int), kn, T, E) x b n c = some (.inl (((j + 1 : Nat) : Int), c, b, E ++ [((i : Int), x, n)])) := fun x b n c => by
        have he := hS.el
        have hi' : i < 216 := by omega
        rw [m_product_Synchronous_j3]; dsimp only; rw [app_eq (by simp; omega), Option.bind_some, hj2]
      obtain ⟨r, hr, hrT⟩ := step_ex h hm (hS.inT _ (List.getElem_mem hi)) m.2.1[j]
      left
      rw [m_product_Synchronous_l2]
      dsimp only
      rw [if_pos (ct_lt hj), idx_at hj, Option.bind_some, idx_at hi, Option.bind_some, hr, Option.bind_some]
      cases hb : r.2 with
      | false =>
        rw [if_pos (by simp), hj2]
        exact ⟨_, rfl, rfl, by omega, hS.skip, hi⟩
      | true =>
        have ht := hrT hb
        rw [if_neg (by simp), key_eq h ht, Option.bind_some]
        cases hg : kget kn (keyK r.1) with
        | none =>
          rw [if_pos (by simp), if_neg (by simp; omega), Option.bind_some, app_eq (by simp; omega), Option.bind_some, hj3]
          exact ⟨_, rfl, rfl, by omega, hS.new hm.ev.1 hi hj ht (by rw [hg]; rfl), by simp; omega⟩
        | some v =>
          obtain ⟨x, hx, rfl⟩ := kget_mem hg
          have hv := hS.val x hx
          rw [if_neg (by simp), hj3]
          exact ⟨_, rfl, rfl, by omega, hS.edge hm.ev.1 hi hj hv.1 hv.2, hi⟩) (fun s ⟨e1, _, hS, hi⟩ => by
      obtain ⟨k, kn, T, E⟩ := s
      dsimp only at e1 hS hi
      subst e1
      refine ⟨.inl (kn, T, E), ?_, kn, T, E, rfl, hS.next hal, hi⟩
      rw [m_product_Synchronous_l2]
      dsimp only
      rw [if_neg ct_ge]) (Nat.zero_le _) (0, kn, T, E) ⟨rfl, Nat.zero_le _, hS, hi⟩
  obtain ⟨kn', T', E', rfl, h3, h4⟩ := h2
  exact ⟨kn', T', E', h1, h3, h4⟩
/-- What is known of a product. -/
structure Prd (p : AutT) (n : Nat) : Prop where
  right : Right p n
  pos : 1 ≤ n
  le : n ≤ 216
  lk : ∀ k : Nat, 0 < k → k < n → ∃ x ∈ p.2.2.2, x.2.2 = (k : Int) ∧ 0 ≤ x.1 ∧ x.1 < (k : Int)
theorem sync_ex {l : List AutT} (h : LOk l) : ∃ p T n, m_product_Synchronous l = some (p, T, 0) ∧ Prd p n := by
  obtain ⟨m, hm, hM⟩ := open_ex h
  obtain ⟨t0, ht0, hT0⟩ := initial_eq h hM
  have hal := hM.ev.len
  have hS0 : SI l m.2.1 0 0 (kput ([] : Kno) (keyK t0) 0) [t0] [] := by
    refine ⟨by simp, by simp, fun t ht => ?_, fun t ht => ?_, fun e he => ?_, fun x hx => (by cases hx), fun x hx => (by cases hx), List.Pairwise.nil, by simp, fun k h0 h1 => ?_⟩
    · rw [List.mem_singleton.1 ht]; exact hT0
    · rw [List.mem_singleton.1 ht]; exact kput_self
    · rcases kput_mem he with he | he
      · cases he
      · rw [he]; simp
    · simp at h1; omega
  obtain ⟨o, h1, h2⟩ := iter_inv (f := m_product_Synchronous_l1 m) (fun i s => s.1 = (i : Int) ∧ i ≤ s.2.2.1.length ∧ SI l m.2.1 i 0 s.2.1 s.2.2.1 s.2.2.2.2 ∧ Inc s.2.2.2.1 ∧ ∀ x ∈ s.2.2.2.1, 0 ≤ x ∧ x < (i : Int)) (fun o => ∃ T M E, o = .inl (T, M, E) ∧ ∃ kn, SI l m.2.1 T.length 0 kn T E ∧ Inc M ∧ ∀ x ∈ M, 0 ≤ x ∧ x < (T.length : Int)) 216 0 (by omega) (fun i s _ ⟨e1, hle, hS, hi1, hi2⟩ => by
      obtain ⟨k, kn, T, M, E⟩ := s
      dsimp only at e1 hle hS hi1 hi2
      subst e1
      have hTl := tuples_len h hS.nd hS.inT
      by_cases hi : i < T.length
      · left
        obtain ⟨b, hb⟩ := marked_ex h hM (hS.inT _ (List.getElem_mem hi))
        obtain ⟨kn', T', E', g1, g2, g3⟩ := sync_inner h hM (kn, T, M, E) hS hi
        have hj : ∀ M', m_product_Synchronous_j1 m ((i : Int), kn, T, M, E) M' = some (.inl (((i + 1 : Nat) : Int), kn', T', M', E')) := fun M' => by
          rw [m_product_Synchronous_j1]; dsimp only; rw [g1, Option.bind_some]; dsimp only; rw [nxt (by omega)]
        rw [m_product_Synchronous_l1]
        dsimp only
        rw [if_pos (ct_lt hi), idx_at hi, Option.bind_some, hb, Option.bind_some]
        cases b with
        | false =>
          rw [if_neg (by simp), hj]
          exact ⟨_, rfl, rfl, by dsimp only; omega, g2, hi1, fun x hx => by have := hi2 x hx; omega⟩
        | true =>
          have hMl := inc_len (n := i) (lo := 0) hi1 hi2 (Int.le_refl _)
          rw [if_pos rfl, app_eq (by simp; omega), Option.bind_some, hj]
          refine ⟨_, rfl, rfl, by dsimp only; omega, g2, ?_, fun x hx => ?_⟩
          · dsimp only
            unfold Inc at hi1 ⊢
            rw [List.pairwise_append]
            exact ⟨hi1, List.pairwise_singleton _ _, fun a ha b hb => by rw [List.mem_singleton.1 hb]; exact (hi2 a ha).2⟩
          · dsimp only at hx
            rcases List.mem_append.1 hx with hx | hx
            · have := hi2 x hx; omega
            · rw [List.mem_singleton.1 hx]; omega
      · right
        obtain rfl : i = T.length := by omega
        refine ⟨.inl (T, M, E), ?_, T, M, E, rfl, kn, hS, hi1, hi2⟩
        rw [m_product_Synchronous_l1]
        dsimp only
        rw [if_neg ct_ge]) (fun s ⟨e1, hle, hS, hi1, hi2⟩ => by
      obtain ⟨k, kn, T, M, E⟩ := s
      dsimp only at e1 hle hS hi1 hi2
      subst e1
      have hTl := tuples_len h hS.nd hS.inT
      have hT : 216 = T.length := by omega
      refine ⟨.inl (T, M, E), ?_, T, M, E, rfl, kn, by rw [← hT]; exact hS, hi1, by rw [← hT]; exact hi2⟩
      rw [m_product_Synchronous_l1]
      dsimp only
      rw [hT, if_neg ct_ge]) (Nat.zero_le _) (0, kput ([] : Kno) (keyK t0) 0, [t0], [], []) ⟨rfl, by simp, hS0, List.Pairwise.nil, fun x hx => (by cases hx)⟩
  obtain ⟨T, M, E, rfl, kn, hS, hi1, hi2⟩ := h2
  have hTl := tuples_len h hS.nd hS.inT
  refine ⟨(m.2.1, (T.length : Int), M, E), T, T.length, ?_, ⟨rfl, by omega, hM.ev.1, hM.ev.2, hi1, hi2, fun x hx => ?_, hS.so, by dsimp only; omega, ?_, ?_⟩, hS.pos, hTl, hS.lk⟩
  · rw [m_product_Synchronous, pcheck_eq h, Option.bind_some, if_neg (by simp), hm, Option.bind_some, ht0, Option.bind_some, if_neg (by simp)]
    dsimp only
    rw [key_eq h hT0, Option.bind_some, h1]
    rfl
  · have := hS.er x hx
    have h3 := hS.es x hx
    refine ⟨this.1, ?_, this.2.2⟩
    rcases Int.lt_or_le x.1 (T.length : Int) with h4 | h4
    · exact h4
    · exact absurd (h3 (by omega)) (by simp)
  · have := inc_len (n := T.length) (lo := 0) hi1 hi2 (Int.le_refl _)
    dsimp only
    omega
  · have := hS.el
    dsimp only
    omega
end Go.Proofs.YtfbapajcheammaaDoor

namespace Go.Proofs.YtfbapajcheammaaDoor
open Go Go.RowKit
/-- A state is reached from another. -/
def Rch (es : List Ed) (x y : Int) : Prop := ∃ k, ReachIn es [y] k x
theorem reachIn_iff {es : List Ed} {tg : List Int} : ∀ {k : Nat} {x : Int}, ReachIn es tg k x ↔ ∃ y ∈ tg, ReachIn es [y] k x
  | 0, x => by simp [ReachIn]
  | k + 1, x => by
    constructor
    · rintro ⟨e, he, h1, h2⟩
      obtain ⟨y, hy, h3⟩ := reachIn_iff.1 h2
      exact ⟨y, hy, e, he, h1, h3⟩
    · rintro ⟨y, hy, e, he, h1, h2⟩
      exact ⟨e, he, h1, reachIn_iff.2 ⟨y, hy, h2⟩⟩
theorem ReachIn.snoc {es : List Ed} : ∀ {k : Nat} {x : Int} {e : Ed}, e ∈ es → ReachIn es [e.f] k x → ReachIn es [e.t] (k + 1) x
  | 0, x, e, he, h => ⟨e, he, (List.mem_singleton.1 h).symm, List.mem_singleton.2 rfl⟩
  | k + 1, x, e, he, ⟨y, hy, h1, h2⟩ => ⟨y, hy, h1, h2.snoc he⟩
theorem Rch.refl (es : List Ed) (x : Int) : Rch es x x := ⟨0, List.mem_singleton.2 rfl⟩
theorem Rch.snoc {es : List Ed} {x : Int} {e : Ed} (he : e ∈ es) (h : Rch es x e.f) : Rch es x e.t := by
  obtain ⟨k, h⟩ := h
  exact ⟨k + 1, h.snoc he⟩
theorem reachIn_closed {es : List Ed} {S : Int → Prop} (hS : ∀ e ∈ es, S e.f → S e.t) {y : Int} : ∀ {k : Nat} {x : Int}, S x → ReachIn es [y] k x → S y
  | 0, x, h, h1 => by rw [← List.mem_singleton.1 h1]; exact h
  | k + 1, x, h, ⟨e, he, h1, h2⟩ => reachIn_closed hS (hS e he (h1 ▸ h)) h2
theorem Rch.closed {es : List Ed} {S : Int → Prop} (hS : ∀ e ∈ es, S e.f → S e.t) {x y : Int} (h : S x) (hr : Rch es x y) : S y := by
  obtain ⟨k, hr⟩ := hr
  exact reachIn_closed hS h hr
theorem leads_reach {es : List Ed} {perm : Ed → Bool} : ∀ {u : List Int} {s t : Int}, Leads es perm s u t → ReachIn es [t] u.length s
  | [], s, t, h => List.mem_singleton.2 h
  | e :: u, s, t, ⟨x, hx, h1, h2, h3, h4⟩ => ⟨x, hx, h1, leads_reach h4⟩
theorem reach_leads {es : List Ed} {perm : Ed → Bool} (hp : ∀ x ∈ es, perm x = true) {t : Int} : ∀ {k : Nat} {s : Int}, ReachIn es [t] k s → ∃ u : List Int, u.length = k ∧ Leads es perm s u t
  | 0, s, h => ⟨[], rfl, List.mem_singleton.1 h⟩
  | k + 1, s, ⟨x, hx, h1, h2⟩ => by
    obtain ⟨u, h3, h4⟩ := reach_leads hp h2
    exact ⟨x.e :: u, by rw [List.length_cons, h3], x, hx, h1, rfl, hp x hx, h4⟩
theorem allL_inc (n : Nat) : Inc (allL n) := by
  unfold allL Inc
  rw [List.pairwise_map]
  exact List.Pairwise.imp (fun {a b} h => by omega) List.pairwise_lt_range
theorem allL_in (n : Nat) : ∀ x ∈ allL n, 0 ≤ x ∧ x < (n : Int) := by
  intro x hx
  obtain ⟨i, hi, rfl⟩ := List.mem_map.1 hx
  have := List.mem_range.1 hi
  omega
theorem allL_has {n : Nat} {s : Int} (h0 : 0 ≤ s) (h1 : s < n) : hasB (allL n) s = true := by
  rw [hasB_true]
  exact List.mem_map.2 ⟨s.toNat, List.mem_range.2 (by omega), by omega⟩
/-- What reach.Path says of a right automaton, within all of its states. -/
structure PathSays (es : List Ed) (tg : List Int) (x : Int) (r : List Int × Bool × Int) : Prop where
  err : r.2.2 = 0
  no : r.2.1 = false → r.1 = [] ∧ ∀ k, ¬ ReachIn es tg k x
  yes : r.2.1 = true → ReachIn es tg r.1.length x ∧ ∀ j, j < r.1.length → ¬ ReachIn es tg j x
theorem path_ex {p : AutT} {n : Nat} (h : Right p n) {x : Int} (x0 : 0 ≤ x) (x1 : x < (n : Int)) {tg : List Int} (hi : Inc tg) (hr : ∀ y ∈ tg, 0 ≤ y ∧ y < (n : Int)) (hl : tg.length ≤ 1000000) :
    ∃ r, m_reach_Path p x tg (allL n) = some r ∧ PathSays (p.2.2.2.map toEd) tg x r := by
  have hn := h.nl
  have hN : (toAut p).n = n := h.nn
  have hpe : pathErr (toAut p) x tg (allL n) = 0 := by
    unfold pathErr
    rw [h.err, hN, if_neg (by omega), setErr_ok hi hr (fun q hq => by cases hq), setErr_ok (allL_inc n) (allL_in n) (fun q hq => by cases hq)]
    rfl
  have hall := allL_len n
  have hp : ∀ e ∈ (p.2.2.2.map toEd), (fun e : Ed => hasB (allL n) e.t) e = true := fun e he => by
    have := h.ein e he
    exact allL_has this.2.2.1 this.2.2.2
  have hpa : reachPath (toAut p) x tg (allL n) = pathF n (p.2.2.2.map toEd) (hasB tg) (fun e => hasB (allL n) e.t) x.toNat := by
    unfold reachPath
    rw [if_pos (allL_has x0 x1), hN, Int.toNat_natCast]
    rfl
  have hs := pathF_says (es := p.2.2.2.map toEd) (perm := fun e => hasB (allL n) e.t) (want := hasB tg) (from_ := x.toNat) (n := n) h.sorted (fun e he => (h.ein e he).2.2) h.evs (by omega)
  rw [Int.toNat_of_nonneg x0] at hs
  have hc : p.1.length ≤ 1000000 ∧ p.2.2.1.length ≤ 1000000 ∧ p.2.2.2.length ≤ 1000000 ∧ tg.length ≤ 1000000 ∧ (allL n).length ≤ 1000000 := ⟨h.l1, h.l2, h.l3, hl, by omega⟩
  rw [m_reach_Path, if_pos hc, if_pos hpe, hpa]
  generalize pathF n (p.2.2.2.map toEd) (hasB tg) (fun e => hasB (allL n) e.t) x.toNat = r at hs ⊢
  cases r with
  | none =>
    refine ⟨_, rfl, rfl, fun _ => ⟨rfl, fun k hk => ?_⟩, fun e => by cases e⟩
    obtain ⟨y, hy, h1⟩ := reachIn_iff.1 hk
    obtain ⟨u, _, h2⟩ := reach_leads hp h1
    have h3 := hs u y h2
    rw [hasB_true.2 hy] at h3
    cases h3
  | some w =>
    refine ⟨_, rfl, rfl, fun e => (by cases e), fun _ => ⟨?_, fun j hj hk => ?_⟩⟩
    · obtain ⟨t, h1, h2⟩ := hs.leads
      exact reachIn_iff.2 ⟨t, hasB_true.1 h2, leads_reach h1⟩
    · obtain ⟨y, hy, h1⟩ := reachIn_iff.1 hk
      obtain ⟨u, hu, h2⟩ := reach_leads hp h1
      have h3 := hs.le u y h2 (hasB_true.2 hy) (Nat.zero_le _)
      have h4 := wval_len hs.ev (h2.evs h.evs) h3
      dsimp only at hj
      omega

/-- What holds while from searches: the list is closed below i. -/
structure FI (p : AutT) (n : Nat) (x : Int) (i : Nat) (F : List Bool) (L : List Int) : Prop where
  len : F.length = n
  nd : L.Nodup
  mem : ∀ y ∈ L, 0 ≤ y ∧ y < (n : Int) ∧ Rch (p.2.2.2.map toEd) x y
  tr : ∀ y : Nat, y < n → (F[y]? = some true ↔ (y : Int) ∈ L)
  st : x ∈ L
  done : ∀ j (h : j < L.length), j < i → ∀ e ∈ p.2.2.2, e.1 = L[j] → e.2.2 ∈ L
section
variable {p : AutT} {n : Nat} {x : Int} {i : Nat} {F : List Bool} {L : List Int}
theorem FI.le (h : FI p n x i F L) : L.length ≤ n := by
  have := nodup_len n (L.map Int.toNat) ?_ ?_
  · rwa [List.length_map] at this
  · rw [List.Nodup, List.pairwise_map]
    refine List.Pairwise.imp_of_mem (fun {a b} ha hb hab e => hab ?_) h.nd
    have h1 := h.mem a ha
    have h2 := h.mem b hb
    omega
  · intro y hy
    obtain ⟨z, hz, rfl⟩ := List.mem_map.1 hy
    have := h.mem z hz
    omega
theorem FI.push (h : FI p n x i F L) {y : Nat} (hy : y < n) (hn : (y : Int) ∉ L) (hr : Rch (p.2.2.2.map toEd) x y) (hi : i ≤ L.length) : FI p n x i (F.set y true) (L ++ [(y : Int)]) := by
  have hl := h.len
  refine ⟨by rw [List.length_set]; exact hl, ?_, fun z hz => ?_, fun z hz => ?_, List.mem_append_left _ h.st, fun j hj hji e he h1 => ?_⟩
  · rw [List.nodup_append]
    refine ⟨h.nd, by simp, fun a ha b hb => ?_⟩
    rw [List.mem_singleton.1 hb]
    exact fun e => hn (e ▸ ha)
  · rcases List.mem_append.1 hz with hz | hz
    · exact h.mem z hz
    · rw [List.mem_singleton.1 hz]; exact ⟨by omega, by omega, hr⟩
  · by_cases e : y = z
    · subst e
      rw [List.getElem?_set_self (by omega)]
      exact ⟨fun _ => List.mem_append_right _ (List.mem_singleton.2 rfl), fun _ => rfl⟩
    · rw [List.getElem?_set_ne e, h.tr z hz, List.mem_append, List.mem_singleton]
      exact ⟨.inl, fun h => h.resolve_right (by omega)⟩
  · rw [List.getElem_append_left (by omega)] at h1
    exact List.mem_append_left _ (h.done j (by omega) hji e he h1)
end
theorem from_inner {p : AutT} {n : Nat} (hR : Right p n) {x : Int} {i : Nat} {F : List Bool} {L : List Int} (h : FI p n x i F L) (hi : i < L.length) :
    ∃ F' L', iter (m_overseerlaw24_from_l2 p ((i : Int), F, L)) (0, F, L) = some (F', L') ∧ FI p n x (i + 1) F' L' ∧ i < L'.length := by
  have hl3 := hR.l3
  have hnl := hR.nl
  obtain ⟨c, hc⟩ : ∃ c, L[i]? = some c := ⟨_, List.getElem?_eq_getElem hi⟩
  obtain ⟨o, h1, h2⟩ := iter_inv (f := m_overseerlaw24_from_l2 p ((i : Int), F, L)) (fun k s => k ≤ p.2.2.2.length ∧ s.1 = (k : Int) ∧ FI p n x i s.2.1 s.2.2 ∧ s.2.2[i]? = some c ∧ ∀ e ∈ p.2.2.2.take k, e.1 = c → e.2.2 ∈ s.2.2) (fun o => FI p n x (i + 1) o.1 o.2 ∧ i < o.2.length) p.2.2.2.length 0 (by omega) (fun k s hk ⟨_, e1, g1, g2, g3⟩ => by
      obtain ⟨k', F, L⟩ := s
      dsimp only at e1 g1 g2 g3
      subst e1
      obtain ⟨hiL, hiE⟩ := List.getElem?_eq_some_iff.1 g2
      have hLn := g1.le
      have hx := hR.es _ (List.getElem_mem hk)
      obtain ⟨y, hy⟩ := Int.eq_ofNat_of_zero_le hx.2.2.1
      have hyn : y < n := by omega
      have hyF : y < F.length := by rw [g1.len]; exact hyn
      have hj1 : ∀ u v, m_overseerlaw24_from_j1 ((k : Int), F, L) u v = some (.inl (((k + 1 : Nat) : Int), v, u)) := fun u v => by
        rw [m_overseerlaw24_from_j1]; dsimp only; rw [nxt (by omega)]
      have htr := g1.tr y hyn
      rw [List.getElem?_eq_getElem hyF] at htr
      have hts : ∀ e ∈ p.2.2.2.take (k + 1), e ∈ p.2.2.2.take k ∨ e = p.2.2.2[k] := fun e he => by
        rw [take_snoc p.2.2.2 k hk] at he
        rcases List.mem_append.1 he with he | he
        · exact .inl he
        · exact .inr (List.mem_singleton.1 he)
      left
      rw [m_overseerlaw24_from_l2]
      dsimp only
      rw [if_pos (ct_lt hk), idx_at hk, Option.bind_some, Option.bind_some, idx_at hiL, Option.bind_some]
      by_cases hf : p.2.2.2[k].1 = L[i]
      · rw [if_pos (by simpa using hf), hy, idx_at hyF, Option.bind_some, m_overseerlaw24_from_j2]
        by_cases hb : F[y] = true
        · rw [if_neg (by simp [hb])]
          dsimp only
          rw [hj1]
          refine ⟨_, rfl, by omega, rfl, g1, g2, fun e he h1 => ?_⟩
          rcases hts e he with he | he
          · exact g3 e he h1
          · rw [he, hy]; exact htr.1 (by rw [hb])
        · have hnL : (y : Int) ∉ L := fun hm => hb (by have := htr.2 hm; simpa using this)
          rw [if_pos (by simp [hb])]
          dsimp only
          rw [hy, idx_at hyF, Option.bind_some, upd_at hyF, Option.bind_some, app_eq (by simp; omega), Option.bind_some, hj1]
          have hrch : Rch (p.2.2.2.map toEd) x y := by
            have := Rch.snoc (es := p.2.2.2.map toEd) (x := x) (e := toEd p.2.2.2[k]) (List.mem_map.2 ⟨_, List.getElem_mem hk, rfl⟩) (by
              show Rch _ x p.2.2.2[k].1
              rw [hf]; exact (g1.mem _ (List.getElem_mem hiL)).2.2)
            rw [← hy]; exact this
          refine ⟨_, rfl, by omega, rfl, g1.push hyn hnL hrch (by omega), ?_, fun e he h1 => ?_⟩
          · dsimp only; rw [List.getElem?_append_left hiL]; exact g2
          · rcases hts e he with he | he
            · exact List.mem_append_left _ (g3 e he h1)
            · rw [he, hy]; exact List.mem_append_right _ (List.mem_singleton.2 rfl)
      · rw [if_neg (by simpa using hf), m_overseerlaw24_from_j2, if_neg (by simp)]
        dsimp only
        rw [hj1]
        refine ⟨_, rfl, by omega, rfl, g1, g2, fun e he h1 => ?_⟩
        rcases hts e he with he | he
        · exact g3 e he h1
        · rw [he, ← hiE] at h1; exact absurd h1 hf) (fun s ⟨_, e1, g1, g2, g3⟩ => by
      obtain ⟨k', F, L⟩ := s
      dsimp only at e1 g1 g2 g3
      subst e1
      obtain ⟨hiL, hiE⟩ := List.getElem?_eq_some_iff.1 g2
      refine ⟨(F, L), ?_, ⟨g1.len, g1.nd, g1.mem, g1.tr, g1.st, fun j hj hji e he h1 => ?_⟩, hiL⟩
      · rw [m_overseerlaw24_from_l2]
        dsimp only
        rw [if_neg ct_ge]
      · by_cases e : j < i
        · exact g1.done j hj e _ he h1
        · have : j = i := by omega
          subst this
          rw [List.take_length] at g3
          exact g3 _ he (h1.trans hiE)) (Nat.zero_le _) (0, F, L) ⟨Nat.zero_le _, rfl, h, hc, fun e he => by simp at he⟩
  exact ⟨o.1, o.2, h1, h2.1, h2.2⟩
/-- The states that are reached. -/
theorem from_ex {p : AutT} {n : Nat} (hR : Right p n) {x : Nat} (hx : x < n) : ∃ F, m_overseerlaw24_from p (x : Int) = some F ∧ F.length = n ∧ ∀ y : Nat, y < n → (F[y]? = some true ↔ Rch (p.2.2.2.map toEd) x y) := by
  have hnl := hR.nl
  have h0 : FI p n (x : Int) 0 ((List.replicate n false).set x true) [(x : Int)] := by
    refine ⟨by simp, by simp, fun y hy => ?_, fun y hy => ?_, List.mem_singleton.2 rfl, fun j hj hji => absurd hji (by omega)⟩
    · rw [List.mem_singleton.1 hy]; exact ⟨by omega, by omega, Rch.refl _ _⟩
    · rw [List.mem_singleton]
      by_cases e : x = y
      · subst e; rw [List.getElem?_set_self (by simpa using hx)]; simp
      · rw [List.getElem?_set_ne e, List.getElem?_replicate, if_pos hy]
        simp; omega
  obtain ⟨o, h1, h2⟩ := iter_inv (f := m_overseerlaw24_from_l1 p) (fun i s => s.1 = (i : Int) ∧ FI p n x i s.2.1 s.2.2 ∧ i ≤ s.2.2.length) (fun F => ∃ L, FI p n x L.length F L) n 0 (by omega) (fun i s _ ⟨e1, g1, g2⟩ => by
      obtain ⟨k, F, L⟩ := s
      dsimp only at e1 g1 g2
      subst e1
      have hle := g1.le
      by_cases hi : i < L.length
      · obtain ⟨F', L', g3, g4, g5⟩ := from_inner hR g1 hi
        left
        rw [m_overseerlaw24_from_l1]
        dsimp only
        rw [if_pos (ct_lt hi), g3, Option.bind_some, nxt (by omega)]
        exact ⟨_, rfl, rfl, g4, g5⟩
      · obtain rfl : i = L.length := by omega
        right
        refine ⟨F, ?_, L, g1⟩
        rw [m_overseerlaw24_from_l1]
        dsimp only
        rw [if_neg ct_ge]) (fun s ⟨e1, g1, g2⟩ => by
      obtain ⟨k, F, L⟩ := s
      dsimp only at e1 g1 g2
      subst e1
      have hle := g1.le
      obtain rfl : n = L.length := by omega
      refine ⟨F, ?_, L, g1⟩
      rw [m_overseerlaw24_from_l1]
      dsimp only
      rw [if_neg ct_ge]) (Nat.zero_le _) (0, (List.replicate n false).set x true, [(x : Int)]) ⟨rfl, h0, by simp⟩
  have hm : mkL p.2.1 false = some (List.replicate n false) := by unfold mkL; rw [hR.nn, if_pos ⟨by omega, by omega⟩, Int.toNat_natCast]
  have hxl : x < (List.replicate n false).length := by simpa using hx
  obtain ⟨L, h2⟩ := h2
  refine ⟨o, ?_, h2.len, fun y hy => ?_⟩
  · rw [m_overseerlaw24_from, hm, Option.bind_some, idx_at hxl, Option.bind_some, upd_at hxl, Option.bind_some, h1]
    rfl
  · rw [h2.tr y hy]
    refine ⟨fun hm => (h2.mem _ hm).2.2, fun hr => ?_⟩
    refine hr.closed (S := fun z => z ∈ L) (fun e he hf => ?_) h2.st
    obtain ⟨z, hz, rfl⟩ := List.mem_map.1 he
    obtain ⟨j, hj, hje⟩ := List.getElem_of_mem hf
    exact h2.done j hj hj z hz hje.symm
end Go.Proofs.YtfbapajcheammaaDoor

namespace Go.Proofs.YtfbapajcheammaaDoor
open Go Go.RowKit
/-- A loop that looks for the first number of some kind. -/
theorem find_loop {R : Type} {f : Int → Option (Int ⊕ (Unit ⊕ R))} (n : Nat) (hn : n ≤ 4000000) (b : Nat → Bool) (r : Nat → R) (step : ∀ i, i < n → f (i : Int) = if b i = true then some (.inr (.inr (r i))) else some (.inl ((i + 1 : Nat) : Int))) (last : f (n : Int) = some (.inr (.inl ()))) :
    ∃ o, iter f 0 = some o ∧ ((o = .inl () ∧ ∀ i, i < n → b i = false) ∨ ∃ i, i < n ∧ o = .inr (r i) ∧ b i = true ∧ ∀ j, j < i → b j = false) := by
  refine iter_inv (f := f) (fun i s => s = (i : Int) ∧ ∀ j, j < i → b j = false) _ n 0 (by omega) (fun i s hi ⟨e1, g1⟩ => ?_) (fun s ⟨e1, g1⟩ => ?_) (Nat.zero_le _) 0 ⟨rfl, fun j hj => absurd hj (by omega)⟩
  · subst e1
    rw [step i hi]
    cases hb : b i with
    | true => exact .inr ⟨_, rfl, .inr ⟨i, hi, rfl, hb, g1⟩⟩
    | false =>
      refine .inl ⟨_, rfl, rfl, fun j hj => ?_⟩
      by_cases h : j < i
      · exact g1 j h
      · obtain rfl : j = i := by omega
        exact hb
  · subst e1
    exact ⟨_, last, .inl ⟨rfl, g1⟩⟩
theorem lhas_eq {xs : List Int} {x : Int} (hl : xs.length ≤ 4000000) : m_overseerlaw24_has xs x = some (hasB xs x) := by
  obtain ⟨o, h1, h2⟩ := find_loop (f := m_overseerlaw24_has_l1 xs x) xs.length hl (fun i => xs.getD i 0 == x) (fun _ => ()) (fun i hi => by
      rw [m_overseerlaw24_has_l1, if_pos (ct_lt hi), idx_at hi, Option.bind_some, nxt (by omega), List.getD_eq_getElem?_getD, List.getElem?_eq_getElem hi]; rfl) (by rw [m_overseerlaw24_has_l1, if_neg ct_ge])
  rw [m_overseerlaw24_has, h1, Option.bind_some]
  rcases h2 with ⟨rfl, h3⟩ | ⟨i, hi, rfl, h3, _⟩
  · rw [hasB_false.2]
    intro hm
    obtain ⟨k, hk, rfl⟩ := List.getElem_of_mem hm
    have := h3 k hk
    rw [List.getD_eq_getElem?_getD, List.getElem?_eq_getElem hk] at this
    simp at this
  · rw [List.getD_eq_getElem?_getD, List.getElem?_eq_getElem hi] at h3
    rw [hasB_true.2]
    rw [← eq_of_beq h3]
    exact List.getElem_mem _
theorem meets_ex {F : List Bool} {ms : List Int} (hl : ms.length ≤ 4000000) (hr : ∀ y ∈ ms, 0 ≤ y ∧ y < (F.length : Int)) : ∃ b, m_overseerlaw24_meets F ms = some b ∧ (b = true ↔ ∃ y ∈ ms, F[y.toNat]? = some true) := by
  obtain ⟨o, h1, h2⟩ := find_loop (f := m_overseerlaw24_meets_l1 F ms) ms.length hl (fun i => F.getD (ms.getD i 0).toNat false) (fun _ => ()) (fun i hi => by
      have h0 := hr _ (List.getElem_mem hi)
      obtain ⟨y, hy⟩ := Int.eq_ofNat_of_zero_le h0.1
      have hyF : y < F.length := by omega
      rw [m_overseerlaw24_meets_l1, if_pos (ct_lt hi), idx_at hi, Option.bind_some, hy, idx_at hyF, Option.bind_some, nxt (by omega), List.getD_eq_getElem?_getD (l := ms), List.getElem?_eq_getElem hi, Option.getD_some, hy, Int.toNat_natCast, List.getD_eq_getElem?_getD, List.getElem?_eq_getElem hyF]; rfl) (by rw [m_overseerlaw24_meets_l1, if_neg ct_ge])
  have hg : ∀ (i : Nat) (hi : i < ms.length), (F.getD (ms.getD i 0).toNat false = true ↔ F[ms[i].toNat]? = some true) := fun i hi => by
    have h0 := hr _ (List.getElem_mem hi)
    have hyF : ms[i].toNat < F.length := by omega
    rw [List.getD_eq_getElem?_getD (l := ms), List.getElem?_eq_getElem hi, Option.getD_some, List.getD_eq_getElem?_getD, List.getElem?_eq_getElem hyF]
    simp
  rw [m_overseerlaw24_meets, h1, Option.bind_some]
  rcases h2 with ⟨rfl, h3⟩ | ⟨i, hi, rfl, h3, _⟩
  · refine ⟨_, rfl, fun e => (by cases e), fun ⟨y, hy, hF⟩ => ?_⟩
    obtain ⟨k, hk, rfl⟩ := List.getElem_of_mem hy
    have := (hg k hk).2 hF
    rw [h3 k hk] at this
    exact this
  · exact ⟨_, rfl, fun _ => ⟨_, List.getElem_mem hi, (hg i hi).1 h3⟩, fun _ => rfl⟩
/-- No edge leads from a state. -/
def DeadS (p : AutT) (x : Int) : Prop := ∀ e ∈ p.2.2.2, e.1 ≠ x
theorem dead_ex {p : AutT} {x : Int} (hl : p.2.2.2.length ≤ 4000000) : ∃ b, m_overseerlaw24_dead p x = some b ∧ (b = true ↔ DeadS p x) := by
  obtain ⟨o, h1, h2⟩ := find_loop (f := m_overseerlaw24_dead_l1 p x) p.2.2.2.length hl (fun i => (p.2.2.2.getD i (0, 0, 0)).1 == x) (fun _ => ()) (fun i hi => by
      rw [m_overseerlaw24_dead_l1, if_pos (ct_lt hi), idx_at hi, Option.bind_some, nxt (by omega), List.getD_eq_getElem?_getD, List.getElem?_eq_getElem hi]; rfl) (by rw [m_overseerlaw24_dead_l1, if_neg ct_ge])
  rw [m_overseerlaw24_dead, h1, Option.bind_some]
  rcases h2 with ⟨rfl, h3⟩ | ⟨i, hi, rfl, h3, _⟩
  · refine ⟨_, rfl, fun _ e he h => ?_, fun _ => rfl⟩
    obtain ⟨k, hk, rfl⟩ := List.getElem_of_mem he
    have := h3 k hk
    rw [List.getD_eq_getElem?_getD, List.getElem?_eq_getElem hk] at this
    simp [h] at this
  · refine ⟨_, rfl, fun e => (by cases e), fun hd => ?_⟩
    rw [List.getD_eq_getElem?_getD, List.getElem?_eq_getElem hi] at h3
    exact absurd (eq_of_beq h3) (hd _ (List.getElem_mem hi))

abbrev edsOf (p : AutT) : List Ed := p.2.2.2.map toEd
/-- No marked state is reached. -/
def NoM (p : AutT) (x : Int) : Prop := ∀ k, ¬ ReachIn (edsOf p) p.2.2.1 k x
/-- The kind of a state. -/
def KindIs (p : AutT) (x k : Int) : Prop :=
  (k = 1 ∧ x ∈ p.2.2.1) ∨ (k = 2 ∧ x ∉ p.2.2.1 ∧ ¬ NoM p x) ∨ (k = 3 ∧ NoM p x ∧ DeadS p x) ∨
  (k = 5 ∧ NoM p x ∧ ¬ DeadS p x ∧ ∃ y, Rch (edsOf p) x y ∧ DeadS p y) ∨ (k = 4 ∧ NoM p x ∧ ¬ DeadS p x ∧ ∀ y, Rch (edsOf p) x y → ¬ DeadS p y)
theorem NoM.not {p : AutT} {x : Int} (h : NoM p x) : x ∉ p.2.2.1 := fun hx => h 0 hx
theorem KindIs.block {p : AutT} {x k : Int} (h : KindIs p x k) : (3 ≤ k ∧ k ≤ 5) ↔ NoM p x := by
  have hn : NoM p x → x ∉ p.2.2.1 := NoM.not
  rcases h with ⟨rfl, h1⟩ | ⟨rfl, h1, h2⟩ | ⟨rfl, h1, h2⟩ | ⟨rfl, h1, h2, y, h3, h4⟩ | ⟨rfl, h1, h2, h3⟩
  · exact ⟨fun h => by omega, fun h => absurd h1 (hn h)⟩
  · exact ⟨fun h => by omega, fun h => absurd h h2⟩
  · exact ⟨fun _ => h1, fun _ => by omega⟩
  · exact ⟨fun _ => h1, fun _ => by omega⟩
  · exact ⟨fun _ => h1, fun _ => by omega⟩
theorem noM_iff {p : AutT} {x : Int} : NoM p x ↔ ∀ y ∈ p.2.2.1, ¬ Rch (edsOf p) x y := by
  constructor
  · rintro h y hy ⟨k, hk⟩
    exact h k (reachIn_iff.2 ⟨y, hy, hk⟩)
  · intro h k hk
    obtain ⟨y, hy, h1⟩ := reachIn_iff.1 hk
    exact h y hy ⟨k, h1⟩
theorem Right.rch {p : AutT} {n : Nat} (hR : Right p n) {x y : Int} (h0 : 0 ≤ x ∧ x < (n : Int)) (h : Rch (edsOf p) x y) : 0 ≤ y ∧ y < (n : Int) :=
  h.closed (S := fun z => 0 ≤ z ∧ z < (n : Int)) (fun e he _ => (hR.ein e he).2.2) h0
theorem kind_ex {p : AutT} {n : Nat} (hR : Right p n) {x : Nat} (hx : x < n) : ∃ k, m_overseerlaw24_kind p (x : Int) = some k ∧ KindIs p x k := by
  have hnl := hR.nl
  have hl2 := hR.l2
  have hl3 := hR.l3
  obtain ⟨F, hF, hFl, hFr⟩ := from_ex hR hx
  have hrx : ∀ y, Rch (edsOf p) x y → 0 ≤ y ∧ y < (n : Int) := fun y => hR.rch ⟨by omega, by omega⟩
  obtain ⟨b, hb, hbi⟩ := meets_ex (F := F) (ms := p.2.2.1) (by omega) (fun y hy => by rw [hFl]; exact hR.msr y hy)
  obtain ⟨d, hd, hdi⟩ := dead_ex (p := p) (x := (x : Int)) (by omega)
  rw [m_overseerlaw24_kind, hF, Option.bind_some, lhas_eq (by omega), Option.bind_some]
  cases hm : hasB p.2.2.1 (x : Int) with
  | true =>
    rw [if_pos rfl]
    exact ⟨_, rfl, .inl ⟨rfl, hasB_true.1 hm⟩⟩
  | false =>
    have hm' := hasB_false.1 hm
    rw [if_neg (by simp), hb, Option.bind_some]
    cases b with
    | true =>
      rw [if_pos rfl]
      obtain ⟨y, hy, h1⟩ := hbi.1 rfl
      have h2 := hR.msr y hy
      have h3 := (hFr y.toNat (by omega)).1 h1
      rw [Int.toNat_of_nonneg h2.1] at h3
      exact ⟨_, rfl, .inr (.inl ⟨rfl, hm', fun h => noM_iff.1 h y hy h3⟩)⟩
    | false =>
      have hno : NoM p x := noM_iff.2 fun y hy hr => by
        have h2 := hR.msr y hy
        have h3 := (hFr y.toNat (by omega)).2 (by rw [Int.toNat_of_nonneg h2.1]; exact hr)
        have := hbi.2 ⟨y, hy, h3⟩
        cases this
      rw [if_neg (by simp), hd, Option.bind_some]
      cases d with
      | true =>
        rw [if_pos rfl]
        exact ⟨_, rfl, .inr (.inr (.inl ⟨rfl, hno, hdi.1 rfl⟩))⟩
      | false =>
        have hnd : ¬ DeadS p x := fun h => by have := hdi.2 h; cases this
        rw [if_neg (by simp)]
        have hdd : ∀ y : Int, ∃ b, m_overseerlaw24_dead p y = some b ∧ (b = true ↔ DeadS p y) := fun y => dead_ex (by omega)
        obtain ⟨o, h1, h2⟩ := find_loop (f := m_overseerlaw24_kind_l1 p F) n (by omega) (fun i => F.getD i false && (m_overseerlaw24_dead p (i : Int)).getD false) (fun _ => ()) (fun i hi => by
            obtain ⟨b, hb, _⟩ := hdd i
            have hiF : i < F.length := by omega
            rw [m_overseerlaw24_kind_l1, hR.nn, if_pos (ct_lt hi), idx_at hiF, Option.bind_some, hb, nxt (by omega), List.getD_eq_getElem?_getD, List.getElem?_eq_getElem hiF]
            simp only [Option.bind_some, Option.getD_some]
            cases F[i] <;> simp) (by rw [m_overseerlaw24_kind_l1, hR.nn, if_neg ct_ge])
        rw [h1, Option.bind_some]
        rcases h2 with ⟨rfl, h3⟩ | ⟨i, hi, rfl, h3, _⟩
        · refine ⟨_, rfl, .inr (.inr (.inr (.inr ⟨rfl, hno, hnd, fun y hy hdy => ?_⟩)))⟩
          have hyn := hrx y hy
          have h4 := h3 y.toNat (by omega)
          obtain ⟨b, hb, hbi⟩ := hdd y
          have h5 := (hFr y.toNat (by omega)).2 (by rw [Int.toNat_of_nonneg hyn.1]; exact hy)
          rw [Int.toNat_of_nonneg hyn.1, hb, hbi.2 hdy, List.getD_eq_getElem?_getD, h5] at h4
          cases h4
        · obtain ⟨b, hb, hbi⟩ := hdd i
          rw [hb, Bool.and_eq_true] at h3
          have hiF : i < F.length := by omega
          have h4 : F[i]? = some true := by
            have := h3.1
            rw [List.getD_eq_getElem?_getD, List.getElem?_eq_getElem hiF] at this
            rw [List.getElem?_eq_getElem hiF, ← this]; rfl
          exact ⟨_, rfl, .inr (.inr (.inr (.inl ⟨rfl, hno, hnd, i, (hFr i hi).1 h4, hbi.1 h3.2⟩)))⟩
/-- A list holds the kinds of all states. -/
def KindsOf (p : AutT) (n : Nat) (ks : List Int) : Prop := ks.length = n ∧ ∀ i (h : i < ks.length), KindIs p (i : Int) ks[i]
theorem kinds_ex {p : AutT} {n : Nat} (hR : Right p n) : ∃ ks, m_overseerlaw24_kinds p = some ks ∧ KindsOf p n ks := by
  have hnl := hR.nl
  obtain ⟨o, h1, h2⟩ := iter_inv (f := m_overseerlaw24_kinds_l1 p) (fun i s => s.1 = (i : Int) ∧ KindsOf p i s.2) (fun o => KindsOf p n o) n 0 (by omega) (fun i s hi ⟨e1, g1, g2⟩ => by
      obtain ⟨k, out⟩ := s
      dsimp only at e1 g1 g2
      subst e1
      obtain ⟨k, hk, hki⟩ := kind_ex hR hi
      refine .inl ⟨(((i + 1 : Nat) : Int), out ++ [k]), ?_, rfl, by simp [g1], fun j hj => ?_⟩
      · rw [m_overseerlaw24_kinds_l1]
        dsimp only
        rw [hR.nn, if_pos (ct_lt hi), hk, Option.bind_some, app_eq (by simp; omega), Option.bind_some, nxt (by omega)]
      · dsimp only
        by_cases h : j < out.length
        · rw [List.getElem_append_left h]; exact g2 j h
        · obtain rfl : j = out.length := by simp at hj; omega
          rw [List.getElem_concat_length rfl, g1]; exact hki) (fun s ⟨e1, g1⟩ => by
      obtain ⟨k, out⟩ := s
      dsimp only at e1 g1
      subst e1
      refine ⟨out, ?_, g1⟩
      rw [m_overseerlaw24_kinds_l1]
      dsimp only
      rw [hR.nn, if_neg ct_ge]) (Nat.zero_le _) (0, []) ⟨rfl, rfl, fun i h => by simp at h⟩
  exact ⟨o, by rw [m_overseerlaw24_kinds, h1]; rfl, h2⟩
theorem sprd {p : AutT} {n : Nat} (hR : Right p n) {tg : List Int} (hl : tg.length ≤ 1000000) (hr : ∀ s ∈ tg, 0 ≤ s ∧ s < (n : Int)) : m_blocking_spread p tg = some (backward n (edsOf p) tg) := by
  have hnl := hR.nl
  have := spread_eq (a := p.1) (n := n) (m := p.2.2.1) (es := p.2.2.2) (tg := tg) (by omega) hR.l3 hl (fun x hx => by have := hR.es x hx; exact ⟨this.1, this.2.1, this.2.2.1, this.2.2.2.1⟩) hr
  rw [← hR.nn] at this
  exact this
theorem bk_len {p : AutT} {n : Nat} (hR : Right p n) {tg : List Int} (hr : ∀ s ∈ tg, 0 ≤ s ∧ s < (n : Int)) : (backward n (edsOf p) tg).length = n := by
  have hnl := hR.nl
  have hB := BOk.start n tg (by omega) hr
  have h : ∀ (f : Nat) (ds q : List Int), BOk n ds q → (bwd (inL (edsOf p)) f ds q).length = n := by
    intro f
    induction f with
    | zero => intro ds q h; exact h.len
    | succ f ih =>
      intro ds q h
      cases q with
      | nil => exact h.len
      | cons s q =>
        rw [bwd]
        have hs := h.qr s (List.mem_cons_self ..)
        have h0 := h.nn s (List.mem_cons_self ..)
        exact ih _ _ (BOk.fold (show s.toNat < n by omega) (inL (edsOf p) s.toNat) h.pop h0 (inL_range hR.ein)).1
  exact h _ _ _ hB
theorem bk_dist {p : AutT} {n : Nat} (hR : Right p n) {tg : List Int} (hr : ∀ s ∈ tg, 0 ≤ s ∧ s < (n : Int)) {i : Nat} (hi : i < n) : IsDist (edsOf p) tg i ((backward n (edsOf p) tg).getD i 0) := by
  have hnl := hR.nl
  exact backward_dist (by omega) hR.ein hr i hi
/-- The blocked states are those of the kinds 3 to 5. -/
theorem blk_eq {p : AutT} {n : Nat} (hR : Right p n) {ks : List Int} (hk : KindsOf p n ks) : negL (backward n (edsOf p) p.2.2.1) n = choL ks 3 5 n := by
  unfold negL choL
  congr 1
  refine List.filter_congr fun i hi => ?_
  have hi := List.mem_range.1 hi
  have h1 := bk_dist hR hR.msr hi
  have hki : i < ks.length := by have := hk.1; omega
  have h2 := (hk.2 i hki).block
  rw [List.getD_eq_getElem?_getD (l := ks), List.getElem?_eq_getElem hki, Option.getD_some]
  generalize (backward n (edsOf p) p.2.2.1).getD i 0 = d at h1
  rw [Bool.eq_iff_iff, decide_eq_true_iff, decide_eq_true_iff, h2]
  rcases h1 with ⟨rfl, h3⟩ | ⟨k, rfl, h3, _⟩
  · exact ⟨fun _ => h3, fun _ => by omega⟩
  · exact ⟨fun h => absurd h (by omega), fun h => absurd h3 (h k)⟩
end Go.Proofs.YtfbapajcheammaaDoor

namespace Go.Proofs.YtfbapajcheammaaDoor
open Go Go.RowKit
abbrev Four := Int × Int × Int × Int
abbrev DesT := Int × Int × (Four × Four × Four × Four × Four × Four)
/-- The edges of a description. -/
def desL (d : DesT) : List Int := [d.2.2.1.1, d.2.2.1.2.1, d.2.2.1.2.2.1, d.2.2.1.2.2.2, d.2.2.2.1.1, d.2.2.2.1.2.1, d.2.2.2.1.2.2.1, d.2.2.2.1.2.2.2, d.2.2.2.2.1.1, d.2.2.2.2.1.2.1, d.2.2.2.2.1.2.2.1, d.2.2.2.2.1.2.2.2, d.2.2.2.2.2.1.1, d.2.2.2.2.2.1.2.1, d.2.2.2.2.2.1.2.2.1, d.2.2.2.2.2.1.2.2.2, d.2.2.2.2.2.2.1.1, d.2.2.2.2.2.2.1.2.1, d.2.2.2.2.2.2.1.2.2.1, d.2.2.2.2.2.2.1.2.2.2, d.2.2.2.2.2.2.2.1, d.2.2.2.2.2.2.2.2.1, d.2.2.2.2.2.2.2.2.2.1, d.2.2.2.2.2.2.2.2.2.2]
/-- What holds of the edges while Make makes them: state i, event j. -/
structure ME (n : Nat) (i j : Nat) (E : List (Int × Int × Int)) : Prop where
  er : ∀ x ∈ E, 0 ≤ x.1 ∧ x.1 ≤ (i : Int) ∧ 0 ≤ x.2.1 ∧ x.2.1 < 4 ∧ 0 ≤ x.2.2 ∧ x.2.2 < (n : Int)
  es : ∀ x ∈ E, x.1 = (i : Int) → x.2.1 < (j : Int)
  so : E.Pairwise fun x y => x.1 < y.1 ∨ (x.1 = y.1 ∧ x.2.1 < y.2.1)
  el : E.length ≤ 4 * i + j
theorem ME.push {n i j : Nat} {E : List (Int × Int × Int)} {q : Int} (h : ME n i j E) (hj : j < 4) (h0 : 0 ≤ q) (h1 : q < (n : Int)) : ME n i (j + 1) (E ++ [((i : Int), (j : Int), q)]) := by
  refine ⟨fun x hx => ?_, fun x hx e => ?_, ?_, by have := h.el; rw [List.length_append, List.length_singleton]; omega⟩
  · rcases List.mem_append.1 hx with hx | hx
    · exact h.er x hx
    · rw [List.mem_singleton.1 hx]; exact ⟨by dsimp only; omega, by dsimp only; omega, by dsimp only; omega, by dsimp only; omega, h0, h1⟩
  · rcases List.mem_append.1 hx with hx | hx
    · have := h.es x hx e; omega
    · rw [List.mem_singleton.1 hx]; dsimp only; omega
  · rw [List.pairwise_append]
    refine ⟨h.so, List.pairwise_singleton _ _, fun a ha b hb => ?_⟩
    rw [List.mem_singleton.1 hb]
    have h2 := h.er a ha
    by_cases e : a.1 = (i : Int)
    · exact .inr ⟨e, h.es a ha e⟩
    · exact .inl (by dsimp only; omega)
theorem ME.skip {n i j : Nat} {E : List (Int × Int × Int)} (h : ME n i j E) : ME n i (j + 1) E := ⟨h.er, fun x hx e => by have := h.es x hx e; omega, h.so, by have := h.el; omega⟩
theorem ME.next {n i : Nat} {E : List (Int × Int × Int)} (h : ME n i 4 E) : ME n (i + 1) 0 E := ⟨fun x hx => by have := h.er x hx; omega, fun x hx e => by have := h.er x hx; omega, h.so, by have := h.el; omega⟩
theorem make_inner {d : DesT} {n i : Nat} (hn : W (1 + W (d.1.tmod 6)) = (n : Int)) (hi : i < 6) {M : List Int} {E : List (Int × Int × Int)} (hE : ME n i 0 E) : ∃ E', iter (m_overseerlaw04_Make_l2 d ((i : Int), M, E)) (0, E) = some E' ∧ ME n i 4 E' := by
  refine iter_inv (f := m_overseerlaw04_Make_l2 d ((i : Int), M, E)) (fun j s => s.1 = (j : Int) ∧ ME n i j s.2) (fun o => ME n i 4 o) 4 0 (by omega) (fun j s hj ⟨e1, g1⟩ => ?_) (fun s ⟨e1, g1⟩ => ?_) (Nat.zero_le _) (0, E) ⟨rfl, hE⟩
  · obtain ⟨k, E⟩ := s
    dsimp only at e1 g1
    subst e1
    have hj2 : ∀ u, m_overseerlaw04_Make_j2 ((j : Int), E) u = some (.inl (((j + 1 : Nat) : Int), u)) := fun u => by
      rw [m_overseerlaw04_Make_j2]; dsimp only; rw [nxt (by omega)]
    left
    rw [m_overseerlaw04_Make_l2]
    dsimp only
    rw [if_pos (by simp; omega), show rng (i : Int) 6 = some () by unfold rng; rw [if_pos (by simp; omega)], Option.bind_some, show rng (j : Int) 4 = some () by unfold rng; rw [if_pos (by simp; omega)], Option.bind_some]
    obtain ⟨x, hx⟩ : ∃ x, (desL d)[(i : Int).toNat * 4 + (j : Int).toNat * 1]? = some x := ⟨_, List.getElem?_eq_getElem (by simp [desL]; omega)⟩
    unfold desL at hx
    rw [hx, Option.bind_some, hn]
    have hx1 : -7 < x.tmod 7 := Int.lt_tmod_of_pos x (by omega)
    have hx2 : x.tmod 7 < 7 := Int.tmod_lt_of_pos x (by omega)
    rw [W_of (x := x.tmod 7) (by omega) (by omega), W_of (x := x.tmod 7 - 1) (by omega) (by omega)]
    have hel := g1.el
    by_cases hc : 0 ≤ x.tmod 7 - 1 ∧ x.tmod 7 - 1 < (n : Int)
    · rw [if_pos (by simp; omega), app_eq (by simp; omega), Option.bind_some, hj2]
      exact ⟨_, rfl, rfl, g1.push hj hc.1 hc.2⟩
    · rw [if_neg (by simp; omega), hj2]
      exact ⟨_, rfl, rfl, g1.skip⟩
  · obtain ⟨k, E⟩ := s
    dsimp only at e1 g1
    subst e1
    refine ⟨E, ?_, g1⟩
    rw [m_overseerlaw04_Make_l2]
    dsimp only
    rw [if_neg (by simp)]
theorem make_ex {d : DesT} (h0 : 0 ≤ d.1) : ∃ a n, m_overseerlaw04_Make d = some a ∧ 1 ≤ n ∧ n ≤ 6 ∧ Right a n ∧ a.1 = [0, 1, 2, 3] ∧ a.2.2.2.length ≤ 24 := by
  have ht0 := Int.tmod_nonneg 6 h0
  have ht1 : d.1.tmod 6 < 6 := Int.tmod_lt_of_pos d.1 (by omega)
  obtain ⟨n, hn⟩ : ∃ n : Nat, 1 + d.1.tmod 6 = (n : Int) := ⟨(1 + d.1.tmod 6).toNat, by omega⟩
  have hW : W (1 + W (d.1.tmod 6)) = (n : Int) := by rw [W_of (x := d.1.tmod 6) (by omega) (by omega), W_of (by omega) (by omega), hn]
  obtain ⟨o, h1, h2⟩ := iter_inv (f := m_overseerlaw04_Make_l1 d) (fun i s => i ≤ n ∧ s.1 = (i : Int) ∧ Inc s.2.1 ∧ (∀ x ∈ s.2.1, 0 ≤ x ∧ x < (i : Int)) ∧ ME n i 0 s.2.2) (fun o => Inc o.1 ∧ (∀ x ∈ o.1, 0 ≤ x ∧ x < (n : Int)) ∧ ME n n 0 o.2) n 0 (by omega) (fun i s hi ⟨_, e1, g1, g2, g3⟩ => by
      obtain ⟨k, M, E⟩ := s
      dsimp only at e1 g1 g2 g3
      subst e1
      obtain ⟨E', g4, g5⟩ := make_inner (M := M) hW (show i < 6 by omega) g3
      have hMl := inc_len (n := i) (lo := 0) g1 g2 (Int.le_refl _)
      have hj1 : ∀ M', m_overseerlaw04_Make_j1 d ((i : Int), M, E) M' = some (.inl (((i + 1 : Nat) : Int), M', E')) := fun M' => by
        rw [m_overseerlaw04_Make_j1]; dsimp only; rw [g4, Option.bind_some, nxt (by omega)]
      left
      rw [m_overseerlaw04_Make_l1]
      dsimp only
      rw [hW, if_pos (ct_lt hi), show ng (i : Int) = some () from if_neg (by omega), Option.bind_some]
      split
      · rw [app_eq (by simp; omega), Option.bind_some, hj1]
        refine ⟨_, rfl, by omega, rfl, ?_, fun x hx => ?_, g5.next⟩
        · dsimp only
          unfold Inc at g1 ⊢
          rw [List.pairwise_append]
          exact ⟨g1, List.pairwise_singleton _ _, fun a ha b hb => by rw [List.mem_singleton.1 hb]; exact (g2 a ha).2⟩
        · dsimp only at hx
          rcases List.mem_append.1 hx with hx | hx
          · have := g2 x hx; omega
          · rw [List.mem_singleton.1 hx]; omega
      · rw [hj1]
        exact ⟨_, rfl, by omega, rfl, g1, fun x hx => by have := g2 x hx; omega, g5.next⟩) (fun s ⟨_, e1, g1, g2, g3⟩ => by
      obtain ⟨k, M, E⟩ := s
      dsimp only at e1 g1 g2 g3
      subst e1
      refine ⟨(M, E), ?_, g1, g2, g3⟩
      rw [m_overseerlaw04_Make_l1]
      dsimp only
      rw [hW, if_neg ct_ge]) (Nat.zero_le _) (0, [], []) ⟨Nat.zero_le _, rfl, List.Pairwise.nil, fun x hx => (by cases hx), fun x hx => (by cases hx), fun x hx => (by cases hx), List.Pairwise.nil, by simp⟩
  obtain ⟨g1, g2, g3⟩ := h2
  have hMl := inc_len (n := n) (lo := 0) g1 g2 (Int.le_refl _)
  have hel := g3.el
  refine ⟨([0, 1, 2, 3], (n : Int), o), n, by rw [m_overseerlaw04_Make, h1, hW]; rfl, by omega, by omega, ⟨rfl, by omega, ?_, ?_, g1, g2, fun x hx => ?_, g3.so, by simp, by dsimp only; omega, by dsimp only; omega⟩, rfl, by dsimp only; omega⟩
  · dsimp only; unfold Inc; decide
  · intro x hx
    have : x = 0 ∨ x = 1 ∨ x = 2 ∨ x = 3 := by simpa using hx
    omega
  · have := g3.er x hx
    have h3 := g3.es x hx
    refine ⟨this.1, ?_, this.2.2.2.2.1, this.2.2.2.2.2, ?_⟩
    · rcases Int.lt_or_le x.1 (n : Int) with h4 | h4
      · exact h4
      · have := h3 (by omega); omega
    · show x.2.1 ∈ [0, 1, 2, 3]
      have h5 : x.2.1 = 0 ∨ x.2.1 = 1 ∨ x.2.1 = 2 ∨ x.2.1 = 3 := by omega
      rcases h5 with h | h | h | h <;> rw [h] <;> decide
abbrev PairT := DesT × DesT × Bool
theorem list_ex {p : PairT} (h0 : 0 ≤ p.1.1) (h1 : 0 ≤ p.2.1.1) : ∃ l, m_overseerlaw24_list p = some l ∧ l.length = 2 ∧ LOk l := by
  obtain ⟨a, n, ha, n1, n6, hR, hal, hel⟩ := make_ex h0
  obtain ⟨b, k, hb, k1, k6, hS, hbl, hfl⟩ := make_ex h1
  rw [m_overseerlaw24_list, ha, Option.bind_some, hb, Option.bind_some]
  cases p.2.2 with
  | true =>
    rw [if_neg (by simp), m_overseerlaw24_list_j1]
    refine ⟨_, rfl, rfl, by simp, fun c hc => ?_⟩
    rcases List.mem_cons.1 hc with rfl | hc
    · exact ⟨n, n1, n6, hR⟩
    · rw [List.mem_singleton.1 hc]; exact ⟨k, k1, k6, hS⟩
  | false =>
    have hit : iter (m_overseerlaw24_list_l1 b) (0, ([] : List (Int × Int × Int))) = some (b.2.2.2.map fun x => (x.1, x.2.1 + 2, x.2.2)) := by
      obtain ⟨o, h1, rfl⟩ := iter_inv (f := m_overseerlaw24_list_l1 b) (fun i s => i ≤ b.2.2.2.length ∧ s = ((i : Int), (b.2.2.2.take i).map fun x => (x.1, x.2.1 + 2, x.2.2))) (fun o => o = b.2.2.2.map fun x => (x.1, x.2.1 + 2, x.2.2)) b.2.2.2.length 0 (by omega) (fun i s hi ⟨_, e1⟩ => by
          subst e1
          have hx := hS.alr _ (hS.es _ (List.getElem_mem hi)).2.2.2.2
          left
          rw [m_overseerlaw24_list_l1]
          dsimp only
          rw [if_pos (ct_lt hi), idx_at hi, Option.bind_some, app_eq (by simp; omega), Option.bind_some, nxt (by omega), W_of (by omega) (by omega)]
          refine ⟨_, rfl, by omega, ?_⟩
          rw [take_snoc _ i hi, List.map_append]; rfl) (fun s ⟨_, e1⟩ => by
          subst e1
          refine ⟨_, ?_, rfl⟩
          rw [m_overseerlaw24_list_l1]
          dsimp only
          rw [if_neg ct_ge, List.take_length]) (Nat.zero_le _) (0, []) ⟨Nat.zero_le _, by simp⟩
      exact h1
    rw [if_pos (by simp), hit, Option.bind_some, m_overseerlaw24_list_j1]
    refine ⟨_, rfl, rfl, by simp, fun c hc => ?_⟩
    rcases List.mem_cons.1 hc with rfl | hc
    · exact ⟨n, n1, n6, hR⟩
    · rw [List.mem_singleton.1 hc]
      refine ⟨k, k1, k6, hS.nn, hS.nl, ?_, ?_, hS.msi, hS.msr, fun x hx => ?_, ?_, by simp, hS.l2, by simpa using hS.l3⟩
      · dsimp only; unfold Inc; decide
      · intro x hx
        have : x = 2 ∨ x = 3 ∨ x = 4 ∨ x = 5 := by simpa using hx
        omega
      · obtain ⟨y, hy, rfl⟩ := List.mem_map.1 hx
        have h2 := hS.es y hy
        refine ⟨h2.1, h2.2.1, h2.2.2.1, h2.2.2.2.1, ?_⟩
        have h3 := h2.2.2.2.2
        rw [hbl] at h3
        have h5 : y.2.1 = 0 ∨ y.2.1 = 1 ∨ y.2.1 = 2 ∨ y.2.1 = 3 := by simpa using h3
        dsimp only
        rcases h5 with h | h | h | h <;> rw [h] <;> decide
      · dsimp only
        rw [List.pairwise_map]
        exact hS.so.imp fun {x y} h => by dsimp only; omega
end Go.Proofs.YtfbapajcheammaaDoor

namespace Go.Proofs.YtfbapajcheammaaDoor
open Go Go.RowKit
set_option maxRecDepth 100000 in
theorem known24 : m_overseerlaw24_known = some true := by kernel_rfl
set_option maxRecDepth 100000 in
theorem known04 : m_overseerlaw04_known = some true := by kernel_rfl
theorem Known24 : m_overseerlaw24_Known = some true := by
  rw [m_overseerlaw24_Known, known24, Option.bind_some, if_pos rfl, m_overseerlaw04_Known, known04]
  rfl
end Go.Proofs.YtfbapajcheammaaDoor

namespace Go.Proofs.YtfbapajcheammaaDoor
open Go Go.RowKit
theorem cast_inc (k : Nat) (p : Nat → Bool) : Inc (((List.range k).filter p).map fun (i : Nat) => (i : Int)) := by
  unfold Inc
  rw [List.pairwise_map]
  refine List.Pairwise.filter _ ?_
  exact List.Pairwise.imp (fun {a b} h => by omega) List.pairwise_lt_range
theorem cast_in (k : Nat) (p : Nat → Bool) : ∀ x ∈ ((List.range k).filter p).map fun (i : Nat) => (i : Int), 0 ≤ x ∧ x < (k : Int) := by
  intro x hx
  obtain ⟨i, hi, rfl⟩ := List.mem_map.1 hx
  have := List.mem_range.1 (List.mem_filter.1 hi).1
  omega
theorem bpath_eq {p : AutT} {n : Nat} (hR : Right p n) {x : Int} (hx : x < (n : Int)) {tg : List Int} {r : List Int × Bool × Int} (h : m_reach_Path p x tg (allL n) = some r) : m_blocking_path p x tg = some (r.1, r.2.1) := by
  have := hR.nl
  have hb := ball_eq (a := p.1) (n := n) (m := p.2.2.1) (es := p.2.2.2) (by omega)
  rw [← hR.nn] at hb
  rw [m_blocking_path, hR.nn, if_neg (by simp; omega), show m_blocking_all p = some (allL n) from hb, Option.bind_some, h]
  rfl
/-- What is known of the automata of a list together. -/
structure NbOk (l : List AutT) (p : AutT) (n : Nat) (T : List (List Int)) (r : List Int × Bool × Int) (ks : List Int) : Prop where
  sync : m_product_Synchronous l = some (p, T, 0)
  prd : Prd p n
  path : m_reach_Path p 0 (negL (backward n (edsOf p) p.2.2.1) n) (allL n) = some r
  says : PathSays (edsOf p) (negL (backward n (edsOf p) p.2.2.1) n) 0 r
  kinds : m_overseerlaw24_kinds p = some ks
  chosen : m_overseerlaw24_chosen ks 3 5 = some (negL (backward n (edsOf p) p.2.2.1) n)
  nb : m_blocking_Nonblocking l = some (r.1, !r.2.1, 0)
theorem nb_ex {l : List AutT} (h : LOk l) : ∃ p n T r ks, NbOk l p n T r ks := by
  obtain ⟨p, T, n, hs, hP⟩ := sync_ex h
  have hR := hP.right
  have hn := hP.le
  have h1 := hP.pos
  obtain ⟨ks, hk, hki⟩ := kinds_ex hR
  have hni : Inc (negL (backward n (edsOf p) p.2.2.1) n) := cast_inc n _
  have hnr : ∀ y ∈ negL (backward n (edsOf p) p.2.2.1) n, 0 ≤ y ∧ y < (n : Int) := cast_in n _
  have hnl := negL_len (backward n (edsOf p) p.2.2.1) n
  obtain ⟨r, hr, hS⟩ := path_ex hR (x := 0) (Int.le_refl _) (by omega) hni hnr (by omega)
  refine ⟨p, n, T, r, ks, hs, hP, hr, hS, hk, ?_, ?_⟩
  · rw [chosen_eq (by have := hki.1; omega), hki.1, ← blk_eq hR hki]
  · rw [m_blocking_Nonblocking, hs, Option.bind_some, if_neg (by simp)]
    dsimp only
    rw [sprd hR hR.l2 hR.msr, Option.bind_some, blocked_eq (by rw [bk_len hR hR.msr]; omega), bk_len hR hR.msr, Option.bind_some, bpath_eq hR (by omega) hr]
    rfl
end Go.Proofs.YtfbapajcheammaaDoor

namespace Go.Proofs.YtfbapajcheammaaDoor
open Go Go.RowKit
def gI (R : List Int) (x : Int) : Int := R.getD x.toNat 0
theorem gI_at {R : List Int} {i : Nat} (h : i < R.length) : gI R (i : Int) = R[i] := by
  unfold gI; rw [Int.toNat_natCast, List.getD_eq_getElem?_getD, List.getElem?_eq_getElem h]; rfl
theorem idx_g {R : List Int} {x : Int} (h0 : 0 ≤ x) (h1 : x < (R.length : Int)) : idx R x = some (gI R x) := by
  obtain ⟨i, hi⟩ := Int.eq_ofNat_of_zero_le h0
  subst hi
  rw [idx_at (by omega), gI_at (by omega)]
theorem vmarks_ex {p : AutT} {n : Nat} (hR : Right p n) (T : List (List Int)) : ∃ F : List Bool, iter (m_blocking_Verify_l1 (p, T, 0)) (0, List.replicate n false) = some F ∧ F.length = n ∧ ∀ s : Nat, s < n → (F[s]? = some true ↔ (s : Int) ∈ p.2.2.1) := by
  have hl3 := hR.l2
  obtain ⟨o, h1, h2, h3⟩ := iter_inv (f := m_blocking_Verify_l1 (p, T, 0)) (fun i s => s.1 = (i : Int) ∧ s.2.length = n ∧ ∀ k : Nat, k < n → (s.2[k]? = some true ↔ (k : Int) ∈ p.2.2.1.take i)) (fun F => F.length = n ∧ ∀ s : Nat, s < n → (F[s]? = some true ↔ (s : Int) ∈ p.2.2.1)) p.2.2.1.length 0 (by omega) (fun i s hi ⟨e1, g1, g2⟩ => by
      obtain ⟨k, F⟩ := s
      dsimp only at e1 g1 g2
      subst e1
      have hx := hR.msr _ (List.getElem_mem hi)
      obtain ⟨y, hy⟩ := Int.eq_ofNat_of_zero_le hx.1
      have hyn : y < n := by omega
      have hyF : y < F.length := by omega
      left
      rw [m_blocking_Verify_l1]
      dsimp only
      rw [if_pos (ct_lt hi), idx_at hi, Option.bind_some, hy, idx_at hyF, Option.bind_some, upd_at hyF, Option.bind_some, nxt (by omega)]
      refine ⟨_, rfl, rfl, by simp [g1], fun k hk => ?_⟩
      dsimp only
      rw [take_snoc _ i hi, List.mem_append, List.mem_singleton, hy]
      by_cases e : y = k
      · subst e
        rw [List.getElem?_set_self hyF]
        exact ⟨fun _ => .inr rfl, fun _ => rfl⟩
      · rw [List.getElem?_set_ne e, g2 k hk]
        exact ⟨.inl, fun h => h.resolve_right (by omega)⟩) (fun s ⟨e1, g1, g2⟩ => by
      obtain ⟨k, F⟩ := s
      dsimp only at e1 g1 g2
      subst e1
      refine ⟨F, ?_, g1, fun s hs => by rw [g2 s hs, List.take_length]⟩
      rw [m_blocking_Verify_l1]
      dsimp only
      rw [if_neg ct_ge]) (Nat.zero_le _) (0, List.replicate n false) ⟨rfl, by simp, fun k hk => by simp [hk]⟩
  exact ⟨o, h1, h2, h3⟩
theorem vfalls_ex {p : AutT} {n : Nat} (hR : Right p n) (T : List (List Int)) {R : List Int} (hRl : R.length = n) : ∃ F : List Bool, iter (m_blocking_Verify_l2 R (p, T, 0)) (0, List.replicate n false) = some F ∧ F.length = n ∧ ∀ s : Nat, s < n → (F[s]? = some true ↔ ∃ e ∈ p.2.2.2, e.1 = (s : Int) ∧ gI R e.2.2 < gI R e.1) := by
  have hl3 := hR.l3
  obtain ⟨o, h1, h2, h3⟩ := iter_inv (f := m_blocking_Verify_l2 R (p, T, 0)) (fun i s => s.1 = (i : Int) ∧ s.2.length = n ∧ ∀ k : Nat, k < n → (s.2[k]? = some true ↔ ∃ e ∈ p.2.2.2.take i, e.1 = (k : Int) ∧ gI R e.2.2 < gI R e.1)) (fun F => F.length = n ∧ ∀ s : Nat, s < n → (F[s]? = some true ↔ ∃ e ∈ p.2.2.2, e.1 = (s : Int) ∧ gI R e.2.2 < gI R e.1)) p.2.2.2.length 0 (by omega) (fun i s hi ⟨e1, g1, g2⟩ => by
      obtain ⟨k, F⟩ := s
      dsimp only at e1 g1 g2
      subst e1
      have hx := hR.es _ (List.getElem_mem hi)
      have hj : ∀ u, m_blocking_Verify_j1 ((i : Int), F) u = some (.inl (((i + 1 : Nat) : Int), u)) := fun u => by
        rw [m_blocking_Verify_j1]; dsimp only; rw [nxt (by omega)]
      have hts : ∀ (P : Int × Int × Int → Prop), (∃ e ∈ p.2.2.2.take (i + 1), P e) ↔ (∃ e ∈ p.2.2.2.take i, P e) ∨ P p.2.2.2[i] := fun P => by
        rw [take_snoc _ i hi]
        constructor
        · rintro ⟨e, he, h⟩
          rcases List.mem_append.1 he with he | he
          · exact .inl ⟨e, he, h⟩
          · rw [List.mem_singleton.1 he] at h; exact .inr h
        · rintro (⟨e, he, h⟩ | h)
          · exact ⟨e, List.mem_append_left _ he, h⟩
          · exact ⟨_, List.mem_append_right _ (List.mem_singleton.2 rfl), h⟩
      left
      rw [m_blocking_Verify_l2]
      dsimp only
      rw [if_pos (ct_lt hi), idx_at hi, Option.bind_some, idx_g hx.2.2.1 (by omega), Option.bind_some, idx_g hx.1 (by omega), Option.bind_some]
      obtain ⟨y, hy⟩ := Int.eq_ofNat_of_zero_le hx.1
      have hyn : y < n := by omega
      have hyF : y < F.length := by omega
      by_cases hc : gI R p.2.2.2[i].2.2 < gI R p.2.2.2[i].1
      · rw [if_pos (by simpa using hc), hy, idx_at hyF, Option.bind_some, upd_at hyF, Option.bind_some, hj]
        refine ⟨_, rfl, rfl, by simp [g1], fun k hk => ?_⟩
        dsimp only
        rw [hts]
        by_cases e : y = k
        · subst e
          rw [List.getElem?_set_self hyF]
          exact ⟨fun _ => .inr ⟨hy, hc⟩, fun _ => rfl⟩
        · rw [List.getElem?_set_ne e, g2 k hk]
          exact ⟨.inl, fun h => h.resolve_right (fun h => by have := h.1; omega)⟩
      · rw [if_neg (by simpa using hc), hj]
        refine ⟨_, rfl, rfl, g1, fun k hk => ?_⟩
        dsimp only
        rw [hts, g2 k hk]
        exact ⟨.inl, fun h => h.resolve_right (fun h => hc h.2)⟩) (fun s ⟨e1, g1, g2⟩ => by
      obtain ⟨k, F⟩ := s
      dsimp only at e1 g1 g2
      subst e1
      refine ⟨F, ?_, g1, fun s hs => by rw [g2 s hs, List.take_length]⟩
      rw [m_blocking_Verify_l2]
      dsimp only
      rw [if_neg ct_ge]) (Nat.zero_le _) (0, List.replicate n false) ⟨rfl, by simp, fun k hk => by simp [hk]⟩
  exact ⟨o, h1, h2, h3⟩
/-- A state's rank is proved. -/
def GoodV (p : AutT) (R : List Int) (s : Int) : Prop := 0 ≤ gI R s ∧ (gI R s = 0 → s ∈ p.2.2.1) ∧ (0 < gI R s → ∃ e ∈ p.2.2.2, e.1 = s ∧ gI R e.2.2 < gI R e.1)
theorem verify_size {l : List AutT} {p : AutT} {n : Nat} {T : List (List Int)} (hs : m_product_Synchronous l = some (p, T, 0)) (hR : Right p n) {R : List Int} (h : R.length ≠ n) : m_blocking_Verify l R = some 4 := by
  rw [m_blocking_Verify, hs, Option.bind_some, if_neg (by simp)]
  dsimp only
  rw [hR.nn, if_pos (by simp; omega)]
theorem verify_ex {l : List AutT} {p : AutT} {n : Nat} {T : List (List Int)} (hs : m_product_Synchronous l = some (p, T, 0)) (hR : Right p n) {R : List Int} (h : R.length = n) : ∃ c, m_blocking_Verify l R = some c ∧ ((c = 0 ∧ ∀ s : Nat, s < n → GoodV p R s) ∨ (c = 24 ∧ ¬ ∀ s : Nat, s < n → GoodV p R s)) := by
  have hnl := hR.nl
  obtain ⟨F, hF, hFl, hFm⟩ := vmarks_ex hR T
  obtain ⟨G, hG, hGl, hGm⟩ := vfalls_ex hR T h
  have hmf : mkL (n : Int) false = some (List.replicate n false) := by unfold mkL; rw [if_pos ⟨by omega, by omega⟩, Int.toNat_natCast]
  have hbad : ∀ i : Nat, i < n → ((decide (gI R i < 0) || ((gI R i == 0) && !(F.getD i false))) || (decide (gI R i > 0) && !(G.getD i false))) = false → GoodV p R i := by
    intro i hi hb
    rw [Bool.or_eq_false_iff, Bool.or_eq_false_iff] at hb
    obtain ⟨⟨b1, b2⟩, b3⟩ := hb
    have b1 : ¬ gI R i < 0 := by simpa using b1
    refine ⟨by omega, fun e => (hFm i hi).1 ?_, fun e => ?_⟩
    · have hiF : i < F.length := by omega
      rw [e] at b2
      have : F.getD i false = true := by simpa using b2
      rw [List.getD_eq_getElem?_getD, List.getElem?_eq_getElem hiF] at this
      rw [List.getElem?_eq_getElem hiF, ← this]; rfl
    · have hiG : i < G.length := by omega
      have b3 : G.getD i false = true := by
        cases hg : G.getD i false with
        | true => rfl
        | false => rw [hg] at b3; simp at b3; omega
      rw [List.getD_eq_getElem?_getD, List.getElem?_eq_getElem hiG] at b3
      exact (hGm i hi).1 (by rw [List.getElem?_eq_getElem hiG, ← b3]; rfl)
  have hgood : ∀ i : Nat, i < n → GoodV p R i → ((decide (gI R i < 0) || ((gI R i == 0) && !(F.getD i false))) || (decide (gI R i > 0) && !(G.getD i false))) = false := by
    intro i hi ⟨c1, c2, c3⟩
    rw [Bool.or_eq_false_iff, Bool.or_eq_false_iff]
    refine ⟨⟨by simpa using c1, ?_⟩, ?_⟩
    · by_cases e : gI R i = 0
      · have := (hFm i hi).2 (c2 e)
        rw [List.getD_eq_getElem?_getD, this]; simp
      · rw [show (gI R i == 0) = false by simpa using e]; rfl
    · by_cases e : 0 < gI R i
      · have := (hGm i hi).2 (c3 e)
        rw [List.getD_eq_getElem?_getD, this]; simp
      · rw [show decide (gI R i > 0) = false by simpa using e]; rfl
  obtain ⟨o, h1, h2⟩ := find_loop (f := m_blocking_Verify_l3 R F G) n (by omega) (fun i => ((decide (gI R i < 0) || ((gI R i == 0) && !(F.getD i false))) || (decide (gI R i > 0) && !(G.getD i false)))) (fun _ => ()) (fun i hi => by
      have hiF : i < F.length := by omega
      have hiG : i < G.length := by omega
      have hiR : i < R.length := by omega
      rw [m_blocking_Verify_l3, h, if_pos (ct_lt hi), idx_at hiR, Option.bind_some, nxt (by omega), idx_at hiF, idx_at hiG, gI_at hiR, List.getD_eq_getElem?_getD, List.getElem?_eq_getElem hiF, List.getD_eq_getElem?_getD, List.getElem?_eq_getElem hiG]
      simp only [Option.bind_some, Option.getD_some]
      generalize R[i] = x
      generalize F[i] = f
      generalize G[i] = g
      by_cases h1 : x < 0
      · simp [h1]
      · by_cases h2 : x = 0
        · subst h2; cases f <;> cases g <;> simp
        · have h3 : 0 < x := by omega
          cases f <;> cases g <;> simp [h1, h2, h3]) (by rw [m_blocking_Verify_l3, h, if_neg ct_ge])
  have hv : m_blocking_Verify l R = (iter (m_blocking_Verify_l3 R F G) 0).bind fun o => match o with
    | .inl _ => some (0 : Int)
    | .inr _ => some (24 : Int) := by
    rw [m_blocking_Verify, hs, Option.bind_some, if_neg (by simp)]
    dsimp only
    rw [hR.nn, if_neg (by simp [h]), hmf, Option.bind_some, Option.bind_some, hF, Option.bind_some, hG, Option.bind_some]
    rfl
  rw [hv, h1, Option.bind_some]
  rcases h2 with ⟨rfl, h3⟩ | ⟨i, hi, rfl, h3, _⟩
  · exact ⟨0, rfl, .inl ⟨rfl, fun s hs => hbad s hs (h3 s hs)⟩⟩
  · exact ⟨24, rfl, .inr ⟨rfl, fun hall => by rw [hgood i hi (hall i hi)] at h3; cases h3⟩⟩
/-- What the law asks of a state. -/
def DownV (p : AutT) (R : List Int) (s : Int) : Prop := (gI R s = 0 ∧ s ∈ p.2.2.1) ∨ ∃ e ∈ p.2.2.2, 0 < gI R s ∧ e.1 = s ∧ gI R e.2.2 < gI R s ∧ 0 ≤ gI R e.2.2
theorem down_iff {p : AutT} {n : Nat} (hR : Right p n) {R : List Int} : (∀ s : Nat, s < n → GoodV p R s) ↔ ∀ s : Nat, s < n → DownV p R s := by
  constructor
  · intro h s hs
    obtain ⟨g1, g2, g3⟩ := h s hs
    by_cases e : gI R s = 0
    · exact .inl ⟨e, g2 e⟩
    · obtain ⟨x, hx, h1, h2⟩ := g3 (by omega)
      have hx2 := hR.es x hx
      have h3 := h x.2.2.toNat (by omega)
      rw [Int.toNat_of_nonneg hx2.2.2.1] at h3
      exact .inr ⟨x, hx, by omega, h1, by rw [h1] at h2; exact h2, h3.1⟩
  · intro h s hs
    rcases h s hs with ⟨h1, h2⟩ | ⟨x, hx, h1, h2, h3, _⟩
    · exact ⟨by omega, fun _ => h2, fun h => by omega⟩
    · exact ⟨by omega, fun h => by omega, fun _ => ⟨x, hx, h2, by rw [h2]; exact h3⟩⟩
theorem down_inner {p : AutT} {n : Nat} (hR : Right p n) (T : List (List Int)) {R : List Int} (hRl : R.length = n) {i : Nat} (hi : i < n) (z : Int) (b0 : Bool) (hb0 : b0 = true ↔ (gI R i = 0 ∧ (i : Int) ∈ p.2.2.1)) :
    ∃ b, iter (m_overseerlaw24_BlockingVerifies_l2 (p, T, 0) R ((i : Int), z)) (0, b0) = some b ∧ (b = true ↔ DownV p R i) := by
  have hl3 := hR.l3
  refine iter_inv (f := m_overseerlaw24_BlockingVerifies_l2 (p, T, 0) R ((i : Int), z)) (fun k s => s.1 = (k : Int) ∧ (s.2 = true ↔ ((gI R i = 0 ∧ (i : Int) ∈ p.2.2.1) ∨ ∃ e ∈ p.2.2.2.take k, 0 < gI R i ∧ e.1 = (i : Int) ∧ gI R e.2.2 < gI R i ∧ 0 ≤ gI R e.2.2))) (fun b => b = true ↔ DownV p R i) p.2.2.2.length 0 (by omega) (fun k s hk ⟨e1, g1⟩ => ?_) (fun s ⟨e1, g1⟩ => ?_) (Nat.zero_le _) (0, b0) ⟨rfl, by rw [hb0]; simp⟩
  · obtain ⟨k', b⟩ := s
    dsimp only at e1 g1
    subst e1
    have hx := hR.es _ (List.getElem_mem hk)
    have hiR : i < R.length := by omega
    have hj : ∀ u, m_overseerlaw24_BlockingVerifies_j2 ((k : Int), b) u = some (.inl (((k + 1 : Nat) : Int), u)) := fun u => by
      rw [m_overseerlaw24_BlockingVerifies_j2]; dsimp only; rw [nxt (by omega)]
    have hts : ∀ (Q : Prop) (P : Int × Int × Int → Prop), (Q ∨ ∃ e ∈ p.2.2.2.take (k + 1), P e) ↔ (Q ∨ ∃ e ∈ p.2.2.2.take k, P e) ∨ P p.2.2.2[k] := fun Q P => by
      rw [take_snoc _ k hk]
      constructor
      · rintro (h | ⟨e, he, h⟩)
        · exact .inl (.inl h)
        · rcases List.mem_append.1 he with he | he
          · exact .inl (.inr ⟨e, he, h⟩)
          · rw [List.mem_singleton.1 he] at h; exact .inr h
      · rintro ((h | ⟨e, he, h⟩) | h)
        · exact .inl h
        · exact .inr ⟨e, List.mem_append_left _ he, h⟩
        · exact .inr ⟨_, List.mem_append_right _ (List.mem_singleton.2 rfl), h⟩
    left
    rw [m_overseerlaw24_BlockingVerifies_l2]
    dsimp only
    rw [if_pos (ct_lt hk), hj, hj]
    cases b with
    | true =>
      rw [if_pos rfl]
      exact ⟨_, rfl, rfl, by dsimp only; rw [hts, ← g1]; simp⟩
    | false =>
      rw [if_neg (by simp), idx_at hiR, Option.bind_some, ← gI_at hiR]
      have hno := fun (u : Bool) (hu : u = true ↔ (0 < gI R i ∧ p.2.2.2[k].1 = (i : Int) ∧ gI R p.2.2.2[k].2.2 < gI R i ∧ 0 ≤ gI R p.2.2.2[k].2.2)) => show (u = true ↔ ((gI R i = 0 ∧ (i : Int) ∈ p.2.2.1) ∨ ∃ e ∈ p.2.2.2.take (k + 1), 0 < gI R i ∧ e.1 = (i : Int) ∧ gI R e.2.2 < gI R i ∧ 0 ≤ gI R e.2.2)) by
        rw [hts, ← g1, ← hu]; simp
      by_cases c1 : 0 < gI R i
      · rw [if_pos (by simpa using c1), idx_at hk, Option.bind_some]
        by_cases c2 : p.2.2.2[k].1 = (i : Int)
        · rw [if_pos (by simpa using c2), Option.bind_some, idx_g hx.2.2.1 (by omega), Option.bind_some, Option.bind_some]
          by_cases c3 : gI R p.2.2.2[k].2.2 < gI R i
          · rw [if_pos (by simpa using c3), Option.bind_some, idx_g hx.2.2.1 (by omega), Option.bind_some, hj]
            exact ⟨_, rfl, rfl, hno _ ⟨fun h => ⟨c1, c2, c3, by simpa using h⟩, fun h => by simpa using h.2.2.2⟩⟩
          · rw [if_neg (by simpa using c3)]
            exact ⟨_, rfl, rfl, hno _ ⟨fun h => (by cases h), fun h => absurd h.2.2.1 c3⟩⟩
        · rw [if_neg (by simpa using c2)]
          exact ⟨_, rfl, rfl, hno _ ⟨fun h => (by cases h), fun h => absurd h.2.1 c2⟩⟩
      · rw [if_neg (by simpa using c1)]
        exact ⟨_, rfl, rfl, hno _ ⟨fun h => (by cases h), fun h => absurd h.1 c1⟩⟩
  · obtain ⟨k', b⟩ := s
    dsimp only at e1 g1
    subst e1
    rw [List.take_length] at g1
    refine ⟨b, ?_, g1⟩
    rw [m_overseerlaw24_BlockingVerifies_l2]
    dsimp only
    rw [if_neg ct_ge]
theorem down_loop {p : AutT} {n : Nat} (hR : Right p n) (T : List (List Int)) {R : List Int} (hRl : R.length = n) : ∃ c, iter (m_overseerlaw24_BlockingVerifies_l1 (p, T, 0) R) (0, 0) = some c ∧ ((c = 0 ∧ ∀ s : Nat, s < n → DownV p R s) ∨ (c = 24 ∧ ¬ ∀ s : Nat, s < n → DownV p R s)) := by
  have hnl := hR.nl
  refine iter_inv (f := m_overseerlaw24_BlockingVerifies_l1 (p, T, 0) R) (fun i s => s.1 = (i : Int) ∧ ((s.2 = 0 ∧ ∀ k : Nat, k < i → DownV p R k) ∨ (s.2 = 24 ∧ ¬ ∀ k : Nat, k < i → DownV p R k))) _ n 0 (by omega) (fun i s hi ⟨e1, g1⟩ => ?_) (fun s ⟨e1, g1⟩ => ?_) (Nat.zero_le _) (0, 0) ⟨rfl, .inl ⟨rfl, fun k hk => absurd hk (by omega)⟩⟩
  · obtain ⟨k, c⟩ := s
    dsimp only at e1 g1
    subst e1
    have hiR : i < R.length := by omega
    have hj : ∀ u, m_overseerlaw24_BlockingVerifies_j1 ((i : Int), c) u = some (.inl (((i + 1 : Nat) : Int), u)) := fun u => by
      rw [m_overseerlaw24_BlockingVerifies_j1]; dsimp only; rw [nxt (by omega)]
    have hb : (if (R[i] == 0) = true then (m_overseerlaw24_has p.2.2.1 (i : Int)).bind fun r => some r else some false) = some ((R[i] == 0) && hasB p.2.2.1 (i : Int)) := by
      rw [lhas_eq (by have := hR.l2; omega)]
      cases R[i] == 0 <;> rfl
    obtain ⟨b, hb1, hb2⟩ := down_inner hR T hRl hi c ((R[i] == 0) && hasB p.2.2.1 (i : Int)) (by rw [gI_at hiR, Bool.and_eq_true, hasB_true, beq_iff_eq])
    left
    rw [m_overseerlaw24_BlockingVerifies_l1]
    dsimp only
    rw [hRl, if_pos (ct_lt hi), idx_at hiR, Option.bind_some, hb, Option.bind_some, hb1, Option.bind_some, hj, hj]
    cases b with
    | true =>
      have hd := hb2.1 rfl
      rw [if_neg (by simp)]
      refine ⟨_, rfl, rfl, ?_⟩
      dsimp only
      rcases g1 with ⟨g1, g2⟩ | ⟨g1, g2⟩
      · refine .inl ⟨g1, fun k hk => ?_⟩
        by_cases e : k < i
        · exact g2 k e
        · obtain rfl : k = i := by omega
          exact hd
      · exact .inr ⟨g1, fun h => g2 fun k hk => h k (by omega)⟩
    | false =>
      rw [if_pos (by simp)]
      exact ⟨_, rfl, rfl, .inr ⟨rfl, fun h => by have := hb2.2 (h i (by omega)); cases this⟩⟩
  · obtain ⟨k, c⟩ := s
    dsimp only at e1 g1
    subst e1
    refine ⟨c, ?_, g1⟩
    rw [m_overseerlaw24_BlockingVerifies_l1]
    dsimp only
    rw [hRl, if_neg ct_ge]
/-- All states of a product are reached from the first. -/
theorem Prd.all {p : AutT} {n : Nat} (h : Prd p n) : ∀ (k : Nat), k < n → Rch (edsOf p) 0 k := by
  intro k
  induction k using Nat.strongRecOn with
  | ind k ih =>
    intro hk
    by_cases h0 : k = 0
    · subst h0; exact Rch.refl _ _
    · obtain ⟨x, hx, h1, h2, h3⟩ := h.lk k (by omega) hk
      have h4 := ih x.1.toNat (by omega) (by omega)
      rw [Int.toNat_of_nonneg h2] at h4
      have h5 := Rch.snoc (es := edsOf p) (e := toEd x) (List.mem_map.2 ⟨x, hx, rfl⟩) h4
      rw [← h1]; exact h5
theorem negL_mem {R : List Int} {n i : Nat} : (i : Int) ∈ negL R n ↔ i < n ∧ R.getD i 0 < 0 := by
  unfold negL
  rw [List.mem_map]
  constructor
  · rintro ⟨j, hj, e⟩
    obtain rfl : j = i := by omega
    have := List.mem_filter.1 hj
    exact ⟨List.mem_range.1 this.1, by simpa using this.2⟩
  · rintro ⟨h1, h2⟩
    exact ⟨i, List.mem_filter.2 ⟨List.mem_range.2 h1, by simpa using h2⟩, rfl⟩
theorem verifies_law {p : PairT} {x k : Int} (h0 : 0 ≤ p.1.1) (h1 : 0 ≤ p.2.1.1) (x0 : 0 ≤ x) (x1 : x < 256) (k0 : 0 ≤ k) (k1 : k < 256) : m_overseerlaw24_BlockingVerifies p x k = some true := by
  obtain ⟨l, hl, _, hL⟩ := list_ex h0 h1
  obtain ⟨a, n, T, r, ks, hN⟩ := nb_ex hL
  have hR := hN.prd.right
  have hn := hN.prd.le
  have hpos := hN.prd.pos
  have hlen := bk_len hR hR.msr
  have hdist : ∀ i : Nat, i < n → IsDist (edsOf a) a.2.2.1 (i : Int) ((backward n (edsOf a) a.2.2.1).getD i 0) := fun i hi => bk_dist hR hR.msr hi
  have hall := hN.prd.all
  have hsays := hN.says
  have e2 : m_blocking_Ranks a = some (backward n (edsOf a) a.2.2.1, 0) := by rw [m_blocking_Ranks, hR.check, Option.bind_some, if_neg (by simp), sprd hR hR.l2 hR.msr]; rfl
  obtain ⟨c, hc, hcc⟩ := verify_ex hN.sync hR hlen
  have hg : ∀ i : Nat, gI (backward n (edsOf a) a.2.2.1) (i : Int) = (backward n (edsOf a) a.2.2.1).getD i 0 := fun i => by unfold gI; rw [Int.toNat_natCast]
  have hgood : (∀ s : Nat, s < n → GoodV a (backward n (edsOf a) a.2.2.1) s) ↔ r.2.1 = false := by
    generalize hRR : backward n (edsOf a) a.2.2.1 = R at *
    constructor
    · intro h
      cases hb : r.2.1 with
      | false => rfl
      | true =>
        obtain ⟨y, hy, _⟩ := reachIn_iff.1 (hsays.yes hb).1
        have hyr := cast_in n _ y hy
        rw [← Int.toNat_of_nonneg hyr.1] at hy
        have h2 := negL_mem.1 hy
        have h3 := (h _ h2.1).1
        rw [hg] at h3
        omega
    · intro hb s hs
      have hno := (hsays.no hb).2
      have hnn : ∀ i : Nat, i < n → 0 ≤ R.getD i 0 := fun i hi => by
        rcases Int.lt_or_le (R.getD i 0) 0 with h | h
        · obtain ⟨k, hk⟩ := hall i hi
          exact absurd (reachIn_iff.2 ⟨_, negL_mem.2 ⟨hi, h⟩, hk⟩) (hno k)
        · exact h
      unfold GoodV
      rw [hg]
      refine ⟨hnn s hs, fun e => ?_, fun e => ?_⟩
      · rcases hdist s hs with ⟨h3, _⟩ | ⟨k, h3, h4, _⟩
        · omega
        · obtain rfl : k = 0 := by omega
          exact h4
      · rcases hdist s hs with ⟨h3, _⟩ | ⟨k, h3, h4, _⟩
        · omega
        · obtain ⟨k, rfl⟩ : ∃ j, k = j + 1 := ⟨k - 1, by omega⟩
          obtain ⟨y, hy, g1, g2⟩ := h4
          obtain ⟨z, hz, rfl⟩ := List.mem_map.1 hy
          have hzr := hR.es z hz
          have g1 : z.1 = (s : Int) := g1
          have g2 : ReachIn (edsOf a) a.2.2.1 k z.2.2 := g2
          refine ⟨z, hz, g1, ?_⟩
          rw [g1, hg, h3]
          have hzn : z.2.2.toNat < n := by omega
          have hd := hdist z.2.2.toNat hzn
          rw [Int.toNat_of_nonneg hzr.2.2.1] at hd
          unfold gI
          have hge := hnn _ hzn
          rcases hd with ⟨g3, _⟩ | ⟨j, g3, _, g4⟩
          · omega
          · by_cases hjk : j ≤ k
            · omega
            · exact absurd g2 (g4 k (by omega))
  have hcb : ((c == 0) != !r.2.1) = false := by
    rcases hcc with ⟨rfl, h⟩ | ⟨rfl, h⟩
    · rw [hgood.1 h]; rfl
    · cases hb : r.2.1 with
      | true => rfl
      | false => exact absurd (hgood.2 hb) h
  have s0 := Int.tmod_nonneg (n : Int) x0
  have s1 : x.tmod (n : Int) < (n : Int) := Int.tmod_lt_of_pos x (by omega)
  have t0 := Int.tmod_nonneg 6 k0
  have t1 : k.tmod 6 < 6 := Int.tmod_lt_of_pos k (by omega)
  rw [m_overseerlaw24_BlockingVerifies, Known24, Option.bind_some, if_neg (by simp), hl, Option.bind_some, hN.sync, Option.bind_some, e2, Option.bind_some, hN.nb, Option.bind_some]
  dsimp only
  generalize backward n (edsOf a) a.2.2.1 = R at *
  obtain ⟨s, hs⟩ := Int.eq_ofNat_of_zero_le s0
  have hsR : s < R.length := by omega
  obtain ⟨c2, hc2, hcc2⟩ := verify_ex hN.sync hR (R := R.set s (k.tmod 6 - 1)) (by simpa using hlen)
  obtain ⟨c3, hc3, hcc3⟩ := down_loop hR T (R := R.set s (k.tmod 6 - 1)) (by simpa using hlen)
  have hcc23 : c2 = c3 := by
    rcases hcc2 with ⟨rfl, h⟩ | ⟨rfl, h⟩ <;> rcases hcc3 with ⟨rfl, g⟩ | ⟨rfl, g⟩
    · rfl
    · exact absurd ((down_iff hR).1 h) g
    · exact absurd ((down_iff hR).2 g) h
    · rfl
  rw [if_neg (by rw [hlen, hR.nn]; simp), hc, Option.bind_some, Option.bind_some, hcb, if_neg (by simp), if_neg (by rw [hlen]; simp; omega),
    show slc R 1 (R.length : Int) = some (R.drop 1) by rw [slc, if_pos ⟨by omega, by omega, by omega⟩, Int.toNat_natCast, List.take_length]; rfl, Option.bind_some, verify_size hN.sync hR (R := R.drop 1) (by simp; omega), Option.bind_some, if_neg (by simp), hlen,
    show nz (n : Int) = some () from if_neg (by omega), Option.bind_some, W_of (x := x) (by omega) (by omega), hs, idx_at hsR, Option.bind_some, W_of (x := k.tmod 6) (by omega) (by omega), W_of (x := k.tmod 6 - 1) (by omega) (by omega), upd_at hsR, Option.bind_some, hc3, Option.bind_some, hc2, Option.bind_some, hcc23]
  simp
end Go.Proofs.YtfbapajcheammaaDoor

namespace Go.Proofs.YtfbapajcheammaaDoor
open Go Go.RowKit Go.ChangeShapes Go.WideShapes Go.Deep

/-- Data of a type, wherever they are read, lie so in cells. -/
def Op (P : Program) {α : Type} (r : Rep α) (Q : α → Prop) (t : TypeId) : Prop :=
  ∀ (H : Type) (enc : TypeId × Value → H) (w : World) (fuel : Nat) (cs : List Value) (x : DataW H × List MemPlace), DataW.trod enc P w 0 (fun _ => true) true fuel t cs = some x → ∃ y : α, r.rd ⟨w, fun _ => 0⟩ cs y ∧ Q y
section
variable {P : Program} {α β : Type} {r : Rep α} {q : Rep β} {Q : α → Prop} {R : β → Prop} {t e : TypeId}
/-- The cells of a struct, one type each. -/
theorem op_agg {w : World} {base : Nat} {v : Value} {fs : Array Field} {ts : List TypeId} (ht : P.underlying t = some (.struct fs)) (hts : P.cellTypes P.depth t = some ts) (hsz : P.cellsOf t = ts.length) (hok : Value.okWide P w .any base t v) :
    ∃ cs, v = .agg cs ∧ cs.size = ts.length ∧ ∀ (i : Nat) (u : TypeId), ts[i]? = some u → ∃ c : Value, cs[i]? = some c ∧ Cell.okWide P w .any base u c := by
  simp only [Value.okWide, ht] at hok
  obtain ⟨cs, rfl, h1, ts', h2, h3, h4⟩ := hok
  rw [hts] at h2
  cases h2
  refine ⟨cs, rfl, by omega, fun i u hu => ?_⟩
  have hlt : i < ts.length := (List.getElem?_eq_some_iff.1 hu).1
  obtain ⟨u', g1, g2⟩ := h4 i cs[i] (Array.getElem?_eq_getElem (by omega))
  rw [Nat.mod_eq_of_lt hlt, hu] at g1
  cases g1
  exact ⟨_, Array.getElem?_eq_getElem (by omega), g2⟩
end
end Go.Proofs.YtfbapajcheammaaDoor

namespace Go.Proofs.YtfbapajcheammaaDoor
open Go Go.ChangeShapes Go.WideShapes Go.ChangeAt Go.RowKit Go.Deep

theorem Tryd.own : ownKnob Tryd.prog.godebug = none := by kernel_rfl
theorem Tryd.laidOut : laidOutB Tryd.prog = true := by kernel_rfl

section
variable {H : Type} {enc : TypeId × Value → H}
/-- Types whose values may be carried. -/
def carryB (P : Program) (ts : List TypeId) : Bool := ts.all fun t => P.readableRec t && decide (t < P.types.size)
/-- All arguments read as they did. -/
theorem trodAll_carry {P : Program} (hl : laidOutB P = true) {W W' : World} (hb : Below W.heap.size W W') {sp : Nat → Bool} : ∀ {ts : List TypeId} {vs : List Value} {ds : List (DataW H)} {ps : List MemPlace}, carryB P ts = true →
    DataW.TrodAll enc P W 0 (fun _ => true) true ts vs ds ps → (∀ x ∈ ps, x.block < W.heap.size) → (∀ x ∈ ps, sp x.block = true) → DataW.TrodAll enc P W' 0 sp true ts vs ds ps
  | [], [], [], _, _, h, _, _ => h
  | [], _ :: _, _, _, _, h, _, _ => h.elim
  | [], [], _ :: _, _, _, h, _, _ => h.elim
  | t :: ts, [], _, _, _, h, _, _ => h.elim
  | t :: ts, _ :: _, [], _, _, h, _, _ => h.elim
  | t :: ts, v :: vs, d :: ds, ps, hc, ⟨p, q, h1, h2, e⟩, hlt, hsp => by
    subst e
    unfold carryB at hc
    rw [List.all_cons, Bool.and_eq_true, Bool.and_eq_true] at hc
    exact ⟨p, q, WideElems.Trod_stays hl hc.1.1 (of_decide_eq_true hc.1.2) h1 (fun x hx => hb.same (hlt x (List.mem_append_left _ hx))) (fun x hx => hsp x (List.mem_append_left _ hx)),
      trodAll_carry hl hb hc.2 h2 (fun x hx => hlt x (List.mem_append_right _ hx)) (fun x hx => hsp x (List.mem_append_right _ hx)), rfl⟩

/-- A law's end: it has returned a bool, and nothing that was there has turned. -/
theorem law_post {P : Program} (hl : laidOutB P = true) {f : Func} {s : ChangeSpec} {apart fresh handsOn again : Bool} {W W' : World} {args : Array Value} {ds : List (DataW H)} {before : List MemPlace} {tb : TypeId} {b : Bool}
    (hW : DataW.Whole enc P f.params.toList s.vars apart W args.toList ds [] before) (hv : s.vars = []) (hc : carryB P f.params.toList = true) (hrt : f.resultTypes = #[tb]) (ht : P.underlying tb = some .bool)
    (hr : (s.fn H (ds ++ [])).results = [.lit (.bool b)]) (ha : (s.fn H (ds ++ [])).args = ds) (hvn : (s.fn H (ds ++ [])).vars = []) (hb : Below W.heap.size W W') :
    s.post enc P f apart fresh handsOn again W args (.bool b) W' := by
  have hlt : ∀ p ∈ before, p.block < W.heap.size := fun p hp => hW.lt p hp
  have hWc := hW
  obtain ⟨p, q, hA, hV, rfl, hz, hn⟩ := hWc
  rw [hv] at hV
  obtain ⟨-, rfl⟩ := trodVars_none hV
  rw [List.append_nil] at hlt hz hn
  have hargs : ∀ sp : Nat → Bool, (∀ x ∈ p, sp x.block = true) → DataW.TrodAll enc P W' 0 sp true f.params.toList args.toList (s.fn H (ds ++ [])).args p := fun sp hsp => by
    rw [ha]; exact trodAll_carry hl hb hc hA hlt hsp
  have hres : ∀ (b0 : Nat) (sp : Nat → Bool) (hd : Bool), DataW.TrodAll enc P W' b0 sp hd f.resultTypes.toList ((Value.bool b).resultList f.resultTypes.size) (s.fn H (ds ++ [])).results [] := fun _ _ _ => by
    rw [hr, hrt]; exact trodAll_mk1 (shut_bool ht b)
  have hvars : ∀ sp : Nat → Bool, DataW.TrodVars enc P W' sp s.vars (s.fn H (ds ++ [])).vars [] := fun sp => by rw [hv, hvn]; rfl
  have hold : ∀ x ∈ p, (fun b => decide (b < W.heap.size)) x.block = true := fun x hx => by simpa using hlt x hx
  refine ⟨ds, [], p ++ [], [], p, [], hW, hres _ _ _, hargs _ hold, hvars _, World.keptBut_mono (fun x hx => ?_) (hb.frame (· ∈ p)), fun _ => ?_⟩
  · exact ⟨by rwa [List.append_nil], Or.inr (.inl hx)⟩
  · have hok := ok_one (f := f) (W' := W') (by rw [hrt]) rfl (okWide_bool_mk (W' := W') ht b)
    refine ⟨hok, _, _, ([] ++ p) ++ [], ⟨[] ++ p, [], trodAll_append (hargs _ (fun _ _ => rfl)) (hres _ _ _), hvars _, rfl, ?_, ?_⟩, ?_⟩
    · intro b0 off hp
      have hin : MemPlace.cell b0 off ∈ p := by simpa using hp
      rw [hb.frozen (hlt _ hin)]
      exact hz b0 off hin
    · intro hap
      simpa using hn hap
    · intro x hx _
      simpa using hx
end

set_option maxRecDepth 100000 in
/-- A cell of a byte. -/
theorem cell_u8 {w : World} {r : Reach} {base : Nat} {v : Value} (h : Cell.okWide Tryd.prog w r base 5 v) : ∃ n : Int, v = .int .u8 n ∧ 0 ≤ n ∧ n < 256 := by
  simp only [Cell.okWide, Tryd.underlying5] at h
  cases v <;> simp_all [Cell.ok]
  rename_i k n
  obtain ⟨rfl, h2⟩ := h
  simp [IntKind.has, IntKind.min, IntKind.max, IntKind.signed, IntKind.bits] at h2
  omega

/-- The listed variables, with what they hold. -/
def lay24 : List (String × DataW Unit) := [("math/bits.deBruijn32tab", Rows.laid_math_bits_deBruijn32tab), ("math/bits.deBruijn64tab", Rows.laid_math_bits_deBruijn64tab), ("internal/strconv.uint64pow10", Rows.laid_internal_strconv_uint64pow10)]
theorem lay24_met (os : Os) (args : Array Value) : laidMetH Tryd.prog lay24 ((World.laidAll Tryd.prog os lay24).forCall (fun _ _ => 0) ⟨#[], args, []⟩).memory :=
  laidMetH_of_parts3 (fuel := 8) (laidMet_laidAll args (by kernel_rfl) (by kernel_rfl)) (by kernel_rfl) (by kernel_rfl)
section
variable {H : Type} {enc : TypeId × Value → H} {w : World} {base : Nat} {v : Value} {d : DataW H} {ps : List MemPlace}
/-- The types of a pair's cells. -/
def paT : List TypeId := List.replicate 52 5 ++ [4]
theorem pa_types : Tryd.prog.cellTypes Tryd.prog.depth 27 = some paT := by kernel_rfl
theorem pa_cells : Tryd.prog.cellsOf 27 = paT.length := by kernel_rfl
theorem pa_at (i : Nat) (hi : i < 52) : paT[i]? = some 5 := by unfold paT; rw [List.getElem?_append_left (by simpa using hi), List.getElem?_replicate, if_pos hi]
set_option maxRecDepth 100000 in
/-- A cell of a bool. -/
theorem cell_bool {r : Reach} (h : Cell.okWide Tryd.prog w r base 4 v) : ∃ b : Bool, v = .bool b := by
  simp only [Cell.okWide, Tryd.underlying4] at h
  cases v <;> simp_all [Cell.ok]
set_option maxRecDepth 100000 in
/-- A pair. -/
theorem arg_pair (hok : Value.okWide Tryd.prog w .any base 27 v) : ∃ p : PairT, 0 ≤ p.1.1 ∧ 0 ≤ p.2.1.1 ∧ v = .agg #[.int .u8 p.1.1, .int .u8 p.1.2.1, .int .u8 p.1.2.2.1.1, .int .u8 p.1.2.2.1.2.1, .int .u8 p.1.2.2.1.2.2.1, .int .u8 p.1.2.2.1.2.2.2, .int .u8 p.1.2.2.2.1.1, .int .u8 p.1.2.2.2.1.2.1, .int .u8 p.1.2.2.2.1.2.2.1, .int .u8 p.1.2.2.2.1.2.2.2, .int .u8 p.1.2.2.2.2.1.1, .int .u8 p.1.2.2.2.2.1.2.1, .int .u8 p.1.2.2.2.2.1.2.2.1, .int .u8 p.1.2.2.2.2.1.2.2.2, .int .u8 p.1.2.2.2.2.2.1.1, .int .u8 p.1.2.2.2.2.2.1.2.1, .int .u8 p.1.2.2.2.2.2.1.2.2.1, .int .u8 p.1.2.2.2.2.2.1.2.2.2, .int .u8 p.1.2.2.2.2.2.2.1.1, .int .u8 p.1.2.2.2.2.2.2.1.2.1, .int .u8 p.1.2.2.2.2.2.2.1.2.2.1, .int .u8 p.1.2.2.2.2.2.2.1.2.2.2, .int .u8 p.1.2.2.2.2.2.2.2.1, .int .u8 p.1.2.2.2.2.2.2.2.2.1, .int .u8 p.1.2.2.2.2.2.2.2.2.2.1, .int .u8 p.1.2.2.2.2.2.2.2.2.2.2, .int .u8 p.2.1.1, .int .u8 p.2.1.2.1, .int .u8 p.2.1.2.2.1.1, .int .u8 p.2.1.2.2.1.2.1, .int .u8 p.2.1.2.2.1.2.2.1, .int .u8 p.2.1.2.2.1.2.2.2, .int .u8 p.2.1.2.2.2.1.1, .int .u8 p.2.1.2.2.2.1.2.1, .int .u8 p.2.1.2.2.2.1.2.2.1, .int .u8 p.2.1.2.2.2.1.2.2.2, .int .u8 p.2.1.2.2.2.2.1.1, .int .u8 p.2.1.2.2.2.2.1.2.1, .int .u8 p.2.1.2.2.2.2.1.2.2.1, .int .u8 p.2.1.2.2.2.2.1.2.2.2, .int .u8 p.2.1.2.2.2.2.2.1.1, .int .u8 p.2.1.2.2.2.2.2.1.2.1, .int .u8 p.2.1.2.2.2.2.2.1.2.2.1, .int .u8 p.2.1.2.2.2.2.2.1.2.2.2, .int .u8 p.2.1.2.2.2.2.2.2.1.1, .int .u8 p.2.1.2.2.2.2.2.2.1.2.1, .int .u8 p.2.1.2.2.2.2.2.2.1.2.2.1, .int .u8 p.2.1.2.2.2.2.2.2.1.2.2.2, .int .u8 p.2.1.2.2.2.2.2.2.2.1, .int .u8 p.2.1.2.2.2.2.2.2.2.2.1, .int .u8 p.2.1.2.2.2.2.2.2.2.2.2.1, .int .u8 p.2.1.2.2.2.2.2.2.2.2.2.2, .bool p.2.2] := by
  obtain ⟨cs, rfl, h1, h2⟩ := op_agg Tryd.underlying27 pa_types pa_cells hok
  have h1' : cs.size = 53 := h1
  obtain ⟨f, hf⟩ := choose_lt (α := Int) (n := 52) (p := fun i n => cs[i]? = some (.int .u8 n) ∧ 0 ≤ n ∧ n < 256) (fun i hi => by
    obtain ⟨c, g1, g2⟩ := h2 i 5 (pa_at i hi)
    obtain ⟨n, rfl, g3⟩ := cell_u8 g2
    exact ⟨n, g1, g3⟩)
  obtain ⟨c, g1, g2⟩ := h2 52 4 (by unfold paT; rw [List.getElem?_append_right (by simp)]; simp)
  obtain ⟨b, rfl⟩ := cell_bool g2
  have hcs : cs = ((List.range 52).map (fun i => Value.int .u8 (f i)) ++ [Value.bool b]).toArray := by
    apply Array.ext_getElem?
    intro i
    by_cases hi : i < 52
    · rw [(hf i hi).1, List.getElem?_toArray, List.getElem?_append_left (by simpa using hi)]; simp [hi]
    · by_cases h52 : i = 52
      · subst h52
        rw [g1, List.getElem?_toArray, List.getElem?_append_right (by simp)]; simp
      · rw [Array.getElem?_eq_none (by omega), Array.getElem?_eq_none (by simp; omega)]
  exact ⟨((f 0, f 1, ((f 2, f 3, f 4, f 5), (f 6, f 7, f 8, f 9), (f 10, f 11, f 12, f 13), (f 14, f 15, f 16, f 17), (f 18, f 19, f 20, f 21), (f 22, f 23, f 24, f 25))), (f 26, f 27, ((f 28, f 29, f 30, f 31), (f 32, f 33, f 34, f 35), (f 36, f 37, f 38, f 39), (f 40, f 41, f 42, f 43), (f 44, f 45, f 46, f 47), (f 48, f 49, f 50, f 51))), b), (hf 0 (by omega)).2.1, (hf 26 (by omega)).2.1, by rw [hcs]; rfl⟩
end
end Go.Proofs.YtfbapajcheammaaDoor

namespace Go.Proofs.YtfbapajcheammaaDoor
open Go Go.ChangeShapes Go.WideShapes Go.ChangeAt Go.RowKit

set_option maxRecDepth 100000 in
theorem blockingVerifies_lifted (os : Os) (started : os.Started) (H : Type) (enc : TypeId × Value → H) :
    ReturnsInHanded {} Tryd.checked os 7 .any (fun w args => (Rows.blockingVerifiesSpec.pre enc Tryd.prog Tryd.f7 [] false w args ∧ laidMetH Tryd.prog lay24 w) ∧ sizedMet enc Tryd.prog Tryd.f7 (OpenSpec.ofChange Rows.blockingVerifiesSpec) false w args) (Rows.blockingVerifiesSpec.post enc Tryd.prog Tryd.f7 false true false false) := by
  refine returnsInHanded_of_change_and (C := Tryd.checked) (X := fun w _ => laidMetH Tryd.prog lay24 w) (fun _ _ _ hh h => h.of_heap hh) Tryd.own started (by kernel_rfl) Tryd.func7
    (ChangeSpec.witness_shaped (enc := enc) (C := Tryd.checked) (os := os) (X := fun w _ => laidMetH Tryd.prog lay24 w) false (World.laidAll Tryd.prog os lay24) #[.agg #[.int .u8 0, .int .u8 0, .int .u8 0, .int .u8 0, .int .u8 0, .int .u8 0, .int .u8 0, .int .u8 0, .int .u8 0, .int .u8 0, .int .u8 0, .int .u8 0, .int .u8 0, .int .u8 0, .int .u8 0, .int .u8 0, .int .u8 0, .int .u8 0, .int .u8 0, .int .u8 0, .int .u8 0, .int .u8 0, .int .u8 0, .int .u8 0, .int .u8 0, .int .u8 0, .int .u8 0, .int .u8 0, .int .u8 0, .int .u8 0, .int .u8 0, .int .u8 0, .int .u8 0, .int .u8 0, .int .u8 0, .int .u8 0, .int .u8 0, .int .u8 0, .int .u8 0, .int .u8 0, .int .u8 0, .int .u8 0, .int .u8 0, .int .u8 0, .int .u8 0, .int .u8 0, .int .u8 0, .int .u8 0, .int .u8 0, .int .u8 0, .int .u8 0, .int .u8 0, .bool false], .int .u8 0, .int .u8 0] 8 (World.laidAll_os _ _ _) (World.shaped_of_ZipB (by kernel_rfl) (by kernel_rfl)) (by kernel_rfl) (by kernel_rfl) (by kernel_rfl) (lay24_met os _)) ?_
  intro W base args ds gs before hval0 hW _ _ _ _
  have hval : ∀ (j : Nat) t v, Tryd.f7.params[j]? = some t → args[j]? = some v → Value.okWide Tryd.prog W .any base t v := hval0
  have hW' := hW
  obtain ⟨p, q, hA0, hV, rfl, hfz, hnd⟩ := hW
  have hA : DataW.TrodAll enc Tryd.prog W 0 (fun _ => true) true Tryd.f7.params.toList args.toList ds p := hA0
  rw [Tryd.params7] at hA hval
  obtain ⟨v0, v1, v2, d0, d1, d2, p0, p1, p2, rfl, rfl, rfl, h0, h1, h2⟩ := trodAll_three hA
  obtain ⟨x, hx, gx, rfl⟩ := arg_pair (hval 0 27 v0 rfl rfl)
  obtain ⟨a, rfl, rfl, rfl, wa⟩ := open_int Tryd.underlying5 (hval 1 5 v1 rfl rfl) h1
  obtain ⟨b, rfl, rfl, rfl, wb⟩ := open_int Tryd.underlying5 (hval 2 5 v2 rfl rfl) h2
  obtain ⟨rfl, rfl⟩ := trodVars_none hV
  clear hA0 hval0
  have ra : 0 ≤ a ∧ a < 256 := by
    simp [Lit.wf, IntKind.min, IntKind.max, IntKind.signed, IntKind.bits] at wa
    omega
  have rb : 0 ≤ b ∧ b < 256 := by
    simp [Lit.wf, IntKind.min, IntKind.max, IntKind.signed, IntKind.bits] at wb
    omega
  refine (m_overseerlaw24_BlockingVerifies_c (s := ⟨W, fun _ => 0⟩) (verifies_law hx gx ra.1 ra.2 rb.1 rb.2)).mono fun e W' ⟨v, s', hw, he, hm, hv⟩ => ?_
  subst hw
  subst he
  subst hv
  have hbl := hm.below
  exact ⟨_, rfl, law_post Tryd.laidOut hW' rfl (by kernel_rfl) (by kernel_rfl) Tryd.underlying4 rfl rfl rfl hbl⟩

/-- The row's statement. -/
theorem blockingVerifies_holds : Rows.BlockingVerifiesSaid :=
  OpenClaim.holds_of_wide 7 Tryd.f7 rfl rfl rfl rfl rfl rfl rfl ⟨rfl, rfl, rfl, rfl, rfl⟩ rfl rfl rfl rfl rfl (by kernel_rfl) Tryd.func7 (by kernel_rfl)
    (of_decide_eq_true (by kernel_rfl)) (by unfold Func.isWrapper; first | (rw [if_pos (by decide +kernel)]; kernel_rfl) | (rw [if_neg (by decide +kernel)]; exact ⟨rfl, rfl⟩))
    (fun os started H enc _ => blockingVerifies_lifted os started H enc)
/-- The statement: the card. -/
theorem blockingVerifies_card_holds : Rows.BlockingVerifiesCardSaid :=
  Claim7.holds_tied_plain_at .later [] [.data, .data, .data] true (true, "04b4984385588a06ce930520a54a8f7a5b96a2dbce59b8f279a2e7206054670f") false
    blockingVerifies_holds (fun _ h => by cases h) (by kernel_rfl) (fun _ h => by cases h) blockingVerifies_row_tie rfl ⟨rfl, rfl⟩ (by kernel_rfl) rfl
    (fun f fn hf hfn => by
      obtain rfl : f = 7 := Option.some.inj ((show Tryd.prog.funcNamed "overseer/overseerlaw24.BlockingVerifies" = some 7 by kernel_rfl).symm.trans hf) |>.symm
      obtain rfl : fn = Tryd.f7 := (Option.some.inj (Tryd.func7.symm.trans hfn)).symm
      exact ⟨by kernel_rfl, fun j t ht => by
        have hm : t ∈ Tryd.f7.params := Array.mem_of_getElem? ht
        have hall : (Tryd.f7.params.toList.all fun u => !(Tryd.prog.wantsStandIn u)) = true := by kernel_rfl
        exact (show Tryd.prog.wantsStandIn t = false by simpa using List.all_eq_true.1 hall t (Array.mem_toList_iff.2 hm))⟩)
    (by kernel_rfl)
end Go.Proofs.YtfbapajcheammaaDoor
