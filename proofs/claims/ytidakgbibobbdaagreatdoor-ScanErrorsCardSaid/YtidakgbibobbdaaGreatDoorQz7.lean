/- ScanErrors returns true for all arguments, and leaves its arguments as they were. The condition: three tables of Go's library (math/bits, internal/strconv) hold what their source text lays, and the card ties this to the text. -/
import Derived.Test.YtidakgbibobbdaaGreatDoorQz6
set_option maxRecDepth 100000
namespace Go.Proofs.YtidakgbibobbdaaGreatDoor
open Go Go.RowKit
def pot : Nat → Nat
 | 0 => 1
 | f + 1 => 1 + 32 * pot f
theorem pot_pos : ∀ f, 1 ≤ pot f
 | 0 => Nat.le_refl _
 | _ + 1 => by rw [pot]; omega
def potL (z : Nat) (l : List (Int × List Int)) : Nat := (l.map fun r => pot (z - r.2.length)).sum
theorem potL_len (z : Nat) : ∀ l, l.length ≤ potL z l
 | [] => Nat.zero_le _
 | r :: l => by
  have h1 := potL_len z l
  have h2 := pot_pos (z - r.2.length)
  unfold potL at h1 ⊢
  rw [List.map_cons, List.sum_cons, List.length_cons]
  omega
theorem potL_app (z : Nat) (l m : List (Int × List Int)) : potL z (l ++ m) = potL z l + potL z m := by
 unfold potL
 rw [List.map_append, List.sum_append]
theorem potL_one (z : Nat) (r : Int × List Int) : potL z [r] = pot (z - r.2.length) := by
 unfold potL
 simp
section
variable {q : ProbT} {t : TaskT} {p : AutT} {T : List (List Int)} {n1 n2 n : Nat}
theorem TaskOk.uni (h : TaskOk q t p T n1 n2 n) : Inc t.2.2.2.2.1 ∧ t.2.2.2.2.1.length ≤ 32 ∧ ∀ x, x ∈ t.2.2.2.2.1 ↔ x ∈ q.1.1 ∧ x ∈ q.2.2 := by
 have hs := mg_spec (fun a b => a && b) q.1.1 q.2.2 h.rP.ali h.iu
 have hm : ∀ x, x ∈ mg (fun a b => a && b) q.1.1 q.2.2 ↔ x ∈ q.1.1 ∧ x ∈ q.2.2 := fun x => by
  rw [hs.2]
  simp only [Bool.and_eq_true, hasB_true]
  exact ⟨fun h => h.2, fun h => ⟨.inl h.1, h⟩⟩
 rw [h.un]
 exact ⟨hs.1, Alp.len ⟨hs.1, fun x hx => h.rP.alr x ((hm x).1 hx).1⟩, hm⟩
theorem TaskOk.con (h : TaskOk q t p T n1 n2 n) : Inc t.2.2.2.2.2 ∧ t.2.2.2.2.2.length ≤ 32 ∧ ∀ x, x ∈ t.2.2.2.2.2 ↔ x ∈ q.1.1 ∧ x ∉ q.2.2 := by
 obtain ⟨ui, ul, um⟩ := h.uni
 have hs := mg_spec (fun a b => a && !b) q.1.1 t.2.2.2.2.1 h.rP.ali ui
 have hm : ∀ x, x ∈ mg (fun a b => a && !b) q.1.1 t.2.2.2.2.1 ↔ x ∈ q.1.1 ∧ x ∉ q.2.2 := fun x => by
  rw [hs.2]
  simp only [Bool.and_eq_true, hasB_true, Bool.not_eq_true']
  have e : hasB t.2.2.2.2.1 x = false ↔ ¬ (x ∈ q.1.1 ∧ x ∈ q.2.2) := by
   rw [← um x, ← hasB_true, Bool.not_eq_true]
  rw [e]
  constructor
  ·rintro ⟨_, h1, h2⟩
   exact ⟨h1, fun h3 => h2 ⟨h1, h3⟩⟩
  ·rintro ⟨h1, h2⟩
   exact ⟨.inl h1, h1, fun h3 => h2 h3.2⟩
 rw [h.co, ← h.un]
 exact ⟨hs.1, Alp.len ⟨hs.1, fun x hx => h.rP.alr x ((hm x).1 hx).1⟩, hm⟩
theorem bursts_in (h : TaskOk q t p T n1 n2 n) {z c : Nat} {out : List (List Int)} {l : List (Int × List Int)} {r : Int × List Int} (hc : l[c]? = some r) (hz : r.2.length < z) (hz3 : z ≤ 3) (hl : l.length ≤ 1000000) (hw : ∀ r ∈ l, r.2.length ≤ z) :
  ∃ N, iter (m_scan_task_bursts_l2 t ((c : Int), out, l)) (0, l) = some (l ++ N) ∧ N.length ≤ 32 ∧ ∀ u ∈ N, u.2.length = r.2.length + 1 := by
 obtain ⟨ui, ul, um⟩ := h.uni
 obtain ⟨o, h1, N, rfl, h2, h3⟩ := iter_inv (f := m_scan_task_bursts_l2 t ((c : Int), out, l)) (fun i s => s.1 = (i : Int) ∧ ∃ N, s.2 = l ++ N ∧ N.length ≤ i ∧ ∀ u ∈ N, u.2.length = r.2.length + 1) (fun o => ∃ N, o = l ++ N ∧ N.length ≤ 32 ∧ ∀ u ∈ N, u.2.length = r.2.length + 1) t.2.2.2.2.1.length 0 (by omega) (fun i s hi ⟨e1, N, e2, g1, g2⟩ => by
   obtain ⟨k, m⟩ := s
   dsimp only at e1 e2
   subst e1
   subst e2
   have hx : idx (l ++ N) (c : Int) = some r := by
    rw [idx_nat, List.getElem?_append_left (List.getElem?_eq_some_iff.1 hc).1, hc]
   have hrl := hw r (List.mem_of_getElem? hc)
   left
   rw [m_scan_task_bursts_l2]
   dsimp only
   rw [if_pos (ct_lt hi), idx_at hi, Option.bind_some, hx, Option.bind_some, to_eq h.g1, Option.bind_some]
   by_cases hb : ((st1 q.1 r.1 t.2.2.2.2.1[i]).getD (-1) != (-1)) = true
   ·rw [if_pos hb, Option.bind_some, contains_eq (by omega), Option.bind_some, Option.bind_some]
    cases hh : hasB r.2 t.2.2.2.2.1[i]
    ·rw [if_pos (by rfl), Option.bind_some, clone_eq (by omega), Option.bind_some, app_eq (by simp; omega), Option.bind_some, app_eq (by simp; omega), Option.bind_some, m_scan_task_bursts_j3]
     dsimp only
     rw [nxt (by omega)]
     refine ⟨_, rfl, rfl, N ++ [_], by rw [List.append_assoc], by simp; omega, fun u hu => ?_⟩
     rcases List.mem_append.1 hu with hu | hu
     ·exact g2 u hu
     ·rw [List.mem_singleton.1 hu]
      simp
    ·rw [if_neg (by simp), m_scan_task_bursts_j3]
     dsimp only
     rw [nxt (by omega)]
     exact ⟨_, rfl, rfl, N, rfl, by omega, g2⟩
   ·rw [if_neg hb, Option.bind_some, if_neg (by simp), m_scan_task_bursts_j3]
    dsimp only
    rw [nxt (by omega)]
    exact ⟨_, rfl, rfl, N, rfl, by omega, g2⟩) (fun s ⟨e1, N, e2, g1, g2⟩ => by
   obtain ⟨k, m⟩ := s
   dsimp only at e1 e2
   subst e1
   subst e2
   rw [m_scan_task_bursts_l2]
   dsimp only
   rw [if_neg ct_ge]
   exact ⟨_, rfl, N, rfl, by omega, g2⟩) (Nat.zero_le _) (0, l) ⟨rfl, [], by simp, by simp, fun u hu => by cases hu⟩
 exact ⟨N, h1, h2, h3⟩
theorem pot_le : ∀ {z : Nat}, z ≤ 3 → pot z ≤ 33825
 | 0, _ => by decide
 | 1, _ => by decide
 | 2, _ => by decide
 | 3, _ => by decide
theorem potL_new {z k : Nat} : ∀ {N : List (Int × List Int)}, (∀ u ∈ N, u.2.length = k) → potL z N = N.length * pot (z - k)
 | [], _ => by simp [potL]
 | u :: N, h => by
  have h1 := potL_new (z := z) (N := N) fun v hv => h v (List.mem_cons_of_mem _ hv)
  unfold potL at h1 ⊢
  rw [List.map_cons, List.sum_cons, h1, h u (List.mem_cons_self ..), List.length_cons, Nat.add_mul, Nat.one_mul, Nat.add_comm]
theorem bursts_ex (h : TaskOk q t p T n1 n2 n) {k : Nat} {x y : Int} (hk : T[k]? = some [x, y]) {z : Nat} (hz : z ≤ 3) : ∃ bs, m_scan_task_bursts t (k : Int) (z : Int) = some bs ∧ bs.length ≤ 40000 ∧ ∀ b ∈ bs, b.length ≤ 3 := by
 have hp := pot_le hz
 obtain ⟨o, h1, h2⟩ := iter_inv (f := m_scan_task_bursts_l1 t (z : Int)) (fun i s => s.1 = (i : Int) ∧ i ≤ s.2.2.length ∧ i + potL z (s.2.2.drop i) ≤ pot z ∧ (∀ r ∈ s.2.2, r.2.length ≤ z) ∧ s.2.1.length ≤ i ∧ ∀ b ∈ s.2.1, b.length ≤ 3) (fun o => o.length ≤ 40000 ∧ ∀ b ∈ o, b.length ≤ 3) (pot z) 0 (by omega) (fun i s hi ⟨e1, g0, g1, g2, g3, g4⟩ => by
   obtain ⟨c, out, l⟩ := s
   dsimp only at e1 g0 g1 g2 g3 g4
   subst e1
   have hll : l.length ≤ pot z := by
    have := potL_len z (l.drop i)
    rw [List.length_drop] at this
    omega
   rw [m_scan_task_bursts_l1]
   dsimp only
   by_cases hil : i < l.length
   ·left
    have hj2 : ∀ out' : List (List Int), out'.length ≤ i + 1 → (∀ b ∈ out', b.length ≤ 3) → ∃ s', m_scan_task_bursts_j2 t (z : Int) ((i : Int), out, l) out' = some (.inl s') ∧ s'.1 = ((i + 1 : Nat) : Int) ∧ i + 1 ≤ s'.2.2.length ∧ i + 1 + potL z (s'.2.2.drop (i + 1)) ≤ pot z ∧ (∀ r ∈ s'.2.2, r.2.length ≤ z) ∧ s'.2.1.length ≤ i + 1 ∧ ∀ b ∈ s'.2.1, b.length ≤ 3 := fun out' o1 o2 => by
     have hd : potL z (l.drop i) = pot (z - l[i].2.length) + potL z (l.drop (i + 1)) := by
      rw [List.drop_eq_getElem_cons hil]
      unfold potL
      rw [List.map_cons, List.sum_cons]
     rw [m_scan_task_bursts_j2]
     dsimp only
     rw [idx_at hil, Option.bind_some]
     have hrl := g2 _ (List.getElem_mem hil)
     by_cases hc : l[i].2.length = z
     ·rw [if_pos (by simp [hc]), m_scan_task_bursts_j1]
      dsimp only
      rw [nxt (by omega)]
      have := pot_pos (z - l[i].2.length)
      exact ⟨_, rfl, rfl, hil, by dsimp only; omega, g2, o1, o2⟩
     ·rw [if_neg (by simp; omega)]
      obtain ⟨N, q1, q2, q3⟩ := bursts_in h (z := z) (out := out) (List.getElem?_eq_getElem hil) (by omega) hz (by omega) g2
      rw [q1, Option.bind_some, m_scan_task_bursts_j1]
      dsimp only
      rw [nxt (by omega)]
      refine ⟨_, rfl, rfl, by simp; omega, ?_, fun r hr => ?_, o1, o2⟩
      ·dsimp only
       rw [List.drop_append_of_le_length (by omega), potL_app, potL_new q3]
       have e : z - l[i].2.length = (z - (l[i].2.length + 1)) + 1 := by omega
       rw [e, pot] at hd
       have := Nat.mul_le_mul_right (pot (z - (l[i].2.length + 1))) q2
       omega
      ·rcases List.mem_append.1 hr with hr | hr
       ·exact g2 r hr
       ·rw [q3 r hr]; omega
    rw [if_pos (ct_lt hil), idx_at hil, Option.bind_some]
    by_cases h2 : 1 < l[i].2.length
    ·rw [if_pos (by simp; omega), Option.bind_some, app_eq (by simp; omega), Option.bind_some]
     refine hj2 _ (by simp; omega) fun b hb => ?_
     rcases List.mem_append.1 hb with hb | hb
     ·exact g4 b hb
     ·rw [List.mem_singleton.1 hb]
      have := g2 _ (List.getElem_mem hil)
      omega
    ·rw [if_neg (by simp; omega)]
     exact hj2 _ (by omega) g4
   ·right
    rw [if_neg (by simp; omega)]
    exact ⟨_, rfl, by omega, g4⟩) (fun s ⟨e1, g0, g1, g2, g3, g4⟩ => by
   obtain ⟨c, out, l⟩ := s
   dsimp only at e1 g0 g1 g2 g3 g4
   subst e1
   have := potL_len z (l.drop (pot z))
   rw [List.length_drop] at this
   rw [m_scan_task_bursts_l1]
   dsimp only
   rw [if_neg (by simp; omega)]
   exact ⟨_, rfl, by omega, g4⟩) (Nat.zero_le _) (0, [], [(x, [])]) ⟨rfl, by simp, by rw [List.drop_zero, potL_one]; simp, fun r hr => by rw [List.mem_singleton.1 hr]; simp, by simp, fun b hb => by cases hb⟩
 refine ⟨o, ?_, h2⟩
 rw [m_scan_task_bursts, h.tt, idx_nat, hk, Option.bind_some, show idx [x, y] 0 = some x from rfl, Option.bind_some, h1]
 rfl
theorem loop_tot {R : Type} {f : Int → Option (Int ⊕ (Unit ⊕ R))} {m : Nat} (hm : m ≤ 4000000) (st : ∀ i : Nat, i < m → f (i : Int) = some (.inl ((i + 1 : Nat) : Int)) ∨ ∃ r, f (i : Int) = some (.inr (.inr r))) (fin : f (m : Int) = some (.inr (.inl ()))) : ∃ o, iter f 0 = some o := by
 obtain ⟨o, h1, _⟩ := iter_inv (f := f) (fun i s => s = (i : Int)) (fun _ => True) m 0 (by omega) (fun i s hi e => by
   subst e
   rcases st i hi with e | ⟨r, e⟩
   ·exact .inl ⟨_, e, rfl⟩
   ·exact .inr ⟨_, e, trivial⟩) (fun s e => by
   subst e
   exact ⟨_, fin, trivial⟩) (Nat.zero_le _) 0 rfl
 exact ⟨o, h1⟩
theorem TaskOk.pair (h : TaskOk q t p T n1 n2 n) {k : Nat} (hk : k < T.length) : ∃ x y, T[k]? = some [x, y] ∧ 0 ≤ x ∧ x < (n1 : Int) ∧ 0 ≤ y ∧ y < (n2 : Int) := by
 obtain ⟨x, y, e, h1, h2, h3, h4⟩ := h.loop.tt _ (List.getElem_mem hk)
 rw [h.rP.nn] at h2
 rw [h.rS.nn] at h4
 exact ⟨x, y, by rw [List.getElem?_eq_getElem hk, e], h1, h2, h3, h4⟩
theorem TaskOk.word (h : TaskOk q t p T n1 n2 n) {k : Nat} (hk : k < T.length) : m_scan_graph_word t.2.2.1 (k : Int) = some (wN (edsOf p) (k : Int)) :=
 word_eq h.g3 h.loop.right h.loop.num (by rw [← h.loop.tl]; exact hk) (by have := h.loop.le; omega)
theorem orders_ok (h : TaskOk q t p T n1 n2 n) (ho : m_scan_open q = some (some t, 0)) {z : Int} (h2 : 2 ≤ z) (h3 : z ≤ 3) : ∃ r, m_scan_Orders q z = some r ∧ r.2.2 = 0 := by
 have htl := h.loop.tl
 have hle := h.loop.le
 obtain ⟨o, h1⟩ := loop_tot (f := m_scan_Orders_l1 z t) (m := T.length) (by omega) (fun i hi => by
  obtain ⟨x, y, e, _⟩ := h.pair hi
  obtain ⟨bs, b1, b2, b3⟩ := bursts_ex h e (z := z.toNat) (by omega)
  rw [Int.toNat_of_nonneg (by omega)] at b1
  obtain ⟨o, g1⟩ := loop_tot (f := m_scan_Orders_l2 t (i : Int) bs) (m := bs.length) (by omega) (fun j hj => by
   rw [m_scan_Orders_l2, if_pos (ct_lt hj), idx_at hj, Option.bind_some, ordered_eq h e (by have := b3 _ (List.getElem_mem hj); omega), Option.bind_some]
   cases okB q.2.1 y bs[j]
   ·rw [if_pos (by rfl), h.word hi, Option.bind_some]
    exact .inr ⟨_, rfl⟩
   ·rw [if_neg (by simp), nxt (by omega)]
    exact .inl rfl) (by rw [m_scan_Orders_l2, if_neg ct_ge])
  rw [m_scan_Orders_l1, h.tt, if_pos (ct_lt hi), b1, Option.bind_some, g1, Option.bind_some]
  cases o with
  | inl u => exact .inl (by dsimp only; rw [nxt (by omega)])
  | inr u => exact .inr ⟨_, rfl⟩) (by rw [m_scan_Orders_l1, h.tt, if_neg ct_ge])
 rw [m_scan_Orders, ho, Option.bind_some, if_neg (by simp), if_neg (by simp; omega), Option.bind_some, h1, Option.bind_some]
 cases o <;> exact ⟨_, rfl, rfl⟩
theorem delayed_ok (h : TaskOk q t p T n1 n2 n) (k : Nat) (u c : Int) : ∃ b, m_scan_task_delayed t (k : Int) u c = some b := by
 rw [m_scan_task_delayed, to_eq h.g3, Option.bind_some]
 cases hs : st1 p (k : Int) u with
 | none => exact ⟨_, rfl⟩
 | some v =>
  have hv := st1_rng h.loop.right hs
  dsimp only [Option.getD]
  rw [if_pos (by simp; omega), to_eq h.g3, Option.bind_some]
  split
  ·rw [to_eq h.g3, Option.bind_some]
   split
   ·have hvt : v.toNat < T.length := by rw [h.loop.tl]; omega
    obtain ⟨x, y, e, _⟩ := h.pair hvt
    have : idx t.2.2.2.1 v = some [x, y] := by
     rw [h.tt, ← Int.toNat_of_nonneg hv.2.2.1, idx_nat, e]
    rw [this, Option.bind_some, show idx [x, y] 0 = some x from rfl, Option.bind_some, to_eq h.g1, Option.bind_some]
    exact ⟨_, rfl⟩
   ·exact ⟨_, rfl⟩
  ·exact ⟨_, rfl⟩
theorem delays_ok (h : TaskOk q t p T n1 n2 n) (ho : m_scan_open q = some (some t, 0)) : ∃ r, m_scan_Delays q = some r ∧ r.2.2 = 0 := by
 have htl := h.loop.tl
 have hle := h.loop.le
 obtain ⟨_, ul, _⟩ := h.uni
 obtain ⟨_, cl, _⟩ := h.con
 obtain ⟨o, h1⟩ := loop_tot (f := m_scan_Delays_l1 t) (m := T.length) (by omega) (fun i hi => by
  obtain ⟨o, g1⟩ := loop_tot (f := m_scan_Delays_l2 t (i : Int)) (m := t.2.2.2.2.1.length) (by omega) (fun j hj => by
   obtain ⟨o, g1⟩ := loop_tot (f := m_scan_Delays_l3 t (i : Int) t.2.2.2.2.1[j]) (m := t.2.2.2.2.2.length) (by omega) (fun c hc => by
    obtain ⟨b, hb⟩ := delayed_ok h i t.2.2.2.2.1[j] t.2.2.2.2.2[c]
    rw [m_scan_Delays_l3, if_pos (ct_lt hc), idx_at hc, Option.bind_some, hb, Option.bind_some]
    cases b
    ·rw [if_neg (by simp), nxt (by omega)]
     exact .inl rfl
    ·rw [if_pos rfl, h.word hi, Option.bind_some]
     exact .inr ⟨_, rfl⟩) (by rw [m_scan_Delays_l3, if_neg ct_ge])
   rw [m_scan_Delays_l2, if_pos (ct_lt hj), idx_at hj, Option.bind_some, g1, Option.bind_some]
   cases o with
   | inl u => exact .inl (by dsimp only; rw [nxt (by omega)])
   | inr u => exact .inr ⟨_, rfl⟩) (by rw [m_scan_Delays_l2, if_neg ct_ge])
  rw [m_scan_Delays_l1, h.tt, if_pos (ct_lt hi), g1, Option.bind_some]
  cases o with
  | inl u => exact .inl (by dsimp only; rw [nxt (by omega)])
  | inr u => exact .inr ⟨_, rfl⟩) (by rw [m_scan_Delays_l1, h.tt, if_neg ct_ge])
 rw [m_scan_Delays, ho, Option.bind_some, if_neg (by simp), Option.bind_some, h1, Option.bind_some]
 cases o <;> exact ⟨_, rfl, rfl⟩
end
end Go.Proofs.YtidakgbibobbdaaGreatDoor

namespace Go.Proofs.YtidakgbibobbdaaGreatDoor
open Go Go.RowKit
theorem has54_eq {xs : List Int} {x : Int} (hl : xs.length ≤ 1000000) : m_overseerlaw54_has xs x = some (hasB xs x) := by
 obtain ⟨o, h1, h2⟩ := iter_inv (f := m_overseerlaw54_has_l1 xs x) (fun i s => s = (i : Int) ∧ hasB xs x = hasB (xs.drop i) x) (fun o => (match o with
   | .inl _ => false
   | .inr _ => true) = hasB xs x) xs.length 0 (by omega) (fun i s hi ⟨e1, g1⟩ => by
   subst e1
   rw [m_overseerlaw54_has_l1, if_pos (ct_lt hi), idx_at hi, Option.bind_some]
   by_cases h : xs[i] = x
   ·right
    rw [if_pos (by simpa using h)]
    refine ⟨_, rfl, ?_⟩
    exact (hasB_true.2 (h ▸ List.getElem_mem hi)).symm
   ·left
    rw [if_neg (by simpa using h), nxt (by omega)]
    refine ⟨_, rfl, rfl, ?_⟩
    rw [g1, Bool.eq_iff_iff, hasB_true, hasB_true, List.drop_eq_getElem_cons hi, List.mem_cons]
    exact ⟨fun h2 => h2.resolve_left fun e => h e.symm, .inr⟩) (fun s ⟨e1, g1⟩ => by
   subst e1
   rw [m_overseerlaw54_has_l1, if_neg ct_ge]
   refine ⟨_, rfl, ?_⟩
   rw [g1, List.drop_length]
   rfl) (Nat.zero_le _) 0 ⟨rfl, rfl⟩
 rw [m_overseerlaw54_has, h1, Option.bind_some]
 cases o with
 | inl u => exact congrArg some h2
 | inr u => exact congrArg some h2
def priE (al u : List Int) : List Int → List Int → Int
 | _, [] => 0
 | d, e :: l => if hasB al e = false then 9 else if hasB u e = true then 13 else if hasB d e = true then 8 else priE al u (d ++ [e]) l
theorem slc_take {α : Type} {xs : List α} {i : Nat} (h : i ≤ xs.length) : slc xs 0 (i : Int) = some (xs.take i) := by
 rw [slc, if_pos ⟨by omega, by omega, by omega⟩]
 simp
theorem prioL_eq {q : ProbT} {l : List Int} (hl : l.length ≤ 1000000) (h1 : q.1.1.length ≤ 1000000) (h2 : q.2.2.length ≤ 1000000) : m_overseerlaw54_checkPriority q l = some (priE q.1.1 q.2.2 [] l) := by
 obtain ⟨o, h1, h2⟩ := iter_inv (f := m_overseerlaw54_checkPriority_l1 q l) (fun i s => s = (i : Int) ∧ priE q.1.1 q.2.2 [] l = priE q.1.1 q.2.2 (l.take i) (l.drop i)) (fun o => (match o with
   | .inl _ => 0
   | .inr u => u) = priE q.1.1 q.2.2 [] l) l.length 0 (by omega) (fun i s hi ⟨e1, g1⟩ => by
   subst e1
   rw [List.drop_eq_getElem_cons hi, priE] at g1
   rw [m_overseerlaw54_checkPriority_l1, if_pos (ct_lt hi), idx_at hi, Option.bind_some, has54_eq h1, Option.bind_some]
   cases ha : hasB q.1.1 l[i]
   ·right
    rw [if_pos ha] at g1
    rw [if_pos (by rfl)]
    exact ⟨_, rfl, g1.symm⟩
   ·rw [if_neg (by simp [ha])] at g1
    rw [if_neg (by simp), Option.bind_some, has54_eq h2, Option.bind_some]
    cases hu : hasB q.2.2 l[i]
    ·rw [if_neg (by simp [hu])] at g1
     rw [if_neg (by simp), slc_take (by omega), Option.bind_some, Option.bind_some, has54_eq (by simp; omega), Option.bind_some]
     cases hd : hasB (l.take i) l[i]
     ·left
      rw [if_neg (by simp [hd])] at g1
      rw [if_neg (by simp), nxt (by omega)]
      refine ⟨_, rfl, rfl, ?_⟩
      rw [g1, List.take_succ_eq_append_getElem hi]
     ·right
      rw [if_pos hd] at g1
      rw [if_pos rfl]
      exact ⟨_, rfl, g1.symm⟩
    ·right
     rw [if_pos hu] at g1
     rw [if_pos rfl]
     exact ⟨_, rfl, g1.symm⟩) (fun s ⟨e1, g1⟩ => by
   subst e1
   rw [m_overseerlaw54_checkPriority_l1, if_neg ct_ge]
   refine ⟨_, rfl, ?_⟩
   rw [g1, List.drop_length, priE]) (Nat.zero_le _) 0 ⟨rfl, rfl⟩
 rw [m_overseerlaw54_checkPriority, h1, Option.bind_some]
 cases o with
 | inl u => exact congrArg some h2
 | inr u => exact congrArg some h2
section
variable {q : ProbT} {t : TaskT} {p : AutT} {T : List (List Int)} {n1 n2 n : Nat}
theorem TaskOk.unB (h : TaskOk q t p T n1 n2 n) {e : Int} (ha : hasB q.1.1 e = true) : hasB t.2.2.2.2.1 e = hasB q.2.2 e := by
 rw [Bool.eq_iff_iff, hasB_true, hasB_true, h.uni.2.2]
 exact ⟨fun x => x.2, fun x => ⟨hasB_true.1 ha, x⟩⟩
theorem prio_eq (h : TaskOk q t p T n1 n2 n) {l : List Int} (hl : l.length ≤ 1000000) : m_scan_task_checkPriority t l = some (priE q.1.1 q.2.2 [] l) := by
 have hl1 := h.rP.l1
 obtain ⟨ui, ul, um⟩ := h.uni
 obtain ⟨o, h1, h2⟩ := iter_inv (f := m_scan_task_checkPriority_l1 t l) (fun i s => s = (i : Int) ∧ priE q.1.1 q.2.2 [] l = priE q.1.1 q.2.2 (l.take i) (l.drop i)) (fun o => (match o with
   | .inl _ => 0
   | .inr u => u) = priE q.1.1 q.2.2 [] l) l.length 0 (by omega) (fun i s hi ⟨e1, g1⟩ => by
   subst e1
   rw [List.drop_eq_getElem_cons hi, priE] at g1
   rw [m_scan_task_checkPriority_l1, if_pos (ct_lt hi), idx_at hi, Option.bind_some, h.g1.1, containsA_eq (by omega) h.rP.ali, Option.bind_some]
   cases ha : hasB q.1.1 l[i]
   ·right
    rw [if_pos ha] at g1
    rw [if_pos (by rfl)]
    exact ⟨_, rfl, g1.symm⟩
   ·rw [if_neg (by simp [ha])] at g1
    rw [if_neg (by simp), containsA_eq (by omega) ui, Option.bind_some, h.unB ha]
    cases hu : hasB q.2.2 l[i]
    ·rw [if_neg (by simp [hu])] at g1
     rw [if_neg (by simp), slc_take (by omega), Option.bind_some, contains_eq (by simp; omega), Option.bind_some]
     cases hd : hasB (l.take i) l[i]
     ·left
      rw [if_neg (by simp [hd])] at g1
      rw [if_neg (by simp), nxt (by omega)]
      refine ⟨_, rfl, rfl, ?_⟩
      rw [g1, List.take_succ_eq_append_getElem hi]
     ·right
      rw [if_pos hd] at g1
      rw [if_pos rfl]
      exact ⟨_, rfl, g1.symm⟩
    ·right
     rw [if_pos hu] at g1
     rw [if_pos rfl]
     exact ⟨_, rfl, g1.symm⟩) (fun s ⟨e1, g1⟩ => by
   subst e1
   rw [m_scan_task_checkPriority_l1, if_neg ct_ge]
   refine ⟨_, rfl, ?_⟩
   rw [g1, List.drop_length, priE]) (Nat.zero_le _) 0 ⟨rfl, rfl⟩
 rw [m_scan_task_checkPriority, h1, Option.bind_some]
 cases o with
 | inl u => exact congrArg some h2
 | inr u => exact congrArg some h2
def chz (p : AutT) (l : List Int) (s : Int) : Int := (l.find? fun e => (st1 p s e).isSome).getD (-1)
theorem chosen_eq (h : TaskOk q t p T n1 n2 n) (s : Int) {l : List Int} (hl : l.length ≤ 1000000) : m_scan_task_chosen t s l = some (chz p l s) := by
 obtain ⟨r, h1, h2⟩ := idxI_ex (xs := l) (f := m_scan_task_chosen_1 (some t) s) (g := fun e => (st1 p s e).isSome) (fun e _ => by
  rw [m_scan_task_chosen_1, Option.bind_some, to_eq h.g3, Option.bind_some]
  congr 1
  cases hs : st1 p s e with
  | none => rfl
  | some v =>
   have := st1_rng h.loop.right hs
   simp
   omega) (by omega)
 rw [m_scan_task_chosen, h1, Option.bind_some, chz]
 rcases h2 with ⟨rfl, h3⟩ | ⟨k, hk, rfl, h3, h4⟩
 ·rw [if_pos (by simp), List.find?_eq_none.2 (fun x hx => by rw [h3 x hx]; simp)]
  rfl
 ·rw [if_neg (by simp), idx_at hk, Option.bind_some]
  have : l.find? (fun e => (st1 p s e).isSome) = some l[k] := by
   rw [List.find?_eq_some_iff_getElem]
   exact ⟨h3, k, hk, rfl, fun j hj => by rw [h4 j (by omega) hj]; rfl⟩
  rw [this]
  rfl
theorem with_eq (h : TaskOk q t p T n1 n2 n) (ho : m_scan_open q = some (some t, 0)) {l : List Int} (hl : l.length ≤ 1000000) : m_scan_with q l = if priE q.1.1 q.2.2 [] l = 0 then some (some t, 0) else some (none, priE q.1.1 q.2.2 [] l) := by
 rw [m_scan_with, ho, Option.bind_some, if_neg (by simp), Option.bind_some, prio_eq h hl, Option.bind_some]
 by_cases h0 : priE q.1.1 q.2.2 [] l = 0
 ·rw [if_neg (by simpa using h0), if_pos h0]
 ·rw [if_pos (by simpa using h0), if_neg h0]
theorem after_nil {g : GrT} {a : AutT} (hg : GrOk g a) : m_scan_graph_after g [] = some (if a.2.1 = 0 then -1 else 0) := by
 rw [m_scan_graph_after, hg.1]
 by_cases h0 : a.2.1 = 0
 ·rw [if_pos (by simpa using h0), if_pos h0]
 ·have : iter (m_scan_graph_after_l1 g []) (0, 0) = some (.inl 0) := by
   refine iter_of (n := 1) (by omega) ?_
   rw [iterF_succ, m_scan_graph_after_l1, if_neg (by simp)]
  rw [if_neg (by simpa using h0), if_neg h0, this]
  rfl
end
end Go.Proofs.YtidakgbibobbdaaGreatDoor

namespace Go.Proofs.YtidakgbibobbdaaGreatDoor
open Go Go.RowKit
def stR (p : AutT) (u l : List Int) (s e : Int) : Option Int := if (e == chz p l s || hasB u e) = true then st1 p s e else none
structure SR (st : Int → Int → Option Int) (al : List Int) (n i j : Nat) (T : List Int) (kn : List (Int × Int)) (E : List (Int × Int × Int)) : Prop where
 f : Fnd st al i j T E
 k1 : ∀ s v, kget kn s = some v → ∃ q : Nat, v = (q : Int) ∧ T[q]? = some s
 k2 : ∀ s ∈ T, (kget kn s).isSome = true
 nd : T.Nodup
 tr : ∀ s ∈ T, 0 ≤ s ∧ s < (n : Int)
 so : E.Pairwise fun x y => x.1 < y.1 ∨ (x.1 = y.1 ∧ x.2.1 < y.2.1)
 ei : ∀ x ∈ E, x.1 < (i : Int) ∨ (x.1 = (i : Int) ∧ ∃ b, ∃ hb : b < al.length, b < j ∧ al[b] = x.2.1)
 ea : ∀ x ∈ E, x.2.1 ∈ al
 el : E.length ≤ 32 * i + j
namespace SR
variable {st : Int → Int → Option Int} {al : List Int} {n i j : Nat} {T : List Int} {kn : List (Int × Int)} {E : List (Int × Int × Int)}
theorem len (h : SR st al n i j T kn E) : T.length ≤ n := by
 have := nodup_len n (T.map Int.toNat) (by
  unfold List.Nodup
  rw [List.pairwise_map]
  refine h.nd.imp_of_mem fun {a b} ha hb hab => ?_
  have h1 := h.tr a ha
  have h2 := h.tr b hb
  omega) (fun x hx => by
  obtain ⟨y, hy, rfl⟩ := List.mem_map.1 hx
  have := h.tr y hy
  omega)
 simpa using this
theorem skip (h : SR st al n i j T kn E) {s e : Int} (ht : T[i]? = some s) (he : al[j]? = some e) (hs : st s e = none) : SR st al n i (j + 1) T kn E :=
 ⟨h.f.skip ht he hs, h.k1, h.k2, h.nd, h.tr, h.so, fun x hx => by
  rcases h.ei x hx with h1 | ⟨h1, b, hb, h2, h3⟩
  ·exact .inl h1
  ·exact .inr ⟨h1, b, hb, by omega, h3⟩, h.ea, by have := h.el; omega⟩
theorem next (h : SR st al n i j T kn E) (hj : al.length ≤ j) (hj2 : j ≤ 32) : SR st al n (i + 1) 0 T kn E :=
 ⟨h.f.next hj, h.k1, h.k2, h.nd, h.tr, h.so, fun x hx => by
  rcases h.ei x hx with h1 | ⟨h1, _⟩
  ·exact .inl (by omega)
  ·exact .inl (by omega), h.ea, by have := h.el; omega⟩
theorem pw (h : SR st al n i j T kn E) (ia : Inc al) (hj : j < al.length) (v : Int) : (E ++ [((i : Int), al[j], v)]).Pairwise fun x y => x.1 < y.1 ∨ (x.1 = y.1 ∧ x.2.1 < y.2.1) := by
 rw [List.pairwise_append]
 refine ⟨h.so, List.pairwise_singleton _ _, fun x hx y hy => ?_⟩
 rw [List.mem_singleton.1 hy]
 rcases h.ei x hx with h1 | ⟨h1, b, hb, h2, h3⟩
 ·exact .inl h1
 ·refine .inr ⟨h1, ?_⟩
  rw [← h3]
  exact List.pairwise_iff_getElem.1 ia b j hb hj h2
theorem ei' (h : SR st al n i j T kn E) (hj : j < al.length) (v : Int) : ∀ x ∈ E ++ [((i : Int), al[j], v)], x.1 < (i : Int) ∨ (x.1 = (i : Int) ∧ ∃ b, ∃ hb : b < al.length, b < j + 1 ∧ al[b] = x.2.1) := fun x hx => by
 rcases List.mem_append.1 hx with hx | hx
 ·rcases h.ei x hx with h1 | ⟨h1, b, hb, h2, h3⟩
  ·exact .inl h1
  ·exact .inr ⟨h1, b, hb, by omega, h3⟩
 ·rw [List.mem_singleton.1 hx]
  exact .inr ⟨rfl, j, hj, by omega, rfl⟩
theorem ea' (h : SR st al n i j T kn E) (hj : j < al.length) (v : Int) : ∀ x ∈ E ++ [((i : Int), al[j], v)], x.2.1 ∈ al := fun x hx => by
 rcases List.mem_append.1 hx with hx | hx
 ·exact h.ea x hx
 ·rw [List.mem_singleton.1 hx]
  exact List.getElem_mem hj
theorem edge (h : SR st al n i j T kn E) (ia : Inc al) (hj : j < al.length) {s v : Int} {q : Nat} (ht : T[i]? = some s) (hs : st s al[j] = some v) (hq : T[q]? = some v) : SR st al n i (j + 1) T kn (E ++ [((i : Int), al[j], (q : Int))]) :=
 ⟨h.f.edge ht (List.getElem?_eq_getElem hj) hs hq, h.k1, h.k2, h.nd, h.tr, h.pw ia hj _, h.ei' hj _, h.ea' hj _, by have := h.el; simp; omega⟩
theorem new (h : SR st al n i j T kn E) (ia : Inc al) (hj : j < al.length) {s v : Int} (ht : T[i]? = some s) (hs : st s al[j] = some v) (hk : kget kn v = none) (v0 : 0 ≤ v) (v1 : v < (n : Int)) : SR st al n i (j + 1) (T ++ [v]) (kput kn v (T.length : Int)) (E ++ [((i : Int), al[j], (T.length : Int))]) := by
 have hi := (List.getElem?_eq_some_iff.1 ht).1
 refine ⟨h.f.new hi ht (List.getElem?_eq_getElem hj) hs, fun s' w hw => ?_, fun s' hs' => ?_, ?_, fun s' hs' => ?_, h.pw ia hj _, h.ei' hj _, h.ea' hj _, by have := h.el; simp; omega⟩
 ·rw [kget_kput] at hw
  split at hw
  ·rename_i e
   subst e
   cases hw
   exact ⟨T.length, rfl, by rw [List.getElem?_append_right (Nat.le_refl _)]; simp⟩
  ·obtain ⟨q, h1, h2⟩ := h.k1 s' w hw
   exact ⟨q, h1, by rw [List.getElem?_append_left (List.getElem?_eq_some_iff.1 h2).1, h2]⟩
 ·rw [kget_kput]
  split
  ·rfl
  ·rename_i e
   rcases List.mem_append.1 hs' with hs' | hs'
   ·exact h.k2 s' hs'
   ·exact absurd (List.mem_singleton.1 hs') e
 ·unfold List.Nodup
  rw [List.pairwise_append]
  refine ⟨h.nd, List.pairwise_singleton _ _, fun a ha b hb e => ?_⟩
  rw [List.mem_singleton.1 hb] at e
  subst e
  have := h.k2 a ha
  rw [hk] at this
  cases this
 ·rcases List.mem_append.1 hs' with hs' | hs'
  ·exact h.tr s' hs'
  ·rw [List.mem_singleton.1 hs']
   exact ⟨v0, v1⟩
end SR
section
variable {q : ProbT} {t : TaskT} {p : AutT} {T : List (List Int)} {n1 n2 n : Nat}
theorem res_in (h : TaskOk q t p T n1 n2 n) {l M X : List Int} {i : Nat} {kn : List (Int × Int)} {E : List (Int × Int × Int)} (hS : SR (stR p t.2.2.2.2.1 l) p.1 n i 0 X kn E) (hi : i < X.length) :
  ∃ kn' X' E', iter (m_scan_task_restricted_l2 t p.1 ((i : Int), X, kn, M, E) (chz p l X[i])) (0, X, kn, E) = some (X', kn', E') ∧ SR (stR p t.2.2.2.2.1 l) p.1 n (i + 1) 0 X' kn' E' ∧ ∃ U, X' = X ++ U := by
 obtain ⟨ui, ul, um⟩ := h.uni
 have hpr := h.loop.right
 have hle := h.loop.le
 have hal : p.1.length ≤ 32 := Alp.len ⟨hpr.ali, hpr.alr⟩
 obtain ⟨o, h1, h2, h3⟩ := iter_inv (f := m_scan_task_restricted_l2 t p.1 ((i : Int), X, kn, M, E) (chz p l X[i])) (fun j s => s.1 = (j : Int) ∧ SR (stR p t.2.2.2.2.1 l) p.1 n i j s.2.1 s.2.2.1 s.2.2.2 ∧ s.2.1[i]? = some X[i] ∧ ∃ U, s.2.1 = X ++ U) (fun o => SR (stR p t.2.2.2.2.1 l) p.1 n (i + 1) 0 o.1 o.2.1 o.2.2 ∧ ∃ U, o.1 = X ++ U) p.1.length 0 (by omega) (fun j s hj ⟨e1, g1, g2, g3⟩ => by
   obtain ⟨c, Y, k', F⟩ := s
   dsimp only at e1 g1 g2 g3
   subst e1
   have hYl := g1.len
   have hFl := g1.el
   left
   rw [m_scan_task_restricted_l2]
   dsimp only
   rw [if_pos (ct_lt hj), idx_at hj, Option.bind_some, idx_nat, g2, Option.bind_some, to_eq h.g3, Option.bind_some]
   have hskip : stR p t.2.2.2.2.1 l X[i] p.1[j] = none → ∃ s', m_scan_task_restricted_j3 ((j : Int), Y, k', F) Y k' F = some (.inl s') ∧ s'.1 = ((j + 1 : Nat) : Int) ∧ SR (stR p t.2.2.2.2.1 l) p.1 n i (j + 1) s'.2.1 s'.2.2.1 s'.2.2.2 ∧ s'.2.1[i]? = some X[i] ∧ ∃ U, s'.2.1 = X ++ U := fun hn => by
    rw [m_scan_task_restricted_j3]
    dsimp only
    rw [nxt (by omega)]
    exact ⟨_, rfl, rfl, g1.skip g2 (List.getElem?_eq_getElem hj) hn, g2, g3⟩
   cases hs : st1 p X[i] p.1[j] with
   | none =>
    rw [if_pos (by rfl), Option.bind_some, if_pos rfl]
    refine hskip ?_
    unfold stR
    rw [hs]
    split <;> rfl
   | some v =>
    have hv := st1_rng hpr hs
    dsimp only [Option.getD_some]
    rw [if_neg (by simp; omega)]
    have hb : ((if (p.1[j] != chz p l X[i]) = true then (m_alphabet_Contains t.2.2.2.2.1 p.1[j]).bind fun r => some (!r) else some false).bind fun b => some b) = some (!(p.1[j] == chz p l X[i] || hasB t.2.2.2.2.1 p.1[j])) := by
     rw [containsA_eq (by omega) ui, Option.bind_some]
     by_cases hc : p.1[j] = chz p l X[i]
     ·rw [if_neg (by simp [hc]), Option.bind_some]
      simp [hc]
     ·rw [if_pos (by simp [hc]), Option.bind_some]
      simp [hc]
    rw [hb, Option.bind_some]
    by_cases ha : (p.1[j] == chz p l X[i] || hasB t.2.2.2.2.1 p.1[j]) = true
    ·have hst : stR p t.2.2.2.2.1 l X[i] p.1[j] = some v := by
      unfold stR
      rw [if_pos ha, hs]
     rw [ha, if_neg (by simp)]
     by_cases hk : (kget k' v).isSome = true
     case neg =>
      have hk : kget k' v = none := by simpa using hk
      have hYi : i < Y.length := (List.getElem?_eq_some_iff.1 g2).1
      obtain ⟨U, hU⟩ := g3
      rw [if_pos (by rw [hk]; rfl), app_eq (by simp; omega), Option.bind_some, m_scan_task_restricted_j4]
      dsimp only
      rw [kget_kput, if_pos rfl, app_eq (by simp; omega), Option.bind_some, m_scan_task_restricted_j3]
      dsimp only [Option.getD_some]
      rw [nxt (by omega)]
      refine ⟨_, rfl, rfl, g1.new hpr.ali hj g2 hst hk hv.2.2.1 hv.2.2.2.1, ?_, U ++ [v], by dsimp only; rw [hU, List.append_assoc]⟩
      dsimp only
      rw [List.getElem?_append_left (by omega)]
      exact g2
     case pos =>
      obtain ⟨w, hk⟩ := Option.isSome_iff_exists.1 hk
      have hYi : i < Y.length := (List.getElem?_eq_some_iff.1 g2).1
      obtain ⟨r, rfl, hr⟩ := g1.k1 v w hk
      rw [if_neg (by rw [hk]; simp), m_scan_task_restricted_j4]
      dsimp only
      rw [hk, app_eq (by simp; omega), Option.bind_some, m_scan_task_restricted_j3]
      dsimp only [Option.getD_some]
      rw [nxt (by omega)]
      exact ⟨_, rfl, rfl, g1.edge hpr.ali hj g2 hst hr, g2, g3⟩
    ·rw [if_pos (by simpa using ha)]
     refine hskip ?_
     unfold stR
     rw [if_neg ha]) (fun s ⟨e1, g1, g2, g3⟩ => by
   obtain ⟨c, Y, k', F⟩ := s
   dsimp only at e1 g1 g2 g3
   subst e1
   rw [m_scan_task_restricted_l2]
   dsimp only
   rw [if_neg ct_ge]
   exact ⟨_, rfl, g1.next (Nat.le_refl _) hal, g3⟩) (Nat.zero_le _) (0, X, kn, E) ⟨rfl, hS, List.getElem?_eq_getElem hi, [], by simp⟩
 exact ⟨o.2.1, o.1, o.2.2, h1, h2, h3⟩
structure ResOk (p : AutT) (u l : List Int) (r : AutT) (X : List Int) : Prop where
 right : Right r X.length
 al : r.1 = p.1
 le : X.length ≤ 4000
 zero : X.length = 0 ↔ p.2.1 = 0
 x0 : 0 < X.length → X[0]? = some 0
 disc : Disc (stR p u l) p.1 X r.2.2.2
 mkd : ∀ (i : Nat) (s : Int), X[i]? = some s → ((i : Int) ∈ r.2.2.1 ↔ s ∈ p.2.2.1)
theorem restricted_ex (h : TaskOk q t p T n1 n2 n) (l : List Int) (hl : l.length ≤ 1000000) : ∃ g r X, m_scan_task_restricted t l = some g ∧ GrOk g r ∧ ResOk p t.2.2.2.2.1 l r X := by
 have hpr := h.loop.right
 have hle := h.loop.le
 have hal : p.1.length ≤ 32 := Alp.len ⟨hpr.ali, hpr.alr⟩
 have hp2 := hpr.l2
 have main : ∀ X0 kn0, SR (stR p t.2.2.2.2.1 l) p.1 n 0 0 X0 kn0 [] → X0.length ≤ 1 → (X0.length = 0 ↔ n = 0) → (0 < X0.length → X0[0]? = some 0) → ∃ g r X, m_scan_task_restricted_j1 t l p.1 X0 kn0 = some g ∧ GrOk g r ∧ ResOk p t.2.2.2.2.1 l r X := fun X0 kn0 hS0 hX0 hz hx0 => by
  obtain ⟨o, h1, kn, h2, h3, h4, h5, h6, h7⟩ := iter_inv (f := m_scan_task_restricted_l1 t l p.1) (fun i s => s.1 = (i : Int) ∧ i ≤ s.2.1.length ∧ SR (stR p t.2.2.2.2.1 l) p.1 n i 0 s.2.1 s.2.2.1 s.2.2.2.2 ∧ Inc s.2.2.2.1 ∧ (∀ x ∈ s.2.2.2.1, 0 ≤ x ∧ x < (i : Int)) ∧ (s.2.1.length = 0 ↔ n = 0) ∧ (0 < s.2.1.length → s.2.1[0]? = some 0) ∧ ∀ (a : Nat) (x : Int), a < i → s.2.1[a]? = some x → ((a : Int) ∈ s.2.2.2.1 ↔ x ∈ p.2.2.1)) (fun o => ∃ kn, SR (stR p t.2.2.2.2.1 l) p.1 n o.1.length 0 o.1 kn o.2.2 ∧ Inc o.2.1 ∧ (∀ x ∈ o.2.1, 0 ≤ x ∧ x < (o.1.length : Int)) ∧ (o.1.length = 0 ↔ n = 0) ∧ (0 < o.1.length → o.1[0]? = some 0) ∧ ∀ (a : Nat) (x : Int), o.1[a]? = some x → ((a : Int) ∈ o.2.1 ↔ x ∈ p.2.2.1)) n 0 (by omega) (fun i s hi ⟨e1, g0, g1, g2, g3, g4, g5, g6⟩ => by
    obtain ⟨c, X, kn, M, E⟩ := s
    dsimp only at e1 g0 g1 g2 g3 g4 g5 g6
    subst e1
    have hXl := g1.len
    have hMl := inc_len (n := i) (lo := 0) g2 g3 (Int.le_refl _)
    by_cases hix : i < X.length
    ·left
     obtain ⟨kn', X', E', k1, k2, U, k3⟩ := res_in h (l := l) (M := M) g1 hix
     have hpre : ∀ a, a < X.length → X'[a]? = X[a]? := fun a ha => by rw [k3, List.getElem?_append_left ha]
     have hXX : X.length ≤ X'.length := by rw [k3]; simp
     have hj2 : ∀ M' : List Int, Inc M' → (∀ x ∈ M', 0 ≤ x ∧ x < ((i + 1 : Nat) : Int)) → (∀ x : Int, x ≠ (i : Int) → (x ∈ M' ↔ x ∈ M)) → ((i : Int) ∈ M' ↔ X[i] ∈ p.2.2.1) → ∃ s', m_scan_task_restricted_j2 t l p.1 ((i : Int), X, kn, M, E) M' = some (.inl s') ∧ s'.1 = ((i + 1 : Nat) : Int) ∧ i + 1 ≤ s'.2.1.length ∧ SR (stR p t.2.2.2.2.1 l) p.1 n (i + 1) 0 s'.2.1 s'.2.2.1 s'.2.2.2.2 ∧ Inc s'.2.2.2.1 ∧ (∀ x ∈ s'.2.2.2.1, 0 ≤ x ∧ x < ((i + 1 : Nat) : Int)) ∧ (s'.2.1.length = 0 ↔ n = 0) ∧ (0 < s'.2.1.length → s'.2.1[0]? = some 0) ∧ ∀ (a : Nat) (x : Int), a < i + 1 → s'.2.1[a]? = some x → ((a : Int) ∈ s'.2.2.2.1 ↔ x ∈ p.2.2.1) := fun M' m1 m2 m3 m4 => by
      rw [m_scan_task_restricted_j2]
      dsimp only
      rw [idx_at hix, Option.bind_some, chosen_eq h _ hl, Option.bind_some, k1, Option.bind_some]
      dsimp only
      rw [nxt (by omega)]
      refine ⟨_, rfl, rfl, by dsimp only; omega, k2, m1, m2, by dsimp only; omega, fun _ => ?_, fun a x ha hx => ?_⟩
      ·dsimp only
       rw [hpre 0 (by omega)]
       exact g5 (by omega)
      ·dsimp only at hx ⊢
       rw [hpre a (by omega)] at hx
       by_cases e : a = i
       ·subst e
        rw [List.getElem?_eq_getElem hix] at hx
        cases hx
        exact m4
       ·rw [m3 _ (by omega)]
        exact g6 a x (by omega) hx
     rw [m_scan_task_restricted_l1]
     dsimp only
     rw [if_pos (ct_lt hix), idx_at hix, Option.bind_some, h.g3.1, containsA_eq (by omega) hpr.msi, Option.bind_some]
     cases hm : hasB p.2.2.1 X[i]
     ·rw [if_neg (by simp)]
      refine hj2 M g2 (fun x hx => by have := g3 x hx; omega) (fun x _ => Iff.rfl) ⟨fun hx => by have := g3 _ hx; omega, fun hx => ?_⟩
      rw [hasB_true.2 hx] at hm
      cases hm
     ·rw [if_pos rfl, app_eq (by simp; omega), Option.bind_some]
      refine hj2 _ ?_ (fun x hx => ?_) (fun x hx => ?_) ⟨fun _ => hasB_true.1 hm, fun _ => List.mem_append_right _ (List.mem_singleton.2 rfl)⟩
      ·unfold Inc at g2 ⊢
       rw [List.pairwise_append]
       exact ⟨g2, List.pairwise_singleton _ _, fun a ha b hb => by rw [List.mem_singleton.1 hb]; exact (g3 a ha).2⟩
      ·rcases List.mem_append.1 hx with hx | hx
       ·have := g3 x hx; omega
       ·rw [List.mem_singleton.1 hx]; omega
      ·rw [List.mem_append, List.mem_singleton]
       exact ⟨fun h => h.resolve_right hx, .inl⟩
    ·right
     obtain rfl : i = X.length := by omega
     rw [m_scan_task_restricted_l1]
     dsimp only
     rw [if_neg ct_ge]
     exact ⟨_, rfl, kn, g1, g2, g3, g4, g5, fun a x hx => g6 a x (List.getElem?_eq_some_iff.1 hx).1 hx⟩) (fun s ⟨e1, g0, g1, g2, g3, g4, g5, g6⟩ => by
    obtain ⟨c, X, kn, M, E⟩ := s
    dsimp only at e1 g0 g1 g2 g3 g4 g5 g6
    subst e1
    have hXl := g1.len
    have hX : n = X.length := by omega
    rw [m_scan_task_restricted_l1]
    dsimp only
    rw [if_neg (by simp; omega)]
    exact ⟨_, rfl, kn, by rw [← hX]; exact hX ▸ g1, g2, by rw [← hX]; exact g3, g4, g5, fun a x hx => g6 a x (by have h8 : a < X.length := (List.getElem?_eq_some_iff.1 hx).1; omega) hx⟩) (Nat.zero_le _) (0, X0, kn0, [], []) ⟨rfl, Nat.zero_le _, hS0, List.Pairwise.nil, fun x hx => (by cases hx), hz, hx0, fun a x ha => by omega⟩
  obtain ⟨X, M, E⟩ := o
  dsimp only at h2 h3 h4 h5 h6 h7
  have hXl := h2.len
  have hEl := h2.el
  have hMl := inc_len (n := X.length) (lo := 0) h3 h4 (Int.le_refl _)
  have hR : Right (p.1, (X.length : Int), M, E) X.length := by
   refine ⟨rfl, by omega, hpr.ali, hpr.alr, h3, h4, fun x hx => ?_, h2.so, by dsimp only; omega, by dsimp only; omega, by dsimp only; omega⟩
   obtain ⟨a, b, s, r, q1, q2, q3, q4, q5⟩ := h2.f.sn x hx
   have e3 := (List.getElem?_eq_some_iff.1 q3).1
   have e4 := (List.getElem?_eq_some_iff.1 q4).1
   exact ⟨by omega, by omega, by omega, by omega, h2.ea x hx⟩
  obtain ⟨oo, i1, i2⟩ := index_ex hR
  refine ⟨((p.1, (X.length : Int), M, E), oo), (p.1, (X.length : Int), M, E), X, ?_, ⟨rfl, i2⟩, hR, rfl, by omega, ?_, h6, h2.f.disc h2.nd h2.so h2.ea hpr.alr, h7⟩
  ·rw [m_scan_task_restricted_j1, h1, Option.bind_some]
   dsimp only
   rw [i1, Option.bind_some]
  ·rw [h5]
   have := hpr.nn
   omega
 rw [m_scan_task_restricted, h.g3.1, clone_eq (by omega), Option.bind_some, hpr.nn]
 by_cases h0 : n = 0
 ·rw [if_neg (by simp; omega)]
  exact main [] [] ⟨Fnd.start (by simp), fun s v hv => (by cases hv), fun s hs => (by cases hs), List.nodup_nil, fun s hs => (by cases hs), List.Pairwise.nil, fun x hx => (by cases hx), fun x hx => (by cases hx), by simp⟩ (by simp) (by simp [h0]) (fun h => by simp at h)
 ·rw [if_pos (by simp; omega), app_eq (by simp), Option.bind_some]
  refine main [0] _ ⟨Fnd.start (by simp), fun s v hv => ?_, fun s hs => ?_, by simp, fun s hs => ?_, List.Pairwise.nil, fun x hx => (by cases hx), fun x hx => (by cases hx), by simp⟩ (by simp) (by simp [h0]) (fun _ => rfl)
  ·rw [kget_kput] at hv
   split at hv
   ·rename_i e
    subst e
    cases hv
    exact ⟨0, rfl, rfl⟩
   ·cases hv
  ·rw [List.mem_singleton.1 hs, kget_kput, if_pos rfl]
   rfl
  ·rw [List.mem_singleton.1 hs]
   omega
end
end Go.Proofs.YtidakgbibobbdaaGreatDoor

namespace Go.Proofs.YtidakgbibobbdaaGreatDoor
open Go Go.RowKit
theorem known54 : m_overseerlaw54_known = some true := by kernel_rfl
end Go.Proofs.YtidakgbibobbdaaGreatDoor

namespace Go.Proofs.YtidakgbibobbdaaGreatDoor
open Go Go.RowKit
theorem count_upd {l : List Bool} {i : Nat} (hi : i < l.length) : (l.set i true).count false ≤ l.count false ∧ (l[i] = false → (l.set i true).count false < l.count false) := by
 have h := List.count_set (a := true) (b := false) hi
 have hm : l[i] = false → 0 < l.count false := fun e => List.count_pos_iff.2 (e ▸ List.getElem_mem hi)
 refine ⟨?_, fun e => ?_⟩
 ·rw [h]; simp
 ·have := hm e
  rw [h, e]; simp; omega
theorem live_ex {g : GrT} {r : AutT} {N : Nat} (hg : GrOk g r) (hR : Right r N) : ∃ b, m_scan_graph_live g = some b ∧ b.length = N := by
 have hnl := hR.nl
 have hl2 := hR.l2
 have hl3 := hR.l3
 obtain ⟨m, h1, h2⟩ := iter_inv (f := m_scan_graph_live_l1 g) (fun i s => s.1 = (i : Int) ∧ s.2.length = N) (fun o => o.length = N) r.2.2.1.length 0 (by omega) (fun i s hi ⟨e1, g1⟩ => by
   obtain ⟨c, l⟩ := s
   dsimp only at e1 g1
   subst e1
   left
   have hx := hR.msr _ (List.getElem_mem hi)
   obtain ⟨k, hk⟩ : ∃ k : Nat, r.2.2.1[i] = (k : Int) := ⟨r.2.2.1[i].toNat, by omega⟩
   rw [hk] at hx
   have hkl : k < l.length := by omega
   rw [m_scan_graph_live_l1, hg.1]
   dsimp only
   rw [if_pos (ct_lt hi), idx_at hi, Option.bind_some, hk, idx_at hkl, Option.bind_some, upd_at hkl, Option.bind_some, nxt (by omega)]
   exact ⟨_, rfl, rfl, by simpa using g1⟩) (fun s ⟨e1, g1⟩ => by
   obtain ⟨c, l⟩ := s
   dsimp only at e1 g1
   subst e1
   rw [m_scan_graph_live_l1, hg.1]
   dsimp only
   rw [if_neg ct_ge]
   exact ⟨_, rfl, g1⟩) (Nat.zero_le _) (0, List.replicate N false) ⟨rfl, by simp⟩
 have inner : ∀ l : List Bool, l.length = N → ∃ o, iter (m_scan_graph_live_l3 g) (0, false, l) = some o ∧ o.2.length = N ∧ o.2.count false ≤ l.count false ∧ (o.1 = true → o.2.count false < l.count false) := fun l hl => by
  refine iter_inv (f := m_scan_graph_live_l3 g) (fun i s => s.1 = (i : Int) ∧ s.2.2.length = N ∧ s.2.2.count false ≤ l.count false ∧ (s.2.1 = true → s.2.2.count false < l.count false)) (fun o => o.2.length = N ∧ o.2.count false ≤ l.count false ∧ (o.1 = true → o.2.count false < l.count false)) r.2.2.2.length 0 (by omega) (fun i s hi ⟨e1, g1, g2, g3⟩ => ?_) (fun s ⟨e1, g1, g2, g3⟩ => ?_) (Nat.zero_le _) (0, false, l) ⟨rfl, hl, Nat.le_refl _, fun h => by cases h⟩
  ·obtain ⟨c, mo, u⟩ := s
   dsimp only at e1 g1 g2 g3
   subst e1
   left
   have hx := hR.es _ (List.getElem_mem hi)
   obtain ⟨a, ha⟩ : ∃ k : Nat, r.2.2.2[i].1 = (k : Int) := ⟨r.2.2.2[i].1.toNat, by omega⟩
   obtain ⟨b, hb⟩ : ∃ k : Nat, r.2.2.2[i].2.2 = (k : Int) := ⟨r.2.2.2[i].2.2.toNat, by omega⟩
   rw [ha, hb] at hx
   have hal : a < u.length := by omega
   have hbl : b < u.length := by omega
   rw [m_scan_graph_live_l3, hg.1]
   dsimp only
   rw [if_pos (ct_lt hi), idx_at hi, Option.bind_some, hb, ha, idx_at hbl, Option.bind_some, idx_at hal]
   have hc := count_upd hal
   cases hub : u[b]
   ·rw [if_neg (by simp), Option.bind_some, if_neg (by simp), m_scan_graph_live_j1]
    dsimp only
    rw [nxt (by omega)]
    exact ⟨_, rfl, rfl, g1, g2, g3⟩
   ·rw [if_pos rfl, Option.bind_some, Option.bind_some]
    cases hua : u[a]
    ·rw [if_pos (by rfl), Option.bind_some, upd_at hal, Option.bind_some, m_scan_graph_live_j1]
     dsimp only
     rw [nxt (by omega)]
     have := hc.2 hua
     exact ⟨_, rfl, rfl, by simpa using g1, by dsimp only; omega, fun _ => by dsimp only; omega⟩
    ·rw [if_neg (by simp), m_scan_graph_live_j1]
     dsimp only
     rw [nxt (by omega)]
     exact ⟨_, rfl, rfl, g1, g2, g3⟩
  ·obtain ⟨c, mo, u⟩ := s
   dsimp only at e1 g1 g2 g3
   subst e1
   rw [m_scan_graph_live_l3, hg.1]
   dsimp only
   rw [if_neg ct_ge]
   exact ⟨_, rfl, g1, g2, g3⟩
 obtain ⟨o, h3, h4⟩ := iter_inv (f := m_scan_graph_live_l2 g) (fun i s => s.2.length = N ∧ (s.1 = true → s.2.count false + i ≤ N)) (fun o => o.length = N) (N + 1) 0 (by omega) (fun i s hi ⟨g1, g2⟩ => by
   obtain ⟨mo, u⟩ := s
   dsimp only at g1 g2
   rw [m_scan_graph_live_l2]
   dsimp only
   cases mo
   ·right
    rw [if_neg (by simp)]
    exact ⟨_, rfl, g1⟩
   ·left
    obtain ⟨o, k1, k2, k3, k4⟩ := inner u g1
    rw [if_pos rfl, k1, Option.bind_some]
    refine ⟨_, rfl, k2, fun h => ?_⟩
    have := k4 h
    have := g2 rfl
    omega) (fun s ⟨g1, g2⟩ => by
   obtain ⟨mo, u⟩ := s
   dsimp only at g1 g2
   rw [m_scan_graph_live_l2]
   dsimp only
   cases mo
   ·rw [if_neg (by simp)]
    exact ⟨_, rfl, g1⟩
   ·have := g2 rfl
    omega) (Nat.zero_le _) (true, m) ⟨h2, fun _ => by have := List.count_le_length (a := false) (l := m); dsimp only; omega⟩
 refine ⟨o, ?_, h4⟩
 rw [m_scan_graph_live, hg.1, hR.nn, mkL_eq (by omega) (by omega), Option.bind_some, Int.toNat_natCast, h1, Option.bind_some, h3]
 rfl
theorem idxB_ex {xs : List Bool} {b : Bool} (hl : xs.length < 4611686018427387904) : ∃ r, m_slices_Index_bool xs b = some r ∧ (r = -1 ∨ ∃ k : Nat, ∃ hk : k < xs.length, r = (k : Int) ∧ xs[k] = b) := by
 obtain ⟨o, h1, h2⟩ := idxL_ex (xs := xs) (f := fun x => some (b == x)) (g := fun x => b == x) (fun x _ => rfl) hl
 have h1 : iter (m_slices_Index_bool_l1 xs b) 0 = some o := h1
 rw [m_slices_Index_bool, h1, Option.bind_some]
 rcases h2 with ⟨rfl, h3⟩ | ⟨k, hk, rfl, h3, h4⟩
 ·exact ⟨_, rfl, .inl rfl⟩
 ·exact ⟨_, rfl, .inr ⟨k, hk, rfl, by simpa using Eq.symm (beq_iff_eq.1 h3)⟩⟩
theorem few54 (a : AutT) : ∃ b, m_overseerlaw54_few a = some b ∧ (b = true → a.1.length ≤ 10 ∧ a.2.2.1.length ≤ 10 ∧ a.2.2.2.length ≤ 10 ∧ ((toAut a).err = 0 → a.2.1 ≤ 40)) := by
 rw [m_overseerlaw54_few]
 by_cases h : ((decide ((a.1.length : Int) ≤ 10) && decide ((a.2.2.1.length : Int) ≤ 10)) && decide ((a.2.2.2.length : Int) ≤ 10)) = true
 ·rw [if_pos h]
  simp only [Bool.and_eq_true, decide_eq_true_eq] at h
  by_cases h2 : a.2.1 ≤ 40
  ·rw [if_pos (by simpa using h2)]
   exact ⟨true, rfl, fun _ => ⟨by omega, by omega, by omega, fun _ => h2⟩⟩
  ·rw [if_neg (by simpa using h2), check_toAut (by omega) (by omega) (by omega), Option.bind_some, Option.bind_some, Option.bind_some]
   refine ⟨_, rfl, fun hb => ⟨by omega, by omega, by omega, fun he => ?_⟩⟩
   rw [he] at hb
   cases hb
 ·rw [if_neg h]
  exact ⟨false, rfl, fun h => by cases h⟩
theorem zero54 : m_overseerlaw54_zero (0, [], []) = some true := by kernel_rfl
theorem with_no {q : ProbT} (ho : m_scan_open q = some (none, errP q)) (he : errP q ≠ 0) (l : List Int) : m_scan_with q l = some (none, errP q) := by
 rw [m_scan_with, ho, Option.bind_some, if_pos (by simpa using he)]
theorem choices_ok {q : ProbT} {t : TaskT} {p : AutT} {T : List (List Int)} {n1 n2 n : Nat} (h : TaskOk q t p T n1 n2 n) {l : List Int} (hl : l.length ≤ 1000000) (hw : m_scan_with q l = some (some t, 0)) : (∃ r, m_scan_Choices q l = some r ∧ r.2.2 = 0) ∧ ∃ r, m_scan_Restricted q l = some r ∧ r.2 = 0 := by
 obtain ⟨g, r, X, e1, hg, hr⟩ := restricted_ex h l hl
 obtain ⟨b, e2, e3⟩ := live_ex hg hr.right
 have hX := hr.le
 obtain ⟨v, e4, e5⟩ := idxB_ex (xs := b) (b := false) (by omega)
 constructor
 ·rw [m_scan_Choices, hw, Option.bind_some, if_neg (by simp), Option.bind_some, e1, Option.bind_some, e2, Option.bind_some, e4, Option.bind_some]
  rcases e5 with rfl | ⟨k, hk, rfl, _⟩
  ·rw [if_neg (by simp)]
   exact ⟨_, rfl, rfl⟩
  ·rw [if_pos (by simp), word_eq hg hr.right hr.disc.num (by omega) (by omega), Option.bind_some]
   exact ⟨_, rfl, rfl⟩
 ·rw [m_scan_Restricted, hw, Option.bind_some, if_neg (by simp), Option.bind_some, e1, Option.bind_some]
  exact ⟨_, rfl, rfl⟩
theorem scanErrors_law (q : ProbT) (z : Int) (l : List Int) : m_overseerlaw54_ScanErrors q z l = some true := by
 rw [m_overseerlaw54_ScanErrors, known54, Option.bind_some, if_neg (by simp)]
 obtain ⟨fp, f1, f2⟩ := few54 q.1
 obtain ⟨fs, f3, f4⟩ := few54 q.2.1
 rw [f1, Option.bind_some, Option.bind_some]
 cases fp
 ·rw [if_pos (by rfl), Option.bind_some, if_pos (by rfl), Option.bind_some]
 rw [if_neg (by simp), f3, Option.bind_some, Option.bind_some]
 by_cases hg : ((!fs || decide ((q.2.2.length : Int) > 10)) || decide ((l.length : Int) > 8)) = true
 ·rw [if_pos hg, Option.bind_some]
 rw [if_neg hg]
 simp only [Bool.or_eq_true, not_or, Bool.not_eq_true', decide_eq_true_eq] at hg
 obtain ⟨⟨hfs, hu⟩, hl⟩ := hg
 have hfs : fs = true := by simpa using hfs
 obtain ⟨p1, p2, p3, p4⟩ := f2 rfl
 obtain ⟨s1, s2, s3, s4⟩ := f4 hfs
 have hS : ShortP q := ⟨by omega, by omega, by omega, by omega, by omega, by omega, by omega⟩
 rw [check54_eq hS, Option.bind_some]
 by_cases he : errP q = 0
 case neg =>
  have ho := open_no hS he
  have hw := with_no ho he l
  have hne : (errP q != 0) = true := by simpa using he
  have e1 : m_scan_Handle q (-1) [] = some (0, 0, errP q) := by rw [m_scan_Handle, ho, Option.bind_some, if_pos hne]
  have e2 : m_scan_Safe q (-1) [] = some ([], errP q) := by rw [m_scan_Safe, ho, Option.bind_some, if_pos hne]
  have e3 : m_scan_Orders q z = some ((0, [], []), false, errP q) := by rw [m_scan_Orders, ho, Option.bind_some, if_pos hne]
  have e4 : m_scan_Delays q = some ((0, [], []), false, errP q) := by rw [m_scan_Delays, ho, Option.bind_some, if_pos hne]
  have e5 : m_scan_Choices q l = some ((0, [], []), false, errP q) := by rw [m_scan_Choices, hw, Option.bind_some, if_pos hne]
  have e6 : m_scan_Restricted q l = some (([], 0, [], []), errP q) := by rw [m_scan_Restricted, hw, Option.bind_some, if_pos hne]
  have e7 : m_scan_Chosen q l [] = some (0, false, errP q) := by rw [m_scan_Chosen, hw, Option.bind_some, if_pos hne]
  have e8 : m_scan_Verify q l (0, [], []) = some (errP q) := by rw [m_scan_Verify, hw, Option.bind_some, if_pos hne]
  have e9 : m_scan_Check q = some (errP q) := by rw [m_scan_Check, ho, Option.bind_some]
  rw [e1, Option.bind_some, e2, Option.bind_some, e3, Option.bind_some, e4, Option.bind_some, e5, Option.bind_some, e6, Option.bind_some, e7, Option.bind_some, e8, Option.bind_some, e9, Option.bind_some]
  dsimp only
  rw [if_neg (by simp), if_pos hne, zero54]
  simp
 case pos =>
  have q1 : (toAut q.1).err = 0 := by
   unfold errP at he
   by_cases h : (toAut q.1).err = 0
   ·exact h
   ·rw [if_pos (by simpa using h)] at he; exact he
  have q2 : (toAut q.2.1).err = 0 := by
   unfold errP at he
   rw [if_neg (by simpa using q1)] at he
   by_cases h : (toAut q.2.1).err = 0
   ·exact h
   ·rw [if_pos (by simpa using h)] at he; exact he
  obtain ⟨t, p, T, n1, n2, n, ho, h⟩ := open_yes hS he (p4 q1) (s4 q2)
  have e1 : m_scan_Handle q (-1) [] = some (0, 0, 2) := by
   rw [m_scan_Handle, ho, Option.bind_some, if_neg (by simp), Option.bind_some, m_scan_task_checkImage, if_pos (by simp), Option.bind_some, if_pos (by simp)]
  have e2 : m_scan_Safe q (-1) [] = some ([], 2) := by
   rw [m_scan_Safe, ho, Option.bind_some, if_neg (by simp), Option.bind_some, m_scan_task_checkImage, if_pos (by simp), Option.bind_some, if_pos (by simp)]
  obtain ⟨r3, e3, g3⟩ : ∃ r, m_scan_Orders q z = some r ∧ (r.2.2 == 2) = (decide (z < 2) || decide (z > 3)) := by
   by_cases hz : (decide (z < 2) || decide (z > 3)) = true
   ·refine ⟨((0, [], []), false, 2), ?_, by rw [hz]; rfl⟩
    rw [m_scan_Orders, ho, Option.bind_some, if_neg (by simp), if_pos hz]
   ·simp only [Bool.or_eq_true, decide_eq_true_eq, not_or] at hz
    obtain ⟨r, k1, k2⟩ := orders_ok h ho (z := z) (by omega) (by omega)
    refine ⟨r, k1, ?_⟩
    rw [k2]
    simp
    omega
  obtain ⟨r4, e4, g4⟩ := delays_ok h ho
  have e9 : m_scan_Check q = some 0 := by rw [m_scan_Check, ho, Option.bind_some]
  have hll : l.length ≤ 1000000 := by omega
  have hw := with_eq h ho hll
  have hpr := prioL_eq (q := q) hll hS.p1 hS.u1
  rw [e1, Option.bind_some, e2, Option.bind_some, e3, Option.bind_some, e4, Option.bind_some]
  by_cases hp : priE q.1.1 q.2.2 [] l = 0
  ·rw [if_pos hp] at hw
   obtain ⟨⟨r5, e5, g5⟩, r6, e6, g6⟩ := choices_ok h hll hw
   have hn : (p.2.1 = 0) ↔ (q.1.2.1 = 0 ∨ q.2.1.2.1 = 0) := by
    rw [← h.loop.zero, h.loop.right.nn]
    omega
   obtain ⟨r7, e7, g7⟩ : ∃ r, m_scan_Chosen q l [] = some r ∧ (r.2.2 == 10) = ((q.1.2.1 == 0) || (q.2.1.2.1 == 0)) := by
    rw [m_scan_Chosen, hw, Option.bind_some, if_neg (by simp), Option.bind_some, after_nil h.g3, Option.bind_some]
    by_cases h0 : p.2.1 = 0
    ·rw [if_pos h0, if_pos (by rfl)]
     refine ⟨_, rfl, ?_⟩
     have := hn.1 h0
     simpa using this
    ·rw [if_neg h0, if_neg (by simp), chosen_eq h 0 hll, Option.bind_some]
     have h00 : ((q.1.2.1 == 0) || (q.2.1.2.1 == 0)) = false := by
      rw [← Bool.not_eq_true]
      intro hc
      exact h0 (hn.2 (by simpa using hc))
     rw [h00]
     split
     ·exact ⟨_, rfl, rfl⟩
     ·exact ⟨_, rfl, rfl⟩
   have e8 : m_scan_Verify q l (0, [], []) = some 11 := by
    rw [m_scan_Verify, hw, Option.bind_some, if_neg (by simp), Option.bind_some, after_nil h.g3, Option.bind_some, if_neg (by simp), if_neg (by simp), if_neg (by simp)]
   rw [e5, Option.bind_some, e6, Option.bind_some, e7, Option.bind_some, e8, Option.bind_some, e9, Option.bind_some]
   dsimp only
   rw [he, if_neg (by simp), if_neg (by simp), if_neg (by rw [g3, g4]; simp), hpr, Option.bind_some, hp, if_neg (by simp), g5, g6, g7]
   simp
  ·rw [if_neg hp] at hw
   have hne : (priE q.1.1 q.2.2 [] l != 0) = true := by simpa using hp
   have e5 : m_scan_Choices q l = some ((0, [], []), false, priE q.1.1 q.2.2 [] l) := by rw [m_scan_Choices, hw, Option.bind_some, if_pos hne]
   have e6 : m_scan_Restricted q l = some (([], 0, [], []), priE q.1.1 q.2.2 [] l) := by rw [m_scan_Restricted, hw, Option.bind_some, if_pos hne]
   have e7 : m_scan_Chosen q l [] = some (0, false, priE q.1.1 q.2.2 [] l) := by rw [m_scan_Chosen, hw, Option.bind_some, if_pos hne]
   have e8 : m_scan_Verify q l (0, [], []) = some (priE q.1.1 q.2.2 [] l) := by rw [m_scan_Verify, hw, Option.bind_some, if_pos hne]
   rw [e5, Option.bind_some, e6, Option.bind_some, e7, Option.bind_some, e8, Option.bind_some, e9, Option.bind_some]
   dsimp only
   rw [he, if_neg (by simp), if_neg (by simp), if_neg (by rw [g3, g4]; simp), hpr, Option.bind_some, if_pos hne, zero54]
   simp
end Go.Proofs.YtidakgbibobbdaaGreatDoor

namespace Go.Proofs.YtidakgbibobbdaaGreatDoor
open Go Go.ChangeShapes Go.WideShapes Go.ChangeAt Go.RowKit Go.Deep
theorem op_fieldN {P : Program} {t : TypeId} {H : Type} {enc : TypeId × Value → H} {w : World} {fuel : Nat} {cs : List Value} {x : DataW H × List MemPlace} {fs : Array Field} (ht : P.underlying t = some (.struct fs)) (h : DataW.trod enc P w 0 (fun _ => true) true fuel t cs = some x) (i : Nat) (u : TypeId) {f : Field} {o m : Nat} {l : List Value} (hf : fs[i]? = some f) (hu : f.type = u) (ho : f.offset = o) (hc : P.cellsOf u = m) (hat : (cs.drop o).take m = l) :
  ∃ n y, DataW.trod enc P w 0 (fun _ => true) true n u l = some y := by
 obtain ⟨n, y, g⟩ := op_field ht h hf
 subst hu
 subst ho
 rw [hc, hat] at g
 exact ⟨n, y, g⟩
theorem arr9 {cs : Array Value} (h : cs.size = 9) : ∃ a b c d e f g i j, cs = #[a, b, c, d, e, f, g, i, j] := by
 obtain ⟨l⟩ := cs
 match l, h with
 | [a, b, c, d, e, f, g, i, j], _ => exact ⟨a, b, c, d, e, f, g, i, j, rfl⟩
theorem tc_aut : Tryz.prog.cellsOf 25 = 4 := by kernel_rfl
theorem prob_types : Tryz.prog.cellTypes Tryz.prog.depth 27 = some [22, 3, 22, 23, 22, 3, 22, 23, 22] := by kernel_rfl
theorem prob_cells : Tryz.prog.cellsOf 27 = [22, 3, 22, 23, 22, 3, 22, 23, 22].length := by kernel_rfl
section
variable {H : Type} {enc : TypeId × Value → H} {w : World} {base : Nat} {v : Value} {d : DataW H} {ps : List MemPlace}
/-- Four cells that are an automaton. -/
theorem aut4 {fuel : Nat} {x y z u : Value} {r : DataW H × List MemPlace} (o0 : Cell.okWide Tryz.prog w .any base 22 x) (o2 : Cell.okWide Tryz.prog w .any base 22 z) (o3 : Cell.okWide Tryz.prog w .any base 23 u) (hf : DataW.trod enc Tryz.prog w 0 (fun _ => true) true fuel 25 [x, y, z, u] = some r) : ∃ (p : List Int × Int × List Int × List (Int × Int × Int)) (a : Option Addr) (c : Nat) (b : Option Addr) (e : Nat) (f : Option Addr) (g : Nat), x = .slice a p.1.length c ∧ y = .int .i64 p.2.1 ∧ z = .slice b p.2.2.1.length e ∧ u = .slice f p.2.2.2.length g ∧
  RdL (rK .i64) ⟨w, fun _ => 0⟩ a c p.1 ∧ RdL (rK .i64) ⟨w, fun _ => 0⟩ b e p.2.2.1 ∧ RdL (rP (rK .i64) (rP (rK .i64) (rK .i64))) ⟨w, fun _ => 0⟩ f g p.2.2.2 := by
 obtain ⟨n0, x0, g0⟩ := op_field1 Tryz.underlying25 hf 0 22 rfl rfl rfl tc_ints rfl
 obtain ⟨n1, x1, g1⟩ := op_field1 Tryz.underlying25 hf 1 3 rfl rfl rfl tc_int rfl
 obtain ⟨n2, x2, g2⟩ := op_field1 Tryz.underlying25 hf 2 22 rfl rfl rfl tc_ints rfl
 obtain ⟨n3, x3, g3⟩ := op_field1 Tryz.underlying25 hf 3 23 rfl rfl rfl tc_edges rfl
 obtain ⟨a, c, xs, rfl, r0, -⟩ := op_slice Tryz.underlying22 tc_int op_i64 o0 g0
 obtain ⟨b, e, ys, rfl, r2, -⟩ := op_slice Tryz.underlying22 tc_int op_i64 o2 g2
 obtain ⟨f, g, zs, rfl, r3, -⟩ := op_slice Tryz.underlying23 tc_edge op_edge o3 g3
 obtain ⟨k, hk, -⟩ := op_i64 _ _ _ _ _ _ g1
 cases hk
 exact ⟨(xs, k, ys, zs), a, c, b, e, f, g, rfl, rfl, rfl, rfl, r0, r2, r3⟩
/-- A problem. -/
theorem arg_prob (hok : Value.okWide Tryz.prog w .any base 27 v) (h : DataW.Trod enc Tryz.prog w 0 (fun _ => true) true 27 v d ps) : ∃ (p : (List Int × Int × List Int × List (Int × Int × Int)) × (List Int × Int × List Int × List (Int × Int × Int)) × List Int) (a1 : Option Addr) (c1 : Nat) (a2 : Option Addr) (c2 : Nat) (a3 : Option Addr) (c3 : Nat) (a4 : Option Addr) (c4 : Nat) (a5 : Option Addr) (c5 : Nat) (a6 : Option Addr) (c6 : Nat) (a7 : Option Addr) (c7 : Nat),
  v = .agg #[.slice a1 p.1.1.length c1, .int .i64 p.1.2.1, .slice a2 p.1.2.2.1.length c2, .slice a3 p.1.2.2.2.length c3, .slice a4 p.2.1.1.length c4, .int .i64 p.2.1.2.1, .slice a5 p.2.1.2.2.1.length c5, .slice a6 p.2.1.2.2.2.length c6, .slice a7 p.2.2.length c7] ∧
  RdL (rK .i64) ⟨w, fun _ => 0⟩ a1 c1 p.1.1 ∧ RdL (rK .i64) ⟨w, fun _ => 0⟩ a2 c2 p.1.2.2.1 ∧ RdL (rP (rK .i64) (rP (rK .i64) (rK .i64))) ⟨w, fun _ => 0⟩ a3 c3 p.1.2.2.2 ∧ RdL (rK .i64) ⟨w, fun _ => 0⟩ a4 c4 p.2.1.1 ∧ RdL (rK .i64) ⟨w, fun _ => 0⟩ a5 c5 p.2.1.2.2.1 ∧ RdL (rP (rK .i64) (rP (rK .i64) (rK .i64))) ⟨w, fun _ => 0⟩ a6 c6 p.2.1.2.2.2 ∧ RdL (rK .i64) ⟨w, fun _ => 0⟩ a7 c7 p.2.2 := by
 obtain ⟨cs, rfl, h1, h2⟩ := op_agg Tryz.underlying27 prob_types prob_cells hok
 obtain ⟨x0, x1, x2, x3, x4, x5, x6, x7, x8, rfl⟩ := arr9 h1
 obtain ⟨fuel, hf⟩ := h
 obtain ⟨k0, e0, o0⟩ := h2 0 22 rfl
 obtain ⟨k2, e2, o2⟩ := h2 2 22 rfl
 obtain ⟨k3, e3, o3⟩ := h2 3 23 rfl
 obtain ⟨k4, e4, o4⟩ := h2 4 22 rfl
 obtain ⟨k6, e6, o6⟩ := h2 6 22 rfl
 obtain ⟨k7, e7, o7⟩ := h2 7 23 rfl
 obtain ⟨k8, e8, o8⟩ := h2 8 22 rfl
 cases e0
 cases e2
 cases e3
 cases e4
 cases e6
 cases e7
 cases e8
 obtain ⟨n0, y0, g0⟩ := op_fieldN Tryz.underlying27 hf 0 25 rfl rfl rfl tc_aut rfl
 obtain ⟨n1, y1, g1⟩ := op_fieldN Tryz.underlying27 hf 1 25 rfl rfl rfl tc_aut rfl
 obtain ⟨n2, y2, g2⟩ := op_field1 Tryz.underlying27 hf 2 22 rfl rfl rfl tc_ints rfl
 obtain ⟨P, a1, c1, a2, c2, a3, c3, rfl, rfl, rfl, rfl, r1, r2, r3⟩ := aut4 o0 o2 o3 g0
 obtain ⟨S, a4, c4, a5, c5, a6, c6, rfl, rfl, rfl, rfl, r4, r5, r6⟩ := aut4 o4 o6 o7 g1
 obtain ⟨a7, c7, U, rfl, r7, -⟩ := op_slice Tryz.underlying22 tc_int op_i64 o8 g2
 exact ⟨(P, S, U), a1, c1, a2, c2, a3, c3, a4, c4, a5, c5, a6, c6, a7, c7, rfl, r1, r2, r3, r4, r5, r6, r7⟩
end

theorem scanErrors_lifted (os : Os) (started : os.Started) (H : Type) (enc : TypeId × Value → H) :
  ReturnsInHanded {} Tryz.checked os 3 .any (fun w args => (Rows.scanErrorsSpec.pre enc Tryz.prog Tryz.f3 [] false w args ∧ laidMetH Tryz.prog lay24 w) ∧ sizedMet enc Tryz.prog Tryz.f3 (OpenSpec.ofChange Rows.scanErrorsSpec) false w args) (Rows.scanErrorsSpec.post enc Tryz.prog Tryz.f3 false true false false) := by
 refine returnsInHanded_of_change_and (C := Tryz.checked) (X := fun w _ => laidMetH Tryz.prog lay24 w) (fun _ _ _ hh h => h.of_heap hh) Tryz.own started (by kernel_rfl) Tryz.func3
  (ChangeSpec.witness_shaped (enc := enc) (C := Tryz.checked) (os := os) (X := fun w _ => laidMetH Tryz.prog lay24 w) false (World.laidAll Tryz.prog os lay24) #[.agg #[.slice none 0 0, .int .i64 0, .slice none 0 0, .slice none 0 0, .slice none 0 0, .int .i64 0, .slice none 0 0, .slice none 0 0, .slice none 0 0], .int .i64 0, .slice none 0 0] 8 (World.laidAll_os _ _ _) (World.shaped_of_ZipB (by kernel_rfl) (by kernel_rfl)) (by kernel_rfl) (by kernel_rfl) (by kernel_rfl) (lay24_met os _)) ?_
 intro W base args ds gs before hval0 hW _ _ _ _
 have hval : ∀ (j : Nat) t v, Tryz.f3.params[j]? = some t → args[j]? = some v → Value.okWide Tryz.prog W .any base t v := hval0
 have hW' := hW
 obtain ⟨p, q, hA0, hV, rfl, hfz, hnd⟩ := hW
 have hA : DataW.TrodAll enc Tryz.prog W 0 (fun _ => true) true Tryz.f3.params.toList args.toList ds p := hA0
 rw [Tryz.params3] at hA hval
 obtain ⟨v0, v1, v2, d0, d1, d2, p0, p1, p2, rfl, rfl, rfl, h0, h1, h2⟩ := trodAll_three hA
 obtain ⟨p, a1, c1, a2, c2, a3, c3, a4, c4, a5, c5, a6, c6, a7, c7, rfl, r1, r2, r3, r4, r5, r6, r7⟩ := arg_prob (hval 0 27 v0 rfl rfl) h0
 obtain ⟨x, rfl, rfl, rfl, wx⟩ := open_int Tryz.underlying3 (hval 1 3 v1 rfl rfl) h1
 obtain ⟨a8, c8, l, rfl, r8, -⟩ := arg_ints (hval 2 22 v2 rfl rfl) h2
 obtain ⟨rfl, rfl⟩ := trodVars_none hV
 clear hA0 hval0
 refine (m_overseerlaw54_ScanErrors_c (s := ⟨W, fun _ => 0⟩) r1 r2 r3 r4 r5 r6 r7 r8 (scanErrors_law p x l)).mono fun e W' ⟨v, s', hw, he, hm, hv⟩ => ?_
 subst hw
 subst he
 subst hv
 have hbl := hm.below
 exact ⟨_, rfl, law_post Tryz.laidOut hW' rfl (by kernel_rfl) (by kernel_rfl) Tryz.underlying4 rfl rfl rfl hbl⟩

theorem scanErrors_holds : Rows.ScanErrorsSaid :=
 OpenClaim.holds_of_wide 3 Tryz.f3 rfl rfl rfl rfl rfl rfl rfl ⟨rfl, rfl, rfl, rfl, rfl⟩ rfl rfl rfl rfl rfl (by kernel_rfl) Tryz.func3 (by kernel_rfl)
  (of_decide_eq_true (by kernel_rfl)) (by unfold Func.isWrapper; first | (rw [if_pos (by decide +kernel)]; kernel_rfl) | (rw [if_neg (by decide +kernel)]; exact ⟨rfl, rfl⟩))
  (fun os started H enc _ => scanErrors_lifted os started H enc)
theorem scanErrors_card_holds : Rows.ScanErrorsCardSaid :=
 Claim7.holds_tied_plain_at .later [] [.data, .data, .data] true _ false
  scanErrors_holds (fun _ h => by cases h) (by kernel_rfl) (fun _ h => by cases h) scanErrors_row_tie rfl ⟨rfl, rfl⟩ (by kernel_rfl) rfl
  (fun f fn hf hfn => by
   obtain rfl : f = 3 := Option.some.inj ((show Tryz.prog.funcNamed "overseer/overseerlaw54.ScanErrors" = some 3 by kernel_rfl).symm.trans hf) |>.symm
   obtain rfl : fn = Tryz.f3 := (Option.some.inj (Tryz.func3.symm.trans hfn)).symm
   exact ⟨by kernel_rfl, fun j t ht => by
    have hm : t ∈ Tryz.f3.params := Array.mem_of_getElem? ht
    have hall : (Tryz.f3.params.toList.all fun u => !(Tryz.prog.wantsStandIn u)) = true := by kernel_rfl
    exact (show Tryz.prog.wantsStandIn t = false by simpa using List.all_eq_true.1 hall t (Array.mem_toList_iff.2 hm))⟩)
  (by kernel_rfl)
end Go.Proofs.YtidakgbibobbdaaGreatDoor
