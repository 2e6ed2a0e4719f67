/- ReachRefuses returns true for all arguments, and leaves its arguments as they were. No conditions. -/
import Derived.Test.YthchkddhibhenaaQcn6
namespace Go.Proofs.Ythchkddhibhenaa
open Go Go.RowKit
theorem sum_le {g : Nat → Nat} {c : Nat} (hg : ∀ t, g t ≤ c) : ∀ n, ((List.range n).map g).sum ≤ n * c
  | 0 => by simp
  | n + 1 => by
    have := sum_le hg n
    have := hg n
    rw [List.range_succ, List.map_append, List.sum_append, Nat.succ_mul]
    simp
    omega
theorem leftL_le {es : List Ed} {n : Nat} {s : Int} {seen : List Bool} : leftL es n [(s, outE es s)] seen ≤ es.length + 1 + n * (es.length + 2) := by
  have h1 : ∀ u, (outE es u).length ≤ es.length := fun u => List.length_filter_le _ _
  have h2 := sum_le (g := fun t => if seen.getD t false = true then 0 else (outE es (t : Int)).length + 2) (c := es.length + 2) (fun t => by
    have := h1 (t : Int)
    split <;> omega) n
  have h3 := h1 s
  unfold leftL
  simp only [List.map_cons, List.map_nil, List.sum_cons, List.sum_nil]
  omega
theorem order_sim {a : AutT} {n : Nat} (hr : Right a n) {fs : List Int} {F : Nat → Nat} (hF : FsOk a n fs F) : iter (m_reach_Components_l1 a (a, fs)) (0, List.replicate n false, []) = some (orderF (edsOf a) n).2 := by
  have hnl := hr.nl
  have hl3 := hr.l3
  have hel : (edsOf a).length = a.2.2.2.length := List.length_map _
  have hes : ∀ x ∈ edsOf a, 0 ≤ x.t ∧ x.t < (n : Int) := fun x hx => (hr.ein x hx).2.2
  obtain ⟨o, h1, rfl⟩ := iter_inv (f := m_reach_Components_l1 a (a, fs)) (fun i s => i ≤ n ∧ s.1 = (i : Int) ∧ (s.2.1, s.2.2) = (List.range i).foldl (ordStep (edsOf a) n) (List.replicate n false, [])) (fun o => o = (orderF (edsOf a) n).2) n 0 (by omega) (fun i s hi ⟨_, e1, e2⟩ => by
      obtain ⟨k, seen, ord⟩ := s
      dsimp only at e1 e2
      subst e1
      obtain ⟨hI, _⟩ := order_fold hes i (by omega)
      rw [← e2] at hI
      dsimp only at hI
      have hsl := hI.len
      left
      have hfold : (List.range (i + 1)).foldl (ordStep (edsOf a) n) (List.replicate n false, []) = ordStep (edsOf a) n (seen, ord) i := by
        rw [List.range_succ, List.foldl_append, ← e2]; rfl
      have hgd : seen.getD i false = seen[i]'(by omega) := by rw [List.getD_eq_getElem?_getD, List.getElem?_eq_getElem (by omega)]; rfl
      rw [m_reach_Components_l1]
      dsimp only
      rw [hr.nn, if_pos (ct_lt hi), idx_at (by omega), Option.bind_some]
      cases hb : seen[i]'(by omega) with
      | true =>
        rw [if_neg (by simp), m_reach_Components_j2]
        refine ⟨_, rfl, by omega, by dsimp only; rw [nxt (by omega)], ?_⟩
        dsimp only
        rw [hfold, ordStep]
        dsimp only
        rw [hgd, hb, if_pos rfl]
      | false =>
        have hn : (i : Int) ∉ held [] ord := fun e => by
          have := (hI.seen (i : Int) (by omega) (by omega)).2 e
          unfold Gd at this
          rw [Int.toNat_natCast, hgd, hb] at this
          cases this
        have he := hI.enter (t := (i : Int)) (by omega) (by omega) hn (fun s hs => by cases hs)
        rw [Int.toNat_natCast] at he
        have hm := hF.mono i hi
        have hfl := hF.len
        have hst : [((i : Int), ((F i : Nat) : Int))].reverse.map (stkOf a F) = [((i : Int), outE (edsOf a) (i : Int))] := by
          show [stkOf a F ((i : Int), ((F i : Nat) : Int))] = _
          unfold stkOf
          dsimp only
          rw [Int.toNat_natCast, Int.toNat_natCast, hF.out i hi, outE_eq]
        have hle := leftL_le (es := edsOf a) (n := n) (s := (i : Int)) (seen := seen.set i true)
        have hmul := Nat.mul_le_mul hnl (show (edsOf a).length + 2 ≤ 1000002 by omega)
        have hsim := finish_sim hr hF _ _ (seen.set i true) ord [((i : Int), ((F i : Nat) : Int))] hst (fun p hp => by
          rw [List.mem_singleton.1 hp]
          dsimp only
          rw [Int.toNat_natCast]
          omega) he (Nat.le_refl _)
        have hit := iter_of (by omega) hsim
        obtain ⟨hE, _⟩ := dfs_says hes _ _ _ _ he (Nat.le_refl _)
        have hEl := hE.len
        have hfin : m_reach_graph_finish (a, fs) (i : Int) seen ord = some ((dfsL (edsOf a) (leftL (edsOf a) n [((i : Int), outE (edsOf a) (i : Int))] (seen.set i true)) [((i : Int), outE (edsOf a) (i : Int))] (seen.set i true) ord).2, (dfsL (edsOf a) (leftL (edsOf a) n [((i : Int), outE (edsOf a) (i : Int))] (seen.set i true)) [((i : Int), outE (edsOf a) (i : Int))] (seen.set i true) ord).1) := by
          rw [m_reach_graph_finish]
          dsimp only
          rw [idx_at (by omega), Option.bind_some, hF.val, idx_at (by omega), Option.bind_some, upd_at (by omega), Option.bind_some, hit]
          rfl
        rw [if_pos (by simp), hfin, Option.bind_some, lenEq]
        dsimp only
        rw [if_pos (by omega), Option.bind_some, m_reach_Components_j2]
        refine ⟨_, rfl, by omega, by dsimp only; rw [nxt (by omega)], ?_⟩
        dsimp only
        rw [hfold, ordStep]
        dsimp only
        rw [hgd, hb, if_neg (by simp)]) (fun s ⟨_, e1, e2⟩ => by
      obtain ⟨k, seen, ord⟩ := s
      dsimp only at e1 e2
      subst e1
      refine ⟨ord, ?_, ?_⟩
      · rw [m_reach_Components_l1]
        dsimp only
        rw [hr.nn, if_neg ct_ge]
      · unfold orderF
        rw [← e2]) (Nat.zero_le _) (0, List.replicate n false, []) ⟨Nat.zero_le _, rfl, rfl⟩
  exact h1
/-- The predecessors of each state. -/
structure IntoOk (a : AutT) (n : Nat) (L : List (List Int)) : Prop where
  len : L.length = n
  val : ∀ t (h : t < L.length), L[t] = preds (edsOf a) (t : Int)
theorem into_sim {a : AutT} {n : Nat} (hr : Right a n) : ∃ L, iter (m_reach_Components_l2 a) (0, List.replicate n []) = some L ∧ IntoOk a n L := by
  have hnl := hr.nl
  have hl3 := hr.l3
  obtain ⟨o, h1, h2, h3⟩ := iter_inv (f := m_reach_Components_l2 a) (fun i s => s.1 = (i : Int) ∧ s.2.length = n ∧ ∀ t (_ : t < s.2.length), s.2[t] = (((a.2.2.2.take i).filter fun x => decide (x.2.2 = (t : Int))).map fun x => x.1)) (fun o => o.length = n ∧ ∀ t (_ : t < o.length), o[t] = ((a.2.2.2.filter fun x => decide (x.2.2 = (t : Int))).map fun x => x.1)) a.2.2.2.length 0 (by omega) (fun i s hi ⟨e1, g1, g2⟩ => by
      obtain ⟨k, L⟩ := s
      dsimp only at e1 g1 g2
      subst e1
      have hx := hr.es _ (List.getElem_mem hi)
      obtain ⟨t, ht⟩ : ∃ t : Nat, a.2.2.2[i].2.2 = t := ⟨a.2.2.2[i].2.2.toNat, by omega⟩
      have htn : t < L.length := by omega
      have hlen : (L[t]'htn).length ≤ i := by
        rw [g2, List.length_map]
        exact Nat.le_trans (List.length_filter_le _ _) (by rw [List.length_take]; omega)
      refine .inl ⟨(((i + 1 : Nat) : Int), L.set t (L[t] ++ [a.2.2.2[i].1])), ?_, rfl, by simp [g1], fun u hu => ?_⟩
      · rw [m_reach_Components_l2]
        dsimp only
        rw [if_pos (ct_lt hi), idx_at hi, Option.bind_some, ht, idx_at htn, Option.bind_some, app_eq (by simp; omega), Option.bind_some, Option.bind_some, upd_at htn, Option.bind_some, nxt (by omega)]
      · have hu2 : u < L.length := by simpa using hu
        dsimp only
        rw [List.getElem_set, List.take_succ_eq_append_getElem hi, List.filter_append, List.map_append]
        by_cases h : t = u
        · subst h
          rw [if_pos rfl, g2, List.filter_cons_of_pos (by simp [ht])]
          rfl
        · rw [if_neg h, g2, List.filter_cons_of_neg (by simp [ht]; omega)]
          simp) (fun s ⟨e1, g1, g2⟩ => by
      obtain ⟨k, L⟩ := s
      dsimp only at e1 g1 g2
      subst e1
      refine ⟨L, ?_, g1, by rw [List.take_length] at g2; exact g2⟩
      rw [m_reach_Components_l2]
      dsimp only
      rw [if_neg ct_ge]) (Nat.zero_le _) (0, List.replicate n []) ⟨rfl, by simp, fun t ht => by simp⟩
  refine ⟨o, h1, h2, fun t ht => ?_⟩
  rw [h3 t ht]
  unfold preds edsOf
  rw [List.filter_map, List.map_map]
  rfl
/-- The classes as numbers and as flags. -/
structure ClsR (n : Nat) (cls : List Bool) (cl : List Int) : Prop where
  l1 : cls.length = n
  l2 : cl.length = n
  val : ∀ t (h : t < cls.length) (h2 : t < cl.length), 0 ≤ cl[t] ∧ (cl[t] = 0 ↔ cls[t] = false)
theorem ClsR.set {n : Nat} {cls : List Bool} {cl : List Int} (h : ClsR n cls cl) {t : Nat} {v : Int} (hv : 0 < v) : ClsR n (cls.set t true) (cl.set t v) := by
  refine ⟨by rw [List.length_set]; exact h.l1, by rw [List.length_set]; exact h.l2, fun u hu hu2 => ?_⟩
  rw [List.getElem_set, List.getElem_set]
  by_cases e : t = u
  · rw [if_pos e, if_pos e]; exact ⟨by omega, by simp; omega⟩
  · rw [if_neg e, if_neg e]; exact h.val u _ _
theorem grp_inner {a : AutT} {n : Nat} (hr : Right a n) {z : List Int × List (List Int)} (hz : z.2.length ≤ 1000000) {cls0 : List Bool} {root t : Int} {cls : List Bool} {G : List Int} {cl : List Int} (hG : GrpI (edsOf a) n cls0 root (cls, G)) (ht : t ∈ G) (hC : ClsR n cls cl) :
    ∃ cl', iter (m_reach_Components_l5 z (preds (edsOf a) t)) (0, G, cl) = some (((preds (edsOf a) t).foldl grpStep (cls, G)).2, cl') ∧ ClsR n ((preds (edsOf a) t).foldl grpStep (cls, G)).1 cl' := by
  have hnl := hr.nl
  have hl3 := hr.l3
  have hef : ∀ x ∈ edsOf a, 0 ≤ x.f ∧ x.f < (n : Int) := fun x hx => ⟨(hr.ein x hx).1, (hr.ein x hx).2.1⟩
  obtain ⟨es, hes⟩ : ∃ es, es = (edsOf a).filter fun x => decide (x.t = t) := ⟨_, rfl⟩
  have hps : preds (edsOf a) t = es.map Ed.f := by rw [hes]; rfl
  have hmem : ∀ x ∈ es, x ∈ edsOf a ∧ x.t = t := fun x hx => by
    rw [hes] at hx
    have := List.mem_filter.1 hx
    exact ⟨this.1, by simpa using this.2⟩
  have hel : es.length ≤ 1000000 := by
    rw [hes]
    exact Nat.le_trans (List.length_filter_le _ _) (by unfold edsOf; rw [List.length_map]; exact hl3)
  rw [hps]
  obtain ⟨o, h1, h2, h3⟩ := iter_inv (f := m_reach_Components_l5 z (es.map Ed.f)) (fun j s => j ≤ es.length ∧ s.1 = (j : Int) ∧ s.2.1 = (((es.take j).map Ed.f).foldl grpStep (cls, G)).2 ∧ ClsR n (((es.take j).map Ed.f).foldl grpStep (cls, G)).1 s.2.2) (fun o => o.1 = ((es.map Ed.f).foldl grpStep (cls, G)).2 ∧ ClsR n ((es.map Ed.f).foldl grpStep (cls, G)).1 o.2) es.length 0 (by omega) (fun j s hj ⟨_, e1, e2, e3⟩ => by
      obtain ⟨k, g, c⟩ := s
      dsimp only at e1 e2 e3
      subst e1
      obtain ⟨hI, _⟩ := grp_fold hef (es.take j) (cls, G) hG ht (fun x hx => hmem x (List.mem_of_mem_take hx))
      rw [List.take_succ_eq_append_getElem hj, List.map_append, List.foldl_append]
      have hx := hef _ (hmem _ (List.getElem_mem hj)).1
      obtain ⟨u, hu⟩ : ∃ u : Nat, es[j].f = u := ⟨es[j].f.toNat, by omega⟩
      generalize ((es.take j).map Ed.f).foldl grpStep (cls, G) = S at e2 e3 hI ⊢
      obtain ⟨S1, S2⟩ := S
      dsimp only at e2 e3
      subst e2
      have hgl := int_nodup_len hI.nd hI.rng
      dsimp only at hgl
      have hc1 := e3.l1
      have hc2 := e3.l2
      have hval := e3.val u (by omega) (by omega)
      have hgd : S1.getD u false = S1[u]'(by omega) := by rw [List.getD_eq_getElem?_getD, List.getElem?_eq_getElem (by omega)]; rfl
      have hstep : List.foldl grpStep (S1, g) (List.map Ed.f [es[j]]) = if S1[u]'(by omega) = true then (S1, g) else (S1.set u true, g ++ [(u : Int)]) := by
        show grpStep (S1, g) es[j].f = _
        unfold grpStep
        rw [hu, Int.toNat_natCast, hgd]
      left
      rw [m_reach_Components_l5]
      dsimp only
      rw [if_pos (by simp; omega), idx_at (by simpa using hj), Option.bind_some, List.getElem_map, hu, idx_at (by omega), Option.bind_some, hstep]
      cases hb : S1[u]'(by omega) with
      | true =>
        rw [if_neg (by simp; intro e; have := hval.2.1 e; rw [hb] at this; cases this), m_reach_Components_j1, if_pos rfl]
        exact ⟨_, rfl, by omega, by dsimp only; rw [nxt (by omega)], rfl, e3⟩
      | false =>
        have hv : (z.2.length : Int) + 1 = ((z.2.length + 1 : Nat) : Int) := by omega
        rw [if_pos (by rw [hval.2.2 hb]; rfl), Option.bind_some, hv, W_nat (by omega), upd_at (by omega), Option.bind_some, app_eq (by simp; omega), Option.bind_some, m_reach_Components_j1, if_neg (by simp)]
        exact ⟨_, rfl, by omega, by dsimp only; rw [nxt (by omega)], rfl, e3.set (by omega)⟩) (fun s ⟨_, e1, e2, e3⟩ => by
      obtain ⟨k, g, c⟩ := s
      dsimp only at e1 e2 e3
      subst e1
      rw [List.take_length] at e2 e3
      refine ⟨(g, c), ?_, e2, e3⟩
      rw [m_reach_Components_l5]
      dsimp only
      rw [if_neg (by simp)]) (Nat.zero_le _) (0, G, cl) ⟨Nat.zero_le _, rfl, rfl, hC⟩
  obtain ⟨o1, o2⟩ := o
  dsimp only at h2 h3
  exact ⟨o2, by rw [h1, h2], h3⟩
theorem grp_sim {a : AutT} {n : Nat} (hr : Right a n) {L : List (List Int)} (hL : IntoOk a n L) {z : List Int × List (List Int)} (hz : z.2.length ≤ 1000000) {cls0 : List Bool} {root : Int} : ∀ (f i : Nat) (cls : List Bool) (G cl : List Int), GrpI (edsOf a) n cls0 root (cls, G) → ClsR n cls cl → n + 1 ≤ i + f → i ≤ n + 1 →
    ∃ cl', iterF (m_reach_Components_l4 L z) (f + 1) ((i : Int), G, cl) = some ((grpLoop (edsOf a) f i (cls, G)).2, cl') ∧ ClsR n (grpLoop (edsOf a) f i (cls, G)).1 cl' := by
  have hnl := hr.nl
  intro f
  induction f with
  | zero =>
    intro i cls G cl hG hC hf hi
    have hgl := int_nodup_len hG.nd hG.rng
    dsimp only at hgl
    refine ⟨cl, ?_, hC⟩
    rw [iterF_succ, m_reach_Components_l4]
    dsimp only
    rw [if_neg (by simp; omega)]
    rfl
  | succ f ih =>
    intro i cls G cl hG hC hf hi
    have hgl := int_nodup_len hG.nd hG.rng
    dsimp only at hgl
    rw [iterF_succ, m_reach_Components_l4, grpLoop]
    dsimp only
    by_cases hlt : i < G.length
    · have hg : G.getD i 0 = G[i] := by rw [List.getD_eq_getElem?_getD, List.getElem?_eq_getElem hlt]; rfl
      have hm := hG.rng _ (List.getElem_mem hlt)
      obtain ⟨t, ht⟩ : ∃ t : Nat, G[i] = t := ⟨G[i].toNat, by omega⟩
      have hLl := hL.len
      obtain ⟨cl1, g1, g2⟩ := grp_inner hr hz (t := G[i]) hG (List.getElem_mem hlt) hC
      have hG1 : GrpI (edsOf a) n cls0 root ((preds (edsOf a) G[i]).foldl grpStep (cls, G)) := (grp_fold (fun x hx => ⟨(hr.ein x hx).1, (hr.ein x hx).2.1⟩) ((edsOf a).filter fun x => decide (x.t = G[i])) (cls, G) hG (List.getElem_mem hlt) (fun x hx => by
        have := List.mem_filter.1 hx
        exact ⟨this.1, by simpa using this.2⟩)).1
      rw [if_pos (ct_lt hlt), idx_at hlt, Option.bind_some, ht, idx_at (by omega), Option.bind_some, hL.val, ← ht, g1, Option.bind_some, if_pos hlt, hg]
      generalize (preds (edsOf a) G[i]).foldl grpStep (cls, G) = S at g2 hG1
      obtain ⟨S1, S2⟩ := S
      obtain ⟨cl2, g3, g4⟩ := ih (i + 1) S1 S2 cl1 hG1 g2 (by omega) (by omega)
      refine ⟨cl2, ?_, g4⟩
      dsimp only
      rw [nxt (by omega)]
      exact g3
    · rw [if_neg (by simp; omega), if_neg hlt]
      exact ⟨cl, rfl, hC⟩
end Go.Proofs.Ythchkddhibhenaa

namespace Go.Proofs.Ythchkddhibhenaa
open Go Go.RowKit
def srt (l : List Int) : List Int := l.mergeSort fun x y => decide (x ≤ y)
theorem srt_mem {l : List Int} {x : Int} : x ∈ srt l ↔ x ∈ l := List.mem_mergeSort
theorem srt_inc {l : List Int} (h : l.Nodup) : Inc (srt l) := by
  have h1 : (srt l).Pairwise fun x y => decide (x ≤ y) = true := List.pairwise_mergeSort (fun a b c h1 h2 => by simp at *; omega) (fun a b => by simp; omega) l
  have h2 : (srt l).Nodup := (List.mergeSort_perm l _).nodup_iff.2 h
  exact (h1.and h2).imp fun {x y} h => by
    have h3 := h.1
    have h4 := h.2
    simp at h3
    omega
theorem range_sim {a : AutT} {n : Nat} (hr : Right a n) {L : List (List Int)} (hL : IntoOk a n L) {r : List (Int × Int)} (hrl : r.length = (orderF (edsOf a) n).2.length) (hrg : ∀ k, k < (orderF (edsOf a) n).2.length → (r.getD k (0, 0)).2 = (orderF (edsOf a) n).2.reverse.getD k 0) :
    ∃ cl, rngF (fun k => m_reach_Components_l3 L (r.getD k (0, 0))) r.length 0 (List.replicate n 0, []) = some (cl, (compF (edsOf a) n).map srt) := by
  have hnl := hr.nl
  have hes : ∀ x ∈ edsOf a, 0 ≤ x.f ∧ x.f < (n : Int) ∧ 0 ≤ x.t ∧ x.t < (n : Int) := hr.ein
  obtain ⟨ho1, ho2, ho3⟩ := order_says (fun x hx => (hes x hx).2.2)
  have hLa : ∀ t, 0 ≤ t → t < (n : Int) → t ∈ (orderF (edsOf a) n).2 := fun t h0 h4 => by
    have := ho3 t.toNat (by omega)
    rwa [Int.toNat_of_nonneg h0] at this
  have hOl := int_nodup_len ho1.nd ho2
  have hcf : compF (edsOf a) n = ((orderF (edsOf a) n).2.reverse.foldl (cmpStep (edsOf a) n) (List.replicate n false, [])).2 := rfl
  have hfold := comp_fold hes ho1 ho2 hLa
  rw [hcf]
  generalize (orderF (edsOf a) n).2 = O at *
  obtain ⟨o, h1, h2, h3, h4⟩ := rng_inv (f := fun k => m_reach_Components_l3 L (r.getD k (0, 0))) (fun k s => k ≤ O.length ∧ (ClsR n ((O.reverse.take k).foldl (cmpStep (edsOf a) n) (List.replicate n false, [])).1 s.1 ∧ s.2 = (((O.reverse.take k).foldl (cmpStep (edsOf a) n) (List.replicate n false, [])).2).map srt) ∧ s.2.length ≤ k) (N := r.length) (fun k s hk ⟨_, ⟨hC, hg⟩, hlen⟩ => by
      obtain ⟨cl, gs⟩ := s
      dsimp only at hC hg hlen ⊢
      have hk2 : k < O.length := by omega
      have hkr : k < O.reverse.length := by simpa using hk2
      obtain ⟨hI, _⟩ := hfold k (by omega)
      have hrt : (O.drop (O.length - k)).reverse = O.reverse.take k := by rw [List.take_reverse]
      rw [hrt] at hI
      have hO : O.reverse.getD k 0 = O.reverse[k] := by rw [List.getD_eq_getElem?_getD, List.getElem?_eq_getElem hkr]; rfl
      have hroot := ho2 (O.reverse[k]) (List.mem_reverse.1 (List.getElem_mem hkr))
      obtain ⟨u, hu⟩ : ∃ u : Nat, O.reverse[k] = u := ⟨(O.reverse[k]).toNat, by omega⟩
      have hru : (r.getD k (0, 0)).2 = (u : Int) := by rw [hrg k hk2, hO, hu]
      rw [List.take_succ_eq_append_getElem hkr, List.foldl_append, hu]
      generalize (O.reverse.take k).foldl (cmpStep (edsOf a) n) (List.replicate n false, []) = S at hC hg hI ⊢
      obtain ⟨cls, Gs⟩ := S
      dsimp only at hC hg
      have hc1 := hC.l1
      have hc2 := hC.l2
      have hval := hC.val u (by omega) (by omega)
      have hgd : cls.getD u false = cls[u]'(by omega) := by rw [List.getD_eq_getElem?_getD, List.getElem?_eq_getElem (by omega)]; rfl
      have hstep : List.foldl (cmpStep (edsOf a) n) (cls, Gs) [(u : Int)] = if cls[u]'(by omega) = true then (cls, Gs) else ((grpLoop (edsOf a) (n + 1) 0 (cls.set u true, [(u : Int)])).1, Gs ++ [(grpLoop (edsOf a) (n + 1) 0 (cls.set u true, [(u : Int)])).2]) := by
        show cmpStep (edsOf a) n (cls, Gs) (u : Int) = _
        unfold cmpStep
        dsimp only
        rw [Int.toNat_natCast, hgd]
      rw [m_reach_Components_l3]
      dsimp only
      rw [hru, idx_at (by omega), Option.bind_some, hstep]
      cases hb : cls[u]'(by omega) with
      | true =>
        have hne : ¬ cl[u]'(by omega) = 0 := fun e => by rw [hval.2.1 e] at hb; cases hb
        rw [if_pos (by simp; omega), if_pos rfl]
        exact ⟨_, rfl, by omega, ⟨hC, hg⟩, by dsimp only; omega⟩
      | false =>
        have hng : ¬ Gd cls (u : Int) := by unfold Gd; rw [Int.toNat_natCast, hgd, hb]; simp
        have h0 := grp_start (es := edsOf a) (fun x hx => ⟨(hes x hx).1, (hes x hx).2.1⟩) hI.len (root := (u : Int)) (by omega) (by omega) hng
        rw [Int.toNat_natCast] at h0
        have hv : (gs.length : Int) + 1 = ((gs.length + 1 : Nat) : Int) := by omega
        obtain ⟨cl2, g1, g2⟩ := grp_sim hr hL (z := (cl, gs)) (by dsimp only; omega) (n + 1) 0 (cls.set u true) [(u : Int)] (cl.set u ((gs.length + 1 : Nat) : Int)) h0 (hC.set (by omega)) (by omega) (by omega)
        have g1 := iter_of (by omega) g1
        obtain ⟨hE, _⟩ := grp_says (es := edsOf a) (fun x hx => ⟨(hes x hx).1, (hes x hx).2.1⟩) hI.len (root := (u : Int)) (by omega) (by omega) hng
        rw [Int.toNat_natCast] at hE
        dsimp only at hE
        have hgl := int_nodup_len hE.nd hE.rng
        rw [if_neg (by rw [hval.2.2 hb]; simp), Option.bind_some, hv, W_nat (by omega), upd_at (by omega), Option.bind_some]
        rw [show ((0 : Nat) : Int) = 0 from rfl] at g1
        rw [g1, Option.bind_some, m_slices_Sort_int]
        dsimp only
        rw [if_pos (by omega), Option.bind_some, lenEq, if_pos (by simp), Option.bind_some, app_eq (by simp; omega), Option.bind_some, if_neg (by simp)]
        exact ⟨_, rfl, by omega, ⟨g2, by dsimp only; rw [hg, List.map_append]; rfl⟩, by simp; omega⟩) r.length 0 (List.replicate n 0, []) (Nat.zero_add _) ⟨Nat.zero_le _, ⟨⟨by simp, by simp, fun t h h2 => by simp⟩, rfl⟩, Nat.le_refl _⟩
  obtain ⟨o1, o2⟩ := o
  rw [hrl, ← List.length_reverse, List.take_length] at h3
  dsimp only at h3
  exact ⟨o1, by rw [h1, h3.2]⟩
theorem map_get_finRange {α : Type} (l : List α) : (List.finRange l.length).map l.get = l := by
  apply List.ext_getElem
  · simp
  · intro i h1 h2
    simp
/-- What Components returns for a right automaton. -/
theorem comp_ex {a : AutT} {n : Nat} (hr : Right a n) : ∃ Cs, m_reach_Components a = some (Cs, 0) ∧ CompSpec (edsOf a) n Cs := by
  have hnl := hr.nl
  obtain ⟨fs, F, efs, hF⟩ := newGraph_full hr
  obtain ⟨L, eL, hL⟩ := into_sim hr
  have hes : ∀ x ∈ edsOf a, 0 ≤ x.f ∧ x.f < (n : Int) ∧ 0 ≤ x.t ∧ x.t < (n : Int) := hr.ein
  obtain ⟨ho1, ho2, ho3⟩ := order_says (fun x hx => (hes x hx).2.2)
  have hOl := int_nodup_len ho1.nd ho2
  obtain ⟨hs1, hs2, hs3⟩ := comp_says hes
  obtain ⟨r, er, hrl, hrg⟩ : ∃ r, m_slices_Backward_int (orderF (edsOf a) n).2 = some r ∧ r.length = (orderF (edsOf a) n).2.length ∧ ∀ k, k < (orderF (edsOf a) n).2.length → (r.getD k (0, 0)).2 = (orderF (edsOf a) n).2.reverse.getD k 0 := by
    refine ⟨_, if_pos (by omega), by simp, fun k hk => ?_⟩
    rw [List.getD_eq_getElem?_getD, List.getElem?_map, List.getElem?_range hk, List.getD_eq_getElem?_getD, List.getElem?_reverse hk]
    show (orderF (edsOf a) n).2.getD ((orderF (edsOf a) n).2.length - 1 - k) 0 = _
    rw [List.getD_eq_getElem?_getD]
  obtain ⟨cl, ecl⟩ := range_sim hr hL hrl hrg
  -- the groups before they are put in order
  have hne : ∀ G ∈ compF (edsOf a) n, srt G ≠ [] ∧ hd0 (srt G) ∈ G := fun G hG => by
    obtain ⟨t, ht⟩ := (hs1 G hG).ne
    have h1 : srt G ≠ [] := fun e => by have := srt_mem.2 ht; rw [e] at this; cases this
    refine ⟨h1, srt_mem.1 ?_⟩
    unfold hd0
    cases he : srt G with
    | nil => exact absurd he h1
    | cons x us => exact List.mem_cons_self
  have hlen : (compF (edsOf a) n).length ≤ n := by
    have h1 : ((compF (edsOf a) n).map fun G => hd0 (srt G)).Nodup := by
      unfold List.Nodup
      rw [List.pairwise_map]
      exact List.Pairwise.imp_of_mem (fun {G H} hG hH hd e => hd _ (hne G hG).2 (e ▸ (hne H hH).2)) hs2
    have := int_nodup_len (n := n) h1 (fun x hx => by
      obtain ⟨G, hG, rfl⟩ := List.mem_map.1 hx
      exact (hs1 G hG).rng _ (hne G hG).2)
    simpa using this
  obtain ⟨gs, hgs⟩ : ∃ gs, gs = (compF (edsOf a) n).map srt := ⟨_, rfl⟩
  rw [← hgs] at ecl
  have hgl : gs.length ≤ n := by rw [hgs, List.length_map]; exact hlen
  have hmem : ∀ g ∈ gs, ∃ G ∈ compF (edsOf a) n, g = srt G := fun g hg => by
    rw [hgs] at hg
    obtain ⟨G, hG, e⟩ := List.mem_map.1 hg
    exact ⟨G, hG, e.symm⟩
  have hnd : (gs.map hd0).Nodup := by
    rw [hgs, List.map_map]
    unfold List.Nodup
    rw [List.pairwise_map]
    exact List.Pairwise.imp_of_mem (fun {G H} hG hH hd e => hd _ (hne G hG).2 (by have e : hd0 (srt G) = hd0 (srt H) := e; exact e ▸ (hne H hH).2)) hs2
  obtain ⟨Cs, hCs⟩ : ∃ Cs, Cs = ((List.finRange gs.length).mergeSort fun x y => !decide (hd0 (gs.get y) - hd0 (gs.get x) < 0)).map gs.get := ⟨_, rfl⟩
  have hsort : m_slices_SortFunc_int gs = some Cs := by
    rw [hCs]
    refine if_pos ⟨fun g hg => ?_, hnd, by omega⟩
    obtain ⟨G, hG, rfl⟩ := hmem g hg
    have h1 := hne G hG
    have h2 := (hs1 G hG).rng _ h1.2
    exact ⟨h1.1, by omega, by omega⟩
  have hperm : Cs.Perm gs := by
    rw [hCs]
    have := (List.mergeSort_perm (List.finRange gs.length) fun x y => !decide (hd0 (gs.get y) - hd0 (gs.get x) < 0)).map gs.get
    rwa [map_get_finRange] at this
  have hord : Cs.Pairwise fun C D => C.headD 0 < D.headD 0 := by
    have h1 : Cs.Pairwise fun C D => hd0 C ≤ hd0 D := by
      rw [hCs, List.pairwise_map]
      refine (List.pairwise_mergeSort (fun a b c h1 h2 => ?_) (fun a b => ?_) (List.finRange gs.length)).imp fun {x y} h => ?_
      · simp at *; omega
      · simp; omega
      · simp at h ⊢; omega
    have h2 : (Cs.map hd0).Nodup := (hperm.map hd0).nodup_iff.2 hnd
    unfold List.Nodup at h2
    rw [List.pairwise_map] at h2
    exact (h1.and h2).imp fun {C D} h => by
      have h3 := h.1
      have h4 := h.2
      unfold hd0 at h3 h4
      omega
  refine ⟨Cs, ?_, compSpec_of hs1 hs3 (fun C hC => ?_) (fun G hG => ?_) hord⟩
  · rw [m_reach_Components, hr.check, Option.bind_some, if_neg (by simp), efs, Option.bind_some, hr.nn, mkL_eq (by omega) (by omega), Option.bind_some, Int.toNat_natCast, order_sim hr hF, Option.bind_some, mkL_eq (by omega) (by omega), Option.bind_some, Int.toNat_natCast, eL, Option.bind_some, mkL_eq (by omega) (by omega), Option.bind_some, Int.toNat_natCast, er, Option.bind_some, ecl, Option.bind_some, hsort, Option.bind_some]
    dsimp only
    rw [lenEq, if_pos hperm.length_eq]
    rfl
  · obtain ⟨G, hG, rfl⟩ := hmem C (hperm.mem_iff.1 hC)
    exact ⟨srt_inc (hs1 G hG).nd, G, hG, fun t => srt_mem⟩
  · exact ⟨srt G, hperm.mem_iff.2 (by rw [hgs]; exact List.mem_map_of_mem hG), fun t => srt_mem⟩
end Go.Proofs.Ythchkddhibhenaa

namespace Go.Proofs.Ythchkddhibhenaa
open Go Go.RowKit
theorem setErr_incR {n : Int} {xs : List Int} (h : setErr n none xs = 0) : Inc xs ∧ ∀ x ∈ xs, 0 ≤ x ∧ x < n := by
  have key : ∀ (xs : List Int) (p : Option Int), setErr n p xs = 0 → Inc xs ∧ (∀ x ∈ xs, 0 ≤ x ∧ x < n) ∧ ∀ q, p = some q → ∀ x ∈ xs, q < x := by
    intro xs
    induction xs with
    | nil => intro p _; exact ⟨List.Pairwise.nil, fun x hx => (by cases hx), fun q _ x hx => (by cases hx)⟩
    | cons y xs ih =>
      intro p h
      rw [setErr] at h
      split at h
      · cases h
      · rename_i h1
        split at h
        · cases h
        · rename_i h2
          obtain ⟨g1, g2, g3⟩ := ih _ h
          refine ⟨List.pairwise_cons.2 ⟨fun z hz => g3 y rfl z hz, g1⟩, fun x hx => ?_, fun q hq x hx => ?_⟩
          · rcases List.mem_cons.1 hx with rfl | hx
            · omega
            · exact g2 x hx
          · have hqy : q < y := by
              have : ¬ y ≤ q := fun hc => h2 ⟨q, hq, hc⟩
              omega
            rcases List.mem_cons.1 hx with rfl | hx
            · exact hqy
            · have := g3 y rfl x hx
              omega
  exact ⟨(key xs none h).1, (key xs none h).2.1⟩
theorem err_partsR {a : Aut} (h : a.err = 0) : setErr 32 none a.al = 0 ∧ 0 ≤ a.n ∧ a.n ≤ 4096 ∧ setErr a.n none a.ms = 0 ∧ edErr a.al a.n none a.es = 0 := by
  unfold Aut.err at h
  split at h
  · rename_i h1; rw [h] at h1; exact absurd h1 (by decide)
  · rename_i h1
    split at h
    · cases h
    · split at h
      · cases h
      · split at h
        · rename_i h4; rw [h] at h4; exact absurd h4 (by decide)
        · rename_i h2 h3 h4
          exact ⟨by simpa using h1, by omega, by omega, by simpa using h4, h⟩
theorem edErr_R {al : List Int} {n : Int} : ∀ (es : List Ed) (p : Option Ed), edErr al n p es = 0 → Sorted es ∧ (∀ q, p = some q → ∀ x ∈ es, edLt q x) ∧ ∀ x ∈ es, x.e ∈ al
  | [], _, _ => ⟨List.Pairwise.nil, fun _ _ x hx => (by cases hx), fun x hx => (by cases hx)⟩
  | y :: es, p, h => by
    rw [edErr] at h
    split at h
    · cases h
    · split at h
      · cases h
      · rename_i h2
        split at h
        · cases h
        · rename_i h3
          obtain ⟨g1, g2, g4⟩ := edErr_R es _ h
          have g3 := g2 y rfl
          refine ⟨List.pairwise_cons.2 ⟨g3, g1⟩, fun q hq x hx => ?_, fun x hx => ?_⟩
          · have hqy : edLt q y := by
              have h4 : ¬ (y.f < q.f ∨ (y.f = q.f ∧ y.e ≤ q.e)) := fun hc => h3 ⟨q, hq, hc⟩
              unfold edLt; omega
            rcases List.mem_cons.1 hx with rfl | hx
            · exact hqy
            · have h5 := g3 x hx
              unfold edLt at hqy h5 ⊢; omega
          · rcases List.mem_cons.1 hx with rfl | hx
            · exact hasB_true.1 (by simpa using h2)
            · exact g4 x hx
/-- An automaton without an error, with short lists, is right. -/
theorem right_ofR {a : AutT} (h : (toAut a).err = 0) (h1 : a.1.length ≤ 1000000) (h2 : a.2.2.1.length ≤ 1000000) (h3 : a.2.2.2.length ≤ 1000000) : Right a a.2.1.toNat := by
  obtain ⟨g1, g2, g3, g4, g5⟩ := err_partsR h
  have hok := Aut.ok_of h
  obtain ⟨e1, _, e3⟩ := edErr_R _ _ g5
  obtain ⟨al1, al2⟩ := setErr_incR g1
  obtain ⟨ms1, ms2⟩ := setErr_incR g4
  have hn : (toAut a).n = a.2.1 := rfl
  rw [hn] at g2 g3
  have hnn : ((a.2.1.toNat : Nat) : Int) = a.2.1 := Int.toNat_of_nonneg g2
  refine ⟨hnn.symm, by omega, al1, al2, ms1, fun x hx => by rw [hnn]; exact ms2 x hx, fun x hx => ?_, ?_, h1, h2, h3⟩
  · have := hok.es (toEd x) (List.mem_map_of_mem hx)
    have h4 := e3 (toEd x) (List.mem_map_of_mem hx)
    rw [hnn]
    exact ⟨this.1, this.2.1, this.2.2.1, this.2.2.2, h4⟩
  · have e1 : (a.2.2.2.map toEd).Pairwise edLt := e1
    rw [List.pairwise_map] at e1
    exact e1
theorem check_toAut {a : AutT} (h1 : a.1.length ≤ 1000000) (h2 : a.2.2.1.length ≤ 1000000) (h3 : a.2.2.2.length ≤ 1000000) : m_automaton_Check a = some (toAut a).err := by
  have := check_eq (a := toAut a) (by simp [toAut]; omega) (by simp [toAut]; omega) (by simp [toAut]; omega)
  rwa [autP_toAut] at this
theorem comp_e {a : AutT} (h1 : a.1.length ≤ 1000000) (h2 : a.2.2.1.length ≤ 1000000) (h3 : a.2.2.2.length ≤ 1000000) : ∃ Cs, m_reach_Components a = some (Cs, (toAut a).err) := by
  by_cases he : (toAut a).err = 0
  · obtain ⟨Cs, h, _⟩ := comp_ex (right_ofR he h1 h2 h3)
    exact ⟨Cs, by rw [h, he]⟩
  · exact ⟨[], by rw [m_reach_Components, check_toAut h1 h2 h3, Option.bind_some, if_pos (by simpa using he)]⟩
/-- The reference's check of a set. -/
theorem refset_eq {xs : List Int} {n : Int} (hl : xs.length ≤ 1000000) : m_overseerref04_Set xs n = some (setErr n none xs) := by
  obtain ⟨o, h1, h2⟩ := iter_inv (f := m_overseerref04_Set_l1 xs n) (fun i s => i ≤ xs.length ∧ s = (i : Int) ∧ setErr n (prevAt xs i) (xs.drop i) = setErr n none xs) (fun o => (match o with
      | .inl _ => 0
      | .inr e => e) = setErr n none xs) xs.length 0 (by omega) (fun i s hi ⟨_, e1, e2⟩ => by
      subst e1
      rw [setErr_drop hi] at e2
      rw [m_overseerref04_Set_l1, if_pos (ct_lt hi), idx_at hi, Option.bind_some]
      by_cases hr : xs[i] < 0 ∨ n ≤ xs[i]
      · right
        rw [if_pos hr] at e2
        refine ⟨.inr 2, ?_, e2⟩
        have : (if decide (xs[i] < 0) = true then some true else (some xs[i]).bind fun x95 => some (decide (x95 ≥ n))) = some true := by
          by_cases h0 : xs[i] < 0
          · rw [if_pos (by simpa using h0)]
          · rw [if_neg (by simpa using h0), Option.bind_some]
            simp; omega
        rw [this, Option.bind_some, if_pos rfl]
      · rw [if_neg hr] at e2
        rw [if_neg (by simp; omega), Option.bind_some, Option.bind_some, if_neg (by simp; omega)]
        cases i with
        | zero =>
          left
          rw [if_neg (by simp), m_overseerref04_Set_j1, if_neg (by simp)]
          rw [if_neg (by simp [prevAt])] at e2
          exact ⟨_, rfl, by omega, by rw [nxt (by omega)], e2⟩
        | succ k =>
          have hk : k < xs.length := by omega
          have hp : prevAt xs (k + 1) = some xs[k] := by simp [prevAt, hk]
          rw [if_pos (decide_eq_true (by omega)), Option.bind_some, W_of (by omega) (by omega), show (((k + 1 : Nat) : Int) - 1) = (k : Int) by omega, idx_at hk, Option.bind_some, m_overseerref04_Set_j1]
          by_cases hd : xs[k + 1] ≤ xs[k]
          · right
            rw [if_pos ⟨xs[k], hp, hd⟩] at e2
            rw [if_pos (by simpa using hd)]
            exact ⟨_, rfl, e2⟩
          · left
            rw [if_neg (by rintro ⟨q, hq, hle⟩; rw [hp] at hq; cases hq; exact hd hle)] at e2
            rw [if_neg (by simpa using hd)]
            exact ⟨_, rfl, by omega, by rw [nxt (by omega)], e2⟩) (fun s ⟨_, e1, e2⟩ => by
      subst e1
      rw [m_overseerref04_Set_l1, if_neg ct_ge]
      refine ⟨_, rfl, ?_⟩
      rw [List.drop_length] at e2
      exact e2) (Nat.zero_le _) 0 ⟨Nat.zero_le _, rfl, rfl⟩
  rw [m_overseerref04_Set, h1, Option.bind_some]
  cases o with
  | inl u => rw [← h2]
  | inr e => rw [← h2]
theorem first_eq {l : List Int} (hl : l.length ≤ 1000) : m_overseerlaw04_first l = some ((l.find? fun x => x != 0).getD 0) := by
  obtain ⟨o, h1, h2⟩ := iter_inv (f := m_overseerlaw04_first_l1 l) (fun i s => i ≤ l.length ∧ s = (i : Int) ∧ (l.drop i).find? (fun x => x != 0) = l.find? fun x => x != 0) (fun o => (match o with
      | .inl _ => 0
      | .inr e => e) = (l.find? fun x => x != 0).getD 0) l.length 0 (by omega) (fun i s hi ⟨_, e1, e2⟩ => by
      subst e1
      rw [List.drop_eq_getElem_cons hi, List.find?_cons] at e2
      rw [m_overseerlaw04_first_l1, if_pos (ct_lt hi), idx_at hi, Option.bind_some]
      by_cases h : l[i] = 0
      · left
        rw [if_neg (by simpa using h)]
        rw [h] at e2
        exact ⟨_, rfl, by omega, by rw [nxt (by omega)], e2⟩
      · right
        have hb : (l[i] != 0) = true := by simpa using h
        rw [hb] at e2
        rw [if_pos hb, Option.bind_some]
        exact ⟨_, rfl, by rw [← e2]; rfl⟩) (fun s ⟨_, e1, e2⟩ => by
      subst e1
      rw [m_overseerlaw04_first_l1, if_neg ct_ge]
      rw [List.drop_length] at e2
      exact ⟨_, rfl, by rw [← e2]; rfl⟩) (Nat.zero_le _) 0 ⟨Nat.zero_le _, rfl, rfl⟩
  rw [m_overseerlaw04_first, h1, Option.bind_some]
  cases o with
  | inl u => rw [← h2]
  | inr e => rw [← h2]
theorem first_2 (a b : Int) : m_overseerlaw04_first [a, b] = some (err2 a b) := by
  rw [first_eq (by simp)]
  by_cases ha : a = 0 <;> by_cases hb : b = 0 <;> simp [err2, ha, hb]
theorem first_3 (a b c : Int) : m_overseerlaw04_first [a, b, c] = some (err2 a (err2 b c)) := by
  rw [first_eq (by simp)]
  by_cases ha : a = 0 <;> by_cases hb : b = 0 <;> by_cases hc : c = 0 <;> simp [err2, ha, hb, hc]
theorem lstE_2 (e : Int) (xs : List Int) : (lstE e xs).2 = e := by unfold lstE; split <;> simp_all
theorem lstE_1 {e : Int} (xs : List Int) (h : e ≠ 0) : (lstE e xs).1 = [] := by unfold lstE; rw [if_neg h]
theorem rstE_2 (e : Int) (r : Aut) : (rstE e r).2 = e := by unfold rstE; split <;> simp_all
theorem rstE_1 {e : Int} (r : Aut) (h : e ≠ 0) : (rstE e r).1 = ([], 0, [], []) := by unfold rstE; rw [if_neg h]
theorem clsE_2 (e : Int) (b : Bool) : (clsE e b).2 = e := by unfold clsE; split <;> simp_all
theorem cycE_2 (e : Int) (r : Option (List Int × List Int)) : (cycE e r).2.2.2 = e := by
  unfold cycE
  split
  · cases r <;> simp_all
  · rfl
theorem cycE_1 {e : Int} (r : Option (List Int × List Int)) (h : e ≠ 0) : cycE e r = ([], [], false, e) := by unfold cycE; rw [if_neg h]
theorem equal_zero : m_overseerlaw04_equal ([], 0, [], []) ([], 0, [], []) = some true := by kernel_rfl
theorem rrest_eq {p0 : AutT} {p1 : List Int} (h1 : p0.1.length ≤ 1000000) (h2 : p0.2.2.1.length ≤ 1000000) (h3 : p0.2.2.2.length ≤ 1000000) (h4 : p1.length ≤ 1000000) : m_reach_Restrict p0 p1 = some (rstE (err2 (toAut p0).err (setErr (toAut p0).n none p1)) (restrictF (toAut p0).al (toAut p0).ms (toAut p0).n.toNat (toAut p0).es p1)) := by
  rw [m_reach_Restrict, if_pos ⟨h1, h2, h3, h4⟩]
  unfold rstE
  split <;> rfl
theorem rpath_e {p0 : AutT} {x : Int} {p1 p2 : List Int} (h1 : p0.1.length ≤ 1000000) (h2 : p0.2.2.1.length ≤ 1000000) (h3 : p0.2.2.2.length ≤ 1000000) (h4 : p1.length ≤ 1000000) (h5 : p2.length ≤ 1000000) : ∃ w f, m_reach_Path p0 x p1 p2 = some (w, f, pathErr (toAut p0) x p1 p2) ∧ (pathErr (toAut p0) x p1 p2 ≠ 0 → w = [] ∧ f = false) := by
  rw [m_reach_Path, if_pos ⟨h1, h2, h3, h4, h5⟩]
  by_cases h : pathErr (toAut p0) x p1 p2 = 0
  · rw [if_pos h, h]
    cases reachPath (toAut p0) x p1 p2 with
    | none => exact ⟨[], false, rfl, fun h => absurd rfl h⟩
    | some xs => exact ⟨xs, true, rfl, fun h => absurd rfl h⟩
  · rw [if_neg h]
    exact ⟨[], false, rfl, fun _ => ⟨rfl, rfl⟩⟩
theorem refuses_core {p0 : AutT} {p1 p2 : List Int} (h1 : p0.1.length ≤ 1000000) (h2 : p0.2.2.1.length ≤ 1000000) (h3 : p0.2.2.2.length ≤ 1000000) (h4 : p1.length ≤ 1000000) (h5 : p2.length ≤ 1000000) {e s1 s1' : Int} (hE : e = (toAut p0).err) (hs1 : s1 = setErr p0.2.1 none p1) (hs2 : s1' = setErr (if p0.2.1 < 0 then 0 else p0.2.1) none p1) (f : Int) (hf : f = if p0.2.1 < 1 then 2 else 0) :
    m_overseerlaw04_ReachRefuses_j1 p0 p1 e s1' f = some true := by
  obtain ⟨w, g, g1, g2⟩ := rpath_e (x := 0) h1 h2 h3 h4 h4
  have hs : e = 0 → s1 = s1' := fun h => by
    rw [hs1, hs2]
    obtain ⟨_, k2, _⟩ := err_partsR (a := toAut p0) (by rw [← hE, h])
    have k2 : 0 ≤ p0.2.1 := k2
    rw [if_neg (by omega)]
  have hp : pathErr (toAut p0) 0 p1 p1 = err2 e (err2 f s1') := by
    rw [pathErr, ← hE, show (toAut p0).n = p0.2.1 from rfl, ← hs1]
    show (if e = 0 then (if (0 : Int) < 0 ∨ p0.2.1 ≤ 0 then 2 else (if s1 = 0 then s1 else s1)) else e) = (if e = 0 then (if f = 0 then s1' else f) else e)
    by_cases he : e = 0
    · rw [if_pos he, if_pos he, ← hs he, hf]
      by_cases hn : p0.2.1 < 1
      · rw [if_pos (by omega), if_pos hn, if_neg (by decide)]
      · rw [if_neg (by omega), if_neg hn, if_pos rfl]
        split <;> rfl
    · rw [if_neg he, if_neg he]
  rw [m_overseerlaw04_ReachRefuses_j1, g1, Option.bind_some, first_3, Option.bind_some]
  dsimp only
  rw [← hp]
  by_cases hz : pathErr (toAut p0) 0 p1 p1 = 0
  · rw [hz]; rfl
  · obtain ⟨rfl, rfl⟩ := g2 hz
    simp
theorem refuses_law (p0 : AutT) (p1 p2 : List Int) : m_overseerlaw04_ReachRefuses p0 p1 p2 = some true := by
  rw [m_overseerlaw04_ReachRefuses, m_overseerlaw04_known, Option.bind_some, if_neg (by decide), m_overseerlaw04_few, Option.bind_some, Option.bind_some]
  by_cases hf : p0.1.length ≤ 1000000 ∧ p0.2.2.1.length ≤ 1000000 ∧ p0.2.2.2.length ≤ 1000000 ∧ p1.length ≤ 1000000 ∧ p2.length ≤ 1000000
  · split
    · rfl
    · obtain ⟨h1, h2, h3, h4, h5⟩ := hf
      obtain ⟨e, hE⟩ : ∃ e, e = (toAut p0).err := ⟨_, rfl⟩
      obtain ⟨s1, hs1⟩ : ∃ s, s = setErr p0.2.1 none p1 := ⟨_, rfl⟩
      obtain ⟨s1', hs2⟩ : ∃ s, s = setErr (if p0.2.1 < 0 then 0 else p0.2.1) none p1 := ⟨_, rfl⟩
      obtain ⟨s2, hs3⟩ : ∃ s, s = setErr 32 none p2 := ⟨_, rfl⟩
      have hs : e = 0 → s1 = s1' := fun h => by
        rw [hs1, hs2]
        obtain ⟨_, k2, _⟩ := err_partsR (a := toAut p0) (by rw [← hE, h])
        have k2 : 0 ≤ p0.2.1 := k2
        rw [if_neg (by omega)]
      have hq : ∀ x, err2 e (err2 s1 x) = err2 e (err2 s1' x) := fun x => by
        by_cases he : e = 0
        · rw [hs he]
        · rw [err2, if_neg he, err2, if_neg he]
      have hq1 : err2 e s1 = err2 e s1' := by
        by_cases he : e = 0
        · rw [hs he]
        · rw [err2, if_neg he, err2, if_neg he]
      have hsm : smA p0 = true := by unfold smA; simp [h1, h2, h3]
      have hn : (toAut p0).n = p0.2.1 := rfl
      have hcore := refuses_core h1 h2 h3 h4 h5 hE hs1 hs2
      obtain ⟨Cs, hC⟩ := comp_e h1 h2 h3
      rw [check_toAut h1 h2 h3, Option.bind_some, refset_eq h4, Option.bind_some, refset_eq h5, Option.bind_some]
      rw [m_reach_Reachable, if_pos hsm, Option.bind_some, m_reach_Coreachable, if_pos hsm, Option.bind_some, m_reach_Trim, if_pos hsm, Option.bind_some, hC, Option.bind_some, m_reach_Dead, if_pos hsm, Option.bind_some]
      rw [lstE_2, lstE_2, rstE_2, lstE_2, if_neg (by simp)]
      rw [m_reach_Distances, if_pos (by simp [hsm, h4]), Option.bind_some, rrest_eq h1 h2 h3 h4, Option.bind_some, m_reach_Closed, if_pos (by simp [hsm, h4, h5]), Option.bind_some, m_reach_Interior, if_pos (by simp [hsm, h4, h5]), Option.bind_some, m_reach_Cycle, if_pos (by simp [hsm, h5]), Option.bind_some]
      rw [hn, ← hE, ← hs1, ← hs2, ← hs3]
      rw [lstE_2, rstE_2, clsE_2, lstE_2, cycE_2, first_2, Option.bind_some, ← hq1, if_neg (by simp), first_3, Option.bind_some, ← hq, Option.bind_some, if_neg (by simp), first_2, Option.bind_some, Option.bind_some, if_neg (by simp)]
      have hA : ∀ (xs : List Int) (r : Aut), (if (err2 e s1 != 0) = true then (if decide (((lstE (err2 e s1) xs).1.length : Int) > 0) = true then some true else (m_overseerlaw04_equal (rstE (err2 e s1) r).1 ([], 0, [], [])).bind fun r138 => some (!r138)).bind fun b134 => some b134 else some false) = some false := fun xs r => by
        by_cases hz : err2 e s1 = 0
        · rw [hz]; rfl
        · rw [if_pos (by simpa using hz), lstE_1 xs hz, rstE_1 r hz, equal_zero]; rfl
      rw [hA, Option.bind_some]
      have hB : ∀ (xs : List Int) (z : Int), ((z != 0) && decide (((lstE z xs).1.length : Int) > 0)) = false := fun xs z => by
        by_cases hz : z = 0
        · rw [hz]; rfl
        · rw [lstE_1 xs hz]; simp
      have hD : ∀ (c : Option (List Int × List Int)) (z : Int), ((z != 0) && (decide (W (((cycE z c).1.length : Int) + ((cycE z c).2.1.length : Int)) > 0) || (cycE z c).2.2.1)) = false := fun c z => by
        by_cases hz : z = 0
        · rw [hz]; rfl
        · rw [cycE_1 c hz]
          simp [show W 0 = 0 from rfl]
      rw [hB, hD, if_neg (by simp)]
      by_cases hlt : p0.2.1 < 1
      · rw [if_pos (by simpa using hlt)]
        exact hcore 2 (by rw [if_pos hlt])
      · rw [if_neg (by simpa using hlt)]
        exact hcore 0 (by rw [if_neg hlt])
  · rw [if_pos (by simp; omega)]
    rfl
end Go.Proofs.Ythchkddhibhenaa

namespace Go.Proofs.Ythchkddhibhenaa
open Go Go.ChangeShapes Go.WideShapes Go.ChangeAt Go.RowKit

set_option maxRecDepth 100000 in
theorem reachRefuses_lifted (os : Os) (started : os.Started) (H : Type) (enc : TypeId × Value → H) :
    ReturnsInHanded {} Try.checked os 11 .any (Rows.reachRefusesSpec.pre6 enc Try.prog Try.f11 Rows.reachRefusesRow.domain false) (Rows.reachRefusesSpec.post enc Try.prog Try.f11 false true false false) := by
  refine returnsInHanded_of_change (C := Try.checked) Try.own started (by kernel_rfl) Try.func11
    (ChangeSpec.witness6 (enc := enc) (C := Try.checked) false ⟨#[], #[.agg #[.slice none 0 0, .int .i64 0, .slice none 0 0, .slice none 0 0], .slice none 0 0, .slice none 0 0], []⟩ 8 (by kernel_rfl) (by kernel_rfl) (by kernel_rfl) (by kernel_rfl)) ?_
  intro W base args ds gs before hval0 hW hcnd _
  have hval : ∀ (j : Nat) t v, Try.f11.params[j]? = some t → args[j]? = some v → Value.okWide Try.prog W .any base t v := hval0
  have hW' := hW
  obtain ⟨p, q, hA0, hV, rfl, hfz, hnd⟩ := hW
  have hA : DataW.TrodAll enc Try.prog W 0 (fun _ => true) true Try.f11.params.toList args.toList ds p := hA0
  rw [Try.params11] at hA hval
  obtain ⟨v0, v1, v2, d0, d1, d2, p0, p1, p2, rfl, rfl, rfl, h0, h1, h2⟩ := trodAll_three hA
  obtain ⟨p, a0, c0, b0, e0, f0, g0, rfl, r0, s0, q0⟩ := arg_aut (hval 0 31 v0 rfl rfl) h0
  obtain ⟨a1, c1, xs1, rfl, r1, k1⟩ := arg_ints (hval 1 28 v1 rfl rfl) h1
  obtain ⟨a2, c2, xs2, rfl, r2, k2⟩ := arg_ints (hval 2 28 v2 rfl rfl) h2
  obtain ⟨rfl, rfl⟩ := trodVars_none hV
  clear hA0 hval0
  refine (m_overseerlaw04_ReachRefuses_c (s := ⟨W, fun _ => 0⟩) r0 s0 q0 r1 r2 (refuses_law p xs1 xs2)).mono fun e W' ⟨v, s', hw, he, hm, hv⟩ => ?_
  subst hw
  subst he
  subst hv
  have hbl := hm.below
  exact ⟨_, rfl, law_post Try.laidOut hW' rfl (by kernel_rfl) (by kernel_rfl) Try.underlying4 rfl rfl rfl hbl⟩

/-- The statement. -/
theorem reachRefuses_holds : Rows.ReachRefusesSaid :=
  OpenClaim.holds_of_wide 11 Try.f11 rfl rfl rfl rfl rfl rfl rfl ⟨rfl, rfl, rfl, rfl, rfl⟩ rfl rfl rfl rfl rfl (by kernel_rfl) Try.func11 (by kernel_rfl)
    (of_decide_eq_true (by kernel_rfl)) (by unfold Func.isWrapper; first | (rw [if_pos (by decide +kernel)]; kernel_rfl) | (rw [if_neg (by decide +kernel)]; exact ⟨rfl, rfl⟩))
    (fun os started H enc _ => reachRefuses_lifted os started H enc)
end Go.Proofs.Ythchkddhibhenaa
