/- Texts joined: TrimsL, TrimsMake, TrimsLaw. Each is introduced by its own sentence. -/
import Derived.Test.YthchkddhibhenaaRS14
import Derived.Test.YthchkddhibhenaaRT1
import Derived.Test.YthchkddhibhenaaRS9
import Derived.Test.YthchkddhibhenaaRS6
import Derived.Test.YthchkddhibhenaaRS11
/- The trim automaton: all of its states are reachable and coreachable, it is its own trim automaton and accepts the same words. Plain laws. -/
namespace Go.Proofs.Ythchkddhibhenaa

theorem idx_at {q : List Int} {t : Int} (h : t ∈ q) : ∃ m : Nat, idxI q t = m ∧ m < q.length ∧ q[m]? = some t := by
  have hl := List.idxOf_lt_length_of_mem h
  refine ⟨q.idxOf t, by rw [idxI, if_pos h], hl, ?_⟩
  rw [List.getElem?_eq_getElem hl, List.getElem_idxOf hl]
theorem get_ext {q r : List Int} {k : Nat} {v : Int} (h : q[k]? = some v) : (q ++ r)[k]? = some v := by
  rw [List.getElem?_append_left (List.getElem?_eq_some_iff.1 h).1]; exact h
/-- The edges that were made stand for edges; every state but the first was come to from one before it. -/
structure TP (es : List Ed) (kp : List Int) (n : Nat) (S : List Int × List Ed) : Prop where
  ok : QOk n S.1
  kpt : ∀ s ∈ S.1, hasB kp s = true
  old : ∀ y ∈ S.2, ∃ x ∈ es, ∃ k m : Nat, y.f = k ∧ S.1[k]? = some x.f ∧ x.e = y.e ∧ y.t = m ∧ S.1[m]? = some x.t
  come : ∀ m : Nat, 0 < m → m < S.1.length → ∃ y ∈ S.2, y.t = m ∧ ∃ k : Nat, k < m ∧ y.f = k
/-- The edges of state k have been followed. -/
def Done (es : List Ed) (kp : List Int) (S : List Int × List Ed) (k : Nat) : Prop := ∀ x ∈ es, S.1[k]? = some x.f → hasB kp x.t = true → ∃ y ∈ S.2, y.f = k ∧ y.e = x.e ∧ ∃ m : Nat, y.t = m ∧ S.1[m]? = some x.t
/-- More states and edges. -/
structure More (S S' : List Int × List Ed) : Prop where
  q : ∃ r, S'.1 = S.1 ++ r
  e : ∃ g, S'.2 = S.2 ++ g
theorem More.refl (S : List Int × List Ed) : More S S := ⟨⟨[], (List.append_nil _).symm⟩, ⟨[], (List.append_nil _).symm⟩⟩
theorem More.trans {S S' S'' : List Int × List Ed} (h : More S S') (h' : More S' S'') : More S S'' := by
  obtain ⟨⟨r, hr⟩, ⟨g, hg⟩⟩ := h
  obtain ⟨⟨r', hr'⟩, ⟨g', hg'⟩⟩ := h'
  exact ⟨⟨r ++ r', by rw [hr', hr, List.append_assoc]⟩, ⟨g ++ g', by rw [hg', hg, List.append_assoc]⟩⟩
theorem More.get {S S' : List Int × List Ed} (h : More S S') {k : Nat} {v : Int} (hk : S.1[k]? = some v) : S'.1[k]? = some v := by
  obtain ⟨r, hr⟩ := h.q
  rw [hr]; exact get_ext hk
theorem More.mem {S S' : List Int × List Ed} (h : More S S') {y : Ed} (hy : y ∈ S.2) : y ∈ S'.2 := by
  obtain ⟨g, hg⟩ := h.e
  rw [hg]; exact List.mem_append_left _ hy
theorem More.len {S S' : List Int × List Ed} (h : More S S') : S.1.length ≤ S'.1.length := by
  obtain ⟨r, hr⟩ := h.q
  rw [hr, List.length_append]; omega
theorem Done.more {es : List Ed} {kp : List Int} {S S' : List Int × List Ed} {k : Nat} (h : Done es kp S k) (hm : More S S') (hk : k < S.1.length) : Done es kp S' k := by
  intro x hx hq ht
  have hq2 : S.1[k]? = some x.f := by
    have h1 := hm.get (List.getElem?_eq_getElem hk)
    rw [h1] at hq
    rw [List.getElem?_eq_getElem hk]; exact hq
  obtain ⟨y, hy, h1, h2, m, h3, h4⟩ := h x hx hq2 ht
  exact ⟨y, hm.mem hy, h1, h2, m, h3, hm.get h4⟩
theorem rrStep_more (kp : List Int) (s : Int) (i : Nat) (S : List Int × List Ed) (x : Ed) : More S (rrStep kp s i S x) := by
  unfold rrStep
  split
  · exact ⟨rrQ_ext _ _, ⟨_, rfl⟩⟩
  · exact More.refl _
theorem TP.step {es : List Ed} {kp : List Int} {n : Nat} {S : List Int × List Ed} (h : TP es kp n S) {s : Int} {i : Nat} (hi : S.1[i]? = some s) {x : Ed} (hx : x ∈ es) (h0 : 0 ≤ x.t) (h1 : x.t < (n : Int)) :
    TP es kp n (rrStep kp s i S x) ∧ (x.f = s → hasB kp x.t = true → ∃ y ∈ (rrStep kp s i S x).2, y.f = i ∧ y.e = x.e ∧ ∃ m : Nat, y.t = m ∧ (rrStep kp s i S x).1[m]? = some x.t) := by
  have hmo := rrStep_more kp s i S x
  by_cases hc : x.f = s ∧ hasB kp x.t = true
  · rw [rrStep_yes hc.1 hc.2] at hmo ⊢
    obtain ⟨m, hm1, hm2, hm3⟩ := idx_at (rrQ_mem S.1 x.t)
    have hil := (List.getElem?_eq_some_iff.1 hi).1
    have hnew : ∃ y ∈ S.2 ++ [(⟨i, x.e, idxI (rrQ S.1 x.t) x.t⟩ : Ed)], y.f = i ∧ y.e = x.e ∧ ∃ m : Nat, y.t = m ∧ (rrQ S.1 x.t)[m]? = some x.t :=
      ⟨_, List.mem_append_right _ (List.mem_singleton.2 rfl), rfl, rfl, m, hm1, hm3⟩
    refine ⟨⟨h.ok.rrQ h0 h1, fun t ht => ?_, fun y hy => ?_, fun j hj hjl => ?_⟩, fun _ _ => hnew⟩
    · by_cases e : x.t ∈ S.1
      · rw [rrQ_old e] at ht; exact h.kpt t ht
      · rw [rrQ_new e] at ht
        rcases List.mem_append.1 ht with h4 | h4
        · exact h.kpt t h4
        · rw [List.mem_singleton.1 h4]; exact hc.2
    · rcases List.mem_append.1 hy with h4 | h4
      · obtain ⟨z, hz, k, j, a1, a2, a3, a4, a5⟩ := h.old y h4
        exact ⟨z, hz, k, j, a1, hmo.get a2, a3, a4, hmo.get a5⟩
      · rw [List.mem_singleton.1 h4]
        exact ⟨x, hx, i, m, rfl, by rw [hc.1]; exact hmo.get hi, rfl, hm1, hm3⟩
    · by_cases hj2 : j < S.1.length
      · obtain ⟨y, hy, a1, a2⟩ := h.come j hj hj2
        exact ⟨y, List.mem_append_left _ hy, a1, a2⟩
      · have e : x.t ∉ S.1 := fun e => by dsimp only at hjl; rw [rrQ_old e] at hjl; exact hj2 hjl
        dsimp only at hjl
        rw [rrQ_new e, List.length_append, List.length_singleton] at hjl
        refine ⟨_, List.mem_append_right _ (List.mem_singleton.2 rfl), ?_, i, by omega, rfl⟩
        show idxI (rrQ S.1 x.t) x.t = j
        rw [rrQ_new e, idxI_new e]
        omega
  · have : rrStep kp s i S x = S := by rw [rrStep, if_neg hc]
    rw [this]
    exact ⟨h, fun a b => (hc ⟨a, b⟩).elim⟩
theorem tp_fold {es : List Ed} {kp : List Int} {n : Nat} (hes : ∀ x ∈ es, 0 ≤ x.t ∧ x.t < (n : Int)) {s : Int} {i : Nat} : ∀ (l : List Ed) (S : List Int × List Ed), TP es kp n S → S.1[i]? = some s → (∀ x ∈ l, x ∈ es) →
    TP es kp n (l.foldl (rrStep kp s i) S) ∧ More S (l.foldl (rrStep kp s i) S) ∧ (∀ x ∈ l, x.f = s → hasB kp x.t = true → ∃ y ∈ (l.foldl (rrStep kp s i) S).2, y.f = i ∧ y.e = x.e ∧ ∃ m : Nat, y.t = m ∧ (l.foldl (rrStep kp s i) S).1[m]? = some x.t)
  | [], S, h, _, _ => ⟨h, More.refl _, fun x hx => (by cases hx)⟩
  | x :: l, S, h, hi, hl => by
    have hx := hl x (List.mem_cons_self ..)
    have hr := hes x hx
    obtain ⟨h1, h2⟩ := h.step hi hx hr.1 hr.2
    have hm := rrStep_more kp s i S x
    obtain ⟨h3, h4, h5⟩ := tp_fold hes l _ h1 (hm.get hi) (fun y hy => hl y (List.mem_cons_of_mem _ hy))
    rw [List.foldl_cons]
    refine ⟨h3, hm.trans h4, fun z hz hf hk => ?_⟩
    rcases List.mem_cons.1 hz with rfl | hz
    · obtain ⟨y, hy, a1, a2, m, a3, a4⟩ := h2 hf hk
      exact ⟨y, h4.mem hy, a1, a2, m, a3, h4.get a4⟩
    · exact h5 z hz hf hk
theorem tp_loop {es : List Ed} {kp : List Int} {n : Nat} (hes : ∀ x ∈ es, 0 ≤ x.t ∧ x.t < (n : Int)) : ∀ (f i : Nat) (S : List Int × List Ed), TP es kp n S → (∀ k, k < i → k < S.1.length → Done es kp S k) → n + 1 ≤ i + f →
    TP es kp n (rrLoop es kp f i S) ∧ More S (rrLoop es kp f i S) ∧ ∀ k, k < (rrLoop es kp f i S).1.length → Done es kp (rrLoop es kp f i S) k
  | 0, i, S, h, hd, hf => by
    rw [rrLoop]
    have := h.ok.len
    exact ⟨h, More.refl _, fun k hk => hd k (by omega) hk⟩
  | f + 1, i, S, h, hd, hf => by
    rw [rrLoop]
    by_cases hi : i < S.1.length
    · rw [if_pos hi]
      have hg : S.1[i]? = some (S.1.getD i 0) := by rw [List.getD_eq_getElem?_getD, List.getElem?_eq_getElem hi]; rfl
      obtain ⟨h1, h2, h3⟩ := tp_fold hes es S h hg (fun x hx => hx)
      obtain ⟨h4, h5, h6⟩ := tp_loop hes f (i + 1) _ h1 (fun k hk hkl => by
        by_cases e : k = i
        · subst e
          intro x hx hq ht
          rw [h2.get hg] at hq
          exact h3 x hx (Option.some.inj hq).symm ht
        · exact (hd k (by omega) (by omega)).more h2 (by omega)) (by omega)
      exact ⟨h4, h2.trans h5, h6⟩
    · rw [if_neg hi]
      exact ⟨h, More.refl _, fun k hk => hd k (by omega) hk⟩
/-- What the restricted automaton has to do with the automaton. -/
structure TRel (a : Aut) (kp : List Int) (n : Nat) (r : Aut) (Q : List Int) : Prop where
  nn : r.n = (Q.length : Int)
  pos : 0 < Q.length
  hd : Q[0]? = some 0
  tp : TP a.es kp n (Q, r.es)
  done : ∀ k, k < Q.length → Done a.es kp (Q, r.es) k
  ms : r.ms = rrMs a.ms Q
theorem trel_of {a : Aut} {kp : List Int} {n : Nat} (hn : a.n = n) (hn0 : 0 < n) (hes : ∀ x ∈ a.es, 0 ≤ x.t ∧ x.t < (n : Int)) (hk : hasB kp 0 = true) : ∃ Q, TRel a kp n (rrestrictF a kp) Q := by
  have h0 : TP a.es kp n ([0], []) := ⟨⟨by simp, fun s hs => by rw [List.mem_singleton.1 hs]; omega⟩, fun s hs => by rw [List.mem_singleton.1 hs]; exact hk, fun y hy => (by cases hy), fun m hm hl => by simp at hl; omega⟩
  obtain ⟨h1, h2, h3⟩ := tp_loop (kp := kp) hes (n + 1) 0 ([0], []) h0 (fun k hk => absurd hk (Nat.not_lt_zero _)) (by omega)
  refine ⟨(rrLoop a.es kp (n + 1) 0 ([0], [])).1, ?_⟩
  rw [rrestrictF, hn, if_neg (by rw [hk]; simp; omega), Int.toNat_natCast]
  have hl := h2.len
  exact ⟨rfl, by show 0 < (rrLoop a.es kp (n + 1) 0 ([0], [])).1.length; exact Nat.lt_of_lt_of_le (by decide) hl, h2.get (k := 0) rfl, h1, h3, rfl⟩
theorem sorted_unique {es : List Ed} (h : Sorted es) {x z : Ed} (hx : x ∈ es) (hz : z ∈ es) (hf : x.f = z.f) (he : x.e = z.e) : x = z := by
  obtain ⟨i, hi, rfl⟩ := List.mem_iff_getElem.1 hx
  obtain ⟨j, hj, rfl⟩ := List.mem_iff_getElem.1 hz
  rcases Nat.lt_trichotomy i j with h1 | h1 | h1
  · have h2 := List.pairwise_iff_getElem.1 h i j hi hj h1
    unfold edLt at h2
    omega
  · subst h1; rfl
  · have h2 := List.pairwise_iff_getElem.1 h j i hj hi h1
    unfold edLt at h2
    omega
theorem nextF_iff {es : List Ed} (h : Sorted es) {s e t : Int} : nextF es s e = some t ↔ ∃ x ∈ es, x.f = s ∧ x.e = e ∧ x.t = t := by
  unfold nextF
  rw [subOf_eq h]
  constructor
  · intro hn
    cases hf : (es.filter fun x => decide (x.f = s)).find? (fun x => x.e == e) with
    | none => rw [hf] at hn; cases hn
    | some x =>
      rw [hf] at hn
      have h1 := List.mem_filter.1 (List.mem_of_find?_eq_some hf)
      have h2 := List.find?_some hf
      exact ⟨x, h1.1, by simpa using h1.2, by simpa using h2, by simpa using hn⟩
  · rintro ⟨x, hx, hxf, hxe, hxt⟩
    have hm : x ∈ es.filter fun x => decide (x.f = s) := List.mem_filter.2 ⟨hx, by simpa using hxf⟩
    cases hf : (es.filter fun x => decide (x.f = s)).find? (fun x => x.e == e) with
    | none =>
      have := List.find?_eq_none.1 hf x hm
      rw [hxe] at this
      simp at this
    | some z =>
      have h1 := List.mem_filter.1 (List.mem_of_find?_eq_some hf)
      have h2 := List.find?_some hf
      have e1 : z.f = s := by simpa using h1.2
      have e2 : z.e = e := by simpa using h2
      rw [sorted_unique h h1.1 hx (by rw [e1, hxf]) (by rw [e2, hxe])]
      show some x.t = some t
      rw [hxt]
/-- A word that is accepted leads to a target. -/
theorem run_reachIn {es : List Ed} {ms : List Int} (hso : Sorted es) : ∀ (w : List Int) {s t : Int}, runF es s w = some t → t ∈ ms → ReachIn es ms w.length s
  | [], s, t, h, ht => by
    rw [runF] at h
    rw [Option.some.inj h]; exact ht
  | e :: w, s, t, h, ht => by
    rw [runF] at h
    cases hn : nextF es s e with
    | none => rw [hn] at h; cases h
    | some u =>
      rw [hn] at h
      obtain ⟨x, hx, hxf, _, hxu⟩ := (nextF_iff hso).1 hn
      exact ⟨x, hx, hxf, by rw [hxu]; exact run_reachIn hso w h ht⟩
theorem rrMs_at {ms q : List Int} {k : Nat} {s : Int} (hk : q[k]? = some s) : (k : Int) ∈ rrMs ms q ↔ s ∈ ms := by
  have hl := (List.getElem?_eq_some_iff.1 hk).1
  have hg : q.getD k 0 = s := by rw [List.getD_eq_getElem?_getD, hk]; rfl
  have h := rrMs_mem (ms := ms) hl
  rw [hg] at h
  rw [← hasB_true, h, hasB_true]
section
variable {a : Aut} {kp : List Int} {n : Nat} {r : Aut} {Q : List Int}
/-- What leads to a marked state leads there in the trim automaton too. -/
theorem TRel.reachIn (h : TRel a kp n r Q) (hkp : ∀ x ∈ a.es, ∀ k, ReachIn a.es a.ms k x.t → hasB kp x.t = true) : ∀ (j : Nat) {k : Nat} {s : Int}, Q[k]? = some s → ReachIn a.es a.ms j s → ReachIn r.es r.ms j (k : Int)
  | 0, k, s, hk, hr => by
    rw [h.ms]; exact (rrMs_at hk).2 hr
  | j + 1, k, s, hk, ⟨x, hx, hxf, hr⟩ => by
    have hl := (List.getElem?_eq_some_iff.1 hk).1
    obtain ⟨y, hy, a1, _, m, a3, a4⟩ := h.done k hl x hx (by rw [hxf]; exact hk) (hkp x hx j hr)
    exact ⟨y, hy, a1, by rw [a3]; exact h.reachIn hkp j a4 hr⟩
/-- Every state is reached. -/
theorem TRel.led (h : TRel a kp n r Q) : ∀ (m : Nat), m < Q.length → Led r.es (fun _ => true) [0] (m : Int) := by
  intro m
  induction m using Nat.strongRecOn with
  | ind m ih =>
    intro hm
    by_cases h0 : m = 0
    · subst h0
      exact ⟨0, List.mem_singleton.2 rfl, [], rfl⟩
    · obtain ⟨y, hy, a1, k, a2, a3⟩ := h.tp.come m (by omega) hm
      obtain ⟨s0, hs0, u, hu⟩ := ih k a2 (by omega)
      refine ⟨s0, hs0, u ++ [y.e], ?_⟩
      have := hu.snoc hy a3 rfl
      rwa [a1] at this
/-- The words that lead to a marked state. -/
theorem TRel.run (h : TRel a kp n r Q) (hso : Sorted a.es) (hso2 : Sorted r.es) (hkp : ∀ x ∈ a.es, ∀ k, ReachIn a.es a.ms k x.t → hasB kp x.t = true) : ∀ (w : List Int) {k : Nat} {s : Int}, Q[k]? = some s →
    ((∃ t, runF a.es s w = some t ∧ t ∈ a.ms) ↔ ∃ t, runF r.es (k : Int) w = some t ∧ t ∈ r.ms)
  | [], k, s, hk => by
    have e := rrMs_at (ms := a.ms) hk
    rw [← h.ms] at e
    constructor
    · rintro ⟨t, h1, h2⟩
      rw [runF] at h1
      rw [← Option.some.inj h1] at h2
      exact ⟨_, rfl, e.2 h2⟩
    · rintro ⟨t, h1, h2⟩
      rw [runF] at h1
      rw [← Option.some.inj h1] at h2
      exact ⟨_, rfl, e.1 h2⟩
  | ev :: w, k, s, hk => by
    have hl := (List.getElem?_eq_some_iff.1 hk).1
    constructor
    · rintro ⟨t, h1, h2⟩
      rw [runF] at h1
      cases hn : nextF a.es s ev with
      | none => rw [hn] at h1; cases h1
      | some u =>
        rw [hn] at h1
        obtain ⟨x, hx, hxf, hxe, hxu⟩ := (nextF_iff hso).1 hn
        have hr := run_reachIn hso w h1 h2
        rw [← hxu] at hr
        obtain ⟨y, hy, a1, a2, m, a3, a4⟩ := h.done k hl x hx (by rw [hxf]; exact hk) (hkp x hx _ hr)
        have hn2 : nextF r.es (k : Int) ev = some (m : Int) := (nextF_iff hso2).2 ⟨y, hy, a1, by rw [a2, hxe], a3⟩
        rw [hxu] at a4
        obtain ⟨t', h3, h4⟩ := (h.run hso hso2 hkp w a4).1 ⟨t, h1, h2⟩
        exact ⟨t', by rw [runF, hn2]; exact h3, h4⟩
    · rintro ⟨t, h1, h2⟩
      rw [runF] at h1
      cases hn : nextF r.es (k : Int) ev with
      | none => rw [hn] at h1; cases h1
      | some u =>
        rw [hn] at h1
        obtain ⟨y, hy, hyf, hye, hyu⟩ := (nextF_iff hso2).1 hn
        obtain ⟨x, hx, k', m, a1, a2, a3, a4, a5⟩ := h.tp.old y hy
        have hkk : k' = k := by rw [hyf] at a1; omega
        subst hkk
        have hxs : x.f = s := by
          rw [show (Q, r.es).1 = Q from rfl, hk] at a2
          exact (Option.some.inj a2).symm
        have hn2 : nextF a.es s ev = some x.t := (nextF_iff hso).2 ⟨x, hx, hxs, by rw [a3, hye], rfl⟩
        have hum : u = (m : Int) := by rw [← hyu, a4]
        subst hum
        obtain ⟨t', h3, h4⟩ := (h.run hso hso2 hkp w a5).2 ⟨t, h1, h2⟩
        exact ⟨t', by rw [runF, hn2]; exact h3, h4⟩
end
theorem accF_iff {a : Aut} {w : List Int} (hn : a.n ≠ 0) : accF a w = true ↔ ∃ t, runF a.es 0 w = some t ∧ t ∈ a.ms := by
  rw [accF, if_neg hn]
  cases hr : runF a.es 0 w with
  | none => simp
  | some t =>
    dsimp only
    rw [hasB_true]
    exact ⟨fun h => ⟨t, rfl, h⟩, fun ⟨t', h1, h2⟩ => by rw [Option.some.inj h1]; exact h2⟩
theorem listL_all {fl : List Bool} (h : ∀ i, i < fl.length → fl.getD i false = true) : listL fl = allL fl.length := by
  unfold listL listK allL
  congr 1
  rw [List.filter_eq_self]
  intro i hi
  exact h i (List.mem_range.1 hi)
/-- The states from which a marked one is reached. -/
theorem corea_iff {a : Aut} {n : Nat} (_hn : a.n = n) (hn1 : n ≤ 1000000) (hes : ∀ x ∈ a.es, 0 ≤ x.f ∧ x.f < (n : Int) ∧ 0 ≤ x.t ∧ x.t < (n : Int)) (hms : ∀ s ∈ a.ms, 0 ≤ s ∧ s < (n : Int)) {i : Nat} (hi : i < n) :
    ((backward n a.es a.ms).map fun d => decide (0 ≤ d)).getD i false = true ↔ ∃ k, ReachIn a.es a.ms k i := by
  have hd := backward_dist hn1 hes hms i hi
  have hlen := backward_length n a.es a.ms
  have e : ((backward n a.es a.ms).map fun d => decide (0 ≤ d)).getD i false = decide (0 ≤ (backward n a.es a.ms).getD i 0) := by
    rw [List.getD_eq_getElem?_getD, List.getElem?_map, List.getD_eq_getElem?_getD, List.getElem?_eq_getElem (by omega)]; rfl
  rw [e, decide_eq_true_iff]
  rcases hd with ⟨h2, h3⟩ | ⟨k, h2, h3, _⟩
  · exact ⟨fun h => by omega, fun ⟨k, h⟩ => absurd h (h3 k)⟩
  · exact ⟨fun _ => ⟨k, h3⟩, fun _ => by omega⟩
theorem corea_mem {a : Aut} {n : Nat} (hn : a.n = n) (hn1 : n ≤ 1000000) (hes : ∀ x ∈ a.es, 0 ≤ x.f ∧ x.f < (n : Int) ∧ 0 ≤ x.t ∧ x.t < (n : Int)) (hms : ∀ s ∈ a.ms, 0 ≤ s ∧ s < (n : Int)) {i : Nat} (hi : i < n) :
    hasB (corea a) (i : Int) = true ↔ ∃ k, ReachIn a.es a.ms k i := by
  rw [hasB_true, corea, hn, Int.toNat_natCast, listL_mem (by omega)]
  exact corea_iff hn hn1 hes hms hi
end Go.Proofs.Ythchkddhibhenaa

/- What ReachTrims asks, for an automaton that Make makes: plain laws. -/
namespace Go.Proofs.Ythchkddhibhenaa

structure TrimOk (a t : Aut) : Prop where
  idem : trimF t = t
  rea : ((listL (reachF t.n.toNat t.es)).length : Int) = t.n
  cor : ((corea t).length : Int) = t.n
  acc : ∀ w, accF a w = accF t w
theorem make_trims (xs : List Int) : TrimOk (mkA xs) (trimF (mkA xs)) := by
  have hM := make_trim xs
  have hN := mkN_le xs
  have hok := Aut.ok_of (mkA_err xs)
  have hes := mkA_es xs
  have hms : ∀ s ∈ (mkA xs).ms, 0 ≤ s ∧ s < (mkN xs : Int) := bitsL_in _ _
  have hmem : ∀ i : Nat, i < mkN xs → (hasB (corea (mkA xs)) (i : Int) = true ↔ ∃ k, ReachIn (mkA xs).es (mkA xs).ms k i) := fun i hi => corea_mem rfl (by omega) hes hms hi
  have hn0 : (mkA xs).n ≠ 0 := by show ((mkN xs : Nat) : Int) ≠ 0; omega
  have hkp : ∀ x ∈ (mkA xs).es, ∀ k, ReachIn (mkA xs).es (mkA xs).ms k x.t → hasB (corea (mkA xs)) x.t = true := by
    intro x hx k hr
    have h := hes x hx
    obtain ⟨t, ht⟩ := Int.eq_ofNat_of_zero_le h.2.2.1
    rw [ht] at hr ⊢
    exact (hmem t (by omega)).2 ⟨k, hr⟩
  cases h0 : hasB (corea (mkA xs)) 0 with
  | true =>
    obtain ⟨Q, hT⟩ := trel_of (a := mkA xs) (kp := corea (mkA xs)) (n := mkN xs) rfl (by omega) (fun x hx => (hes x hx).2.2) h0
    rw [hM.ref] at hT
    have hR := hM.right
    have hcan := hM.canon
    generalize trimF (mkA xs) = t at *
    have htn : t.n.toNat = Q.length := by rw [hT.nn, Int.toNat_natCast]
    have hQn : Q.length ≤ mkN xs := hT.tp.ok.len
    have htes : ∀ x ∈ t.es, 0 ≤ x.f ∧ x.f < (Q.length : Int) ∧ 0 ≤ x.t ∧ x.t < (Q.length : Int) := fun x hx => by
      have := hR.ok x hx
      rw [hT.nn] at this
      exact ⟨this.1, this.2.1, this.2.2.1, this.2.2.2.1⟩
    have htms : ∀ s ∈ t.ms, 0 ≤ s ∧ s < (Q.length : Int) := fun s hs => by
      have := hR.mr s hs
      rwa [hT.nn] at this
    have hco : corea t = allL Q.length := by
      have hlen : ((backward t.n.toNat t.es t.ms).map fun d => decide (0 ≤ d)).length = Q.length := by rw [List.length_map, backward_length, htn]
      rw [corea, listL_all, hlen]
      intro i hi
      rw [hlen] at hi
      rw [htn]
      refine (corea_iff hT.nn (by omega) htes htms hi).2 ?_
      have hq : Q[i]? = some Q[i] := List.getElem?_eq_getElem hi
      have hqr := hT.tp.ok.rng Q[i] (List.getElem_mem hi)
      obtain ⟨s, hs⟩ := Int.eq_ofNat_of_zero_le hqr.1
      have hk := hT.tp.kpt Q[i] (List.getElem_mem hi)
      rw [hs] at hk hq hqr
      obtain ⟨k, hr⟩ := (hmem s (by omega)).1 hk
      exact ⟨k, hT.reachIn hkp k hq hr⟩
    refine ⟨?_, ?_, by rw [hco, allL_length, hT.nn], fun w => ?_⟩
    · rw [trimF, hco, htn]
      have h := hcan
      rw [canonF, htn] at h
      exact h
    · rw [htn, reachF, if_neg (by have := hT.pos; omega), hT.nn]
      obtain ⟨h1, h2⟩ := forward_says (perm := fun _ => true) (start := [0]) hR.so htes (fun t ht => by rw [List.mem_singleton.1 ht]; have := hT.pos; omega)
      rw [listL_all, allL_length, h1]
      intro i hi
      rw [h1] at hi
      exact (h2 i (by omega) (by omega)).2 (hT.led i hi)
    · rw [Bool.eq_iff_iff, accF_iff hn0, accF_iff (by rw [hT.nn]; have := hT.pos; omega)]
      exact hT.run (mkA_sorted xs) hR.so hkp w hT.hd
  | false =>
    have ht : trimF (mkA xs) = ⟨(mkA xs).al, 0, [], []⟩ := by
      rw [← hM.ref, rrestrictF, if_pos (.inr h0)]
    rw [ht]
    have hco : corea ⟨(mkA xs).al, 0, [], []⟩ = [] := by
      have hl := corea_len ⟨(mkA xs).al, 0, [], []⟩
      exact List.eq_nil_of_length_eq_zero (by simpa using hl)
    refine ⟨by rw [trimF, hco]; rfl, rfl, by rw [hco]; rfl, fun w => ?_⟩
    have e2 : accF ⟨(mkA xs).al, 0, [], []⟩ w = false := by rw [accF, if_pos rfl]
    rw [e2]
    cases h : accF (mkA xs) w with
    | false => rfl
    | true =>
      obtain ⟨t, h1, h2⟩ := (accF_iff hn0).1 h
      have hr := run_reachIn (mkA_sorted xs) w h1 h2
      have := (hmem 0 (by omega)).2 ⟨_, hr⟩
      rw [show ((0 : Nat) : Int) = 0 from rfl, h0] at this
      cases this
end Go.Proofs.Ythchkddhibhenaa

/- ReachTrims returns true. -/
namespace Go.Proofs.Ythchkddhibhenaa
open Go Go.RowKit

/-- The kinds of answers. -/
def AggT (r : Aut) (u : Value) (w' : World) : Prop := ∃ (a1 a2 a3 : Option Addr) (c1 c2 c3 : Nat), u = .tuple #[.agg #[.slice a1 r.al.length c1, .int .i64 r.n, .slice a2 r.ms.length c2, .slice a3 r.es.length c3], .int .i64 0] ∧ RdA w' (.agg #[.slice a1 r.al.length c1, .int .i64 r.n, .slice a2 r.ms.length c2, .slice a3 r.es.length c3]) r
theorem RestPost.aggT {B : Nat} {r : Aut} {u : Value} {w' : World} (h : RestPost B 0 r u w') : AggT r u w' := by
  rw [RestPost, if_pos rfl] at h
  obtain ⟨v, rfl, ⟨va, vm, ve, rfl, ⟨a1, c1, rfl, h1⟩, ⟨a2, c2, rfl, h2⟩, ⟨a3, c3, rfl, h3⟩⟩, _⟩ := h
  exact ⟨a1, a2, a3, c1, c2, c3, rfl, _, _, _, rfl, ⟨a1, c1, rfl, h1⟩, ⟨a2, c2, rfl, h2⟩, ⟨a3, c3, rfl, h3⟩⟩
/-- A list of a length. -/
def LenP (n : Int) (u : Value) (_ : World) : Prop := ∃ (a : Option Addr) (l c : Nat), u = .tuple #[.slice a l c, .int .i64 0] ∧ (l : Int) = n
theorem ListPost.len {xs : List Int} {n : Int} {u : Value} {w' : World} (h : ListPost 0 xs u w') (hn : (xs.length : Int) = n) : LenP n u w' := by
  rw [ListPost, if_pos rfl] at h
  obtain ⟨v, rfl, ⟨a, c, rfl, _⟩⟩ := h
  exact ⟨a, xs.length, c, rfl, hn⟩

set_option maxRecDepth 100000 in
set_option maxHeartbeats 6000000 in
theorem reachTrims_any (xs : List Int) (hd : Desc xs) (w : World) :
    Calls Try.prog 8 #[.agg (bytes8 xs)] w (Ret w fun u _ => u = .bool true) := by
  have Hsz := Lib.hid hd.size
  have hmake := fun w => make_any xs w hd
  have Hmake := Lib.hid hmake
  clear hd hmake
  generalize bytes8 xs = cs at *
  have hsm := mkA_small xs
  have herr := mkA_err xs
  have hM := make_trim xs
  have hT := make_trims xs
  have h1 : ∀ (W : World) (v : Value), RdA W v (mkA xs) → Calls Try.prog 34 #[v] W (Ret W (AggT (trimF (mkA xs)))) := by
    intro W v h0
    have h := trim_any v (mkA xs) W h0 hsm
    rw [herr] at h
    exact h.mono (fun e w' ⟨u, he, hu, hb⟩ => ⟨u, he, hu.aggT, hb⟩)
  have h2 : ∀ (W : World) (v : Value), RdA W v (trimF (mkA xs)) → Calls Try.prog 34 #[v] W (Ret W (AggT (trimF (mkA xs)))) := by
    intro W v h0
    have h := trim_any v _ W h0 hM.small
    rw [hM.err, hT.idem] at h
    exact h.mono (fun e w' ⟨u, he, hu, hb⟩ => ⟨u, he, hu.aggT, hb⟩)
  have h3 : ∀ (W : World) (v : Value), RdA W v (trimF (mkA xs)) → Calls Try.prog 26 #[v] W (Ret W (LenP (trimF (mkA xs)).n)) := by
    intro W v h0
    have h := reachables_any v _ W h0 hM.small
    rw [hM.err] at h
    exact h.mono (fun e w' ⟨u, he, hu, hb⟩ => ⟨u, he, hu.len hT.rea, hb⟩)
  have h4 : ∀ (W : World) (v : Value), RdA W v (trimF (mkA xs)) → Calls Try.prog 27 #[v] W (Ret W (LenP (trimF (mkA xs)).n)) := by
    intro W v h0
    have h := corea_any v _ W h0 hM.small
    rw [hM.err] at h
    exact h.mono (fun e w' ⟨u, he, hu, hb⟩ => ⟨u, he, hu.len hT.cor, hb⟩)
  have h5 : ∀ (W : World) (v1 v2 : Value), RdA W v1 (trimF (mkA xs)) → RdA W v2 (trimF (mkA xs)) → Calls Try.prog 35 #[v1, v2] W (Ret W fun u _ => u = .bool true) := fun W v1 v2 h h' => equalL_any v1 v2 _ W h h' hM.small
  have h6 : ∀ (W : World) (v vx : Value) (ws : List Int), RdA W v (mkA xs) → RdI W vx ws → ws.length ≤ 1000000 → Calls Try.prog 36 #[v, vx] W (Ret W fun u _ => u = .tuple #[.bool (accF (mkA xs) ws), .int .i64 0]) := fun W v vx ws h h' hl => accepts_any v vx _ ws W h hsm herr (mkA_sorted xs) h' hl
  have h7 : ∀ (W : World) (v vx : Value) (ws : List Int), RdA W v (trimF (mkA xs)) → RdI W vx ws → ws.length ≤ 1000000 → Calls Try.prog 36 #[v, vx] W (Ret W fun u _ => u = .tuple #[.bool (accF (mkA xs) ws), .int .i64 0]) := by
    intro W v vx ws h h' hl
    have h := accepts_any v vx _ ws W h hM.small hM.err hM.right.so h' hl
    rwa [← hT.acc ws] at h
  clear hM hT herr hsm
  generalize trimF (mkA xs) = T at *
  have H1 := Lib.hid h1
  have H2 := Lib.hid h2
  have H3 := Lib.hid h3
  have H4 := Lib.hid h4
  have H5 := Lib.hid h5
  have H6 := Lib.hid h6
  have H7 := Lib.hid h7
  clear h1 h2 h3 h4 h5 h6 h7
  go_enter Try.func8, Try.ntmps8
  go_wp2_with fail
  refine (known_any _).mono ?_
  rintro e w1 ⟨_, rfl, rfl, hbk⟩
  have hW1 := ((Below.refl w.heap.size w).alloc (Nat.le_refl _) (.cells cs 25)).trans (hbk.mono (by simp))
  have hx1 : w1.heap[w.heap.size]? = some (.cells cs 25 (0, 0)) := (hbk.block _ (by simp)).trans (heap_at rfl)
  have Hx1 := Lib.hid hx1
  clear hbk hx1
  go_wp2_with (first | (with_reducible refine wpList_load_row rfl 25 (.tmp 1) rfl w.heap.size rfl 25 cs (0, 0) _ (Hx1.out) Try.underlying25 rfl Hsz.out ?_) | (go_at_call 13; refine (Hmake.out _).mono ?_; rintro e w2 ⟨v2, rfl, ha2, hb2⟩; have hW2 := hW1.trans (hb2.mono hW1.size); have Ha2 := Lib.hid ha2; obtain ⟨aa, ca, am, cm, ae, ce, rfl⟩ := mkA_val ha2; clear ha2))
  have hAl := bel_alloc w2 (.cells #[.slice aa 4 ca, .int .i64 (mkN xs : Nat), .slice am (mkA xs).ms.length cm, .slice ae (mkA xs).es.length ce] 31)
  have HA3 := Lib.hid (Ha2.out.mono hAl)
  have hW3 := hW2.trans (hAl.mono hW2.size)
  have zA0 : (w2.alloc (.cells #[.slice aa 4 ca, .int .i64 (mkN xs : Nat), .slice am (mkA xs).ms.length cm, .slice ae (mkA xs).es.length ce] 31)).cell? ⟨w2.heap.size, 0, none⟩ = some (.slice aa 4 ca) := by simp [go_sem]
  have zA1 : (w2.alloc (.cells #[.slice aa 4 ca, .int .i64 (mkN xs : Nat), .slice am (mkA xs).ms.length cm, .slice ae (mkA xs).es.length ce] 31)).cell? ⟨w2.heap.size, 1, none⟩ = some (.int .i64 (mkN xs : Nat)) := by simp [go_sem]
  have zA2 : (w2.alloc (.cells #[.slice aa 4 ca, .int .i64 (mkN xs : Nat), .slice am (mkA xs).ms.length cm, .slice ae (mkA xs).es.length ce] 31)).cell? ⟨w2.heap.size, 2, none⟩ = some (.slice am (mkA xs).ms.length cm) := by simp [go_sem]
  have zA3 : (w2.alloc (.cells #[.slice aa 4 ca, .int .i64 (mkN xs : Nat), .slice am (mkA xs).ms.length cm, .slice ae (mkA xs).es.length ce] 31)).cell? ⟨w2.heap.size, 3, none⟩ = some (.slice ae (mkA xs).es.length ce) := by simp [go_sem]
  clear hAl hb2 Ha2
  generalize w2.alloc (.cells #[.slice aa 4 ca, .int .i64 (mkN xs : Nat), .slice am (mkA xs).ms.length cm, .slice ae (mkA xs).es.length ce] 31) = wA at *
  refine (H1.out wA _ HA3.out).mono ?_
  rintro e w3 ⟨u3, rfl, ⟨t1, t2, t3, tk1, tk2, tk3, rfl, hr3⟩, hb3⟩
  have hW4 := hW3.trans (hb3.mono hW3.size)
  have hAl := bel_alloc w3 (.cells #[.slice t1 T.al.length tk1, .int .i64 T.n, .slice t2 T.ms.length tk2, .slice t3 T.es.length tk3] 31)
  have hW5 := hW4.trans (hAl.mono hW4.size)
  have HA4 := Lib.hid ((HA3.out.mono hb3).mono hAl)
  have HT4 := Lib.hid (hr3.mono hAl)
  replace zA0 := keep0 hb3 zA0
  replace zA1 := keep0 hb3 zA1
  replace zA2 := keep0 hb3 zA2
  replace zA3 := keep0 hb3 zA3
  replace zA0 := keep0 hAl zA0
  replace zA1 := keep0 hAl zA1
  replace zA2 := keep0 hAl zA2
  replace zA3 := keep0 hAl zA3
  have zT0 : (w3.alloc (.cells #[.slice t1 T.al.length tk1, .int .i64 T.n, .slice t2 T.ms.length tk2, .slice t3 T.es.length tk3] 31)).cell? ⟨w3.heap.size, 0, none⟩ = some (.slice t1 T.al.length tk1) := by simp [go_sem]
  have zT1 : (w3.alloc (.cells #[.slice t1 T.al.length tk1, .int .i64 T.n, .slice t2 T.ms.length tk2, .slice t3 T.es.length tk3] 31)).cell? ⟨w3.heap.size, 1, none⟩ = some (.int .i64 T.n) := by simp [go_sem]
  have zT2 : (w3.alloc (.cells #[.slice t1 T.al.length tk1, .int .i64 T.n, .slice t2 T.ms.length tk2, .slice t3 T.es.length tk3] 31)).cell? ⟨w3.heap.size, 2, none⟩ = some (.slice t2 T.ms.length tk2) := by simp [go_sem]
  have zT3 : (w3.alloc (.cells #[.slice t1 T.al.length tk1, .int .i64 T.n, .slice t2 T.ms.length tk2, .slice t3 T.es.length tk3] 31)).cell? ⟨w3.heap.size, 3, none⟩ = some (.slice t3 T.es.length tk3) := by simp [go_sem]
  clear hr3 hb3 hAl HA3
  go_upto_region 5 with fail
  generalize w3.alloc (.cells #[.slice t1 T.al.length tk1, .int .i64 T.n, .slice t2 T.ms.length tk2, .slice t3 T.es.length tk3] 31) = wB at *
  have hzA : w2.heap.size < wB.heap.size := World.block_lt_of_cell? _ _ zA0
  have hzT : w3.heap.size < wB.heap.size := World.block_lt_of_cell? _ _ zT0
  go_wp2_with fail
  refine (H2.out wB _ HT4.out).mono ?_
  rintro e w4 ⟨u4, rfl, ⟨s1, s2, s3, sk1, sk2, sk3, rfl, hr4⟩, hb4⟩
  have hW6 := hW5.trans (hb4.mono hW5.size)
  have hAl := bel_alloc w4 (.cells #[.slice s1 T.al.length sk1, .int .i64 T.n, .slice s2 T.ms.length sk2, .slice s3 T.es.length sk3] 31)
  have hW7 := hW6.trans (hAl.mono hW6.size)
  have HA5 := Lib.hid ((HA4.out.mono hb4).mono hAl)
  have HT5 := Lib.hid ((HT4.out.mono hb4).mono hAl)
  have HS5 := Lib.hid (hr4.mono hAl)
  replace zA0 := keep0 hb4 zA0
  replace zA1 := keep0 hb4 zA1
  replace zA2 := keep0 hb4 zA2
  replace zA3 := keep0 hb4 zA3
  replace zT0 := keep0 hb4 zT0
  replace zT1 := keep0 hb4 zT1
  replace zT2 := keep0 hb4 zT2
  replace zT3 := keep0 hb4 zT3
  replace zA0 := keep0 hAl zA0
  replace zA1 := keep0 hAl zA1
  replace zA2 := keep0 hAl zA2
  replace zA3 := keep0 hAl zA3
  replace zT0 := keep0 hAl zT0
  replace zT1 := keep0 hAl zT1
  replace zT2 := keep0 hAl zT2
  replace zT3 := keep0 hAl zT3
  have zS0 : (w4.alloc (.cells #[.slice s1 T.al.length sk1, .int .i64 T.n, .slice s2 T.ms.length sk2, .slice s3 T.es.length sk3] 31)).cell? ⟨w4.heap.size, 0, none⟩ = some (.slice s1 T.al.length sk1) := by simp [go_sem]
  have zS1 : (w4.alloc (.cells #[.slice s1 T.al.length sk1, .int .i64 T.n, .slice s2 T.ms.length sk2, .slice s3 T.es.length sk3] 31)).cell? ⟨w4.heap.size, 1, none⟩ = some (.int .i64 T.n) := by simp [go_sem]
  have zS2 : (w4.alloc (.cells #[.slice s1 T.al.length sk1, .int .i64 T.n, .slice s2 T.ms.length sk2, .slice s3 T.es.length sk3] 31)).cell? ⟨w4.heap.size, 2, none⟩ = some (.slice s2 T.ms.length sk2) := by simp [go_sem]
  have zS3 : (w4.alloc (.cells #[.slice s1 T.al.length sk1, .int .i64 T.n, .slice s2 T.ms.length sk2, .slice s3 T.es.length sk3] 31)).cell? ⟨w4.heap.size, 3, none⟩ = some (.slice s3 T.es.length sk3) := by simp [go_sem]
  clear hr4 hb4 hAl HA4 HT4
  go_upto_region 6 with fail
  generalize w4.alloc (.cells #[.slice s1 T.al.length sk1, .int .i64 T.n, .slice s2 T.ms.length sk2, .slice s3 T.es.length sk3] 31) = wC at *
  have hzA : w2.heap.size < wC.heap.size := World.block_lt_of_cell? _ _ zA0
  have hzT : w3.heap.size < wC.heap.size := World.block_lt_of_cell? _ _ zT0
  have hzS : w4.heap.size < wC.heap.size := World.block_lt_of_cell? _ _ zS0
  go_wp2_with fail
  refine (H3.out wC _ HT5.out).mono ?_
  rintro e w5 ⟨u5, rfl, ⟨b1, lb, cb, rfl, hlb⟩, hb5⟩
  have hW8 := hW7.trans (hb5.mono hW7.size)
  have HA6 := Lib.hid (HA5.out.mono hb5)
  have HT6 := Lib.hid (HT5.out.mono hb5)
  have HS6 := Lib.hid (HS5.out.mono hb5)
  replace zA0 := keep0 hb5 zA0
  replace zA1 := keep0 hb5 zA1
  replace zA2 := keep0 hb5 zA2
  replace zA3 := keep0 hb5 zA3
  replace zT0 := keep0 hb5 zT0
  replace zT1 := keep0 hb5 zT1
  replace zT2 := keep0 hb5 zT2
  replace zT3 := keep0 hb5 zT3
  replace zS0 := keep0 hb5 zS0
  replace zS1 := keep0 hb5 zS1
  replace zS2 := keep0 hb5 zS2
  replace zS3 := keep0 hb5 zS3
  clear hb5 HA5 HT5 HS5
  go_wp2_with fail
  refine (H4.out w5 _ HT6.out).mono ?_
  rintro e w6 ⟨u6, rfl, ⟨d1, ld, cd, rfl, hld⟩, hb6⟩
  have hW9 := hW8.trans (hb6.mono hW8.size)
  have HA7 := Lib.hid (HA6.out.mono hb6)
  have HT7 := Lib.hid (HT6.out.mono hb6)
  have HS7 := Lib.hid (HS6.out.mono hb6)
  replace zA0 := keep0 hb6 zA0
  replace zA1 := keep0 hb6 zA1
  replace zA2 := keep0 hb6 zA2
  replace zA3 := keep0 hb6 zA3
  replace zT0 := keep0 hb6 zT0
  replace zT1 := keep0 hb6 zT1
  replace zT2 := keep0 hb6 zT2
  replace zT3 := keep0 hb6 zT3
  replace zS0 := keep0 hb6 zS0
  replace zS1 := keep0 hb6 zS1
  replace zS2 := keep0 hb6 zS2
  replace zS3 := keep0 hb6 zS3
  clear hb6 HA6 HT6 HS6
  have hlb2 : ((lb : Int) != T.n) = false := by simp [hlb]
  have hld2 : ((ld : Int) != T.n) = false := by simp [hld]
  clear hlb hld
  go_wp2_with fail
  refine (H5.out w6 _ _ HT7.out HS7.out).mono ?_
  rintro e w7 ⟨u7, rfl, rfl, hb7⟩
  have hW10 := hW9.trans (hb7.mono hW9.size)
  have HA8 := Lib.hid (HA7.out.mono hb7)
  have HT8 := Lib.hid (HT7.out.mono hb7)
  replace zA0 := keep0 hb7 zA0
  replace zA1 := keep0 hb7 zA1
  replace zA2 := keep0 hb7 zA2
  replace zA3 := keep0 hb7 zA3
  replace zT0 := keep0 hb7 zT0
  replace zT1 := keep0 hb7 zT1
  replace zT2 := keep0 hb7 zT2
  replace zT3 := keep0 hb7 zT3
  clear hb7 HA7 HT7 HS7 zS0 zS1 zS2 zS3
  have hzA : w2.heap.size < w7.heap.size := World.block_lt_of_cell? _ _ zA0
  have hzT : w3.heap.size < w7.heap.size := World.block_lt_of_cell? _ _ zT0
  have hfr := Row.fresh w7 w7.heap.size (fun _ => 0) 4 28 [.slice none 0 0] (Nat.le_refl _) (by show 1 ≤ maxLen; decide)
  have HFR := Lib.hid hfr
  clear hfr
  go_wp2_with fail
  go_loopw [12, 13] (fun vw vn wr => ∃ (tag : Nat → Nat) (n : Nat) (vs : List Value), vn = .int .i64 (n : Nat) ∧ n ≤ 85 ∧ Below w7.heap.size w7 wr ∧ Row wr w7.heap.size tag 4 28 1 vw vs.length vs ∧ Hid (vs.length = 4 * n + 1) ∧ ∀ v ∈ vs, ∃ ws : List Int, ws.length ≤ n ∧ Row wr w7.heap.size tag 6 3 1 v ws.length (ints ws)) (fun _ vn _ => 85 - (intOf vn).toNat)
  case atStart => exact ⟨_, 0, [.slice none 0 0], rfl, Nat.zero_le _, bel_alloc _ _, HFR.out, rfl, fun v hv => ⟨[], Nat.le_refl _, by rw [List.mem_singleton.1 hv]; exact Row.nil _ _ _ _ _ _⟩⟩
  case round =>
    clear HFR
    obtain ⟨tag, n, vs, rfl, hn, hB, hW, hlen, hws⟩ := hrel
    by_cases hlt : n < 85
    · have hltI : (n : Int) < 85 := by omega
      have hln : n < vs.length := by have := hlen.out; omega
      have hlnI : (n : Int) < (vs.length : Int) := by omega
      have hBw := hW10.trans (hB.mono hW10.size)
      have hszB := hB.size
      obtain ⟨bw, ow, cw, rfl, hbw, _, _⟩ := hW.addr (by omega)
      have y0 : wr.cell? ⟨bw, ow + n, none⟩ = some vs[n] := by rw [hW.cellAt n (by omega), List.getElem?_eq_getElem hln]
      obtain ⟨ws, hwl, hwr⟩ := hws vs[n] (List.getElem_mem hln)
      generalize vs[n] = vx at *
      obtain ⟨ax, cx, rfl⟩ := hwr.val
      have HW := Lib.hid hW
      have HWS := Lib.hid hws
      have HX := Lib.hid hwr
      have HA9 := Lib.hid (HA8.out.mono hB)
      have HT9 := Lib.hid (HT8.out.mono hB)
      have hwl2 : ws.length ≤ 1000000 := by omega
      replace zA0 := keep0 hB zA0
      replace zA1 := keep0 hB zA1
      replace zA2 := keep0 hB zA2
      replace zA3 := keep0 hB zA3
      replace zT0 := keep0 hB zT0
      replace zT1 := keep0 hB zT1
      replace zT2 := keep0 hB zT2
      replace zT3 := keep0 hB zT3
      have hzA : w2.heap.size < wr.heap.size := World.block_lt_of_cell? _ _ zA0
      have hzT : w3.heap.size < wr.heap.size := World.block_lt_of_cell? _ _ zT0
      clear hW hws hwr
      go_wp2_with fail
      refine (H6.out wr _ _ ws HA9.out HX.out.rdI hwl2).mono ?_
      rintro e w8 ⟨_, rfl, rfl, hb8⟩
      have HT10 := Lib.hid (HT9.out.mono hb8)
      have HX10 := Lib.hid (HX.out.below hb8)
      replace zT0 := keep0 hb8 zT0
      replace zT1 := keep0 hb8 zT1
      replace zT2 := keep0 hb8 zT2
      replace zT3 := keep0 hb8 zT3
      clear zA0 zA1 zA2 zA3 y0
      go_wp2_with fail
      refine (H7.out w8 _ _ ws HT10.out HX10.out.rdI hwl2).mono ?_
      rintro e w9 ⟨_, rfl, rfl, hb9⟩
      have hb89 := hb8.trans (hb9.mono hb8.size)
      have hB9 := belCall hB hb89 hszB
      have HW9 := Lib.hid (HW.out.below hb89)
      have HX9 := Lib.hid (HX.out.below hb89)
      have HWS9 : Hid (∀ v ∈ vs, ∃ ws : List Int, ws.length ≤ n ∧ Row w9 w7.heap.size tag 6 3 1 v ws.length (ints ws)) := fun v hv => (HWS.out v hv).imp fun ws ⟨h1, h2⟩ => ⟨h1, h2.below hb89⟩
      clear HW HX HWS HT9 HA9 HT10 HX10 zT0 zT1 zT2 zT3 hb8 hb9 hb89
      generalize accF (mkA xs) ws = acc at *
      have hacc : (acc != acc) = false := by simp
      go_wp2_with fail
      go_loopw [12, 19] (fun vw vk wr => ∃ (tag : Nat → Nat) (k : Nat) (vs : List Value), vk = .int .i64 (k : Nat) ∧ k ≤ 4 ∧ Below w7.heap.size w7 wr ∧ Row wr w7.heap.size tag 4 28 1 vw vs.length vs ∧ Hid (vs.length = 4 * n + 1 + k) ∧ Row wr w7.heap.size tag 6 3 1 (.slice ax ws.length cx) ws.length (ints ws) ∧ ∀ v ∈ vs, ∃ ws : List Int, ws.length ≤ n + 1 ∧ Row wr w7.heap.size tag 6 3 1 v ws.length (ints ws)) (fun _ vk _ => 4 - (intOf vk).toNat)
      case atStart => exact ⟨tag, 0, vs, rfl, Nat.zero_le _, hB9, HW9.out, by show _ = _; rw [hlen.out], HX9.out, fun v hv => (HWS9.out v hv).imp fun ws ⟨h1, h2⟩ => ⟨by omega, h2⟩⟩
      case round =>
        clear HW9 HX9 HWS9 hB9
        obtain ⟨tag, k, vs, rfl, hk, hB, hW, hlen, hX, hws⟩ := hrel
        have hszB := hB.size
        by_cases hltk : k < 4
        · have hltkI : (k : Int) < 4 := by omega
          have hvl : 0 < vs.length ∧ vs.length ≤ 400 := by have := hlen.out; omega
          obtain ⟨i0, hi, hz0, hz1, hz2⟩ := info_parts Try.info_int
          obtain ⟨i1, hi1, hy0, hy1, hy2⟩ := info_parts Try.info_ints
          obtain ⟨bw, ow, cw, rfl, hbw, _, _⟩ := hW.addr (by omega)
          have HW := Lib.hid hW
          have HWS := Lib.hid hws
          have HX := Lib.hid hX
          have hq0 := Lib.hid (show Row _ w7.heap.size _ 5 3 1 (.slice (some ⟨wr.heap.size, 0, none⟩) 0 0) 0 [] from Row.fresh wr w7.heap.size tag 5 3 [] hszB (Nat.zero_le _))
          have hx0 := hX.up (.cells #[] 3) 5
          obtain ⟨ax', cx', ex', hrx⟩ := hx0.rd
          cases ex'
          have Hsrc := Lib.hid hrx.src
          clear hW hws hX hx0 hrx
          have hsw := HW.out.rd
          go_wp2_with (at_builtin; first
            | (refine wpList_append_row rfl _ _ 28 rfl 3 i0 (.int .i64 0) 8 Try.underlying28 hi hz0 hz1 hz2 rfl rfl hq0.out ax ws.length cx (ints ws) rfl (by simp) Hsrc.out.1 Hsrc.out.2 (ints_oneCell .i64 _) (by unfold maxLen; omega) (by omega) (by simp; omega) ?_; intro v10 w10 tag10 hr10 ht10; rw [Nat.zero_add, List.nil_append] at hr10; have HR10 := Lib.hid hr10; have HT10 := Lib.hid ht10; have HU10 := Lib.hid (hr10.up (.cells #[.int .i64 (k : Int)] 3) 9); have hs10 := ht10.size; obtain ⟨a10, c10, rfl⟩ := hr10.val; clear hr10 ht10)
            | (refine wpList_append_row rfl _ _ 28 rfl 3 i0 (.int .i64 0) 8 Try.underlying28 hi hz0 hz1 hz2 rfl rfl HU10.out (some ⟨_, 0, none⟩) 1 1 [.int .i64 (k : Int)] rfl (by simp) (fun e => by cases e) (fun ad e => by cases e; exact new_cells_at _ _ (by simp)) (by simp [Value.oneCell']) (by unfold maxLen; omega) (by omega) (by simp at *; omega) ?_; intro v11 w11 tag11 hr11 ht11; have HR11 := Lib.hid hr11; have HT11 := Lib.hid ht11; have hs11 := ht11.size; obtain ⟨a11, c11, rfl⟩ := hr11.val; have HU11 := Lib.hid (((((HW.out.up (.cells #[] 3) 5).turn HT10.out (by decide)).up (.cells #[.int .i64 (k : Int)] 3) 9).turn ht11 (by decide)).up (.cells #[.slice a11 (ws.length + 1) c11] 28) 9); clear hr11 ht11)
            | (refine wpList_append_row rfl _ _ 65 rfl 28 i1 (.slice none 0 0) 24 Try.underlying65 hi1 hy0 hy1 hy2 rfl rfl HU11.out (some ⟨_, 0, none⟩) 1 1 [.slice a11 (ws.length + 1) c11] rfl (by simp) (fun e => by cases e) (fun ad e => by cases e; exact new_cells_at _ _ (by simp)) (by simp [Value.oneCell']) (by unfold maxLen; omega) (by omega) (by simp at *; omega) ?_; intro v12 w12 tag12 hr12 ht12; have HR12 := Lib.hid hr12; have HT12 := Lib.hid ht12; clear hr12 ht12))
          have hch : ∀ {v : Value} {us : List Int}, Row wr w7.heap.size tag 6 3 1 v us.length (ints us) → Row w12 w7.heap.size (fun b => (fun j => if j = 5 then 6 else j) (tag12 b)) 6 3 1 v us.length (ints us) := fun h =>
            ((((((h.up (.cells #[] 3) 5).turn HT10.out (by decide)).up (.cells #[.int .i64 (k : Int)] 3) 9).turn HT11.out (by decide)).up (.cells #[.slice a11 (ws.length + 1) c11] 28) 9).turn HT12.out (by decide)).name (fun j => if j = 5 then 6 else j)
          have hnew : Row w12 w7.heap.size (fun b => (fun j => if j = 5 then 6 else j) (tag12 b)) 6 3 1 (.slice a11 (ws.length + 1) c11) (ws ++ [(k : Int)]).length (ints (ws ++ [(k : Int)])) := by
            rw [List.length_append, show ints (ws ++ [(k : Int)]) = ints ws ++ [.int .i64 (k : Int)] by simp [ints]]
            exact ((HR11.out.up (.cells #[.slice a11 (ws.length + 1) c11] 28) 9).turn HT12.out (by decide)).name (fun j => if j = 5 then 6 else j)
          have hwords : Row w12 w7.heap.size (fun b => (fun j => if j = 5 then 6 else j) (tag12 b)) 4 28 1 v12 (vs ++ [Value.slice a11 (ws.length + 1) c11]).length (vs ++ [Value.slice a11 (ws.length + 1) c11]) := by
            rw [List.length_append]
            exact HR12.out.name (fun j => if j = 5 then 6 else j)
          have hb10 := belTurn (hB.alloc hszB (.cells #[] 3)) HT10.out (by simp; omega)
          have hs10' : w7.heap.size ≤ w10.heap.size := hb10.size
          have hb11 := belTurn (hb10.alloc hs10' (.cells #[.int .i64 (k : Int)] 3)) HT11.out (by simp; omega)
          have hb12 := belTurn (hb11.alloc hb11.size (.cells #[.slice a11 (ws.length + 1) c11] 28)) HT12.out (by have := hb11.size; simp; omega)
          go_roundw
          case rel =>
            refine ⟨_, k + 1, vs ++ [Value.slice a11 (ws.length + 1) c11], by go_num, by omega, hb12, hwords, ?_, hch HX.out, fun v hv => ?_⟩
            · show _ = _
              rw [List.length_append, List.length_singleton, hlen.out]
              omega
            · rcases List.mem_append.1 hv with h1 | h1
              · obtain ⟨us, h2, h3⟩ := HWS.out v h1
                exact ⟨us, h2, hch h3⟩
              · rw [List.mem_singleton.1 h1]
                exact ⟨ws ++ [(k : Int)], by rw [List.length_append, List.length_singleton]; omega, hnew⟩
          case measure => simp [intOf]; omega
        · obtain rfl : k = 4 := by omega
          have HW := Lib.hid hW
          have HWS := Lib.hid hws
          have hl2 : Hid (vs.length = 4 * (n + 1) + 1) := by show _ = _; have := hlen.out; omega
          clear hW hws hX
          go_wp2_with fail
          go_roundw
          case rel => exact ⟨tag, n + 1, vs, by go_num, by omega, hB, HW.out, hl2, HWS.out⟩
          case measure => simp [intOf]; omega
    · obtain rfl : n = 85 := by omega
      have hBw := hW10.trans (hB.mono hW10.size)
      clear hW hws
      go_wp2
      go_ret
      exact ⟨_, rfl, rfl, hBw⟩
end Go.Proofs.Ythchkddhibhenaa
