/- The reference's Path as a plain function, and what it says. -/
import Derived.Test.YthchkddhibhenaaFromL
import Derived.Test.YthchkddhibhenaaBfsSpec
namespace Go.Proofs.Ythchkddhibhenaa

/-- Runs: words, and the states to which they lead. -/
abbrev Runs := List (List Int × Int)
/-- Whether an edge goes on a run that leads to s. -/
def pOk (W E S : List Int) (s : Int) (x : Ed) : Prop := x.f = s ∧ hasB W x.t = true ∧ hasB E x.e = true ∧ hasB S x.t = false
instance (W E S : List Int) (s : Int) (x : Ed) : Decidable (pOk W E S s x) := by unfold pOk; infer_instance
/-- The edges of one run. -/
def eLoop (W E T : List Int) (r : List Int × Int) : List Ed → List Int → Runs → List Int ⊕ (List Int × Runs)
  | [], S, nx => .inr (S, nx)
  | x :: l, S, nx => if pOk W E S r.2 x then (if hasB T x.t = true then .inl (r.1 ++ [x.e]) else eLoop W E T r l (addL S x.t) (nx ++ [(r.1 ++ [x.e], x.t)])) else eLoop W E T r l S nx
/-- The runs of one level. -/
def rLoop (es : List Ed) (W E T : List Int) : Runs → List Int → Runs → List Int ⊕ (List Int × Runs)
  | [], S, nx => .inr (S, nx)
  | r :: l, S, nx => match eLoop W E T r es S nx with
    | .inl w => .inl w
    | .inr p => rLoop es W E T l p.1 p.2
/-- The levels. -/
def lLoop (es : List Ed) (W E T : List Int) : Nat → Runs → List Int → Option (List Int)
  | 0, _, _ => none
  | f + 1, L, S => if L = [] then none else match rLoop es W E T L S [] with
    | .inl w => some w
    | .inr p => lLoop es W E T f p.2 p.1
/-- What the reference's Path returns. -/
def pathR (es : List Ed) (W E T : List Int) (least s : Int) : Option (List Int) :=
  if hasB W s = false then none else if least = 0 ∧ hasB T s = true then some [] else lLoop es W E T (es.length + 2) [([], s)] []

section
variable {es : List Ed} {W E T : List Int} {s : Int}
theorem eLoop_len {r : List Int × Int} : ∀ (l : List Ed) {S : List Int} {nx : Runs} {p : List Int × Runs}, (∀ x ∈ l, x ∈ es) → Inc S → eLoop W E T r l S nx = .inr p → Inc p.1 ∧ p.2.length + news es p.1 ≤ nx.length + news es S ∧ p.1.length + news es p.1 ≤ S.length + news es S
  | [], S, nx, p, _, hs, h => by
    simp only [eLoop, Sum.inr.injEq] at h
    subst h
    exact ⟨hs, Nat.le_refl _, Nat.le_refl _⟩
  | x :: l, S, nx, p, hl, hs, h => by
    have hl' : ∀ y ∈ l, y ∈ es := fun y hy => hl y (List.mem_cons_of_mem _ hy)
    rw [eLoop] at h
    split at h
    · rename_i hok
      split at h
      · cases h
      · obtain ⟨h1, h2, h3⟩ := eLoop_len l hl' (addL_inc hs _) h
        have hn : x.t ∉ S := fun hm => by have := hok.2.2.2; rw [hasB_true.2 hm] at this; cases this
        rcases news_add hs x (hl x (List.mem_cons_self ..)) with ⟨hm, _⟩ | ⟨e1, e2⟩
        · exact absurd hm hn
        · rw [List.length_append, List.length_singleton] at h2
          exact ⟨h1, by omega, by omega⟩
    · exact eLoop_len l hl' hs h
theorem rLoop_len : ∀ (L : Runs) {S : List Int} {nx : Runs} {p : List Int × Runs}, Inc S → rLoop es W E T L S nx = .inr p → Inc p.1 ∧ p.2.length + news es p.1 ≤ nx.length + news es S ∧ p.1.length + news es p.1 ≤ S.length + news es S
  | [], S, nx, p, hs, h => by
    simp only [rLoop, Sum.inr.injEq] at h
    subst h
    exact ⟨hs, Nat.le_refl _, Nat.le_refl _⟩
  | r :: l, S, nx, p, hs, h => by
    rw [rLoop] at h
    split at h
    · cases h
    · rename_i q hq
      obtain ⟨h1, h2, h3⟩ := eLoop_len es (fun _ hx => hx) hs hq
      obtain ⟨g1, g2, g3⟩ := rLoop_len l h1 h
      exact ⟨g1, by omega, by omega⟩

theorem lLoop_inl {f : Nat} {L : Runs} {S w : List Int} (hL : L ≠ []) (h : rLoop es W E T L S [] = .inl w) : lLoop es W E T (f + 1) L S = some w := by rw [lLoop, if_neg hL, h]
theorem lLoop_inr {f : Nat} {L : Runs} {S : List Int} {p : List Int × Runs} (hL : L ≠ []) (h : rLoop es W E T L S [] = .inr p) : lLoop es W E T (f + 1) L S = lLoop es W E T f p.2 p.1 := by rw [lLoop, if_neg hL, h]
theorem rLoop_inl {r : List Int × Int} {l nx : Runs} {S w : List Int} (h : eLoop W E T r es S nx = .inl w) : rLoop es W E T (r :: l) S nx = .inl w := by rw [rLoop, h]
theorem rLoop_inr {r : List Int × Int} {l nx : Runs} {S : List Int} {p : List Int × Runs} (h : eLoop W E T r es S nx = .inr p) : rLoop es W E T (r :: l) S nx = rLoop es W E T l p.1 p.2 := by rw [rLoop, h]
theorem eLoop_skip {r : List Int × Int} {x : Ed} {l : List Ed} {nx : Runs} {S : List Int} (h : ¬ pOk W E S r.2 x) : eLoop W E T r (x :: l) S nx = eLoop W E T r l S nx := by rw [eLoop, if_neg h]
theorem eLoop_hit {r : List Int × Int} {x : Ed} {l : List Ed} {nx : Runs} {S : List Int} (h : pOk W E S r.2 x) (hT : hasB T x.t = true) : eLoop W E T r (x :: l) S nx = .inl (r.1 ++ [x.e]) := by rw [eLoop, if_pos h, if_pos hT]
theorem eLoop_push {r : List Int × Int} {x : Ed} {l : List Ed} {nx : Runs} {S : List Int} (h : pOk W E S r.2 x) (hT : hasB T x.t = false) : eLoop W E T r (x :: l) S nx = eLoop W E T r l (addL S x.t) (nx ++ [(r.1 ++ [x.e], x.t)]) := by rw [eLoop, if_pos h, if_neg (by rw [hT]; simp)]

/-- What holds while the search goes on; p places have been followed. -/
structure GI (es : List Ed) (W E T : List Int) (s : Int) (S : List Int) (G : Runs) (p : Nat) (b : Int) : Prop where
  inc : Inc S
  zero : G[0]? = some ([], s)
  found : Found es (fPerm W E) s G b
  foll : Followed es (fPerm W E) G 1 p
  seen : ∀ t, t ∈ S ↔ ∃ k : Nat, 1 ≤ k ∧ ∃ r, G[k]? = some r ∧ r.2 = t
  no : ∀ (k : Nat) (r : List Int × Int), 1 ≤ k → G[k]? = some r → hasB T r.2 = false

theorem eLoop_says (he : EvEs es) {r : List Int × Int} {p : Nat} {H : Runs} : ∀ (l : List Ed) {S : List Int} {nx : Runs} {b : Int},
    (∀ x ∈ l, x ∈ es) → Sorted l → GI es W E T s S (H ++ nx) p b → (H ++ nx)[p]? = some r → b ≤ 33 * wval r.1 + 32 → (∀ x ∈ l, x.f = r.2 → b < 33 * wval r.1 + x.e + 1) →
    (∀ x ∈ es, x.f = r.2 → fPerm W E x = true → x ∈ l ∨ ∃ k : Nat, 1 ≤ k ∧ ∃ r', (H ++ nx)[k]? = some r' ∧ r'.2 = x.t ∧ wval r'.1 ≤ 33 * wval r.1 + x.e + 1) →
    match eLoop W E T r l S nx with
    | .inl w => Least es (fPerm W E) (hasB T) s 1 w
    | .inr q => ∃ b', GI es W E T s q.1 (H ++ q.2) (p + 1) b' ∧ (H ++ q.2)[p]? = some r ∧ b' ≤ 33 * wval r.1 + 32
  | [], S, nx, b, _, _, hG, hp, hb, _, hd => by
    refine ⟨b, ⟨hG.inc, hG.zero, hG.found, ?_, hG.seen, hG.no⟩, hp, hb⟩
    intro j hj r' hr' x hx hf hperm
    by_cases hjp : j < p
    · exact hG.foll j hjp r' hr' x hx hf hperm
    · have : j = p := by omega
      subst this
      have e : r' = r := Option.some.inj (hr'.symm.trans hp)
      subst e
      rcases hd x hx hf hperm with h | h
      · cases h
      · exact h
  | x :: l, S, nx, b, hl, hso, hG, hp, hb, hbl, hd => by
    have hl' : ∀ y ∈ l, y ∈ es := fun y hy => hl y (List.mem_cons_of_mem _ hy)
    have hso' : Sorted l := (List.pairwise_cons.1 hso).2
    have hxl := (List.pairwise_cons.1 hso).1
    have hx := hl x (List.mem_cons_self ..)
    have hxe := he x hx
    have hlead := hG.found.lead r (List.mem_of_getElem? hp)
    have hplt : p < (H ++ nx).length := (List.getElem?_eq_some_iff.1 hp).1
    rw [eLoop]
    by_cases hok : pOk W E S r.2 x
    · rw [if_pos hok]
      obtain ⟨hf, hW, hE, hS⟩ := hok
      have hperm : fPerm W E x = true := fPerm_true.2 ⟨hW, hE⟩
      have hlw := hlead.snoc hx hf hperm
      have hbx := hbl x (List.mem_cons_self ..) hf
      have hwv := wval_snoc r.1 x.e
      by_cases hT : hasB T x.t = true
      · rw [if_pos hT]
        refine ⟨hlw.evs he, by simp, ⟨_, hlw, hT⟩, ?_⟩
        intro u t hu ht hlen
        rcases List.eq_nil_or_concat u with rfl | ⟨u0, e, rfl⟩
        · simp at hlen
        rw [List.concat_eq_append] at hu ⊢
        obtain ⟨y, hy, g1, rfl, rfl, g4⟩ := hu.of_snoc
        have hye := he y hy
        rw [hwv, wval_snoc]
        rcases hG.foll.place he hG.found hG.zero u0 y.f g1 with ⟨k, r0, _, hk, hr0, hle⟩ | ⟨r', hk, hlt⟩ | h3
        · by_cases hkp : k < p
          · obtain ⟨k', hk', r', h1, h2, _⟩ := hG.foll k hkp r0 hk y hy hr0.symm g4
            have := hG.no k' r' hk' h1
            rw [h2, ht] at this; cases this
          · by_cases hke : k = p
            · subst hke
              have e : r0 = r := Option.some.inj (hk.symm.trans hp)
              subst e
              rcases hd y hy hr0.symm g4 with h | ⟨k', hk', r', h1, h2, _⟩
              · rcases List.mem_cons.1 h with rfl | h
                · omega
                · have := hxl y h
                  unfold edLt at this
                  omega
              · have := hG.no k' r' hk' h1
                rw [h2, ht] at this; cases this
            · have := hG.found.sorted p k (by omega) r r0 hp hk
              omega
        · have e : r' = r := Option.some.inj (hk.symm.trans hp)
          subst e
          omega
        · omega
      · rw [if_neg hT]
        have hT' : hasB T x.t = false := by simpa using hT
        have hassoc : H ++ (nx ++ [(r.1 ++ [x.e], x.t)]) = (H ++ nx) ++ [(r.1 ++ [x.e], x.t)] := by rw [List.append_assoc]
        have hnew : ((H ++ nx) ++ [(r.1 ++ [x.e], x.t)])[(H ++ nx).length]? = some (r.1 ++ [x.e], x.t) := by
          rw [List.getElem?_append_right (Nat.le_refl _), Nat.sub_self]; rfl
        have hold : ∀ {k : Nat} {r' : List Int × Int}, (H ++ nx)[k]? = some r' → ((H ++ nx) ++ [(r.1 ++ [x.e], x.t)])[k]? = some r' := fun {k r'} h => by
          rw [List.getElem?_append_left (List.getElem?_eq_some_iff.1 h).1]; exact h
        have hcase : ∀ {k : Nat} {r' : List Int × Int}, ((H ++ nx) ++ [(r.1 ++ [x.e], x.t)])[k]? = some r' → (H ++ nx)[k]? = some r' ∨ (k = (H ++ nx).length ∧ r' = (r.1 ++ [x.e], x.t)) := fun {k r'} h => by
          by_cases hk : k < (H ++ nx).length
          · rw [List.getElem?_append_left hk] at h; exact .inl h
          · have h2 := (List.getElem?_eq_some_iff.1 h).1
            rw [List.length_append, List.length_singleton] at h2
            have e : k = (H ++ nx).length := by omega
            rw [e] at h ⊢
            rw [hnew] at h
            exact .inr ⟨rfl, (Option.some.inj h).symm⟩
        refine eLoop_says he (H := H) l (b := wval (r.1 ++ [x.e])) hl' hso' ?_ ?_ (by omega) ?_ ?_
        · rw [hassoc]
          refine ⟨addL_inc hG.inc _, hold hG.zero, hG.found.push hlw (by omega), hG.foll.append (by omega) _, ?_, ?_⟩
          · intro t
            rw [addL_mem hG.inc, hG.seen]
            constructor
            · rintro (⟨k, hk, r', h1, h2⟩ | rfl)
              · exact ⟨k, hk, r', hold h1, h2⟩
              · exact ⟨_, by omega, _, hnew, rfl⟩
            · rintro ⟨k, hk, r', h1, h2⟩
              rcases hcase h1 with h | ⟨_, rfl⟩
              · exact .inl ⟨k, hk, r', h, h2⟩
              · exact .inr h2.symm
          · intro k r' hk h1
            rcases hcase h1 with h | ⟨_, rfl⟩
            · exact hG.no k r' hk h
            · exact hT'
        · rw [hassoc]; exact hold hp
        · intro y hy hyf
          have := hxl y hy
          unfold edLt at this
          omega
        · intro y hy hyf hyp
          rw [hassoc]
          rcases hd y hy hyf hyp with h | ⟨k, hk, r', h1, h2⟩
          · rcases List.mem_cons.1 h with rfl | h
            · exact .inr ⟨_, by omega, _, hnew, rfl, by dsimp only; omega⟩
            · exact .inl h
          · exact .inr ⟨k, hk, r', hold h1, h2⟩
    · rw [if_neg hok]
      refine eLoop_says he l hl' hso' hG hp hb (fun y hy => hbl y (List.mem_cons_of_mem _ hy)) ?_
      intro y hy hyf hyp
      rcases hd y hy hyf hyp with h | h
      · rcases List.mem_cons.1 h with rfl | h
        · obtain ⟨hW, hE⟩ := fPerm_true.1 hyp
          have hS : hasB S y.t = true := by
            by_cases hS : hasB S y.t = true
            · exact hS
            · exact absurd ⟨hyf, hW, hE, by simpa using hS⟩ hok
          obtain ⟨k, hk, r', h1, h2⟩ := (hG.seen _).1 (hasB_true.1 hS)
          have h3 := hG.found.bd r' (List.mem_of_getElem? h1)
          have h4 := hbl y (List.mem_cons_self ..) hyf
          exact .inr ⟨k, hk, r', h1, h2, by omega⟩
        · exact .inl h
      · exact .inr h

theorem rLoop_says (he : EvEs es) (hso : Sorted es) : ∀ (rs : Runs) {G1 : Runs} {S : List Int} {nx : Runs} {b : Int},
    GI es W E T s S (G1 ++ rs ++ nx) G1.length b → (∀ r, (G1 ++ rs ++ nx)[G1.length]? = some r → b ≤ 33 * wval r.1) →
    match rLoop es W E T rs S nx with
    | .inl w => Least es (fPerm W E) (hasB T) s 1 w
    | .inr q => ∃ b', GI es W E T s q.1 (G1 ++ rs ++ q.2) (G1.length + rs.length) b' ∧ ∀ r, (G1 ++ rs ++ q.2)[G1.length + rs.length]? = some r → b' ≤ 33 * wval r.1
  | [], G1, S, nx, b, hG, hb => ⟨b, hG, hb⟩
  | r :: l, G1, S, nx, b, hG, hb => by
    have hp : (G1 ++ r :: l ++ nx)[G1.length]? = some r := by
      rw [List.append_assoc, List.getElem?_append_right (Nat.le_refl _), Nat.sub_self]; rfl
    have h1 := eLoop_says (r := r) (p := G1.length) (H := G1 ++ r :: l) he es (nx := nx) (fun _ h => h) hso hG hp (by have := hb r hp; omega) (fun x hx _ => by have := hb r hp; have := he x hx; omega) (fun x hx _ _ => .inl hx)
    rw [rLoop]
    cases hq : eLoop W E T r es S nx with
    | inl w => rw [hq] at h1; exact h1
    | inr q =>
      rw [hq] at h1
      obtain ⟨b', hG', hp', hb'⟩ := h1
      have e : ∀ M : Runs, G1 ++ r :: l ++ M = (G1 ++ [r]) ++ l ++ M := fun M => by simp
      have e2 : G1.length + 1 = (G1 ++ [r]).length := by simp
      have e3 : G1.length + (r :: l).length = (G1 ++ [r]).length + l.length := by simp; omega
      dsimp only at hG' hp' hb' ⊢
      rw [e] at hG'
      rw [e2] at hG'
      have h2 := rLoop_says he hso l (G1 := G1 ++ [r]) (S := q.1) (nx := q.2) (b := b') hG' (fun r2 hr2 => by
        have h5 := hG'.found.sorted G1.length (G1 ++ [r]).length (by simp) r r2 (by rw [← e]; exact hp') hr2
        omega)
      simp only [e, e3]
      exact h2

theorem lLoop_says (he : EvEs es) (hso : Sorted es) : ∀ (f : Nat) {G1 L : Runs} {S : List Int} {b : Int},
    GI es W E T s S (G1 ++ L) G1.length b → (∀ r, (G1 ++ L)[G1.length]? = some r → b ≤ 33 * wval r.1) → 1 ≤ f → (L ≠ [] → news es S + 2 ≤ f) →
    match lLoop es W E T f L S with
    | some w => Least es (fPerm W E) (hasB T) s 1 w
    | none => ∀ u t, Leads es (fPerm W E) s u t → 1 ≤ u.length → hasB T t = false
  | 0, _, _, _, _, _, _, h, _ => absurd h (by omega)
  | f + 1, G1, L, S, b, hG, hb, _, hf => by
    rw [lLoop]
    by_cases hL : L = []
    · subst hL
      rw [if_pos rfl]
      rw [List.append_nil] at hG
      intro u t hu hlen
      obtain ⟨k, r, hk0, hk, rfl, _⟩ := hG.foll.all he hG.zero u t hu
      rcases hk0 with rfl | hk0
      · simp at hlen
      · exact hG.no k r hk0 hk
    · rw [if_neg hL]
      have h1 := rLoop_says he hso L (G1 := G1) (S := S) (nx := []) (b := b) (by rw [List.append_nil]; exact hG) (by rw [List.append_nil]; exact hb)
      have hf' := hf hL
      cases hq : rLoop es W E T L S [] with
      | inl w => rw [hq] at h1; exact h1
      | inr q =>
        rw [hq] at h1
        obtain ⟨b', hG', hb'⟩ := h1
        obtain ⟨_, hn, _⟩ := rLoop_len L hG.inc hq
        simp only [List.length_nil, Nat.zero_add] at hn
        rw [← List.length_append] at hG' hb'
        refine lLoop_says he hso f hG' hb' (by omega) (fun hne => ?_)
        have := List.length_pos_iff.2 hne
        omega

/-- What the reference's Path says: the least word, or that there is none. -/
theorem pathR_says (he : EvEs es) (hso : Sorted es) (least : Nat) (hl : least ≤ 1) (hs : hasB W s = true) :
    match pathR es W E T least s with
    | some w => Least es (fPerm W E) (hasB T) s least w
    | none => ∀ u t, Leads es (fPerm W E) s u t → least ≤ u.length → hasB T t = false := by
  have h0 : GI es W E T s [] ([] ++ [([], s)]) ([] : Runs).length 0 := by
    refine ⟨List.Pairwise.nil, rfl, ⟨?_, ?_, ?_⟩, fun j hj => absurd hj (by simp), ?_, ?_⟩
    · intro r hr
      rw [List.mem_singleton.1 hr]; rfl
    · intro j k hjk r r' hj hk
      have := (List.getElem?_eq_some_iff.1 hk).1
      simp at this; omega
    · intro r hr
      rw [List.mem_singleton.1 hr]; exact Int.le_refl 0
    · intro t
      constructor
      · intro h; cases h
      · rintro ⟨k, hk, r, hr, _⟩
        have := (List.getElem?_eq_some_iff.1 hr).1
        simp at this; omega
    · intro k r hk hr
      have := (List.getElem?_eq_some_iff.1 hr).1
      simp at this; omega
  have h1 := lLoop_says he hso (es.length + 2) h0 (fun r hr => by
    simp only [List.nil_append, List.length_nil, List.getElem?_cons_zero, Option.some.injEq] at hr
    subst hr; exact Int.le_refl 0) (by omega) (fun _ => by have := news_le es []; omega)
  unfold pathR
  rw [hs, if_neg (by simp)]
  by_cases hT : ((least : Nat) : Int) = 0 ∧ hasB T s = true
  · rw [if_pos hT]
    have e : least = 0 := by omega
    subst e
    exact ⟨Evs.nil, Nat.zero_le _, ⟨s, rfl, hT.2⟩, fun u t hu _ _ => wval_nonneg u (hu.evs he)⟩
  · rw [if_neg hT]
    cases hq : lLoop es W E T (es.length + 2) [([], s)] [] with
    | some w =>
      rw [hq] at h1
      by_cases h0 : least = 0
      · subst h0
        have hs0 : hasB T s = false := by
          by_cases h : hasB T s = true
          · exact absurd ⟨rfl, h⟩ hT
          · simpa using h
        refine ⟨h1.ev, Nat.zero_le _, h1.leads, fun u t hu ht _ => ?_⟩
        by_cases hu0 : u = []
        · subst hu0
          have : s = t := hu
          rw [← this, hs0] at ht; cases ht
        · exact h1.le u t hu ht (List.length_pos_iff.2 hu0)
      · have e : least = 1 := by omega
        subst e
        exact h1
    | none =>
      rw [hq] at h1
      intro u t hu hlen
      by_cases hu0 : u = []
      · subst hu0
        have e : s = t := hu
        have e0 : least = 0 := by simpa using hlen
        subst e0 e
        by_cases h : hasB T s = true
        · exact absurd ⟨rfl, h⟩ hT
        · simpa using h
      · exact h1 u t hu (List.length_pos_iff.2 hu0)
end
end Go.Proofs.Ythchkddhibhenaa
