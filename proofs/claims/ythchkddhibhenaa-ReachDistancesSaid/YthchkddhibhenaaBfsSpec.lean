/- The search of path finds the least word: a plain law. -/
import Derived.Test.YthchkddhibhenaaWord
namespace Go.Proofs.Ythchkddhibhenaa

/-- One edge stands before another. -/
def edLt (x y : Ed) : Prop := x.f < y.f ∨ (x.f = y.f ∧ x.e < y.e)
def Sorted (es : List Ed) : Prop := es.Pairwise edLt
theorem drop_count : ∀ (es : List Ed), es.Pairwise (fun x y => x.f ≤ y.f) → ∀ s : Int, es.drop (es.countP fun x => decide (x.f < s)) = es.filter fun x => !decide (x.f < s)
  | [], _, _ => rfl
  | x :: l, h, s => by
    obtain ⟨h1, h2⟩ := List.pairwise_cons.1 h
    by_cases hx : x.f < s
    · rw [List.countP_cons_of_pos (by simpa using hx), List.drop_succ_cons, drop_count l h2 s, List.filter_cons_of_neg (by simpa using hx)]
    · have h3 : ∀ y ∈ l, ¬ y.f < s := fun y hy => by have := h1 y hy; omega
      have h4 : l.countP (fun x => decide (x.f < s)) = 0 := by
        rw [List.countP_eq_zero]; intro y hy; simpa using h3 y hy
      rw [List.countP_cons_of_neg (by simpa using hx), h4, List.drop_zero]
      symm
      rw [List.filter_eq_self]
      intro y hy
      rcases List.mem_cons.1 hy with rfl | hy
      · simpa using hx
      · simpa using h3 y hy
theorem take_count : ∀ (es : List Ed), es.Pairwise (fun x y => x.f ≤ y.f) → ∀ s : Int, es.take (es.countP fun x => decide (x.f < s)) = es.filter fun x => decide (x.f < s)
  | [], _, _ => rfl
  | x :: l, h, s => by
    obtain ⟨h1, h2⟩ := List.pairwise_cons.1 h
    by_cases hx : x.f < s
    · rw [List.countP_cons_of_pos (by simpa using hx), List.take_succ_cons, take_count l h2 s, List.filter_cons_of_pos (by simpa using hx)]
    · have h3 : ∀ y ∈ l, ¬ y.f < s := fun y hy => by have := h1 y hy; omega
      have h4 : l.countP (fun x => decide (x.f < s)) = 0 := by
        rw [List.countP_eq_zero]; intro y hy; simpa using h3 y hy
      rw [List.countP_cons_of_neg (by simpa using hx), h4, List.take_zero]
      symm
      rw [List.filter_eq_nil_iff]
      intro y hy
      rcases List.mem_cons.1 hy with rfl | hy
      · simpa using hx
      · simpa using h3 y hy
theorem Sorted.le {es : List Ed} (h : Sorted es) : es.Pairwise (fun x y => x.f ≤ y.f) := List.Pairwise.imp (fun {x y} (h : edLt x y) => by unfold edLt at h; omega) h
/-- The edges of a state, as a filter. -/
theorem subOf_eq {es : List Ed} (h : Sorted es) (s : Int) : subOf es s = es.filter fun x => decide (x.f = s) := by
  have h1 := take_count es h.le (s + 1)
  have h2 : (es.filter fun x => decide (x.f < s + 1)).Pairwise (fun x y => x.f ≤ y.f) := h.le.filter _
  have h3 := drop_count _ h2 s
  have h4 : (es.filter fun x => decide (x.f < s + 1)).countP (fun x => decide (x.f < s)) = es.countP fun x => decide (x.f < s) := by
    rw [List.countP_filter]
    apply List.countP_congr
    intro x _
    simp only [Bool.and_eq_true, decide_eq_true_eq]
    omega
  rw [h4, ← h1, List.drop_take] at h3
  rw [subOf, edSub, fstN, fstN, h3, h1, List.filter_filter]
  apply List.filter_congr
  intro x _
  rw [Bool.eq_iff_iff]
  simp only [Bool.and_eq_true, Bool.not_eq_true', decide_eq_true_eq, decide_eq_false_iff_not]
  omega

theorem back_push {steps : List St} {y : St} (hp : ∀ j (h : j < steps.length), -1 ≤ steps[j].p ∧ steps[j].p < j) : ∀ (f k : Nat), k < steps.length → back (steps ++ [y]) f k = back steps f k
  | 0, _, _ => rfl
  | f + 1, k, hk => by
    rw [back, back, Int.toNat_natCast, List.getElem?_append_left hk, List.getElem?_eq_getElem hk]
    dsimp only
    split
    · rename_i h0
      have := hp k hk
      obtain ⟨p, hpe⟩ := Int.eq_ofNat_of_zero_le h0
      rw [hpe] at this ⊢
      rw [back_push hp f p (by omega)]
    · rfl

/-- The steps of the search and the words that they stand for. -/
structure PW (es : List Ed) (perm : Ed → Bool) (from_ n i : Nat) (seen : List Bool) (steps : List St) (L : List (List Int × Int)) (b : Int) : Prop where
  pok : POk n seen steps
  len : steps.length = L.length
  st : ∀ (k : Nat) (r : List Int × Int), L[k]? = some r → ∃ x, steps[k]? = some x ∧ x.s = r.2 ∧ ∀ f, k < f → back steps f k = r.1.reverse
  seen : ∀ t : Nat, t < n → seen[t]? = some true → ∃ (k : Nat) (r : List Int × Int), L[k]? = some r ∧ r.2 = t
  found : Found es perm from_ L b
  follow : Followed es perm L 0 i
  zero : L[0]? = some ([], (from_ : Int))
  lt : i ≤ L.length

/-- The edges of one state are followed. -/
theorem PW.fold {es : List Ed} {perm : Ed → Bool} {from_ n i : Nat} (hes : ∀ x ∈ es, 0 ≤ x.t ∧ x.t < (n : Int)) (he : EvEs es) (r : List Int × Int) : ∀ (l done : List Ed) {seen : List Bool} {steps : List St} {L : List (List Int × Int)} {b : Int},
    PW es perm from_ n i seen steps L b → L[i]? = some r → es.filter (fun x => decide (x.f = r.2)) = done ++ l → l.Pairwise (fun x y => x.e < y.e) → (∀ x ∈ l, b < 33 * wval r.1 + x.e + 1) → b ≤ 33 * wval r.1 + 32 →
    (∀ x ∈ done, perm x = true → ∃ (k : Nat) (r' : List Int × Int), L[k]? = some r' ∧ r'.2 = x.t ∧ wval r'.1 ≤ 33 * wval r.1 + x.e + 1) →
    ∃ L' b', PW es perm from_ n (i + 1) (l.foldl (pStep perm i) (seen, steps)).1 (l.foldl (pStep perm i) (seen, steps)).2 L' b' ∧ b' ≤ 33 * wval r.1 + 32 ∧ ∃ M, L' = L ++ M
  | [], done, seen, steps, L, b, h, hi, hf, hs, hb, hb2, hd => by
    refine ⟨L, b, ⟨h.pok, h.len, h.st, h.seen, h.found, fun j hj r' hr x hx hxf hp => ?_, h.zero, ?_⟩, hb2, [], (List.append_nil _).symm⟩
    · by_cases hji : j < i
      · exact h.follow j hji r' hr x hx hxf hp
      · obtain rfl : j = i := by omega
        rw [hi] at hr
        cases hr
        have hmem : x ∈ done := by
          have : x ∈ es.filter (fun x => decide (x.f = r.2)) := List.mem_filter.2 ⟨hx, by simpa using hxf⟩
          rw [hf, List.append_nil] at this
          exact this
        obtain ⟨k, r', h1, h2, h3⟩ := hd x hmem hp
        exact ⟨k, Nat.zero_le _, r', h1, h2, h3⟩
    · have := (List.getElem?_eq_some_iff.1 hi).1; omega
  | x :: l, done, seen, steps, L, b, h, hi, hf, hs, hb, hb2, hd => by
    obtain ⟨hs1, hs2⟩ := List.pairwise_cons.1 hs
    have hxm : x ∈ es.filter (fun x => decide (x.f = r.2)) := by rw [hf]; simp
    obtain ⟨hxe, hxf⟩ := List.mem_filter.1 hxm
    have hxf : x.f = r.2 := by simpa using hxf
    have hxt := hes x hxe
    have hxv := he x hxe
    have hxb := hb x (List.mem_cons_self ..)
    have hf' : es.filter (fun x => decide (x.f = r.2)) = (done ++ [x]) ++ l := by rw [hf]; simp
    have hil : i < L.length := (List.getElem?_eq_some_iff.1 hi).1
    rw [List.foldl_cons]
    have hlt : x.t.toNat < seen.length := by rw [h.pok.len]; omega
    have hsv : seen[x.t.toNat]? = some seen[x.t.toNat] := List.getElem?_eq_getElem hlt
    by_cases hc : seen[x.t.toNat]?.getD true = false ∧ perm x = true
    · have hst : pStep perm i (seen, steps) x = (seen.set x.t.toNat true, steps ++ [⟨x.t, i, x.e⟩]) := by unfold pStep; rw [if_pos hc]
      have hsf : seen[x.t.toNat]? = some false := by
        have := hc.1; rw [hsv] at this ⊢; simpa using this
      have hpok := h.pok.push (i := i) (by rw [h.len]; exact hil) x.t x.e hxt.1 hxt.2 hsf
      have hlead : Leads es perm from_ r.1 r.2 := h.found.lead r (List.mem_of_getElem? hi)
      have hF := h.found.push (hlead.snoc hxe hxf hc.2) (by rw [wval_snoc]; omega)
      rw [wval_snoc] at hF
      rw [hst]
      have hnew : PW es perm from_ n i (seen.set x.t.toNat true) (steps ++ [⟨x.t, i, x.e⟩]) (L ++ [(r.1 ++ [x.e], x.t)]) (33 * wval r.1 + x.e + 1) := by
        refine ⟨hpok, by simp [h.len], ?_, ?_, hF, h.follow.append h.lt _, ?_, ?_⟩
        · intro k r' hr'
          by_cases hk : k < L.length
          · rw [List.getElem?_append_left hk] at hr'
            obtain ⟨y, h1, h2, h3⟩ := h.st k r' hr'
            refine ⟨y, by rw [List.getElem?_append_left (by rw [h.len]; exact hk)]; exact h1, h2, fun f hf => ?_⟩
            rw [back_push h.pok.parent f k (by rw [h.len]; exact hk)]
            exact h3 f hf
          · have hkl : k = L.length := by
              have := (List.getElem?_eq_some_iff.1 hr').1; simp at this; omega
            subst hkl
            rw [List.getElem?_append_right (Nat.le_refl _), Nat.sub_self] at hr'
            simp only [List.getElem?_cons_zero, Option.some.injEq] at hr'
            subst hr'
            refine ⟨⟨x.t, i, x.e⟩, by rw [List.getElem?_append_right (by rw [h.len]; exact Nat.le_refl _), h.len, Nat.sub_self]; rfl, rfl, fun f hf => ?_⟩
            obtain ⟨f', rfl⟩ : ∃ f', f = f' + 1 := ⟨f - 1, by omega⟩
            obtain ⟨y, h1, h2, h3⟩ := h.st i r hi
            rw [back, Int.toNat_natCast, List.getElem?_append_right (by rw [h.len]; exact Nat.le_refl _), h.len, Nat.sub_self]
            simp only [List.getElem?_cons_zero]
            rw [if_pos (by omega), back_push h.pok.parent f' i (by rw [h.len]; exact hil), h3 f' (by omega)]
            simp
        · intro t ht hseen
          by_cases htx : x.t.toNat = t
          · exact ⟨L.length, (r.1 ++ [x.e], x.t), by simp, by dsimp only; omega⟩
          · rw [List.getElem?_set_ne htx] at hseen
            obtain ⟨k, r', h1, h2⟩ := h.seen t ht hseen
            exact ⟨k, r', by rw [List.getElem?_append_left (List.getElem?_eq_some_iff.1 h1).1]; exact h1, h2⟩
        · rw [List.getElem?_append_left (by omega)]; exact h.zero
        · have := h.lt; simp; omega
      obtain ⟨L', b', g1, g2, M, g3⟩ := PW.fold hes he r l (done ++ [x]) hnew (by rw [List.getElem?_append_left hil]; exact hi) hf' hs2 (fun y hy => by have := hs1 y hy; omega) (by omega) (fun y hy hp => by
        rcases List.mem_append.1 hy with hy | hy
        · obtain ⟨k, r', h1, h2, h3⟩ := hd y hy hp
          exact ⟨k, r', by rw [List.getElem?_append_left (List.getElem?_eq_some_iff.1 h1).1]; exact h1, h2, h3⟩
        · rw [List.mem_singleton.1 hy]
          exact ⟨L.length, (r.1 ++ [x.e], x.t), by simp, rfl, by rw [wval_snoc]; exact Int.le_refl _⟩)
      exact ⟨L', b', g1, g2, [(r.1 ++ [x.e], x.t)] ++ M, by rw [g3, List.append_assoc]⟩
    · have hst : pStep perm i (seen, steps) x = (seen, steps) := by unfold pStep; rw [if_neg hc]
      rw [hst]
      refine PW.fold hes he r l (done ++ [x]) h hi hf' hs2 (fun y hy => hb y (List.mem_cons_of_mem _ hy)) hb2 (fun y hy hp => ?_)
      rcases List.mem_append.1 hy with hy | hy
      · exact hd y hy hp
      · rw [List.mem_singleton.1 hy] at hp ⊢
        have hst : seen[x.t.toNat]? = some true := by
          rw [hsv] at hc ⊢
          simp only [Option.getD_some] at hc
          cases hb : seen[x.t.toNat] with
          | true => rfl
          | false => exact absurd ⟨hb, hp⟩ hc
        obtain ⟨k, r', h1, h2⟩ := h.seen x.t.toNat (by omega) hst
        refine ⟨k, r', h1, by omega, ?_⟩
        have := h.found.bd r' (List.mem_of_getElem? h1)
        omega

/-- What the search gives. -/
def BfsSays (es : List Ed) (perm : Ed → Bool) (want : Int → Bool) (from_ : Nat) : Option (List St × Nat) → Prop
  | some r => ∃ w, back r.1 (r.2 + 1) r.2 = w.reverse ∧ Least es perm want from_ 0 w
  | none => ∀ u t, Leads es perm from_ u t → want t = false
theorem PW.bfs {es : List Ed} {perm : Ed → Bool} {want : Int → Bool} {from_ n : Nat} (hso : Sorted es) (hes : ∀ x ∈ es, 0 ≤ x.t ∧ x.t < (n : Int)) (he : EvEs es) : ∀ (f i : Nat) {seen : List Bool} {steps : List St} {L : List (List Int × Int)} {b : Int},
    PW es perm from_ n i seen steps L b → n + 1 - i ≤ f → (∀ r, L[i]? = some r → b ≤ 33 * wval r.1) → (∀ j, j < i → ∀ r : List Int × Int, L[j]? = some r → want r.2 = false) →
    BfsSays es perm want from_ (Go.Proofs.Ythchkddhibhenaa.bfs (subOf es) want perm f i seen steps)
  | 0, i, seen, steps, L, b, h, hf, _, _ => by
    have h1 := h.pok.le
    have h2 := h.len
    have h3 := h.lt
    omega
  | f + 1, i, seen, steps, L, b, h, hf, hb, hn => by
    by_cases hi : i < steps.length
    · have hiL : i < L.length := by rw [← h.len]; exact hi
      have hr : L[i]? = some L[i] := List.getElem?_eq_getElem hiL
      obtain ⟨x, h1, h2, h3⟩ := h.st i L[i] hr
      rw [List.getElem?_eq_getElem hi] at h1
      cases h1
      cases hw : want steps[i].s with
      | true =>
        rw [bfs_found hi hw]
        exact ⟨L[i].1, h3 (i + 1) (by omega), h.found.least he h.follow h.zero hr (by rw [← h2]; exact hw) hn⟩
      | false =>
        rw [bfs_next hi hw, subOf_eq hso]
        have hpw : (es.filter fun x => decide (x.f = L[i].2)).Pairwise (fun x y => x.e < y.e) := by
          have h4 : (es.filter fun x => decide (x.f = L[i].2)).Pairwise edLt := List.Pairwise.filter _ hso
          refine List.Pairwise.imp_of_mem ?_ h4
          intro x y hx hy hxy
          have e1 := (List.mem_filter.1 hx).2
          have e2 := (List.mem_filter.1 hy).2
          simp only [decide_eq_true_eq] at e1 e2
          unfold edLt at hxy
          omega
        have hb1 := hb _ hr
        obtain ⟨L', b', g1, g2, M, rfl⟩ := PW.fold hes he L[i] (es.filter fun x => decide (x.f = L[i].2)) [] h hr (by simp) hpw (fun x hx => by have := he x (List.mem_filter.1 hx).1; omega) (by omega) (fun x hx => by cases hx)
        rw [h2]
        refine PW.bfs hso hes he f (i + 1) g1 (by omega) (fun r' hr' => ?_) (fun j hj r' hr' => ?_)
        · have h5 := g1.found.sorted i (i + 1) (by omega) L[i] r' (by rw [List.getElem?_append_left hiL]; exact hr) hr'
          omega
        · by_cases hji : j < i
          · rw [List.getElem?_append_left (by omega)] at hr'
            exact hn j hji r' hr'
          · obtain rfl : j = i := by omega
            rw [List.getElem?_append_left hiL, hr] at hr'
            cases hr'
            rw [← h2]; exact hw
    · rw [bfs_end (by omega)]
      have hil : i = L.length := by have := h.lt; have := h.len; omega
      subst hil
      exact h.follow.none he h.zero (fun j r hr => hn j (List.getElem?_eq_some_iff.1 hr).1 r hr)
/-- What path returns: the least word, or none where there is none. -/
theorem pathF_says {es : List Ed} {perm : Ed → Bool} {want : Int → Bool} {from_ n : Nat} (hso : Sorted es) (hes : ∀ x ∈ es, 0 ≤ x.t ∧ x.t < (n : Int)) (he : EvEs es) (hf : from_ < n) :
    match pathF n es want perm from_ with
    | some w => Least es perm want from_ 0 w
    | none => ∀ u t, Leads es perm from_ u t → want t = false := by
  have h0 : PW es perm from_ n 0 ((List.replicate n false).set from_ true) [⟨from_, -1, -1⟩] [([], (from_ : Int))] 0 := by
    refine ⟨POk.start n from_ hf, rfl, ?_, ?_, ⟨?_, ?_, ?_⟩, fun j hj => absurd hj (by omega), rfl, Nat.zero_le _⟩
    · intro k r hr
      cases k with
      | zero =>
        simp only [List.getElem?_cons_zero, Option.some.injEq] at hr
        subst hr
        refine ⟨_, rfl, rfl, fun f hf => ?_⟩
        obtain ⟨f', rfl⟩ : ∃ f', f = f' + 1 := ⟨f - 1, by omega⟩
        rfl
      | succ k => simp at hr
    · intro t ht hs
      by_cases e : from_ = t
      · subst e; exact ⟨0, _, rfl, rfl⟩
      · rw [List.getElem?_set_ne e, List.getElem?_replicate, if_pos ht] at hs
        cases hs
    · intro r hr
      rw [List.mem_singleton.1 hr]; rfl
    · intro j k hjk r r' hj hk
      have := (List.getElem?_eq_some_iff.1 hk).1
      simp at this; omega
    · intro r hr
      rw [List.mem_singleton.1 hr]; exact Int.le_refl 0
  have h1 := h0.bfs (want := want) hso hes he (n + 1) 0 (by omega) (fun r hr => by simp only [List.getElem?_cons_zero, Option.some.injEq] at hr; subst hr; exact Int.le_refl 0) (fun j hj => absurd hj (by omega))
  unfold pathF
  generalize Go.Proofs.Ythchkddhibhenaa.bfs (subOf es) want perm (n + 1) 0 ((List.replicate n false).set from_ true) [⟨from_, -1, -1⟩] = r at h1
  cases r with
  | none => exact h1
  | some r =>
    obtain ⟨w, h2, h3⟩ := h1
    simp only [Option.map_some, h2, List.reverse_reverse]
    exact h3
end Go.Proofs.Ythchkddhibhenaa
