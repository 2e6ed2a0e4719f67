/- Words in shortlex order by their ranks, what leads where, and searches that find the least word: plain laws. -/
import Derived.Test.YthchkddhibhenaaPathFn
namespace Go.Proofs.Ythchkddhibhenaa

/-- The rank of a word: words in shortlex order have rising ranks. -/
def wval (u : List Int) : Int := u.foldl (fun acc e => 33 * acc + e + 1) 0
theorem wval_snoc (u : List Int) (e : Int) : wval (u ++ [e]) = 33 * wval u + e + 1 := by simp [wval, List.foldl_append]
def Evs (u : List Int) : Prop := ∀ e ∈ u, 0 ≤ e ∧ e < 32
theorem Evs.nil : Evs [] := fun e h => by cases h
theorem Evs.snoc {u : List Int} {e : Int} (h : Evs u) (h0 : 0 ≤ e) (h1 : e < 32) : Evs (u ++ [e]) := by
  intro x hx
  rcases List.mem_append.1 hx with h2 | h2
  · exact h x h2
  · rw [List.mem_singleton.1 h2]; exact ⟨h0, h1⟩
theorem Evs.of_snoc {u : List Int} {e : Int} (h : Evs (u ++ [e])) : Evs u ∧ 0 ≤ e ∧ e < 32 :=
  ⟨fun x hx => h x (List.mem_append_left _ hx), h e (by simp)⟩
/-- Induction at the end of a list. -/
theorem snoc_ind {α : Type} {P : List α → Prop} (h0 : P []) (h1 : ∀ u e, P u → P (u ++ [e])) (u : List α) : P u := by
  have h2 : ∀ n (u : List α), u.length = n → P u := by
    intro n
    induction n with
    | zero => intro u hu; rw [List.eq_nil_of_length_eq_zero hu]; exact h0
    | succ n ih =>
      intro u hu
      rcases List.eq_nil_or_concat u with rfl | ⟨l, b, rfl⟩
      · cases hu
      · have hl : l.length = n := by simpa using hu
        simpa using h1 l b (ih l hl)
  exact h2 _ u rfl
theorem wval_nonneg (u : List Int) : Evs u → 0 ≤ wval u := by
  refine snoc_ind (P := fun u => Evs u → 0 ≤ wval u) (fun _ => Int.le_refl 0) (fun u e ih h => ?_) u
  have h1 := h.of_snoc
  have := ih h1.1
  rw [wval_snoc]; omega
theorem wval_inj (u : List Int) : ∀ v, Evs u → Evs v → wval u = wval v → u = v := by
  refine snoc_ind (P := fun u => ∀ v, Evs u → Evs v → wval u = wval v → u = v) ?_ ?_ u
  · intro v _ hv he
    rcases List.eq_nil_or_concat v with rfl | ⟨l, b, rfl⟩
    · rfl
    · rw [List.concat_eq_append] at hv he
      have h1 := hv.of_snoc
      have h2 := wval_nonneg l h1.1
      rw [wval_snoc] at he
      have h3 : wval [] = 0 := rfl
      omega
  · intro u e ih v hu hv he
    have g1 := hu.of_snoc
    have g2 := wval_nonneg u g1.1
    rw [wval_snoc] at he
    rcases List.eq_nil_or_concat v with rfl | ⟨l, b, rfl⟩
    · have h3 : wval [] = 0 := rfl
      omega
    · rw [List.concat_eq_append] at hv he ⊢
      have h1 := hv.of_snoc
      rw [wval_snoc] at he
      have e1 : wval u = wval l := by omega
      have e2 : e = b := by omega
      rw [ih l g1.1 h1.1 e1, e2]

/-- The least and the greatest rank of a word of so many events. -/
def wlo : Nat → Int
  | 0 => 0
  | n + 1 => 33 * wlo n + 1
def whi : Nat → Int
  | 0 => 0
  | n + 1 => 33 * whi n + 32
theorem wlo_le (u : List Int) : Evs u → wlo u.length ≤ wval u ∧ wval u ≤ whi u.length := by
  refine snoc_ind (P := fun u => Evs u → wlo u.length ≤ wval u ∧ wval u ≤ whi u.length) (fun _ => ⟨Int.le_refl _, Int.le_refl _⟩) (fun u e ih h => ?_) u
  have h1 := h.of_snoc
  have := ih h1.1
  rw [wval_snoc, List.length_append, List.length_singleton, wlo, whi]; omega
theorem whi_lt (n : Nat) : whi n < wlo (n + 1) := by
  induction n with
  | zero => decide
  | succ n ih => rw [whi, wlo]; omega
theorem wlo_mono {m n : Nat} (h : m ≤ n) : wlo m ≤ wlo n := by
  induction n with
  | zero => obtain rfl : m = 0 := by omega
            exact Int.le_refl _
  | succ n ih =>
    by_cases e : m = n + 1
    · rw [e]; exact Int.le_refl _
    · have h1 := ih (by omega)
      have h2 : 0 ≤ wlo n := by
        clear h1 ih h e
        induction n with
        | zero => exact Int.le_refl _
        | succ n ih => rw [wlo]; omega
      rw [wlo]; omega
theorem wval_len {u v : List Int} (hu : Evs u) (hv : Evs v) (h : wval u ≤ wval v) : u.length ≤ v.length := by
  by_cases hlt : v.length < u.length
  · have h1 := (wlo_le u hu).1
    have h2 := (wlo_le v hv).2
    have h3 := whi_lt v.length
    have h4 := wlo_mono (show v.length + 1 ≤ u.length by omega)
    omega
  · omega

/-- A word leads from s to t. -/
def Leads (es : List Ed) (perm : Ed → Bool) (s : Int) : List Int → Int → Prop
  | [], t => s = t
  | e :: u, t => ∃ x ∈ es, x.f = s ∧ x.e = e ∧ perm x = true ∧ Leads es perm x.t u t
theorem Leads.snoc {es : List Ed} {perm : Ed → Bool} : ∀ {u : List Int} {s t : Int}, Leads es perm s u t → ∀ {x : Ed}, x ∈ es → x.f = t → perm x = true → Leads es perm s (u ++ [x.e]) x.t
  | [], s, t, h, x, hx, hf, hp => ⟨x, hx, by rw [hf]; exact h.symm, rfl, hp, rfl⟩
  | e :: u, s, t, ⟨y, hy, h1, h2, h3, h4⟩, x, hx, hf, hp => ⟨y, hy, h1, h2, h3, h4.snoc hx hf hp⟩
theorem Leads.of_snoc {es : List Ed} {perm : Ed → Bool} {e : Int} : ∀ {u : List Int} {s t : Int}, Leads es perm s (u ++ [e]) t → ∃ x ∈ es, Leads es perm s u x.f ∧ x.e = e ∧ x.t = t ∧ perm x = true
  | [], s, t, ⟨y, hy, h1, h2, h3, h4⟩ => ⟨y, hy, h1.symm, h2, h4, h3⟩
  | a :: u, s, t, ⟨y, hy, h1, h2, h3, h4⟩ => by
    obtain ⟨x, hx, g1, g2, g3, g4⟩ := Leads.of_snoc (u := u) h4
    exact ⟨x, hx, ⟨y, hy, h1, h2, h3, g1⟩, g2, g3, g4⟩
/-- The events of the edges. -/
def EvEs (es : List Ed) : Prop := ∀ x ∈ es, 0 ≤ x.e ∧ x.e < 32
theorem Leads.evs {es : List Ed} {perm : Ed → Bool} (he : EvEs es) : ∀ {u : List Int} {s t : Int}, Leads es perm s u t → Evs u
  | [], _, _, _ => Evs.nil
  | e :: u, s, t, ⟨y, hy, h1, h2, h3, h4⟩ => by
    intro z hz
    rcases List.mem_cons.1 hz with rfl | hz
    · rw [← h2]; exact he y hy
    · exact Leads.evs he h4 z hz

/-- What a search has found so far: words with rising ranks, none above b. -/
structure Found (es : List Ed) (perm : Ed → Bool) (s : Int) (L : List (List Int × Int)) (b : Int) : Prop where
  lead : ∀ r ∈ L, Leads es perm s r.1 r.2
  sorted : ∀ j k : Nat, j < k → ∀ r r' : List Int × Int, L[j]? = some r → L[k]? = some r' → wval r.1 < wval r'.1
  bd : ∀ r ∈ L, wval r.1 ≤ b
/-- The edges of all places below i have been followed. -/
def Followed (es : List Ed) (perm : Ed → Bool) (L : List (List Int × Int)) (m i : Nat) : Prop :=
  ∀ j : Nat, j < i → ∀ r : List Int × Int, L[j]? = some r → ∀ x ∈ es, x.f = r.2 → perm x = true → ∃ k : Nat, m ≤ k ∧ ∃ r' : List Int × Int, L[k]? = some r' ∧ r'.2 = x.t ∧ wval r'.1 ≤ 33 * wval r.1 + x.e + 1

section
variable {es : List Ed} {perm : Ed → Bool} {s : Int} {L : List (List Int × Int)} {b : Int} {m i : Nat}
theorem Found.push (h : Found es perm s L b) {w : List Int} {t : Int} (hl : Leads es perm s w t) (hb : b < wval w) : Found es perm s (L ++ [(w, t)]) (wval w) := by
  refine ⟨fun r hr => ?_, fun j k hjk r r' hj hk => ?_, fun r hr => ?_⟩
  · rcases List.mem_append.1 hr with h1 | h1
    · exact h.lead r h1
    · rw [List.mem_singleton.1 h1]; exact hl
  · by_cases hk2 : k < L.length
    · rw [List.getElem?_append_left hk2] at hk
      rw [List.getElem?_append_left (by omega)] at hj
      exact h.sorted j k hjk r r' hj hk
    · rw [List.getElem?_append_right (by omega)] at hk
      have h3 : k - L.length = 0 := by
        by_cases h4 : k - L.length = 0
        · exact h4
        · rw [List.getElem?_eq_none (by simp; omega)] at hk; cases hk
      rw [h3] at hk
      simp only [List.getElem?_cons_zero, Option.some.injEq] at hk
      subst hk
      rw [List.getElem?_append_left (by omega)] at hj
      have := h.bd r (List.mem_of_getElem? hj)
      dsimp only; omega
  · rcases List.mem_append.1 hr with h1 | h1
    · have := h.bd r h1; omega
    · rw [List.mem_singleton.1 h1]; exact Int.le_refl _
theorem Found.more (h : Found es perm s L b) {b' : Int} (hb : b ≤ b') : Found es perm s L b' := ⟨h.lead, h.sorted, fun r hr => Int.le_trans (h.bd r hr) hb⟩
theorem Found.mono (h : Found es perm s L b) {j k : Nat} (hjk : j ≤ k) {r r' : List Int × Int} (hj : L[j]? = some r) (hk : L[k]? = some r') : wval r.1 ≤ wval r'.1 := by
  by_cases e : j = k
  · subst e; rw [hj] at hk; cases hk; exact Int.le_refl _
  · exact Int.le_of_lt (h.sorted j k (by omega) r r' hj hk)
theorem Followed.append (h : Followed es perm L m i) (hi : i ≤ L.length) (M : List (List Int × Int)) : Followed es perm (L ++ M) m i := by
  intro j hj r hr x hx hf hp
  rw [List.getElem?_append_left (by omega)] at hr
  obtain ⟨k, hk, r', hr', h1, h2⟩ := h j hj r hr x hx hf hp
  refine ⟨k, hk, r', ?_, h1, h2⟩
  rw [List.getElem?_append_left (by have := (List.getElem?_eq_some_iff.1 hr').1; omega)]
  exact hr'
/-- Where each word leads that has been tried. -/
theorem Followed.place (he : EvEs es) (hF : Found es perm s L b) (hC : Followed es perm L m i) (h0 : L[0]? = some ([], s)) (u : List Int) :
    ∀ t, Leads es perm s u t → (∃ (k : Nat) (r : List Int × Int), (u = [] ∨ m ≤ k) ∧ L[k]? = some r ∧ r.2 = t ∧ wval r.1 ≤ wval u) ∨ (∃ r : List Int × Int, L[i]? = some r ∧ wval r.1 < wval u) ∨ L.length ≤ i := by
  induction u using snoc_ind with
  | h0 =>
    intro t ht
    refine .inl ⟨0, _, .inl rfl, h0, ht, Int.le_refl _⟩
  | h1 u e ih =>
    intro t ht
    by_cases hil : L.length ≤ i
    · exact .inr (.inr hil)
    obtain ⟨x, hx, g1, rfl, rfl, g4⟩ := ht.of_snoc
    have hxe := he x hx
    have hi : L[i]? = some L[i] := List.getElem?_eq_getElem (by omega)
    have hu := wval_nonneg u (g1.evs he)
    rcases ih x.f g1 with ⟨k, r, hk0, hk, hr, hle⟩ | ⟨r, hk, hle⟩ | h3
    · by_cases hki : k < i
      · obtain ⟨k', hk', r', h1, h2, h3⟩ := hC k hki r hk x hx hr.symm g4
        refine .inl ⟨k', r', .inr hk', h1, h2, ?_⟩
        rw [wval_snoc]; omega
      · refine .inr (.inl ⟨_, hi, ?_⟩)
        have := hF.mono (show i ≤ k by omega) hi hk
        rw [wval_snoc]; omega
    · refine .inr (.inl ⟨r, hk, ?_⟩)
      rw [wval_snoc]; omega
    · exact .inr (.inr h3)
/-- The same where all have been followed. -/
theorem Followed.all (he : EvEs es) (hC : Followed es perm L m L.length) (h0 : L[0]? = some ([], s)) (u : List Int) :
    ∀ t, Leads es perm s u t → ∃ (k : Nat) (r : List Int × Int), (u = [] ∨ m ≤ k) ∧ L[k]? = some r ∧ r.2 = t ∧ wval r.1 ≤ wval u := by
  induction u using snoc_ind with
  | h0 =>
    intro t ht
    exact ⟨0, _, .inl rfl, h0, ht, Int.le_refl _⟩
  | h1 u e ih =>
    intro t ht
    obtain ⟨x, hx, g1, rfl, rfl, g4⟩ := ht.of_snoc
    obtain ⟨k, r, hk0, hk, hr, hle⟩ := ih x.f g1
    obtain ⟨k', hk', r', h1, h2, h3⟩ := hC k (List.getElem?_eq_some_iff.1 hk).1 r hk x hx hr.symm g4
    refine ⟨k', r', .inr hk', h1, h2, ?_⟩
    rw [wval_snoc]; omega

/-- The least word that leads to a state that is wanted, of at least so many events. -/
structure Least (es : List Ed) (perm : Ed → Bool) (want : Int → Bool) (s : Int) (least : Nat) (w : List Int) : Prop where
  ev : Evs w
  len : least ≤ w.length
  leads : ∃ t, Leads es perm s w t ∧ want t = true
  le : ∀ u t, Leads es perm s u t → want t = true → least ≤ u.length → wval w ≤ wval u
theorem Least.unique {want : Int → Bool} {least : Nat} {w w' : List Int} (h : Least es perm want s least w) (h' : Least es perm want s least w') : w = w' := by
  obtain ⟨t, h1, h2⟩ := h.leads
  obtain ⟨t', h1', h2'⟩ := h'.leads
  exact wval_inj w w' h.ev h'.ev (Int.le_antisymm (h.le _ _ h1' h2' h'.len) (h'.le _ _ h1 h2 h.len))
/-- A search that looks at a state when its turn comes. -/
theorem Found.least {want : Int → Bool} (he : EvEs es) (hF : Found es perm s L b) (hC : Followed es perm L 0 i) (h0 : L[0]? = some ([], s)) {r : List Int × Int} (hi : L[i]? = some r) (hw : want r.2 = true)
    (hn : ∀ j : Nat, j < i → ∀ r : List Int × Int, L[j]? = some r → want r.2 = false) : Least es perm want s 0 r.1 := by
  have hl := hF.lead r (List.mem_of_getElem? hi)
  refine ⟨hl.evs he, Nat.zero_le _, ⟨_, hl, hw⟩, fun u t hu ht _ => ?_⟩
  rcases hC.place he hF h0 u t hu with ⟨k, r', hk0, hk, hr, hle⟩ | ⟨r', hk, hle⟩ | h3
  · by_cases hki : k < i
    · have := hn k hki r' hk
      rw [hr, ht] at this; cases this
    · have := hF.mono (show i ≤ k by omega) hi hk; omega
  · rw [hi] at hk; cases hk; omega
  · have := (List.getElem?_eq_some_iff.1 hi).1; omega
theorem Followed.none {want : Int → Bool} (he : EvEs es) (hC : Followed es perm L 0 L.length) (h0 : L[0]? = some ([], s)) (hn : ∀ (j : Nat) (r : List Int × Int), L[j]? = some r → want r.2 = false) :
    ∀ u t, Leads es perm s u t → want t = false := by
  intro u t hu
  obtain ⟨k, r, _, hk, rfl, _⟩ := hC.all he h0 u t hu
  exact hn k r hk
end
end Go.Proofs.Ythchkddhibhenaa
