/- ReachComponents returns true for every description, and leaves its argument as it was. No conditions. -/
import Derived.Test.YthchkddhibhenaaQcm5
namespace Go.Proofs.Ythchkddhibhenaa
/-- Where a number stands, or would stand, in an increasing list. -/
def atI (xs : List Int) (n : Int) : Nat := (xs.takeWhile fun x => decide (x < n)).length
/-- The list with the number, if it is new. -/
def addL (xs : List Int) (n : Int) : List Int := if xs[atI xs n]? = some n then xs else xs.take (atI xs n) ++ [n] ++ xs.drop (atI xs n)
theorem atI_le (xs : List Int) (n : Int) : atI xs n ≤ xs.length := by
  unfold atI; exact (List.takeWhile_prefix _).length_le
theorem atI_eq {xs : List Int} {n : Int} {k : Nat} (hk : k ≤ xs.length) (h1 : ∀ j, (h : j < k) → xs[j] < n) (h2 : ∀ h : k < xs.length, ¬ xs[k] < n) : atI xs n = k := by
  unfold atI
  induction xs generalizing k with
  | nil => simp at hk; simp [hk]
  | cons a l ih =>
    cases k with
    | zero =>
      have := h2 (by simp)
      rw [List.takeWhile_cons_of_neg (by simpa using this)]; rfl
    | succ k =>
      have h3 := h1 0 (by omega)
      rw [List.takeWhile_cons_of_pos (by simpa using h3), List.length_cons, ih (k := k) (by simpa using hk)]
      · intro j hj; have := h1 (j + 1) (by omega); simpa using this
      · intro hj; have := h2 (by simpa using hj); simpa using this


theorem takeWhile_all {p : Int → Bool} : ∀ (xs : List Int), ∀ x ∈ xs.takeWhile p, p x = true
  | [], x, h => by cases h
  | y :: ys, x, h => by
    by_cases hy : p y = true
    · rw [List.takeWhile_cons_of_pos hy] at h
      rcases List.mem_cons.1 h with rfl | h
      · exact hy
      · exact takeWhile_all ys x h
    · rw [List.takeWhile_cons_of_neg hy] at h; cases h
theorem atI_take (xs : List Int) (n : Int) : xs.take (atI xs n) = xs.takeWhile fun x => decide (x < n) := by
  unfold atI
  induction xs with
  | nil => rfl
  | cons y ys ih =>
    by_cases hy : y < n
    · rw [List.takeWhile_cons_of_pos (by simpa using hy), List.length_cons, List.take_succ_cons, ih]
    · rw [List.takeWhile_cons_of_neg (by simpa using hy), List.length_nil, List.take_zero]
theorem atI_drop (xs : List Int) (n : Int) : xs.drop (atI xs n) = xs.dropWhile fun x => decide (x < n) := by
  unfold atI
  induction xs with
  | nil => rfl
  | cons y ys ih =>
    by_cases hy : y < n
    · rw [List.takeWhile_cons_of_pos (by simpa using hy), List.dropWhile_cons_of_pos (by simpa using hy), List.length_cons, List.drop_succ_cons, ih]
    · rw [List.takeWhile_cons_of_neg (by simpa using hy), List.dropWhile_cons_of_neg (by simpa using hy), List.length_nil, List.drop_zero]
theorem dropWhile_ge {n : Int} : ∀ {xs : List Int}, Inc xs → ∀ x ∈ xs.dropWhile (fun x => decide (x < n)), n ≤ x
  | [], _, x, h => by cases h
  | y :: ys, hs, x, h => by
    obtain ⟨h1, h2⟩ := List.pairwise_cons.1 hs
    by_cases hy : y < n
    · rw [List.dropWhile_cons_of_pos (by simpa using hy)] at h
      exact dropWhile_ge h2 x h
    · rw [List.dropWhile_cons_of_neg (by simpa using hy)] at h
      rcases List.mem_cons.1 h with rfl | h
      · omega
      · have := h1 x h; omega
/-- Adding a number to an increasing list. -/
theorem addL_cases {xs : List Int} (hs : Inc xs) (n : Int) : (n ∈ xs ∧ addL xs n = xs) ∨ (n ∉ xs ∧ addL xs n = (xs.takeWhile fun x => decide (x < n)) ++ [n] ++ xs.dropWhile fun x => decide (x < n)) := by
  unfold addL
  by_cases h : xs[atI xs n]? = some n
  · rw [if_pos h]; exact .inl ⟨List.mem_of_getElem? h, rfl⟩
  · rw [if_neg h, atI_take, atI_drop]
    refine .inr ⟨fun hn => ?_, rfl⟩
    rw [← List.takeWhile_append_dropWhile (p := fun x => decide (x < n)) (l := xs)] at hn
    rcases List.mem_append.1 hn with h1 | h1
    · have := takeWhile_all xs n h1
      simp at this
    · have h2 := atI_drop xs n
      cases hd : xs.dropWhile (fun x => decide (x < n)) with
      | nil => rw [hd] at h1; cases h1
      | cons y ys =>
        rw [hd] at h2 h1
        have h3 : xs[atI xs n]? = some y := by
          rw [← List.head?_drop, h2]; rfl
        have hge := dropWhile_ge (n := n) hs
        rw [hd] at hge
        have h4 := hge y (List.mem_cons_self ..)
        rcases List.mem_cons.1 h1 with rfl | h1
        · exact h h3
        · have h5 : Inc (y :: ys) := by rw [← hd]; exact hs.sublist (List.dropWhile_sublist _)
          have h6 := (List.pairwise_cons.1 h5).1 n h1
          omega
theorem addL_mem {xs : List Int} (hs : Inc xs) (n x : Int) : x ∈ addL xs n ↔ x ∈ xs ∨ x = n := by
  rcases addL_cases hs n with ⟨h1, h2⟩ | ⟨h1, h2⟩
  · rw [h2]; exact ⟨.inl, fun h => h.elim id (fun h => h ▸ h1)⟩
  · rw [h2]
    have h3 := List.takeWhile_append_dropWhile (p := fun x => decide (x < n)) (l := xs)
    constructor
    · intro h
      rcases List.mem_append.1 h with h | h
      · rcases List.mem_append.1 h with h | h
        · exact .inl (h3 ▸ List.mem_append_left _ h)
        · exact .inr (List.mem_singleton.1 h)
      · exact .inl (h3 ▸ List.mem_append_right _ h)
    · rintro (h | rfl)
      · rw [← h3] at h
        rcases List.mem_append.1 h with h | h
        · exact List.mem_append_left _ (List.mem_append_left _ h)
        · exact List.mem_append_right _ h
      · simp
theorem addL_inc {xs : List Int} (hs : Inc xs) (n : Int) : Inc (addL xs n) := by
  rcases addL_cases hs n with ⟨h1, h2⟩ | ⟨h1, h2⟩
  · rw [h2]; exact hs
  · rw [h2]
    have h3 := List.takeWhile_append_dropWhile (p := fun x => decide (x < n)) (l := xs)
    have h4 := hs
    rw [← h3] at h4
    obtain ⟨a1, a2, a3⟩ := List.pairwise_append.1 h4
    have hlt : ∀ a ∈ xs.takeWhile (fun x => decide (x < n)), a < n := fun a ha => by simpa using takeWhile_all xs a ha
    have hge := dropWhile_ge (n := n) hs
    have hgt : ∀ b ∈ xs.dropWhile (fun x => decide (x < n)), n < b := fun b hb => by
      have := hge b hb
      have : b ≠ n := fun e => h1 (by rw [← e]; exact (List.dropWhile_sublist _).subset hb)
      omega
    rw [Inc, List.pairwise_append, List.pairwise_append]
    refine ⟨⟨a1, List.pairwise_singleton _ _, fun a ha b hb => by rw [List.mem_singleton.1 hb]; exact hlt a ha⟩, a2, fun a ha b hb => ?_⟩
    rcases List.mem_append.1 ha with ha | ha
    · exact a3 a ha b hb
    · rw [List.mem_singleton.1 ha]; exact hgt b hb
theorem addL_len {xs : List Int} (hs : Inc xs) (n : Int) : (n ∈ xs ∧ addL xs n = xs) ∨ (n ∉ xs ∧ (addL xs n).length = xs.length + 1) := by
  rcases addL_cases hs n with h | ⟨h1, h2⟩
  · exact .inl h
  · refine .inr ⟨h1, ?_⟩
    have h3 := congrArg List.length (List.takeWhile_append_dropWhile (p := fun x => decide (x < n)) (l := xs))
    rw [List.length_append] at h3
    rw [h2, List.length_append, List.length_append, List.length_singleton]
    omega
/-- One element of the start. -/
def sStep (within : List Int) (o : List Int) (s : Int) : List Int := if hasB within s = true then addL o s else o
/-- One edge. -/
def fStep (within evs : List Int) (o : List Int) (x : Ed) : List Int := if hasB o x.f = true ∧ hasB within x.t = true ∧ hasB evs x.e = true then addL o x.t else o
/-- The rounds. -/
def fLoop (es : List Ed) (within evs : List Int) : Nat → List Int → List Int
  | 0, o => o
  | f + 1, o => if (es.foldl (fStep within evs) o).length = o.length then es.foldl (fStep within evs) o else fLoop es within evs f (es.foldl (fStep within evs) o)
/-- What From returns. -/
def fromL (es : List Ed) (start within evs : List Int) : List Int := fLoop es within evs (es.length + 1) (start.foldl (sStep within) [])

/-- How many edges lead out of a list. -/
def news (es : List Ed) (o : List Int) : Nat := es.countP fun x => !hasB o x.t
theorem news_le (es : List Ed) (o : List Int) : news es o ≤ es.length := List.countP_le_length
theorem news_add {es : List Ed} {o : List Int} (hs : Inc o) (x : Ed) (hx : x ∈ es) : (x.t ∈ o ∧ addL o x.t = o) ∨ ((addL o x.t).length = o.length + 1 ∧ news es (addL o x.t) < news es o) := by
  rcases addL_len hs x.t with h | ⟨h1, h2⟩
  · exact .inl h
  · refine .inr ⟨h2, ?_⟩
    unfold news
    have hmono : ∀ y : Ed, (!hasB (addL o x.t) y.t) = true → (!hasB o y.t) = true := by
      intro y hy
      simp only [Bool.not_eq_true', hasB_false] at hy ⊢
      exact fun h => hy ((addL_mem hs _ _).2 (.inl h))
    have hx0 : (!hasB o x.t) = true := by simp only [Bool.not_eq_true', hasB_false]; exact h1
    have hx1 : ¬ (!hasB (addL o x.t) x.t) = true := by
      simp only [Bool.not_eq_true', hasB_false]
      exact fun h => h ((addL_mem hs _ _).2 (.inr rfl))
    clear h1 h2
    induction es with
    | nil => cases hx
    | cons y ys ih =>
      rw [List.countP_cons, List.countP_cons]
      rcases List.mem_cons.1 hx with rfl | hx
      · rw [if_neg hx1, if_pos hx0]
        have := List.countP_mono_left (l := ys) (fun y _ hy => hmono y hy)
        omega
      · have := ih hx
        by_cases hy : (!hasB (addL o x.t) y.t) = true
        · rw [if_pos hy, if_pos (hmono y hy)]; omega
        · rw [if_neg hy]; split <;> omega
theorem fStep_ok {es : List Ed} {within evs o : List Int} (hs : Inc o) (x : Ed) (hx : x ∈ es) : Inc (fStep within evs o x) ∧ (fStep within evs o x).length + news es (fStep within evs o x) ≤ o.length + news es o ∧ o.length ≤ (fStep within evs o x).length := by
  unfold fStep
  split
  · rcases news_add hs x hx with ⟨_, h⟩ | ⟨h1, h2⟩
    · rw [h]; exact ⟨hs, Nat.le_refl _, Nat.le_refl _⟩
    · exact ⟨addL_inc hs _, by omega, by omega⟩
  · exact ⟨hs, Nat.le_refl _, Nat.le_refl _⟩
theorem fFold_ok {es : List Ed} {within evs : List Int} : ∀ (l : List Ed) {o : List Int}, Inc o → (∀ x ∈ l, x ∈ es) → Inc (l.foldl (fStep within evs) o) ∧ (l.foldl (fStep within evs) o).length + news es (l.foldl (fStep within evs) o) ≤ o.length + news es o ∧ o.length ≤ (l.foldl (fStep within evs) o).length
  | [], _, hs, _ => ⟨hs, Nat.le_refl _, Nat.le_refl _⟩
  | x :: l, o, hs, hl => by
    have h1 := fStep_ok (within := within) (evs := evs) hs x (hl x (List.mem_cons_self ..))
    have h2 := fFold_ok (within := within) (evs := evs) l h1.1 (fun y hy => hl y (List.mem_cons_of_mem _ hy))
    exact ⟨h2.1, by have := h2.2.1; have := h1.2.1; simp only [List.foldl_cons]; omega, by have := h2.2.2; have := h1.2.2; simp only [List.foldl_cons]; omega⟩
theorem sStep_ok {within o : List Int} (hs : Inc o) (s : Int) : Inc (sStep within o s) ∧ (sStep within o s).length ≤ o.length + 1 := by
  unfold sStep
  split
  · rcases addL_len hs s with ⟨_, h⟩ | ⟨_, h⟩
    · rw [h]; exact ⟨hs, by omega⟩
    · exact ⟨addL_inc hs _, by omega⟩
  · exact ⟨hs, by omega⟩
theorem sFold_ok {within : List Int} : ∀ (l : List Int) {o : List Int}, Inc o → Inc (l.foldl (sStep within) o) ∧ (l.foldl (sStep within) o).length ≤ o.length + l.length
  | [], _, hs => ⟨hs, by simp⟩
  | s :: l, o, hs => by
    have h1 := sStep_ok (within := within) hs s
    have h2 := sFold_ok (within := within) l h1.1
    exact ⟨h2.1, by have := h2.2; have := h1.2; simp only [List.foldl_cons, List.length_cons]; omega⟩
theorem fStep_sub {within evs o : List Int} (hs : Inc o) (x : Ed) : ∀ s ∈ o, s ∈ fStep within evs o x := by
  intro s h
  unfold fStep
  split
  · exact (addL_mem hs _ _).2 (.inl h)
  · exact h
theorem fFold_sub {es : List Ed} {within evs : List Int} : ∀ (l : List Ed) {o : List Int}, Inc o → (∀ x ∈ l, x ∈ es) → ∀ s ∈ o, s ∈ l.foldl (fStep within evs) o
  | [], _, _, _, _s, h => h
  | x :: l, _o, hs, hl, s, h => fFold_sub l (fStep_ok (es := es) hs x (hl x (List.mem_cons_self ..))).1 (fun y hy => hl y (List.mem_cons_of_mem _ hy)) s (fStep_sub hs x s h)
/-- A round that adds nothing has found all edges followed. -/
theorem fFold_same {es : List Ed} {within evs : List Int} : ∀ (l : List Ed) {o : List Int}, Inc o → (∀ x ∈ l, x ∈ es) → (l.foldl (fStep within evs) o).length = o.length →
    l.foldl (fStep within evs) o = o ∧ ∀ x ∈ l, x.f ∈ o → hasB within x.t = true → hasB evs x.e = true → x.t ∈ o
  | [], _, _, _, _ => ⟨rfl, fun x hx => by cases hx⟩
  | x :: l, o, hs, hl, he => by
    rw [List.foldl_cons] at he ⊢
    have h1 := fStep_ok (within := within) (evs := evs) hs x (hl x (List.mem_cons_self ..))
    have h2 := fFold_ok (within := within) (evs := evs) l h1.1 (fun y hy => hl y (List.mem_cons_of_mem _ hy))
    have hx : fStep within evs o x = o ∧ (x.f ∈ o → hasB within x.t = true → hasB evs x.e = true → x.t ∈ o) := by
      have hle := h1.2.2
      have hle2 := h2.2.2
      revert hle hle2 he
      unfold fStep
      split
      · rename_i hc
        intro he hle2 hle
        rcases addL_len hs x.t with ⟨h3, h4⟩ | ⟨_, h4⟩
        · exact ⟨h4, fun _ _ _ => h3⟩
        · omega
      · rename_i hc
        intro _ _ _
        exact ⟨rfl, fun a b c => absurd ⟨hasB_true.2 a, b, c⟩ hc⟩
    rw [hx.1] at he ⊢
    have h3 := fFold_same l hs (fun y hy => hl y (List.mem_cons_of_mem _ hy)) he
    refine ⟨h3.1, fun y hy => ?_⟩
    rcases List.mem_cons.1 hy with rfl | hy
    · exact hx.2
    · exact h3.2 y hy

/-- The edges that From follows. -/
def fPerm (within evs : List Int) (x : Ed) : Bool := hasB within x.t && hasB evs x.e
theorem fPerm_true {within evs : List Int} {x : Ed} : fPerm within evs x = true ↔ hasB within x.t = true ∧ hasB evs x.e = true := by simp [fPerm]
/-- All that has been found is led to. -/
def LedTo (es : List Ed) (start within evs : List Int) (s : Int) : Prop := ∃ s0 ∈ start, hasB within s0 = true ∧ ∃ u, Leads es (fPerm within evs) s0 u s
theorem fFold_led {es : List Ed} {start within evs : List Int} : ∀ (l : List Ed) {o : List Int}, Inc o → (∀ x ∈ l, x ∈ es) → (∀ s ∈ o, LedTo es start within evs s) → ∀ s ∈ l.foldl (fStep within evs) o, LedTo es start within evs s
  | [], _, _, _, h => h
  | x :: l, o, hs, hl, h => by
    rw [List.foldl_cons]
    have h1 := fStep_ok (within := within) (evs := evs) hs x (hl x (List.mem_cons_self ..))
    refine fFold_led l h1.1 (fun y hy => hl y (List.mem_cons_of_mem _ hy)) ?_
    unfold fStep
    split
    · rename_i hc
      intro s hs'
      rcases (addL_mem hs _ _).1 hs' with h2 | rfl
      · exact h s h2
      · obtain ⟨s0, h2, h3, u, h4⟩ := h x.f (hasB_true.1 hc.1)
        exact ⟨s0, h2, h3, _, h4.snoc (hl x (List.mem_cons_self ..)) rfl (fPerm_true.2 hc.2)⟩
    · exact h
theorem fLoop_says {es : List Ed} {start within evs : List Int} : ∀ (f : Nat) {o : List Int}, Inc o → news es o < f → (∀ s ∈ o, LedTo es start within evs s) → (∀ s0 ∈ start, hasB within s0 = true → s0 ∈ o) →
    Inc (fLoop es within evs f o) ∧ ∀ s, s ∈ fLoop es within evs f o ↔ LedTo es start within evs s
  | 0, _, _, hf, _, _ => absurd hf (by omega)
  | f + 1, o, hs, hf, hled, hst => by
    have h1 := fFold_ok (es := es) (within := within) (evs := evs) es hs (fun _ h => h)
    have h2 := fFold_led (start := start) (within := within) (evs := evs) es hs (fun _ h => h) hled
    have h3 := fFold_sub (es := es) (within := within) (evs := evs) es hs (fun _ h => h)
    rw [fLoop]
    split
    · rename_i he
      obtain ⟨h4, h5⟩ := fFold_same (es := es) es hs (fun _ h => h) he
      rw [h4]
      refine ⟨hs, fun s => ⟨hled s, ?_⟩⟩
      rintro ⟨s0, hs0, hw0, u, hu⟩
      have key : ∀ (u : List Int) (a b : Int), a ∈ o → Leads es (fPerm within evs) a u b → b ∈ o := by
        intro u
        induction u with
        | nil => intro a b ha h; rw [← show a = b from h]; exact ha
        | cons e u ih =>
          rintro a b ha ⟨x, hx, hf, _, hp, h⟩
          exact ih x.t b (h5 x hx (by rw [hf]; exact ha) (fPerm_true.1 hp).1 (fPerm_true.1 hp).2) h
      exact key u s0 s (hst s0 hs0 hw0) hu
    · rename_i he
      exact fLoop_says f h1.1 (by omega) h2 (fun s0 a b => h3 s0 (hst s0 a b))
theorem fLoop_len {es : List Ed} {within evs : List Int} : ∀ (f : Nat) {o : List Int}, Inc o → (fLoop es within evs f o).length + news es (fLoop es within evs f o) ≤ o.length + news es o
  | 0, _, _ => Nat.le_refl _
  | f + 1, o, hs => by
    have h1 := fFold_ok (es := es) (within := within) (evs := evs) es hs (fun _ h => h)
    rw [fLoop]
    split
    · exact h1.2.1
    · exact Nat.le_trans (fLoop_len f h1.1) h1.2.1
theorem fromL_len (es : List Ed) (start within evs : List Int) : (fromL es start within evs).length ≤ start.length + es.length := by
  have h1 := sFold_ok (within := within) start (o := []) List.Pairwise.nil
  have h2 := fLoop_len (es := es) (within := within) (evs := evs) (es.length + 1) h1.1
  have h3 := news_le es (start.foldl (sStep within) [])
  simp only [List.length_nil] at h1
  unfold fromL
  omega
/-- What From returns: all states that are led to, in order. -/
theorem fromL_says (es : List Ed) (start within evs : List Int) : Inc (fromL es start within evs) ∧ ∀ s, s ∈ fromL es start within evs ↔ LedTo es start within evs s := by
  have h1 := sFold_ok (within := within) start (o := []) List.Pairwise.nil
  have hm : ∀ (l : List Int) {o : List Int}, Inc o → ∀ s, s ∈ l.foldl (sStep within) o ↔ s ∈ o ∨ (s ∈ l ∧ hasB within s = true) := by
    intro l
    induction l with
    | nil => intro o _ s; simp
    | cons a l ih =>
      intro o hs s
      rw [List.foldl_cons, ih (sStep_ok hs a).1]
      unfold sStep
      split
      · rename_i hc
        rw [addL_mem hs, List.mem_cons]
        constructor
        · rintro ((h | rfl) | h)
          · exact .inl h
          · exact .inr ⟨.inl rfl, hc⟩
          · exact .inr ⟨.inr h.1, h.2⟩
        · rintro (h | ⟨rfl | h, h2⟩)
          · exact .inl (.inl h)
          · exact .inl (.inr rfl)
          · exact .inr ⟨h, h2⟩
      · rename_i hc
        rw [List.mem_cons]
        constructor
        · rintro (h | h)
          · exact .inl h
          · exact .inr ⟨.inr h.1, h.2⟩
        · rintro (h | ⟨rfl | h, h2⟩)
          · exact .inl h
          · exact absurd h2 hc
          · exact .inr ⟨h, h2⟩
  unfold fromL
  refine fLoop_says (es.length + 1) h1.1 (by have := news_le es (start.foldl (sStep within) []); omega) (fun s hs => ?_) (fun s0 h2 h3 => (hm start List.Pairwise.nil s0).2 (.inr ⟨h2, h3⟩))
  rcases (hm start List.Pairwise.nil s).1 hs with h | ⟨h2, h3⟩
  · cases h
  · exact ⟨s, h2, h3, [], rfl⟩
/-- What a state leads to, by the reference. -/
theorem from_rch {es : List Ed} {n : Nat} {al : List Int} (hes : ∀ x ∈ es, 0 ≤ x.f ∧ x.f < (n : Int) ∧ 0 ≤ x.t ∧ x.t < (n : Int)) (hal : ∀ x ∈ es, hasB al x.e = true) {i : Int} (h0 : 0 ≤ i) (h1 : i < (n : Int)) (t : Int) : t ∈ fromL es [i] (allL n) al ↔ RchC es i t := by
  rw [(fromL_says es [i] (allL n) al).2 t]
  constructor
  · rintro ⟨s0, hs0, _, u, hu⟩
    rw [List.mem_singleton.1 hs0] at hu
    have key : ∀ (u : List Int) (s : Int), Leads es (fPerm (allL n) al) s u t → RchC es s t := by
      intro u
      induction u with
      | nil => intro s h; rw [show s = t from h]; exact .refl _
      | cons e u ih =>
        rintro s ⟨x, hx, hf, _, _, hr⟩
        rw [← hf]
        exact .step hx (ih _ hr)
    exact key u i hu
  · intro h
    have key : ∀ {a b : Int}, RchC es a b → ∃ u, Leads es (fPerm (allL n) al) a u b := by
      intro a b h
      induction h with
      | refl s => exact ⟨[], rfl⟩
      | @step x b hx _ ih =>
        obtain ⟨u, hu⟩ := ih
        exact ⟨x.e :: u, x, hx, rfl, rfl, fPerm_true.2 ⟨allL_has (hes x hx).2.2.1 (hes x hx).2.2.2, hal x hx⟩, hu⟩
    obtain ⟨u, hu⟩ := key h
    exact ⟨i, List.mem_singleton.2 rfl, allL_has h0 h1, u, hu⟩
/-- A state that state i leads to is looked at. -/
def rcIn (es : List Ed) (n : Nat) (al : List Int) (i : Int) (S : List Int × List Int) (t : Int) : List Int × List Int :=
  if hasB (fromL es [t] (allL n) al) i = true then (addL S.1 t, addL S.2 t) else S
def rcStep (es : List Ed) (n : Nat) (al : List Int) (S : List (List Int) × List Int) (i : Nat) : List (List Int) × List Int :=
  if hasB S.2 i = true then S else (S.1 ++ [((fromL es [(i : Int)] (allL n) al).foldl (rcIn es n al i) ([], S.2)).1], ((fromL es [(i : Int)] (allL n) al).foldl (rcIn es n al i) ([], S.2)).2)
/-- The reference's Components. -/
def rcompF (es : List Ed) (n : Nat) (al : List Int) : List (List Int) := ((List.range n).foldl (rcStep es n al) ([], [])).1
theorem rcIn_fold {es : List Ed} {n : Nat} {al : List Int} {i : Int} : ∀ (l : List Int) (S : List Int × List Int), Inc S.1 → Inc S.2 →
    Inc (l.foldl (rcIn es n al i) S).1 ∧ Inc (l.foldl (rcIn es n al i) S).2 ∧ (∀ t, t ∈ (l.foldl (rcIn es n al i) S).1 ↔ t ∈ S.1 ∨ (t ∈ l ∧ hasB (fromL es [t] (allL n) al) i = true)) ∧ (∀ t, t ∈ (l.foldl (rcIn es n al i) S).2 ↔ t ∈ S.2 ∨ (t ∈ l ∧ hasB (fromL es [t] (allL n) al) i = true))
  | [], S, h, h' => ⟨h, h', fun t => by simp, fun t => by simp⟩
  | s :: l, S, h, h' => by
    rw [List.foldl_cons]
    unfold rcIn
    by_cases hc : hasB (fromL es [s] (allL n) al) i = true
    · rw [if_pos hc]
      obtain ⟨h1, h2, h3, h4⟩ := rcIn_fold (es := es) (n := n) (al := al) (i := i) l (addL S.1 s, addL S.2 s) (addL_inc h s) (addL_inc h' s)
      refine ⟨h1, h2, fun t => (h3 t).trans ?_, fun t => (h4 t).trans ?_⟩
      · rw [addL_mem h s t, List.mem_cons]
        constructor
        · rintro ((h5 | h5) | h5)
          · exact .inl h5
          · exact .inr ⟨.inl h5, by rw [h5]; exact hc⟩
          · exact .inr ⟨.inr h5.1, h5.2⟩
        · rintro (h5 | ⟨h5 | h5, h6⟩)
          · exact .inl (.inl h5)
          · exact .inl (.inr h5)
          · exact .inr ⟨h5, h6⟩
      · rw [addL_mem h' s t, List.mem_cons]
        constructor
        · rintro ((h5 | h5) | h5)
          · exact .inl h5
          · exact .inr ⟨.inl h5, by rw [h5]; exact hc⟩
          · exact .inr ⟨.inr h5.1, h5.2⟩
        · rintro (h5 | ⟨h5 | h5, h6⟩)
          · exact .inl (.inl h5)
          · exact .inl (.inr h5)
          · exact .inr ⟨h5, h6⟩
    · rw [if_neg hc]
      obtain ⟨h1, h2, h3, h4⟩ := rcIn_fold (es := es) (n := n) (al := al) (i := i) l S h h'
      have key : ∀ t, (t ∈ l ∧ hasB (fromL es [t] (allL n) al) i = true) ↔ (t ∈ s :: l ∧ hasB (fromL es [t] (allL n) al) i = true) := fun t => by
        rw [List.mem_cons]
        constructor
        · rintro ⟨h5, h6⟩; exact ⟨.inr h5, h6⟩
        · rintro ⟨h5 | h5, h6⟩
          · rw [h5] at h6; exact absurd h6 hc
          · exact ⟨h5, h6⟩
      exact ⟨h1, h2, fun t => (h3 t).trans (by rw [key t]), fun t => (h4 t).trans (by rw [key t])⟩
theorem rcomp_fold {es : List Ed} {n : Nat} {al : List Int} (hes : ∀ x ∈ es, 0 ≤ x.f ∧ x.f < (n : Int) ∧ 0 ≤ x.t ∧ x.t < (n : Int)) (hal : ∀ x ∈ es, hasB al x.e = true) : ∀ k, k ≤ n →
    Inc ((List.range k).foldl (rcStep es n al) ([], [])).2 ∧ (∀ t, t ∈ ((List.range k).foldl (rcStep es n al) ([], [])).2 ↔ ∃ C ∈ ((List.range k).foldl (rcStep es n al) ([], [])).1, t ∈ C) ∧
    (∀ C ∈ ((List.range k).foldl (rcStep es n al) ([], [])).1, Inc C ∧ IsScc es n C ∧ C.headD 0 < (k : Int)) ∧ (∀ t, t < k → (t : Int) ∈ ((List.range k).foldl (rcStep es n al) ([], [])).2) ∧ ((List.range k).foldl (rcStep es n al) ([], [])).1.Pairwise (fun C D => C.headD 0 < D.headD 0)
  | 0, _ => ⟨List.Pairwise.nil, fun t => by simp, fun C hC => (by cases hC), fun t ht => absurd ht (Nat.not_lt_zero _), List.Pairwise.nil⟩
  | k + 1, hk => by
    obtain ⟨h1, h2, h3, h4, h5⟩ := rcomp_fold hes hal k (by omega)
    rw [List.range_succ, List.foldl_append]
    simp only [List.foldl_cons, List.foldl_nil]
    generalize (List.range k).foldl (rcStep es n al) ([], []) = S at *
    unfold rcStep
    by_cases hd : hasB S.2 k = true
    · rw [if_pos hd]
      refine ⟨h1, h2, fun C hC => ⟨(h3 C hC).1, (h3 C hC).2.1, by have := (h3 C hC).2.2; omega⟩, fun t ht => ?_, h5⟩
      by_cases e : t = k
      · subst e; exact hasB_true.1 hd
      · exact h4 t (by omega)
    · rw [if_neg hd]
      have hkn : (k : Int) < (n : Int) := by omega
      obtain ⟨g1, g2, g3, g4⟩ := rcIn_fold (es := es) (n := n) (al := al) (i := (k : Int)) (fromL es [(k : Int)] (allL n) al) ([], S.2) List.Pairwise.nil h1
      have hfr := from_rch hes hal (i := (k : Int)) (by omega) hkn
      have hrng : ∀ t, RchC es (k : Int) t → 0 ≤ t ∧ t < (n : Int) := fun t h => h.rng (fun x hx => (hes x hx).2.2) ⟨by omega, hkn⟩
      have hcls : ∀ t, (t ∈ fromL es [(k : Int)] (allL n) al ∧ hasB (fromL es [t] (allL n) al) (k : Int) = true) ↔ Scc es t (k : Int) := by
        intro t
        rw [hfr t, hasB_true]
        constructor
        · rintro ⟨h6, h7⟩
          have hr := hrng t h6
          exact ⟨(from_rch hes hal hr.1 hr.2 _).1 h7, h6⟩
        · rintro ⟨h6, h7⟩
          have hr := hrng t h7
          exact ⟨h7, (from_rch hes hal hr.1 hr.2 _).2 h6⟩
      have hC : ∀ t, t ∈ ((fromL es [(k : Int)] (allL n) al).foldl (rcIn es n al (k : Int)) ([], S.2)).1 ↔ Scc es t (k : Int) := fun t => by
        rw [g3 t, hcls t]; simp
      have hD : ∀ t, t ∈ ((fromL es [(k : Int)] (allL n) al).foldl (rcIn es n al (k : Int)) ([], S.2)).2 ↔ t ∈ S.2 ∨ Scc es t (k : Int) := fun t => by
        rw [g4 t, hcls t]
      generalize (fromL es [(k : Int)] (allL n) al).foldl (rcIn es n al (k : Int)) ([], S.2) = T at *
      have hkC : (k : Int) ∈ T.1 := (hC _).2 (Scc.refl _ _)
      have hge : ∀ t ∈ T.1, (k : Int) ≤ t := by
        intro t ht
        rcases Int.lt_or_le t (k : Int) with h6 | h6
        · exfalso
          have hs := (hC t).1 ht
          have hr := hrng t hs.2
          obtain ⟨m, rfl⟩ := Int.eq_ofNat_of_zero_le hr.1
          obtain ⟨C, hCm, htC⟩ := (h2 _).1 (h4 m (by omega))
          obtain ⟨r, _, hr2⟩ := (h3 C hCm).2.1.ex
          have h7 := (hr2 _ hr.1 hr.2).1 htC
          have h8 := (hr2 (k : Int) (by omega) hkn).2 (hs.symm.trans h7)
          exact hd (hasB_true.2 ((h2 _).2 ⟨C, hCm, h8⟩))
        · exact h6
      have hhead : T.1.headD 0 = (k : Int) := by
        have h6 := inc_head g1 hkC
        have h7 := hge _ h6.1
        omega
      refine ⟨g2, fun t => ?_, fun C hCm => ?_, fun t ht => ?_, ?_⟩
      · rw [hD t, h2 t]
        constructor
        · rintro (⟨C, hCm, htC⟩ | h6)
          · exact ⟨C, List.mem_append_left _ hCm, htC⟩
          · exact ⟨T.1, List.mem_append_right _ (List.mem_singleton.2 rfl), (hC t).2 h6⟩
        · rintro ⟨C, hCm, htC⟩
          rcases List.mem_append.1 hCm with h6 | h6
          · exact .inl ⟨C, h6, htC⟩
          · rw [List.mem_singleton.1 h6] at htC; exact .inr ((hC t).1 htC)
      · rcases List.mem_append.1 hCm with h6 | h6
        · exact ⟨(h3 C h6).1, (h3 C h6).2.1, by have := (h3 C h6).2.2; omega⟩
        · rw [List.mem_singleton.1 h6]
          refine ⟨g1, ⟨List.Pairwise.imp (fun {a b} (h : a < b) => by omega) g1, fun t ht => hrng t ((hC t).1 ht).2, (k : Int), hkC, fun t _ _ => hC t⟩, by rw [hhead]; omega⟩
      · by_cases e : t = k
        · subst e; exact (hD _).2 (.inr (Scc.refl _ _))
        · exact (hD _).2 (.inl (h4 t (by omega)))
      · rw [List.pairwise_append]
        refine ⟨h5, List.pairwise_singleton _ _, fun C hCm E hE => ?_⟩
        rw [List.mem_singleton.1 hE, hhead]
        exact (h3 C hCm).2.2
/-- The reference's Components. -/
theorem rcomp_says {es : List Ed} {n : Nat} {al : List Int} (hes : ∀ x ∈ es, 0 ≤ x.f ∧ x.f < (n : Int) ∧ 0 ≤ x.t ∧ x.t < (n : Int)) (hal : ∀ x ∈ es, hasB al x.e = true) : CompSpec es n (rcompF es n al) := by
  obtain ⟨_, h2, h3, h4, h5⟩ := rcomp_fold hes hal n (Nat.le_refl _)
  refine ⟨fun C hC => (h3 C hC).1, fun C hC => (h3 C hC).2.1, fun t h0 h1 => ?_, h5⟩
  have := h4 t.toNat (by omega)
  rw [Int.toNat_of_nonneg h0] at this
  exact (h2 t).1 this
end Go.Proofs.Ythchkddhibhenaa

namespace Go.Proofs.Ythchkddhibhenaa
open Go Go.RowKit
theorem outE_eq {a : AutT} (q : Nat) : (a.2.2.2.filter fun x => x.1 == (q : Int)).map toEd = outE (edsOf a) (q : Int) := by
  unfold outE edsOf
  rw [List.filter_map]
  congr 1
/-- A place of the program's stack, as one of the law's. -/
def stkOf (a : AutT) (F : Nat → Nat) (p : Int × Int) : Int × List Ed := (p.1, ((a.2.2.2.take (F (p.1.toNat + 1))).drop p.2.toNat).map toEd)
theorem finish_sim {a : AutT} {n : Nat} (hr : Right a n) {fs : List Int} {F : Nat → Nat} (hF : FsOk a n fs F) : ∀ (f : Nat) (st : Stk) (seen : List Bool) (ord : List Int) (T : List (Int × Int)), T.reverse.map (stkOf a F) = st → (∀ p ∈ T, 0 ≤ p.1 ∧ p.1 < (n : Int) ∧ (F p.1.toNat : Int) ≤ p.2 ∧ p.2 ≤ (F (p.1.toNat + 1) : Int)) → FIC (edsOf a) n st seen ord → leftL (edsOf a) n st seen ≤ f →
    iterF (m_reach_graph_finish_l1 (a, fs)) (f + 1) (seen, T, ord) = some ((dfsL (edsOf a) f st seen ord).2, (dfsL (edsOf a) f st seen ord).1) := by
  intro f
  induction f with
  | zero =>
    intro st seen ord T hT hp hI hf
    rcases List.eq_nil_or_concat T with rfl | ⟨T0, p, rfl⟩
    · simp only [List.reverse_nil, List.map_nil] at hT
      subst hT
      rw [iterF_succ, m_reach_graph_finish_l1]
      rfl
    · rw [List.concat_eq_append, List.reverse_append, List.map_append] at hT
      subst hT
      unfold leftL at hf
      simp at hf
  | succ f ih =>
    intro st seen ord T hT hp hI hf
    have hnl := hr.nl
    have hl3 := hr.l3
    rcases List.eq_nil_or_concat T with rfl | ⟨T0, p, rfl⟩
    · simp only [List.reverse_nil, List.map_nil] at hT
      subst hT
      rw [iterF_succ, m_reach_graph_finish_l1]
      rfl
    · rw [List.concat_eq_append] at hT hp ⊢
      obtain ⟨s', k'⟩ := p
      have hpp := hp (s', k') (by simp)
      dsimp only at hpp
      obtain ⟨i, rfl⟩ : ∃ i : Nat, s' = i := ⟨s'.toNat, by omega⟩
      obtain ⟨k, rfl⟩ : ∃ k : Nat, k' = k := ⟨k'.toNat, by omega⟩
      rw [Int.toNat_natCast] at hpp
      have hin : i < n := by omega
      have hmono := hF.mono i hin
      have hfl := hF.len
      rw [List.reverse_append, List.map_append] at hT
      have hT : (((i : Nat) : Int), ((a.2.2.2.take (F (i + 1))).drop k).map toEd) :: T0.reverse.map (stkOf a F) = st := hT
      have hlen := int_nodup_len hI.nd hI.rng
      rw [← hT] at hlen
      simp only [held, List.map_cons, List.length_append, List.length_cons, List.length_map, List.length_reverse] at hlen
      have hTl : ((T0 ++ [((i : Int), (k : Int))]).length : Int) - 1 = ((T0.length : Nat) : Int) := by simp
      have hidx : idx (T0 ++ [((i : Int), (k : Int))]) ((T0.length : Nat) : Int) = some ((i : Int), (k : Int)) := by
        rw [idx_at (by simp)]; simp
      have hp0 : ∀ p ∈ T0, 0 ≤ p.1 ∧ p.1 < (n : Int) ∧ (F p.1.toNat : Int) ≤ p.2 ∧ p.2 ≤ (F (p.1.toNat + 1) : Int) := fun p hp1 => hp p (List.mem_append_left _ hp1)
      rw [iterF_succ, m_reach_graph_finish_l1]
      dsimp only
      rw [if_pos (by simp), hTl, W_nat (by omega), hidx, Option.bind_some, nxt (by omega), idx_at (by omega), Option.bind_some, hF.val]
      by_cases hk : k = F (i + 1)
      · subst hk
        rw [if_pos (by simp), app_eq (by simp; omega), Option.bind_some, slc, if_pos ⟨by omega, by omega, by simp; omega⟩, Option.bind_some, Int.toNat_natCast]
        have hrem : ((a.2.2.2.take (F (i + 1))).drop (F (i + 1))).map toEd = [] := by
          rw [List.drop_eq_nil_of_le (by rw [List.length_take]; omega)]; rfl
        rw [hrem] at hT
        subst hT
        have hf2 : leftL (edsOf a) n (T0.reverse.map (stkOf a F)) seen ≤ f := by
          unfold leftL at hf ⊢
          rw [List.map_cons, List.sum_cons] at hf
          dsimp only at hf
          simp only [List.length_nil] at hf
          omega
        have h := ih _ seen (ord ++ [(i : Int)]) T0 rfl hp0 hI.pop hf2
        rw [dfsL]
        dsimp only
        rw [show (T0 ++ [((i : Int), ((F (i + 1) : Nat) : Int))]).take T0.length = T0 by simp]
        exact h
      · have hkl : k < F (i + 1) := by omega
        have hkL : k < a.2.2.2.length := by omega
        rw [if_neg (by simp; omega), idx_at hkL, Option.bind_some]
        obtain ⟨y, hy⟩ : ∃ y, a.2.2.2[k] = y := ⟨_, rfl⟩
        have hyr := hr.es y (hy ▸ List.getElem_mem hkL)
        obtain ⟨t, ht⟩ : ∃ t : Nat, y.2.2 = t := ⟨y.2.2.toNat, by omega⟩
        have htn : t < n := by omega
        have hrem : (a.2.2.2.take (F (i + 1))).drop k = y :: (a.2.2.2.take (F (i + 1))).drop (k + 1) := by
          rw [List.drop_eq_getElem_cons (by rw [List.length_take]; omega), List.getElem_take, hy]
        rw [hrem, List.map_cons] at hT
        subst hT
        have hsl := hI.len
        have hx := hI.own _ (List.mem_cons_self ..) (toEd y) (List.mem_cons_self ..)
        have hs := hI.seen (y.2.2) hyr.2.2.1 hyr.2.2.2.1
        have hm : leftL (edsOf a) n (((i : Int), toEd y :: ((a.2.2.2.take (F (i + 1))).drop (k + 1)).map toEd) :: T0.reverse.map (stkOf a F)) seen = leftL (edsOf a) n (((i : Int), ((a.2.2.2.take (F (i + 1))).drop (k + 1)).map toEd) :: T0.reverse.map (stkOf a F)) seen + 1 := by
          unfold leftL
          rw [List.map_cons, List.sum_cons, List.map_cons, List.sum_cons]
          dsimp only
          rw [List.length_cons]
          omega
        have hupd : upd (T0 ++ [((i : Int), (k : Int))]) ((T0.length : Nat) : Int) ((i : Int), ((k + 1 : Nat) : Int)) = some (T0 ++ [((i : Int), ((k + 1 : Nat) : Int))]) := by
          rw [upd_at (by simp), List.set_append_right _ _ (Nat.le_refl _), Nat.sub_self]; rfl
        have hp1 : ∀ p ∈ T0 ++ [((i : Int), ((k + 1 : Nat) : Int))], 0 ≤ p.1 ∧ p.1 < (n : Int) ∧ (F p.1.toNat : Int) ≤ p.2 ∧ p.2 ≤ (F (p.1.toNat + 1) : Int) := fun p hp2 => by
          rcases List.mem_append.1 hp2 with h | h
          · exact hp0 p h
          · rw [List.mem_singleton.1 h]
            dsimp only
            rw [Int.toNat_natCast]
            omega
        have hst : (T0 ++ [((i : Int), ((k + 1 : Nat) : Int))]).reverse.map (stkOf a F) = ((i : Int), ((a.2.2.2.take (F (i + 1))).drop (k + 1)).map toEd) :: T0.reverse.map (stkOf a F) := by
          rw [List.reverse_append, List.map_append]; rfl
        rw [hy, nxt (by omega), hupd, Option.bind_some, ht, idx_at (by omega), Option.bind_some, dfsL]
        have hgd : seen.getD (toEd y).t.toNat false = seen[t] := by
          show seen.getD y.2.2.toNat false = _
          rw [ht, Int.toNat_natCast, List.getD_eq_getElem?_getD, List.getElem?_eq_getElem (by omega)]; rfl
        rw [hgd]
        cases hb : seen[t] with
        | true =>
          have hg : Gd seen y.2.2 := by unfold Gd; rw [← hb, ← hgd]; rfl
          rw [if_neg (by simp), if_pos rfl]
          exact ih _ seen ord _ hst hp1 (hI.skip (hs.1 hg)) (by omega)
        | false =>
          have hg : ¬ Gd seen y.2.2 := by
            unfold Gd
            rw [show seen.getD y.2.2.toNat false = seen[t] from hgd, hb]; simp
          have hle := leftL_enter (es := edsOf a) (st := ((i : Int), ((a.2.2.2.take (F (i + 1))).drop (k + 1)).map toEd) :: T0.reverse.map (stkOf a F)) hI.len (t := y.2.2) hyr.2.2.1 hyr.2.2.2.1 (by have := hg; unfold Gd at this; simpa using this)
          have hmt := hF.mono t htn
          rw [if_pos (by simp), Option.bind_some, upd_at (by omega), Option.bind_some, idx_at (by omega), Option.bind_some, hF.val, app_eq (by simp; omega), Option.bind_some, if_neg (by simp)]
          have hst2 : (T0 ++ [((i : Int), ((k + 1 : Nat) : Int))] ++ [((t : Int), ((F t : Nat) : Int))]).reverse.map (stkOf a F) = ((toEd y).t, outE (edsOf a) (toEd y).t) :: ((i : Int), ((a.2.2.2.take (F (i + 1))).drop (k + 1)).map toEd) :: T0.reverse.map (stkOf a F) := by
            rw [List.reverse_append, List.map_append, hst]
            show stkOf a F ((t : Int), ((F t : Nat) : Int)) :: _ = _
            congr 1
            unfold stkOf
            dsimp only
            rw [Int.toNat_natCast, Int.toNat_natCast, hF.out t htn, outE_eq]
            show ((t : Int), outE (edsOf a) (t : Int)) = (y.2.2, outE (edsOf a) y.2.2)
            rw [ht]
          have hp2 : ∀ p ∈ T0 ++ [((i : Int), ((k + 1 : Nat) : Int))] ++ [((t : Int), ((F t : Nat) : Int))], 0 ≤ p.1 ∧ p.1 < (n : Int) ∧ (F p.1.toNat : Int) ≤ p.2 ∧ p.2 ≤ (F (p.1.toNat + 1) : Int) := fun p hp2 => by
            rcases List.mem_append.1 hp2 with h | h
            · exact hp1 p h
            · rw [List.mem_singleton.1 h]
              dsimp only
              rw [Int.toNat_natCast]
              omega
          have htt : (toEd y).t.toNat = t := by show y.2.2.toNat = t; omega
          have h := ih _ (seen.set t true) ord _ hst2 hp2 (by
            have := hI.push (x := toEd y) hyr.2.2.1 hyr.2.2.2.1 (fun e => hg (hs.2 e))
            rw [htt] at this
            exact this) (by
            rw [show (y.2.2).toNat = t by omega] at hle
            have : leftL (edsOf a) n (((toEd y).t, outE (edsOf a) (toEd y).t) :: ((i : Int), ((a.2.2.2.take (F (i + 1))).drop (k + 1)).map toEd) :: T0.reverse.map (stkOf a F)) (seen.set t true) + 1 = _ := hle
            omega)
          rw [htt]
          exact h
end Go.Proofs.Ythchkddhibhenaa

namespace Go.Proofs.Ythchkddhibhenaa
open Go Go.RowKit
theorem sum_le {g : Nat → Nat} {c : Nat} (hg : ∀ t, g t ≤ c) : ∀ n, ((List.range n).map g).sum ≤ n * c
  | 0 => by simp
  | n + 1 => by
    have := sum_le hg n
    have := hg n
    rw [List.range_succ, List.map_append, List.sum_append, Nat.succ_mul]
    simp
    omega
theorem leftL_le {es : List Ed} {n : Nat} {s : Int} {seen : List Bool} : leftL es n [(s, outE es s)] seen ≤ es.length + 1 + n * (es.length + 2) := by
  have h1 : ∀ u, (outE es u).length ≤ es.length := fun u => List.length_filter_le _ _
  have h2 := sum_le (g := fun t => if seen.getD t false = true then 0 else (outE es (t : Int)).length + 2) (c := es.length + 2) (fun t => by
    have := h1 (t : Int)
    split <;> omega) n
  have h3 := h1 s
  unfold leftL
  simp only [List.map_cons, List.map_nil, List.sum_cons, List.sum_nil]
  omega
theorem order_sim {a : AutT} {n : Nat} (hr : Right a n) {fs : List Int} {F : Nat → Nat} (hF : FsOk a n fs F) : iter (m_reach_Components_l1 a (a, fs)) (0, List.replicate n false, []) = some (orderF (edsOf a) n).2 := by
  have hnl := hr.nl
  have hl3 := hr.l3
  have hel : (edsOf a).length = a.2.2.2.length := List.length_map _
  have hes : ∀ x ∈ edsOf a, 0 ≤ x.t ∧ x.t < (n : Int) := fun x hx => (hr.ein x hx).2.2
  obtain ⟨o, h1, rfl⟩ := iter_inv (f := m_reach_Components_l1 a (a, fs)) (fun i s => i ≤ n ∧ s.1 = (i : Int) ∧ (s.2.1, s.2.2) = (List.range i).foldl (ordStep (edsOf a) n) (List.replicate n false, [])) (fun o => o = (orderF (edsOf a) n).2) n 0 (by omega) (fun i s hi ⟨_, e1, e2⟩ => by
      obtain ⟨k, seen, ord⟩ := s
      dsimp only at e1 e2
      subst e1
      obtain ⟨hI, _⟩ := order_fold hes i (by omega)
      rw [← e2] at hI
      dsimp only at hI
      have hsl := hI.len
      left
      have hfold : (List.range (i + 1)).foldl (ordStep (edsOf a) n) (List.replicate n false, []) = ordStep (edsOf a) n (seen, ord) i := by
        rw [List.range_succ, List.foldl_append, ← e2]; rfl
      have hgd : seen.getD i false = seen[i]'(by omega) := by rw [List.getD_eq_getElem?_getD, List.getElem?_eq_getElem (by omega)]; rfl
      rw [m_reach_Components_l1]
      dsimp only
      rw [hr.nn, if_pos (ct_lt hi), idx_at (by omega), Option.bind_some]
      cases hb : seen[i]'(by omega) with
      | true =>
        rw [if_neg (by simp), m_reach_Components_j2]
        refine ⟨_, rfl, by omega, by dsimp only; rw [nxt (by omega)], ?_⟩
        dsimp only
        rw [hfold, ordStep]
        dsimp only
        rw [hgd, hb, if_pos rfl]
      | false =>
        have hn : (i : Int) ∉ held [] ord := fun e => by
          have := (hI.seen (i : Int) (by omega) (by omega)).2 e
          unfold Gd at this
          rw [Int.toNat_natCast, hgd, hb] at this
          cases this
        have he := hI.enter (t := (i : Int)) (by omega) (by omega) hn (fun s hs => by cases hs)
        rw [Int.toNat_natCast] at he
        have hm := hF.mono i hi
        have hfl := hF.len
        have hst : [((i : Int), ((F i : Nat) : Int))].reverse.map (stkOf a F) = [((i : Int), outE (edsOf a) (i : Int))] := by
          show [stkOf a F ((i : Int), ((F i : Nat) : Int))] = _
          unfold stkOf
          dsimp only
          rw [Int.toNat_natCast, Int.toNat_natCast, hF.out i hi, outE_eq]
        have hle := leftL_le (es := edsOf a) (n := n) (s := (i : Int)) (seen := seen.set i true)
        have hmul := Nat.mul_le_mul hnl (show (edsOf a).length + 2 ≤ 1000002 by omega)
        have hsim := finish_sim hr hF _ _ (seen.set i true) ord [((i : Int), ((F i : Nat) : Int))] hst (fun p hp => by
          rw [List.mem_singleton.1 hp]
          dsimp only
          rw [Int.toNat_natCast]
          omega) he (Nat.le_refl _)
        have hit := iter_of (by omega) hsim
        obtain ⟨hE, _⟩ := dfs_says hes _ _ _ _ he (Nat.le_refl _)
        have hEl := hE.len
        have hfin : m_reach_graph_finish (a, fs) (i : Int) seen ord = some ((dfsL (edsOf a) (leftL (edsOf a) n [((i : Int), outE (edsOf a) (i : Int))] (seen.set i true)) [((i : Int), outE (edsOf a) (i : Int))] (seen.set i true) ord).2, (dfsL (edsOf a) (leftL (edsOf a) n [((i : Int), outE (edsOf a) (i : Int))] (seen.set i true)) [((i : Int), outE (edsOf a) (i : Int))] (seen.set i true) ord).1) := by
          rw [m_reach_graph_finish]
          dsimp only
          rw [idx_at (by omega), Option.bind_some, hF.val, idx_at (by omega), Option.bind_some, upd_at (by omega), Option.bind_some, hit]
          rfl
        rw [if_pos (by simp), hfin, Option.bind_some, lenEq]
        dsimp only
        rw [if_pos (by omega), Option.bind_some, m_reach_Components_j2]
        refine ⟨_, rfl, by omega, by dsimp only; rw [nxt (by omega)], ?_⟩
        dsimp only
        rw [hfold, ordStep]
        dsimp only
        rw [hgd, hb, if_neg (by simp)]) (fun s ⟨_, e1, e2⟩ => by
      obtain ⟨k, seen, ord⟩ := s
      dsimp only at e1 e2
      subst e1
      refine ⟨ord, ?_, ?_⟩
      · rw [m_reach_Components_l1]
        dsimp only
        rw [hr.nn, if_neg ct_ge]
      · unfold orderF
        rw [← e2]) (Nat.zero_le _) (0, List.replicate n false, []) ⟨Nat.zero_le _, rfl, rfl⟩
  exact h1
/-- The predecessors of each state. -/
structure IntoOk (a : AutT) (n : Nat) (L : List (List Int)) : Prop where
  len : L.length = n
  val : ∀ t (h : t < L.length), L[t] = preds (edsOf a) (t : Int)
theorem into_sim {a : AutT} {n : Nat} (hr : Right a n) : ∃ L, iter (m_reach_Components_l2 a) (0, List.replicate n []) = some L ∧ IntoOk a n L := by
  have hnl := hr.nl
  have hl3 := hr.l3
  obtain ⟨o, h1, h2, h3⟩ := iter_inv (f := m_reach_Components_l2 a) (fun i s => s.1 = (i : Int) ∧ s.2.length = n ∧ ∀ t (_ : t < s.2.length), s.2[t] = (((a.2.2.2.take i).filter fun x => decide (x.2.2 = (t : Int))).map fun x => x.1)) (fun o => o.length = n ∧ ∀ t (_ : t < o.length), o[t] = ((a.2.2.2.filter fun x => decide (x.2.2 = (t : Int))).map fun x => x.1)) a.2.2.2.length 0 (by omega) (fun i s hi ⟨e1, g1, g2⟩ => by
      obtain ⟨k, L⟩ := s
      dsimp only at e1 g1 g2
      subst e1
      have hx := hr.es _ (List.getElem_mem hi)
      obtain ⟨t, ht⟩ : ∃ t : Nat, a.2.2.2[i].2.2 = t := ⟨a.2.2.2[i].2.2.toNat, by omega⟩
      have htn : t < L.length := by omega
      have hlen : (L[t]'htn).length ≤ i := by
        rw [g2, List.length_map]
        exact Nat.le_trans (List.length_filter_le _ _) (by rw [List.length_take]; omega)
      refine .inl ⟨(((i + 1 : Nat) : Int), L.set t (L[t] ++ [a.2.2.2[i].1])), ?_, rfl, by simp [g1], fun u hu => ?_⟩
      · rw [m_reach_Components_l2]
        dsimp only
        rw [if_pos (ct_lt hi), idx_at hi, Option.bind_some, ht, idx_at htn, Option.bind_some, app_eq (by simp; omega), Option.bind_some, Option.bind_some, upd_at htn, Option.bind_some, nxt (by omega)]
      · have hu2 : u < L.length := by simpa using hu
        dsimp only
        rw [List.getElem_set, List.take_succ_eq_append_getElem hi, List.filter_append, List.map_append]
        by_cases h : t = u
        · subst h
          rw [if_pos rfl, g2, List.filter_cons_of_pos (by simp [ht])]
          rfl
        · rw [if_neg h, g2, List.filter_cons_of_neg (by simp [ht]; omega)]
          simp) (fun s ⟨e1, g1, g2⟩ => by
      obtain ⟨k, L⟩ := s
      dsimp only at e1 g1 g2
      subst e1
      refine ⟨L, ?_, g1, by rw [List.take_length] at g2; exact g2⟩
      rw [m_reach_Components_l2]
      dsimp only
      rw [if_neg ct_ge]) (Nat.zero_le _) (0, List.replicate n []) ⟨rfl, by simp, fun t ht => by simp⟩
  refine ⟨o, h1, h2, fun t ht => ?_⟩
  rw [h3 t ht]
  unfold preds edsOf
  rw [List.filter_map, List.map_map]
  rfl
/-- The classes as numbers and as flags. -/
structure ClsR (n : Nat) (cls : List Bool) (cl : List Int) : Prop where
  l1 : cls.length = n
  l2 : cl.length = n
  val : ∀ t (h : t < cls.length) (h2 : t < cl.length), 0 ≤ cl[t] ∧ (cl[t] = 0 ↔ cls[t] = false)
theorem ClsR.set {n : Nat} {cls : List Bool} {cl : List Int} (h : ClsR n cls cl) {t : Nat} {v : Int} (hv : 0 < v) : ClsR n (cls.set t true) (cl.set t v) := by
  refine ⟨by rw [List.length_set]; exact h.l1, by rw [List.length_set]; exact h.l2, fun u hu hu2 => ?_⟩
  rw [List.getElem_set, List.getElem_set]
  by_cases e : t = u
  · rw [if_pos e, if_pos e]; exact ⟨by omega, by simp; omega⟩
  · rw [if_neg e, if_neg e]; exact h.val u _ _
theorem grp_inner {a : AutT} {n : Nat} (hr : Right a n) {z : List Int × List (List Int)} (hz : z.2.length ≤ 1000000) {cls0 : List Bool} {root t : Int} {cls : List Bool} {G : List Int} {cl : List Int} (hG : GrpI (edsOf a) n cls0 root (cls, G)) (ht : t ∈ G) (hC : ClsR n cls cl) :
    ∃ cl', iter (m_reach_Components_l5 z (preds (edsOf a) t)) (0, G, cl) = some (((preds (edsOf a) t).foldl grpStep (cls, G)).2, cl') ∧ ClsR n ((preds (edsOf a) t).foldl grpStep (cls, G)).1 cl' := by
  have hnl := hr.nl
  have hl3 := hr.l3
  have hef : ∀ x ∈ edsOf a, 0 ≤ x.f ∧ x.f < (n : Int) := fun x hx => ⟨(hr.ein x hx).1, (hr.ein x hx).2.1⟩
  obtain ⟨es, hes⟩ : ∃ es, es = (edsOf a).filter fun x => decide (x.t = t) := ⟨_, rfl⟩
  have hps : preds (edsOf a) t = es.map Ed.f := by rw [hes]; rfl
  have hmem : ∀ x ∈ es, x ∈ edsOf a ∧ x.t = t := fun x hx => by
    rw [hes] at hx
    have := List.mem_filter.1 hx
    exact ⟨this.1, by simpa using this.2⟩
  have hel : es.length ≤ 1000000 := by
    rw [hes]
    exact Nat.le_trans (List.length_filter_le _ _) (by unfold edsOf; rw [List.length_map]; exact hl3)
  rw [hps]
  obtain ⟨o, h1, h2, h3⟩ := iter_inv (f := m_reach_Components_l5 z (es.map Ed.f)) (fun j s => j ≤ es.length ∧ s.1 = (j : Int) ∧ s.2.1 = (((es.take j).map Ed.f).foldl grpStep (cls, G)).2 ∧ ClsR n (((es.take j).map Ed.f).foldl grpStep (cls, G)).1 s.2.2) (fun o => o.1 = ((es.map Ed.f).foldl grpStep (cls, G)).2 ∧ ClsR n ((es.map Ed.f).foldl grpStep (cls, G)).1 o.2) es.length 0 (by omega) (fun j s hj ⟨_, e1, e2, e3⟩ => by
      obtain ⟨k, g, c⟩ := s
      dsimp only at e1 e2 e3
      subst e1
      obtain ⟨hI, _⟩ := grp_fold hef (es.take j) (cls, G) hG ht (fun x hx => hmem x (List.mem_of_mem_take hx))
      rw [List.take_succ_eq_append_getElem hj, List.map_append, List.foldl_append]
      have hx := hef _ (hmem _ (List.getElem_mem hj)).1
      obtain ⟨u, hu⟩ : ∃ u : Nat, es[j].f = u := ⟨es[j].f.toNat, by omega⟩
      generalize ((es.take j).map Ed.f).foldl grpStep (cls, G) = S at e2 e3 hI ⊢
      obtain ⟨S1, S2⟩ := S
      dsimp only at e2 e3
      subst e2
      have hgl := int_nodup_len hI.nd hI.rng
      dsimp only at hgl
      have hc1 := e3.l1
      have hc2 := e3.l2
      have hval := e3.val u (by omega) (by omega)
      have hgd : S1.getD u false = S1[u]'(by omega) := by rw [List.getD_eq_getElem?_getD, List.getElem?_eq_getElem (by omega)]; rfl
      have hstep : List.foldl grpStep (S1, g) (List.map Ed.f [es[j]]) = if S1[u]'(by omega) = true then (S1, g) else (S1.set u true, g ++ [(u : Int)]) := by
        show grpStep (S1, g) es[j].f = _
        unfold grpStep
        rw [hu, Int.toNat_natCast, hgd]
      left
      rw [m_reach_Components_l5]
      dsimp only
      rw [if_pos (by simp; omega), idx_at (by simpa using hj), Option.bind_some, List.getElem_map, hu, idx_at (by omega), Option.bind_some, hstep]
      cases hb : S1[u]'(by omega) with
      | true =>
        rw [if_neg (by simp; intro e; have := hval.2.1 e; rw [hb] at this; cases this), m_reach_Components_j1, if_pos rfl]
        exact ⟨_, rfl, by omega, by dsimp only; rw [nxt (by omega)], rfl, e3⟩
      | false =>
        have hv : (z.2.length : Int) + 1 = ((z.2.length + 1 : Nat) : Int) := by omega
        rw [if_pos (by rw [hval.2.2 hb]; rfl), Option.bind_some, hv, W_nat (by omega), upd_at (by omega), Option.bind_some, app_eq (by simp; omega), Option.bind_some, m_reach_Components_j1, if_neg (by simp)]
        exact ⟨_, rfl, by omega, by dsimp only; rw [nxt (by omega)], rfl, e3.set (by omega)⟩) (fun s ⟨_, e1, e2, e3⟩ => by
      obtain ⟨k, g, c⟩ := s
      dsimp only at e1 e2 e3
      subst e1
      rw [List.take_length] at e2 e3
      refine ⟨(g, c), ?_, e2, e3⟩
      rw [m_reach_Components_l5]
      dsimp only
      rw [if_neg (by simp)]) (Nat.zero_le _) (0, G, cl) ⟨Nat.zero_le _, rfl, rfl, hC⟩
  obtain ⟨o1, o2⟩ := o
  dsimp only at h2 h3
  exact ⟨o2, by rw [h1, h2], h3⟩
theorem grp_sim {a : AutT} {n : Nat} (hr : Right a n) {L : List (List Int)} (hL : IntoOk a n L) {z : List Int × List (List Int)} (hz : z.2.length ≤ 1000000) {cls0 : List Bool} {root : Int} : ∀ (f i : Nat) (cls : List Bool) (G cl : List Int), GrpI (edsOf a) n cls0 root (cls, G) → ClsR n cls cl → n + 1 ≤ i + f → i ≤ n + 1 →
    ∃ cl', iterF (m_reach_Components_l4 L z) (f + 1) ((i : Int), G, cl) = some ((grpLoop (edsOf a) f i (cls, G)).2, cl') ∧ ClsR n (grpLoop (edsOf a) f i (cls, G)).1 cl' := by
  have hnl := hr.nl
  intro f
  induction f with
  | zero =>
    intro i cls G cl hG hC hf hi
    have hgl := int_nodup_len hG.nd hG.rng
    dsimp only at hgl
    refine ⟨cl, ?_, hC⟩
    rw [iterF_succ, m_reach_Components_l4]
    dsimp only
    rw [if_neg (by simp; omega)]
    rfl
  | succ f ih =>
    intro i cls G cl hG hC hf hi
    have hgl := int_nodup_len hG.nd hG.rng
    dsimp only at hgl
    rw [iterF_succ, m_reach_Components_l4, grpLoop]
    dsimp only
    by_cases hlt : i < G.length
    · have hg : G.getD i 0 = G[i] := by rw [List.getD_eq_getElem?_getD, List.getElem?_eq_getElem hlt]; rfl
      have hm := hG.rng _ (List.getElem_mem hlt)
      obtain ⟨t, ht⟩ : ∃ t : Nat, G[i] = t := ⟨G[i].toNat, by omega⟩
      have hLl := hL.len
      obtain ⟨cl1, g1, g2⟩ := grp_inner hr hz (t := G[i]) hG (List.getElem_mem hlt) hC
      have hG1 : GrpI (edsOf a) n cls0 root ((preds (edsOf a) G[i]).foldl grpStep (cls, G)) := (grp_fold (fun x hx => ⟨(hr.ein x hx).1, (hr.ein x hx).2.1⟩) ((edsOf a).filter fun x => decide (x.t = G[i])) (cls, G) hG (List.getElem_mem hlt) (fun x hx => by
        have := List.mem_filter.1 hx
        exact ⟨this.1, by simpa using this.2⟩)).1
      rw [if_pos (ct_lt hlt), idx_at hlt, Option.bind_some, ht, idx_at (by omega), Option.bind_some, hL.val, ← ht, g1, Option.bind_some, if_pos hlt, hg]
      generalize (preds (edsOf a) G[i]).foldl grpStep (cls, G) = S at g2 hG1
      obtain ⟨S1, S2⟩ := S
      obtain ⟨cl2, g3, g4⟩ := ih (i + 1) S1 S2 cl1 hG1 g2 (by omega) (by omega)
      refine ⟨cl2, ?_, g4⟩
      dsimp only
      rw [nxt (by omega)]
      exact g3
    · rw [if_neg (by simp; omega), if_neg hlt]
      exact ⟨cl, rfl, hC⟩
end Go.Proofs.Ythchkddhibhenaa

namespace Go.Proofs.Ythchkddhibhenaa
open Go Go.RowKit
def srt (l : List Int) : List Int := l.mergeSort fun x y => decide (x ≤ y)
theorem srt_mem {l : List Int} {x : Int} : x ∈ srt l ↔ x ∈ l := List.mem_mergeSort
theorem srt_inc {l : List Int} (h : l.Nodup) : Inc (srt l) := by
  have h1 : (srt l).Pairwise fun x y => decide (x ≤ y) = true := List.pairwise_mergeSort (fun a b c h1 h2 => by simp at *; omega) (fun a b => by simp; omega) l
  have h2 : (srt l).Nodup := (List.mergeSort_perm l _).nodup_iff.2 h
  exact (h1.and h2).imp fun {x y} h => by
    have h3 := h.1
    have h4 := h.2
    simp at h3
    omega
theorem range_sim {a : AutT} {n : Nat} (hr : Right a n) {L : List (List Int)} (hL : IntoOk a n L) {r : List (Int × Int)} (hrl : r.length = (orderF (edsOf a) n).2.length) (hrg : ∀ k, k < (orderF (edsOf a) n).2.length → (r.getD k (0, 0)).2 = (orderF (edsOf a) n).2.reverse.getD k 0) :
    ∃ cl, rngF (fun k => m_reach_Components_l3 L (r.getD k (0, 0))) r.length 0 (List.replicate n 0, []) = some (cl, (compF (edsOf a) n).map srt) := by
  have hnl := hr.nl
  have hes : ∀ x ∈ edsOf a, 0 ≤ x.f ∧ x.f < (n : Int) ∧ 0 ≤ x.t ∧ x.t < (n : Int) := hr.ein
  obtain ⟨ho1, ho2, ho3⟩ := order_says (fun x hx => (hes x hx).2.2)
  have hLa : ∀ t, 0 ≤ t → t < (n : Int) → t ∈ (orderF (edsOf a) n).2 := fun t h0 h4 => by
    have := ho3 t.toNat (by omega)
    rwa [Int.toNat_of_nonneg h0] at this
  have hOl := int_nodup_len ho1.nd ho2
  have hcf : compF (edsOf a) n = ((orderF (edsOf a) n).2.reverse.foldl (cmpStep (edsOf a) n) (List.replicate n false, [])).2 := rfl
  have hfold := comp_fold hes ho1 ho2 hLa
  rw [hcf]
  generalize (orderF (edsOf a) n).2 = O at *
  obtain ⟨o, h1, h2, h3, h4⟩ := rng_inv (f := fun k => m_reach_Components_l3 L (r.getD k (0, 0))) (fun k s => k ≤ O.length ∧ (ClsR n ((O.reverse.take k).foldl (cmpStep (edsOf a) n) (List.replicate n false, [])).1 s.1 ∧ s.2 = (((O.reverse.take k).foldl (cmpStep (edsOf a) n) (List.replicate n false, [])).2).map srt) ∧ s.2.length ≤ k) (N := r.length) (fun k s hk ⟨_, ⟨hC, hg⟩, hlen⟩ => by
      obtain ⟨cl, gs⟩ := s
      dsimp only at hC hg hlen ⊢
      have hk2 : k < O.length := by omega
      have hkr : k < O.reverse.length := by simpa using hk2
      obtain ⟨hI, _⟩ := hfold k (by omega)
      have hrt : (O.drop (O.length - k)).reverse = O.reverse.take k := by rw [List.take_reverse]
      rw [hrt] at hI
      have hO : O.reverse.getD k 0 = O.reverse[k] := by rw [List.getD_eq_getElem?_getD, List.getElem?_eq_getElem hkr]; rfl
      have hroot := ho2 (O.reverse[k]) (List.mem_reverse.1 (List.getElem_mem hkr))
      obtain ⟨u, hu⟩ : ∃ u : Nat, O.reverse[k] = u := ⟨(O.reverse[k]).toNat, by omega⟩
      have hru : (r.getD k (0, 0)).2 = (u : Int) := by rw [hrg k hk2, hO, hu]
      rw [List.take_succ_eq_append_getElem hkr, List.foldl_append, hu]
      generalize (O.reverse.take k).foldl (cmpStep (edsOf a) n) (List.replicate n false, []) = S at hC hg hI ⊢
      obtain ⟨cls, Gs⟩ := S
      dsimp only at hC hg
      have hc1 := hC.l1
      have hc2 := hC.l2
      have hval := hC.val u (by omega) (by omega)
      have hgd : cls.getD u false = cls[u]'(by omega) := by rw [List.getD_eq_getElem?_getD, List.getElem?_eq_getElem (by omega)]; rfl
      have hstep : List.foldl (cmpStep (edsOf a) n) (cls, Gs) [(u : Int)] = if cls[u]'(by omega) = true then (cls, Gs) else ((grpLoop (edsOf a) (n + 1) 0 (cls.set u true, [(u : Int)])).1, Gs ++ [(grpLoop (edsOf a) (n + 1) 0 (cls.set u true, [(u : Int)])).2]) := by
        show cmpStep (edsOf a) n (cls, Gs) (u : Int) = _
        unfold cmpStep
        dsimp only
        rw [Int.toNat_natCast, hgd]
      rw [m_reach_Components_l3]
      dsimp only
      rw [hru, idx_at (by omega), Option.bind_some, hstep]
      cases hb : cls[u]'(by omega) with
      | true =>
        have hne : ¬ cl[u]'(by omega) = 0 := fun e => by rw [hval.2.1 e] at hb; cases hb
        rw [if_pos (by simp; omega), if_pos rfl]
        exact ⟨_, rfl, by omega, ⟨hC, hg⟩, by dsimp only; omega⟩
      | false =>
        have hng : ¬ Gd cls (u : Int) := by unfold Gd; rw [Int.toNat_natCast, hgd, hb]; simp
        have h0 := grp_start (es := edsOf a) (fun x hx => ⟨(hes x hx).1, (hes x hx).2.1⟩) hI.len (root := (u : Int)) (by omega) (by omega) hng
        rw [Int.toNat_natCast] at h0
        have hv : (gs.length : Int) + 1 = ((gs.length + 1 : Nat) : Int) := by omega
        obtain ⟨cl2, g1, g2⟩ := grp_sim hr hL (z := (cl, gs)) (by dsimp only; omega) (n + 1) 0 (cls.set u true) [(u : Int)] (cl.set u ((gs.length + 1 : Nat) : Int)) h0 (hC.set (by omega)) (by omega) (by omega)
        have g1 := iter_of (by omega) g1
        obtain ⟨hE, _⟩ := grp_says (es := edsOf a) (fun x hx => ⟨(hes x hx).1, (hes x hx).2.1⟩) hI.len (root := (u : Int)) (by omega) (by omega) hng
        rw [Int.toNat_natCast] at hE
        dsimp only at hE
        have hgl := int_nodup_len hE.nd hE.rng
        rw [if_neg (by rw [hval.2.2 hb]; simp), Option.bind_some, hv, W_nat (by omega), upd_at (by omega), Option.bind_some]
        rw [show ((0 : Nat) : Int) = 0 from rfl] at g1
        rw [g1, Option.bind_some, m_slices_Sort_int]
        dsimp only
        rw [if_pos (by omega), Option.bind_some, lenEq, if_pos (by simp), Option.bind_some, app_eq (by simp; omega), Option.bind_some, if_neg (by simp)]
        exact ⟨_, rfl, by omega, ⟨g2, by dsimp only; rw [hg, List.map_append]; rfl⟩, by simp; omega⟩) r.length 0 (List.replicate n 0, []) (Nat.zero_add _) ⟨Nat.zero_le _, ⟨⟨by simp, by simp, fun t h h2 => by simp⟩, rfl⟩, Nat.le_refl _⟩
  obtain ⟨o1, o2⟩ := o
  rw [hrl, ← List.length_reverse, List.take_length] at h3
  dsimp only at h3
  exact ⟨o1, by rw [h1, h3.2]⟩
theorem map_get_finRange {α : Type} (l : List α) : (List.finRange l.length).map l.get = l := by
  apply List.ext_getElem
  · simp
  · intro i h1 h2
    simp
/-- What Components returns for a right automaton. -/
theorem comp_ex {a : AutT} {n : Nat} (hr : Right a n) : ∃ Cs, m_reach_Components a = some (Cs, 0) ∧ CompSpec (edsOf a) n Cs := by
  have hnl := hr.nl
  obtain ⟨fs, F, efs, hF⟩ := newGraph_full hr
  obtain ⟨L, eL, hL⟩ := into_sim hr
  have hes : ∀ x ∈ edsOf a, 0 ≤ x.f ∧ x.f < (n : Int) ∧ 0 ≤ x.t ∧ x.t < (n : Int) := hr.ein
  obtain ⟨ho1, ho2, ho3⟩ := order_says (fun x hx => (hes x hx).2.2)
  have hOl := int_nodup_len ho1.nd ho2
  obtain ⟨hs1, hs2, hs3⟩ := comp_says hes
  obtain ⟨r, er, hrl, hrg⟩ : ∃ r, m_slices_Backward_int (orderF (edsOf a) n).2 = some r ∧ r.length = (orderF (edsOf a) n).2.length ∧ ∀ k, k < (orderF (edsOf a) n).2.length → (r.getD k (0, 0)).2 = (orderF (edsOf a) n).2.reverse.getD k 0 := by
    refine ⟨_, if_pos (by omega), by simp, fun k hk => ?_⟩
    rw [List.getD_eq_getElem?_getD, List.getElem?_map, List.getElem?_range hk, List.getD_eq_getElem?_getD, List.getElem?_reverse hk]
    show (orderF (edsOf a) n).2.getD ((orderF (edsOf a) n).2.length - 1 - k) 0 = _
    rw [List.getD_eq_getElem?_getD]
  obtain ⟨cl, ecl⟩ := range_sim hr hL hrl hrg
  -- the groups before they are put in order
  have hne : ∀ G ∈ compF (edsOf a) n, srt G ≠ [] ∧ hd0 (srt G) ∈ G := fun G hG => by
    obtain ⟨t, ht⟩ := (hs1 G hG).ne
    have h1 : srt G ≠ [] := fun e => by have := srt_mem.2 ht; rw [e] at this; cases this
    refine ⟨h1, srt_mem.1 ?_⟩
    unfold hd0
    cases he : srt G with
    | nil => exact absurd he h1
    | cons x us => exact List.mem_cons_self
  have hlen : (compF (edsOf a) n).length ≤ n := by
    have h1 : ((compF (edsOf a) n).map fun G => hd0 (srt G)).Nodup := by
      unfold List.Nodup
      rw [List.pairwise_map]
      exact List.Pairwise.imp_of_mem (fun {G H} hG hH hd e => hd _ (hne G hG).2 (e ▸ (hne H hH).2)) hs2
    have := int_nodup_len (n := n) h1 (fun x hx => by
      obtain ⟨G, hG, rfl⟩ := List.mem_map.1 hx
      exact (hs1 G hG).rng _ (hne G hG).2)
    simpa using this
  obtain ⟨gs, hgs⟩ : ∃ gs, gs = (compF (edsOf a) n).map srt := ⟨_, rfl⟩
  rw [← hgs] at ecl
  have hgl : gs.length ≤ n := by rw [hgs, List.length_map]; exact hlen
  have hmem : ∀ g ∈ gs, ∃ G ∈ compF (edsOf a) n, g = srt G := fun g hg => by
    rw [hgs] at hg
    obtain ⟨G, hG, e⟩ := List.mem_map.1 hg
    exact ⟨G, hG, e.symm⟩
  have hnd : (gs.map hd0).Nodup := by
    rw [hgs, List.map_map]
    unfold List.Nodup
    rw [List.pairwise_map]
    exact List.Pairwise.imp_of_mem (fun {G H} hG hH hd e => hd _ (hne G hG).2 (by have e : hd0 (srt G) = hd0 (srt H) := e; exact e ▸ (hne H hH).2)) hs2
  obtain ⟨Cs, hCs⟩ : ∃ Cs, Cs = ((List.finRange gs.length).mergeSort fun x y => !decide (hd0 (gs.get y) - hd0 (gs.get x) < 0)).map gs.get := ⟨_, rfl⟩
  have hsort : m_slices_SortFunc_int gs = some Cs := by
    rw [hCs]
    refine if_pos ⟨fun g hg => ?_, hnd, by omega⟩
    obtain ⟨G, hG, rfl⟩ := hmem g hg
    have h1 := hne G hG
    have h2 := (hs1 G hG).rng _ h1.2
    exact ⟨h1.1, by omega, by omega⟩
  have hperm : Cs.Perm gs := by
    rw [hCs]
    have := (List.mergeSort_perm (List.finRange gs.length) fun x y => !decide (hd0 (gs.get y) - hd0 (gs.get x) < 0)).map gs.get
    rwa [map_get_finRange] at this
  have hord : Cs.Pairwise fun C D => C.headD 0 < D.headD 0 := by
    have h1 : Cs.Pairwise fun C D => hd0 C ≤ hd0 D := by
      rw [hCs, List.pairwise_map]
      refine (List.pairwise_mergeSort (fun a b c h1 h2 => ?_) (fun a b => ?_) (List.finRange gs.length)).imp fun {x y} h => ?_
      · simp at *; omega
      · simp; omega
      · simp at h ⊢; omega
    have h2 : (Cs.map hd0).Nodup := (hperm.map hd0).nodup_iff.2 hnd
    unfold List.Nodup at h2
    rw [List.pairwise_map] at h2
    exact (h1.and h2).imp fun {C D} h => by
      have h3 := h.1
      have h4 := h.2
      unfold hd0 at h3 h4
      omega
  refine ⟨Cs, ?_, compSpec_of hs1 hs3 (fun C hC => ?_) (fun G hG => ?_) hord⟩
  · rw [m_reach_Components, hr.check, Option.bind_some, if_neg (by simp), efs, Option.bind_some, hr.nn, mkL_eq (by omega) (by omega), Option.bind_some, Int.toNat_natCast, order_sim hr hF, Option.bind_some, mkL_eq (by omega) (by omega), Option.bind_some, Int.toNat_natCast, eL, Option.bind_some, mkL_eq (by omega) (by omega), Option.bind_some, Int.toNat_natCast, er, Option.bind_some, ecl, Option.bind_some, hsort, Option.bind_some]
    dsimp only
    rw [lenEq, if_pos hperm.length_eq]
    rfl
  · obtain ⟨G, hG, rfl⟩ := hmem C (hperm.mem_iff.1 hC)
    exact ⟨srt_inc (hs1 G hG).nd, G, hG, fun t => srt_mem⟩
  · exact ⟨srt G, hperm.mem_iff.2 (by rw [hgs]; exact List.mem_map_of_mem hG), fun t => srt_mem⟩
end Go.Proofs.Ythchkddhibhenaa

namespace Go.Proofs.Ythchkddhibhenaa
open Go Go.RowKit
theorem has_eq {xs : List Int} {x : Int} (hl : xs.length < 4611686018427387904) : m_overseerref04_has xs x = some (hasB xs x) := by
  have h : iter (m_overseerref04_has_l1 xs x) 0 = some (if hasB xs x = true then .inr () else .inl ()) := by
    obtain ⟨o, h1, rfl⟩ := iter_inv (f := m_overseerref04_has_l1 xs x) (fun i s => i ≤ xs.length ∧ s = (i : Int) ∧ hasB (xs.take i) x = false) (fun o => o = if hasB xs x = true then .inr () else .inl ()) xs.length 0 (by omega) (fun i s hi ⟨_, e1, e2⟩ => by
        subst e1
        rw [m_overseerref04_has_l1, if_pos (ct_lt hi), idx_at hi, Option.bind_some]
        by_cases h : xs[i] = x
        · right
          rw [if_pos (by simpa using h)]
          refine ⟨_, rfl, ?_⟩
          rw [if_pos (hasB_true.2 (h ▸ List.getElem_mem hi))]
        · left
          rw [if_neg (by simpa using h), nxt (by omega)]
          refine ⟨_, rfl, by omega, rfl, ?_⟩
          rw [List.take_succ_eq_append_getElem hi, hasB_false, List.mem_append, List.mem_singleton]
          rw [hasB_false] at e2
          rintro (h2 | h2)
          · exact e2 h2
          · exact h h2.symm) (fun s ⟨_, e1, e2⟩ => by
        subst e1
        rw [List.take_length] at e2
        refine ⟨_, ?_, rfl⟩
        rw [m_overseerref04_has_l1, if_neg ct_ge, if_neg (by rw [e2]; simp)]) (Nat.zero_le _) 0 ⟨Nat.zero_le _, rfl, by simp [hasB]⟩
    exact h1
  rw [m_overseerref04_has, h, Option.bind_some]
  cases hasB xs x <;> rfl
theorem add_eq {xs : List Int} {x : Int} (hl : xs.length ≤ 1000000) : m_overseerref04_add xs x = some (addL xs x) := by
  obtain ⟨o, h1, rfl⟩ := iter_inv (f := m_overseerref04_add_l1 xs x) (fun i s => i ≤ xs.length ∧ s = (i : Int) ∧ ∀ j, (h : j < i) → ∀ h2 : j < xs.length, xs[j] < x) (fun o => o = (atI xs x : Int)) xs.length 0 (by omega) (fun i s hi ⟨_, e1, e2⟩ => by
      subst e1
      rw [m_overseerref04_add_l1, if_pos (ct_lt hi), idx_at hi, Option.bind_some, Option.bind_some]
      by_cases h : xs[i] < x
      · left
        rw [if_pos (by simpa using h), nxt (by omega)]
        refine ⟨_, rfl, by omega, rfl, fun j hj hj2 => ?_⟩
        by_cases e : j = i
        · subst e; exact h
        · exact e2 j (by omega) hj2
      · right
        rw [if_neg (by simpa using h)]
        refine ⟨_, rfl, ?_⟩
        rw [atI_eq (by omega) (fun j hj => e2 j hj (by omega)) (fun _ => h)]) (fun s ⟨_, e1, e2⟩ => by
      subst e1
      refine ⟨_, ?_, rfl⟩
      rw [m_overseerref04_add_l1, if_neg ct_ge, Option.bind_some, if_neg (by simp), atI_eq (Nat.le_refl _) (fun j hj => e2 j hj hj) (fun h => absurd h (Nat.lt_irrefl _))]) (Nat.zero_le _) 0 ⟨Nat.zero_le _, rfl, fun j hj => absurd hj (Nat.not_lt_zero _)⟩
  have hle := atI_le xs x
  rw [m_overseerref04_add, h1, Option.bind_some, addL]
  have hb : (if decide (((atI xs x : Nat) : Int) < (xs.length : Int)) then (idx xs ((atI xs x : Nat) : Int)).bind fun x39 => some (x39 == x) else some false) = some (decide (xs[atI xs x]? = some x)) := by
    by_cases h : atI xs x < xs.length
    · rw [if_pos (ct_lt h), idx_at h, Option.bind_some, List.getElem?_eq_getElem h]
      congr 1
      rw [Bool.eq_iff_iff, beq_iff_eq, decide_eq_true_eq, Option.some.injEq]
    · rw [if_neg (by simp; omega), List.getElem?_eq_none (by omega)]
      rfl
  rw [hb, Option.bind_some]
  by_cases h : xs[atI xs x]? = some x
  · rw [if_pos (decide_eq_true h), if_pos h]
  · rw [if_neg (by simpa using h), if_neg h, slc, if_pos ⟨by omega, by omega, by omega⟩, Option.bind_some, app_eq (by simp; omega), Option.bind_some, app_eq (by simp; omega), Option.bind_some, slc, if_pos ⟨by omega, by omega, by omega⟩, Option.bind_some, app_eq (by simp; omega), Option.bind_some]
    simp
theorem all_eq {n : Nat} (hn : n ≤ 1000000) : m_overseerref04_All (n : Int) = some (allL n) := by
  obtain ⟨o, h1, rfl⟩ := iter_inv (f := m_overseerref04_All_l1 (n : Int)) (fun i s => i ≤ n ∧ s = ((i : Int), allL i)) (fun o => o = allL n) n 0 (by omega) (fun i s hi ⟨_, e1⟩ => by
      subst e1
      refine .inl ⟨(((i + 1 : Nat) : Int), allL (i + 1)), ?_, hi, rfl⟩
      rw [m_overseerref04_All_l1]
      dsimp only
      rw [if_pos (ct_lt hi), app_eq (by have := allL_len i; simp; omega), Option.bind_some, nxt (by omega), allL_succ]) (fun s ⟨_, e1⟩ => by
      subst e1
      refine ⟨_, ?_, rfl⟩
      rw [m_overseerref04_All_l1]
      dsimp only
      rw [if_neg ct_ge]) (Nat.zero_le _) (0, []) ⟨Nat.zero_le _, rfl⟩
  rw [m_overseerref04_All, h1]
  rfl
/-- A round of the reference's search: all edges are looked at. -/
theorem pass_eq {a : AutT} {within evs : List Int} (hw : within.length ≤ 1000000) (he : evs.length ≤ 1000000) (hl : a.2.2.2.length ≤ 100000) {o : List Int} (ho : Inc o) (hol : o.length + news (edsOf a) o ≤ 200000) :
    iter (m_overseerref04_From_l3 a within evs) (0, o) = some ((edsOf a).foldl (fStep within evs) o) := by
  have hel : (edsOf a).length = a.2.2.2.length := List.length_map _
  obtain ⟨r, h1, rfl⟩ := iter_inv (f := m_overseerref04_From_l3 a within evs) (fun i s => i ≤ (edsOf a).length ∧ s.1 = (i : Int) ∧ s.2 = ((edsOf a).take i).foldl (fStep within evs) o) (fun r => r = (edsOf a).foldl (fStep within evs) o) (edsOf a).length 0 (by omega) (fun i s hi ⟨_, e1, e2⟩ => by
      obtain ⟨k, u⟩ := s
      dsimp only at e1 e2
      subst e1
      have hi2 : i < a.2.2.2.length := by omega
      obtain ⟨f1, f2, f3⟩ := fFold_ok (es := edsOf a) (within := within) (evs := evs) ((edsOf a).take i) ho (fun x hx => List.mem_of_mem_take hx)
      rw [← e2] at f1 f2 f3
      have hul : u.length ≤ 200000 := by omega
      have hx : (edsOf a)[i] = toEd a.2.2.2[i] := by simp [edsOf]
      left
      rw [m_overseerref04_From_l3]
      dsimp only
      rw [if_pos (by simp; omega), idx_at hi2, Option.bind_some, has_eq (by omega), Option.bind_some]
      refine ⟨(((i + 1 : Nat) : Int), fStep within evs u (edsOf a)[i]), ?_, by omega, rfl, ?_⟩
      · rw [hx]
        unfold fStep
        show _ = some (Sum.inl (((i + 1 : Nat) : Int), if hasB u a.2.2.2[i].1 = true ∧ hasB within a.2.2.2[i].2.2 = true ∧ hasB evs a.2.2.2[i].2.1 = true then addL u a.2.2.2[i].2.2 else u))
        cases hasB u a.2.2.2[i].1 with
        | false =>
          rw [if_neg (by simp), Option.bind_some, if_neg (by simp), Option.bind_some, if_neg (by simp), m_overseerref04_From_j1, nxt (by omega), if_neg (by simp)]
        | true =>
          rw [if_pos rfl, has_eq (by omega), Option.bind_some, Option.bind_some]
          cases hasB within a.2.2.2[i].2.2 with
          | false => rw [if_neg (by simp), Option.bind_some, if_neg (by simp), m_overseerref04_From_j1, nxt (by omega), if_neg (by simp)]
          | true =>
            rw [if_pos rfl, has_eq (by omega), Option.bind_some, Option.bind_some]
            cases hasB evs a.2.2.2[i].2.1 with
            | false => rw [if_neg (by simp), m_overseerref04_From_j1, nxt (by omega), if_neg (by simp)]
            | true => rw [if_pos rfl, add_eq (by omega), Option.bind_some, m_overseerref04_From_j1, nxt (by omega), if_pos ⟨rfl, rfl, rfl⟩]
      · rw [List.take_succ_eq_append_getElem hi, List.foldl_append, ← e2]
        rfl) (fun s ⟨_, e1, e2⟩ => by
      obtain ⟨k, u⟩ := s
      dsimp only at e1 e2
      subst e1
      rw [List.take_length] at e2
      refine ⟨u, ?_, e2⟩
      rw [m_overseerref04_From_l3]
      dsimp only
      rw [hel, if_neg ct_ge]) (Nat.zero_le _) (0, o) ⟨Nat.zero_le _, rfl, rfl⟩
  exact h1
theorem rounds_eq {a : AutT} {within evs : List Int} (hw : within.length ≤ 1000000) (he : evs.length ≤ 1000000) (hl : a.2.2.2.length ≤ 100000) : ∀ (f : Nat) (k : Int) (o : List Int), Inc o → o.length + news (edsOf a) o ≤ 200000 → news (edsOf a) o < f → k ≠ (o.length : Int) →
    iterF (m_overseerref04_From_l2 a within evs) (f + 1) (k, o) = some (fLoop (edsOf a) within evs f o)
  | 0, _, _, _, _, h, _ => absurd h (Nat.not_lt_zero _)
  | f + 1, k, o, ho, hol, hn, hk => by
    obtain ⟨f1, f2, f3⟩ := fFold_ok (es := edsOf a) (within := within) (evs := evs) (edsOf a) ho (fun x hx => hx)
    rw [iterF_succ, m_overseerref04_From_l2]
    dsimp only
    rw [if_pos (by simpa using hk), pass_eq hw he hl ho hol, Option.bind_some, fLoop]
    generalize (edsOf a).foldl (fStep within evs) o = o1 at f1 f2 f3 ⊢
    by_cases h : o1.length = o.length
    · rw [if_pos h]
      dsimp only
      rw [iterF_succ, m_overseerref04_From_l2]
      dsimp only
      rw [if_neg (by rw [h]; simp)]
    · rw [if_neg h]
      exact rounds_eq hw he hl f _ o1 f1 (by omega) (by omega) (by omega)
theorem from_eq {a : AutT} {within evs : List Int} (hw : within.length ≤ 1000000) (he : evs.length ≤ 1000000) (hl : a.2.2.2.length ≤ 100000) (s : Int) : m_overseerref04_From a [s] within evs = some (fromL (edsOf a) [s] within evs) := by
  have hel : (edsOf a).length = a.2.2.2.length := List.length_map _
  have h1 : iter (m_overseerref04_From_l1 [s] within) (0, []) = some ([s].foldl (sStep within) []) := by
    obtain ⟨r, h1, rfl⟩ := iter_inv (f := m_overseerref04_From_l1 [s] within) (fun i t => i ≤ 1 ∧ t = ((i : Int), ([s].take i).foldl (sStep within) [])) (fun r => r = [s].foldl (sStep within) []) 1 0 (by omega) (fun i t hi ⟨_, e1⟩ => by
        obtain rfl : i = 0 := by omega
        subst e1
        refine .inl ⟨(1, [s].foldl (sStep within) []), ?_, by omega, rfl⟩
        rw [m_overseerref04_From_l1]
        show (if decide ((0 : Int) < (([s] : List Int).length : Int)) then (idx [s] 0).bind fun x206 => (m_overseerref04_has within x206).bind fun r208 => if r208 then (idx [s] 0).bind fun x211 => (m_overseerref04_add [] x211).bind fun r213 => m_overseerref04_From_j2 (0, []) r213 else m_overseerref04_From_j2 (0, []) [] else _) = some (Sum.inl (1, sStep within [] s))
        rw [if_pos (by simp), show idx [s] 0 = some s from rfl, Option.bind_some, has_eq (by omega), Option.bind_some]
        unfold sStep
        cases hasB within s with
        | true => rw [if_pos rfl, Option.bind_some, add_eq (by simp), Option.bind_some, m_overseerref04_From_j2, if_pos rfl]; rfl
        | false => rw [if_neg (by simp), m_overseerref04_From_j2, if_neg (by simp)]; rfl) (fun t ⟨_, e1⟩ => by
        subst e1
        exact ⟨_, rfl, rfl⟩) (Nat.zero_le _) (0, []) ⟨Nat.zero_le _, rfl⟩
    exact h1
  obtain ⟨g1, g2⟩ := sFold_ok (within := within) [s] (o := []) List.Pairwise.nil
  have g3 : ([s].foldl (sStep within) []).length ≤ 1 := Nat.le_trans g2 (by simp)
  have hn := news_le (edsOf a) ([s].foldl (sStep within) [])
  have h2 := rounds_eq hw he hl ((edsOf a).length + 1) (-1) ([s].foldl (sStep within) []) g1 (by omega) (by omega) (by omega)
  rw [m_overseerref04_From, h1, Option.bind_some, iter_of (by omega) h2]
  rfl
theorem refcomp_eq {a : AutT} {n : Nat} (hr : Right a n) (hl : a.2.2.2.length ≤ 100000) : m_overseerref04_Components a = some (rcompF (edsOf a) n a.1) := by
  have hnl := hr.nl
  have hl1 := hr.l1
  have hes : ∀ x ∈ edsOf a, 0 ≤ x.f ∧ x.f < (n : Int) ∧ 0 ≤ x.t ∧ x.t < (n : Int) := hr.ein
  have hal : ∀ x ∈ edsOf a, hasB a.1 x.e = true := fun x hx => by
    obtain ⟨y, hy, rfl⟩ := List.mem_map.1 hx
    exact hasB_true.2 (hr.es y hy).2.2.2.2
  have hall := allL_len n
  have hA : m_overseerref04_All a.2.1 = some (allL n) := by rw [hr.nn]; exact all_eq (by omega)
  have hel : (edsOf a).length = a.2.2.2.length := List.length_map _
  have hF : ∀ s : Int, m_overseerref04_From a [s] (allL n) a.1 = some (fromL (edsOf a) [s] (allL n) a.1) := fun s => from_eq (by omega) hl1 hl s
  have hFl : ∀ s : Int, (fromL (edsOf a) [s] (allL n) a.1).length ≤ 100001 := fun s => by
    have := fromL_len (edsOf a) [s] (allL n) a.1
    simp at this; omega
  -- lists of states are short
  have hsh : ∀ {C : List Int}, Inc C → (∀ t ∈ C, 0 ≤ t ∧ t < (n : Int)) → C.length ≤ n := fun hC hr => by
    have := inc_len hC hr (Int.le_refl _)
    simpa using this
  obtain ⟨o, h1, rfl⟩ := iter_inv (f := m_overseerref04_Components_l1 a) (fun i s => i ≤ n ∧ s.1 = (i : Int) ∧ (s.2.2, s.2.1) = (List.range i).foldl (rcStep (edsOf a) n a.1) ([], [])) (fun o => o = rcompF (edsOf a) n a.1) n 0 (by omega) (fun i s hi ⟨_, e1, e2⟩ => by
      obtain ⟨k, done, out⟩ := s
      dsimp only at e1 e2
      subst e1
      obtain ⟨r1, r2, r3, r4, r5⟩ := rcomp_fold hes hal i (by omega)
      rw [← e2] at r1 r2 r3 r4 r5
      dsimp only at r1 r2 r3 r4 r5
      have hdl : done.length ≤ n := hsh r1 (fun t ht => by
        obtain ⟨C, hC, ht2⟩ := (r2 t).1 ht
        exact (r3 C hC).2.1.rng t ht2)
      have hol : out.length ≤ n := by
        have h1 : (out.map fun C => C.headD 0).Nodup := by
          unfold List.Nodup
          rw [List.pairwise_map]
          exact r5.imp fun h => by omega
        have := int_nodup_len (n := n) h1 (fun x hx => by
          obtain ⟨C, hC, rfl⟩ := List.mem_map.1 hx
          obtain ⟨t, ht⟩ := (r3 C hC).2.1.ne
          exact (r3 C hC).2.1.rng _ (inc_head (r3 C hC).1 ht).1)
        simpa using this
      have hstep : (List.range (i + 1)).foldl (rcStep (edsOf a) n a.1) ([], []) = if hasB done (i : Int) = true then (out, done) else (out ++ [((fromL (edsOf a) [(i : Int)] (allL n) a.1).foldl (rcIn (edsOf a) n a.1 (i : Int)) ([], done)).1], ((fromL (edsOf a) [(i : Int)] (allL n) a.1).foldl (rcIn (edsOf a) n a.1 (i : Int)) ([], done)).2) := by
        rw [List.range_succ, List.foldl_append, ← e2]; rfl
      left
      rw [m_overseerref04_Components_l1]
      dsimp only
      rw [hr.nn, if_pos (ct_lt hi), has_eq (by omega), Option.bind_some]
      cases hb : hasB done (i : Int) with
      | true =>
        rw [hb, if_pos rfl] at hstep
        rw [if_pos rfl, m_overseerref04_Components_j1]
        exact ⟨_, rfl, by omega, by dsimp only; rw [nxt (by omega)], by dsimp only; rw [hstep]⟩
      | false =>
        rw [hb, if_neg (by simp)] at hstep
        obtain ⟨there, hth⟩ : ∃ th, th = fromL (edsOf a) [(i : Int)] (allL n) a.1 := ⟨_, rfl⟩
        have htl : there.length ≤ 100001 := by rw [hth]; exact hFl _
        have htr : ∀ t ∈ there, 0 ≤ t ∧ t < (n : Int) := fun t ht => by
          rw [hth] at ht
          exact RchC.rng (fun x hx => (hes x hx).2.2) ((from_rch hes hal (i := (i : Int)) (by omega) (by omega) t).1 ht) ⟨by omega, by omega⟩
        rw [← hth] at hstep
        obtain ⟨p, q1, rfl⟩ := iter_inv (f := m_overseerref04_Components_l2 a ((i : Int), done, out) there) (fun j s => j ≤ there.length ∧ s.1 = (j : Int) ∧ (s.2.1, s.2.2) = (there.take j).foldl (rcIn (edsOf a) n a.1 (i : Int)) ([], done)) (fun p => p = there.foldl (rcIn (edsOf a) n a.1 (i : Int)) ([], done)) there.length 0 (by omega) (fun j s hj ⟨_, e3, e4⟩ => by
            obtain ⟨k, c, d⟩ := s
            dsimp only at e3 e4
            subst e3
            obtain ⟨w1, w2, w3, w4⟩ := rcIn_fold (es := edsOf a) (n := n) (al := a.1) (i := (i : Int)) (there.take j) ([], done) List.Pairwise.nil r1
            rw [← e4] at w1 w2 w3 w4
            dsimp only at w1 w2 w3 w4
            have hcl : c.length ≤ n := hsh w1 (fun t ht => by
              rcases (w3 t).1 ht with h | h
              · cases h
              · exact htr t (List.mem_of_mem_take h.1))
            have hdl2 : d.length ≤ n := hsh w2 (fun t ht => by
              rcases (w4 t).1 ht with h | h
              · obtain ⟨C, hC, ht2⟩ := (r2 t).1 h
                exact (r3 C hC).2.1.rng t ht2
              · exact htr t (List.mem_of_mem_take h.1))
            left
            have hfl := hFl there[j]
            rw [m_overseerref04_Components_l2]
            dsimp only
            rw [if_pos (ct_lt hj), idx_at hj, Option.bind_some, hA, Option.bind_some, hF, Option.bind_some, has_eq (by omega), Option.bind_some]
            have hs2 : (there.take (j + 1)).foldl (rcIn (edsOf a) n a.1 (i : Int)) ([], done) = rcIn (edsOf a) n a.1 (i : Int) (c, d) there[j] := by
              rw [List.take_succ_eq_append_getElem hj, List.foldl_append, ← e4]; rfl
            unfold rcIn at hs2
            dsimp only at hs2
            cases hb2 : hasB (fromL (edsOf a) [there[j]] (allL n) a.1) (i : Int) with
            | true =>
              rw [hb2, if_pos rfl] at hs2
              rw [if_pos rfl, Option.bind_some, add_eq (by omega), Option.bind_some, Option.bind_some, add_eq (by omega), Option.bind_some, m_overseerref04_Components_j2]
              exact ⟨_, rfl, by omega, by dsimp only; rw [nxt (by omega)], hs2.symm⟩
            | false =>
              rw [hb2, if_neg (by simp)] at hs2
              rw [if_neg (by simp), m_overseerref04_Components_j2]
              exact ⟨_, rfl, by omega, by dsimp only; rw [nxt (by omega)], hs2.symm⟩) (fun s ⟨_, e3, e4⟩ => by
            obtain ⟨k, c, d⟩ := s
            dsimp only at e3 e4
            subst e3
            rw [List.take_length] at e4
            refine ⟨(c, d), ?_, e4⟩
            rw [m_overseerref04_Components_l2]
            dsimp only
            rw [if_neg ct_ge]) (Nat.zero_le _) (0, [], done) ⟨Nat.zero_le _, rfl, rfl⟩
        rw [if_neg (by simp), ← hr.nn, hA, Option.bind_some, hF, ← hth, Option.bind_some, q1, Option.bind_some, app_eq (by simp; omega), Option.bind_some, m_overseerref04_Components_j1]
        exact ⟨_, rfl, by omega, by dsimp only; rw [nxt (by omega)], by dsimp only; rw [hstep]⟩) (fun s ⟨_, e1, e2⟩ => by
      obtain ⟨k, done, out⟩ := s
      dsimp only at e1 e2
      subst e1
      refine ⟨out, ?_, ?_⟩
      · rw [m_overseerref04_Components_l1]
        dsimp only
        rw [hr.nn, if_neg ct_ge]
      · unfold rcompF
        rw [← e2]) (Nat.zero_le _) (0, [], []) ⟨Nat.zero_le _, rfl, rfl⟩
  rw [m_overseerref04_Components, h1]
  rfl
theorem same04_eq {xs : List Int} (hl : xs.length ≤ 1000000) : m_overseerlaw04_same xs xs = some true := by
  obtain ⟨o, h1, rfl⟩ := iter_inv (f := m_overseerlaw04_same_l1 xs xs) (fun i s => s = (i : Int)) (fun o => o = .inl ()) xs.length 0 (by omega) (fun i s hi e1 => by
      subst e1
      refine .inl ⟨((i + 1 : Nat) : Int), ?_, rfl⟩
      rw [m_overseerlaw04_same_l1, if_pos (ct_lt hi), idx_at hi, Option.bind_some, Option.bind_some, if_neg (by simp), nxt (by omega)]) (fun s e1 => by
      subst e1
      refine ⟨_, ?_, rfl⟩
      rw [m_overseerlaw04_same_l1, if_neg ct_ge]) (Nat.zero_le _) 0 rfl
  rw [m_overseerlaw04_same, if_neg (by simp), h1]
  rfl
end Go.Proofs.Ythchkddhibhenaa

namespace Go.Proofs.Ythchkddhibhenaa
open Go Go.RowKit
theorem known04 : m_overseerlaw04_known = some true := by kernel_rfl
theorem components_law {d : DesT} (h0 : 0 ≤ d.1) : m_overseerlaw04_ReachComponents d = some true := by
  obtain ⟨a, n, e1, n1, n6, hr, ha, hl⟩ := make_ex h0
  obtain ⟨Cs, e2, hs⟩ := comp_ex hr
  have hes : ∀ x ∈ edsOf a, 0 ≤ x.f ∧ x.f < (n : Int) ∧ 0 ≤ x.t ∧ x.t < (n : Int) := hr.ein
  have hal : ∀ x ∈ edsOf a, hasB a.1 x.e = true := fun x hx => by
    obtain ⟨y, hy, rfl⟩ := List.mem_map.1 hx
    exact hasB_true.2 (hr.es y hy).2.2.2.2
  have e3 := refcomp_eq hr (by omega)
  rw [← comp_unique hs (rcomp_says hes hal)] at e3
  have hcl : Cs.length ≤ n := by
    have h1 : (Cs.map fun C => C.headD 0).Nodup := by
      unfold List.Nodup
      rw [List.pairwise_map]
      exact hs.ord.imp fun h => by omega
    have := int_nodup_len (n := n) h1 (fun x hx => by
      obtain ⟨C, hC, rfl⟩ := List.mem_map.1 hx
      obtain ⟨t, ht⟩ := (hs.scc C hC).ne
      exact (hs.scc C hC).rng _ (inc_head (hs.inc C hC) ht).1)
    simpa using this
  have hC : ∀ C ∈ Cs, C.length ≤ 1000000 := fun C h => by
    have := inc_len (hs.inc C h) ((hs.scc C h).rng) (Int.le_refl _)
    omega
  obtain ⟨o, h1, rfl⟩ := iter_inv (f := m_overseerlaw04_ReachComponents_l1 (Cs, 0) Cs) (fun i s => s = (i : Int)) (fun o => o = .inl ()) Cs.length 0 (by omega) (fun i s hi e1 => by
      subst e1
      refine .inl ⟨((i + 1 : Nat) : Int), ?_, rfl⟩
      rw [m_overseerlaw04_ReachComponents_l1]
      dsimp only
      rw [if_pos (ct_lt hi), idx_at hi, Option.bind_some, Option.bind_some, same04_eq (hC _ (List.getElem_mem hi)), Option.bind_some, if_neg (by simp), nxt (by omega)]) (fun s e1 => by
      subst e1
      refine ⟨_, ?_, rfl⟩
      rw [m_overseerlaw04_ReachComponents_l1]
      dsimp only
      rw [if_neg ct_ge]) (Nat.zero_le _) 0 rfl
  rw [m_overseerlaw04_ReachComponents, known04, Option.bind_some, if_neg (by simp), e1, Option.bind_some, e2, Option.bind_some, e3, Option.bind_some, if_neg (by simp), h1]
  rfl
end Go.Proofs.Ythchkddhibhenaa

namespace Go.Proofs.Ythchkddhibhenaa
open Go Go.ChangeShapes Go.WideShapes Go.ChangeAt Go.RowKit

set_option maxRecDepth 100000 in
theorem reachComponents_lifted (os : Os) (started : os.Started) (H : Type) (enc : TypeId × Value → H) :
    ReturnsInHanded {} Try.checked os 10 .any (Rows.reachComponentsSpec.pre6 enc Try.prog Try.f10 Rows.reachComponentsRow.domain false) (Rows.reachComponentsSpec.post enc Try.prog Try.f10 false true false false) := by
  refine returnsInHanded_of_change (C := Try.checked) Try.own started (by kernel_rfl) Try.func10
    (ChangeSpec.witness6 (enc := enc) (C := Try.checked) false ⟨#[], #[.agg #[.int .u8 0, .int .u8 0, .int .u8 0, .int .u8 0, .int .u8 0, .int .u8 0, .int .u8 0, .int .u8 0, .int .u8 0, .int .u8 0, .int .u8 0, .int .u8 0, .int .u8 0, .int .u8 0, .int .u8 0, .int .u8 0, .int .u8 0, .int .u8 0, .int .u8 0, .int .u8 0, .int .u8 0, .int .u8 0, .int .u8 0, .int .u8 0, .int .u8 0, .int .u8 0]], []⟩ 8 (by kernel_rfl) (by kernel_rfl) (by kernel_rfl) (by kernel_rfl)) ?_
  intro W base args ds gs before hval0 hW hcnd _
  have hval : ∀ (j : Nat) t v, Try.f10.params[j]? = some t → args[j]? = some v → Value.okWide Try.prog W .any base t v := hval0
  have hW' := hW
  obtain ⟨p, q, hA0, hV, rfl, hfz, hnd⟩ := hW
  have hA : DataW.TrodAll enc Try.prog W 0 (fun _ => true) true Try.f10.params.toList args.toList ds p := hA0
  rw [Try.params10] at hA hval
  obtain ⟨v0, d0, rfl, rfl, h0⟩ := trodAll_one hA
  obtain ⟨x, hx, rfl⟩ := arg_small (hval 0 25 v0 rfl rfl)
  obtain ⟨rfl, rfl⟩ := trodVars_none hV
  clear hA0 hval0
  refine (m_overseerlaw04_ReachComponents_c (s := ⟨W, fun _ => 0⟩) (components_law hx)).mono fun e W' ⟨v, s', hw, he, hm, hv⟩ => ?_
  subst hw
  subst he
  subst hv
  have hbl := hm.below
  exact ⟨_, rfl, law_post Try.laidOut hW' rfl (by kernel_rfl) (by kernel_rfl) Try.underlying4 rfl rfl rfl hbl⟩

/-- The statement. -/
theorem reachComponents_holds : Rows.ReachComponentsSaid :=
  OpenClaim.holds_of_wide 10 Try.f10 rfl rfl rfl rfl rfl rfl rfl ⟨rfl, rfl, rfl, rfl, rfl⟩ rfl rfl rfl rfl rfl (by kernel_rfl) Try.func10 (by kernel_rfl)
    (of_decide_eq_true (by kernel_rfl)) (by unfold Func.isWrapper; first | (rw [if_pos (by decide +kernel)]; kernel_rfl) | (rw [if_neg (by decide +kernel)]; exact ⟨rfl, rfl⟩))
    (fun os started H enc _ => reachComponents_lifted os started H enc)
end Go.Proofs.Ythchkddhibhenaa
