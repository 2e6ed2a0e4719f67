/- What words lead to, as a list made step by step: plain laws. -/
import Derived.Test.YthchkddhibhenaaAdd
import Derived.Test.YthchkddhibhenaaFacts
namespace Go.Proofs.Ythchkddhibhenaa

open Go.RowKit in
theorem RdI.nil0 (w : World) : RdI w (.slice none 0 0) [] := ⟨none, 0, rfl, ⟨rfl, Nat.le_refl _, by simp [maxLen], fun _ => rfl, fun _ e => (by cases e), fun _ e => (by cases e)⟩⟩
abbrev Inc (xs : List Int) : Prop := xs.Pairwise (· < ·)
theorem takeWhile_all {p : Int → Bool} : ∀ (xs : List Int), ∀ x ∈ xs.takeWhile p, p x = true
  | [], x, h => by cases h
  | y :: ys, x, h => by
    by_cases hy : p y = true
    · rw [List.takeWhile_cons_of_pos hy] at h
      rcases List.mem_cons.1 h with rfl | h
      · exact hy
      · exact takeWhile_all ys x h
    · rw [List.takeWhile_cons_of_neg hy] at h; cases h
theorem atI_take (xs : List Int) (n : Int) : xs.take (atI xs n) = xs.takeWhile fun x => decide (x < n) := by
  unfold atI
  induction xs with
  | nil => rfl
  | cons y ys ih =>
    by_cases hy : y < n
    · rw [List.takeWhile_cons_of_pos (by simpa using hy), List.length_cons, List.take_succ_cons, ih]
    · rw [List.takeWhile_cons_of_neg (by simpa using hy), List.length_nil, List.take_zero]
theorem atI_drop (xs : List Int) (n : Int) : xs.drop (atI xs n) = xs.dropWhile fun x => decide (x < n) := by
  unfold atI
  induction xs with
  | nil => rfl
  | cons y ys ih =>
    by_cases hy : y < n
    · rw [List.takeWhile_cons_of_pos (by simpa using hy), List.dropWhile_cons_of_pos (by simpa using hy), List.length_cons, List.drop_succ_cons, ih]
    · rw [List.takeWhile_cons_of_neg (by simpa using hy), List.dropWhile_cons_of_neg (by simpa using hy), List.length_nil, List.drop_zero]
theorem dropWhile_ge {n : Int} : ∀ {xs : List Int}, Inc xs → ∀ x ∈ xs.dropWhile (fun x => decide (x < n)), n ≤ x
  | [], _, x, h => by cases h
  | y :: ys, hs, x, h => by
    obtain ⟨h1, h2⟩ := List.pairwise_cons.1 hs
    by_cases hy : y < n
    · rw [List.dropWhile_cons_of_pos (by simpa using hy)] at h
      exact dropWhile_ge h2 x h
    · rw [List.dropWhile_cons_of_neg (by simpa using hy)] at h
      rcases List.mem_cons.1 h with rfl | h
      · omega
      · have := h1 x h; omega
/-- Adding a number to an increasing list. -/
theorem addL_cases {xs : List Int} (hs : Inc xs) (n : Int) : (n ∈ xs ∧ addL xs n = xs) ∨ (n ∉ xs ∧ addL xs n = (xs.takeWhile fun x => decide (x < n)) ++ [n] ++ xs.dropWhile fun x => decide (x < n)) := by
  unfold addL
  by_cases h : xs[atI xs n]? = some n
  · rw [if_pos h]; exact .inl ⟨List.mem_of_getElem? h, rfl⟩
  · rw [if_neg h, atI_take, atI_drop]
    refine .inr ⟨fun hn => ?_, rfl⟩
    rw [← List.takeWhile_append_dropWhile (p := fun x => decide (x < n)) (l := xs)] at hn
    rcases List.mem_append.1 hn with h1 | h1
    · have := takeWhile_all xs n h1
      simp at this
    · have h2 := atI_drop xs n
      cases hd : xs.dropWhile (fun x => decide (x < n)) with
      | nil => rw [hd] at h1; cases h1
      | cons y ys =>
        rw [hd] at h2 h1
        have h3 : xs[atI xs n]? = some y := by
          rw [← List.head?_drop, h2]; rfl
        have hge := dropWhile_ge (n := n) hs
        rw [hd] at hge
        have h4 := hge y (List.mem_cons_self ..)
        rcases List.mem_cons.1 h1 with rfl | h1
        · exact h h3
        · have h5 : Inc (y :: ys) := by rw [← hd]; exact hs.sublist (List.dropWhile_sublist _)
          have h6 := (List.pairwise_cons.1 h5).1 n h1
          omega
theorem addL_mem {xs : List Int} (hs : Inc xs) (n x : Int) : x ∈ addL xs n ↔ x ∈ xs ∨ x = n := by
  rcases addL_cases hs n with ⟨h1, h2⟩ | ⟨h1, h2⟩
  · rw [h2]; exact ⟨.inl, fun h => h.elim id (fun h => h ▸ h1)⟩
  · rw [h2]
    have h3 := List.takeWhile_append_dropWhile (p := fun x => decide (x < n)) (l := xs)
    constructor
    · intro h
      rcases List.mem_append.1 h with h | h
      · rcases List.mem_append.1 h with h | h
        · exact .inl (h3 ▸ List.mem_append_left _ h)
        · exact .inr (List.mem_singleton.1 h)
      · exact .inl (h3 ▸ List.mem_append_right _ h)
    · rintro (h | rfl)
      · rw [← h3] at h
        rcases List.mem_append.1 h with h | h
        · exact List.mem_append_left _ (List.mem_append_left _ h)
        · exact List.mem_append_right _ h
      · simp
theorem addL_inc {xs : List Int} (hs : Inc xs) (n : Int) : Inc (addL xs n) := by
  rcases addL_cases hs n with ⟨h1, h2⟩ | ⟨h1, h2⟩
  · rw [h2]; exact hs
  · rw [h2]
    have h3 := List.takeWhile_append_dropWhile (p := fun x => decide (x < n)) (l := xs)
    have h4 := hs
    rw [← h3] at h4
    obtain ⟨a1, a2, a3⟩ := List.pairwise_append.1 h4
    have hlt : ∀ a ∈ xs.takeWhile (fun x => decide (x < n)), a < n := fun a ha => by simpa using takeWhile_all xs a ha
    have hge := dropWhile_ge (n := n) hs
    have hgt : ∀ b ∈ xs.dropWhile (fun x => decide (x < n)), n < b := fun b hb => by
      have := hge b hb
      have : b ≠ n := fun e => h1 (by rw [← e]; exact (List.dropWhile_sublist _).subset hb)
      omega
    rw [Inc, List.pairwise_append, List.pairwise_append]
    refine ⟨⟨a1, List.pairwise_singleton _ _, fun a ha b hb => by rw [List.mem_singleton.1 hb]; exact hlt a ha⟩, a2, fun a ha b hb => ?_⟩
    rcases List.mem_append.1 ha with ha | ha
    · exact a3 a ha b hb
    · rw [List.mem_singleton.1 ha]; exact hgt b hb
theorem addL_len {xs : List Int} (hs : Inc xs) (n : Int) : (n ∈ xs ∧ addL xs n = xs) ∨ (n ∉ xs ∧ (addL xs n).length = xs.length + 1) := by
  rcases addL_cases hs n with h | ⟨h1, h2⟩
  · exact .inl h
  · refine .inr ⟨h1, ?_⟩
    have h3 := congrArg List.length (List.takeWhile_append_dropWhile (p := fun x => decide (x < n)) (l := xs))
    rw [List.length_append] at h3
    rw [h2, List.length_append, List.length_append, List.length_singleton]
    omega
/-- Increasing lists with the same elements are one. -/
theorem inc_ext : ∀ {xs ys : List Int}, Inc xs → Inc ys → (∀ x, x ∈ xs ↔ x ∈ ys) → xs = ys
  | [], [], _, _, _ => rfl
  | [], y :: ys, _, _, h => by have := (h y).2 (List.mem_cons_self ..); cases this
  | x :: xs, [], _, _, h => by have := (h x).1 (List.mem_cons_self ..); cases this
  | x :: xs, y :: ys, hx, hy, h => by
    obtain ⟨x1, x2⟩ := List.pairwise_cons.1 hx
    obtain ⟨y1, y2⟩ := List.pairwise_cons.1 hy
    have e : x = y := by
      rcases List.mem_cons.1 ((h x).1 (List.mem_cons_self ..)) with h1 | h1
      · exact h1
      · rcases List.mem_cons.1 ((h y).2 (List.mem_cons_self ..)) with h2 | h2
        · exact h2.symm
        · have := x1 y h2
          have := y1 x h1
          omega
    subst e
    rw [inc_ext x2 y2 (fun z => ?_)]
    constructor
    · intro hz
      rcases List.mem_cons.1 ((h z).1 (List.mem_cons_of_mem _ hz)) with h1 | h1
      · have := x1 z hz; omega
      · exact h1
    · intro hz
      rcases List.mem_cons.1 ((h z).2 (List.mem_cons_of_mem _ hz)) with h1 | h1
      · have := y1 z hz; omega
      · exact h1

/-- One element of the start. -/
def sStep (within : List Int) (o : List Int) (s : Int) : List Int := if hasB within s = true then addL o s else o
/-- One edge. -/
def fStep (within evs : List Int) (o : List Int) (x : Ed) : List Int := if hasB o x.f = true ∧ hasB within x.t = true ∧ hasB evs x.e = true then addL o x.t else o
/-- The rounds. -/
def fLoop (es : List Ed) (within evs : List Int) : Nat → List Int → List Int
  | 0, o => o
  | f + 1, o => if (es.foldl (fStep within evs) o).length = o.length then es.foldl (fStep within evs) o else fLoop es within evs f (es.foldl (fStep within evs) o)
/-- What From returns. -/
def fromL (es : List Ed) (start within evs : List Int) : List Int := fLoop es within evs (es.length + 1) (start.foldl (sStep within) [])

/-- How many edges lead out of a list. -/
def news (es : List Ed) (o : List Int) : Nat := es.countP fun x => !hasB o x.t
theorem news_le (es : List Ed) (o : List Int) : news es o ≤ es.length := List.countP_le_length
theorem news_add {es : List Ed} {o : List Int} (hs : Inc o) (x : Ed) (hx : x ∈ es) : (x.t ∈ o ∧ addL o x.t = o) ∨ ((addL o x.t).length = o.length + 1 ∧ news es (addL o x.t) < news es o) := by
  rcases addL_len hs x.t with h | ⟨h1, h2⟩
  · exact .inl h
  · refine .inr ⟨h2, ?_⟩
    unfold news
    have hmono : ∀ y : Ed, (!hasB (addL o x.t) y.t) = true → (!hasB o y.t) = true := by
      intro y hy
      simp only [Bool.not_eq_true', hasB_false] at hy ⊢
      exact fun h => hy ((addL_mem hs _ _).2 (.inl h))
    have hx0 : (!hasB o x.t) = true := by simp only [Bool.not_eq_true', hasB_false]; exact h1
    have hx1 : ¬ (!hasB (addL o x.t) x.t) = true := by
      simp only [Bool.not_eq_true', hasB_false]
      exact fun h => h ((addL_mem hs _ _).2 (.inr rfl))
    clear h1 h2
    induction es with
    | nil => cases hx
    | cons y ys ih =>
      rw [List.countP_cons, List.countP_cons]
      rcases List.mem_cons.1 hx with rfl | hx
      · rw [if_neg hx1, if_pos hx0]
        have := List.countP_mono_left (l := ys) (fun y _ hy => hmono y hy)
        omega
      · have := ih hx
        by_cases hy : (!hasB (addL o x.t) y.t) = true
        · rw [if_pos hy, if_pos (hmono y hy)]; omega
        · rw [if_neg hy]; split <;> omega
theorem fStep_ok {es : List Ed} {within evs o : List Int} (hs : Inc o) (x : Ed) (hx : x ∈ es) : Inc (fStep within evs o x) ∧ (fStep within evs o x).length + news es (fStep within evs o x) ≤ o.length + news es o ∧ o.length ≤ (fStep within evs o x).length := by
  unfold fStep
  split
  · rcases news_add hs x hx with ⟨_, h⟩ | ⟨h1, h2⟩
    · rw [h]; exact ⟨hs, Nat.le_refl _, Nat.le_refl _⟩
    · exact ⟨addL_inc hs _, by omega, by omega⟩
  · exact ⟨hs, Nat.le_refl _, Nat.le_refl _⟩
theorem fFold_ok {es : List Ed} {within evs : List Int} : ∀ (l : List Ed) {o : List Int}, Inc o → (∀ x ∈ l, x ∈ es) → Inc (l.foldl (fStep within evs) o) ∧ (l.foldl (fStep within evs) o).length + news es (l.foldl (fStep within evs) o) ≤ o.length + news es o ∧ o.length ≤ (l.foldl (fStep within evs) o).length
  | [], _, hs, _ => ⟨hs, Nat.le_refl _, Nat.le_refl _⟩
  | x :: l, o, hs, hl => by
    have h1 := fStep_ok (within := within) (evs := evs) hs x (hl x (List.mem_cons_self ..))
    have h2 := fFold_ok (within := within) (evs := evs) l h1.1 (fun y hy => hl y (List.mem_cons_of_mem _ hy))
    exact ⟨h2.1, by have := h2.2.1; have := h1.2.1; simp only [List.foldl_cons]; omega, by have := h2.2.2; have := h1.2.2; simp only [List.foldl_cons]; omega⟩
theorem sStep_ok {within o : List Int} (hs : Inc o) (s : Int) : Inc (sStep within o s) ∧ (sStep within o s).length ≤ o.length + 1 := by
  unfold sStep
  split
  · rcases addL_len hs s with ⟨_, h⟩ | ⟨_, h⟩
    · rw [h]; exact ⟨hs, by omega⟩
    · exact ⟨addL_inc hs _, by omega⟩
  · exact ⟨hs, by omega⟩
theorem sFold_ok {within : List Int} : ∀ (l : List Int) {o : List Int}, Inc o → Inc (l.foldl (sStep within) o) ∧ (l.foldl (sStep within) o).length ≤ o.length + l.length
  | [], _, hs => ⟨hs, by simp⟩
  | s :: l, o, hs => by
    have h1 := sStep_ok (within := within) hs s
    have h2 := sFold_ok (within := within) l h1.1
    exact ⟨h2.1, by have := h2.2; have := h1.2; simp only [List.foldl_cons, List.length_cons]; omega⟩
theorem fStep_sub {within evs o : List Int} (hs : Inc o) (x : Ed) : ∀ s ∈ o, s ∈ fStep within evs o x := by
  intro s h
  unfold fStep
  split
  · exact (addL_mem hs _ _).2 (.inl h)
  · exact h
theorem fFold_sub {es : List Ed} {within evs : List Int} : ∀ (l : List Ed) {o : List Int}, Inc o → (∀ x ∈ l, x ∈ es) → ∀ s ∈ o, s ∈ l.foldl (fStep within evs) o
  | [], _, _, _, s, h => h
  | x :: l, o, hs, hl, s, h => fFold_sub l (fStep_ok (es := es) hs x (hl x (List.mem_cons_self ..))).1 (fun y hy => hl y (List.mem_cons_of_mem _ hy)) s (fStep_sub hs x s h)
/-- A round that adds nothing has found all edges followed. -/
theorem fFold_same {es : List Ed} {within evs : List Int} : ∀ (l : List Ed) {o : List Int}, Inc o → (∀ x ∈ l, x ∈ es) → (l.foldl (fStep within evs) o).length = o.length →
    l.foldl (fStep within evs) o = o ∧ ∀ x ∈ l, x.f ∈ o → hasB within x.t = true → hasB evs x.e = true → x.t ∈ o
  | [], _, _, _, _ => ⟨rfl, fun x hx => by cases hx⟩
  | x :: l, o, hs, hl, he => by
    rw [List.foldl_cons] at he ⊢
    have h1 := fStep_ok (within := within) (evs := evs) hs x (hl x (List.mem_cons_self ..))
    have h2 := fFold_ok (within := within) (evs := evs) l h1.1 (fun y hy => hl y (List.mem_cons_of_mem _ hy))
    have hx : fStep within evs o x = o ∧ (x.f ∈ o → hasB within x.t = true → hasB evs x.e = true → x.t ∈ o) := by
      have hle := h1.2.2
      have hle2 := h2.2.2
      revert hle hle2 he
      unfold fStep
      split
      · rename_i hc
        intro he hle2 hle
        rcases addL_len hs x.t with ⟨h3, h4⟩ | ⟨_, h4⟩
        · exact ⟨h4, fun _ _ _ => h3⟩
        · omega
      · rename_i hc
        intro _ _ _
        exact ⟨rfl, fun a b c => absurd ⟨hasB_true.2 a, b, c⟩ hc⟩
    rw [hx.1] at he ⊢
    have h3 := fFold_same l hs (fun y hy => hl y (List.mem_cons_of_mem _ hy)) he
    refine ⟨h3.1, fun y hy => ?_⟩
    rcases List.mem_cons.1 hy with rfl | hy
    · exact hx.2
    · exact h3.2 y hy

/-- The edges that From follows. -/
def fPerm (within evs : List Int) (x : Ed) : Bool := hasB within x.t && hasB evs x.e
theorem fPerm_true {within evs : List Int} {x : Ed} : fPerm within evs x = true ↔ hasB within x.t = true ∧ hasB evs x.e = true := by simp [fPerm]
/-- All that has been found is led to. -/
def LedTo (es : List Ed) (start within evs : List Int) (s : Int) : Prop := ∃ s0 ∈ start, hasB within s0 = true ∧ ∃ u, Leads es (fPerm within evs) s0 u s
theorem fFold_led {es : List Ed} {start within evs : List Int} : ∀ (l : List Ed) {o : List Int}, Inc o → (∀ x ∈ l, x ∈ es) → (∀ s ∈ o, LedTo es start within evs s) → ∀ s ∈ l.foldl (fStep within evs) o, LedTo es start within evs s
  | [], _, _, _, h => h
  | x :: l, o, hs, hl, h => by
    rw [List.foldl_cons]
    have h1 := fStep_ok (within := within) (evs := evs) hs x (hl x (List.mem_cons_self ..))
    refine fFold_led l h1.1 (fun y hy => hl y (List.mem_cons_of_mem _ hy)) ?_
    unfold fStep
    split
    · rename_i hc
      intro s hs'
      rcases (addL_mem hs _ _).1 hs' with h2 | rfl
      · exact h s h2
      · obtain ⟨s0, h2, h3, u, h4⟩ := h x.f (hasB_true.1 hc.1)
        exact ⟨s0, h2, h3, _, h4.snoc (hl x (List.mem_cons_self ..)) rfl (fPerm_true.2 hc.2)⟩
    · exact h
theorem fLoop_says {es : List Ed} {start within evs : List Int} : ∀ (f : Nat) {o : List Int}, Inc o → news es o < f → (∀ s ∈ o, LedTo es start within evs s) → (∀ s0 ∈ start, hasB within s0 = true → s0 ∈ o) →
    Inc (fLoop es within evs f o) ∧ ∀ s, s ∈ fLoop es within evs f o ↔ LedTo es start within evs s
  | 0, _, _, hf, _, _ => absurd hf (by omega)
  | f + 1, o, hs, hf, hled, hst => by
    have h1 := fFold_ok (es := es) (within := within) (evs := evs) es hs (fun _ h => h)
    have h2 := fFold_led (start := start) (within := within) (evs := evs) es hs (fun _ h => h) hled
    have h3 := fFold_sub (es := es) (within := within) (evs := evs) es hs (fun _ h => h)
    rw [fLoop]
    split
    · rename_i he
      obtain ⟨h4, h5⟩ := fFold_same (es := es) es hs (fun _ h => h) he
      rw [h4]
      refine ⟨hs, fun s => ⟨hled s, ?_⟩⟩
      rintro ⟨s0, hs0, hw0, u, hu⟩
      have key : ∀ (u : List Int) (a b : Int), a ∈ o → Leads es (fPerm within evs) a u b → b ∈ o := by
        intro u
        induction u with
        | nil => intro a b ha h; rw [← show a = b from h]; exact ha
        | cons e u ih =>
          rintro a b ha ⟨x, hx, hf, _, hp, h⟩
          exact ih x.t b (h5 x hx (by rw [hf]; exact ha) (fPerm_true.1 hp).1 (fPerm_true.1 hp).2) h
      exact key u s0 s (hst s0 hs0 hw0) hu
    · rename_i he
      exact fLoop_says f h1.1 (by omega) h2 (fun s0 a b => h3 s0 (hst s0 a b))
theorem fLoop_len {es : List Ed} {within evs : List Int} : ∀ (f : Nat) {o : List Int}, Inc o → (fLoop es within evs f o).length + news es (fLoop es within evs f o) ≤ o.length + news es o
  | 0, _, _ => Nat.le_refl _
  | f + 1, o, hs => by
    have h1 := fFold_ok (es := es) (within := within) (evs := evs) es hs (fun _ h => h)
    rw [fLoop]
    split
    · exact h1.2.1
    · exact Nat.le_trans (fLoop_len f h1.1) h1.2.1
theorem fromL_len (es : List Ed) (start within evs : List Int) : (fromL es start within evs).length ≤ start.length + es.length := by
  have h1 := sFold_ok (within := within) start (o := []) List.Pairwise.nil
  have h2 := fLoop_len (es := es) (within := within) (evs := evs) (es.length + 1) h1.1
  have h3 := news_le es (start.foldl (sStep within) [])
  simp only [List.length_nil] at h1
  unfold fromL
  omega
/-- What From returns: all states that are led to, in order. -/
theorem fromL_says (es : List Ed) (start within evs : List Int) : Inc (fromL es start within evs) ∧ ∀ s, s ∈ fromL es start within evs ↔ LedTo es start within evs s := by
  have h1 := sFold_ok (within := within) start (o := []) List.Pairwise.nil
  have hm : ∀ (l : List Int) {o : List Int}, Inc o → ∀ s, s ∈ l.foldl (sStep within) o ↔ s ∈ o ∨ (s ∈ l ∧ hasB within s = true) := by
    intro l
    induction l with
    | nil => intro o _ s; simp
    | cons a l ih =>
      intro o hs s
      rw [List.foldl_cons, ih (sStep_ok hs a).1]
      unfold sStep
      split
      · rename_i hc
        rw [addL_mem hs, List.mem_cons]
        constructor
        · rintro ((h | rfl) | h)
          · exact .inl h
          · exact .inr ⟨.inl rfl, hc⟩
          · exact .inr ⟨.inr h.1, h.2⟩
        · rintro (h | ⟨rfl | h, h2⟩)
          · exact .inl (.inl h)
          · exact .inl (.inr rfl)
          · exact .inr ⟨h, h2⟩
      · rename_i hc
        rw [List.mem_cons]
        constructor
        · rintro (h | h)
          · exact .inl h
          · exact .inr ⟨.inr h.1, h.2⟩
        · rintro (h | ⟨rfl | h, h2⟩)
          · exact .inl h
          · exact absurd h2 hc
          · exact .inr ⟨h, h2⟩
  unfold fromL
  refine fLoop_says (es.length + 1) h1.1 (by have := news_le es (start.foldl (sStep within) []); omega) (fun s hs => ?_) (fun s0 h2 h3 => (hm start List.Pairwise.nil s0).2 (.inr ⟨h2, h3⟩))
  rcases (hm start List.Pairwise.nil s).1 hs with h | ⟨h2, h3⟩
  · cases h
  · exact ⟨s, h2, h3, [], rfl⟩
end Go.Proofs.Ythchkddhibhenaa
