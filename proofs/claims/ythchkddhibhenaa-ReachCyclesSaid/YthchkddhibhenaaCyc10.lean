/- Texts joined: FromL, PathR, PathsEq, RunInv, AppReg, RoundFn, FwdFn. Each is introduced by its own sentence. -/
import Derived.Test.YthchkddhibhenaaCyc1
import Derived.Test.YthchkddhibhenaaCyc4
import Derived.Test.YthchkddhibhenaaCyc9
/- What words lead to, as a list made step by step: plain laws. -/
namespace Go.Proofs.Ythchkddhibhenaa

open Go.RowKit in
theorem RdI.nil0 (w : World) : RdI w (.slice none 0 0) [] := ⟨none, 0, rfl, ⟨rfl, Nat.le_refl _, by simp [maxLen], fun _ => rfl, fun _ e => (by cases e), fun _ e => (by cases e)⟩⟩
abbrev Inc (xs : List Int) : Prop := xs.Pairwise (· < ·)
theorem takeWhile_all {p : Int → Bool} : ∀ (xs : List Int), ∀ x ∈ xs.takeWhile p, p x = true
  | [], x, h => by cases h
  | y :: ys, x, h => by
    by_cases hy : p y = true
    · rw [List.takeWhile_cons_of_pos hy] at h
      rcases List.mem_cons.1 h with rfl | h
      · exact hy
      · exact takeWhile_all ys x h
    · rw [List.takeWhile_cons_of_neg hy] at h; cases h
theorem atI_take (xs : List Int) (n : Int) : xs.take (atI xs n) = xs.takeWhile fun x => decide (x < n) := by
  unfold atI
  induction xs with
  | nil => rfl
  | cons y ys ih =>
    by_cases hy : y < n
    · rw [List.takeWhile_cons_of_pos (by simpa using hy), List.length_cons, List.take_succ_cons, ih]
    · rw [List.takeWhile_cons_of_neg (by simpa using hy), List.length_nil, List.take_zero]
theorem atI_drop (xs : List Int) (n : Int) : xs.drop (atI xs n) = xs.dropWhile fun x => decide (x < n) := by
  unfold atI
  induction xs with
  | nil => rfl
  | cons y ys ih =>
    by_cases hy : y < n
    · rw [List.takeWhile_cons_of_pos (by simpa using hy), List.dropWhile_cons_of_pos (by simpa using hy), List.length_cons, List.drop_succ_cons, ih]
    · rw [List.takeWhile_cons_of_neg (by simpa using hy), List.dropWhile_cons_of_neg (by simpa using hy), List.length_nil, List.drop_zero]
theorem dropWhile_ge {n : Int} : ∀ {xs : List Int}, Inc xs → ∀ x ∈ xs.dropWhile (fun x => decide (x < n)), n ≤ x
  | [], _, x, h => by cases h
  | y :: ys, hs, x, h => by
    obtain ⟨h1, h2⟩ := List.pairwise_cons.1 hs
    by_cases hy : y < n
    · rw [List.dropWhile_cons_of_pos (by simpa using hy)] at h
      exact dropWhile_ge h2 x h
    · rw [List.dropWhile_cons_of_neg (by simpa using hy)] at h
      rcases List.mem_cons.1 h with rfl | h
      · omega
      · have := h1 x h; omega
/-- Adding a number to an increasing list. -/
theorem addL_cases {xs : List Int} (hs : Inc xs) (n : Int) : (n ∈ xs ∧ addL xs n = xs) ∨ (n ∉ xs ∧ addL xs n = (xs.takeWhile fun x => decide (x < n)) ++ [n] ++ xs.dropWhile fun x => decide (x < n)) := by
  unfold addL
  by_cases h : xs[atI xs n]? = some n
  · rw [if_pos h]; exact .inl ⟨List.mem_of_getElem? h, rfl⟩
  · rw [if_neg h, atI_take, atI_drop]
    refine .inr ⟨fun hn => ?_, rfl⟩
    rw [← List.takeWhile_append_dropWhile (p := fun x => decide (x < n)) (l := xs)] at hn
    rcases List.mem_append.1 hn with h1 | h1
    · have := takeWhile_all xs n h1
      simp at this
    · have h2 := atI_drop xs n
      cases hd : xs.dropWhile (fun x => decide (x < n)) with
      | nil => rw [hd] at h1; cases h1
      | cons y ys =>
        rw [hd] at h2 h1
        have h3 : xs[atI xs n]? = some y := by
          rw [← List.head?_drop, h2]; rfl
        have hge := dropWhile_ge (n := n) hs
        rw [hd] at hge
        have h4 := hge y (List.mem_cons_self ..)
        rcases List.mem_cons.1 h1 with rfl | h1
        · exact h h3
        · have h5 : Inc (y :: ys) := by rw [← hd]; exact hs.sublist (List.dropWhile_sublist _)
          have h6 := (List.pairwise_cons.1 h5).1 n h1
          omega
theorem addL_mem {xs : List Int} (hs : Inc xs) (n x : Int) : x ∈ addL xs n ↔ x ∈ xs ∨ x = n := by
  rcases addL_cases hs n with ⟨h1, h2⟩ | ⟨h1, h2⟩
  · rw [h2]; exact ⟨.inl, fun h => h.elim id (fun h => h ▸ h1)⟩
  · rw [h2]
    have h3 := List.takeWhile_append_dropWhile (p := fun x => decide (x < n)) (l := xs)
    constructor
    · intro h
      rcases List.mem_append.1 h with h | h
      · rcases List.mem_append.1 h with h | h
        · exact .inl (h3 ▸ List.mem_append_left _ h)
        · exact .inr (List.mem_singleton.1 h)
      · exact .inl (h3 ▸ List.mem_append_right _ h)
    · rintro (h | rfl)
      · rw [← h3] at h
        rcases List.mem_append.1 h with h | h
        · exact List.mem_append_left _ (List.mem_append_left _ h)
        · exact List.mem_append_right _ h
      · simp
theorem addL_inc {xs : List Int} (hs : Inc xs) (n : Int) : Inc (addL xs n) := by
  rcases addL_cases hs n with ⟨h1, h2⟩ | ⟨h1, h2⟩
  · rw [h2]; exact hs
  · rw [h2]
    have h3 := List.takeWhile_append_dropWhile (p := fun x => decide (x < n)) (l := xs)
    have h4 := hs
    rw [← h3] at h4
    obtain ⟨a1, a2, a3⟩ := List.pairwise_append.1 h4
    have hlt : ∀ a ∈ xs.takeWhile (fun x => decide (x < n)), a < n := fun a ha => by simpa using takeWhile_all xs a ha
    have hge := dropWhile_ge (n := n) hs
    have hgt : ∀ b ∈ xs.dropWhile (fun x => decide (x < n)), n < b := fun b hb => by
      have := hge b hb
      have : b ≠ n := fun e => h1 (by rw [← e]; exact (List.dropWhile_sublist _).subset hb)
      omega
    rw [Inc, List.pairwise_append, List.pairwise_append]
    refine ⟨⟨a1, List.pairwise_singleton _ _, fun a ha b hb => by rw [List.mem_singleton.1 hb]; exact hlt a ha⟩, a2, fun a ha b hb => ?_⟩
    rcases List.mem_append.1 ha with ha | ha
    · exact a3 a ha b hb
    · rw [List.mem_singleton.1 ha]; exact hgt b hb
theorem addL_len {xs : List Int} (hs : Inc xs) (n : Int) : (n ∈ xs ∧ addL xs n = xs) ∨ (n ∉ xs ∧ (addL xs n).length = xs.length + 1) := by
  rcases addL_cases hs n with h | ⟨h1, h2⟩
  · exact .inl h
  · refine .inr ⟨h1, ?_⟩
    have h3 := congrArg List.length (List.takeWhile_append_dropWhile (p := fun x => decide (x < n)) (l := xs))
    rw [List.length_append] at h3
    rw [h2, List.length_append, List.length_append, List.length_singleton]
    omega
/-- Increasing lists with the same elements are one. -/
theorem inc_ext : ∀ {xs ys : List Int}, Inc xs → Inc ys → (∀ x, x ∈ xs ↔ x ∈ ys) → xs = ys
  | [], [], _, _, _ => rfl
  | [], y :: ys, _, _, h => by have := (h y).2 (List.mem_cons_self ..); cases this
  | x :: xs, [], _, _, h => by have := (h x).1 (List.mem_cons_self ..); cases this
  | x :: xs, y :: ys, hx, hy, h => by
    obtain ⟨x1, x2⟩ := List.pairwise_cons.1 hx
    obtain ⟨y1, y2⟩ := List.pairwise_cons.1 hy
    have e : x = y := by
      rcases List.mem_cons.1 ((h x).1 (List.mem_cons_self ..)) with h1 | h1
      · exact h1
      · rcases List.mem_cons.1 ((h y).2 (List.mem_cons_self ..)) with h2 | h2
        · exact h2.symm
        · have := x1 y h2
          have := y1 x h1
          omega
    subst e
    rw [inc_ext x2 y2 (fun z => ?_)]
    constructor
    · intro hz
      rcases List.mem_cons.1 ((h z).1 (List.mem_cons_of_mem _ hz)) with h1 | h1
      · have := x1 z hz; omega
      · exact h1
    · intro hz
      rcases List.mem_cons.1 ((h z).2 (List.mem_cons_of_mem _ hz)) with h1 | h1
      · have := y1 z hz; omega
      · exact h1

/-- One element of the start. -/
def sStep (within : List Int) (o : List Int) (s : Int) : List Int := if hasB within s = true then addL o s else o
/-- One edge. -/
def fStep (within evs : List Int) (o : List Int) (x : Ed) : List Int := if hasB o x.f = true ∧ hasB within x.t = true ∧ hasB evs x.e = true then addL o x.t else o
/-- The rounds. -/
def fLoop (es : List Ed) (within evs : List Int) : Nat → List Int → List Int
  | 0, o => o
  | f + 1, o => if (es.foldl (fStep within evs) o).length = o.length then es.foldl (fStep within evs) o else fLoop es within evs f (es.foldl (fStep within evs) o)
/-- What From returns. -/
def fromL (es : List Ed) (start within evs : List Int) : List Int := fLoop es within evs (es.length + 1) (start.foldl (sStep within) [])

/-- How many edges lead out of a list. -/
def news (es : List Ed) (o : List Int) : Nat := es.countP fun x => !hasB o x.t
theorem news_le (es : List Ed) (o : List Int) : news es o ≤ es.length := List.countP_le_length
theorem news_add {es : List Ed} {o : List Int} (hs : Inc o) (x : Ed) (hx : x ∈ es) : (x.t ∈ o ∧ addL o x.t = o) ∨ ((addL o x.t).length = o.length + 1 ∧ news es (addL o x.t) < news es o) := by
  rcases addL_len hs x.t with h | ⟨h1, h2⟩
  · exact .inl h
  · refine .inr ⟨h2, ?_⟩
    unfold news
    have hmono : ∀ y : Ed, (!hasB (addL o x.t) y.t) = true → (!hasB o y.t) = true := by
      intro y hy
      simp only [Bool.not_eq_true', hasB_false] at hy ⊢
      exact fun h => hy ((addL_mem hs _ _).2 (.inl h))
    have hx0 : (!hasB o x.t) = true := by simp only [Bool.not_eq_true', hasB_false]; exact h1
    have hx1 : ¬ (!hasB (addL o x.t) x.t) = true := by
      simp only [Bool.not_eq_true', hasB_false]
      exact fun h => h ((addL_mem hs _ _).2 (.inr rfl))
    clear h1 h2
    induction es with
    | nil => cases hx
    | cons y ys ih =>
      rw [List.countP_cons, List.countP_cons]
      rcases List.mem_cons.1 hx with rfl | hx
      · rw [if_neg hx1, if_pos hx0]
        have := List.countP_mono_left (l := ys) (fun y _ hy => hmono y hy)
        omega
      · have := ih hx
        by_cases hy : (!hasB (addL o x.t) y.t) = true
        · rw [if_pos hy, if_pos (hmono y hy)]; omega
        · rw [if_neg hy]; split <;> omega
theorem fStep_ok {es : List Ed} {within evs o : List Int} (hs : Inc o) (x : Ed) (hx : x ∈ es) : Inc (fStep within evs o x) ∧ (fStep within evs o x).length + news es (fStep within evs o x) ≤ o.length + news es o ∧ o.length ≤ (fStep within evs o x).length := by
  unfold fStep
  split
  · rcases news_add hs x hx with ⟨_, h⟩ | ⟨h1, h2⟩
    · rw [h]; exact ⟨hs, Nat.le_refl _, Nat.le_refl _⟩
    · exact ⟨addL_inc hs _, by omega, by omega⟩
  · exact ⟨hs, Nat.le_refl _, Nat.le_refl _⟩
theorem fFold_ok {es : List Ed} {within evs : List Int} : ∀ (l : List Ed) {o : List Int}, Inc o → (∀ x ∈ l, x ∈ es) → Inc (l.foldl (fStep within evs) o) ∧ (l.foldl (fStep within evs) o).length + news es (l.foldl (fStep within evs) o) ≤ o.length + news es o ∧ o.length ≤ (l.foldl (fStep within evs) o).length
  | [], _, hs, _ => ⟨hs, Nat.le_refl _, Nat.le_refl _⟩
  | x :: l, o, hs, hl => by
    have h1 := fStep_ok (within := within) (evs := evs) hs x (hl x (List.mem_cons_self ..))
    have h2 := fFold_ok (within := within) (evs := evs) l h1.1 (fun y hy => hl y (List.mem_cons_of_mem _ hy))
    exact ⟨h2.1, by have := h2.2.1; have := h1.2.1; simp only [List.foldl_cons]; omega, by have := h2.2.2; have := h1.2.2; simp only [List.foldl_cons]; omega⟩
theorem sStep_ok {within o : List Int} (hs : Inc o) (s : Int) : Inc (sStep within o s) ∧ (sStep within o s).length ≤ o.length + 1 := by
  unfold sStep
  split
  · rcases addL_len hs s with ⟨_, h⟩ | ⟨_, h⟩
    · rw [h]; exact ⟨hs, by omega⟩
    · exact ⟨addL_inc hs _, by omega⟩
  · exact ⟨hs, by omega⟩
theorem sFold_ok {within : List Int} : ∀ (l : List Int) {o : List Int}, Inc o → Inc (l.foldl (sStep within) o) ∧ (l.foldl (sStep within) o).length ≤ o.length + l.length
  | [], _, hs => ⟨hs, by simp⟩
  | s :: l, o, hs => by
    have h1 := sStep_ok (within := within) hs s
    have h2 := sFold_ok (within := within) l h1.1
    exact ⟨h2.1, by have := h2.2; have := h1.2; simp only [List.foldl_cons, List.length_cons]; omega⟩
theorem fStep_sub {within evs o : List Int} (hs : Inc o) (x : Ed) : ∀ s ∈ o, s ∈ fStep within evs o x := by
  intro s h
  unfold fStep
  split
  · exact (addL_mem hs _ _).2 (.inl h)
  · exact h
theorem fFold_sub {es : List Ed} {within evs : List Int} : ∀ (l : List Ed) {o : List Int}, Inc o → (∀ x ∈ l, x ∈ es) → ∀ s ∈ o, s ∈ l.foldl (fStep within evs) o
  | [], _, _, _, s, h => h
  | x :: l, o, hs, hl, s, h => fFold_sub l (fStep_ok (es := es) hs x (hl x (List.mem_cons_self ..))).1 (fun y hy => hl y (List.mem_cons_of_mem _ hy)) s (fStep_sub hs x s h)
/-- A round that adds nothing has found all edges followed. -/
theorem fFold_same {es : List Ed} {within evs : List Int} : ∀ (l : List Ed) {o : List Int}, Inc o → (∀ x ∈ l, x ∈ es) → (l.foldl (fStep within evs) o).length = o.length →
    l.foldl (fStep within evs) o = o ∧ ∀ x ∈ l, x.f ∈ o → hasB within x.t = true → hasB evs x.e = true → x.t ∈ o
  | [], _, _, _, _ => ⟨rfl, fun x hx => by cases hx⟩
  | x :: l, o, hs, hl, he => by
    rw [List.foldl_cons] at he ⊢
    have h1 := fStep_ok (within := within) (evs := evs) hs x (hl x (List.mem_cons_self ..))
    have h2 := fFold_ok (within := within) (evs := evs) l h1.1 (fun y hy => hl y (List.mem_cons_of_mem _ hy))
    have hx : fStep within evs o x = o ∧ (x.f ∈ o → hasB within x.t = true → hasB evs x.e = true → x.t ∈ o) := by
      have hle := h1.2.2
      have hle2 := h2.2.2
      revert hle hle2 he
      unfold fStep
      split
      · rename_i hc
        intro he hle2 hle
        rcases addL_len hs x.t with ⟨h3, h4⟩ | ⟨_, h4⟩
        · exact ⟨h4, fun _ _ _ => h3⟩
        · omega
      · rename_i hc
        intro _ _ _
        exact ⟨rfl, fun a b c => absurd ⟨hasB_true.2 a, b, c⟩ hc⟩
    rw [hx.1] at he ⊢
    have h3 := fFold_same l hs (fun y hy => hl y (List.mem_cons_of_mem _ hy)) he
    refine ⟨h3.1, fun y hy => ?_⟩
    rcases List.mem_cons.1 hy with rfl | hy
    · exact hx.2
    · exact h3.2 y hy

/-- The edges that From follows. -/
def fPerm (within evs : List Int) (x : Ed) : Bool := hasB within x.t && hasB evs x.e
theorem fPerm_true {within evs : List Int} {x : Ed} : fPerm within evs x = true ↔ hasB within x.t = true ∧ hasB evs x.e = true := by simp [fPerm]
/-- All that has been found is led to. -/
def LedTo (es : List Ed) (start within evs : List Int) (s : Int) : Prop := ∃ s0 ∈ start, hasB within s0 = true ∧ ∃ u, Leads es (fPerm within evs) s0 u s
theorem fFold_led {es : List Ed} {start within evs : List Int} : ∀ (l : List Ed) {o : List Int}, Inc o → (∀ x ∈ l, x ∈ es) → (∀ s ∈ o, LedTo es start within evs s) → ∀ s ∈ l.foldl (fStep within evs) o, LedTo es start within evs s
  | [], _, _, _, h => h
  | x :: l, o, hs, hl, h => by
    rw [List.foldl_cons]
    have h1 := fStep_ok (within := within) (evs := evs) hs x (hl x (List.mem_cons_self ..))
    refine fFold_led l h1.1 (fun y hy => hl y (List.mem_cons_of_mem _ hy)) ?_
    unfold fStep
    split
    · rename_i hc
      intro s hs'
      rcases (addL_mem hs _ _).1 hs' with h2 | rfl
      · exact h s h2
      · obtain ⟨s0, h2, h3, u, h4⟩ := h x.f (hasB_true.1 hc.1)
        exact ⟨s0, h2, h3, _, h4.snoc (hl x (List.mem_cons_self ..)) rfl (fPerm_true.2 hc.2)⟩
    · exact h
theorem fLoop_says {es : List Ed} {start within evs : List Int} : ∀ (f : Nat) {o : List Int}, Inc o → news es o < f → (∀ s ∈ o, LedTo es start within evs s) → (∀ s0 ∈ start, hasB within s0 = true → s0 ∈ o) →
    Inc (fLoop es within evs f o) ∧ ∀ s, s ∈ fLoop es within evs f o ↔ LedTo es start within evs s
  | 0, _, _, hf, _, _ => absurd hf (by omega)
  | f + 1, o, hs, hf, hled, hst => by
    have h1 := fFold_ok (es := es) (within := within) (evs := evs) es hs (fun _ h => h)
    have h2 := fFold_led (start := start) (within := within) (evs := evs) es hs (fun _ h => h) hled
    have h3 := fFold_sub (es := es) (within := within) (evs := evs) es hs (fun _ h => h)
    rw [fLoop]
    split
    · rename_i he
      obtain ⟨h4, h5⟩ := fFold_same (es := es) es hs (fun _ h => h) he
      rw [h4]
      refine ⟨hs, fun s => ⟨hled s, ?_⟩⟩
      rintro ⟨s0, hs0, hw0, u, hu⟩
      have key : ∀ (u : List Int) (a b : Int), a ∈ o → Leads es (fPerm within evs) a u b → b ∈ o := by
        intro u
        induction u with
        | nil => intro a b ha h; rw [← show a = b from h]; exact ha
        | cons e u ih =>
          rintro a b ha ⟨x, hx, hf, _, hp, h⟩
          exact ih x.t b (h5 x hx (by rw [hf]; exact ha) (fPerm_true.1 hp).1 (fPerm_true.1 hp).2) h
      exact key u s0 s (hst s0 hs0 hw0) hu
    · rename_i he
      exact fLoop_says f h1.1 (by omega) h2 (fun s0 a b => h3 s0 (hst s0 a b))
theorem fLoop_len {es : List Ed} {within evs : List Int} : ∀ (f : Nat) {o : List Int}, Inc o → (fLoop es within evs f o).length + news es (fLoop es within evs f o) ≤ o.length + news es o
  | 0, _, _ => Nat.le_refl _
  | f + 1, o, hs => by
    have h1 := fFold_ok (es := es) (within := within) (evs := evs) es hs (fun _ h => h)
    rw [fLoop]
    split
    · exact h1.2.1
    · exact Nat.le_trans (fLoop_len f h1.1) h1.2.1
theorem fromL_len (es : List Ed) (start within evs : List Int) : (fromL es start within evs).length ≤ start.length + es.length := by
  have h1 := sFold_ok (within := within) start (o := []) List.Pairwise.nil
  have h2 := fLoop_len (es := es) (within := within) (evs := evs) (es.length + 1) h1.1
  have h3 := news_le es (start.foldl (sStep within) [])
  simp only [List.length_nil] at h1
  unfold fromL
  omega
/-- What From returns: all states that are led to, in order. -/
theorem fromL_says (es : List Ed) (start within evs : List Int) : Inc (fromL es start within evs) ∧ ∀ s, s ∈ fromL es start within evs ↔ LedTo es start within evs s := by
  have h1 := sFold_ok (within := within) start (o := []) List.Pairwise.nil
  have hm : ∀ (l : List Int) {o : List Int}, Inc o → ∀ s, s ∈ l.foldl (sStep within) o ↔ s ∈ o ∨ (s ∈ l ∧ hasB within s = true) := by
    intro l
    induction l with
    | nil => intro o _ s; simp
    | cons a l ih =>
      intro o hs s
      rw [List.foldl_cons, ih (sStep_ok hs a).1]
      unfold sStep
      split
      · rename_i hc
        rw [addL_mem hs, List.mem_cons]
        constructor
        · rintro ((h | rfl) | h)
          · exact .inl h
          · exact .inr ⟨.inl rfl, hc⟩
          · exact .inr ⟨.inr h.1, h.2⟩
        · rintro (h | ⟨rfl | h, h2⟩)
          · exact .inl (.inl h)
          · exact .inl (.inr rfl)
          · exact .inr ⟨h, h2⟩
      · rename_i hc
        rw [List.mem_cons]
        constructor
        · rintro (h | h)
          · exact .inl h
          · exact .inr ⟨.inr h.1, h.2⟩
        · rintro (h | ⟨rfl | h, h2⟩)
          · exact .inl h
          · exact absurd h2 hc
          · exact .inr ⟨h, h2⟩
  unfold fromL
  refine fLoop_says (es.length + 1) h1.1 (by have := news_le es (start.foldl (sStep within) []); omega) (fun s hs => ?_) (fun s0 h2 h3 => (hm start List.Pairwise.nil s0).2 (.inr ⟨h2, h3⟩))
  rcases (hm start List.Pairwise.nil s).1 hs with h | ⟨h2, h3⟩
  · cases h
  · exact ⟨s, h2, h3, [], rfl⟩
end Go.Proofs.Ythchkddhibhenaa

/- The reference's Path as a plain function, and what it says. -/
namespace Go.Proofs.Ythchkddhibhenaa

/-- Runs: words, and the states to which they lead. -/
abbrev Runs := List (List Int × Int)
/-- Whether an edge goes on a run that leads to s. -/
def pOk (W E S : List Int) (s : Int) (x : Ed) : Prop := x.f = s ∧ hasB W x.t = true ∧ hasB E x.e = true ∧ hasB S x.t = false
instance (W E S : List Int) (s : Int) (x : Ed) : Decidable (pOk W E S s x) := by unfold pOk; infer_instance
/-- The edges of one run. -/
def eLoop (W E T : List Int) (r : List Int × Int) : List Ed → List Int → Runs → List Int ⊕ (List Int × Runs)
  | [], S, nx => .inr (S, nx)
  | x :: l, S, nx => if pOk W E S r.2 x then (if hasB T x.t = true then .inl (r.1 ++ [x.e]) else eLoop W E T r l (addL S x.t) (nx ++ [(r.1 ++ [x.e], x.t)])) else eLoop W E T r l S nx
/-- The runs of one level. -/
def rLoop (es : List Ed) (W E T : List Int) : Runs → List Int → Runs → List Int ⊕ (List Int × Runs)
  | [], S, nx => .inr (S, nx)
  | r :: l, S, nx => match eLoop W E T r es S nx with
    | .inl w => .inl w
    | .inr p => rLoop es W E T l p.1 p.2
/-- The levels. -/
def lLoop (es : List Ed) (W E T : List Int) : Nat → Runs → List Int → Option (List Int)
  | 0, _, _ => none
  | f + 1, L, S => if L = [] then none else match rLoop es W E T L S [] with
    | .inl w => some w
    | .inr p => lLoop es W E T f p.2 p.1
/-- What the reference's Path returns. -/
def pathR (es : List Ed) (W E T : List Int) (least s : Int) : Option (List Int) :=
  if hasB W s = false then none else if least = 0 ∧ hasB T s = true then some [] else lLoop es W E T (es.length + 2) [([], s)] []

section
variable {es : List Ed} {W E T : List Int} {s : Int}
theorem eLoop_len {r : List Int × Int} : ∀ (l : List Ed) {S : List Int} {nx : Runs} {p : List Int × Runs}, (∀ x ∈ l, x ∈ es) → Inc S → eLoop W E T r l S nx = .inr p → Inc p.1 ∧ p.2.length + news es p.1 ≤ nx.length + news es S ∧ p.1.length + news es p.1 ≤ S.length + news es S
  | [], S, nx, p, _, hs, h => by
    simp only [eLoop, Sum.inr.injEq] at h
    subst h
    exact ⟨hs, Nat.le_refl _, Nat.le_refl _⟩
  | x :: l, S, nx, p, hl, hs, h => by
    have hl' : ∀ y ∈ l, y ∈ es := fun y hy => hl y (List.mem_cons_of_mem _ hy)
    rw [eLoop] at h
    split at h
    · rename_i hok
      split at h
      · cases h
      · obtain ⟨h1, h2, h3⟩ := eLoop_len l hl' (addL_inc hs _) h
        have hn : x.t ∉ S := fun hm => by have := hok.2.2.2; rw [hasB_true.2 hm] at this; cases this
        rcases news_add hs x (hl x (List.mem_cons_self ..)) with ⟨hm, _⟩ | ⟨e1, e2⟩
        · exact absurd hm hn
        · rw [List.length_append, List.length_singleton] at h2
          exact ⟨h1, by omega, by omega⟩
    · exact eLoop_len l hl' hs h
theorem rLoop_len : ∀ (L : Runs) {S : List Int} {nx : Runs} {p : List Int × Runs}, Inc S → rLoop es W E T L S nx = .inr p → Inc p.1 ∧ p.2.length + news es p.1 ≤ nx.length + news es S ∧ p.1.length + news es p.1 ≤ S.length + news es S
  | [], S, nx, p, hs, h => by
    simp only [rLoop, Sum.inr.injEq] at h
    subst h
    exact ⟨hs, Nat.le_refl _, Nat.le_refl _⟩
  | r :: l, S, nx, p, hs, h => by
    rw [rLoop] at h
    split at h
    · cases h
    · rename_i q hq
      obtain ⟨h1, h2, h3⟩ := eLoop_len es (fun _ hx => hx) hs hq
      obtain ⟨g1, g2, g3⟩ := rLoop_len l h1 h
      exact ⟨g1, by omega, by omega⟩

theorem lLoop_inl {f : Nat} {L : Runs} {S w : List Int} (hL : L ≠ []) (h : rLoop es W E T L S [] = .inl w) : lLoop es W E T (f + 1) L S = some w := by rw [lLoop, if_neg hL, h]
theorem lLoop_inr {f : Nat} {L : Runs} {S : List Int} {p : List Int × Runs} (hL : L ≠ []) (h : rLoop es W E T L S [] = .inr p) : lLoop es W E T (f + 1) L S = lLoop es W E T f p.2 p.1 := by rw [lLoop, if_neg hL, h]
theorem rLoop_inl {r : List Int × Int} {l nx : Runs} {S w : List Int} (h : eLoop W E T r es S nx = .inl w) : rLoop es W E T (r :: l) S nx = .inl w := by rw [rLoop, h]
theorem rLoop_inr {r : List Int × Int} {l nx : Runs} {S : List Int} {p : List Int × Runs} (h : eLoop W E T r es S nx = .inr p) : rLoop es W E T (r :: l) S nx = rLoop es W E T l p.1 p.2 := by rw [rLoop, h]
theorem eLoop_skip {r : List Int × Int} {x : Ed} {l : List Ed} {nx : Runs} {S : List Int} (h : ¬ pOk W E S r.2 x) : eLoop W E T r (x :: l) S nx = eLoop W E T r l S nx := by rw [eLoop, if_neg h]
theorem eLoop_hit {r : List Int × Int} {x : Ed} {l : List Ed} {nx : Runs} {S : List Int} (h : pOk W E S r.2 x) (hT : hasB T x.t = true) : eLoop W E T r (x :: l) S nx = .inl (r.1 ++ [x.e]) := by rw [eLoop, if_pos h, if_pos hT]
theorem eLoop_push {r : List Int × Int} {x : Ed} {l : List Ed} {nx : Runs} {S : List Int} (h : pOk W E S r.2 x) (hT : hasB T x.t = false) : eLoop W E T r (x :: l) S nx = eLoop W E T r l (addL S x.t) (nx ++ [(r.1 ++ [x.e], x.t)]) := by rw [eLoop, if_pos h, if_neg (by rw [hT]; simp)]

/-- What holds while the search goes on; p places have been followed. -/
structure GI (es : List Ed) (W E T : List Int) (s : Int) (S : List Int) (G : Runs) (p : Nat) (b : Int) : Prop where
  inc : Inc S
  zero : G[0]? = some ([], s)
  found : Found es (fPerm W E) s G b
  foll : Followed es (fPerm W E) G 1 p
  seen : ∀ t, t ∈ S ↔ ∃ k : Nat, 1 ≤ k ∧ ∃ r, G[k]? = some r ∧ r.2 = t
  no : ∀ (k : Nat) (r : List Int × Int), 1 ≤ k → G[k]? = some r → hasB T r.2 = false

theorem eLoop_says (he : EvEs es) {r : List Int × Int} {p : Nat} {H : Runs} : ∀ (l : List Ed) {S : List Int} {nx : Runs} {b : Int},
    (∀ x ∈ l, x ∈ es) → Sorted l → GI es W E T s S (H ++ nx) p b → (H ++ nx)[p]? = some r → b ≤ 33 * wval r.1 + 32 → (∀ x ∈ l, x.f = r.2 → b < 33 * wval r.1 + x.e + 1) →
    (∀ x ∈ es, x.f = r.2 → fPerm W E x = true → x ∈ l ∨ ∃ k : Nat, 1 ≤ k ∧ ∃ r', (H ++ nx)[k]? = some r' ∧ r'.2 = x.t ∧ wval r'.1 ≤ 33 * wval r.1 + x.e + 1) →
    match eLoop W E T r l S nx with
    | .inl w => Least es (fPerm W E) (hasB T) s 1 w
    | .inr q => ∃ b', GI es W E T s q.1 (H ++ q.2) (p + 1) b' ∧ (H ++ q.2)[p]? = some r ∧ b' ≤ 33 * wval r.1 + 32
  | [], S, nx, b, _, _, hG, hp, hb, _, hd => by
    refine ⟨b, ⟨hG.inc, hG.zero, hG.found, ?_, hG.seen, hG.no⟩, hp, hb⟩
    intro j hj r' hr' x hx hf hperm
    by_cases hjp : j < p
    · exact hG.foll j hjp r' hr' x hx hf hperm
    · have : j = p := by omega
      subst this
      have e : r' = r := Option.some.inj (hr'.symm.trans hp)
      subst e
      rcases hd x hx hf hperm with h | h
      · cases h
      · exact h
  | x :: l, S, nx, b, hl, hso, hG, hp, hb, hbl, hd => by
    have hl' : ∀ y ∈ l, y ∈ es := fun y hy => hl y (List.mem_cons_of_mem _ hy)
    have hso' : Sorted l := (List.pairwise_cons.1 hso).2
    have hxl := (List.pairwise_cons.1 hso).1
    have hx := hl x (List.mem_cons_self ..)
    have hxe := he x hx
    have hlead := hG.found.lead r (List.mem_of_getElem? hp)
    have hplt : p < (H ++ nx).length := (List.getElem?_eq_some_iff.1 hp).1
    rw [eLoop]
    by_cases hok : pOk W E S r.2 x
    · rw [if_pos hok]
      obtain ⟨hf, hW, hE, hS⟩ := hok
      have hperm : fPerm W E x = true := fPerm_true.2 ⟨hW, hE⟩
      have hlw := hlead.snoc hx hf hperm
      have hbx := hbl x (List.mem_cons_self ..) hf
      have hwv := wval_snoc r.1 x.e
      by_cases hT : hasB T x.t = true
      · rw [if_pos hT]
        refine ⟨hlw.evs he, by simp, ⟨_, hlw, hT⟩, ?_⟩
        intro u t hu ht hlen
        rcases List.eq_nil_or_concat u with rfl | ⟨u0, e, rfl⟩
        · simp at hlen
        rw [List.concat_eq_append] at hu ⊢
        obtain ⟨y, hy, g1, rfl, rfl, g4⟩ := hu.of_snoc
        have hye := he y hy
        rw [hwv, wval_snoc]
        rcases hG.foll.place he hG.found hG.zero u0 y.f g1 with ⟨k, r0, _, hk, hr0, hle⟩ | ⟨r', hk, hlt⟩ | h3
        · by_cases hkp : k < p
          · obtain ⟨k', hk', r', h1, h2, _⟩ := hG.foll k hkp r0 hk y hy hr0.symm g4
            have := hG.no k' r' hk' h1
            rw [h2, ht] at this; cases this
          · by_cases hke : k = p
            · subst hke
              have e : r0 = r := Option.some.inj (hk.symm.trans hp)
              subst e
              rcases hd y hy hr0.symm g4 with h | ⟨k', hk', r', h1, h2, _⟩
              · rcases List.mem_cons.1 h with rfl | h
                · omega
                · have := hxl y h
                  unfold edLt at this
                  omega
              · have := hG.no k' r' hk' h1
                rw [h2, ht] at this; cases this
            · have := hG.found.sorted p k (by omega) r r0 hp hk
              omega
        · have e : r' = r := Option.some.inj (hk.symm.trans hp)
          subst e
          omega
        · omega
      · rw [if_neg hT]
        have hT' : hasB T x.t = false := by simpa using hT
        have hassoc : H ++ (nx ++ [(r.1 ++ [x.e], x.t)]) = (H ++ nx) ++ [(r.1 ++ [x.e], x.t)] := by rw [List.append_assoc]
        have hnew : ((H ++ nx) ++ [(r.1 ++ [x.e], x.t)])[(H ++ nx).length]? = some (r.1 ++ [x.e], x.t) := by
          rw [List.getElem?_append_right (Nat.le_refl _), Nat.sub_self]; rfl
        have hold : ∀ {k : Nat} {r' : List Int × Int}, (H ++ nx)[k]? = some r' → ((H ++ nx) ++ [(r.1 ++ [x.e], x.t)])[k]? = some r' := fun {k r'} h => by
          rw [List.getElem?_append_left (List.getElem?_eq_some_iff.1 h).1]; exact h
        have hcase : ∀ {k : Nat} {r' : List Int × Int}, ((H ++ nx) ++ [(r.1 ++ [x.e], x.t)])[k]? = some r' → (H ++ nx)[k]? = some r' ∨ (k = (H ++ nx).length ∧ r' = (r.1 ++ [x.e], x.t)) := fun {k r'} h => by
          by_cases hk : k < (H ++ nx).length
          · rw [List.getElem?_append_left hk] at h; exact .inl h
          · have h2 := (List.getElem?_eq_some_iff.1 h).1
            rw [List.length_append, List.length_singleton] at h2
            have e : k = (H ++ nx).length := by omega
            rw [e] at h ⊢
            rw [hnew] at h
            exact .inr ⟨rfl, (Option.some.inj h).symm⟩
        refine eLoop_says he (H := H) l (b := wval (r.1 ++ [x.e])) hl' hso' ?_ ?_ (by omega) ?_ ?_
        · rw [hassoc]
          refine ⟨addL_inc hG.inc _, hold hG.zero, hG.found.push hlw (by omega), hG.foll.append (by omega) _, ?_, ?_⟩
          · intro t
            rw [addL_mem hG.inc, hG.seen]
            constructor
            · rintro (⟨k, hk, r', h1, h2⟩ | rfl)
              · exact ⟨k, hk, r', hold h1, h2⟩
              · exact ⟨_, by omega, _, hnew, rfl⟩
            · rintro ⟨k, hk, r', h1, h2⟩
              rcases hcase h1 with h | ⟨_, rfl⟩
              · exact .inl ⟨k, hk, r', h, h2⟩
              · exact .inr h2.symm
          · intro k r' hk h1
            rcases hcase h1 with h | ⟨_, rfl⟩
            · exact hG.no k r' hk h
            · exact hT'
        · rw [hassoc]; exact hold hp
        · intro y hy hyf
          have := hxl y hy
          unfold edLt at this
          omega
        · intro y hy hyf hyp
          rw [hassoc]
          rcases hd y hy hyf hyp with h | ⟨k, hk, r', h1, h2⟩
          · rcases List.mem_cons.1 h with rfl | h
            · exact .inr ⟨_, by omega, _, hnew, rfl, by dsimp only; omega⟩
            · exact .inl h
          · exact .inr ⟨k, hk, r', hold h1, h2⟩
    · rw [if_neg hok]
      refine eLoop_says he l hl' hso' hG hp hb (fun y hy => hbl y (List.mem_cons_of_mem _ hy)) ?_
      intro y hy hyf hyp
      rcases hd y hy hyf hyp with h | h
      · rcases List.mem_cons.1 h with rfl | h
        · obtain ⟨hW, hE⟩ := fPerm_true.1 hyp
          have hS : hasB S y.t = true := by
            by_cases hS : hasB S y.t = true
            · exact hS
            · exact absurd ⟨hyf, hW, hE, by simpa using hS⟩ hok
          obtain ⟨k, hk, r', h1, h2⟩ := (hG.seen _).1 (hasB_true.1 hS)
          have h3 := hG.found.bd r' (List.mem_of_getElem? h1)
          have h4 := hbl y (List.mem_cons_self ..) hyf
          exact .inr ⟨k, hk, r', h1, h2, by omega⟩
        · exact .inl h
      · exact .inr h

theorem rLoop_says (he : EvEs es) (hso : Sorted es) : ∀ (rs : Runs) {G1 : Runs} {S : List Int} {nx : Runs} {b : Int},
    GI es W E T s S (G1 ++ rs ++ nx) G1.length b → (∀ r, (G1 ++ rs ++ nx)[G1.length]? = some r → b ≤ 33 * wval r.1) →
    match rLoop es W E T rs S nx with
    | .inl w => Least es (fPerm W E) (hasB T) s 1 w
    | .inr q => ∃ b', GI es W E T s q.1 (G1 ++ rs ++ q.2) (G1.length + rs.length) b' ∧ ∀ r, (G1 ++ rs ++ q.2)[G1.length + rs.length]? = some r → b' ≤ 33 * wval r.1
  | [], G1, S, nx, b, hG, hb => ⟨b, hG, hb⟩
  | r :: l, G1, S, nx, b, hG, hb => by
    have hp : (G1 ++ r :: l ++ nx)[G1.length]? = some r := by
      rw [List.append_assoc, List.getElem?_append_right (Nat.le_refl _), Nat.sub_self]; rfl
    have h1 := eLoop_says (r := r) (p := G1.length) (H := G1 ++ r :: l) he es (nx := nx) (fun _ h => h) hso hG hp (by have := hb r hp; omega) (fun x hx _ => by have := hb r hp; have := he x hx; omega) (fun x hx _ _ => .inl hx)
    rw [rLoop]
    cases hq : eLoop W E T r es S nx with
    | inl w => rw [hq] at h1; exact h1
    | inr q =>
      rw [hq] at h1
      obtain ⟨b', hG', hp', hb'⟩ := h1
      have e : ∀ M : Runs, G1 ++ r :: l ++ M = (G1 ++ [r]) ++ l ++ M := fun M => by simp
      have e2 : G1.length + 1 = (G1 ++ [r]).length := by simp
      have e3 : G1.length + (r :: l).length = (G1 ++ [r]).length + l.length := by simp; omega
      dsimp only at hG' hp' hb' ⊢
      rw [e] at hG'
      rw [e2] at hG'
      have h2 := rLoop_says he hso l (G1 := G1 ++ [r]) (S := q.1) (nx := q.2) (b := b') hG' (fun r2 hr2 => by
        have h5 := hG'.found.sorted G1.length (G1 ++ [r]).length (by simp) r r2 (by rw [← e]; exact hp') hr2
        omega)
      simp only [e, e3]
      exact h2

theorem lLoop_says (he : EvEs es) (hso : Sorted es) : ∀ (f : Nat) {G1 L : Runs} {S : List Int} {b : Int},
    GI es W E T s S (G1 ++ L) G1.length b → (∀ r, (G1 ++ L)[G1.length]? = some r → b ≤ 33 * wval r.1) → 1 ≤ f → (L ≠ [] → news es S + 2 ≤ f) →
    match lLoop es W E T f L S with
    | some w => Least es (fPerm W E) (hasB T) s 1 w
    | none => ∀ u t, Leads es (fPerm W E) s u t → 1 ≤ u.length → hasB T t = false
  | 0, _, _, _, _, _, _, h, _ => absurd h (by omega)
  | f + 1, G1, L, S, b, hG, hb, _, hf => by
    rw [lLoop]
    by_cases hL : L = []
    · subst hL
      rw [if_pos rfl]
      rw [List.append_nil] at hG
      intro u t hu hlen
      obtain ⟨k, r, hk0, hk, rfl, _⟩ := hG.foll.all he hG.zero u t hu
      rcases hk0 with rfl | hk0
      · simp at hlen
      · exact hG.no k r hk0 hk
    · rw [if_neg hL]
      have h1 := rLoop_says he hso L (G1 := G1) (S := S) (nx := []) (b := b) (by rw [List.append_nil]; exact hG) (by rw [List.append_nil]; exact hb)
      have hf' := hf hL
      cases hq : rLoop es W E T L S [] with
      | inl w => rw [hq] at h1; exact h1
      | inr q =>
        rw [hq] at h1
        obtain ⟨b', hG', hb'⟩ := h1
        obtain ⟨_, hn, _⟩ := rLoop_len L hG.inc hq
        simp only [List.length_nil, Nat.zero_add] at hn
        rw [← List.length_append] at hG' hb'
        refine lLoop_says he hso f hG' hb' (by omega) (fun hne => ?_)
        have := List.length_pos_iff.2 hne
        omega

/-- What the reference's Path says: the least word, or that there is none. -/
theorem pathR_says (he : EvEs es) (hso : Sorted es) (least : Nat) (hl : least ≤ 1) (hs : hasB W s = true) :
    match pathR es W E T least s with
    | some w => Least es (fPerm W E) (hasB T) s least w
    | none => ∀ u t, Leads es (fPerm W E) s u t → least ≤ u.length → hasB T t = false := by
  have h0 : GI es W E T s [] ([] ++ [([], s)]) ([] : Runs).length 0 := by
    refine ⟨List.Pairwise.nil, rfl, ⟨?_, ?_, ?_⟩, fun j hj => absurd hj (by simp), ?_, ?_⟩
    · intro r hr
      rw [List.mem_singleton.1 hr]; rfl
    · intro j k hjk r r' hj hk
      have := (List.getElem?_eq_some_iff.1 hk).1
      simp at this; omega
    · intro r hr
      rw [List.mem_singleton.1 hr]; exact Int.le_refl 0
    · intro t
      constructor
      · intro h; cases h
      · rintro ⟨k, hk, r, hr, _⟩
        have := (List.getElem?_eq_some_iff.1 hr).1
        simp at this; omega
    · intro k r hk hr
      have := (List.getElem?_eq_some_iff.1 hr).1
      simp at this; omega
  have h1 := lLoop_says he hso (es.length + 2) h0 (fun r hr => by
    simp only [List.nil_append, List.length_nil, List.getElem?_cons_zero, Option.some.injEq] at hr
    subst hr; exact Int.le_refl 0) (by omega) (fun _ => by have := news_le es []; omega)
  unfold pathR
  rw [hs, if_neg (by simp)]
  by_cases hT : ((least : Nat) : Int) = 0 ∧ hasB T s = true
  · rw [if_pos hT]
    have e : least = 0 := by omega
    subst e
    exact ⟨Evs.nil, Nat.zero_le _, ⟨s, rfl, hT.2⟩, fun u t hu _ _ => wval_nonneg u (hu.evs he)⟩
  · rw [if_neg hT]
    cases hq : lLoop es W E T (es.length + 2) [([], s)] [] with
    | some w =>
      rw [hq] at h1
      by_cases h0 : least = 0
      · subst h0
        have hs0 : hasB T s = false := by
          by_cases h : hasB T s = true
          · exact absurd ⟨rfl, h⟩ hT
          · simpa using h
        refine ⟨h1.ev, Nat.zero_le _, h1.leads, fun u t hu ht _ => ?_⟩
        by_cases hu0 : u = []
        · subst hu0
          have : s = t := hu
          rw [← this, hs0] at ht; cases ht
        · exact h1.le u t hu ht (List.length_pos_iff.2 hu0)
      · have e : least = 1 := by omega
        subst e
        exact h1
    | none =>
      rw [hq] at h1
      intro u t hu hlen
      by_cases hu0 : u = []
      · subst hu0
        have e : s = t := hu
        have e0 : least = 0 := by simpa using hlen
        subst e0 e
        by_cases h : hasB T s = true
        · exact absurd ⟨rfl, h⟩ hT
        · simpa using h
      · exact h1 u t hu (List.length_pos_iff.2 hu0)
end
end Go.Proofs.Ythchkddhibhenaa

/- Path and the reference's Path return the same word: a plain law. -/
namespace Go.Proofs.Ythchkddhibhenaa

section
variable {es : List Ed} {p q : Ed → Bool}
theorem Leads.congrP (h : ∀ x ∈ es, p x = q x) : ∀ {u : List Int} {s t : Int}, Leads es p s u t → Leads es q s u t
  | [], _, _, hl => hl
  | _ :: _, _, _, ⟨x, hx, h1, h2, h3, h4⟩ => ⟨x, hx, h1, h2, by rw [← h x hx]; exact h3, Leads.congrP h h4⟩
theorem Least.congr {want : Int → Bool} {s : Int} {m : Nat} {w : List Int} (h : ∀ x ∈ es, p x = q x) (hl : Least es p want s m w) : Least es q want s m w := by
  obtain ⟨t, h1, h2⟩ := hl.leads
  exact ⟨hl.ev, hl.len, ⟨t, h1.congrP h, h2⟩, fun u t hu ht hlen => hl.le u t (hu.congrP fun x hx => (h x hx).symm) ht hlen⟩
theorem paths_eq {n : Nat} {tg wi al : List Int} (hso : Sorted es) (hes : ∀ x ∈ es, 0 ≤ x.t ∧ x.t < (n : Int)) (he : EvEs es) (hal : ∀ x ∈ es, hasB al x.e = true) (i : Nat) (hi : i < n) :
    (if hasB wi i = true then pathF n es (hasB tg) (fun x => hasB wi x.t) i else none) = pathR es wi al tg 0 i := by
  by_cases hw : hasB wi i = true
  · rw [if_pos hw]
    have h1 := pathF_says (perm := fun x => hasB wi x.t) (want := hasB tg) hso hes he hi
    have h2 := pathR_says (W := wi) (E := al) (T := tg) he hso 0 (by omega) hw
    have hc : ∀ x ∈ es, (fun x : Ed => hasB wi x.t) x = fPerm wi al x := fun x hx => by
      show _ = (hasB wi x.t && hasB al x.e)
      rw [hal x hx, Bool.and_true]
    have e0 : (((0 : Nat) : Int)) = 0 := rfl
    rw [e0] at h2
    cases hq : pathF n es (hasB tg) (fun x => hasB wi x.t) i with
    | some w =>
      rw [hq] at h1
      have h1' := h1.congr hc
      cases hr : pathR es wi al tg 0 i with
      | some w' =>
        rw [hr] at h2
        exact congrArg some (h1'.unique h2)
      | none =>
        rw [hr] at h2
        obtain ⟨t, g1, g2⟩ := h1'.leads
        rw [h2 w t g1 (Nat.zero_le _)] at g2; cases g2
    | none =>
      rw [hq] at h1
      cases hr : pathR es wi al tg 0 i with
      | some w' =>
        rw [hr] at h2
        obtain ⟨t, g1, g2⟩ := h2.leads
        rw [h1 w' t (g1.congrP fun x hx => (hc x hx).symm)] at g2; cases g2
      | none => rfl
  · rw [if_neg hw, pathR, if_pos (by simpa using hw)]
end
end Go.Proofs.Ythchkddhibhenaa

/- What holds of the memory while the reference's Path searches. -/
namespace Go.Proofs.Ythchkddhibhenaa
open Go.RowKit

/-- Runs in memory: the word's value, the word, the state. -/
abbrev MRuns := List (Value × List Int × Int)
def runCells (M : MRuns) : List Value := M.flatMap fun m => [m.1, .int .i64 m.2.2]
theorem runCells_length : ∀ M : MRuns, (runCells M).length = M.length * 2
  | [] => rfl
  | m :: M => by
    have := runCells_length M
    simp only [runCells, List.flatMap_cons, List.length_append, List.length_cons, List.length_nil] at this ⊢
    omega
theorem runCells_at : ∀ (M : MRuns) (i : Nat) (h : i < M.length), (runCells M)[i * 2]? = some M[i].1 ∧ (runCells M)[i * 2 + 1]? = some (.int .i64 M[i].2.2)
  | m :: M, 0, _ => ⟨rfl, rfl⟩
  | m :: M, i + 1, h => by
    obtain ⟨h1, h2⟩ := runCells_at M i (by simpa using h)
    have e : (i + 1) * 2 = i * 2 + 2 := by omega
    rw [e]
    exact ⟨h1, h2⟩
theorem runCells_snoc (M : MRuns) (v : Value) (u : List Int) (t : Int) : runCells (M ++ [(v, u, t)]) = runCells M ++ [v, .int .i64 t] := by
  simp [runCells, List.flatMap_append]
/-- The runs without their values. -/
def bare (M : MRuns) : Runs := M.map Prod.snd
theorem bare_snoc (M : MRuns) (v : Value) (u : List Int) (t : Int) : bare (M ++ [(v, u, t)]) = bare M ++ [(u, t)] := by simp [bare]

section
variable {w w' : World} {B : Nat} {tag : Nat → Nat} {k : Nat} {t : TypeId} {sz : Nat} {v : Value} {n : Nat} {cs : List Value}
/-- Tags may be named anew. -/
theorem Row.name (f : Nat → Nat) (h : Row w B tag k t sz v n cs) : Row w B (fun b => f (tag b)) (f k) t sz v n cs :=
  ⟨h.1, h.2.imp id fun ⟨b, off, cap, cur, h1, h2, h3⟩ => ⟨b, off, cap, cur, h1, ⟨h2.heap, by show f (tag b) = f k; rw [h2.htag], h2.base⟩, h3⟩⟩
theorem Box4.name (f : Nat → Nat) (hf : f 0 = 0) {b : Nat} {c0 c1 c2 c3 : Value} (h : Box4 w tag b c0 c1 c2 c3) : Box4 w (fun b => f (tag b)) b c0 c1 c2 c3 :=
  ⟨by show f (tag b) = 0; rw [h.htag, hf], h.lt, h.x0, h.x1, h.x2, h.x3⟩
/-- A callee's row, of a tag that is wanted. -/
theorem Row.of_row {B' : Nat} {tag' : Nat → Nat} {k' : Nat} (h : Row w B' tag' k' t sz v n cs) (hB : B ≤ B') (htag : ∀ b, B' ≤ b → tag b = k) : Row w B tag k t sz v n cs :=
  ⟨h.1, h.2.imp id fun ⟨b, off, cap, cur, h1, h2, h3⟩ => ⟨b, off, cap, cur, h1, ⟨h2.heap, htag b h2.base, Nat.le_trans hB h2.base⟩, h3⟩⟩
end

structure RInv (w : World) (c0 c1 c2 c3 : Value) (wr : World) (tag : Nat → Nat) (vL : Value) (ML : MRuns) (vS : Value) (S : List Int) (vN : Value) (MN : MRuns) : Prop where
  bel : Below w.heap.size w wr
  box : Box4 wr tag w.heap.size c0 c1 c2 c3
  lv : Row wr w.heap.size tag 3 92 2 vL ML.length (runCells ML)
  wl : ∀ m ∈ ML, Row wr w.heap.size tag 2 3 1 m.1 m.2.1.length (ints m.2.1)
  se : Row wr w.heap.size tag 4 3 1 vS S.length (ints S)
  nx : Row wr w.heap.size tag 1 92 2 vN MN.length (runCells MN)
  wn : ∀ m ∈ MN, Row wr w.heap.size tag 2 3 1 m.1 m.2.1.length (ints m.2.1)

section
variable {w : World} {c0 c1 c2 c3 : Value} {wr wr' : World} {tag tag' : Nat → Nat} {vL : Value} {ML : MRuns} {vS : Value} {S : List Int} {vN : Value} {MN : MRuns} {k : Nat}
/-- Other blocks turn. -/
theorem RInv.turn (h : RInv w c0 c1 c2 c3 wr tag vL ML vS S vN MN) (ht : Turn w.heap.size tag tag' k wr wr') (hk : 5 ≤ k) : RInv w c0 c1 c2 c3 wr' tag' vL ML vS S vN MN :=
  ⟨belTurn h.bel ht h.bel.size, h.box.turn ht (by omega), h.lv.turn ht (by omega), fun m hm => (h.wl m hm).turn ht (by omega), h.se.turn ht (by omega), h.nx.turn ht (by omega), fun m hm => (h.wn m hm).turn ht (by omega)⟩
/-- A state more is seen. -/
theorem RInv.see (h : RInv w c0 c1 c2 c3 wr tag vL ML vS S vN MN) (hb : Below wr.heap.size wr wr') {vS' : Value} {S' : List Int} {tg : Nat → Nat} {kk : Nat} (hr : Row wr' wr.heap.size tg kk 3 1 vS' S'.length (ints S')) :
    RInv w c0 c1 c2 c3 wr' (tagFrom tag wr.heap.size 4) vL ML vS' S' vN MN := by
  have ht : Turn w.heap.size tag (tagFrom tag wr.heap.size 4) 4 wr wr' := Turn.call hb
  exact ⟨belTurn h.bel ht h.bel.size, h.box.turn ht (by decide), h.lv.turn ht (by decide), fun m hm => (h.wl m hm).turn ht (by decide), hr.of_row h.bel.size (fun b hb => if_neg (by omega)), h.nx.turn ht (by decide), fun m hm => (h.wn m hm).turn ht (by decide)⟩
/-- A run more, behind a word that was made with the tag 6. -/
theorem RInv.push (h : RInv w c0 c1 c2 c3 wr tag vL ML vS S vN MN) {vw : Value} {u : List Int} {t : Int} (hw : Row wr w.heap.size tag 6 3 1 vw u.length (ints u)) {vN' : Value} (ht : Turn w.heap.size tag tag' 1 wr wr')
    (hr : Row wr' w.heap.size tag' 1 92 2 vN' (MN.length + 1) (runCells MN ++ [vw, .int .i64 t])) :
    RInv w c0 c1 c2 c3 wr' (fun b => (fun j => if j = 6 then 2 else j) (tag' b)) vL ML vS S vN' (MN ++ [(vw, u, t)]) := by
  have f2 : ∀ {v : Value} {n : Nat} {cs : List Value}, Row wr' w.heap.size tag' 2 3 1 v n cs → Row wr' w.heap.size (fun b => (fun j => if j = 6 then 2 else j) (tag' b)) 2 3 1 v n cs := fun h => h.name (fun j => if j = 6 then 2 else j)
  refine ⟨belTurn h.bel ht h.bel.size, (h.box.turn ht (by decide)).name (fun j => if j = 6 then 2 else j) rfl, (h.lv.turn ht (by decide)).name (fun j => if j = 6 then 2 else j), fun m hm => f2 ((h.wl m hm).turn ht (by decide)), (h.se.turn ht (by decide)).name (fun j => if j = 6 then 2 else j), ?_, fun m hm => ?_⟩
  · rw [List.length_append, List.length_singleton, runCells_snoc]
    exact hr.name (fun j => if j = 6 then 2 else j)
  · rcases List.mem_append.1 hm with hm | hm
    · exact f2 ((h.wn m hm).turn ht (by decide))
    · rw [List.mem_singleton.1 hm]
      exact (hw.turn ht (by decide)).name (fun j => if j = 6 then 2 else j)
/-- The next level. -/
theorem RInv.level (h : RInv w c0 c1 c2 c3 wr tag vL ML vS S vN MN) : RInv w c0 c1 c2 c3 wr (fun b => (fun j => if j = 1 then 3 else j) (tag b)) vN MN vS S (.slice none 0 0) [] :=
  ⟨h.bel, h.box.name (fun j => if j = 1 then 3 else j) rfl, h.nx.name (fun j => if j = 1 then 3 else j), fun m hm => (h.wn m hm).name (fun j => if j = 1 then 3 else j), h.se.name (fun j => if j = 1 then 3 else j), Row.nil _ _ _ _ _ _, fun m hm => by cases hm⟩
/-- A run of the level in memory. -/
theorem RInv.at_run (h : RInv w c0 c1 c2 c3 wr tag vL ML vS S vN MN) (i : Nat) (hi : i < ML.length) : ∃ b off cap, vL = .slice (some ⟨b, off, none⟩) ML.length cap ∧ b < wr.heap.size ∧ wr.cell? ⟨b, off + i * 2, none⟩ = some ML[i].1 ∧ wr.cell? ⟨b, off + i * 2 + 1, none⟩ = some (.int .i64 ML[i].2.2) ∧ Row wr w.heap.size tag 2 3 1 ML[i].1 ML[i].2.1.length (ints ML[i].2.1) := by
  obtain ⟨b, off, cap, e, hlt, _, _⟩ := h.lv.addr (by omega)
  have hl := h.lv
  rw [e] at hl
  obtain ⟨h1, h2⟩ := runCells_at ML i hi
  refine ⟨b, off, cap, e, hlt, ?_, ?_, h.wl _ (List.getElem_mem hi)⟩
  · rw [hl.cellAt (i * 2) (by omega), h1]
  · rw [Nat.add_assoc, hl.cellAt (i * 2 + 1) (by omega), h2]
end
end Go.Proofs.Ythchkddhibhenaa

/- What holds while a copy of a word, with one letter more, is made in whatever order. -/
namespace Go.Proofs.Ythchkddhibhenaa
open Go Go.RowKit

section
variable {w w' : World} {B : Nat} {tag tag' : Nat → Nat} {k k' : Nat} {t : TypeId} {sz : Nat} {v : Value} {n : Nat} {cs : List Value}
theorem Row.up (h : Row w B tag k t sz v n cs) (o : Obj) (k' : Nat) : Row (w.alloc o) B (tagUp tag w.heap.size k') k t sz v n cs :=
  ⟨h.1, h.2.imp id fun ⟨b, off, cap, cur, h1, h2, h3⟩ => ⟨b, off, cap, cur, h1, ⟨((bel_alloc w o).block b h2.lt).trans h2.heap, (tagUp_lt h2.lt).trans h2.htag, h2.base⟩, h3⟩⟩
theorem Row.fresh (w : World) (B : Nat) (tag : Nat → Nat) (k : Nat) (t : TypeId) (cs : List Value) (hB : B ≤ w.heap.size) (hl : cs.length ≤ maxLen) :
    Row (w.alloc (.cells cs.toArray t)) B (tagUp tag w.heap.size k) k t 1 (.slice (some ⟨w.heap.size, 0, none⟩) cs.length cs.length) cs.length cs :=
  ⟨by simp, .inr ⟨w.heap.size, 0, cs.length, cs.toArray, rfl, Own.new w B _ k _ t hB (tagUp_at _ _ _), Nat.le_refl _, hl, by simp, by simp⟩⟩
end

/-- A slice as the source of an append. -/
theorem RdS.src {w : World} {sz len cap : Nat} {a : Option Addr} {cs : List Value} (h : RdS w sz a len cap cs) : (a = none → len = 0 ∧ cap = 0) ∧ ∀ ad, a = some ad → ∀ j u, cs[j]? = some u → w.cell? (ad.add j) = some u := by
  refine ⟨fun e => ⟨by have := h.hnil e; have := h.hcap; omega, h.hnil e⟩, fun ad e j u hu => ?_⟩
  subst e
  obtain ⟨b, off, sp⟩ := ad
  obtain rfl : sp = none := h.spot _ rfl
  exact own_src h j u hu

/-- append to a row, as an operation of a region that draws. -/
theorem StepG.append_row {P : Program} {ops : Array Oper} {Q : Exit → Act → World → Prop} {o : Oper} {a : Act} {w : World} {K' : Act → World → Prop} {B : Nat} {tag : Nat → Nat} {k : Nat} {sz : Nat} {v : Value} {n : Nat} {cs : List Value} (hgd : o.guard = none) (s x : Operand) (tt : TypeId)
    (ho : o.op = .call { callee := .builtin .append, args := #[s, x], argTypes := #[tt, tt] })
    (e : TypeId) (i : TypeInfo) (z : Value) (bytes : Nat) (ht : P.underlying tt = some (.slice e)) (hi : P.info? e = some i) (hz : i.zero = some z)
    (hsize : i.size = sz) (hby : i.bytes = bytes) (hzs : z.cells.size = sz) (hs : a.eval s = v) (hrow : Row w B tag k e sz v n cs)
    (ao : Option Addr) (m c : Nat) (news : List Value) (hx : a.eval x = .slice ao m c) (hl : news.length = m * sz) (hnone : ao = none → m = 0 ∧ c = 0)
    (hnews : ∀ ad, ao = some ad → ∀ j u, news[j]? = some u → w.cell? (ad.add j) = some u) (h1 : ∀ u ∈ news, u.oneCell' = true)
    (h63 : n + m ≤ maxLen) (hbytes : (n + m) * bytes ≤ 140737488355328) (hB : B ≤ w.heap.size)
    (h : ∀ v' w' tag', Row w' B tag' k e sz v' (n + m) (cs ++ news) → Turn B tag tag' k w w' → K' (a.put o.dst v') w') : StepG P ops Q o a w K' := by
  obtain ⟨v', w', tag', hr, h2, h3⟩ := run_append_row (P := P) (w := w) (ty := o.type) tt e i z bytes ht hi hz hsize hby hzs hrow ao m c news hl hnone hnews h1 h63 hbytes hB
  refine StepG.mk ?_
  rw [if_pos (by simp [Region.wanted, hgd])]
  unfold Oper.wp execOp
  simp only [ho, resolve, invoke, builtin, Sem.run_bind, Sem.run_pure, Result.andThen_ok, List.map_toArray, List.map_cons, List.map_nil, hs, hx, hr]
  exact h v' w' tag' h2 h3

/-- What holds while the word is made: Φ of the rest, PR of the slots that hold no memory of the word. -/
structure RApp (Φ : (Nat → Nat) → World → Prop) (PR : Nat → Value → Prop) (B : Nat) (word : List Int) (x : Int) (l : Array Bool) (us : List Value) (tag : Nat → Nat) (W : World) : Prop where
  len : us.length = 12
  size : B ≤ W.heap.size
  phi : Φ tag W
  pure : ∀ j, j < 12 → l.getD j false = true → PR j (us.getD j undef)
  s0 : l.getD 0 false = true → l.getD 6 false = false → Row W B tag 6 3 1 (us.getD 0 undef) 0 []
  s6 : l.getD 6 false = true → l.getD 10 false = false → Row W B tag 6 3 1 (us.getD 6 undef) word.length (ints word)
  s9 : l.getD 9 false = true → Row W B tag 7 3 1 (us.getD 9 undef) 1 [.int .i64 x]
  s10 : l.getD 10 false = true → Row W B tag 6 3 1 (us.getD 10 undef) (word ++ [x]).length (ints (word ++ [x]))
  s11 : l.getD 11 false = true → Row W B tag 6 3 1 (us.getD 11 undef) (word ++ [x]).length (ints (word ++ [x]))
  o6 : l.getD 6 false = true → l.getD 0 false = true
  o10 : l.getD 10 false = true → l.getD 6 false = true
  o11 : l.getD 11 false = true → l.getD 10 false = true

section
variable {Φ : (Nat → Nat) → World → Prop} {PR : Nat → Value → Prop} {B : Nat} {word : List Int} {x : Int} {l : Array Bool} {us : List Value} {tag tag' : Nat → Nat} {W W' : World} {k : Nat} {v : Value}
theorem RApp.start {us : List Value} (hlen : us.length = 12) (hs : B ≤ W.heap.size) (hphi : Φ tag W) : RApp Φ PR B word x (Array.replicate 12 false) us tag W := by
  have h : ∀ j, (Array.replicate 12 false).getD j false = true → False := by
    intro j
    rw [Array.getD_eq_getD_getElem?, Array.getElem?_replicate]
    split <;> simp
  exact ⟨hlen, hs, hphi, fun j _ e => (h _ e).elim, fun e => (h _ e).elim, fun e => (h _ e).elim, fun e => (h _ e).elim, fun e => (h _ e).elim, fun e => (h _ e).elim, fun e => (h _ e).elim, fun e => (h _ e).elim, fun e => (h _ e).elim⟩
theorem set_self {us : List Value} {k n : Nat} {v : Value} (h : us.length = n) (hk : k < n) : (us.set k v).getD k undef = v := by
  rw [List.getD_eq_getElem?_getD, List.getElem?_set_self (by omega)]; rfl
theorem set_ne {us : List Value} {k j : Nat} {v : Value} (h : k ≠ j) : (us.set k v).getD j undef = us.getD j undef := by
  rw [List.getD_eq_getElem?_getD, List.getElem?_set_ne h, ← List.getD_eq_getElem?_getD]
theorem pure_next {PR : Nat → Value → Prop} {n : Nat} (hl : ∀ j, j < n → (l.setIfInBounds k true).getD j false = (j == k || l.getD j false)) (hlen : us.length = n) (hp : ∀ j, j < n → l.getD j false = true → PR j (us.getD j undef)) (hv : PR k v) : ∀ j, j < n → (l.setIfInBounds k true).getD j false = true → PR j ((us.set k v).getD j undef) := by
  intro j hj h
  by_cases e : k = j
  · subst e
    rw [set_self hlen hj]
    exact hv
  · rw [hl j hj, show (j == k) = false by simp; omega, Bool.false_or] at h
    rw [set_ne e]
    exact hp j hj h
/-- A slot without memory of the word. -/
theorem RApp.pureStep (h : RApp Φ PR B word x l us tag W) (hl : ∀ j, j < 12 → (l.setIfInBounds k true).getD j false = (j == k || l.getD j false)) (hk : k ≠ 0 ∧ k ≠ 6 ∧ k ≠ 9 ∧ k ≠ 10 ∧ k ≠ 11) (hv : PR k v) : RApp Φ PR B word x (l.setIfInBounds k true) (us.set k v) tag W := by
  have e0 := hl 0 (by decide)
  have e6 := hl 6 (by decide)
  have e9 := hl 9 (by decide)
  have e10 := hl 10 (by decide)
  have e11 := hl 11 (by decide)
  rw [show ((0 : Nat) == k) = false by simp; omega, Bool.false_or] at e0
  rw [show ((6 : Nat) == k) = false by simp; omega, Bool.false_or] at e6
  rw [show ((9 : Nat) == k) = false by simp; omega, Bool.false_or] at e9
  rw [show ((10 : Nat) == k) = false by simp; omega, Bool.false_or] at e10
  rw [show ((11 : Nat) == k) = false by simp; omega, Bool.false_or] at e11
  refine ⟨by rw [List.length_set]; exact h.len, h.size, h.phi, pure_next hl h.len h.pure hv, ?_, ?_, ?_, ?_, ?_, ?_, ?_, ?_⟩
  · rw [e0, e6, set_ne (by omega)]; exact h.s0
  · rw [e6, e10, set_ne (by omega)]; exact h.s6
  · rw [e9, set_ne (by omega)]; exact h.s9
  · rw [e10, set_ne (by omega)]; exact h.s10
  · rw [e11, set_ne (by omega)]; exact h.s11
  · rw [e0, e6]; exact h.o6
  · rw [e6, e10]; exact h.o10
  · rw [e11, e10]; exact h.o11
/-- The empty list that is made first. -/
theorem RApp.op0 (h : RApp Φ PR B word x l us tag W) (hl : ∀ j, j < 12 → (l.setIfInBounds 0 true).getD j false = (j == 0 || l.getD j false)) (hphi : ∀ {tag tag' k W W'}, Turn B tag tag' k W W' → B ≤ W.heap.size → 6 ≤ k → Φ tag W → Φ tag' W') (hn : l.getD 0 false = false) (hv : ∀ v, PR 0 v) :
    RApp Φ PR B word x (l.setIfInBounds 0 true) (us.set 0 (.slice (some ⟨W.heap.size, 0, none⟩) 0 0)) (tagUp tag W.heap.size 6) (W.alloc (.cells #[] 3)) := by
  have h6 : l.getD 6 false = false := by
    cases h6 : l.getD 6 false with
    | false => rfl
    | true => rw [h.o6 h6] at hn; cases hn
  refine ⟨by rw [List.length_set]; exact h.len, by have := h.size; simp; omega, hphi (Turn.alloc _) h.size (by decide) h.phi, pure_next hl h.len h.pure (hv _), ?_, ?_, ?_, ?_, ?_, ?_, ?_, ?_⟩
  · intro _ _
    rw [set_self h.len (by decide)]
    exact Row.fresh W B tag 6 3 [] h.size (by decide)
  · rw [hl 6 (by decide), show ((6 : Nat) == 0) = false from rfl, Bool.false_or, h6]; intro e; cases e
  · rw [hl 9 (by decide), show ((9 : Nat) == 0) = false from rfl, Bool.false_or, set_ne (by decide)]; exact fun e => (h.s9 e).up _ _
  · rw [hl 10 (by decide), show ((10 : Nat) == 0) = false from rfl, Bool.false_or, set_ne (by decide)]; exact fun e => (h.s10 e).up _ _
  · rw [hl 11 (by decide), show ((11 : Nat) == 0) = false from rfl, Bool.false_or, set_ne (by decide)]; exact fun e => (h.s11 e).up _ _
  · intro _; rw [hl 0 (by decide)]; rfl
  · rw [hl 6 (by decide), hl 10 (by decide)]; exact h.o10
  · rw [hl 11 (by decide), hl 10 (by decide)]; exact h.o11
/-- The letter's own list. -/
theorem RApp.op9 (h : RApp Φ PR B word x l us tag W) (hl : ∀ j, j < 12 → (l.setIfInBounds 9 true).getD j false = (j == 9 || l.getD j false)) (hphi : ∀ {tag tag' k W W'}, Turn B tag tag' k W W' → B ≤ W.heap.size → 6 ≤ k → Φ tag W → Φ tag' W') (hv : ∀ v, PR 9 v) :
    RApp Φ PR B word x (l.setIfInBounds 9 true) (us.set 9 (.slice (some ⟨W.heap.size, 0, none⟩) 1 1)) (tagUp tag W.heap.size 7) (W.alloc (.cells #[.int .i64 x] 3)) := by
  refine ⟨by rw [List.length_set]; exact h.len, by have := h.size; simp; omega, hphi (Turn.alloc _) h.size (by decide) h.phi, pure_next hl h.len h.pure (hv _), ?_, ?_, ?_, ?_, ?_, ?_, ?_, ?_⟩
  · rw [hl 0 (by decide), hl 6 (by decide), show ((6 : Nat) == 9) = false from rfl, Bool.false_or, show ((0 : Nat) == 9) = false from rfl, Bool.false_or, set_ne (by decide)]; exact fun e e' => (h.s0 e e').up _ _
  · rw [hl 6 (by decide), hl 10 (by decide), show ((6 : Nat) == 9) = false from rfl, Bool.false_or, show ((10 : Nat) == 9) = false from rfl, Bool.false_or, set_ne (by decide)]; exact fun e e' => (h.s6 e e').up _ _
  · intro _
    rw [set_self h.len (by decide)]
    exact Row.fresh W B tag 7 3 [.int .i64 x] h.size (by show 1 ≤ maxLen; decide)
  · rw [hl 10 (by decide), show ((10 : Nat) == 9) = false from rfl, Bool.false_or, set_ne (by decide)]; exact fun e => (h.s10 e).up _ _
  · rw [hl 11 (by decide), show ((11 : Nat) == 9) = false from rfl, Bool.false_or, set_ne (by decide)]; exact fun e => (h.s11 e).up _ _
  · rw [hl 0 (by decide), hl 6 (by decide)]; exact h.o6
  · rw [hl 6 (by decide), hl 10 (by decide)]; exact h.o10
  · rw [hl 11 (by decide), hl 10 (by decide)]; exact h.o11
/-- The word behind the empty list. -/
theorem RApp.op6 (h : RApp Φ PR B word x l us tag W) (hl : ∀ j, j < 12 → (l.setIfInBounds 6 true).getD j false = (j == 6 || l.getD j false)) (hphi : ∀ {tag tag' k W W'}, Turn B tag tag' k W W' → B ≤ W.heap.size → 6 ≤ k → Φ tag W → Φ tag' W') (hn : l.getD 6 false = false) (h0 : l.getD 0 false = true) (hv : ∀ v, PR 6 v)
    {v : Value} (ht : Turn B tag tag' 6 W W') (hr : Row W' B tag' 6 3 1 v (0 + word.length) ([] ++ ints word)) :
    RApp Φ PR B word x (l.setIfInBounds 6 true) (us.set 6 v) tag' W' := by
  have h10 : l.getD 10 false = false := by
    cases h10 : l.getD 10 false with
    | false => rfl
    | true => rw [h.o10 h10] at hn; cases hn
  have h11 : l.getD 11 false = false := by
    cases h11 : l.getD 11 false with
    | false => rfl
    | true => rw [h.o11 h11] at h10; cases h10
  refine ⟨by rw [List.length_set]; exact h.len, Nat.le_trans h.size ht.size, hphi ht h.size (by decide) h.phi, pure_next hl h.len h.pure (hv _), ?_, ?_, ?_, ?_, ?_, ?_, ?_, ?_⟩
  · rw [hl 6 (by decide)]; intro _ e; cases e
  · intro _ _
    rw [set_self h.len (by decide)]
    rw [Nat.zero_add] at hr
    exact hr
  · rw [hl 9 (by decide), show ((9 : Nat) == 6) = false from rfl, Bool.false_or, set_ne (by decide)]; exact fun e => (h.s9 e).turn ht (by decide)
  · rw [hl 10 (by decide), show ((10 : Nat) == 6) = false from rfl, Bool.false_or, h10]; intro e; cases e
  · rw [hl 11 (by decide), show ((11 : Nat) == 6) = false from rfl, Bool.false_or, h11]; intro e; cases e
  · intro _; rw [hl 0 (by decide), h0]; rfl
  · intro _; rw [hl 6 (by decide)]; rfl
  · rw [hl 11 (by decide), hl 10 (by decide)]; exact h.o11
/-- The letter behind the word. -/
theorem RApp.op10 (h : RApp Φ PR B word x l us tag W) (hl : ∀ j, j < 12 → (l.setIfInBounds 10 true).getD j false = (j == 10 || l.getD j false)) (hphi : ∀ {tag tag' k W W'}, Turn B tag tag' k W W' → B ≤ W.heap.size → 6 ≤ k → Φ tag W → Φ tag' W') (hn : l.getD 10 false = false) (h6 : l.getD 6 false = true) (hv : ∀ v, PR 10 v)
    {v : Value} (ht : Turn B tag tag' 6 W W') (hr : Row W' B tag' 6 3 1 v (word.length + 1) (ints word ++ [.int .i64 x])) :
    RApp Φ PR B word x (l.setIfInBounds 10 true) (us.set 10 v) tag' W' := by
  have h11 : l.getD 11 false = false := by
    cases h11 : l.getD 11 false with
    | false => rfl
    | true => rw [h.o11 h11] at hn; cases hn
  refine ⟨by rw [List.length_set]; exact h.len, Nat.le_trans h.size ht.size, hphi ht h.size (by decide) h.phi, pure_next hl h.len h.pure (hv _), ?_, ?_, ?_, ?_, ?_, ?_, ?_, ?_⟩
  · rw [hl 6 (by decide), h6]; intro _ e; cases e
  · rw [hl 10 (by decide)]; intro _ e; cases e
  · rw [hl 9 (by decide), show ((9 : Nat) == 10) = false from rfl, Bool.false_or, set_ne (by decide)]; exact fun e => (h.s9 e).turn ht (by decide)
  · intro _
    rw [set_self h.len (by decide), List.length_append, List.length_singleton]
    have : ints (word ++ [x]) = ints word ++ [.int .i64 x] := by simp [ints]
    rw [this]
    exact hr
  · rw [hl 11 (by decide), show ((11 : Nat) == 10) = false from rfl, Bool.false_or, h11]; intro e; cases e
  · rw [hl 0 (by decide), hl 6 (by decide)]; exact h.o6
  · intro _; rw [hl 6 (by decide), h6]; rfl
  · intro _; rw [hl 10 (by decide)]; rfl
/-- The word's variable. -/
theorem RApp.op11 (h : RApp Φ PR B word x l us tag W) (hl : ∀ j, j < 12 → (l.setIfInBounds 11 true).getD j false = (j == 11 || l.getD j false)) (h10 : l.getD 10 false = true) (hv : ∀ v, PR 11 v) :
    RApp Φ PR B word x (l.setIfInBounds 11 true) (us.set 11 (us.getD 10 undef)) tag W := by
  refine ⟨by rw [List.length_set]; exact h.len, h.size, h.phi, pure_next hl h.len h.pure (hv _), ?_, ?_, ?_, ?_, ?_, ?_, ?_, ?_⟩
  · rw [hl 0 (by decide), hl 6 (by decide), set_ne (by decide)]; exact h.s0
  · rw [hl 6 (by decide), hl 10 (by decide), set_ne (by decide)]; exact h.s6
  · rw [hl 9 (by decide), set_ne (by decide)]; exact h.s9
  · rw [hl 10 (by decide), set_ne (by decide)]; exact h.s10
  · intro _
    rw [set_self h.len (by decide)]
    exact h.s10 h10
  · rw [hl 0 (by decide), hl 6 (by decide)]; exact h.o6
  · rw [hl 6 (by decide), hl 10 (by decide)]; exact h.o10
  · intro _; rw [hl 10 (by decide), h10]; rfl
end
end Go.Proofs.Ythchkddhibhenaa

/- The least way back to a state, as a plain function; what holds of the memory while it is sought. -/
namespace Go.Proofs.Ythchkddhibhenaa
open Go.RowKit Go.Shelf

/-- An edge of the state is looked at. -/
def rStep (n : Nat) (es : List Ed) (perm : Ed → Bool) (s : Int) (acc : Option (List Int)) (x : Ed) : Option (List Int) :=
  if perm x = true then match pathF n es (fun t => t == s) perm x.t.toNat with
    | none => acc
    | some r => match acc with
      | none => some (x.e :: r)
      | some b => if r.length + 1 < b.length then some (x.e :: r) else some b
  else acc
/-- What round returns. -/
def roundF (n : Nat) (es : List Ed) (perm : Ed → Bool) (s : Int) : Option (List Int) := (subOf es s).foldl (rStep n es perm s) none

section
variable {n : Nat} {es : List Ed} {perm : Ed → Bool} {s : Int} {acc : Option (List Int)} {x : Ed}
theorem rStep_not (h : perm x = false) : rStep n es perm s acc x = acc := by rw [rStep, if_neg (by rw [h]; simp)]
theorem rStep_none (hp : perm x = true) (h : pathF n es (fun t => t == s) perm x.t.toNat = none) : rStep n es perm s acc x = acc := by rw [rStep, if_pos hp, h]
theorem rStep_first {r : List Int} (hp : perm x = true) (h : pathF n es (fun t => t == s) perm x.t.toNat = some r) : rStep n es perm s none x = some (x.e :: r) := by rw [rStep, if_pos hp, h]
theorem rStep_less {r b : List Int} (hp : perm x = true) (h : pathF n es (fun t => t == s) perm x.t.toNat = some r) (hl : r.length + 1 < b.length) : rStep n es perm s (some b) x = some (x.e :: r) := by rw [rStep, if_pos hp, h]; exact if_pos hl
theorem rStep_more {r b : List Int} (hp : perm x = true) (h : pathF n es (fun t => t == s) perm x.t.toNat = some r) (hl : ¬ r.length + 1 < b.length) : rStep n es perm s (some b) x = some b := by rw [rStep, if_pos hp, h]; exact if_neg hl
end

structure GInv (w : World) (G : Array Value) (FP : Value) (s : Int) (wr : World) (tag : Nat → Nat) (vb : Value) (best : Option (List Int)) : Prop where
  below : Below w.heap.size w wr
  g : Own wr w.heap.size tag 0 w.heap.size G 80
  sb : Own wr w.heap.size tag 0 (w.heap.size + 1) #[.int .i64 s] 3
  fp : Own wr w.heap.size tag 0 (w.heap.size + 1 + 1) #[FP] 90
  bb : Own wr w.heap.size tag 3 (w.heap.size + 1 + 1 + 1) #[vb] 28
  fb : Own wr w.heap.size tag 4 (w.heap.size + 1 + 1 + 1 + 1) #[.bool best.isSome] 4
  ro : Row wr w.heap.size tag 2 3 1 vb (best.getD []).length (ints (best.getD []))
  nl : best = none → vb = .slice none 0 0

section
variable {w : World} {G : Array Value} {FP : Value} {s : Int} {wr wr' : World} {tag tag' : Nat → Nat} {vb vb' : Value} {best : Option (List Int)}
theorem GInv.call (h : GInv w G FP s wr tag vb best) (hb : Below wr.heap.size wr wr') : GInv w G FP s wr' tag vb best :=
  ⟨belCall h.below hb h.below.size, h.g.below hb, h.sb.below hb, h.fp.below hb, h.bb.below hb, h.fb.below hb, h.ro.below hb, h.nl⟩
theorem GInv.turn {k : Nat} (h : GInv w G FP s wr tag vb best) (ht : Turn w.heap.size tag tag' k wr wr') (hk : 5 ≤ k) : GInv w G FP s wr' tag' vb best :=
  ⟨belTurn h.below ht h.below.size, h.g.turn ht (by omega), h.sb.turn ht (by omega), h.fp.turn ht (by omega), h.bb.turn ht (by omega), h.fb.turn ht (by omega), h.ro.turn ht (by omega), h.nl⟩
theorem GInv.others {b : Nat} {row : Option Nat} (h : GInv w G FP s wr tag vb best) (hg : wr.grownBy wr' row) (hws : w.heap.size ≤ b) (hr : ∀ r, row = some r → b ≤ r ∧ ∃ o : Obj, wr.heap[r]? = some o ∧ o.isCells = false) : GInv w G FP s wr' tag vb best :=
  ⟨belOthers h.below hg h.below.size hws (fun r e => (hr r e).1), h.g.others hg (fun r e => (hr r e).2), h.sb.others hg (fun r e => (hr r e).2), h.fp.others hg (fun r e => (hr r e).2), h.bb.others hg (fun r e => (hr r e).2), h.fb.others hg (fun r e => (hr r e).2), h.ro.others hg (fun r e => (hr r e).2), h.nl⟩
theorem GInv.retag {bx : Nat} {cx : Array Value} (h : GInv w G FP s wr tag vb best) (hx : wr.heap[bx]? = some (.cells cx 45 (0, 0))) : GInv w G FP s wr (tagUp tag bx 5) vb best :=
  ⟨h.below, h.g.retag hx (by decide), h.sb.retag hx (by decide), h.fp.retag hx (by decide), h.bb.retag hx (by decide), h.fb.retag hx (by decide), h.ro.retag hx (by decide), h.nl⟩
theorem Own.up {B k b : Nat} {cs : Array Value} {t : TypeId} (h : Own wr B tag k b cs t) (o : Obj) (k' : Nat) : Own (wr.alloc o) B (tagUp tag wr.heap.size k') k b cs t :=
  ⟨((bel_alloc wr o).block b h.lt).trans h.heap, (tagUp_lt h.lt).trans h.htag, h.base⟩
theorem GInv.up (h : GInv w G FP s wr tag vb best) (o : Obj) (k : Nat) : GInv w G FP s (wr.alloc o) (tagUp tag wr.heap.size k) vb best :=
  ⟨h.below.alloc h.below.size o, h.g.up o k, h.sb.up o k, h.fp.up o k, h.bb.up o k, h.fb.up o k, h.ro.up o k, h.nl⟩
theorem back_length (steps : List St) : ∀ (f : Nat) (k : Int), (back steps f k).length ≤ f
  | 0, _ => Nat.le_refl _
  | f + 1, k => by
    rw [back]
    split
    · simp
    · split
      · rename_i x _ _
        have := back_length steps f x.p
        simp only [List.length_cons]; omega
      · simp
theorem bfs_at {sub : Int → List Ed} {want : Int → Bool} {perm : Ed → Bool} : ∀ (f i : Nat) {seen : List Bool} {steps : List St} {r : List St × Nat}, bfs sub want perm f i seen steps = some r → r.2 < i + f
  | 0, _, _, _, _, h => by cases h
  | f + 1, i, seen, steps, r, h => by
    rw [bfs] at h
    split at h
    · cases h
    · split at h
      · cases h; show i < i + (f + 1); omega
      · have := bfs_at f (i + 1) h; omega
theorem pathF_len {n : Nat} {es : List Ed} {want : Int → Bool} {perm : Ed → Bool} {i : Nat} {r : List Int} (h : pathF n es want perm i = some r) : r.length ≤ n + 1 := by
  rw [pathF, Option.map_eq_some_iff] at h
  obtain ⟨p, hp, rfl⟩ := h
  have h1 := bfs_at _ _ hp
  have h2 := back_length p.1 (p.2 + 1) p.2
  rw [List.length_reverse]
  omega
/-- A better word. -/
theorem GInv.put (h : GInv w G FP s wr tag vb best) (ht : Turn w.heap.size tag tag' 2 wr wr') {r : List Int} (hr : Row wr' w.heap.size tag' 2 3 1 vb' r.length (ints r)) :
    GInv w G FP s ((wr'.setCell ⟨w.heap.size + 1 + 1 + 1, 0, none⟩ vb').setCell ⟨w.heap.size + 1 + 1 + 1 + 1, 0, none⟩ (.bool true)) tag' vb' (some r) ∧ Below w.heap.size wr ((wr'.setCell ⟨w.heap.size + 1 + 1 + 1, 0, none⟩ vb').setCell ⟨w.heap.size + 1 + 1 + 1 + 1, 0, none⟩ (.bool true)) ∧ ∀ m, KeepsFrom m wr ((wr'.setCell ⟨w.heap.size + 1 + 1 + 1, 0, none⟩ vb').setCell ⟨w.heap.size + 1 + 1 + 1 + 1, 0, none⟩ (.bool true)) := by
  have hB : w.heap.size ≤ wr'.heap.size := Nat.le_trans h.below.size ht.size
  have hb := h.bb.turn ht (by decide)
  have hf := h.fb.turn ht (by decide)
  have t1 := Turn.setCell hb 0 vb'
  have hb1 := hb.set 0 vb'
  have hf1 := hf.turn t1 (by decide)
  have t2 := Turn.setCell hf1 0 (.bool true)
  have hf2 := hf1.set 0 (.bool true)
  have hB1 : w.heap.size ≤ (wr'.setCell ⟨w.heap.size + 1 + 1 + 1, 0, none⟩ vb').heap.size := Nat.le_trans hB t1.size
  refine ⟨⟨belTurn (belTurn (belTurn h.below ht h.below.size) t1 hB) t2 hB1, ((h.g.turn ht (by decide)).turn t1 (by decide)).turn t2 (by decide), ((h.sb.turn ht (by decide)).turn t1 (by decide)).turn t2 (by decide), ((h.fp.turn ht (by decide)).turn t1 (by decide)).turn t2 (by decide), hb1.turn t2 (by decide), hf2, (hr.turn t1 (by decide)).turn t2 (by decide), fun e => by cases e⟩, ?_, ?_⟩
  · exact belTurn (belTurn (belTurn (Below.refl _ _) ht h.below.size) t1 hB) t2 hB1
  · exact fun m => (keepsTurn ht).trans ((keepsTurn t1).trans (keepsTurn t2))
end
end Go.Proofs.Ythchkddhibhenaa

/- The search forward, as a plain function. -/
namespace Go.Proofs.Ythchkddhibhenaa
open Go.RowKit Go.Shelf

/-- An edge is looked at: the flags and the queue. -/
def fwStep (perm : Ed → Bool) (acc : List Bool × List Int) (x : Ed) : List Bool × List Int :=
  if acc.1[x.t.toNat]?.getD true = false ∧ perm x = true then (acc.1.set x.t.toNat true, acc.2 ++ [x.t]) else acc
/-- The search. -/
def fwd (sub : Int → List Ed) (perm : Ed → Bool) : Nat → List Bool → List Int → List Bool
  | 0, seen, _ => seen
  | _ + 1, seen, [] => seen
  | f + 1, seen, s :: q => fwd sub perm f ((sub s).foldl (fwStep perm) (seen, q)).1 ((sub s).foldl (fwStep perm) (seen, q)).2
structure FOk (n m : Nat) (seen : List Bool) (q : List Int) : Prop where
  len : seen.length = n
  range : ∀ s ∈ q, 0 ≤ s ∧ s < (n : Int)
  sum : seen.count false + q.length ≤ m
theorem count_set_false {l : List Bool} {j : Nat} (h : l[j]? = some false) : (l.set j true).count false + 1 = l.count false := by
  induction l generalizing j with
  | nil => simp at h
  | cons a l ih =>
    cases j with
    | zero => simp at h; subst h; simp
    | succ j =>
      simp at h
      rw [List.set_cons_succ, List.count_cons, List.count_cons, ← ih h]
      omega
theorem FOk.step {n m : Nat} {perm : Ed → Bool} {seen : List Bool} {q : List Int} (h : FOk n m seen q) (x : Ed) (h0 : 0 ≤ x.t) (h1 : x.t < (n : Int)) : FOk n m (fwStep perm (seen, q) x).1 (fwStep perm (seen, q) x).2 := by
  unfold fwStep
  dsimp only
  split
  · rename_i hc
    have hlt : x.t.toNat < seen.length := by rw [h.len]; omega
    have hs : seen[x.t.toNat]? = some false := by
      have := hc.1
      rw [List.getElem?_eq_getElem hlt] at this ⊢
      simpa using this
    have h2 := count_set_false hs
    have h3 := h.sum
    refine ⟨by simp [h.len], fun s hs => ?_, by simp only [List.length_append, List.length_singleton]; omega⟩
    rcases List.mem_append.1 hs with h4 | h4
    · exact h.range s h4
    · rw [List.mem_singleton.1 h4]; exact ⟨h0, h1⟩
  · exact h
theorem FOk.fold {n m : Nat} {perm : Ed → Bool} : ∀ (l : List Ed) {seen : List Bool} {q : List Int}, FOk n m seen q → (∀ x ∈ l, 0 ≤ x.t ∧ x.t < (n : Int)) → FOk n m (l.foldl (fwStep perm) (seen, q)).1 (l.foldl (fwStep perm) (seen, q)).2
  | [], _, _, h, _ => h
  | x :: l, seen, q, h, hx => by
    have h1 := h.step (perm := perm) x (hx x (List.mem_cons_self ..)).1 (hx x (List.mem_cons_self ..)).2
    exact FOk.fold l h1 (fun y hy => hx y (List.mem_cons_of_mem _ hy))
/-- What forward returns. -/
def forwardF (n : Nat) (es : List Ed) (perm : Ed → Bool) (start : List Int) : List Bool := fwd (subOf es) perm ((flagL n start).count false + start.length + 1) (flagL n start) start

theorem fwd_length {n : Nat} {es : List Ed} {perm : Ed → Bool} (hin : ∀ x ∈ es, 0 ≤ x.t ∧ x.t < (n : Int)) : ∀ (f m : Nat) {seen : List Bool} {q : List Int}, FOk n m seen q → (fwd (subOf es) perm f seen q).length = n
  | 0, _, _, _, h => h.len
  | f + 1, _, _, [], h => h.len
  | f + 1, m, seen, s :: q, h => by
    rw [fwd]
    have h0 : FOk n m seen q := ⟨h.len, fun t ht => h.range t (List.mem_cons_of_mem _ ht), by have := h.sum; simp only [List.length_cons] at this; omega⟩
    exact fwd_length hin f m (FOk.fold (perm := perm) (subOf es s) h0 (fun x hx => hin x (subOf_mem hx)))
theorem forwardF_length {perm : Ed → Bool} (n : Nat) (es : List Ed) (start : List Int) (hin : ∀ x ∈ es, 0 ≤ x.t ∧ x.t < (n : Int)) (hst : ∀ s ∈ start, 0 ≤ s ∧ s < (n : Int)) : (forwardF n es perm start).length = n :=
  fwd_length hin _ _ ⟨flagL_length n start, hst, Nat.le_refl _⟩
/-- What holds while forward searches. -/
structure FInv (w : World) (G : Array Value) (FP : Value) (n b7 b8 : Nat) (vs : Value) (ds : List Deferred) (wr : World) (tag : Nat → Nat) (vq : Value) (seen : List Bool) (q : List Int) : Prop where
  below : Below w.heap.size w wr
  marks : Marks w.heap.size wr ds
  g : Own wr w.heap.size tag 0 w.heap.size G 80
  fp : Own wr w.heap.size tag 0 (w.heap.size + 1) #[FP] 90
  eb : Own wr w.heap.size tag 0 b7 #[vs] 86
  qb : Own wr w.heap.size tag 3 b8 #[vq] 28
  se : Row wr w.heap.size tag 1 4 1 vs n (bools seen)
  st : Row wr w.heap.size tag 2 3 1 vq q.length (ints q)

section
variable {w : World} {G : Array Value} {FP : Value} {n b7 b8 : Nat} {vs : Value} {ds : List Deferred} {wr wr' : World} {tag tag' : Nat → Nat} {vq : Value} {seen : List Bool} {q : List Int}
theorem FInv.call (h : FInv w G FP n b7 b8 vs ds wr tag vq seen q) (hb : Below wr.heap.size wr wr') : FInv w G FP n b7 b8 vs ds wr' tag vq seen q :=
  ⟨belCall h.below hb h.below.size, h.marks.below hb, h.g.below hb, h.fp.below hb, h.eb.below hb, h.qb.below hb, h.se.below hb, h.st.below hb⟩
theorem FInv.others {s : Nat} {row : Option Nat} (h : FInv w G FP n b7 b8 vs ds wr tag vq seen q) (hg : wr.grownBy wr' row) (hs : ∀ D, mark D ∈ ds → D < s) (hws : w.heap.size ≤ s) (hr : ∀ r, row = some r → s ≤ r ∧ ∃ o : Obj, wr.heap[r]? = some o ∧ o.isCells = false) : FInv w G FP n b7 b8 vs ds wr' tag vq seen q :=
  ⟨belOthers h.below hg h.below.size hws (fun r e => (hr r e).1), h.marks.others hs hg (fun r e => (hr r e).1), h.g.others hg (fun r e => (hr r e).2), h.fp.others hg (fun r e => (hr r e).2), h.eb.others hg (fun r e => (hr r e).2), h.qb.others hg (fun r e => (hr r e).2), h.se.others hg (fun r e => (hr r e).2), h.st.others hg (fun r e => (hr r e).2)⟩
theorem FInv.retag {bx : Nat} {cx : Array Value} (h : FInv w G FP n b7 b8 vs ds wr tag vq seen q) (hx : wr.heap[bx]? = some (.cells cx 45 (0, 0))) : FInv w G FP n b7 b8 vs ds wr (tagUp tag bx 5) vq seen q :=
  ⟨h.below, h.marks, h.g.retag hx (by decide), h.fp.retag hx (by decide), h.eb.retag hx (by decide), h.qb.retag hx (by decide), h.se.retag hx (by decide), h.st.retag hx (by decide)⟩
/-- A flag is set. -/
theorem FInv.setSeen {bs os cs : Nat} (h : FInv w G FP n b7 b8 (.slice (some ⟨bs, os, none⟩) n cs) ds wr tag vq seen q) (j : Nat) : FInv w G FP n b7 b8 (.slice (some ⟨bs, os, none⟩) n cs) ds (wr.setCell ⟨bs, os + j, none⟩ (.bool true)) tag vq (seen.set j true) q ∧ Turn w.heap.size tag tag 1 wr (wr.setCell ⟨bs, os + j, none⟩ (.bool true)) := by
  have h1 := h.se.set j (.bool true)
  refine ⟨⟨belTurn h.below h1.2 h.below.size, h.marks.turn h1.2, h.g.turn h1.2 (by decide), h.fp.turn h1.2 (by decide), h.eb.turn h1.2 (by decide), h.qb.turn h1.2 (by decide), ?_, h.st.turn h1.2 (by decide)⟩, h1.2⟩
  have h2 := h1.1
  rwa [show bools (seen.set j true) = (bools seen).set j (.bool true) from List.map_set ..]
/-- The queue's box gets another value. -/
theorem FInv.setQ {vq' : Value} {q' : List Int} (h : FInv w G FP n b7 b8 vs ds wr tag vq seen q) (hr : Row wr w.heap.size tag 2 3 1 vq' q'.length (ints q')) : FInv w G FP n b7 b8 vs ds (wr.setCell ⟨b8, 0, none⟩ vq') tag vq' seen q' := by
  have h1 := Turn.setCell h.qb 0 vq'
  have h2 := h.qb.set 0 vq'
  exact ⟨belTurn h.below h1 h.below.size, h.marks.turn h1, h.g.turn h1 (by decide), h.fp.turn h1 (by decide), h.eb.turn h1 (by decide), h2, h.se.turn h1 (by decide), hr.turn h1 (by decide)⟩
/-- A state more in the queue, and the box that holds it. -/
theorem FInv.push {vq' : Value} {x : Int} (h : FInv w G FP n b7 b8 vs ds wr tag vq seen q) (hr : Row wr' w.heap.size tag' 2 3 1 vq' (q.length + 1) (ints q ++ [.int .i64 x])) (ht : Turn w.heap.size tag tag' 2 wr wr') :
    FInv w G FP n b7 b8 vs ds (wr'.setCell ⟨b8, 0, none⟩ vq') tag' vq' seen (q ++ [x]) := by
  have hs := h.qb.turn ht (by decide)
  have h1 := Turn.setCell hs 0 vq'
  have h2 := hs.set 0 vq'
  have hB : w.heap.size ≤ wr'.heap.size := Nat.le_trans h.below.size ht.size
  exact ⟨belTurn (belTurn h.below ht h.below.size) h1 hB, (h.marks.turn ht).turn h1, (h.g.turn ht (by decide)).turn h1 (by decide), (h.fp.turn ht (by decide)).turn h1 (by decide), (h.eb.turn ht (by decide)).turn h1 (by decide), h2, (h.se.turn ht (by decide)).turn h1 (by decide), by rw [List.length_append, show ints (q ++ [x]) = ints q ++ [.int .i64 x] by simp [ints]]; exact hr.turn h1 (by decide)⟩
/-- Another mark. -/
theorem FInv.mark {s D : Nat} (h : FInv w G FP n b7 b8 vs ds wr tag vq seen q) (hs : ∀ D', Go.Proofs.Ythchkddhibhenaa.mark D' ∈ ds → D' < s) (hD : s ≤ D) (hB : w.heap.size ≤ s) (hd : wr.heap[D]? = some (.deferred (some []))) : FInv w G FP n b7 b8 vs (Go.Proofs.Ythchkddhibhenaa.mark D :: ds) wr tag vq seen q :=
  { h with marks := h.marks.cons hs hD (Nat.le_trans hB hD) hd }
end
end Go.Proofs.Ythchkddhibhenaa
