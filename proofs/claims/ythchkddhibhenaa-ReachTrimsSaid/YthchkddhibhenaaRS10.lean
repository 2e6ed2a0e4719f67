/- Texts joined: FromL, PathR, RunInv, AppReg, RestFn, RestL, RestIdem, RestPost, CanonFn, RRestFn, RegMono, RegTwo. Each is introduced by its own sentence. -/
import Derived.Test.YthchkddhibhenaaRS1
import Derived.Test.YthchkddhibhenaaRS4
import Derived.Test.YthchkddhibhenaaRS6
import Derived.Test.YthchkddhibhenaaRS9
/- What words lead to, as a list made step by step: plain laws. -/
namespace Go.Proofs.Ythchkddhibhenaa

open Go.RowKit in
theorem RdI.nil0 (w : World) : RdI w (.slice none 0 0) [] := ⟨none, 0, rfl, ⟨rfl, Nat.le_refl _, by simp [maxLen], fun _ => rfl, fun _ e => (by cases e), fun _ e => (by cases e)⟩⟩
abbrev Inc (xs : List Int) : Prop := xs.Pairwise (· < ·)
theorem takeWhile_all {p : Int → Bool} : ∀ (xs : List Int), ∀ x ∈ xs.takeWhile p, p x = true
  | [], x, h => by cases h
  | y :: ys, x, h => by
    by_cases hy : p y = true
    · rw [List.takeWhile_cons_of_pos hy] at h
      rcases List.mem_cons.1 h with rfl | h
      · exact hy
      · exact takeWhile_all ys x h
    · rw [List.takeWhile_cons_of_neg hy] at h; cases h
theorem atI_take (xs : List Int) (n : Int) : xs.take (atI xs n) = xs.takeWhile fun x => decide (x < n) := by
  unfold atI
  induction xs with
  | nil => rfl
  | cons y ys ih =>
    by_cases hy : y < n
    · rw [List.takeWhile_cons_of_pos (by simpa using hy), List.length_cons, List.take_succ_cons, ih]
    · rw [List.takeWhile_cons_of_neg (by simpa using hy), List.length_nil, List.take_zero]
theorem atI_drop (xs : List Int) (n : Int) : xs.drop (atI xs n) = xs.dropWhile fun x => decide (x < n) := by
  unfold atI
  induction xs with
  | nil => rfl
  | cons y ys ih =>
    by_cases hy : y < n
    · rw [List.takeWhile_cons_of_pos (by simpa using hy), List.dropWhile_cons_of_pos (by simpa using hy), List.length_cons, List.drop_succ_cons, ih]
    · rw [List.takeWhile_cons_of_neg (by simpa using hy), List.dropWhile_cons_of_neg (by simpa using hy), List.length_nil, List.drop_zero]
theorem dropWhile_ge {n : Int} : ∀ {xs : List Int}, Inc xs → ∀ x ∈ xs.dropWhile (fun x => decide (x < n)), n ≤ x
  | [], _, x, h => by cases h
  | y :: ys, hs, x, h => by
    obtain ⟨h1, h2⟩ := List.pairwise_cons.1 hs
    by_cases hy : y < n
    · rw [List.dropWhile_cons_of_pos (by simpa using hy)] at h
      exact dropWhile_ge h2 x h
    · rw [List.dropWhile_cons_of_neg (by simpa using hy)] at h
      rcases List.mem_cons.1 h with rfl | h
      · omega
      · have := h1 x h; omega
/-- Adding a number to an increasing list. -/
theorem addL_cases {xs : List Int} (hs : Inc xs) (n : Int) : (n ∈ xs ∧ addL xs n = xs) ∨ (n ∉ xs ∧ addL xs n = (xs.takeWhile fun x => decide (x < n)) ++ [n] ++ xs.dropWhile fun x => decide (x < n)) := by
  unfold addL
  by_cases h : xs[atI xs n]? = some n
  · rw [if_pos h]; exact .inl ⟨List.mem_of_getElem? h, rfl⟩
  · rw [if_neg h, atI_take, atI_drop]
    refine .inr ⟨fun hn => ?_, rfl⟩
    rw [← List.takeWhile_append_dropWhile (p := fun x => decide (x < n)) (l := xs)] at hn
    rcases List.mem_append.1 hn with h1 | h1
    · have := takeWhile_all xs n h1
      simp at this
    · have h2 := atI_drop xs n
      cases hd : xs.dropWhile (fun x => decide (x < n)) with
      | nil => rw [hd] at h1; cases h1
      | cons y ys =>
        rw [hd] at h2 h1
        have h3 : xs[atI xs n]? = some y := by
          rw [← List.head?_drop, h2]; rfl
        have hge := dropWhile_ge (n := n) hs
        rw [hd] at hge
        have h4 := hge y (List.mem_cons_self ..)
        rcases List.mem_cons.1 h1 with rfl | h1
        · exact h h3
        · have h5 : Inc (y :: ys) := by rw [← hd]; exact hs.sublist (List.dropWhile_sublist _)
          have h6 := (List.pairwise_cons.1 h5).1 n h1
          omega
theorem addL_mem {xs : List Int} (hs : Inc xs) (n x : Int) : x ∈ addL xs n ↔ x ∈ xs ∨ x = n := by
  rcases addL_cases hs n with ⟨h1, h2⟩ | ⟨h1, h2⟩
  · rw [h2]; exact ⟨.inl, fun h => h.elim id (fun h => h ▸ h1)⟩
  · rw [h2]
    have h3 := List.takeWhile_append_dropWhile (p := fun x => decide (x < n)) (l := xs)
    constructor
    · intro h
      rcases List.mem_append.1 h with h | h
      · rcases List.mem_append.1 h with h | h
        · exact .inl (h3 ▸ List.mem_append_left _ h)
        · exact .inr (List.mem_singleton.1 h)
      · exact .inl (h3 ▸ List.mem_append_right _ h)
    · rintro (h | rfl)
      · rw [← h3] at h
        rcases List.mem_append.1 h with h | h
        · exact List.mem_append_left _ (List.mem_append_left _ h)
        · exact List.mem_append_right _ h
      · simp
theorem addL_inc {xs : List Int} (hs : Inc xs) (n : Int) : Inc (addL xs n) := by
  rcases addL_cases hs n with ⟨h1, h2⟩ | ⟨h1, h2⟩
  · rw [h2]; exact hs
  · rw [h2]
    have h3 := List.takeWhile_append_dropWhile (p := fun x => decide (x < n)) (l := xs)
    have h4 := hs
    rw [← h3] at h4
    obtain ⟨a1, a2, a3⟩ := List.pairwise_append.1 h4
    have hlt : ∀ a ∈ xs.takeWhile (fun x => decide (x < n)), a < n := fun a ha => by simpa using takeWhile_all xs a ha
    have hge := dropWhile_ge (n := n) hs
    have hgt : ∀ b ∈ xs.dropWhile (fun x => decide (x < n)), n < b := fun b hb => by
      have := hge b hb
      have : b ≠ n := fun e => h1 (by rw [← e]; exact (List.dropWhile_sublist _).subset hb)
      omega
    rw [Inc, List.pairwise_append, List.pairwise_append]
    refine ⟨⟨a1, List.pairwise_singleton _ _, fun a ha b hb => by rw [List.mem_singleton.1 hb]; exact hlt a ha⟩, a2, fun a ha b hb => ?_⟩
    rcases List.mem_append.1 ha with ha | ha
    · exact a3 a ha b hb
    · rw [List.mem_singleton.1 ha]; exact hgt b hb
theorem addL_len {xs : List Int} (hs : Inc xs) (n : Int) : (n ∈ xs ∧ addL xs n = xs) ∨ (n ∉ xs ∧ (addL xs n).length = xs.length + 1) := by
  rcases addL_cases hs n with h | ⟨h1, h2⟩
  · exact .inl h
  · refine .inr ⟨h1, ?_⟩
    have h3 := congrArg List.length (List.takeWhile_append_dropWhile (p := fun x => decide (x < n)) (l := xs))
    rw [List.length_append] at h3
    rw [h2, List.length_append, List.length_append, List.length_singleton]
    omega
/-- Increasing lists with the same elements are one. -/
theorem inc_ext : ∀ {xs ys : List Int}, Inc xs → Inc ys → (∀ x, x ∈ xs ↔ x ∈ ys) → xs = ys
  | [], [], _, _, _ => rfl
  | [], y :: ys, _, _, h => by have := (h y).2 (List.mem_cons_self ..); cases this
  | x :: xs, [], _, _, h => by have := (h x).1 (List.mem_cons_self ..); cases this
  | x :: xs, y :: ys, hx, hy, h => by
    obtain ⟨x1, x2⟩ := List.pairwise_cons.1 hx
    obtain ⟨y1, y2⟩ := List.pairwise_cons.1 hy
    have e : x = y := by
      rcases List.mem_cons.1 ((h x).1 (List.mem_cons_self ..)) with h1 | h1
      · exact h1
      · rcases List.mem_cons.1 ((h y).2 (List.mem_cons_self ..)) with h2 | h2
        · exact h2.symm
        · have := x1 y h2
          have := y1 x h1
          omega
    subst e
    rw [inc_ext x2 y2 (fun z => ?_)]
    constructor
    · intro hz
      rcases List.mem_cons.1 ((h z).1 (List.mem_cons_of_mem _ hz)) with h1 | h1
      · have := x1 z hz; omega
      · exact h1
    · intro hz
      rcases List.mem_cons.1 ((h z).2 (List.mem_cons_of_mem _ hz)) with h1 | h1
      · have := y1 z hz; omega
      · exact h1

/-- One element of the start. -/
def sStep (within : List Int) (o : List Int) (s : Int) : List Int := if hasB within s = true then addL o s else o
/-- One edge. -/
def fStep (within evs : List Int) (o : List Int) (x : Ed) : List Int := if hasB o x.f = true ∧ hasB within x.t = true ∧ hasB evs x.e = true then addL o x.t else o
/-- The rounds. -/
def fLoop (es : List Ed) (within evs : List Int) : Nat → List Int → List Int
  | 0, o => o
  | f + 1, o => if (es.foldl (fStep within evs) o).length = o.length then es.foldl (fStep within evs) o else fLoop es within evs f (es.foldl (fStep within evs) o)
/-- What From returns. -/
def fromL (es : List Ed) (start within evs : List Int) : List Int := fLoop es within evs (es.length + 1) (start.foldl (sStep within) [])

/-- How many edges lead out of a list. -/
def news (es : List Ed) (o : List Int) : Nat := es.countP fun x => !hasB o x.t
theorem news_le (es : List Ed) (o : List Int) : news es o ≤ es.length := List.countP_le_length
theorem news_add {es : List Ed} {o : List Int} (hs : Inc o) (x : Ed) (hx : x ∈ es) : (x.t ∈ o ∧ addL o x.t = o) ∨ ((addL o x.t).length = o.length + 1 ∧ news es (addL o x.t) < news es o) := by
  rcases addL_len hs x.t with h | ⟨h1, h2⟩
  · exact .inl h
  · refine .inr ⟨h2, ?_⟩
    unfold news
    have hmono : ∀ y : Ed, (!hasB (addL o x.t) y.t) = true → (!hasB o y.t) = true := by
      intro y hy
      simp only [Bool.not_eq_true', hasB_false] at hy ⊢
      exact fun h => hy ((addL_mem hs _ _).2 (.inl h))
    have hx0 : (!hasB o x.t) = true := by simp only [Bool.not_eq_true', hasB_false]; exact h1
    have hx1 : ¬ (!hasB (addL o x.t) x.t) = true := by
      simp only [Bool.not_eq_true', hasB_false]
      exact fun h => h ((addL_mem hs _ _).2 (.inr rfl))
    clear h1 h2
    induction es with
    | nil => cases hx
    | cons y ys ih =>
      rw [List.countP_cons, List.countP_cons]
      rcases List.mem_cons.1 hx with rfl | hx
      · rw [if_neg hx1, if_pos hx0]
        have := List.countP_mono_left (l := ys) (fun y _ hy => hmono y hy)
        omega
      · have := ih hx
        by_cases hy : (!hasB (addL o x.t) y.t) = true
        · rw [if_pos hy, if_pos (hmono y hy)]; omega
        · rw [if_neg hy]; split <;> omega
theorem fStep_ok {es : List Ed} {within evs o : List Int} (hs : Inc o) (x : Ed) (hx : x ∈ es) : Inc (fStep within evs o x) ∧ (fStep within evs o x).length + news es (fStep within evs o x) ≤ o.length + news es o ∧ o.length ≤ (fStep within evs o x).length := by
  unfold fStep
  split
  · rcases news_add hs x hx with ⟨_, h⟩ | ⟨h1, h2⟩
    · rw [h]; exact ⟨hs, Nat.le_refl _, Nat.le_refl _⟩
    · exact ⟨addL_inc hs _, by omega, by omega⟩
  · exact ⟨hs, Nat.le_refl _, Nat.le_refl _⟩
theorem fFold_ok {es : List Ed} {within evs : List Int} : ∀ (l : List Ed) {o : List Int}, Inc o → (∀ x ∈ l, x ∈ es) → Inc (l.foldl (fStep within evs) o) ∧ (l.foldl (fStep within evs) o).length + news es (l.foldl (fStep within evs) o) ≤ o.length + news es o ∧ o.length ≤ (l.foldl (fStep within evs) o).length
  | [], _, hs, _ => ⟨hs, Nat.le_refl _, Nat.le_refl _⟩
  | x :: l, o, hs, hl => by
    have h1 := fStep_ok (within := within) (evs := evs) hs x (hl x (List.mem_cons_self ..))
    have h2 := fFold_ok (within := within) (evs := evs) l h1.1 (fun y hy => hl y (List.mem_cons_of_mem _ hy))
    exact ⟨h2.1, by have := h2.2.1; have := h1.2.1; simp only [List.foldl_cons]; omega, by have := h2.2.2; have := h1.2.2; simp only [List.foldl_cons]; omega⟩
theorem sStep_ok {within o : List Int} (hs : Inc o) (s : Int) : Inc (sStep within o s) ∧ (sStep within o s).length ≤ o.length + 1 := by
  unfold sStep
  split
  · rcases addL_len hs s with ⟨_, h⟩ | ⟨_, h⟩
    · rw [h]; exact ⟨hs, by omega⟩
    · exact ⟨addL_inc hs _, by omega⟩
  · exact ⟨hs, by omega⟩
theorem sFold_ok {within : List Int} : ∀ (l : List Int) {o : List Int}, Inc o → Inc (l.foldl (sStep within) o) ∧ (l.foldl (sStep within) o).length ≤ o.length + l.length
  | [], _, hs => ⟨hs, by simp⟩
  | s :: l, o, hs => by
    have h1 := sStep_ok (within := within) hs s
    have h2 := sFold_ok (within := within) l h1.1
    exact ⟨h2.1, by have := h2.2; have := h1.2; simp only [List.foldl_cons, List.length_cons]; omega⟩
theorem fStep_sub {within evs o : List Int} (hs : Inc o) (x : Ed) : ∀ s ∈ o, s ∈ fStep within evs o x := by
  intro s h
  unfold fStep
  split
  · exact (addL_mem hs _ _).2 (.inl h)
  · exact h
theorem fFold_sub {es : List Ed} {within evs : List Int} : ∀ (l : List Ed) {o : List Int}, Inc o → (∀ x ∈ l, x ∈ es) → ∀ s ∈ o, s ∈ l.foldl (fStep within evs) o
  | [], _, _, _, s, h => h
  | x :: l, o, hs, hl, s, h => fFold_sub l (fStep_ok (es := es) hs x (hl x (List.mem_cons_self ..))).1 (fun y hy => hl y (List.mem_cons_of_mem _ hy)) s (fStep_sub hs x s h)
/-- A round that adds nothing has found all edges followed. -/
theorem fFold_same {es : List Ed} {within evs : List Int} : ∀ (l : List Ed) {o : List Int}, Inc o → (∀ x ∈ l, x ∈ es) → (l.foldl (fStep within evs) o).length = o.length →
    l.foldl (fStep within evs) o = o ∧ ∀ x ∈ l, x.f ∈ o → hasB within x.t = true → hasB evs x.e = true → x.t ∈ o
  | [], _, _, _, _ => ⟨rfl, fun x hx => by cases hx⟩
  | x :: l, o, hs, hl, he => by
    rw [List.foldl_cons] at he ⊢
    have h1 := fStep_ok (within := within) (evs := evs) hs x (hl x (List.mem_cons_self ..))
    have h2 := fFold_ok (within := within) (evs := evs) l h1.1 (fun y hy => hl y (List.mem_cons_of_mem _ hy))
    have hx : fStep within evs o x = o ∧ (x.f ∈ o → hasB within x.t = true → hasB evs x.e = true → x.t ∈ o) := by
      have hle := h1.2.2
      have hle2 := h2.2.2
      revert hle hle2 he
      unfold fStep
      split
      · rename_i hc
        intro he hle2 hle
        rcases addL_len hs x.t with ⟨h3, h4⟩ | ⟨_, h4⟩
        · exact ⟨h4, fun _ _ _ => h3⟩
        · omega
      · rename_i hc
        intro _ _ _
        exact ⟨rfl, fun a b c => absurd ⟨hasB_true.2 a, b, c⟩ hc⟩
    rw [hx.1] at he ⊢
    have h3 := fFold_same l hs (fun y hy => hl y (List.mem_cons_of_mem _ hy)) he
    refine ⟨h3.1, fun y hy => ?_⟩
    rcases List.mem_cons.1 hy with rfl | hy
    · exact hx.2
    · exact h3.2 y hy

/-- The edges that From follows. -/
def fPerm (within evs : List Int) (x : Ed) : Bool := hasB within x.t && hasB evs x.e
theorem fPerm_true {within evs : List Int} {x : Ed} : fPerm within evs x = true ↔ hasB within x.t = true ∧ hasB evs x.e = true := by simp [fPerm]
/-- All that has been found is led to. -/
def LedTo (es : List Ed) (start within evs : List Int) (s : Int) : Prop := ∃ s0 ∈ start, hasB within s0 = true ∧ ∃ u, Leads es (fPerm within evs) s0 u s
theorem fFold_led {es : List Ed} {start within evs : List Int} : ∀ (l : List Ed) {o : List Int}, Inc o → (∀ x ∈ l, x ∈ es) → (∀ s ∈ o, LedTo es start within evs s) → ∀ s ∈ l.foldl (fStep within evs) o, LedTo es start within evs s
  | [], _, _, _, h => h
  | x :: l, o, hs, hl, h => by
    rw [List.foldl_cons]
    have h1 := fStep_ok (within := within) (evs := evs) hs x (hl x (List.mem_cons_self ..))
    refine fFold_led l h1.1 (fun y hy => hl y (List.mem_cons_of_mem _ hy)) ?_
    unfold fStep
    split
    · rename_i hc
      intro s hs'
      rcases (addL_mem hs _ _).1 hs' with h2 | rfl
      · exact h s h2
      · obtain ⟨s0, h2, h3, u, h4⟩ := h x.f (hasB_true.1 hc.1)
        exact ⟨s0, h2, h3, _, h4.snoc (hl x (List.mem_cons_self ..)) rfl (fPerm_true.2 hc.2)⟩
    · exact h
theorem fLoop_says {es : List Ed} {start within evs : List Int} : ∀ (f : Nat) {o : List Int}, Inc o → news es o < f → (∀ s ∈ o, LedTo es start within evs s) → (∀ s0 ∈ start, hasB within s0 = true → s0 ∈ o) →
    Inc (fLoop es within evs f o) ∧ ∀ s, s ∈ fLoop es within evs f o ↔ LedTo es start within evs s
  | 0, _, _, hf, _, _ => absurd hf (by omega)
  | f + 1, o, hs, hf, hled, hst => by
    have h1 := fFold_ok (es := es) (within := within) (evs := evs) es hs (fun _ h => h)
    have h2 := fFold_led (start := start) (within := within) (evs := evs) es hs (fun _ h => h) hled
    have h3 := fFold_sub (es := es) (within := within) (evs := evs) es hs (fun _ h => h)
    rw [fLoop]
    split
    · rename_i he
      obtain ⟨h4, h5⟩ := fFold_same (es := es) es hs (fun _ h => h) he
      rw [h4]
      refine ⟨hs, fun s => ⟨hled s, ?_⟩⟩
      rintro ⟨s0, hs0, hw0, u, hu⟩
      have key : ∀ (u : List Int) (a b : Int), a ∈ o → Leads es (fPerm within evs) a u b → b ∈ o := by
        intro u
        induction u with
        | nil => intro a b ha h; rw [← show a = b from h]; exact ha
        | cons e u ih =>
          rintro a b ha ⟨x, hx, hf, _, hp, h⟩
          exact ih x.t b (h5 x hx (by rw [hf]; exact ha) (fPerm_true.1 hp).1 (fPerm_true.1 hp).2) h
      exact key u s0 s (hst s0 hs0 hw0) hu
    · rename_i he
      exact fLoop_says f h1.1 (by omega) h2 (fun s0 a b => h3 s0 (hst s0 a b))
theorem fLoop_len {es : List Ed} {within evs : List Int} : ∀ (f : Nat) {o : List Int}, Inc o → (fLoop es within evs f o).length + news es (fLoop es within evs f o) ≤ o.length + news es o
  | 0, _, _ => Nat.le_refl _
  | f + 1, o, hs => by
    have h1 := fFold_ok (es := es) (within := within) (evs := evs) es hs (fun _ h => h)
    rw [fLoop]
    split
    · exact h1.2.1
    · exact Nat.le_trans (fLoop_len f h1.1) h1.2.1
theorem fromL_len (es : List Ed) (start within evs : List Int) : (fromL es start within evs).length ≤ start.length + es.length := by
  have h1 := sFold_ok (within := within) start (o := []) List.Pairwise.nil
  have h2 := fLoop_len (es := es) (within := within) (evs := evs) (es.length + 1) h1.1
  have h3 := news_le es (start.foldl (sStep within) [])
  simp only [List.length_nil] at h1
  unfold fromL
  omega
/-- What From returns: all states that are led to, in order. -/
theorem fromL_says (es : List Ed) (start within evs : List Int) : Inc (fromL es start within evs) ∧ ∀ s, s ∈ fromL es start within evs ↔ LedTo es start within evs s := by
  have h1 := sFold_ok (within := within) start (o := []) List.Pairwise.nil
  have hm : ∀ (l : List Int) {o : List Int}, Inc o → ∀ s, s ∈ l.foldl (sStep within) o ↔ s ∈ o ∨ (s ∈ l ∧ hasB within s = true) := by
    intro l
    induction l with
    | nil => intro o _ s; simp
    | cons a l ih =>
      intro o hs s
      rw [List.foldl_cons, ih (sStep_ok hs a).1]
      unfold sStep
      split
      · rename_i hc
        rw [addL_mem hs, List.mem_cons]
        constructor
        · rintro ((h | rfl) | h)
          · exact .inl h
          · exact .inr ⟨.inl rfl, hc⟩
          · exact .inr ⟨.inr h.1, h.2⟩
        · rintro (h | ⟨rfl | h, h2⟩)
          · exact .inl (.inl h)
          · exact .inl (.inr rfl)
          · exact .inr ⟨h, h2⟩
      · rename_i hc
        rw [List.mem_cons]
        constructor
        · rintro (h | h)
          · exact .inl h
          · exact .inr ⟨.inr h.1, h.2⟩
        · rintro (h | ⟨rfl | h, h2⟩)
          · exact .inl h
          · exact absurd h2 hc
          · exact .inr ⟨h, h2⟩
  unfold fromL
  refine fLoop_says (es.length + 1) h1.1 (by have := news_le es (start.foldl (sStep within) []); omega) (fun s hs => ?_) (fun s0 h2 h3 => (hm start List.Pairwise.nil s0).2 (.inr ⟨h2, h3⟩))
  rcases (hm start List.Pairwise.nil s).1 hs with h | ⟨h2, h3⟩
  · cases h
  · exact ⟨s, h2, h3, [], rfl⟩
end Go.Proofs.Ythchkddhibhenaa

/- The reference's Path as a plain function, and what it says. -/
namespace Go.Proofs.Ythchkddhibhenaa

/-- Runs: words, and the states to which they lead. -/
abbrev Runs := List (List Int × Int)
/-- Whether an edge goes on a run that leads to s. -/
def pOk (W E S : List Int) (s : Int) (x : Ed) : Prop := x.f = s ∧ hasB W x.t = true ∧ hasB E x.e = true ∧ hasB S x.t = false
instance (W E S : List Int) (s : Int) (x : Ed) : Decidable (pOk W E S s x) := by unfold pOk; infer_instance
/-- The edges of one run. -/
def eLoop (W E T : List Int) (r : List Int × Int) : List Ed → List Int → Runs → List Int ⊕ (List Int × Runs)
  | [], S, nx => .inr (S, nx)
  | x :: l, S, nx => if pOk W E S r.2 x then (if hasB T x.t = true then .inl (r.1 ++ [x.e]) else eLoop W E T r l (addL S x.t) (nx ++ [(r.1 ++ [x.e], x.t)])) else eLoop W E T r l S nx
/-- The runs of one level. -/
def rLoop (es : List Ed) (W E T : List Int) : Runs → List Int → Runs → List Int ⊕ (List Int × Runs)
  | [], S, nx => .inr (S, nx)
  | r :: l, S, nx => match eLoop W E T r es S nx with
    | .inl w => .inl w
    | .inr p => rLoop es W E T l p.1 p.2
/-- The levels. -/
def lLoop (es : List Ed) (W E T : List Int) : Nat → Runs → List Int → Option (List Int)
  | 0, _, _ => none
  | f + 1, L, S => if L = [] then none else match rLoop es W E T L S [] with
    | .inl w => some w
    | .inr p => lLoop es W E T f p.2 p.1
/-- What the reference's Path returns. -/
def pathR (es : List Ed) (W E T : List Int) (least s : Int) : Option (List Int) :=
  if hasB W s = false then none else if least = 0 ∧ hasB T s = true then some [] else lLoop es W E T (es.length + 2) [([], s)] []

section
variable {es : List Ed} {W E T : List Int} {s : Int}
theorem eLoop_len {r : List Int × Int} : ∀ (l : List Ed) {S : List Int} {nx : Runs} {p : List Int × Runs}, (∀ x ∈ l, x ∈ es) → Inc S → eLoop W E T r l S nx = .inr p → Inc p.1 ∧ p.2.length + news es p.1 ≤ nx.length + news es S ∧ p.1.length + news es p.1 ≤ S.length + news es S
  | [], S, nx, p, _, hs, h => by
    simp only [eLoop, Sum.inr.injEq] at h
    subst h
    exact ⟨hs, Nat.le_refl _, Nat.le_refl _⟩
  | x :: l, S, nx, p, hl, hs, h => by
    have hl' : ∀ y ∈ l, y ∈ es := fun y hy => hl y (List.mem_cons_of_mem _ hy)
    rw [eLoop] at h
    split at h
    · rename_i hok
      split at h
      · cases h
      · obtain ⟨h1, h2, h3⟩ := eLoop_len l hl' (addL_inc hs _) h
        have hn : x.t ∉ S := fun hm => by have := hok.2.2.2; rw [hasB_true.2 hm] at this; cases this
        rcases news_add hs x (hl x (List.mem_cons_self ..)) with ⟨hm, _⟩ | ⟨e1, e2⟩
        · exact absurd hm hn
        · rw [List.length_append, List.length_singleton] at h2
          exact ⟨h1, by omega, by omega⟩
    · exact eLoop_len l hl' hs h
theorem rLoop_len : ∀ (L : Runs) {S : List Int} {nx : Runs} {p : List Int × Runs}, Inc S → rLoop es W E T L S nx = .inr p → Inc p.1 ∧ p.2.length + news es p.1 ≤ nx.length + news es S ∧ p.1.length + news es p.1 ≤ S.length + news es S
  | [], S, nx, p, hs, h => by
    simp only [rLoop, Sum.inr.injEq] at h
    subst h
    exact ⟨hs, Nat.le_refl _, Nat.le_refl _⟩
  | r :: l, S, nx, p, hs, h => by
    rw [rLoop] at h
    split at h
    · cases h
    · rename_i q hq
      obtain ⟨h1, h2, h3⟩ := eLoop_len es (fun _ hx => hx) hs hq
      obtain ⟨g1, g2, g3⟩ := rLoop_len l h1 h
      exact ⟨g1, by omega, by omega⟩

theorem lLoop_inl {f : Nat} {L : Runs} {S w : List Int} (hL : L ≠ []) (h : rLoop es W E T L S [] = .inl w) : lLoop es W E T (f + 1) L S = some w := by rw [lLoop, if_neg hL, h]
theorem lLoop_inr {f : Nat} {L : Runs} {S : List Int} {p : List Int × Runs} (hL : L ≠ []) (h : rLoop es W E T L S [] = .inr p) : lLoop es W E T (f + 1) L S = lLoop es W E T f p.2 p.1 := by rw [lLoop, if_neg hL, h]
theorem rLoop_inl {r : List Int × Int} {l nx : Runs} {S w : List Int} (h : eLoop W E T r es S nx = .inl w) : rLoop es W E T (r :: l) S nx = .inl w := by rw [rLoop, h]
theorem rLoop_inr {r : List Int × Int} {l nx : Runs} {S : List Int} {p : List Int × Runs} (h : eLoop W E T r es S nx = .inr p) : rLoop es W E T (r :: l) S nx = rLoop es W E T l p.1 p.2 := by rw [rLoop, h]
theorem eLoop_skip {r : List Int × Int} {x : Ed} {l : List Ed} {nx : Runs} {S : List Int} (h : ¬ pOk W E S r.2 x) : eLoop W E T r (x :: l) S nx = eLoop W E T r l S nx := by rw [eLoop, if_neg h]
theorem eLoop_hit {r : List Int × Int} {x : Ed} {l : List Ed} {nx : Runs} {S : List Int} (h : pOk W E S r.2 x) (hT : hasB T x.t = true) : eLoop W E T r (x :: l) S nx = .inl (r.1 ++ [x.e]) := by rw [eLoop, if_pos h, if_pos hT]
theorem eLoop_push {r : List Int × Int} {x : Ed} {l : List Ed} {nx : Runs} {S : List Int} (h : pOk W E S r.2 x) (hT : hasB T x.t = false) : eLoop W E T r (x :: l) S nx = eLoop W E T r l (addL S x.t) (nx ++ [(r.1 ++ [x.e], x.t)]) := by rw [eLoop, if_pos h, if_neg (by rw [hT]; simp)]

/-- What holds while the search goes on; p places have been followed. -/
structure GI (es : List Ed) (W E T : List Int) (s : Int) (S : List Int) (G : Runs) (p : Nat) (b : Int) : Prop where
  inc : Inc S
  zero : G[0]? = some ([], s)
  found : Found es (fPerm W E) s G b
  foll : Followed es (fPerm W E) G 1 p
  seen : ∀ t, t ∈ S ↔ ∃ k : Nat, 1 ≤ k ∧ ∃ r, G[k]? = some r ∧ r.2 = t
  no : ∀ (k : Nat) (r : List Int × Int), 1 ≤ k → G[k]? = some r → hasB T r.2 = false

theorem eLoop_says (he : EvEs es) {r : List Int × Int} {p : Nat} {H : Runs} : ∀ (l : List Ed) {S : List Int} {nx : Runs} {b : Int},
    (∀ x ∈ l, x ∈ es) → Sorted l → GI es W E T s S (H ++ nx) p b → (H ++ nx)[p]? = some r → b ≤ 33 * wval r.1 + 32 → (∀ x ∈ l, x.f = r.2 → b < 33 * wval r.1 + x.e + 1) →
    (∀ x ∈ es, x.f = r.2 → fPerm W E x = true → x ∈ l ∨ ∃ k : Nat, 1 ≤ k ∧ ∃ r', (H ++ nx)[k]? = some r' ∧ r'.2 = x.t ∧ wval r'.1 ≤ 33 * wval r.1 + x.e + 1) →
    match eLoop W E T r l S nx with
    | .inl w => Least es (fPerm W E) (hasB T) s 1 w
    | .inr q => ∃ b', GI es W E T s q.1 (H ++ q.2) (p + 1) b' ∧ (H ++ q.2)[p]? = some r ∧ b' ≤ 33 * wval r.1 + 32
  | [], S, nx, b, _, _, hG, hp, hb, _, hd => by
    refine ⟨b, ⟨hG.inc, hG.zero, hG.found, ?_, hG.seen, hG.no⟩, hp, hb⟩
    intro j hj r' hr' x hx hf hperm
    by_cases hjp : j < p
    · exact hG.foll j hjp r' hr' x hx hf hperm
    · have : j = p := by omega
      subst this
      have e : r' = r := Option.some.inj (hr'.symm.trans hp)
      subst e
      rcases hd x hx hf hperm with h | h
      · cases h
      · exact h
  | x :: l, S, nx, b, hl, hso, hG, hp, hb, hbl, hd => by
    have hl' : ∀ y ∈ l, y ∈ es := fun y hy => hl y (List.mem_cons_of_mem _ hy)
    have hso' : Sorted l := (List.pairwise_cons.1 hso).2
    have hxl := (List.pairwise_cons.1 hso).1
    have hx := hl x (List.mem_cons_self ..)
    have hxe := he x hx
    have hlead := hG.found.lead r (List.mem_of_getElem? hp)
    have hplt : p < (H ++ nx).length := (List.getElem?_eq_some_iff.1 hp).1
    rw [eLoop]
    by_cases hok : pOk W E S r.2 x
    · rw [if_pos hok]
      obtain ⟨hf, hW, hE, hS⟩ := hok
      have hperm : fPerm W E x = true := fPerm_true.2 ⟨hW, hE⟩
      have hlw := hlead.snoc hx hf hperm
      have hbx := hbl x (List.mem_cons_self ..) hf
      have hwv := wval_snoc r.1 x.e
      by_cases hT : hasB T x.t = true
      · rw [if_pos hT]
        refine ⟨hlw.evs he, by simp, ⟨_, hlw, hT⟩, ?_⟩
        intro u t hu ht hlen
        rcases List.eq_nil_or_concat u with rfl | ⟨u0, e, rfl⟩
        · simp at hlen
        rw [List.concat_eq_append] at hu ⊢
        obtain ⟨y, hy, g1, rfl, rfl, g4⟩ := hu.of_snoc
        have hye := he y hy
        rw [hwv, wval_snoc]
        rcases hG.foll.place he hG.found hG.zero u0 y.f g1 with ⟨k, r0, _, hk, hr0, hle⟩ | ⟨r', hk, hlt⟩ | h3
        · by_cases hkp : k < p
          · obtain ⟨k', hk', r', h1, h2, _⟩ := hG.foll k hkp r0 hk y hy hr0.symm g4
            have := hG.no k' r' hk' h1
            rw [h2, ht] at this; cases this
          · by_cases hke : k = p
            · subst hke
              have e : r0 = r := Option.some.inj (hk.symm.trans hp)
              subst e
              rcases hd y hy hr0.symm g4 with h | ⟨k', hk', r', h1, h2, _⟩
              · rcases List.mem_cons.1 h with rfl | h
                · omega
                · have := hxl y h
                  unfold edLt at this
                  omega
              · have := hG.no k' r' hk' h1
                rw [h2, ht] at this; cases this
            · have := hG.found.sorted p k (by omega) r r0 hp hk
              omega
        · have e : r' = r := Option.some.inj (hk.symm.trans hp)
          subst e
          omega
        · omega
      · rw [if_neg hT]
        have hT' : hasB T x.t = false := by simpa using hT
        have hassoc : H ++ (nx ++ [(r.1 ++ [x.e], x.t)]) = (H ++ nx) ++ [(r.1 ++ [x.e], x.t)] := by rw [List.append_assoc]
        have hnew : ((H ++ nx) ++ [(r.1 ++ [x.e], x.t)])[(H ++ nx).length]? = some (r.1 ++ [x.e], x.t) := by
          rw [List.getElem?_append_right (Nat.le_refl _), Nat.sub_self]; rfl
        have hold : ∀ {k : Nat} {r' : List Int × Int}, (H ++ nx)[k]? = some r' → ((H ++ nx) ++ [(r.1 ++ [x.e], x.t)])[k]? = some r' := fun {k r'} h => by
          rw [List.getElem?_append_left (List.getElem?_eq_some_iff.1 h).1]; exact h
        have hcase : ∀ {k : Nat} {r' : List Int × Int}, ((H ++ nx) ++ [(r.1 ++ [x.e], x.t)])[k]? = some r' → (H ++ nx)[k]? = some r' ∨ (k = (H ++ nx).length ∧ r' = (r.1 ++ [x.e], x.t)) := fun {k r'} h => by
          by_cases hk : k < (H ++ nx).length
          · rw [List.getElem?_append_left hk] at h; exact .inl h
          · have h2 := (List.getElem?_eq_some_iff.1 h).1
            rw [List.length_append, List.length_singleton] at h2
            have e : k = (H ++ nx).length := by omega
            rw [e] at h ⊢
            rw [hnew] at h
            exact .inr ⟨rfl, (Option.some.inj h).symm⟩
        refine eLoop_says he (H := H) l (b := wval (r.1 ++ [x.e])) hl' hso' ?_ ?_ (by omega) ?_ ?_
        · rw [hassoc]
          refine ⟨addL_inc hG.inc _, hold hG.zero, hG.found.push hlw (by omega), hG.foll.append (by omega) _, ?_, ?_⟩
          · intro t
            rw [addL_mem hG.inc, hG.seen]
            constructor
            · rintro (⟨k, hk, r', h1, h2⟩ | rfl)
              · exact ⟨k, hk, r', hold h1, h2⟩
              · exact ⟨_, by omega, _, hnew, rfl⟩
            · rintro ⟨k, hk, r', h1, h2⟩
              rcases hcase h1 with h | ⟨_, rfl⟩
              · exact .inl ⟨k, hk, r', h, h2⟩
              · exact .inr h2.symm
          · intro k r' hk h1
            rcases hcase h1 with h | ⟨_, rfl⟩
            · exact hG.no k r' hk h
            · exact hT'
        · rw [hassoc]; exact hold hp
        · intro y hy hyf
          have := hxl y hy
          unfold edLt at this
          omega
        · intro y hy hyf hyp
          rw [hassoc]
          rcases hd y hy hyf hyp with h | ⟨k, hk, r', h1, h2⟩
          · rcases List.mem_cons.1 h with rfl | h
            · exact .inr ⟨_, by omega, _, hnew, rfl, by dsimp only; omega⟩
            · exact .inl h
          · exact .inr ⟨k, hk, r', hold h1, h2⟩
    · rw [if_neg hok]
      refine eLoop_says he l hl' hso' hG hp hb (fun y hy => hbl y (List.mem_cons_of_mem _ hy)) ?_
      intro y hy hyf hyp
      rcases hd y hy hyf hyp with h | h
      · rcases List.mem_cons.1 h with rfl | h
        · obtain ⟨hW, hE⟩ := fPerm_true.1 hyp
          have hS : hasB S y.t = true := by
            by_cases hS : hasB S y.t = true
            · exact hS
            · exact absurd ⟨hyf, hW, hE, by simpa using hS⟩ hok
          obtain ⟨k, hk, r', h1, h2⟩ := (hG.seen _).1 (hasB_true.1 hS)
          have h3 := hG.found.bd r' (List.mem_of_getElem? h1)
          have h4 := hbl y (List.mem_cons_self ..) hyf
          exact .inr ⟨k, hk, r', h1, h2, by omega⟩
        · exact .inl h
      · exact .inr h

theorem rLoop_says (he : EvEs es) (hso : Sorted es) : ∀ (rs : Runs) {G1 : Runs} {S : List Int} {nx : Runs} {b : Int},
    GI es W E T s S (G1 ++ rs ++ nx) G1.length b → (∀ r, (G1 ++ rs ++ nx)[G1.length]? = some r → b ≤ 33 * wval r.1) →
    match rLoop es W E T rs S nx with
    | .inl w => Least es (fPerm W E) (hasB T) s 1 w
    | .inr q => ∃ b', GI es W E T s q.1 (G1 ++ rs ++ q.2) (G1.length + rs.length) b' ∧ ∀ r, (G1 ++ rs ++ q.2)[G1.length + rs.length]? = some r → b' ≤ 33 * wval r.1
  | [], G1, S, nx, b, hG, hb => ⟨b, hG, hb⟩
  | r :: l, G1, S, nx, b, hG, hb => by
    have hp : (G1 ++ r :: l ++ nx)[G1.length]? = some r := by
      rw [List.append_assoc, List.getElem?_append_right (Nat.le_refl _), Nat.sub_self]; rfl
    have h1 := eLoop_says (r := r) (p := G1.length) (H := G1 ++ r :: l) he es (nx := nx) (fun _ h => h) hso hG hp (by have := hb r hp; omega) (fun x hx _ => by have := hb r hp; have := he x hx; omega) (fun x hx _ _ => .inl hx)
    rw [rLoop]
    cases hq : eLoop W E T r es S nx with
    | inl w => rw [hq] at h1; exact h1
    | inr q =>
      rw [hq] at h1
      obtain ⟨b', hG', hp', hb'⟩ := h1
      have e : ∀ M : Runs, G1 ++ r :: l ++ M = (G1 ++ [r]) ++ l ++ M := fun M => by simp
      have e2 : G1.length + 1 = (G1 ++ [r]).length := by simp
      have e3 : G1.length + (r :: l).length = (G1 ++ [r]).length + l.length := by simp; omega
      dsimp only at hG' hp' hb' ⊢
      rw [e] at hG'
      rw [e2] at hG'
      have h2 := rLoop_says he hso l (G1 := G1 ++ [r]) (S := q.1) (nx := q.2) (b := b') hG' (fun r2 hr2 => by
        have h5 := hG'.found.sorted G1.length (G1 ++ [r]).length (by simp) r r2 (by rw [← e]; exact hp') hr2
        omega)
      simp only [e, e3]
      exact h2

theorem lLoop_says (he : EvEs es) (hso : Sorted es) : ∀ (f : Nat) {G1 L : Runs} {S : List Int} {b : Int},
    GI es W E T s S (G1 ++ L) G1.length b → (∀ r, (G1 ++ L)[G1.length]? = some r → b ≤ 33 * wval r.1) → 1 ≤ f → (L ≠ [] → news es S + 2 ≤ f) →
    match lLoop es W E T f L S with
    | some w => Least es (fPerm W E) (hasB T) s 1 w
    | none => ∀ u t, Leads es (fPerm W E) s u t → 1 ≤ u.length → hasB T t = false
  | 0, _, _, _, _, _, _, h, _ => absurd h (by omega)
  | f + 1, G1, L, S, b, hG, hb, _, hf => by
    rw [lLoop]
    by_cases hL : L = []
    · subst hL
      rw [if_pos rfl]
      rw [List.append_nil] at hG
      intro u t hu hlen
      obtain ⟨k, r, hk0, hk, rfl, _⟩ := hG.foll.all he hG.zero u t hu
      rcases hk0 with rfl | hk0
      · simp at hlen
      · exact hG.no k r hk0 hk
    · rw [if_neg hL]
      have h1 := rLoop_says he hso L (G1 := G1) (S := S) (nx := []) (b := b) (by rw [List.append_nil]; exact hG) (by rw [List.append_nil]; exact hb)
      have hf' := hf hL
      cases hq : rLoop es W E T L S [] with
      | inl w => rw [hq] at h1; exact h1
      | inr q =>
        rw [hq] at h1
        obtain ⟨b', hG', hb'⟩ := h1
        obtain ⟨_, hn, _⟩ := rLoop_len L hG.inc hq
        simp only [List.length_nil, Nat.zero_add] at hn
        rw [← List.length_append] at hG' hb'
        refine lLoop_says he hso f hG' hb' (by omega) (fun hne => ?_)
        have := List.length_pos_iff.2 hne
        omega

/-- What the reference's Path says: the least word, or that there is none. -/
theorem pathR_says (he : EvEs es) (hso : Sorted es) (least : Nat) (hl : least ≤ 1) (hs : hasB W s = true) :
    match pathR es W E T least s with
    | some w => Least es (fPerm W E) (hasB T) s least w
    | none => ∀ u t, Leads es (fPerm W E) s u t → least ≤ u.length → hasB T t = false := by
  have h0 : GI es W E T s [] ([] ++ [([], s)]) ([] : Runs).length 0 := by
    refine ⟨List.Pairwise.nil, rfl, ⟨?_, ?_, ?_⟩, fun j hj => absurd hj (by simp), ?_, ?_⟩
    · intro r hr
      rw [List.mem_singleton.1 hr]; rfl
    · intro j k hjk r r' hj hk
      have := (List.getElem?_eq_some_iff.1 hk).1
      simp at this; omega
    · intro r hr
      rw [List.mem_singleton.1 hr]; exact Int.le_refl 0
    · intro t
      constructor
      · intro h; cases h
      · rintro ⟨k, hk, r, hr, _⟩
        have := (List.getElem?_eq_some_iff.1 hr).1
        simp at this; omega
    · intro k r hk hr
      have := (List.getElem?_eq_some_iff.1 hr).1
      simp at this; omega
  have h1 := lLoop_says he hso (es.length + 2) h0 (fun r hr => by
    simp only [List.nil_append, List.length_nil, List.getElem?_cons_zero, Option.some.injEq] at hr
    subst hr; exact Int.le_refl 0) (by omega) (fun _ => by have := news_le es []; omega)
  unfold pathR
  rw [hs, if_neg (by simp)]
  by_cases hT : ((least : Nat) : Int) = 0 ∧ hasB T s = true
  · rw [if_pos hT]
    have e : least = 0 := by omega
    subst e
    exact ⟨Evs.nil, Nat.zero_le _, ⟨s, rfl, hT.2⟩, fun u t hu _ _ => wval_nonneg u (hu.evs he)⟩
  · rw [if_neg hT]
    cases hq : lLoop es W E T (es.length + 2) [([], s)] [] with
    | some w =>
      rw [hq] at h1
      by_cases h0 : least = 0
      · subst h0
        have hs0 : hasB T s = false := by
          by_cases h : hasB T s = true
          · exact absurd ⟨rfl, h⟩ hT
          · simpa using h
        refine ⟨h1.ev, Nat.zero_le _, h1.leads, fun u t hu ht _ => ?_⟩
        by_cases hu0 : u = []
        · subst hu0
          have : s = t := hu
          rw [← this, hs0] at ht; cases ht
        · exact h1.le u t hu ht (List.length_pos_iff.2 hu0)
      · have e : least = 1 := by omega
        subst e
        exact h1
    | none =>
      rw [hq] at h1
      intro u t hu hlen
      by_cases hu0 : u = []
      · subst hu0
        have e : s = t := hu
        have e0 : least = 0 := by simpa using hlen
        subst e0 e
        by_cases h : hasB T s = true
        · exact absurd ⟨rfl, h⟩ hT
        · simpa using h
      · exact h1 u t hu (List.length_pos_iff.2 hu0)
end
end Go.Proofs.Ythchkddhibhenaa

/- What holds of the memory while the reference's Path searches. -/
namespace Go.Proofs.Ythchkddhibhenaa
open Go.RowKit

/-- Runs in memory: the word's value, the word, the state. -/
abbrev MRuns := List (Value × List Int × Int)
def runCells (M : MRuns) : List Value := M.flatMap fun m => [m.1, .int .i64 m.2.2]
theorem runCells_length : ∀ M : MRuns, (runCells M).length = M.length * 2
  | [] => rfl
  | m :: M => by
    have := runCells_length M
    simp only [runCells, List.flatMap_cons, List.length_append, List.length_cons, List.length_nil] at this ⊢
    omega
theorem runCells_at : ∀ (M : MRuns) (i : Nat) (h : i < M.length), (runCells M)[i * 2]? = some M[i].1 ∧ (runCells M)[i * 2 + 1]? = some (.int .i64 M[i].2.2)
  | m :: M, 0, _ => ⟨rfl, rfl⟩
  | m :: M, i + 1, h => by
    obtain ⟨h1, h2⟩ := runCells_at M i (by simpa using h)
    have e : (i + 1) * 2 = i * 2 + 2 := by omega
    rw [e]
    exact ⟨h1, h2⟩
theorem runCells_snoc (M : MRuns) (v : Value) (u : List Int) (t : Int) : runCells (M ++ [(v, u, t)]) = runCells M ++ [v, .int .i64 t] := by
  simp [runCells, List.flatMap_append]
/-- The runs without their values. -/
def bare (M : MRuns) : Runs := M.map Prod.snd
theorem bare_snoc (M : MRuns) (v : Value) (u : List Int) (t : Int) : bare (M ++ [(v, u, t)]) = bare M ++ [(u, t)] := by simp [bare]

section
variable {w w' : World} {B : Nat} {tag : Nat → Nat} {k : Nat} {t : TypeId} {sz : Nat} {v : Value} {n : Nat} {cs : List Value}
/-- Tags may be named anew. -/
theorem Row.name (f : Nat → Nat) (h : Row w B tag k t sz v n cs) : Row w B (fun b => f (tag b)) (f k) t sz v n cs :=
  ⟨h.1, h.2.imp id fun ⟨b, off, cap, cur, h1, h2, h3⟩ => ⟨b, off, cap, cur, h1, ⟨h2.heap, by show f (tag b) = f k; rw [h2.htag], h2.base⟩, h3⟩⟩
theorem Box4.name (f : Nat → Nat) (hf : f 0 = 0) {b : Nat} {c0 c1 c2 c3 : Value} (h : Box4 w tag b c0 c1 c2 c3) : Box4 w (fun b => f (tag b)) b c0 c1 c2 c3 :=
  ⟨by show f (tag b) = 0; rw [h.htag, hf], h.lt, h.x0, h.x1, h.x2, h.x3⟩
/-- A callee's row, of a tag that is wanted. -/
theorem Row.of_row {B' : Nat} {tag' : Nat → Nat} {k' : Nat} (h : Row w B' tag' k' t sz v n cs) (hB : B ≤ B') (htag : ∀ b, B' ≤ b → tag b = k) : Row w B tag k t sz v n cs :=
  ⟨h.1, h.2.imp id fun ⟨b, off, cap, cur, h1, h2, h3⟩ => ⟨b, off, cap, cur, h1, ⟨h2.heap, htag b h2.base, Nat.le_trans hB h2.base⟩, h3⟩⟩
end

structure RInv (w : World) (c0 c1 c2 c3 : Value) (wr : World) (tag : Nat → Nat) (vL : Value) (ML : MRuns) (vS : Value) (S : List Int) (vN : Value) (MN : MRuns) : Prop where
  bel : Below w.heap.size w wr
  box : Box4 wr tag w.heap.size c0 c1 c2 c3
  lv : Row wr w.heap.size tag 3 92 2 vL ML.length (runCells ML)
  wl : ∀ m ∈ ML, Row wr w.heap.size tag 2 3 1 m.1 m.2.1.length (ints m.2.1)
  se : Row wr w.heap.size tag 4 3 1 vS S.length (ints S)
  nx : Row wr w.heap.size tag 1 92 2 vN MN.length (runCells MN)
  wn : ∀ m ∈ MN, Row wr w.heap.size tag 2 3 1 m.1 m.2.1.length (ints m.2.1)

section
variable {w : World} {c0 c1 c2 c3 : Value} {wr wr' : World} {tag tag' : Nat → Nat} {vL : Value} {ML : MRuns} {vS : Value} {S : List Int} {vN : Value} {MN : MRuns} {k : Nat}
/-- Other blocks turn. -/
theorem RInv.turn (h : RInv w c0 c1 c2 c3 wr tag vL ML vS S vN MN) (ht : Turn w.heap.size tag tag' k wr wr') (hk : 5 ≤ k) : RInv w c0 c1 c2 c3 wr' tag' vL ML vS S vN MN :=
  ⟨belTurn h.bel ht h.bel.size, h.box.turn ht (by omega), h.lv.turn ht (by omega), fun m hm => (h.wl m hm).turn ht (by omega), h.se.turn ht (by omega), h.nx.turn ht (by omega), fun m hm => (h.wn m hm).turn ht (by omega)⟩
/-- A state more is seen. -/
theorem RInv.see (h : RInv w c0 c1 c2 c3 wr tag vL ML vS S vN MN) (hb : Below wr.heap.size wr wr') {vS' : Value} {S' : List Int} {tg : Nat → Nat} {kk : Nat} (hr : Row wr' wr.heap.size tg kk 3 1 vS' S'.length (ints S')) :
    RInv w c0 c1 c2 c3 wr' (tagFrom tag wr.heap.size 4) vL ML vS' S' vN MN := by
  have ht : Turn w.heap.size tag (tagFrom tag wr.heap.size 4) 4 wr wr' := Turn.call hb
  exact ⟨belTurn h.bel ht h.bel.size, h.box.turn ht (by decide), h.lv.turn ht (by decide), fun m hm => (h.wl m hm).turn ht (by decide), hr.of_row h.bel.size (fun b hb => if_neg (by omega)), h.nx.turn ht (by decide), fun m hm => (h.wn m hm).turn ht (by decide)⟩
/-- A run more, behind a word that was made with the tag 6. -/
theorem RInv.push (h : RInv w c0 c1 c2 c3 wr tag vL ML vS S vN MN) {vw : Value} {u : List Int} {t : Int} (hw : Row wr w.heap.size tag 6 3 1 vw u.length (ints u)) {vN' : Value} (ht : Turn w.heap.size tag tag' 1 wr wr')
    (hr : Row wr' w.heap.size tag' 1 92 2 vN' (MN.length + 1) (runCells MN ++ [vw, .int .i64 t])) :
    RInv w c0 c1 c2 c3 wr' (fun b => (fun j => if j = 6 then 2 else j) (tag' b)) vL ML vS S vN' (MN ++ [(vw, u, t)]) := by
  have f2 : ∀ {v : Value} {n : Nat} {cs : List Value}, Row wr' w.heap.size tag' 2 3 1 v n cs → Row wr' w.heap.size (fun b => (fun j => if j = 6 then 2 else j) (tag' b)) 2 3 1 v n cs := fun h => h.name (fun j => if j = 6 then 2 else j)
  refine ⟨belTurn h.bel ht h.bel.size, (h.box.turn ht (by decide)).name (fun j => if j = 6 then 2 else j) rfl, (h.lv.turn ht (by decide)).name (fun j => if j = 6 then 2 else j), fun m hm => f2 ((h.wl m hm).turn ht (by decide)), (h.se.turn ht (by decide)).name (fun j => if j = 6 then 2 else j), ?_, fun m hm => ?_⟩
  · rw [List.length_append, List.length_singleton, runCells_snoc]
    exact hr.name (fun j => if j = 6 then 2 else j)
  · rcases List.mem_append.1 hm with hm | hm
    · exact f2 ((h.wn m hm).turn ht (by decide))
    · rw [List.mem_singleton.1 hm]
      exact (hw.turn ht (by decide)).name (fun j => if j = 6 then 2 else j)
/-- The next level. -/
theorem RInv.level (h : RInv w c0 c1 c2 c3 wr tag vL ML vS S vN MN) : RInv w c0 c1 c2 c3 wr (fun b => (fun j => if j = 1 then 3 else j) (tag b)) vN MN vS S (.slice none 0 0) [] :=
  ⟨h.bel, h.box.name (fun j => if j = 1 then 3 else j) rfl, h.nx.name (fun j => if j = 1 then 3 else j), fun m hm => (h.wn m hm).name (fun j => if j = 1 then 3 else j), h.se.name (fun j => if j = 1 then 3 else j), Row.nil _ _ _ _ _ _, fun m hm => by cases hm⟩
/-- A run of the level in memory. -/
theorem RInv.at_run (h : RInv w c0 c1 c2 c3 wr tag vL ML vS S vN MN) (i : Nat) (hi : i < ML.length) : ∃ b off cap, vL = .slice (some ⟨b, off, none⟩) ML.length cap ∧ b < wr.heap.size ∧ wr.cell? ⟨b, off + i * 2, none⟩ = some ML[i].1 ∧ wr.cell? ⟨b, off + i * 2 + 1, none⟩ = some (.int .i64 ML[i].2.2) ∧ Row wr w.heap.size tag 2 3 1 ML[i].1 ML[i].2.1.length (ints ML[i].2.1) := by
  obtain ⟨b, off, cap, e, hlt, _, _⟩ := h.lv.addr (by omega)
  have hl := h.lv
  rw [e] at hl
  obtain ⟨h1, h2⟩ := runCells_at ML i hi
  refine ⟨b, off, cap, e, hlt, ?_, ?_, h.wl _ (List.getElem_mem hi)⟩
  · rw [hl.cellAt (i * 2) (by omega), h1]
  · rw [Nat.add_assoc, hl.cellAt (i * 2 + 1) (by omega), h2]
end
end Go.Proofs.Ythchkddhibhenaa

/- What holds while a copy of a word, with one letter more, is made in whatever order. -/
namespace Go.Proofs.Ythchkddhibhenaa
open Go Go.RowKit

section
variable {w w' : World} {B : Nat} {tag tag' : Nat → Nat} {k k' : Nat} {t : TypeId} {sz : Nat} {v : Value} {n : Nat} {cs : List Value}
theorem Row.up (h : Row w B tag k t sz v n cs) (o : Obj) (k' : Nat) : Row (w.alloc o) B (tagUp tag w.heap.size k') k t sz v n cs :=
  ⟨h.1, h.2.imp id fun ⟨b, off, cap, cur, h1, h2, h3⟩ => ⟨b, off, cap, cur, h1, ⟨((bel_alloc w o).block b h2.lt).trans h2.heap, (tagUp_lt h2.lt).trans h2.htag, h2.base⟩, h3⟩⟩
theorem Row.fresh (w : World) (B : Nat) (tag : Nat → Nat) (k : Nat) (t : TypeId) (cs : List Value) (hB : B ≤ w.heap.size) (hl : cs.length ≤ maxLen) :
    Row (w.alloc (.cells cs.toArray t)) B (tagUp tag w.heap.size k) k t 1 (.slice (some ⟨w.heap.size, 0, none⟩) cs.length cs.length) cs.length cs :=
  ⟨by simp, .inr ⟨w.heap.size, 0, cs.length, cs.toArray, rfl, Own.new w B _ k _ t hB (tagUp_at _ _ _), Nat.le_refl _, hl, by simp, by simp⟩⟩
end

/-- A slice as the source of an append. -/
theorem RdS.src {w : World} {sz len cap : Nat} {a : Option Addr} {cs : List Value} (h : RdS w sz a len cap cs) : (a = none → len = 0 ∧ cap = 0) ∧ ∀ ad, a = some ad → ∀ j u, cs[j]? = some u → w.cell? (ad.add j) = some u := by
  refine ⟨fun e => ⟨by have := h.hnil e; have := h.hcap; omega, h.hnil e⟩, fun ad e j u hu => ?_⟩
  subst e
  obtain ⟨b, off, sp⟩ := ad
  obtain rfl : sp = none := h.spot _ rfl
  exact own_src h j u hu

/-- append to a row, as an operation of a region that draws. -/
theorem StepG.append_row {P : Program} {ops : Array Oper} {Q : Exit → Act → World → Prop} {o : Oper} {a : Act} {w : World} {K' : Act → World → Prop} {B : Nat} {tag : Nat → Nat} {k : Nat} {sz : Nat} {v : Value} {n : Nat} {cs : List Value} (hgd : o.guard = none) (s x : Operand) (tt : TypeId)
    (ho : o.op = .call { callee := .builtin .append, args := #[s, x], argTypes := #[tt, tt] })
    (e : TypeId) (i : TypeInfo) (z : Value) (bytes : Nat) (ht : P.underlying tt = some (.slice e)) (hi : P.info? e = some i) (hz : i.zero = some z)
    (hsize : i.size = sz) (hby : i.bytes = bytes) (hzs : z.cells.size = sz) (hs : a.eval s = v) (hrow : Row w B tag k e sz v n cs)
    (ao : Option Addr) (m c : Nat) (news : List Value) (hx : a.eval x = .slice ao m c) (hl : news.length = m * sz) (hnone : ao = none → m = 0 ∧ c = 0)
    (hnews : ∀ ad, ao = some ad → ∀ j u, news[j]? = some u → w.cell? (ad.add j) = some u) (h1 : ∀ u ∈ news, u.oneCell' = true)
    (h63 : n + m ≤ maxLen) (hbytes : (n + m) * bytes ≤ 140737488355328) (hB : B ≤ w.heap.size)
    (h : ∀ v' w' tag', Row w' B tag' k e sz v' (n + m) (cs ++ news) → Turn B tag tag' k w w' → K' (a.put o.dst v') w') : StepG P ops Q o a w K' := by
  obtain ⟨v', w', tag', hr, h2, h3⟩ := run_append_row (P := P) (w := w) (ty := o.type) tt e i z bytes ht hi hz hsize hby hzs hrow ao m c news hl hnone hnews h1 h63 hbytes hB
  refine StepG.mk ?_
  rw [if_pos (by simp [Region.wanted, hgd])]
  unfold Oper.wp execOp
  simp only [ho, resolve, invoke, builtin, Sem.run_bind, Sem.run_pure, Result.andThen_ok, List.map_toArray, List.map_cons, List.map_nil, hs, hx, hr]
  exact h v' w' tag' h2 h3

/-- What holds while the word is made: Φ of the rest, PR of the slots that hold no memory of the word. -/
structure RApp (Φ : (Nat → Nat) → World → Prop) (PR : Nat → Value → Prop) (B : Nat) (word : List Int) (x : Int) (l : Array Bool) (us : List Value) (tag : Nat → Nat) (W : World) : Prop where
  len : us.length = 12
  size : B ≤ W.heap.size
  phi : Φ tag W
  pure : ∀ j, j < 12 → l.getD j false = true → PR j (us.getD j undef)
  s0 : l.getD 0 false = true → l.getD 6 false = false → Row W B tag 6 3 1 (us.getD 0 undef) 0 []
  s6 : l.getD 6 false = true → l.getD 10 false = false → Row W B tag 6 3 1 (us.getD 6 undef) word.length (ints word)
  s9 : l.getD 9 false = true → Row W B tag 7 3 1 (us.getD 9 undef) 1 [.int .i64 x]
  s10 : l.getD 10 false = true → Row W B tag 6 3 1 (us.getD 10 undef) (word ++ [x]).length (ints (word ++ [x]))
  s11 : l.getD 11 false = true → Row W B tag 6 3 1 (us.getD 11 undef) (word ++ [x]).length (ints (word ++ [x]))
  o6 : l.getD 6 false = true → l.getD 0 false = true
  o10 : l.getD 10 false = true → l.getD 6 false = true
  o11 : l.getD 11 false = true → l.getD 10 false = true

section
variable {Φ : (Nat → Nat) → World → Prop} {PR : Nat → Value → Prop} {B : Nat} {word : List Int} {x : Int} {l : Array Bool} {us : List Value} {tag tag' : Nat → Nat} {W W' : World} {k : Nat} {v : Value}
theorem RApp.start {us : List Value} (hlen : us.length = 12) (hs : B ≤ W.heap.size) (hphi : Φ tag W) : RApp Φ PR B word x (Array.replicate 12 false) us tag W := by
  have h : ∀ j, (Array.replicate 12 false).getD j false = true → False := by
    intro j
    rw [Array.getD_eq_getD_getElem?, Array.getElem?_replicate]
    split <;> simp
  exact ⟨hlen, hs, hphi, fun j _ e => (h _ e).elim, fun e => (h _ e).elim, fun e => (h _ e).elim, fun e => (h _ e).elim, fun e => (h _ e).elim, fun e => (h _ e).elim, fun e => (h _ e).elim, fun e => (h _ e).elim, fun e => (h _ e).elim⟩
theorem set_self {us : List Value} {k n : Nat} {v : Value} (h : us.length = n) (hk : k < n) : (us.set k v).getD k undef = v := by
  rw [List.getD_eq_getElem?_getD, List.getElem?_set_self (by omega)]; rfl
theorem set_ne {us : List Value} {k j : Nat} {v : Value} (h : k ≠ j) : (us.set k v).getD j undef = us.getD j undef := by
  rw [List.getD_eq_getElem?_getD, List.getElem?_set_ne h, ← List.getD_eq_getElem?_getD]
theorem pure_next {PR : Nat → Value → Prop} {n : Nat} (hl : ∀ j, j < n → (l.setIfInBounds k true).getD j false = (j == k || l.getD j false)) (hlen : us.length = n) (hp : ∀ j, j < n → l.getD j false = true → PR j (us.getD j undef)) (hv : PR k v) : ∀ j, j < n → (l.setIfInBounds k true).getD j false = true → PR j ((us.set k v).getD j undef) := by
  intro j hj h
  by_cases e : k = j
  · subst e
    rw [set_self hlen hj]
    exact hv
  · rw [hl j hj, show (j == k) = false by simp; omega, Bool.false_or] at h
    rw [set_ne e]
    exact hp j hj h
/-- A slot without memory of the word. -/
theorem RApp.pureStep (h : RApp Φ PR B word x l us tag W) (hl : ∀ j, j < 12 → (l.setIfInBounds k true).getD j false = (j == k || l.getD j false)) (hk : k ≠ 0 ∧ k ≠ 6 ∧ k ≠ 9 ∧ k ≠ 10 ∧ k ≠ 11) (hv : PR k v) : RApp Φ PR B word x (l.setIfInBounds k true) (us.set k v) tag W := by
  have e0 := hl 0 (by decide)
  have e6 := hl 6 (by decide)
  have e9 := hl 9 (by decide)
  have e10 := hl 10 (by decide)
  have e11 := hl 11 (by decide)
  rw [show ((0 : Nat) == k) = false by simp; omega, Bool.false_or] at e0
  rw [show ((6 : Nat) == k) = false by simp; omega, Bool.false_or] at e6
  rw [show ((9 : Nat) == k) = false by simp; omega, Bool.false_or] at e9
  rw [show ((10 : Nat) == k) = false by simp; omega, Bool.false_or] at e10
  rw [show ((11 : Nat) == k) = false by simp; omega, Bool.false_or] at e11
  refine ⟨by rw [List.length_set]; exact h.len, h.size, h.phi, pure_next hl h.len h.pure hv, ?_, ?_, ?_, ?_, ?_, ?_, ?_, ?_⟩
  · rw [e0, e6, set_ne (by omega)]; exact h.s0
  · rw [e6, e10, set_ne (by omega)]; exact h.s6
  · rw [e9, set_ne (by omega)]; exact h.s9
  · rw [e10, set_ne (by omega)]; exact h.s10
  · rw [e11, set_ne (by omega)]; exact h.s11
  · rw [e0, e6]; exact h.o6
  · rw [e6, e10]; exact h.o10
  · rw [e11, e10]; exact h.o11
/-- The empty list that is made first. -/
theorem RApp.op0 (h : RApp Φ PR B word x l us tag W) (hl : ∀ j, j < 12 → (l.setIfInBounds 0 true).getD j false = (j == 0 || l.getD j false)) (hphi : ∀ {tag tag' k W W'}, Turn B tag tag' k W W' → B ≤ W.heap.size → 6 ≤ k → Φ tag W → Φ tag' W') (hn : l.getD 0 false = false) (hv : ∀ v, PR 0 v) :
    RApp Φ PR B word x (l.setIfInBounds 0 true) (us.set 0 (.slice (some ⟨W.heap.size, 0, none⟩) 0 0)) (tagUp tag W.heap.size 6) (W.alloc (.cells #[] 3)) := by
  have h6 : l.getD 6 false = false := by
    cases h6 : l.getD 6 false with
    | false => rfl
    | true => rw [h.o6 h6] at hn; cases hn
  refine ⟨by rw [List.length_set]; exact h.len, by have := h.size; simp; omega, hphi (Turn.alloc _) h.size (by decide) h.phi, pure_next hl h.len h.pure (hv _), ?_, ?_, ?_, ?_, ?_, ?_, ?_, ?_⟩
  · intro _ _
    rw [set_self h.len (by decide)]
    exact Row.fresh W B tag 6 3 [] h.size (by decide)
  · rw [hl 6 (by decide), show ((6 : Nat) == 0) = false from rfl, Bool.false_or, h6]; intro e; cases e
  · rw [hl 9 (by decide), show ((9 : Nat) == 0) = false from rfl, Bool.false_or, set_ne (by decide)]; exact fun e => (h.s9 e).up _ _
  · rw [hl 10 (by decide), show ((10 : Nat) == 0) = false from rfl, Bool.false_or, set_ne (by decide)]; exact fun e => (h.s10 e).up _ _
  · rw [hl 11 (by decide), show ((11 : Nat) == 0) = false from rfl, Bool.false_or, set_ne (by decide)]; exact fun e => (h.s11 e).up _ _
  · intro _; rw [hl 0 (by decide)]; rfl
  · rw [hl 6 (by decide), hl 10 (by decide)]; exact h.o10
  · rw [hl 11 (by decide), hl 10 (by decide)]; exact h.o11
/-- The letter's own list. -/
theorem RApp.op9 (h : RApp Φ PR B word x l us tag W) (hl : ∀ j, j < 12 → (l.setIfInBounds 9 true).getD j false = (j == 9 || l.getD j false)) (hphi : ∀ {tag tag' k W W'}, Turn B tag tag' k W W' → B ≤ W.heap.size → 6 ≤ k → Φ tag W → Φ tag' W') (hv : ∀ v, PR 9 v) :
    RApp Φ PR B word x (l.setIfInBounds 9 true) (us.set 9 (.slice (some ⟨W.heap.size, 0, none⟩) 1 1)) (tagUp tag W.heap.size 7) (W.alloc (.cells #[.int .i64 x] 3)) := by
  refine ⟨by rw [List.length_set]; exact h.len, by have := h.size; simp; omega, hphi (Turn.alloc _) h.size (by decide) h.phi, pure_next hl h.len h.pure (hv _), ?_, ?_, ?_, ?_, ?_, ?_, ?_, ?_⟩
  · rw [hl 0 (by decide), hl 6 (by decide), show ((6 : Nat) == 9) = false from rfl, Bool.false_or, show ((0 : Nat) == 9) = false from rfl, Bool.false_or, set_ne (by decide)]; exact fun e e' => (h.s0 e e').up _ _
  · rw [hl 6 (by decide), hl 10 (by decide), show ((6 : Nat) == 9) = false from rfl, Bool.false_or, show ((10 : Nat) == 9) = false from rfl, Bool.false_or, set_ne (by decide)]; exact fun e e' => (h.s6 e e').up _ _
  · intro _
    rw [set_self h.len (by decide)]
    exact Row.fresh W B tag 7 3 [.int .i64 x] h.size (by show 1 ≤ maxLen; decide)
  · rw [hl 10 (by decide), show ((10 : Nat) == 9) = false from rfl, Bool.false_or, set_ne (by decide)]; exact fun e => (h.s10 e).up _ _
  · rw [hl 11 (by decide), show ((11 : Nat) == 9) = false from rfl, Bool.false_or, set_ne (by decide)]; exact fun e => (h.s11 e).up _ _
  · rw [hl 0 (by decide), hl 6 (by decide)]; exact h.o6
  · rw [hl 6 (by decide), hl 10 (by decide)]; exact h.o10
  · rw [hl 11 (by decide), hl 10 (by decide)]; exact h.o11
/-- The word behind the empty list. -/
theorem RApp.op6 (h : RApp Φ PR B word x l us tag W) (hl : ∀ j, j < 12 → (l.setIfInBounds 6 true).getD j false = (j == 6 || l.getD j false)) (hphi : ∀ {tag tag' k W W'}, Turn B tag tag' k W W' → B ≤ W.heap.size → 6 ≤ k → Φ tag W → Φ tag' W') (hn : l.getD 6 false = false) (h0 : l.getD 0 false = true) (hv : ∀ v, PR 6 v)
    {v : Value} (ht : Turn B tag tag' 6 W W') (hr : Row W' B tag' 6 3 1 v (0 + word.length) ([] ++ ints word)) :
    RApp Φ PR B word x (l.setIfInBounds 6 true) (us.set 6 v) tag' W' := by
  have h10 : l.getD 10 false = false := by
    cases h10 : l.getD 10 false with
    | false => rfl
    | true => rw [h.o10 h10] at hn; cases hn
  have h11 : l.getD 11 false = false := by
    cases h11 : l.getD 11 false with
    | false => rfl
    | true => rw [h.o11 h11] at h10; cases h10
  refine ⟨by rw [List.length_set]; exact h.len, Nat.le_trans h.size ht.size, hphi ht h.size (by decide) h.phi, pure_next hl h.len h.pure (hv _), ?_, ?_, ?_, ?_, ?_, ?_, ?_, ?_⟩
  · rw [hl 6 (by decide)]; intro _ e; cases e
  · intro _ _
    rw [set_self h.len (by decide)]
    rw [Nat.zero_add] at hr
    exact hr
  · rw [hl 9 (by decide), show ((9 : Nat) == 6) = false from rfl, Bool.false_or, set_ne (by decide)]; exact fun e => (h.s9 e).turn ht (by decide)
  · rw [hl 10 (by decide), show ((10 : Nat) == 6) = false from rfl, Bool.false_or, h10]; intro e; cases e
  · rw [hl 11 (by decide), show ((11 : Nat) == 6) = false from rfl, Bool.false_or, h11]; intro e; cases e
  · intro _; rw [hl 0 (by decide), h0]; rfl
  · intro _; rw [hl 6 (by decide)]; rfl
  · rw [hl 11 (by decide), hl 10 (by decide)]; exact h.o11
/-- The letter behind the word. -/
theorem RApp.op10 (h : RApp Φ PR B word x l us tag W) (hl : ∀ j, j < 12 → (l.setIfInBounds 10 true).getD j false = (j == 10 || l.getD j false)) (hphi : ∀ {tag tag' k W W'}, Turn B tag tag' k W W' → B ≤ W.heap.size → 6 ≤ k → Φ tag W → Φ tag' W') (hn : l.getD 10 false = false) (h6 : l.getD 6 false = true) (hv : ∀ v, PR 10 v)
    {v : Value} (ht : Turn B tag tag' 6 W W') (hr : Row W' B tag' 6 3 1 v (word.length + 1) (ints word ++ [.int .i64 x])) :
    RApp Φ PR B word x (l.setIfInBounds 10 true) (us.set 10 v) tag' W' := by
  have h11 : l.getD 11 false = false := by
    cases h11 : l.getD 11 false with
    | false => rfl
    | true => rw [h.o11 h11] at hn; cases hn
  refine ⟨by rw [List.length_set]; exact h.len, Nat.le_trans h.size ht.size, hphi ht h.size (by decide) h.phi, pure_next hl h.len h.pure (hv _), ?_, ?_, ?_, ?_, ?_, ?_, ?_, ?_⟩
  · rw [hl 6 (by decide), h6]; intro _ e; cases e
  · rw [hl 10 (by decide)]; intro _ e; cases e
  · rw [hl 9 (by decide), show ((9 : Nat) == 10) = false from rfl, Bool.false_or, set_ne (by decide)]; exact fun e => (h.s9 e).turn ht (by decide)
  · intro _
    rw [set_self h.len (by decide), List.length_append, List.length_singleton]
    have : ints (word ++ [x]) = ints word ++ [.int .i64 x] := by simp [ints]
    rw [this]
    exact hr
  · rw [hl 11 (by decide), show ((11 : Nat) == 10) = false from rfl, Bool.false_or, h11]; intro e; cases e
  · rw [hl 0 (by decide), hl 6 (by decide)]; exact h.o6
  · intro _; rw [hl 6 (by decide), h6]; rfl
  · intro _; rw [hl 10 (by decide)]; rfl
/-- The word's variable. -/
theorem RApp.op11 (h : RApp Φ PR B word x l us tag W) (hl : ∀ j, j < 12 → (l.setIfInBounds 11 true).getD j false = (j == 11 || l.getD j false)) (h10 : l.getD 10 false = true) (hv : ∀ v, PR 11 v) :
    RApp Φ PR B word x (l.setIfInBounds 11 true) (us.set 11 (us.getD 10 undef)) tag W := by
  refine ⟨by rw [List.length_set]; exact h.len, h.size, h.phi, pure_next hl h.len h.pure (hv _), ?_, ?_, ?_, ?_, ?_, ?_, ?_, ?_⟩
  · rw [hl 0 (by decide), hl 6 (by decide), set_ne (by decide)]; exact h.s0
  · rw [hl 6 (by decide), hl 10 (by decide), set_ne (by decide)]; exact h.s6
  · rw [hl 9 (by decide), set_ne (by decide)]; exact h.s9
  · rw [hl 10 (by decide), set_ne (by decide)]; exact h.s10
  · intro _
    rw [set_self h.len (by decide)]
    exact h.s10 h10
  · rw [hl 0 (by decide), hl 6 (by decide)]; exact h.o6
  · rw [hl 6 (by decide), hl 10 (by decide)]; exact h.o10
  · intro _; rw [hl 10 (by decide), h10]; rfl
end
end Go.Proofs.Ythchkddhibhenaa

/- Restrict as a plain function; what holds of the memory while it numbers the states. -/
namespace Go.Proofs.Ythchkddhibhenaa
open Go.RowKit Go.Shelf

/-- Numbers of the states (0: none yet), the states in order, the edges. -/
structure RSt where
  num : List Int
  q : List Int
  E : List Ed
/-- A state gets its number. -/
def rsNum (S : RSt) (x : Ed) : RSt := if S.num.getD x.t.toNat 0 = 0 then ⟨S.num.set x.t.toNat ((S.q.length : Int) + 1), S.q ++ [x.t], S.E⟩ else S
/-- An edge of state number i is looked at. -/
def rsStep (inF : List Bool) (i : Nat) (S : RSt) (x : Ed) : RSt :=
  if inF.getD x.t.toNat false = true then ⟨(rsNum S x).num, (rsNum S x).q, S.E ++ [⟨i, x.e, (rsNum S x).num.getD x.t.toNat 0 - 1⟩]⟩ else S
/-- The states in order. -/
def rsLoop (es : List Ed) (inF mkF : List Bool) : Nat → Nat → RSt → List Int → RSt × List Int
  | 0, _, S, ms => (S, ms)
  | f + 1, i, S, ms => if i < S.q.length then rsLoop es inF mkF f (i + 1) ((subOf es (S.q.getD i 0)).foldl (rsStep inF i) S) (if mkF.getD (S.q.getD i 0).toNat false = true then ms ++ [(i : Int)] else ms) else (S, ms)
/-- What Restrict returns. -/
def restrictF (al ms : List Int) (n : Nat) (es : List Ed) (keep : List Int) : Aut :=
  if keep.head? = some 0 then
    ⟨al, ((rsLoop es (flagL n keep) (flagL n ms) (n + 1) 0 ⟨(List.replicate n 0).set 0 1, [0], []⟩ []).1.q.length : Int), (rsLoop es (flagL n keep) (flagL n ms) (n + 1) 0 ⟨(List.replicate n 0).set 0 1, [0], []⟩ []).2, (rsLoop es (flagL n keep) (flagL n ms) (n + 1) 0 ⟨(List.replicate n 0).set 0 1, [0], []⟩ []).1.E⟩
  else ⟨al, 0, [], []⟩

section
variable {inF : List Bool} {i : Nat} {S : RSt} {x : Ed}
theorem rsStep_out (h : inF.getD x.t.toNat false = false) : rsStep inF i S x = S := by rw [rsStep, if_neg (by rw [h]; simp)]
theorem rsStep_old (h : inF.getD x.t.toNat false = true) (h0 : S.num.getD x.t.toNat 0 ≠ 0) : rsStep inF i S x = ⟨S.num, S.q, S.E ++ [⟨i, x.e, S.num.getD x.t.toNat 0 - 1⟩]⟩ := by rw [rsStep, if_pos h, rsNum, if_neg h0]
theorem rsStep_new (h : inF.getD x.t.toNat false = true) (h0 : S.num.getD x.t.toNat 0 = 0) (hl : x.t.toNat < S.num.length) : rsStep inF i S x = ⟨S.num.set x.t.toNat ((S.q.length : Int) + 1), S.q ++ [x.t], S.E ++ [⟨i, x.e, S.q.length⟩]⟩ := by
  rw [rsStep, if_pos h, rsNum, if_pos h0]
  dsimp only
  rw [List.getD_eq_getElem?_getD, List.getElem?_set_self hl]
  simp
end
/-- The numbers are right. -/
structure ROk (n m : Nat) (S : RSt) : Prop where
  len : S.num.length = n
  cnt : S.q.length + S.num.count 0 ≤ n
  rng : ∀ s ∈ S.q, 0 ≤ s ∧ s < (n : Int)
  bd : ∀ v ∈ S.num, 0 ≤ v ∧ v ≤ (n : Int)
  el : S.E.length ≤ m
theorem count_set0 {l : List Int} {j : Nat} {v : Int} (h : l[j]? = some 0) (hv : v ≠ 0) : (l.set j v).count 0 + 1 = l.count 0 := by
  induction l generalizing j with
  | nil => simp at h
  | cons a l ih =>
    cases j with
    | zero => simp at h; subst h; simp [hv]
    | succ j =>
      simp at h
      rw [List.set_cons_succ, List.count_cons, List.count_cons, ← ih h]
      omega
theorem ROk.step {n m : Nat} {inF : List Bool} {i : Nat} {S : RSt} {x : Ed} (h : ROk n m S) (h0 : 0 ≤ x.t) (h1 : x.t < (n : Int)) : ROk n (m + 1) (rsStep inF i S x) := by
  have hlt : x.t.toNat < S.num.length := by rw [h.len]; omega
  cases hi : inF.getD x.t.toNat false with
  | false => rw [rsStep_out hi]; exact ⟨h.len, h.cnt, h.rng, h.bd, by have := h.el; omega⟩
  | true =>
    by_cases hz : S.num.getD x.t.toNat 0 = 0
    · rw [rsStep_new hi hz hlt]
      have hs : S.num[x.t.toNat]? = some 0 := by
        rw [List.getD_eq_getElem?_getD, List.getElem?_eq_getElem hlt] at hz
        rw [List.getElem?_eq_getElem hlt]
        simpa using hz
      have hc := count_set0 (v := (S.q.length : Int) + 1) hs (by omega)
      have hcn := h.cnt
      refine ⟨by simp [h.len], by simp only [List.length_append, List.length_singleton]; omega, fun s hs => ?_, fun v hv => ?_, by simp only [List.length_append, List.length_singleton]; have := h.el; omega⟩
      · rcases List.mem_append.1 hs with h4 | h4
        · exact h.rng s h4
        · rw [List.mem_singleton.1 h4]; exact ⟨h0, h1⟩
      · rcases List.mem_or_eq_of_mem_set hv with h4 | h4
        · exact h.bd v h4
        · subst h4; omega
    · rw [rsStep_old hi hz]
      exact ⟨h.len, h.cnt, h.rng, h.bd, by simp only [List.length_append, List.length_singleton]; have := h.el; omega⟩
theorem ROk.fold {n : Nat} {inF : List Bool} {i : Nat} : ∀ (l : List Ed) {m : Nat} {S : RSt}, ROk n m S → (∀ x ∈ l, 0 ≤ x.t ∧ x.t < (n : Int)) → ROk n (m + l.length) (l.foldl (rsStep inF i) S)
  | [], _, _, h, _ => h
  | x :: l, m, S, h, hx => by
    have h1 := h.step (inF := inF) (i := i) (hx x (List.mem_cons_self ..)).1 (hx x (List.mem_cons_self ..)).2
    have h2 := ROk.fold (inF := inF) (i := i) l h1 (fun y hy => hx y (List.mem_cons_of_mem _ hy))
    rw [List.length_cons, List.foldl_cons, show m + (l.length + 1) = m + 1 + l.length by omega]
    exact h2
theorem rsStep_q {inF : List Bool} {i : Nat} {S : RSt} {x : Ed} : S.q.length ≤ (rsStep inF i S x).q.length := by
  unfold rsStep rsNum
  split
  · split
    · simp
    · exact Nat.le_refl _
  · exact Nat.le_refl _
theorem rsFold_q {inF : List Bool} {i : Nat} : ∀ (l : List Ed) (S : RSt), S.q.length ≤ (l.foldl (rsStep inF i) S).q.length
  | [], _ => Nat.le_refl _
  | x :: l, S => Nat.le_trans (rsStep_q (x := x)) (rsFold_q l _)
theorem ROk.more {n m m' : Nat} {S : RSt} (h : ROk n m S) (hm : m ≤ m') : ROk n m' S := ⟨h.len, h.cnt, h.rng, h.bd, Nat.le_trans h.el hm⟩
theorem subOf_length (es : List Ed) (s : Int) : (subOf es s).length ≤ es.length := by
  unfold subOf edSub
  rw [List.length_take, List.length_drop]
  omega

/-- Blocks b8: out; b9: the box of the flags in; b11: the box of the numbers; b12: the graph; b13: the box of the queue; bi: the box of i. -/
structure XB (w : World) (G : Array Value) (n b8 b9 b11 b12 b13 : Nat) (va vin vnum vmk : Value) (alL : List Int) (inF mkF : List Bool) (ds : List Deferred) (wr : World) (tag : Nat → Nat) (bi i : Nat) (vm ve vq : Value) (S : RSt) (ms : List Int) : Prop where
  below : Below w.heap.size w wr
  marks : Marks w.heap.size wr ds
  rc : Own wr w.heap.size tag 0 (w.heap.size + 1) #[.slice none 0 0, .int .i64 0, .slice none 0 0, .slice none 0 0] 31
  ob : Own wr w.heap.size tag 6 b8 #[va, .int .i64 0, vm, ve] 31
  ib : Own wr w.heap.size tag 0 b9 #[vin] 86
  nb : Own wr w.heap.size tag 0 b11 #[vnum] 28
  g : Own wr w.heap.size tag 0 b12 G 80
  qb : Own wr w.heap.size tag 3 b13 #[vq] 28
  io : Own wr w.heap.size tag 5 bi #[.int .i64 i] 3
  al : Row wr w.heap.size tag 0 3 1 va alL.length (ints alL)
  inr : Row wr w.heap.size tag 1 4 1 vin n (bools inF)
  mkr : Row wr w.heap.size tag 1 4 1 vmk n (bools mkF)
  nr : Row wr w.heap.size tag 2 3 1 vnum n (ints S.num)
  qr : Row wr w.heap.size tag 4 3 1 vq S.q.length (ints S.q)
  mr : Row wr w.heap.size tag 7 3 1 vm ms.length (ints ms)

/-- A row lies in another block than b. -/
theorem Row.retagNe {w : World} {B : Nat} {tag : Nat → Nat} {k : Nat} {t : TypeId} {sz : Nat} {v : Value} {n : Nat} {cs : List Value} (h : Row w B tag k t sz v n cs) {bx : Nat} (kx : Nat) (hne : ∀ off c, v ≠ .slice (some ⟨bx, off, none⟩) n c) : Row w B (tagUp tag bx kx) k t sz v n cs :=
  ⟨h.1, h.2.imp id fun ⟨b, off, cap, cur, h1, h2, h3⟩ => ⟨b, off, cap, cur, h1, ⟨h2.heap, by
    unfold tagUp
    rw [if_neg (fun e => by subst e; exact hne off cap h1)]
    exact h2.htag, h2.base⟩, h3⟩⟩
theorem Own.upR {w : World} {B : Nat} {tag : Nat → Nat} {k b : Nat} {cs : Array Value} {t : TypeId} (h : Own w B tag k b cs t) (o : Obj) (k' : Nat) : Own (w.alloc o) B (tagUp tag w.heap.size k') k b cs t :=
  ⟨((bel_alloc w o).block b h.lt).trans h.heap, (tagUp_lt h.lt).trans h.htag, h.base⟩

section
variable {w : World} {G : Array Value} {n b8 b9 b11 b12 b13 : Nat} {va vin vnum vmk : Value} {alL : List Int} {inF mkF : List Bool} {ds : List Deferred} {wr wr' : World} {tag tag' : Nat → Nat} {bi i : Nat} {vm ve vq : Value} {S : RSt} {ms : List Int}
theorem XB.call (h : XB w G n b8 b9 b11 b12 b13 va vin vnum vmk alL inF mkF ds wr tag bi i vm ve vq S ms) (hb : Below wr.heap.size wr wr') : XB w G n b8 b9 b11 b12 b13 va vin vnum vmk alL inF mkF ds wr' tag bi i vm ve vq S ms :=
  ⟨belCall h.below hb h.below.size, h.marks.below hb, h.rc.below hb, h.ob.below hb, h.ib.below hb, h.nb.below hb, h.g.below hb, h.qb.below hb, h.io.below hb, h.al.below hb, h.inr.below hb, h.mkr.below hb, h.nr.below hb, h.qr.below hb, h.mr.below hb⟩
theorem XB.turn {k : Nat} (h : XB w G n b8 b9 b11 b12 b13 va vin vnum vmk alL inF mkF ds wr tag bi i vm ve vq S ms) (ht : Turn w.heap.size tag tag' k wr wr') (hk : 8 ≤ k) : XB w G n b8 b9 b11 b12 b13 va vin vnum vmk alL inF mkF ds wr' tag' bi i vm ve vq S ms :=
  ⟨belTurn h.below ht h.below.size, h.marks.turn ht, h.rc.turn ht (by omega), h.ob.turn ht (by omega), h.ib.turn ht (by omega), h.nb.turn ht (by omega), h.g.turn ht (by omega), h.qb.turn ht (by omega), h.io.turn ht (by omega), h.al.turn ht (by omega), h.inr.turn ht (by omega), h.mkr.turn ht (by omega), h.nr.turn ht (by omega), h.qr.turn ht (by omega), h.mr.turn ht (by omega)⟩
theorem XB.others {s : Nat} {row : Option Nat} (h : XB w G n b8 b9 b11 b12 b13 va vin vnum vmk alL inF mkF ds wr tag bi i vm ve vq S ms) (hg : wr.grownBy wr' row) (hs : ∀ D, mark D ∈ ds → D < s) (hws : w.heap.size ≤ s) (hr : ∀ r, row = some r → s ≤ r ∧ ∃ o : Obj, wr.heap[r]? = some o ∧ o.isCells = false) : XB w G n b8 b9 b11 b12 b13 va vin vnum vmk alL inF mkF ds wr' tag bi i vm ve vq S ms :=
  have h2 := fun r e => (hr r e).2
  ⟨belOthers h.below hg h.below.size hws (fun r e => (hr r e).1), h.marks.others hs hg (fun r e => (hr r e).1), h.rc.others hg h2, h.ob.others hg h2, h.ib.others hg h2, h.nb.others hg h2, h.g.others hg h2, h.qb.others hg h2, h.io.others hg h2, h.al.others hg h2, h.inr.others hg h2, h.mkr.others hg h2, h.nr.others hg h2, h.qr.others hg h2, h.mr.others hg h2⟩
theorem XB.retag {bx : Nat} {cx : Array Value} (h : XB w G n b8 b9 b11 b12 b13 va vin vnum vmk alL inF mkF ds wr tag bi i vm ve vq S ms) (hx : wr.heap[bx]? = some (.cells cx 45 (0, 0))) : XB w G n b8 b9 b11 b12 b13 va vin vnum vmk alL inF mkF ds wr (tagUp tag bx 10) bi i vm ve vq S ms :=
  ⟨h.below, h.marks, h.rc.retag hx (by decide), h.ob.retag hx (by decide), h.ib.retag hx (by decide), h.nb.retag hx (by decide), h.g.retag hx (by decide), h.qb.retag hx (by decide), h.io.retag hx (by decide), h.al.retag hx (by decide), h.inr.retag hx (by decide), h.mkr.retag hx (by decide), h.nr.retag hx (by decide), h.qr.retag hx (by decide), h.mr.retag hx (by decide)⟩
theorem XB.up (h : XB w G n b8 b9 b11 b12 b13 va vin vnum vmk alL inF mkF ds wr tag bi i vm ve vq S ms) (o : Obj) (k : Nat) : XB w G n b8 b9 b11 b12 b13 va vin vnum vmk alL inF mkF ds (wr.alloc o) (tagUp tag wr.heap.size k) bi i vm ve vq S ms :=
  ⟨h.below.alloc h.below.size o, h.marks.below (bel_alloc wr o), h.rc.upR o k, h.ob.upR o k, h.ib.upR o k, h.nb.upR o k, h.g.upR o k, h.qb.upR o k, h.io.upR o k, h.al.up o k, h.inr.up o k, h.mkr.up o k, h.nr.up o k, h.qr.up o k, h.mr.up o k⟩
/-- A number is set. -/
theorem XB.setNum {bn on cn : Nat} (h : XB w G n b8 b9 b11 b12 b13 va vin (.slice (some ⟨bn, on, none⟩) n cn) vmk alL inF mkF ds wr tag bi i vm ve vq S ms) (j : Nat) (v : Int) :
    XB w G n b8 b9 b11 b12 b13 va vin (.slice (some ⟨bn, on, none⟩) n cn) vmk alL inF mkF ds (wr.setCell ⟨bn, on + j, none⟩ (.int .i64 v)) tag bi i vm ve vq ⟨S.num.set j v, S.q, S.E⟩ ms ∧ Turn w.heap.size tag tag 2 wr (wr.setCell ⟨bn, on + j, none⟩ (.int .i64 v)) := by
  have h1 := h.nr.set j (.int .i64 v)
  have ht := h1.2
  have h2 := h1.1
  rw [show (ints S.num).set j (.int .i64 v) = ints (S.num.set j v) from (List.map_set ..).symm] at h2
  exact ⟨⟨belTurn h.below ht h.below.size, h.marks.turn ht, h.rc.turn ht (by decide), h.ob.turn ht (by decide), h.ib.turn ht (by decide), h.nb.turn ht (by decide), h.g.turn ht (by decide), h.qb.turn ht (by decide), h.io.turn ht (by decide), h.al.turn ht (by decide), h.inr.turn ht (by decide), h.mkr.turn ht (by decide), h2, h.qr.turn ht (by decide), h.mr.turn ht (by decide)⟩, ht⟩
/-- A state more in the queue, and the box that holds it. -/
theorem XB.push {vq' : Value} {x : Int} (h : XB w G n b8 b9 b11 b12 b13 va vin vnum vmk alL inF mkF ds wr tag bi i vm ve vq S ms) (hr : Row wr' w.heap.size tag' 4 3 1 vq' (S.q.length + 1) (ints S.q ++ [.int .i64 x])) (ht : Turn w.heap.size tag tag' 4 wr wr') :
    XB w G n b8 b9 b11 b12 b13 va vin vnum vmk alL inF mkF ds (wr'.setCell ⟨b13, 0, none⟩ vq') tag' bi i vm ve vq' ⟨S.num, S.q ++ [x], S.E⟩ ms := by
  have hs := h.qb.turn ht (by decide)
  have h1 := Turn.setCell hs 0 vq'
  have h2 := hs.set 0 vq'
  have hB : w.heap.size ≤ wr'.heap.size := Nat.le_trans h.below.size ht.size
  exact ⟨belTurn (belTurn h.below ht h.below.size) h1 hB, (h.marks.turn ht).turn h1, (h.rc.turn ht (by decide)).turn h1 (by decide), (h.ob.turn ht (by decide)).turn h1 (by decide), (h.ib.turn ht (by decide)).turn h1 (by decide), (h.nb.turn ht (by decide)).turn h1 (by decide), (h.g.turn ht (by decide)).turn h1 (by decide), h2, (h.io.turn ht (by decide)).turn h1 (by decide), (h.al.turn ht (by decide)).turn h1 (by decide), (h.inr.turn ht (by decide)).turn h1 (by decide), (h.mkr.turn ht (by decide)).turn h1 (by decide), (h.nr.turn ht (by decide)).turn h1 (by decide), by
    rw [List.length_append, show ints (S.q ++ [x]) = ints S.q ++ [.int .i64 x] by simp [ints]]; exact hr.turn h1 (by decide), (h.mr.turn ht (by decide)).turn h1 (by decide)⟩
/-- A marked state more. -/
theorem XB.markS {vm' : Value} {x : Int} (h : XB w G n b8 b9 b11 b12 b13 va vin vnum vmk alL inF mkF ds wr tag bi i vm ve vq S ms) (hr : Row wr' w.heap.size tag' 7 3 1 vm' (ms.length + 1) (ints ms ++ [.int .i64 x])) (ht : Turn w.heap.size tag tag' 7 wr wr') :
    XB w G n b8 b9 b11 b12 b13 va vin vnum vmk alL inF mkF ds (wr'.setCell ⟨b8, 2, none⟩ vm') tag' bi i vm' ve vq S (ms ++ [x]) := by
  have hs := h.ob.turn ht (by decide)
  have h1 := Turn.setCell hs 2 vm'
  have h2 := hs.set 2 vm'
  have hB : w.heap.size ≤ wr'.heap.size := Nat.le_trans h.below.size ht.size
  exact ⟨belTurn (belTurn h.below ht h.below.size) h1 hB, (h.marks.turn ht).turn h1, (h.rc.turn ht (by decide)).turn h1 (by decide), h2, (h.ib.turn ht (by decide)).turn h1 (by decide), (h.nb.turn ht (by decide)).turn h1 (by decide), (h.g.turn ht (by decide)).turn h1 (by decide), (h.qb.turn ht (by decide)).turn h1 (by decide), (h.io.turn ht (by decide)).turn h1 (by decide), (h.al.turn ht (by decide)).turn h1 (by decide), (h.inr.turn ht (by decide)).turn h1 (by decide), (h.mkr.turn ht (by decide)).turn h1 (by decide), (h.nr.turn ht (by decide)).turn h1 (by decide), (h.qr.turn ht (by decide)).turn h1 (by decide), by
    rw [List.length_append, show ints (ms ++ [x]) = ints ms ++ [.int .i64 x] by simp [ints]]; exact hr.turn h1 (by decide)⟩
/-- The edges' cell. -/
theorem XB.putE (h : XB w G n b8 b9 b11 b12 b13 va vin vnum vmk alL inF mkF ds wr tag bi i vm ve vq S ms) (ve' : Value) (S' : RSt) (hn : S'.num = S.num) (hq : S'.q = S.q) :
    XB w G n b8 b9 b11 b12 b13 va vin vnum vmk alL inF mkF ds (wr.setCell ⟨b8, 3, none⟩ ve') tag bi i vm ve' vq S' ms ∧ Turn w.heap.size tag tag 6 wr (wr.setCell ⟨b8, 3, none⟩ ve') := by
  have h1 := Turn.setCell h.ob 3 ve'
  have h2 := h.ob.set 3 ve'
  exact ⟨⟨belTurn h.below h1 h.below.size, h.marks.turn h1, h.rc.turn h1 (by decide), h2, h.ib.turn h1 (by decide), h.nb.turn h1 (by decide), h.g.turn h1 (by decide), h.qb.turn h1 (by decide), h.io.turn h1 (by decide), h.al.turn h1 (by decide), h.inr.turn h1 (by decide), h.mkr.turn h1 (by decide), by rw [hn]; exact h.nr.turn h1 (by decide), by rw [hq]; exact h.qr.turn h1 (by decide), h.mr.turn h1 (by decide)⟩, h1⟩
/-- The memory does not tell of the edges. -/
theorem XB.withE (h : XB w G n b8 b9 b11 b12 b13 va vin vnum vmk alL inF mkF ds wr tag bi i vm ve vq S ms) (E : List Ed) : XB w G n b8 b9 b11 b12 b13 va vin vnum vmk alL inF mkF ds wr tag bi i vm ve vq ⟨S.num, S.q, E⟩ ms := { h with }
/-- The box of i is left for another. -/
theorem XB.newI {b' j : Nat} (h : XB w G n b8 b9 b11 b12 b13 va vin vnum vmk alL inF mkF ds wr tag bi i vm ve vq S ms) (ho : Own wr w.heap.size tag 5 b' #[.int .i64 j] 3) : XB w G n b8 b9 b11 b12 b13 va vin vnum vmk alL inF mkF ds wr tag b' j vm ve vq S ms := { h with io := ho }
/-- Another mark. -/
theorem XB.mark {s D : Nat} (h : XB w G n b8 b9 b11 b12 b13 va vin vnum vmk alL inF mkF ds wr tag bi i vm ve vq S ms) (hs : ∀ D', Go.Proofs.Ythchkddhibhenaa.mark D' ∈ ds → D' < s) (hD : s ≤ D) (hB : w.heap.size ≤ s) (hd : wr.heap[D]? = some (.deferred (some []))) : XB w G n b8 b9 b11 b12 b13 va vin vnum vmk alL inF mkF (Go.Proofs.Ythchkddhibhenaa.mark D :: ds) wr tag bi i vm ve vq S ms :=
  { h with marks := h.marks.cons hs hD (Nat.le_trans hB hD) hd }
end
end Go.Proofs.Ythchkddhibhenaa

/- The reference's Restrict as a plain function, and that it is Restrict. -/
namespace Go.Proofs.Ythchkddhibhenaa

theorem idxI_in {q : List Int} {t : Int} (h : t ∈ q) : 0 ≤ idxI q t ∧ idxI q t < (q.length : Int) := by
  rw [idxI, if_pos h]
  have := List.idxOf_lt_length_of_mem h
  omega
theorem idxI_neg {q : List Int} {t : Int} : idxI q t < 0 ↔ t ∉ q := by
  constructor
  · intro h hm; have := (idxI_in hm).1; omega
  · intro h; rw [idxI_none h]; decide
theorem idxI_left {q r : List Int} {t : Int} (h : t ∈ q) : idxI (q ++ r) t = idxI q t := by
  rw [idxI, idxI, if_pos h, if_pos (List.mem_append_left _ h), List.idxOf_append, if_pos h]
theorem idxI_new {q : List Int} {t : Int} (h : t ∉ q) : idxI (q ++ [t]) t = q.length := by
  rw [idxI, if_pos (by simp), List.idxOf_append, if_neg h, List.idxOf_cons_self, Nat.zero_add]
theorem idxI_ne {q : List Int} {t s : Int} (h : s ≠ t) : idxI (q ++ [t]) s = idxI q s := by
  by_cases hm : s ∈ q
  · exact idxI_left hm
  · rw [idxI_none hm, idxI_none]
    intro h1
    rcases List.mem_append.1 h1 with h2 | h2
    · exact hm h2
    · exact h (List.mem_singleton.1 h2)

def rrQ (q : List Int) (t : Int) : List Int := if idxI q t < 0 then q ++ [t] else q
/-- An edge of the state s, the i-th, is looked at. -/
def rrStep (kp : List Int) (s : Int) (i : Nat) (S : List Int × List Ed) (x : Ed) : List Int × List Ed :=
  if x.f = s ∧ hasB kp x.t = true then (rrQ S.1 x.t, S.2 ++ [⟨i, x.e, idxI (rrQ S.1 x.t) x.t⟩]) else S
def rrLoop (es : List Ed) (kp : List Int) : Nat → Nat → List Int × List Ed → List Int × List Ed
  | 0, _, S => S
  | f + 1, i, S => if i < S.1.length then rrLoop es kp f (i + 1) (es.foldl (rrStep kp (S.1.getD i 0) i) S) else S
def rrMs (ms q : List Int) : List Int := ((List.range q.length).filter fun i => hasB ms (q.getD i 0)).map fun (i : Nat) => (i : Int)
/-- The reference's Restrict. -/
def rrestrictF (a : Aut) (kp : List Int) : Aut :=
  if a.n = 0 ∨ hasB kp 0 = false then ⟨a.al, 0, [], []⟩
  else ⟨a.al, ((rrLoop a.es kp (a.n.toNat + 1) 0 ([0], [])).1.length : Int), rrMs a.ms (rrLoop a.es kp (a.n.toNat + 1) 0 ([0], [])).1, (rrLoop a.es kp (a.n.toNat + 1) 0 ([0], [])).2⟩

theorem rrQ_old {q : List Int} {t : Int} (h : t ∈ q) : rrQ q t = q := by rw [rrQ, if_neg]; have := (idxI_in h).1; omega
theorem rrQ_new {q : List Int} {t : Int} (h : t ∉ q) : rrQ q t = q ++ [t] := by rw [rrQ, if_pos (idxI_neg.2 h)]
theorem rrQ_mem (q : List Int) (t : Int) : t ∈ rrQ q t := by
  by_cases h : t ∈ q
  · rw [rrQ_old h]; exact h
  · rw [rrQ_new h]; simp
theorem rrQ_ext (q : List Int) (t : Int) : ∃ l, rrQ q t = q ++ l := by
  by_cases h : t ∈ q
  · exact ⟨[], by rw [rrQ_old h, List.append_nil]⟩
  · exact ⟨[t], rrQ_new h⟩

/-- The numbers tell the places. -/
structure NumQ (n : Nat) (num q : List Int) : Prop where
  len : num.length = n
  eq : ∀ t : Nat, t < n → num.getD t 0 = idxI q t + 1
theorem rs_rr {n : Nat} {inF : List Bool} {i : Nat} {S : RSt} {x : Ed} (h : NumQ n S.num S.q) (h0 : 0 ≤ x.t) (h1 : x.t < (n : Int)) (hin : inF.getD x.t.toNat false = true) :
    (rsStep inF i S x).q = rrQ S.q x.t ∧ (rsStep inF i S x).E = S.E ++ [⟨i, x.e, idxI (rrQ S.q x.t) x.t⟩] ∧ NumQ n (rsStep inF i S x).num (rrQ S.q x.t) := by
  obtain ⟨t, ht⟩ := Int.eq_ofNat_of_zero_le h0
  have htn : t < n := by omega
  have he := h.eq t htn
  have hlt : t < S.num.length := by rw [h.len]; exact htn
  by_cases hm : x.t ∈ S.q
  · have hi := idxI_in hm
    rw [ht] at hi
    have hz : S.num.getD x.t.toNat 0 ≠ 0 := by rw [ht, Int.toNat_natCast, he]; omega
    rw [rsStep_old hin hz, rrQ_old hm]
    refine ⟨rfl, ?_, h⟩
    dsimp only
    rw [ht, Int.toNat_natCast, he]
    congr 3
    omega
  · have hz : S.num.getD x.t.toNat 0 = 0 := by rw [ht, Int.toNat_natCast, he, ← ht, idxI_none hm]; rfl
    rw [rsStep_new hin hz (by rw [ht, Int.toNat_natCast]; exact hlt), rrQ_new hm, idxI_new hm]
    refine ⟨rfl, rfl, ⟨by simp [h.len], fun s hs => ?_⟩⟩
    dsimp only
    by_cases e : s = t
    · subst e
      rw [ht, Int.toNat_natCast, getD_set_at hlt, ← ht, idxI_new hm]
    · rw [ht, Int.toNat_natCast, List.getD_eq_getElem?_getD, List.getElem?_set_ne (by omega), ← List.getD_eq_getElem?_getD, h.eq s hs, idxI_ne (by omega)]
theorem rs_fold {n : Nat} {kp : List Int} {s : Int} {i : Nat} : ∀ (l : List Ed) (S : RSt), NumQ n S.num S.q → (∀ x ∈ l, 0 ≤ x.t ∧ x.t < (n : Int)) →
    (((l.filter fun x => decide (x.f = s)).foldl (rsStep (flagL n kp) i) S).q, ((l.filter fun x => decide (x.f = s)).foldl (rsStep (flagL n kp) i) S).E) = l.foldl (rrStep kp s i) (S.q, S.E) ∧
    NumQ n ((l.filter fun x => decide (x.f = s)).foldl (rsStep (flagL n kp) i) S).num ((l.filter fun x => decide (x.f = s)).foldl (rsStep (flagL n kp) i) S).q
  | [], _, h, _ => ⟨rfl, h⟩
  | x :: l, S, h, hr => by
    have hx := hr x (List.mem_cons_self ..)
    have hl := fun y hy => hr y (List.mem_cons_of_mem _ hy)
    have hfl := flagL_getD (set := kp) hx.1 hx.2
    rw [List.foldl_cons]
    by_cases hf : x.f = s
    · rw [List.filter_cons_of_pos (by simpa using hf), List.foldl_cons]
      cases hk : hasB kp x.t with
      | false =>
        rw [rrStep, if_neg (by rw [hk]; simp), rsStep_out (by rw [hfl]; exact hk)]
        exact rs_fold l S h hl
      | true =>
        obtain ⟨h1, h2, h3⟩ := rs_rr (i := i) h hx.1 hx.2 (hfl.trans hk)
        rw [← h1] at h3
        have := rs_fold (kp := kp) (s := s) (i := i) l _ h3 hl
        rw [rrStep, if_pos ⟨hf, hk⟩]
        dsimp only
        rw [← h1] at h2 ⊢
        rw [← h2]
        exact this
    · rw [List.filter_cons_of_neg (by simpa using hf), rrStep, if_neg (fun e => hf e.1)]
      exact rs_fold l S h hl
theorem rrFold_ext {kp : List Int} {s : Int} {i : Nat} : ∀ (l : List Ed) (S : List Int × List Ed), ∃ q, (l.foldl (rrStep kp s i) S).1 = S.1 ++ q
  | [], S => ⟨[], (List.append_nil _).symm⟩
  | x :: l, S => by
    rw [List.foldl_cons]
    obtain ⟨q, hq⟩ := rrFold_ext l (rrStep kp s i S x)
    rw [hq]
    unfold rrStep
    split
    · obtain ⟨r, hr⟩ := rrQ_ext S.1 x.t
      exact ⟨r ++ q, by dsimp only; rw [hr, List.append_assoc]⟩
    · exact ⟨q, rfl⟩
theorem rrLoop_ext {es : List Ed} {kp : List Int} : ∀ (f i : Nat) (S : List Int × List Ed), ∃ q, (rrLoop es kp f i S).1 = S.1 ++ q
  | 0, _, S => ⟨[], (List.append_nil _).symm⟩
  | f + 1, i, S => by
    rw [rrLoop]
    split
    · obtain ⟨q, hq⟩ := rrLoop_ext f (i + 1) (es.foldl (rrStep kp (S.1.getD i 0) i) S)
      obtain ⟨r, hr⟩ := rrFold_ext es (kp := kp) (s := S.1.getD i 0) (i := i) S
      exact ⟨r ++ q, by rw [hq, hr, List.append_assoc]⟩
    · exact ⟨[], (List.append_nil _).symm⟩
/-- The marked ones from the i-th on. -/
def rrMsFrom (ms q : List Int) (i : Nat) : List Int := ((List.range' i (q.length - i)).filter fun i => hasB ms (q.getD i 0)).map fun (i : Nat) => (i : Int)
theorem rs_loop {n : Nat} {es : List Ed} {kp ms : List Int} (hso : Sorted es) (hes : ∀ x ∈ es, 0 ≤ x.t ∧ x.t < (n : Int)) : ∀ (f i : Nat) (S : RSt) (m : List Int) (N : Nat), NumQ n S.num S.q → ROk n N S → n + 1 ≤ i + f →
    ((rsLoop es (flagL n kp) (flagL n ms) f i S m).1.q, (rsLoop es (flagL n kp) (flagL n ms) f i S m).1.E) = rrLoop es kp f i (S.q, S.E) ∧
    (rsLoop es (flagL n kp) (flagL n ms) f i S m).2 = m ++ rrMsFrom ms (rrLoop es kp f i (S.q, S.E)).1 i ∧
    (rrLoop es kp f i (S.q, S.E)).1.length ≤ n ∧ (rrLoop es kp f i (S.q, S.E)).1.length ≤ i + f ∧ (∀ s ∈ (rrLoop es kp f i (S.q, S.E)).1, 0 ≤ s ∧ s < (n : Int))
  | 0, i, S, m, N, h, ho, hf => by
    have := ho.cnt
    refine ⟨rfl, ?_, by show S.q.length ≤ n; omega, by show S.q.length ≤ _; omega, ho.rng⟩
    rw [rsLoop, rrLoop, rrMsFrom, show (S.q, S.E).1.length - i = 0 by show S.q.length - i = 0; omega]
    simp
  | f + 1, i, S, m, N, h, ho, hf => by
    have hcn := ho.cnt
    rw [rsLoop, rrLoop]
    by_cases hi : i < S.q.length
    · rw [if_pos hi, if_pos (show i < (S.q, S.E).1.length from hi), subOf_eq hso]
      obtain ⟨h1, h2⟩ := rs_fold (kp := kp) (s := S.q.getD i 0) (i := i) es S h hes
      have ho2 := ho.fold (inF := flagL n kp) (i := i) (es.filter fun x => decide (x.f = S.q.getD i 0)) (fun x hx => hes x (List.mem_filter.1 hx).1)
      generalize hm1 : (if (flagL n ms).getD (S.q.getD i 0).toNat false = true then m ++ [(i : Int)] else m) = m1
      have ih := rs_loop (kp := kp) (ms := ms) hso hes f (i + 1) _ m1 _ h2 ho2 (by omega)
      obtain ⟨r, hr⟩ := rrLoop_ext (es := es) (kp := kp) f (i + 1) (((es.filter fun x => decide (x.f = S.q.getD i 0)).foldl (rsStep (flagL n kp) i) S).q, ((es.filter fun x => decide (x.f = S.q.getD i 0)).foldl (rsStep (flagL n kp) i) S).E)
      obtain ⟨r2, hr2⟩ := rrFold_ext es (kp := kp) (s := S.q.getD i 0) (i := i) (S.q, S.E)
      rw [← h1] at hr2
      show _ ∧ _ = m ++ rrMsFrom ms (rrLoop es kp f (i + 1) (es.foldl (rrStep kp (S.q.getD i 0) i) (S.q, S.E))).1 i ∧ _
      rw [← h1]
      refine ⟨ih.1, ?_, ih.2.2.1, by have := ih.2.2.2.1; omega, ih.2.2.2.2⟩
      rw [ih.2.1]
      rw [hr2] at hr
      dsimp only at hr
      generalize (rrLoop es kp f (i + 1) _).1 = Q at *
      have hql : i < Q.length := by rw [hr, List.length_append, List.length_append]; omega
      have hqi : Q.getD i 0 = S.q.getD i 0 := by
        rw [hr, List.append_assoc, List.getD_eq_getElem?_getD, List.getD_eq_getElem?_getD, List.getElem?_append_left hi]
      have hfl := flagL_getD (n := n) (set := ms) (s := S.q.getD i 0) (by
        rw [List.getD_eq_getElem?_getD, List.getElem?_eq_getElem hi]; exact (ho.rng _ (List.getElem_mem hi)).1) (by
        rw [List.getD_eq_getElem?_getD, List.getElem?_eq_getElem hi]; exact (ho.rng _ (List.getElem_mem hi)).2)
      rw [hfl] at hm1
      have e : rrMsFrom ms Q i = (if hasB ms (S.q.getD i 0) = true then [(i : Int)] else []) ++ rrMsFrom ms Q (i + 1) := by
        unfold rrMsFrom
        rw [show Q.length - i = (Q.length - (i + 1)) + 1 by omega, List.range'_succ]
        by_cases hb : hasB ms (S.q.getD i 0) = true
        · rw [List.filter_cons_of_pos (by rw [hqi]; exact hb), if_pos hb]; rfl
        · rw [List.filter_cons_of_neg (by rw [hqi]; exact hb), if_neg hb]; rfl
      rw [e, ← List.append_assoc]
      congr 1
      rw [← hm1]
      split
      · rfl
      · simp
    · rw [if_neg hi, if_neg (show ¬ i < (S.q, S.E).1.length from hi)]
      refine ⟨rfl, ?_, by show S.q.length ≤ n; omega, by show S.q.length ≤ _; omega, ho.rng⟩
      rw [rrMsFrom, show (S.q, S.E).1.length - i = 0 by show S.q.length - i = 0; omega]
      simp
theorem rrMsFrom_zero (ms q : List Int) : rrMsFrom ms q 0 = rrMs ms q := by rw [rrMsFrom, rrMs, Nat.sub_zero, List.range_eq_range']
theorem rs_start {n : Nat} (hn : 0 < n) : NumQ n ((List.replicate n (0 : Int)).set 0 1) [0] ∧ ROk n 0 ⟨(List.replicate n 0).set 0 1, [0], []⟩ := by
  refine ⟨⟨by simp, fun t ht => ?_⟩, by simp, ?_, fun s hs => ?_, fun v hv => ?_, by simp⟩
  · by_cases e : t = 0
    · subst e
      rw [getD_set_at (by simpa using hn)]; rfl
    · rw [List.getD_eq_getElem?_getD, List.getElem?_set_ne (by omega), List.getElem?_replicate, if_pos ht, idxI_none (by simp; omega)]; rfl
  · have := count_set0 (l := List.replicate n 0) (j := 0) (v := 1) (by rw [List.getElem?_replicate, if_pos hn]) (by decide)
    simp at this ⊢
    omega
  · rw [List.mem_singleton.1 hs]; omega
  · rcases List.mem_or_eq_of_mem_set hv with h4 | h4
    · rw [List.eq_of_mem_replicate h4]; omega
    · subst h4; omega
/-- The first of an increasing list of numbers is 0 if 0 is among them. -/
theorem head_zero {kp : List Int} (hk : kp.Pairwise (· < ·)) (h0 : ∀ x ∈ kp, 0 ≤ x) : kp.head? = some 0 ↔ hasB kp 0 = true := by
  rw [hasB_true]
  cases kp with
  | nil => simp
  | cons k l =>
    obtain ⟨h1, _⟩ := List.pairwise_cons.1 hk
    constructor
    · intro h; rw [Option.some.inj h]; exact List.mem_cons_self ..
    · intro h
      rcases List.mem_cons.1 h with e | e
      · rw [e]; rfl
      · have := h1 0 e; have := h0 k (List.mem_cons_self ..); omega
theorem restrict_eq {a : Aut} {n : Nat} {kp : List Int} (hn : a.n = n) (hso : Sorted a.es) (hes : ∀ x ∈ a.es, 0 ≤ x.t ∧ x.t < (n : Int)) (hk : kp.Pairwise (· < ·)) (hkr : ∀ x ∈ kp, 0 ≤ x ∧ x < (n : Int)) :
    restrictF a.al a.ms a.n.toNat a.es kp = rrestrictF a kp := by
  have hhd := head_zero hk (fun x hx => (hkr x hx).1)
  rw [restrictF, rrestrictF, hn, Int.toNat_natCast]
  by_cases h : kp.head? = some 0
  · have h2 := hhd.1 h
    have hn0 : 0 < n := by have := hkr 0 (hasB_true.1 h2); omega
    rw [if_pos h, if_neg (by rw [h2]; simp; omega)]
    obtain ⟨h3, h4⟩ := rs_start hn0
    obtain ⟨h5, h6, _⟩ := rs_loop (kp := kp) (ms := a.ms) hso hes (n + 1) 0 ⟨(List.replicate n 0).set 0 1, [0], []⟩ [] 0 h3 h4 (by omega)
    rw [h6, List.nil_append, rrMsFrom_zero]
    generalize (rsLoop a.es (flagL n kp) (flagL n a.ms) (n + 1) 0 ⟨(List.replicate n 0).set 0 1, [0], []⟩ []).1 = R at *
    dsimp only at h5
    rw [← h5]
  · have h2 : hasB kp 0 = false := by cases e : hasB kp 0 with
      | false => rfl
      | true => exact (h (hhd.2 e)).elim
    rw [if_neg h, if_pos (.inr h2)]
end Go.Proofs.Ythchkddhibhenaa

/- A restricted automaton is right, and restricting it to all of its states changes nothing: plain laws. -/
namespace Go.Proofs.Ythchkddhibhenaa

theorem allL_getD {n j : Nat} (h : j < n) : (allL n).getD j 0 = (j : Int) := by
  rw [List.getD_eq_getElem?_getD, allL, List.getElem?_map, List.getElem?_range h]; rfl
theorem allL_idx : ∀ {n j : Nat}, j < n → idxI (allL n) (j : Int) = j
  | 0, _, h => absurd h (Nat.not_lt_zero _)
  | n + 1, j, h => by
    rw [allL_succ]
    by_cases e : j = n
    · subst e
      rw [idxI_new, allL_length]
      intro hm
      obtain ⟨k, hk, e⟩ := List.mem_map.1 hm
      have := List.mem_range.1 hk; omega
    · rw [idxI_ne (by omega)]; exact allL_idx (by omega)
theorem allL_not {n : Nat} : (n : Int) ∉ allL n := by
  intro hm
  obtain ⟨k, hk, e⟩ := List.mem_map.1 hm
  have := List.mem_range.1 hk; omega
/-- What holds of the edges of the states from i on, where there are N states. -/
structure GOk (al : List Int) (i N : Nat) (G : List Ed) : Prop where
  so : Sorted G
  ok : ∀ y ∈ G, (i : Int) ≤ y.f ∧ y.f < N ∧ 0 ≤ y.t ∧ y.t < N ∧ hasB al y.e = true
theorem rrFold_len {kp : List Int} {s : Int} {i : Nat} (l : List Ed) (S : List Int × List Ed) : S.1.length ≤ (l.foldl (rrStep kp s i) S).1.length := by
  obtain ⟨q, hq⟩ := rrFold_ext l (kp := kp) (s := s) (i := i) S
  rw [hq, List.length_append]; omega
theorem rrLoop_len {es : List Ed} {kp : List Int} (f i : Nat) (S : List Int × List Ed) : S.1.length ≤ (rrLoop es kp f i S).1.length := by
  obtain ⟨q, hq⟩ := rrLoop_ext (es := es) (kp := kp) f i S
  rw [hq, List.length_append]; omega
/-- The edges of one state, in both searches. -/
theorem sim_fold {kp al : List Int} {s : Int} {i N : Nat} : ∀ (l : List Ed) (S : List Int × List Ed), (∀ x ∈ l, hasB al x.e = true) → (l.filter fun x => decide (x.f = s)).Pairwise (fun x y => x.e < y.e) → (l.foldl (rrStep kp s i) S).1.length ≤ N → i < N →
    ∃ g, (l.foldl (rrStep kp s i) S).2 = S.2 ++ g ∧ (∀ y ∈ g, y.f = i ∧ 0 ≤ y.t ∧ y.t < N ∧ hasB al y.e = true ∧ ∃ x ∈ l, x.f = s ∧ x.e = y.e) ∧ g.Pairwise (fun x y => x.e < y.e) ∧
      g.foldl (rrStep (allL N) i i) (allL S.1.length, S.2) = (allL (l.foldl (rrStep kp s i) S).1.length, (l.foldl (rrStep kp s i) S).2)
  | [], S, _, _, _, _ => ⟨[], (List.append_nil _).symm, fun y hy => (by cases hy), List.Pairwise.nil, rfl⟩
  | x :: l, S, ha, hp, hN, hi => by
    have hal := fun y hy => ha y (List.mem_cons_of_mem _ hy)
    rw [List.foldl_cons] at hN ⊢
    by_cases hc : x.f = s ∧ hasB kp x.t = true
    · rw [List.filter_cons_of_pos (by simpa using hc.1)] at hp
      obtain ⟨hp1, hp2⟩ := List.pairwise_cons.1 hp
      have hst : rrStep kp s i S x = (rrQ S.1 x.t, S.2 ++ [⟨i, x.e, idxI (rrQ S.1 x.t) x.t⟩]) := by rw [rrStep, if_pos hc]
      rw [hst] at hN ⊢
      obtain ⟨g, h1, h2, h3, h4⟩ := sim_fold l _ hal hp2 hN hi
      have hle := rrFold_len (kp := kp) (s := s) (i := i) l (rrQ S.1 x.t, S.2 ++ [⟨i, x.e, idxI (rrQ S.1 x.t) x.t⟩])
      dsimp only at hle h1 h4
      have hin := idxI_in (rrQ_mem S.1 x.t)
      obtain ⟨k, hk⟩ := Int.eq_ofNat_of_zero_le hin.1
      rw [hk] at hin
      refine ⟨⟨i, x.e, idxI (rrQ S.1 x.t) x.t⟩ :: g, by rw [h1, List.append_assoc]; rfl, ?_, ?_, ?_⟩
      · intro y hy
        rcases List.mem_cons.1 hy with rfl | hy
        · exact ⟨rfl, by show 0 ≤ idxI _ _; rw [hk]; omega, by show idxI _ _ < _; rw [hk]; omega, ha x (List.mem_cons_self ..), x, List.mem_cons_self .., hc.1, rfl⟩
        · obtain ⟨a1, a2, a3, a4, z, a5, a6⟩ := h2 y hy
          exact ⟨a1, a2, a3, a4, z, List.mem_cons_of_mem _ a5, a6⟩
      · refine List.pairwise_cons.2 ⟨fun y hy => ?_, h3⟩
        obtain ⟨_, _, _, _, z, a5, a6, a7⟩ := h2 y hy
        show x.e < y.e
        rw [← a7]
        exact hp1 z (List.mem_filter.2 ⟨a5, by simpa using a6⟩)
      · rw [List.foldl_cons]
        have hq2 : rrQ (allL S.1.length) (idxI (rrQ S.1 x.t) x.t) = allL (rrQ S.1 x.t).length := by
          by_cases hm : x.t ∈ S.1
          · rw [rrQ_old hm, rrQ_old]
            have := idxI_in hm
            rw [← hasB_true]
            exact allL_mem this.1 this.2
          · rw [rrQ_new hm, idxI_new hm, rrQ_new allL_not, List.length_append, List.length_singleton, allL_succ]
        have hs2 : rrStep (allL N) i i (allL S.1.length, S.2) ⟨i, x.e, idxI (rrQ S.1 x.t) x.t⟩ = (allL (rrQ S.1 x.t).length, S.2 ++ [⟨i, x.e, idxI (rrQ S.1 x.t) x.t⟩]) := by
          rw [rrStep, if_pos ⟨rfl, allL_mem (by show 0 ≤ idxI _ _; rw [hk]; omega) (by show idxI _ _ < _; rw [hk]; omega)⟩]
          dsimp only
          rw [hq2, hk, allL_idx (by omega)]
        rw [hs2]
        exact h4
    · have hst : rrStep kp s i S x = S := by rw [rrStep, if_neg hc]
      rw [hst] at hN ⊢
      have hp2 : (l.filter fun x => decide (x.f = s)).Pairwise (fun x y => x.e < y.e) := by
        by_cases hf : x.f = s
        · rw [List.filter_cons_of_pos (by simpa using hf)] at hp; exact (List.pairwise_cons.1 hp).2
        · rw [List.filter_cons_of_neg (by simpa using hf)] at hp; exact hp
      obtain ⟨g, h1, h2, h3, h4⟩ := sim_fold l S hal hp2 hN hi
      refine ⟨g, h1, fun y hy => ?_, h3, h4⟩
      obtain ⟨a1, a2, a3, a4, z, a5, a6⟩ := h2 y hy
      exact ⟨a1, a2, a3, a4, z, List.mem_cons_of_mem _ a5, a6⟩
theorem rrStep_filter {kp : List Int} {s : Int} {i : Nat} : ∀ (l : List Ed) (S : List Int × List Ed), l.foldl (rrStep kp s i) S = (l.filter fun x => decide (x.f = s)).foldl (rrStep kp s i) S
  | [], _ => rfl
  | x :: l, S => by
    rw [List.foldl_cons]
    by_cases hf : x.f = s
    · rw [List.filter_cons_of_pos (by simpa using hf), List.foldl_cons]; exact rrStep_filter l _
    · rw [List.filter_cons_of_neg (by simpa using hf), rrStep, if_neg (fun e => hf e.1)]; exact rrStep_filter l _
theorem Sorted.evs {es : List Ed} (h : Sorted es) (s : Int) : (es.filter fun x => decide (x.f = s)).Pairwise (fun x y => x.e < y.e) := by
  have h1 : (es.filter fun x => decide (x.f = s)).Pairwise edLt := List.Pairwise.filter _ h
  have h2 : ∀ x ∈ es.filter (fun x => decide (x.f = s)), x.f = s := fun x hx => by simpa using (List.mem_filter.1 hx).2
  refine List.Pairwise.imp_of_mem ?_ h1
  intro x y hx hy hxy
  unfold edLt at hxy
  have := h2 x hx
  have := h2 y hy
  omega
/-- The edges from a state on, in both searches. -/
theorem sim_loop {es : List Ed} {kp al : List Int} {N : Nat} (hso : Sorted es) (hal : ∀ x ∈ es, hasB al x.e = true) : ∀ (f i : Nat) (S : List Int × List Ed), (rrLoop es kp f i S).1.length = N → N ≤ i + f → i ≤ N →
    ∃ G, (rrLoop es kp f i S).2 = S.2 ++ G ∧ GOk al i N G ∧ ∀ (E : List Ed), E = S.2 ++ G → (∀ y ∈ S.2, y.f < (i : Int)) → ∀ f', N ≤ i + f' → rrLoop E (allL N) f' i (allL S.1.length, S.2) = (allL N, E)
  | 0, i, S, hR, hf, hi => by
    rw [rrLoop] at hR
    refine ⟨[], by rw [rrLoop, List.append_nil], ⟨List.Pairwise.nil, fun y hy => (by cases hy)⟩, ?_⟩
    intro E hE _ f' _
    rw [List.append_nil] at hE
    cases f' with
    | zero => rw [rrLoop, hR, hE]
    | succ f' => rw [rrLoop, if_neg (by show ¬ i < (allL S.1.length).length; rw [allL_length]; omega), hR, hE]
  | f + 1, i, S, hR, hf, hi => by
    rw [rrLoop] at hR ⊢
    by_cases h : i < S.1.length
    · rw [if_pos h] at hR ⊢
      have hlen := rrLoop_len (es := es) (kp := kp) f (i + 1) (es.foldl (rrStep kp (S.1.getD i 0) i) S)
      have hlen2 := rrFold_len (kp := kp) (s := S.1.getD i 0) (i := i) es S
      obtain ⟨g, h1, h2, h3, h4⟩ := sim_fold (kp := kp) (al := al) (s := S.1.getD i 0) (i := i) (N := N) es S hal (hso.evs _) (by omega) (by omega)
      obtain ⟨G, h5, h6, h7⟩ := sim_loop hso hal f (i + 1) _ hR (by omega) (by omega)
      refine ⟨g ++ G, by rw [h5, h1, List.append_assoc], ⟨?_, ?_⟩, ?_⟩
      · unfold Sorted
        rw [List.pairwise_append]
        refine ⟨List.Pairwise.imp_of_mem ?_ h3, h6.so, fun x hx y hy => ?_⟩
        · intro x y hx hy hxy
          exact .inr ⟨by rw [(h2 x hx).1, (h2 y hy).1], hxy⟩
        · have a1 := (h2 x hx).1
          have a2 := (h6.ok y hy).1
          left; omega
      · intro y hy
        rcases List.mem_append.1 hy with hy | hy
        · obtain ⟨a1, a2, a3, a4, _⟩ := h2 y hy
          exact ⟨by omega, by omega, a2, a3, a4⟩
        · obtain ⟨a1, a2, a3, a4, a5⟩ := h6.ok y hy
          exact ⟨by omega, a2, a3, a4, a5⟩
      · intro E hE hS f' hf'
        cases f' with
        | zero => omega
        | succ f' =>
          rw [rrLoop, if_pos (by show i < (allL S.1.length).length; rw [allL_length]; omega)]
          have e0 : ((allL S.1.length, S.2).1.getD i 0 : Int) = (i : Int) := allL_getD h
          rw [e0, rrStep_filter]
          have e1 : (E.filter fun x => decide (x.f = (i : Int))) = g := by
            rw [hE, List.filter_append, List.filter_append, List.filter_eq_nil_iff.2 (fun y hy => by have := hS y hy; simp; omega), List.nil_append, List.filter_eq_self.2 (fun y hy => by simpa using (h2 y hy).1), List.filter_eq_nil_iff.2 (fun y hy => by have := (h6.ok y hy).1; simp; omega), List.append_nil]
          rw [e1, h4]
          refine h7 E (by rw [hE, h1, List.append_assoc]) (fun y hy => ?_) f' (by omega)
          rw [h1] at hy
          rcases List.mem_append.1 hy with hy | hy
          · have := hS y hy; omega
          · rw [(h2 y hy).1]; omega
    · rw [if_neg h] at hR ⊢
      refine ⟨[], by rw [List.append_nil], ⟨List.Pairwise.nil, fun y hy => (by cases hy)⟩, ?_⟩
      intro E hE _ f' _
      rw [List.append_nil] at hE
      cases f' with
      | zero => rw [rrLoop, hR, hE]
      | succ f' => rw [rrLoop, if_neg (by show ¬ i < (allL S.1.length).length; rw [allL_length]; omega), hR, hE]
theorem rrMs_in (ms q : List Int) : ∀ x ∈ rrMs ms q, 0 ≤ x ∧ x < (q.length : Int) := range_in _ _
theorem rrMs_pairwise (ms q : List Int) : (rrMs ms q).Pairwise (· < ·) := range_pairwise _ _
theorem rrMs_mem {ms q : List Int} {j : Nat} (h : j < q.length) : hasB (rrMs ms q) (j : Int) = hasB ms (q.getD j 0) := by
  rw [Bool.eq_iff_iff, hasB_true, rrMs, List.mem_map]
  constructor
  · rintro ⟨k, hk, e⟩
    have : k = j := by omega
    subst this
    exact (List.mem_filter.1 hk).2
  · intro hb
    exact ⟨j, List.mem_filter.2 ⟨List.mem_range.2 h, hb⟩, rfl⟩
theorem rrMs_idem (ms q : List Int) : rrMs (rrMs ms q) (allL q.length) = rrMs ms q := by
  conv => lhs; rw [rrMs, allL_length]
  conv => rhs; rw [rrMs]
  congr 1
  apply List.filter_congr
  intro j hj
  rw [allL_getD (List.mem_range.1 hj), rrMs_mem (List.mem_range.1 hj)]
/-- What is known of a restricted automaton. -/
structure RRight (a : Aut) (n : Nat) (r : Aut) : Prop where
  al : r.al = a.al
  n0 : 0 ≤ r.n
  n1 : r.n ≤ n
  ms : r.ms.Pairwise (· < ·)
  mr : ∀ x ∈ r.ms, 0 ≤ x ∧ x < r.n
  so : Sorted r.es
  ok : ∀ y ∈ r.es, 0 ≤ y.f ∧ y.f < r.n ∧ 0 ≤ y.t ∧ y.t < r.n ∧ hasB r.al y.e = true
  idem : rrestrictF r (allL r.n.toNat) = r
theorem rrestrict_right {a : Aut} {n : Nat} {kp : List Int} (hn : a.n = n) (hso : Sorted a.es) (hes : ∀ x ∈ a.es, 0 ≤ x.t ∧ x.t < (n : Int)) (hal : ∀ x ∈ a.es, hasB a.al x.e = true) : RRight a n (rrestrictF a kp) := by
  rw [rrestrictF, hn, Int.toNat_natCast]
  by_cases h : (n : Int) = 0 ∨ hasB kp 0 = false
  · rw [if_pos h]
    exact ⟨rfl, Int.le_refl _, by show (0 : Int) ≤ _; omega, List.Pairwise.nil, fun x hx => (by cases hx), List.Pairwise.nil, fun x hx => (by cases hx), by rw [rrestrictF, if_pos (.inl rfl)]⟩
  · rw [if_neg h]
    have hn0 : 0 < n := by omega
    obtain ⟨h3, h4⟩ := rs_start hn0
    obtain ⟨h5, _, h7, h8, _⟩ := rs_loop (kp := kp) (ms := a.ms) hso hes (n + 1) 0 ⟨(List.replicate n 0).set 0 1, [0], []⟩ [] 0 h3 h4 (by omega)
    dsimp only at h7 h8
    have hlen := rrLoop_len (es := a.es) (kp := kp) (n + 1) 0 ([0], [])
    obtain ⟨G, g1, g2, g3⟩ := sim_loop (kp := kp) hso hal (n + 1) 0 ([0], []) rfl (by omega) (Nat.zero_le _)
    generalize rrLoop a.es kp (n + 1) 0 ([0], []) = R at *
    have hlen : 1 ≤ R.1.length := hlen
    rw [List.nil_append] at g1
    refine ⟨rfl, by show (0 : Int) ≤ (R.1.length : Int); omega, by show (R.1.length : Int) ≤ n; omega, rrMs_pairwise _ _, rrMs_in _ _, by show Sorted R.2; rw [g1]; exact g2.so, ?_, ?_⟩
    · intro y hy
      rw [g1] at hy
      have := g2.ok y hy
      exact ⟨by omega, this.2.1, this.2.2.1, this.2.2.2.1, this.2.2.2.2⟩
    · rw [rrestrictF]
      dsimp only
      rw [Int.toNat_natCast, if_neg (by
        rintro (h | h)
        · omega
        · rw [allL_mem (by omega) (by omega)] at h; cases h)]
      have := g3 R.2 (by rw [g1]; rfl) (fun y hy => (by cases hy)) (R.1.length + 1) (by omega)
      have e : (allL (([0], []) : List Int × List Ed).1.length, (([0], []) : List Int × List Ed).2) = ([0], []) := rfl
      rw [e] at this
      rw [this]
      dsimp only
      rw [allL_length, rrMs_idem]
theorem RRight.err {a : Aut} {n : Nat} {r : Aut} (h : RRight a n r) (hal : setErr 32 none a.al = 0) (hn : n ≤ 4096) : r.err = 0 := by
  have h1 := h.n0
  have h2 := h.n1
  unfold Aut.err
  rw [h.al, hal, if_neg (by decide), if_neg (by omega), if_neg (by omega), setErr_ok h.ms h.mr (fun q hq => by cases hq), if_neg (by decide)]
  refine edErr_ok h.so (fun x hx => ?_) (fun q hq => by cases hq)
  rw [← h.al]
  exact h.ok x hx
end Go.Proofs.Ythchkddhibhenaa

/- What Restrict and Trim return: an automaton whose lists lie in new memory, or an error. -/
namespace Go.Proofs.Ythchkddhibhenaa
open Go.RowKit

/-- The lists of an automaton lie in memory from block B on. -/
def FreshA (B : Nat) (v : Value) : Prop := ∃ (a1 a2 a3 : Option Addr) (l1 c1 l2 c2 l3 c3 : Nat) (n : Int), v = .agg #[.slice a1 l1 c1, .int .i64 n, .slice a2 l2 c2, .slice a3 l3 c3] ∧ (∀ ad, a1 = some ad → B ≤ ad.block) ∧ (∀ ad, a2 = some ad → B ≤ ad.block) ∧ (∀ ad, a3 = some ad → B ≤ ad.block)
theorem Row.fresh_ad {w : World} {B : Nat} {tag : Nat → Nat} {k : Nat} {t : TypeId} {sz : Nat} {n c m : Nat} {cs : List Value} {a : Option Addr} (h : Row w B tag k t sz (.slice a n c) m cs) : ∀ ad, a = some ad → B ≤ ad.block := by
  intro ad e
  rcases h.2 with ⟨h1, _⟩ | ⟨b, off, cap, cur, h1, ho, _⟩
  · cases h1; cases e
  · cases h1; cases e; exact ho.base
theorem FreshA.mono {B B' : Nat} {v : Value} (h : FreshA B v) (hb : B' ≤ B) : FreshA B' v := by
  obtain ⟨a1, a2, a3, l1, c1, l2, c2, l3, c3, n, e, h1, h2, h3⟩ := h
  exact ⟨a1, a2, a3, l1, c1, l2, c2, l3, c3, n, e, fun ad e => Nat.le_trans hb (h1 ad e), fun ad e => Nat.le_trans hb (h2 ad e), fun ad e => Nat.le_trans hb (h3 ad e)⟩
/-- What Restrict returns. -/
def RestPost (B : Nat) (e : Int) (r : Aut) (u : Value) (w' : World) : Prop := if e = 0 then ∃ v, u = .tuple #[v, .int .i64 0] ∧ RdA w' v r ∧ FreshA B v else u = .tuple #[.agg #[.slice none 0 0, .int .i64 0, .slice none 0 0, .slice none 0 0], .int .i64 e]
theorem RestPost.err {B : Nat} {e : Int} {r : Aut} {w' : World} (h : e ≠ 0) : RestPost B e r (.tuple #[.agg #[.slice none 0 0, .int .i64 0, .slice none 0 0, .slice none 0 0], .int .i64 e]) w' := by unfold RestPost; rw [if_neg h]
theorem RestPost.ok {B : Nat} {e : Int} {r : Aut} {v : Value} {w' : World} (h : e = 0) (hr : RdA w' v r) (hf : FreshA B v) : RestPost B e r (.tuple #[v, .int .i64 0]) w' := by unfold RestPost; rw [if_pos h]; exact ⟨v, rfl, hr, hf⟩
/-- Four cells of another block are stored: the lists in new memory stay. -/
theorem RdA.setCell {w : World} {v : Value} {r : Aut} {B b : Nat} (h : RdA w v r) (hf : FreshA B v) (hb : b < B) (j : Nat) (x : Value) : RdA (w.setCell ⟨b, j, none⟩ x) v r := by
  obtain ⟨a1, a2, a3, l1, c1, l2, c2, l3, c3, n, rfl, h1, h2, h3⟩ := hf
  obtain ⟨va, vm, ve, e, ⟨aa, ca, rfl, ha⟩, ⟨am, cm, rfl, hm⟩, ⟨ae, ce, rfl, he⟩⟩ := h
  cases e
  have hk : ∀ (ad : Addr) (i : Nat), B ≤ ad.block → (w.setCell ⟨b, j, none⟩ x).cell? ⟨ad.block, i, none⟩ = w.cell? ⟨ad.block, i, none⟩ := fun ad i hB => by
    apply World.cell?_setCell_other
    intro e
    have := congrArg Addr.block e
    dsimp only at this
    omega
  exact ⟨_, _, _, rfl, ⟨_, _, rfl, ⟨ha.hlen, ha.hcap, ha.hmax, ha.hnil, ha.spot, fun ad e j hj => (hk ad _ (h1 ad e)).trans (ha.cell ad e j hj)⟩⟩, ⟨_, _, rfl, ⟨hm.hlen, hm.hcap, hm.hmax, hm.hnil, hm.spot, fun ad e j hj => (hk ad _ (h2 ad e)).trans (hm.cell ad e j hj)⟩⟩, ⟨_, _, rfl, ⟨he.hlen, he.hcap, he.hmax, he.hnil, he.spot, fun ad e j hj => (hk ad _ (h3 ad e)).trans (he.cell ad e j hj)⟩⟩⟩
end Go.Proofs.Ythchkddhibhenaa

/- What holds of the memory while canonical numbers the states. -/
namespace Go.Proofs.Ythchkddhibhenaa
open Go Go.RowKit

/-- The canonical form. -/
def canonF (a : Aut) : Aut := restrictF a.al a.ms a.n.toNat a.es (allL a.n.toNat)
theorem rsNum_E (S : RSt) (x : Ed) : (rsNum S x).E = S.E := by unfold rsNum; split <;> rfl
theorem rsStep_num {inF : List Bool} {i : Nat} {S : RSt} {x : Ed} (h : inF.getD x.t.toNat false = true) : rsStep inF i S x = ⟨(rsNum S x).num, (rsNum S x).q, S.E ++ [⟨i, x.e, (rsNum S x).num.getD x.t.toNat 0 - 1⟩]⟩ := by rw [rsStep, if_pos h]
theorem rsNum_old {S : RSt} {x : Ed} (h : S.num.getD x.t.toNat 0 ≠ 0) : rsNum S x = S := by rw [rsNum, if_neg h]
theorem rsNum_new {S : RSt} {x : Ed} (h : S.num.getD x.t.toNat 0 = 0) : rsNum S x = ⟨S.num.set x.t.toNat ((S.q.length : Int) + 1), S.q ++ [x.t], S.E⟩ := by rw [rsNum, if_pos h]
/-- The numbers as the code keeps them: one less. -/
def less1 (l : List Int) : List Int := l.map fun x => x - 1
theorem less1_set (l : List Int) (j : Nat) (v u : Int) (hu : u = v - 1) : (less1 l).set j u = less1 (l.set j v) := by subst hu; exact (List.map_set ..).symm
theorem less1_get {l : List Int} {j : Nat} (h : j < l.length) : (ints (less1 l))[j]? = some (.int .i64 (l.getD j 0 - 1)) := by
  rw [List.getElem?_map, less1, List.getElem?_map, List.getD_eq_getElem?_getD, List.getElem?_eq_getElem h]; rfl
theorem fill_set {α : Type} (a b : α) (n k : Nat) (h : k < n) : (List.replicate k a ++ List.replicate (n - k) b).set k a = List.replicate (k + 1) a ++ List.replicate (n - (k + 1)) b := by
  rw [List.set_append_right _ _ (by simp), List.length_replicate, Nat.sub_self, show n - k = (n - (k + 1)) + 1 by omega, List.replicate_succ, List.set_cons_zero, List.replicate_succ', List.append_assoc]
  rfl

/-- Four cells are stored. -/
theorem own_store4 {w : World} {B : Nat} {tag : Nat → Nat} {k b : Nat} {c0 c1 c2 c3 : Value} {t : TypeId} (h : Own w B tag k b #[c0, c1, c2, c3] t) (d0 d1 d2 d3 : Value) :
    Own ((((w.setCell ⟨b, 0, none⟩ d0).setCell ⟨b, 1, none⟩ d1).setCell ⟨b, 2, none⟩ d2).setCell ⟨b, 3, none⟩ d3) B tag k b #[d0, d1, d2, d3] t ∧ Turn B tag tag k w ((((w.setCell ⟨b, 0, none⟩ d0).setCell ⟨b, 1, none⟩ d1).setCell ⟨b, 2, none⟩ d2).setCell ⟨b, 3, none⟩ d3) := by
  have h0 := h.set 0 d0
  have h1 := h0.set 1 d1
  have h2 := h1.set 2 d2
  have h3 := h2.set 3 d3
  exact ⟨h3, ((Turn.setCell h 0 d0).trans (Turn.setCell h0 1 d1)).trans ((Turn.setCell h1 2 d2).trans (Turn.setCell h2 3 d3))⟩
/-- Block b8: the result that is made; blocks w.heap.size and the next: the argument, the result's cell. -/
structure CB (w : World) (c0 c1 c2 c3 : Value) (n b8 : Nat) (va vnum : Value) (alL : List Int) (W : World) (tag : Nat → Nat) (vm ve vq : Value) (S : RSt) (ms : List Int) : Prop where
  below : Below w.heap.size w W
  ab : Own W w.heap.size tag 0 w.heap.size #[c0, c1, c2, c3] 31
  rc : Own W w.heap.size tag 0 (w.heap.size + 1) #[.slice none 0 0, .int .i64 0, .slice none 0 0, .slice none 0 0] 31
  ob : Own W w.heap.size tag 6 b8 #[va, .int .i64 0, vm, ve] 31
  al : Row W w.heap.size tag 0 3 1 va alL.length (ints alL)
  nr : Row W w.heap.size tag 2 3 1 vnum n (ints (less1 S.num))
  qr : Row W w.heap.size tag 4 3 1 vq S.q.length (ints S.q)
  mr : Row W w.heap.size tag 7 3 1 vm ms.length (ints ms)
section
variable {w : World} {c0 c1 c2 c3 : Value} {n b8 : Nat} {va vnum : Value} {alL : List Int} {W W' : World} {tag tag' : Nat → Nat} {vm ve vq : Value} {S : RSt} {ms : List Int}
theorem CB.call (h : CB w c0 c1 c2 c3 n b8 va vnum alL W tag vm ve vq S ms) (hb : Below W.heap.size W W') : CB w c0 c1 c2 c3 n b8 va vnum alL W' tag vm ve vq S ms :=
  ⟨belCall h.below hb h.below.size, h.ab.below hb, h.rc.below hb, h.ob.below hb, h.al.below hb, h.nr.below hb, h.qr.below hb, h.mr.below hb⟩
theorem CB.up (h : CB w c0 c1 c2 c3 n b8 va vnum alL W tag vm ve vq S ms) (o : Obj) (k : Nat) : CB w c0 c1 c2 c3 n b8 va vnum alL (W.alloc o) (tagUp tag W.heap.size k) vm ve vq S ms :=
  ⟨h.below.alloc h.below.size o, h.ab.upR o k, h.rc.upR o k, h.ob.upR o k, h.al.up o k, h.nr.up o k, h.qr.up o k, h.mr.up o k⟩
/-- A block of another kind turns. -/
theorem CB.turn (k : Nat) (h : CB w c0 c1 c2 c3 n b8 va vnum alL W tag vm ve vq S ms) (ht : Turn w.heap.size tag tag' k W W') (h0 : k ≠ 0) (h2 : k ≠ 2) (h4 : k ≠ 4) (h6 : k ≠ 6) (h7 : k ≠ 7) : CB w c0 c1 c2 c3 n b8 va vnum alL W' tag' vm ve vq S ms :=
  ⟨belTurn h.below ht h.below.size, h.ab.turn ht (by omega), h.rc.turn ht (by omega), h.ob.turn ht (by omega), h.al.turn ht (by omega), h.nr.turn ht (by omega), h.qr.turn ht (by omega), h.mr.turn ht (by omega)⟩
theorem CB.setNum {bn on cn : Nat} (h : CB w c0 c1 c2 c3 n b8 va (.slice (some ⟨bn, on, none⟩) n cn) alL W tag vm ve vq S ms) (j : Nat) (v u : Int) (hu : u = v - 1) :
    CB w c0 c1 c2 c3 n b8 va (.slice (some ⟨bn, on, none⟩) n cn) alL (W.setCell ⟨bn, on + j, none⟩ (.int .i64 u)) tag vm ve vq ⟨S.num.set j v, S.q, S.E⟩ ms ∧ Turn w.heap.size tag tag 2 W (W.setCell ⟨bn, on + j, none⟩ (.int .i64 u)) := by
  have h1 := h.nr.set j (.int .i64 u)
  have ht := h1.2
  have h2 := h1.1
  rw [show (ints (less1 S.num)).set j (.int .i64 u) = ints (less1 (S.num.set j v)) by rw [← less1_set _ _ _ _ hu]; exact (List.map_set ..).symm] at h2
  exact ⟨⟨belTurn h.below ht h.below.size, h.ab.turn ht (by decide), h.rc.turn ht (by decide), h.ob.turn ht (by decide), h.al.turn ht (by decide), h2, h.qr.turn ht (by decide), h.mr.turn ht (by decide)⟩, ht⟩
/-- A state more in the queue. -/
theorem CB.push {vq' : Value} {x : Int} (h : CB w c0 c1 c2 c3 n b8 va vnum alL W tag vm ve vq S ms) (hr : Row W' w.heap.size tag' 4 3 1 vq' (S.q.length + 1) (ints S.q ++ [.int .i64 x])) (ht : Turn w.heap.size tag tag' 4 W W') :
    CB w c0 c1 c2 c3 n b8 va vnum alL W' tag' vm ve vq' ⟨S.num, S.q ++ [x], S.E⟩ ms :=
  ⟨belTurn h.below ht h.below.size, h.ab.turn ht (by decide), h.rc.turn ht (by decide), h.ob.turn ht (by decide), h.al.turn ht (by decide), h.nr.turn ht (by decide), by
    rw [List.length_append, show ints (S.q ++ [x]) = ints S.q ++ [.int .i64 x] by simp [ints]]; exact hr, h.mr.turn ht (by decide)⟩
/-- A marked state more. -/
theorem CB.markS {vm' : Value} {x : Int} (h : CB w c0 c1 c2 c3 n b8 va vnum alL W tag vm ve vq S ms) (hr : Row W' w.heap.size tag' 7 3 1 vm' (ms.length + 1) (ints ms ++ [.int .i64 x])) (ht : Turn w.heap.size tag tag' 7 W W') :
    CB w c0 c1 c2 c3 n b8 va vnum alL (W'.setCell ⟨b8, 2, none⟩ vm') tag' vm' ve vq S (ms ++ [x]) := by
  have hs := h.ob.turn ht (by decide)
  have h1 := Turn.setCell hs 2 vm'
  have h2 := hs.set 2 vm'
  have hB : w.heap.size ≤ W'.heap.size := Nat.le_trans h.below.size ht.size
  exact ⟨belTurn (belTurn h.below ht h.below.size) h1 hB, (h.ab.turn ht (by decide)).turn h1 (by decide), (h.rc.turn ht (by decide)).turn h1 (by decide), h2, (h.al.turn ht (by decide)).turn h1 (by decide), (h.nr.turn ht (by decide)).turn h1 (by decide), (h.qr.turn ht (by decide)).turn h1 (by decide), by
    rw [List.length_append, show ints (ms ++ [x]) = ints ms ++ [.int .i64 x] by simp [ints]]; exact hr.turn h1 (by decide)⟩
/-- The edges' cell. -/
theorem CB.putE (h : CB w c0 c1 c2 c3 n b8 va vnum alL W tag vm ve vq S ms) (ve' : Value) (S' : RSt) (hn : S'.num = S.num) (hq : S'.q = S.q) :
    CB w c0 c1 c2 c3 n b8 va vnum alL (W.setCell ⟨b8, 3, none⟩ ve') tag vm ve' vq S' ms ∧ Turn w.heap.size tag tag 6 W (W.setCell ⟨b8, 3, none⟩ ve') := by
  have h1 := Turn.setCell h.ob 3 ve'
  have h2 := h.ob.set 3 ve'
  exact ⟨⟨belTurn h.below h1 h.below.size, h.ab.turn h1 (by decide), h.rc.turn h1 (by decide), h2, h.al.turn h1 (by decide), by rw [hn]; exact h.nr.turn h1 (by decide), by rw [hq]; exact h.qr.turn h1 (by decide), h.mr.turn h1 (by decide)⟩, h1⟩
theorem CB.newQ {vq' : Value} (h : CB w c0 c1 c2 c3 n b8 va vnum alL W tag vm ve vq S ms) (q : List Int) (hq : Row W w.heap.size tag 4 3 1 vq' q.length (ints q)) : CB w c0 c1 c2 c3 n b8 va vnum alL W tag vm ve vq' ⟨S.num, q, S.E⟩ ms := { h with qr := hq }
theorem CB.withE (h : CB w c0 c1 c2 c3 n b8 va vnum alL W tag vm ve vq S ms) (E : List Ed) : CB w c0 c1 c2 c3 n b8 va vnum alL W tag vm ve vq ⟨S.num, S.q, E⟩ ms := { h with }
end
end Go.Proofs.Ythchkddhibhenaa

/- What holds of the memory while the reference's Restrict goes on. -/
namespace Go.Proofs.Ythchkddhibhenaa
open Go Go.RowKit

/-- Block b8: the result that is made; blocks w.heap.size and the next: the argument, the result's cell. -/
structure RC (w : World) (c0 c1 c2 c3 : Value) (b8 : Nat) (va : Value) (W : World) (tag : Nat → Nat) (vm ve vq : Value) (q ms : List Int) (cn : Value) : Prop where
  below : Below w.heap.size w W
  ab : Own W w.heap.size tag 0 w.heap.size #[c0, c1, c2, c3] 31
  rc : Own W w.heap.size tag 0 (w.heap.size + 1) #[.slice none 0 0, .int .i64 0, .slice none 0 0, .slice none 0 0] 31
  ob : Own W w.heap.size tag 6 b8 #[va, cn, vm, ve] 31
  qr : Row W w.heap.size tag 4 3 1 vq q.length (ints q)
  mr : Row W w.heap.size tag 7 3 1 vm ms.length (ints ms)
section
variable {w : World} {c0 c1 c2 c3 : Value} {b8 : Nat} {va : Value} {W W' : World} {tag tag' : Nat → Nat} {vm ve vq cn : Value} {q ms : List Int}
theorem RC.call (h : RC w c0 c1 c2 c3 b8 va W tag vm ve vq q ms cn) (hb : Below W.heap.size W W') : RC w c0 c1 c2 c3 b8 va W' tag vm ve vq q ms cn :=
  ⟨belCall h.below hb h.below.size, h.ab.below hb, h.rc.below hb, h.ob.below hb, h.qr.below hb, h.mr.below hb⟩
theorem RC.up (h : RC w c0 c1 c2 c3 b8 va W tag vm ve vq q ms cn) (o : Obj) (k : Nat) : RC w c0 c1 c2 c3 b8 va (W.alloc o) (tagUp tag W.heap.size k) vm ve vq q ms cn :=
  ⟨h.below.alloc h.below.size o, h.ab.upR o k, h.rc.upR o k, h.ob.upR o k, h.qr.up o k, h.mr.up o k⟩
theorem RC.turn (k : Nat) (h : RC w c0 c1 c2 c3 b8 va W tag vm ve vq q ms cn) (ht : Turn w.heap.size tag tag' k W W') (h0 : k ≠ 0) (h4 : k ≠ 4) (h6 : k ≠ 6) (h7 : k ≠ 7) : RC w c0 c1 c2 c3 b8 va W' tag' vm ve vq q ms cn :=
  ⟨belTurn h.below ht h.below.size, h.ab.turn ht (by omega), h.rc.turn ht (by omega), h.ob.turn ht (by omega), h.qr.turn ht (by omega), h.mr.turn ht (by omega)⟩
/-- A state more in the queue. -/
theorem RC.push {vq' : Value} {x : Int} (h : RC w c0 c1 c2 c3 b8 va W tag vm ve vq q ms cn) (hr : Row W' w.heap.size tag' 4 3 1 vq' (q.length + 1) (ints q ++ [.int .i64 x])) (ht : Turn w.heap.size tag tag' 4 W W') :
    RC w c0 c1 c2 c3 b8 va W' tag' vm ve vq' (q ++ [x]) ms cn :=
  ⟨belTurn h.below ht h.below.size, h.ab.turn ht (by decide), h.rc.turn ht (by decide), h.ob.turn ht (by decide), by
    rw [List.length_append, show ints (q ++ [x]) = ints q ++ [.int .i64 x] by simp [ints]]; exact hr, h.mr.turn ht (by decide)⟩
/-- A marked state more. -/
theorem RC.markS {vm' : Value} {x : Int} (h : RC w c0 c1 c2 c3 b8 va W tag vm ve vq q ms cn) (hr : Row W' w.heap.size tag' 7 3 1 vm' (ms.length + 1) (ints ms ++ [.int .i64 x])) (ht : Turn w.heap.size tag tag' 7 W W') :
    RC w c0 c1 c2 c3 b8 va (W'.setCell ⟨b8, 2, none⟩ vm') tag' vm' ve vq q (ms ++ [x]) cn := by
  have hs := h.ob.turn ht (by decide)
  have h1 := Turn.setCell hs 2 vm'
  have h2 := hs.set 2 vm'
  have hB : w.heap.size ≤ W'.heap.size := Nat.le_trans h.below.size ht.size
  exact ⟨belTurn (belTurn h.below ht h.below.size) h1 hB, (h.ab.turn ht (by decide)).turn h1 (by decide), (h.rc.turn ht (by decide)).turn h1 (by decide), h2, (h.qr.turn ht (by decide)).turn h1 (by decide), by
    rw [List.length_append, show ints (ms ++ [x]) = ints ms ++ [.int .i64 x] by simp [ints]]; exact hr.turn h1 (by decide)⟩
/-- The edges' cell. -/
theorem RC.putE (h : RC w c0 c1 c2 c3 b8 va W tag vm ve vq q ms cn) (ve' : Value) :
    RC w c0 c1 c2 c3 b8 va (W.setCell ⟨b8, 3, none⟩ ve') tag vm ve' vq q ms cn ∧ Turn w.heap.size tag tag 6 W (W.setCell ⟨b8, 3, none⟩ ve') := by
  have h1 := Turn.setCell h.ob 3 ve'
  have h2 := h.ob.set 3 ve'
  exact ⟨⟨belTurn h.below h1 h.below.size, h.ab.turn h1 (by decide), h.rc.turn h1 (by decide), h2, h.qr.turn h1 (by decide), h.mr.turn h1 (by decide)⟩, h1⟩
/-- The number of states. -/
theorem RC.putN (h : RC w c0 c1 c2 c3 b8 va W tag vm ve vq q ms cn) (cn' : Value) :
    RC w c0 c1 c2 c3 b8 va (W.setCell ⟨b8, 1, none⟩ cn') tag vm ve vq q ms cn' ∧ Turn w.heap.size tag tag 6 W (W.setCell ⟨b8, 1, none⟩ cn') := by
  have h1 := Turn.setCell h.ob 1 cn'
  have h2 := h.ob.set 1 cn'
  exact ⟨⟨belTurn h.below h1 h.below.size, h.ab.turn h1 (by decide), h.rc.turn h1 (by decide), h2, h.qr.turn h1 (by decide), h.mr.turn h1 (by decide)⟩, h1⟩
end
theorem rrStep_no {kp : List Int} {s : Int} {i : Nat} {S : List Int × List Ed} {x : Ed} (h : x.f ≠ s ∨ hasB kp x.t = false) : rrStep kp s i S x = S := by
  rw [rrStep, if_neg]
  rintro ⟨h1, h2⟩
  rcases h with h | h
  · exact h h1
  · rw [h] at h2; cases h2
theorem rrStep_yes {kp : List Int} {s : Int} {i : Nat} {S : List Int × List Ed} {x : Ed} (h : x.f = s) (h2 : hasB kp x.t = true) : rrStep kp s i S x = (rrQ S.1 x.t, S.2 ++ [⟨i, x.e, idxI (rrQ S.1 x.t) x.t⟩]) := by
  rw [rrStep, if_pos ⟨h, h2⟩]
/-- The queue holds states below n, each once; so it is short. -/
structure QOk (n : Nat) (q : List Int) : Prop where
  nd : q.Nodup
  rng : ∀ s ∈ q, 0 ≤ s ∧ s < (n : Int)
theorem QOk.len : ∀ {n : Nat} {q : List Int}, QOk n q → q.length ≤ n
  | 0, [], _ => Nat.le_refl _
  | 0, x :: q, h => by have := h.rng x (List.mem_cons_self ..); omega
  | n + 1, q, h => by
    by_cases hm : (n : Int) ∈ q
    · have h1 : QOk n (q.erase (n : Int)) := ⟨h.nd.erase _, fun s hs => by
        have h2 := (h.nd.mem_erase_iff).1 hs
        have h3 := h.rng s h2.2
        have := h2.1
        omega⟩
      have h2 := h1.len
      rw [List.length_erase_of_mem hm] at h2
      omega
    · have h1 : QOk n q := ⟨h.nd, fun s hs => by
        have h3 := h.rng s hs
        have : s ≠ n := fun e => hm (e ▸ hs)
        omega⟩
      have := h1.len
      omega
theorem QOk.rrQ {n : Nat} {q : List Int} {t : Int} (h : QOk n q) (h0 : 0 ≤ t) (h1 : t < (n : Int)) : QOk n (rrQ q t) := by
  by_cases hm : t ∈ q
  · rw [rrQ_old hm]; exact h
  · rw [rrQ_new hm]
    refine ⟨?_, fun s hs => ?_⟩
    · rw [List.nodup_append]
      exact ⟨h.nd, by simp, fun a ha b hb e => by rw [List.mem_singleton.1 hb] at e; exact hm (e ▸ ha)⟩
    · rcases List.mem_append.1 hs with h4 | h4
      · exact h.rng s h4
      · rw [List.mem_singleton.1 h4]; exact ⟨h0, h1⟩
/-- The marked states found so far. -/
def rrMsTo (ms q : List Int) (k : Nat) : List Int := ((List.range k).filter fun i => hasB ms (q.getD i 0)).map fun (i : Nat) => (i : Int)
theorem rrMsTo_len (ms q : List Int) (k : Nat) : (rrMsTo ms q k).length ≤ k := by
  unfold rrMsTo
  rw [List.length_map]
  exact Nat.le_trans (List.length_filter_le _ _) (by simp)
theorem rrMsTo_succ (ms q : List Int) (k : Nat) : rrMsTo ms q (k + 1) = if hasB ms (q.getD k 0) = true then rrMsTo ms q k ++ [(k : Int)] else rrMsTo ms q k := by
  unfold rrMsTo
  rw [List.range_succ, List.filter_append, List.map_append]
  cases h : hasB ms (q.getD k 0) with
  | true => rw [if_pos rfl, List.filter_cons_of_pos (by simpa using h)]; rfl
  | false => rw [if_neg (by simp), List.filter_cons_of_neg (by show ¬ hasB ms (q.getD k 0) = true; rw [h]; simp)]; simp
end Go.Proofs.Ythchkddhibhenaa

/- A law for a region that draws its order, makes memory and calls, but stores nothing: what holds of each slot stays. -/
namespace Go.Proofs.Ythchkddhibhenaa
open Go Go.RowKit

section
variable {P : Program} {ops : Array Oper} {Q : Exit → Act → World → Prop}
/-- What holds of the slots of the operations that have been carried out. -/
structure MonoI (R : Nat → Value → World → Prop) (n : Nat) (w0 : World) (l : Array Bool) (us : List Value) (W : World) : Prop where
  len : us.length = n
  bel : Below w0.heap.size w0 W
  has : ∀ j, j < n → l.getD j false = true → R j (us.getD j undef) W
theorem MonoI.step {R : Nat → Value → World → Prop} {n k : Nat} {w0 : World} {l : Array Bool} {us : List Value} {W W' : World} (hmono : ∀ j v W W', Below W.heap.size W W' → R j v W → R j v W')
    (hl : ∀ j, j < n → (l.setIfInBounds k true).getD j false = (j == k || l.getD j false)) (h : MonoI R n w0 l us W) (hb : Below W.heap.size W W') {v : Value} (hv : R k v W') : MonoI R n w0 (l.setIfInBounds k true) (us.set k v) W' := by
  refine ⟨by rw [List.length_set]; exact h.len, h.bel.trans (hb.mono h.bel.size), fun j hj hs => ?_⟩
  by_cases e : k = j
  · subst e
    rw [List.getD_eq_getElem?_getD, List.getElem?_set_self (by rw [h.len]; exact hj)]
    exact hv
  · rw [List.getD_eq_getElem?_getD, List.getElem?_set_ne e, ← List.getD_eq_getElem?_getD]
    have h1 : (j == k) = false := by simp; omega
    rw [hl j hj, h1, Bool.false_or] at hs
    exact hmono j _ W W' hb (h.has j hj hs)
theorem wp_region_mono {id : Nat} {a : Act} {w : World} (R : Nat → Value → World → Prop) (ds : List Nat) (hmono : ∀ j v W W', Below W.heap.size W W' → R j v W → R j v W') (hn : ds.length = ops.size) (hm : P.follows .mixedOrders = true) (hB : afterB ops = true)
    (hs : Steps P ops Q .any (MonoI R ops.size w.drew) a ds 0)
    (hend : ∀ us W, us.length = ops.size → Below w.drew.heap.size w.drew W → (∀ j, j < ops.size → R j (us.getD j undef) W) → Q .normal (puts a ds us) W) : (Code.region id ops true).wp P Q a w := by
  refine wp_region_inv (MonoI R ops.size w.drew) ds hm hB ⟨by simp [hn], Below.refl _ _, fun j hj h => ?_⟩ hs (fun l us W h hall => hend us W h.len h.bel (fun j hj => h.has j hj (hall j hj)))
  rw [Array.getD_eq_getD_getElem?, Array.getElem?_replicate] at h
  split at h <;> cases h
end
end Go.Proofs.Ythchkddhibhenaa

/- The laws for a region that draws, where an operation may wait for a later one in one compiler's order. -/
namespace Go.Proofs.Ythchkddhibhenaa
open Go Go.RowKit

/-- Each operation waits for earlier ones alone, where the wait binds. -/
def afterC (ops : Array Oper) : Bool := (List.range ops.size).all fun j => ((ops[j]?).map fun o => o.after.all fun e => !Region.binds .any e || decide (e.on < j)).getD true

section
variable {P : Program} {ops : Array Oper} {Q : Exit → Act → World → Prop}

theorem all_of_ready2 (hB : afterC ops = true) {listed : Array Bool} (hr : Region.ready .any ops listed = []) : ∀ j, j < ops.size → listed.getD j true = true := by
  intro j
  induction j using Nat.strongRecOn with
  | _ j ih =>
    intro hj
    by_cases h : listed.getD j true = true
    · exact h
    · exfalso
      have hf : listed.getD j true = false := by simpa using h
      have : j ∈ Region.ready .any ops listed := by
        refine mem_ready.2 ⟨hf, ops[j], Array.getElem?_eq_getElem hj, fun e he hbd => ?_⟩
        have h1 := List.all_eq_true.1 hB j (List.mem_range.2 hj)
        rw [Array.getElem?_eq_getElem hj] at h1
        simp only [Option.map_some, Option.getD_some] at h1
        have h2 := Array.all_eq_true_iff_forall_mem.1 h1 e he
        simp only [hbd, Bool.not_true, Bool.false_or, decide_eq_true_eq] at h2
        have h3 := ih e.on h2 (by omega)
        have hlt : e.on < listed.size := by
          have hjs : j < listed.size := by
            rcases Nat.lt_or_ge j listed.size with h' | h'
            · exact h'
            · rw [Array.getD_eq_getD_getElem?, Array.getElem?_eq_none h'] at hf; cases hf
          omega
        rw [Array.getD_eq_getD_getElem?, Array.getElem?_eq_getElem hlt] at h3 ⊢
        exact h3
      rw [hr] at this
      cases this

theorem wpAny_inv2 {I : Array Bool → Act → World → Prop} (hB : afterC ops = true)
    (hstep : ∀ i listed a w, I listed a w → i ∈ Region.ready .any ops listed → wpOp P ops Q i (I (listed.setIfInBounds i true)) a w)
    (hend : ∀ listed a w, I listed a w → (∀ j, j < ops.size → listed.getD j true = true) → Q .normal a w) :
    ∀ (fuel : Nat) (listed : Array Bool) (a : Act) (w : World), listed.toList.count false ≤ fuel → I listed a w → wpAny P .any ops Q fuel listed a w := by
  intro fuel
  induction fuel with
  | zero =>
    intro listed a w hc hI
    have hr : Region.ready .any ops listed = [] := by
      rw [List.eq_nil_iff_forall_not_mem]
      intro i hi
      have h1 := (mem_ready.1 hi).1
      have h2 : false ∈ listed.toList := by
        rcases Nat.lt_or_ge i listed.size with h' | h'
        · rw [Array.getD_eq_getD_getElem?, Array.getElem?_eq_getElem h'] at h1
          simp only [Option.getD_some] at h1
          rw [← h1, ← Array.getElem_toList]; exact List.getElem_mem _
        · rw [Array.getD_eq_getD_getElem?, Array.getElem?_eq_none h'] at h1; cases h1
      have := List.count_pos_iff.2 h2
      omega
    exact ⟨hr, hend _ _ _ hI (all_of_ready2 hB hr)⟩
  | succ fuel ih =>
    intro listed a w hc hI
    refine ⟨fun hr => hend _ _ _ hI (all_of_ready2 hB hr), fun i hi => wpOp_mono (fun a' w' h => ih _ a' w' ?_ h) (hstep i listed a w hI hi)⟩
    have h1 := (mem_ready.1 hi).1
    have hlt : i < listed.toList.length := by
      rcases Nat.lt_or_ge i listed.size with h' | h'
      · simpa using h'
      · rw [Array.getD_eq_getD_getElem?, Array.getElem?_eq_none h'] at h1; cases h1
    have h2 := count_falses hlt (by rw [List.getD_eq_getElem?_getD, Array.getElem?_toList, ← Array.getD_eq_getD_getElem?]; exact h1)
    rw [Array.toList_setIfInBounds]
    omega

theorem wp_region_inv2 {id : Nat} {a : Act} {w : World} (I : Array Bool → List Value → World → Prop) (ds : List Nat) (hm : P.follows .mixedOrders = true) (hB : afterC ops = true)
    (hI : I (Array.replicate ops.size false) (ds.map fun d => a.tmps.getD d undef) w.drew)
    (hs : Steps P ops Q .any I a ds 0)
    (hend : ∀ listed us w, I listed us w → (∀ j, j < ops.size → listed.getD j false = true) → Q .normal (puts a ds us) w) : (Code.region id ops true).wp P Q a w := by
  refine wp_region_any hm ?_
  refine wpAny_inv2 (I := fun listed a' w' => listed.size = ops.size ∧ ∃ us, puts a ds us = a' ∧ I listed us w') hB ?_ ?_ _ _ _ _ (by simp) ⟨by simp, _, puts_self a ds, hI⟩
  · rintro i listed a' w' ⟨hsz, us, rfl, hI⟩ hr
    have hi : i < ops.size := by
      obtain ⟨_, o, ho, _⟩ := mem_ready.1 hr
      exact (Array.getElem?_eq_some_iff.1 ho).1
    exact wpOp_mono (fun a w h => ⟨by simp [hsz], h⟩) (hs i (Nat.zero_le _) hi listed us w' hsz hI hr)
  · rintro listed a' w' ⟨hsz, us, rfl, hI⟩ hall
    refine hend listed us w' hI (fun j hj => ?_)
    have := hall j hj
    rw [Array.getD_eq_getD_getElem?, Array.getElem?_eq_getElem (by omega)] at this ⊢
    exact this
theorem wp_region_mono2 {id : Nat} {a : Act} {w : World} (R : Nat → Value → World → Prop) (ds : List Nat) (hmono : ∀ j v W W', Below W.heap.size W W' → R j v W → R j v W') (hn : ds.length = ops.size) (hm : P.follows .mixedOrders = true) (hB : afterC ops = true)
    (hs : Steps P ops Q .any (MonoI R ops.size w.drew) a ds 0)
    (hend : ∀ us W, us.length = ops.size → Below w.drew.heap.size w.drew W → (∀ j, j < ops.size → R j (us.getD j undef) W) → Q .normal (puts a ds us) W) : (Code.region id ops true).wp P Q a w := by
  refine wp_region_inv2 (MonoI R ops.size w.drew) ds hm hB ⟨by simp [hn], Below.refl _ _, fun j hj h => ?_⟩ hs (fun l us W h hall => hend us W h.len h.bel (fun j hj => h.has j hj (hall j hj)))
  rw [Array.getD_eq_getD_getElem?, Array.getElem?_replicate] at h
  split at h <;> cases h
end
end Go.Proofs.Ythchkddhibhenaa
