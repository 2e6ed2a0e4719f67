/- What forward, Reachable and Coreachable find: plain laws. -/
import Derived.Test.YthchkddhibhenaaFwdFn
import Derived.Test.YthchkddhibhenaaIntL
import Derived.Test.YthchkddhibhenaaRCorea
import Derived.Test.YthchkddhibhenaaRReach
namespace Go.Proofs.Ythchkddhibhenaa

theorem Gd_true {fl : List Bool} {k : Nat} {s : Int} (h0 : 0 ≤ s) (hk : k < fl.length) : Gd (fl.set k true) s ↔ Gd fl s ∨ s.toNat = k := by
  unfold Gd
  by_cases e : k = s.toNat
  · subst e
    rw [List.getD_eq_getElem?_getD, List.getElem?_set_self hk]
    exact ⟨fun _ => .inr rfl, fun _ => rfl⟩
  · rw [List.getD_eq_getElem?_getD, List.getElem?_set_ne e, ← List.getD_eq_getElem?_getD]
    exact ⟨.inl, fun h => h.elim id (fun h => absurd h.symm e)⟩
theorem Leads.congr {es : List Ed} {p p' : Ed → Bool} (h : ∀ x ∈ es, p x = true → p' x = true) : ∀ {u : List Int} {s t : Int}, Leads es p s u t → Leads es p' s u t
  | [], _, _, hl => hl
  | _ :: _, _, _, ⟨x, hx, h1, h2, h3, h4⟩ => ⟨x, hx, h1, h2, h x hx h3, h4.congr h⟩

section
variable {es : List Ed} {perm : Ed → Bool} {start : List Int} {n : Nat}
def Led (es : List Ed) (perm : Ed → Bool) (start : List Int) (s : Int) : Prop := ∃ s0 ∈ start, ∃ u, Leads es perm s0 u s
/-- What holds while forward searches; the edges of s in l have not been followed yet. -/
structure FW (es : List Ed) (perm : Ed → Bool) (start : List Int) (n : Nat) (s : Int) (l : List Ed) (seen : List Bool) (q : List Int) : Prop where
  len : seen.length = n
  led : ∀ t, 0 ≤ t → t < (n : Int) → Gd seen t → Led es perm start t
  que : ∀ t ∈ q, 0 ≤ t ∧ t < (n : Int) ∧ Gd seen t
  cls : ∀ x ∈ es, Gd seen x.f → x.f ∉ q → (x.f = s ∧ x ∈ l) ∨ (perm x = true → Gd seen x.t)
  sta : ∀ t ∈ start, Gd seen t
theorem FW.fold (hes : ∀ x ∈ es, 0 ≤ x.f ∧ x.f < (n : Int) ∧ 0 ≤ x.t ∧ x.t < (n : Int)) {s : Int} (hst : ∀ t ∈ start, 0 ≤ t) (hs : 0 ≤ s) (hsn : s < (n : Int)) : ∀ (l : List Ed) {seen : List Bool} {q : List Int}, FW es perm start n s l seen q → Gd seen s → (∀ x ∈ l, x ∈ es ∧ x.f = s) →
    FW es perm start n s [] (l.foldl (fwStep perm) (seen, q)).1 (l.foldl (fwStep perm) (seen, q)).2
  | [], _, _, h, _, _ => h
  | x :: l, seen, q, h, hg, hl => by
    rw [List.foldl_cons]
    obtain ⟨hx, hxf⟩ := hl x (List.mem_cons_self ..)
    have hxr := hes x hx
    have hlt : x.t.toNat < seen.length := by rw [h.len]; omega
    by_cases hc : seen[x.t.toNat]?.getD true = false ∧ perm x = true
    · have hst2 : fwStep perm (seen, q) x = (seen.set x.t.toNat true, q ++ [x.t]) := by unfold fwStep; rw [if_pos hc]
      rw [hst2]
      have hG : ∀ t, 0 ≤ t → (Gd (seen.set x.t.toNat true) t ↔ Gd seen t ∨ t.toNat = x.t.toNat) := fun t ht => Gd_true ht hlt
      refine FW.fold hes hst hs hsn l ⟨by rw [List.length_set]; exact h.len, fun t h0 h1 hgt => ?_, fun t ht => ?_, fun y hy hgy hnq => ?_, fun t ht => (hG t (hst t ht)).2 (.inl (h.sta t ht))⟩ ((hG s hs).2 (.inl hg)) (fun y hy => hl y (List.mem_cons_of_mem _ hy))
      · rcases (hG t h0).1 hgt with h2 | h2
        · exact h.led t h0 h1 h2
        · have e : t = x.t := by omega
          obtain ⟨s0, h3, u, h4⟩ := h.led s hs hsn hg
          exact ⟨s0, h3, u ++ [x.e], by rw [e]; exact h4.snoc hx hxf hc.2⟩
      · rcases List.mem_append.1 ht with h2 | h2
        · have := h.que t h2
          exact ⟨this.1, this.2.1, (hG t this.1).2 (.inl this.2.2)⟩
        · rw [List.mem_singleton.1 h2]
          exact ⟨hxr.2.2.1, hxr.2.2.2, (hG x.t hxr.2.2.1).2 (.inr rfl)⟩
      · have hyr := hes y hy
        have hnq2 : y.f ∉ q := fun hh => hnq (List.mem_append_left _ hh)
        have hne : y.f ≠ x.t := fun e => hnq (by rw [e]; simp)
        have hgy2 : Gd seen y.f := by
          rcases (hG y.f hyr.1).1 hgy with h2 | h2
          · exact h2
          · exact absurd (by omega) hne
        rcases h.cls y hy hgy2 hnq2 with ⟨h2, h3⟩ | h2
        · rcases List.mem_cons.1 h3 with rfl | h3
          · exact .inr (fun _ => (hG _ hxr.2.2.1).2 (.inr rfl))
          · exact .inl ⟨h2, h3⟩
        · exact .inr (fun hp => (hG y.t hyr.2.2.1).2 (.inl (h2 hp)))
    · have hst2 : fwStep perm (seen, q) x = (seen, q) := by unfold fwStep; rw [if_neg hc]
      rw [hst2]
      refine FW.fold hes hst hs hsn l ⟨h.len, h.led, h.que, fun y hy hgy hnq => ?_, h.sta⟩ hg (fun y hy => hl y (List.mem_cons_of_mem _ hy))
      rcases h.cls y hy hgy hnq with ⟨h2, h3⟩ | h2
      · rcases List.mem_cons.1 h3 with rfl | h3
        · refine .inr (fun hp => ?_)
          unfold Gd
          rw [List.getD_eq_getElem?_getD]
          rw [List.getElem?_eq_getElem hlt] at hc ⊢
          simp only [Option.getD_some] at hc ⊢
          cases hb : seen[y.t.toNat] with
          | true => rfl
          | false => exact absurd ⟨hb, hp⟩ hc
        · exact .inl ⟨h2, h3⟩
      · exact .inr h2
theorem FW.fwd (hso : Sorted es) (hes : ∀ x ∈ es, 0 ≤ x.f ∧ x.f < (n : Int) ∧ 0 ≤ x.t ∧ x.t < (n : Int)) (hst : ∀ t ∈ start, 0 ≤ t) : ∀ (f : Nat) {seen : List Bool} {q : List Int} {s0 : Int}, FW es perm start n s0 [] seen q → seen.count false + q.length < f →
    FW es perm start n s0 [] (Go.Proofs.Ythchkddhibhenaa.fwd (subOf es) perm f seen q) []
  | 0, _, _, _, _, hf => absurd hf (by omega)
  | f + 1, seen, [], s0, h, _ => h
  | f + 1, seen, s :: q, s0, h, hf => by
    rw [Go.Proofs.Ythchkddhibhenaa.fwd]
    obtain ⟨h0, h1, hg⟩ := h.que s (List.mem_cons_self ..)
    have hmem : ∀ x ∈ subOf es s, x ∈ es ∧ x.f = s := by
      intro x hx
      rw [subOf_eq hso] at hx
      have := List.mem_filter.1 hx
      exact ⟨this.1, by simpa using this.2⟩
    have h2 : FW es perm start n s (subOf es s) seen q := by
      refine ⟨h.len, h.led, fun t ht => h.que t (List.mem_cons_of_mem _ ht), fun x hx hgx hnq => ?_, h.sta⟩
      by_cases e : x.f = s
      · exact .inl ⟨e, by rw [subOf_eq hso]; exact List.mem_filter.2 ⟨hx, by simpa using e⟩⟩
      · rcases h.cls x hx hgx (fun hh => by rcases List.mem_cons.1 hh with h3 | h3; exact e h3; exact hnq h3) with ⟨_, h3⟩ | h3
        · cases h3
        · exact .inr h3
    have h3 := h2.fold hes hst h0 h1 (subOf es s) hg hmem
    have hok : FOk n (seen.count false + q.length) seen q := ⟨h.len, fun t ht => ⟨(h.que t (List.mem_cons_of_mem _ ht)).1, (h.que t (List.mem_cons_of_mem _ ht)).2.1⟩, Nat.le_refl _⟩
    have h4 := FOk.fold (perm := perm) (subOf es s) hok (fun x hx => (hes x (hmem x hx).1).2.2)
    have h5 := h4.sum
    simp only [List.length_cons] at hf
    have h6 : FW es perm start n s0 [] ((subOf es s).foldl (fwStep perm) (seen, q)).1 ((subOf es s).foldl (fwStep perm) (seen, q)).2 :=
      ⟨h3.len, h3.led, h3.que, fun x hx a b => by
        rcases h3.cls x hx a b with ⟨_, h7⟩ | h7
        · cases h7
        · exact .inr h7, h3.sta⟩
    exact FW.fwd hso hes hst f h6 (by omega)
/-- The flags that forward returns: what is led to. -/
theorem forward_says (hso : Sorted es) (hes : ∀ x ∈ es, 0 ≤ x.f ∧ x.f < (n : Int) ∧ 0 ≤ x.t ∧ x.t < (n : Int)) (hst : ∀ t ∈ start, 0 ≤ t ∧ t < (n : Int)) :
    (forwardF n es perm start).length = n ∧ ∀ t, 0 ≤ t → t < (n : Int) → (Gd (forwardF n es perm start) t ↔ Led es perm start t) := by
  have hflag : ∀ t, 0 ≤ t → t < (n : Int) → (Gd (flagL n start) t ↔ t ∈ start) := fun t h0 h1 => by
    unfold Gd; rw [flagL_getD h0 h1, hasB_true]
  have h0 : FW es perm start n (-1) [] (flagL n start) start := by
    refine ⟨flagL_length n start, fun t a b hg => ⟨t, (hflag t a b).1 hg, [], rfl⟩, fun t ht => ⟨(hst t ht).1, (hst t ht).2, (hflag t (hst t ht).1 (hst t ht).2).2 ht⟩, fun x hx hg hnq => ?_, fun t ht => (hflag t (hst t ht).1 (hst t ht).2).2 ht⟩
    have h := hes x hx
    exact absurd ((hflag x.f h.1 h.2.1).1 hg) hnq
  have h := h0.fwd hso hes (fun t ht => (hst t ht).1) ((flagL n start).count false + start.length + 1) (by omega)
  have hE : Go.Proofs.Ythchkddhibhenaa.fwd (subOf es) perm ((flagL n start).count false + start.length + 1) (flagL n start) start = forwardF n es perm start := rfl
  rw [hE] at h
  refine ⟨h.len, fun t a b => ⟨h.led t a b, ?_⟩⟩
  rintro ⟨s0, hs0, u, hu⟩
  have key : ∀ (u : List Int) (c d : Int), 0 ≤ c → Gd (forwardF n es perm start) c → Leads es perm c u d → Gd (forwardF n es perm start) d := by
    intro u
    induction u with
    | nil => intro c d _ hg hl; rw [← show c = d from hl]; exact hg
    | cons e u ih =>
      rintro c d hc hg ⟨x, hx, hf, _, hp, hl⟩
      refine ih x.t d (hes x hx).2.2.1 ?_ hl
      rcases h.cls x hx (by rw [hf]; exact hg) (by simp) with ⟨_, h7⟩ | h7
      · cases h7
      · exact h7 hp
  exact key u s0 t (hst s0 hs0).1 (h.sta s0 hs0) hu
end

/-- The program's Reachable is the reference's. -/
theorem reach_says {es : List Ed} {n : Nat} {al : List Int} (hso : Sorted es) (hes : ∀ x ∈ es, 0 ≤ x.f ∧ x.f < (n : Int) ∧ 0 ≤ x.t ∧ x.t < (n : Int)) (hal : ∀ x ∈ es, hasB al x.e = true) (hn : 0 < n) :
    listL (forwardF n es (fun _ => true) [0]) = rreachL es n al := by
  have h := forward_says (perm := fun _ => true) (start := [0]) hso hes (fun t ht => by rw [List.mem_singleton.1 ht]; omega)
  obtain ⟨h1, h2⟩ := h
  rw [rreachL, if_neg (by omega)]
  obtain ⟨g1, g2⟩ := fromL_says es [0] (allL n) al
  have hin := listL_in (forwardF n es (fun _ => true) [0])
  rw [h1] at hin
  refine inc_ext (listL_inc _) g1 (fun s => ?_)
  rw [g2]
  constructor
  · intro hs
    have hs0 := hin s hs
    obtain ⟨s0, h3, u, h4⟩ := (h2 s hs0.1 hs0.2).1 ((listL_mem hs0.1).1 hs)
    refine ⟨s0, h3, ?_, u, h4.congr (fun x hx _ => fPerm_true.2 ⟨allL_mem (hes x hx).2.2.1 (hes x hx).2.2.2, hal x hx⟩)⟩
    rw [List.mem_singleton.1 h3]; exact allL_mem (by omega) (by omega)
  · rintro ⟨s0, h3, _, u, h4⟩
    have hr : 0 ≤ s ∧ s < (n : Int) := by
      induction u using snoc_ind with
      | h0 => rw [← show s0 = s from h4, List.mem_singleton.1 h3]; omega
      | h1 u e ih =>
        obtain ⟨x, hx, _, _, rfl, _⟩ := h4.of_snoc
        exact ⟨(hes x hx).2.2.1, (hes x hx).2.2.2⟩
    exact (listL_mem hr.1).2 ((h2 s hr.1 hr.2).2 ⟨s0, h3, u, h4.congr (fun _ _ _ => rfl)⟩)

theorem fold_congr {W V W' V' : List Int} : ∀ (l : List Ed) (o : List Int), (∀ x ∈ l, fPerm W V x = fPerm W' V' x) → l.foldl (fStep W V) o = l.foldl (fStep W' V') o
  | [], _, _ => rfl
  | x :: l, o, h => by
    rw [List.foldl_cons, List.foldl_cons]
    have hs : fStep W V o x = fStep W' V' o x := by
      have := h x (List.mem_cons_self ..)
      unfold fStep
      by_cases hc : fPerm W V x = true
      · have hc' := hc
        rw [this] at hc'
        have e1 := fPerm_true.1 hc
        have e2 := fPerm_true.1 hc'
        simp [e1, e2]
      · have hc' := hc
        rw [this] at hc'
        rw [if_neg (fun h => hc (fPerm_true.2 h.2)), if_neg (fun h => hc' (fPerm_true.2 h.2))]
    rw [hs]
    exact fold_congr l _ (fun y hy => h y (List.mem_cons_of_mem _ hy))
theorem fLoop_congr {fs : List Ed} {W V W' V' : List Int} (h : ∀ x ∈ fs, fPerm W V x = fPerm W' V' x) : ∀ (f : Nat) (o : List Int), fLoop fs W V f o = fLoop fs W' V' f o
  | 0, _ => rfl
  | f + 1, o => by rw [fLoop, fLoop, fold_congr fs o h, fLoop_congr h f]
/-- The program's Coreachable is the reference's. -/
theorem corea_says (a : Aut) (n : Nat) (hn : a.n = n) (hn1 : n ≤ 1000000) (hes : ∀ x ∈ a.es, 0 ≤ x.f ∧ x.f < (n : Int) ∧ 0 ≤ x.t ∧ x.t < (n : Int)) (hms : ∀ s ∈ a.ms, 0 ≤ s ∧ s < (n : Int)) (hinc : Inc a.ms) :
    corea a = coreaR a.es a.ms := by
  have hD : ∀ i : Nat, i < n → IsDist a.es a.ms i ((backward n a.es a.ms).getD i 0) := fun i hi => backward_dist hn1 hes hms i hi
  have hlen := backward_length n a.es a.ms
  have hco : corea a = listL ((backward n a.es a.ms).map fun d => decide (0 ≤ d)) := by rw [corea, hn]; rfl
  rw [hco]
  generalize backward n a.es a.ms = D at *
  have hV : coreaR a.es a.ms = fLoop (a.es.map flipE) (allL n) (a.es.map Ed.e) (a.es.length + 1) a.ms := by
    unfold coreaR
    refine fLoop_congr (fun x hx => ?_) _ _
    obtain ⟨y, hy, rfl⟩ := List.mem_map.1 hx
    have h := hes y hy
    have e1 : fPerm (a.es.map Ed.f) (a.es.map Ed.e) (flipE y) = true := fPerm_true.2 ⟨show hasB (a.es.map Ed.f) y.f = true from hasB_true.2 (List.mem_map_of_mem hy), show hasB (a.es.map Ed.e) y.e = true from hasB_true.2 (List.mem_map_of_mem hy)⟩
    have e2 : fPerm (allL n) (a.es.map Ed.e) (flipE y) = true := fPerm_true.2 ⟨allL_mem h.1 h.2.1, show hasB (a.es.map Ed.e) y.e = true from hasB_true.2 (List.mem_map_of_mem hy)⟩
    rw [e1, e2]
  rw [hV]
  obtain ⟨g1, g2⟩ := fLoop_says (es := a.es.map flipE) (start := a.ms) (within := allL n) (evs := a.es.map Ed.e) (a.es.length + 1) hinc (by have := news_le (a.es.map flipE) a.ms; simp at this; omega) (fun s hs => ⟨s, hs, allL_mem (hms s hs).1 (hms s hs).2, [], rfl⟩) (fun s hs _ => hs)
  refine inc_ext (listL_inc _) g1 (fun s => ?_)
  rw [g2]
  have hin := listL_in (D.map fun d => decide (0 ≤ d))
  rw [List.length_map, hlen] at hin
  have hG : ∀ s : Int, 0 ≤ s → s < (n : Int) → (Gd (D.map fun d => decide (0 ≤ d)) s ↔ ∃ k, ReachIn a.es a.ms k s) := by
    intro s h0 h1
    have hd := hD s.toNat (by omega)
    rw [Int.toNat_of_nonneg h0] at hd
    have e : (D.map fun d => decide (0 ≤ d)).getD s.toNat false = decide (0 ≤ D.getD s.toNat 0) := by
      rw [List.getD_eq_getElem?_getD, List.getElem?_map, List.getD_eq_getElem?_getD, List.getElem?_eq_getElem (by omega)]; rfl
    unfold Gd
    rw [e, decide_eq_true_iff]
    rcases hd with ⟨h2, h3⟩ | ⟨k, h2, h3, _⟩
    · exact ⟨fun h => by omega, fun ⟨k, h⟩ => absurd h (h3 k)⟩
    · exact ⟨fun _ => ⟨k, h3⟩, fun _ => by omega⟩
  have hback : ∀ (k : Nat) (t : Int), ReachIn a.es a.ms k t → LedTo (a.es.map flipE) a.ms (allL n) (a.es.map Ed.e) t := by
    intro k
    induction k with
    | zero => intro t ht; exact ⟨t, ht, allL_mem (hms t ht).1 (hms t ht).2, [], rfl⟩
    | succ k ih =>
      rintro t ⟨x, hx, rfl, hr⟩
      obtain ⟨s0, h1, h2, u, h3⟩ := ih x.t hr
      have h := hes x hx
      exact ⟨s0, h1, h2, u ++ [(flipE x).e], h3.snoc (List.mem_map_of_mem hx) rfl (fPerm_true.2 ⟨allL_mem h.1 h.2.1, show hasB (a.es.map Ed.e) x.e = true from hasB_true.2 (List.mem_map_of_mem hx)⟩)⟩
  constructor
  · intro hs
    have hs0 := hin s hs
    obtain ⟨k, hk⟩ := (hG s hs0.1 hs0.2).1 ((listL_mem hs0.1).1 hs)
    exact hback k s hk
  · rintro ⟨s0, h1, _, u, h3⟩
    have hr : (0 ≤ s ∧ s < (n : Int)) ∧ ∃ k, ReachIn a.es a.ms k s := by
      clear g1 g2
      induction u using snoc_ind generalizing s with
      | h0 => rw [← show s0 = s from h3]; exact ⟨hms s0 h1, 0, h1⟩
      | h1 u e ih =>
        obtain ⟨x, hx, h4, _, rfl, _⟩ := h3.of_snoc
        obtain ⟨y, hy, rfl⟩ := List.mem_map.1 hx
        obtain ⟨_, k, hk⟩ := ih _ h4
        have h := hes y hy
        exact ⟨⟨h.1, h.2.1⟩, k + 1, y, hy, rfl, hk⟩
    exact (listL_mem hr.1.1).2 ((hG s hr.1.1 hr.1.2).2 hr.2)
end Go.Proofs.Ythchkddhibhenaa
