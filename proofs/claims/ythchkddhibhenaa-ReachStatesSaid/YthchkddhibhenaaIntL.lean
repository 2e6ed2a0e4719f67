/- Interior is the greatest part of a set that some events do not leave: plain laws. -/
import Derived.Test.YthchkddhibhenaaRInterior
import Derived.Test.YthchkddhibhenaaClosed
namespace Go.Proofs.Ythchkddhibhenaa

/-- A state whose flag is set. -/
def Gd (fl : List Bool) (s : Int) : Prop := fl.getD s.toNat false = true
theorem Gd_set {fl : List Bool} {k : Nat} {s : Int} : Gd (fl.set k false) s → Gd fl s ∧ s.toNat ≠ k := by
  unfold Gd
  intro h
  by_cases e : k = s.toNat
  · subst e
    rw [List.getD_eq_getElem?_getD] at h
    by_cases hl : s.toNat < fl.length
    · rw [List.getElem?_set_self hl] at h; cases h
    · rw [List.getElem?_eq_none (by simp; omega)] at h; cases h
  · rw [List.getD_eq_getElem?_getD, List.getElem?_set_ne e, ← List.getD_eq_getElem?_getD] at h
    exact ⟨h, fun e2 => e e2.symm⟩
theorem Gd_set_ne {fl : List Bool} {k : Nat} {s : Int} (h : Gd fl s) (e : k ≠ s.toNat) : Gd (fl.set k false) s := by
  unfold Gd at h ⊢
  rw [List.getD_eq_getElem?_getD, List.getElem?_set_ne e, ← List.getD_eq_getElem?_getD]; exact h
/-- What is kept by all steps. -/
structure KeepI (R : Int → Prop) (set : List Int) (fl : List Bool) : Prop where
  sub : ∀ s, 0 ≤ s → Gd fl s → s ∈ set
  all : ∀ s, R s → Gd fl s
theorem iStep_keepI {R : Int → Prop} {set evs : List Int} {fl : List Bool} {b : Bool} {x : Ed} (h0 : 0 ≤ x.f) (hR0 : ∀ s, R s → 0 ≤ s) (hR : R x.f → hasB evs x.e = true → R x.t) (h : KeepI R set fl) : KeepI R set (iStep evs (fl, b) x).1 := by
  unfold iStep
  split
  · rename_i hc
    dsimp only at hc ⊢
    have hn : ¬ R x.f := fun hr => by
      have := h.all _ (hR hr hc.2.2)
      unfold Gd at this
      rw [hc.2.1] at this; cases this
    refine ⟨fun s hs hg => h.sub s hs (Gd_set hg).1, fun s hs => Gd_set_ne (h.all s hs) (fun e => hn ?_)⟩
    have := hR0 s hs
    have : x.f = s := by omega
    rw [this]; exact hs
  · exact h
theorem iFold_keepI {R : Int → Prop} {set evs : List Int} (hR0 : ∀ s, R s → 0 ≤ s) : ∀ (l : List Ed) {fl : List Bool} {b : Bool}, (∀ x ∈ l, 0 ≤ x.f ∧ (R x.f → hasB evs x.e = true → R x.t)) → KeepI R set fl → KeepI R set (l.foldl (iStep evs) (fl, b)).1
  | [], _, _, _, h => h
  | x :: l, fl, b, hl, h => by
    rw [List.foldl_cons]
    have h1 := iStep_keepI (b := b) (hl x (List.mem_cons_self ..)).1 hR0 (hl x (List.mem_cons_self ..)).2 h
    generalize hr : iStep evs (fl, b) x = r at h1 ⊢
    obtain ⟨r1, r2⟩ := r
    exact iFold_keepI hR0 l (fun y hy => hl y (List.mem_cons_of_mem _ hy)) h1
/-- A round without a change. -/
theorem iFold_same {evs : List Int} : ∀ (l : List Ed) {fl : List Bool} {b : Bool}, (l.foldl (iStep evs) (fl, b)).2 = false → (l.foldl (iStep evs) (fl, b)).1 = fl ∧ b = false ∧ ∀ x ∈ l, Gd fl x.f → hasB evs x.e = true → Gd fl x.t
  | [], _, _, h => ⟨rfl, h, fun x hx => by cases hx⟩
  | x :: l, fl, b, h => by
    rw [List.foldl_cons] at h ⊢
    by_cases hc : fl.getD x.f.toNat false = true ∧ fl.getD x.t.toNat false = false ∧ hasB evs x.e = true
    · have hs : iStep evs (fl, b) x = (fl.set x.f.toNat false, true) := by unfold iStep; rw [if_pos hc]
      rw [hs] at h
      have := (iFold_same l h).2.1
      cases this
    · have hs : iStep evs (fl, b) x = (fl, b) := by unfold iStep; rw [if_neg hc]
      rw [hs] at h ⊢
      obtain ⟨h1, h2, h3⟩ := iFold_same l h
      refine ⟨h1, h2, fun y hy => ?_⟩
      rcases List.mem_cons.1 hy with rfl | hy
      · intro hf he
        unfold Gd at hf ⊢
        cases ht : fl.getD y.t.toNat false with
        | true => rfl
        | false => exact absurd ⟨hf, ht, he⟩ hc
      · exact h3 y hy
/-- What the rounds leave. -/
theorem iLoop_says {R : Int → Prop} {es : List Ed} {set evs : List Int} (hR0 : ∀ s, R s → 0 ≤ s) (hes : ∀ x ∈ es, 0 ≤ x.f ∧ (R x.f → hasB evs x.e = true → R x.t)) : ∀ (f : Nat) {fl : List Bool}, fl.count true < f → KeepI R set fl →
    KeepI R set (iLoop es evs f fl) ∧ (iLoop es evs f fl).length = fl.length ∧ ∀ x ∈ es, Gd (iLoop es evs f fl) x.f → hasB evs x.e = true → Gd (iLoop es evs f fl) x.t
  | 0, _, h, _ => absurd h (by omega)
  | f + 1, fl, hf, h => by
    have h1 := iFold_keepI (b := false) hR0 es hes h
    have h2 := iFold_count evs es (fl, false)
    have h3 := iFold_length evs es (fl, false)
    rw [iLoop]
    split
    · rename_i hr
      have h4 := (h2.2 hr).resolve_left (by simp)
      obtain ⟨g1, g2, g3⟩ := iLoop_says hR0 hes f (by dsimp only at h4; omega) h1
      exact ⟨g1, g2.trans h3, g3⟩
    · rename_i hr
      obtain ⟨g1, _, g3⟩ := iFold_same es (by simpa using hr)
      refine ⟨h1, h3, ?_⟩
      rw [g1]; exact g3

section
variable {es : List Ed} {n : Nat} {set evs : List Int}
theorem stays_iff (hset : ∀ s ∈ set, 0 ≤ s ∧ s < (n : Int)) (s : Int) (hs : 0 ≤ s ∧ s < (n : Int)) : stays es n set evs s = true ↔ ∀ u t, Leads es (fPerm (allL n) evs) s u t → t ∈ set := by
  unfold stays
  rw [List.all_eq_true]
  constructor
  · intro h u t hl
    exact hasB_true.1 (h t (((fromL_says es [s] (allL n) evs).2 t).2 ⟨s, List.mem_singleton.2 rfl, allL_mem hs.1 hs.2, u, hl⟩))
  · intro h t ht
    obtain ⟨s0, h1, _, u, hu⟩ := ((fromL_says es [s] (allL n) evs).2 t).1 ht
    rw [List.mem_singleton.1 h1] at hu
    exact hasB_true.2 (h u t hu)
theorem listL_mem {fl : List Bool} {s : Int} (hs : 0 ≤ s) : s ∈ listL fl ↔ Gd fl s := by
  unfold listL listK Gd
  rw [List.mem_map]
  constructor
  · rintro ⟨i, hi, rfl⟩
    exact (List.mem_filter.1 hi).2
  · intro h
    refine ⟨s.toNat, List.mem_filter.2 ⟨List.mem_range.2 ?_, h⟩, by omega⟩
    by_cases hl : s.toNat < fl.length
    · exact hl
    · rw [List.getD_eq_getElem?_getD, List.getElem?_eq_none (by omega)] at h; cases h
theorem listL_inc (fl : List Bool) : Inc (listL fl) := range_pairwise _ _
theorem listL_in (fl : List Bool) : ∀ s ∈ listL fl, 0 ≤ s ∧ s < (fl.length : Int) := range_in _ _
/-- The program's Interior is the reference's, and closed. -/
theorem interior_says (hes : ∀ x ∈ es, 0 ≤ x.f ∧ x.f < (n : Int) ∧ 0 ≤ x.t ∧ x.t < (n : Int)) (hset : ∀ s ∈ set, 0 ≤ s ∧ s < (n : Int)) (hinc : Inc set) :
    interior n es set evs = rintL es n set evs ∧ closedL es (interior n es set evs) evs = true ∧ setErr n none (interior n es set evs) = 0 ∧ (interior n es set evs).length ≤ n := by
  have hR0 : ∀ s, (s ∈ set ∧ stays es n set evs s = true) → 0 ≤ s := fun s h => (hset s h.1).1
  have hstep : ∀ x ∈ es, 0 ≤ x.f ∧ ((x.f ∈ set ∧ stays es n set evs x.f = true) → hasB evs x.e = true → (x.t ∈ set ∧ stays es n set evs x.t = true)) := by
    intro x hx
    have h := hes x hx
    refine ⟨h.1, fun hr he => ?_⟩
    have h1 := (stays_iff (es := es) (evs := evs) hset x.f ⟨h.1, h.2.1⟩).1 hr.2
    have hp : fPerm (allL n) evs x = true := fPerm_true.2 ⟨allL_mem h.2.2.1 h.2.2.2, he⟩
    refine ⟨h1 [x.e] x.t ⟨x, hx, rfl, rfl, hp, rfl⟩, (stays_iff hset x.t ⟨h.2.2.1, h.2.2.2⟩).2 (fun u t hu => ?_)⟩
    exact h1 (x.e :: u) t ⟨x, hx, rfl, rfl, hp, hu⟩
  have hstart : KeepI (fun s => s ∈ set ∧ stays es n set evs s = true) set (flagL n set) := by
    refine ⟨fun s hs hg => ?_, fun s hs => ?_⟩
    · unfold Gd at hg
      by_cases hl : s < n
      · rw [flagL_getD hs hl] at hg; exact hasB_true.1 hg
      · rw [List.getD_eq_getElem?_getD, List.getElem?_eq_none (by rw [flagL_length]; omega)] at hg; cases hg
    · have := hset s hs.1
      unfold Gd
      rw [flagL_getD this.1 this.2]; exact hasB_true.2 hs.1
  obtain ⟨h1, h2, h3⟩ := iLoop_says (R := fun s => s ∈ set ∧ stays es n set evs s = true) hR0 hstep ((flagL n set).count true + 1) (by omega) hstart
  have hI : interior n es set evs = listL (iLoop es evs ((flagL n set).count true + 1) (flagL n set)) := rfl
  rw [hI]
  generalize iLoop es evs ((flagL n set).count true + 1) (flagL n set) = fl at h1 h2 h3
  rw [flagL_length] at h2
  have hin := listL_in fl
  rw [h2] at hin
  refine ⟨?_, ?_, setErr_ok (listL_inc fl) hin (fun q hq => by cases hq), ?_⟩
  · refine inc_ext (listL_inc fl) (hinc.filter _) (fun s => ?_)
    unfold rintL
    rw [List.mem_filter]
    constructor
    · intro hs
      have hs0 := hin s hs
      have hg := (listL_mem hs0.1).1 hs
      refine ⟨h1.sub s hs0.1 hg, (stays_iff hset s hs0).2 ?_⟩
      have key : ∀ (u : List Int) (a t : Int), 0 ≤ a → Gd fl a → Leads es (fPerm (allL n) evs) a u t → t ∈ set := by
        intro u
        induction u with
        | nil => intro a t ha hga h; rw [← show a = t from h]; exact h1.sub a ha hga
        | cons e u ih =>
          rintro a t ha hga ⟨x, hx, hf, _, hp, h⟩
          exact ih x.t t (hes x hx).2.2.1 (h3 x hx (by rw [hf]; exact hga) (fPerm_true.1 hp).2) h
      exact fun u t hl => key u s t hs0.1 hg hl
    · intro hs
      exact (listL_mem (hset s hs.1).1).2 (h1.all s hs)
  · unfold closedL
    rw [List.all_eq_true]
    intro x hx
    have h := hes x hx
    cases hf : hasB (listL fl) x.f with
    | false => simp
    | true =>
      cases he : hasB evs x.e with
      | false => simp
      | true =>
        have := h3 x hx ((listL_mem h.1).1 (hasB_true.1 hf)) he
        rw [hasB_true.2 ((listL_mem h.2.2.1).2 this)]
        rfl
  · have := listK_le fl fl.length
    unfold listL
    omega
end
end Go.Proofs.Ythchkddhibhenaa
