/- The contracts of checkStates, Distances and Coreachable. -/
import Derived.Test.YthchkddhibhenaaBack
import Derived.Test.YthchkddhibhenaaCheckB
namespace Go.Proofs.Ythchkddhibhenaa
open Go.RowKit

theorem setErr_zero {n : Int} : ∀ {p : Option Int} {xs : List Int}, setErr n p xs = 0 → ∀ x ∈ xs, 0 ≤ x ∧ x < n
  | _, [], _, x, hx => by cases hx
  | p, y :: ys, h, x, hx => by
    rw [setErr] at h
    split at h
    · cases h
    · rename_i h1
      split at h
      · cases h
      · rcases List.mem_cons.1 hx with rfl | h2
        · omega
        · exact setErr_zero h x h2
theorem edErr_zero {al : List Int} {n : Int} : ∀ {p : Option Ed} {xs : List Ed}, edErr al n p xs = 0 → ∀ x ∈ xs, 0 ≤ x.f ∧ x.f < n ∧ 0 ≤ x.t ∧ x.t < n
  | _, [], _, x, hx => by cases hx
  | p, y :: ys, h, x, hx => by
    rw [edErr] at h
    split at h
    · cases h
    · rename_i h1
      split at h
      · cases h
      · split at h
        · cases h
        · rcases List.mem_cons.1 hx with rfl | h2
          · omega
          · exact edErr_zero h x h2
/-- What a right automaton is. -/
structure Aut.Ok (a : Aut) : Prop where
  n0 : 0 ≤ a.n
  n1 : a.n ≤ 4096
  ms : ∀ s ∈ a.ms, 0 ≤ s ∧ s < a.n
  es : ∀ x ∈ a.es, 0 ≤ x.f ∧ x.f < a.n ∧ 0 ≤ x.t ∧ x.t < a.n
theorem Aut.ok_of {a : Aut} (h : a.err = 0) : a.Ok := by
  unfold Aut.err at h
  split at h
  · rename_i h1; rw [h] at h1; cases h1
  · split at h
    · cases h
    · split at h
      · cases h
      · split at h
        · rename_i h1; rw [h] at h1; cases h1
        · rename_i h1 h2 h3 h4
          have h5 : setErr a.n none a.ms = 0 := by simpa using h4
          exact ⟨by omega, by omega, setErr_zero h5, edErr_zero h⟩

theorem checkStates_any (aa am ae : Option Addr) (la lm le ca cm ce : Nat) (n : Int) (v : Value) (xs : List Int) (w : World) (hr : RdI w v xs) (hl : xs.length ≤ 1000000) :
    Calls Try.prog 47 #[.agg #[.slice aa la ca, .int .i64 n, .slice am lm cm, .slice ae le ce], v] w (Ret w fun u _ => u = .int .i64 (setErr n none xs)) := by
  go_enter Try.func47, Try.ntmps47
  go_wp2_with (go_at_call 61; ((with_reducible refine (rcheckSet_any _ _ _ _ (hr.mono (by (repeat (first | with_reducible exact Below.refl _ _ | with_reducible exact hr | (with_reducible refine belCall ?_ hr (by first | omega | (simp; done) | (simp; omega) | (simp at *; omega))) | (with_reducible refine Below.alloc ?_ (by first | omega | (simp; done) | (simp; omega) | (simp at *; omega)) _) | (with_reducible refine Below.drew ?_) | (with_reducible refine Below.setCell ?_ (by first | omega | (simp; done) | (simp; omega) | (simp at *; omega)) _))))) hl).mono ?_); rintro e w1 ⟨rfl, rfl⟩))
  go_ret
  exact ⟨_, rfl, rfl, (by (repeat (first | with_reducible exact Below.refl _ _ | with_reducible exact hr | (with_reducible refine belCall ?_ hr (by first | omega | (simp; done) | (simp; omega) | (simp at *; omega))) | (with_reducible refine Below.alloc ?_ (by first | omega | (simp; done) | (simp; omega) | (simp at *; omega)) _) | (with_reducible refine Below.drew ?_) | (with_reducible refine Below.setCell ?_ (by first | omega | (simp; done) | (simp; omega) | (simp at *; omega)) _))))⟩

/-- A box of four cells, and of five, behind a call. -/
theorem box4 {w w1 : World} {c0 c1 c2 c3 : Value} {t : TypeId} (hb : Below (w.alloc (.cells #[c0, c1, c2, c3] t)).heap.size (w.alloc (.cells #[c0, c1, c2, c3] t)) w1) :
    w1.cell? ⟨w.heap.size, 0, none⟩ = some c0 ∧ w1.cell? ⟨w.heap.size, 1, none⟩ = some c1 ∧ w1.cell? ⟨w.heap.size, 2, none⟩ = some c2 ∧ w1.cell? ⟨w.heap.size, 3, none⟩ = some c3 ∧ w.heap.size < w1.heap.size :=
  ⟨keep0 hb (by simp [go_sem]), keep0 hb (by simp [go_sem]), keep0 hb (by simp [go_sem]), keep0 hb (by simp [go_sem]), by have := hb.size; simp at this; omega⟩
theorem box4' {w w0 w1 : World} {c0 c1 c2 c3 : Value} (h : w0.cell? ⟨w.heap.size, 0, none⟩ = some c0 ∧ w0.cell? ⟨w.heap.size, 1, none⟩ = some c1 ∧ w0.cell? ⟨w.heap.size, 2, none⟩ = some c2 ∧ w0.cell? ⟨w.heap.size, 3, none⟩ = some c3 ∧ w.heap.size < w0.heap.size) (hb : Below w0.heap.size w0 w1) :
    w1.cell? ⟨w.heap.size, 0, none⟩ = some c0 ∧ w1.cell? ⟨w.heap.size, 1, none⟩ = some c1 ∧ w1.cell? ⟨w.heap.size, 2, none⟩ = some c2 ∧ w1.cell? ⟨w.heap.size, 3, none⟩ = some c3 ∧ w.heap.size < w1.heap.size :=
  ⟨keep0 hb h.1, keep0 hb h.2.1, keep0 hb h.2.2.1, keep0 hb h.2.2.2.1, Nat.lt_of_lt_of_le h.2.2.2.2 hb.size⟩

/-- What a function returns that gives a list or an error. -/
def ListPost (e : Int) (xs : List Int) (u : Value) (w' : World) : Prop := if e = 0 then ∃ v, u = .tuple #[v, .int .i64 0] ∧ RdI w' v xs else u = .tuple #[.slice none 0 0, .int .i64 e]
/-- The first of two errors. -/
def err2 (a b : Int) : Int := if a = 0 then b else a

theorem distances_any (v vt : Value) (a : Aut) (tg : List Int) (w : World) (ha : RdA w v a) (hs : a.small) (ht : RdI w vt tg) (hlt : tg.length ≤ 1000000) :
    Calls Try.prog 15 #[v, vt] w (Ret w (ListPost (err2 a.err (setErr a.n none tg)) (backward a.n.toNat a.es tg))) := by
  have ha0 := ha
  obtain ⟨va, vm, ve, rfl, ⟨aa, ca, rfl, hra⟩, ⟨am, cm, rfl, hrm⟩, ⟨ae, ce, rfl, hre⟩⟩ := ha
  have Ha0 := Lib.hid ha0
  have Ht := Lib.hid ht
  have Hs := Lib.hid hs
  clear ha0 ht hs
  go_enter Try.func15, Try.ntmps15
  go_wp2_with fail
  refine (check_any _ a _ (Ha0.out.mono (by (repeat (first | with_reducible exact Below.refl _ _ | with_reducible exact Ha0 | (with_reducible refine belCall ?_ Ha0 (by first | omega | (simp; done) | (simp; omega) | (simp at *; omega))) | (with_reducible refine Below.alloc ?_ (by first | omega | (simp; done) | (simp; omega) | (simp at *; omega)) _) | (with_reducible refine Below.drew ?_) | (with_reducible refine Below.setCell ?_ (by first | omega | (simp; done) | (simp; omega) | (simp at *; omega)) _))))) Hs.out).mono ?_
  rintro e w1 ⟨_, rfl, rfl, hb1⟩
  have hW1 : Below w.heap.size w w1 := ((Below.refl _ _).alloc (Nat.le_refl _) _).trans (hb1.mono (by simp))
  have hbx := box4 hb1
  clear hb1
  by_cases h1 : a.err = 0
  · have hok := Aut.ok_of h1
    have H1 := Lib.hid h1
    rw [h1]
    clear h1
    obtain ⟨x0, x1, x2, x3, x4⟩ := hbx
    have hbx' := And.intro x0 (And.intro x1 (And.intro x2 (And.intro x3 x4)))
    have Hbx := Lib.hid hbx'
    clear hbx'
    go_wp2_with fail
    refine (checkStates_any _ _ _ _ _ _ _ _ _ _ _ tg _ (Ht.out.mono hW1) hlt).mono ?_
    rintro e w2 ⟨_, rfl, rfl, hb2⟩
    have hW2 := hW1.trans (hb2.mono hW1.size)
    have hbx2 := box4' Hbx.out hb2
    clear x0 x1 x2 x3 x4
    by_cases h2 : setErr a.n none tg = 0
    · have hin := setErr_zero h2
      have H2 := Lib.hid h2
      have Hin := Lib.hid hin
      have Hes := Lib.hid hok.es
      rw [h2]
      clear h2 hin
      obtain ⟨x0, x1, x2, x3, x4⟩ := hbx2
      have hn0 := hok.n0
      have hn1 := hok.n1
      have hae := Hs.out.es
      clear hok
      generalize hn : a.n = an at *
      obtain ⟨n, rfl⟩ := Int.eq_ofNat_of_zero_le hn0
      have Hn := Lib.hid hn
      clear hn hn0
      go_wp2_with fail
      refine (newGraph_any _ _ _ _ _ _ _ n a.es _ (RdE.mono ⟨ae, ce, rfl, hre⟩ hW2) hae (by omega) (fun x hx => ⟨(Hes.out x hx).1, (Hes.out x hx).2.1⟩)).mono ?_
      rintro e w3 ⟨_, rfl, ⟨af, cf, rfl, hrf⟩, hb3⟩
      have hW3 := hW2.trans (hb3.mono hW2.size)
      go_wp2_with fail
      refine (backward_any _ _ _ _ _ _ _ _ _ _ _ n a.es tg _ (RdE.mono ⟨ae, ce, rfl, hre⟩ hW3) (Ht.out.mono hW3) hae hlt (by omega) Hes.out Hin.out).mono ?_
      rintro e w4 ⟨v4, rfl, hv4, hb4⟩
      go_wp2_with fail
      go_ret2
      refine ⟨_, rfl, ?_, hW3.trans (hb4.mono hW3.size)⟩
      rw [ListPost, if_pos (by rw [err2, if_pos H1.out, H2.out])]
      exact ⟨v4, rfl, by rw [Int.toNat_natCast]; exact hv4⟩
    · have H2 := Lib.hid h2
      have h2' : (setErr a.n none tg != 0) = true := by simpa using h2
      clear h2
      go_wp2_with fail
      go_ret2
      refine ⟨_, rfl, ?_, hW2⟩
      rw [ListPost, if_neg (by rw [err2, if_pos H1.out]; exact H2.out), err2, if_pos H1.out]
      rfl
  · have H1 := Lib.hid h1
    have h1' : (a.err != 0) = true := by simpa using h1
    clear h1
    go_wp2_with fail
    go_ret2
    refine ⟨_, rfl, ?_, hW1⟩
    rw [ListPost, if_neg (by rw [err2, if_neg H1.out]; exact H1.out), err2, if_neg H1.out]
    rfl

/-- The states whose distance is no less than 0. -/
def corea (a : Aut) : List Int := listL ((backward a.n.toNat a.es a.ms).map fun d => decide (0 ≤ d))
end Go.Proofs.Ythchkddhibhenaa
