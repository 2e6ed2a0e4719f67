/- Texts joined: Reach, Corea, Dist, Small, Leads. Each is introduced by its own sentence. -/
import Derived.Deep.RegionWith
import Derived.BigQuiet
import Derived.Deep.QuietTactic
import Derived.Test.YthchkddhibhenaaRS1
import Derived.Test.YthchkddhibhenaaRS4
import Derived.Test.YthchkddhibhenaaRS5
/- The contracts of checkStates, Distances and Coreachable. -/
namespace Go.Proofs.Ythchkddhibhenaa
open Go.RowKit

theorem setErr_zero {n : Int} : ∀ {p : Option Int} {xs : List Int}, setErr n p xs = 0 → ∀ x ∈ xs, 0 ≤ x ∧ x < n
  | _, [], _, x, hx => by cases hx
  | p, y :: ys, h, x, hx => by
    rw [setErr] at h
    split at h
    · cases h
    · rename_i h1
      split at h
      · cases h
      · rcases List.mem_cons.1 hx with rfl | h2
        · omega
        · exact setErr_zero h x h2
theorem edErr_zero {al : List Int} {n : Int} : ∀ {p : Option Ed} {xs : List Ed}, edErr al n p xs = 0 → ∀ x ∈ xs, 0 ≤ x.f ∧ x.f < n ∧ 0 ≤ x.t ∧ x.t < n
  | _, [], _, x, hx => by cases hx
  | p, y :: ys, h, x, hx => by
    rw [edErr] at h
    split at h
    · cases h
    · rename_i h1
      split at h
      · cases h
      · split at h
        · cases h
        · rcases List.mem_cons.1 hx with rfl | h2
          · omega
          · exact edErr_zero h x h2
/-- What a right automaton is. -/
structure Aut.Ok (a : Aut) : Prop where
  n0 : 0 ≤ a.n
  n1 : a.n ≤ 4096
  ms : ∀ s ∈ a.ms, 0 ≤ s ∧ s < a.n
  es : ∀ x ∈ a.es, 0 ≤ x.f ∧ x.f < a.n ∧ 0 ≤ x.t ∧ x.t < a.n
theorem Aut.ok_of {a : Aut} (h : a.err = 0) : a.Ok := by
  unfold Aut.err at h
  split at h
  · rename_i h1; rw [h] at h1; cases h1
  · split at h
    · cases h
    · split at h
      · cases h
      · split at h
        · rename_i h1; rw [h] at h1; cases h1
        · rename_i h1 h2 h3 h4
          have h5 : setErr a.n none a.ms = 0 := by simpa using h4
          exact ⟨by omega, by omega, setErr_zero h5, edErr_zero h⟩

theorem checkStates_any (aa am ae : Option Addr) (la lm le ca cm ce : Nat) (n : Int) (v : Value) (xs : List Int) (w : World) (hr : RdI w v xs) (hl : xs.length ≤ 1000000) :
    Calls Try.prog 47 #[.agg #[.slice aa la ca, .int .i64 n, .slice am lm cm, .slice ae le ce], v] w (Ret w fun u _ => u = .int .i64 (setErr n none xs)) := by
  go_enter Try.func47, Try.ntmps47
  go_wp2_with (go_at_call 61; ((with_reducible refine (rcheckSet_any _ _ _ _ (hr.mono (by (repeat (first | with_reducible exact Below.refl _ _ | with_reducible exact hr | (with_reducible refine belCall ?_ hr (by first | omega | (simp; done) | (simp; omega) | (simp at *; omega))) | (with_reducible refine Below.alloc ?_ (by first | omega | (simp; done) | (simp; omega) | (simp at *; omega)) _) | (with_reducible refine Below.drew ?_) | (with_reducible refine Below.setCell ?_ (by first | omega | (simp; done) | (simp; omega) | (simp at *; omega)) _))))) hl).mono ?_); rintro e w1 ⟨rfl, rfl⟩))
  go_ret
  exact ⟨_, rfl, rfl, (by (repeat (first | with_reducible exact Below.refl _ _ | with_reducible exact hr | (with_reducible refine belCall ?_ hr (by first | omega | (simp; done) | (simp; omega) | (simp at *; omega))) | (with_reducible refine Below.alloc ?_ (by first | omega | (simp; done) | (simp; omega) | (simp at *; omega)) _) | (with_reducible refine Below.drew ?_) | (with_reducible refine Below.setCell ?_ (by first | omega | (simp; done) | (simp; omega) | (simp at *; omega)) _))))⟩

/-- A box of four cells, and of five, behind a call. -/
theorem box4 {w w1 : World} {c0 c1 c2 c3 : Value} {t : TypeId} (hb : Below (w.alloc (.cells #[c0, c1, c2, c3] t)).heap.size (w.alloc (.cells #[c0, c1, c2, c3] t)) w1) :
    w1.cell? ⟨w.heap.size, 0, none⟩ = some c0 ∧ w1.cell? ⟨w.heap.size, 1, none⟩ = some c1 ∧ w1.cell? ⟨w.heap.size, 2, none⟩ = some c2 ∧ w1.cell? ⟨w.heap.size, 3, none⟩ = some c3 ∧ w.heap.size < w1.heap.size :=
  ⟨keep0 hb (by simp [go_sem]), keep0 hb (by simp [go_sem]), keep0 hb (by simp [go_sem]), keep0 hb (by simp [go_sem]), by have := hb.size; simp at this; omega⟩
theorem box4' {w w0 w1 : World} {c0 c1 c2 c3 : Value} (h : w0.cell? ⟨w.heap.size, 0, none⟩ = some c0 ∧ w0.cell? ⟨w.heap.size, 1, none⟩ = some c1 ∧ w0.cell? ⟨w.heap.size, 2, none⟩ = some c2 ∧ w0.cell? ⟨w.heap.size, 3, none⟩ = some c3 ∧ w.heap.size < w0.heap.size) (hb : Below w0.heap.size w0 w1) :
    w1.cell? ⟨w.heap.size, 0, none⟩ = some c0 ∧ w1.cell? ⟨w.heap.size, 1, none⟩ = some c1 ∧ w1.cell? ⟨w.heap.size, 2, none⟩ = some c2 ∧ w1.cell? ⟨w.heap.size, 3, none⟩ = some c3 ∧ w.heap.size < w1.heap.size :=
  ⟨keep0 hb h.1, keep0 hb h.2.1, keep0 hb h.2.2.1, keep0 hb h.2.2.2.1, Nat.lt_of_lt_of_le h.2.2.2.2 hb.size⟩

/-- What a function returns that gives a list or an error. -/
def ListPost (e : Int) (xs : List Int) (u : Value) (w' : World) : Prop := if e = 0 then ∃ v, u = .tuple #[v, .int .i64 0] ∧ RdI w' v xs else u = .tuple #[.slice none 0 0, .int .i64 e]
/-- The first of two errors. -/
def err2 (a b : Int) : Int := if a = 0 then b else a

theorem distances_any (v vt : Value) (a : Aut) (tg : List Int) (w : World) (ha : RdA w v a) (hs : a.small) (ht : RdI w vt tg) (hlt : tg.length ≤ 1000000) :
    Calls Try.prog 15 #[v, vt] w (Ret w (ListPost (err2 a.err (setErr a.n none tg)) (backward a.n.toNat a.es tg))) := by
  have ha0 := ha
  obtain ⟨va, vm, ve, rfl, ⟨aa, ca, rfl, hra⟩, ⟨am, cm, rfl, hrm⟩, ⟨ae, ce, rfl, hre⟩⟩ := ha
  have Ha0 := Lib.hid ha0
  have Ht := Lib.hid ht
  have Hs := Lib.hid hs
  clear ha0 ht hs
  go_enter Try.func15, Try.ntmps15
  go_wp2_with fail
  refine (check_any _ a _ (Ha0.out.mono (by (repeat (first | with_reducible exact Below.refl _ _ | with_reducible exact Ha0 | (with_reducible refine belCall ?_ Ha0 (by first | omega | (simp; done) | (simp; omega) | (simp at *; omega))) | (with_reducible refine Below.alloc ?_ (by first | omega | (simp; done) | (simp; omega) | (simp at *; omega)) _) | (with_reducible refine Below.drew ?_) | (with_reducible refine Below.setCell ?_ (by first | omega | (simp; done) | (simp; omega) | (simp at *; omega)) _))))) Hs.out).mono ?_
  rintro e w1 ⟨_, rfl, rfl, hb1⟩
  have hW1 : Below w.heap.size w w1 := ((Below.refl _ _).alloc (Nat.le_refl _) _).trans (hb1.mono (by simp))
  have hbx := box4 hb1
  clear hb1
  by_cases h1 : a.err = 0
  · have hok := Aut.ok_of h1
    have H1 := Lib.hid h1
    rw [h1]
    clear h1
    obtain ⟨x0, x1, x2, x3, x4⟩ := hbx
    have hbx' := And.intro x0 (And.intro x1 (And.intro x2 (And.intro x3 x4)))
    have Hbx := Lib.hid hbx'
    clear hbx'
    go_wp2_with fail
    refine (checkStates_any _ _ _ _ _ _ _ _ _ _ _ tg _ (Ht.out.mono hW1) hlt).mono ?_
    rintro e w2 ⟨_, rfl, rfl, hb2⟩
    have hW2 := hW1.trans (hb2.mono hW1.size)
    have hbx2 := box4' Hbx.out hb2
    clear x0 x1 x2 x3 x4
    by_cases h2 : setErr a.n none tg = 0
    · have hin := setErr_zero h2
      have H2 := Lib.hid h2
      have Hin := Lib.hid hin
      have Hes := Lib.hid hok.es
      rw [h2]
      clear h2 hin
      obtain ⟨x0, x1, x2, x3, x4⟩ := hbx2
      have hn0 := hok.n0
      have hn1 := hok.n1
      have hae := Hs.out.es
      clear hok
      generalize hn : a.n = an at *
      obtain ⟨n, rfl⟩ := Int.eq_ofNat_of_zero_le hn0
      have Hn := Lib.hid hn
      clear hn hn0
      go_wp2_with fail
      refine (newGraph_any _ _ _ _ _ _ _ n a.es _ (RdE.mono ⟨ae, ce, rfl, hre⟩ hW2) hae (by omega) (fun x hx => ⟨(Hes.out x hx).1, (Hes.out x hx).2.1⟩)).mono ?_
      rintro e w3 ⟨_, rfl, ⟨af, cf, rfl, hrf⟩, hb3⟩
      have hW3 := hW2.trans (hb3.mono hW2.size)
      go_wp2_with fail
      refine (backward_any _ _ _ _ _ _ _ _ _ _ _ n a.es tg _ (RdE.mono ⟨ae, ce, rfl, hre⟩ hW3) (Ht.out.mono hW3) hae hlt (by omega) Hes.out Hin.out).mono ?_
      rintro e w4 ⟨v4, rfl, hv4, hb4⟩
      go_wp2_with fail
      go_ret2
      refine ⟨_, rfl, ?_, hW3.trans (hb4.mono hW3.size)⟩
      rw [ListPost, if_pos (by rw [err2, if_pos H1.out, H2.out])]
      exact ⟨v4, rfl, by rw [Int.toNat_natCast]; exact hv4⟩
    · have H2 := Lib.hid h2
      have h2' : (setErr a.n none tg != 0) = true := by simpa using h2
      clear h2
      go_wp2_with fail
      go_ret2
      refine ⟨_, rfl, ?_, hW2⟩
      rw [ListPost, if_neg (by rw [err2, if_pos H1.out]; exact H2.out), err2, if_pos H1.out]
      rfl
  · have H1 := Lib.hid h1
    have h1' : (a.err != 0) = true := by simpa using h1
    clear h1
    go_wp2_with fail
    go_ret2
    refine ⟨_, rfl, ?_, hW1⟩
    rw [ListPost, if_neg (by rw [err2, if_neg H1.out]; exact H1.out), err2, if_neg H1.out]
    rfl

/-- The states whose distance is no less than 0. -/
def corea (a : Aut) : List Int := listL ((backward a.n.toNat a.es a.ms).map fun d => decide (0 ≤ d))
end Go.Proofs.Ythchkddhibhenaa

/- The contract of Coreachable. -/
namespace Go.Proofs.Ythchkddhibhenaa
open Go.RowKit

theorem bwd_length (inn : Nat → List Int) : ∀ (f : Nat) (ds q : List Int), (bwd inn f ds q).length = ds.length
  | 0, _, _ => rfl
  | _ + 1, _, [] => rfl
  | f + 1, ds, s :: q => by
    rw [bwd, bwd_length inn f]
    generalize inn s.toNat = l
    induction l generalizing ds q with
    | nil => rfl
    | cons p l ih =>
      rw [List.foldl_cons]
      have h1 : (bStep s.toNat (ds, q) p).1.length = ds.length := by unfold bStep; dsimp only; split <;> simp
      generalize hb : bStep s.toNat (ds, q) p = r at *
      obtain ⟨r1, r2⟩ := r
      rw [ih r1 r2, h1]
theorem backward_length (n : Nat) (es : List Ed) (tg : List Int) : (backward n es tg).length = n := by rw [backward, bwd_length, bStart_length]

set_option maxHeartbeats 1000000 in
theorem corea_any (v : Value) (a : Aut) (w : World) (ha : RdA w v a) (hs : a.small) :
    Calls Try.prog 27 #[v] w (Ret w (ListPost a.err (corea a))) := by
  have ha0 := ha
  obtain ⟨va, vm, ve, rfl, ⟨aa, ca, rfl, hra⟩, ⟨am, cm, rfl, hrm⟩, ⟨ae, ce, rfl, hre⟩⟩ := ha
  obtain ⟨i0, hi, hz0, hz1, hz2⟩ := info_parts Try.info_int
  have Ha0 := Lib.hid ha0
  have Hs := Lib.hid hs
  clear ha0 hs
  go_enter Try.func27, Try.ntmps27
  go_wp2_with fail
  refine (check_any _ a _ (Ha0.out.mono (by (repeat (first | with_reducible exact Below.refl _ _ | with_reducible exact Ha0 | (with_reducible refine belCall ?_ Ha0 (by first | omega | (simp; done) | (simp; omega) | (simp at *; omega))) | (with_reducible refine Below.alloc ?_ (by first | omega | (simp; done) | (simp; omega) | (simp at *; omega)) _) | (with_reducible refine Below.drew ?_) | (with_reducible refine Below.setCell ?_ (by first | omega | (simp; done) | (simp; omega) | (simp at *; omega)) _))))) Hs.out).mono ?_
  rintro e w1 ⟨_, rfl, rfl, hb1⟩
  have hW1 : Below w.heap.size w w1 := ((Below.refl _ _).alloc (Nat.le_refl _) _).trans (hb1.mono (by simp))
  have hbx := box4 hb1
  clear hb1
  by_cases h1 : a.err = 0
  · have hok := Aut.ok_of h1
    have H1 := Lib.hid h1
    rw [h1]
    clear h1
    have hn0 := hok.n0
    have hn1 := hok.n1
    have Hes := Lib.hid hok.es
    have Hms := Lib.hid hok.ms
    have hae := Hs.out.es
    have ham := Hs.out.ms
    clear hok
    generalize hn : a.n = an at *
    obtain ⟨n, rfl⟩ := Int.eq_ofNat_of_zero_le hn0
    have Hn := Lib.hid hn
    have hbd := box4' hbx (bel_drew w1)
    obtain ⟨x0, x1, x2, x3, x4⟩ := hbx
    obtain ⟨y0, y1, y2, y3, y4⟩ := hbd
    have hW1d := hW1.drew
    clear hn hn0
    go_wp2_with fail
    go_region_with (first
      | (go_at_call 48; refine (newGraph_any _ _ _ _ _ _ _ n a.es _ (RdE.mono ⟨ae, ce, rfl, hre⟩ hW1d) hae (by omega) (fun x hx => ⟨(Hes.out x hx).1, (Hes.out x hx).2.1⟩)).mono ?_; rintro e w3 ⟨_, rfl, ⟨af, cf, rfl, hrf⟩, hb3⟩; have hW3 := hW1d.trans (hb3.mono hW1d.size); obtain ⟨z0, z1, z2, z3, z4⟩ := box4' ⟨y0, y1, y2, y3, y4⟩ hb3)
      | (go_at_call 49; refine (backward_any _ _ _ _ _ _ _ _ _ _ _ n a.es a.ms _ (RdE.mono ⟨ae, ce, rfl, hre⟩ hW3) (RdI.mono ⟨am, cm, rfl, hrm⟩ hW3) hae ham (by omega) Hes.out Hms.out).mono ?_; rintro e w4 ⟨v4, rfl, ⟨a4, c4, rfl, hv4⟩, hb4⟩; have hW4 := hW3.trans (hb4.mono hW3.size)))
    all_goals
      have Hco : Hid (corea a = listL ((backward n a.es a.ms).map fun d => decide (0 ≤ d))) := by
        show _ = _
        rw [corea, Hn.out, Int.toNat_natCast]
      have hlen := backward_length n a.es a.ms
      clear x0 x1 x2 x3 x4 y0 y1 y2 y3 y4 z0 z1 z2 z3 z4 hW1 hW1d hW3 hb3 hb4 hrf
      generalize backward n a.es a.ms = D at *
      have hl2 : D.length ≤ 1000000 := by omega
      have hfl : (D.map fun d => decide (0 ≤ d)).length = D.length := by simp
      clear hlen
      go_wp2_with fail
      go_simp
      go_loopw [5, 19] (fun v i wr => ∃ k : Nat, k ≤ D.length ∧ i = .int .i64 k ∧ Below w4.heap.size w4 wr ∧ wr.ownsRow w4.heap.size 3 1 v (listK (D.map fun d => decide (0 ≤ d)) k).length (ints (listK (D.map fun d => decide (0 ≤ d)) k))) (fun _ i _ => D.length - (intOf i).toNat)
      case atStart => exact ⟨0, Nat.zero_le _, rfl, Below.refl _ _, by simpa [listK] using World.ownsRow_nil w4 w4.heap.size 3 1⟩
      case round =>
        obtain ⟨k, hk, rfl, hB, hown⟩ := hrel
        have hle := listK_le (D.map fun d => decide (0 ≤ d)) k
        have hsz := hB.size
        by_cases hlt : k < D.length
        · obtain ⟨b, off, rfl, hc⟩ := hv4.at_int k hlt
          replace hc := keep0 hB hc
          by_cases hx : 0 ≤ D[k]
          · have hs := Lib.hid (listK_true (fl := D.map fun d => decide (0 ≤ d)) (k := k) (by rw [hfl]; exact hlt) (by simpa using hx))
            go_wp2_with ((at_builtin; refine wpList_append_own _ rfl _ _ 28 rfl (w4.heap.size) 3 i0 (.int .i64 0) 1 8 Try.underlying28 hi hz0 hz1 hz2 rfl (by decide) _ ((listK (D.map fun d => decide (0 ≤ d)) k).length) _ rfl ((hown).alloc _) ⟨_, 0, none⟩ 1 1 [.int .i64 k] rfl rfl (new_cells _ [_] _) (by simp [Value.oneCell']) (by unfold maxLen; omega) (by omega) (by first | omega | (simp; done) | (simp; omega) | (simp at *; omega)) ?_; intro v1 w1 hown1 hgrow1 _); have Hown := Lib.hid hown1; clear hown1)
            go_roundw
            case rel =>
              refine ⟨k + 1, by omega, by go_num, Below.grown (by (repeat (first | with_reducible exact Below.refl _ _ | with_reducible exact hB | (with_reducible refine belCall ?_ hB (by first | omega | (simp; done) | (simp; omega) | (simp at *; omega))) | (with_reducible refine Below.alloc ?_ (by first | omega | (simp; done) | (simp; omega) | (simp at *; omega)) _) | (with_reducible refine Below.drew ?_) | (with_reducible refine Below.setCell ?_ (by first | omega | (simp; done) | (simp; omega) | (simp at *; omega)) _)))) hgrow1 (by first | omega | (simp; done) | (simp; omega) | (simp at *; omega)) (fun j e => (hown.lt j e).1), ?_⟩
              have h1 := Hown.out
              rw [hs.out]
              simpa [ints] using h1
            case measure => simp [intOf]; omega
          · have hs := Lib.hid (listK_false (fl := D.map fun d => decide (0 ≤ d)) (k := k) (by rw [hfl]; exact hlt) (by simpa using hx))
            go_wp2
            go_roundw
            case rel => exact ⟨k + 1, by omega, by go_num, hB, by rw [hs.out]; exact hown⟩
            case measure => simp [intOf]; omega
        · go_wp2
          go_ret2
          obtain rfl : k = D.length := by omega
          refine ⟨_, rfl, ?_, hW4.trans (hB.mono hW4.size)⟩
          rw [ListPost, if_pos H1.out, Hco.out]
          rw [← hfl] at hown
          exact ⟨_, rfl, RdI.of_own hown⟩
  · have H1 := Lib.hid h1
    have h1' : (a.err != 0) = true := by simpa using h1
    clear h1
    go_wp2_with fail
    go_ret2
    refine ⟨_, rfl, ?_, hW1⟩
    rw [ListPost, if_neg H1.out]
    rfl
end Go.Proofs.Ythchkddhibhenaa

/- backward finds the least distances: a plain law. -/
namespace Go.Proofs.Ythchkddhibhenaa

/-- A target is reached by k edges. -/
def ReachIn (es : List Ed) (tg : List Int) : Nat → Int → Prop
  | 0, s => s ∈ tg
  | k + 1, s => ∃ x ∈ es, x.f = s ∧ ReachIn es tg k x.t
/-- The least distance, or -1. -/
def IsDist (es : List Ed) (tg : List Int) (s d : Int) : Prop := (d = -1 ∧ ∀ k, ¬ ReachIn es tg k s) ∨ (∃ k : Nat, d = k ∧ ReachIn es tg k s ∧ ∀ j, j < k → ¬ ReachIn es tg j s)
theorem IsDist.unique {es : List Ed} {tg : List Int} {s d d' : Int} (h : IsDist es tg s d) (h' : IsDist es tg s d') : d = d' := by
  rcases h with ⟨rfl, h⟩ | ⟨k, rfl, h1, h2⟩
  · rcases h' with ⟨rfl, _⟩ | ⟨k, rfl, h1, _⟩
    · rfl
    · exact absurd h1 (h k)
  · rcases h' with ⟨rfl, h'⟩ | ⟨k', rfl, h1', h2'⟩
    · exact absurd h1 (h' k)
    · have a1 : ¬ k < k' := fun hlt => h2' k hlt h1
      have a2 : ¬ k' < k := fun hlt => h2 k' hlt h1'
      omega

/-- What holds of the distances while backward searches. -/
structure BD (es : List Ed) (tg : List Int) (n : Nat) (ds q : List Int) (c : Int) : Prop where
  ok : BOk n ds q
  fit : ∀ i, i < n → 0 ≤ ds.getD i 0 → ∃ k : Nat, ds.getD i 0 = k ∧ ReachIn es tg k i
  top : ∀ i, i < n → ds.getD i 0 ≤ c + 1
  low : ∀ s ∈ q, c ≤ ds.getD s.toNat 0
  srt : q.Pairwise fun s t => ds.getD s.toNat 0 ≤ ds.getD t.toNat 0
  done : ∀ x ∈ es, 0 ≤ ds.getD x.t.toNat 0 → x.t ∈ q ∨ (0 ≤ ds.getD x.f.toNat 0 ∧ ds.getD x.f.toNat 0 ≤ ds.getD x.t.toNat 0 + 1)
  tgt : ∀ s ∈ tg, ds.getD s.toNat 0 = 0
  bnd : ∀ i, i < n → ds.getD i 0 ≤ n - negs ds

section
variable {es : List Ed} {tg : List Int} {n : Nat}
theorem getD_set_at {ds : List Int} {p : Nat} {d : Int} (h : p < ds.length) : (ds.set p d).getD p 0 = d := by
  rw [List.getD_eq_getElem?_getD, List.getElem?_set_self h]; rfl
/-- The state of a search while the edges into s are followed: all but those in l. -/
structure BDs (es : List Ed) (tg : List Int) (n : Nat) (s : Nat) (c : Int) (ds q l : List Int) : Prop where
  ok : BOk n ds q
  at_ : ds.getD s 0 = c
  c0 : 0 ≤ c
  fit : ∀ i, i < n → 0 ≤ ds.getD i 0 → ∃ k : Nat, ds.getD i 0 = k ∧ ReachIn es tg k i
  top : ∀ i, i < n → ds.getD i 0 ≤ c + 1
  low : ∀ s ∈ q, c ≤ ds.getD s.toNat 0
  srt : q.Pairwise fun s t => ds.getD s.toNat 0 ≤ ds.getD t.toNat 0
  done : ∀ x ∈ es, 0 ≤ ds.getD x.t.toNat 0 → x.t ∈ q ∨ (x.t = s ∧ x.f ∈ l) ∨ (0 ≤ ds.getD x.f.toNat 0 ∧ ds.getD x.f.toNat 0 ≤ ds.getD x.t.toNat 0 + 1)
  tgt : ∀ s ∈ tg, ds.getD s.toNat 0 = 0
  bnd : ∀ i, i < n → ds.getD i 0 ≤ n - negs ds
theorem BDs.fold (hes : ∀ x ∈ es, 0 ≤ x.f ∧ x.f < (n : Int) ∧ 0 ≤ x.t ∧ x.t < (n : Int)) (htg : ∀ s ∈ tg, 0 ≤ s ∧ s < (n : Int)) {s : Nat} (hs : s < n) {c : Int} : ∀ (l : List Int) {ds q : List Int}, BDs es tg n s c ds q l → (∀ p ∈ l, ∃ x ∈ es, x.f = p ∧ x.t = s) →
    BDs es tg n s c (l.foldl (bStep s) (ds, q)).1 (l.foldl (bStep s) (ds, q)).2 []
  | [], _, _, h, _ => h
  | p :: l, ds, q, h, hp => by
    rw [List.foldl_cons]
    obtain ⟨x, hx, rfl, hxt⟩ := hp p (List.mem_cons_self ..)
    have hxr := hes x hx
    have hl := h.ok.len
    by_cases hneg : ds.getD x.f.toNat 0 < 0
    · have hst : bStep s (ds, q) x.f = (ds.set x.f.toNat (ds.getD s 0 + 1), q ++ [x.f]) := by unfold bStep; rw [if_pos hneg]
      have hstep := h.ok.step hs (by rw [h.at_]; exact h.c0) x.f hxr.1 hxr.2.1
      rw [hst] at hstep ⊢
      rw [h.at_] at hstep ⊢
      have hne : x.f.toNat ≠ s := by
        intro e; rw [e, h.at_] at hneg; have := h.c0; omega
      have hfl : x.f.toNat < ds.length := by omega
      have hself : (ds.set x.f.toNat (c + 1)).getD x.f.toNat 0 = c + 1 := getD_set_at hfl
      have hother : ∀ i, i ≠ x.f.toNat → (ds.set x.f.toNat (c + 1)).getD i 0 = ds.getD i 0 := fun i hi => getD_set_ne (fun e => hi e.symm)
      have hc0 := h.c0
      obtain ⟨k, hk1, hk2⟩ := h.fit s hs (by rw [h.at_]; exact h.c0)
      rw [h.at_] at hk1
      have hq : ∀ t ∈ q, t.toNat ≠ x.f.toNat := by
        intro t ht e
        have := h.ok.nn t ht
        rw [e] at this; omega
      refine BDs.fold hes htg hs l ⟨hstep.1, by rw [hother s (Ne.symm hne)]; exact h.at_, h.c0, ?_, ?_, ?_, ?_, ?_, ?_, ?_⟩ (fun p hp' => hp p (List.mem_cons_of_mem _ hp'))
      · intro i hi h0
        by_cases e : i = x.f.toNat
        · subst e
          rw [hself]
          refine ⟨k + 1, by omega, x, hx, by omega, ?_⟩
          rw [hxt]; exact hk2
        · rw [hother i e] at h0 ⊢; exact h.fit i hi h0
      · intro i hi
        by_cases e : i = x.f.toNat
        · subst e; rw [hself]; exact Int.le_refl _
        · rw [hother i e]; exact h.top i hi
      · intro t ht
        rcases List.mem_append.1 ht with ht | ht
        · rw [hother _ (hq t ht)]; exact h.low t ht
        · rw [List.mem_singleton.1 ht, hself]; omega
      · rw [List.pairwise_append]
        refine ⟨List.Pairwise.imp_of_mem (fun {a b} ha hb hab => ?_) h.srt, List.pairwise_singleton _ _, fun a ha b hb => ?_⟩
        · rw [hother _ (hq a ha), hother _ (hq b hb)]; exact hab
        · rw [List.mem_singleton.1 hb, hself, hother _ (hq a ha)]
          have h1 := h.ok.qr a ha
          exact h.top a.toNat (by omega)
      · intro y hy h0
        by_cases e : y.t.toNat = x.f.toNat
        · have : y.t = x.f := by have := hes y hy; omega
          exact .inl (by rw [this]; simp)
        · rw [hother _ e] at h0 ⊢
          rcases h.done y hy h0 with h1 | ⟨h1, h2⟩ | ⟨h1, h2⟩
          · exact .inl (List.mem_append_left _ h1)
          · rcases List.mem_cons.1 h2 with h2 | h2
            · refine .inr (.inr ?_)
              rw [h2, hself, h1, Int.toNat_natCast, h.at_]; omega
            · exact .inr (.inl ⟨h1, h2⟩)
          · refine .inr (.inr ?_)
            by_cases e2 : y.f.toNat = x.f.toNat
            · rw [e2] at h1; omega
            · rw [hother _ e2]; exact ⟨h1, h2⟩
      · intro t ht
        have := h.tgt t ht
        by_cases e : t.toNat = x.f.toNat
        · rw [e] at this; omega
        · rw [hother _ e]; exact this
      · intro i hi
        have h9 : negs (ds.set x.f.toNat (c + 1)) + 1 = negs ds := negs_set hfl (by rw [List.getD_eq_getElem?_getD, List.getElem?_eq_getElem hfl] at hneg; exact hneg) (by omega)
        have h8 := h.bnd s hs
        rw [h.at_] at h8
        by_cases e : i = x.f.toNat
        · subst e; rw [hself]; omega
        · rw [hother i e]; have := h.bnd i hi; omega
    · have hst : bStep s (ds, q) x.f = (ds, q) := by unfold bStep; rw [if_neg hneg]
      rw [hst]
      refine BDs.fold hes htg hs l ⟨h.ok, h.at_, h.c0, h.fit, h.top, h.low, h.srt, ?_, h.tgt, h.bnd⟩ (fun p hp' => hp p (List.mem_cons_of_mem _ hp'))
      intro y hy h0
      rcases h.done y hy h0 with h1 | ⟨h1, h2⟩ | h1
      · exact .inl h1
      · rcases List.mem_cons.1 h2 with h2 | h2
        · refine .inr (.inr ?_)
          rw [h2, h1, Int.toNat_natCast, h.at_]
          exact ⟨by omega, h.top _ (by omega)⟩
        · exact .inr (.inl ⟨h1, h2⟩)
      · exact .inr (.inr h1)
theorem BD.bwd (hes : ∀ x ∈ es, 0 ≤ x.f ∧ x.f < (n : Int) ∧ 0 ≤ x.t ∧ x.t < (n : Int)) (htg : ∀ s ∈ tg, 0 ≤ s ∧ s < (n : Int)) : ∀ (f : Nat) {ds q : List Int} {c : Int}, BD es tg n ds q c → 2 * negs ds + q.length < f →
    ∃ c', BD es tg n (Go.Proofs.Ythchkddhibhenaa.bwd (inL es) f ds q) [] c'
  | 0, _, _, _, _, hf => absurd hf (by omega)
  | f + 1, ds, [], c, h, _ => ⟨c, h⟩
  | f + 1, ds, s :: q, c, h, hf => by
    rw [Go.Proofs.Ythchkddhibhenaa.bwd]
    have hs := h.ok.qr s (List.mem_cons_self ..)
    have h0 := h.ok.nn s (List.mem_cons_self ..)
    have hc := h.low s (List.mem_cons_self ..)
    obtain ⟨hs1, hs2⟩ := List.pairwise_cons.1 h.srt
    have h1 : BDs es tg n s.toNat (ds.getD s.toNat 0) ds q (inL es s.toNat) := by
      refine ⟨h.ok.pop, rfl, h0, h.fit, fun i hi => ?_, hs1, hs2, fun x hx hx0 => ?_, h.tgt, h.bnd⟩
      · have := h.top i hi; omega
      · rcases h.done x hx hx0 with h2 | h2
        · rcases List.mem_cons.1 h2 with h2 | h2
          · refine .inr (.inl ⟨by omega, ?_⟩)
            unfold inL
            exact List.mem_map.2 ⟨x, List.mem_filter.2 ⟨hx, by rw [h2]; simp; omega⟩, rfl⟩
          · exact .inl h2
        · exact .inr (.inr h2)
    have h2 := h1.fold hes htg (by omega) (inL es s.toNat) (fun p hp => inL_mem hp)
    have h3 := BOk.fold (show s.toNat < n by omega) (inL es s.toNat) h.ok.pop h0 (inL_range hes)
    refine BD.bwd hes htg f (c := ds.getD s.toNat 0) ⟨h2.ok, h2.fit, h2.top, h2.low, h2.srt, fun x hx hx0 => ?_, h2.tgt, h2.bnd⟩ ?_
    · rcases h2.done x hx hx0 with h4 | ⟨_, h4⟩ | h4
      · exact .inl h4
      · cases h4
      · exact .inr h4
    · have := h3.2.2
      simp only [List.length_cons] at hf
      omega
/-- backward's distances are the least ones. -/
theorem backward_bd (hn : n ≤ 1000000) (hes : ∀ x ∈ es, 0 ≤ x.f ∧ x.f < (n : Int) ∧ 0 ≤ x.t ∧ x.t < (n : Int)) (htg : ∀ s ∈ tg, 0 ≤ s ∧ s < (n : Int)) (i : Nat) (hi : i < n) : IsDist es tg i ((backward n es tg).getD i 0) ∧ (backward n es tg).getD i 0 ≤ n := by
  have hst := bStart_get n tg (fun s hs => (htg s hs).1)
  have h0 : BD es tg n (bStart n tg) tg 0 := by
    refine ⟨BOk.start n tg hn htg, ?_, ?_, ?_, ?_, ?_, ?_, ?_⟩
    · intro i hi h0
      rw [hst i hi] at h0 ⊢
      by_cases hm : (i : Int) ∈ tg
      · rw [if_pos hm]; exact ⟨0, rfl, hm⟩
      · rw [if_neg hm] at h0; omega
    · intro i hi
      rw [hst i hi]; split <;> omega
    · intro s hs
      have h1 := htg s hs
      rw [hst s.toNat (by omega), if_pos (by rw [Int.toNat_of_nonneg h1.1]; exact hs)]; exact Int.le_refl _
    · refine List.Pairwise.imp_of_mem (R := fun _ _ => True) (fun {a b} ha hb _ => ?_) (List.pairwise_of_forall (fun _ _ => trivial))
      have h1 := htg a ha
      have h2 := htg b hb
      rw [hst a.toNat (by omega), hst b.toNat (by omega), if_pos (by rw [Int.toNat_of_nonneg h1.1]; exact ha), if_pos (by rw [Int.toNat_of_nonneg h2.1]; exact hb)]; exact Int.le_refl _
    · intro x hx h0
      have h1 := hes x hx
      rw [hst x.t.toNat (by omega)] at h0
      by_cases hm : ((x.t.toNat : Nat) : Int) ∈ tg
      · exact .inl (by rwa [Int.toNat_of_nonneg h1.2.2.1] at hm)
      · rw [if_neg hm] at h0; omega
    · intro s hs
      have h1 := htg s hs
      rw [hst s.toNat (by omega), if_pos (by rw [Int.toNat_of_nonneg h1.1]; exact hs)]
    · intro i hi
      have h1 := negs_le (bStart n tg)
      rw [bStart_length] at h1
      rw [hst i hi]; split <;> omega
  obtain ⟨c, h⟩ := h0.bwd hes htg (2 * negs (bStart n tg) + tg.length + 1) (by omega)
  have hE : Go.Proofs.Ythchkddhibhenaa.bwd (inL es) (2 * negs (bStart n tg) + tg.length + 1) (bStart n tg) tg = backward n es tg := rfl
  rw [hE] at h
  generalize backward n es tg = D at h
  have key : ∀ (k : Nat) (s : Int), 0 ≤ s → s < n → ReachIn es tg k s → 0 ≤ D.getD s.toNat 0 ∧ D.getD s.toNat 0 ≤ k := by
    intro k
    induction k with
    | zero =>
      intro s h0 h1 hr
      rw [h.tgt s hr]; omega
    | succ k ih =>
      rintro s h0 h1 ⟨x, hx, rfl, hr⟩
      have hxr := hes x hx
      obtain ⟨g1, g2⟩ := ih x.t hxr.2.2.1 hxr.2.2.2 hr
      rcases h.done x hx g1 with h3 | ⟨h3, h4⟩
      · cases h3
      · omega
  refine ⟨?_, by have := h.bnd i hi; omega⟩
  by_cases hneg : 0 ≤ D.getD i 0
  · obtain ⟨k, h1, h2⟩ := h.fit i hi hneg
    refine .inr ⟨k, h1, h2, fun j hj hr => ?_⟩
    have := key j i (by omega) (by omega) hr
    rw [Int.toNat_natCast] at this
    omega
  · refine .inl ⟨?_, fun k hr => ?_⟩
    · have hl := h.ok.len
      have h1 := h.ok.lo (D.getD i 0) (by rw [List.getD_eq_getElem?_getD, List.getElem?_eq_getElem (by omega)]; exact List.getElem_mem _)
      omega
    · have := key k i (by omega) (by omega) hr
      rw [Int.toNat_natCast] at this
      omega
theorem backward_dist (hn : n ≤ 1000000) (hes : ∀ x ∈ es, 0 ≤ x.f ∧ x.f < (n : Int) ∧ 0 ≤ x.t ∧ x.t < (n : Int)) (htg : ∀ s ∈ tg, 0 ≤ s ∧ s < (n : Int)) (i : Nat) (hi : i < n) : IsDist es tg i ((backward n es tg).getD i 0) := (backward_bd hn hes htg i hi).1
end
end Go.Proofs.Ythchkddhibhenaa

/- The contracts of same, All and Bits. -/
namespace Go.Proofs.Ythchkddhibhenaa
open Go.RowKit

def sameB (xs ys : List Int) : Bool := xs == ys
theorem sameB_true {xs ys : List Int} : sameB xs ys = true ↔ xs = ys := by simp [sameB]

theorem same_any (v1 v2 : Value) (xs ys : List Int) (w : World) (h1 : RdI w v1 xs) (h2 : RdI w v2 ys) (hl1 : xs.length ≤ 1000000) (hl2 : ys.length ≤ 1000000) :
    Calls Try.prog 19 #[v1, v2] w (Ret w fun u _ => u = .bool (sameB xs ys)) := by
  obtain ⟨a, cap, rfl, hr1⟩ := h1
  obtain ⟨a2, cap2, rfl, hr2⟩ := h2
  go_enter Try.func19, Try.ntmps19
  by_cases hlen : xs.length = ys.length
  · have hb : ((xs.length : Int) != ys.length) = false := by simp [hlen]
    have hle : xs.length ≤ ys.length := by omega
    have Hlen := Lib.hid hlen
    clear hlen
    go_wp2_with fail
    go_loopw [5] (fun i wr => ∃ k : Nat, k ≤ xs.length ∧ i = .int .i64 k ∧ Below w.heap.size w wr ∧ Hid (xs.take k = ys.take k)) (fun i _ => xs.length - (intOf i).toNat)
    case atStart => exact ⟨0, Nat.zero_le _, rfl, Below.refl _ _, rfl⟩
    case round =>
      obtain ⟨k, hk, rfl, hB, hn⟩ := hrel
      by_cases hlt : k < xs.length
      · obtain ⟨b, off, rfl, hc⟩ := hr1.at_int k hlt
        obtain ⟨b2, off2, rfl, hc2⟩ := hr2.at_int k (by omega)
        replace hc := keep0 hB hc
        replace hc2 := keep0 hB hc2
        have Hs1 := Lib.hid (take_snoc xs k hlt)
        have Hs2 := Lib.hid (take_snoc ys k (by omega))
        go_wp2_with fail
        go_region
        go_wp2
        · have hx : (xs[k] != ys[k]) = true := by assumption
          go_ret
          refine ⟨_, rfl, congrArg Value.bool ?_, hB.drew⟩
          symm
          rw [Bool.eq_false_iff]
          intro h
          have h := sameB_true.1 h
          subst h
          simp at hx
        · have hx : (xs[k] != ys[k]) = false := by assumption
          go_roundw
          case rel => exact ⟨k + 1, by omega, by go_num, hB.drew, by show _ = _; rw [Hs1.out, Hs2.out, hn.out]; simp at hx; rw [hx]⟩
          case measure => simp [intOf]; omega
      · go_wp2
        go_ret
        refine ⟨_, rfl, congrArg Value.bool ?_, hB⟩
        symm
        rw [sameB_true]
        have h := hn.out
        rwa [List.take_of_length_le (by omega), List.take_of_length_le (by have := Hlen.out; omega)] at h
  · have hb : ((xs.length : Int) != ys.length) = true := by rw [bne_iff_ne]; omega
    have Hlen := Lib.hid hlen
    clear hlen
    go_wp2_with fail
    go_ret
    refine ⟨_, rfl, congrArg Value.bool ?_, Below.refl _ _⟩
    symm
    rw [Bool.eq_false_iff]
    intro h
    exact Hlen.out (by rw [sameB_true.1 h])

def allL (n : Nat) : List Int := (List.range n).map fun (i : Nat) => (i : Int)
theorem allL_succ (n : Nat) : allL (n + 1) = allL n ++ [(n : Int)] := by simp [allL, List.range_succ]
theorem allL_length (n : Nat) : (allL n).length = n := by simp [allL]
theorem all_any (n : Nat) (w : World) (hn : n ≤ 1000000) :
    Calls Try.prog 20 #[.int .i64 n] w (Ret w fun u w' => w'.ownsRow w.heap.size 3 1 u (allL n).length (ints (allL n))) := by
  obtain ⟨i0, hi, hz0, hz1, hz2⟩ := info_parts Try.info_int
  go_enter Try.func20, Try.ntmps20
  go_wp2_with fail
  go_loopw [3, 4] (fun v i wr => ∃ k : Nat, k ≤ n ∧ i = .int .i64 k ∧ Below w.heap.size w wr ∧ wr.ownsRow w.heap.size 3 1 v (allL k).length (ints (allL k))) (fun _ i _ => n - (intOf i).toNat)
  case atStart => exact ⟨0, Nat.zero_le _, rfl, Below.refl _ _, by simpa [allL] using World.ownsRow_nil w w.heap.size 3 1⟩
  case round =>
    obtain ⟨k, hk, rfl, hB, hown⟩ := hrel
    have hle := allL_length k
    have hsz := hB.size
    by_cases hlt : k < n
    · have hs := Lib.hid (allL_succ k)
      have hle' : (allL k).length ≤ 1000000 := by omega
      clear hle
      go_wp2_with ((at_builtin; refine wpList_append_own _ rfl _ _ 28 rfl (w.heap.size) 3 i0 (.int .i64 0) 1 8 Try.underlying28 hi hz0 hz1 hz2 rfl (by decide) _ ((allL k).length) _ rfl ((hown).alloc _) ⟨_, 0, none⟩ 1 1 [.int .i64 k] rfl rfl (new_cells _ [_] _) (by simp [Value.oneCell']) (by unfold maxLen; omega) (by omega) (by first | omega | (simp; done) | (simp; omega) | (simp at *; omega)) ?_; intro v1 w1 hown1 hgrow1 _); have Hown := Lib.hid hown1; clear hown1)
      go_roundw
      case rel =>
        refine ⟨k + 1, by omega, by go_num, Below.grown (by (repeat (first | with_reducible exact Below.refl _ _ | with_reducible exact hB | (with_reducible refine belCall ?_ hB (by first | omega | (simp; done) | (simp; omega) | (simp at *; omega))) | (with_reducible refine Below.alloc ?_ (by first | omega | (simp; done) | (simp; omega) | (simp at *; omega)) _) | (with_reducible refine Below.drew ?_) | (with_reducible refine Below.setCell ?_ (by first | omega | (simp; done) | (simp; omega) | (simp at *; omega)) _)))) hgrow1 (by first | omega | (simp; done) | (simp; omega) | (simp at *; omega)) (fun j e => (hown.lt j e).1), ?_⟩
        have h1 := Hown.out
        rw [hs.out]
        simpa [ints] using h1
      case measure => simp [intOf]; omega
    · clear hle
      go_wp2
      go_ret
      obtain rfl : n = k := by omega
      exact ⟨_, rfl, hown, hB⟩
end Go.Proofs.Ythchkddhibhenaa

/- The contract of leads. -/
namespace Go.Proofs.Ythchkddhibhenaa
open Go.RowKit

/-- Where the last edge of a state by an event leads, or -1. -/
def nextL (es : List Ed) (s e : Int) : Int := es.foldl (fun nx x => if x.f = s ∧ x.e = e then x.t else nx) (-1)
/-- Whether a word leads from a state to a target. -/
def leadsL (es : List Ed) (tg : List Int) : Int → List Int → Bool
  | s, [] => hasB tg s
  | s, e :: w => if nextL es s e < 0 then false else leadsL es tg (nextL es s e) w

theorem leadsL_drop {es : List Ed} {tg w : List Int} {s : Int} {k : Nat} (hk : k < w.length) : leadsL es tg s (w.drop k) = if nextL es s w[k] < 0 then false else leadsL es tg (nextL es s w[k]) (w.drop (k + 1)) := by
  rw [List.drop_eq_getElem_cons hk, leadsL]

theorem bel_drewN {B : Nat} {a w : World} (h : Below B a w) (n : Nat) : Below B a (w.drewN n) := h.trans ⟨rfl, rfl, rfl, Nat.le_refl _, fun _ _ => rfl⟩

set_option maxRecDepth 100000 in
set_option maxHeartbeats 1600000 in
theorem leads_any (v vw vt : Value) (a : Aut) (from_ : Int) (ws tg : List Int) (is : Bool) (w : World) (ha : RdA w v a) (hs : a.small) (h1 : RdI w vw ws) (h2 : RdI w vt tg) (hl1 : ws.length ≤ 1000000) (hl2 : tg.length ≤ 1000000) :
    Calls Try.prog 21 #[v, .int .i64 from_, vw, vt, .bool is] w (Ret w fun u _ => u = .bool (!is || leadsL a.es tg from_ ws)) := by
  have ha0 := ha
  obtain ⟨va, vm, ve, rfl, ⟨aa, ca, rfl, hra⟩, ⟨am, cm, rfl, hrm⟩, ⟨ae, ce, rfl, hre⟩⟩ := ha
  obtain ⟨aw, cw, rfl, hrw⟩ := h1
  obtain ⟨at_, ct, rfl, hrt⟩ := h2
  have hse := hs.es
  obtain ⟨al, n, ms, es⟩ := a
  dsimp only at *
  clear ha0 hs hra hrm
  cases is with
  | false =>
    go_enter Try.func21, Try.ntmps21
    go_wp2
    go_ret
    exact ⟨_, rfl, rfl, (by (repeat (first | with_reducible exact Below.refl _ _ | with_reducible exact hre | (with_reducible refine belCall ?_ hre (by first | omega | (simp; done) | (simp; omega) | (simp at *; omega))) | (with_reducible refine Below.alloc ?_ (by first | omega | (simp; done) | (simp; omega) | (simp at *; omega)) _) | (with_reducible refine Below.drew ?_) | (with_reducible refine Below.setCell ?_ (by first | omega | (simp; done) | (simp; omega) | (simp at *; omega)) _))))⟩
  | true =>
    go_enter Try.func21, Try.ntmps21
    go_wp2_with fail
    go_loopw [1, 11] (fun s i wr => ∃ (k : Nat) (st : Int), k ≤ ws.length ∧ s = .int .i64 st ∧ i = .int .i64 k ∧ Hid (leadsL es tg from_ ws = leadsL es tg st (ws.drop k)) ∧ Below (w.heap.size + 1) (w.alloc (.cells #[.slice aa al.length ca, .int .i64 n, .slice am ms.length cm, .slice ae es.length ce] 31)) wr) (fun _ i _ => ws.length - (intOf i).toNat)
    case atStart => exact ⟨0, from_, Nat.zero_le _, rfl, rfl, rfl, Below.refl _ _⟩
    case round =>
      obtain ⟨k, st, hk, rfl, rfl, hn, hB⟩ := hrel
      have hB0 : Below w.heap.size w wr := ((Below.refl _ _).alloc (Nat.le_refl _) _).trans (hB.mono (Nat.le_succ _))
      by_cases hlt : k < ws.length
      · obtain ⟨bw, ow, rfl, hcw⟩ := hrw.at_int k hlt
        have Hdrop := Lib.hid (leadsL_drop (es := es) (tg := tg) (s := st) hlt)
        have hbz := World.block_lt_of_cell? _ _ hcw
        dsimp only at hbz
        generalize ws[k] = ev at *
        go_wp2_with fail
        go_loopw [12, 13] (fun nx j wr' => ∃ (m : Nat) (nv : Int), m ≤ es.length ∧ nx = .int .i64 nv ∧ j = .int .i64 m ∧ Hid (nextL es st ev = (es.drop m).foldl (fun nx x => if x.f = st ∧ x.e = ev then x.t else nx) nv) ∧ Below (w.heap.size + 1) (w.alloc (.cells #[.slice aa al.length ca, .int .i64 n, .slice am ms.length cm, .slice ae es.length ce] 31)) wr') (fun _ j _ => es.length - (intOf j).toNat)
        case atStart => exact ⟨0, -1, Nat.zero_le _, rfl, rfl, rfl, hB⟩
        case round =>
          clear hB hB0
          obtain ⟨m, nv, hm, rfl, rfl, hnx, hB⟩ := hrel
          have hB0 : Below w.heap.size w wr := ((Below.refl _ _).alloc (Nat.le_refl _) _).trans (hB.mono (Nat.le_succ _))
          have hbx : wr.cell? ⟨w.heap.size, 3, none⟩ = some (.slice ae es.length ce) := (hB.cell (p := ⟨w.heap.size, 3, none⟩) (by simp)).trans (by simp [go_sem])
          have hbd := hB.drew
          by_cases hltm : m < es.length
          · obtain ⟨b, off, rfl, d0, d1, d2⟩ := hre.at_edge m hltm
            have Hd := Lib.hid (show (es.drop m).foldl (fun nx x => if x.f = st ∧ x.e = ev then x.t else nx) nv = (es.drop (m + 1)).foldl (fun nx x => if x.f = st ∧ x.e = ev then x.t else nx) (if es[m].f = st ∧ es[m].e = ev then es[m].t else nv) by rw [List.drop_eq_getElem_cons hltm, List.foldl_cons])
            have e0 := keep0 hB0 d0
            have e1 := keep0 hB0 d1
            have e2 := keep0 hB0 d2
            have e3 := keep0 hB0 hcw
            generalize es[m] = x at *
            obtain ⟨xf, xe, xt⟩ := x
            dsimp only at *
            clear d0 d1 d2 hcw
            by_cases hf : xf = st
            · have q1 : (xf == st) = true := by simpa using hf
              by_cases he : xe = ev
              · have q2 : (xe == ev) = true := by simpa using he
                have Hd2 : Hid (nextL es st ev = (es.drop (m + 1)).foldl (fun nx x => if x.f = st ∧ x.e = ev then x.t else nx) xt) := by
                  show _ = _
                  rw [hnx.out, Hd.out, if_pos ⟨hf, he⟩]
                clear Hd hnx hf he
                go_wp2_with fail
                go_quiet (fail)
                go_wp2_with fail
                go_roundw
                case rel => exact ⟨m + 1, xt, by omega, rfl, by go_num, Hd2.out, bel_drewN hB _⟩
                case measure => simp [intOf]; omega
              · have q2 : (xe == ev) = false := by simpa using he
                have Hd2 : Hid (nextL es st ev = (es.drop (m + 1)).foldl (fun nx x => if x.f = st ∧ x.e = ev then x.t else nx) nv) := by
                  show _ = _
                  rw [hnx.out, Hd.out, if_neg (fun h => he h.2)]
                clear Hd hnx hf he
                go_wp2_with fail
                go_quiet (fail)
                go_wp2_with fail
                go_roundw
                case rel => exact ⟨m + 1, nv, by omega, rfl, by go_num, Hd2.out, bel_drewN hB _⟩
                case measure => simp [intOf]; omega
            · have q1 : (xf == st) = false := by simpa using hf
              have Hd2 : Hid (nextL es st ev = (es.drop (m + 1)).foldl (fun nx x => if x.f = st ∧ x.e = ev then x.t else nx) nv) := by
                show _ = _
                rw [hnx.out, Hd.out, if_neg (fun h => hf h.1)]
              clear Hd hnx hf
              go_wp2_with fail
              go_quiet (fail)
              go_wp2_with fail
              go_roundw
              case rel => exact ⟨m + 1, nv, by omega, rfl, by go_num, Hd2.out, bel_drewN hB _⟩
              case measure => simp [intOf]; omega
          · have hml : m = es.length := by omega
            have Hnv : Hid (nextL es st ev = nv) := by
              show _ = _
              rw [hnx.out, hml, List.drop_length]; rfl
            clear hnx hml
            by_cases h0 : nv < 0
            · have HF : Hid (leadsL es tg from_ ws = false) := by
                show _ = _
                rw [hn.out, Hdrop.out, Hnv.out, if_pos h0]
              go_wp2_with fail
              go_ret
              exact ⟨_, rfl, by rw [HF.out]; rfl, hB0⟩
            · have HF : Hid (leadsL es tg from_ ws = leadsL es tg nv (ws.drop (k + 1))) := by
                show _ = _
                rw [hn.out, Hdrop.out, Hnv.out, if_neg h0]
              go_wp2_with fail
              go_roundw
              case rel => exact ⟨k + 1, nv, by omega, rfl, by go_num, HF.out, hB⟩
              case measure => simp [intOf]; omega
      · have HF : Hid (leadsL es tg from_ ws = hasB tg st) := by
          show _ = _
          rw [hn.out, show k = ws.length by omega, List.drop_length]; rfl
        clear hn hB
        go_wp2_with fail
        go_loopw [14] (fun j wr => ∃ m : Nat, m ≤ tg.length ∧ j = .int .i64 m ∧ Hid (st ∉ tg.take m) ∧ Below w.heap.size w wr) (fun j _ => tg.length - (intOf j).toNat)
        case atStart => exact ⟨0, Nat.zero_le _, rfl, by simp [Hid], hB0⟩
        case round =>
          clear hB0
          obtain ⟨m, hm, rfl, hno, hB0⟩ := hrel
          by_cases hltm : m < tg.length
          · obtain ⟨b, off, rfl, d0⟩ := hrt.at_int m hltm
            have e0 := keep0 hB0 d0
            have hsn := @notin_snoc tg m st hltm
            have hmem := List.getElem_mem hltm
            generalize tg[m] = x at *
            have Hsn := Lib.hid hsn
            have Hmem := Lib.hid hmem
            clear d0 hsn hmem
            by_cases hx : x = st
            · have q : (x == st) = true := by simpa using hx
              have Hx := Lib.hid hx
              clear hx
              go_wp2_with fail
              go_ret
              exact ⟨_, rfl, by rw [HF.out, hasB_true.2 (Hx.out ▸ Hmem.out)]; rfl, hB0⟩
            · have q : (x == st) = false := by simpa using hx
              clear hx
              have Hsn2 := Hsn.out hno q
              go_wp2_with fail
              go_roundw
              case rel => exact ⟨m + 1, by omega, by go_num, Hsn2, hB0⟩
              case measure => simp [intOf]; omega
          · go_wp2_with fail
            go_ret
            exact ⟨_, rfl, by rw [HF.out, hasB_false.2 (notin_all hm hltm hno)]; rfl, hB0⟩
end Go.Proofs.Ythchkddhibhenaa
