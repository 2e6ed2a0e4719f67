/- The contract of Interior. -/
import Derived.Test.YthchkddhibhenaaClosure
import Derived.Test.YthchkddhibhenaaRegInv
import Derived.Deep.LoopGhost
namespace Go.Proofs.Ythchkddhibhenaa
open Go.RowKit

/-- An edge is looked at: the flags, and whether one has been taken away. -/
def iStep (evs : List Int) (acc : List Bool × Bool) (x : Ed) : List Bool × Bool :=
  if acc.1.getD x.f.toNat false = true ∧ acc.1.getD x.t.toNat false = false ∧ hasB evs x.e = true then (acc.1.set x.f.toNat false, true) else acc
/-- The rounds. -/
def iLoop (es : List Ed) (evs : List Int) : Nat → List Bool → List Bool
  | 0, fl => fl
  | f + 1, fl => if (es.foldl (iStep evs) (fl, false)).2 = true then iLoop es evs f (es.foldl (iStep evs) (fl, false)).1 else (es.foldl (iStep evs) (fl, false)).1
/-- What Interior returns. -/
def interior (n : Nat) (es : List Ed) (set evs : List Int) : List Int := listL (iLoop es evs ((flagL n set).count true + 1) (flagL n set))

theorem count_unset {l : List Bool} {j : Nat} (h : l.getD j false = true) : (l.set j false).count true + 1 = l.count true := by
  induction l generalizing j with
  | nil => simp at h
  | cons a l ih =>
    cases j with
    | zero => simp at h; subst h; simp
    | succ j =>
      simp only [List.getD_cons_succ] at h
      rw [List.set_cons_succ, List.count_cons, List.count_cons, ← ih h]
      omega
theorem iStep_length (evs : List Int) (acc : List Bool × Bool) (x : Ed) : (iStep evs acc x).1.length = acc.1.length := by
  unfold iStep; split <;> simp
theorem iStep_count (evs : List Int) (acc : List Bool × Bool) (x : Ed) : (iStep evs acc x).1.count true ≤ acc.1.count true ∧ ((iStep evs acc x).2 = true → acc.2 = true ∨ (iStep evs acc x).1.count true < acc.1.count true) := by
  unfold iStep
  split
  · rename_i h
    have := count_unset h.1
    exact ⟨by dsimp only; omega, fun _ => .inr (by dsimp only; omega)⟩
  · exact ⟨Nat.le_refl _, .inl⟩
theorem iFold_length (evs : List Int) : ∀ (l : List Ed) (acc : List Bool × Bool), (l.foldl (iStep evs) acc).1.length = acc.1.length
  | [], _ => rfl
  | x :: l, acc => by rw [List.foldl_cons, iFold_length evs l, iStep_length]
theorem iFold_count (evs : List Int) : ∀ (l : List Ed) (acc : List Bool × Bool), (l.foldl (iStep evs) acc).1.count true ≤ acc.1.count true ∧ ((l.foldl (iStep evs) acc).2 = true → acc.2 = true ∨ (l.foldl (iStep evs) acc).1.count true < acc.1.count true)
  | [], _ => ⟨Nat.le_refl _, .inl⟩
  | x :: l, acc => by
    have h1 := iStep_count evs acc x
    have h2 := iFold_count evs l (iStep evs acc x)
    rw [List.foldl_cons]
    refine ⟨Nat.le_trans h2.1 h1.1, fun h => ?_⟩
    rcases h2.2 h with h3 | h3
    · rcases h1.2 h3 with h4 | h4
      · exact .inl h4
      · exact .inr (by omega)
    · exact .inr (by omega)

set_option maxRecDepth 100000 in
set_option maxHeartbeats 1600000 in
theorem interior_any (v vs vv : Value) (a : Aut) (set evs : List Int) (w : World) (ha : RdA w v a) (hs : a.small) (h1 : RdI w vs set) (h2 : RdI w vv evs) (hl1 : set.length ≤ 1000000) (hl2 : evs.length ≤ 1000000) :
    Calls Try.prog 23 #[v, vs, vv] w (Ret w (ListPost (err2 a.err (err2 (setErr a.n none set) (setErr 32 none evs))) (interior a.n.toNat a.es set evs))) := by
  have ha0 := ha
  obtain ⟨va, vm, ve, rfl, ⟨aa, ca, rfl, hra⟩, ⟨am, cm, rfl, hrm⟩, ⟨ae, ce, rfl, hre⟩⟩ := ha
  have Ha0 := Lib.hid ha0
  have Hs := Lib.hid hs
  have Hr1 := Lib.hid h1
  have Hr2 := Lib.hid h2
  clear ha0 hs h1 h2
  go_enter Try.func23, Try.ntmps23
  go_wp2_with fail
  refine (closure_any _ vs vv a set evs _ (Ha0.out.mono (by (repeat (first | with_reducible exact Below.refl _ _ | with_reducible exact Ha0 | (with_reducible refine belCall ?_ Ha0 (by first | omega | (simp; done) | (simp; omega) | (simp at *; omega))) | (with_reducible refine Below.alloc ?_ (by first | omega | (simp; done) | (simp; omega) | (simp at *; omega)) _) | (with_reducible refine Below.drew ?_) | (with_reducible refine Below.setCell ?_ (by first | omega | (simp; done) | (simp; omega) | (simp at *; omega)) _))))) Hs.out (Hr1.out.mono (by (repeat (first | with_reducible exact Below.refl _ _ | with_reducible exact Ha0 | (with_reducible refine belCall ?_ Ha0 (by first | omega | (simp; done) | (simp; omega) | (simp at *; omega))) | (with_reducible refine Below.alloc ?_ (by first | omega | (simp; done) | (simp; omega) | (simp at *; omega)) _) | (with_reducible refine Below.drew ?_) | (with_reducible refine Below.setCell ?_ (by first | omega | (simp; done) | (simp; omega) | (simp at *; omega)) _))))) (Hr2.out.mono (by (repeat (first | with_reducible exact Below.refl _ _ | with_reducible exact Ha0 | (with_reducible refine belCall ?_ Ha0 (by first | omega | (simp; done) | (simp; omega) | (simp at *; omega))) | (with_reducible refine Below.alloc ?_ (by first | omega | (simp; done) | (simp; omega) | (simp at *; omega)) _) | (with_reducible refine Below.drew ?_) | (with_reducible refine Below.setCell ?_ (by first | omega | (simp; done) | (simp; omega) | (simp at *; omega)) _))))) hl1 hl2).mono ?_
  rintro e w1 ⟨_, rfl, rfl, hb1⟩
  have hW1 : Below w.heap.size w w1 := ((Below.refl _ _).alloc (Nat.le_refl _) _).trans (hb1.mono (by simp))
  have hbx := box4 hb1
  clear hb1
  by_cases h1 : err2 a.err (err2 (setErr a.n none set) (setErr 32 none evs)) = 0
  · have herr : a.err = 0 ∧ setErr a.n none set = 0 ∧ setErr 32 none evs = 0 := by
      unfold err2 at h1
      split at h1
      · rename_i g1
        split at h1
        · rename_i g2; exact ⟨g1, g2, h1⟩
        · rename_i g2; exact absurd h1 g2
      · rename_i g1; exact absurd h1 g1
    have hok := Aut.ok_of herr.1
    have hin := setErr_zero herr.2.1
    have H1 := Lib.hid h1
    rw [h1]
    clear h1 herr
    have hn0 := hok.n0
    have hn1 := hok.n1
    have Hes := Lib.hid hok.es
    have Hin := Lib.hid hin
    have hae := Hs.out.es
    clear hok hin
    have Hres : Hid (interior a.n.toNat a.es set evs = interior a.n.toNat a.es set evs) := rfl
    generalize hn : a.n = an at *
    obtain ⟨n, rfl⟩ := Int.eq_ofNat_of_zero_le hn0
    rw [Int.toNat_natCast] at *
    have hn' : n ≤ 4096 := by omega
    have Hn := Lib.hid hn
    clear hn hn0 hn1 Hres
    obtain ⟨x0, x1, x2, x3, x4⟩ := hbx
    have Hbx := Lib.hid (And.intro x0 (And.intro x1 (And.intro x2 (And.intro x3 x4))))
    go_wp2_with fail
    refine (flags_any _ _ _ vs n set _ (Hr1.out.mono hW1) hl1 (by omega) Hin.out).mono ?_
    rintro e w2 ⟨_, rfl, hown, hb2⟩
    have hrow : Row w2 w1.heap.size (fun _ => 1) 1 4 1 _ n (bools (flagL n set)) := Row.of_own hown (Nat.le_refl _) (fun _ _ _ => rfl)
    have hfl := flagL_length n set
    have hlen : a.es.length ≤ 1000000 := hae
    clear hown
    obtain ⟨af, cf, rfl⟩ := hrow.val
    have Hes2 := Lib.hid (fun (x : Ed) (hx : x ∈ a.es) => Hes.out x hx)
    go_wp2_with fail
    clear x0 x1 x2 x3
    go_loopg [10] ((flagL n set).count true + 1) (fun k g wr => ∃ (fl : List Bool) (gb : Bool) (f : Nat), g = .bool gb ∧ Hid (fl.length = n) ∧ Below w1.heap.size w1 wr ∧ Row wr w1.heap.size (fun _ => 1) 1 4 1 (.slice af n cf) n (bools fl) ∧
      Hid (iLoop a.es evs ((flagL n set).count true + 1) (flagL n set) = if gb = true then iLoop a.es evs (f + 1) fl else fl) ∧ fl.count true ≤ f ∧ k = if gb = true then fl.count true + 1 else 0)
    case atStart => exact ⟨flagL n set, true, _, rfl, hfl, hb2, hrow, rfl, Nat.le_refl _, rfl⟩
    case round =>
      clear hrow hb2 hfl
      obtain ⟨fl, gb, f, rfl, hfl, hB, hrow, hit, hcf, hgk⟩ := hrel
      have c3 : wr.cell? ⟨w.heap.size, 3, none⟩ = some (.slice ae a.es.length ce) := keep hB Hbx.out.2.2.2.1 x4
      have Hgk := Lib.hid hgk
      clear hgk
      cases gb with
      | false =>
        have Hit : Hid (iLoop a.es evs ((flagL n set).count true + 1) (flagL n set) = fl) := by
          show _ = _
          have := hit.out; simpa using this
        clear hit
        have hfl2 : fl.length ≤ 1000000 := by rw [hfl.out]; omega
        have hRB : RdB wr (.slice af n cf) fl := by
          have h := hrow
          rw [← hfl.out] at h
          obtain ⟨a9, c9, e9, h9⟩ := h.rd
          rw [hfl.out] at e9 
          cases e9
          refine ⟨af, cf, by rw [hfl.out], h9⟩
        have HRB := Lib.hid hRB
        clear hRB
        go_wp2_with fail
        refine (list_any _ fl _ HRB.out hfl2).mono ?_
        rintro e w5 ⟨v5, rfl, hown5, hb5⟩
        have Hown5 := Lib.hid hown5
        obtain ⟨a5, c5, rfl, hr5⟩ := RdS.of_own hown5
        clear hown5 hr5
        go_wp2_with fail
        go_ret2
        refine ⟨_, rfl, ?_, (hW1.trans (hB.mono hW1.size)).trans (hb5.mono (Nat.le_trans hW1.size hB.size))⟩
        rw [ListPost, if_pos H1.out]
        refine ⟨_, rfl, ?_⟩
        rw [interior, Hit.out]
        exact RdI.of_own Hown5.out
      | true =>
        have Hit : Hid (iLoop a.es evs ((flagL n set).count true + 1) (flagL n set) = iLoop a.es evs (f + 1) fl) := by
          show _ = _
          have := hit.out; simpa using this
        clear hit
        have Hfold : Hid (a.es.foldl (iStep evs) (fl, false) = a.es.foldl (iStep evs) (fl, false)) := rfl
        go_wp2_with fail
        clear c3
        go_loopg [10, 27] a.es.length (fun k g i wr' => ∃ (kk : Nat) (fl' : List Bool) (gb : Bool), i = .int .i64 kk ∧ g = .bool gb ∧ kk ≤ a.es.length ∧ k = a.es.length - kk ∧ Hid (fl'.length = n) ∧ Below w1.heap.size w1 wr' ∧ Row wr' w1.heap.size (fun _ => 1) 1 4 1 (.slice af n cf) n (bools fl') ∧
          Hid (a.es.foldl (iStep evs) (fl, false) = (a.es.drop kk).foldl (iStep evs) (fl', gb)))
        case atStart => exact ⟨0, fl, false, rfl, rfl, Nat.zero_le _, rfl, hfl, hB, hrow, rfl⟩
        case round =>
          clear hrow hB
          obtain ⟨kk, fl', gb, rfl, rfl, hkk, hgk', hfl', hB, hrow, hfold⟩ := hrel
          have Hgk' := Lib.hid hgk'
          clear hgk'
          have hsz := hB.size
          by_cases hlt : kk < a.es.length
          · obtain ⟨b, off, rfl, d0, d1, d2⟩ := hre.at_edge kk hlt
            have hx := Hes.out a.es[kk] (List.getElem_mem hlt)
            have Hdrop : Hid ((a.es.drop kk).foldl (iStep evs) (fl', gb) = (a.es.drop (kk + 1)).foldl (iStep evs) (iStep evs (fl', gb) a.es[kk])) := by
              show _ = _
              rw [List.drop_eq_getElem_cons hlt, List.foldl_cons]
            have hbz := World.block_lt_of_cell? _ _ d0
            dsimp only at hbz
            have hwz := hW1.size
            replace d0 := keep hB (keep0 hW1 d0) (Nat.lt_of_lt_of_le hbz hwz)
            replace d1 := keep hB (keep0 hW1 d1) (Nat.lt_of_lt_of_le hbz hwz)
            replace d2 := keep hB (keep0 hW1 d2) (Nat.lt_of_lt_of_le hbz hwz)
            generalize a.es[kk] = x at *
            obtain ⟨hx0, hx1, hx2, hx3⟩ := hx
            obtain ⟨f0, e0, t0⟩ := x
            dsimp only at *
            obtain ⟨xf, rfl⟩ := Int.eq_ofNat_of_zero_le hx0
            obtain ⟨xt, rfl⟩ := Int.eq_ofNat_of_zero_le hx2
            have hxf : xf < n := by omega
            have hxt : xt < n := by omega
            obtain ⟨gB, gO, gC, e1, hgl, hgb, _⟩ := hrow.addr (by omega)
            cases e1
            have Hget : Hid (∀ j, j < n → wr.cell? ⟨gB, gO + j, none⟩ = some (.bool (fl'.getD j false))) := by
              intro j hj
              rw [hrow.cellAt j (by omega), List.getElem?_map, List.getElem?_eq_getElem (by rw [hfl'.out]; exact hj), List.getD_eq_getElem?_getD, List.getElem?_eq_getElem (by rw [hfl'.out]; exact hj)]
              rfl
            have g1 := Hget.out xf hxf
            have g2 := Hget.out xt hxt
            have Hstep : Hid (iStep evs (fl', gb) ⟨xf, e0, xt⟩ = if fl'.getD xf false = true ∧ fl'.getD xt false = false ∧ hasB evs e0 = true then (fl'.set xf false, true) else (fl', gb)) := rfl
            have Hset := Lib.hid (hrow.set xf (.bool false))
            have hB2 := belTurn hB Hset.out.2 hsz
            have fz := hrow.frozenAt (gO + xf)
            have HX := Lib.hid (And.intro hx0 (And.intro hx1 (And.intro hx2 hx3)))
            have hBW := hW1.trans (hB.mono hW1.size)
            have hrel0 : Hid (∀ acc, iStep evs (fl', gb) ⟨xf, e0, xt⟩ = acc → a.es.foldl (iStep evs) (fl, false) = (a.es.drop (kk + 1)).foldl (iStep evs) acc) := by
              intro acc h
              rw [hfold.out, Hdrop.out, h]
            clear hx0 hx1 hx2 hx3 Hdrop hfold
            cases q1 : fl'.getD xf false with
            | false =>
              have Q : Hid (iStep evs (fl', gb) ⟨xf, e0, xt⟩ = (fl', gb)) := by
                show _ = _
                rw [Hstep.out, if_neg (by rw [q1]; simp)]
              rw [q1] at g1
              clear q1 Hstep Hget
              go_wp2
              go_roundg (a.es.length - (kk + 1))
              case measure => rw [Hgk'.out]; omega
              case rel => exact ⟨kk + 1, fl', gb, by go_num, rfl, by omega, rfl, hfl', (by (repeat (first | with_reducible exact Below.refl _ _ | with_reducible exact hB | (with_reducible refine belCall ?_ hB (by first | omega | (simp; done) | (simp; omega) | (simp at *; omega))) | (with_reducible refine Below.alloc ?_ (by first | omega | (simp; done) | (simp; omega) | (simp at *; omega)) _) | (with_reducible refine Below.drew ?_) | (with_reducible refine Below.setCell ?_ (by first | omega | (simp; done) | (simp; omega) | (simp at *; omega)) _)))), hrow.below (bel_alloc _ _), hrel0.out _ Q.out⟩
            | true =>
              cases q2 : fl'.getD xt false with
              | true =>
                have Q : Hid (iStep evs (fl', gb) ⟨xf, e0, xt⟩ = (fl', gb)) := by
                  show _ = _
                  rw [Hstep.out, if_neg (by rw [q2]; simp)]
                rw [q1] at g1
                rw [q2] at g2
                clear q1 q2 Hstep Hget
                go_wp2
                go_roundg (a.es.length - (kk + 1))
                case measure => rw [Hgk'.out]; omega
                case rel => exact ⟨kk + 1, fl', gb, by go_num, rfl, by omega, rfl, hfl', (by (repeat (first | with_reducible exact Below.refl _ _ | with_reducible exact hB | (with_reducible refine belCall ?_ hB (by first | omega | (simp; done) | (simp; omega) | (simp at *; omega))) | (with_reducible refine Below.alloc ?_ (by first | omega | (simp; done) | (simp; omega) | (simp at *; omega)) _) | (with_reducible refine Below.drew ?_) | (with_reducible refine Below.setCell ?_ (by first | omega | (simp; done) | (simp; omega) | (simp at *; omega)) _)))), hrow.below (bel_alloc _ _), hrel0.out _ Q.out⟩
              | false =>
                cases q3 : hasB evs e0 with
                | false =>
                  have Q : Hid (iStep evs (fl', gb) ⟨xf, e0, xt⟩ = (fl', gb)) := by
                    show _ = _
                    rw [Hstep.out, if_neg (by rw [q3]; simp)]
                  have Q3 := Lib.hid q3
                  rw [q1] at g1
                  rw [q2] at g2
                  clear q1 q2 q3 Hstep Hget
                  go_wp2_with (go_at_call 57; ((with_reducible refine (contains_any vv evs e0 _ (Hr2.out.mono (by (repeat (first | with_reducible exact Below.refl _ _ | with_reducible exact hBW | (with_reducible refine belCall ?_ hBW (by first | omega | (simp; done) | (simp; omega) | (simp at *; omega))) | (with_reducible refine Below.alloc ?_ (by first | omega | (simp; done) | (simp; omega) | (simp at *; omega)) _) | (with_reducible refine Below.drew ?_) | (with_reducible refine Below.setCell ?_ (by first | omega | (simp; done) | (simp; omega) | (simp at *; omega)) _))))) hl2).mono ?_); rintro e w1 ⟨rfl, rfl⟩; rw [Q3.out]))
                  go_roundg (a.es.length - (kk + 1))
                  case measure => rw [Hgk'.out]; omega
                  case rel => exact ⟨kk + 1, fl', gb, by go_num, rfl, by omega, rfl, hfl', (by (repeat (first | with_reducible exact Below.refl _ _ | with_reducible exact hB | (with_reducible refine belCall ?_ hB (by first | omega | (simp; done) | (simp; omega) | (simp at *; omega))) | (with_reducible refine Below.alloc ?_ (by first | omega | (simp; done) | (simp; omega) | (simp at *; omega)) _) | (with_reducible refine Below.drew ?_) | (with_reducible refine Below.setCell ?_ (by first | omega | (simp; done) | (simp; omega) | (simp at *; omega)) _)))), hrow.below (bel_alloc _ _), hrel0.out _ Q.out⟩
                | true =>
                  have Q : Hid (iStep evs (fl', gb) ⟨xf, e0, xt⟩ = (fl'.set xf false, true)) := by
                    show _ = _
                    rw [Hstep.out, if_pos ⟨q1, q2, q3⟩]
                  have Q3 := Lib.hid q3
                  rw [q1] at g1
                  rw [q2] at g2
                  clear q1 q2 q3 Hstep Hget
                  go_wp2_with (go_at_call 57; ((with_reducible refine (contains_any vv evs e0 _ (Hr2.out.mono (by (repeat (first | with_reducible exact Below.refl _ _ | with_reducible exact hBW | (with_reducible refine belCall ?_ hBW (by first | omega | (simp; done) | (simp; omega) | (simp at *; omega))) | (with_reducible refine Below.alloc ?_ (by first | omega | (simp; done) | (simp; omega) | (simp at *; omega)) _) | (with_reducible refine Below.drew ?_) | (with_reducible refine Below.setCell ?_ (by first | omega | (simp; done) | (simp; omega) | (simp at *; omega)) _))))) hl2).mono ?_); rintro e w1 ⟨rfl, rfl⟩; rw [Q3.out]))
                  go_roundg (a.es.length - (kk + 1))
                  case measure => rw [Hgk'.out]; omega
                  case rel => exact ⟨kk + 1, fl'.set xf false, true, by go_num, rfl, by omega, rfl, by show _ = _; rw [List.length_set]; exact hfl'.out, (by (repeat (first | with_reducible exact Below.refl _ _ | with_reducible exact hB2 | (with_reducible refine belCall ?_ hB2 (by first | omega | (simp; done) | (simp; omega) | (simp at *; omega))) | (with_reducible refine Below.alloc ?_ (by first | omega | (simp; done) | (simp; omega) | (simp at *; omega)) _) | (with_reducible refine Below.drew ?_) | (with_reducible refine Below.setCell ?_ (by first | omega | (simp; done) | (simp; omega) | (simp at *; omega)) _)))), by rw [show bools (fl'.set xf false) = (bools fl').set xf (.bool false) by simp [bools, List.map_set]]; exact Hset.out.1.below (bel_alloc _ _), hrel0.out _ Q.out⟩
          · have hkl : kk = a.es.length := by omega
            have hend : Hid (a.es.foldl (iStep evs) (fl, false) = (fl', gb)) := by
              show _ = _
              rw [hfold.out, hkl, List.drop_length]; rfl
            have Hcnt := Lib.hid (iFold_count evs a.es (fl, false))
            clear hfold hkl
            go_wp2_with fail
            go_roundg (if gb = true then fl'.count true + 1 else 0)
            case measure =>
              rw [Hgk.out]
              cases gb with
              | false => simp
              | true =>
                have h5 := Hcnt.out.2
                rw [hend.out] at h5
                have := h5 rfl
                simp at this
                simp; omega
            case rel =>
              refine ⟨fl', gb, if gb = true then f - 1 else fl'.count true, rfl, hfl', hB, hrow, ?_, ?_, rfl⟩
              · show _ = _
                rw [Hit.out, iLoop, hend.out]
                cases gb with
                | false => rfl
                | true =>
                  have h5 := Hcnt.out.2
                  rw [hend.out] at h5
                  have := h5 rfl
                  simp at this
                  rw [if_pos rfl, if_pos rfl, if_pos rfl, show f - 1 + 1 = f by omega]
              · have h5 := Hcnt.out
                rw [hend.out] at h5
                cases gb with
                | false => simp
                | true =>
                  have := h5.2 rfl
                  simp at this
                  rw [if_pos rfl]
                  omega
  · have H1 := Lib.hid h1
    have h1' : (err2 a.err (err2 (setErr a.n none set) (setErr 32 none evs)) != 0) = true := by simpa using h1
    clear h1
    go_wp2_with fail
    go_ret2
    refine ⟨_, rfl, ?_, hW1⟩
    rw [ListPost, if_neg H1.out]
    rfl
end Go.Proofs.Ythchkddhibhenaa
