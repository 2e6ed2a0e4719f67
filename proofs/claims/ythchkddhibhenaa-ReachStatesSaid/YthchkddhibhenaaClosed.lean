/- The contracts of Closed, and of the reference's Closed. -/
import Derived.Test.YthchkddhibhenaaInterior
namespace Go.Proofs.Ythchkddhibhenaa
open Go.RowKit

/-- Whether no edge by some events leads out of a set. -/
def closedL (es : List Ed) (set evs : List Int) : Bool := es.all fun x => !(hasB set x.f && !hasB set x.t && hasB evs x.e)
/-- What Closed returns. -/
def CPost (e : Int) (b : Bool) (u : Value) (_ : World) : Prop := u = if e = 0 then .tuple #[.bool b, .int .i64 0] else .tuple #[.bool false, .int .i64 e]

set_option maxRecDepth 100000 in
set_option maxHeartbeats 1600000 in
theorem closed_any (v vs vv : Value) (a : Aut) (set evs : List Int) (w : World) (ha : RdA w v a) (hs : a.small) (h1 : RdI w vs set) (h2 : RdI w vv evs) (hl1 : set.length ≤ 1000000) (hl2 : evs.length ≤ 1000000) :
    Calls Try.prog 22 #[v, vs, vv] w (Ret w (CPost (err2 a.err (err2 (setErr a.n none set) (setErr 32 none evs))) (closedL a.es set evs))) := by
  have ha0 := ha
  obtain ⟨va, vm, ve, rfl, ⟨aa, ca, rfl, hra⟩, ⟨am, cm, rfl, hrm⟩, ⟨ae, ce, rfl, hre⟩⟩ := ha
  have Ha0 := Lib.hid ha0
  have Hs := Lib.hid hs
  have Hr1 := Lib.hid h1
  have Hr2 := Lib.hid h2
  clear ha0 hs h1 h2
  go_enter Try.func22, Try.ntmps22
  go_wp2_with fail
  refine (closure_any _ vs vv a set evs _ (Ha0.out.mono (by (repeat (first | with_reducible exact Below.refl _ _ | with_reducible exact Ha0 | (with_reducible refine belCall ?_ Ha0 (by first | omega | (simp; done) | (simp; omega) | (simp at *; omega))) | (with_reducible refine Below.alloc ?_ (by first | omega | (simp; done) | (simp; omega) | (simp at *; omega)) _) | (with_reducible refine Below.drew ?_) | (with_reducible refine Below.setCell ?_ (by first | omega | (simp; done) | (simp; omega) | (simp at *; omega)) _))))) Hs.out (Hr1.out.mono (by (repeat (first | with_reducible exact Below.refl _ _ | with_reducible exact Ha0 | (with_reducible refine belCall ?_ Ha0 (by first | omega | (simp; done) | (simp; omega) | (simp at *; omega))) | (with_reducible refine Below.alloc ?_ (by first | omega | (simp; done) | (simp; omega) | (simp at *; omega)) _) | (with_reducible refine Below.drew ?_) | (with_reducible refine Below.setCell ?_ (by first | omega | (simp; done) | (simp; omega) | (simp at *; omega)) _))))) (Hr2.out.mono (by (repeat (first | with_reducible exact Below.refl _ _ | with_reducible exact Ha0 | (with_reducible refine belCall ?_ Ha0 (by first | omega | (simp; done) | (simp; omega) | (simp at *; omega))) | (with_reducible refine Below.alloc ?_ (by first | omega | (simp; done) | (simp; omega) | (simp at *; omega)) _) | (with_reducible refine Below.drew ?_) | (with_reducible refine Below.setCell ?_ (by first | omega | (simp; done) | (simp; omega) | (simp at *; omega)) _))))) hl1 hl2).mono ?_
  rintro e w1 ⟨_, rfl, rfl, hb1⟩
  have hW1 : Below w.heap.size w w1 := ((Below.refl _ _).alloc (Nat.le_refl _) _).trans (hb1.mono (by simp))
  have hbx := box4 hb1
  clear hb1
  by_cases h1 : err2 a.err (err2 (setErr a.n none set) (setErr 32 none evs)) = 0
  · have herr : a.err = 0 ∧ setErr a.n none set = 0 ∧ setErr 32 none evs = 0 := by
      unfold err2 at h1
      split at h1
      · rename_i g1
        split at h1
        · rename_i g2; exact ⟨g1, g2, h1⟩
        · rename_i g2; exact absurd h1 g2
      · rename_i g1; exact absurd h1 g1
    have hok := Aut.ok_of herr.1
    have hin := setErr_zero herr.2.1
    have H1 := Lib.hid h1
    rw [h1]
    clear h1 herr
    have hn0 := hok.n0
    have hn1 := hok.n1
    have Hes := Lib.hid hok.es
    have Hin := Lib.hid hin
    have hae := Hs.out.es
    clear hok hin
    generalize hn : a.n = an at *
    obtain ⟨n, rfl⟩ := Int.eq_ofNat_of_zero_le hn0
    have hn' : n ≤ 4096 := by omega
    have Hn := Lib.hid hn
    clear hn hn0 hn1
    obtain ⟨x0, x1, x2, x3, x4⟩ := hbx
    have Hbx := Lib.hid (And.intro x0 (And.intro x1 (And.intro x2 (And.intro x3 x4))))
    go_wp2_with fail
    refine (flags_any _ _ _ vs n set _ (Hr1.out.mono hW1) hl1 (by omega) Hin.out).mono ?_
    rintro e w2 ⟨_, rfl, hown, hb2⟩
    have hrow : Row w2 w1.heap.size (fun _ => 1) 1 4 1 _ n (bools (flagL n set)) := Row.of_own hown (Nat.le_refl _) (fun _ _ _ => rfl)
    have hfl := flagL_length n set
    have hlen : a.es.length ≤ 1000000 := hae
    clear hown
    obtain ⟨af, cf, rfl⟩ := hrow.val
    have c3 := keep0 hb2 x3
    go_wp2_with fail
    clear x0 x1 x2 x3
    go_loopw [25] (fun i wr => ∃ kk : Nat, i = .int .i64 kk ∧ kk ≤ a.es.length ∧ Below w2.heap.size w2 wr ∧ Hid (closedL a.es set evs = closedL (a.es.drop kk) set evs)) (fun i _ => a.es.length - (intOf i).toNat)
    case atStart => exact ⟨0, rfl, Nat.zero_le _, Below.refl _ _, rfl⟩
    case round =>
      obtain ⟨kk, rfl, hkk, hB, hfold⟩ := hrel
      have hsz := hB.size
      have hbz2 := hb2.size
      have hrow' : Row wr w1.heap.size (fun _ => 1) 1 4 1 (.slice af n cf) n (bools (flagL n set)) := hrow.below hB
      by_cases hlt : kk < a.es.length
      · obtain ⟨b, off, rfl, d0, d1, d2⟩ := hre.at_edge kk hlt
        have hx := Hes.out a.es[kk] (List.getElem_mem hlt)
        have Hdrop : Hid (closedL (a.es.drop kk) set evs = (!(hasB set a.es[kk].f && !hasB set a.es[kk].t && hasB evs a.es[kk].e) && closedL (a.es.drop (kk + 1)) set evs)) := by
          show _ = _
          rw [List.drop_eq_getElem_cons hlt]; rfl
        have hbz := World.block_lt_of_cell? _ _ d0
        dsimp only at hbz
        have hwz := hW1.size
        have hW2 := hW1.trans (hb2.mono hW1.size)
        have hW2r := hW2.trans (hB.mono hW2.size)
        replace d0 := keep0 hW2r d0
        replace d1 := keep0 hW2r d1
        replace d2 := keep0 hW2r d2
        generalize a.es[kk] = x at *
        obtain ⟨hx0, hx1, hx2, hx3⟩ := hx
        obtain ⟨f0, e0, t0⟩ := x
        dsimp only at *
        obtain ⟨xf, rfl⟩ := Int.eq_ofNat_of_zero_le hx0
        obtain ⟨xt, rfl⟩ := Int.eq_ofNat_of_zero_le hx2
        have hxf : xf < n := by omega
        have hxt : xt < n := by omega
        obtain ⟨gB, gO, gC, e1, hgl, hgb, _⟩ := hrow'.addr (by omega)
        cases e1
        have Hget : Hid (∀ j : Nat, j < n → wr.cell? ⟨gB, gO + j, none⟩ = some (.bool (hasB set j))) := by
          intro j hj
          rw [hrow'.cellAt j (by omega), List.getElem?_map, List.getElem?_eq_getElem (by rw [flagL_length]; exact hj)]
          simp [flagL]
        have g1 := Hget.out xf hxf
        have g2 := Hget.out xt hxt
        clear hx0 hx1 hx2 hx3 Hget hrow hrow'
        cases q1 : hasB set xf with
        | false =>
          have Q : Hid (closedL a.es set evs = closedL (a.es.drop (kk + 1)) set evs) := by
            show _ = _
            rw [hfold.out, Hdrop.out, q1]; simp
          rw [q1] at g1
          clear q1 Hdrop hfold
          go_wp2
          go_roundw
          case rel => exact ⟨kk + 1, by go_num, by omega, (by (repeat (first | with_reducible exact Below.refl _ _ | with_reducible exact hB | (with_reducible refine belCall ?_ hB (by first | omega | (simp; done) | (simp; omega) | (simp at *; omega))) | (with_reducible refine Below.alloc ?_ (by first | omega | (simp; done) | (simp; omega) | (simp at *; omega)) _) | (with_reducible refine Below.drew ?_) | (with_reducible refine Below.setCell ?_ (by first | omega | (simp; done) | (simp; omega) | (simp at *; omega)) _)))), Q.out⟩
          case measure => simp [intOf]; omega
        | true =>
          cases q2 : hasB set xt with
          | true =>
            have Q : Hid (closedL a.es set evs = closedL (a.es.drop (kk + 1)) set evs) := by
              show _ = _
              rw [hfold.out, Hdrop.out, q1, q2]; simp
            rw [q1] at g1
            rw [q2] at g2
            clear q1 q2 Hdrop hfold
            go_wp2
            go_roundw
            case rel => exact ⟨kk + 1, by go_num, by omega, (by (repeat (first | with_reducible exact Below.refl _ _ | with_reducible exact hB | (with_reducible refine belCall ?_ hB (by first | omega | (simp; done) | (simp; omega) | (simp at *; omega))) | (with_reducible refine Below.alloc ?_ (by first | omega | (simp; done) | (simp; omega) | (simp at *; omega)) _) | (with_reducible refine Below.drew ?_) | (with_reducible refine Below.setCell ?_ (by first | omega | (simp; done) | (simp; omega) | (simp at *; omega)) _)))), Q.out⟩
            case measure => simp [intOf]; omega
          | false =>
            cases q3 : hasB evs e0 with
            | false =>
              have Q : Hid (closedL a.es set evs = closedL (a.es.drop (kk + 1)) set evs) := by
                show _ = _
                rw [hfold.out, Hdrop.out, q3]; simp
              have Q3 := Lib.hid q3
              rw [q1] at g1
              rw [q2] at g2
              clear q1 q2 q3 Hdrop hfold
              go_wp2_with (go_at_call 57; ((with_reducible refine (contains_any vv evs e0 _ (Hr2.out.mono (by (repeat (first | with_reducible exact Below.refl _ _ | with_reducible exact hW2r | (with_reducible refine belCall ?_ hW2r (by first | omega | (simp; done) | (simp; omega) | (simp at *; omega))) | (with_reducible refine Below.alloc ?_ (by first | omega | (simp; done) | (simp; omega) | (simp at *; omega)) _) | (with_reducible refine Below.drew ?_) | (with_reducible refine Below.setCell ?_ (by first | omega | (simp; done) | (simp; omega) | (simp at *; omega)) _))))) hl2).mono ?_); rintro e w1 ⟨rfl, rfl⟩; rw [Q3.out]))
              go_roundw
              case rel => exact ⟨kk + 1, by go_num, by omega, (by (repeat (first | with_reducible exact Below.refl _ _ | with_reducible exact hB | (with_reducible refine belCall ?_ hB (by first | omega | (simp; done) | (simp; omega) | (simp at *; omega))) | (with_reducible refine Below.alloc ?_ (by first | omega | (simp; done) | (simp; omega) | (simp at *; omega)) _) | (with_reducible refine Below.drew ?_) | (with_reducible refine Below.setCell ?_ (by first | omega | (simp; done) | (simp; omega) | (simp at *; omega)) _)))), Q.out⟩
              case measure => simp [intOf]; omega
            | true =>
              have Q : Hid (closedL a.es set evs = false) := by
                show _ = _
                rw [hfold.out, Hdrop.out, q1, q2, q3]; simp
              have Q3 := Lib.hid q3
              rw [q1] at g1
              rw [q2] at g2
              clear q1 q2 q3 Hdrop hfold
              go_wp2_with (go_at_call 57; ((with_reducible refine (contains_any vv evs e0 _ (Hr2.out.mono (by (repeat (first | with_reducible exact Below.refl _ _ | with_reducible exact hW2r | (with_reducible refine belCall ?_ hW2r (by first | omega | (simp; done) | (simp; omega) | (simp at *; omega))) | (with_reducible refine Below.alloc ?_ (by first | omega | (simp; done) | (simp; omega) | (simp at *; omega)) _) | (with_reducible refine Below.drew ?_) | (with_reducible refine Below.setCell ?_ (by first | omega | (simp; done) | (simp; omega) | (simp at *; omega)) _))))) hl2).mono ?_); rintro e w1 ⟨rfl, rfl⟩; rw [Q3.out]))
              go_ret2
              refine ⟨_, rfl, ?_, (by (repeat (first | with_reducible exact Below.refl _ _ | with_reducible exact hW2r | (with_reducible refine belCall ?_ hW2r (by first | omega | (simp; done) | (simp; omega) | (simp at *; omega))) | (with_reducible refine Below.alloc ?_ (by first | omega | (simp; done) | (simp; omega) | (simp at *; omega)) _) | (with_reducible refine Below.drew ?_) | (with_reducible refine Below.setCell ?_ (by first | omega | (simp; done) | (simp; omega) | (simp at *; omega)) _))))⟩
              rw [CPost, if_pos H1.out, Q.out]
              rfl
      · have Q : Hid (closedL a.es set evs = true) := by
          show _ = _
          rw [hfold.out, List.drop_of_length_le (by omega)]; rfl
        have hW2 := hW1.trans (hb2.mono hW1.size)
        have hW2r := hW2.trans (hB.mono hW2.size)
        clear hfold
        go_wp2
        go_ret2
        refine ⟨_, rfl, ?_, hW2r⟩
        rw [CPost, if_pos H1.out, Q.out]
        rfl
  · have H1 := Lib.hid h1
    have h1' : (err2 a.err (err2 (setErr a.n none set) (setErr 32 none evs)) != 0) = true := by simpa using h1
    clear h1
    go_wp2_with fail
    go_ret2
    refine ⟨_, rfl, ?_, hW1⟩
    rw [CPost, if_neg H1.out]
    rfl

set_option maxRecDepth 100000 in
set_option maxHeartbeats 1600000 in
theorem rclosed_any (v vs vv : Value) (a : Aut) (set evs : List Int) (w : World) (ha : RdA w v a) (hs : a.small) (h1 : RdI w vs set) (h2 : RdI w vv evs) (hl1 : set.length ≤ 1000000) (hl2 : evs.length ≤ 1000000) :
    Calls Try.prog 24 #[v, vs, vv] w (Ret w fun u _ => u = .bool (closedL a.es set evs)) := by
  obtain ⟨va, vm, ve, rfl, ⟨aa, ca, rfl, hra⟩, ⟨am, cm, rfl, hrm⟩, ⟨ae, ce, rfl, hre⟩⟩ := ha
  have hae := hs.es
  obtain ⟨al, n, ms, es⟩ := a
  dsimp only at *
  have H1 := Lib.hid h1
  have H2 := Lib.hid h2
  clear hs hra hrm h1 h2
  go_enter Try.func24, Try.ntmps24
  go_wp2_with fail
  go_loopw [7] (fun i wr => ∃ kk : Nat, i = .int .i64 kk ∧ kk ≤ es.length ∧ Below (w.heap.size + 1) (w.alloc (.cells #[.slice aa al.length ca, .int .i64 n, .slice am ms.length cm, .slice ae es.length ce] 31)) wr ∧ Hid (closedL es set evs = closedL (es.drop kk) set evs)) (fun i _ => es.length - (intOf i).toNat)
  case atStart => exact ⟨0, rfl, Nat.zero_le _, Below.refl _ _, rfl⟩
  case round =>
    obtain ⟨kk, rfl, hkk, hB, hfold⟩ := hrel
    have hB0 : Below w.heap.size w wr := ((Below.refl _ _).alloc (Nat.le_refl _) _).trans (hB.mono (Nat.le_succ _))
    have hsz := hB.size
    simp only [World.size_alloc] at hsz
    have c3 : wr.cell? ⟨w.heap.size, 3, none⟩ = some (.slice ae es.length ce) := (hB.cell (p := ⟨w.heap.size, 3, none⟩) (by simp)).trans (by simp [go_sem])
    by_cases hlt : kk < es.length
    · obtain ⟨b, off, rfl, d0, d1, d2⟩ := hre.at_edge kk hlt
      have Hdrop : Hid (closedL (es.drop kk) set evs = (!(hasB set es[kk].f && !hasB set es[kk].t && hasB evs es[kk].e) && closedL (es.drop (kk + 1)) set evs)) := by
        show _ = _
        rw [List.drop_eq_getElem_cons hlt]; rfl
      replace d0 := keep0 hB0 d0
      replace d1 := keep0 hB0 d1
      replace d2 := keep0 hB0 d2
      have hbz := World.block_lt_of_cell? _ _ d0
      dsimp only at hbz
      generalize es[kk] = x at *
      obtain ⟨xf, xe, xt⟩ := x
      dsimp only at *
      cases q1 : hasB set xf with
      | false =>
        have Q : Hid (closedL es set evs = closedL (es.drop (kk + 1)) set evs) := by
          show _ = _
          rw [hfold.out, Hdrop.out, q1]; simp
        have Q1 := Lib.hid q1
        clear q1 Hdrop hfold
        go_wp2_with fail
        refine (has_any _ set xf _ (H1.out.mono (by (repeat (first | with_reducible exact Below.refl _ _ | with_reducible exact hB0 | (with_reducible refine belCall ?_ hB0 (by first | omega | (simp; done) | (simp; omega) | (simp at *; omega))) | (with_reducible refine Below.alloc ?_ (by first | omega | (simp; done) | (simp; omega) | (simp at *; omega)) _) | (with_reducible refine Below.drew ?_) | (with_reducible refine Below.setCell ?_ (by first | omega | (simp; done) | (simp; omega) | (simp at *; omega)) _))))) hl1).mono ?_
        rintro e w1 ⟨rfl, rfl⟩
        rw [Q1.out]
        go_wp2_with fail
        go_roundw
        case rel => exact ⟨kk + 1, by go_num, by omega, (by (repeat (first | with_reducible exact Below.refl _ _ | with_reducible exact hB | (with_reducible refine belCall ?_ hB (by first | omega | (simp; done) | (simp; omega) | (simp at *; omega))) | (with_reducible refine Below.alloc ?_ (by first | omega | (simp; done) | (simp; omega) | (simp at *; omega)) _) | (with_reducible refine Below.drew ?_) | (with_reducible refine Below.setCell ?_ (by first | omega | (simp; done) | (simp; omega) | (simp at *; omega)) _)))), Q.out⟩
        case measure => simp [intOf]; omega
      | true =>
        have Q1 := Lib.hid q1
        cases q3 : hasB evs xe with
        | false =>
          have Q : Hid (closedL es set evs = closedL (es.drop (kk + 1)) set evs) := by
            show _ = _
            rw [hfold.out, Hdrop.out, q3]; simp
          have Q3 := Lib.hid q3
          clear q1 q3 Hdrop hfold
          go_wp2_with fail
          refine (has_any _ set xf _ (H1.out.mono (by (repeat (first | with_reducible exact Below.refl _ _ | with_reducible exact hB0 | (with_reducible refine belCall ?_ hB0 (by first | omega | (simp; done) | (simp; omega) | (simp at *; omega))) | (with_reducible refine Below.alloc ?_ (by first | omega | (simp; done) | (simp; omega) | (simp at *; omega)) _) | (with_reducible refine Below.drew ?_) | (with_reducible refine Below.setCell ?_ (by first | omega | (simp; done) | (simp; omega) | (simp at *; omega)) _))))) hl1).mono ?_
          rintro e w1 ⟨rfl, rfl⟩
          rw [Q1.out]
          go_wp2_with fail
          refine (has_any _ evs xe _ (H2.out.mono (by (repeat (first | with_reducible exact Below.refl _ _ | with_reducible exact hB0 | (with_reducible refine belCall ?_ hB0 (by first | omega | (simp; done) | (simp; omega) | (simp at *; omega))) | (with_reducible refine Below.alloc ?_ (by first | omega | (simp; done) | (simp; omega) | (simp at *; omega)) _) | (with_reducible refine Below.drew ?_) | (with_reducible refine Below.setCell ?_ (by first | omega | (simp; done) | (simp; omega) | (simp at *; omega)) _))))) hl2).mono ?_
          rintro e w1 ⟨rfl, rfl⟩
          rw [Q3.out]
          go_wp2_with fail
          go_roundw
          case rel => exact ⟨kk + 1, by go_num, by omega, (by (repeat (first | with_reducible exact Below.refl _ _ | with_reducible exact hB | (with_reducible refine belCall ?_ hB (by first | omega | (simp; done) | (simp; omega) | (simp at *; omega))) | (with_reducible refine Below.alloc ?_ (by first | omega | (simp; done) | (simp; omega) | (simp at *; omega)) _) | (with_reducible refine Below.drew ?_) | (with_reducible refine Below.setCell ?_ (by first | omega | (simp; done) | (simp; omega) | (simp at *; omega)) _)))), Q.out⟩
          case measure => simp [intOf]; omega
        | true =>
          have Q3 := Lib.hid q3
          cases q2 : hasB set xt with
          | true =>
            have Q : Hid (closedL es set evs = closedL (es.drop (kk + 1)) set evs) := by
              show _ = _
              rw [hfold.out, Hdrop.out, q2]; simp
            have Q2 := Lib.hid q2
            clear q1 q2 q3 Hdrop hfold
            go_wp2_with fail
            refine (has_any _ set xf _ (H1.out.mono (by (repeat (first | with_reducible exact Below.refl _ _ | with_reducible exact hB0 | (with_reducible refine belCall ?_ hB0 (by first | omega | (simp; done) | (simp; omega) | (simp at *; omega))) | (with_reducible refine Below.alloc ?_ (by first | omega | (simp; done) | (simp; omega) | (simp at *; omega)) _) | (with_reducible refine Below.drew ?_) | (with_reducible refine Below.setCell ?_ (by first | omega | (simp; done) | (simp; omega) | (simp at *; omega)) _))))) hl1).mono ?_
            rintro e w1 ⟨rfl, rfl⟩
            rw [Q1.out]
            go_wp2_with fail
            refine (has_any _ evs xe _ (H2.out.mono (by (repeat (first | with_reducible exact Below.refl _ _ | with_reducible exact hB0 | (with_reducible refine belCall ?_ hB0 (by first | omega | (simp; done) | (simp; omega) | (simp at *; omega))) | (with_reducible refine Below.alloc ?_ (by first | omega | (simp; done) | (simp; omega) | (simp at *; omega)) _) | (with_reducible refine Below.drew ?_) | (with_reducible refine Below.setCell ?_ (by first | omega | (simp; done) | (simp; omega) | (simp at *; omega)) _))))) hl2).mono ?_
            rintro e w1 ⟨rfl, rfl⟩
            rw [Q3.out]
            go_wp2_with fail
            refine (has_any _ set xt _ (H1.out.mono (by (repeat (first | with_reducible exact Below.refl _ _ | with_reducible exact hB0 | (with_reducible refine belCall ?_ hB0 (by first | omega | (simp; done) | (simp; omega) | (simp at *; omega))) | (with_reducible refine Below.alloc ?_ (by first | omega | (simp; done) | (simp; omega) | (simp at *; omega)) _) | (with_reducible refine Below.drew ?_) | (with_reducible refine Below.setCell ?_ (by first | omega | (simp; done) | (simp; omega) | (simp at *; omega)) _))))) hl1).mono ?_
            rintro e w1 ⟨rfl, rfl⟩
            rw [Q2.out]
            go_wp2_with fail
            go_roundw
            case rel => exact ⟨kk + 1, by go_num, by omega, (by (repeat (first | with_reducible exact Below.refl _ _ | with_reducible exact hB | (with_reducible refine belCall ?_ hB (by first | omega | (simp; done) | (simp; omega) | (simp at *; omega))) | (with_reducible refine Below.alloc ?_ (by first | omega | (simp; done) | (simp; omega) | (simp at *; omega)) _) | (with_reducible refine Below.drew ?_) | (with_reducible refine Below.setCell ?_ (by first | omega | (simp; done) | (simp; omega) | (simp at *; omega)) _)))), Q.out⟩
            case measure => simp [intOf]; omega
          | false =>
            have Q : Hid (closedL es set evs = false) := by
              show _ = _
              rw [hfold.out, Hdrop.out, q1, q2, q3]; simp
            have Q2 := Lib.hid q2
            clear q1 q2 q3 Hdrop hfold
            go_wp2_with fail
            refine (has_any _ set xf _ (H1.out.mono (by (repeat (first | with_reducible exact Below.refl _ _ | with_reducible exact hB0 | (with_reducible refine belCall ?_ hB0 (by first | omega | (simp; done) | (simp; omega) | (simp at *; omega))) | (with_reducible refine Below.alloc ?_ (by first | omega | (simp; done) | (simp; omega) | (simp at *; omega)) _) | (with_reducible refine Below.drew ?_) | (with_reducible refine Below.setCell ?_ (by first | omega | (simp; done) | (simp; omega) | (simp at *; omega)) _))))) hl1).mono ?_
            rintro e w1 ⟨rfl, rfl⟩
            rw [Q1.out]
            go_wp2_with fail
            refine (has_any _ evs xe _ (H2.out.mono (by (repeat (first | with_reducible exact Below.refl _ _ | with_reducible exact hB0 | (with_reducible refine belCall ?_ hB0 (by first | omega | (simp; done) | (simp; omega) | (simp at *; omega))) | (with_reducible refine Below.alloc ?_ (by first | omega | (simp; done) | (simp; omega) | (simp at *; omega)) _) | (with_reducible refine Below.drew ?_) | (with_reducible refine Below.setCell ?_ (by first | omega | (simp; done) | (simp; omega) | (simp at *; omega)) _))))) hl2).mono ?_
            rintro e w1 ⟨rfl, rfl⟩
            rw [Q3.out]
            go_wp2_with fail
            refine (has_any _ set xt _ (H1.out.mono (by (repeat (first | with_reducible exact Below.refl _ _ | with_reducible exact hB0 | (with_reducible refine belCall ?_ hB0 (by first | omega | (simp; done) | (simp; omega) | (simp at *; omega))) | (with_reducible refine Below.alloc ?_ (by first | omega | (simp; done) | (simp; omega) | (simp at *; omega)) _) | (with_reducible refine Below.drew ?_) | (with_reducible refine Below.setCell ?_ (by first | omega | (simp; done) | (simp; omega) | (simp at *; omega)) _))))) hl1).mono ?_
            rintro e w1 ⟨rfl, rfl⟩
            rw [Q2.out]
            go_wp2_with fail
            go_ret
            exact ⟨_, rfl, by rw [Q.out]; rfl, (by (repeat (first | with_reducible exact Below.refl _ _ | with_reducible exact hB0 | (with_reducible refine belCall ?_ hB0 (by first | omega | (simp; done) | (simp; omega) | (simp at *; omega))) | (with_reducible refine Below.alloc ?_ (by first | omega | (simp; done) | (simp; omega) | (simp at *; omega)) _) | (with_reducible refine Below.drew ?_) | (with_reducible refine Below.setCell ?_ (by first | omega | (simp; done) | (simp; omega) | (simp at *; omega)) _))))⟩
    · have Q : Hid (closedL es set evs = true) := by
        show _ = _
        rw [hfold.out, List.drop_of_length_le (by omega)]; rfl
      clear hfold
      go_wp2_with fail
      go_ret
      exact ⟨_, rfl, by rw [Q.out]; rfl, hB0⟩
end Go.Proofs.Ythchkddhibhenaa
