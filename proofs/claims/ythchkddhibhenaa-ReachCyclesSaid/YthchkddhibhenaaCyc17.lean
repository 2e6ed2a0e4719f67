/- Texts joined: Closed, IntL, RCorea, FwdL, CyclesLaw. Each is introduced by its own sentence. -/
import Derived.Deep.LoopGhost
import Derived.Test.YthchkddhibhenaaCyc9
import Derived.Test.YthchkddhibhenaaCyc10
import Derived.Test.YthchkddhibhenaaCyc14
import Derived.Test.YthchkddhibhenaaCyc15
import Derived.Test.YthchkddhibhenaaCyc16
/- The contracts of Closed, and of the reference's Closed. -/
namespace Go.Proofs.Ythchkddhibhenaa
open Go.RowKit

/-- Whether no edge by some events leads out of a set. -/
def closedL (es : List Ed) (set evs : List Int) : Bool := es.all fun x => !(hasB set x.f && !hasB set x.t && hasB evs x.e)
/-- What Closed returns. -/
def CPost (e : Int) (b : Bool) (u : Value) (_ : World) : Prop := u = if e = 0 then .tuple #[.bool b, .int .i64 0] else .tuple #[.bool false, .int .i64 e]

set_option maxRecDepth 100000 in
set_option maxHeartbeats 1600000 in
theorem closed_any (v vs vv : Value) (a : Aut) (set evs : List Int) (w : World) (ha : RdA w v a) (hs : a.small) (h1 : RdI w vs set) (h2 : RdI w vv evs) (hl1 : set.length ≤ 1000000) (hl2 : evs.length ≤ 1000000) :
    Calls Try.prog 22 #[v, vs, vv] w (Ret w (CPost (err2 a.err (err2 (setErr a.n none set) (setErr 32 none evs))) (closedL a.es set evs))) := by
  have ha0 := ha
  obtain ⟨va, vm, ve, rfl, ⟨aa, ca, rfl, hra⟩, ⟨am, cm, rfl, hrm⟩, ⟨ae, ce, rfl, hre⟩⟩ := ha
  have Ha0 := Lib.hid ha0
  have Hs := Lib.hid hs
  have Hr1 := Lib.hid h1
  have Hr2 := Lib.hid h2
  clear ha0 hs h1 h2
  go_enter Try.func22, Try.ntmps22
  go_wp2_with fail
  refine (closure_any _ vs vv a set evs _ (Ha0.out.mono (by (repeat (first | with_reducible exact Below.refl _ _ | with_reducible exact Ha0 | (with_reducible refine belCall ?_ Ha0 (by first | omega | (simp; done) | (simp; omega) | (simp at *; omega))) | (with_reducible refine Below.alloc ?_ (by first | omega | (simp; done) | (simp; omega) | (simp at *; omega)) _) | (with_reducible refine Below.drew ?_) | (with_reducible refine Below.setCell ?_ (by first | omega | (simp; done) | (simp; omega) | (simp at *; omega)) _))))) Hs.out (Hr1.out.mono (by (repeat (first | with_reducible exact Below.refl _ _ | with_reducible exact Ha0 | (with_reducible refine belCall ?_ Ha0 (by first | omega | (simp; done) | (simp; omega) | (simp at *; omega))) | (with_reducible refine Below.alloc ?_ (by first | omega | (simp; done) | (simp; omega) | (simp at *; omega)) _) | (with_reducible refine Below.drew ?_) | (with_reducible refine Below.setCell ?_ (by first | omega | (simp; done) | (simp; omega) | (simp at *; omega)) _))))) (Hr2.out.mono (by (repeat (first | with_reducible exact Below.refl _ _ | with_reducible exact Ha0 | (with_reducible refine belCall ?_ Ha0 (by first | omega | (simp; done) | (simp; omega) | (simp at *; omega))) | (with_reducible refine Below.alloc ?_ (by first | omega | (simp; done) | (simp; omega) | (simp at *; omega)) _) | (with_reducible refine Below.drew ?_) | (with_reducible refine Below.setCell ?_ (by first | omega | (simp; done) | (simp; omega) | (simp at *; omega)) _))))) hl1 hl2).mono ?_
  rintro e w1 ⟨_, rfl, rfl, hb1⟩
  have hW1 : Below w.heap.size w w1 := ((Below.refl _ _).alloc (Nat.le_refl _) _).trans (hb1.mono (by simp))
  have hbx := box4 hb1
  clear hb1
  by_cases h1 : err2 a.err (err2 (setErr a.n none set) (setErr 32 none evs)) = 0
  · have herr : a.err = 0 ∧ setErr a.n none set = 0 ∧ setErr 32 none evs = 0 := by
      unfold err2 at h1
      split at h1
      · rename_i g1
        split at h1
        · rename_i g2; exact ⟨g1, g2, h1⟩
        · rename_i g2; exact absurd h1 g2
      · rename_i g1; exact absurd h1 g1
    have hok := Aut.ok_of herr.1
    have hin := setErr_zero herr.2.1
    have H1 := Lib.hid h1
    rw [h1]
    clear h1 herr
    have hn0 := hok.n0
    have hn1 := hok.n1
    have Hes := Lib.hid hok.es
    have Hin := Lib.hid hin
    have hae := Hs.out.es
    clear hok hin
    generalize hn : a.n = an at *
    obtain ⟨n, rfl⟩ := Int.eq_ofNat_of_zero_le hn0
    have hn' : n ≤ 4096 := by omega
    have Hn := Lib.hid hn
    clear hn hn0 hn1
    obtain ⟨x0, x1, x2, x3, x4⟩ := hbx
    have Hbx := Lib.hid (And.intro x0 (And.intro x1 (And.intro x2 (And.intro x3 x4))))
    go_wp2_with fail
    refine (flags_any _ _ _ vs n set _ (Hr1.out.mono hW1) hl1 (by omega) Hin.out).mono ?_
    rintro e w2 ⟨_, rfl, hown, hb2⟩
    have hrow : Row w2 w1.heap.size (fun _ => 1) 1 4 1 _ n (bools (flagL n set)) := Row.of_own hown (Nat.le_refl _) (fun _ _ _ => rfl)
    have hfl := flagL_length n set
    have hlen : a.es.length ≤ 1000000 := hae
    clear hown
    obtain ⟨af, cf, rfl⟩ := hrow.val
    have c3 := keep0 hb2 x3
    go_wp2_with fail
    clear x0 x1 x2 x3
    go_loopw [25] (fun i wr => ∃ kk : Nat, i = .int .i64 kk ∧ kk ≤ a.es.length ∧ Below w2.heap.size w2 wr ∧ Hid (closedL a.es set evs = closedL (a.es.drop kk) set evs)) (fun i _ => a.es.length - (intOf i).toNat)
    case atStart => exact ⟨0, rfl, Nat.zero_le _, Below.refl _ _, rfl⟩
    case round =>
      obtain ⟨kk, rfl, hkk, hB, hfold⟩ := hrel
      have hsz := hB.size
      have hbz2 := hb2.size
      have hrow' : Row wr w1.heap.size (fun _ => 1) 1 4 1 (.slice af n cf) n (bools (flagL n set)) := hrow.below hB
      by_cases hlt : kk < a.es.length
      · obtain ⟨b, off, rfl, d0, d1, d2⟩ := hre.at_edge kk hlt
        have hx := Hes.out a.es[kk] (List.getElem_mem hlt)
        have Hdrop : Hid (closedL (a.es.drop kk) set evs = (!(hasB set a.es[kk].f && !hasB set a.es[kk].t && hasB evs a.es[kk].e) && closedL (a.es.drop (kk + 1)) set evs)) := by
          show _ = _
          rw [List.drop_eq_getElem_cons hlt]; rfl
        have hbz := World.block_lt_of_cell? _ _ d0
        dsimp only at hbz
        have hwz := hW1.size
        have hW2 := hW1.trans (hb2.mono hW1.size)
        have hW2r := hW2.trans (hB.mono hW2.size)
        replace d0 := keep0 hW2r d0
        replace d1 := keep0 hW2r d1
        replace d2 := keep0 hW2r d2
        generalize a.es[kk] = x at *
        obtain ⟨hx0, hx1, hx2, hx3⟩ := hx
        obtain ⟨f0, e0, t0⟩ := x
        dsimp only at *
        obtain ⟨xf, rfl⟩ := Int.eq_ofNat_of_zero_le hx0
        obtain ⟨xt, rfl⟩ := Int.eq_ofNat_of_zero_le hx2
        have hxf : xf < n := by omega
        have hxt : xt < n := by omega
        obtain ⟨gB, gO, gC, e1, hgl, hgb, _⟩ := hrow'.addr (by omega)
        cases e1
        have Hget : Hid (∀ j : Nat, j < n → wr.cell? ⟨gB, gO + j, none⟩ = some (.bool (hasB set j))) := by
          intro j hj
          rw [hrow'.cellAt j (by omega), List.getElem?_map, List.getElem?_eq_getElem (by rw [flagL_length]; exact hj)]
          simp [flagL]
        have g1 := Hget.out xf hxf
        have g2 := Hget.out xt hxt
        clear hx0 hx1 hx2 hx3 Hget hrow hrow'
        cases q1 : hasB set xf with
        | false =>
          have Q : Hid (closedL a.es set evs = closedL (a.es.drop (kk + 1)) set evs) := by
            show _ = _
            rw [hfold.out, Hdrop.out, q1]; simp
          rw [q1] at g1
          clear q1 Hdrop hfold
          go_wp2
          go_roundw
          case rel => exact ⟨kk + 1, by go_num, by omega, (by (repeat (first | with_reducible exact Below.refl _ _ | with_reducible exact hB | (with_reducible refine belCall ?_ hB (by first | omega | (simp; done) | (simp; omega) | (simp at *; omega))) | (with_reducible refine Below.alloc ?_ (by first | omega | (simp; done) | (simp; omega) | (simp at *; omega)) _) | (with_reducible refine Below.drew ?_) | (with_reducible refine Below.setCell ?_ (by first | omega | (simp; done) | (simp; omega) | (simp at *; omega)) _)))), Q.out⟩
          case measure => simp [intOf]; omega
        | true =>
          cases q2 : hasB set xt with
          | true =>
            have Q : Hid (closedL a.es set evs = closedL (a.es.drop (kk + 1)) set evs) := by
              show _ = _
              rw [hfold.out, Hdrop.out, q1, q2]; simp
            rw [q1] at g1
            rw [q2] at g2
            clear q1 q2 Hdrop hfold
            go_wp2
            go_roundw
            case rel => exact ⟨kk + 1, by go_num, by omega, (by (repeat (first | with_reducible exact Below.refl _ _ | with_reducible exact hB | (with_reducible refine belCall ?_ hB (by first | omega | (simp; done) | (simp; omega) | (simp at *; omega))) | (with_reducible refine Below.alloc ?_ (by first | omega | (simp; done) | (simp; omega) | (simp at *; omega)) _) | (with_reducible refine Below.drew ?_) | (with_reducible refine Below.setCell ?_ (by first | omega | (simp; done) | (simp; omega) | (simp at *; omega)) _)))), Q.out⟩
            case measure => simp [intOf]; omega
          | false =>
            cases q3 : hasB evs e0 with
            | false =>
              have Q : Hid (closedL a.es set evs = closedL (a.es.drop (kk + 1)) set evs) := by
                show _ = _
                rw [hfold.out, Hdrop.out, q3]; simp
              have Q3 := Lib.hid q3
              rw [q1] at g1
              rw [q2] at g2
              clear q1 q2 q3 Hdrop hfold
              go_wp2_with (go_at_call 57; ((with_reducible refine (contains_any vv evs e0 _ (Hr2.out.mono (by (repeat (first | with_reducible exact Below.refl _ _ | with_reducible exact hW2r | (with_reducible refine belCall ?_ hW2r (by first | omega | (simp; done) | (simp; omega) | (simp at *; omega))) | (with_reducible refine Below.alloc ?_ (by first | omega | (simp; done) | (simp; omega) | (simp at *; omega)) _) | (with_reducible refine Below.drew ?_) | (with_reducible refine Below.setCell ?_ (by first | omega | (simp; done) | (simp; omega) | (simp at *; omega)) _))))) hl2).mono ?_); rintro e w1 ⟨rfl, rfl⟩; rw [Q3.out]))
              go_roundw
              case rel => exact ⟨kk + 1, by go_num, by omega, (by (repeat (first | with_reducible exact Below.refl _ _ | with_reducible exact hB | (with_reducible refine belCall ?_ hB (by first | omega | (simp; done) | (simp; omega) | (simp at *; omega))) | (with_reducible refine Below.alloc ?_ (by first | omega | (simp; done) | (simp; omega) | (simp at *; omega)) _) | (with_reducible refine Below.drew ?_) | (with_reducible refine Below.setCell ?_ (by first | omega | (simp; done) | (simp; omega) | (simp at *; omega)) _)))), Q.out⟩
              case measure => simp [intOf]; omega
            | true =>
              have Q : Hid (closedL a.es set evs = false) := by
                show _ = _
                rw [hfold.out, Hdrop.out, q1, q2, q3]; simp
              have Q3 := Lib.hid q3
              rw [q1] at g1
              rw [q2] at g2
              clear q1 q2 q3 Hdrop hfold
              go_wp2_with (go_at_call 57; ((with_reducible refine (contains_any vv evs e0 _ (Hr2.out.mono (by (repeat (first | with_reducible exact Below.refl _ _ | with_reducible exact hW2r | (with_reducible refine belCall ?_ hW2r (by first | omega | (simp; done) | (simp; omega) | (simp at *; omega))) | (with_reducible refine Below.alloc ?_ (by first | omega | (simp; done) | (simp; omega) | (simp at *; omega)) _) | (with_reducible refine Below.drew ?_) | (with_reducible refine Below.setCell ?_ (by first | omega | (simp; done) | (simp; omega) | (simp at *; omega)) _))))) hl2).mono ?_); rintro e w1 ⟨rfl, rfl⟩; rw [Q3.out]))
              go_ret2
              refine ⟨_, rfl, ?_, (by (repeat (first | with_reducible exact Below.refl _ _ | with_reducible exact hW2r | (with_reducible refine belCall ?_ hW2r (by first | omega | (simp; done) | (simp; omega) | (simp at *; omega))) | (with_reducible refine Below.alloc ?_ (by first | omega | (simp; done) | (simp; omega) | (simp at *; omega)) _) | (with_reducible refine Below.drew ?_) | (with_reducible refine Below.setCell ?_ (by first | omega | (simp; done) | (simp; omega) | (simp at *; omega)) _))))⟩
              rw [CPost, if_pos H1.out, Q.out]
              rfl
      · have Q : Hid (closedL a.es set evs = true) := by
          show _ = _
          rw [hfold.out, List.drop_of_length_le (by omega)]; rfl
        have hW2 := hW1.trans (hb2.mono hW1.size)
        have hW2r := hW2.trans (hB.mono hW2.size)
        clear hfold
        go_wp2
        go_ret2
        refine ⟨_, rfl, ?_, hW2r⟩
        rw [CPost, if_pos H1.out, Q.out]
        rfl
  · have H1 := Lib.hid h1
    have h1' : (err2 a.err (err2 (setErr a.n none set) (setErr 32 none evs)) != 0) = true := by simpa using h1
    clear h1
    go_wp2_with fail
    go_ret2
    refine ⟨_, rfl, ?_, hW1⟩
    rw [CPost, if_neg H1.out]
    rfl

set_option maxRecDepth 100000 in
set_option maxHeartbeats 1600000 in
theorem rclosed_any (v vs vv : Value) (a : Aut) (set evs : List Int) (w : World) (ha : RdA w v a) (hs : a.small) (h1 : RdI w vs set) (h2 : RdI w vv evs) (hl1 : set.length ≤ 1000000) (hl2 : evs.length ≤ 1000000) :
    Calls Try.prog 24 #[v, vs, vv] w (Ret w fun u _ => u = .bool (closedL a.es set evs)) := by
  obtain ⟨va, vm, ve, rfl, ⟨aa, ca, rfl, hra⟩, ⟨am, cm, rfl, hrm⟩, ⟨ae, ce, rfl, hre⟩⟩ := ha
  have hae := hs.es
  obtain ⟨al, n, ms, es⟩ := a
  dsimp only at *
  have H1 := Lib.hid h1
  have H2 := Lib.hid h2
  clear hs hra hrm h1 h2
  go_enter Try.func24, Try.ntmps24
  go_wp2_with fail
  go_loopw [7] (fun i wr => ∃ kk : Nat, i = .int .i64 kk ∧ kk ≤ es.length ∧ Below (w.heap.size + 1) (w.alloc (.cells #[.slice aa al.length ca, .int .i64 n, .slice am ms.length cm, .slice ae es.length ce] 31)) wr ∧ Hid (closedL es set evs = closedL (es.drop kk) set evs)) (fun i _ => es.length - (intOf i).toNat)
  case atStart => exact ⟨0, rfl, Nat.zero_le _, Below.refl _ _, rfl⟩
  case round =>
    obtain ⟨kk, rfl, hkk, hB, hfold⟩ := hrel
    have hB0 : Below w.heap.size w wr := ((Below.refl _ _).alloc (Nat.le_refl _) _).trans (hB.mono (Nat.le_succ _))
    have hsz := hB.size
    simp only [World.size_alloc] at hsz
    have c3 : wr.cell? ⟨w.heap.size, 3, none⟩ = some (.slice ae es.length ce) := (hB.cell (p := ⟨w.heap.size, 3, none⟩) (by simp)).trans (by simp [go_sem])
    by_cases hlt : kk < es.length
    · obtain ⟨b, off, rfl, d0, d1, d2⟩ := hre.at_edge kk hlt
      have Hdrop : Hid (closedL (es.drop kk) set evs = (!(hasB set es[kk].f && !hasB set es[kk].t && hasB evs es[kk].e) && closedL (es.drop (kk + 1)) set evs)) := by
        show _ = _
        rw [List.drop_eq_getElem_cons hlt]; rfl
      replace d0 := keep0 hB0 d0
      replace d1 := keep0 hB0 d1
      replace d2 := keep0 hB0 d2
      have hbz := World.block_lt_of_cell? _ _ d0
      dsimp only at hbz
      generalize es[kk] = x at *
      obtain ⟨xf, xe, xt⟩ := x
      dsimp only at *
      cases q1 : hasB set xf with
      | false =>
        have Q : Hid (closedL es set evs = closedL (es.drop (kk + 1)) set evs) := by
          show _ = _
          rw [hfold.out, Hdrop.out, q1]; simp
        have Q1 := Lib.hid q1
        clear q1 Hdrop hfold
        go_wp2_with fail
        refine (has_any _ set xf _ (H1.out.mono (by (repeat (first | with_reducible exact Below.refl _ _ | with_reducible exact hB0 | (with_reducible refine belCall ?_ hB0 (by first | omega | (simp; done) | (simp; omega) | (simp at *; omega))) | (with_reducible refine Below.alloc ?_ (by first | omega | (simp; done) | (simp; omega) | (simp at *; omega)) _) | (with_reducible refine Below.drew ?_) | (with_reducible refine Below.setCell ?_ (by first | omega | (simp; done) | (simp; omega) | (simp at *; omega)) _))))) hl1).mono ?_
        rintro e w1 ⟨rfl, rfl⟩
        rw [Q1.out]
        go_wp2_with fail
        go_roundw
        case rel => exact ⟨kk + 1, by go_num, by omega, (by (repeat (first | with_reducible exact Below.refl _ _ | with_reducible exact hB | (with_reducible refine belCall ?_ hB (by first | omega | (simp; done) | (simp; omega) | (simp at *; omega))) | (with_reducible refine Below.alloc ?_ (by first | omega | (simp; done) | (simp; omega) | (simp at *; omega)) _) | (with_reducible refine Below.drew ?_) | (with_reducible refine Below.setCell ?_ (by first | omega | (simp; done) | (simp; omega) | (simp at *; omega)) _)))), Q.out⟩
        case measure => simp [intOf]; omega
      | true =>
        have Q1 := Lib.hid q1
        cases q3 : hasB evs xe with
        | false =>
          have Q : Hid (closedL es set evs = closedL (es.drop (kk + 1)) set evs) := by
            show _ = _
            rw [hfold.out, Hdrop.out, q3]; simp
          have Q3 := Lib.hid q3
          clear q1 q3 Hdrop hfold
          go_wp2_with fail
          refine (has_any _ set xf _ (H1.out.mono (by (repeat (first | with_reducible exact Below.refl _ _ | with_reducible exact hB0 | (with_reducible refine belCall ?_ hB0 (by first | omega | (simp; done) | (simp; omega) | (simp at *; omega))) | (with_reducible refine Below.alloc ?_ (by first | omega | (simp; done) | (simp; omega) | (simp at *; omega)) _) | (with_reducible refine Below.drew ?_) | (with_reducible refine Below.setCell ?_ (by first | omega | (simp; done) | (simp; omega) | (simp at *; omega)) _))))) hl1).mono ?_
          rintro e w1 ⟨rfl, rfl⟩
          rw [Q1.out]
          go_wp2_with fail
          refine (has_any _ evs xe _ (H2.out.mono (by (repeat (first | with_reducible exact Below.refl _ _ | with_reducible exact hB0 | (with_reducible refine belCall ?_ hB0 (by first | omega | (simp; done) | (simp; omega) | (simp at *; omega))) | (with_reducible refine Below.alloc ?_ (by first | omega | (simp; done) | (simp; omega) | (simp at *; omega)) _) | (with_reducible refine Below.drew ?_) | (with_reducible refine Below.setCell ?_ (by first | omega | (simp; done) | (simp; omega) | (simp at *; omega)) _))))) hl2).mono ?_
          rintro e w1 ⟨rfl, rfl⟩
          rw [Q3.out]
          go_wp2_with fail
          go_roundw
          case rel => exact ⟨kk + 1, by go_num, by omega, (by (repeat (first | with_reducible exact Below.refl _ _ | with_reducible exact hB | (with_reducible refine belCall ?_ hB (by first | omega | (simp; done) | (simp; omega) | (simp at *; omega))) | (with_reducible refine Below.alloc ?_ (by first | omega | (simp; done) | (simp; omega) | (simp at *; omega)) _) | (with_reducible refine Below.drew ?_) | (with_reducible refine Below.setCell ?_ (by first | omega | (simp; done) | (simp; omega) | (simp at *; omega)) _)))), Q.out⟩
          case measure => simp [intOf]; omega
        | true =>
          have Q3 := Lib.hid q3
          cases q2 : hasB set xt with
          | true =>
            have Q : Hid (closedL es set evs = closedL (es.drop (kk + 1)) set evs) := by
              show _ = _
              rw [hfold.out, Hdrop.out, q2]; simp
            have Q2 := Lib.hid q2
            clear q1 q2 q3 Hdrop hfold
            go_wp2_with fail
            refine (has_any _ set xf _ (H1.out.mono (by (repeat (first | with_reducible exact Below.refl _ _ | with_reducible exact hB0 | (with_reducible refine belCall ?_ hB0 (by first | omega | (simp; done) | (simp; omega) | (simp at *; omega))) | (with_reducible refine Below.alloc ?_ (by first | omega | (simp; done) | (simp; omega) | (simp at *; omega)) _) | (with_reducible refine Below.drew ?_) | (with_reducible refine Below.setCell ?_ (by first | omega | (simp; done) | (simp; omega) | (simp at *; omega)) _))))) hl1).mono ?_
            rintro e w1 ⟨rfl, rfl⟩
            rw [Q1.out]
            go_wp2_with fail
            refine (has_any _ evs xe _ (H2.out.mono (by (repeat (first | with_reducible exact Below.refl _ _ | with_reducible exact hB0 | (with_reducible refine belCall ?_ hB0 (by first | omega | (simp; done) | (simp; omega) | (simp at *; omega))) | (with_reducible refine Below.alloc ?_ (by first | omega | (simp; done) | (simp; omega) | (simp at *; omega)) _) | (with_reducible refine Below.drew ?_) | (with_reducible refine Below.setCell ?_ (by first | omega | (simp; done) | (simp; omega) | (simp at *; omega)) _))))) hl2).mono ?_
            rintro e w1 ⟨rfl, rfl⟩
            rw [Q3.out]
            go_wp2_with fail
            refine (has_any _ set xt _ (H1.out.mono (by (repeat (first | with_reducible exact Below.refl _ _ | with_reducible exact hB0 | (with_reducible refine belCall ?_ hB0 (by first | omega | (simp; done) | (simp; omega) | (simp at *; omega))) | (with_reducible refine Below.alloc ?_ (by first | omega | (simp; done) | (simp; omega) | (simp at *; omega)) _) | (with_reducible refine Below.drew ?_) | (with_reducible refine Below.setCell ?_ (by first | omega | (simp; done) | (simp; omega) | (simp at *; omega)) _))))) hl1).mono ?_
            rintro e w1 ⟨rfl, rfl⟩
            rw [Q2.out]
            go_wp2_with fail
            go_roundw
            case rel => exact ⟨kk + 1, by go_num, by omega, (by (repeat (first | with_reducible exact Below.refl _ _ | with_reducible exact hB | (with_reducible refine belCall ?_ hB (by first | omega | (simp; done) | (simp; omega) | (simp at *; omega))) | (with_reducible refine Below.alloc ?_ (by first | omega | (simp; done) | (simp; omega) | (simp at *; omega)) _) | (with_reducible refine Below.drew ?_) | (with_reducible refine Below.setCell ?_ (by first | omega | (simp; done) | (simp; omega) | (simp at *; omega)) _)))), Q.out⟩
            case measure => simp [intOf]; omega
          | false =>
            have Q : Hid (closedL es set evs = false) := by
              show _ = _
              rw [hfold.out, Hdrop.out, q1, q2, q3]; simp
            have Q2 := Lib.hid q2
            clear q1 q2 q3 Hdrop hfold
            go_wp2_with fail
            refine (has_any _ set xf _ (H1.out.mono (by (repeat (first | with_reducible exact Below.refl _ _ | with_reducible exact hB0 | (with_reducible refine belCall ?_ hB0 (by first | omega | (simp; done) | (simp; omega) | (simp at *; omega))) | (with_reducible refine Below.alloc ?_ (by first | omega | (simp; done) | (simp; omega) | (simp at *; omega)) _) | (with_reducible refine Below.drew ?_) | (with_reducible refine Below.setCell ?_ (by first | omega | (simp; done) | (simp; omega) | (simp at *; omega)) _))))) hl1).mono ?_
            rintro e w1 ⟨rfl, rfl⟩
            rw [Q1.out]
            go_wp2_with fail
            refine (has_any _ evs xe _ (H2.out.mono (by (repeat (first | with_reducible exact Below.refl _ _ | with_reducible exact hB0 | (with_reducible refine belCall ?_ hB0 (by first | omega | (simp; done) | (simp; omega) | (simp at *; omega))) | (with_reducible refine Below.alloc ?_ (by first | omega | (simp; done) | (simp; omega) | (simp at *; omega)) _) | (with_reducible refine Below.drew ?_) | (with_reducible refine Below.setCell ?_ (by first | omega | (simp; done) | (simp; omega) | (simp at *; omega)) _))))) hl2).mono ?_
            rintro e w1 ⟨rfl, rfl⟩
            rw [Q3.out]
            go_wp2_with fail
            refine (has_any _ set xt _ (H1.out.mono (by (repeat (first | with_reducible exact Below.refl _ _ | with_reducible exact hB0 | (with_reducible refine belCall ?_ hB0 (by first | omega | (simp; done) | (simp; omega) | (simp at *; omega))) | (with_reducible refine Below.alloc ?_ (by first | omega | (simp; done) | (simp; omega) | (simp at *; omega)) _) | (with_reducible refine Below.drew ?_) | (with_reducible refine Below.setCell ?_ (by first | omega | (simp; done) | (simp; omega) | (simp at *; omega)) _))))) hl1).mono ?_
            rintro e w1 ⟨rfl, rfl⟩
            rw [Q2.out]
            go_wp2_with fail
            go_ret
            exact ⟨_, rfl, by rw [Q.out]; rfl, (by (repeat (first | with_reducible exact Below.refl _ _ | with_reducible exact hB0 | (with_reducible refine belCall ?_ hB0 (by first | omega | (simp; done) | (simp; omega) | (simp at *; omega))) | (with_reducible refine Below.alloc ?_ (by first | omega | (simp; done) | (simp; omega) | (simp at *; omega)) _) | (with_reducible refine Below.drew ?_) | (with_reducible refine Below.setCell ?_ (by first | omega | (simp; done) | (simp; omega) | (simp at *; omega)) _))))⟩
    · have Q : Hid (closedL es set evs = true) := by
        show _ = _
        rw [hfold.out, List.drop_of_length_le (by omega)]; rfl
      clear hfold
      go_wp2_with fail
      go_ret
      exact ⟨_, rfl, by rw [Q.out]; rfl, hB0⟩
end Go.Proofs.Ythchkddhibhenaa

/- Interior is the greatest part of a set that some events do not leave: plain laws. -/
namespace Go.Proofs.Ythchkddhibhenaa

/-- A state whose flag is set. -/
def Gd (fl : List Bool) (s : Int) : Prop := fl.getD s.toNat false = true
theorem Gd_set {fl : List Bool} {k : Nat} {s : Int} : Gd (fl.set k false) s → Gd fl s ∧ s.toNat ≠ k := by
  unfold Gd
  intro h
  by_cases e : k = s.toNat
  · subst e
    rw [List.getD_eq_getElem?_getD] at h
    by_cases hl : s.toNat < fl.length
    · rw [List.getElem?_set_self hl] at h; cases h
    · rw [List.getElem?_eq_none (by simp; omega)] at h; cases h
  · rw [List.getD_eq_getElem?_getD, List.getElem?_set_ne e, ← List.getD_eq_getElem?_getD] at h
    exact ⟨h, fun e2 => e e2.symm⟩
theorem Gd_set_ne {fl : List Bool} {k : Nat} {s : Int} (h : Gd fl s) (e : k ≠ s.toNat) : Gd (fl.set k false) s := by
  unfold Gd at h ⊢
  rw [List.getD_eq_getElem?_getD, List.getElem?_set_ne e, ← List.getD_eq_getElem?_getD]; exact h
/-- What is kept by all steps. -/
structure KeepI (R : Int → Prop) (set : List Int) (fl : List Bool) : Prop where
  sub : ∀ s, 0 ≤ s → Gd fl s → s ∈ set
  all : ∀ s, R s → Gd fl s
theorem iStep_keepI {R : Int → Prop} {set evs : List Int} {fl : List Bool} {b : Bool} {x : Ed} (h0 : 0 ≤ x.f) (hR0 : ∀ s, R s → 0 ≤ s) (hR : R x.f → hasB evs x.e = true → R x.t) (h : KeepI R set fl) : KeepI R set (iStep evs (fl, b) x).1 := by
  unfold iStep
  split
  · rename_i hc
    dsimp only at hc ⊢
    have hn : ¬ R x.f := fun hr => by
      have := h.all _ (hR hr hc.2.2)
      unfold Gd at this
      rw [hc.2.1] at this; cases this
    refine ⟨fun s hs hg => h.sub s hs (Gd_set hg).1, fun s hs => Gd_set_ne (h.all s hs) (fun e => hn ?_)⟩
    have := hR0 s hs
    have : x.f = s := by omega
    rw [this]; exact hs
  · exact h
theorem iFold_keepI {R : Int → Prop} {set evs : List Int} (hR0 : ∀ s, R s → 0 ≤ s) : ∀ (l : List Ed) {fl : List Bool} {b : Bool}, (∀ x ∈ l, 0 ≤ x.f ∧ (R x.f → hasB evs x.e = true → R x.t)) → KeepI R set fl → KeepI R set (l.foldl (iStep evs) (fl, b)).1
  | [], _, _, _, h => h
  | x :: l, fl, b, hl, h => by
    rw [List.foldl_cons]
    have h1 := iStep_keepI (b := b) (hl x (List.mem_cons_self ..)).1 hR0 (hl x (List.mem_cons_self ..)).2 h
    generalize hr : iStep evs (fl, b) x = r at h1 ⊢
    obtain ⟨r1, r2⟩ := r
    exact iFold_keepI hR0 l (fun y hy => hl y (List.mem_cons_of_mem _ hy)) h1
/-- A round without a change. -/
theorem iFold_same {evs : List Int} : ∀ (l : List Ed) {fl : List Bool} {b : Bool}, (l.foldl (iStep evs) (fl, b)).2 = false → (l.foldl (iStep evs) (fl, b)).1 = fl ∧ b = false ∧ ∀ x ∈ l, Gd fl x.f → hasB evs x.e = true → Gd fl x.t
  | [], _, _, h => ⟨rfl, h, fun x hx => by cases hx⟩
  | x :: l, fl, b, h => by
    rw [List.foldl_cons] at h ⊢
    by_cases hc : fl.getD x.f.toNat false = true ∧ fl.getD x.t.toNat false = false ∧ hasB evs x.e = true
    · have hs : iStep evs (fl, b) x = (fl.set x.f.toNat false, true) := by unfold iStep; rw [if_pos hc]
      rw [hs] at h
      have := (iFold_same l h).2.1
      cases this
    · have hs : iStep evs (fl, b) x = (fl, b) := by unfold iStep; rw [if_neg hc]
      rw [hs] at h ⊢
      obtain ⟨h1, h2, h3⟩ := iFold_same l h
      refine ⟨h1, h2, fun y hy => ?_⟩
      rcases List.mem_cons.1 hy with rfl | hy
      · intro hf he
        unfold Gd at hf ⊢
        cases ht : fl.getD y.t.toNat false with
        | true => rfl
        | false => exact absurd ⟨hf, ht, he⟩ hc
      · exact h3 y hy
/-- What the rounds leave. -/
theorem iLoop_says {R : Int → Prop} {es : List Ed} {set evs : List Int} (hR0 : ∀ s, R s → 0 ≤ s) (hes : ∀ x ∈ es, 0 ≤ x.f ∧ (R x.f → hasB evs x.e = true → R x.t)) : ∀ (f : Nat) {fl : List Bool}, fl.count true < f → KeepI R set fl →
    KeepI R set (iLoop es evs f fl) ∧ (iLoop es evs f fl).length = fl.length ∧ ∀ x ∈ es, Gd (iLoop es evs f fl) x.f → hasB evs x.e = true → Gd (iLoop es evs f fl) x.t
  | 0, _, h, _ => absurd h (by omega)
  | f + 1, fl, hf, h => by
    have h1 := iFold_keepI (b := false) hR0 es hes h
    have h2 := iFold_count evs es (fl, false)
    have h3 := iFold_length evs es (fl, false)
    rw [iLoop]
    split
    · rename_i hr
      have h4 := (h2.2 hr).resolve_left (by simp)
      obtain ⟨g1, g2, g3⟩ := iLoop_says hR0 hes f (by dsimp only at h4; omega) h1
      exact ⟨g1, g2.trans h3, g3⟩
    · rename_i hr
      obtain ⟨g1, _, g3⟩ := iFold_same es (by simpa using hr)
      refine ⟨h1, h3, ?_⟩
      rw [g1]; exact g3

section
variable {es : List Ed} {n : Nat} {set evs : List Int}
theorem stays_iff (hset : ∀ s ∈ set, 0 ≤ s ∧ s < (n : Int)) (s : Int) (hs : 0 ≤ s ∧ s < (n : Int)) : stays es n set evs s = true ↔ ∀ u t, Leads es (fPerm (allL n) evs) s u t → t ∈ set := by
  unfold stays
  rw [List.all_eq_true]
  constructor
  · intro h u t hl
    exact hasB_true.1 (h t (((fromL_says es [s] (allL n) evs).2 t).2 ⟨s, List.mem_singleton.2 rfl, allL_mem hs.1 hs.2, u, hl⟩))
  · intro h t ht
    obtain ⟨s0, h1, _, u, hu⟩ := ((fromL_says es [s] (allL n) evs).2 t).1 ht
    rw [List.mem_singleton.1 h1] at hu
    exact hasB_true.2 (h u t hu)
theorem listL_mem {fl : List Bool} {s : Int} (hs : 0 ≤ s) : s ∈ listL fl ↔ Gd fl s := by
  unfold listL listK Gd
  rw [List.mem_map]
  constructor
  · rintro ⟨i, hi, rfl⟩
    exact (List.mem_filter.1 hi).2
  · intro h
    refine ⟨s.toNat, List.mem_filter.2 ⟨List.mem_range.2 ?_, h⟩, by omega⟩
    by_cases hl : s.toNat < fl.length
    · exact hl
    · rw [List.getD_eq_getElem?_getD, List.getElem?_eq_none (by omega)] at h; cases h
theorem listL_inc (fl : List Bool) : Inc (listL fl) := range_pairwise _ _
theorem listL_in (fl : List Bool) : ∀ s ∈ listL fl, 0 ≤ s ∧ s < (fl.length : Int) := range_in _ _
/-- The program's Interior is the reference's, and closed. -/
theorem interior_says (hes : ∀ x ∈ es, 0 ≤ x.f ∧ x.f < (n : Int) ∧ 0 ≤ x.t ∧ x.t < (n : Int)) (hset : ∀ s ∈ set, 0 ≤ s ∧ s < (n : Int)) (hinc : Inc set) :
    interior n es set evs = rintL es n set evs ∧ closedL es (interior n es set evs) evs = true ∧ setErr n none (interior n es set evs) = 0 ∧ (interior n es set evs).length ≤ n := by
  have hR0 : ∀ s, (s ∈ set ∧ stays es n set evs s = true) → 0 ≤ s := fun s h => (hset s h.1).1
  have hstep : ∀ x ∈ es, 0 ≤ x.f ∧ ((x.f ∈ set ∧ stays es n set evs x.f = true) → hasB evs x.e = true → (x.t ∈ set ∧ stays es n set evs x.t = true)) := by
    intro x hx
    have h := hes x hx
    refine ⟨h.1, fun hr he => ?_⟩
    have h1 := (stays_iff (es := es) (evs := evs) hset x.f ⟨h.1, h.2.1⟩).1 hr.2
    have hp : fPerm (allL n) evs x = true := fPerm_true.2 ⟨allL_mem h.2.2.1 h.2.2.2, he⟩
    refine ⟨h1 [x.e] x.t ⟨x, hx, rfl, rfl, hp, rfl⟩, (stays_iff hset x.t ⟨h.2.2.1, h.2.2.2⟩).2 (fun u t hu => ?_)⟩
    exact h1 (x.e :: u) t ⟨x, hx, rfl, rfl, hp, hu⟩
  have hstart : KeepI (fun s => s ∈ set ∧ stays es n set evs s = true) set (flagL n set) := by
    refine ⟨fun s hs hg => ?_, fun s hs => ?_⟩
    · unfold Gd at hg
      by_cases hl : s < n
      · rw [flagL_getD hs hl] at hg; exact hasB_true.1 hg
      · rw [List.getD_eq_getElem?_getD, List.getElem?_eq_none (by rw [flagL_length]; omega)] at hg; cases hg
    · have := hset s hs.1
      unfold Gd
      rw [flagL_getD this.1 this.2]; exact hasB_true.2 hs.1
  obtain ⟨h1, h2, h3⟩ := iLoop_says (R := fun s => s ∈ set ∧ stays es n set evs s = true) hR0 hstep ((flagL n set).count true + 1) (by omega) hstart
  have hI : interior n es set evs = listL (iLoop es evs ((flagL n set).count true + 1) (flagL n set)) := rfl
  rw [hI]
  generalize iLoop es evs ((flagL n set).count true + 1) (flagL n set) = fl at h1 h2 h3
  rw [flagL_length] at h2
  have hin := listL_in fl
  rw [h2] at hin
  refine ⟨?_, ?_, setErr_ok (listL_inc fl) hin (fun q hq => by cases hq), ?_⟩
  · refine inc_ext (listL_inc fl) (hinc.filter _) (fun s => ?_)
    unfold rintL
    rw [List.mem_filter]
    constructor
    · intro hs
      have hs0 := hin s hs
      have hg := (listL_mem hs0.1).1 hs
      refine ⟨h1.sub s hs0.1 hg, (stays_iff hset s hs0).2 ?_⟩
      have key : ∀ (u : List Int) (a t : Int), 0 ≤ a → Gd fl a → Leads es (fPerm (allL n) evs) a u t → t ∈ set := by
        intro u
        induction u with
        | nil => intro a t ha hga h; rw [← show a = t from h]; exact h1.sub a ha hga
        | cons e u ih =>
          rintro a t ha hga ⟨x, hx, hf, _, hp, h⟩
          exact ih x.t t (hes x hx).2.2.1 (h3 x hx (by rw [hf]; exact hga) (fPerm_true.1 hp).2) h
      exact fun u t hl => key u s t hs0.1 hg hl
    · intro hs
      exact (listL_mem (hset s hs.1).1).2 (h1.all s hs)
  · unfold closedL
    rw [List.all_eq_true]
    intro x hx
    have h := hes x hx
    cases hf : hasB (listL fl) x.f with
    | false => simp
    | true =>
      cases he : hasB evs x.e with
      | false => simp
      | true =>
        have := h3 x hx ((listL_mem h.1).1 (hasB_true.1 hf)) he
        rw [hasB_true.2 ((listL_mem h.2.2.1).2 this)]
        rfl
  · have := listK_le fl fl.length
    unfold listL
    omega
end
end Go.Proofs.Ythchkddhibhenaa

/- The contract of the reference's Coreachable. -/
namespace Go.Proofs.Ythchkddhibhenaa
open Go.RowKit

/-- An edge the other way round. -/
def flipE (x : Ed) : Ed := ⟨x.t, x.e, x.f⟩
/-- What the reference's Coreachable returns. -/
def coreaR (es : List Ed) (ms : List Int) : List Int := fLoop (es.map flipE) (es.map Ed.f) (es.map Ed.e) (es.length + 1) ms

set_option maxRecDepth 100000 in
set_option maxHeartbeats 1600000 in
theorem rcorea_any (v : Value) (a : Aut) (w : World) (ha : RdA w v a) (hinc : Inc a.ms) (hl1 : a.ms.length + a.es.length ≤ 1000000) :
    Calls Try.prog 30 #[v] w (Ret w fun u w' => RdI w' u (coreaR a.es a.ms)) := by
  obtain ⟨va, vm, ve, rfl, ⟨aa, ca, rfl, hra⟩, ⟨am, cm, rfl, hrm⟩, ⟨ae, ce, rfl, hre⟩⟩ := ha
  obtain ⟨al, n, ms, es⟩ := a
  dsimp only at *
  obtain ⟨i0, hi, hz0, hz1, hz2⟩ := info_parts Try.info_int
  have HRM := Lib.hid (show RdI w (.slice am ms.length cm) ms from ⟨am, cm, rfl, hrm⟩)
  have HW : Hid (∀ x ∈ es, hasB (es.map Ed.f) x.f = true ∧ hasB (es.map Ed.e) x.e = true) := fun x hx => ⟨hasB_true.2 (List.mem_map_of_mem hx), hasB_true.2 (List.mem_map_of_mem hx)⟩
  have Hres : Hid (coreaR es ms = fLoop (es.map flipE) (es.map Ed.f) (es.map Ed.e) (es.length + 1) ms) := rfl
  generalize coreaR es ms = R at *
  generalize es.map Ed.f = W at *
  generalize es.map Ed.e = V at *
  have hfl : (es.map flipE).length = es.length := by simp
  generalize hfs : es.map flipE = fs at *
  have Hfs := Lib.hid hfs
  have Hinc0 := Lib.hid hinc
  clear hra hfs hinc
  have hsrc : ∀ ad, am = some ad → ∀ j u, (ints ms)[j]? = some u → w.cell? (ad.add j) = some u := by
    intro ad e j u hu
    subst e
    obtain ⟨b, off, sp⟩ := ad
    obtain rfl : sp = none := hrm.spot _ rfl
    exact own_src hrm j u hu
  have Hsrc := Lib.hid hsrc
  have Hnil := Lib.hid hrm.hnil
  have hcap := hrm.hcap
  clear hsrc hrm
  go_enter Try.func30, Try.ntmps30
  have hrow : ∀ W1 : World, W1.heap.size = w.heap.size + 1 → Row (W1.alloc (.cells #[] 3)) (w.heap.size + 1) (fun _ => 1) 1 3 1 (.slice (some ⟨w.heap.size + 1, 0, none⟩) 0 0) 0 [] := by
    intro W1 h1
    have h2 := Own.new W1 (w.heap.size + 1) (fun _ => 1) 1 #[] 3 (by omega) rfl
    rw [h1] at h2
    exact ⟨by simp, .inr ⟨_, 0, 0, _, rfl, h2, Nat.le_refl _, by simp [maxLen], by simp, by simp⟩⟩
  have Hrow := Lib.hid hrow
  clear hrow
  go_wp2_with (at_builtin; refine wpList_append_row rfl _ _ 28 rfl 3 i0 (.int .i64 0) 8 Try.underlying28 hi hz0 hz1 hz2 rfl rfl (Hrow.out _ (by simp)) am ms.length cm (ints ms) rfl (by simp) (fun e => ⟨by have := Hnil.out e; omega, Hnil.out e⟩) (fun ad e j u hu => keep0 ((bel_alloc w _).trans ((bel_alloc _ _).mono (by simp))) (Hsrc.out ad e j u hu)) (ints_oneCell .i64 _) (by unfold maxLen; omega) (by omega) (by simp) ?_; intro v1 w1 tag1 hr1 ht1; simp only [Nat.zero_add, List.nil_append] at hr1; have HO := Lib.hid hr1.rdI; have hB := belTurn (((Below.refl (w.heap.size + 1) (w.alloc (.cells #[.slice aa al.length ca, .int .i64 n, .slice am ms.length cm, .slice ae es.length ce] 31))).alloc (by simp) (.cells #[] 3))) ht1 (by simp); obtain ⟨a1, c1, rfl⟩ := hr1.val; clear hr1 ht1)
  go_wp2_with fail
  go_loopg [3, 4] (news fs ms + 1) (fun gk o nn wr => ∃ (P : List Int) (m : Int) (f : Nat), nn = .int .i64 m ∧ Below (w.heap.size + 1) (w.alloc (.cells #[.slice aa al.length ca, .int .i64 n, .slice am ms.length cm, .slice ae es.length ce] 31)) wr ∧ RdI wr o P ∧ Inc P ∧ P.length + news fs P ≤ ms.length + fs.length ∧
    Hid (R = if m = (P.length : Int) then P else fLoop fs W V f P) ∧ news fs P < f ∧ -1 ≤ m ∧ m ≤ 1000000 ∧ gk = if m = (P.length : Int) then 0 else news fs P + 1)
  case atStart =>
    have := news_le fs ms
    exact ⟨ms, -1, _, rfl, hB, HO.out, Hinc0.out, by omega, by show _ = _; rw [Hres.out, if_neg (by omega)], by omega, by omega, by omega, by rw [if_neg (by omega)]⟩
  case round =>
    clear hB HO
    obtain ⟨P, m, f, rfl, hB, hO, hinc, hPl, hR, hnf, hm0, hm1, hgk⟩ := hrel
    have hB0 : Below w.heap.size w wr := ((Below.refl _ _).alloc (Nat.le_refl _) _).trans (hB.mono (Nat.le_succ _))
    have HO := Lib.hid hO
    have Hinc := Lib.hid hinc
    have Hgk := Lib.hid hgk
    obtain ⟨ao', co', rfl, hO'⟩ := hO
    clear hO' hinc hgk
    by_cases hm : m = (P.length : Int)
    · have HR2 : Hid (R = P) := by show _ = _; rw [hR.out, if_pos hm]
      subst hm
      clear hR
      go_wp2_with fail
      go_ret
      exact ⟨_, rfl, by rw [HR2.out]; exact HO.out, hB0⟩
    · have q : (m != (P.length : Int)) = true := by simpa using hm
      have HR2 : Hid (R = fLoop fs W V f P) := by show _ = _; rw [hR.out, if_neg hm]
      have Hgk2 : Hid (gk = news fs P + 1) := by show _ = _; rw [Hgk.out, if_neg hm]
      clear hR Hgk hm
      have hfold : Hid (fs.foldl (fStep W V) P = fs.foldl (fStep W V) P) := rfl
      go_wp2_with fail
      go_loopw [3, 5] (fun o i wr' => ∃ (k : Nat) (Q : List Int), k ≤ es.length ∧ i = .int .i64 k ∧ Below (w.heap.size + 1) (w.alloc (.cells #[.slice aa al.length ca, .int .i64 n, .slice am ms.length cm, .slice ae es.length ce] 31)) wr' ∧ RdI wr' o Q ∧ Inc Q ∧ Q.length + news fs Q ≤ ms.length + fs.length ∧ Hid (fs.foldl (fStep W V) P = (fs.drop k).foldl (fStep W V) Q)) (fun _ i _ => es.length - (intOf i).toNat)
      case atStart => exact ⟨0, P, Nat.zero_le _, rfl, hB, HO.out, Hinc.out, hPl, rfl⟩
      case round =>
        clear hB hB0
        obtain ⟨j, Q, hj, rfl, hB, hO2, hinc2, hQl, hf⟩ := hrel
        have hB0 : Below w.heap.size w wr := ((Below.refl _ _).alloc (Nat.le_refl _) _).trans (hB.mono (Nat.le_succ _))
        have hsz := hB.size
        simp only [World.size_alloc] at hsz
        have c3 : wr.cell? ⟨w.heap.size, 3, none⟩ = some (.slice ae es.length ce) := (hB.cell (p := ⟨w.heap.size, 3, none⟩) (by simp)).trans (by simp [go_sem])
        have HQ := Lib.hid hO2
        have Hinc2 := Lib.hid hinc2
        obtain ⟨aq, cq, rfl, hO'⟩ := hO2
        clear hO' hinc2
        by_cases hltj : j < es.length
        · obtain ⟨b, off, rfl, d0, d1, d2⟩ := hre.at_edge j hltj
          have hfj : fs[j]'(by omega) = flipE es[j] := by
            have := Hfs.out
            subst this
            simp
          have Hd : Hid ((fs.drop j).foldl (fStep W V) Q = (fs.drop (j + 1)).foldl (fStep W V) (fStep W V Q (flipE es[j]))) := by
            show _ = _
            rw [List.drop_eq_getElem_cons (show j < fs.length by omega), List.foldl_cons, hfj]
          replace d0 := keep0 hB0 d0
          replace d1 := keep0 hB0 d1
          replace d2 := keep0 hB0 d2
          have Hok := Lib.hid (fStep_ok (es := fs) (within := W) (evs := V) Hinc2.out (flipE es[j]) (by rw [← hfj]; exact List.getElem_mem _))
          have Hsx : Hid (fStep W V Q (flipE es[j]) = if hasB Q es[j].t = true then addL Q es[j].f else Q) := by
            show _ = _
            have h1 := HW.out es[j] (List.getElem_mem hltj)
            unfold fStep flipE
            dsimp only
            rw [h1.1, h1.2]
            simp
          clear hfj
          generalize es[j] = x at *
          obtain ⟨xf, xe, xt⟩ := x
          dsimp only at *
          have HN : Hid (∀ Z, fStep W V Q (flipE ⟨xf, xe, xt⟩) = Z → fs.foldl (fStep W V) P = (fs.drop (j + 1)).foldl (fStep W V) Z) := by
            intro Z hZ
            rw [hf.out, Hd.out, hZ]
          clear hf Hd
          have hnq : Q.length ≤ 1000000 := by omega
          cases h1 : hasB Q xt with
          | false =>
            have E1 := Lib.hid h1
            have HZ := Lib.hid (HN.out Q (by rw [Hsx.out, h1]; rfl))
            clear h1
            go_wp2_with (go_at_call 50; refine (has_any _ Q xt _ HQ.out hnq).mono ?_; rintro e w1 ⟨rfl, rfl⟩; rw [E1.out])
            go_roundw
            case rel => exact ⟨j + 1, Q, by omega, by go_num, hB, HQ.out, Hinc2.out, hQl, HZ.out⟩
            case measure => simp [intOf]; omega
          | true =>
            have E1 := Lib.hid h1
            have HE : Hid (fStep W V Q (flipE ⟨xf, xe, xt⟩) = addL Q xf) := by
              show _ = _
              rw [Hsx.out, h1]; rfl
            have HZ := Lib.hid (HN.out (addL Q xf) HE.out)
            have hok := Hok.out
            rw [HE.out] at hok
            have hql2 : (addL Q xf).length + news fs (addL Q xf) ≤ ms.length + fs.length := Nat.le_trans hok.2.1 hQl
            clear h1 hok
            go_wp2_with fail
            refine (has_any _ Q xt _ HQ.out hnq).mono ?_
            rintro e w1 ⟨rfl, rfl⟩
            rw [E1.out]
            go_wp2_with fail
            refine (add_any _ Q xf _ HQ.out hnq).mono ?_
            rintro e w1 ⟨v1, rfl, hr1, hb1⟩
            have Hr1 := Lib.hid hr1
            obtain ⟨a1, c1, rfl, hr1'⟩ := hr1
            have hB1 : Below (w.heap.size + 1) (w.alloc (.cells #[.slice aa al.length ca, .int .i64 n, .slice am ms.length cm, .slice (some ⟨b, off, none⟩) es.length ce] 31)) w1 := hB.trans (hb1.mono (by omega))
            clear hr1' hb1
            go_wp2_with fail
            go_roundw
            case rel => exact ⟨j + 1, addL Q xf, by omega, by go_num, hB1, Hr1.out, addL_inc Hinc2.out _, hql2, HZ.out⟩
            case measure => simp [intOf]; omega
        · have HF : Hid (fs.foldl (fStep W V) P = Q) := by
            show _ = _
            rw [hf.out, show j = fs.length by omega, List.drop_length]; rfl
          have Hok := Lib.hid (fFold_ok (es := fs) (within := W) (evs := V) fs Hinc.out (fun _ h => h))
          clear hf
          go_wp2_with fail
          go_roundg (if (P.length : Int) = (Q.length : Int) then 0 else news fs Q + 1)
          case measure =>
            rw [Hgk2.out]
            have h5 := Hok.out
            rw [HF.out] at h5
            split <;> omega
          case rel =>
            have h5 := Hok.out
            rw [HF.out] at h5
            obtain ⟨f', rfl⟩ : ∃ f', f = f' + 1 := ⟨f - 1, by omega⟩
            refine ⟨Q, P.length, if (P.length : Int) = (Q.length : Int) then news fs Q + 1 else f', rfl, hB, HQ.out, Hinc2.out, hQl, ?_, ?_, by omega, by omega, rfl⟩
            · show _ = _
              rw [HR2.out, fLoop, HF.out]
              by_cases e : P.length = Q.length
              · rw [if_pos e.symm, if_pos (by omega)]
              · rw [if_neg (fun h => e h.symm), if_neg (by omega), if_neg (by omega)]
            · split <;> omega
end Go.Proofs.Ythchkddhibhenaa

/- What forward, Reachable and Coreachable find: plain laws. -/
namespace Go.Proofs.Ythchkddhibhenaa

theorem Gd_true {fl : List Bool} {k : Nat} {s : Int} (h0 : 0 ≤ s) (hk : k < fl.length) : Gd (fl.set k true) s ↔ Gd fl s ∨ s.toNat = k := by
  unfold Gd
  by_cases e : k = s.toNat
  · subst e
    rw [List.getD_eq_getElem?_getD, List.getElem?_set_self hk]
    exact ⟨fun _ => .inr rfl, fun _ => rfl⟩
  · rw [List.getD_eq_getElem?_getD, List.getElem?_set_ne e, ← List.getD_eq_getElem?_getD]
    exact ⟨.inl, fun h => h.elim id (fun h => absurd h.symm e)⟩
theorem Leads.congr {es : List Ed} {p p' : Ed → Bool} (h : ∀ x ∈ es, p x = true → p' x = true) : ∀ {u : List Int} {s t : Int}, Leads es p s u t → Leads es p' s u t
  | [], _, _, hl => hl
  | _ :: _, _, _, ⟨x, hx, h1, h2, h3, h4⟩ => ⟨x, hx, h1, h2, h x hx h3, h4.congr h⟩

section
variable {es : List Ed} {perm : Ed → Bool} {start : List Int} {n : Nat}
def Led (es : List Ed) (perm : Ed → Bool) (start : List Int) (s : Int) : Prop := ∃ s0 ∈ start, ∃ u, Leads es perm s0 u s
/-- What holds while forward searches; the edges of s in l have not been followed yet. -/
structure FW (es : List Ed) (perm : Ed → Bool) (start : List Int) (n : Nat) (s : Int) (l : List Ed) (seen : List Bool) (q : List Int) : Prop where
  len : seen.length = n
  led : ∀ t, 0 ≤ t → t < (n : Int) → Gd seen t → Led es perm start t
  que : ∀ t ∈ q, 0 ≤ t ∧ t < (n : Int) ∧ Gd seen t
  cls : ∀ x ∈ es, Gd seen x.f → x.f ∉ q → (x.f = s ∧ x ∈ l) ∨ (perm x = true → Gd seen x.t)
  sta : ∀ t ∈ start, Gd seen t
theorem FW.fold (hes : ∀ x ∈ es, 0 ≤ x.f ∧ x.f < (n : Int) ∧ 0 ≤ x.t ∧ x.t < (n : Int)) {s : Int} (hst : ∀ t ∈ start, 0 ≤ t) (hs : 0 ≤ s) (hsn : s < (n : Int)) : ∀ (l : List Ed) {seen : List Bool} {q : List Int}, FW es perm start n s l seen q → Gd seen s → (∀ x ∈ l, x ∈ es ∧ x.f = s) →
    FW es perm start n s [] (l.foldl (fwStep perm) (seen, q)).1 (l.foldl (fwStep perm) (seen, q)).2
  | [], _, _, h, _, _ => h
  | x :: l, seen, q, h, hg, hl => by
    rw [List.foldl_cons]
    obtain ⟨hx, hxf⟩ := hl x (List.mem_cons_self ..)
    have hxr := hes x hx
    have hlt : x.t.toNat < seen.length := by rw [h.len]; omega
    by_cases hc : seen[x.t.toNat]?.getD true = false ∧ perm x = true
    · have hst2 : fwStep perm (seen, q) x = (seen.set x.t.toNat true, q ++ [x.t]) := by unfold fwStep; rw [if_pos hc]
      rw [hst2]
      have hG : ∀ t, 0 ≤ t → (Gd (seen.set x.t.toNat true) t ↔ Gd seen t ∨ t.toNat = x.t.toNat) := fun t ht => Gd_true ht hlt
      refine FW.fold hes hst hs hsn l ⟨by rw [List.length_set]; exact h.len, fun t h0 h1 hgt => ?_, fun t ht => ?_, fun y hy hgy hnq => ?_, fun t ht => (hG t (hst t ht)).2 (.inl (h.sta t ht))⟩ ((hG s hs).2 (.inl hg)) (fun y hy => hl y (List.mem_cons_of_mem _ hy))
      · rcases (hG t h0).1 hgt with h2 | h2
        · exact h.led t h0 h1 h2
        · have e : t = x.t := by omega
          obtain ⟨s0, h3, u, h4⟩ := h.led s hs hsn hg
          exact ⟨s0, h3, u ++ [x.e], by rw [e]; exact h4.snoc hx hxf hc.2⟩
      · rcases List.mem_append.1 ht with h2 | h2
        · have := h.que t h2
          exact ⟨this.1, this.2.1, (hG t this.1).2 (.inl this.2.2)⟩
        · rw [List.mem_singleton.1 h2]
          exact ⟨hxr.2.2.1, hxr.2.2.2, (hG x.t hxr.2.2.1).2 (.inr rfl)⟩
      · have hyr := hes y hy
        have hnq2 : y.f ∉ q := fun hh => hnq (List.mem_append_left _ hh)
        have hne : y.f ≠ x.t := fun e => hnq (by rw [e]; simp)
        have hgy2 : Gd seen y.f := by
          rcases (hG y.f hyr.1).1 hgy with h2 | h2
          · exact h2
          · exact absurd (by omega) hne
        rcases h.cls y hy hgy2 hnq2 with ⟨h2, h3⟩ | h2
        · rcases List.mem_cons.1 h3 with rfl | h3
          · exact .inr (fun _ => (hG _ hxr.2.2.1).2 (.inr rfl))
          · exact .inl ⟨h2, h3⟩
        · exact .inr (fun hp => (hG y.t hyr.2.2.1).2 (.inl (h2 hp)))
    · have hst2 : fwStep perm (seen, q) x = (seen, q) := by unfold fwStep; rw [if_neg hc]
      rw [hst2]
      refine FW.fold hes hst hs hsn l ⟨h.len, h.led, h.que, fun y hy hgy hnq => ?_, h.sta⟩ hg (fun y hy => hl y (List.mem_cons_of_mem _ hy))
      rcases h.cls y hy hgy hnq with ⟨h2, h3⟩ | h2
      · rcases List.mem_cons.1 h3 with rfl | h3
        · refine .inr (fun hp => ?_)
          unfold Gd
          rw [List.getD_eq_getElem?_getD]
          rw [List.getElem?_eq_getElem hlt] at hc ⊢
          simp only [Option.getD_some] at hc ⊢
          cases hb : seen[y.t.toNat] with
          | true => rfl
          | false => exact absurd ⟨hb, hp⟩ hc
        · exact .inl ⟨h2, h3⟩
      · exact .inr h2
theorem FW.fwd (hso : Sorted es) (hes : ∀ x ∈ es, 0 ≤ x.f ∧ x.f < (n : Int) ∧ 0 ≤ x.t ∧ x.t < (n : Int)) (hst : ∀ t ∈ start, 0 ≤ t) : ∀ (f : Nat) {seen : List Bool} {q : List Int} {s0 : Int}, FW es perm start n s0 [] seen q → seen.count false + q.length < f →
    FW es perm start n s0 [] (Go.Proofs.Ythchkddhibhenaa.fwd (subOf es) perm f seen q) []
  | 0, _, _, _, _, hf => absurd hf (by omega)
  | f + 1, seen, [], s0, h, _ => h
  | f + 1, seen, s :: q, s0, h, hf => by
    rw [Go.Proofs.Ythchkddhibhenaa.fwd]
    obtain ⟨h0, h1, hg⟩ := h.que s (List.mem_cons_self ..)
    have hmem : ∀ x ∈ subOf es s, x ∈ es ∧ x.f = s := by
      intro x hx
      rw [subOf_eq hso] at hx
      have := List.mem_filter.1 hx
      exact ⟨this.1, by simpa using this.2⟩
    have h2 : FW es perm start n s (subOf es s) seen q := by
      refine ⟨h.len, h.led, fun t ht => h.que t (List.mem_cons_of_mem _ ht), fun x hx hgx hnq => ?_, h.sta⟩
      by_cases e : x.f = s
      · exact .inl ⟨e, by rw [subOf_eq hso]; exact List.mem_filter.2 ⟨hx, by simpa using e⟩⟩
      · rcases h.cls x hx hgx (fun hh => by rcases List.mem_cons.1 hh with h3 | h3; exact e h3; exact hnq h3) with ⟨_, h3⟩ | h3
        · cases h3
        · exact .inr h3
    have h3 := h2.fold hes hst h0 h1 (subOf es s) hg hmem
    have hok : FOk n (seen.count false + q.length) seen q := ⟨h.len, fun t ht => ⟨(h.que t (List.mem_cons_of_mem _ ht)).1, (h.que t (List.mem_cons_of_mem _ ht)).2.1⟩, Nat.le_refl _⟩
    have h4 := FOk.fold (perm := perm) (subOf es s) hok (fun x hx => (hes x (hmem x hx).1).2.2)
    have h5 := h4.sum
    simp only [List.length_cons] at hf
    have h6 : FW es perm start n s0 [] ((subOf es s).foldl (fwStep perm) (seen, q)).1 ((subOf es s).foldl (fwStep perm) (seen, q)).2 :=
      ⟨h3.len, h3.led, h3.que, fun x hx a b => by
        rcases h3.cls x hx a b with ⟨_, h7⟩ | h7
        · cases h7
        · exact .inr h7, h3.sta⟩
    exact FW.fwd hso hes hst f h6 (by omega)
/-- The flags that forward returns: what is led to. -/
theorem forward_says (hso : Sorted es) (hes : ∀ x ∈ es, 0 ≤ x.f ∧ x.f < (n : Int) ∧ 0 ≤ x.t ∧ x.t < (n : Int)) (hst : ∀ t ∈ start, 0 ≤ t ∧ t < (n : Int)) :
    (forwardF n es perm start).length = n ∧ ∀ t, 0 ≤ t → t < (n : Int) → (Gd (forwardF n es perm start) t ↔ Led es perm start t) := by
  have hflag : ∀ t, 0 ≤ t → t < (n : Int) → (Gd (flagL n start) t ↔ t ∈ start) := fun t h0 h1 => by
    unfold Gd; rw [flagL_getD h0 h1, hasB_true]
  have h0 : FW es perm start n (-1) [] (flagL n start) start := by
    refine ⟨flagL_length n start, fun t a b hg => ⟨t, (hflag t a b).1 hg, [], rfl⟩, fun t ht => ⟨(hst t ht).1, (hst t ht).2, (hflag t (hst t ht).1 (hst t ht).2).2 ht⟩, fun x hx hg hnq => ?_, fun t ht => (hflag t (hst t ht).1 (hst t ht).2).2 ht⟩
    have h := hes x hx
    exact absurd ((hflag x.f h.1 h.2.1).1 hg) hnq
  have h := h0.fwd hso hes (fun t ht => (hst t ht).1) ((flagL n start).count false + start.length + 1) (by omega)
  have hE : Go.Proofs.Ythchkddhibhenaa.fwd (subOf es) perm ((flagL n start).count false + start.length + 1) (flagL n start) start = forwardF n es perm start := rfl
  rw [hE] at h
  refine ⟨h.len, fun t a b => ⟨h.led t a b, ?_⟩⟩
  rintro ⟨s0, hs0, u, hu⟩
  have key : ∀ (u : List Int) (c d : Int), 0 ≤ c → Gd (forwardF n es perm start) c → Leads es perm c u d → Gd (forwardF n es perm start) d := by
    intro u
    induction u with
    | nil => intro c d _ hg hl; rw [← show c = d from hl]; exact hg
    | cons e u ih =>
      rintro c d hc hg ⟨x, hx, hf, _, hp, hl⟩
      refine ih x.t d (hes x hx).2.2.1 ?_ hl
      rcases h.cls x hx (by rw [hf]; exact hg) (by simp) with ⟨_, h7⟩ | h7
      · cases h7
      · exact h7 hp
  exact key u s0 t (hst s0 hs0).1 (h.sta s0 hs0) hu
end

/-- The program's Reachable is the reference's. -/
theorem reach_says {es : List Ed} {n : Nat} {al : List Int} (hso : Sorted es) (hes : ∀ x ∈ es, 0 ≤ x.f ∧ x.f < (n : Int) ∧ 0 ≤ x.t ∧ x.t < (n : Int)) (hal : ∀ x ∈ es, hasB al x.e = true) (hn : 0 < n) :
    listL (forwardF n es (fun _ => true) [0]) = rreachL es n al := by
  have h := forward_says (perm := fun _ => true) (start := [0]) hso hes (fun t ht => by rw [List.mem_singleton.1 ht]; omega)
  obtain ⟨h1, h2⟩ := h
  rw [rreachL, if_neg (by omega)]
  obtain ⟨g1, g2⟩ := fromL_says es [0] (allL n) al
  have hin := listL_in (forwardF n es (fun _ => true) [0])
  rw [h1] at hin
  refine inc_ext (listL_inc _) g1 (fun s => ?_)
  rw [g2]
  constructor
  · intro hs
    have hs0 := hin s hs
    obtain ⟨s0, h3, u, h4⟩ := (h2 s hs0.1 hs0.2).1 ((listL_mem hs0.1).1 hs)
    refine ⟨s0, h3, ?_, u, h4.congr (fun x hx _ => fPerm_true.2 ⟨allL_mem (hes x hx).2.2.1 (hes x hx).2.2.2, hal x hx⟩)⟩
    rw [List.mem_singleton.1 h3]; exact allL_mem (by omega) (by omega)
  · rintro ⟨s0, h3, _, u, h4⟩
    have hr : 0 ≤ s ∧ s < (n : Int) := by
      induction u using snoc_ind with
      | h0 => rw [← show s0 = s from h4, List.mem_singleton.1 h3]; omega
      | h1 u e ih =>
        obtain ⟨x, hx, _, _, rfl, _⟩ := h4.of_snoc
        exact ⟨(hes x hx).2.2.1, (hes x hx).2.2.2⟩
    exact (listL_mem hr.1).2 ((h2 s hr.1 hr.2).2 ⟨s0, h3, u, h4.congr (fun _ _ _ => rfl)⟩)

theorem fold_congr {W V W' V' : List Int} : ∀ (l : List Ed) (o : List Int), (∀ x ∈ l, fPerm W V x = fPerm W' V' x) → l.foldl (fStep W V) o = l.foldl (fStep W' V') o
  | [], _, _ => rfl
  | x :: l, o, h => by
    rw [List.foldl_cons, List.foldl_cons]
    have hs : fStep W V o x = fStep W' V' o x := by
      have := h x (List.mem_cons_self ..)
      unfold fStep
      by_cases hc : fPerm W V x = true
      · have hc' := hc
        rw [this] at hc'
        have e1 := fPerm_true.1 hc
        have e2 := fPerm_true.1 hc'
        simp [e1, e2]
      · have hc' := hc
        rw [this] at hc'
        rw [if_neg (fun h => hc (fPerm_true.2 h.2)), if_neg (fun h => hc' (fPerm_true.2 h.2))]
    rw [hs]
    exact fold_congr l _ (fun y hy => h y (List.mem_cons_of_mem _ hy))
theorem fLoop_congr {fs : List Ed} {W V W' V' : List Int} (h : ∀ x ∈ fs, fPerm W V x = fPerm W' V' x) : ∀ (f : Nat) (o : List Int), fLoop fs W V f o = fLoop fs W' V' f o
  | 0, _ => rfl
  | f + 1, o => by rw [fLoop, fLoop, fold_congr fs o h, fLoop_congr h f]
/-- The program's Coreachable is the reference's. -/
theorem corea_says (a : Aut) (n : Nat) (hn : a.n = n) (hn1 : n ≤ 1000000) (hes : ∀ x ∈ a.es, 0 ≤ x.f ∧ x.f < (n : Int) ∧ 0 ≤ x.t ∧ x.t < (n : Int)) (hms : ∀ s ∈ a.ms, 0 ≤ s ∧ s < (n : Int)) (hinc : Inc a.ms) :
    corea a = coreaR a.es a.ms := by
  have hD : ∀ i : Nat, i < n → IsDist a.es a.ms i ((backward n a.es a.ms).getD i 0) := fun i hi => backward_dist hn1 hes hms i hi
  have hlen := backward_length n a.es a.ms
  have hco : corea a = listL ((backward n a.es a.ms).map fun d => decide (0 ≤ d)) := by rw [corea, hn]; rfl
  rw [hco]
  generalize backward n a.es a.ms = D at *
  have hV : coreaR a.es a.ms = fLoop (a.es.map flipE) (allL n) (a.es.map Ed.e) (a.es.length + 1) a.ms := by
    unfold coreaR
    refine fLoop_congr (fun x hx => ?_) _ _
    obtain ⟨y, hy, rfl⟩ := List.mem_map.1 hx
    have h := hes y hy
    have e1 : fPerm (a.es.map Ed.f) (a.es.map Ed.e) (flipE y) = true := fPerm_true.2 ⟨show hasB (a.es.map Ed.f) y.f = true from hasB_true.2 (List.mem_map_of_mem hy), show hasB (a.es.map Ed.e) y.e = true from hasB_true.2 (List.mem_map_of_mem hy)⟩
    have e2 : fPerm (allL n) (a.es.map Ed.e) (flipE y) = true := fPerm_true.2 ⟨allL_mem h.1 h.2.1, show hasB (a.es.map Ed.e) y.e = true from hasB_true.2 (List.mem_map_of_mem hy)⟩
    rw [e1, e2]
  rw [hV]
  obtain ⟨g1, g2⟩ := fLoop_says (es := a.es.map flipE) (start := a.ms) (within := allL n) (evs := a.es.map Ed.e) (a.es.length + 1) hinc (by have := news_le (a.es.map flipE) a.ms; simp at this; omega) (fun s hs => ⟨s, hs, allL_mem (hms s hs).1 (hms s hs).2, [], rfl⟩) (fun s hs _ => hs)
  refine inc_ext (listL_inc _) g1 (fun s => ?_)
  rw [g2]
  have hin := listL_in (D.map fun d => decide (0 ≤ d))
  rw [List.length_map, hlen] at hin
  have hG : ∀ s : Int, 0 ≤ s → s < (n : Int) → (Gd (D.map fun d => decide (0 ≤ d)) s ↔ ∃ k, ReachIn a.es a.ms k s) := by
    intro s h0 h1
    have hd := hD s.toNat (by omega)
    rw [Int.toNat_of_nonneg h0] at hd
    have e : (D.map fun d => decide (0 ≤ d)).getD s.toNat false = decide (0 ≤ D.getD s.toNat 0) := by
      rw [List.getD_eq_getElem?_getD, List.getElem?_map, List.getD_eq_getElem?_getD, List.getElem?_eq_getElem (by omega)]; rfl
    unfold Gd
    rw [e, decide_eq_true_iff]
    rcases hd with ⟨h2, h3⟩ | ⟨k, h2, h3, _⟩
    · exact ⟨fun h => by omega, fun ⟨k, h⟩ => absurd h (h3 k)⟩
    · exact ⟨fun _ => ⟨k, h3⟩, fun _ => by omega⟩
  have hback : ∀ (k : Nat) (t : Int), ReachIn a.es a.ms k t → LedTo (a.es.map flipE) a.ms (allL n) (a.es.map Ed.e) t := by
    intro k
    induction k with
    | zero => intro t ht; exact ⟨t, ht, allL_mem (hms t ht).1 (hms t ht).2, [], rfl⟩
    | succ k ih =>
      rintro t ⟨x, hx, rfl, hr⟩
      obtain ⟨s0, h1, h2, u, h3⟩ := ih x.t hr
      have h := hes x hx
      exact ⟨s0, h1, h2, u ++ [(flipE x).e], h3.snoc (List.mem_map_of_mem hx) rfl (fPerm_true.2 ⟨allL_mem h.1 h.2.1, show hasB (a.es.map Ed.e) x.e = true from hasB_true.2 (List.mem_map_of_mem hx)⟩)⟩
  constructor
  · intro hs
    have hs0 := hin s hs
    obtain ⟨k, hk⟩ := (hG s hs0.1 hs0.2).1 ((listL_mem hs0.1).1 hs)
    exact hback k s hk
  · rintro ⟨s0, h1, _, u, h3⟩
    have hr : (0 ≤ s ∧ s < (n : Int)) ∧ ∃ k, ReachIn a.es a.ms k s := by
      clear g1 g2
      induction u using snoc_ind generalizing s with
      | h0 => rw [← show s0 = s from h3]; exact ⟨hms s0 h1, 0, h1⟩
      | h1 u e ih =>
        obtain ⟨x, hx, h4, _, rfl, _⟩ := h3.of_snoc
        obtain ⟨y, hy, rfl⟩ := List.mem_map.1 hx
        obtain ⟨_, k, hk⟩ := ih _ h4
        have h := hes y hy
        exact ⟨⟨h.1, h.2.1⟩, k + 1, y, hy, rfl, hk⟩
    exact (listL_mem hr.1.1).2 ((hG s hr.1.1 hr.1.2).2 hr.2)
end Go.Proofs.Ythchkddhibhenaa

/- ReachCycles returns true. -/
namespace Go.Proofs.Ythchkddhibhenaa
open Go Go.RowKit

/-- What holds of the slots of a region. -/
def CL4 (Av : Value) (b : Int) (E : List Int) (P : List Int) (C : List Int) (bo : Bool) : Nat → Value → World → Prop
  | 0, v, _ => v = Av
  | 1, v, _ => v = .int .u8 b
  | 2, v, W => ∃ a c, v = .slice a (E).length c ∧ RdI W v (E)
  | 3, v, W => ∃ a0 c0 a1 c1, v = .tuple #[.slice a0 (P).length c0, .slice a1 (C).length c1, .bool bo, .int .i64 0] ∧ RdI W (.slice a0 (P).length c0) (P) ∧ RdI W (.slice a1 (C).length c1) (C)
  | 4, v, W => ∃ a0 c0 a1 c1, v = .tuple #[.slice a0 (P).length c0, .slice a1 (C).length c1, .bool bo, .int .i64 0] ∧ RdI W (.slice a0 (P).length c0) (P) ∧ RdI W (.slice a1 (C).length c1) (C)
  | 5, v, W => ∃ a c, v = .slice a (P).length c ∧ RdI W v (P)
  | 6, v, W => ∃ a c, v = .slice a (C).length c ∧ RdI W v (C)
  | 7, v, _ => v = .bool bo
  | 8, v, _ => v = .int .i64 0
  | 9, v, W => ∃ a c, v = .slice a (P).length c ∧ RdI W v (P)
  | 10, v, W => ∃ a c, v = .slice a (C).length c ∧ RdI W v (C)
  | 11, v, _ => v = .bool bo
  | 12, v, _ => v = .int .i64 0
  | _ + 13, _, _ => False
theorem CL4_mono {Av : Value} {b : Int} {E : List Int} {P : List Int} {C : List Int} {bo : Bool} : ∀ j v W W', Below W.heap.size W W' → CL4 Av b E P C bo j v W → CL4 Av b E P C bo j v W'
  | 0, _, _, _, _, h => h
  | 1, _, _, _, _, h => h
  | 2, _, _, _, hb, ⟨a, c, h1, h2⟩ => ⟨a, c, h1, h2.mono hb⟩
  | 3, _, _, _, hb, ⟨_, _, _, _, e, h0, h1⟩ => ⟨_, _, _, _, e, h0.mono hb, h1.mono hb⟩
  | 4, _, _, _, hb, ⟨_, _, _, _, e, h0, h1⟩ => ⟨_, _, _, _, e, h0.mono hb, h1.mono hb⟩
  | 5, _, _, _, hb, ⟨a, c, h1, h2⟩ => ⟨a, c, h1, h2.mono hb⟩
  | 6, _, _, _, hb, ⟨a, c, h1, h2⟩ => ⟨a, c, h1, h2.mono hb⟩
  | 7, _, _, _, _, h => h
  | 8, _, _, _, _, h => h
  | 9, _, _, _, hb, ⟨a, c, h1, h2⟩ => ⟨a, c, h1, h2.mono hb⟩
  | 10, _, _, _, hb, ⟨a, c, h1, h2⟩ => ⟨a, c, h1, h2.mono hb⟩
  | 11, _, _, _, _, h => h
  | 12, _, _, _, _, h => h
  | _ + 13, _, _, _, _, h => h.elim
theorem list_CL4 {us : List Value} (h : us.length = 13) : ∃ u0 u1 u2 u3 u4 u5 u6 u7 u8 u9 u10 u11 u12, us = [u0, u1, u2, u3, u4, u5, u6, u7, u8, u9, u10, u11, u12] := by
  match us, h with
  | [u0, u1, u2, u3, u4, u5, u6, u7, u8, u9, u10, u11, u12], _ => exact ⟨_, _, _, _, _, _, _, _, _, _, _, _, _, rfl⟩
/-- What holds of the slots of a region. -/
def CL5 (Av : Value) (b : Int) (E : List Int) (P : List Int) (C : List Int) (bo : Bool) : Nat → Value → World → Prop
  | 0, v, _ => v = Av
  | 1, v, _ => v = .int .u8 b
  | 2, v, W => ∃ a c, v = .slice a (E).length c ∧ RdI W v (E)
  | 3, v, W => ∃ a0 c0 a1 c1, v = .tuple #[.slice a0 (P).length c0, .slice a1 (C).length c1, .bool bo] ∧ RdI W (.slice a0 (P).length c0) (P) ∧ RdI W (.slice a1 (C).length c1) (C)
  | 4, v, W => ∃ a0 c0 a1 c1, v = .tuple #[.slice a0 (P).length c0, .slice a1 (C).length c1, .bool bo] ∧ RdI W (.slice a0 (P).length c0) (P) ∧ RdI W (.slice a1 (C).length c1) (C)
  | 5, v, W => ∃ a c, v = .slice a (P).length c ∧ RdI W v (P)
  | 6, v, W => ∃ a c, v = .slice a (C).length c ∧ RdI W v (C)
  | 7, v, _ => v = .bool bo
  | 8, v, W => ∃ a c, v = .slice a (P).length c ∧ RdI W v (P)
  | 9, v, W => ∃ a c, v = .slice a (C).length c ∧ RdI W v (C)
  | 10, v, _ => v = .bool bo
  | _ + 11, _, _ => False
theorem CL5_mono {Av : Value} {b : Int} {E : List Int} {P : List Int} {C : List Int} {bo : Bool} : ∀ j v W W', Below W.heap.size W W' → CL5 Av b E P C bo j v W → CL5 Av b E P C bo j v W'
  | 0, _, _, _, _, h => h
  | 1, _, _, _, _, h => h
  | 2, _, _, _, hb, ⟨a, c, h1, h2⟩ => ⟨a, c, h1, h2.mono hb⟩
  | 3, _, _, _, hb, ⟨_, _, _, _, e, h0, h1⟩ => ⟨_, _, _, _, e, h0.mono hb, h1.mono hb⟩
  | 4, _, _, _, hb, ⟨_, _, _, _, e, h0, h1⟩ => ⟨_, _, _, _, e, h0.mono hb, h1.mono hb⟩
  | 5, _, _, _, hb, ⟨a, c, h1, h2⟩ => ⟨a, c, h1, h2.mono hb⟩
  | 6, _, _, _, hb, ⟨a, c, h1, h2⟩ => ⟨a, c, h1, h2.mono hb⟩
  | 7, _, _, _, _, h => h
  | 8, _, _, _, hb, ⟨a, c, h1, h2⟩ => ⟨a, c, h1, h2.mono hb⟩
  | 9, _, _, _, hb, ⟨a, c, h1, h2⟩ => ⟨a, c, h1, h2.mono hb⟩
  | 10, _, _, _, _, h => h
  | _ + 11, _, _, _, _, h => h.elim
theorem list_CL5 {us : List Value} (h : us.length = 11) : ∃ u0 u1 u2 u3 u4 u5 u6 u7 u8 u9 u10, us = [u0, u1, u2, u3, u4, u5, u6, u7, u8, u9, u10] := by
  match us, h with
  | [u0, u1, u2, u3, u4, u5, u6, u7, u8, u9, u10], _ => exact ⟨_, _, _, _, _, _, _, _, _, _, _, rfl⟩
section
variable {n : Nat} {es : List Ed} {perm : Ed → Bool} {s : Int}
theorem rStep_len : ∀ (l : List Ed) {acc : Option (List Int)}, (∀ b, acc = some b → b.length ≤ n + 2) → ∀ b, l.foldl (rStep n es perm s) acc = some b → b.length ≤ n + 2
  | [], acc, h, b, hb => h b hb
  | x :: l, acc, h, b, hb => by
    refine rStep_len l (acc := rStep n es perm s acc x) ?_ b hb
    intro b' hb'
    unfold rStep at hb'
    split at hb'
    · split at hb'
      · exact h b' hb'
      · rename_i r hr
        have h1 := pathF_len hr
        split at hb'
        · cases hb'; simp; omega
        · split at hb'
          · cases hb'; simp; omega
          · exact h b' hb'
    · exact h b' hb'
theorem cycI_len : ∀ (l : List Bool) (k : Nat) {p : List Int × List Int}, cycI n es perm l k = some p → p.1.length ≤ n + 1 ∧ p.2.length ≤ n + 2
  | [], _, _, h => by cases h
  | b :: l, k, p, h => by
    cases b with
    | false => rw [cycI_skip] at h; exact cycI_len l (k + 1) h
    | true =>
      cases hr : roundF n es perm k with
      | none => rw [cycI_none hr] at h; exact cycI_len l (k + 1) h
      | some c =>
        rw [cycI_some hr] at h
        cases h
        refine ⟨?_, rStep_len _ (fun b e => by cases e) c hr⟩
        cases hq : pathF n es (fun t => t == (k : Int)) (fun _ => true) 0 with
        | none => simp
        | some q => exact pathF_len hq
end
theorem CycPost.tup {r : Option (List Int × List Int)} {u : Value} {w' : World} (h : CycPost 0 r u w') : ∃ a1 c1 a2 c2, u = .tuple #[.slice a1 (r.getD ([], [])).1.length c1, .slice a2 (r.getD ([], [])).2.length c2, .bool r.isSome, .int .i64 0] ∧ RdI w' (.slice a1 (r.getD ([], [])).1.length c1) (r.getD ([], [])).1 ∧ RdI w' (.slice a2 (r.getD ([], [])).2.length c2) (r.getD ([], [])).2 := by
  unfold CycPost at h
  rw [if_pos rfl] at h
  cases r with
  | none => exact ⟨none, 0, none, 0, h, RdI.nil0 _, RdI.nil0 _⟩
  | some p =>
    obtain ⟨v1, v2, rfl, ⟨a1, c1, rfl, h1⟩, ⟨a2, c2, rfl, h2⟩⟩ := h
    exact ⟨a1, c1, a2, c2, rfl, ⟨a1, c1, rfl, h1⟩, ⟨a2, c2, rfl, h2⟩⟩
theorem bits8_err0 (b : Int) : setErr 32 none (bitsL b 8) = 0 := setErr_ok (bitsL_pairwise b 8) (fun x hx => by have := bitsL_in b 8 x hx; omega) (fun q hq => by cases hq)

set_option maxRecDepth 100000 in
set_option maxHeartbeats 6000000 in
theorem reachCycles_any (xs : List Int) (hd : Desc xs) (b : Int) (hb0 : 0 ≤ b) (hb1 : b < 256) (w : World) :
    Calls Try.prog 7 #[.agg (bytes8 xs), .int .u8 b] w (Ret w fun u _ => u = .bool true) := by
  have Hsz := Lib.hid hd.size
  have hmake := fun w => make_any xs w hd
  have Hmake := Lib.hid hmake
  clear hd hmake
  generalize bytes8 xs = cs at *
  have hN := mkN_le xs
  have hle := mkEs_le xs (mkN xs)
  have hes4 : (mkA xs).es.length ≤ 100000 := by show (mkEs xs (mkN xs)).length ≤ 100000; omega
  have hal : ∀ x ∈ (mkA xs).es, hasB (mkA xs).al x.e = true := by
    intro x hx
    have h := mkEs_mem hx
    rw [hasB_true]
    show x.e ∈ [0, 1, 2, 3]
    have : x.e = 0 ∨ x.e = 1 ∨ x.e = 2 ∨ x.e = 3 := by omega
    rcases this with h | h | h | h <;> rw [h] <;> decide
  have hfl : (reachF (mkN xs) (mkA xs).es).length = mkN xs := by
    rw [reachF, if_neg (by omega)]
    exact forwardF_length (mkN xs) (mkA xs).es [0] (fun x hx => (mkA_es xs x hx).2.2) (fun s hs => by rw [List.mem_singleton.1 hs]; omega)
  have hreach : listL (reachF (mkN xs) (mkA xs).es) = rreachL (mkA xs).es (mkN xs) (mkA xs).al := by
    rw [reachF, if_neg (by omega)]
    exact reach_says (mkA_sorted xs) (mkA_es xs) hal (by omega)
  have hLl : (rreachL (mkA xs).es (mkN xs) (mkA xs).al).length ≤ 1000000 := by
    rw [← hreach]
    have := listK_le (reachF (mkN xs) (mkA xs).es) (reachF (mkN xs) (mkA xs).es).length
    unfold listL
    omega
  have heq : cycI (mkN xs) (mkA xs).es (fun x => hasB (bitsL b 8) x.e) (reachF (mkN xs) (mkA xs).es) 0 = cycR (mkN xs) (mkA xs).es (mkA xs).al (bitsL b 8) (rreachL (mkA xs).es (mkN xs) (mkA xs).al) := by
    rw [← hreach, ← idxL_list]
    exact cyc_eq (mkA_sorted xs) (fun x hx => (mkA_es xs x hx).2.2) (mkA_ev xs) hal _ 0 (by rw [hfl]; omega)
  have hlb := bitsL_le b 8
  have hc1 : ∀ (W : World) (va vb : Value), RdA W va (mkA xs) → RdI W vb (bitsL b 8) → Calls Try.prog 32 #[va, vb] W (Ret W (CycPost 0 (cycI (mkN xs) (mkA xs).es (fun x => hasB (bitsL b 8) x.e) (reachF (mkN xs) (mkA xs).es) 0))) := by
    intro W va vb h1 h2
    have h := cycle_any va vb (mkA xs) (bitsL b 8) W h1 (mkA_small xs) h2 (by omega)
    rwa [show err2 (mkA xs).err (setErr 32 none (bitsL b 8)) = 0 by rw [err2, if_pos (mkA_err xs)]; exact bits8_err0 b] at h
  have hc2 : ∀ (W : World) (va vb : Value), RdA W va (mkA xs) → RdI W vb (bitsL b 8) → Calls Try.prog 33 #[va, vb] W (Ret W (Q3 (cycI (mkN xs) (mkA xs).es (fun x => hasB (bitsL b 8) x.e) (reachF (mkN xs) (mkA xs).es) 0))) := by
    intro W va vb h1 h2
    rw [heq]
    exact rcycle_any va vb (mkA xs).al (mkA xs).ms (bitsL b 8) (mkN xs) (mkA xs).es W h1 (mkA_small xs) hes4 (by omega) h2 (by omega) (by show 4 ≤ 1000000; decide) hLl
  have hlen : ∀ p, cycI (mkN xs) (mkA xs).es (fun x => hasB (bitsL b 8) x.e) (reachF (mkN xs) (mkA xs).es) 0 = some p → p.1.length ≤ mkN xs + 1 ∧ p.2.length ≤ mkN xs + 2 := fun p h => cycI_len _ _ h
  clear heq
  generalize cycI (mkN xs) (mkA xs).es (fun x => hasB (bitsL b 8) x.e) (reachF (mkN xs) (mkA xs).es) 0 = R at *
  have hP : (R.getD ([], [])).1.length ≤ 1000000 ∧ (R.getD ([], [])).2.length ≤ 1000000 := by
    cases R with
    | none => exact ⟨by decide, by decide⟩
    | some p => have := hlen p rfl; exact ⟨by show p.1.length ≤ _; omega, by show p.2.length ≤ _; omega⟩
  have hC1 : ∀ (W : World) (va vb : Value), RdA W va (mkA xs) → RdI W vb (bitsL b 8) → Calls Try.prog 32 #[va, vb] W (Ret W fun u w' => ∃ a1 c1 a2 c2, u = .tuple #[.slice a1 (R.getD ([], [])).1.length c1, .slice a2 (R.getD ([], [])).2.length c2, .bool R.isSome, .int .i64 0] ∧ RdI w' (.slice a1 (R.getD ([], [])).1.length c1) (R.getD ([], [])).1 ∧ RdI w' (.slice a2 (R.getD ([], [])).2.length c2) (R.getD ([], [])).2) := fun W va vb h1 h2 => (hc1 W va vb h1 h2).mono (fun e w' ⟨u, he, hu, hb⟩ => ⟨u, he, hu.tup, hb⟩)
  have hC2 : ∀ (W : World) (va vb : Value), RdA W va (mkA xs) → RdI W vb (bitsL b 8) → Calls Try.prog 33 #[va, vb] W (Ret W fun u w' => ∃ a1 c1 a2 c2, u = .tuple #[.slice a1 (R.getD ([], [])).1.length c1, .slice a2 (R.getD ([], [])).2.length c2, .bool R.isSome] ∧ RdI w' (.slice a1 (R.getD ([], [])).1.length c1) (R.getD ([], [])).1 ∧ RdI w' (.slice a2 (R.getD ([], [])).2.length c2) (R.getD ([], [])).2) := hc2
  obtain ⟨hP1, hP2⟩ := hP
  generalize (R.getD ([], [])).1 = P at *
  generalize (R.getD ([], [])).2 = C at *
  generalize R.isSome = bo at *
  have HC1 := Lib.hid hC1
  have HC2 := Lib.hid hC2
  clear hle hes4 hal hfl hreach hLl hlb hc1 hc2 hlen hC1 hC2
  go_enter Try.func7, Try.ntmps7
  go_wp2_with fail
  refine (known_any _).mono ?_
  rintro e w1 ⟨_, rfl, rfl, hbk⟩
  have hW1 := ((Below.refl w.heap.size w).alloc (Nat.le_refl _) (.cells cs 25)).trans (hbk.mono (by simp))
  have hx1 : w1.heap[w.heap.size]? = some (.cells cs 25 (0, 0)) := (hbk.block _ (by simp)).trans (heap_at rfl)
  have Hx1 := Lib.hid hx1
  clear hbk hx1
  go_wp2_with (first | (with_reducible refine wpList_load_row rfl 25 (.tmp 2) rfl w.heap.size rfl 25 cs (0, 0) _ (Hx1.out) Try.underlying25 rfl Hsz.out ?_) | (go_at_call 13; refine (Hmake.out _).mono ?_; rintro e w2 ⟨v2, rfl, ha2, hb2⟩; have hW2 := hW1.trans (hb2.mono hW1.size); have Ha2 := Lib.hid ha2; obtain ⟨aa, ca, am, cm, ae, ce, rfl⟩ := mkA_val ha2; clear ha2))
  have hAl := bel_alloc w2 (.cells #[.slice aa 4 ca, .int .i64 (mkN xs : Nat), .slice am (mkA xs).ms.length cm, .slice ae (mkA xs).es.length ce] 31)
  have Ha3 := Lib.hid (Ha2.out.mono hAl)
  have hW3 := hW2.trans (hAl.mono hW2.size)
  have hz : w2.heap.size < (w2.alloc (.cells #[.slice aa 4 ca, .int .i64 (mkN xs : Nat), .slice am (mkA xs).ms.length cm, .slice ae (mkA xs).es.length ce] 31)).heap.size := by simp
  have z0 : (w2.alloc (.cells #[.slice aa 4 ca, .int .i64 (mkN xs : Nat), .slice am (mkA xs).ms.length cm, .slice ae (mkA xs).es.length ce] 31)).cell? ⟨w2.heap.size, 0, none⟩ = some (.slice aa 4 ca) := by simp [go_sem]
  have z1 : (w2.alloc (.cells #[.slice aa 4 ca, .int .i64 (mkN xs : Nat), .slice am (mkA xs).ms.length cm, .slice ae (mkA xs).es.length ce] 31)).cell? ⟨w2.heap.size, 1, none⟩ = some (.int .i64 (mkN xs : Nat)) := by simp [go_sem]
  have z2 : (w2.alloc (.cells #[.slice aa 4 ca, .int .i64 (mkN xs : Nat), .slice am (mkA xs).ms.length cm, .slice ae (mkA xs).es.length ce] 31)).cell? ⟨w2.heap.size, 2, none⟩ = some (.slice am (mkA xs).ms.length cm) := by simp [go_sem]
  have z3 : (w2.alloc (.cells #[.slice aa 4 ca, .int .i64 (mkN xs : Nat), .slice am (mkA xs).ms.length cm, .slice ae (mkA xs).es.length ce] 31)).cell? ⟨w2.heap.size, 3, none⟩ = some (.slice ae (mkA xs).es.length ce) := by simp [go_sem]
  clear hAl hb2
  generalize hwr : w2.alloc (.cells #[.slice aa 4 ca, .int .i64 (mkN xs : Nat), .slice am (mkA xs).ms.length cm, .slice ae (mkA xs).es.length ce] 31) = wr at *
  clear hwr
  have hW3d := hW3.drew
  refine wp_region_mono2 (CL4 (.agg #[.slice aa 4 ca, .int .i64 (mkN xs : Nat), .slice am (mkA xs).ms.length cm, .slice ae (mkA xs).es.length ce]) (b) (bitsL b 8) (P) (C) (bo)) [18, 19, 20, 21, 17, 22, 23, 24, 25, 6, 7, 8, 9] CL4_mono rfl (by kernel_rfl) (by kernel_rfl) ?_ ?_
  · skip
    refine Steps.cons rfl ?_ ?_
    · intro l us W hl hI hd hn K' hK
      have hHas := hI.has
      have hbel := hI.bel
      have hlen := hI.len
      obtain ⟨u0, u1, u2, u3, u4, u5, u6, u7, u8, u9, u10, u11, u12, rfl⟩ := list_CL4 hlen
      have HK : Hid (∀ v W', Below W.heap.size W W' → CL4 (.agg #[.slice aa 4 ca, .int .i64 (mkN xs : Nat), .slice am (mkA xs).ms.length cm, .slice ae (mkA xs).es.length ce]) (b) (bitsL b 8) (P) (C) (bo) 0 v W' → ∀ a', puts _ _ [v, u1, u2, u3, u4, u5, u6, u7, u8, u9, u10, u11, u12] = a' → K' a' W') := fun v W' hb hv a' e => hK _ a' W' e (hI.step CL4_mono hl hb hv)
      have hWW := hW3d.trans (hbel.mono hW3d.size)
      have y0 := keep hbel z0 hz
      have y1 := keep hbel z1 hz
      have y2 := keep hbel z2 hz
      have y3 := keep hbel z3 hz
      clear hl hI hd hn hK hHas hlen 
      refine StepG.mk ?_
      simp only [puts, Act.put]
      go_simp
      exact HK.out ((.agg #[.slice aa 4 ca, .int .i64 (mkN xs : Nat), .slice am (mkA xs).ms.length cm, .slice ae (mkA xs).es.length ce])) _ (Below.refl _ _) rfl _ (by simp [puts, Act.put])
    refine Steps.cons rfl ?_ ?_
    · intro l us W hl hI hd hn K' hK
      have hHas := hI.has
      have hbel := hI.bel
      have hlen := hI.len
      obtain ⟨u0, u1, u2, u3, u4, u5, u6, u7, u8, u9, u10, u11, u12, rfl⟩ := list_CL4 hlen
      have HK : Hid (∀ v W', Below W.heap.size W W' → CL4 (.agg #[.slice aa 4 ca, .int .i64 (mkN xs : Nat), .slice am (mkA xs).ms.length cm, .slice ae (mkA xs).es.length ce]) (b) (bitsL b 8) (P) (C) (bo) 1 v W' → ∀ a', puts _ _ [u0, v, u2, u3, u4, u5, u6, u7, u8, u9, u10, u11, u12] = a' → K' a' W') := fun v W' hb hv a' e => hK _ a' W' e (hI.step CL4_mono hl hb hv)
      have hWW := hW3d.trans (hbel.mono hW3d.size)
      clear hl hI hd hn hK hHas hlen 
      refine StepG.mk ?_
      simp only [puts, Act.put]
      go_simp
      exact HK.out (.int .u8 b) _ (Below.refl _ _) rfl _ (by simp [puts, Act.put])
    refine Steps.cons rfl ?_ ?_
    · intro l us W hl hI hd hn K' hK
      have hHas := hI.has
      have hbel := hI.bel
      have hlen := hI.len
      obtain ⟨u0, u1, u2, u3, u4, u5, u6, u7, u8, u9, u10, u11, u12, rfl⟩ := list_CL4 hlen
      have HK : Hid (∀ v W', Below W.heap.size W W' → CL4 (.agg #[.slice aa 4 ca, .int .i64 (mkN xs : Nat), .slice am (mkA xs).ms.length cm, .slice ae (mkA xs).es.length ce]) (b) (bitsL b 8) (P) (C) (bo) 2 v W' → ∀ a', puts _ _ [u0, u1, v, u3, u4, u5, u6, u7, u8, u9, u10, u11, u12] = a' → K' a' W') := fun v W' hb hv a' e => hK _ a' W' e (hI.step CL4_mono hl hb hv)
      have hWW := hW3d.trans (hbel.mono hW3d.size)
      have d1 : l.getD 1 false = true := by
        simp [Region.binds] at hd
        simp [hd]
      obtain rfl : u1 = _ := hHas 1 (by decide) d1
      clear hl hI hd hn hK hHas hlen d1
      refine StepG.mk ?_
      simp only [puts, Act.put]
      go_simp
      refine (bits_any b 8 _ hb0 hb1 (by decide)).mono ?_
      rintro e w9 ⟨v9, rfl, hown9, hb9⟩
      have HL9 := Lib.hid (RdI.of_own hown9)
      obtain ⟨a9, c9, rfl, hr9⟩ := RdS.of_own hown9
      clear hr9 hown9
      go_simp
      exact HK.out _ _ hb9 ⟨_, _, rfl, HL9.out⟩ _ (by simp [puts, Act.put])
    refine Steps.cons rfl ?_ ?_
    · intro l us W hl hI hd hn K' hK
      have hHas := hI.has
      have hbel := hI.bel
      have hlen := hI.len
      obtain ⟨u0, u1, u2, u3, u4, u5, u6, u7, u8, u9, u10, u11, u12, rfl⟩ := list_CL4 hlen
      have HK : Hid (∀ v W', Below W.heap.size W W' → CL4 (.agg #[.slice aa 4 ca, .int .i64 (mkN xs : Nat), .slice am (mkA xs).ms.length cm, .slice ae (mkA xs).es.length ce]) (b) (bitsL b 8) (P) (C) (bo) 3 v W' → ∀ a', puts _ _ [u0, u1, u2, v, u4, u5, u6, u7, u8, u9, u10, u11, u12] = a' → K' a' W') := fun v W' hb hv a' e => hK _ a' W' e (hI.step CL4_mono hl hb hv)
      have hWW := hW3d.trans (hbel.mono hW3d.size)
      have d0 : l.getD 0 false = true := by
        simp [Region.binds] at hd
        simp [hd]
      have d2 : l.getD 2 false = true := by
        simp [Region.binds] at hd
        simp [hd]
      obtain rfl : u0 = _ := hHas 0 (by decide) d0
      obtain ⟨a2, c2, e2, hr2⟩ : ∃ a c, u2 = .slice a ((bitsL b 8)).length c ∧ RdI W u2 ((bitsL b 8)) := hHas 2 (by decide) d2
      subst e2
      have Hr2 := Lib.hid hr2
      clear hr2
      clear hl hI hd hn hK hHas hlen d0 d2
      refine StepG.mk ?_
      simp only [puts, Act.put]
      go_simp
      refine (HC1.out W _ _ ((Ha3.out.mono (bel_drew _)).mono hbel) Hr2.out).mono ?_
      rintro e w9 ⟨u9, rfl, ⟨a9, c9, a10, c10, rfl, hq9, hq10⟩, hb9⟩
      have Hq9 := Lib.hid hq9
      have Hq10 := Lib.hid hq10
      clear hq9 hq10
      go_simp
      exact HK.out _ _ hb9 ⟨_, _, _, _, rfl, Hq9.out, Hq10.out⟩ _ (by simp [puts, Act.put])
    refine Steps.cons rfl ?_ ?_
    · intro l us W hl hI hd hn K' hK
      have hHas := hI.has
      have hbel := hI.bel
      have hlen := hI.len
      obtain ⟨u0, u1, u2, u3, u4, u5, u6, u7, u8, u9, u10, u11, u12, rfl⟩ := list_CL4 hlen
      have HK : Hid (∀ v W', Below W.heap.size W W' → CL4 (.agg #[.slice aa 4 ca, .int .i64 (mkN xs : Nat), .slice am (mkA xs).ms.length cm, .slice ae (mkA xs).es.length ce]) (b) (bitsL b 8) (P) (C) (bo) 4 v W' → ∀ a', puts _ _ [u0, u1, u2, u3, v, u5, u6, u7, u8, u9, u10, u11, u12] = a' → K' a' W') := fun v W' hb hv a' e => hK _ a' W' e (hI.step CL4_mono hl hb hv)
      have hWW := hW3d.trans (hbel.mono hW3d.size)
      have d3 : l.getD 3 false = true := by
        simp [Region.binds] at hd
        simp [hd]
      obtain ⟨a3_0, c3_0, a3_1, c3_1, e3, hr3_0, hr3_1⟩ : ∃ a0 c0 a1 c1, u3 = .tuple #[.slice a0 (P).length c0, .slice a1 (C).length c1, .bool bo, .int .i64 0] ∧ RdI W (.slice a0 (P).length c0) (P) ∧ RdI W (.slice a1 (C).length c1) (C) := hHas 3 (by decide) d3
      subst e3
      have Hr3_0 := Lib.hid hr3_0
      clear hr3_0
      have Hr3_1 := Lib.hid hr3_1
      clear hr3_1
      clear hl hI hd hn hK hHas hlen d3
      refine StepG.mk ?_
      simp only [puts, Act.put]
      go_simp
      exact HK.out _ _ (Below.refl _ _) ⟨_, _, _, _, rfl, Hr3_0.out, Hr3_1.out⟩ _ (by simp [puts, Act.put])
    refine Steps.cons rfl ?_ ?_
    · intro l us W hl hI hd hn K' hK
      have hHas := hI.has
      have hbel := hI.bel
      have hlen := hI.len
      obtain ⟨u0, u1, u2, u3, u4, u5, u6, u7, u8, u9, u10, u11, u12, rfl⟩ := list_CL4 hlen
      have HK : Hid (∀ v W', Below W.heap.size W W' → CL4 (.agg #[.slice aa 4 ca, .int .i64 (mkN xs : Nat), .slice am (mkA xs).ms.length cm, .slice ae (mkA xs).es.length ce]) (b) (bitsL b 8) (P) (C) (bo) 5 v W' → ∀ a', puts _ _ [u0, u1, u2, u3, u4, v, u6, u7, u8, u9, u10, u11, u12] = a' → K' a' W') := fun v W' hb hv a' e => hK _ a' W' e (hI.step CL4_mono hl hb hv)
      have hWW := hW3d.trans (hbel.mono hW3d.size)
      have d4 : l.getD 4 false = true := by
        simp [Region.binds] at hd
        simp [hd]
      obtain ⟨a4_0, c4_0, a4_1, c4_1, e4, hr4_0, hr4_1⟩ : ∃ a0 c0 a1 c1, u4 = .tuple #[.slice a0 (P).length c0, .slice a1 (C).length c1, .bool bo, .int .i64 0] ∧ RdI W (.slice a0 (P).length c0) (P) ∧ RdI W (.slice a1 (C).length c1) (C) := hHas 4 (by decide) d4
      subst e4
      have Hr4_0 := Lib.hid hr4_0
      clear hr4_0
      have Hr4_1 := Lib.hid hr4_1
      clear hr4_1
      clear hl hI hd hn hK hHas hlen d4
      refine StepG.mk ?_
      simp only [puts, Act.put]
      go_simp
      exact HK.out _ _ (Below.refl _ _) ⟨_, _, rfl, Hr4_0.out⟩ _ (by simp [puts, Act.put])
    refine Steps.cons rfl ?_ ?_
    · intro l us W hl hI hd hn K' hK
      have hHas := hI.has
      have hbel := hI.bel
      have hlen := hI.len
      obtain ⟨u0, u1, u2, u3, u4, u5, u6, u7, u8, u9, u10, u11, u12, rfl⟩ := list_CL4 hlen
      have HK : Hid (∀ v W', Below W.heap.size W W' → CL4 (.agg #[.slice aa 4 ca, .int .i64 (mkN xs : Nat), .slice am (mkA xs).ms.length cm, .slice ae (mkA xs).es.length ce]) (b) (bitsL b 8) (P) (C) (bo) 6 v W' → ∀ a', puts _ _ [u0, u1, u2, u3, u4, u5, v, u7, u8, u9, u10, u11, u12] = a' → K' a' W') := fun v W' hb hv a' e => hK _ a' W' e (hI.step CL4_mono hl hb hv)
      have hWW := hW3d.trans (hbel.mono hW3d.size)
      have d4 : l.getD 4 false = true := by
        simp [Region.binds] at hd
        simp [hd]
      obtain ⟨a4_0, c4_0, a4_1, c4_1, e4, hr4_0, hr4_1⟩ : ∃ a0 c0 a1 c1, u4 = .tuple #[.slice a0 (P).length c0, .slice a1 (C).length c1, .bool bo, .int .i64 0] ∧ RdI W (.slice a0 (P).length c0) (P) ∧ RdI W (.slice a1 (C).length c1) (C) := hHas 4 (by decide) d4
      subst e4
      have Hr4_0 := Lib.hid hr4_0
      clear hr4_0
      have Hr4_1 := Lib.hid hr4_1
      clear hr4_1
      clear hl hI hd hn hK hHas hlen d4
      refine StepG.mk ?_
      simp only [puts, Act.put]
      go_simp
      exact HK.out _ _ (Below.refl _ _) ⟨_, _, rfl, Hr4_1.out⟩ _ (by simp [puts, Act.put])
    refine Steps.cons rfl ?_ ?_
    · intro l us W hl hI hd hn K' hK
      have hHas := hI.has
      have hbel := hI.bel
      have hlen := hI.len
      obtain ⟨u0, u1, u2, u3, u4, u5, u6, u7, u8, u9, u10, u11, u12, rfl⟩ := list_CL4 hlen
      have HK : Hid (∀ v W', Below W.heap.size W W' → CL4 (.agg #[.slice aa 4 ca, .int .i64 (mkN xs : Nat), .slice am (mkA xs).ms.length cm, .slice ae (mkA xs).es.length ce]) (b) (bitsL b 8) (P) (C) (bo) 7 v W' → ∀ a', puts _ _ [u0, u1, u2, u3, u4, u5, u6, v, u8, u9, u10, u11, u12] = a' → K' a' W') := fun v W' hb hv a' e => hK _ a' W' e (hI.step CL4_mono hl hb hv)
      have hWW := hW3d.trans (hbel.mono hW3d.size)
      have d4 : l.getD 4 false = true := by
        simp [Region.binds] at hd
        simp [hd]
      obtain ⟨a4_0, c4_0, a4_1, c4_1, e4, hr4_0, hr4_1⟩ : ∃ a0 c0 a1 c1, u4 = .tuple #[.slice a0 (P).length c0, .slice a1 (C).length c1, .bool bo, .int .i64 0] ∧ RdI W (.slice a0 (P).length c0) (P) ∧ RdI W (.slice a1 (C).length c1) (C) := hHas 4 (by decide) d4
      subst e4
      have Hr4_0 := Lib.hid hr4_0
      clear hr4_0
      have Hr4_1 := Lib.hid hr4_1
      clear hr4_1
      clear hl hI hd hn hK hHas hlen d4
      refine StepG.mk ?_
      simp only [puts, Act.put]
      go_simp
      exact HK.out (.bool bo) _ (Below.refl _ _) rfl _ (by simp [puts, Act.put])
    refine Steps.cons rfl ?_ ?_
    · intro l us W hl hI hd hn K' hK
      have hHas := hI.has
      have hbel := hI.bel
      have hlen := hI.len
      obtain ⟨u0, u1, u2, u3, u4, u5, u6, u7, u8, u9, u10, u11, u12, rfl⟩ := list_CL4 hlen
      have HK : Hid (∀ v W', Below W.heap.size W W' → CL4 (.agg #[.slice aa 4 ca, .int .i64 (mkN xs : Nat), .slice am (mkA xs).ms.length cm, .slice ae (mkA xs).es.length ce]) (b) (bitsL b 8) (P) (C) (bo) 8 v W' → ∀ a', puts _ _ [u0, u1, u2, u3, u4, u5, u6, u7, v, u9, u10, u11, u12] = a' → K' a' W') := fun v W' hb hv a' e => hK _ a' W' e (hI.step CL4_mono hl hb hv)
      have hWW := hW3d.trans (hbel.mono hW3d.size)
      have d4 : l.getD 4 false = true := by
        simp [Region.binds] at hd
        simp [hd]
      obtain ⟨a4_0, c4_0, a4_1, c4_1, e4, hr4_0, hr4_1⟩ : ∃ a0 c0 a1 c1, u4 = .tuple #[.slice a0 (P).length c0, .slice a1 (C).length c1, .bool bo, .int .i64 0] ∧ RdI W (.slice a0 (P).length c0) (P) ∧ RdI W (.slice a1 (C).length c1) (C) := hHas 4 (by decide) d4
      subst e4
      have Hr4_0 := Lib.hid hr4_0
      clear hr4_0
      have Hr4_1 := Lib.hid hr4_1
      clear hr4_1
      clear hl hI hd hn hK hHas hlen d4
      refine StepG.mk ?_
      simp only [puts, Act.put]
      go_simp
      exact HK.out (.int .i64 0) _ (Below.refl _ _) rfl _ (by simp [puts, Act.put])
    refine Steps.cons rfl ?_ ?_
    · intro l us W hl hI hd hn K' hK
      have hHas := hI.has
      have hbel := hI.bel
      have hlen := hI.len
      obtain ⟨u0, u1, u2, u3, u4, u5, u6, u7, u8, u9, u10, u11, u12, rfl⟩ := list_CL4 hlen
      have HK : Hid (∀ v W', Below W.heap.size W W' → CL4 (.agg #[.slice aa 4 ca, .int .i64 (mkN xs : Nat), .slice am (mkA xs).ms.length cm, .slice ae (mkA xs).es.length ce]) (b) (bitsL b 8) (P) (C) (bo) 9 v W' → ∀ a', puts _ _ [u0, u1, u2, u3, u4, u5, u6, u7, u8, v, u10, u11, u12] = a' → K' a' W') := fun v W' hb hv a' e => hK _ a' W' e (hI.step CL4_mono hl hb hv)
      have hWW := hW3d.trans (hbel.mono hW3d.size)
      have d5 : l.getD 5 false = true := by
        simp [Region.binds] at hd
        simp [hd]
      obtain ⟨a5, c5, e5, hr5⟩ : ∃ a c, u5 = .slice a (P).length c ∧ RdI W u5 (P) := hHas 5 (by decide) d5
      subst e5
      have Hr5 := Lib.hid hr5
      clear hr5
      clear hl hI hd hn hK hHas hlen d5
      refine StepG.mk ?_
      simp only [puts, Act.put]
      go_simp
      exact HK.out _ _ (Below.refl _ _) ⟨_, _, rfl, Hr5.out⟩ _ (by simp [puts, Act.put])
    refine Steps.cons rfl ?_ ?_
    · intro l us W hl hI hd hn K' hK
      have hHas := hI.has
      have hbel := hI.bel
      have hlen := hI.len
      obtain ⟨u0, u1, u2, u3, u4, u5, u6, u7, u8, u9, u10, u11, u12, rfl⟩ := list_CL4 hlen
      have HK : Hid (∀ v W', Below W.heap.size W W' → CL4 (.agg #[.slice aa 4 ca, .int .i64 (mkN xs : Nat), .slice am (mkA xs).ms.length cm, .slice ae (mkA xs).es.length ce]) (b) (bitsL b 8) (P) (C) (bo) 10 v W' → ∀ a', puts _ _ [u0, u1, u2, u3, u4, u5, u6, u7, u8, u9, v, u11, u12] = a' → K' a' W') := fun v W' hb hv a' e => hK _ a' W' e (hI.step CL4_mono hl hb hv)
      have hWW := hW3d.trans (hbel.mono hW3d.size)
      have d6 : l.getD 6 false = true := by
        simp [Region.binds] at hd
        simp [hd]
      obtain ⟨a6, c6, e6, hr6⟩ : ∃ a c, u6 = .slice a (C).length c ∧ RdI W u6 (C) := hHas 6 (by decide) d6
      subst e6
      have Hr6 := Lib.hid hr6
      clear hr6
      clear hl hI hd hn hK hHas hlen d6
      refine StepG.mk ?_
      simp only [puts, Act.put]
      go_simp
      exact HK.out _ _ (Below.refl _ _) ⟨_, _, rfl, Hr6.out⟩ _ (by simp [puts, Act.put])
    refine Steps.cons rfl ?_ ?_
    · intro l us W hl hI hd hn K' hK
      have hHas := hI.has
      have hbel := hI.bel
      have hlen := hI.len
      obtain ⟨u0, u1, u2, u3, u4, u5, u6, u7, u8, u9, u10, u11, u12, rfl⟩ := list_CL4 hlen
      have HK : Hid (∀ v W', Below W.heap.size W W' → CL4 (.agg #[.slice aa 4 ca, .int .i64 (mkN xs : Nat), .slice am (mkA xs).ms.length cm, .slice ae (mkA xs).es.length ce]) (b) (bitsL b 8) (P) (C) (bo) 11 v W' → ∀ a', puts _ _ [u0, u1, u2, u3, u4, u5, u6, u7, u8, u9, u10, v, u12] = a' → K' a' W') := fun v W' hb hv a' e => hK _ a' W' e (hI.step CL4_mono hl hb hv)
      have hWW := hW3d.trans (hbel.mono hW3d.size)
      have d7 : l.getD 7 false = true := by
        simp [Region.binds] at hd
        simp [hd]
      obtain rfl : u7 = _ := hHas 7 (by decide) d7
      clear hl hI hd hn hK hHas hlen d7
      refine StepG.mk ?_
      simp only [puts, Act.put]
      go_simp
      exact HK.out (.bool bo) _ (Below.refl _ _) rfl _ (by simp [puts, Act.put])
    refine Steps.cons rfl ?_ ?_
    · intro l us W hl hI hd hn K' hK
      have hHas := hI.has
      have hbel := hI.bel
      have hlen := hI.len
      obtain ⟨u0, u1, u2, u3, u4, u5, u6, u7, u8, u9, u10, u11, u12, rfl⟩ := list_CL4 hlen
      have HK : Hid (∀ v W', Below W.heap.size W W' → CL4 (.agg #[.slice aa 4 ca, .int .i64 (mkN xs : Nat), .slice am (mkA xs).ms.length cm, .slice ae (mkA xs).es.length ce]) (b) (bitsL b 8) (P) (C) (bo) 12 v W' → ∀ a', puts _ _ [u0, u1, u2, u3, u4, u5, u6, u7, u8, u9, u10, u11, v] = a' → K' a' W') := fun v W' hb hv a' e => hK _ a' W' e (hI.step CL4_mono hl hb hv)
      have hWW := hW3d.trans (hbel.mono hW3d.size)
      have d8 : l.getD 8 false = true := by
        simp [Region.binds] at hd
        simp [hd]
      obtain rfl : u8 = _ := hHas 8 (by decide) d8
      clear hl hI hd hn hK hHas hlen d8
      refine StepG.mk ?_
      simp only [puts, Act.put]
      go_simp
      exact HK.out (.int .i64 0) _ (Below.refl _ _) rfl _ (by simp [puts, Act.put])
    exact Steps.nil (Nat.le_refl _)
  · intro us W4 hlen hbel hall
    obtain ⟨u0, u1, u2, u3, u4, u5, u6, u7, u8, u9, u10, u11, u12, rfl⟩ := list_CL4 hlen
    obtain ⟨a5, c5, e5, hr5⟩ : ∃ a c, u9 = .slice a P.length c ∧ RdI W4 u9 P := hall 9 (by decide)
    obtain ⟨a6, c6, e6, hr6⟩ : ∃ a c, u10 = .slice a C.length c ∧ RdI W4 u10 C := hall 10 (by decide)
    obtain rfl : u11 = _ := hall 11 (by decide)
    obtain rfl : u12 = _ := hall 12 (by decide)
    subst e5
    subst e6
    have Hr5 := Lib.hid hr5
    have Hr6 := Lib.hid hr6
    replace z0 := keep hbel z0 hz
    replace z1 := keep hbel z1 hz
    replace z2 := keep hbel z2 hz
    replace z3 := keep hbel z3 hz
    have hz4 := Nat.lt_of_lt_of_le hz hbel.size
    have Ha4 := Lib.hid ((Ha3.out.mono (bel_drew _)).mono hbel)
    have hW4 := hW3d.trans (hbel.mono hW3d.size)
    clear hall hlen hr5 hr6 hz hW3 hW3d hbel Ha3 Ha2
    simp only [puts, Act.put, List.setIfInBounds_toArray, List.set_cons_succ, List.set_cons_zero]
    have hz := hz4
    have Ha3 := Ha4
    have hW3d := hW4.drew
    go_wp2_with fail
    refine wp_region_mono2 (CL5 (.agg #[.slice aa 4 ca, .int .i64 (mkN xs : Nat), .slice am (mkA xs).ms.length cm, .slice ae (mkA xs).es.length ce]) (b) (bitsL b 8) (P) (C) (bo)) [27, 28, 29, 30, 26, 31, 32, 33, 10, 11, 12] CL5_mono rfl (by kernel_rfl) (by kernel_rfl) ?_ ?_
    · skip
      refine Steps.cons rfl ?_ ?_
      · intro l us W hl hI hd hn K' hK
        have hHas := hI.has
        have hbel := hI.bel
        have hlen := hI.len
        obtain ⟨u0, u1, u2, u3, u4, u5, u6, u7, u8, u9, u10, rfl⟩ := list_CL5 hlen
        have HK : Hid (∀ v W', Below W.heap.size W W' → CL5 (.agg #[.slice aa 4 ca, .int .i64 (mkN xs : Nat), .slice am (mkA xs).ms.length cm, .slice ae (mkA xs).es.length ce]) (b) (bitsL b 8) (P) (C) (bo) 0 v W' → ∀ a', puts _ _ [v, u1, u2, u3, u4, u5, u6, u7, u8, u9, u10] = a' → K' a' W') := fun v W' hb hv a' e => hK _ a' W' e (hI.step CL5_mono hl hb hv)
        have hWW := hW3d.trans (hbel.mono hW3d.size)
        have y0 := keep hbel z0 hz
        have y1 := keep hbel z1 hz
        have y2 := keep hbel z2 hz
        have y3 := keep hbel z3 hz
        clear hl hI hd hn hK hHas hlen 
        refine StepG.mk ?_
        simp only [puts, Act.put]
        go_simp
        exact HK.out ((.agg #[.slice aa 4 ca, .int .i64 (mkN xs : Nat), .slice am (mkA xs).ms.length cm, .slice ae (mkA xs).es.length ce])) _ (Below.refl _ _) rfl _ (by simp [puts, Act.put])
      refine Steps.cons rfl ?_ ?_
      · intro l us W hl hI hd hn K' hK
        have hHas := hI.has
        have hbel := hI.bel
        have hlen := hI.len
        obtain ⟨u0, u1, u2, u3, u4, u5, u6, u7, u8, u9, u10, rfl⟩ := list_CL5 hlen
        have HK : Hid (∀ v W', Below W.heap.size W W' → CL5 (.agg #[.slice aa 4 ca, .int .i64 (mkN xs : Nat), .slice am (mkA xs).ms.length cm, .slice ae (mkA xs).es.length ce]) (b) (bitsL b 8) (P) (C) (bo) 1 v W' → ∀ a', puts _ _ [u0, v, u2, u3, u4, u5, u6, u7, u8, u9, u10] = a' → K' a' W') := fun v W' hb hv a' e => hK _ a' W' e (hI.step CL5_mono hl hb hv)
        have hWW := hW3d.trans (hbel.mono hW3d.size)
        clear hl hI hd hn hK hHas hlen 
        refine StepG.mk ?_
        simp only [puts, Act.put]
        go_simp
        exact HK.out (.int .u8 b) _ (Below.refl _ _) rfl _ (by simp [puts, Act.put])
      refine Steps.cons rfl ?_ ?_
      · intro l us W hl hI hd hn K' hK
        have hHas := hI.has
        have hbel := hI.bel
        have hlen := hI.len
        obtain ⟨u0, u1, u2, u3, u4, u5, u6, u7, u8, u9, u10, rfl⟩ := list_CL5 hlen
        have HK : Hid (∀ v W', Below W.heap.size W W' → CL5 (.agg #[.slice aa 4 ca, .int .i64 (mkN xs : Nat), .slice am (mkA xs).ms.length cm, .slice ae (mkA xs).es.length ce]) (b) (bitsL b 8) (P) (C) (bo) 2 v W' → ∀ a', puts _ _ [u0, u1, v, u3, u4, u5, u6, u7, u8, u9, u10] = a' → K' a' W') := fun v W' hb hv a' e => hK _ a' W' e (hI.step CL5_mono hl hb hv)
        have hWW := hW3d.trans (hbel.mono hW3d.size)
        have d1 : l.getD 1 false = true := by
          simp [Region.binds] at hd
          simp [hd]
        obtain rfl : u1 = _ := hHas 1 (by decide) d1
        clear hl hI hd hn hK hHas hlen d1
        refine StepG.mk ?_
        simp only [puts, Act.put]
        go_simp
        refine (bits_any b 8 _ hb0 hb1 (by decide)).mono ?_
        rintro e w9 ⟨v9, rfl, hown9, hb9⟩
        have HL9 := Lib.hid (RdI.of_own hown9)
        obtain ⟨a9, c9, rfl, hr9⟩ := RdS.of_own hown9
        clear hr9 hown9
        go_simp
        exact HK.out _ _ hb9 ⟨_, _, rfl, HL9.out⟩ _ (by simp [puts, Act.put])
      refine Steps.cons rfl ?_ ?_
      · intro l us W hl hI hd hn K' hK
        have hHas := hI.has
        have hbel := hI.bel
        have hlen := hI.len
        obtain ⟨u0, u1, u2, u3, u4, u5, u6, u7, u8, u9, u10, rfl⟩ := list_CL5 hlen
        have HK : Hid (∀ v W', Below W.heap.size W W' → CL5 (.agg #[.slice aa 4 ca, .int .i64 (mkN xs : Nat), .slice am (mkA xs).ms.length cm, .slice ae (mkA xs).es.length ce]) (b) (bitsL b 8) (P) (C) (bo) 3 v W' → ∀ a', puts _ _ [u0, u1, u2, v, u4, u5, u6, u7, u8, u9, u10] = a' → K' a' W') := fun v W' hb hv a' e => hK _ a' W' e (hI.step CL5_mono hl hb hv)
        have hWW := hW3d.trans (hbel.mono hW3d.size)
        have d0 : l.getD 0 false = true := by
          simp [Region.binds] at hd
          simp [hd]
        have d2 : l.getD 2 false = true := by
          simp [Region.binds] at hd
          simp [hd]
        obtain rfl : u0 = _ := hHas 0 (by decide) d0
        obtain ⟨a2, c2, e2, hr2⟩ : ∃ a c, u2 = .slice a ((bitsL b 8)).length c ∧ RdI W u2 ((bitsL b 8)) := hHas 2 (by decide) d2
        subst e2
        have Hr2 := Lib.hid hr2
        clear hr2
        clear hl hI hd hn hK hHas hlen d0 d2
        refine StepG.mk ?_
        simp only [puts, Act.put]
        go_simp
        refine (HC2.out W _ _ ((Ha3.out.mono (bel_drew _)).mono hbel) Hr2.out).mono ?_
        rintro e w9 ⟨u9, rfl, ⟨a9, c9, a10, c10, rfl, hq9, hq10⟩, hb9⟩
        have Hq9 := Lib.hid hq9
        have Hq10 := Lib.hid hq10
        clear hq9 hq10
        go_simp
        exact HK.out _ _ hb9 ⟨_, _, _, _, rfl, Hq9.out, Hq10.out⟩ _ (by simp [puts, Act.put])
      refine Steps.cons rfl ?_ ?_
      · intro l us W hl hI hd hn K' hK
        have hHas := hI.has
        have hbel := hI.bel
        have hlen := hI.len
        obtain ⟨u0, u1, u2, u3, u4, u5, u6, u7, u8, u9, u10, rfl⟩ := list_CL5 hlen
        have HK : Hid (∀ v W', Below W.heap.size W W' → CL5 (.agg #[.slice aa 4 ca, .int .i64 (mkN xs : Nat), .slice am (mkA xs).ms.length cm, .slice ae (mkA xs).es.length ce]) (b) (bitsL b 8) (P) (C) (bo) 4 v W' → ∀ a', puts _ _ [u0, u1, u2, u3, v, u5, u6, u7, u8, u9, u10] = a' → K' a' W') := fun v W' hb hv a' e => hK _ a' W' e (hI.step CL5_mono hl hb hv)
        have hWW := hW3d.trans (hbel.mono hW3d.size)
        have d3 : l.getD 3 false = true := by
          simp [Region.binds] at hd
          simp [hd]
        obtain ⟨a3_0, c3_0, a3_1, c3_1, e3, hr3_0, hr3_1⟩ : ∃ a0 c0 a1 c1, u3 = .tuple #[.slice a0 (P).length c0, .slice a1 (C).length c1, .bool bo] ∧ RdI W (.slice a0 (P).length c0) (P) ∧ RdI W (.slice a1 (C).length c1) (C) := hHas 3 (by decide) d3
        subst e3
        have Hr3_0 := Lib.hid hr3_0
        clear hr3_0
        have Hr3_1 := Lib.hid hr3_1
        clear hr3_1
        clear hl hI hd hn hK hHas hlen d3
        refine StepG.mk ?_
        simp only [puts, Act.put]
        go_simp
        exact HK.out _ _ (Below.refl _ _) ⟨_, _, _, _, rfl, Hr3_0.out, Hr3_1.out⟩ _ (by simp [puts, Act.put])
      refine Steps.cons rfl ?_ ?_
      · intro l us W hl hI hd hn K' hK
        have hHas := hI.has
        have hbel := hI.bel
        have hlen := hI.len
        obtain ⟨u0, u1, u2, u3, u4, u5, u6, u7, u8, u9, u10, rfl⟩ := list_CL5 hlen
        have HK : Hid (∀ v W', Below W.heap.size W W' → CL5 (.agg #[.slice aa 4 ca, .int .i64 (mkN xs : Nat), .slice am (mkA xs).ms.length cm, .slice ae (mkA xs).es.length ce]) (b) (bitsL b 8) (P) (C) (bo) 5 v W' → ∀ a', puts _ _ [u0, u1, u2, u3, u4, v, u6, u7, u8, u9, u10] = a' → K' a' W') := fun v W' hb hv a' e => hK _ a' W' e (hI.step CL5_mono hl hb hv)
        have hWW := hW3d.trans (hbel.mono hW3d.size)
        have d4 : l.getD 4 false = true := by
          simp [Region.binds] at hd
          simp [hd]
        obtain ⟨a4_0, c4_0, a4_1, c4_1, e4, hr4_0, hr4_1⟩ : ∃ a0 c0 a1 c1, u4 = .tuple #[.slice a0 (P).length c0, .slice a1 (C).length c1, .bool bo] ∧ RdI W (.slice a0 (P).length c0) (P) ∧ RdI W (.slice a1 (C).length c1) (C) := hHas 4 (by decide) d4
        subst e4
        have Hr4_0 := Lib.hid hr4_0
        clear hr4_0
        have Hr4_1 := Lib.hid hr4_1
        clear hr4_1
        clear hl hI hd hn hK hHas hlen d4
        refine StepG.mk ?_
        simp only [puts, Act.put]
        go_simp
        exact HK.out _ _ (Below.refl _ _) ⟨_, _, rfl, Hr4_0.out⟩ _ (by simp [puts, Act.put])
      refine Steps.cons rfl ?_ ?_
      · intro l us W hl hI hd hn K' hK
        have hHas := hI.has
        have hbel := hI.bel
        have hlen := hI.len
        obtain ⟨u0, u1, u2, u3, u4, u5, u6, u7, u8, u9, u10, rfl⟩ := list_CL5 hlen
        have HK : Hid (∀ v W', Below W.heap.size W W' → CL5 (.agg #[.slice aa 4 ca, .int .i64 (mkN xs : Nat), .slice am (mkA xs).ms.length cm, .slice ae (mkA xs).es.length ce]) (b) (bitsL b 8) (P) (C) (bo) 6 v W' → ∀ a', puts _ _ [u0, u1, u2, u3, u4, u5, v, u7, u8, u9, u10] = a' → K' a' W') := fun v W' hb hv a' e => hK _ a' W' e (hI.step CL5_mono hl hb hv)
        have hWW := hW3d.trans (hbel.mono hW3d.size)
        have d4 : l.getD 4 false = true := by
          simp [Region.binds] at hd
          simp [hd]
        obtain ⟨a4_0, c4_0, a4_1, c4_1, e4, hr4_0, hr4_1⟩ : ∃ a0 c0 a1 c1, u4 = .tuple #[.slice a0 (P).length c0, .slice a1 (C).length c1, .bool bo] ∧ RdI W (.slice a0 (P).length c0) (P) ∧ RdI W (.slice a1 (C).length c1) (C) := hHas 4 (by decide) d4
        subst e4
        have Hr4_0 := Lib.hid hr4_0
        clear hr4_0
        have Hr4_1 := Lib.hid hr4_1
        clear hr4_1
        clear hl hI hd hn hK hHas hlen d4
        refine StepG.mk ?_
        simp only [puts, Act.put]
        go_simp
        exact HK.out _ _ (Below.refl _ _) ⟨_, _, rfl, Hr4_1.out⟩ _ (by simp [puts, Act.put])
      refine Steps.cons rfl ?_ ?_
      · intro l us W hl hI hd hn K' hK
        have hHas := hI.has
        have hbel := hI.bel
        have hlen := hI.len
        obtain ⟨u0, u1, u2, u3, u4, u5, u6, u7, u8, u9, u10, rfl⟩ := list_CL5 hlen
        have HK : Hid (∀ v W', Below W.heap.size W W' → CL5 (.agg #[.slice aa 4 ca, .int .i64 (mkN xs : Nat), .slice am (mkA xs).ms.length cm, .slice ae (mkA xs).es.length ce]) (b) (bitsL b 8) (P) (C) (bo) 7 v W' → ∀ a', puts _ _ [u0, u1, u2, u3, u4, u5, u6, v, u8, u9, u10] = a' → K' a' W') := fun v W' hb hv a' e => hK _ a' W' e (hI.step CL5_mono hl hb hv)
        have hWW := hW3d.trans (hbel.mono hW3d.size)
        have d4 : l.getD 4 false = true := by
          simp [Region.binds] at hd
          simp [hd]
        obtain ⟨a4_0, c4_0, a4_1, c4_1, e4, hr4_0, hr4_1⟩ : ∃ a0 c0 a1 c1, u4 = .tuple #[.slice a0 (P).length c0, .slice a1 (C).length c1, .bool bo] ∧ RdI W (.slice a0 (P).length c0) (P) ∧ RdI W (.slice a1 (C).length c1) (C) := hHas 4 (by decide) d4
        subst e4
        have Hr4_0 := Lib.hid hr4_0
        clear hr4_0
        have Hr4_1 := Lib.hid hr4_1
        clear hr4_1
        clear hl hI hd hn hK hHas hlen d4
        refine StepG.mk ?_
        simp only [puts, Act.put]
        go_simp
        exact HK.out (.bool bo) _ (Below.refl _ _) rfl _ (by simp [puts, Act.put])
      refine Steps.cons rfl ?_ ?_
      · intro l us W hl hI hd hn K' hK
        have hHas := hI.has
        have hbel := hI.bel
        have hlen := hI.len
        obtain ⟨u0, u1, u2, u3, u4, u5, u6, u7, u8, u9, u10, rfl⟩ := list_CL5 hlen
        have HK : Hid (∀ v W', Below W.heap.size W W' → CL5 (.agg #[.slice aa 4 ca, .int .i64 (mkN xs : Nat), .slice am (mkA xs).ms.length cm, .slice ae (mkA xs).es.length ce]) (b) (bitsL b 8) (P) (C) (bo) 8 v W' → ∀ a', puts _ _ [u0, u1, u2, u3, u4, u5, u6, u7, v, u9, u10] = a' → K' a' W') := fun v W' hb hv a' e => hK _ a' W' e (hI.step CL5_mono hl hb hv)
        have hWW := hW3d.trans (hbel.mono hW3d.size)
        have d5 : l.getD 5 false = true := by
          simp [Region.binds] at hd
          simp [hd]
        obtain ⟨a5, c5, e5, hr5⟩ : ∃ a c, u5 = .slice a (P).length c ∧ RdI W u5 (P) := hHas 5 (by decide) d5
        subst e5
        have Hr5 := Lib.hid hr5
        clear hr5
        clear hl hI hd hn hK hHas hlen d5
        refine StepG.mk ?_
        simp only [puts, Act.put]
        go_simp
        exact HK.out _ _ (Below.refl _ _) ⟨_, _, rfl, Hr5.out⟩ _ (by simp [puts, Act.put])
      refine Steps.cons rfl ?_ ?_
      · intro l us W hl hI hd hn K' hK
        have hHas := hI.has
        have hbel := hI.bel
        have hlen := hI.len
        obtain ⟨u0, u1, u2, u3, u4, u5, u6, u7, u8, u9, u10, rfl⟩ := list_CL5 hlen
        have HK : Hid (∀ v W', Below W.heap.size W W' → CL5 (.agg #[.slice aa 4 ca, .int .i64 (mkN xs : Nat), .slice am (mkA xs).ms.length cm, .slice ae (mkA xs).es.length ce]) (b) (bitsL b 8) (P) (C) (bo) 9 v W' → ∀ a', puts _ _ [u0, u1, u2, u3, u4, u5, u6, u7, u8, v, u10] = a' → K' a' W') := fun v W' hb hv a' e => hK _ a' W' e (hI.step CL5_mono hl hb hv)
        have hWW := hW3d.trans (hbel.mono hW3d.size)
        have d6 : l.getD 6 false = true := by
          simp [Region.binds] at hd
          simp [hd]
        obtain ⟨a6, c6, e6, hr6⟩ : ∃ a c, u6 = .slice a (C).length c ∧ RdI W u6 (C) := hHas 6 (by decide) d6
        subst e6
        have Hr6 := Lib.hid hr6
        clear hr6
        clear hl hI hd hn hK hHas hlen d6
        refine StepG.mk ?_
        simp only [puts, Act.put]
        go_simp
        exact HK.out _ _ (Below.refl _ _) ⟨_, _, rfl, Hr6.out⟩ _ (by simp [puts, Act.put])
      refine Steps.cons rfl ?_ ?_
      · intro l us W hl hI hd hn K' hK
        have hHas := hI.has
        have hbel := hI.bel
        have hlen := hI.len
        obtain ⟨u0, u1, u2, u3, u4, u5, u6, u7, u8, u9, u10, rfl⟩ := list_CL5 hlen
        have HK : Hid (∀ v W', Below W.heap.size W W' → CL5 (.agg #[.slice aa 4 ca, .int .i64 (mkN xs : Nat), .slice am (mkA xs).ms.length cm, .slice ae (mkA xs).es.length ce]) (b) (bitsL b 8) (P) (C) (bo) 10 v W' → ∀ a', puts _ _ [u0, u1, u2, u3, u4, u5, u6, u7, u8, u9, v] = a' → K' a' W') := fun v W' hb hv a' e => hK _ a' W' e (hI.step CL5_mono hl hb hv)
        have hWW := hW3d.trans (hbel.mono hW3d.size)
        have d7 : l.getD 7 false = true := by
          simp [Region.binds] at hd
          simp [hd]
        obtain rfl : u7 = _ := hHas 7 (by decide) d7
        clear hl hI hd hn hK hHas hlen d7
        refine StepG.mk ?_
        simp only [puts, Act.put]
        go_simp
        exact HK.out (.bool bo) _ (Below.refl _ _) rfl _ (by simp [puts, Act.put])
      exact Steps.nil (Nat.le_refl _)
    · intro us W5 hlen hbel hall
      obtain ⟨u0, u1, u2, u3, u4, u5, u6, u7, u8, u9, u10, rfl⟩ := list_CL5 hlen
      obtain ⟨a7, c7, e7, hr7⟩ : ∃ a c, u8 = .slice a P.length c ∧ RdI W5 u8 P := hall 8 (by decide)
      obtain ⟨a8, c8, e8, hr8⟩ : ∃ a c, u9 = .slice a C.length c ∧ RdI W5 u9 C := hall 9 (by decide)
      obtain rfl : u10 = _ := hall 10 (by decide)
      subst e7
      subst e8
      have Hr7 := Lib.hid hr7
      have Hr8 := Lib.hid hr8
      have Hr5 := Lib.hid ((Hr5.out.mono (bel_drew _)).mono hbel)
      have Hr6 := Lib.hid ((Hr6.out.mono (bel_drew _)).mono hbel)
      have hW5 := hW3d.trans (hbel.mono hW3d.size)
      clear hall hlen hr7 hr8 hbel z0 z1 z2 z3 hz hW3d hW4
      simp only [puts, Act.put, List.setIfInBounds_toArray, List.set_cons_succ, List.set_cons_zero]
      go_wp2_with fail
      refine (same_any _ _ P P _ Hr5.out Hr7.out hP1 hP1).mono ?_
      rintro e w6 ⟨_, rfl, rfl, hb6⟩
      rw [sameB_true.2 (rfl : P = P)]
      have Hr6 := Lib.hid (Hr6.out.mono hb6)
      have Hr8 := Lib.hid (Hr8.out.mono hb6)
      have hW6 := hW5.trans (hb6.mono hW5.size)
      clear hb6
      go_wp2_with fail
      refine (same_any _ _ C C _ Hr6.out Hr8.out hP2 hP2).mono ?_
      rintro e w7 ⟨_, rfl, rfl, hb7⟩
      rw [sameB_true.2 (rfl : C = C)]
      have hW7 := hW6.trans (hb7.mono hW6.size)
      clear hb7
      go_wp2_with fail
      go_ret
      exact ⟨_, rfl, rfl, hW7⟩
end Go.Proofs.Ythchkddhibhenaa
