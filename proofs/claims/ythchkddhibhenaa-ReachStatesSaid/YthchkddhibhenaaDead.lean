/- The contracts of Dead, and of the reference's Dead. -/
import Derived.Test.YthchkddhibhenaaFromL
import Derived.Test.YthchkddhibhenaaLeads
namespace Go.Proofs.Ythchkddhibhenaa
open Go.RowKit

/-- The numbers below k that are chosen. -/
def selL (p : Nat → Bool) (k : Nat) : List Int := ((List.range k).filter p).map fun (i : Nat) => (i : Int)
theorem selL_true {p : Nat → Bool} {k : Nat} (h : p k = true) : selL p (k + 1) = selL p k ++ [(k : Int)] := by simp [selL, List.range_succ, List.filter_append, h]
theorem selL_false {p : Nat → Bool} {k : Nat} (h : p k = false) : selL p (k + 1) = selL p k := by simp [selL, List.range_succ, List.filter_append, h]
theorem selL_le (p : Nat → Bool) (k : Nat) : (selL p k).length ≤ k := by
  unfold selL
  rw [List.length_map]
  exact Nat.le_trans (List.length_filter_le _ _) (by simp)
/-- Whether a state has no edge. -/
def deadB (es : List Ed) (i : Nat) : Bool := es.all fun x => x.f != i
theorem deadB_iff (es : List Ed) (i : Nat) : (((fstN es i : Nat) : Int) == ((fstN es ((i : Int) + 1) : Nat) : Int)) = deadB es i := by
  have h : fstN es ((i : Int) + 1) = fstN es i + es.countP fun x => decide (x.f = (i : Int)) := by
    unfold fstN
    induction es with
    | nil => rfl
    | cons x es ih =>
      rw [List.countP_cons, List.countP_cons, List.countP_cons, ih]
      by_cases h1 : x.f < (i : Int)
      · rw [if_pos (by simp; omega), if_pos (by simpa using h1), if_neg (by simp; omega)]; omega
      · by_cases h2 : x.f = (i : Int)
        · rw [if_pos (by simp; omega), if_neg (by simpa using h1), if_pos (by simpa using h2)]; omega
        · rw [if_neg (by simp; omega), if_neg (by simpa using h1), if_neg (by simpa using h2)]; omega
  rw [h, Bool.eq_iff_iff, beq_iff_eq]
  unfold deadB
  rw [List.all_eq_true]
  constructor
  · intro he x hx
    have h0 : es.countP (fun x => decide (x.f = (i : Int))) = 0 := by omega
    have := List.countP_eq_zero.1 h0 x hx
    simpa using this
  · intro ha
    have h0 : es.countP (fun x => decide (x.f = (i : Int))) = 0 := by
      rw [List.countP_eq_zero]
      intro x hx
      simpa using ha x hx
    omega

set_option maxRecDepth 100000 in
set_option maxHeartbeats 1600000 in
theorem rdead_any (v : Value) (al ms : List Int) (n : Nat) (es : List Ed) (w : World) (ha : RdA w v ⟨al, n, ms, es⟩) (hl : es.length ≤ 1000000) (hn : n ≤ 1000000) :
    Calls Try.prog 31 #[v] w (Ret w fun u w' => RdI w' u (selL (deadB es) n)) := by
  obtain ⟨va, vm, ve, rfl, ⟨aa, ca, rfl, hra⟩, ⟨am, cm, rfl, hrm⟩, ⟨ae, ce, rfl, hre⟩⟩ := ha
  dsimp only at *
  obtain ⟨i0, hi, hz0, hz1, hz2⟩ := info_parts Try.info_int
  clear hra hrm
  go_enter Try.func31, Try.ntmps31
  go_wp2_with fail
  go_loopw [3, 4] (fun o i wr => ∃ (k : Nat) (tag : Nat → Nat), k ≤ n ∧ i = .int .i64 k ∧ Below (w.heap.size + 1) (w.alloc (.cells #[.slice aa al.length ca, .int .i64 n, .slice am ms.length cm, .slice ae es.length ce] 31)) wr ∧ Row wr (w.heap.size + 1) tag 1 3 1 o (selL (deadB es) k).length (ints (selL (deadB es) k))) (fun _ i _ => n - (intOf i).toNat)
  case atStart => exact ⟨0, fun _ => 1, Nat.zero_le _, rfl, Below.refl _ _, Row.nil _ _ _ _ _ _⟩
  case round =>
    obtain ⟨k, tag, hk, rfl, hB, hrow⟩ := hrel
    have hB0 : Below w.heap.size w wr := ((Below.refl _ _).alloc (Nat.le_refl _) _).trans (hB.mono (Nat.le_succ _))
    have hsz := hB.size
    simp only [World.size_alloc] at hsz
    have c1 : wr.cell? ⟨w.heap.size, 1, none⟩ = some (.int .i64 n) := (hB.cell (p := ⟨w.heap.size, 1, none⟩) (by simp)).trans (by simp [go_sem])
    have c3 : wr.cell? ⟨w.heap.size, 3, none⟩ = some (.slice ae es.length ce) := (hB.cell (p := ⟨w.heap.size, 3, none⟩) (by simp)).trans (by simp [go_sem])
    have hle := selL_le (deadB es) k
    obtain ⟨ao, co, rfl⟩ := hrow.val
    by_cases hlt : k < n
    · have Hsel : Hid (∀ b, deadB es k = b → selL (deadB es) (k + 1) = if b = true then selL (deadB es) k ++ [(k : Int)] else selL (deadB es) k) := by
        intro b hb
        cases b with
        | true => exact selL_true hb
        | false => exact selL_false hb
      have hlti : (k : Int) < n := by omega
      generalize selL (deadB es) k = O at *
      go_wp2_with fail
      go_loop [5, 6] (fun d j => ∃ (m : Nat) (b : Bool), d = .bool b ∧ j = .int .i64 m ∧ m ≤ es.length ∧ Hid (b = (es.take m).all fun x => x.f != k)) (fun _ j => es.length - (intOf j).toNat)
      case atStart => exact ⟨0, true, rfl, rfl, Nat.zero_le _, rfl⟩
      case round =>
        obtain ⟨m, b, rfl, rfl, hm, hb⟩ := hrel
        by_cases hltm : m < es.length
        · obtain ⟨be, oe, rfl, d0, d1, d2⟩ := hre.at_edge m hltm
          have Hts : Hid (((es.take (m + 1)).all fun x => x.f != k) = (((es.take m).all fun x => x.f != k) && (es[m].f != k))) := by
            show _ = _
            rw [take_snoc es m hltm, List.all_append]; simp
          replace d0 := keep0 hB0 d0
          have hltmi : (m : Int) < es.length := by omega
          generalize es[m] = x at *
          obtain ⟨xf, xe, xt⟩ := x
          dsimp only at *
          clear d1 d2
          cases b with
          | false =>
            have Hb : Hid (false = (es.take (m + 1)).all fun x => x.f != k) := by show _ = _; rw [Hts.out, ← hb.out]; rfl
            clear hb
            go_wp2_with fail
            go_round
            case rel => exact ⟨m + 1, false, rfl, by go_num, by omega, Hb.out⟩
            case measure => simp [intOf]; omega
          | true =>
            have Hb : Hid ((xf != (k : Int)) = (es.take (m + 1)).all fun x => x.f != k) := by show _ = _; rw [Hts.out, ← hb.out]; rfl
            clear hb
            go_wp2_with fail
            go_round
            case rel => exact ⟨m + 1, (xf != (k : Int)), rfl, by go_num, by omega, Hb.out⟩
            case measure => simp [intOf]; omega
        · have Hst : Hid (deadB es k = b) := by
            show _ = _
            rw [hb.out, List.take_of_length_le (by omega)]; rfl
          have HO := Lib.hid (Hsel.out b Hst.out)
          clear hb
          cases b with
          | false =>
            go_wp2_with fail
            go_roundw
            case rel => exact ⟨k + 1, tag, by omega, by go_num, hB, by rw [HO.out]; exact hrow⟩
            case measure => simp [intOf]; omega
          | true =>
            have hrow10 := hrow.below (bel_alloc wr (.cells #[.int .i64 k] 3))
            go_wp2_with (at_builtin; refine wpList_append_row rfl _ _ 28 rfl 3 i0 (.int .i64 0) 8 Try.underlying28 hi hz0 hz1 hz2 rfl rfl hrow10 (some ⟨_, 0, none⟩) 1 1 [.int .i64 k] rfl (by simp) (fun e => by cases e) (fun ad e => by cases e; exact new_cells_at _ _ rfl) (by simp [Value.oneCell']) (by unfold maxLen; omega) (by omega) (by simp; omega) ?_; intro v6 w6 tag6 hr6 ht6; obtain ⟨a6, c6, rfl⟩ := hr6.val)
            go_roundw
            case rel =>
              refine ⟨k + 1, tag6, by omega, by go_num, belTurn (hB.alloc (by omega) _) ht6 (by simp; omega), ?_⟩
              rw [HO.out, if_pos (by trivial), List.length_append]
              have := hr6
              simpa [ints] using this
            case measure => simp [intOf]; omega
    · have hkn : n = k := by omega
      have Hrow := Lib.hid hrow
      have hge : (n : Int) ≤ k := by omega
      have Hkn := Lib.hid hkn
      clear hkn hrow
      generalize hO : selL (deadB es) k = O at *
      have HO := Lib.hid hO
      clear hO
      go_wp2_with fail
      go_ret
      exact ⟨_, rfl, by rw [show selL (deadB es) n = O by rw [Hkn.out, HO.out]]; exact Hrow.out.rdI, hB0⟩

set_option maxRecDepth 100000 in
set_option maxHeartbeats 1600000 in
theorem dead_any (v : Value) (a : Aut) (w : World) (ha : RdA w v a) (hs : a.small) :
    Calls Try.prog 28 #[v] w (Ret w (ListPost a.err (selL (deadB a.es) a.n.toNat))) := by
  have ha0 := ha
  obtain ⟨va, vm, ve, rfl, ⟨aa, ca, rfl, hra⟩, ⟨am, cm, rfl, hrm⟩, ⟨ae, ce, rfl, hre⟩⟩ := ha
  obtain ⟨i0, hi, hz0, hz1, hz2⟩ := info_parts Try.info_int
  have Ha0 := Lib.hid ha0
  have Hs := Lib.hid hs
  clear ha0 hs
  go_enter Try.func28, Try.ntmps28
  go_wp2_with fail
  refine (check_any _ a _ (Ha0.out.mono (by (repeat (first | with_reducible exact Below.refl _ _ | with_reducible exact Ha0 | (with_reducible refine belCall ?_ Ha0 (by first | omega | (simp; done) | (simp; omega) | (simp at *; omega))) | (with_reducible refine Below.alloc ?_ (by first | omega | (simp; done) | (simp; omega) | (simp at *; omega)) _) | (with_reducible refine Below.drew ?_) | (with_reducible refine Below.setCell ?_ (by first | omega | (simp; done) | (simp; omega) | (simp at *; omega)) _))))) Hs.out).mono ?_
  rintro e w1 ⟨_, rfl, rfl, hb1⟩
  have hW1 : Below w.heap.size w w1 := ((Below.refl _ _).alloc (Nat.le_refl _) _).trans (hb1.mono (by simp))
  have hbx := box4 hb1
  clear hb1
  by_cases h1 : a.err = 0
  · have hok := Aut.ok_of h1
    have H1 := Lib.hid h1
    rw [h1]
    clear h1
    have hn0 := hok.n0
    have hn1 := hok.n1
    have Hes := Lib.hid hok.es
    have hae := Hs.out.es
    clear hok
    generalize hn : a.n = an at *
    obtain ⟨n, rfl⟩ := Int.eq_ofNat_of_zero_le hn0
    have Hn := Lib.hid hn
    obtain ⟨x0, x1, x2, x3, x4⟩ := hbx
    clear hn hn0
    go_wp2_with fail
    refine (newGraph_any _ _ _ _ _ _ _ n a.es _ (RdE.mono ⟨ae, ce, rfl, hre⟩ hW1) hae (by omega) (fun x hx => ⟨(Hes.out x hx).1, (Hes.out x hx).2.1⟩)).mono ?_
    rintro e w3 ⟨_, rfl, ⟨af, cf, rfl, hrf⟩, hb3⟩
    have hW3 := hW1.trans (hb3.mono hW1.size)
    obtain ⟨z0, z1, z2, z3, z4⟩ := box4' ⟨x0, x1, x2, x3, x4⟩ hb3
    have Hf : Hid (∀ k : Nat, k ≤ n → ∃ bb oo, af = some ⟨bb, oo, none⟩ ∧ w3.cell? ⟨bb, oo + k, none⟩ = some (.int .i64 (fstN a.es k))) := by
      intro k hk
      obtain ⟨bb, oo, e, h9⟩ := hrf.at_elem k (by omega)
      refine ⟨bb, oo, e, ?_⟩
      have h8 := h9 k (by have := hrf.hlen; omega)
      rw [h8, ← List.getElem?_eq_getElem]
      exact firsts_get n a.es k hk
    have Hok3 := Lib.hid (show w3.heap.size = w3.heap.size from rfl)
    clear x0 x1 x2 x3 x4 hb3 hrf
    go_wp2_with fail
    clear z0 z1 z2 z3
    go_loopw [6, 17] (fun o i wr => ∃ (k : Nat) (tag : Nat → Nat), k ≤ n ∧ i = .int .i64 k ∧ Below (w3.heap.size + 1) (w3.alloc (.cells #[.slice aa a.al.length ca, .int .i64 n, .slice am a.ms.length cm, .slice ae a.es.length ce, .slice af (n + 1) cf] 80)) wr ∧ Row wr (w3.heap.size + 1) tag 1 3 1 o (selL (deadB a.es) k).length (ints (selL (deadB a.es) k))) (fun _ i _ => n - (intOf i).toNat)
    case atStart => exact ⟨0, fun _ => 1, Nat.zero_le _, rfl, Below.refl _ _, Row.nil _ _ _ _ _ _⟩
    case round =>
      obtain ⟨k, tag, hk, rfl, hB, hrow⟩ := hrel
      have hB0 : Below w3.heap.size w3 wr := ((Below.refl _ _).alloc (Nat.le_refl _) _).trans (hB.mono (Nat.le_succ _))
      have hsz := hB.size
      simp only [World.size_alloc] at hsz
      have c4 : wr.cell? ⟨w3.heap.size, 4, none⟩ = some (.slice af (n + 1) cf) := (hB.cell (p := ⟨w3.heap.size, 4, none⟩) (by simp)).trans (by simp [go_sem])
      have hle := selL_le (deadB a.es) k
      obtain ⟨ao, co, rfl⟩ := hrow.val
      by_cases hlt : k < n
      · have Hsel : Hid (∀ b, deadB a.es k = b → selL (deadB a.es) (k + 1) = if b = true then selL (deadB a.es) k ++ [(k : Int)] else selL (deadB a.es) k) := by
          intro b hb
          cases b with
          | true => exact selL_true hb
          | false => exact selL_false hb
        obtain ⟨bb, oo, rfl, g0⟩ := Hf.out k hk
        obtain ⟨bb', oo', e1, g1⟩ := Hf.out (k + 1) (by omega)
        cases e1
        have hdi := deadB_iff a.es k
        rw [show ((k + 1 : Nat) : Int) = (k : Int) + 1 by omega] at g1
        replace g0 := keep0 hB0 g0
        replace g1 := keep0 hB0 g1
        have hlti : (k : Int) < n := by omega
        have hlti2 : (k : Int) + 1 < (n : Int) + 1 := by omega
        generalize selL (deadB a.es) k = O at *
        generalize ((fstN a.es k : Nat) : Int) = p at *
        generalize ((fstN a.es ((k : Int) + 1) : Nat) : Int) = q at *
        have hrowd := hrow.below (bel_drew wr)
        cases hb : deadB a.es k with
        | false =>
          have HO := Lib.hid (Hsel.out _ hb)
          rw [hb] at hdi
          clear hb
          go_wp2_with fail
          go_quiet (fail)
          go_wp2_with fail
          go_roundw
          case rel => exact ⟨k + 1, tag, by omega, by go_num, bel_drewN hB _, by rw [HO.out]; exact hrow.below (bel_drewN (Below.refl _ _) _)⟩
          case measure => simp [intOf]; omega
        | true =>
          have HO := Lib.hid (Hsel.out _ hb)
          rw [hb] at hdi
          clear hb
          go_wp2_with fail
          go_quiet (fail)
          have hrow10 := (hrow.below (bel_drewN (Below.refl _ _) nq)).below (bel_alloc (wr.drewN nq) (.cells #[.int .i64 k] 3))
          go_wp2_with (at_builtin; refine wpList_append_row rfl _ _ 28 rfl 3 i0 (.int .i64 0) 8 Try.underlying28 hi hz0 hz1 hz2 rfl rfl hrow10 (some ⟨_, 0, none⟩) 1 1 [.int .i64 k] rfl (by simp) (fun e => by cases e) (fun ad e => by cases e; exact new_cells_at _ _ rfl) (by simp [Value.oneCell']) (by unfold maxLen; omega) (by omega) (by simp; omega) ?_; intro v6 w6 tag6 hr6 ht6; obtain ⟨a6, c6, rfl⟩ := hr6.val)
          go_roundw
          case rel =>
            refine ⟨k + 1, tag6, by omega, by go_num, belTurn ((bel_drewN hB nq).alloc (by simp; omega) _) ht6 (by simp; omega), ?_⟩
            rw [HO.out, if_pos (by trivial), List.length_append]
            have := hr6
            simpa [ints] using this
          case measure => simp [intOf]; omega
      · have hkn : n = k := by omega
        have Hrow := Lib.hid hrow
        have hge : (n : Int) ≤ k := by omega
        have Hkn := Lib.hid hkn
        clear hkn hrow
        generalize hO : selL (deadB a.es) k = O at *
        have HO := Lib.hid hO
        clear hO
        go_wp2_with fail
        go_ret2
        refine ⟨_, rfl, ?_, hW3.trans (hB0.mono hW3.size)⟩
        rw [ListPost, if_pos H1.out]
        refine ⟨_, rfl, ?_⟩
        rw [show selL (deadB a.es) ((n : Int)).toNat = O by rw [Int.toNat_natCast, Hkn.out, HO.out]]
        exact Hrow.out.rdI
  · have H1 := Lib.hid h1
    have h1' : (a.err != 0) = true := by simpa using h1
    clear h1
    go_wp2_with fail
    go_ret2
    refine ⟨_, rfl, ?_, hW1⟩
    rw [ListPost, if_neg H1.out]
    rfl
end Go.Proofs.Ythchkddhibhenaa
