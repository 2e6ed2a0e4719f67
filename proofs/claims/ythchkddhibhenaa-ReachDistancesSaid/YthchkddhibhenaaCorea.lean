/- The contract of Coreachable. -/
import Derived.Test.YthchkddhibhenaaReach
import Derived.Deep.RegionWith
namespace Go.Proofs.Ythchkddhibhenaa
open Go.RowKit

theorem bwd_length (inn : Nat → List Int) : ∀ (f : Nat) (ds q : List Int), (bwd inn f ds q).length = ds.length
  | 0, _, _ => rfl
  | _ + 1, _, [] => rfl
  | f + 1, ds, s :: q => by
    rw [bwd, bwd_length inn f]
    generalize inn s.toNat = l
    induction l generalizing ds q with
    | nil => rfl
    | cons p l ih =>
      rw [List.foldl_cons]
      have h1 : (bStep s.toNat (ds, q) p).1.length = ds.length := by unfold bStep; dsimp only; split <;> simp
      generalize hb : bStep s.toNat (ds, q) p = r at *
      obtain ⟨r1, r2⟩ := r
      rw [ih r1 r2, h1]
theorem backward_length (n : Nat) (es : List Ed) (tg : List Int) : (backward n es tg).length = n := by rw [backward, bwd_length, bStart_length]

set_option maxHeartbeats 1000000 in
theorem corea_any (v : Value) (a : Aut) (w : World) (ha : RdA w v a) (hs : a.small) :
    Calls Try.prog 27 #[v] w (Ret w (ListPost a.err (corea a))) := by
  have ha0 := ha
  obtain ⟨va, vm, ve, rfl, ⟨aa, ca, rfl, hra⟩, ⟨am, cm, rfl, hrm⟩, ⟨ae, ce, rfl, hre⟩⟩ := ha
  obtain ⟨i0, hi, hz0, hz1, hz2⟩ := info_parts Try.info_int
  have Ha0 := Lib.hid ha0
  have Hs := Lib.hid hs
  clear ha0 hs
  go_enter Try.func27, Try.ntmps27
  go_wp2_with fail
  refine (check_any _ a _ (Ha0.out.mono (by (repeat (first | with_reducible exact Below.refl _ _ | with_reducible exact Ha0 | (with_reducible refine belCall ?_ Ha0 (by first | omega | (simp; done) | (simp; omega) | (simp at *; omega))) | (with_reducible refine Below.alloc ?_ (by first | omega | (simp; done) | (simp; omega) | (simp at *; omega)) _) | (with_reducible refine Below.drew ?_) | (with_reducible refine Below.setCell ?_ (by first | omega | (simp; done) | (simp; omega) | (simp at *; omega)) _))))) Hs.out).mono ?_
  rintro e w1 ⟨_, rfl, rfl, hb1⟩
  have hW1 : Below w.heap.size w w1 := ((Below.refl _ _).alloc (Nat.le_refl _) _).trans (hb1.mono (by simp))
  have hbx := box4 hb1
  clear hb1
  by_cases h1 : a.err = 0
  · have hok := Aut.ok_of h1
    have H1 := Lib.hid h1
    rw [h1]
    clear h1
    have hn0 := hok.n0
    have hn1 := hok.n1
    have Hes := Lib.hid hok.es
    have Hms := Lib.hid hok.ms
    have hae := Hs.out.es
    have ham := Hs.out.ms
    clear hok
    generalize hn : a.n = an at *
    obtain ⟨n, rfl⟩ := Int.eq_ofNat_of_zero_le hn0
    have Hn := Lib.hid hn
    have hbd := box4' hbx (bel_drew w1)
    obtain ⟨x0, x1, x2, x3, x4⟩ := hbx
    obtain ⟨y0, y1, y2, y3, y4⟩ := hbd
    have hW1d := hW1.drew
    clear hn hn0
    go_wp2_with fail
    go_region_with (first
      | (go_at_call 48; refine (newGraph_any _ _ _ _ _ _ _ n a.es _ (RdE.mono ⟨ae, ce, rfl, hre⟩ hW1d) hae (by omega) (fun x hx => ⟨(Hes.out x hx).1, (Hes.out x hx).2.1⟩)).mono ?_; rintro e w3 ⟨_, rfl, ⟨af, cf, rfl, hrf⟩, hb3⟩; have hW3 := hW1d.trans (hb3.mono hW1d.size); obtain ⟨z0, z1, z2, z3, z4⟩ := box4' ⟨y0, y1, y2, y3, y4⟩ hb3)
      | (go_at_call 49; refine (backward_any _ _ _ _ _ _ _ _ _ _ _ n a.es a.ms _ (RdE.mono ⟨ae, ce, rfl, hre⟩ hW3) (RdI.mono ⟨am, cm, rfl, hrm⟩ hW3) hae ham (by omega) Hes.out Hms.out).mono ?_; rintro e w4 ⟨v4, rfl, ⟨a4, c4, rfl, hv4⟩, hb4⟩; have hW4 := hW3.trans (hb4.mono hW3.size)))
    all_goals
      have Hco : Hid (corea a = listL ((backward n a.es a.ms).map fun d => decide (0 ≤ d))) := by
        show _ = _
        rw [corea, Hn.out, Int.toNat_natCast]
      have hlen := backward_length n a.es a.ms
      clear x0 x1 x2 x3 x4 y0 y1 y2 y3 y4 z0 z1 z2 z3 z4 hW1 hW1d hW3 hb3 hb4 hrf
      generalize backward n a.es a.ms = D at *
      have hl2 : D.length ≤ 1000000 := by omega
      have hfl : (D.map fun d => decide (0 ≤ d)).length = D.length := by simp
      clear hlen
      go_wp2_with fail
      go_simp
      go_loopw [5, 19] (fun v i wr => ∃ k : Nat, k ≤ D.length ∧ i = .int .i64 k ∧ Below w4.heap.size w4 wr ∧ wr.ownsRow w4.heap.size 3 1 v (listK (D.map fun d => decide (0 ≤ d)) k).length (ints (listK (D.map fun d => decide (0 ≤ d)) k))) (fun _ i _ => D.length - (intOf i).toNat)
      case atStart => exact ⟨0, Nat.zero_le _, rfl, Below.refl _ _, by simpa [listK] using World.ownsRow_nil w4 w4.heap.size 3 1⟩
      case round =>
        obtain ⟨k, hk, rfl, hB, hown⟩ := hrel
        have hle := listK_le (D.map fun d => decide (0 ≤ d)) k
        have hsz := hB.size
        by_cases hlt : k < D.length
        · obtain ⟨b, off, rfl, hc⟩ := hv4.at_int k hlt
          replace hc := keep0 hB hc
          by_cases hx : 0 ≤ D[k]
          · have hs := Lib.hid (listK_true (fl := D.map fun d => decide (0 ≤ d)) (k := k) (by rw [hfl]; exact hlt) (by simpa using hx))
            go_wp2_with ((at_builtin; refine wpList_append_own _ rfl _ _ 28 rfl (w4.heap.size) 3 i0 (.int .i64 0) 1 8 Try.underlying28 hi hz0 hz1 hz2 rfl (by decide) _ ((listK (D.map fun d => decide (0 ≤ d)) k).length) _ rfl ((hown).alloc _) ⟨_, 0, none⟩ 1 1 [.int .i64 k] rfl rfl (new_cells _ [_] _) (by simp [Value.oneCell']) (by unfold maxLen; omega) (by omega) (by first | omega | (simp; done) | (simp; omega) | (simp at *; omega)) ?_; intro v1 w1 hown1 hgrow1 _); have Hown := Lib.hid hown1; clear hown1)
            go_roundw
            case rel =>
              refine ⟨k + 1, by omega, by go_num, Below.grown (by (repeat (first | with_reducible exact Below.refl _ _ | with_reducible exact hB | (with_reducible refine belCall ?_ hB (by first | omega | (simp; done) | (simp; omega) | (simp at *; omega))) | (with_reducible refine Below.alloc ?_ (by first | omega | (simp; done) | (simp; omega) | (simp at *; omega)) _) | (with_reducible refine Below.drew ?_) | (with_reducible refine Below.setCell ?_ (by first | omega | (simp; done) | (simp; omega) | (simp at *; omega)) _)))) hgrow1 (by first | omega | (simp; done) | (simp; omega) | (simp at *; omega)) (fun j e => (hown.lt j e).1), ?_⟩
              have h1 := Hown.out
              rw [hs.out]
              simpa [ints] using h1
            case measure => simp [intOf]; omega
          · have hs := Lib.hid (listK_false (fl := D.map fun d => decide (0 ≤ d)) (k := k) (by rw [hfl]; exact hlt) (by simpa using hx))
            go_wp2
            go_roundw
            case rel => exact ⟨k + 1, by omega, by go_num, hB, by rw [hs.out]; exact hown⟩
            case measure => simp [intOf]; omega
        · go_wp2
          go_ret2
          obtain rfl : k = D.length := by omega
          refine ⟨_, rfl, ?_, hW4.trans (hB.mono hW4.size)⟩
          rw [ListPost, if_pos H1.out, Hco.out]
          rw [← hfl] at hown
          exact ⟨_, rfl, RdI.of_own hown⟩
  · have H1 := Lib.hid h1
    have h1' : (a.err != 0) = true := by simpa using h1
    clear h1
    go_wp2_with fail
    go_ret2
    refine ⟨_, rfl, ?_, hW1⟩
    rw [ListPost, if_neg H1.out]
    rfl
end Go.Proofs.Ythchkddhibhenaa
