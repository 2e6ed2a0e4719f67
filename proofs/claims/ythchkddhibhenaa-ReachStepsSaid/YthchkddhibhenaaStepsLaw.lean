/- ReachSteps returns true. -/
import Derived.Test.YthchkddhibhenaaLawKit
import Derived.Test.YthchkddhibhenaaSmall
import Derived.Deep.DeepCutAuto
import Derived.Deep.RegionWith
namespace Go.Proofs.Ythchkddhibhenaa
open Go.RowKit

/-- What Distances returns of a described automaton. -/
theorem mk_dist (xs : List Int) (b : Int) : err2 (mkA xs).err (setErr (mkA xs).n none (bitsL b (mkN xs))) = 0 := by
  rw [err2, if_pos (mkA_err xs)]; exact bitsL_err b _
/-- What Path and its result leave in ReachSteps. -/
def SCut (V : Int) (es : List Ed) (tg : List Int) (k : Int) (s14 s15 s16 : Value) (w' : World) : Prop :=
  s16 = .int .i64 0 ∧ ((∃ wd a c, V = ((wd : List Int).length : Int) ∧ leadsL es tg k wd = true ∧ s14 = .slice a wd.length c ∧ RdI w' s14 wd ∧ s15 = .bool true) ∨ (V = -1 ∧ s14 = .slice none 0 0 ∧ s15 = .bool false))
theorem PPost.some_ {xs : List Int} {u : Value} {w' : World} (h : PPost 0 (some xs) u w') : ∃ v, u = .tuple #[v, .bool true, .int .i64 0] ∧ RdI w' v xs := by
  unfold PPost at h; rwa [if_pos rfl] at h
theorem PPost.none_ {u : Value} {w' : World} (h : PPost 0 none u w') : u = .tuple #[.slice none 0 0, .bool false, .int .i64 0] := by
  unfold PPost at h; rwa [if_pos rfl] at h
theorem RdI.nil_ (w : World) : RdI w (.slice none 0 0) [] := ⟨none, 0, rfl, ⟨rfl, Nat.le_refl _, by simp [maxLen], fun _ => rfl, fun _ e => (by cases e), fun _ e => (by cases e)⟩⟩
theorem IsDist.ge {es : List Ed} {tg : List Int} {s d : Int} (h : IsDist es tg s d) : -1 ≤ d := by
  rcases h with ⟨rfl, _⟩ | ⟨k, rfl, _⟩ <;> omega
theorem lStep_drop {D : List Int} {k : Int} {es : List Ed} {m : Nat} (h : m < es.length) (l : Int) : (es.drop m).foldl (lStep D k) l = (es.drop (m + 1)).foldl (lStep D k) (lStep D k l es[m]) := by
  rw [List.drop_eq_getElem_cons h, List.foldl_cons]

set_option maxRecDepth 100000 in
set_option maxHeartbeats 6000000 in
theorem reachSteps_any (xs : List Int) (hd : Desc xs) (b : Int) (hb0 : 0 ≤ b) (hb1 : b < 256) (w : World) :
    Calls Try.prog 4 #[.agg (bytes8 xs), .int .u8 b] w (Ret w fun u _ => u = .bool true) := by
  have Hd := Lib.hid hd
  have Hsz := Lib.hid hd.size
  have hmake := fun w => make_any xs w hd
  have Hmake := Lib.hid hmake
  clear hd hmake
  generalize bytes8 xs = cs at *
  go_enter Try.func4, Try.ntmps4
  go_wp2_with fail
  refine (known_any _).mono ?_
  rintro e w1 ⟨_, rfl, rfl, hbk⟩
  have hW1 := ((Below.refl w.heap.size w).alloc (Nat.le_refl _) (.cells cs 25)).trans (hbk.mono (by simp))
  have hx1 : w1.heap[w.heap.size]? = some (.cells cs 25 (0, 0)) := (hbk.block _ (by simp)).trans (heap_at rfl)
  have Hx1 := Lib.hid hx1
  clear hbk hx1
  go_wp2_with (first | (with_reducible refine wpList_load_row rfl 25 (.tmp 2) rfl w.heap.size rfl 25 cs (0, 0) _ (Hx1.out) Try.underlying25 rfl Hsz.out ?_) | (go_at_call 13; refine (Hmake.out _).mono ?_; rintro e w2 ⟨v2, rfl, ha2, hb2⟩; have hW2 := hW1.trans (hb2.mono hW1.size); have Ha2 := Lib.hid ha2; obtain ⟨aa, ca, am, cm, ae, ce, rfl⟩ := mkA_val ha2; clear ha2 hb2))
  have hN := mkN_le xs
  have Hsmall := Lib.hid (mkA_small xs)
  refine (bits_any b (mkN xs) _ hb0 hb1 (by omega)).mono ?_
  rintro e w3 ⟨v3, rfl, hown3, hb3⟩
  have hW3 : Below w.heap.size w w3 := (hW2.alloc hW2.size _).trans (hb3.mono (Nat.le_trans hW2.size (by simp)))
  have HL3 := Lib.hid (RdI.of_own hown3)
  obtain ⟨a3, c3, rfl, hr3⟩ := RdS.of_own hown3
  have hbx := box4 hb3
  have Ha3 := Lib.hid ((Ha2.out.mono (bel_alloc _ (.cells #[.slice aa 4 ca, .int .i64 (mkN xs : Nat), .slice am (mkA xs).ms.length cm, .slice ae (mkA xs).es.length ce] 31))).mono hb3)
  have hLle : (bitsL b (mkN xs)).length ≤ 1000000 := by have := bitsL_le b (mkN xs); omega
  obtain ⟨x0, x1, x2, x3, x4⟩ := hbx
  have Hbx := Lib.hid (And.intro x0 (And.intro x1 (And.intro x2 (And.intro x3 x4))))
  clear hown3 hr3 hb3
  go_wp2_with fail
  refine (distances_any _ _ (mkA xs) (bitsL b (mkN xs)) _ Ha3.out Hsmall.out HL3.out hLle).mono ?_
  rintro e w4 ⟨v4, rfl, hp4, hb4⟩
  have hW4 := hW3.trans (hb4.mono hW3.size)
  rw [ListPost, if_pos (mk_dist xs b)] at hp4
  have hp5 : ∃ v, v4 = .tuple #[v, .int .i64 0] ∧ RdI w4 v (backward (mkN xs) (mkA xs).es (bitsL b (mkN xs))) := hp4
  have hone := fun i hi => steps_one xs b i hi
  have hbd := fun i hi => backward_bd (n := mkN xs) (es := (mkA xs).es) (tg := bitsL b (mkN xs)) (by omega) (mkA_es xs) (bitsL_in b _) i hi
  have hlen := backward_length (mkN xs) (mkA xs).es (bitsL b (mkN xs))
  dsimp only at hone
  clear hp4
  generalize backward (mkN xs) (mkA xs).es (bitsL b (mkN xs)) = D at *
  obtain ⟨v5, rfl, a4, c4, rfl, hr4⟩ := hp5
  have Ha4 := Lib.hid (Ha3.out.mono hb4)
  have HL4 := Lib.hid (HL3.out.mono hb4)
  have hbx4 := box4' Hbx.out hb4
  have hall := fun (W : World) => all_any (mkN xs) W (by omega)
  have hpath := fun (W : World) (i : Nat) (vt vw : Value) (va : Value) (h1 : RdA W va (mkA xs)) (h2 : RdI W vt (bitsL b (mkN xs))) (h3 : RdI W vw (allL (mkN xs))) => rpath_any va vt vw (mkA xs) i (bitsL b (mkN xs)) (allL (mkN xs)) W h1 (mkA_small xs) h2 h3 hLle (by rw [allL_length]; omega)
  have hleads := fun (W : World) (i : Nat) (ws : List Int) (is : Bool) (vw vt : Value) (va : Value) (h1 : RdA W va (mkA xs)) (h2 : RdI W vw ws) (h3 : RdI W vt (bitsL b (mkN xs))) (hl : ws.length ≤ 1000000) => leads_any va vw vt (mkA xs) i ws (bitsL b (mkN xs)) is W h1 (mkA_small xs) h2 h3 hl hLle
  have Hall := Lib.hid hall
  have Hpath := Lib.hid hpath
  have Hleads := Lib.hid hleads
  have hes := mkA_es xs
  have hEl : (mkA xs).es.length ≤ 1000000 := Hsmall.out.es
  have hre : ∃ aa ca am cm, RdA w4 (.agg #[.slice aa 4 ca, .int .i64 (mkN xs : Nat), .slice am (mkA xs).ms.length cm, .slice ae (mkA xs).es.length ce]) (mkA xs) := ⟨_, _, _, _, Ha4.out⟩
  have hre4 : RdS w4 3 ae (mkA xs).es.length ce (edCells (mkA xs).es) := by
    obtain ⟨va, vm, ve, e1, _, _, ⟨ae', ce', e2, h9⟩⟩ := Ha4.out
    simp at e1
    obtain ⟨_, _, e3⟩ := e1
    rw [← e3.2] at e2
    cases e2
    exact h9
  have Hone := Lib.hid hone
  have Hbd := Lib.hid hbd
  have Hes := Lib.hid hes
  clear hone hbd hes hall hpath hleads hre Hsmall hb4 x0 x1 x2 x3 x4 Ha2 Ha3 HL3
  generalize hNN : mkN xs = N at *
  have HNN := Lib.hid hNN
  clear hNN
  rw [hlen] at hr4
  have hcell : ∀ k : Nat, k < N → ∃ bb oo, a4 = some ⟨bb, oo, none⟩ ∧ w4.cell? ⟨bb, oo + k, none⟩ = some (.int .i64 (D.getD k 0)) := by
    intro k hk
    rw [← hlen] at hr4
    obtain ⟨bb, oo, e, h9⟩ := hr4.at_int k (by omega)
    refine ⟨bb, oo, e, ?_⟩
    rw [h9, List.getD_eq_getElem?_getD, List.getElem?_eq_getElem (by omega)]; rfl
  have Hcell := Lib.hid hcell
  have Hlen := Lib.hid hlen
  obtain ⟨x0, x1, x2, x3, x4⟩ := hbx4
  have Hbx := Lib.hid (And.intro x0 (And.intro x1 (And.intro x2 (And.intro x3 x4))))
  rw [Hlen.out]
  clear hcell hr4 hlen
  go_wp2_with fail
  have hEpos : ∀ x ∈ (mkA xs).es, True := fun _ _ => trivial
  clear hEpos
  go_loopw [9] (fun i wr => ∃ k : Nat, i = .int .i64 k ∧ k ≤ N ∧ Below w4.heap.size w4 wr) (fun i _ => N - (intOf i).toNat)
  case atStart => exact ⟨0, rfl, Nat.zero_le _, Below.refl _ _⟩
  case round =>
    clear x0 x1 x2 x3
    obtain ⟨k, rfl, hk, hB⟩ := hrel
    have y0 := keep hB Hbx.out.1 x4
    have y1 := keep hB Hbx.out.2.1 x4
    have y2 := keep hB Hbx.out.2.2.1 x4
    have y3 := keep hB Hbx.out.2.2.2.1 x4
    by_cases hlt : k < N
    · obtain ⟨hD0, hD1, hD2⟩ := Hone.out k hlt
      obtain ⟨bb, oo, rfl, hck⟩ := Hcell.out k hlt
      have Hone1 := Lib.hid (And.intro hD0 (And.intro hD1 hD2))
      have hDb := (Hbd.out k hlt).2
      have hDl := IsDist.ge (Hbd.out k hlt).1
      clear hD0 hD1 hD2
      go_wp2_with fail
      clear y0 y1 y2 y3
      have hl0 : Hid (leastL D k (mkA xs).es = (mkA xs).es.foldl (lStep D k) (-1)) := rfl
      go_loopw [10, 49] (fun l j wr' => ∃ (m : Nat) (lv : Int), l = .int .i64 lv ∧ j = .int .i64 m ∧ m ≤ (mkA xs).es.length ∧ Hid (leastL D k (mkA xs).es = ((mkA xs).es.drop m).foldl (lStep D k) lv) ∧ -1 ≤ lv ∧ lv ≤ N ∧ Below w4.heap.size w4 wr') (fun _ j _ => (mkA xs).es.length - (intOf j).toNat)
      case atStart => exact ⟨0, -1, rfl, rfl, Nat.zero_le _, hl0, by omega, by omega, hB⟩
      case round =>
        clear hB
        obtain ⟨m, lv, rfl, rfl, hm, hl, hlv0, hlv1, hB⟩ := hrel
        have hszB := hB.size
        by_cases hltm : m < (mkA xs).es.length
        · obtain ⟨be, oe, rfl, d0, d1, d2⟩ := hre4.at_edge m hltm
          have hx := Hes.out _ (List.getElem_mem hltm)
          have Hd := Lib.hid (lStep_drop (D := D) (k := k) hltm lv)
          replace d0 := keep0 hB d0
          replace d1 := keep0 hB d1
          replace d2 := keep0 hB d2
          generalize (mkA xs).es[m] = x at *
          obtain ⟨xf, xe, xt⟩ := x
          dsimp only at *
          obtain ⟨t, rfl⟩ := Int.eq_ofNat_of_zero_le hx.2.2.1
          have htN : t < N := by omega
          obtain ⟨bb', oo', e1, hct⟩ := Hcell.out t htN
          cases e1
          replace hct := keep0 hB hct
          have hb9 := (Hbd.out t htN).2
          have Hstep : Hid (lStep D k lv ⟨xf, xe, t⟩ = if xf = k ∧ 0 ≤ D.getD t 0 ∧ (lv < 0 ∨ D.getD t 0 < lv) then D.getD t 0 else lv) := rfl
          clear hx
          have hbl := World.block_lt_of_cell? _ _ d0
          have hbl2 := World.block_lt_of_cell? _ _ hct
          dsimp only at hbl hbl2
          generalize D.getD t 0 = dt at *
          have Hnext : Hid (∀ v, lStep D k lv ⟨xf, xe, t⟩ = v → leastL D k (mkA xs).es = ((mkA xs).es.drop (m + 1)).foldl (lStep D k) v) := by
            intro v hv
            rw [hl.out, Hd.out, hv]
          clear hl Hd
          by_cases hf : xf = k
          · have q1 : (xf == (k : Int)) = true := by simpa using hf
            by_cases h0 : 0 ≤ dt
            · by_cases h1 : lv < 0
              · have HV := Lib.hid (Hnext.out dt (by rw [Hstep.out, if_pos ⟨hf, h0, .inl h1⟩]))
                clear hf Hstep Hnext
                go_wp2_with fail
                go_roundw
                case rel => exact ⟨m + 1, dt, rfl, by go_num, by omega, HV.out, by omega, by omega, (by (repeat (first | with_reducible exact Below.refl _ _ | with_reducible exact hB | (with_reducible refine belCall ?_ hB (by first | omega | (simp; done) | (simp; omega) | (simp at *; omega))) | (with_reducible refine Below.alloc ?_ (by first | omega | (simp; done) | (simp; omega) | (simp at *; omega)) _) | (with_reducible refine Below.drew ?_) | (with_reducible refine Below.setCell ?_ (by first | omega | (simp; done) | (simp; omega) | (simp at *; omega)) _))))⟩
                case measure => simp [intOf]; omega
              · by_cases h2 : dt < lv
                · have HV := Lib.hid (Hnext.out dt (by rw [Hstep.out, if_pos ⟨hf, h0, .inr h2⟩]))
                  clear hf Hstep Hnext
                  go_wp2_with fail
                  go_roundw
                  case rel => exact ⟨m + 1, dt, rfl, by go_num, by omega, HV.out, by omega, by omega, (by (repeat (first | with_reducible exact Below.refl _ _ | with_reducible exact hB | (with_reducible refine belCall ?_ hB (by first | omega | (simp; done) | (simp; omega) | (simp at *; omega))) | (with_reducible refine Below.alloc ?_ (by first | omega | (simp; done) | (simp; omega) | (simp at *; omega)) _) | (with_reducible refine Below.drew ?_) | (with_reducible refine Below.setCell ?_ (by first | omega | (simp; done) | (simp; omega) | (simp at *; omega)) _))))⟩
                  case measure => simp [intOf]; omega
                · have HV := Lib.hid (Hnext.out lv (by rw [Hstep.out, if_neg (fun h => h.2.2.elim h1 h2)]))
                  clear hf Hstep Hnext
                  go_wp2_with fail
                  go_roundw
                  case rel => exact ⟨m + 1, lv, rfl, by go_num, by omega, HV.out, by omega, by omega, (by (repeat (first | with_reducible exact Below.refl _ _ | with_reducible exact hB | (with_reducible refine belCall ?_ hB (by first | omega | (simp; done) | (simp; omega) | (simp at *; omega))) | (with_reducible refine Below.alloc ?_ (by first | omega | (simp; done) | (simp; omega) | (simp at *; omega)) _) | (with_reducible refine Below.drew ?_) | (with_reducible refine Below.setCell ?_ (by first | omega | (simp; done) | (simp; omega) | (simp at *; omega)) _))))⟩
                  case measure => simp [intOf]; omega
            · have HV := Lib.hid (Hnext.out lv (by rw [Hstep.out, if_neg (fun h => h0 h.2.1)]))
              clear hf Hstep Hnext
              go_wp2_with fail
              go_roundw
              case rel => exact ⟨m + 1, lv, rfl, by go_num, by omega, HV.out, by omega, by omega, (by (repeat (first | with_reducible exact Below.refl _ _ | with_reducible exact hB | (with_reducible refine belCall ?_ hB (by first | omega | (simp; done) | (simp; omega) | (simp at *; omega))) | (with_reducible refine Below.alloc ?_ (by first | omega | (simp; done) | (simp; omega) | (simp at *; omega)) _) | (with_reducible refine Below.drew ?_) | (with_reducible refine Below.setCell ?_ (by first | omega | (simp; done) | (simp; omega) | (simp at *; omega)) _))))⟩
              case measure => simp [intOf]; omega
          · have q1 : (xf == (k : Int)) = false := by simpa using hf
            have HV := Lib.hid (Hnext.out lv (by rw [Hstep.out, if_neg (fun h => hf h.1)]))
            clear hf Hstep Hnext
            go_wp2_with fail
            go_roundw
            case rel => exact ⟨m + 1, lv, rfl, by go_num, by omega, HV.out, by omega, by omega, (by (repeat (first | with_reducible exact Below.refl _ _ | with_reducible exact hB | (with_reducible refine belCall ?_ hB (by first | omega | (simp; done) | (simp; omega) | (simp at *; omega))) | (with_reducible refine Below.alloc ?_ (by first | omega | (simp; done) | (simp; omega) | (simp at *; omega)) _) | (with_reducible refine Below.drew ?_) | (with_reducible refine Below.setCell ?_ (by first | omega | (simp; done) | (simp; omega) | (simp at *; omega)) _))))⟩
            case measure => simp [intOf]; omega
        · have hml : m = (mkA xs).es.length := by omega
          have HL : Hid (leastL D k (mkA xs).es = lv) := by
            show _ = _
            rw [hl.out, hml, List.drop_length]; rfl
          clear hl hml
          have hBd := hB.drew
          have z0 := keep hB Hbx.out.1 x4
          have z1 := keep hB Hbx.out.2.1 x4
          have z2 := keep hB Hbx.out.2.2.1 x4
          have z3 := keep hB Hbx.out.2.2.2.1 x4
          have hk8 : k < 8 := by omega
          have hk0 : (0 : Int) ≤ k := by omega
          have hk9 : (k : Int) < 8 := by omega
          go_upto_if 85 with fail
          go_cut [13] (fun s13 wx => ∃ v : Int, s13 = .int .i64 v ∧ wx = wr ∧ Hid (v = if 0 ≤ lv then lv + 1 else -1))
          case first =>
            by_cases h0 : 0 ≤ lv
            · have H0 := Lib.hid h0
              go_wp2_with fail
              go_meet
              exact ⟨lv + 1, rfl, rfl, by show _ = _; rw [if_pos H0.out]⟩
            · have H0 := Lib.hid h0
              have h0' : lv < 0 := by omega
              go_wp2_with fail
              go_meet
              exact ⟨-1, rfl, rfl, by show _ = _; rw [if_neg (by have := H0.out; omega)]⟩
          case rest =>
            obtain ⟨v1, rfl, rfl, Hv1⟩ := hcut
            go_upto_if 92 with fail
            go_cut [13] (fun s13 wx => s13 = .int .i64 (D.getD k 0) ∧ wx = wc)
            case first =>
              have hbits : bits .and .u8 (b / 2 ^ k) 1 = b / 2 ^ k % 2 := by
                have q0 : 0 ≤ b / 2 ^ k := Int.ediv_nonneg hb0 (by have := Int.pow_pos (n := (2 : Int)) (m := k) (by decide); omega)
                have q1 : b / 2 ^ k < 256 := Int.lt_of_le_of_lt (Int.ediv_le_self _ hb0) hb1
                rw [u8_and _ 1 q0 q1 (by decide) (by decide), show Int.toNat 1 = 1 from rfl, Nat.and_one_is_mod]
                omega
              cases hx : bitB b k with
              | false =>
                have hx' : (bits .and .u8 (b / 2 ^ k) 1 == 1) = false := by rw [hbits]; exact hx
                have HV : Hid (D.getD k 0 = v1) := by
                  show _ = _
                  rw [Hone1.out.1, if_neg (by rw [hx]; simp), HL.out, Hv1.out]
                clear hx hbits
                go_wp2_with fail
                go_meet
                exact ⟨by rw [HV.out], rfl⟩
              | true =>
                have hx' : (bits .and .u8 (b / 2 ^ k) 1 == 1) = true := by rw [hbits]; exact hx
                have HV : Hid (D.getD k 0 = 0) := by
                  show _ = _
                  rw [Hone1.out.1, if_pos hx]
                clear hx hbits
                go_wp2_with fail
                go_meet
                exact ⟨by rw [HV.out], rfl⟩
            case rest =>
              obtain ⟨rfl, rfl⟩ := hcut
              have hV : Hid (D.getD k 0 = D.getD k 0) := rfl
              have hck' := keep0 hB hck
              have hbl := World.block_lt_of_cell? _ _ hck'
              dsimp only at hbl
              clear hV Hv1 HL
              generalize D.getD k 0 = V at *
              have z4 : w2.heap.size < wc.heap.size := Nat.lt_of_lt_of_le x4 hszB
              obtain ⟨y0, y1, y2, y3, y4⟩ := box4' ⟨z0, z1, z2, z3, z4⟩ (bel_drew wc)
              have HaD := Lib.hid (Ha4.out.mono hBd)
              have HLD := Lib.hid (HL4.out.mono hBd)
              go_upto_region 23 with fail
              go_cut [14, 15, 16] (fun s14 s15 s16 wx => SCut V (mkA xs).es (bitsL b N) k s14 s15 s16 wx ∧ Below w4.heap.size w4 wx)
              case first =>
                cases hr : reachPath (mkA xs) k (bitsL b N) (allL N) with
                | none =>
                  have hV : V = -1 := by have := Hone1.out.2.2; rw [hr] at this; exact this
                  have HV := Lib.hid hV
                  have HP : Hid (∀ (W : World) (vt vw va : Value), RdA W va (mkA xs) → RdI W vt (bitsL b N) → RdI W vw (allL N) → Calls Try.prog 17 #[va, .int .i64 k, vt, vw] W (Ret W fun u _ => u = .tuple #[.slice none 0 0, .bool false, .int .i64 0])) := by
                    intro W vt vw va h1 h2 h3
                    refine (Hpath.out W k vt vw va h1 h2 h3).mono ?_
                    rintro e W' ⟨u, rfl, h4, h5⟩
                    rw [Hone1.out.2.1, hr] at h4
                    exact ⟨_, rfl, h4.none_, h5⟩
                  clear hV hr
                  go_region_with (first
                    | (go_at_call 20; refine (Hall.out _).mono ?_; rintro e w5 ⟨_, rfl, hown5, hb5⟩; have HL5 := Lib.hid (RdI.of_own hown5); obtain ⟨a5, c5, rfl, hr5⟩ := RdS.of_own hown5; obtain ⟨q0, q1, q2, q3, q4⟩ := box4' ⟨y0, y1, y2, y3, y4⟩ hb5; have Ha5 := Lib.hid (HaD.out.mono hb5); have HLt5 := Lib.hid (HLD.out.mono hb5); have hB5 := hBd.trans (hb5.mono hBd.size); clear hr5 hown5 hb5)
                    | (go_at_call 17; refine (HP.out _ _ _ _ Ha5.out HLt5.out HL5.out).mono ?_; rintro e w6 ⟨_, rfl, rfl, hb6⟩; have hB6 := hB5.trans (hb6.mono hB5.size)))
                  all_goals
                    clear y0 y1 y2 y3 y4
                    go_simp
                    go_wp2_with fail
                    go_meet
                    exact ⟨⟨rfl, .inr ⟨HV.out, rfl, rfl⟩⟩, hB6⟩
                | some wd =>
                  have hV := Hone1.out.2.2
                  rw [hr] at hV
                  have HV := Lib.hid hV
                  have HP : Hid (∀ (W : World) (vt vw va : Value), RdA W va (mkA xs) → RdI W vt (bitsL b N) → RdI W vw (allL N) → Calls Try.prog 17 #[va, .int .i64 k, vt, vw] W (Ret W fun u w' => ∃ v, u = .tuple #[v, .bool true, .int .i64 0] ∧ RdI w' v wd)) := by
                    intro W vt vw va h1 h2 h3
                    refine (Hpath.out W k vt vw va h1 h2 h3).mono ?_
                    rintro e W' ⟨u, rfl, h4, h5⟩
                    rw [Hone1.out.2.1, hr] at h4
                    exact ⟨_, rfl, h4.some_, h5⟩
                  clear hV hr
                  go_region_with (first
                    | (go_at_call 20; refine (Hall.out _).mono ?_; rintro e w5 ⟨_, rfl, hown5, hb5⟩; have HL5 := Lib.hid (RdI.of_own hown5); obtain ⟨a5, c5, rfl, hr5⟩ := RdS.of_own hown5; obtain ⟨q0, q1, q2, q3, q4⟩ := box4' ⟨y0, y1, y2, y3, y4⟩ hb5; have Ha5 := Lib.hid (HaD.out.mono hb5); have HLt5 := Lib.hid (HLD.out.mono hb5); have hB5 := hBd.trans (hb5.mono hBd.size); clear hr5 hown5 hb5)
                    | (go_at_call 17; refine (HP.out _ _ _ _ Ha5.out HLt5.out HL5.out).mono ?_; rintro e w6 ⟨_, rfl, ⟨v6, rfl, hr6⟩, hb6⟩; have hB6 := hB5.trans (hb6.mono hB5.size); have Hr6 := Lib.hid hr6; obtain ⟨a6, c6, rfl, hr6'⟩ := hr6; clear hr6'))
                  all_goals
                    clear y0 y1 y2 y3 y4
                    go_simp
                    go_wp2_with fail
                    go_meet
                    exact ⟨⟨rfl, .inl ⟨wd, a6, c6, HV.out.1, HV.out.2, rfl, Hr6.out, rfl⟩⟩, hB6⟩
              case rest =>
                obtain ⟨⟨rfl, hS⟩, hB6⟩ := hcut
                clear y0 y1 y2 y3 y4 z0 z1 z2 z3 z4 hck' hB hBd HaD HLD hszB
                have h9 := keep0 hB6 hck
                have z0 := keep hB6 Hbx.out.1 x4
                have z1 := keep hB6 Hbx.out.2.1 x4
                have z2 := keep hB6 Hbx.out.2.2.1 x4
                have z3 := keep hB6 Hbx.out.2.2.2.1 x4
                have Ha6 := Lib.hid (Ha4.out.mono hB6)
                have HL6 := Lib.hid (HL4.out.mono hB6)
                clear hck
                rcases hS with ⟨wd, a6, c6, hV, hl, rfl, hr6, rfl⟩ | ⟨hV, rfl, rfl⟩
                · subst hV
                  have Hr6 := Lib.hid hr6
                  have Hl := Lib.hid hl
                  have hnn : (0 : Int) ≤ (wd.length : Int) := by omega
                  have hwl : wd.length ≤ 1000000 := by omega
                  clear hl hr6
                  go_wp2_with (go_at_call 21; refine (Hleads.out _ k wd true _ _ _ Ha6.out Hr6.out HL6.out hwl).mono ?_; rintro e w7 ⟨_, rfl, rfl, hb7⟩; have hB7 := hB6.trans (hb7.mono hB6.size); rw [Hl.out]; clear hb7)
                  go_roundw
                  case rel => exact ⟨k + 1, by go_num, by omega, hB7⟩
                  case measure => simp [intOf]; omega
                · subst hV
                  go_wp2_with (go_at_call 21; refine (Hleads.out _ k [] false _ _ _ Ha6.out (RdI.nil_ _) HL6.out (by decide)).mono ?_; rintro e w7 ⟨_, rfl, rfl, hb7⟩; have hB7 := hB6.trans (hb7.mono hB6.size); clear hb7)
                  go_roundw
                  case rel => exact ⟨k + 1, by go_num, by omega, hB7⟩
                  case measure => simp [intOf]; omega
    · go_wp2_with fail
      go_ret
      exact ⟨_, rfl, rfl, hW4.trans (hB.mono hW4.size)⟩
end Go.Proofs.Ythchkddhibhenaa
