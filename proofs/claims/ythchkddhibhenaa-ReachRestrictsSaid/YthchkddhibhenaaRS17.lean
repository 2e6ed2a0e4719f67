/- The contract of automaton.canonical. -/
import Derived.Deep.DeepCutAuto
import Derived.Test.YthchkddhibhenaaRS2
import Derived.Test.YthchkddhibhenaaRS10
import Derived.Test.YthchkddhibhenaaRS11
import Derived.Test.YthchkddhibhenaaRS16
namespace Go.Proofs.Ythchkddhibhenaa
open Go Go.RowKit Go.Shelf
attribute [local go_sem] Oper.semAt_some

/-- What holds of the slots of a region. -/
def CA15 (B : Nat) (vms : Value) (vq : Value) (i : Nat) (bq : Nat) (oq : Nat) (s : Int) (pl : Nat) (hb : Bool) : Nat → Value → World → Prop
  | 0, v, _ => v = .pointer (some ⟨B, 2, none⟩)
  | 1, v, _ => v = vms
  | 2, v, _ => v = vq
  | 3, v, _ => v = .int .i64 (i : Nat)
  | 4, v, _ => v = .pointer (some ⟨bq, oq + i, none⟩)
  | 5, v, _ => v = .int .i64 s
  | 6, v, _ => v = .tuple #[.int .i64 pl, .bool hb]
  | 7, v, _ => v = .tuple #[.int .i64 pl, .bool hb]
  | 8, v, _ => v = .int .i64 pl
  | 9, v, _ => v = .bool hb
  | 10, v, _ => v = .int .i64 pl
  | 11, v, _ => v = .bool hb
  | _ + 12, _, _ => False
theorem CA15_mono {B : Nat} {vms : Value} {vq : Value} {i : Nat} {bq : Nat} {oq : Nat} {s : Int} {pl : Nat} {hb : Bool} : ∀ j v W W', Below W.heap.size W W' → CA15 B vms vq i bq oq s pl hb j v W → CA15 B vms vq i bq oq s pl hb j v W'
  | 0, _, _, _, _, h => h
  | 1, _, _, _, _, h => h
  | 2, _, _, _, _, h => h
  | 3, _, _, _, _, h => h
  | 4, _, _, _, _, h => h
  | 5, _, _, _, _, h => h
  | 6, _, _, _, _, h => h
  | 7, _, _, _, _, h => h
  | 8, _, _, _, _, h => h
  | 9, _, _, _, _, h => h
  | 10, _, _, _, _, h => h
  | 11, _, _, _, _, h => h
  | _ + 12, _, _, _, _, h => h.elim
theorem list_CA15 {us : List Value} (h : us.length = 12) : ∃ u0 u1 u2 u3 u4 u5 u6 u7 u8 u9 u10 u11, us = [u0, u1, u2, u3, u4, u5, u6, u7, u8, u9, u10, u11] := by
  match us, h with
  | [u0, u1, u2, u3, u4, u5, u6, u7, u8, u9, u10, u11], _ => exact ⟨_, _, _, _, _, _, _, _, _, _, _, _, rfl⟩
/-- What holds of the slots of a region. -/
def CA18 (w : World) (Av : Value) (vq : Value) (i : Nat) (bq : Nat) (oq : Nat) (s : Int) (sub : List Ed) : Nat → Value → World → Prop
  | 0, v, _ => v = Av
  | 1, v, _ => v = vq
  | 2, v, _ => v = .int .i64 (i : Nat)
  | 3, v, _ => v = .pointer (some ⟨bq, oq + i, none⟩)
  | 4, v, _ => v = .int .i64 s
  | 5, v, _ => ∃ a c, v = .slice a (List.length sub) c ∧ RdE w v sub
  | 6, v, _ => v = .int .i64 ((List.length sub : Nat) : Int)
  | 7, v, _ => v = .int .i64 0
  | _ + 8, _, _ => False
theorem CA18_mono {w : World} {Av : Value} {vq : Value} {i : Nat} {bq : Nat} {oq : Nat} {s : Int} {sub : List Ed} : ∀ j v W W', Below W.heap.size W W' → CA18 w Av vq i bq oq s sub j v W → CA18 w Av vq i bq oq s sub j v W'
  | 0, _, _, _, _, h => h
  | 1, _, _, _, _, h => h
  | 2, _, _, _, _, h => h
  | 3, _, _, _, _, h => h
  | 4, _, _, _, _, h => h
  | 5, _, _, _, _, h => h
  | 6, _, _, _, _, h => h
  | 7, _, _, _, _, h => h
  | _ + 8, _, _, _, _, h => h.elim
theorem list_CA18 {us : List Value} (h : us.length = 8) : ∃ u0 u1 u2 u3 u4 u5 u6 u7, us = [u0, u1, u2, u3, u4, u5, u6, u7] := by
  match us, h with
  | [u0, u1, u2, u3, u4, u5, u6, u7], _ => exact ⟨_, _, _, _, _, _, _, _, rfl⟩
/-- The rest while an edge is appended. -/
def PhiY (w : World) (c0 c1 c2 c3 : Value) (n b8 : Nat) (va vnum : Value) (alL : List Int) (vm vq : Value) (S : RSt) (ms : List Int) (Bx : Nat) (xf xe xt : Int) (c : Value) (tag : Nat → Nat) (W : World) : Prop :=
  CB w c0 c1 c2 c3 n b8 va vnum alL W tag vm c vq S ms ∧ Own W w.heap.size tag 10 Bx #[.int .i64 xf, .int .i64 xe, .int .i64 xt] 45
/-- The slots of the region that hold no memory of the edges. -/
def PR24 (b8 Bx bn t2 n i : Nat) (xe xt nv : Int) (ve : Value) : Nat → Value → Prop
  | 0, v => v = .pointer (some ⟨b8, 3, none⟩)
  | 1, v => v = ve
  | 2, v => v = .int .i64 (i : Int)
  | 3, v => v = .pointer (some ⟨Bx, 1, none⟩)
  | 4, v => v = .int .i64 xe
  | 5, v => v = .slice (some ⟨bn, 0, none⟩) n n
  | 6, v => v = .pointer (some ⟨Bx, 2, none⟩)
  | 7, v => v = .int .i64 xt
  | 8, v => v = .pointer (some ⟨bn, t2, none⟩)
  | 9, v => v = .int .i64 nv
  | 10, v => v = .agg #[.int .i64 (i : Int), .int .i64 xe, .int .i64 nv]
  | 13, v => v = .pointer (some ⟨b8, 3, none⟩)
  | _, _ => True
set_option maxRecDepth 100000 in
set_option maxHeartbeats 6000000 in
theorem canonical_any (v : Value) (a : Aut) (w : World) (ha : RdA w v a) (hs : a.small) (hok : a.Ok) (hms : a.ms.Pairwise (· < ·)) (hso : Sorted a.es) :
    Calls Try.prog 71 #[v] w (Ret w fun u w' => RdA w' u (canonF a) ∧ FreshA w.heap.size u) := by
  have Ha := Lib.hid ha
  have Hs := Lib.hid hs
  obtain ⟨va, vm, ve, rfl, ⟨aa, ca, rfl, hra⟩, ⟨am, cm, rfl, hrm⟩, ⟨ae, ce, rfl, hre⟩⟩ := ha
  have hae := hs.es
  have hal := hs.al
  have hams := hs.ms
  have Hms := Lib.hid hms
  have Hso := Lib.hid hso
  have Hes := Lib.hid hok.es
  have hn0 := hok.n0
  have hn1 := hok.n1
  have hHR : Hid (canonF a = restrictF a.al a.ms a.n.toNat a.es (allL a.n.toNat)) := rfl
  generalize hRR : canonF a = R at *
  clear hRR hs hms hso hok
  generalize hn : a.n = an at *
  obtain ⟨n, rfl⟩ := Int.eq_ofNat_of_zero_le hn0
  have Hn := Lib.hid hn
  clear hn hn0
  have HRR : Hid (R = restrictF a.al a.ms n a.es (allL n)) := hHR
  clear hHR
  go_enter Try.func71, Try.ntmps71
  go_wp2_with fail
  have hB0 : Below w.heap.size w ((w.alloc (.cells #[.slice aa a.al.length ca, .int .i64 n, .slice am a.ms.length cm, .slice ae a.es.length ce] 31)).alloc (.cells #[.slice none 0 0, .int .i64 0, .slice none 0 0, .slice none 0 0] 31)) := by (repeat (first | with_reducible exact Below.refl _ _ | with_reducible exact Ha | (with_reducible refine belCall ?_ Ha (by first | omega | (simp; done) | (simp; omega) | (simp at *; omega))) | (with_reducible refine Below.alloc ?_ (by first | omega | (simp; done) | (simp; omega) | (simp at *; omega)) _) | (with_reducible refine Below.drew ?_) | (with_reducible refine Below.setCell ?_ (by first | omega | (simp; done) | (simp; omega) | (simp at *; omega)) _)))
  have ho1 : Own ((w.alloc (.cells #[.slice aa a.al.length ca, .int .i64 n, .slice am a.ms.length cm, .slice ae a.es.length ce] 31)).alloc (.cells #[.slice none 0 0, .int .i64 0, .slice none 0 0, .slice none 0 0] 31)) w.heap.size (fun _ => 0) 0 w.heap.size #[.slice aa a.al.length ca, .int .i64 n, .slice am a.ms.length cm, .slice ae a.es.length ce] 31 := ⟨(by repeat (first | with_reducible assumption | (with_reducible refine heap_at ?_; (first | (simp; done) | (simp; omega))) | (with_reducible refine heap_past ?_ ?_; (next => first | omega | (simp; done) | (simp; omega))))), rfl, Nat.le_refl _⟩
  have ho4 : Own ((w.alloc (.cells #[.slice aa a.al.length ca, .int .i64 n, .slice am a.ms.length cm, .slice ae a.es.length ce] 31)).alloc (.cells #[.slice none 0 0, .int .i64 0, .slice none 0 0, .slice none 0 0] 31)) w.heap.size (fun _ => 0) 0 (w.heap.size + 1) #[.slice none 0 0, .int .i64 0, .slice none 0 0, .slice none 0 0] 31 := ⟨(by repeat (first | with_reducible assumption | (with_reducible refine heap_at ?_; (first | (simp; done) | (simp; omega))) | (with_reducible refine heap_past ?_ ?_; (next => first | omega | (simp; done) | (simp; omega))))), rfl, by omega⟩
  refine (clone_any _ a.al _ ⟨_, _, rfl, hra.mono hB0⟩ (by omega)).mono ?_
  rintro e w3 ⟨_, rfl, hown3, hb3⟩
  have hW3 := hB0.trans (hb3.mono hB0.size)
  have HO4 := Lib.hid (ho4.turn (Turn.call (B := w.heap.size) (k := 1) hb3) (by decide))
  have HO1 := Lib.hid (ho1.turn (Turn.call (B := w.heap.size) (k := 1) hb3) (by decide))
  have hrow3 := Row.of_call (tag := fun _ => 0) (k := 1) hown3 hB0.size
  obtain ⟨a3, c3, rfl⟩ := hrow3.val
  have Hrow3 := Lib.hid hrow3
  clear hown3 hrow3 hb3 ho1 ho4
  have x0 : w3.cell? ⟨w.heap.size, 0, none⟩ = some (.slice aa a.al.length ca) := HO1.out.cell 0
  have x1 : w3.cell? ⟨w.heap.size, 1, none⟩ = some (.int .i64 n) := HO1.out.cell 1
  have q0 : w3.cell? ⟨w.heap.size + 1, 0, none⟩ = some (.slice none 0 0) := HO4.out.cell 0
  have q1 : w3.cell? ⟨w.heap.size + 1, 1, none⟩ = some (.int .i64 0) := HO4.out.cell 1
  have q2 : w3.cell? ⟨w.heap.size + 1, 2, none⟩ = some (.slice none 0 0) := HO4.out.cell 2
  have q3 : w3.cell? ⟨w.heap.size + 1, 3, none⟩ = some (.slice none 0 0) := HO4.out.cell 3
  have f0 := HO4.out.frozen 0
  have f1 := HO4.out.frozen 1
  have f2 := HO4.out.frozen 2
  have f3 := HO4.out.frozen 3
  have hl4 := HO4.out.lt
  have hl1 := HO1.out.lt
  generalize tagFrom (fun _ => 0) ((w.alloc (.cells #[.slice aa a.al.length ca, .int .i64 n, .slice am a.ms.length cm, .slice ae a.es.length ce] 31)).alloc (.cells #[.slice none 0 0, .int .i64 0, .slice none 0 0, .slice none 0 0] 31)).heap.size 1 = tgA at *
  by_cases h0 : n = 0
  · subst h0
    have HR : Hid (R = ⟨a.al, 0, [], []⟩) := by show _ = _; rw [HRR.out, restrictF, if_neg (by simp [allL])]
    have Hs5 := Lib.hid (own_store4 HO4.out (.slice a3 a.al.length c3) (.int .i64 0) (.slice none 0 0) (.slice none 0 0))
    go_wp2_with fail
    have ho := Hs5.out.1.upR (.cells #[.slice a3 a.al.length c3, .int .i64 0, .slice none 0 0, .slice none 0 0] 31) 6
    have hrw := (Hrow3.out.turn Hs5.out.2 (by decide)).up (.cells #[.slice a3 a.al.length c3, .int .i64 0, .slice none 0 0, .slice none 0 0] 31) 6
    have d0 := ho.cell 0
    have d1 := ho.cell 1
    have d2 := ho.cell 2
    have d3 := ho.cell 3
    have hbl := belTurn hW3 Hs5.out.2 hW3.size
    refine bodyPost_ret (v := .agg #[.slice a3 a.al.length c3, .int .i64 0, .slice none 0 0, .slice none 0 0]) (by simp [results, Try.results71, go_sem, d0, d1, d2, d3]) rfl ⟨_, rfl, ?_, hbl.alloc hbl.size _⟩
    rw [HR.out]
    exact ⟨⟨_, _, _, rfl, hrw.rdI, RdI.nil0 _, ⟨none, 0, rfl, ⟨rfl, Nat.le_refl _, by simp [maxLen], fun _ => rfl, fun _ e => (by cases e), fun _ e => (by cases e)⟩⟩⟩, ⟨a3, none, none, _, _, _, _, _, _, _, rfl, hrw.fresh_ad, fun _ e => (by cases e), fun _ e => (by cases e)⟩⟩
  · have hnp : 0 < n := by omega
    have hnI : ((n : Int) == 0) = false := by rw [beq_eq_false_iff_ne]; omega
    clear h0
    obtain ⟨i0, hi, hz0, hz1, hz2⟩ := info_parts Try.info_int
    have HPhi : Hid (PhiD w w3.heap.size (.slice aa a.al.length ca) (.int .i64 n) (.slice am a.ms.length cm) (.slice ae a.es.length ce) (.slice a3 a.al.length c3) a.al (tagUp (fun _ => 0) w3.heap.size 6) (w3.alloc (.cells #[.slice a3 a.al.length c3, .int .i64 0, .slice none 0 0, .slice none 0 0] 31))) :=
      ⟨hW3.alloc hW3.size _, (HO1.out.name (fun _ => 0)).upR _ 6, (HO4.out.name (fun _ => 0)).upR _ 6, Own.new w3 _ _ 6 _ _ hW3.size (tagUp_at _ _ _), (Hrow3.out.name (fun _ => 0)).up _ 6⟩
    have hhd : (allL n).head? = some 0 := by cases n with
      | zero => omega
      | succ n => simp [allL, List.range_succ_eq_map]
    have HR1 : Hid (R = ⟨a.al, ((rsLoop a.es (flagL n (allL n)) (flagL n a.ms) (n + 1) 0 ⟨(List.replicate n 0).set 0 1, [0], []⟩ []).1.q.length : Int), (rsLoop a.es (flagL n (allL n)) (flagL n a.ms) (n + 1) 0 ⟨(List.replicate n 0).set 0 1, [0], []⟩ []).2, (rsLoop a.es (flagL n (allL n)) (flagL n a.ms) (n + 1) 0 ⟨(List.replicate n 0).set 0 1, [0], []⟩ []).1.E⟩) := by
      show _ = _
      rw [HRR.out, restrictF, if_pos hhd]
    have HinF : Hid (∀ s : Int, 0 ≤ s → s < (n : Int) → (flagL n (allL n)).getD s.toNat false = true) := fun s h0 h1 => by rw [flagL_getD h0 h1]; exact allL_mem h0 h1
    have HmkF : Hid (∀ s : Int, 0 ≤ s → s < (n : Int) → (flagL n a.ms).getD s.toNat false = hasB a.ms s) := fun s h0 h1 => flagL_getD h0 h1
    generalize flagL n (allL n) = inF at *
    generalize flagL n a.ms = mkF at *
    generalize hRL : rsLoop a.es inF mkF (n + 1) 0 ⟨(List.replicate n 0).set 0 1, [0], []⟩ [] = RL at *
    have HRL0 : Hid (RL = rsLoop a.es inF mkF (n + 1 - 0) 0 ⟨(List.replicate n 0).set 0 1, [0], []⟩ []) := by show _ = _; rw [← hRL]; rfl
    clear hRL HRR hhd HO1 HO4 Hrow3
    go_upto_region 4 with fail
    clear x0 q0 q1 q2 q3 f0 f1 f2 f3
    generalize w3.alloc (.cells #[.slice a3 a.al.length c3, .int .i64 0, .slice none 0 0, .slice none 0 0] 31) = W2 at *
    replace x1 : W2.cell? ⟨w.heap.size, 1, none⟩ = some (.int .i64 n) := HPhi.out.2.1.cell 1
    have hxl := HPhi.out.2.1.lt
    have hsW := HPhi.out.1.size
    go_wp2_with (at_make; refine wpList_make_full _ rfl _ _ 28 rfl W2.heap.size 3 i0 (.int .i64 0) 1 Try.underlying28 hi hz0 hz1 .i64 .i64 _ _ n rfl rfl (by first | rfl | omega) (by first | rfl | omega) (by rw [hz2]; omega) (by unfold maxLen; omega) (Nat.le_refl _) ?_; intro w6 hown6 hgrow6; have hbm : Below W2.heap.size W2 w6 := Below.grown (Below.refl _ _) hgrow6 (Nat.le_refl _) (fun k e => (by cases e)); have HY6 := Lib.hid (HPhi.out.call (k := 2) hbm); have hnr : Row w6 w.heap.size (tagFrom (tagUp (fun _ => 0) w3.heap.size 6) W2.heap.size 2) 2 3 1 (.slice (some ⟨W2.heap.size, 0, none⟩) n n) n (ints (List.replicate n 0)) := Row.of_call (by simpa [Value.cells, toList_madeCells_one] using hown6) hsW; have HN6 := Lib.hid hnr; have hN6l := hnr.addr hnp; clear hown6 hgrow6 hnr x1)
    obtain ⟨_, _, _, e6, hN6l, _⟩ := hN6l
    cases e6
    have HC6 : Hid (CB w (.slice aa a.al.length ca) (.int .i64 n) (.slice am a.ms.length cm) (.slice ae a.es.length ce) n w3.heap.size (.slice a3 a.al.length c3) (.slice (some ⟨W2.heap.size, 0, none⟩) n n) a.al w6 (tagFrom (tagUp (fun _ => 0) w3.heap.size 6) W2.heap.size 2) (.slice none 0 0) (.slice none 0 0) (.slice none 0 0) ⟨List.replicate 0 0 ++ List.replicate (n - 0) 1, [], []⟩ []) :=
      ⟨HY6.out.1, HY6.out.2.1, HY6.out.2.2.1, HY6.out.2.2.2.1, HY6.out.2.2.2.2, by have h := HN6.out; rw [show less1 (List.replicate 0 0 ++ List.replicate (n - 0) 1) = List.replicate n 0 by simp [less1]]; exact h, Row.nil _ _ _ _ _ _, Row.nil _ _ _ _ _ _⟩
    clear HY6 HN6 HPhi hbm
    generalize tagFrom (tagUp (fun _ => 0) w3.heap.size 6) W2.heap.size 2 = tg6 at *
    go_loopw [25] (fun vk wr => ∃ k : Nat, k ≤ n ∧ vk = .int .i64 k ∧ CB w (.slice aa a.al.length ca) (.int .i64 n) (.slice am a.ms.length cm) (.slice ae a.es.length ce) n w3.heap.size (.slice a3 a.al.length c3) (.slice (some ⟨W2.heap.size, 0, none⟩) n n) a.al wr tg6 (.slice none 0 0) (.slice none 0 0) (.slice none 0 0) ⟨List.replicate k 0 ++ List.replicate (n - k) 1, [], []⟩ []) (fun vk _ => n - (intOf vk).toNat)
    case atStart => exact ⟨0, Nat.zero_le _, rfl, HC6.out⟩
    case round =>
      clear HC6 hN6l
      obtain ⟨k, hk, rfl, hC⟩ := hrel
      have hsz := hC.below.size
      obtain ⟨_, _, _, e6, hNl, _⟩ := hC.nr.addr hnp
      cases e6
      by_cases hlt : k < n
      · have hltI : (k : Int) < (n : Int) := by omega
        have y0 := hC.nr.cellAt k (by omega)
        have y1 := hC.nr.frozenAt k
        have hlen : (List.replicate k (0 : Int) ++ List.replicate (n - k) 1).length = n := by simp; omega
        have hnx := (hC.setNum k 0 (-1) rfl).1
        rw [less1_get (by rw [hlen]; omega)] at y0
        rw [Nat.zero_add] at hnx y0
        rw [fill_set 0 1 n k hlt] at hnx
        have HNX := Lib.hid hnx
        generalize (List.replicate k (0 : Int) ++ List.replicate (n - k) 1).getD k 0 = yv at y0
        clear hC hnx hlen
        go_wp2_with fail
        go_roundw
        case rel => exact ⟨k + 1, by omega, by go_num, HNX.out⟩
        case measure => simp [intOf]; omega
      · obtain rfl : n = k := by omega
        have e0 : (List.replicate n (0 : Int) ++ List.replicate (n - n) 1) = List.replicate n 0 := by simp
        rw [e0] at hC
        have hnpI : (0 : Int) < (n : Int) := by omega
        have y0 := hC.nr.cellAt 0 (by omega)
        have y1 := hC.nr.frozenAt 0
        have hs1 := (hC.setNum 0 1 0 rfl).1
        rw [less1_get (by simpa using hnp)] at y0
        rw [Nat.zero_add] at y0 hs1
        have hsz2 := hs1.below.size
        have hs2 := hs1.up (.cells #[.int .i64 0] 3) 4
        have hfr := Row.fresh (wr.setCell ⟨W2.heap.size, 0, none⟩ (.int .i64 0)) w.heap.size tg6 4 3 [.int .i64 0] hsz2 (by show 1 ≤ maxLen; decide)
        rw [World.size_setCell] at hfr hs2
        have HS2 := Lib.hid (hs2.newQ [0] hfr)
        have HE2 := Lib.hid (Row.nil ((wr.setCell ⟨W2.heap.size, 0, none⟩ (.int .i64 0)).alloc (.cells #[.int .i64 0] 3)) w.heap.size (tagUp tg6 wr.heap.size 4) 8 45 3)
        clear hC e0 hs1 hs2 hfr
        generalize (List.replicate n (0 : Int)).getD 0 0 = yv at y0
        go_wp2_with fail
        have hok0 := (rs_start hnp).2
        go_loopw [6, 7] (fun vq vi wr => ∃ (tag : Nat → Nat) (vm ve : Value) (i : Nat) (S : RSt) (ms : List Int), vi = .int .i64 (i : Nat) ∧ CB w (.slice aa a.al.length ca) (.int .i64 n) (.slice am a.ms.length cm) (.slice ae a.es.length ce) n w3.heap.size (.slice a3 a.al.length c3) (.slice (some ⟨W2.heap.size, 0, none⟩) n n) a.al wr tag vm ve vq S ms ∧ Row wr w.heap.size tag 8 45 3 ve S.E.length (edCells S.E) ∧ ROk n (i * 1000000) S ∧ ms.length ≤ i ∧ i ≤ n ∧ i ≤ S.q.length ∧ Hid (RL = rsLoop a.es inF mkF (n + 1 - i) i S ms)) (fun _ vi _ => n + 1 - (intOf vi).toNat)
        case atStart => exact ⟨_, _, _, 0, _, [], rfl, HS2.out, HE2.out, by rw [Nat.zero_mul]; exact hok0, Nat.zero_le _, Nat.zero_le _, Nat.zero_le _, HRL0.out⟩
        case round =>
          clear HS2 HE2 hok0 HRL0 y0 y1 hsz2 hNl hsz
          obtain ⟨tag, vm, ve, i, S, ms, rfl, hC, hE, hok, hml, hin, hiq, hRL⟩ := hrel
          obtain ⟨avq, cvq, rfl⟩ := hC.qr.val
          have hbX := hC.below
          have hsX := hbX.size
          by_cases hlt : i < S.q.length
          · have hltI : (i : Int) < (S.q.length : Int) := by omega
            obtain ⟨bq, oq, cq, e9, hqcl, _, qc⟩ := hC.qr.at_int i hlt
            cases e9
            have hsr := hok.rng _ (List.getElem_mem hlt)
            have Hs8 : Hid (S.q.getD i 0 = S.q[i]) := by show _ = _; rw [List.getD_eq_getElem?_getD, List.getElem?_eq_getElem hlt]; rfl
            have Hstep : Hid (RL = rsLoop a.es inF mkF (n + 1 - (i + 1)) (i + 1) ((subOf a.es S.q[i]).foldl (rsStep inF i) S) (if mkF.getD S.q[i].toNat false = true then ms ++ [(i : Int)] else ms)) := by
              show _ = _
              rw [hRL.out, show n + 1 - i = (n + 1 - (i + 1)) + 1 by omega, rsLoop, if_pos hlt, Hs8.out]
            clear Hs8
            generalize hs9 : S.q[i] = s0 at *
            obtain ⟨t, rfl⟩ := Int.eq_ofNat_of_zero_le hsr.1
            have Hs9 := Lib.hid hs9
            clear hs9
            have ht : t < n := by omega
            rw [HmkF.out _ hsr.1 hsr.2] at Hstep
            have g2 : wr.cell? ⟨w.heap.size, 2, none⟩ = some (.slice am a.ms.length cm) := hC.ab.cell 2
            have hgl := hC.ab.lt
            have hbWd := hbX.drew
            have HX := Lib.hid hC
            have HEr := Lib.hid hE
            have Hok := Lib.hid hok
            clear hC hE hok hRL
            go_wp2_with fail
            refine wp_region_mono2 (CA15 (w.heap.size) (.slice am a.ms.length cm) (.slice (some ⟨bq, oq, none⟩) S.q.length cvq) (i) (bq) (oq) (((t : Nat) : Int)) (placeL a.ms ((t : Nat) : Int)) (hasB a.ms ((t : Nat) : Int))) [42, 43, 44, 45, 46, 47, 48, 41, 49, 50, 8, 9] CA15_mono rfl (by kernel_rfl) (by kernel_rfl) ?_ ?_
            · skip
              refine Steps.cons rfl ?_ ?_
              · intro l us W hl hI hd hn K' hK
                have hHas := hI.has
                have hbel := hI.bel
                have hlen := hI.len
                obtain ⟨u0, u1, u2, u3, u4, u5, u6, u7, u8, u9, u10, u11, rfl⟩ := list_CA15 hlen
                have HK : Hid (∀ v W', Below W.heap.size W W' → CA15 (w.heap.size) (.slice am a.ms.length cm) (.slice (some ⟨bq, oq, none⟩) S.q.length cvq) (i) (bq) (oq) (((t : Nat) : Int)) (placeL a.ms ((t : Nat) : Int)) (hasB a.ms ((t : Nat) : Int)) 0 v W' → ∀ a', puts _ _ [v, u1, u2, u3, u4, u5, u6, u7, u8, u9, u10, u11] = a' → K' a' W') := fun v W' hb hv a' e => hK _ a' W' e (hI.step CA15_mono hl hb hv)
                have hWW := hbWd.trans (hbel.mono hbWd.size)
                clear hl hI hd hn hK hHas hlen 
                refine StepG.mk ?_
                simp only [puts, Act.put]
                go_simp
                exact HK.out (.pointer (some ⟨w.heap.size, 2, none⟩)) _ (Below.refl _ _) rfl _ (by simp [puts, Act.put])
              refine Steps.cons rfl ?_ ?_
              · intro l us W hl hI hd hn K' hK
                have hHas := hI.has
                have hbel := hI.bel
                have hlen := hI.len
                obtain ⟨u0, u1, u2, u3, u4, u5, u6, u7, u8, u9, u10, u11, rfl⟩ := list_CA15 hlen
                have HK : Hid (∀ v W', Below W.heap.size W W' → CA15 (w.heap.size) (.slice am a.ms.length cm) (.slice (some ⟨bq, oq, none⟩) S.q.length cvq) (i) (bq) (oq) (((t : Nat) : Int)) (placeL a.ms ((t : Nat) : Int)) (hasB a.ms ((t : Nat) : Int)) 1 v W' → ∀ a', puts _ _ [u0, v, u2, u3, u4, u5, u6, u7, u8, u9, u10, u11] = a' → K' a' W') := fun v W' hb hv a' e => hK _ a' W' e (hI.step CA15_mono hl hb hv)
                have hWW := hbWd.trans (hbel.mono hbWd.size)
                have y := keep hbel g2 hgl
                have d0 : l.getD 0 false = true := by
                  simp [Region.binds] at hd
                  simp [hd]
                obtain rfl : u0 = _ := hHas 0 (by decide) d0
                clear hl hI hd hn hK hHas hlen d0
                refine StepG.mk ?_
                simp only [puts, Act.put]
                go_simp
                exact HK.out ((.slice am a.ms.length cm)) _ (Below.refl _ _) rfl _ (by simp [puts, Act.put])
              refine Steps.cons rfl ?_ ?_
              · intro l us W hl hI hd hn K' hK
                have hHas := hI.has
                have hbel := hI.bel
                have hlen := hI.len
                obtain ⟨u0, u1, u2, u3, u4, u5, u6, u7, u8, u9, u10, u11, rfl⟩ := list_CA15 hlen
                have HK : Hid (∀ v W', Below W.heap.size W W' → CA15 (w.heap.size) (.slice am a.ms.length cm) (.slice (some ⟨bq, oq, none⟩) S.q.length cvq) (i) (bq) (oq) (((t : Nat) : Int)) (placeL a.ms ((t : Nat) : Int)) (hasB a.ms ((t : Nat) : Int)) 2 v W' → ∀ a', puts _ _ [u0, u1, v, u3, u4, u5, u6, u7, u8, u9, u10, u11] = a' → K' a' W') := fun v W' hb hv a' e => hK _ a' W' e (hI.step CA15_mono hl hb hv)
                have hWW := hbWd.trans (hbel.mono hbWd.size)
                clear hl hI hd hn hK hHas hlen 
                refine StepG.mk ?_
                simp only [puts, Act.put]
                go_simp
                exact HK.out ((.slice (some ⟨bq, oq, none⟩) S.q.length cvq)) _ (Below.refl _ _) rfl _ (by simp [puts, Act.put])
              refine Steps.cons rfl ?_ ?_
              · intro l us W hl hI hd hn K' hK
                have hHas := hI.has
                have hbel := hI.bel
                have hlen := hI.len
                obtain ⟨u0, u1, u2, u3, u4, u5, u6, u7, u8, u9, u10, u11, rfl⟩ := list_CA15 hlen
                have HK : Hid (∀ v W', Below W.heap.size W W' → CA15 (w.heap.size) (.slice am a.ms.length cm) (.slice (some ⟨bq, oq, none⟩) S.q.length cvq) (i) (bq) (oq) (((t : Nat) : Int)) (placeL a.ms ((t : Nat) : Int)) (hasB a.ms ((t : Nat) : Int)) 3 v W' → ∀ a', puts _ _ [u0, u1, u2, v, u4, u5, u6, u7, u8, u9, u10, u11] = a' → K' a' W') := fun v W' hb hv a' e => hK _ a' W' e (hI.step CA15_mono hl hb hv)
                have hWW := hbWd.trans (hbel.mono hbWd.size)
                clear hl hI hd hn hK hHas hlen 
                refine StepG.mk ?_
                simp only [puts, Act.put]
                go_simp
                exact HK.out (.int .i64 (i : Nat)) _ (Below.refl _ _) rfl _ (by simp [puts, Act.put])
              refine Steps.cons rfl ?_ ?_
              · intro l us W hl hI hd hn K' hK
                have hHas := hI.has
                have hbel := hI.bel
                have hlen := hI.len
                obtain ⟨u0, u1, u2, u3, u4, u5, u6, u7, u8, u9, u10, u11, rfl⟩ := list_CA15 hlen
                have HK : Hid (∀ v W', Below W.heap.size W W' → CA15 (w.heap.size) (.slice am a.ms.length cm) (.slice (some ⟨bq, oq, none⟩) S.q.length cvq) (i) (bq) (oq) (((t : Nat) : Int)) (placeL a.ms ((t : Nat) : Int)) (hasB a.ms ((t : Nat) : Int)) 4 v W' → ∀ a', puts _ _ [u0, u1, u2, u3, v, u5, u6, u7, u8, u9, u10, u11] = a' → K' a' W') := fun v W' hb hv a' e => hK _ a' W' e (hI.step CA15_mono hl hb hv)
                have hWW := hbWd.trans (hbel.mono hbWd.size)
                have d2 : l.getD 2 false = true := by
                  simp [Region.binds] at hd
                  simp [hd]
                have d3 : l.getD 3 false = true := by
                  simp [Region.binds] at hd
                  simp [hd]
                obtain rfl : u2 = _ := hHas 2 (by decide) d2
                obtain rfl : u3 = _ := hHas 3 (by decide) d3
                clear hl hI hd hn hK hHas hlen d2 d3
                refine StepG.mk ?_
                simp only [puts, Act.put]
                go_simp
                exact HK.out (.pointer (some ⟨bq, oq + i, none⟩)) _ (Below.refl _ _) rfl _ (by simp [puts, Act.put])
              refine Steps.cons rfl ?_ ?_
              · intro l us W hl hI hd hn K' hK
                have hHas := hI.has
                have hbel := hI.bel
                have hlen := hI.len
                obtain ⟨u0, u1, u2, u3, u4, u5, u6, u7, u8, u9, u10, u11, rfl⟩ := list_CA15 hlen
                have HK : Hid (∀ v W', Below W.heap.size W W' → CA15 (w.heap.size) (.slice am a.ms.length cm) (.slice (some ⟨bq, oq, none⟩) S.q.length cvq) (i) (bq) (oq) (((t : Nat) : Int)) (placeL a.ms ((t : Nat) : Int)) (hasB a.ms ((t : Nat) : Int)) 5 v W' → ∀ a', puts _ _ [u0, u1, u2, u3, u4, v, u6, u7, u8, u9, u10, u11] = a' → K' a' W') := fun v W' hb hv a' e => hK _ a' W' e (hI.step CA15_mono hl hb hv)
                have hWW := hbWd.trans (hbel.mono hbWd.size)
                have y := keep hbel qc hqcl
                have d4 : l.getD 4 false = true := by
                  simp [Region.binds] at hd
                  simp [hd]
                obtain rfl : u4 = _ := hHas 4 (by decide) d4
                clear hl hI hd hn hK hHas hlen d4
                refine StepG.mk ?_
                simp only [puts, Act.put]
                go_simp
                exact HK.out (.int .i64 (((t : Nat) : Int))) _ (Below.refl _ _) rfl _ (by simp [puts, Act.put])
              refine Steps.cons rfl ?_ ?_
              · intro l us W hl hI hd hn K' hK
                have hHas := hI.has
                have hbel := hI.bel
                have hlen := hI.len
                obtain ⟨u0, u1, u2, u3, u4, u5, u6, u7, u8, u9, u10, u11, rfl⟩ := list_CA15 hlen
                have HK : Hid (∀ v W', Below W.heap.size W W' → CA15 (w.heap.size) (.slice am a.ms.length cm) (.slice (some ⟨bq, oq, none⟩) S.q.length cvq) (i) (bq) (oq) (((t : Nat) : Int)) (placeL a.ms ((t : Nat) : Int)) (hasB a.ms ((t : Nat) : Int)) 6 v W' → ∀ a', puts _ _ [u0, u1, u2, u3, u4, u5, v, u7, u8, u9, u10, u11] = a' → K' a' W') := fun v W' hb hv a' e => hK _ a' W' e (hI.step CA15_mono hl hb hv)
                have hWW := hbWd.trans (hbel.mono hbWd.size)
                have d1 : l.getD 1 false = true := by
                  simp [Region.binds] at hd
                  simp [hd]
                have d5 : l.getD 5 false = true := by
                  simp [Region.binds] at hd
                  simp [hd]
                obtain rfl : u1 = _ := hHas 1 (by decide) d1
                obtain rfl : u5 = _ := hHas 5 (by decide) d5
                clear hl hI hd hn hK hHas hlen d1 d5
                refine StepG.mk ?_
                simp only [puts, Act.put]
                go_simp
                refine (bsearch_any _ a.ms _ _ ⟨am, cm, rfl, hrm.mono hWW⟩ hams Hms.out).mono ?_
                rintro e w9 ⟨rfl, rfl⟩
                go_simp
                exact HK.out _ _ (Below.refl _ _) rfl _ (by simp [puts, Act.put])
              refine Steps.cons rfl ?_ ?_
              · intro l us W hl hI hd hn K' hK
                have hHas := hI.has
                have hbel := hI.bel
                have hlen := hI.len
                obtain ⟨u0, u1, u2, u3, u4, u5, u6, u7, u8, u9, u10, u11, rfl⟩ := list_CA15 hlen
                have HK : Hid (∀ v W', Below W.heap.size W W' → CA15 (w.heap.size) (.slice am a.ms.length cm) (.slice (some ⟨bq, oq, none⟩) S.q.length cvq) (i) (bq) (oq) (((t : Nat) : Int)) (placeL a.ms ((t : Nat) : Int)) (hasB a.ms ((t : Nat) : Int)) 7 v W' → ∀ a', puts _ _ [u0, u1, u2, u3, u4, u5, u6, v, u8, u9, u10, u11] = a' → K' a' W') := fun v W' hb hv a' e => hK _ a' W' e (hI.step CA15_mono hl hb hv)
                have hWW := hbWd.trans (hbel.mono hbWd.size)
                have d6 : l.getD 6 false = true := by
                  simp [Region.binds] at hd
                  simp [hd]
                obtain rfl : u6 = _ := hHas 6 (by decide) d6
                clear hl hI hd hn hK hHas hlen d6
                refine StepG.mk ?_
                simp only [puts, Act.put]
                go_simp
                exact HK.out (.tuple #[.int .i64 (placeL a.ms ((t : Nat) : Int)), .bool (hasB a.ms ((t : Nat) : Int))]) _ (Below.refl _ _) rfl _ (by simp [puts, Act.put])
              refine Steps.cons rfl ?_ ?_
              · intro l us W hl hI hd hn K' hK
                have hHas := hI.has
                have hbel := hI.bel
                have hlen := hI.len
                obtain ⟨u0, u1, u2, u3, u4, u5, u6, u7, u8, u9, u10, u11, rfl⟩ := list_CA15 hlen
                have HK : Hid (∀ v W', Below W.heap.size W W' → CA15 (w.heap.size) (.slice am a.ms.length cm) (.slice (some ⟨bq, oq, none⟩) S.q.length cvq) (i) (bq) (oq) (((t : Nat) : Int)) (placeL a.ms ((t : Nat) : Int)) (hasB a.ms ((t : Nat) : Int)) 8 v W' → ∀ a', puts _ _ [u0, u1, u2, u3, u4, u5, u6, u7, v, u9, u10, u11] = a' → K' a' W') := fun v W' hb hv a' e => hK _ a' W' e (hI.step CA15_mono hl hb hv)
                have hWW := hbWd.trans (hbel.mono hbWd.size)
                have d7 : l.getD 7 false = true := by
                  simp [Region.binds] at hd
                  simp [hd]
                obtain rfl : u7 = _ := hHas 7 (by decide) d7
                clear hl hI hd hn hK hHas hlen d7
                refine StepG.mk ?_
                simp only [puts, Act.put]
                go_simp
                exact HK.out (.int .i64 (placeL a.ms ((t : Nat) : Int))) _ (Below.refl _ _) rfl _ (by simp [puts, Act.put])
              refine Steps.cons rfl ?_ ?_
              · intro l us W hl hI hd hn K' hK
                have hHas := hI.has
                have hbel := hI.bel
                have hlen := hI.len
                obtain ⟨u0, u1, u2, u3, u4, u5, u6, u7, u8, u9, u10, u11, rfl⟩ := list_CA15 hlen
                have HK : Hid (∀ v W', Below W.heap.size W W' → CA15 (w.heap.size) (.slice am a.ms.length cm) (.slice (some ⟨bq, oq, none⟩) S.q.length cvq) (i) (bq) (oq) (((t : Nat) : Int)) (placeL a.ms ((t : Nat) : Int)) (hasB a.ms ((t : Nat) : Int)) 9 v W' → ∀ a', puts _ _ [u0, u1, u2, u3, u4, u5, u6, u7, u8, v, u10, u11] = a' → K' a' W') := fun v W' hb hv a' e => hK _ a' W' e (hI.step CA15_mono hl hb hv)
                have hWW := hbWd.trans (hbel.mono hbWd.size)
                have d7 : l.getD 7 false = true := by
                  simp [Region.binds] at hd
                  simp [hd]
                obtain rfl : u7 = _ := hHas 7 (by decide) d7
                clear hl hI hd hn hK hHas hlen d7
                refine StepG.mk ?_
                simp only [puts, Act.put]
                go_simp
                exact HK.out (.bool (hasB a.ms ((t : Nat) : Int))) _ (Below.refl _ _) rfl _ (by simp [puts, Act.put])
              refine Steps.cons rfl ?_ ?_
              · intro l us W hl hI hd hn K' hK
                have hHas := hI.has
                have hbel := hI.bel
                have hlen := hI.len
                obtain ⟨u0, u1, u2, u3, u4, u5, u6, u7, u8, u9, u10, u11, rfl⟩ := list_CA15 hlen
                have HK : Hid (∀ v W', Below W.heap.size W W' → CA15 (w.heap.size) (.slice am a.ms.length cm) (.slice (some ⟨bq, oq, none⟩) S.q.length cvq) (i) (bq) (oq) (((t : Nat) : Int)) (placeL a.ms ((t : Nat) : Int)) (hasB a.ms ((t : Nat) : Int)) 10 v W' → ∀ a', puts _ _ [u0, u1, u2, u3, u4, u5, u6, u7, u8, u9, v, u11] = a' → K' a' W') := fun v W' hb hv a' e => hK _ a' W' e (hI.step CA15_mono hl hb hv)
                have hWW := hbWd.trans (hbel.mono hbWd.size)
                have d8 : l.getD 8 false = true := by
                  simp [Region.binds] at hd
                  simp [hd]
                obtain rfl : u8 = _ := hHas 8 (by decide) d8
                clear hl hI hd hn hK hHas hlen d8
                refine StepG.mk ?_
                simp only [puts, Act.put]
                go_simp
                exact HK.out (.int .i64 (placeL a.ms ((t : Nat) : Int))) _ (Below.refl _ _) rfl _ (by simp [puts, Act.put])
              refine Steps.cons rfl ?_ ?_
              · intro l us W hl hI hd hn K' hK
                have hHas := hI.has
                have hbel := hI.bel
                have hlen := hI.len
                obtain ⟨u0, u1, u2, u3, u4, u5, u6, u7, u8, u9, u10, u11, rfl⟩ := list_CA15 hlen
                have HK : Hid (∀ v W', Below W.heap.size W W' → CA15 (w.heap.size) (.slice am a.ms.length cm) (.slice (some ⟨bq, oq, none⟩) S.q.length cvq) (i) (bq) (oq) (((t : Nat) : Int)) (placeL a.ms ((t : Nat) : Int)) (hasB a.ms ((t : Nat) : Int)) 11 v W' → ∀ a', puts _ _ [u0, u1, u2, u3, u4, u5, u6, u7, u8, u9, u10, v] = a' → K' a' W') := fun v W' hb hv a' e => hK _ a' W' e (hI.step CA15_mono hl hb hv)
                have hWW := hbWd.trans (hbel.mono hbWd.size)
                have d9 : l.getD 9 false = true := by
                  simp [Region.binds] at hd
                  simp [hd]
                obtain rfl : u9 = _ := hHas 9 (by decide) d9
                clear hl hI hd hn hK hHas hlen d9
                refine StepG.mk ?_
                simp only [puts, Act.put]
                go_simp
                exact HK.out (.bool (hasB a.ms ((t : Nat) : Int))) _ (Below.refl _ _) rfl _ (by simp [puts, Act.put])
              exact Steps.nil (Nat.le_refl _)
            · intro us W3 hlen hbel hall
              obtain ⟨u0, u1, u2, u3, u4, u5, u6, u7, u8, u9, u10, u11, rfl⟩ := list_CA15 hlen
              obtain rfl : u10 = _ := hall 10 (by decide)
              obtain rfl : u11 = _ := hall 11 (by decide)
              have hX3 := HX.out.call ((bel_drew _).trans hbel)
              have hE3 := HEr.out.below ((bel_drew _).trans hbel)
              clear hall hlen hbel hbWd g2 qc HX HEr hgl
              simp only [puts, Act.put, List.setIfInBounds_toArray, List.set_cons_succ, List.set_cons_zero]
              generalize hasB a.ms ((t : Nat) : Int) = mt at *
              obtain ⟨avm, cvm, rfl⟩ := hX3.mr.val
              have hsz3 := hX3.below.size
              have HX := Lib.hid hX3
              have HEr := Lib.hid hE3
              have o2 : W3.cell? ⟨w3.heap.size, 2, none⟩ = some (.slice avm ms.length cvm) := hX3.ob.cell 2
              have hol := hX3.ob.lt
              clear hX3 hE3
              go_upto_if 51 with fail
              go_cut [51] from 35 to 100 (fun _ wx => ∃ (tag : Nat → Nat) (vm : Value) (ms' : List Int), CB w (.slice aa a.al.length ca) (.int .i64 n) (.slice am a.ms.length cm) (.slice ae a.es.length ce) n w3.heap.size (.slice a3 a.al.length c3) (.slice (some ⟨W2.heap.size, 0, none⟩) n n) a.al wx tag vm ve (.slice (some ⟨bq, oq, none⟩) S.q.length cvq) S ms' ∧ Row wx w.heap.size tag 8 45 3 ve S.E.length (edCells S.E) ∧ ms' = (if mt = true then ms ++ [(i : Int)] else ms))
              case first =>
                cases mt with
                | false =>
                  go_wp2_with fail
                  go_meet
                  exact ⟨tag, _, ms, HX.out, HEr.out, by simp⟩
                | true =>
                  have hX6 := Lib.hid (HX.out.up (.cells #[.int .i64 (i : Int)] 3) 9)
                  have hE6 := Lib.hid (HEr.out.up (.cells #[.int .i64 (i : Int)] 3) 9)
                  go_wp2_with (at_builtin; refine wpList_append_row rfl _ _ 28 rfl 3 i0 (.int .i64 0) 8 Try.underlying28 hi hz0 hz1 hz2 rfl rfl hX6.out.mr (some ⟨_, 0, none⟩) 1 1 [.int .i64 (i : Int)] rfl (by simp) (fun e => by cases e) (fun ad e => by cases e; exact new_cells_at _ _ rfl) (by simp [Value.oneCell']) (by unfold maxLen; omega) (by omega) (by simp; omega) ?_; intro v6 w9 tag6 hr6 ht6; have HP6 := Lib.hid (hX6.out.markS hr6 ht6); have s6 := hX6.out.ob.turn ht6 (by decide); have HT6 := Lib.hid (Turn.setCell s6 2 v6); have hE7 := Lib.hid (hE6.out.turn ht6 (by decide)); obtain ⟨a6, c6, rfl⟩ := hr6.val; have z0 := s6.cell 2; have z1 := s6.frozen 2; simp at z0; clear hr6 ht6 s6)
                  go_meet
                  exact ⟨tag6, _, _, HP6.out, hE7.out.turn HT6.out (by decide), by simp⟩
              case rest =>
                obtain ⟨tag', vm', ms', hX, hE, hms⟩ := hcut
                have Hms' := Lib.hid hms
                clear HX HEr hbX hms o2 hol hsz3 hsX
                have g0 : wc.cell? ⟨w.heap.size, 0, none⟩ = some (.slice aa a.al.length ca) := hX.ab.cell 0
                have g1 : wc.cell? ⟨w.heap.size, 1, none⟩ = some (.int .i64 n) := hX.ab.cell 1
                have g2 : wc.cell? ⟨w.heap.size, 2, none⟩ = some (.slice am a.ms.length cm) := hX.ab.cell 2
                have g3 : wc.cell? ⟨w.heap.size, 3, none⟩ = some (.slice ae a.es.length ce) := hX.ab.cell 3
                have hgl := hX.ab.lt
                obtain ⟨_, _, _, e9, hqcl, _, qc⟩ := hX.qr.at_int i hlt
                cases e9
                rw [Hs9.out] at qc
                have hbWd := hX.below.drew
                have hszc := hX.below.size
                have HX := Lib.hid hX
                have HEr := Lib.hid hE
                clear hX hE
                go_wp2_with fail
                refine wp_region_mono2 (CA18 (w) (.agg #[.slice aa a.al.length ca, .int .i64 (n : Nat), .slice am a.ms.length cm, .slice ae a.es.length ce]) (.slice (some ⟨bq, oq, none⟩) S.q.length cvq) (i) (bq) (oq) (((t : Nat) : Int)) (subOf a.es ((t : Nat) : Int))) [58, 59, 60, 61, 62, 63, 64, 65] CA18_mono rfl (by kernel_rfl) (by kernel_rfl) ?_ ?_
                · skip
                  refine Steps.cons rfl ?_ ?_
                  · intro l us W hl hI hd hn K' hK
                    have hHas := hI.has
                    have hbel := hI.bel
                    have hlen := hI.len
                    obtain ⟨u0, u1, u2, u3, u4, u5, u6, u7, rfl⟩ := list_CA18 hlen
                    have HK : Hid (∀ v W', Below W.heap.size W W' → CA18 (w) (.agg #[.slice aa a.al.length ca, .int .i64 (n : Nat), .slice am a.ms.length cm, .slice ae a.es.length ce]) (.slice (some ⟨bq, oq, none⟩) S.q.length cvq) (i) (bq) (oq) (((t : Nat) : Int)) (subOf a.es ((t : Nat) : Int)) 0 v W' → ∀ a', puts _ _ [v, u1, u2, u3, u4, u5, u6, u7] = a' → K' a' W') := fun v W' hb hv a' e => hK _ a' W' e (hI.step CA18_mono hl hb hv)
                    have hWW := hbWd.trans (hbel.mono hbWd.size)
                    have y0 := keep hbel g0 hgl
                    have y1 := keep hbel g1 hgl
                    have y2 := keep hbel g2 hgl
                    have y3 := keep hbel g3 hgl
                    clear hl hI hd hn hK hHas hlen 
                    refine StepG.mk ?_
                    simp only [puts, Act.put]
                    go_simp
                    exact HK.out ((.agg #[.slice aa a.al.length ca, .int .i64 (n : Nat), .slice am a.ms.length cm, .slice ae a.es.length ce])) _ (Below.refl _ _) rfl _ (by simp [puts, Act.put])
                  refine Steps.cons rfl ?_ ?_
                  · intro l us W hl hI hd hn K' hK
                    have hHas := hI.has
                    have hbel := hI.bel
                    have hlen := hI.len
                    obtain ⟨u0, u1, u2, u3, u4, u5, u6, u7, rfl⟩ := list_CA18 hlen
                    have HK : Hid (∀ v W', Below W.heap.size W W' → CA18 (w) (.agg #[.slice aa a.al.length ca, .int .i64 (n : Nat), .slice am a.ms.length cm, .slice ae a.es.length ce]) (.slice (some ⟨bq, oq, none⟩) S.q.length cvq) (i) (bq) (oq) (((t : Nat) : Int)) (subOf a.es ((t : Nat) : Int)) 1 v W' → ∀ a', puts _ _ [u0, v, u2, u3, u4, u5, u6, u7] = a' → K' a' W') := fun v W' hb hv a' e => hK _ a' W' e (hI.step CA18_mono hl hb hv)
                    have hWW := hbWd.trans (hbel.mono hbWd.size)
                    clear hl hI hd hn hK hHas hlen 
                    refine StepG.mk ?_
                    simp only [puts, Act.put]
                    go_simp
                    exact HK.out ((.slice (some ⟨bq, oq, none⟩) S.q.length cvq)) _ (Below.refl _ _) rfl _ (by simp [puts, Act.put])
                  refine Steps.cons rfl ?_ ?_
                  · intro l us W hl hI hd hn K' hK
                    have hHas := hI.has
                    have hbel := hI.bel
                    have hlen := hI.len
                    obtain ⟨u0, u1, u2, u3, u4, u5, u6, u7, rfl⟩ := list_CA18 hlen
                    have HK : Hid (∀ v W', Below W.heap.size W W' → CA18 (w) (.agg #[.slice aa a.al.length ca, .int .i64 (n : Nat), .slice am a.ms.length cm, .slice ae a.es.length ce]) (.slice (some ⟨bq, oq, none⟩) S.q.length cvq) (i) (bq) (oq) (((t : Nat) : Int)) (subOf a.es ((t : Nat) : Int)) 2 v W' → ∀ a', puts _ _ [u0, u1, v, u3, u4, u5, u6, u7] = a' → K' a' W') := fun v W' hb hv a' e => hK _ a' W' e (hI.step CA18_mono hl hb hv)
                    have hWW := hbWd.trans (hbel.mono hbWd.size)
                    clear hl hI hd hn hK hHas hlen 
                    refine StepG.mk ?_
                    simp only [puts, Act.put]
                    go_simp
                    exact HK.out (.int .i64 (i : Nat)) _ (Below.refl _ _) rfl _ (by simp [puts, Act.put])
                  refine Steps.cons rfl ?_ ?_
                  · intro l us W hl hI hd hn K' hK
                    have hHas := hI.has
                    have hbel := hI.bel
                    have hlen := hI.len
                    obtain ⟨u0, u1, u2, u3, u4, u5, u6, u7, rfl⟩ := list_CA18 hlen
                    have HK : Hid (∀ v W', Below W.heap.size W W' → CA18 (w) (.agg #[.slice aa a.al.length ca, .int .i64 (n : Nat), .slice am a.ms.length cm, .slice ae a.es.length ce]) (.slice (some ⟨bq, oq, none⟩) S.q.length cvq) (i) (bq) (oq) (((t : Nat) : Int)) (subOf a.es ((t : Nat) : Int)) 3 v W' → ∀ a', puts _ _ [u0, u1, u2, v, u4, u5, u6, u7] = a' → K' a' W') := fun v W' hb hv a' e => hK _ a' W' e (hI.step CA18_mono hl hb hv)
                    have hWW := hbWd.trans (hbel.mono hbWd.size)
                    have d1 : l.getD 1 false = true := by
                      simp [Region.binds] at hd
                      simp [hd]
                    have d2 : l.getD 2 false = true := by
                      simp [Region.binds] at hd
                      simp [hd]
                    obtain rfl : u1 = _ := hHas 1 (by decide) d1
                    obtain rfl : u2 = _ := hHas 2 (by decide) d2
                    clear hl hI hd hn hK hHas hlen d1 d2
                    refine StepG.mk ?_
                    simp only [puts, Act.put]
                    go_simp
                    exact HK.out (.pointer (some ⟨bq, oq + i, none⟩)) _ (Below.refl _ _) rfl _ (by simp [puts, Act.put])
                  refine Steps.cons rfl ?_ ?_
                  · intro l us W hl hI hd hn K' hK
                    have hHas := hI.has
                    have hbel := hI.bel
                    have hlen := hI.len
                    obtain ⟨u0, u1, u2, u3, u4, u5, u6, u7, rfl⟩ := list_CA18 hlen
                    have HK : Hid (∀ v W', Below W.heap.size W W' → CA18 (w) (.agg #[.slice aa a.al.length ca, .int .i64 (n : Nat), .slice am a.ms.length cm, .slice ae a.es.length ce]) (.slice (some ⟨bq, oq, none⟩) S.q.length cvq) (i) (bq) (oq) (((t : Nat) : Int)) (subOf a.es ((t : Nat) : Int)) 4 v W' → ∀ a', puts _ _ [u0, u1, u2, u3, v, u5, u6, u7] = a' → K' a' W') := fun v W' hb hv a' e => hK _ a' W' e (hI.step CA18_mono hl hb hv)
                    have hWW := hbWd.trans (hbel.mono hbWd.size)
                    have y := keep hbel qc hqcl
                    have d3 : l.getD 3 false = true := by
                      simp [Region.binds] at hd
                      simp [hd]
                    obtain rfl : u3 = _ := hHas 3 (by decide) d3
                    clear hl hI hd hn hK hHas hlen d3
                    refine StepG.mk ?_
                    simp only [puts, Act.put]
                    go_simp
                    exact HK.out (.int .i64 (((t : Nat) : Int))) _ (Below.refl _ _) rfl _ (by simp [puts, Act.put])
                  refine Steps.cons rfl ?_ ?_
                  · intro l us W hl hI hd hn K' hK
                    have hHas := hI.has
                    have hbel := hI.bel
                    have hlen := hI.len
                    obtain ⟨u0, u1, u2, u3, u4, u5, u6, u7, rfl⟩ := list_CA18 hlen
                    have HK : Hid (∀ v W', Below W.heap.size W W' → CA18 (w) (.agg #[.slice aa a.al.length ca, .int .i64 (n : Nat), .slice am a.ms.length cm, .slice ae a.es.length ce]) (.slice (some ⟨bq, oq, none⟩) S.q.length cvq) (i) (bq) (oq) (((t : Nat) : Int)) (subOf a.es ((t : Nat) : Int)) 5 v W' → ∀ a', puts _ _ [u0, u1, u2, u3, u4, v, u6, u7] = a' → K' a' W') := fun v W' hb hv a' e => hK _ a' W' e (hI.step CA18_mono hl hb hv)
                    have hWW := hbWd.trans (hbel.mono hbWd.size)
                    have d0 : l.getD 0 false = true := by
                      simp [Region.binds] at hd
                      simp [hd]
                    have d4 : l.getD 4 false = true := by
                      simp [Region.binds] at hd
                      simp [hd]
                    obtain rfl : u0 = _ := hHas 0 (by decide) d0
                    obtain rfl : u4 = _ := hHas 4 (by decide) d4
                    clear hl hI hd hn hK hHas hlen d0 d4
                    refine StepG.mk ?_
                    simp only [puts, Act.put]
                    go_simp
                    have ho := out_any aa am ae ca cm ce a t W (hra.mono hWW) (hrm.mono hWW) (hre.mono hWW) hae Hso.out.le (by omega) (fun x hx => by have := Hes.out x hx; omega)
                    rw [Hn.out] at ho
                    refine ho.mono ?_
                    rintro e w9 ⟨u9, rfl, h9, hb9⟩
                    obtain ⟨a9, c9, rfl, h10⟩ := h9 w hre
                    have H10 := Lib.hid h10
                    clear h9 h10 ho
                    go_simp
                    exact HK.out _ _ hb9 ⟨a9, c9, rfl, a9, c9, rfl, H10.out⟩ _ (by simp [puts, Act.put])
                  refine Steps.cons rfl ?_ ?_
                  · intro l us W hl hI hd hn K' hK
                    have hHas := hI.has
                    have hbel := hI.bel
                    have hlen := hI.len
                    obtain ⟨u0, u1, u2, u3, u4, u5, u6, u7, rfl⟩ := list_CA18 hlen
                    have HK : Hid (∀ v W', Below W.heap.size W W' → CA18 (w) (.agg #[.slice aa a.al.length ca, .int .i64 (n : Nat), .slice am a.ms.length cm, .slice ae a.es.length ce]) (.slice (some ⟨bq, oq, none⟩) S.q.length cvq) (i) (bq) (oq) (((t : Nat) : Int)) (subOf a.es ((t : Nat) : Int)) 6 v W' → ∀ a', puts _ _ [u0, u1, u2, u3, u4, u5, v, u7] = a' → K' a' W') := fun v W' hb hv a' e => hK _ a' W' e (hI.step CA18_mono hl hb hv)
                    have hWW := hbWd.trans (hbel.mono hbWd.size)
                    obtain ⟨a5, c5, e5, hr5⟩ : ∃ q c, u5 = .slice q (subOf a.es ((t : Nat) : Int)).length c ∧ RdE w u5 (subOf a.es ((t : Nat) : Int)) := hHas 5 (by decide) (by simp [Region.binds] at hd; simp [hd])
                    subst e5
                    clear hr5
                    have d5 : l.getD 5 false = true := by
                      simp [Region.binds] at hd
                      simp [hd]
                    clear hl hI hd hn hK hHas hlen d5
                    refine StepG.mk ?_
                    simp only [puts, Act.put]
                    go_simp
                    exact HK.out (.int .i64 ((List.length (subOf a.es ((t : Nat) : Int)) : Nat) : Int)) _ (Below.refl _ _) rfl _ (by simp [puts, Act.put])
                  refine Steps.cons rfl ?_ ?_
                  · intro l us W hl hI hd hn K' hK
                    have hHas := hI.has
                    have hbel := hI.bel
                    have hlen := hI.len
                    obtain ⟨u0, u1, u2, u3, u4, u5, u6, u7, rfl⟩ := list_CA18 hlen
                    have HK : Hid (∀ v W', Below W.heap.size W W' → CA18 (w) (.agg #[.slice aa a.al.length ca, .int .i64 (n : Nat), .slice am a.ms.length cm, .slice ae a.es.length ce]) (.slice (some ⟨bq, oq, none⟩) S.q.length cvq) (i) (bq) (oq) (((t : Nat) : Int)) (subOf a.es ((t : Nat) : Int)) 7 v W' → ∀ a', puts _ _ [u0, u1, u2, u3, u4, u5, u6, v] = a' → K' a' W') := fun v W' hb hv a' e => hK _ a' W' e (hI.step CA18_mono hl hb hv)
                    have hWW := hbWd.trans (hbel.mono hbWd.size)
                    clear hl hI hd hn hK hHas hlen 
                    refine StepG.mk ?_
                    simp only [puts, Act.put]
                    go_simp
                    exact HK.out (.int .i64 0) _ (Below.refl _ _) rfl _ (by simp [puts, Act.put])
                  exact Steps.nil (Nat.le_refl _)
                · intro us W3 hlen hbel hall
                  obtain ⟨u0, u1, u2, u3, u4, u5, u6, u7, rfl⟩ := list_CA18 hlen
                  obtain ⟨asb, csb, e5, hsub⟩ : ∃ q c, u5 = .slice q (subOf a.es ((t : Nat) : Int)).length c ∧ RdE w u5 (subOf a.es ((t : Nat) : Int)) := hall 5 (by decide)
                  obtain rfl : u6 = _ := hall 6 (by decide)
                  obtain rfl : u7 = _ := hall 7 (by decide)
                  subst e5
                  obtain ⟨_, _, e5, hsub⟩ := hsub
                  cases e5
                  have hX3 := HX.out.call ((bel_drew _).trans hbel)
                  have hE3 := HEr.out.below ((bel_drew _).trans hbel)
                  have hsl := subOf_length a.es ((t : Nat) : Int)
                  have Hsm : Hid (∀ x ∈ subOf a.es ((t : Nat) : Int), 0 ≤ x.t ∧ x.t < (n : Int)) := fun x hx => (Hes.out x (subOf_mem hx)).2.2
                  clear hall hlen hbel hbWd g0 g1 g2 g3 qc HX HEr hgl
                  generalize subOf a.es ((t : Nat) : Int) = sub at *
                  have HX := Lib.hid hX3
                  have HEr := Lib.hid hE3
                  clear hX3 hE3 hszc hqcl
                  simp only [puts, Act.put, List.setIfInBounds_toArray, List.set_cons_succ, List.set_cons_zero]
                  have hN := Lib.hid Hok.out.cnt
                  go_wp2_with fail
                  go_loopw [6, 65] (fun vq vj wr => ∃ (tag : Nat → Nat) (ve : Value) (k : Nat) (S0 : RSt), vj = .int .i64 (k : Nat) ∧ k ≤ sub.length ∧ CB w (.slice aa a.al.length ca) (.int .i64 n) (.slice am a.ms.length cm) (.slice ae a.es.length ce) n w3.heap.size (.slice a3 a.al.length c3) (.slice (some ⟨W2.heap.size, 0, none⟩) n n) a.al wr tag vm' ve vq S0 ms' ∧ Row wr w.heap.size tag 8 45 3 ve S0.E.length (edCells S0.E) ∧ ROk n (i * 1000000 + k) S0 ∧ S.q.length ≤ S0.q.length ∧ Hid (sub.foldl (rsStep inF i) S = (sub.drop k).foldl (rsStep inF i) S0)) (fun _ vj _ => sub.length - (intOf vj).toNat)
                  case atStart => exact ⟨tag', ve, 0, S, rfl, Nat.zero_le _, HX.out, HEr.out, Hok.out.more (by omega), Nat.le_refl _, rfl⟩
                  case round =>
                    clear HX HEr
                    obtain ⟨tag, ve, k, S0, rfl, hk, hC, hE, hok, hqq, hfold⟩ := hrel
                    obtain ⟨avq, cvq, rfl⟩ := hC.qr.val
                    have hbX := hC.below
                    have hsX := hbX.size
                    by_cases hltk : k < sub.length
                    · have hltkI : (k : Int) < (sub.length : Int) := by omega
                      obtain ⟨be, offe, rfl, d0, d1, d2⟩ := hsub.at_edge k hltk
                      replace d0 := keep0 hbX d0
                      replace d1 := keep0 hbX d1
                      replace d2 := keep0 hbX d2
                      have hxm := Hsm.out _ (List.getElem_mem hltk)
                      have hfold2 : Hid (sub.foldl (rsStep inF i) S = (sub.drop (k + 1)).foldl (rsStep inF i) (rsStep inF i S0 sub[k])) := by
                        show _ = _
                        rw [hfold.out, List.drop_eq_getElem_cons hltk, List.foldl_cons]
                      have hok2 := hok.step (inF := inF) (i := i) hxm.1 hxm.2
                      have hst2 := rsStep_num (i := i) (S := S0) (HinF.out _ hxm.1 hxm.2)
                      have hqs : S0.q.length ≤ (rsStep inF i S0 sub[k]).q.length := rsStep_q
                      have Hok2 := Lib.hid hok2
                      have Hst2 := Lib.hid hst2
                      have Hqs := Lib.hid hqs
                      clear hfold hok2 hst2 hqs
                      generalize sub[k] = x at *
                      obtain ⟨xf, xe, xt⟩ := x
                      dsimp only at d0 d1 d2 hxm
                      obtain ⟨t2, rfl⟩ := Int.eq_ofNat_of_zero_le hxm.1
                      have ht2 : t2 < n := by omega
                      have hXb := hC.up (.cells #[.int .i64 xf, .int .i64 xe, .int .i64 (t2 : Int)] 45) 10
                      have hEb := hE.up (.cells #[.int .i64 xf, .int .i64 xe, .int .i64 (t2 : Int)] 45) 10
                      have hOx := Own.new wr w.heap.size (tagUp tag wr.heap.size 10) 10 #[.int .i64 xf, .int .i64 xe, .int .i64 (t2 : Int)] 45 hsX (tagUp_at _ _ _)
                      obtain ⟨_, _, _, e6, hNl, _⟩ := hC.nr.addr hnp
                      cases e6
                      have hBne : ¬ wr.heap.size = W2.heap.size := by omega
                      have hBne2 : ¬ W2.heap.size = wr.heap.size := by omega
                      have hbd := Lib.hid hok.bd
                      have hcn := hok.cnt
                      have hln := hok.len
                      have hel := hok.el
                      have HXb := Lib.hid hXb
                      have HEb := Lib.hid hEb
                      have HOx := Lib.hid hOx
                      clear hC hE hXb hEb hOx hok
                      go_upto_region 21 with fail
                      clear d0 d1 d2
                      generalize hBx : wr.heap.size = Bx at *
                      generalize wr.alloc (.cells #[.int .i64 xf, .int .i64 xe, .int .i64 (t2 : Int)] 45) = wb at *
                      have x2 : wb.cell? ⟨Bx, 2, none⟩ = some (.int .i64 (t2 : Int)) := HOx.out.cell 2
                      have hBxl := HOx.out.lt
                      have n1 := HXb.out.nr.cellAt t2 (by omega)
                      have n2 := HXb.out.nr.frozenAt t2
                      rw [Nat.zero_add, less1_get (by omega)] at n1
                      have hn1l := World.block_lt_of_cell? _ _ n1
                      dsimp only at hn1l
                      have ht2I : (t2 : Int) < (n : Int) := by omega
                      have hnb := Lib.hid (HXb.out.nr)
                      have HNV0 : Hid (S0.num.getD t2 0 - 1 < 0 ↔ S0.num.getD t2 0 = 0) := by
                        show _ ↔ _
                        have h0 : 0 ≤ S0.num.getD t2 0 := by
                          rw [List.getD_eq_getElem?_getD, List.getElem?_eq_getElem (by omega)]
                          exact (hbd.out _ (List.getElem_mem _)).1
                        omega
                      generalize hnv0 : S0.num.getD t2 0 - 1 = nv0 at *
                      have Hnv0 := Lib.hid hnv0
                      clear hnv0
                      go_upto_if 74 with fail
                      go_cut [6, 65] from 65 to 100 (fun vq vj wx => vj = .int .i64 (k : Nat) ∧ ∃ (tag : Nat → Nat), CB w (.slice aa a.al.length ca) (.int .i64 n) (.slice am a.ms.length cm) (.slice ae a.es.length ce) n w3.heap.size (.slice a3 a.al.length c3) (.slice (some ⟨W2.heap.size, 0, none⟩) n n) a.al wx tag vm' ve vq (rsNum S0 ⟨xf, xe, (t2 : Int)⟩) ms' ∧ Row wx w.heap.size tag 8 45 3 ve S0.E.length (edCells S0.E) ∧ Own wx w.heap.size tag 10 Bx #[.int .i64 xf, .int .i64 xe, .int .i64 (t2 : Int)] 45)
                      case first =>
                        by_cases hz : S0.num.getD t2 0 = 0
                        · have hneg : nv0 < 0 := by rw [HNV0.out]; exact hz
                          have hrn : rsNum S0 ⟨xf, xe, (t2 : Int)⟩ = ⟨S0.num.set t2 ((S0.q.length : Int) + 1), S0.q ++ [(t2 : Int)], S0.E⟩ := rsNum_new (S := S0) (x := ⟨xf, xe, (t2 : Int)⟩) hz
                          have Hrn := Lib.hid hrn
                          have hs7 := HXb.out.setNum t2 ((S0.q.length : Int) + 1) S0.q.length (by omega)
                          rw [Nat.zero_add] at hs7
                          have hX9 := Lib.hid (hs7.1.up (.cells #[.int .i64 (t2 : Int)] 3) 9)
                          have hE9 := Lib.hid ((HEb.out.turn hs7.2 (by decide)).up (.cells #[.int .i64 (t2 : Int)] 3) 9)
                          have hO9 := Lib.hid ((HOx.out.turn hs7.2 (by decide)).upR (.cells #[.int .i64 (t2 : Int)] 3) 9)
                          have hq9 := Lib.hid (show Row _ w.heap.size _ 4 3 1 (.slice avq S0.q.length cvq) S0.q.length (ints S0.q) from hX9.out.qr)
                          have hsb := HXb.out.below.size
                          clear hs7 hz hrn
                          go_wp2_with (at_builtin; refine wpList_append_row rfl _ _ 28 rfl 3 i0 (.int .i64 0) 8 Try.underlying28 hi hz0 hz1 hz2 rfl rfl hq9.out (some ⟨_, 0, none⟩) 1 1 [.int .i64 (t2 : Int)] rfl (by simp) (fun e => by cases e) (fun ad e => by cases e; exact new_cells_at _ _ (by simp)) (by simp [Value.oneCell']) (by unfold maxLen; omega) (by omega) (by simp; omega) ?_; intro v16 w16 tag16 hr16 ht16; have HP16 := Lib.hid (hX9.out.push hr16 ht16); have hE16 := Lib.hid (hE9.out.turn ht16 (by decide)); have hO16 := Lib.hid (hO9.out.turn ht16 (by decide)); clear hr16 ht16)
                          go_meet
                          exact ⟨rfl, tag16, by rw [Hrn.out]; exact HP16.out, hE16.out, hO16.out⟩
                        · have hneg : ¬ nv0 < 0 := by rw [HNV0.out]; exact hz
                          have hrn : rsNum S0 ⟨xf, xe, (t2 : Int)⟩ = S0 := rsNum_old (S := S0) (x := ⟨xf, xe, (t2 : Int)⟩) hz
                          have Hrn := Lib.hid hrn
                          clear hz hrn
                          go_wp2_with fail
                          go_meet
                          exact ⟨rfl, _, by rw [Hrn.out]; exact HXb.out, HEb.out, HOx.out⟩
                      case rest =>
                        obtain ⟨rfl, tag1, hX, hE, hO⟩ := hcut
                        clear n1 n2 x2 hn1l hBxl hnb HNV0 Hnv0 HXb HEb HOx
                        have hE0 : (rsNum S0 ⟨xf, xe, (t2 : Int)⟩).E = S0.E := rsNum_E _ _
                        have hl0 : (rsStep inF i S0 ⟨xf, xe, (t2 : Int)⟩).num.length = n := Hok2.out.len
                        rw [Hst2.out] at hl0
                        have hl0 : (rsNum S0 ⟨xf, xe, (t2 : Int)⟩).num.length = n := hl0
                        have HST : Hid (rsStep inF i S0 ⟨xf, xe, (t2 : Int)⟩ = ⟨(rsNum S0 ⟨xf, xe, (t2 : Int)⟩).num, (rsNum S0 ⟨xf, xe, (t2 : Int)⟩).q, S0.E ++ [⟨i, xe, (rsNum S0 ⟨xf, xe, (t2 : Int)⟩).num.getD t2 0 - 1⟩]⟩) := Hst2.out
                        clear Hst2
                        generalize rsNum S0 ⟨xf, xe, (t2 : Int)⟩ = S1 at *
                        generalize hS3 : rsStep inF i S0 ⟨xf, xe, (t2 : Int)⟩ = S3 at *
                        clear hS3 hE0
                        obtain ⟨aq1, cq1, rfl⟩ := hX.qr.val
                        obtain ⟨ave, cve, rfl⟩ := hE.val
                        generalize hnv : S1.num.getD t2 0 - 1 = nv at *
                        have HNV := Lib.hid hnv
                        clear hnv
                        have HX26 : Hid (PhiY w (.slice aa a.al.length ca) (.int .i64 n) (.slice am a.ms.length cm) (.slice ae a.es.length ce) n w3.heap.size (.slice a3 a.al.length c3) (.slice (some ⟨W2.heap.size, 0, none⟩) n n) a.al vm' (.slice aq1 S1.q.length cq1) S1 ms' Bx xf xe (t2 : Int) (.slice ave S0.E.length cve) tag1 wc) := ⟨hX, hO⟩
                        have HE26 := Lib.hid hE
                        obtain ⟨j1, hj1, hj2, hj3, hj4⟩ := info_parts Try.info_edge
                        have hEl : S0.E.length ≤ 5000000000 := by omega
                        clear hX hE hO
                        generalize hE26 : S0.E = E26 at *
                        go_wp2_with fail
                        refine wp_region_inv2 (fun l us WW => ∃ tag, RY (PhiY w (.slice aa a.al.length ca) (.int .i64 n) (.slice am a.ms.length cm) (.slice ae a.es.length ce) n w3.heap.size (.slice a3 a.al.length c3) (.slice (some ⟨W2.heap.size, 0, none⟩) n n) a.al vm' (.slice aq1 S1.q.length cq1) S1 ms' Bx xf xe (t2 : Int)) (PR24 w3.heap.size Bx W2.heap.size t2 n i xe (t2 : Int) nv (.slice ave E26.length cve)) w.heap.size E26 ⟨i, xe, nv⟩ (.slice ave E26.length cve) l us tag WW) [86, 87, 88, 89, 90, 91, 92, 93, 94, 95, 96, 97, 98, 99] (by kernel_rfl) (by kernel_rfl) ⟨_, RY.start rfl HX26.out.1.below.size ⟨HX26.out.1.call (bel_drew _), HX26.out.2.below (bel_drew _)⟩ (HE26.out.below (bel_drew _))⟩ ?_ ?_
                        · skip
                          refine Steps.cons rfl ?_ ?_
                          · intro l us W4 hl hI hd hn K' hK
                            obtain ⟨tg4, hI⟩ := hI
                            have hlen := hI.len
                            obtain ⟨u0, u1, u2, u3, u4, u5, u6, u7, u8, u9, u10, u11, u12, u13, rfl⟩ := list14 hlen
                            have HK : Hid (∀ v W' tag', RY (PhiY w (.slice aa a.al.length ca) (.int .i64 n) (.slice am a.ms.length cm) (.slice ae a.es.length ce) n w3.heap.size (.slice a3 a.al.length c3) (.slice (some ⟨W2.heap.size, 0, none⟩) n n) a.al vm' (.slice aq1 S1.q.length cq1) S1 ms' Bx xf xe (t2 : Int)) (PR24 w3.heap.size Bx W2.heap.size t2 n i xe (t2 : Int) nv (.slice ave E26.length cve)) w.heap.size E26 ⟨i, xe, nv⟩ (.slice ave E26.length cve) (l.setIfInBounds 0 true) ([u0, u1, u2, u3, u4, u5, u6, u7, u8, u9, u10, u11, u12, u13].set 0 v) tag' W' → ∀ a', puts _ _ [v, u1, u2, u3, u4, u5, u6, u7, u8, u9, u10, u11, u12, u13] = a' → K' a' W') := fun v W' tag' h a' e => hK _ a' W' e ⟨tag', h⟩
                            have HS := Lib.hid (hI.pureStep (v := .pointer (some ⟨w3.heap.size, 3, none⟩)) hl (by decide) rfl)
                            clear hK hl hI hlen hd hn
                            refine StepG.mk ?_
                            simp only [puts, Act.put]
                            go_simp
                            exact HK.out _ _ _ HS.out _ (by simp [puts, Act.put])
                          refine Steps.cons rfl ?_ ?_
                          · intro l us W4 hl hI hd hn K' hK
                            obtain ⟨tg4, hI⟩ := hI
                            have hlen := hI.len
                            obtain ⟨u0, u1, u2, u3, u4, u5, u6, u7, u8, u9, u10, u11, u12, u13, rfl⟩ := list14 hlen
                            have HK : Hid (∀ v W' tag', RY (PhiY w (.slice aa a.al.length ca) (.int .i64 n) (.slice am a.ms.length cm) (.slice ae a.es.length ce) n w3.heap.size (.slice a3 a.al.length c3) (.slice (some ⟨W2.heap.size, 0, none⟩) n n) a.al vm' (.slice aq1 S1.q.length cq1) S1 ms' Bx xf xe (t2 : Int)) (PR24 w3.heap.size Bx W2.heap.size t2 n i xe (t2 : Int) nv (.slice ave E26.length cve)) w.heap.size E26 ⟨i, xe, nv⟩ (.slice ave E26.length cve) (l.setIfInBounds 1 true) ([u0, u1, u2, u3, u4, u5, u6, u7, u8, u9, u10, u11, u12, u13].set 1 v) tag' W' → ∀ a', puts _ _ [u0, v, u2, u3, u4, u5, u6, u7, u8, u9, u10, u11, u12, u13] = a' → K' a' W') := fun v W' tag' h a' e => hK _ a' W' e ⟨tag', h⟩
                            have d0 : l.getD 0 false = true := by
                              simp [Region.binds] at hd
                              simp [hd]
                            obtain rfl : u0 = _ := hI.pure 0 (by decide) d0
                            have HS := Lib.hid (hI.pureStep (v := .slice ave E26.length cve) hl (by decide) rfl)
                            have h15 : l.getD 14 false = false := by
                              cases h : l.getD 14 false with
                              | false => rfl
                              | true => rw [(hI.o12 (hI.o14 h)).2] at hn; cases hn
                            have hp := hI.phi
                            rw [h15] at hp
                            have y0 : W4.cell? ⟨w3.heap.size, 3, none⟩ = some (.slice ave E26.length cve) := hp.1.ob.cell 3
                            clear h15 hp
                            clear hK hl hI hlen hd hn d0
                            refine StepG.mk ?_
                            simp only [puts, Act.put]
                            go_simp
                            exact HK.out _ _ _ HS.out _ (by simp [puts, Act.put])
                          refine Steps.cons rfl ?_ ?_
                          · intro l us W4 hl hI hd hn K' hK
                            obtain ⟨tg4, hI⟩ := hI
                            have hlen := hI.len
                            obtain ⟨u0, u1, u2, u3, u4, u5, u6, u7, u8, u9, u10, u11, u12, u13, rfl⟩ := list14 hlen
                            have HK : Hid (∀ v W' tag', RY (PhiY w (.slice aa a.al.length ca) (.int .i64 n) (.slice am a.ms.length cm) (.slice ae a.es.length ce) n w3.heap.size (.slice a3 a.al.length c3) (.slice (some ⟨W2.heap.size, 0, none⟩) n n) a.al vm' (.slice aq1 S1.q.length cq1) S1 ms' Bx xf xe (t2 : Int)) (PR24 w3.heap.size Bx W2.heap.size t2 n i xe (t2 : Int) nv (.slice ave E26.length cve)) w.heap.size E26 ⟨i, xe, nv⟩ (.slice ave E26.length cve) (l.setIfInBounds 2 true) ([u0, u1, u2, u3, u4, u5, u6, u7, u8, u9, u10, u11, u12, u13].set 2 v) tag' W' → ∀ a', puts _ _ [u0, u1, v, u3, u4, u5, u6, u7, u8, u9, u10, u11, u12, u13] = a' → K' a' W') := fun v W' tag' h a' e => hK _ a' W' e ⟨tag', h⟩
                            have HS := Lib.hid (hI.pureStep (v := .int .i64 (i : Int)) hl (by decide) rfl)
                            clear hK hl hI hlen hd hn
                            refine StepG.mk ?_
                            simp only [puts, Act.put]
                            go_simp
                            exact HK.out _ _ _ HS.out _ (by simp [puts, Act.put])
                          refine Steps.cons rfl ?_ ?_
                          · intro l us W4 hl hI hd hn K' hK
                            obtain ⟨tg4, hI⟩ := hI
                            have hlen := hI.len
                            obtain ⟨u0, u1, u2, u3, u4, u5, u6, u7, u8, u9, u10, u11, u12, u13, rfl⟩ := list14 hlen
                            have HK : Hid (∀ v W' tag', RY (PhiY w (.slice aa a.al.length ca) (.int .i64 n) (.slice am a.ms.length cm) (.slice ae a.es.length ce) n w3.heap.size (.slice a3 a.al.length c3) (.slice (some ⟨W2.heap.size, 0, none⟩) n n) a.al vm' (.slice aq1 S1.q.length cq1) S1 ms' Bx xf xe (t2 : Int)) (PR24 w3.heap.size Bx W2.heap.size t2 n i xe (t2 : Int) nv (.slice ave E26.length cve)) w.heap.size E26 ⟨i, xe, nv⟩ (.slice ave E26.length cve) (l.setIfInBounds 3 true) ([u0, u1, u2, u3, u4, u5, u6, u7, u8, u9, u10, u11, u12, u13].set 3 v) tag' W' → ∀ a', puts _ _ [u0, u1, u2, v, u4, u5, u6, u7, u8, u9, u10, u11, u12, u13] = a' → K' a' W') := fun v W' tag' h a' e => hK _ a' W' e ⟨tag', h⟩
                            have HS := Lib.hid (hI.pureStep (v := .pointer (some ⟨Bx, 1, none⟩)) hl (by decide) rfl)
                            clear hK hl hI hlen hd hn
                            refine StepG.mk ?_
                            simp only [puts, Act.put]
                            go_simp
                            exact HK.out _ _ _ HS.out _ (by simp [puts, Act.put])
                          refine Steps.cons rfl ?_ ?_
                          · intro l us W4 hl hI hd hn K' hK
                            obtain ⟨tg4, hI⟩ := hI
                            have hlen := hI.len
                            obtain ⟨u0, u1, u2, u3, u4, u5, u6, u7, u8, u9, u10, u11, u12, u13, rfl⟩ := list14 hlen
                            have HK : Hid (∀ v W' tag', RY (PhiY w (.slice aa a.al.length ca) (.int .i64 n) (.slice am a.ms.length cm) (.slice ae a.es.length ce) n w3.heap.size (.slice a3 a.al.length c3) (.slice (some ⟨W2.heap.size, 0, none⟩) n n) a.al vm' (.slice aq1 S1.q.length cq1) S1 ms' Bx xf xe (t2 : Int)) (PR24 w3.heap.size Bx W2.heap.size t2 n i xe (t2 : Int) nv (.slice ave E26.length cve)) w.heap.size E26 ⟨i, xe, nv⟩ (.slice ave E26.length cve) (l.setIfInBounds 4 true) ([u0, u1, u2, u3, u4, u5, u6, u7, u8, u9, u10, u11, u12, u13].set 4 v) tag' W' → ∀ a', puts _ _ [u0, u1, u2, u3, v, u5, u6, u7, u8, u9, u10, u11, u12, u13] = a' → K' a' W') := fun v W' tag' h a' e => hK _ a' W' e ⟨tag', h⟩
                            have d3 : l.getD 3 false = true := by
                              simp [Region.binds] at hd
                              simp [hd]
                            obtain rfl : u3 = _ := hI.pure 3 (by decide) d3
                            have HS := Lib.hid (hI.pureStep (v := .int .i64 xe) hl (by decide) rfl)
                            have y0 : W4.cell? ⟨Bx, 1, none⟩ = some (.int .i64 xe) := hI.phi.2.cell 1
                            clear hK hl hI hlen hd hn d3
                            refine StepG.mk ?_
                            simp only [puts, Act.put]
                            go_simp
                            exact HK.out _ _ _ HS.out _ (by simp [puts, Act.put])
                          refine Steps.cons rfl ?_ ?_
                          · intro l us W4 hl hI hd hn K' hK
                            obtain ⟨tg4, hI⟩ := hI
                            have hlen := hI.len
                            obtain ⟨u0, u1, u2, u3, u4, u5, u6, u7, u8, u9, u10, u11, u12, u13, rfl⟩ := list14 hlen
                            have HK : Hid (∀ v W' tag', RY (PhiY w (.slice aa a.al.length ca) (.int .i64 n) (.slice am a.ms.length cm) (.slice ae a.es.length ce) n w3.heap.size (.slice a3 a.al.length c3) (.slice (some ⟨W2.heap.size, 0, none⟩) n n) a.al vm' (.slice aq1 S1.q.length cq1) S1 ms' Bx xf xe (t2 : Int)) (PR24 w3.heap.size Bx W2.heap.size t2 n i xe (t2 : Int) nv (.slice ave E26.length cve)) w.heap.size E26 ⟨i, xe, nv⟩ (.slice ave E26.length cve) (l.setIfInBounds 5 true) ([u0, u1, u2, u3, u4, u5, u6, u7, u8, u9, u10, u11, u12, u13].set 5 v) tag' W' → ∀ a', puts _ _ [u0, u1, u2, u3, u4, v, u6, u7, u8, u9, u10, u11, u12, u13] = a' → K' a' W') := fun v W' tag' h a' e => hK _ a' W' e ⟨tag', h⟩
                            have HS := Lib.hid (hI.pureStep (v := .slice (some ⟨W2.heap.size, 0, none⟩) n n) hl (by decide) rfl)
                            clear hK hl hI hlen hd hn
                            refine StepG.mk ?_
                            simp only [puts, Act.put]
                            go_simp
                            exact HK.out _ _ _ HS.out _ (by simp [puts, Act.put])
                          refine Steps.cons rfl ?_ ?_
                          · intro l us W4 hl hI hd hn K' hK
                            obtain ⟨tg4, hI⟩ := hI
                            have hlen := hI.len
                            obtain ⟨u0, u1, u2, u3, u4, u5, u6, u7, u8, u9, u10, u11, u12, u13, rfl⟩ := list14 hlen
                            have HK : Hid (∀ v W' tag', RY (PhiY w (.slice aa a.al.length ca) (.int .i64 n) (.slice am a.ms.length cm) (.slice ae a.es.length ce) n w3.heap.size (.slice a3 a.al.length c3) (.slice (some ⟨W2.heap.size, 0, none⟩) n n) a.al vm' (.slice aq1 S1.q.length cq1) S1 ms' Bx xf xe (t2 : Int)) (PR24 w3.heap.size Bx W2.heap.size t2 n i xe (t2 : Int) nv (.slice ave E26.length cve)) w.heap.size E26 ⟨i, xe, nv⟩ (.slice ave E26.length cve) (l.setIfInBounds 6 true) ([u0, u1, u2, u3, u4, u5, u6, u7, u8, u9, u10, u11, u12, u13].set 6 v) tag' W' → ∀ a', puts _ _ [u0, u1, u2, u3, u4, u5, v, u7, u8, u9, u10, u11, u12, u13] = a' → K' a' W') := fun v W' tag' h a' e => hK _ a' W' e ⟨tag', h⟩
                            have HS := Lib.hid (hI.pureStep (v := .pointer (some ⟨Bx, 2, none⟩)) hl (by decide) rfl)
                            clear hK hl hI hlen hd hn
                            refine StepG.mk ?_
                            simp only [puts, Act.put]
                            go_simp
                            exact HK.out _ _ _ HS.out _ (by simp [puts, Act.put])
                          refine Steps.cons rfl ?_ ?_
                          · intro l us W4 hl hI hd hn K' hK
                            obtain ⟨tg4, hI⟩ := hI
                            have hlen := hI.len
                            obtain ⟨u0, u1, u2, u3, u4, u5, u6, u7, u8, u9, u10, u11, u12, u13, rfl⟩ := list14 hlen
                            have HK : Hid (∀ v W' tag', RY (PhiY w (.slice aa a.al.length ca) (.int .i64 n) (.slice am a.ms.length cm) (.slice ae a.es.length ce) n w3.heap.size (.slice a3 a.al.length c3) (.slice (some ⟨W2.heap.size, 0, none⟩) n n) a.al vm' (.slice aq1 S1.q.length cq1) S1 ms' Bx xf xe (t2 : Int)) (PR24 w3.heap.size Bx W2.heap.size t2 n i xe (t2 : Int) nv (.slice ave E26.length cve)) w.heap.size E26 ⟨i, xe, nv⟩ (.slice ave E26.length cve) (l.setIfInBounds 7 true) ([u0, u1, u2, u3, u4, u5, u6, u7, u8, u9, u10, u11, u12, u13].set 7 v) tag' W' → ∀ a', puts _ _ [u0, u1, u2, u3, u4, u5, u6, v, u8, u9, u10, u11, u12, u13] = a' → K' a' W') := fun v W' tag' h a' e => hK _ a' W' e ⟨tag', h⟩
                            have d6 : l.getD 6 false = true := by
                              simp [Region.binds] at hd
                              simp [hd]
                            obtain rfl : u6 = _ := hI.pure 6 (by decide) d6
                            have HS := Lib.hid (hI.pureStep (v := .int .i64 (t2 : Int)) hl (by decide) rfl)
                            have y0 : W4.cell? ⟨Bx, 2, none⟩ = some (.int .i64 (t2 : Int)) := hI.phi.2.cell 2
                            clear hK hl hI hlen hd hn d6
                            refine StepG.mk ?_
                            simp only [puts, Act.put]
                            go_simp
                            exact HK.out _ _ _ HS.out _ (by simp [puts, Act.put])
                          refine Steps.cons rfl ?_ ?_
                          · intro l us W4 hl hI hd hn K' hK
                            obtain ⟨tg4, hI⟩ := hI
                            have hlen := hI.len
                            obtain ⟨u0, u1, u2, u3, u4, u5, u6, u7, u8, u9, u10, u11, u12, u13, rfl⟩ := list14 hlen
                            have HK : Hid (∀ v W' tag', RY (PhiY w (.slice aa a.al.length ca) (.int .i64 n) (.slice am a.ms.length cm) (.slice ae a.es.length ce) n w3.heap.size (.slice a3 a.al.length c3) (.slice (some ⟨W2.heap.size, 0, none⟩) n n) a.al vm' (.slice aq1 S1.q.length cq1) S1 ms' Bx xf xe (t2 : Int)) (PR24 w3.heap.size Bx W2.heap.size t2 n i xe (t2 : Int) nv (.slice ave E26.length cve)) w.heap.size E26 ⟨i, xe, nv⟩ (.slice ave E26.length cve) (l.setIfInBounds 8 true) ([u0, u1, u2, u3, u4, u5, u6, u7, u8, u9, u10, u11, u12, u13].set 8 v) tag' W' → ∀ a', puts _ _ [u0, u1, u2, u3, u4, u5, u6, u7, v, u9, u10, u11, u12, u13] = a' → K' a' W') := fun v W' tag' h a' e => hK _ a' W' e ⟨tag', h⟩
                            have d5 : l.getD 5 false = true := by
                              simp [Region.binds] at hd
                              simp [hd]
                            have d7 : l.getD 7 false = true := by
                              simp [Region.binds] at hd
                              simp [hd]
                            obtain rfl : u5 = _ := hI.pure 5 (by decide) d5
                            obtain rfl : u7 = _ := hI.pure 7 (by decide) d7
                            have HS := Lib.hid (hI.pureStep (v := .pointer (some ⟨W2.heap.size, t2, none⟩)) hl (by decide) rfl)
                            clear hK hl hI hlen hd hn d5 d7
                            refine StepG.mk ?_
                            simp only [puts, Act.put]
                            go_simp
                            exact HK.out _ _ _ HS.out _ (by simp [puts, Act.put])
                          refine Steps.cons rfl ?_ ?_
                          · intro l us W4 hl hI hd hn K' hK
                            obtain ⟨tg4, hI⟩ := hI
                            have hlen := hI.len
                            obtain ⟨u0, u1, u2, u3, u4, u5, u6, u7, u8, u9, u10, u11, u12, u13, rfl⟩ := list14 hlen
                            have HK : Hid (∀ v W' tag', RY (PhiY w (.slice aa a.al.length ca) (.int .i64 n) (.slice am a.ms.length cm) (.slice ae a.es.length ce) n w3.heap.size (.slice a3 a.al.length c3) (.slice (some ⟨W2.heap.size, 0, none⟩) n n) a.al vm' (.slice aq1 S1.q.length cq1) S1 ms' Bx xf xe (t2 : Int)) (PR24 w3.heap.size Bx W2.heap.size t2 n i xe (t2 : Int) nv (.slice ave E26.length cve)) w.heap.size E26 ⟨i, xe, nv⟩ (.slice ave E26.length cve) (l.setIfInBounds 9 true) ([u0, u1, u2, u3, u4, u5, u6, u7, u8, u9, u10, u11, u12, u13].set 9 v) tag' W' → ∀ a', puts _ _ [u0, u1, u2, u3, u4, u5, u6, u7, u8, v, u10, u11, u12, u13] = a' → K' a' W') := fun v W' tag' h a' e => hK _ a' W' e ⟨tag', h⟩
                            have d8 : l.getD 8 false = true := by
                              simp [Region.binds] at hd
                              simp [hd]
                            obtain rfl : u8 = _ := hI.pure 8 (by decide) d8
                            have HS := Lib.hid (hI.pureStep (v := .int .i64 nv) hl (by decide) rfl)
                            have y0 : W4.cell? ⟨W2.heap.size, t2, none⟩ = some (.int .i64 nv) := by
                              have h := hI.phi.1.nr.cellAt t2 (by omega)
                              rw [Nat.zero_add] at h
                              rw [h, less1_get (by omega), HNV.out]
                            clear hK hl hI hlen hd hn d8
                            refine StepG.mk ?_
                            simp only [puts, Act.put]
                            go_simp
                            exact HK.out _ _ _ HS.out _ (by simp [puts, Act.put])
                          refine Steps.cons rfl ?_ ?_
                          · intro l us W4 hl hI hd hn K' hK
                            obtain ⟨tg4, hI⟩ := hI
                            have hlen := hI.len
                            obtain ⟨u0, u1, u2, u3, u4, u5, u6, u7, u8, u9, u10, u11, u12, u13, rfl⟩ := list14 hlen
                            have HK : Hid (∀ v W' tag', RY (PhiY w (.slice aa a.al.length ca) (.int .i64 n) (.slice am a.ms.length cm) (.slice ae a.es.length ce) n w3.heap.size (.slice a3 a.al.length c3) (.slice (some ⟨W2.heap.size, 0, none⟩) n n) a.al vm' (.slice aq1 S1.q.length cq1) S1 ms' Bx xf xe (t2 : Int)) (PR24 w3.heap.size Bx W2.heap.size t2 n i xe (t2 : Int) nv (.slice ave E26.length cve)) w.heap.size E26 ⟨i, xe, nv⟩ (.slice ave E26.length cve) (l.setIfInBounds 10 true) ([u0, u1, u2, u3, u4, u5, u6, u7, u8, u9, u10, u11, u12, u13].set 10 v) tag' W' → ∀ a', puts _ _ [u0, u1, u2, u3, u4, u5, u6, u7, u8, u9, v, u11, u12, u13] = a' → K' a' W') := fun v W' tag' h a' e => hK _ a' W' e ⟨tag', h⟩
                            have d2 : l.getD 2 false = true := by
                              simp [Region.binds] at hd
                              simp [hd]
                            have d4 : l.getD 4 false = true := by
                              simp [Region.binds] at hd
                              simp [hd]
                            have d9 : l.getD 9 false = true := by
                              simp [Region.binds] at hd
                              simp [hd]
                            obtain rfl : u2 = _ := hI.pure 2 (by decide) d2
                            obtain rfl : u4 = _ := hI.pure 4 (by decide) d4
                            obtain rfl : u9 = _ := hI.pure 9 (by decide) d9
                            have HS := Lib.hid (hI.pureStep (v := .agg #[.int .i64 (i : Int), .int .i64 xe, .int .i64 nv]) hl (by decide) rfl)
                            clear hK hl hI hlen hd hn d2 d4 d9
                            refine StepG.mk ?_
                            simp only [puts, Act.put]
                            go_simp
                            exact HK.out _ _ _ HS.out _ (by simp [puts, Act.put])
                          refine Steps.cons rfl ?_ ?_
                          · intro l us W4 hl hI hd hn K' hK
                            obtain ⟨tg4, hI⟩ := hI
                            have hlen := hI.len
                            obtain ⟨u0, u1, u2, u3, u4, u5, u6, u7, u8, u9, u10, u11, u12, u13, rfl⟩ := list14 hlen
                            have HK : Hid (∀ v W' tag', RY (PhiY w (.slice aa a.al.length ca) (.int .i64 n) (.slice am a.ms.length cm) (.slice ae a.es.length ce) n w3.heap.size (.slice a3 a.al.length c3) (.slice (some ⟨W2.heap.size, 0, none⟩) n n) a.al vm' (.slice aq1 S1.q.length cq1) S1 ms' Bx xf xe (t2 : Int)) (PR24 w3.heap.size Bx W2.heap.size t2 n i xe (t2 : Int) nv (.slice ave E26.length cve)) w.heap.size E26 ⟨i, xe, nv⟩ (.slice ave E26.length cve) (l.setIfInBounds 11 true) ([u0, u1, u2, u3, u4, u5, u6, u7, u8, u9, u10, u11, u12, u13].set 11 v) tag' W' → ∀ a', puts _ _ [u0, u1, u2, u3, u4, u5, u6, u7, u8, u9, u10, v, u12, u13] = a' → K' a' W') := fun v W' tag' h a' e => hK _ a' W' e ⟨tag', h⟩
                            have d10 : l.getD 10 false = true := by
                              simp [Region.binds] at hd
                              simp [hd]
                            obtain rfl : u10 = _ := hI.pure 10 (by decide) d10
                            have HS := Lib.hid (hI.op11 hl (fun c h => ⟨h.1.up _ 11, h.2.upR _ 11⟩) hn (fun _ => trivial))
                            clear hK hl hI hlen hd hn d10
                            refine StepG.mk ?_
                            simp only [puts, Act.put]
                            go_simp
                            exact HK.out _ _ _ HS.out _ (by simp [puts, Act.put])
                          refine Steps.cons rfl ?_ ?_
                          · intro l us W4 hl hI hd hn K' hK
                            obtain ⟨tg4, hI⟩ := hI
                            have hlen := hI.len
                            obtain ⟨u0, u1, u2, u3, u4, u5, u6, u7, u8, u9, u10, u11, u12, u13, rfl⟩ := list14 hlen
                            have HK : Hid (∀ v W' tag', RY (PhiY w (.slice aa a.al.length ca) (.int .i64 n) (.slice am a.ms.length cm) (.slice ae a.es.length ce) n w3.heap.size (.slice a3 a.al.length c3) (.slice (some ⟨W2.heap.size, 0, none⟩) n n) a.al vm' (.slice aq1 S1.q.length cq1) S1 ms' Bx xf xe (t2 : Int)) (PR24 w3.heap.size Bx W2.heap.size t2 n i xe (t2 : Int) nv (.slice ave E26.length cve)) w.heap.size E26 ⟨i, xe, nv⟩ (.slice ave E26.length cve) (l.setIfInBounds 12 true) ([u0, u1, u2, u3, u4, u5, u6, u7, u8, u9, u10, u11, u12, u13].set 12 v) tag' W' → ∀ a', puts _ _ [u0, u1, u2, u3, u4, u5, u6, u7, u8, u9, u10, u11, v, u13] = a' → K' a' W') := fun v W' tag' h a' e => hK _ a' W' e ⟨tag', h⟩
                            have d1 : l.getD 1 false = true := by
                              simp [Region.binds] at hd
                              simp [hd]
                            have d11 : l.getD 11 false = true := by
                              simp [Region.binds] at hd
                              simp [hd]
                            obtain rfl : u1 = _ := hI.pure 1 (by decide) d1
                            have hs1 := hI.s1 hn
                            obtain ⟨a9, c9, e9, hrd⟩ := (hI.s11 d11 hn).rd
                            obtain rfl : u11 = _ := e9
                            refine StepG.append_row rfl _ _ 29 rfl 45 j1 (.agg #[.int .i64 0, .int .i64 0, .int .i64 0]) 24 Try.underlying29 hj1 hj2 hj3 hj4 rfl (by simp [puts, Act.put, Act.eval]) hs1 a9 1 c9 (Ed.cells ⟨i, xe, nv⟩) (by simp [puts, Act.put, Act.eval]) (by simp [Ed.cells]) hrd.src.1 hrd.src.2 (by simp [Ed.cells, Value.oneCell']) (by unfold maxLen; omega) (by omega) hI.size ?_
                            intro v9 W9 tag9 hr9 ht9
                            exact HK.out _ _ _ (hI.op12 hl (fun c h => ⟨h.1.turn 8 ht9 (by decide) (by decide) (by decide) (by decide) (by decide), h.2.turn ht9 (by decide)⟩) hn d11 d1 (fun _ => trivial) ht9 hr9) _ (by simp [puts, Act.put])
                          refine Steps.cons rfl ?_ ?_
                          · intro l us W4 hl hI hd hn K' hK
                            obtain ⟨tg4, hI⟩ := hI
                            have hlen := hI.len
                            obtain ⟨u0, u1, u2, u3, u4, u5, u6, u7, u8, u9, u10, u11, u12, u13, rfl⟩ := list14 hlen
                            have HK : Hid (∀ v W' tag', RY (PhiY w (.slice aa a.al.length ca) (.int .i64 n) (.slice am a.ms.length cm) (.slice ae a.es.length ce) n w3.heap.size (.slice a3 a.al.length c3) (.slice (some ⟨W2.heap.size, 0, none⟩) n n) a.al vm' (.slice aq1 S1.q.length cq1) S1 ms' Bx xf xe (t2 : Int)) (PR24 w3.heap.size Bx W2.heap.size t2 n i xe (t2 : Int) nv (.slice ave E26.length cve)) w.heap.size E26 ⟨i, xe, nv⟩ (.slice ave E26.length cve) (l.setIfInBounds 13 true) ([u0, u1, u2, u3, u4, u5, u6, u7, u8, u9, u10, u11, u12, u13].set 13 v) tag' W' → ∀ a', puts _ _ [u0, u1, u2, u3, u4, u5, u6, u7, u8, u9, u10, u11, u12, v] = a' → K' a' W') := fun v W' tag' h a' e => hK _ a' W' e ⟨tag', h⟩
                            have HS := Lib.hid (hI.pureStep (v := .pointer (some ⟨w3.heap.size, 3, none⟩)) hl (by decide) rfl)
                            clear hK hl hI hlen hd hn
                            refine StepG.mk ?_
                            simp only [puts, Act.put]
                            go_simp
                            exact HK.out _ _ _ HS.out _ (by simp [puts, Act.put])
                          refine Steps.cons rfl ?_ ?_
                          · intro l us W4 hl hI hd hn K' hK
                            obtain ⟨tg4, hI⟩ := hI
                            have hlen := hI.len
                            obtain ⟨u0, u1, u2, u3, u4, u5, u6, u7, u8, u9, u10, u11, u12, u13, rfl⟩ := list14 hlen
                            have HK : Hid (∀ W' tag', RY (PhiY w (.slice aa a.al.length ca) (.int .i64 n) (.slice am a.ms.length cm) (.slice ae a.es.length ce) n w3.heap.size (.slice a3 a.al.length c3) (.slice (some ⟨W2.heap.size, 0, none⟩) n n) a.al vm' (.slice aq1 S1.q.length cq1) S1 ms' Bx xf xe (t2 : Int)) (PR24 w3.heap.size Bx W2.heap.size t2 n i xe (t2 : Int) nv (.slice ave E26.length cve)) w.heap.size E26 ⟨i, xe, nv⟩ (.slice ave E26.length cve) (l.setIfInBounds 14 true) [u0, u1, u2, u3, u4, u5, u6, u7, u8, u9, u10, u11, u12, u13] tag' W' → ∀ a', puts _ _ [u0, u1, u2, u3, u4, u5, u6, u7, u8, u9, u10, u11, u12, u13] = a' → K' a' W') := fun W' tag' h a' e => hK _ a' W' e ⟨tag', h⟩
                            have d13 : l.getD 13 false = true := by
                              simp [Region.binds] at hd
                              simp [hd]
                            have d12 : l.getD 12 false = true := by
                              simp [Region.binds] at hd
                              simp [hd]
                            obtain rfl : u13 = _ := hI.pure 13 (by decide) d13
                            obtain ⟨a13, c13, e13⟩ := (hI.s12 d12).val
                            obtain rfl : u12 = _ := e13
                            have hp := hI.phi
                            rw [hn] at hp
                            have y0 : W4.cell? ⟨w3.heap.size, 3, none⟩ = some (.slice ave E26.length cve) := hp.1.ob.cell 3
                            have y1 := hp.1.ob.frozen 3
                            have HS := Lib.hid (hI.op14 (b8 := w3.heap.size) hl (fun c c' h => ⟨⟨(h.1.putE c' S1 rfl rfl).1, h.2.turn (h.1.putE c' S1 rfl rfl).2 (by decide)⟩, (h.1.putE c' S1 rfl rfl).2⟩) hn d12)
                            clear hp
                            clear hK hl hI hlen hd hn d13 d12
                            refine StepG.mk ?_
                            simp only [puts, Act.put]
                            go_simp
                            exact HK.out _ _ HS.out _ (by simp [puts, Act.put])
                          exact Steps.nil (Nat.le_refl _)
                        · intro l us W4 hI hall
                          obtain ⟨tg4, hI⟩ := hI
                          have hlen := hI.len
                          obtain ⟨u0, u1, u2, u3, u4, u5, u6, u7, u8, u9, u10, u11, u12, u13, rfl⟩ := list14 hlen
                          have h12 := hI.s12 (hall 12 (by decide))
                          have hp := hI.phi
                          rw [hall 14 (by decide)] at hp
                          obtain ⟨p1, _⟩ := hp
                          have P1 := Lib.hid p1
                          have HE9 : Hid (Row W4 w.heap.size tg4 8 45 3 u12 (E26 ++ [(⟨i, xe, nv⟩ : Ed)]).length (edCells (E26 ++ [(⟨i, xe, nv⟩ : Ed)]))) := by
                            show Row _ _ _ _ _ _ _ _ _
                            rw [List.length_append]
                            exact h12
                          have hqf : S.q.length ≤ S3.q.length := by have := Hqs.out; omega
                          clear hlen hall hI h12 p1 HX26 HE26
                          simp only [puts, Act.put, List.setIfInBounds_toArray, List.set_cons_succ, List.set_cons_zero]
                          go_wp2_with fail
                          go_roundw
                          case rel =>
                            have e3 := HST.out
                            subst e3
                            exact ⟨tg4, u12, k + 1, _, by go_num, by omega, P1.out.withE _, HE9.out, Hok2.out.more (by omega), hqf, hfold2.out⟩
                          case measure => simp [intOf]; omega
                    · have hke : sub.length = k := by omega
                      have hfin : sub.foldl (rsStep inF i) S = S0 := by rw [hfold.out, ← hke, List.drop_length]; rfl
                      have Hfin := Lib.hid hfin
                      have HC := Lib.hid hC
                      have HE := Lib.hid hE
                      have Hok0 := Lib.hid hok
                      have hnk : ¬ (k : Int) < (sub.length : Int) := by omega
                      have hcn := hok.cnt
                      have hml9 : ms'.length ≤ i + 1 := by
                        rw [Hms'.out]
                        split
                        · rw [List.length_append, List.length_singleton]; omega
                        · omega
                      clear hfin hfold hC hE hok
                      go_wp2_with fail
                      go_roundw
                      case rel => exact ⟨tag, vm', ve, i + 1, S0, ms', by go_num, HC.out, HE.out, Hok0.out.more (by omega), hml9, by omega, by omega, by rw [← Hfin.out, Hms'.out]; exact Hstep.out⟩
                      case measure => simp [intOf]; omega
          · have hnl : ¬ (i : Int) < (S.q.length : Int) := by omega
            have HQ : Hid (RL = (S, ms)) := by
              show _ = _
              rw [hRL.out, show n + 1 - i = (n - i) + 1 by omega, rsLoop, if_neg hlt]
            have HX := Lib.hid hC
            have HEr := Lib.hid hE
            have o0 : wr.cell? ⟨w3.heap.size, 0, none⟩ = some (.slice a3 a.al.length c3) := hC.ob.cell 0
            have o1 : wr.cell? ⟨w3.heap.size, 1, none⟩ = some (.int .i64 0) := hC.ob.cell 1
            have o2 : wr.cell? ⟨w3.heap.size, 2, none⟩ = some vm := hC.ob.cell 2
            have o3 : wr.cell? ⟨w3.heap.size, 3, none⟩ = some ve := hC.ob.cell 3
            have of1 := hC.ob.frozen 1
            have r0 : wr.cell? ⟨w.heap.size + 1, 0, none⟩ = some (.slice none 0 0) := hC.rc.cell 0
            have r1 : wr.cell? ⟨w.heap.size + 1, 1, none⟩ = some (.int .i64 0) := hC.rc.cell 1
            have r2 : wr.cell? ⟨w.heap.size + 1, 2, none⟩ = some (.slice none 0 0) := hC.rc.cell 2
            have r3 : wr.cell? ⟨w.heap.size + 1, 3, none⟩ = some (.slice none 0 0) := hC.rc.cell 3
            have rf0 := hC.rc.frozen 0
            have rf1 := hC.rc.frozen 1
            have rf2 := hC.rc.frozen 2
            have rf3 := hC.rc.frozen 3
            obtain ⟨avm, cvm, rfl⟩ := hC.mr.val
            obtain ⟨ave, cve, rfl⟩ := hE.val
            have hne : ¬ w3.heap.size = w.heap.size + 1 := by omega
            have hne2 : ¬ w.heap.size + 1 = w3.heap.size := by omega
            clear hC hE hok hRL
            go_wp2_with fail
            have T1 := Turn.setCell HX.out.ob 1 (.int .i64 (S.q.length : Int))
            have rc1 := HX.out.rc.turn T1 (by decide)
            have rc2 : Own _ w.heap.size (tagUp tag (w.heap.size + 1) 11) 11 (w.heap.size + 1) _ _ := ⟨rc1.heap, tagUp_at _ _ _, rc1.base⟩
            have al2 := (HX.out.al.turn T1 (by decide)).retag (kx := 11) rc1.heap (by decide)
            have mr2 := (HX.out.mr.turn T1 (by decide)).retag (kx := 11) rc1.heap (by decide)
            have er2 := (HEr.out.turn T1 (by decide)).retag (kx := 11) rc1.heap (by decide)
            have hs4 := own_store4 rc2 (.slice a3 a.al.length c3) (.int .i64 (S.q.length : Int)) (.slice avm ms.length cvm) (.slice ave S.E.length cve)
            have hbl1 := belTurn hbX T1 hbX.size
            have hbl2 := belTurn hbl1 hs4.2 hbl1.size
            have al3 := al2.turn hs4.2 (by decide)
            have mr3 := mr2.turn hs4.2 (by decide)
            have er3 := er2.turn hs4.2 (by decide)
            have d0 := hs4.1.cell 0
            have d1 := hs4.1.cell 1
            have d2 := hs4.1.cell 2
            have d3 := hs4.1.cell 3
            refine bodyPost_ret (v := .agg #[.slice a3 a.al.length c3, .int .i64 (S.q.length : Int), .slice avm ms.length cvm, .slice ave S.E.length cve]) (by simp [results, Try.results71, go_sem, d0, d1, d2, d3]) rfl ⟨_, rfl, ?_, hbl2⟩
            rw [HR1.out, HQ.out]
            obtain ⟨a9, c9, e9, h9⟩ := er3.rd
            exact ⟨⟨_, _, _, rfl, al3.rdI, mr3.rdI, ⟨a9, c9, e9, h9⟩⟩, ⟨a3, avm, ave, _, _, _, _, _, _, _, rfl, al3.fresh_ad, mr3.fresh_ad, er3.fresh_ad⟩⟩
end Go.Proofs.Ythchkddhibhenaa
