/- The contract of backward. -/
import Derived.Deep.DeepCutAuto
import Derived.Deep.LoopGhost
import Derived.Test.YthchkddhibhenaaRS1
import Derived.Test.YthchkddhibhenaaRS2
import Derived.Test.YthchkddhibhenaaRS4
namespace Go.Proofs.Ythchkddhibhenaa
open Go.RowKit

/-- What holds while backward runs: the graph's box, the lists of what leads into each state. -/
structure BInv (w : World) (G : Array Value) (n : Nat) (wr : World) (tag : Nat → Nat) (ivs : List Value) (es : List Ed) : Prop where
  below : Below w.heap.size w wr
  g : Own wr w.heap.size tag 0 w.heap.size G 80
  io : Row wr w.heap.size tag 1 28 1 (.slice (some ⟨w.heap.size + 1, 0, none⟩) n n) n ivs
  inn : ∀ s, s < n → Row wr w.heap.size tag (10 + s) 3 1 (ivs.getD s undef) (inL es s).length (ints (inL es s))
section
variable {w : World} {G : Array Value} {n : Nat} {wr wr' : World} {tag tag' : Nat → Nat} {ivs : List Value} {es : List Ed}
theorem BInv.call (h : BInv w G n wr tag ivs es) (hb : Below wr.heap.size wr wr') : BInv w G n wr' tag ivs es :=
  ⟨belCall h.below hb h.below.size, h.g.below hb, h.io.below hb, fun s hs => (h.inn s hs).below hb⟩
theorem BInv.turn {k : Nat} (h : BInv w G n wr tag ivs es) (ht : Turn w.heap.size tag tag' k wr wr') (h1 : 1 < k) (h2 : k < 10) : BInv w G n wr' tag' ivs es :=
  ⟨belTurn h.below ht h.below.size, h.g.turn ht (by omega), h.io.turn ht (by omega), fun s hs => (h.inn s hs).turn ht (by omega)⟩
theorem set_rep (k n : Nat) (h : k < n) : (ints (List.replicate k (-1) ++ List.replicate (n - k) 0)).set k (.int .i64 (-1)) = ints (List.replicate (k + 1) (-1) ++ List.replicate (n - (k + 1)) 0) := by
  apply List.ext_getElem
  · simp; omega
  · intro i h1 h2
    rw [List.getElem_set]
    simp only [List.getElem_map, List.getElem_append, List.length_replicate, List.getElem_replicate]
    by_cases e : k = i
    · subst e; simp
    · rw [if_neg e]
      by_cases e2 : i < k
      · rw [dif_pos e2, dif_pos (by omega)]
      · rw [dif_neg e2, dif_neg (by omega)]
/-- A new block, with a tag of its own. -/
theorem BInv.new {kk : Nat} (h : BInv w G n wr tag ivs es) (o : Obj) : BInv w G n (wr.alloc o) (tagUp tag wr.heap.size kk) ivs es := by
  have hb := bel_alloc wr o
  have ht : Turn w.heap.size tag (tagUp tag wr.heap.size kk) 9 wr (wr.alloc o) := { Turn.below (B := w.heap.size) (tag := tag) (k := 9) hb with tags := fun b hb => tagUp_lt hb }
  exact h.turn ht (by decide) (by decide)
/-- One edge more. -/
theorem BInv.push {x : Ed} {v' : Value} (h : BInv w G n wr tag ivs es) (t : Nat) (hx : x.t = (t : Int)) (htn : t < n) (hr : Row wr' w.heap.size tag' (10 + t) 3 1 v' ((inL es t).length + 1) (ints (inL es t) ++ [.int .i64 x.f])) (ht : Turn w.heap.size tag tag' (10 + t) wr wr') :
    BInv w G n (wr'.setCell ⟨w.heap.size + 1, t, none⟩ v') tag' (ivs.set t v') (es ++ [x]) := by
  have hB : w.heap.size ≤ wr'.heap.size := Nat.le_trans h.below.size ht.size
  have ho := h.io.turn ht (by omega)
  have h1 := ho.set t v'
  rw [Nat.zero_add] at h1
  have hl : ivs.length = n := by have := h.io.1; omega
  refine ⟨belTurn (belTurn h.below ht h.below.size) h1.2 hB, (h.g.turn ht (by omega)).turn h1.2 (by decide), h1.1, fun s hs => ?_⟩
  by_cases he : s = t
  · subst he
    rw [inL_same es x s hx, List.length_append, List.getD_eq_getElem?_getD, List.getElem?_set_self (by omega), Option.getD_some]
    have h2 := hr.turn h1.2 (k := 10 + s) (by omega)
    simpa [ints] using h2
  · rw [inL_other es x s (by omega), List.getD_eq_getElem?_getD, List.getElem?_set_ne (by omega), ← List.getD_eq_getElem?_getD]
    exact ((h.inn s hs).turn ht (by omega)).turn h1.2 (by omega)
end
theorem Try.info_ints : (Try.prog.info? 28).map (fun i => (i.zero, i.size, i.bytes)) = some (some (.slice none 0 0), 1, 24) := by kernel_rfl

set_option maxRecDepth 100000 in
set_option maxHeartbeats 4000000 in
theorem backward_any (aa am af : Option Addr) (la lm ca cm cf lf : Nat) (ve v : Value) (n : Nat) (es : List Ed) (tg : List Int) (w : World) (hre : RdE w ve es) (hrt : RdI w v tg) (hl : es.length ≤ 1000000) (hlt' : tg.length ≤ 1000000) (hn : n ≤ 1000000)
    (hin : ∀ x ∈ es, 0 ≤ x.f ∧ x.f < n ∧ 0 ≤ x.t ∧ x.t < n) (hit : ∀ s ∈ tg, 0 ≤ s ∧ s < n) :
    Calls Try.prog 49 #[.agg #[.slice aa la ca, .int .i64 n, .slice am lm cm, ve, .slice af lf cf], v] w (Ret w fun u w' => RdI w' u (backward n es tg)) := by
  obtain ⟨ae, ce, rfl, hre⟩ := hre
  obtain ⟨at_, ct, rfl, hrt⟩ := hrt
  obtain ⟨i0, hi, hz0, hz1, hz2⟩ := info_parts Try.info_ints
  obtain ⟨i1, hi1, hy0, hy1, hy2⟩ := info_parts Try.info_int
  have hmk := fun W : World => run_make (P := Try.prog) W 65 28 i0 (.slice none 0 0) Try.underlying65 hi hz0 .i64 .i64 (n : Int) (n : Int) (by omega) (by omega) (by rw [hz2]; omega) (by omega)
  rw [hz1] at hmk
  simp only [Int.toNat_natCast, Nat.mul_one, Value.cells] at hmk
  have Hin := Lib.hid hin
  have Hit := Lib.hid hit
  clear hin hit
  go_enter Try.func49, Try.ntmps49
  go_wp2_with fail
  clear hmk
  have hI0 : BInv w #[.slice aa la ca, .int .i64 n, .slice am lm cm, .slice ae es.length ce, .slice af lf cf] n ((w.alloc (.cells #[.slice aa la ca, .int .i64 n, .slice am lm cm, .slice ae es.length ce, .slice af lf cf] 80)).alloc (.cells (madeCells #[.slice none 0 0] n) 28)) (fun b => if b = w.heap.size + 1 then 1 else 0) (List.replicate n (.slice none 0 0)) [] := by
    refine ⟨(by (repeat (first | with_reducible exact Below.refl _ _ | with_reducible exact hre | (with_reducible refine belCall ?_ hre (by first | omega | (simp; done) | (simp; omega) | (simp at *; omega))) | (with_reducible refine Below.alloc ?_ (by first | omega | (simp; done) | (simp; omega) | (simp at *; omega)) _) | (with_reducible refine Below.drew ?_) | (with_reducible refine Below.setCell ?_ (by first | omega | (simp; done) | (simp; omega) | (simp at *; omega)) _)))), ⟨(by repeat (first | with_reducible assumption | (refine heap_drewp ?_) | (refine heap_at ?_; (first | rfl | (simp; done) | (simp; omega))) | (refine heap_past ?_ ?_; (next => first | omega | (simp; done) | (simp; omega))))), (by (try dsimp only); (repeat' split); all_goals omega), Nat.le_refl _⟩, ⟨by simp, .inr ⟨_, 0, n, _, rfl, ⟨(by repeat (first | with_reducible assumption | (refine heap_drewp ?_) | (refine heap_at ?_; (first | rfl | (simp; done) | (simp; omega))) | (refine heap_past ?_ ?_; (next => first | omega | (simp; done) | (simp; omega))))), (by (try dsimp only); (repeat' split); all_goals omega), by omega⟩, Nat.le_refl _, by unfold maxLen; omega, by simp [size_madeCells], by simp [toList_madeCells_one]⟩⟩, fun s hs => ?_⟩
    rw [List.getD_eq_getElem?_getD, List.getElem?_replicate, if_pos hs]
    exact Row.nil _ _ _ _ _ _
  go_loopw [24] (fun j wr => ∃ (k : Nat) (tag : Nat → Nat) (ivs : List Value), k ≤ es.length ∧ j = .int .i64 k ∧ BInv w #[.slice aa la ca, .int .i64 n, .slice am lm cm, .slice ae es.length ce, .slice af lf cf] n wr tag ivs (es.take k)) (fun j _ => es.length - (intOf j).toNat)
  case atStart => exact ⟨0, _, _, Nat.zero_le _, rfl, hI0⟩
  case round =>
    clear hI0
    obtain ⟨k, tag, ivs, hk, rfl, hI⟩ := hrel
    by_cases hlt : k < es.length
    · obtain ⟨b, off, rfl, c0, c1, c2⟩ := hre.at_edge k hlt
      obtain ⟨hx0, hx1, hx2, hx3⟩ := Hin.out es[k] (List.getElem_mem hlt)
      replace c0 := keep0 hI.below c0
      replace c1 := keep0 hI.below c1
      replace c2 := keep0 hI.below c2
      have hbl := World.block_lt_of_cell? wr _ c0
      obtain ⟨t, ht⟩ := Int.eq_ofNat_of_zero_le hx2
      have htn : t < n := by omega
      have Ht := Lib.hid ht
      have hts := take_snoc es k hlt
      have Hts := Lib.hid hts
      clear hts
      rw [ht] at c2
      clear ht hx2 hx3
      have hil := inL_le (es.take k) t
      have hkl : (es.take k).length ≤ k := List.length_take_le _ _
      have hI2 := hI.new (kk := 5) (.cells #[.int .i64 es[k].f, .int .i64 es[k].e, .int .i64 t] 45)
      have hOx := Own.new wr w.heap.size (tagUp tag wr.heap.size 5) 5 #[.int .i64 es[k].f, .int .i64 es[k].e, .int .i64 t] 45 hI.below.size (tagUp_at _ _ _)
      have hb2 : Below (wr.alloc (.cells #[.int .i64 es[k].f, .int .i64 es[k].e, .int .i64 t] 45)).heap.size _ ((wr.alloc (.cells #[.int .i64 es[k].f, .int .i64 es[k].e, .int .i64 t] 45)).alloc (.cells #[.int .i64 es[k].f] 3)).drew := (bel_alloc _ _).drew
      have hI3 := hI2.call hb2
      have hO3 := hOx.below hb2
      have hiv := hI3.inn t htn
      obtain ⟨av, cv, hav⟩ := hiv.val
      have d0 := hI.io.cellAt t (by omega)
      rw [show ivs[t]? = some (.slice av (inL (es.take k) t).length cv) from by rw [← hav, List.getD_eq_getElem?_getD]; have := hI.io.1; rw [List.getElem?_eq_getElem (by omega)]; rfl, Nat.zero_add] at d0
      rw [hav] at hiv
      obtain ⟨_, _, _, e9, hrl, _⟩ := hI.io.addr (by omega)
      cases e9
      have hrl' : w.heap.size < wr.heap.size := by omega
      clear hav
      go_wp2_with fail
      go_region_law (refine step_append_row rfl _ _ 28 rfl 3 i1 (.int .i64 0) 8 Try.underlying28 hi1 hy0 hy1 hy2 rfl rfl hiv (some ⟨_, 0, none⟩) 1 1 [.int .i64 es[k].f] rfl rfl (by simp) (fun ad e => by cases e; exact new_cells_at _ _ (by simp)) (by simp [Value.oneCell']) (by unfold maxLen; omega) (by omega) hI3.below.size ?_; intro v6 w6 tag6 hr6 ht6; obtain ⟨a6, c6, rfl⟩ := hr6.val; have z2 : w6.cell? ⟨wr.heap.size, 2, none⟩ = some (.int .i64 t) := (hO3.turn ht6 (by omega)).cell 2; have z3 := (hI3.io.turn ht6 (by omega)).cellAt t (by omega); have z4 := (hI3.io.turn ht6 (by omega)).frozenAt t; rw [Nat.zero_add] at z3; rw [List.getElem?_eq_getElem (by have := hI3.io.1; omega)] at z3)
      all_goals
        have Hfin := Lib.hid (hI3.push t Ht.out htn hr6 ht6)
        clear hI hI2 hI3 hOx hO3 hiv d0 hr6 ht6 z2 z3 z4
        go_wp2_with fail
        go_roundw
        case rel => exact ⟨k + 1, tag6, _, by omega, by go_num, by rw [Hts.out]; exact Hfin.out⟩
        case measure => simp [intOf]; omega
    · obtain rfl : k = es.length := by omega
      rw [List.take_length] at hI
      have e1 : wr.cell? ⟨w.heap.size, 1, none⟩ = some (.int .i64 n) := hI.g.cell 1
      have hzl := hI.g.lt
      have hzo := hI.io.addr
      go_wp2_with (at_make; refine wpList_make_full _ rfl _ _ 28 rfl wr.heap.size 3 i1 (.int .i64 0) 1 Try.underlying28 hi1 hy0 hy1 .i64 .i64 _ _ n rfl rfl (by first | rfl | omega) (by first | rfl | omega) (by rw [hy2]; omega) (by unfold maxLen; omega) (Nat.le_refl _) ?_; intro w3 hown3 hgrow3)
      have hb3 : Below wr.heap.size wr w3 := Below.grown (Below.refl _ _) hgrow3 (Nat.le_refl _) (fun k e => (by cases e))
      obtain ⟨tag2, hI3, hrow⟩ : ∃ tag2, BInv w #[.slice aa la ca, .int .i64 n, .slice am lm cm, .slice ae es.length ce, .slice af lf cf] n w3 tag2 ivs es ∧ Row w3 w.heap.size tag2 2 3 1 (.slice (some ⟨wr.heap.size, 0, none⟩) n n) n (ints (List.replicate n 0)) := by
        have ht : Turn w.heap.size tag (fun b => if b < wr.heap.size then tag b else 2) 9 wr w3 := { Turn.below (B := w.heap.size) (tag := tag) (k := 9) hb3 with tags := fun b hb => if_pos hb }
        refine ⟨_, hI.turn ht (by decide) (by decide), Row.of_own (B' := wr.heap.size) ?_ hI.below.size (fun b hb _ => if_neg (by omega))⟩
        simpa [Value.cells, toList_madeCells_one] using hown3
      clear hI hown3 hgrow3 e1 hzl hzo
      generalize wr.heap.size = r at *
      go_wp2_with fail
      go_loopw [48] (fun j wr => ∃ (k : Nat), k ≤ n ∧ j = .int .i64 k ∧ BInv w #[.slice aa la ca, .int .i64 n, .slice am lm cm, .slice ae es.length ce, .slice af lf cf] n wr tag2 ivs es ∧ Row wr w.heap.size tag2 2 3 1 (.slice (some ⟨r, 0, none⟩) n n) n (ints (List.replicate k (-1) ++ List.replicate (n - k) 0))) (fun j _ => n - (intOf j).toNat)
      case atStart => exact ⟨0, Nat.zero_le _, rfl, hI3, by simpa using hrow⟩
      case round =>
        clear hI3 hrow
        obtain ⟨k, hk, rfl, hI, hrow⟩ := hrel
        by_cases hkn : k < n
        · have d0 := hrow.cellAt k (by omega)
          rw [Nat.zero_add, List.getElem?_eq_getElem (by simp; omega)] at d0
          have d1 := hrow.frozenAt k
          have hst := hrow.set k (.int .i64 (-1))
          rw [Nat.zero_add, show (ints (List.replicate k (-1) ++ List.replicate (n - k) 0)).set k (.int .i64 (-1)) = ints (List.replicate (k + 1) (-1) ++ List.replicate (n - (k + 1)) 0) from set_rep k n hkn] at hst
          obtain ⟨_, _, _, e9, hrl, _⟩ := hrow.addr (by omega)
          cases e9
          generalize (ints (List.replicate k (-1) ++ List.replicate (n - k) 0))[k]'_ = u at d0
          have Hst := Lib.hid hst
          clear hst
          go_wp2
          go_roundw
          case rel => exact ⟨k + 1, by omega, by go_num, hI.turn Hst.out.2 (by decide) (by decide), Hst.out.1⟩
          case measure => simp [intOf]; omega
        · obtain rfl : n = k := by omega
          rw [Nat.sub_self, List.replicate_zero, List.append_nil] at hrow
          have hzl := hI.below.size
          have hT : RdI wr (.slice at_ tg.length ct) tg := RdI.mono ⟨at_, ct, rfl, hrt⟩ hI.below
          go_wp2_with (go_at_call 67; refine (clone_any _ tg _ hT hlt').mono ?_; rintro e w4 ⟨vq, rfl, hq, hb4⟩)
          obtain ⟨tag3, hI4, hout, hqr⟩ : ∃ tag3, BInv w #[.slice aa la ca, .int .i64 n, .slice am lm cm, .slice ae es.length ce, .slice af lf cf] n w4 tag3 ivs es ∧ Row w4 w.heap.size tag3 2 3 1 (.slice (some ⟨r, 0, none⟩) n n) n (ints (List.replicate n (-1))) ∧ Row w4 w.heap.size tag3 3 3 1 vq tg.length (ints tg) := by
            have ht : Turn w.heap.size tag2 (fun b => if b < wr.heap.size then tag2 b else 3) 9 wr w4 := { Turn.below (B := w.heap.size) (tag := tag2) (k := 9) hb4 with tags := fun b hb => if_pos hb }
            exact ⟨_, hI.turn ht (by decide) (by decide), hrow.turn ht (by decide), Row.of_own (B' := wr.heap.size) hq hI.below.size (fun b hb _ => if_neg (by omega))⟩
          clear hI hrow hq hT hb4 hzl
          obtain ⟨aq, cq, rfl⟩ := hqr.val
          go_wp2_with fail
          go_loopw [59] (fun j wr => ∃ (k : Nat), k ≤ tg.length ∧ j = .int .i64 k ∧ BInv w #[.slice aa la ca, .int .i64 n, .slice am lm cm, .slice ae es.length ce, .slice af lf cf] n wr tag3 ivs es ∧ Row wr w.heap.size tag3 2 3 1 (.slice (some ⟨r, 0, none⟩) n n) n (ints (bStart n (tg.take k))) ∧ Row wr w.heap.size tag3 3 3 1 (.slice aq tg.length cq) tg.length (ints tg)) (fun j _ => tg.length - (intOf j).toNat)
          case atStart => exact ⟨0, Nat.zero_le _, rfl, hI4, by simpa [bStart] using hout, hqr⟩
          case round =>
            clear hI4 hout hqr
            obtain ⟨k, hk, rfl, hI, hout, hqr⟩ := hrel
            by_cases hkn : k < tg.length
            · obtain ⟨b, off, rfl, c0⟩ := hrt.at_int k hkn
              replace c0 := keep0 hI.below c0
              obtain ⟨hx0, hx1⟩ := Hit.out tg[k] (List.getElem_mem hkn)
              have d0 := hout.cellAt tg[k].toNat (by omega)
              rw [Nat.zero_add, List.getElem?_eq_getElem (by have := hout.1; omega)] at d0
              have d1 := hout.frozenAt tg[k].toNat
              have hst := hout.set tg[k].toNat (.int .i64 0)
              rw [Nat.zero_add, show (ints (bStart n (tg.take k))).set tg[k].toNat (.int .i64 0) = ints (bStart n (tg.take (k + 1))) from by rw [take_snoc tg k hkn, bStart_snoc]; exact (List.map_set ..).symm] at hst
              obtain ⟨_, _, _, e9, hrl, _⟩ := hout.addr (by omega)
              cases e9
              generalize (ints (bStart n (tg.take k)))[tg[k].toNat]'_ = u at d0
              have Hst := Lib.hid hst
              clear hst
              go_wp2
              go_roundw
              case rel => exact ⟨k + 1, by omega, by go_num, hI.turn Hst.out.2 (by decide) (by decide), Hst.out.1, hqr.turn Hst.out.2 (by decide)⟩
              case measure => simp [intOf]; omega
            · rw [List.take_of_length_le (by omega)] at hout
              have hok0 := BOk.start n tg hn Hit.out
              go_wp2_with fail
              go_loopg [10] (2 * negs (bStart n tg) + tg.length) (fun g q wr => ∃ (tag : Nat → Nat) (f : Nat) (ds qs : List Int), g < f ∧ g ≤ 3000000 ∧ g = 2 * negs ds + qs.length ∧ BInv w #[.slice aa la ca, .int .i64 n, .slice am lm cm, .slice ae es.length ce, .slice af lf cf] n wr tag ivs es ∧ Row wr w.heap.size tag 2 3 1 (.slice (some ⟨r, 0, none⟩) n n) n (ints ds) ∧ Row wr w.heap.size tag 3 3 1 q qs.length (ints qs) ∧ BOk n ds qs ∧ backward n es tg = bwd (inL es) f ds qs)
              case atStart => exact ⟨tag3, _, _, tg, Nat.lt_succ_self _, by have := negs_le (bStart n tg); have := bStart_length n tg; omega, rfl, hI, hout, hqr, hok0, rfl⟩
              case round =>
                clear hI hout hqr hok0
                obtain ⟨tag, f, ds, qs, hgf, hg3, hg, hI, hout, hqr, hok, hbk⟩ := hrel
                obtain ⟨aq, cq, rfl⟩ := hqr.val
                cases qs with
                | nil =>
                  simp only [List.length_nil] at hqr ⊢
                  have Hbk := Lib.hid (show backward n es tg = ds by rw [hbk]; cases f <;> rfl)
                  clear hbk
                  go_wp2
                  go_ret
                  refine ⟨_, rfl, ?_, hI.below⟩
                  rw [Hbk.out]
                  have hle := hok.len
                  subst hle
                  exact hout.rdI
                | cons s q =>
                  obtain ⟨f', rfl⟩ : ∃ f', f = f' + 1 := ⟨f - 1, by omega⟩
                  have hsr := hok.qr s (List.mem_cons_self ..)
                  have hsn := hok.nn s (List.mem_cons_self ..)
                  obtain ⟨t, rfl⟩ := Int.eq_ofNat_of_zero_le hsr.1
                  have htn : t < n := by omega
                  rw [Int.toNat_natCast] at hsn
                  obtain ⟨bq, oq, cq', e9, hbq, _, c0⟩ := hqr.at_int 0 (by simp)
                  cases e9
                  simp only [List.getElem_cons_zero, Nat.add_zero, List.length_cons] at c0 hqr ⊢
                  obtain ⟨ht1, ht2⟩ := hqr.tail
                  have hiv := hI.inn t htn
                  obtain ⟨av, cv, hav⟩ := hiv.val
                  have hil := inL_le es t
                  have d0 := hI.io.cellAt t (by omega)
                  rw [show ivs[t]? = some (.slice av (inL es t).length cv) from by rw [← hav, List.getD_eq_getElem?_getD]; have := hI.io.1; rw [List.getElem?_eq_getElem (by omega)]; rfl, Nat.zero_add] at d0
                  have hfold := BOk.fold htn (inL es t) hok.pop hsn (inL_range Hin.out)
                  have Hbk : Hid (backward n es tg = bwd (inL es) f' ((inL es t).foldl (bStep t) (ds, q)).1 ((inL es t).foldl (bStep t) (ds, q)).2) := hbk
                  have Hok := Lib.hid hok
                  have hgl := hI.below.size
                  have hqlen : q.length ≤ 3000000 := by simp at hg; omega
                  have Hav := Lib.hid hav
                  have Hg := Lib.hid hg
                  clear hbk hok hqr hiv hg hav
                  obtain ⟨hf1, hf2, hf3⟩ := hfold
                  have Hf1 := Lib.hid hf1
                  have hrl := hout.addr (by omega)
                  obtain ⟨_, _, _, e8, hrl, hrB, _⟩ := hrl
                  cases e8
                  by_cases hc1 : cq = 1
                  all_goals
                    first | (have hq2 := ht1 hc1; subst hc1; simp only [Nat.sub_self] at hq2) | (have hq2 := ht2 hc1)
                    clear ht1 ht2
                    go_wp2_with fail
                    go_loopw [10, 80] (fun qv j wr => ∃ (k : Nat) (tag' : Nat → Nat), k ≤ (inL es t).length ∧ j = .int .i64 k ∧ BInv w #[.slice aa la ca, .int .i64 n, .slice am lm cm, .slice ae es.length ce, .slice af lf cf] n wr tag' ivs es ∧
                      Row wr w.heap.size tag' 2 3 1 (.slice (some ⟨r, 0, none⟩) n n) n (ints (((inL es t).take k).foldl (bStep t) (ds, q)).1) ∧ Row wr w.heap.size tag' 3 3 1 qv (((inL es t).take k).foldl (bStep t) (ds, q)).2.length (ints (((inL es t).take k).foldl (bStep t) (ds, q)).2)) (fun _ j _ => (inL es t).length - (intOf j).toNat)
                    case atStart => exact ⟨0, tag, Nat.zero_le _, rfl, hI, hout, hq2⟩
                    case round =>
                      clear hI hout hq2 d0 c0 hrl
                      obtain ⟨k, tag', hk, rfl, hI, hout, hqr⟩ := hrel
                      by_cases hkn : k < (inL es t).length
                      · have hpr := inL_range Hin.out (inL es t)[k] (List.getElem_mem hkn)
                        obtain ⟨hok', hsn', hms⟩ := BOk.fold htn ((inL es t).take k) Hok.out.pop hsn (fun p hp => inL_range Hin.out p (List.mem_of_mem_take hp))
                        have Hstep : Hid (((inL es t).take (k + 1)).foldl (bStep t) (ds, q) = bStep t (((inL es t).take k).foldl (bStep t) (ds, q)) (inL es t)[k]) := by
                          show _ = _
                          rw [take_snoc _ k hkn, List.foldl_append]; rfl
                        have hqb : (((inL es t).take k).foldl (bStep t) (ds, q)).2.length ≤ 3000000 := by have := Hg.out; simp at this; omega
                        clear hms
                        generalize ((inL es t).take k).foldl (bStep t) (ds, q) = acc at *
                        obtain ⟨ds2, q2⟩ := acc
                        dsimp only at hout hqr hok' hsn' hqb
                        have hiv := hI.inn t htn
                        rw [Hav.out] at hiv
                        obtain ⟨bi, oi, ci, e7, hbi, _, c1⟩ := hiv.at_int k hkn
                        cases e7
                        clear hiv
                        generalize hp : (inL es t)[k] = p at *
                        clear hp
                        obtain ⟨pn, rfl⟩ := Int.eq_ofNat_of_zero_le hpr.1
                        have hpn : pn < n := by omega
                        have hds2 := hok'.len
                        have l1 : pn < ds2.length := by omega
                        have l2 : t < ds2.length := by omega
                        have o1 := hout.cellAt pn (by omega)
                        rw [List.getElem?_map, List.getElem?_eq_getElem l1, Nat.zero_add, Option.map_some] at o1
                        have o2 := hout.cellAt t (by omega)
                        rw [List.getElem?_map, List.getElem?_eq_getElem l2, Nat.zero_add, Option.map_some] at o2
                        have o3 := hout.frozenAt pn
                        obtain ⟨_, _, _, e8, hrl, hrB', _⟩ := hout.addr (by omega)
                        cases e8
                        obtain ⟨aq2, cq2, rfl⟩ := hqr.val
                        have hlo := hok'.lo ds2[t] (List.getElem_mem l2)
                        have hge : 0 ≤ ds2[t] := by rw [List.getD_eq_getElem?_getD, List.getElem?_eq_getElem l2] at hsn'; exact hsn'
                        clear hds2 hsn' hok' hpr
                        by_cases hneg : ds2[pn] < 0
                        · have Hb : Hid (bStep t (ds2, q2) pn = (ds2.set pn (ds2[t] + 1), q2 ++ [(pn : Int)])) := by
                            show _ = _
                            unfold bStep
                            dsimp only
                            rw [Int.toNat_natCast, List.getD_eq_getElem?_getD, List.getElem?_eq_getElem l1, Option.getD_some, if_pos hneg, List.getD_eq_getElem?_getD, List.getElem?_eq_getElem l2, Option.getD_some]
                          have hst := hout.set pn (.int .i64 (ds2[t] + 1))
                          rw [Nat.zero_add, show (ints ds2).set pn (.int .i64 (ds2[t] + 1)) = ints (ds2.set pn (ds2[t] + 1)) from (List.map_set ..).symm] at hst
                          have hbA := bel_alloc (wr.setCell ⟨r, pn, none⟩ (.int .i64 (ds2[t] + 1))) (.cells #[.int .i64 pn] 3)
                          have hI2 := (hI.turn hst.2 (by decide) (by decide)).call hbA
                          have hq3 := (hqr.turn hst.2 (by decide)).below hbA
                          have ho3 := hst.1.below hbA
                          clear hbA hst hI hout hqr
                          generalize ds2[t] = dt at *
                          go_wp2_with (at_builtin; refine wpList_append_row rfl _ _ 28 rfl 3 i1 (.int .i64 0) 8 Try.underlying28 hi1 hy0 hy1 hy2 rfl rfl hq3 (some ⟨_, 0, none⟩) 1 1 [.int .i64 pn] rfl rfl (by simp) (fun ad e => by cases e; exact new_cells_at _ _ (by simp)) (by simp [Value.oneCell']) (by unfold maxLen; omega) (by omega) hI2.below.size ?_; intro v6 w6 tag6 hr6 ht6; have Hr6 := Lib.hid hr6; clear hr6)
                          go_roundw
                          case rel =>
                            refine ⟨k + 1, tag6, by omega, by go_num, hI2.turn ht6 (by decide) (by decide), ?_, ?_⟩
                            · rw [Hstep.out, Hb.out]; exact ho3.turn ht6 (by decide)
                            · rw [Hstep.out, Hb.out, List.length_append, List.length_singleton]
                              simpa [ints] using Hr6.out
                          case measure => simp [intOf]; omega
                        · have Hb : Hid (bStep t (ds2, q2) pn = (ds2, q2)) := by
                            show _ = _
                            unfold bStep
                            dsimp only
                            rw [Int.toNat_natCast, List.getD_eq_getElem?_getD, List.getElem?_eq_getElem l1, Option.getD_some, if_neg hneg]
                          have hneg' : 0 ≤ ds2[pn] := by omega
                          clear hneg
                          generalize ds2[t] = dt at *
                          generalize ds2[pn] = dp at *
                          go_wp2
                          go_roundw
                          case rel => exact ⟨k + 1, tag', by omega, by go_num, hI, by rw [Hstep.out, Hb.out]; exact hout, by rw [Hstep.out, Hb.out]; exact hqr⟩
                          case measure => simp [intOf]; omega
                      · rw [List.take_of_length_le (by omega)] at hout hqr
                        obtain ⟨aq2, cq2, rfl⟩ := hqr.val
                        clear hf1
                        go_wp2_with fail
                        go_roundg (2 * negs ((inL es t).foldl (bStep t) (ds, q)).1 + ((inL es t).foldl (bStep t) (ds, q)).2.length)
                        case measure => have := Hg.out; simp at this; omega
                        case rel => exact ⟨tag', f', _, _, by have := Hg.out; simp at this; omega, by have := Hg.out; simp at this; omega, rfl, hI, hout, hqr, Hf1.out, Hbk.out⟩
end Go.Proofs.Ythchkddhibhenaa
