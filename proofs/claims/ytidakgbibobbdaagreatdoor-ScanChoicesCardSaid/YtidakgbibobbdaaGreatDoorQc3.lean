/- Parts of the proof, without what nothing here names. -/
import Derived.OwnWalkIn
import Derived.Deep.DeepCutAuto
import Derived.StillTailTactics
import Derived.Deep.RegionLaw
import Derived.Deep.LoopGhost
import Derived.Shelf.Strings.Builder1
import Derived.Shelf.Strings.BuilderF
import Derived.Shelf.Strings.BuilderK
import Derived.Shelf.Strconv.Itoa0
import Derived.Shelf.Strconv.Itoa1
import Derived.Shelf.LaysM
import Derived.Shelf.Strconv.Itoa2
import Derived.Shelf.Strconv.Itoa3
import Derived.Test.YtidakgbibobbdaaGreatDoorProg
import Derived.Shelf.Sort.Plain
import Derived.Shelf.Slices.In.SortNone
import Derived.Ground.SlsfProg
import Derived.RangeFuncNested
import Derived.RangeFuncBound
import Derived.RangeFuncCalls
import Derived.RangeFuncLeaves
import Derived.Test.YtidakgbibobbdaaGreatDoorQc2
set_option maxRecDepth 100000
set_option maxHeartbeats 8000000
namespace Go.Proofs.YtidakgbibobbdaaGreatDoor
open Go.RowKit
theorem y8m {F : Fence} {nF : Nat} {P : Program} {ops : Array Oper} {rest : List Oper} {o : Oper} {a : Act} {Q : Exit → Act → World → Prop}
  {w : World} {B : Nat} {tag : Nat → Nat} {k : Nat} {sz : Nat} {v : Value} {n : Nat} {cs : List Value} (hgd : o.guard = none) (s x : Operand) (tt : TypeId)
  (ho : o.op = .call { callee := .builtin .append, args := #[s, x], argTypes := #[tt, tt] })
  (e : TypeId) (i : TypeInfo) (z : Value) (bytes : Nat) (ht : P.underlying tt = some (.slice e)) (hi : P.info? e = some i) (hz : i.zero = some z)
  (hsize : i.size = sz) (hby : i.bytes = bytes) (hzs : z.cells.size = sz) (hs : a.eval s = v) (hrow : Row w B tag k e sz v n cs)
  (ao : Option Addr) (m c : Nat) (news : List Value) (hx : a.eval x = .slice ao m c) (hl : news.length = m * sz) (hnone : ao = none → m = 0 ∧ c = 0)
  (hnews : ∀ ad, ao = some ad → ∀ j u, news[j]? = some u → w.cell? (ad.add j) = some u) (h1 : ∀ u ∈ news, u.oneCell' = true)
  (h63 : n + m ≤ maxLen) (hbytes : (n + m) * bytes ≤ 140737488355328) (hB : B ≤ w.heap.size)
  (h : ∀ v' w' tag', Row w' B tag' k e sz v' (n + m) (cs ++ news) → Turn B tag tag' k w w' → wpListIn F nF P ops Q rest (a.put o.dst v') w') : wpListIn F nF P ops Q (o :: rest) a w := by
 refine wpListIn_plain hgd fun K hK' => ?_
 obtain ⟨v', w', tag', hrun, h2, h3⟩ := y4Z (P := P) (w := w) (ty := o.type) tt e i z bytes ht hi hz hsize hby hzs hrow ao m c news hl hnone hnews h1 h63 hbytes hB
 unfold Oper.wpIn
 refine ⟨?_, ?_⟩
 ·simp [Oper.about, ho, resolve, Target.leads, Sem.run_pure]
 ·rw [Oper.semAt_plain F _ _ (by rw [ho]; intro c hc'; cases hc')]
  simp [execOp, ho, resolve, invoke, builtin, hs, hx, hrun, Result.andThen]
  exact hK' _ _ (h v' w' tag' h2 h3)
end Go.Proofs.YtidakgbibobbdaaGreatDoor
namespace Go.Proofs.YtidakgbibobbdaaGreatDoor
open Go.RowKit Go.Shelf
attribute [local go_sem] Oper.semAt_some
def ycN (B : Nat) : Option (List Int) → Value → World → Prop
 | some xs, u, w' => ∃ v, u = .tuple #[v, .bool true] ∧ RdI w' v xs ∧ y5W B v
 | none, u, _ => u = .tuple #[.slice none 0 0, .bool false]
def ycO (n : Nat) (a : Act) (w : World) : Nat := match a.tmps.getD 12 undef with
 | .pointer (some ad) => n - (intOf ((w.cell? ad).getD undef)).toNat
 | _ => 0
theorem Tryz.info_step : (Tryz.prog.info? 210).map (fun i => (i.zero, i.size, i.bytes)) = some (some (.agg #[.int .i64 0, .int .i64 0, .int .i64 0]), 3, 24) := by kernel_rfl
set_option maxHeartbeats 4000000 in
theorem ycP (aa am ae af : Option Addr) (la lm ca cm ce cf : Nat) (n from_ : Nat) (es : List Ed) (fw fp : FuncId) (capw capp : Array Value) (want : Int → Bool) (perm : Ed → Bool) (w : World)
  (hre : RdS w 3 ae es.length ce (y5L es)) (hrf : RdS w 1 af (n + 1) cf (ints (y6E n es))) (hl : es.length ≤ 1000000) (hn : n ≤ 1000000) (hfrom : from_ < n) (hin : ∀ x ∈ es, 0 ≤ x.t ∧ x.t < n)
  (hew : Enters Tryz.prog fw) (hep : Enters Tryz.prog fp)
  (hw : ∀ (s : Int) (W : World), 0 ≤ s → s < n → Below w.heap.size w W → Calls Tryz.prog fw (#[.int .i64 s] ++ capw) W fun e w' => e = .returned (.bool (want s)) ∧ Below W.heap.size W w')
  (hp : ∀ (x : Ed) (W : World), x ∈ es → Below w.heap.size w W → Calls Tryz.prog fp (#[x.val] ++ capp) W fun e w' => e = .returned (.bool (perm x)) ∧ Below W.heap.size W w') :
  Calls Tryz.prog 99 #[.agg #[.slice aa la ca, .int .i64 n, .slice am lm cm, .slice ae es.length ce, .slice af (n + 1) cf], .int .i64 from_, .func (.func fw) #[] capw, .func (.func fp) #[] capp] w
   (Ret w fun u w' => ycN w.heap.size (pathF n es want perm from_) u w') := by
 obtain ⟨bf, offf, rfl, hcf⟩ := hrf.at_elem 0 (by omega)
 obtain ⟨i0, hi, hz0, hz1, hz2⟩ := info_parts Tryz.info_bool
 have hmk := fun W : World => run_make (P := Tryz.prog) W 118 4 i0 (.bool false) Tryz.underlying118 hi hz0 .i64 .i64 (n : Int) (n : Int) (by omega) (by omega) (by rw [hz2]; omega) (by omega)
 rw [hz1] at hmk
 simp only [Int.toNat_natCast, Nat.mul_one, Value.cells] at hmk
 have hmc : (madeCells #[Value.bool false] n)[from_]? = some (.bool false) := by
  rw [← Array.getElem?_toList, toList_madeCells_one, List.getElem?_replicate, if_pos hfrom]
 have Hcf := Lib.hid hcf
 clear hcf
 have Hw := Lib.hid hw
 have Hp := Lib.hid hp
 have Hin := Lib.hid hin
 have Hew := Lib.hid hew
 have Hep := Lib.hid hep
 clear hw hp hin hew hep
 refine y7y Tryz.func99 rfl ?_
 simp only [Tryz.ntmps99, List.size_toArray, List.length_cons, List.length_nil, Nat.reduceAdd, Nat.reduceSub, Array.replicate_succ, Array.replicate_zero, List.push_toArray, List.append_toArray, List.nil_append, List.cons_append]
 go_wp2_with fail
 clear hmk hmc
 refine wp_loop (fun a' wr => ∃ (v12 v13 v14 v15 v26 v27 v28 v29 v30 v31 v32 v33 v34 v35 v36 v37 v38 v39 v40 v41 v42 v43 v44 v45 v46 v47 v48 v49 v50 v51 v52 v53 v54 v55 v56 v57 v58 v59 v60 v61 v62 v63 v64 v65 v66 v67 v68 v69 v70 v71 v72 v73 v74 v75 v76 v77 v78 v79 v80 v81 v82 v83 v84 v85 v86 v87 v88 v89 v90 v91 v92 v93 v94 : Value) (ds : List Deferred) (tag : Nat → Nat) (bi i : Nat) (vs : Value) (seen : List Bool) (steps : List St), v12 = .pointer (some ⟨bi, 0, none⟩) ∧
   PInv w #[.slice aa la ca, .int .i64 n, .slice am lm cm, .slice ae es.length ce, .slice (some ⟨bf, offf, none⟩) (n + 1) cf] (.func (.func fp) #[] capp) n ds wr tag bi i vs seen steps ∧ POk n seen steps ∧ i ≤ steps.length ∧
   Hid (bfs (subOf es) want perm (n + 1) 0 ((List.replicate n false).set from_ true) [⟨from_, -1, -1⟩] = bfs (subOf es) want perm (n + 1 - i) i seen steps) ∧
   a' = { tmps := #[Value.agg #[.slice aa la ca, .int .i64 n, .slice am lm cm, .slice ae es.length ce, .slice (some ⟨bf, offf, none⟩) (n + 1) cf], Value.int .i64 from_, Value.func (.func fw) #[] capw, Value.func (.func fp) #[] capp, Value.pointer (some ⟨w.heap.size, 0, none⟩), undef, undef, Value.pointer (some ⟨w.heap.size + 1, 0, none⟩), Value.slice none 0 0, Value.bool false, Value.pointer (some ⟨w.heap.size + 1 + 1 + 1, 0, none⟩), Value.pointer (some ⟨w.heap.size + 1 + 1 + 1 + 1 + 1, 0, none⟩), v12, v13, v14, v15, Value.int .i64 from_, Value.agg #[.int .i64 from_, .int .i64 (-1), .int .i64 (-1)], Value.slice (some ⟨w.heap.size + 1 + 1, 0, none⟩) 1 1, Value.pointer (some ⟨w.heap.size, 0, none⟩), Value.pointer (some ⟨w.heap.size, 1, none⟩), Value.int .i64 n, Value.slice (some ⟨w.heap.size + 1 + 1 + 1 + 1, 0, none⟩) n n, Value.slice (some ⟨w.heap.size + 1 + 1 + 1 + 1, 0, none⟩) n n, Value.int .i64 from_, Value.pointer (some ⟨w.heap.size + 1 + 1 + 1 + 1, from_, none⟩), v26, v27, v28, v29, v30, v31, v32, v33, v34, v35, v36, v37, v38, v39, v40, v41, v42, v43, v44, v45, v46, v47, v48, v49, v50, v51, v52, v53, v54, v55, v56, v57, v58, v59, v60, v61, v62, v63, v64, v65, v66, v67, v68, v69, v70, v71, v72, v73, v74, v75, v76, v77, v78, v79, v80, v81, v82, v83, v84, v85, v86, v87, v88, v89, v90, v91, v92, v93, v94], defers := ds }) (fun a' wr => ycO n a' wr) ?_ ?_
 ·repeat apply Exists.intro
  refine ⟨rfl, (?_ : PInv _ _ _ _ _ _ (fun b => if b = w.heap.size + 1 + 1 then 2 else if b = w.heap.size + 1 + 1 + 1 then 3 else if b = w.heap.size + 1 + 1 + 1 + 1 then 1 else if b = w.heap.size + 1 + 1 + 1 + 1 + 1 + 1 then 4 else 0) _ 0 _ ((List.replicate n false).set from_ true) [⟨from_, -1, -1⟩]), POk.start n from_ hfrom, Nat.zero_le _, rfl, rfl⟩
  refine ⟨(by (repeat (first | with_reducible exact Below.refl _ _ | with_reducible exact hre | (with_reducible refine yI ?_ hre (by first | omega | (simp; done) | (simp; omega) | (simp at *; omega))) | (with_reducible refine Below.alloc ?_ (by first | omega | (simp; done) | (simp; omega) | (simp at *; omega)) _) | (with_reducible refine Below.drew ?_) | (with_reducible refine Below.setCell ?_ (by first | omega | (simp; done) | (simp; omega) | (simp at *; omega)) _)))), Marks.nil _ _, ⟨(by repeat (first | with_reducible assumption | (refine yS ?_) | (refine y2E ?_; (first | rfl | (simp; done) | (simp; omega))) | (refine y1l ?_ ?_; (next => first | omega | (simp; done) | (simp; omega))))), (by (try dsimp only); (repeat' split); all_goals omega), by omega⟩, ⟨(by repeat (first | with_reducible assumption | (refine yS ?_) | (refine y2E ?_; (first | rfl | (simp; done) | (simp; omega))) | (refine y1l ?_ ?_; (next => first | omega | (simp; done) | (simp; omega))))), (by (try dsimp only); (repeat' split); all_goals omega), by omega⟩, ⟨(by repeat (first | with_reducible assumption | (refine yS ?_) | (refine y2E ?_; (first | rfl | (simp; done) | (simp; omega))) | (refine y1l ?_ ?_; (next => first | omega | (simp; done) | (simp; omega))))), (by (try dsimp only); (repeat' split); all_goals omega), by omega⟩, ⟨by simp [y5v, St.cells], .inr ⟨_, 0, 1, _, rfl, ⟨(by repeat (first | with_reducible assumption | (refine yS ?_) | (refine y2E ?_; (first | rfl | (simp; done) | (simp; omega))) | (refine y1l ?_ ?_; (next => first | omega | (simp; done) | (simp; omega))))), (by (try dsimp only); (repeat' split); all_goals omega), by omega⟩, Nat.le_refl _, by simp [maxLen], by simp, by simp [y5v, St.cells]⟩⟩, ⟨(by repeat (first | with_reducible assumption | (refine yS ?_) | (refine y2E ?_; (first | rfl | (simp; done) | (simp; omega))) | (refine y1l ?_ ?_; (next => first | omega | (simp; done) | (simp; omega))))), (by (try dsimp only); (repeat' split); all_goals omega), by omega⟩, ⟨by simp, .inr ⟨_, 0, n, _, rfl, ⟨(by repeat (first | with_reducible assumption | (refine yS ?_) | (refine y2E ?_; (first | rfl | (simp; done) | (simp; omega))) | (refine y1l ?_ ?_; (next => first | omega | (simp; done) | (simp; omega))))), (by (try dsimp only); (repeat' split); all_goals omega), by omega⟩, Nat.le_refl _, by unfold maxLen; omega, by simp [size_madeCells], ?_⟩⟩, ⟨(by repeat (first | with_reducible assumption | (refine yS ?_) | (refine y2E ?_; (first | rfl | (simp; done) | (simp; omega))) | (refine y1l ?_ ?_; (next => first | omega | (simp; done) | (simp; omega))))), (by (try dsimp only); (repeat' split); all_goals omega), by omega⟩⟩
  rw [List.drop_zero, Nat.mul_one, List.take_of_length_le (by simp [size_madeCells]), Array.toList_setIfInBounds, toList_madeCells_one]
  simp
 ·intro _ wr h
  obtain ⟨v12, h⟩ := h
  obtain ⟨v13, h⟩ := h
  obtain ⟨v14, h⟩ := h
  obtain ⟨v15, h⟩ := h
  obtain ⟨v26, h⟩ := h
  obtain ⟨v27, h⟩ := h
  obtain ⟨v28, h⟩ := h
  obtain ⟨v29, h⟩ := h
  obtain ⟨v30, h⟩ := h
  obtain ⟨v31, h⟩ := h
  obtain ⟨v32, h⟩ := h
  obtain ⟨v33, h⟩ := h
  obtain ⟨v34, h⟩ := h
  obtain ⟨v35, h⟩ := h
  obtain ⟨v36, h⟩ := h
  obtain ⟨v37, h⟩ := h
  obtain ⟨v38, h⟩ := h
  obtain ⟨v39, h⟩ := h
  obtain ⟨v40, h⟩ := h
  obtain ⟨v41, h⟩ := h
  obtain ⟨v42, h⟩ := h
  obtain ⟨v43, h⟩ := h
  obtain ⟨v44, h⟩ := h
  obtain ⟨v45, h⟩ := h
  obtain ⟨v46, h⟩ := h
  obtain ⟨v47, h⟩ := h
  obtain ⟨v48, h⟩ := h
  obtain ⟨v49, h⟩ := h
  obtain ⟨v50, h⟩ := h
  obtain ⟨v51, h⟩ := h
  obtain ⟨v52, h⟩ := h
  obtain ⟨v53, h⟩ := h
  obtain ⟨v54, h⟩ := h
  obtain ⟨v55, h⟩ := h
  obtain ⟨v56, h⟩ := h
  obtain ⟨v57, h⟩ := h
  obtain ⟨v58, h⟩ := h
  obtain ⟨v59, h⟩ := h
  obtain ⟨v60, h⟩ := h
  obtain ⟨v61, h⟩ := h
  obtain ⟨v62, h⟩ := h
  obtain ⟨v63, h⟩ := h
  obtain ⟨v64, h⟩ := h
  obtain ⟨v65, h⟩ := h
  obtain ⟨v66, h⟩ := h
  obtain ⟨v67, h⟩ := h
  obtain ⟨v68, h⟩ := h
  obtain ⟨v69, h⟩ := h
  obtain ⟨v70, h⟩ := h
  obtain ⟨v71, h⟩ := h
  obtain ⟨v72, h⟩ := h
  obtain ⟨v73, h⟩ := h
  obtain ⟨v74, h⟩ := h
  obtain ⟨v75, h⟩ := h
  obtain ⟨v76, h⟩ := h
  obtain ⟨v77, h⟩ := h
  obtain ⟨v78, h⟩ := h
  obtain ⟨v79, h⟩ := h
  obtain ⟨v80, h⟩ := h
  obtain ⟨v81, h⟩ := h
  obtain ⟨v82, h⟩ := h
  obtain ⟨v83, h⟩ := h
  obtain ⟨v84, h⟩ := h
  obtain ⟨v85, h⟩ := h
  obtain ⟨v86, h⟩ := h
  obtain ⟨v87, h⟩ := h
  obtain ⟨v88, h⟩ := h
  obtain ⟨v89, h⟩ := h
  obtain ⟨v90, h⟩ := h
  obtain ⟨v91, h⟩ := h
  obtain ⟨v92, h⟩ := h
  obtain ⟨v93, h⟩ := h
  obtain ⟨v94, h⟩ := h
  obtain ⟨ds, tag, bi, i, vs, seen, steps, rfl, hI, hok, hi0, hbfs, rfl⟩ := h
  have hsz := hI.size
  have k0 : wr.cell? ⟨bi, 0, none⟩ = some (.int .i64 i) := hI.ib.cell 0
  have k1 : wr.cell? ⟨w.heap.size + 1 + 1 + 1, 0, none⟩ = some vs := hI.sb.cell 0
  have Hk0 := Lib.hid k0
  by_cases hlt : i < steps.length
  ·obtain ⟨bs, os, cs, rfl, hbs, s0, s1, s2⟩ := hI.st.at_step i hlt
   have hen : ∀ args W, (callFunc fw args).run Tryz.prog W = .ok (.enter fw args) W := Hew.out
   have hHen := Lib.hid hen
   clear hen
   have hsr := hok.range steps[i] (List.getElem_mem hlt)
   cases hwant : want steps[i].s
   ·have Hwant := Lib.hid hwant
    clear hwant
    go_wp2_with fail
    rw [hHen.out, Oper.upon_enter]
    refine (Hw.out steps[i].s wr hsr.1 hsr.2 hI.below).mono ?_
    rintro e w1 ⟨he, hb1⟩
    rw [Hwant.out] at he
    subst he
    dsimp only
    have hI1 := hI.call hb1
    clear k0 k1 s0 s1 s2
    have hsz1 := hI1.size
    have k0 : w1.cell? ⟨bi, 0, none⟩ = some (.int .i64 i) := hI1.ib.cell 0
    obtain ⟨bs', os', cs', e1, hbs', s0, s1, s2⟩ := hI1.st.at_step i hlt
    cases e1
    have k1 : w1.cell? ⟨w.heap.size + 1 + 1 + 1, 0, none⟩ = some (.slice (some ⟨bs, os, none⟩) steps.length cs) := hI1.sb.cell 0
    have g0 : w1.cell? ⟨w.heap.size, 0, none⟩ = some (Value.slice aa la ca) := hI1.g.cell 0
    have g1 : w1.cell? ⟨w.heap.size, 1, none⟩ = some (Value.int .i64 n) := hI1.g.cell 1
    have g2 : w1.cell? ⟨w.heap.size, 2, none⟩ = some (Value.slice am lm cm) := hI1.g.cell 2
    have g3 : w1.cell? ⟨w.heap.size, 3, none⟩ = some (Value.slice ae es.length ce) := hI1.g.cell 3
    have g4 : w1.cell? ⟨w.heap.size, 4, none⟩ = some (Value.slice (some ⟨bf, offf, none⟩) (n + 1) cf) := hI1.g.cell 4
    go_wp2_with fail
    go_still_tail 6, (by kernel_rfl)
    change wpList _ _ _ _ _ w1.drew
    have hI2 := hI1.call (y5s w1)
    clear g0 g1 g2 g3 g4 k0 k1 s0 s1 s2 hI1 hsz1 hb1 hbs' hbs hI
    generalize w1.drew = w2 at *
    go_wp2_with (go_at_call 144; refine (ycH _ _ _ _ _ _ _ _ _ _ _ _ _ _ _).mono ?_; rintro e w3 ⟨rfl, rfl⟩)
    have hI3 := (hI2.call (y1V w2 (.cells #[.slice aa la ca, .int .i64 n, .slice am lm cm, .slice ae es.length ce, .slice (some ⟨bf, offf, none⟩) (n + 1) cf] 165))).call (y1V _ (.cells #[.int .i64 steps[i].s] 3))
    have hg3 : ((w2.alloc (.cells #[.slice aa la ca, .int .i64 n, .slice am lm cm, .slice ae es.length ce, .slice (some ⟨bf, offf, none⟩) (n + 1) cf] 165)).alloc (.cells #[.int .i64 steps[i].s] 3)).cell? ⟨w2.heap.size, 3, none⟩ = some (.slice ae es.length ce) := by simp [go_sem]
    have hg4 : ((w2.alloc (.cells #[.slice aa la ca, .int .i64 n, .slice am lm cm, .slice ae es.length ce, .slice (some ⟨bf, offf, none⟩) (n + 1) cf] 165)).alloc (.cells #[.int .i64 steps[i].s] 3)).cell? ⟨w2.heap.size, 4, none⟩ = some (.slice (some ⟨bf, offf, none⟩) (n + 1) cf) := by simp [go_sem]
    have hg5 : ((w2.alloc (.cells #[.slice aa la ca, .int .i64 n, .slice am lm cm, .slice ae es.length ce, .slice (some ⟨bf, offf, none⟩) (n + 1) cf] 165)).alloc (.cells #[.int .i64 steps[i].s] 3)).cell? ⟨w2.heap.size + 1, 0, none⟩ = some (.int .i64 steps[i].s) := by simp [go_sem]
    clear hI2
    generalize (w2.alloc (.cells #[.slice aa la ca, .int .i64 n, .slice am lm cm, .slice ae es.length ce, .slice (some ⟨bf, offf, none⟩) (n + 1) cf] 165)).alloc (.cells #[.int .i64 steps[i].s] 3) = w3 at *
    have hfc : ∀ s : Nat, s ≤ n → w3.cell? ⟨bf, offf + s, none⟩ = some (.int .i64 (fstN es s)) := by
     intro s hs
     have h1 := Hcf.out s (by simp [y6E]; omega)
     have h2 := yc2 n es s hs
     rw [yGe (by simp [y6E]; omega)] at h2
     rw [Option.some.inj h2] at h1
     exact keep0 hI3.below h1
    have hseq := ybf w2.heap.size (w2.heap.size + 1) w.heap.size ae (some ⟨bf, offf, none⟩) ce (n + 1) cf steps[i].s es (fstN es steps[i].s) (fstN es (steps[i].s + 1)) (ycJ es _ _ (by omega)) (yei es _) hl w3 hI3.below.size hg3 hg4 hg5 hsr.1 (by omega) bf offf rfl (by omega)
     (by have := hfc steps[i].s.toNat (by omega); rwa [Int.toNat_of_nonneg hsr.1] at this) (by have := hfc (steps[i].s + 1).toNat (by omega); rwa [Int.toNat_of_nonneg (by omega)] at this) (hre.mono hI3.below) (fun h0 ad e => World.block_lt_of_cell? w ⟨ad.block, ad.off + 0, none⟩ (hre.cell ad e 0 (by rw [hre.hlen]; omega)))
    clear hg3 hg4 hg5 hfc
    refine ydz (bg := w2.heap.size) (bs := w2.heap.size + 1) (n₀ := w.heap.size) rfl hseq (Below.refl _ _) hI3.below.size rfl
     (fun pre W => (∀ y ∈ pre, y ∈ subOf es steps[i].s) ∧ ∃ tag vs, PInv w #[.slice aa la ca, .int .i64 n, .slice am lm cm, .slice ae es.length ce, .slice (some ⟨bf, offf, none⟩) (n + 1) cf] (.func (.func fp) #[] capp) n ds W tag bi i vs (pre.foldl (pStep perm i) (seen, steps)).1 (pre.foldl (pStep perm i) (seen, steps)).2)
     ?hI ⟨by simp, tag, _, hI3⟩
     (fun x a' W => ∃ Bx, w.heap.size ≤ Bx ∧ W.heap[Bx]? = some (.cells #[.int .i64 x.f, .int .i64 x.e, .int .i64 x.t] 97 (0, 0)) ∧ a' = { tmps := #[Value.agg #[.slice aa la ca, .int .i64 n, .slice am lm cm, .slice ae es.length ce, .slice (some ⟨bf, offf, none⟩) (n + 1) cf], Value.int .i64 from_, Value.func (.func fw) #[] capw, Value.func (.func fp) #[] capp, Value.pointer (some ⟨w.heap.size, 0, none⟩), undef, undef, Value.pointer (some ⟨w.heap.size + 1, 0, none⟩), Value.slice none 0 0, Value.bool false, Value.pointer (some ⟨w.heap.size + 1 + 1 + 1, 0, none⟩), Value.pointer (some ⟨w.heap.size + 1 + 1 + 1 + 1 + 1, 0, none⟩), Value.pointer (some ⟨bi, 0, none⟩), v13, v14, Value.pointer (some ⟨Bx, 0, none⟩), Value.int .i64 from_, Value.agg #[.int .i64 from_, .int .i64 (-1), .int .i64 (-1)], Value.slice (some ⟨w.heap.size + 1 + 1, 0, none⟩) 1 1, Value.pointer (some ⟨w.heap.size, 0, none⟩), Value.pointer (some ⟨w.heap.size, 1, none⟩), Value.int .i64 n, Value.slice (some ⟨w.heap.size + 1 + 1 + 1 + 1, 0, none⟩) n n, Value.slice (some ⟨w.heap.size + 1 + 1 + 1 + 1, 0, none⟩) n n, Value.int .i64 from_, Value.pointer (some ⟨w.heap.size + 1 + 1 + 1 + 1, from_, none⟩), Value.int .i64 i, Value.slice (some ⟨bs, os, none⟩) steps.length cs, Value.int .i64 steps.length, Value.bool true, v30, v31, Value.func (.func fw) #[] capw, Value.slice (some ⟨bs, os, none⟩) steps.length cs, Value.int .i64 i, Value.pointer (some ⟨bs, os + i * 3, none⟩), Value.pointer (some ⟨bs, os + i * 3, none⟩), Value.int .i64 steps[i].s, Value.bool false, v39, v40, v41, v42, v43, v44, v45, v46, v47, v48, v49, v50, v51, v52, v53, v54, v55, v56, v57, v58, v59, v60, v61, Value.agg #[.slice aa la ca, .int .i64 n, .slice am lm cm, .slice ae es.length ce, .slice (some ⟨bf, offf, none⟩) (n + 1) cf], Value.slice (some ⟨bs, os, none⟩) steps.length cs, Value.int .i64 i, Value.pointer (some ⟨bs, os + i * 3, none⟩), Value.pointer (some ⟨bs, os + i * 3, none⟩), Value.int .i64 steps[i].s, Value.func (.func 167) #[] #[.pointer (some ⟨w2.heap.size, 0, none⟩), .pointer (some ⟨w2.heap.size + 1, 0, none⟩)], Value.agg #[.int .i64 x.f, .int .i64 x.e, .int .i64 x.t], v70, v71, v72, v73, v74, v75, v76, v77, v78, v79, v80, v81, v82, v83, v84, v85, v86, v87, v88, v89, v90, v91, v92, v93, v94], defers := [] })
     ?hAx ?assign ?body ?done
    case hI =>
     intro pre W W' row h1 hg hr
     obtain ⟨h1, tag, vs, h2⟩ := h1
     exact ⟨h1, tag, vs, h2.others hg (fun D hD => hI3.marks.lt hD) hI3.below.size hr⟩
    case hAx =>
     intro x a' u W W' row h1 hg hr
     obtain ⟨Bx, h1, h2, h3⟩ := h1
     refine ⟨Bx, h1, (hg.block Bx (Array.getElem?_eq_some_iff.1 h2).1 (fun e => ?_)).trans h2, h3⟩
     obtain ⟨o, ho, hc⟩ := (hr Bx e.symm).2
     rw [h2] at ho
     cases ho
     cases hc
    case assign =>
     intro l pre x W K hx hiW hK
     dsimp only [Ed.val]
     gi_wp2
     refine hK _ _ ((KeepsOthers.alloc _ _).from _) ((Below.refl _ W).alloc ?_ _) ?_ ⟨W.heap.size, ?_, (by repeat (first | with_reducible assumption | (refine yS ?_) | (refine y2E ?_; (first | rfl | (simp; done) | (simp; omega))) | (refine y1l ?_ ?_; (next => first | omega | (simp; done) | (simp; omega))))), rfl⟩
     ·obtain ⟨_, _, _, h2⟩ := hiW; exact h2.below.size
     ·obtain ⟨h1, tag, vs, h2⟩ := hiW; exact ⟨h1, tag, vs, h2.call (y1V _ _)⟩
     ·obtain ⟨_, _, _, h2⟩ := hiW; exact h2.below.size
    case body =>
     rintro l pre x a' W hx hl ⟨hpre, tag, vs, hJ⟩ ⟨Bx, hBx, hbx, rfl⟩
     have hJ2 := hJ.retag hbx
     have hOx : Own W w.heap.size (tagUp tag Bx 5) 5 Bx #[.int .i64 x.f, .int .i64 x.e, .int .i64 x.t] 97 := ⟨hbx, y3Q _ _ _, hBx⟩
     have hxe := y8C hx
     have hxr := Hin.out x hxe
     obtain ⟨hok', hi'⟩ := POk.fold (perm := perm) pre hok hlt (fun y hy => Hin.out y (y8C (hpre y hy)))
     have Hmem : Hid (∀ y ∈ pre ++ [x], y ∈ subOf es steps[i].s) := by
      intro y hy
      rcases List.mem_append.1 hy with h1 | h1
      ·exact hpre y h1
      ·rw [List.mem_singleton.1 h1]; exact hx
     have Hacc : Hid ((pre ++ [x]).foldl (pStep perm i) (seen, steps) = pStep perm i (pre.foldl (pStep perm i) (seen, steps)) x) := by
      show _ = _
      rw [List.foldl_append]; rfl
     clear hpre hx hJ
     generalize pre.foldl (pStep perm i) (seen, steps) = acc at *
     obtain ⟨se, st⟩ := acc
     dsimp only at hJ2 hok' hi'
     have hszW := hJ2.size
     have hBW := hJ2.below.size
     have hBxl := hOx.lt
     have x0 : W.cell? ⟨Bx, 0, none⟩ = some (.int .i64 x.f) := hOx.cell 0
     have x1 : W.cell? ⟨Bx, 1, none⟩ = some (.int .i64 x.e) := hOx.cell 1
     have x2 : W.cell? ⟨Bx, 2, none⟩ = some (.int .i64 x.t) := hOx.cell 2
     have e0 : W.cell? ⟨w.heap.size + 1 + 1 + 1 + 1 + 1, 0, none⟩ = some (.slice (some ⟨w.heap.size + 1 + 1 + 1 + 1, 0, none⟩) n n) := hJ2.eb.cell 0
     have hlen := hok'.len
     have e1 := hJ2.se.cellAt x.t.toNat (by omega)
     have hq : x.t.toNat < se.length := by omega
     clear hlen
     rw [List.getElem?_map, yGe hq, Nat.zero_add, Option.map_some] at e1
     cases hb : se[x.t.toNat]
     ·rw [hb] at e1
      have e2 : W.cell? ⟨w.heap.size + 1, 0, none⟩ = some (.func (.func fp) #[] capp) := hJ2.fp.cell 0
      have Hb := Lib.hid hb
      clear hb
      have hHep : Hid (∀ args W, (callFunc fp args).run Tryz.prog W = .ok (.enter fp args) W) := Hep.out
      cases hpx : perm x
      ·have Hpx := Lib.hid hpx
       clear hpx
       gi_wp2_with fail
       refine ⟨trivial, ?_⟩
       rw [hHep.out, Oper.uponIn_enter]
       refine ⟨fun _ => by decide, ?_⟩
       refine (CallsIn.inRound l (callsIn_wide.2 (Hp.out x W hxe hJ2.below))).mono ?_
       rintro e w4 ⟨he, hb4⟩
       rw [Hpx.out] at he
       subst he
       dsimp only
       gi_wp2
       refine ⟨(y7R hb4), yI (Below.refl _ _) hb4 hJ2.below.size, Hmem.out, tagUp tag Bx 5, vs, ?_⟩
       rw [Hacc.out, show pStep perm i (se, st) x = (se, st) from ?_]
       ·exact hJ2.call hb4
       ·unfold pStep
        rw [if_neg]
        rw [Hpx.out]
        simp
      ·have Hpx := Lib.hid hpx
       clear hpx
       gi_wp2_with fail
       refine ⟨trivial, ?_⟩
       rw [hHep.out, Oper.uponIn_enter]
       refine ⟨fun _ => by decide, ?_⟩
       refine (CallsIn.inRound l (callsIn_wide.2 (Hp.out x W hxe hJ2.below))).mono ?_
       rintro e w4 ⟨he, hb4⟩
       rw [Hpx.out] at he
       subst he
       dsimp only
       have hJ4 := hJ2.call hb4
       have hO4 := hOx.below hb4
       obtain ⟨avs, cvs, rfl⟩ := hJ4.st.val
       clear x0 x1 x2 e0 e1 e2 hJ2 hOx
       have hle := hok'.le
       have hszW4 := hJ4.size
       have hBxl4 := hO4.lt
       have x2 : w4.cell? ⟨Bx, 2, none⟩ = some (.int .i64 x.t) := hO4.cell 2
       have e0 : w4.cell? ⟨w.heap.size + 1 + 1 + 1 + 1 + 1, 0, none⟩ = some (.slice (some ⟨w.heap.size + 1 + 1 + 1 + 1, 0, none⟩) n n) := hJ4.eb.cell 0
       have e1 := hJ4.se.cellAt x.t.toNat (by omega)
       rw [List.getElem?_map, yGe hq, Nat.zero_add, Option.map_some] at e1
       have e2 := hJ4.se.frozenAt x.t.toNat
       obtain ⟨hJ5, t5⟩ := hJ4.setSeen x.t.toNat
       have hO5 := hO4.turn t5 (by decide)
       have y1 : (w4.setCell ⟨w.heap.size + 1 + 1 + 1 + 1, x.t.toNat, none⟩ (.bool true)).cell? ⟨Bx, 1, none⟩ = some (.int .i64 x.e) := hO5.cell 1
       have y2 : (w4.setCell ⟨w.heap.size + 1 + 1 + 1 + 1, x.t.toNat, none⟩ (.bool true)).cell? ⟨Bx, 2, none⟩ = some (.int .i64 x.t) := hO5.cell 2
       have y3 : (w4.setCell ⟨w.heap.size + 1 + 1 + 1 + 1, x.t.toNat, none⟩ (.bool true)).cell? ⟨w.heap.size + 1 + 1 + 1, 0, none⟩ = some (.slice avs st.length cvs) := hJ5.sb.cell 0
       have y4 : (w4.setCell ⟨w.heap.size + 1 + 1 + 1 + 1, x.t.toNat, none⟩ (.bool true)).cell? ⟨bi, 0, none⟩ = some (.int .i64 i) := hJ5.ib.cell 0
       have T5 := Lib.hid t5
       clear t5 hO5 hJ4 hO4
       obtain ⟨i1, hi1, hw0, hw1, hw2⟩ := info_parts Tryz.info_step
       have hJ6 := hJ5.call (y1V _ (.cells #[.int .i64 x.t, .int .i64 i, .int .i64 x.e] 210))
       gi_wp2_with (gi_at_builtin; (refine y8m rfl _ _ 211 rfl 210 i1 (.agg #[.int .i64 0, .int .i64 0, .int .i64 0]) 24 Tryz.underlying211 hi1 hw0 hw1 hw2 rfl rfl hJ6.st (some ⟨_, 0, none⟩) 1 1 [.int .i64 x.t, .int .i64 i, .int .i64 x.e] rfl rfl (by simp) (fun ad e => by cases e; exact y5D _ _ (by simp)) (by simp [Value.oneCell']) (by unfold maxLen; omega) (by omega) hJ6.below.size ?_); intro v6 w6 tag6 hr6 ht6; have hJ7 := hJ6.push (x := ⟨x.t, i, x.e⟩) hr6 ht6; have s6 := hJ6.sb.turn ht6 (by decide); obtain ⟨a6, c6, rfl⟩ := hr6.val; have z0 := s6.cell 0; have z1 := s6.frozen 0; have z2 : w6.cell? ⟨w.heap.size + 1 + 1 + 1, 0, none⟩ = some (.slice avs st.length cvs) := z0; clear z0)
       refine ⟨(y7R hb4).trans ((y8B T5.out).trans ((y7R (y1V _ (.cells #[.int .i64 x.t, .int .i64 i, .int .i64 x.e] 210))).trans ((y8B ht6).trans (y8B (Turn.setCell s6 0 (.slice a6 (st.length + 1) c6)))))), ?_, Hmem.out, tag6, .slice a6 (st.length + 1) c6, ?_⟩
       ·have q1 := yI (Below.refl w.heap.size W) hb4 hBW
        have q2 := y2b q1 T5.out (Nat.le_trans hBW hb4.size)
        have q3 := yI q2 (y1V _ (.cells #[.int .i64 x.t, .int .i64 i, .int .i64 x.e] 210)) (Nat.le_trans hBW q2.size)
        have q4 := y2b q3 ht6 (Nat.le_trans hBW q3.size)
        exact y2b q4 (Turn.setCell s6 0 (.slice a6 (st.length + 1) c6)) (Nat.le_trans hBW q4.size)
       ·rw [Hacc.out, show pStep perm i (se, st) x = (se.set x.t.toNat true, st ++ [⟨x.t, i, x.e⟩]) from ?_]
        ·exact hJ7
        ·unfold pStep
         rw [if_pos]
         dsimp only
         rw [yGe hq, Hb.out, Hpx.out]
         exact ⟨rfl, rfl⟩
     ·rw [hb] at e1
      have Hb := Lib.hid hb
      clear hb
      gi_wp2
      refine ⟨fun _ h => (by cases h), ?_⟩
      gi_wp2
      refine ⟨KeepsFrom.refl _ _, Below.refl _ _, Hmem.out, tagUp tag Bx 5, vs, ?_⟩
      rw [Hacc.out, show pStep perm i (se, st) x = (se, st) from ?_]
      ·exact hJ2
      ·unfold pStep
       rw [if_neg]
       dsimp only
       rw [yGe hq, Hb.out]
       simp
    case done =>
     rintro D W hD ⟨hpre, tag', vs', hW⟩ hd
     have hW2 := hW.mark (fun D' hD' => hI3.marks.lt hD') hD hI3.below.size hd
     have hszW := hW2.size
     have hibl := hW2.ib.lt
     have k2 : W.cell? ⟨bi, 0, none⟩ = some (.int .i64 i) := hW2.ib.cell 0
     have hile := hok.le
     have Hfin := Lib.hid (hW2.newI (i + 1))
     obtain ⟨hok', hi'⟩ := POk.fold (perm := perm) (subOf es steps[i].s) hok hlt (fun y hy => Hin.out y (y8C hy))
     have Hb2 : Hid (bfs (subOf es) want perm (n + 1 - i) i seen steps = bfs (subOf es) want perm (n + 1 - (i + 1)) (i + 1) ((subOf es steps[i].s).foldl (pStep perm i) (seen, steps)).1 ((subOf es steps[i].s).foldl (pStep perm i) (seen, steps)).2) := by
      show _ = _
      rw [show n + 1 - i = n - i + 1 by omega, yaV hlt Hwant.out, show n + 1 - (i + 1) = n - i by omega]
     clear hpre hseq hd hW hW2
     go_wp2_with fail
     refine ⟨?_, ?_⟩
     ·repeat apply Exists.intro
      exact ⟨rfl, Hfin.out, hok', hi', hbfs.out.trans Hb2.out, rfl⟩
     ·unfold ycO
      have Hk := Hk0.out
      simp [Hk, intOf]
      omega
   ·have Hwant := Lib.hid hwant
    clear hwant
    go_wp2_with fail
    rw [hHen.out, Oper.upon_enter]
    refine (Hw.out steps[i].s wr hsr.1 hsr.2 hI.below).mono ?_
    rintro e w1 ⟨he, hb1⟩
    rw [Hwant.out] at he
    subst he
    dsimp only
    have hI1 := hI.call hb1
    clear k0 k1 s0 s1 s2 hI hb1 hbs
    have hsz1 := hI1.size
    have k0 : w1.cell? ⟨bi, 0, none⟩ = some (.int .i64 i) := hI1.ib.cell 0
    have hile := hok.le
    have Hpath : Hid (pathF n es want perm from_ = some (back steps (i + 1) i).reverse) := by
     show _ = _
     unfold pathF
     rw [hbfs.out, show n + 1 - i = n - i + 1 by omega, yag hlt Hwant.out]; rfl
    obtain ⟨i2, hi2, hy0, hy1, hy2⟩ := info_parts Tryz.info_int
    go_wp2_with fail
    go_loopw [13, 14] (fun v k wr' => ∃ (xs : List Int) (kk f : Nat) (tag' : Nat → Nat), k = .int .i64 kk ∧ Row wr' w.heap.size tag' 6 3 1 v xs.length (ints xs) ∧ xs.length + kk ≤ i ∧ kk < f ∧ Hid (back steps (i + 1) i = xs ++ back steps f kk) ∧
     PInv w #[.slice aa la ca, .int .i64 n, .slice am lm cm, .slice ae es.length ce, .slice (some ⟨bf, offf, none⟩) (n + 1) cf] (.func (.func fp) #[] capp) n ds wr' tag' bi i (.slice (some ⟨bs, os, none⟩) steps.length cs) seen steps) (fun _ k _ => (intOf k).toNat)
    case atStart => exact ⟨[], i, i + 1, tag, rfl, Row.nil _ _ _ _ _ _, by simp, by omega, by simp [Hid], hI1⟩
    case round =>
     clear hI1 hsz1 k0
     obtain ⟨xs, kk, f, tag', rfl, hv, hxk, hkf, hbk, hI4⟩ := hrel
     obtain ⟨bs', os', cs', e1, hbs', s0, s1, s2⟩ := hI4.st.at_step kk (by omega)
     cases e1
     have hsz4 := hI4.size
     have k1 : wr.cell? ⟨w.heap.size + 1 + 1 + 1, 0, none⟩ = some (.slice (some ⟨bs, os, none⟩) steps.length cs) := hI4.sb.cell 0
     have hpar := hok.parent kk (by omega)
     obtain ⟨av, cv, rfl⟩ := hv.val
     by_cases hp : 0 ≤ steps[kk].p
     ·obtain ⟨kp, hkp⟩ := Int.eq_ofNat_of_zero_le hp
      have Hnext : Hid (back steps f kk = steps[kk].e :: back steps (f - 1) kp) := by
       show _ = _
       obtain ⟨f', rfl⟩ : ∃ f', f = f' + 1 := ⟨f - 1, by omega⟩
       rw [ycK (by omega) hp, hkp]; rfl
      have hkk : kp < kk := by omega
      rw [hkp] at s1
      have Hkp := Lib.hid hkp
      clear hkp hp hpar
      generalize steps[kk].e = ev at *
      have hv2 := hv.below (y1V wr (.cells #[.int .i64 ev] 3))
      have hI5 := hI4.call (y1V wr (.cells #[.int .i64 ev] 3))
      go_wp2_with (at_builtin; refine y6m rfl _ _ 22 rfl 3 i2 (.int .i64 0) 8 Tryz.underlying22 hi2 hy0 hy1 hy2 rfl rfl hv2 (some ⟨_, 0, none⟩) 1 1 [.int .i64 ev] rfl rfl (by simp) (fun ad e => by cases e; exact y5D _ _ rfl) (by simp [Value.oneCell']) (by unfold maxLen; omega) (by omega) hI5.below.size ?_; intro v6 w6 tag6 hr6 ht6; have hI6 := hI5.turn ht6 (by decide); have q1 : w6.cell? ⟨w.heap.size + 1 + 1 + 1, 0, none⟩ = some (.slice (some ⟨bs, os, none⟩) steps.length cs) := hI6.sb.cell 0; obtain ⟨bs6, os6, cs6, e6, hbs6, r0, r1, r2⟩ := hI6.st.at_step kk (by omega); cases e6; rw [Hkp.out] at r1; clear r0 r2)
      go_roundw
      case rel =>
       refine ⟨xs ++ [ev], kp, f - 1, tag6, rfl, ?_, by simp; omega, by omega, ?_, hI6⟩
       ·have h1 := hr6
        rw [List.length_append]
        simpa [ints] using h1
       ·show _ = _
        rw [hbk.out, Hnext.out]; simp
      case measure => simp [intOf]; omega
     ·have Hend : Hid (back steps f kk = []) := by
       show _ = _
       obtain ⟨f', rfl⟩ : ∃ f', f = f' + 1 := ⟨f - 1, by omega⟩
       exact ydA (by omega) (by omega)
      have hp' : steps[kk].p < 0 := by omega
      go_wp2_with (go_at_call 112; refine (ybg _ xs _ w.heap.size tag' 6 hv (by omega)).mono ?_; rintro e w7 ⟨⟨r, rfl⟩, hv7, ht7⟩)
      refine y8j (hI4.turn ht7 (by decide)).marks (fun w' hq => ⟨.tuple #[.slice av xs.length cv, .bool true], by simp [results, Tryz.results99, go_sem], _, rfl, ?_, (hI4.turn ht7 (by decide)).below.trans hq.below⟩)
      rw [Hpath.out, hbk.out, Hend.out, List.append_nil]
      have h9 := hq.row hv7
      have h10 : Row w' w.heap.size tag' 6 3 1 (.slice av xs.length cv) xs.reverse.length (ints xs.reverse) := by rw [List.length_reverse]; exact h9
      exact ⟨_, rfl, h10.rdI, h10.frs⟩
  ·have hie : i = steps.length := by omega
   have Hpath : Hid (pathF n es want perm from_ = none) := by
    show _ = _
    have := hok.le
    unfold pathF
    rw [hbfs.out, show n + 1 - i = n - i + 1 by omega, ybC (by omega)]; rfl
   clear hie
   obtain ⟨av, cv, rfl⟩ := hI.st.val
   go_wp2_with fail
   refine y8j hI.marks (fun w' hq => ⟨.tuple #[.slice none 0 0, .bool false], by simp [results, Tryz.results99, go_sem], _, rfl, ?_, hI.below.trans hq.below⟩)
   rw [Hpath.out]
   rfl
end Go.Proofs.YtidakgbibobbdaaGreatDoor
namespace Go.Proofs.YtidakgbibobbdaaGreatDoor
open Go.RowKit
theorem y9s {P : Program} {ops : Array Oper} {o : Oper} {a : Act} {K : Act → World → Prop} {Q : Exit → Act → World → Prop} {E : Prop}
  {w : World} {B : Nat} {tag : Nat → Nat} {k : Nat} {sz : Nat} {v : Value} {n : Nat} {cs : List Value} (hgd : o.guard = none) (s x : Operand) (tt : TypeId)
  (ho : o.op = .call { callee := .builtin .append, args := #[s, x], argTypes := #[tt, tt] })
  (e : TypeId) (i : TypeInfo) (z : Value) (bytes : Nat) (ht : P.underlying tt = some (.slice e)) (hi : P.info? e = some i) (hz : i.zero = some z)
  (hsize : i.size = sz) (hby : i.bytes = bytes) (hzs : z.cells.size = sz) (hs : a.eval s = v) (hrow : Row w B tag k e sz v n cs)
  (ao : Option Addr) (m c : Nat) (news : List Value) (hx : a.eval x = .slice ao m c) (hl : news.length = m * sz) (hnone : ao = none → m = 0 ∧ c = 0)
  (hnews : ∀ ad, ao = some ad → ∀ j u, news[j]? = some u → w.cell? (ad.add j) = some u) (h1 : ∀ u ∈ news, u.oneCell' = true)
  (h63 : n + m ≤ maxLen) (hbytes : (n + m) * bytes ≤ 140737488355328) (hB : B ≤ w.heap.size)
  (h : ∀ v' w' tag', Row w' B tag' k e sz v' (n + m) (cs ++ news) → Turn B tag tag' k w w' → K (a.put o.dst v') w') :
  if Region.wanted o (yielded ops a.tmps) = true then Oper.wp P o a w K Q else E := by
 have hw : Region.wanted o (yielded ops a.tmps) = true := by simp [Region.wanted, hgd]
 rw [if_pos hw]
 obtain ⟨v', w', tag', hrun, h2, h3⟩ := y4Z (P := P) (w := w) (ty := o.type) tt e i z bytes ht hi hz hsize hby hzs hrow ao m c news hl hnone hnews h1 h63 hbytes hB
 unfold Oper.wp
 simp [execOp, ho, resolve, invoke, builtin, hs, hx, hrun, Result.andThen]
 exact h v' w' tag' h2 h3
end Go.Proofs.YtidakgbibobbdaaGreatDoor
namespace Go.Proofs.YtidakgbibobbdaaGreatDoor
def inL (es : List Ed) (s : Nat) : List Int := (es.filter fun x => decide (x.t = (s : Int))).map Ed.f
theorem ydC (es : List Ed) (x : Ed) (s : Nat) (h : x.t = (s : Int)) : inL (es ++ [x]) s = inL es s ++ [x.f] := by simp [inL, h]
theorem ycQ (es : List Ed) (x : Ed) (s : Nat) (h : ¬ x.t = (s : Int)) : inL (es ++ [x]) s = inL es s := by simp [inL, h]
theorem ycR (es : List Ed) (s : Nat) : (inL es s).length ≤ es.length := by
 unfold inL; rw [List.length_map]; exact List.length_filter_le _ _
theorem ybD {es : List Ed} {s : Nat} {p : Int} (h : p ∈ inL es s) : ∃ x ∈ es, x.f = p ∧ x.t = (s : Int) := by
 unfold inL at h
 obtain ⟨x, hx, rfl⟩ := List.mem_map.1 h
 obtain ⟨h1, h2⟩ := List.mem_filter.1 hx
 exact ⟨x, h1, rfl, by simpa using h2⟩
def bStep (s : Nat) (acc : List Int × List Int) (p : Int) : List Int × List Int :=
 if acc.1.getD p.toNat 0 < 0 then (acc.1.set p.toNat (acc.1.getD s 0 + 1), acc.2 ++ [p]) else acc
def bwd (inn : Nat → List Int) : Nat → List Int → List Int → List Int
 | 0, ds, _ => ds
 | _ + 1, ds, [] => ds
 | f + 1, ds, s :: q => bwd inn f ((inn s.toNat).foldl (bStep s.toNat) (ds, q)).1 ((inn s.toNat).foldl (bStep s.toNat) (ds, q)).2
def negs (ds : List Int) : Nat := ds.countP fun d => decide (d < 0)
structure BOk (n : Nat) (ds q : List Int) : Prop where
 len : ds.length = n
 lo : ∀ d ∈ ds, -1 ≤ d ∧ d ≤ 1000000 - negs ds
 qr : ∀ s ∈ q, 0 ≤ s ∧ s < n
 nn : ∀ s ∈ q, 0 ≤ ds.getD s.toNat 0
theorem yaX {ds : List Int} {p : Nat} {d : Int} (hp : p < ds.length) (h : ds[p] < 0) (hd : 0 ≤ d) : negs (ds.set p d) + 1 = negs ds := by
 unfold negs
 induction ds generalizing p with
 | nil => simp at hp
 | cons a l ih =>
  cases p with
  | zero =>
   simp only [List.set_cons_zero, List.countP_cons, List.getElem_cons_zero] at h ⊢
   rw [decide_eq_true h, decide_eq_false (by omega)]; simp
  | succ p =>
   simp only [List.set_cons_succ, List.countP_cons]
   have := ih (p := p) (by simpa using hp) (by simpa using h)
   omega
theorem y5S {ds : List Int} {p s : Nat} {d : Int} (h : p ≠ s) : (ds.set p d).getD s 0 = ds.getD s 0 := by
 simp [List.getD_eq_getElem?_getD, List.getElem?_set_ne h]
theorem BOk.step {n s : Nat} {ds q : List Int} (h : BOk n ds q) (hs : s < n) (h0 : 0 ≤ ds.getD s 0) (p : Int) (hp0 : 0 ≤ p) (hp1 : p < n) :
  BOk n (bStep s (ds, q) p).1 (bStep s (ds, q) p).2 ∧ 0 ≤ (bStep s (ds, q) p).1.getD s 0 ∧ 2 * negs (bStep s (ds, q) p).1 + (bStep s (ds, q) p).2.length ≤ 2 * negs ds + q.length := by
 unfold bStep
 dsimp only
 have hpl : p.toNat < ds.length := by rw [h.len]; omega
 split
 ·rename_i hc
  rw [List.getD_eq_getElem?_getD, yGe hpl, Option.getD_some] at hc
  have hsl : s < ds.length := by rw [h.len]; exact hs
  have hds : ds.getD s 0 ∈ ds := by rw [List.getD_eq_getElem?_getD, yGe hsl]; exact List.getElem_mem _
  have hn := yaX hpl hc (d := ds.getD s 0 + 1) (by omega)
  have hne : p.toNat ≠ s := by
   rintro rfl
   rw [List.getD_eq_getElem?_getD, yGe hpl, Option.getD_some] at h0
   omega
  have hset : ∀ t : Nat, t < ds.length → 0 ≤ ds.getD t 0 ∨ t = p.toNat → 0 ≤ (ds.set p.toNat (ds.getD s 0 + 1)).getD t 0 := by
   intro t ht h2
   by_cases e : p.toNat = t
   ·subst e
    rw [List.getD_eq_getElem?_getD, List.getElem?_set_self hpl, Option.getD_some]; omega
   ·rw [y5S e]; exact h2.resolve_right (fun h3 => e h3.symm)
  refine ⟨⟨by simp [h.len], fun d hd => ?_, fun t ht => ?_, fun t ht => ?_⟩, ?_, ?_⟩
  ·dsimp only at hd ⊢
   rcases List.mem_or_eq_of_mem_set hd with h1 | h1
   ·have := h.lo d h1; omega
   ·have := h.lo _ hds; omega
  ·dsimp only at ht
   rcases List.mem_append.1 ht with h1 | h1
   ·exact h.qr t h1
   ·rw [List.mem_singleton.1 h1]; exact ⟨hp0, hp1⟩
  ·dsimp only at ht ⊢
   rcases List.mem_append.1 ht with h1 | h1
   ·exact hset _ (by have := h.qr t h1; rw [h.len]; omega) (.inl (h.nn t h1))
   ·rw [List.mem_singleton.1 h1]; exact hset _ hpl (.inr rfl)
  ·dsimp only
   rw [y5S hne]; exact h0
  ·dsimp only
   rw [List.length_append, List.length_singleton]; omega
 ·exact ⟨h, h0, Nat.le_refl _⟩
theorem BOk.fold {n s : Nat} (hs : s < n) : ∀ (l : List Int) {ds q : List Int}, BOk n ds q → 0 ≤ ds.getD s 0 → (∀ p ∈ l, 0 ≤ p ∧ p < (n : Int)) →
  BOk n (l.foldl (bStep s) (ds, q)).1 (l.foldl (bStep s) (ds, q)).2 ∧ 0 ≤ (l.foldl (bStep s) (ds, q)).1.getD s 0 ∧ 2 * negs (l.foldl (bStep s) (ds, q)).1 + (l.foldl (bStep s) (ds, q)).2.length ≤ 2 * negs ds + q.length
 | [], _, _, h, h0, _ => ⟨h, h0, Nat.le_refl _⟩
 | p :: l, ds, q, h, h0, hp => by
  obtain ⟨h1, h2, h3⟩ := h.step hs h0 p (hp p (List.mem_cons_self ..)).1 (hp p (List.mem_cons_self ..)).2
  obtain ⟨g1, g2, g3⟩ := BOk.fold hs l h1 h2 (fun y hy => hp y (List.mem_cons_of_mem _ hy))
  exact ⟨g1, g2, Nat.le_trans g3 h3⟩
def y2g (n : Nat) (tg : List Int) : List Int := tg.foldl (fun ds (s : Int) => ds.set s.toNat 0) (List.replicate n (-1))
theorem ybh (n : Nat) (l : List Int) (x : Int) : y2g n (l ++ [x]) = (y2g n l).set x.toNat 0 := by simp [y2g]
def y2h (n : Nat) (es : List Ed) (tg : List Int) : List Int := bwd (inL es) (2 * negs (y2g n tg) + tg.length + 1) (y2g n tg) tg
theorem y8T : ∀ (l : List Int) (ds : List Int) (i : Nat), i < ds.length → (∀ s ∈ l, 0 ≤ s) → (l.foldl (fun ds (s : Int) => ds.set s.toNat 0) ds).getD i 0 = if (i : Int) ∈ l then 0 else ds.getD i 0
 | [], ds, i, _, _ => by simp
 | s :: l, ds, i, hi, hs => by
  rw [List.foldl_cons, y8T l (ds.set s.toNat 0) i (by simpa using hi) (fun t ht => hs t (List.mem_cons_of_mem _ ht))]
  have h0 := hs s (List.mem_cons_self ..)
  by_cases h1 : (i : Int) ∈ l
  ·rw [if_pos h1, if_pos (List.mem_cons_of_mem _ h1)]
  ·rw [if_neg h1]
   by_cases h2 : (i : Int) = s
   ·have : s.toNat = i := by omega
    rw [if_pos (by rw [h2]; exact List.mem_cons_self ..), this, List.getD_eq_getElem?_getD, List.getElem?_set_self hi]; rfl
   ·rw [if_neg (by simp [h1, h2]), y5S (by omega)]
theorem y7z : ∀ (l : List Int) (ds : List Int), (l.foldl (fun ds (s : Int) => ds.set s.toNat 0) ds).length = ds.length
 | [], _ => rfl
 | s :: l, ds => by rw [List.foldl_cons, y7z]; simp
theorem y6i (n : Nat) (tg : List Int) : (y2g n tg).length = n := by rw [y2g, y7z]; simp
theorem y7S (n : Nat) (tg : List Int) (h : ∀ s ∈ tg, 0 ≤ s) (i : Nat) (hi : i < n) : (y2g n tg).getD i 0 = if (i : Int) ∈ tg then 0 else -1 := by
 rw [y2g, y8T tg _ i (by simpa using hi) h, List.getD_eq_getElem?_getD, List.getElem?_replicate, if_pos hi]; rfl
theorem y9S (ds : List Int) : negs ds ≤ ds.length := List.countP_le_length
theorem BOk.start (n : Nat) (tg : List Int) (hn : n ≤ 1000000) (h : ∀ s ∈ tg, 0 ≤ s ∧ s < n) : BOk n (y2g n tg) tg := by
 have hl := y6i n tg
 refine ⟨hl, fun d hd => ?_, h, fun s hs => ?_⟩
 ·obtain ⟨i, hi, rfl⟩ := List.getElem_of_mem hd
  have h1 := y7S n tg (fun s hs => (h s hs).1) i (by omega)
  rw [List.getD_eq_getElem?_getD, yGe hi, Option.getD_some] at h1
  have := y9S (y2g n tg)
  rw [h1]
  split <;> omega
 ·have h1 := h s hs
  rw [y7S n tg (fun s hs => (h s hs).1) s.toNat (by omega), if_pos (by rw [Int.toNat_of_nonneg h1.1]; exact hs)]
  exact Int.le_refl 0
theorem BOk.pop {n : Nat} {ds q : List Int} {s : Int} (h : BOk n ds (s :: q)) : BOk n ds q := ⟨h.len, h.lo, fun t ht => h.qr t (List.mem_cons_of_mem _ ht), fun t ht => h.nn t (List.mem_cons_of_mem _ ht)⟩
theorem y6a {es : List Ed} {n s : Nat} (h : ∀ x ∈ es, 0 ≤ x.f ∧ x.f < n ∧ 0 ≤ x.t ∧ x.t < (n : Int)) : ∀ p ∈ inL es s, 0 ≤ p ∧ p < (n : Int) := by
 intro p hp
 obtain ⟨x, hx, rfl, _⟩ := ybD hp
 exact ⟨(h x hx).1, (h x hx).2.1⟩
end Go.Proofs.YtidakgbibobbdaaGreatDoor
namespace Go.Proofs.YtidakgbibobbdaaGreatDoor
open Go.RowKit
structure BInv (w : World) (G : Array Value) (n : Nat) (wr : World) (tag : Nat → Nat) (ivs : List Value) (es : List Ed) : Prop where
 below : Below w.heap.size w wr
 g : Own wr w.heap.size tag 0 w.heap.size G 165
 io : Row wr w.heap.size tag 1 22 1 (.slice (some ⟨w.heap.size + 1, 0, none⟩) n n) n ivs
 inn : ∀ s, s < n → Row wr w.heap.size tag (10 + s) 3 1 (ivs.getD s undef) (inL es s).length (ints (inL es s))
section
variable {w : World} {G : Array Value} {n : Nat} {wr wr' : World} {tag tag' : Nat → Nat} {ivs : List Value} {es : List Ed}
theorem BInv.call (h : BInv w G n wr tag ivs es) (hb : Below wr.heap.size wr wr') : BInv w G n wr' tag ivs es :=
 ⟨yI h.below hb h.below.size, h.g.below hb, h.io.below hb, fun s hs => (h.inn s hs).below hb⟩
theorem BInv.turn {k : Nat} (h : BInv w G n wr tag ivs es) (ht : Turn w.heap.size tag tag' k wr wr') (h1 : 1 < k) (h2 : k < 10) : BInv w G n wr' tag' ivs es :=
 ⟨y2b h.below ht h.below.size, h.g.turn ht (by omega), h.io.turn ht (by omega), fun s hs => (h.inn s hs).turn ht (by omega)⟩
theorem yej (k n : Nat) (h : k < n) : (ints (List.replicate k (-1) ++ List.replicate (n - k) 0)).set k (.int .i64 (-1)) = ints (List.replicate (k + 1) (-1) ++ List.replicate (n - (k + 1)) 0) := by
 apply List.ext_getElem
 ·simp; omega
 ·intro i h1 h2
  rw [List.getElem_set]
  simp only [List.getElem_map, List.getElem_append, List.length_replicate, List.getElem_replicate]
  by_cases e : k = i
  ·subst e; simp
  ·rw [if_neg e]
   by_cases e2 : i < k
   ·rw [dif_pos e2, dif_pos (by omega)]
   ·rw [dif_neg e2, dif_neg (by omega)]
theorem BInv.new {kk : Nat} (h : BInv w G n wr tag ivs es) (o : Obj) : BInv w G n (wr.alloc o) (tagUp tag wr.heap.size kk) ivs es := by
 have hb := y1V wr o
 have ht : Turn w.heap.size tag (tagUp tag wr.heap.size kk) 9 wr (wr.alloc o) := { Turn.below (B := w.heap.size) (tag := tag) (k := 9) hb with tags := fun b hb => y4y hb }
 exact h.turn ht (by decide) (by decide)
theorem BInv.push {x : Ed} {v' : Value} (h : BInv w G n wr tag ivs es) (t : Nat) (hx : x.t = (t : Int)) (htn : t < n) (hr : Row wr' w.heap.size tag' (10 + t) 3 1 v' ((inL es t).length + 1) (ints (inL es t) ++ [.int .i64 x.f])) (ht : Turn w.heap.size tag tag' (10 + t) wr wr') :
  BInv w G n (wr'.setCell ⟨w.heap.size + 1, t, none⟩ v') tag' (ivs.set t v') (es ++ [x]) := by
 have hB : w.heap.size ≤ wr'.heap.size := Nat.le_trans h.below.size ht.size
 have ho := h.io.turn ht (by omega)
 have h1 := ho.set t v'
 rw [Nat.zero_add] at h1
 have hl : ivs.length = n := by have := h.io.1; omega
 refine ⟨y2b (y2b h.below ht h.below.size) h1.2 hB, (h.g.turn ht (by omega)).turn h1.2 (by decide), h1.1, fun s hs => ?_⟩
 by_cases he : s = t
 ·subst he
  rw [ydC es x s hx, List.length_append, List.getD_eq_getElem?_getD, List.getElem?_set_self (by omega), Option.getD_some]
  have h2 := hr.turn h1.2 (k := 10 + s) (by omega)
  simpa [ints] using h2
 ·rw [ycQ es x s (by omega), List.getD_eq_getElem?_getD, List.getElem?_set_ne (by omega), ← List.getD_eq_getElem?_getD]
  exact ((h.inn s hs).turn ht (by omega)).turn h1.2 (by omega)
end
theorem Tryz.info_ints : (Tryz.prog.info? 22).map (fun i => (i.zero, i.size, i.bytes)) = some (some (.slice none 0 0), 1, 24) := by kernel_rfl
set_option maxHeartbeats 4000000 in
theorem yaB (aa am af : Option Addr) (la lm ca cm cf lf : Nat) (ve v : Value) (n : Nat) (es : List Ed) (tg : List Int) (w : World) (hre : RdE w ve es) (hrt : RdI w v tg) (hl : es.length ≤ 1000000) (hlt' : tg.length ≤ 1000000) (hn : n ≤ 1000000)
  (hin : ∀ x ∈ es, 0 ≤ x.f ∧ x.f < n ∧ 0 ≤ x.t ∧ x.t < n) (hit : ∀ s ∈ tg, 0 ≤ s ∧ s < n) :
  Calls Tryz.prog 142 #[.agg #[.slice aa la ca, .int .i64 n, .slice am lm cm, ve, .slice af lf cf], v] w (Ret w fun u w' => RdI w' u (y2h n es tg) ∧ y5W w.heap.size u) := by
 obtain ⟨ae, ce, rfl, hre⟩ := hre
 obtain ⟨at_, ct, rfl, hrt⟩ := hrt
 obtain ⟨i0, hi, hz0, hz1, hz2⟩ := info_parts Tryz.info_ints
 obtain ⟨i1, hi1, hy0, hy1, hy2⟩ := info_parts Tryz.info_int
 have hmk := fun W : World => run_make (P := Tryz.prog) W 34 22 i0 (.slice none 0 0) Tryz.underlying34 hi hz0 .i64 .i64 (n : Int) (n : Int) (by omega) (by omega) (by rw [hz2]; omega) (by omega)
 rw [hz1] at hmk
 simp only [Int.toNat_natCast, Nat.mul_one, Value.cells] at hmk
 have Hin := Lib.hid hin
 have Hit := Lib.hid hit
 clear hin hit
 go_enter Tryz.func142, Tryz.ntmps142
 go_wp2_with fail
 clear hmk
 have hI0 : BInv w #[.slice aa la ca, .int .i64 n, .slice am lm cm, .slice ae es.length ce, .slice af lf cf] n ((w.alloc (.cells #[.slice aa la ca, .int .i64 n, .slice am lm cm, .slice ae es.length ce, .slice af lf cf] 165)).alloc (.cells (madeCells #[.slice none 0 0] n) 22)) (fun b => if b = w.heap.size + 1 then 1 else 0) (List.replicate n (.slice none 0 0)) [] := by
  refine ⟨(by (repeat (first | with_reducible exact Below.refl _ _ | with_reducible exact hre | (with_reducible refine yI ?_ hre (by first | omega | (simp; done) | (simp; omega) | (simp at *; omega))) | (with_reducible refine Below.alloc ?_ (by first | omega | (simp; done) | (simp; omega) | (simp at *; omega)) _) | (with_reducible refine Below.drew ?_) | (with_reducible refine Below.setCell ?_ (by first | omega | (simp; done) | (simp; omega) | (simp at *; omega)) _)))), ⟨(by repeat (first | with_reducible assumption | (refine yS ?_) | (refine y2E ?_; (first | rfl | (simp; done) | (simp; omega))) | (refine y1l ?_ ?_; (next => first | omega | (simp; done) | (simp; omega))))), (by (try dsimp only); (repeat' split); all_goals omega), Nat.le_refl _⟩, ⟨by simp, .inr ⟨_, 0, n, _, rfl, ⟨(by repeat (first | with_reducible assumption | (refine yS ?_) | (refine y2E ?_; (first | rfl | (simp; done) | (simp; omega))) | (refine y1l ?_ ?_; (next => first | omega | (simp; done) | (simp; omega))))), (by (try dsimp only); (repeat' split); all_goals omega), by omega⟩, Nat.le_refl _, by unfold maxLen; omega, by simp [size_madeCells], by simp [toList_madeCells_one]⟩⟩, fun s hs => ?_⟩
  rw [List.getD_eq_getElem?_getD, List.getElem?_replicate, if_pos hs]
  exact Row.nil _ _ _ _ _ _
 go_loopw [24] (fun j wr => ∃ (k : Nat) (tag : Nat → Nat) (ivs : List Value), k ≤ es.length ∧ j = .int .i64 k ∧ BInv w #[.slice aa la ca, .int .i64 n, .slice am lm cm, .slice ae es.length ce, .slice af lf cf] n wr tag ivs (es.take k)) (fun j _ => es.length - (intOf j).toNat)
 case atStart => exact ⟨0, _, _, Nat.zero_le _, rfl, hI0⟩
 case round =>
  clear hI0
  obtain ⟨k, tag, ivs, hk, rfl, hI⟩ := hrel
  by_cases hlt : k < es.length
  ·obtain ⟨b, off, rfl, c0, c1, c2⟩ := hre.at_edge k hlt
   obtain ⟨hx0, hx1, hx2, hx3⟩ := Hin.out es[k] (List.getElem_mem hlt)
   replace c0 := keep0 hI.below c0
   replace c1 := keep0 hI.below c1
   replace c2 := keep0 hI.below c2
   have hbl := World.block_lt_of_cell? wr _ c0
   obtain ⟨t, ht⟩ := Int.eq_ofNat_of_zero_le hx2
   have htn : t < n := by omega
   have Ht := Lib.hid ht
   have hts := y4e es k hlt
   have Hts := Lib.hid hts
   clear hts
   rw [ht] at c2
   clear ht hx2 hx3
   have hil := ycR (es.take k) t
   have hkl : (es.take k).length ≤ k := List.length_take_le _ _
   have hI2 := hI.new (kk := 5) (.cells #[.int .i64 es[k].f, .int .i64 es[k].e, .int .i64 t] 97)
   have hOx := Own.new wr w.heap.size (tagUp tag wr.heap.size 5) 5 #[.int .i64 es[k].f, .int .i64 es[k].e, .int .i64 t] 97 hI.below.size (y3Q _ _ _)
   have hb2 : Below (wr.alloc (.cells #[.int .i64 es[k].f, .int .i64 es[k].e, .int .i64 t] 97)).heap.size _ ((wr.alloc (.cells #[.int .i64 es[k].f, .int .i64 es[k].e, .int .i64 t] 97)).alloc (.cells #[.int .i64 es[k].f] 3)).drew := (y1V _ _).drew
   have hI3 := hI2.call hb2
   have hO3 := hOx.below hb2
   have hiv := hI3.inn t htn
   obtain ⟨av, cv, hav⟩ := hiv.val
   have d0 := hI.io.cellAt t (by omega)
   rw [show ivs[t]? = some (.slice av (inL (es.take k) t).length cv) from by rw [← hav, List.getD_eq_getElem?_getD]; have := hI.io.1; rw [yGe (by omega)]; rfl, Nat.zero_add] at d0
   rw [hav] at hiv
   obtain ⟨_, _, _, e9, hrl, _⟩ := hI.io.addr (by omega)
   cases e9
   have hrl' : w.heap.size < wr.heap.size := by omega
   clear hav
   go_wp2_with fail
   go_region_law (refine y9s rfl _ _ 22 rfl 3 i1 (.int .i64 0) 8 Tryz.underlying22 hi1 hy0 hy1 hy2 rfl rfl hiv (some ⟨_, 0, none⟩) 1 1 [.int .i64 es[k].f] rfl rfl (by simp) (fun ad e => by cases e; exact y5D _ _ (by simp)) (by simp [Value.oneCell']) (by unfold maxLen; omega) (by omega) hI3.below.size ?_; intro v6 w6 tag6 hr6 ht6; obtain ⟨a6, c6, rfl⟩ := hr6.val; have z2 : w6.cell? ⟨wr.heap.size, 2, none⟩ = some (.int .i64 t) := (hO3.turn ht6 (by omega)).cell 2; have z3 := (hI3.io.turn ht6 (by omega)).cellAt t (by omega); have z4 := (hI3.io.turn ht6 (by omega)).frozenAt t; rw [Nat.zero_add] at z3; rw [yGe (by have := hI3.io.1; omega)] at z3)
   all_goals
    have Hfin := Lib.hid (hI3.push t Ht.out htn hr6 ht6)
    clear hI hI2 hI3 hOx hO3 hiv d0 hr6 ht6 z2 z3 z4
    go_wp2_with fail
    go_roundw
    case rel => exact ⟨k + 1, tag6, _, by omega, by go_num, by rw [Hts.out]; exact Hfin.out⟩
    case measure => simp [intOf]; omega
  ·obtain rfl : k = es.length := by omega
   rw [List.take_length] at hI
   have e1 : wr.cell? ⟨w.heap.size, 1, none⟩ = some (.int .i64 n) := hI.g.cell 1
   have hzl := hI.g.lt
   have hzo := hI.io.addr
   go_wp2_with (at_make; refine wpList_make_full _ rfl _ _ 22 rfl wr.heap.size 3 i1 (.int .i64 0) 1 Tryz.underlying22 hi1 hy0 hy1 .i64 .i64 _ _ n rfl rfl (by first | rfl | omega) (by first | rfl | omega) (by rw [hy2]; omega) (by unfold maxLen; omega) (Nat.le_refl _) ?_; intro w3 hown3 hgrow3)
   have hb3 : Below wr.heap.size wr w3 := Below.grown (Below.refl _ _) hgrow3 (Nat.le_refl _) (fun k e => (by cases e))
   obtain ⟨tag2, hI3, hrow⟩ : ∃ tag2, BInv w #[.slice aa la ca, .int .i64 n, .slice am lm cm, .slice ae es.length ce, .slice af lf cf] n w3 tag2 ivs es ∧ Row w3 w.heap.size tag2 2 3 1 (.slice (some ⟨wr.heap.size, 0, none⟩) n n) n (ints (List.replicate n 0)) := by
    have ht : Turn w.heap.size tag (fun b => if b < wr.heap.size then tag b else 2) 9 wr w3 := { Turn.below (B := w.heap.size) (tag := tag) (k := 9) hb3 with tags := fun b hb => if_pos hb }
    refine ⟨_, hI.turn ht (by decide) (by decide), Row.of_own (B' := wr.heap.size) ?_ hI.below.size (fun b hb _ => if_neg (by omega))⟩
    simpa [Value.cells, toList_madeCells_one] using hown3
   clear hI hown3 hgrow3 e1 hzl hzo
   generalize wr.heap.size = r at *
   go_wp2_with fail
   go_loopw [48] (fun j wr => ∃ (k : Nat), k ≤ n ∧ j = .int .i64 k ∧ BInv w #[.slice aa la ca, .int .i64 n, .slice am lm cm, .slice ae es.length ce, .slice af lf cf] n wr tag2 ivs es ∧ Row wr w.heap.size tag2 2 3 1 (.slice (some ⟨r, 0, none⟩) n n) n (ints (List.replicate k (-1) ++ List.replicate (n - k) 0))) (fun j _ => n - (intOf j).toNat)
   case atStart => exact ⟨0, Nat.zero_le _, rfl, hI3, by simpa using hrow⟩
   case round =>
    clear hI3 hrow
    obtain ⟨k, hk, rfl, hI, hrow⟩ := hrel
    by_cases hkn : k < n
    ·have d0 := hrow.cellAt k (by omega)
     rw [Nat.zero_add, yGe (by simp; omega)] at d0
     have d1 := hrow.frozenAt k
     have hst := hrow.set k (.int .i64 (-1))
     rw [Nat.zero_add, show (ints (List.replicate k (-1) ++ List.replicate (n - k) 0)).set k (.int .i64 (-1)) = ints (List.replicate (k + 1) (-1) ++ List.replicate (n - (k + 1)) 0) from yej k n hkn] at hst
     obtain ⟨_, _, _, e9, hrl, _⟩ := hrow.addr (by omega)
     cases e9
     generalize (ints (List.replicate k (-1) ++ List.replicate (n - k) 0))[k]'_ = u at d0
     have Hst := Lib.hid hst
     clear hst
     go_wp2
     go_roundw
     case rel => exact ⟨k + 1, by omega, by go_num, hI.turn Hst.out.2 (by decide) (by decide), Hst.out.1⟩
     case measure => simp [intOf]; omega
    ·obtain rfl : n = k := by omega
     rw [Nat.sub_self, List.replicate_zero, List.append_nil] at hrow
     have hzl := hI.below.size
     have hT : RdI wr (.slice at_ tg.length ct) tg := RdI.mono ⟨at_, ct, rfl, hrt⟩ hI.below
     go_wp2_with (go_at_call 83; refine (ycA _ tg _ hT hlt').mono ?_; rintro e w4 ⟨vq, rfl, hq, hb4⟩)
     obtain ⟨tag3, hI4, hout, hqr⟩ : ∃ tag3, BInv w #[.slice aa la ca, .int .i64 n, .slice am lm cm, .slice ae es.length ce, .slice af lf cf] n w4 tag3 ivs es ∧ Row w4 w.heap.size tag3 2 3 1 (.slice (some ⟨r, 0, none⟩) n n) n (ints (List.replicate n (-1))) ∧ Row w4 w.heap.size tag3 3 3 1 vq tg.length (ints tg) := by
      have ht : Turn w.heap.size tag2 (fun b => if b < wr.heap.size then tag2 b else 3) 9 wr w4 := { Turn.below (B := w.heap.size) (tag := tag2) (k := 9) hb4 with tags := fun b hb => if_pos hb }
      exact ⟨_, hI.turn ht (by decide) (by decide), hrow.turn ht (by decide), Row.of_own (B' := wr.heap.size) hq hI.below.size (fun b hb _ => if_neg (by omega))⟩
     clear hI hrow hq hT hb4 hzl
     obtain ⟨aq, cq, rfl⟩ := hqr.val
     go_wp2_with fail
     go_loopw [59] (fun j wr => ∃ (k : Nat), k ≤ tg.length ∧ j = .int .i64 k ∧ BInv w #[.slice aa la ca, .int .i64 n, .slice am lm cm, .slice ae es.length ce, .slice af lf cf] n wr tag3 ivs es ∧ Row wr w.heap.size tag3 2 3 1 (.slice (some ⟨r, 0, none⟩) n n) n (ints (y2g n (tg.take k))) ∧ Row wr w.heap.size tag3 3 3 1 (.slice aq tg.length cq) tg.length (ints tg)) (fun j _ => tg.length - (intOf j).toNat)
     case atStart => exact ⟨0, Nat.zero_le _, rfl, hI4, by simpa [y2g] using hout, hqr⟩
     case round =>
      clear hI4 hout hqr
      obtain ⟨k, hk, rfl, hI, hout, hqr⟩ := hrel
      by_cases hkn : k < tg.length
      ·obtain ⟨b, off, rfl, c0⟩ := hrt.at_int k hkn
       replace c0 := keep0 hI.below c0
       obtain ⟨hx0, hx1⟩ := Hit.out tg[k] (List.getElem_mem hkn)
       have d0 := hout.cellAt tg[k].toNat (by omega)
       rw [Nat.zero_add, yGe (by have := hout.1; omega)] at d0
       have d1 := hout.frozenAt tg[k].toNat
       have hst := hout.set tg[k].toNat (.int .i64 0)
       rw [Nat.zero_add, show (ints (y2g n (tg.take k))).set tg[k].toNat (.int .i64 0) = ints (y2g n (tg.take (k + 1))) from by rw [y4e tg k hkn, ybh]; exact (List.map_set ..).symm] at hst
       obtain ⟨_, _, _, e9, hrl, _⟩ := hout.addr (by omega)
       cases e9
       generalize (ints (y2g n (tg.take k)))[tg[k].toNat]'_ = u at d0
       have Hst := Lib.hid hst
       clear hst
       go_wp2
       go_roundw
       case rel => exact ⟨k + 1, by omega, by go_num, hI.turn Hst.out.2 (by decide) (by decide), Hst.out.1, hqr.turn Hst.out.2 (by decide)⟩
       case measure => simp [intOf]; omega
      ·rw [List.take_of_length_le (by omega)] at hout
       have hok0 := BOk.start n tg hn Hit.out
       go_wp2_with fail
       go_loopg [10] (2 * negs (y2g n tg) + tg.length) (fun g q wr => ∃ (tag : Nat → Nat) (f : Nat) (ds qs : List Int), g < f ∧ g ≤ 3000000 ∧ g = 2 * negs ds + qs.length ∧ BInv w #[.slice aa la ca, .int .i64 n, .slice am lm cm, .slice ae es.length ce, .slice af lf cf] n wr tag ivs es ∧ Row wr w.heap.size tag 2 3 1 (.slice (some ⟨r, 0, none⟩) n n) n (ints ds) ∧ Row wr w.heap.size tag 3 3 1 q qs.length (ints qs) ∧ BOk n ds qs ∧ y2h n es tg = bwd (inL es) f ds qs)
       case atStart => exact ⟨tag3, _, _, tg, Nat.lt_succ_self _, by have := y9S (y2g n tg); have := y6i n tg; omega, rfl, hI, hout, hqr, hok0, rfl⟩
       case round =>
        clear hI hout hqr hok0
        obtain ⟨tag, f, ds, qs, hgf, hg3, hg, hI, hout, hqr, hok, hbk⟩ := hrel
        obtain ⟨aq, cq, rfl⟩ := hqr.val
        cases qs with
        | nil =>
         simp only [List.length_nil] at hqr ⊢
         have Hbk := Lib.hid (show y2h n es tg = ds by rw [hbk]; cases f <;> rfl)
         clear hbk
         go_wp2
         go_ret
         refine ⟨_, rfl, ?_, hI.below⟩
         rw [Hbk.out]
         have hle := hok.len
         subst hle
         exact ⟨hout.rdI, hout.frs⟩
        | cons s q =>
         obtain ⟨f', rfl⟩ : ∃ f', f = f' + 1 := ⟨f - 1, by omega⟩
         have hsr := hok.qr s (List.mem_cons_self ..)
         have hsn := hok.nn s (List.mem_cons_self ..)
         obtain ⟨t, rfl⟩ := Int.eq_ofNat_of_zero_le hsr.1
         have htn : t < n := by omega
         rw [Int.toNat_natCast] at hsn
         obtain ⟨bq, oq, cq', e9, hbq, _, c0⟩ := hqr.at_int 0 (by simp)
         cases e9
         simp only [List.getElem_cons_zero, Nat.add_zero, List.length_cons] at c0 hqr ⊢
         obtain ⟨ht1, ht2⟩ := hqr.tail
         have hiv := hI.inn t htn
         obtain ⟨av, cv, hav⟩ := hiv.val
         have hil := ycR es t
         have d0 := hI.io.cellAt t (by omega)
         rw [show ivs[t]? = some (.slice av (inL es t).length cv) from by rw [← hav, List.getD_eq_getElem?_getD]; have := hI.io.1; rw [yGe (by omega)]; rfl, Nat.zero_add] at d0
         have hfold := BOk.fold htn (inL es t) hok.pop hsn (y6a Hin.out)
         have Hbk : Hid (y2h n es tg = bwd (inL es) f' ((inL es t).foldl (bStep t) (ds, q)).1 ((inL es t).foldl (bStep t) (ds, q)).2) := hbk
         have Hok := Lib.hid hok
         have hgl := hI.below.size
         have hqlen : q.length ≤ 3000000 := by simp at hg; omega
         have Hav := Lib.hid hav
         have Hg := Lib.hid hg
         clear hbk hok hqr hiv hg hav
         obtain ⟨hf1, hf2, hf3⟩ := hfold
         have Hf1 := Lib.hid hf1
         have hrl := hout.addr (by omega)
         obtain ⟨_, _, _, e8, hrl, hrB, _⟩ := hrl
         cases e8
         by_cases hc1 : cq = 1
         all_goals
          first | (have hq2 := ht1 hc1; subst hc1; simp only [Nat.sub_self] at hq2) | (have hq2 := ht2 hc1)
          clear ht1 ht2
          go_wp2_with fail
          go_loopw [10, 80] (fun qv j wr => ∃ (k : Nat) (tag' : Nat → Nat), k ≤ (inL es t).length ∧ j = .int .i64 k ∧ BInv w #[.slice aa la ca, .int .i64 n, .slice am lm cm, .slice ae es.length ce, .slice af lf cf] n wr tag' ivs es ∧
           Row wr w.heap.size tag' 2 3 1 (.slice (some ⟨r, 0, none⟩) n n) n (ints (((inL es t).take k).foldl (bStep t) (ds, q)).1) ∧ Row wr w.heap.size tag' 3 3 1 qv (((inL es t).take k).foldl (bStep t) (ds, q)).2.length (ints (((inL es t).take k).foldl (bStep t) (ds, q)).2)) (fun _ j _ => (inL es t).length - (intOf j).toNat)
          case atStart => exact ⟨0, tag, Nat.zero_le _, rfl, hI, hout, hq2⟩
          case round =>
           clear hI hout hq2 d0 c0 hrl
           obtain ⟨k, tag', hk, rfl, hI, hout, hqr⟩ := hrel
           by_cases hkn : k < (inL es t).length
           ·have hpr := y6a Hin.out (inL es t)[k] (List.getElem_mem hkn)
            obtain ⟨hok', hsn', hms⟩ := BOk.fold htn ((inL es t).take k) Hok.out.pop hsn (fun p hp => y6a Hin.out p (List.mem_of_mem_take hp))
            have Hstep : Hid (((inL es t).take (k + 1)).foldl (bStep t) (ds, q) = bStep t (((inL es t).take k).foldl (bStep t) (ds, q)) (inL es t)[k]) := by
             show _ = _
             rw [y4e _ k hkn, List.foldl_append]; rfl
            have hqb : (((inL es t).take k).foldl (bStep t) (ds, q)).2.length ≤ 3000000 := by have := Hg.out; simp at this; omega
            clear hms
            generalize ((inL es t).take k).foldl (bStep t) (ds, q) = acc at *
            obtain ⟨ds2, q2⟩ := acc
            dsimp only at hout hqr hok' hsn' hqb
            have hiv := hI.inn t htn
            rw [Hav.out] at hiv
            obtain ⟨bi, oi, ci, e7, hbi, _, c1⟩ := hiv.at_int k hkn
            cases e7
            clear hiv
            generalize hp : (inL es t)[k] = p at *
            clear hp
            obtain ⟨pn, rfl⟩ := Int.eq_ofNat_of_zero_le hpr.1
            have hpn : pn < n := by omega
            have hds2 := hok'.len
            have l1 : pn < ds2.length := by omega
            have l2 : t < ds2.length := by omega
            have o1 := hout.cellAt pn (by omega)
            rw [List.getElem?_map, yGe l1, Nat.zero_add, Option.map_some] at o1
            have o2 := hout.cellAt t (by omega)
            rw [List.getElem?_map, yGe l2, Nat.zero_add, Option.map_some] at o2
            have o3 := hout.frozenAt pn
            obtain ⟨_, _, _, e8, hrl, hrB', _⟩ := hout.addr (by omega)
            cases e8
            obtain ⟨aq2, cq2, rfl⟩ := hqr.val
            have hlo := hok'.lo ds2[t] (List.getElem_mem l2)
            have hge : 0 ≤ ds2[t] := by rw [List.getD_eq_getElem?_getD, yGe l2] at hsn'; exact hsn'
            clear hds2 hsn' hok' hpr
            by_cases hneg : ds2[pn] < 0
            ·have Hb : Hid (bStep t (ds2, q2) pn = (ds2.set pn (ds2[t] + 1), q2 ++ [(pn : Int)])) := by
              show _ = _
              unfold bStep
              dsimp only
              rw [Int.toNat_natCast, List.getD_eq_getElem?_getD, yGe l1, Option.getD_some, if_pos hneg, List.getD_eq_getElem?_getD, yGe l2, Option.getD_some]
             have hst := hout.set pn (.int .i64 (ds2[t] + 1))
             rw [Nat.zero_add, show (ints ds2).set pn (.int .i64 (ds2[t] + 1)) = ints (ds2.set pn (ds2[t] + 1)) from (List.map_set ..).symm] at hst
             have hbA := y1V (wr.setCell ⟨r, pn, none⟩ (.int .i64 (ds2[t] + 1))) (.cells #[.int .i64 pn] 3)
             have hI2 := (hI.turn hst.2 (by decide) (by decide)).call hbA
             have hq3 := (hqr.turn hst.2 (by decide)).below hbA
             have ho3 := hst.1.below hbA
             clear hbA hst hI hout hqr
             generalize ds2[t] = dt at *
             go_wp2_with (at_builtin; refine y6m rfl _ _ 22 rfl 3 i1 (.int .i64 0) 8 Tryz.underlying22 hi1 hy0 hy1 hy2 rfl rfl hq3 (some ⟨_, 0, none⟩) 1 1 [.int .i64 pn] rfl rfl (by simp) (fun ad e => by cases e; exact y5D _ _ (by simp)) (by simp [Value.oneCell']) (by unfold maxLen; omega) (by omega) hI2.below.size ?_; intro v6 w6 tag6 hr6 ht6; have Hr6 := Lib.hid hr6; clear hr6)
             go_roundw
             case rel =>
              refine ⟨k + 1, tag6, by omega, by go_num, hI2.turn ht6 (by decide) (by decide), ?_, ?_⟩
              ·rw [Hstep.out, Hb.out]; exact ho3.turn ht6 (by decide)
              ·rw [Hstep.out, Hb.out, List.length_append, List.length_singleton]
               simpa [ints] using Hr6.out
             case measure => simp [intOf]; omega
            ·have Hb : Hid (bStep t (ds2, q2) pn = (ds2, q2)) := by
              show _ = _
              unfold bStep
              dsimp only
              rw [Int.toNat_natCast, List.getD_eq_getElem?_getD, yGe l1, Option.getD_some, if_neg hneg]
             have hneg' : 0 ≤ ds2[pn] := by omega
             clear hneg
             generalize ds2[t] = dt at *
             generalize ds2[pn] = dp at *
             go_wp2
             go_roundw
             case rel => exact ⟨k + 1, tag', by omega, by go_num, hI, by rw [Hstep.out, Hb.out]; exact hout, by rw [Hstep.out, Hb.out]; exact hqr⟩
             case measure => simp [intOf]; omega
           ·rw [List.take_of_length_le (by omega)] at hout hqr
            obtain ⟨aq2, cq2, rfl⟩ := hqr.val
            clear hf1
            go_wp2_with fail
            go_roundg (2 * negs ((inL es t).foldl (bStep t) (ds, q)).1 + ((inL es t).foldl (bStep t) (ds, q)).2.length)
            case measure => have := Hg.out; simp at this; omega
            case rel => exact ⟨tag', f', _, _, by have := Hg.out; simp at this; omega, by have := Hg.out; simp at this; omega, rfl, hI, hout, hqr, Hf1.out, Hbk.out⟩
theorem y5T {n : Int} : ∀ {p : Option Int} {xs : List Int}, yj n p xs = 0 → ∀ x ∈ xs, 0 ≤ x ∧ x < n
 | _, [], _, x, hx => by cases hx
 | p, y :: ys, h, x, hx => by
  rw [yj] at h
  split at h
  ·cases h
  ·rename_i h1
   split at h
   ·cases h
   ·rcases List.mem_cons.1 hx with rfl | h2
    ·omega
    ·exact y5T h x h2
theorem y9t {al : List Int} {n : Int} : ∀ {p : Option Ed} {xs : List Ed}, edErr al n p xs = 0 → ∀ x ∈ xs, 0 ≤ x.f ∧ x.f < n ∧ 0 ≤ x.t ∧ x.t < n
 | _, [], _, x, hx => by cases hx
 | p, y :: ys, h, x, hx => by
  rw [edErr] at h
  split at h
  ·cases h
  ·rename_i h1
   split at h
   ·cases h
   ·split at h
    ·cases h
    ·rcases List.mem_cons.1 hx with rfl | h2
     ·omega
     ·exact y9t h x h2
structure Aut.Ok (a : Aut) : Prop where
 n0 : 0 ≤ a.n
 n1 : a.n ≤ 4096
 ms : ∀ s ∈ a.ms, 0 ≤ s ∧ s < a.n
 es : ∀ x ∈ a.es, 0 ≤ x.f ∧ x.f < a.n ∧ 0 ≤ x.t ∧ x.t < a.n
theorem Aut.ok_of {a : Aut} (h : a.err = 0) : a.Ok := by
 unfold Aut.err at h
 split at h
 ·rename_i h1; rw [h] at h1; cases h1
 ·split at h
  ·cases h
  ·split at h
   ·cases h
   ·split at h
    ·rename_i h1; rw [h] at h1; cases h1
    ·rename_i h1 h2 h3 h4
     have h5 : yj a.n none a.ms = 0 := by simpa using h4
     exact ⟨by omega, by omega, y5T h5, y9t h⟩
theorem y6Y (aa am ae : Option Addr) (la lm le ca cm ce : Nat) (n : Int) (v : Value) (xs : List Int) (w : World) (hr : RdI w v xs) (hl : xs.length ≤ 1000000) :
  Calls Tryz.prog 96 #[.agg #[.slice aa la ca, .int .i64 n, .slice am lm cm, .slice ae le ce], v] w (Ret w fun u _ => u = .int .i64 (yj n none xs)) := by
 go_enter Tryz.func96, Tryz.ntmps96
 go_wp2_with (go_at_call 143; ((with_reducible refine (yaA _ _ _ _ (hr.mono (by (repeat (first | with_reducible exact Below.refl _ _ | with_reducible exact hr | (with_reducible refine yI ?_ hr (by first | omega | (simp; done) | (simp; omega) | (simp at *; omega))) | (with_reducible refine Below.alloc ?_ (by first | omega | (simp; done) | (simp; omega) | (simp at *; omega)) _) | (with_reducible refine Below.drew ?_) | (with_reducible refine Below.setCell ?_ (by first | omega | (simp; done) | (simp; omega) | (simp at *; omega)) _))))) hl).mono ?_); rintro e w1 ⟨rfl, rfl⟩))
 go_ret
 exact ⟨_, rfl, rfl, (by (repeat (first | with_reducible exact Below.refl _ _ | with_reducible exact hr | (with_reducible refine yI ?_ hr (by first | omega | (simp; done) | (simp; omega) | (simp at *; omega))) | (with_reducible refine Below.alloc ?_ (by first | omega | (simp; done) | (simp; omega) | (simp at *; omega)) _) | (with_reducible refine Below.drew ?_) | (with_reducible refine Below.setCell ?_ (by first | omega | (simp; done) | (simp; omega) | (simp at *; omega)) _))))⟩
theorem box4 {w w1 : World} {c0 c1 c2 c3 : Value} {t : TypeId} (hb : Below (w.alloc (.cells #[c0, c1, c2, c3] t)).heap.size (w.alloc (.cells #[c0, c1, c2, c3] t)) w1) :
  w1.cell? ⟨w.heap.size, 0, none⟩ = some c0 ∧ w1.cell? ⟨w.heap.size, 1, none⟩ = some c1 ∧ w1.cell? ⟨w.heap.size, 2, none⟩ = some c2 ∧ w1.cell? ⟨w.heap.size, 3, none⟩ = some c3 ∧ w.heap.size < w1.heap.size :=
 ⟨keep0 hb (by simp [go_sem]), keep0 hb (by simp [go_sem]), keep0 hb (by simp [go_sem]), keep0 hb (by simp [go_sem]), by have := hb.size; simp at this; omega⟩
theorem box4' {w w0 w1 : World} {c0 c1 c2 c3 : Value} (h : w0.cell? ⟨w.heap.size, 0, none⟩ = some c0 ∧ w0.cell? ⟨w.heap.size, 1, none⟩ = some c1 ∧ w0.cell? ⟨w.heap.size, 2, none⟩ = some c2 ∧ w0.cell? ⟨w.heap.size, 3, none⟩ = some c3 ∧ w.heap.size < w0.heap.size) (hb : Below w0.heap.size w0 w1) :
  w1.cell? ⟨w.heap.size, 0, none⟩ = some c0 ∧ w1.cell? ⟨w.heap.size, 1, none⟩ = some c1 ∧ w1.cell? ⟨w.heap.size, 2, none⟩ = some c2 ∧ w1.cell? ⟨w.heap.size, 3, none⟩ = some c3 ∧ w.heap.size < w1.heap.size :=
 ⟨keep0 hb h.1, keep0 hb h.2.1, keep0 hb h.2.2.1, keep0 hb h.2.2.2.1, Nat.lt_of_lt_of_le h.2.2.2.2 hb.size⟩
def err2 (a b : Int) : Int := if a = 0 then b else a
def corea (a : Aut) : List Int := listL ((y2h a.n.toNat a.es a.ms).map fun d => decide (0 ≤ d))
theorem ycS (be : Nat) (v : Value) (fl : List Bool) (s : Int) (w : World) (hb : w.cell? ⟨be, 0, none⟩ = some v) (hf : RdB w v fl) (h0 : 0 ≤ s) (h1 : s < fl.length) (hl : fl.length ≤ 1000000) :
  Calls Tryz.prog 100 #[.int .i64 s, .pointer (some ⟨be, 0, none⟩)] w fun e w' => e = .returned (.bool (fl.getD s.toNat false)) ∧ Below w.heap.size w w' := by
 obtain ⟨a, cap, rfl, hr⟩ := hf
 obtain ⟨b, off, rfl, hc⟩ := hr.at_bool s.toNat (by omega)
 have hg : fl.getD s.toNat false = fl[s.toNat] := by rw [List.getD_eq_getElem?_getD, yGe (by omega)]; rfl
 rw [hg]
 clear hg
 go_enter Tryz.func100, Tryz.ntmps100
 go_wp2
 go_ret
 exact ⟨rfl, Below.refl _ _⟩
theorem ycT (be : Nat) (v : Value) (fl : List Bool) (x : Ed) (w : World) (hb : w.cell? ⟨be, 0, none⟩ = some v) (hf : RdB w v fl) (h0 : 0 ≤ x.t) (h1 : x.t < fl.length) (hl : fl.length ≤ 1000000) :
  Calls Tryz.prog 101 #[x.val, .pointer (some ⟨be, 0, none⟩)] w fun e w' => e = .returned (.bool (fl.getD x.t.toNat false)) ∧ Below w.heap.size w w' := by
 obtain ⟨a, cap, rfl, hr⟩ := hf
 obtain ⟨b, off, rfl, hc⟩ := hr.at_bool x.t.toNat (by omega)
 have hbl := World.block_lt_of_cell? w _ hb
 have hbl2 := World.block_lt_of_cell? w _ hc
 dsimp only at hbl hbl2
 have hg : fl.getD x.t.toNat false = fl[x.t.toNat] := by rw [List.getD_eq_getElem?_getD, yGe (by omega)]; rfl
 rw [hg]
 clear hg
 dsimp only [Ed.val]
 go_enter Tryz.func101, Tryz.ntmps101
 go_wp2
 go_ret
 exact ⟨rfl, (by (repeat (first | with_reducible exact Below.refl _ _ | with_reducible exact hb | (with_reducible refine yI ?_ hb (by first | omega | (simp; done) | (simp; omega) | (simp at *; omega))) | (with_reducible refine Below.alloc ?_ (by first | omega | (simp; done) | (simp; omega) | (simp at *; omega)) _) | (with_reducible refine Below.drew ?_) | (with_reducible refine Below.setCell ?_ (by first | omega | (simp; done) | (simp; omega) | (simp at *; omega)) _))))⟩
structure RBox (w : World) (aa am ae : Option Addr) (la lm le ca cm ce n : Nat) (v44 v47 : Value) (F1 F2 : List Bool) (l : Array Bool) (u43 u44 u45 u46 u47 u48 u15 u16 : Value) (tag : Nat → Nat) (W : World) : Prop where
 bel : Below w.heap.size w W
 box : Box4 W tag w.heap.size (.slice aa la ca) (.int .i64 n) (.slice am lm cm) (.slice ae le ce)
 s43 : l.getD 0 false = true → u43 = .agg #[.slice aa la ca, .int .i64 n, .slice am lm cm, .slice ae le ce]
 s44 : l.getD 1 false = true → u44 = v44
 s45 : l.getD 2 false = true → Row W w.heap.size tag 3 4 1 u45 n (bools F1)
 s46 : l.getD 3 false = true → u46 = .agg #[.slice aa la ca, .int .i64 n, .slice am lm cm, .slice ae le ce]
 s47 : l.getD 4 false = true → u47 = v47
 s48 : l.getD 5 false = true → Row W w.heap.size tag 4 4 1 u48 n (bools F2)
 s15 : l.getD 6 false = true → ∃ b, u15 = .pointer (some ⟨b, 0, none⟩) ∧ Own W w.heap.size tag 1 b #[if l.getD 8 false = true then u45 else .slice none 0 0] 118
 s16 : l.getD 7 false = true → ∃ b, u16 = .pointer (some ⟨b, 0, none⟩) ∧ Own W w.heap.size tag 2 b #[if l.getD 9 false = true then u48 else .slice none 0 0] 118
 o8 : l.getD 8 false = true → l.getD 2 false = true ∧ l.getD 6 false = true
 o9 : l.getD 9 false = true → l.getD 5 false = true ∧ l.getD 7 false = true
theorem RBox.start {w : World} {aa am ae : Option Addr} {la lm le ca cm ce n : Nat} {v44 v47 : Value} {F1 F2 : List Bool} {m : Nat} {u43 u44 u45 u46 u47 u48 u15 u16 : Value} {tag : Nat → Nat} {W : World} (hb : Below w.heap.size w W) (hx : Box4 W tag w.heap.size (.slice aa la ca) (.int .i64 n) (.slice am lm cm) (.slice ae le ce)) :
  RBox w aa am ae la lm le ca cm ce n v44 v47 F1 F2 (Array.replicate m false) u43 u44 u45 u46 u47 u48 u15 u16 tag W := by
 have h : ∀ j, (Array.replicate m false).getD j false = true → False := by
  intro j
  rw [Array.getD_eq_getD_getElem?, Array.getElem?_replicate]
  split <;> simp
 exact ⟨hb, hx, fun e => (h _ e).elim, fun e => (h _ e).elim, fun e => (h _ e).elim, fun e => (h _ e).elim, fun e => (h _ e).elim, fun e => (h _ e).elim, fun e => (h _ e).elim, fun e => (h _ e).elim, fun e => (h _ e).elim, fun e => (h _ e).elim⟩
section
variable {w : World} {aa am ae : Option Addr} {la lm le ca cm ce n : Nat} {v44 v47 : Value} {F1 F2 : List Bool} {l : Array Bool} {u43 u44 u45 u46 u47 u48 u15 u16 : Value} {tag : Nat → Nat} {W W' : World}
theorem RBox.op0 (hI : RBox w aa am ae la lm le ca cm ce n v44 v47 F1 F2 l u43 u44 u45 u46 u47 u48 u15 u16 tag W) (hl : ∀ j, j < 10 → (l.setIfInBounds 0 true).getD j false = (j == 0 || l.getD j false))  :
  RBox w aa am ae la lm le ca cm ce n v44 v47 F1 F2 (l.setIfInBounds 0 true) (.agg #[.slice aa la ca, .int .i64 n, .slice am lm cm, .slice ae le ce]) u44 u45 u46 u47 u48 u15 u16 tag W := by
 refine ⟨hI.bel, hI.box, ?_, ?_, ?_, ?_, ?_, ?_, ?_, ?_, ?_, ?_⟩
 ·exact fun _ => rfl
 ·exact fun h => (hI.s44 (by rwa [up_ne hl 1 (by decide) rfl] at h))
 ·exact fun h => (hI.s45 (by rwa [up_ne hl 2 (by decide) rfl] at h))
 ·exact fun h => (hI.s46 (by rwa [up_ne hl 3 (by decide) rfl] at h))
 ·exact fun h => (hI.s47 (by rwa [up_ne hl 4 (by decide) rfl] at h))
 ·exact fun h => (hI.s48 (by rwa [up_ne hl 5 (by decide) rfl] at h))
 ·exact fun h => by
   obtain ⟨b, hb, ho⟩ := (hI.s15 (by rwa [up_ne hl 6 (by decide) rfl] at h))
   rw [up_ne hl 8 (by decide) rfl]
   exact ⟨b, hb, ho⟩
 ·exact fun h => by
   obtain ⟨b, hb, ho⟩ := (hI.s16 (by rwa [up_ne hl 7 (by decide) rfl] at h))
   rw [up_ne hl 9 (by decide) rfl]
   exact ⟨b, hb, ho⟩
 ·exact fun h => by
   rw [up_ne hl 8 (by decide) rfl] at h
   have := hI.o8 h
   exact ⟨by rw [hl 2 (by decide), this.1, Bool.or_true], by rw [hl 6 (by decide), this.2, Bool.or_true]⟩
 ·exact fun h => by
   rw [up_ne hl 9 (by decide) rfl] at h
   have := hI.o9 h
   exact ⟨by rw [hl 5 (by decide), this.1, Bool.or_true], by rw [hl 7 (by decide), this.2, Bool.or_true]⟩
theorem RBox.op1 (hI : RBox w aa am ae la lm le ca cm ce n v44 v47 F1 F2 l u43 u44 u45 u46 u47 u48 u15 u16 tag W) (hl : ∀ j, j < 10 → (l.setIfInBounds 1 true).getD j false = (j == 1 || l.getD j false))  :
  RBox w aa am ae la lm le ca cm ce n v44 v47 F1 F2 (l.setIfInBounds 1 true) u43 v44 u45 u46 u47 u48 u15 u16 tag W := by
 refine ⟨hI.bel, hI.box, ?_, ?_, ?_, ?_, ?_, ?_, ?_, ?_, ?_, ?_⟩
 ·exact fun h => (hI.s43 (by rwa [up_ne hl 0 (by decide) rfl] at h))
 ·exact fun _ => rfl
 ·exact fun h => (hI.s45 (by rwa [up_ne hl 2 (by decide) rfl] at h))
 ·exact fun h => (hI.s46 (by rwa [up_ne hl 3 (by decide) rfl] at h))
 ·exact fun h => (hI.s47 (by rwa [up_ne hl 4 (by decide) rfl] at h))
 ·exact fun h => (hI.s48 (by rwa [up_ne hl 5 (by decide) rfl] at h))
 ·exact fun h => by
   obtain ⟨b, hb, ho⟩ := (hI.s15 (by rwa [up_ne hl 6 (by decide) rfl] at h))
   rw [up_ne hl 8 (by decide) rfl]
   exact ⟨b, hb, ho⟩
 ·exact fun h => by
   obtain ⟨b, hb, ho⟩ := (hI.s16 (by rwa [up_ne hl 7 (by decide) rfl] at h))
   rw [up_ne hl 9 (by decide) rfl]
   exact ⟨b, hb, ho⟩
 ·exact fun h => by
   rw [up_ne hl 8 (by decide) rfl] at h
   have := hI.o8 h
   exact ⟨by rw [hl 2 (by decide), this.1, Bool.or_true], by rw [hl 6 (by decide), this.2, Bool.or_true]⟩
 ·exact fun h => by
   rw [up_ne hl 9 (by decide) rfl] at h
   have := hI.o9 h
   exact ⟨by rw [hl 5 (by decide), this.1, Bool.or_true], by rw [hl 7 (by decide), this.2, Bool.or_true]⟩
theorem RBox.op3 (hI : RBox w aa am ae la lm le ca cm ce n v44 v47 F1 F2 l u43 u44 u45 u46 u47 u48 u15 u16 tag W) (hl : ∀ j, j < 10 → (l.setIfInBounds 3 true).getD j false = (j == 3 || l.getD j false))  :
  RBox w aa am ae la lm le ca cm ce n v44 v47 F1 F2 (l.setIfInBounds 3 true) u43 u44 u45 (.agg #[.slice aa la ca, .int .i64 n, .slice am lm cm, .slice ae le ce]) u47 u48 u15 u16 tag W := by
 refine ⟨hI.bel, hI.box, ?_, ?_, ?_, ?_, ?_, ?_, ?_, ?_, ?_, ?_⟩
 ·exact fun h => (hI.s43 (by rwa [up_ne hl 0 (by decide) rfl] at h))
 ·exact fun h => (hI.s44 (by rwa [up_ne hl 1 (by decide) rfl] at h))
 ·exact fun h => (hI.s45 (by rwa [up_ne hl 2 (by decide) rfl] at h))
 ·exact fun _ => rfl
 ·exact fun h => (hI.s47 (by rwa [up_ne hl 4 (by decide) rfl] at h))
 ·exact fun h => (hI.s48 (by rwa [up_ne hl 5 (by decide) rfl] at h))
 ·exact fun h => by
   obtain ⟨b, hb, ho⟩ := (hI.s15 (by rwa [up_ne hl 6 (by decide) rfl] at h))
   rw [up_ne hl 8 (by decide) rfl]
   exact ⟨b, hb, ho⟩
 ·exact fun h => by
   obtain ⟨b, hb, ho⟩ := (hI.s16 (by rwa [up_ne hl 7 (by decide) rfl] at h))
   rw [up_ne hl 9 (by decide) rfl]
   exact ⟨b, hb, ho⟩
 ·exact fun h => by
   rw [up_ne hl 8 (by decide) rfl] at h
   have := hI.o8 h
   exact ⟨by rw [hl 2 (by decide), this.1, Bool.or_true], by rw [hl 6 (by decide), this.2, Bool.or_true]⟩
 ·exact fun h => by
   rw [up_ne hl 9 (by decide) rfl] at h
   have := hI.o9 h
   exact ⟨by rw [hl 5 (by decide), this.1, Bool.or_true], by rw [hl 7 (by decide), this.2, Bool.or_true]⟩
theorem RBox.op4 (hI : RBox w aa am ae la lm le ca cm ce n v44 v47 F1 F2 l u43 u44 u45 u46 u47 u48 u15 u16 tag W) (hl : ∀ j, j < 10 → (l.setIfInBounds 4 true).getD j false = (j == 4 || l.getD j false))  :
  RBox w aa am ae la lm le ca cm ce n v44 v47 F1 F2 (l.setIfInBounds 4 true) u43 u44 u45 u46 v47 u48 u15 u16 tag W := by
 refine ⟨hI.bel, hI.box, ?_, ?_, ?_, ?_, ?_, ?_, ?_, ?_, ?_, ?_⟩
 ·exact fun h => (hI.s43 (by rwa [up_ne hl 0 (by decide) rfl] at h))
 ·exact fun h => (hI.s44 (by rwa [up_ne hl 1 (by decide) rfl] at h))
 ·exact fun h => (hI.s45 (by rwa [up_ne hl 2 (by decide) rfl] at h))
 ·exact fun h => (hI.s46 (by rwa [up_ne hl 3 (by decide) rfl] at h))
 ·exact fun _ => rfl
 ·exact fun h => (hI.s48 (by rwa [up_ne hl 5 (by decide) rfl] at h))
 ·exact fun h => by
   obtain ⟨b, hb, ho⟩ := (hI.s15 (by rwa [up_ne hl 6 (by decide) rfl] at h))
   rw [up_ne hl 8 (by decide) rfl]
   exact ⟨b, hb, ho⟩
 ·exact fun h => by
   obtain ⟨b, hb, ho⟩ := (hI.s16 (by rwa [up_ne hl 7 (by decide) rfl] at h))
   rw [up_ne hl 9 (by decide) rfl]
   exact ⟨b, hb, ho⟩
 ·exact fun h => by
   rw [up_ne hl 8 (by decide) rfl] at h
   have := hI.o8 h
   exact ⟨by rw [hl 2 (by decide), this.1, Bool.or_true], by rw [hl 6 (by decide), this.2, Bool.or_true]⟩
 ·exact fun h => by
   rw [up_ne hl 9 (by decide) rfl] at h
   have := hI.o9 h
   exact ⟨by rw [hl 5 (by decide), this.1, Bool.or_true], by rw [hl 7 (by decide), this.2, Bool.or_true]⟩
theorem RBox.op2 (hI : RBox w aa am ae la lm le ca cm ce n v44 v47 F1 F2 l u43 u44 u45 u46 u47 u48 u15 u16 tag W) (hl : ∀ j, j < 10 → (l.setIfInBounds 2 true).getD j false = (j == 2 || l.getD j false)) {u : Value} (hb : Below W.heap.size W W') (hown : W'.ownsRow W.heap.size 4 1 u n (bools F1)) (hn : l.getD 2 false = false) :
  RBox w aa am ae la lm le ca cm ce n v44 v47 F1 F2 (l.setIfInBounds 2 true) u43 u44 u u46 u47 u48 u15 u16 (y6w tag W.heap.size 3) W' := by
 have ht : Turn w.heap.size tag (y6w tag W.heap.size 3) 3 W W' := Turn.call hb
 have hsz := hI.bel.size
 refine ⟨y2b hI.bel ht hsz, hI.box.turn ht (by decide), ?_, ?_, ?_, ?_, ?_, ?_, ?_, ?_, ?_, ?_⟩
 ·exact fun h => (hI.s43 (by rwa [up_ne hl 0 (by decide) rfl] at h))
 ·exact fun h => (hI.s44 (by rwa [up_ne hl 1 (by decide) rfl] at h))
 ·exact fun _ => Row.of_call hown hsz
 ·exact fun h => (hI.s46 (by rwa [up_ne hl 3 (by decide) rfl] at h))
 ·exact fun h => (hI.s47 (by rwa [up_ne hl 4 (by decide) rfl] at h))
 ·exact fun h => (hI.s48 (by rwa [up_ne hl 5 (by decide) rfl] at h)).turn ht (by decide)
 ·exact fun h => by
   obtain ⟨b, hb, ho⟩ := hI.s15 (by rwa [up_ne hl 6 (by decide) rfl] at h)
   rw [up_ne hl 8 (by decide) rfl]
   have h8 : l.getD 8 false = false := by
    cases h8 : l.getD 8 false with
    | false => rfl
    | true => rw [(hI.o8 h8).1] at hn; cases hn
   rw [h8] at ho ⊢
   exact ⟨b, hb, ho.turn ht (by decide)⟩
 ·exact fun h => by
   obtain ⟨b, hb, ho⟩ := (hI.s16 (by rwa [up_ne hl 7 (by decide) rfl] at h))
   rw [up_ne hl 9 (by decide) rfl]
   exact ⟨b, hb, ho.turn ht (by decide)⟩
 ·exact fun h => by
   rw [up_ne hl 8 (by decide) rfl] at h
   have := hI.o8 h
   exact ⟨by rw [hl 2 (by decide), this.1, Bool.or_true], by rw [hl 6 (by decide), this.2, Bool.or_true]⟩
 ·exact fun h => by
   rw [up_ne hl 9 (by decide) rfl] at h
   have := hI.o9 h
   exact ⟨by rw [hl 5 (by decide), this.1, Bool.or_true], by rw [hl 7 (by decide), this.2, Bool.or_true]⟩
theorem RBox.op5 (hI : RBox w aa am ae la lm le ca cm ce n v44 v47 F1 F2 l u43 u44 u45 u46 u47 u48 u15 u16 tag W) (hl : ∀ j, j < 10 → (l.setIfInBounds 5 true).getD j false = (j == 5 || l.getD j false)) {u : Value} (hb : Below W.heap.size W W') (hown : W'.ownsRow W.heap.size 4 1 u n (bools F2)) (hn : l.getD 5 false = false) :
  RBox w aa am ae la lm le ca cm ce n v44 v47 F1 F2 (l.setIfInBounds 5 true) u43 u44 u45 u46 u47 u u15 u16 (y6w tag W.heap.size 4) W' := by
 have ht : Turn w.heap.size tag (y6w tag W.heap.size 4) 4 W W' := Turn.call hb
 have hsz := hI.bel.size
 refine ⟨y2b hI.bel ht hsz, hI.box.turn ht (by decide), ?_, ?_, ?_, ?_, ?_, ?_, ?_, ?_, ?_, ?_⟩
 ·exact fun h => (hI.s43 (by rwa [up_ne hl 0 (by decide) rfl] at h))
 ·exact fun h => (hI.s44 (by rwa [up_ne hl 1 (by decide) rfl] at h))
 ·exact fun h => (hI.s45 (by rwa [up_ne hl 2 (by decide) rfl] at h)).turn ht (by decide)
 ·exact fun h => (hI.s46 (by rwa [up_ne hl 3 (by decide) rfl] at h))
 ·exact fun h => (hI.s47 (by rwa [up_ne hl 4 (by decide) rfl] at h))
 ·exact fun _ => Row.of_call hown hsz
 ·exact fun h => by
   obtain ⟨b, hb, ho⟩ := (hI.s15 (by rwa [up_ne hl 6 (by decide) rfl] at h))
   rw [up_ne hl 8 (by decide) rfl]
   exact ⟨b, hb, ho.turn ht (by decide)⟩
 ·exact fun h => by
   obtain ⟨b, hb, ho⟩ := hI.s16 (by rwa [up_ne hl 7 (by decide) rfl] at h)
   rw [up_ne hl 9 (by decide) rfl]
   have h8 : l.getD 9 false = false := by
    cases h8 : l.getD 9 false with
    | false => rfl
    | true => rw [(hI.o9 h8).1] at hn; cases hn
   rw [h8] at ho ⊢
   exact ⟨b, hb, ho.turn ht (by decide)⟩
 ·exact fun h => by
   rw [up_ne hl 8 (by decide) rfl] at h
   have := hI.o8 h
   exact ⟨by rw [hl 2 (by decide), this.1, Bool.or_true], by rw [hl 6 (by decide), this.2, Bool.or_true]⟩
 ·exact fun h => by
   rw [up_ne hl 9 (by decide) rfl] at h
   have := hI.o9 h
   exact ⟨by rw [hl 5 (by decide), this.1, Bool.or_true], by rw [hl 7 (by decide), this.2, Bool.or_true]⟩
theorem RBox.op6 (hI : RBox w aa am ae la lm le ca cm ce n v44 v47 F1 F2 l u43 u44 u45 u46 u47 u48 u15 u16 tag W) (hl : ∀ j, j < 10 → (l.setIfInBounds 6 true).getD j false = (j == 6 || l.getD j false)) (hn : l.getD 6 false = false) :
  RBox w aa am ae la lm le ca cm ce n v44 v47 F1 F2 (l.setIfInBounds 6 true) u43 u44 u45 u46 u47 u48 (.pointer (some ⟨W.heap.size, 0, none⟩)) u16 (tagUp tag W.heap.size 1) (W.alloc (.cells #[.slice none 0 0] 118)) := by
 have ht : Turn w.heap.size tag (tagUp tag W.heap.size 1) 1 W (W.alloc (.cells #[.slice none 0 0] 118)) := Turn.alloc _
 have hsz := hI.bel.size
 refine ⟨y2b hI.bel ht hsz, hI.box.turn ht (by decide), ?_, ?_, ?_, ?_, ?_, ?_, ?_, ?_, ?_, ?_⟩
 ·exact fun h => (hI.s43 (by rwa [up_ne hl 0 (by decide) rfl] at h))
 ·exact fun h => (hI.s44 (by rwa [up_ne hl 1 (by decide) rfl] at h))
 ·exact fun h => (hI.s45 (by rwa [up_ne hl 2 (by decide) rfl] at h)).turn ht (by decide)
 ·exact fun h => (hI.s46 (by rwa [up_ne hl 3 (by decide) rfl] at h))
 ·exact fun h => (hI.s47 (by rwa [up_ne hl 4 (by decide) rfl] at h))
 ·exact fun h => (hI.s48 (by rwa [up_ne hl 5 (by decide) rfl] at h)).turn ht (by decide)
 ·exact fun _ => by
   have h8 : l.getD 8 false = false := by
    cases h8 : l.getD 8 false with
    | false => rfl
    | true => rw [(hI.o8 h8).2] at hn; cases hn
   rw [up_ne hl 8 (by decide) rfl, h8]
   exact ⟨_, rfl, Own.new W _ _ _ _ _ hsz (y3Q _ _ _)⟩
 ·exact fun h => by
   obtain ⟨b, hb, ho⟩ := (hI.s16 (by rwa [up_ne hl 7 (by decide) rfl] at h))
   rw [up_ne hl 9 (by decide) rfl]
   exact ⟨b, hb, ho.turn ht (by decide)⟩
 ·exact fun h => by
   rw [up_ne hl 8 (by decide) rfl] at h
   have := hI.o8 h
   exact ⟨by rw [hl 2 (by decide), this.1, Bool.or_true], by rw [hl 6 (by decide), this.2, Bool.or_true]⟩
 ·exact fun h => by
   rw [up_ne hl 9 (by decide) rfl] at h
   have := hI.o9 h
   exact ⟨by rw [hl 5 (by decide), this.1, Bool.or_true], by rw [hl 7 (by decide), this.2, Bool.or_true]⟩
theorem RBox.op7 (hI : RBox w aa am ae la lm le ca cm ce n v44 v47 F1 F2 l u43 u44 u45 u46 u47 u48 u15 u16 tag W) (hl : ∀ j, j < 10 → (l.setIfInBounds 7 true).getD j false = (j == 7 || l.getD j false)) (hn : l.getD 7 false = false) :
  RBox w aa am ae la lm le ca cm ce n v44 v47 F1 F2 (l.setIfInBounds 7 true) u43 u44 u45 u46 u47 u48 u15 (.pointer (some ⟨W.heap.size, 0, none⟩)) (tagUp tag W.heap.size 2) (W.alloc (.cells #[.slice none 0 0] 118)) := by
 have ht : Turn w.heap.size tag (tagUp tag W.heap.size 2) 2 W (W.alloc (.cells #[.slice none 0 0] 118)) := Turn.alloc _
 have hsz := hI.bel.size
 refine ⟨y2b hI.bel ht hsz, hI.box.turn ht (by decide), ?_, ?_, ?_, ?_, ?_, ?_, ?_, ?_, ?_, ?_⟩
 ·exact fun h => (hI.s43 (by rwa [up_ne hl 0 (by decide) rfl] at h))
 ·exact fun h => (hI.s44 (by rwa [up_ne hl 1 (by decide) rfl] at h))
 ·exact fun h => (hI.s45 (by rwa [up_ne hl 2 (by decide) rfl] at h)).turn ht (by decide)
 ·exact fun h => (hI.s46 (by rwa [up_ne hl 3 (by decide) rfl] at h))
 ·exact fun h => (hI.s47 (by rwa [up_ne hl 4 (by decide) rfl] at h))
 ·exact fun h => (hI.s48 (by rwa [up_ne hl 5 (by decide) rfl] at h)).turn ht (by decide)
 ·exact fun h => by
   obtain ⟨b, hb, ho⟩ := (hI.s15 (by rwa [up_ne hl 6 (by decide) rfl] at h))
   rw [up_ne hl 8 (by decide) rfl]
   exact ⟨b, hb, ho.turn ht (by decide)⟩
 ·exact fun _ => by
   have h8 : l.getD 9 false = false := by
    cases h8 : l.getD 9 false with
    | false => rfl
    | true => rw [(hI.o9 h8).2] at hn; cases hn
   rw [up_ne hl 9 (by decide) rfl, h8]
   exact ⟨_, rfl, Own.new W _ _ _ _ _ hsz (y3Q _ _ _)⟩
 ·exact fun h => by
   rw [up_ne hl 8 (by decide) rfl] at h
   have := hI.o8 h
   exact ⟨by rw [hl 2 (by decide), this.1, Bool.or_true], by rw [hl 6 (by decide), this.2, Bool.or_true]⟩
 ·exact fun h => by
   rw [up_ne hl 9 (by decide) rfl] at h
   have := hI.o9 h
   exact ⟨by rw [hl 5 (by decide), this.1, Bool.or_true], by rw [hl 7 (by decide), this.2, Bool.or_true]⟩
theorem RBox.op8 {bx : Nat} (hI : RBox w aa am ae la lm le ca cm ce n v44 v47 F1 F2 l u43 u44 u45 u46 u47 u48 (.pointer (some ⟨bx, 0, none⟩)) u16 tag W) (hl : ∀ j, j < 10 → (l.setIfInBounds 8 true).getD j false = (j == 8 || l.getD j false)) (h1 : l.getD 6 false = true) (h2 : l.getD 2 false = true) :
  RBox w aa am ae la lm le ca cm ce n v44 v47 F1 F2 (l.setIfInBounds 8 true) u43 u44 u45 u46 u47 u48 (.pointer (some ⟨bx, 0, none⟩)) u16 tag (W.setCell ⟨bx, 0, none⟩ u45) := by
 obtain ⟨b, hb, ho⟩ := hI.s15 h1
 cases hb
 have ht : Turn w.heap.size tag tag 1 W (W.setCell ⟨bx, 0, none⟩ u45) := Turn.setCell ho 0 _
 have hsz := hI.bel.size
 refine ⟨y2b hI.bel ht hsz, hI.box.turn ht (by decide), ?_, ?_, ?_, ?_, ?_, ?_, ?_, ?_, ?_, ?_⟩
 ·exact fun h => (hI.s43 (by rwa [up_ne hl 0 (by decide) rfl] at h))
 ·exact fun h => (hI.s44 (by rwa [up_ne hl 1 (by decide) rfl] at h))
 ·exact fun h => (hI.s45 (by rwa [up_ne hl 2 (by decide) rfl] at h)).turn ht (by decide)
 ·exact fun h => (hI.s46 (by rwa [up_ne hl 3 (by decide) rfl] at h))
 ·exact fun h => (hI.s47 (by rwa [up_ne hl 4 (by decide) rfl] at h))
 ·exact fun h => (hI.s48 (by rwa [up_ne hl 5 (by decide) rfl] at h)).turn ht (by decide)
 ·exact fun _ => by
   refine ⟨_, rfl, ?_⟩
   rw [hl 8 (by decide)]
   simpa using ho.set 0 u45
 ·exact fun h => by
   obtain ⟨b, hb, ho⟩ := (hI.s16 (by rwa [up_ne hl 7 (by decide) rfl] at h))
   rw [up_ne hl 9 (by decide) rfl]
   exact ⟨b, hb, ho.turn ht (by decide)⟩
 ·exact fun _ => ⟨by rw [hl 2 (by decide), h2, Bool.or_true], by rw [hl 6 (by decide), h1, Bool.or_true]⟩
 ·exact fun h => by
   rw [up_ne hl 9 (by decide) rfl] at h
   have := hI.o9 h
   exact ⟨by rw [hl 5 (by decide), this.1, Bool.or_true], by rw [hl 7 (by decide), this.2, Bool.or_true]⟩
theorem RBox.op9 {bx : Nat} (hI : RBox w aa am ae la lm le ca cm ce n v44 v47 F1 F2 l u43 u44 u45 u46 u47 u48 u15 (.pointer (some ⟨bx, 0, none⟩)) tag W) (hl : ∀ j, j < 10 → (l.setIfInBounds 9 true).getD j false = (j == 9 || l.getD j false)) (h1 : l.getD 7 false = true) (h2 : l.getD 5 false = true) :
  RBox w aa am ae la lm le ca cm ce n v44 v47 F1 F2 (l.setIfInBounds 9 true) u43 u44 u45 u46 u47 u48 u15 (.pointer (some ⟨bx, 0, none⟩)) tag (W.setCell ⟨bx, 0, none⟩ u48) := by
 obtain ⟨b, hb, ho⟩ := hI.s16 h1
 cases hb
 have ht : Turn w.heap.size tag tag 2 W (W.setCell ⟨bx, 0, none⟩ u48) := Turn.setCell ho 0 _
 have hsz := hI.bel.size
 refine ⟨y2b hI.bel ht hsz, hI.box.turn ht (by decide), ?_, ?_, ?_, ?_, ?_, ?_, ?_, ?_, ?_, ?_⟩
 ·exact fun h => (hI.s43 (by rwa [up_ne hl 0 (by decide) rfl] at h))
 ·exact fun h => (hI.s44 (by rwa [up_ne hl 1 (by decide) rfl] at h))
 ·exact fun h => (hI.s45 (by rwa [up_ne hl 2 (by decide) rfl] at h)).turn ht (by decide)
 ·exact fun h => (hI.s46 (by rwa [up_ne hl 3 (by decide) rfl] at h))
 ·exact fun h => (hI.s47 (by rwa [up_ne hl 4 (by decide) rfl] at h))
 ·exact fun h => (hI.s48 (by rwa [up_ne hl 5 (by decide) rfl] at h)).turn ht (by decide)
 ·exact fun h => by
   obtain ⟨b, hb, ho⟩ := (hI.s15 (by rwa [up_ne hl 6 (by decide) rfl] at h))
   rw [up_ne hl 8 (by decide) rfl]
   exact ⟨b, hb, ho.turn ht (by decide)⟩
 ·exact fun _ => by
   refine ⟨_, rfl, ?_⟩
   rw [hl 9 (by decide)]
   simpa using ho.set 0 u48
 ·exact fun h => by
   rw [up_ne hl 8 (by decide) rfl] at h
   have := hI.o8 h
   exact ⟨by rw [hl 2 (by decide), this.1, Bool.or_true], by rw [hl 6 (by decide), this.2, Bool.or_true]⟩
 ·exact fun _ => ⟨by rw [hl 5 (by decide), h2, Bool.or_true], by rw [hl 7 (by decide), h1, Bool.or_true]⟩
end
def y4K (B : Nat) (e : Int) (r : Option (List Int)) (u : Value) (w' : World) : Prop :=
 if e = 0 then match r with
  | some xs => ∃ v, u = .tuple #[v, .bool true, .int .i64 0] ∧ RdI w' v xs ∧ y5W B v
  | none => u = .tuple #[.slice none 0 0, .bool false, .int .i64 0]
 else u = .tuple #[.slice none 0 0, .bool false, .int .i64 e]
theorem y4K.err {B : Nat} {e : Int} {r : Option (List Int)} {w' : World} (h : e ≠ 0) : y4K B e r (.tuple #[.slice none 0 0, .bool false, .int .i64 e]) w' := by
 unfold y4K; rw [if_neg h]
def y3v (a : Aut) (from_ : Int) (tg wi : List Int) : Int := err2 a.err (if from_ < 0 ∨ a.n ≤ from_ then 2 else err2 (yj a.n none tg) (yj a.n none wi))
def y4P (a : Aut) (from_ : Int) (tg wi : List Int) : Option (List Int) := if hasB wi from_ = true then pathF a.n.toNat a.es (hasB tg) (fun x => hasB wi x.t) from_.toNat else none
def PLoop (e1 e2 : Int) (j : Value) : Prop := j = .int .i64 0 ∨ (j = .int .i64 1 ∧ e1 = 0) ∨ (j = .int .i64 2 ∧ e1 = 0 ∧ e2 = 0)
theorem y7T {n : Nat} {set : List Int} {s : Int} (h0 : 0 ≤ s) (h1 : s < n) : (flagL n set).getD s.toNat false = hasB set s := by
 rw [List.getD_eq_getElem?_getD, flagL, List.getElem?_map, List.getElem?_range (by omega)]
 simp [Int.toNat_of_nonneg h0]
set_option maxHeartbeats 800000 in
theorem yc3 (v vt vw : Value) (a : Aut) (from_ : Int) (tg wi : List Int) (w : World) (ha : RdA w v a) (hs : a.small) (ht : RdI w vt tg) (hw : RdI w vw wi) (hlt : tg.length ≤ 1000000) (hlw : wi.length ≤ 1000000) :
  Calls Tryz.prog 47 #[v, .int .i64 from_, vt, vw] w (Ret w (y4K w.heap.size (y3v a from_ tg wi) (y4P a from_ tg wi))) := by
 have ha0 := ha
 obtain ⟨va, vm, ve, rfl, ⟨aa, ca, rfl, hra⟩, ⟨am, cm, rfl, hrm⟩, ⟨ae, ce, rfl, hre⟩⟩ := ha
 have Ht := Lib.hid ht
 have Hw := Lib.hid hw
 obtain ⟨at_, ct, rfl, hrt⟩ := ht
 obtain ⟨aw, cw, rfl, hrw⟩ := hw
 have Ha0 := Lib.hid ha0
 have Hs := Lib.hid hs
 clear ha0 hs
 have hix0 : ∀ w, (Instr.index 161 (.agg #[.slice at_ tg.length ct, .slice aw wi.length cw]) (.int .i64 0)).run Tryz.prog w = .ok (.slice at_ tg.length ct) w := fun _ => by kernel_rfl
 have hix1 : ∀ w, (Instr.index 161 (.agg #[.slice at_ tg.length ct, .slice aw wi.length cw]) (.int .i64 1)).run Tryz.prog w = .ok (.slice aw wi.length cw) w := fun _ => by kernel_rfl
 go_enter Tryz.func47, Tryz.ntmps47
 go_wp2_with fail
 refine (ycx _ a _ (Ha0.out.mono (by (repeat (first | with_reducible exact Below.refl _ _ | with_reducible exact Ha0 | (with_reducible refine yI ?_ Ha0 (by first | omega | (simp; done) | (simp; omega) | (simp at *; omega))) | (with_reducible refine Below.alloc ?_ (by first | omega | (simp; done) | (simp; omega) | (simp at *; omega)) _) | (with_reducible refine Below.drew ?_) | (with_reducible refine Below.setCell ?_ (by first | omega | (simp; done) | (simp; omega) | (simp at *; omega)) _))))) Hs.out).mono ?_
 rintro e w1 ⟨_, rfl, rfl, hb1⟩
 have hW1 : Below w.heap.size w w1 := ((Below.refl _ _).alloc (Nat.le_refl _) _).trans (hb1.mono (by simp))
 have hbx := box4 hb1
 clear hb1
 by_cases h1 : a.err = 0
 ·have hok := Aut.ok_of h1
  have H1 := Lib.hid h1
  rw [h1]
  clear h1
  by_cases hf : from_ < 0 ∨ a.n ≤ from_
  ·have Hf := Lib.hid hf
   obtain ⟨x0, x1, x2, x3, x4⟩ := hbx
   by_cases hlt0 : from_ < 0
   all_goals
    try have hge : a.n ≤ from_ := by omega
    clear hf
    go_wp2_with fail
    refine bodyPost_ret (v := .tuple #[.slice none 0 0, .bool false, .int .i64 2]) (by simp [results, Tryz.results47, go_sem]) rfl ⟨_, rfl, ?_, hW1⟩
    rw [show y3v a from_ tg wi = 2 by rw [y3v, err2, if_pos H1.out, if_pos Hf.out]]
    exact y4K.err (by decide)
  ·have hf0 : 0 ≤ from_ := by omega
   have hf1 : from_ < a.n := by omega
   have Hf := Lib.hid hf
   clear hf
   have Hes := Lib.hid hok.es
   have d1 : decide (from_ < 0) = false := by simpa using hf0
   have d2 : decide (a.n ≤ from_) = false := by simpa using hf1
   have hn0 := hok.n0
   have hn1 := hok.n1
   have hae := Hs.out.es
   clear hok
   obtain ⟨x0, x1, x2, x3, x4⟩ := hbx
   go_wp2_with fail
   clear d1 d2
   go_loopw [33] (fun j wr => PLoop (yj a.n none tg) (yj a.n none wi) j ∧ Below w.heap.size w wr ∧ wr.cell? ⟨w.heap.size, 0, none⟩ = some (.slice aa a.al.length ca) ∧ wr.cell? ⟨w.heap.size, 1, none⟩ = some (.int .i64 a.n) ∧ wr.cell? ⟨w.heap.size, 2, none⟩ = some (.slice am a.ms.length cm) ∧ wr.cell? ⟨w.heap.size, 3, none⟩ = some (.slice ae a.es.length ce) ∧ w.heap.size < wr.heap.size) (fun j _ => 2 - (intOf j).toNat)
   case atStart => exact ⟨.inl rfl, hW1, x0, x1, x2, x3, x4⟩
   case round =>
    clear x0 x1 x2 x3 x4 hW1
    obtain ⟨hj, hB, x0, x1, x2, x3, x4⟩ := hrel
    have hbx := And.intro x0 (And.intro x1 (And.intro x2 (And.intro x3 x4)))
    have Hbx := Lib.hid hbx
    clear hbx
    rcases hj with rfl | ⟨rfl, h2⟩ | ⟨rfl, h2, h3⟩
    ·go_wp2_with fail
     refine (y6Y _ _ _ _ _ _ _ _ _ _ _ tg _ (Ht.out.mono hB) hlt).mono ?_
     rintro e w2 ⟨_, rfl, rfl, hb2⟩
     have hW2 := hB.trans (hb2.mono hB.size)
     have hbx2 := box4' Hbx.out hb2
     clear x0 x1 x2 x3 x4
     by_cases h2 : yj a.n none tg = 0
     ·have H2 := Lib.hid h2
      rw [h2]
      clear h2
      obtain ⟨x0, x1, x2, x3, x4⟩ := hbx2
      go_wp2_with fail
      go_roundw
      case rel => exact ⟨.inr (.inl ⟨rfl, H2.out⟩), hW2, x0, x1, x2, x3, x4⟩
      case measure => simp [intOf]
     ·have H2 := Lib.hid h2
      have h2' : (yj a.n none tg != 0) = true := by simpa using h2
      clear h2
      go_wp2_with fail
      refine bodyPost_ret (v := .tuple #[.slice none 0 0, .bool false, .int .i64 (yj a.n none tg)]) (by simp [results, Tryz.results47, go_sem]) rfl ⟨_, rfl, ?_, hW2⟩
      rw [show y3v a from_ tg wi = yj a.n none tg by rw [y3v, err2, if_pos H1.out, if_neg Hf.out, err2, if_neg H2.out]]
      exact y4K.err H2.out
    ·have H2 := Lib.hid h2
     clear h2
     go_wp2_with fail
     refine (y6Y _ _ _ _ _ _ _ _ _ _ _ wi _ (Hw.out.mono hB) hlw).mono ?_
     rintro e w2 ⟨_, rfl, rfl, hb2⟩
     have hW2 := hB.trans (hb2.mono hB.size)
     have hbx2 := box4' Hbx.out hb2
     clear x0 x1 x2 x3 x4
     by_cases h2 : yj a.n none wi = 0
     ·have H3 := Lib.hid h2
      rw [h2]
      clear h2
      obtain ⟨x0, x1, x2, x3, x4⟩ := hbx2
      go_wp2_with fail
      go_roundw
      case rel => exact ⟨.inr (.inr ⟨rfl, H2.out, H3.out⟩), hW2, x0, x1, x2, x3, x4⟩
      case measure => simp [intOf]
     ·have H3 := Lib.hid h2
      have h2' : (yj a.n none wi != 0) = true := by simpa using h2
      clear h2
      go_wp2_with fail
      refine bodyPost_ret (v := .tuple #[.slice none 0 0, .bool false, .int .i64 (yj a.n none wi)]) (by simp [results, Tryz.results47, go_sem]) rfl ⟨_, rfl, ?_, hW2⟩
      rw [show y3v a from_ tg wi = yj a.n none wi by rw [y3v, err2, if_pos H1.out, if_neg Hf.out, err2, if_pos H2.out]]
      exact y4K.err H3.out
    ·have Herr : Hid (y3v a from_ tg wi = 0) := by
      show _ = _
      rw [y3v, err2, if_pos H1.out, if_neg Hf.out, err2, if_pos h2, h3]
     have htin := y5T h2
     have hwin := y5T h3
     have Htin := Lib.hid htin
     have Hwin := Lib.hid hwin
     clear htin hwin h2 h3
     have Hpath : Hid (y4P a from_ tg wi = if hasB wi from_ = true then pathF a.n.toNat a.es (hasB tg) (fun x => hasB wi x.t) from_.toNat else none) := rfl
     generalize hn : a.n = an at *
     obtain ⟨n, rfl⟩ := Int.eq_ofNat_of_zero_le hn0
     obtain ⟨fr, rfl⟩ := Int.eq_ofNat_of_zero_le hf0
     have hn' : n ≤ 4096 := by omega
     have hfr : fr < n := by omega
     have Hn := Lib.hid hn
     clear hn hn0 hn1 hf0 hf1
     have hbd := box4' Hbx.out (y5s wr)
     obtain ⟨y0, y1, y2, y3, y4⟩ := hbd
     go_upto_region 13 with fail
     go_cut [15, 16] (fun s15 s16 wx => ∃ (b1 b2 : Nat) (a1 a2 : Option Addr) (c1 c2 : Nat), s15 = .pointer (some ⟨b1, 0, none⟩) ∧ s16 = .pointer (some ⟨b2, 0, none⟩) ∧ Below w.heap.size w wx ∧
      wx.cell? ⟨w.heap.size, 0, none⟩ = some (.slice aa a.al.length ca) ∧ wx.cell? ⟨w.heap.size, 1, none⟩ = some (.int .i64 n) ∧ wx.cell? ⟨w.heap.size, 2, none⟩ = some (.slice am a.ms.length cm) ∧ wx.cell? ⟨w.heap.size, 3, none⟩ = some (.slice ae a.es.length ce) ∧ w.heap.size < wx.heap.size ∧
      wx.cell? ⟨b1, 0, none⟩ = some (.slice a1 n c1) ∧ wx.cell? ⟨b2, 0, none⟩ = some (.slice a2 n c2) ∧ RdS wx 1 a1 n c1 (bools (flagL n wi)) ∧ RdS wx 1 a2 n c2 (bools (flagL n tg)))
     case first =>
      refine yaz (fun l us W => ∃ u43 u44 u45 u46 u47 u48 u15 u16 tag, us = [u43, u44, u45, u46, u47, u48, u15, u16] ∧ RBox w aa am ae a.al.length a.ms.length a.es.length ca cm ce n (.slice aw wi.length cw) (.slice at_ tg.length ct) (flagL n wi) (flagL n tg) l u43 u44 u45 u46 u47 u48 u15 u16 tag W) [43, 44, 45, 46, 47, 48, 15, 16] (by kernel_rfl) (by kernel_rfl) ?_ ?_ ?_
      ·exact ⟨_, _, _, _, _, _, _, _, fun _ => 0, rfl, RBox.start hB.drew ⟨rfl, x4, x0, x1, x2, x3⟩⟩
      ·refine Steps.cons rfl ?_ ?_
       ·rintro l us W hl ⟨u43, u44, u45, u46, u47, u48, u15, u16, tag, rfl, hI⟩ hd hn K' hK
        have Hl : Hid (∀ j, j < 10 → (l.setIfInBounds 0 true).getD j false = (j == 0 || l.getD j false)) := hl
        have Hn : Hid (l.getD 0 false = false) := hn
        have HI := Lib.hid hI
        have HK := Lib.hid hK
        have y1 := hI.box.x0
        have y2 := hI.box.x1
        have y3 := hI.box.x2
        have y4 := hI.box.x3
        clear hl hd hn hI hK
        refine StepG.mk ?_
        simp only [puts, Act.put]
        go_simp
        exact HK.out [.agg #[.slice aa a.al.length ca, .int .i64 n, .slice am a.ms.length cm, .slice ae a.es.length ce], u44, u45, u46, u47, u48, u15, u16] _ _ (by simp [puts, Act.put]) ⟨_, _, _, _, _, _, _, _, _, rfl, HI.out.op0 Hl.out⟩
       refine Steps.cons rfl ?_ ?_
       ·rintro l us W hl ⟨u43, u44, u45, u46, u47, u48, u15, u16, tag, rfl, hI⟩ hd hn K' hK
        have Hl : Hid (∀ j, j < 10 → (l.setIfInBounds 1 true).getD j false = (j == 1 || l.getD j false)) := hl
        have Hn : Hid (l.getD 1 false = false) := hn
        have HI := Lib.hid hI
        have HK := Lib.hid hK
        clear hl hd hn hI hK
        refine StepG.mk ?_
        simp only [puts, Act.put]
        go_simp
        exact HK.out [u43, .slice aw wi.length cw, u45, u46, u47, u48, u15, u16] _ _ (by simp [puts, Act.put]) ⟨_, _, _, _, _, _, _, _, _, rfl, HI.out.op1 Hl.out⟩
       refine Steps.cons rfl ?_ ?_
       ·rintro l us W hl ⟨u43, u44, u45, u46, u47, u48, u15, u16, tag, rfl, hI⟩ hd hn K' hK
        have Hl : Hid (∀ j, j < 10 → (l.setIfInBounds 2 true).getD j false = (j == 2 || l.getD j false)) := hl
        have Hn : Hid (l.getD 2 false = false) := hn
        have HI := Lib.hid hI
        have HK := Lib.hid hK
        have d : l.getD 0 false = true ∧ l.getD 1 false = true := by simpa [Region.binds] using hd
        obtain rfl := hI.s43 d.1
        obtain rfl := hI.s44 d.2
        have hB' := hI.bel
        clear hl hd hn hI hK d
        refine StepG.mk ?_
        simp only [puts, Act.put]
        go_simp
        refine (yaf _ _ _ (.slice aw wi.length cw) n wi _ (Hw.out.mono hB') hlw (by omega) Hwin.out).mono ?_
        rintro e w3 ⟨v3, rfl, hown3, hb3⟩
        go_simp
        exact HK.out [.agg #[.slice aa a.al.length ca, .int .i64 n, .slice am a.ms.length cm, .slice ae a.es.length ce], .slice aw wi.length cw, v3, u46, u47, u48, u15, u16] _ _ (by simp [puts, Act.put]) ⟨_, _, _, _, _, _, _, _, _, rfl, HI.out.op2 Hl.out hb3 hown3 Hn.out⟩
       refine Steps.cons rfl ?_ ?_
       ·rintro l us W hl ⟨u43, u44, u45, u46, u47, u48, u15, u16, tag, rfl, hI⟩ hd hn K' hK
        have Hl : Hid (∀ j, j < 10 → (l.setIfInBounds 3 true).getD j false = (j == 3 || l.getD j false)) := hl
        have Hn : Hid (l.getD 3 false = false) := hn
        have HI := Lib.hid hI
        have HK := Lib.hid hK
        have y1 := hI.box.x0
        have y2 := hI.box.x1
        have y3 := hI.box.x2
        have y4 := hI.box.x3
        clear hl hd hn hI hK
        refine StepG.mk ?_
        simp only [puts, Act.put]
        go_simp
        exact HK.out [u43, u44, u45, .agg #[.slice aa a.al.length ca, .int .i64 n, .slice am a.ms.length cm, .slice ae a.es.length ce], u47, u48, u15, u16] _ _ (by simp [puts, Act.put]) ⟨_, _, _, _, _, _, _, _, _, rfl, HI.out.op3 Hl.out⟩
       refine Steps.cons rfl ?_ ?_
       ·rintro l us W hl ⟨u43, u44, u45, u46, u47, u48, u15, u16, tag, rfl, hI⟩ hd hn K' hK
        have Hl : Hid (∀ j, j < 10 → (l.setIfInBounds 4 true).getD j false = (j == 4 || l.getD j false)) := hl
        have Hn : Hid (l.getD 4 false = false) := hn
        have HI := Lib.hid hI
        have HK := Lib.hid hK
        clear hl hd hn hI hK
        refine StepG.mk ?_
        simp only [puts, Act.put]
        go_simp
        exact HK.out [u43, u44, u45, u46, .slice at_ tg.length ct, u48, u15, u16] _ _ (by simp [puts, Act.put]) ⟨_, _, _, _, _, _, _, _, _, rfl, HI.out.op4 Hl.out⟩
       refine Steps.cons rfl ?_ ?_
       ·rintro l us W hl ⟨u43, u44, u45, u46, u47, u48, u15, u16, tag, rfl, hI⟩ hd hn K' hK
        have Hl : Hid (∀ j, j < 10 → (l.setIfInBounds 5 true).getD j false = (j == 5 || l.getD j false)) := hl
        have Hn : Hid (l.getD 5 false = false) := hn
        have HI := Lib.hid hI
        have HK := Lib.hid hK
        have d : l.getD 3 false = true ∧ l.getD 4 false = true := by
         simp [Region.binds] at hd
         exact ⟨by simp [hd], by simp [hd]⟩
        obtain rfl := hI.s46 d.1
        obtain rfl := hI.s47 d.2
        have hB' := hI.bel
        clear hl hd hn hI hK d
        refine StepG.mk ?_
        simp only [puts, Act.put]
        go_simp
        refine (yaf _ _ _ (.slice at_ tg.length ct) n tg _ (Ht.out.mono hB') hlt (by omega) Htin.out).mono ?_
        rintro e w3 ⟨v3, rfl, hown3, hb3⟩
        go_simp
        exact HK.out [u43, u44, u45, .agg #[.slice aa a.al.length ca, .int .i64 n, .slice am a.ms.length cm, .slice ae a.es.length ce], .slice at_ tg.length ct, v3, u15, u16] _ _ (by simp [puts, Act.put]) ⟨_, _, _, _, _, _, _, _, _, rfl, HI.out.op5 Hl.out hb3 hown3 Hn.out⟩
       refine Steps.cons rfl ?_ ?_
       ·rintro l us W hl ⟨u43, u44, u45, u46, u47, u48, u15, u16, tag, rfl, hI⟩ hd hn K' hK
        have Hl : Hid (∀ j, j < 10 → (l.setIfInBounds 6 true).getD j false = (j == 6 || l.getD j false)) := hl
        have Hn : Hid (l.getD 6 false = false) := hn
        have HI := Lib.hid hI
        have HK := Lib.hid hK
        clear hl hd hn hI hK
        refine StepG.mk ?_
        simp only [puts, Act.put]
        go_simp
        exact HK.out [u43, u44, u45, u46, u47, u48, .pointer (some ⟨W.heap.size, 0, none⟩), u16] _ _ (by simp [puts, Act.put]) ⟨_, _, _, _, _, _, _, _, _, rfl, HI.out.op6 Hl.out Hn.out⟩
       refine Steps.cons rfl ?_ ?_
       ·rintro l us W hl ⟨u43, u44, u45, u46, u47, u48, u15, u16, tag, rfl, hI⟩ hd hn K' hK
        have Hl : Hid (∀ j, j < 10 → (l.setIfInBounds 7 true).getD j false = (j == 7 || l.getD j false)) := hl
        have Hn : Hid (l.getD 7 false = false) := hn
        have HI := Lib.hid hI
        have HK := Lib.hid hK
        clear hl hd hn hI hK
        refine StepG.mk ?_
        simp only [puts, Act.put]
        go_simp
        exact HK.out [u43, u44, u45, u46, u47, u48, u15, .pointer (some ⟨W.heap.size, 0, none⟩)] _ _ (by simp [puts, Act.put]) ⟨_, _, _, _, _, _, _, _, _, rfl, HI.out.op7 Hl.out Hn.out⟩
       refine Steps.cons rfl ?_ ?_
       ·rintro l us W hl ⟨u43, u44, u45, u46, u47, u48, u15, u16, tag, rfl, hI⟩ hd hn K' hK
        have Hl : Hid (∀ j, j < 10 → (l.setIfInBounds 8 true).getD j false = (j == 8 || l.getD j false)) := hl
        have Hn : Hid (l.getD 8 false = false) := hn
        have HI := Lib.hid hI
        have HK := Lib.hid hK
        have d : l.getD 6 false = true ∧ l.getD 2 false = true := by
         simp [Region.binds] at hd
         exact ⟨by simp [hd], by simp [hd]⟩
        refine Exists.elim (hI.s15 d.1) (fun b hb => ?_)
        have hb1 := hb.1
        have ho := hb.2
        subst hb1
        refine Exists.elim (hI.s45 d.2).val (fun a3 h3 => Exists.elim h3 (fun c3 h4 => ?_))
        subst h4
        clear hb h3
        have q1 := ho.cell 0
        have q2 := ho.frozen 0
        simp at q1
        have D := Lib.hid d
        clear hl hd hn hI hK d ho
        refine StepG.mk ?_
        simp only [puts, Act.put]
        go_simp
        exact HK.out [u43, u44, .slice a3 n c3, u46, u47, u48, .pointer (some ⟨b, 0, none⟩), u16] _ _ (by simp [puts, Act.put]) ⟨_, _, _, _, _, _, _, _, _, rfl, HI.out.op8 Hl.out D.out.1 D.out.2⟩
       refine Steps.cons rfl ?_ ?_
       ·rintro l us W hl ⟨u43, u44, u45, u46, u47, u48, u15, u16, tag, rfl, hI⟩ hd hn K' hK
        have Hl : Hid (∀ j, j < 10 → (l.setIfInBounds 9 true).getD j false = (j == 9 || l.getD j false)) := hl
        have Hn : Hid (l.getD 9 false = false) := hn
        have HI := Lib.hid hI
        have HK := Lib.hid hK
        have d : l.getD 7 false = true ∧ l.getD 5 false = true := by
         simp [Region.binds] at hd
         exact ⟨by simp [hd], by simp [hd]⟩
        refine Exists.elim (hI.s16 d.1) (fun b hb => ?_)
        have hb1 := hb.1
        have ho := hb.2
        subst hb1
        refine Exists.elim (hI.s48 d.2).val (fun a3 h3 => Exists.elim h3 (fun c3 h4 => ?_))
        subst h4
        clear hb h3
        have q1 := ho.cell 0
        have q2 := ho.frozen 0
        simp at q1
        have D := Lib.hid d
        clear hl hd hn hI hK d ho
        refine StepG.mk ?_
        simp only [puts, Act.put]
        go_simp
        exact HK.out [u43, u44, u45, u46, u47, .slice a3 n c3, u15, .pointer (some ⟨b, 0, none⟩)] _ _ (by simp [puts, Act.put]) ⟨_, _, _, _, _, _, _, _, _, rfl, HI.out.op9 Hl.out D.out.1 D.out.2⟩
       exact Steps.nil (Nat.le_refl _)
      ·rintro l us W ⟨u43, u44, u45, u46, u47, u48, u15, u16, tag, rfl, hI⟩ hall
       have h2 := hI.s45 (hall 2 (by decide))
       have h5 := hI.s48 (hall 5 (by decide))
       refine Exists.elim (hI.s15 (hall 6 (by decide))) (fun b1 hb1 => ?_)
       refine Exists.elim (hI.s16 (hall 7 (by decide))) (fun b2 hb2 => ?_)
       have e1 := hb1.1
       have e2 := hb2.1
       have ho1 := hb1.2
       have ho2 := hb2.2
       clear hb1 hb2
       subst e1
       subst e2
       rw [if_pos (hall 8 (by decide))] at ho1
       rw [if_pos (hall 9 (by decide))] at ho2
       refine Exists.elim h2.rd (fun a1 g1 => Exists.elim g1 (fun c1 g2 => ?_))
       refine Exists.elim h5.rd (fun a2 g3 => Exists.elim g3 (fun c2 g4 => ?_))
       have e1 := g2.1
       have e2 := g4.1
       have hr1 := g2.2
       have hr2 := g4.2
       clear g1 g2 g3 g4
       subst e1
       subst e2
       have HI := Lib.hid (And.intro hI.bel (And.intro hI.box (And.intro hr1 (And.intro hr2 (And.intro ho1 ho2)))))
       clear hall h2 h5 hr1 hr2 ho1 ho2 hI
       simp only [puts, Act.put, List.setIfInBounds_toArray, List.set_cons_succ, List.set_cons_zero]
       go_wp2_with fail
       go_meet
       obtain ⟨g1, g2, g3, g4, g5, g6⟩ := HI.out
       exact ⟨b1, b2, a1, a2, c1, c2, rfl, rfl, g1, g2.x0, g2.x1, g2.x2, g2.x3, g2.lt, g5.cell 0, g6.cell 0, g3, g4⟩
     case rest =>
      obtain ⟨b1, b2, a1, a2, c1, c2, rfl, rfl, hW, q0, q1, q2, q3, q4, k1, k2, hr1, hr2⟩ := hcut
      have hfl1 : (flagL n wi).length = n := y8A n wi
      have hfl2 : (flagL n tg).length = n := y8A n tg
      have hR1 : RdB wc (.slice a1 n c1) (flagL n wi) := ⟨a1, c1, by rw [hfl1], by rw [hfl1]; exact hr1⟩
      have hR2 : RdB wc (.slice a2 n c2) (flagL n tg) := ⟨a2, c2, by rw [hfl2], by rw [hfl2]; exact hr2⟩
      have HR1 := Lib.hid hR1
      have HR2 := Lib.hid hR2
      have hr1' : RdS wc 1 a1 (flagL n wi).length c1 (bools (flagL n wi)) := by rw [hfl1]; exact hr1
      obtain ⟨bb, off, rfl, hcell⟩ := hr1'.at_bool fr (by omega)
      have hget : (flagL n wi)[fr]'(by omega) = hasB wi fr := by
       have := y7T (n := n) (set := wi) (s := (fr : Int)) (by omega) (by omega)
       rw [Int.toNat_natCast, List.getD_eq_getElem?_getD, yGe (by omega)] at this
       exact this
      rw [hget] at hcell
      have Hfl1 := Lib.hid hfl1
      have Hfl2 := Lib.hid hfl2
      clear hget hfl1 hfl2 hr1' hR1 hR2
      cases hin : hasB wi fr with
      | false =>
       have Hin := Lib.hid hin
       rw [hin] at hcell
       clear hin
       go_wp2_with fail
       refine bodyPost_ret (v := .tuple #[.slice none 0 0, .bool false, .int .i64 0]) (by simp [results, Tryz.results47, go_sem]) rfl ⟨_, rfl, ?_, hW⟩
       rw [Herr.out, Hpath.out, if_neg (by rw [Hin.out]; decide)]
       unfold y4K
       rw [if_pos rfl]
      | true =>
       have Hin := Lib.hid hin
       rw [hin] at hcell
       clear hin
       go_wp2_with fail
       refine (yaU _ _ _ _ _ _ _ n a.es _ (RdE.mono ⟨ae, ce, rfl, hre⟩ hW) hae (by omega) (fun x hx => ⟨(Hes.out x hx).1, (Hes.out x hx).2.1⟩)).mono ?_
       rintro e w3 ⟨_, rfl, ⟨af, cf, rfl, hrf⟩, hb3⟩
       have hW3 := hW.trans (hb3.mono hW.size)
       have k1' := keep0 hb3 k1
       have k2' := keep0 hb3 k2
       have HR1' := HR1.out.mono hb3
       have HR2' := HR2.out.mono hb3
       have HE1 : Enters Tryz.prog 100 := fun _ _ => by kernel_rfl
       have HE2 : Enters Tryz.prog 101 := fun _ _ => by kernel_rfl
       have hEs := (RdS.mono hre hW3)
       have H1 : Hid (∀ (s : Int) (W : World), 0 ≤ s → s < n → Below w3.heap.size w3 W → Calls Tryz.prog 100 (#[.int .i64 s] ++ #[Value.pointer (some ⟨b2, 0, none⟩)]) W fun e w' => e = .returned (.bool (hasB tg s)) ∧ Below W.heap.size W w') := by
        intro s W h0 h1 hb
        have := ycS b2 _ (flagL n tg) s W (keep0 hb k2') (HR2'.mono hb) h0 (by rw [Hfl2.out]; exact h1) (by rw [Hfl2.out]; omega)
        rw [y7T h0 h1] at this
        exact this
       have H2 : Hid (∀ (x : Ed) (W : World), x ∈ a.es → Below w3.heap.size w3 W → Calls Tryz.prog 101 (#[x.val] ++ #[Value.pointer (some ⟨b1, 0, none⟩)]) W fun e w' => e = .returned (.bool (hasB wi x.t)) ∧ Below W.heap.size W w') := by
        intro x W hx hb
        have hx' := Hes.out x hx
        have := ycT b1 _ (flagL n wi) x W (keep0 hb k1') (HR1'.mono hb) hx'.2.2.1 (by rw [Hfl1.out]; exact hx'.2.2.2) (by rw [Hfl1.out]; omega)
        rw [y7T hx'.2.2.1 hx'.2.2.2] at this
        exact this
       go_wp2_with fail
       refine (ycP aa am ae af _ _ ca cm ce cf n fr a.es _ _ _ _ (hasB tg) (fun x => hasB wi x.t) w3 hEs hrf hae (by omega) hfr (fun x hx => ⟨(Hes.out x hx).2.2.1, (Hes.out x hx).2.2.2⟩) HE1 HE2 H1.out H2.out).mono ?_
       rintro e w4 ⟨v4, rfl, hp4, hb4⟩
       have hW4 := hW3.trans (hb4.mono hW3.size)
       have Hpath' : Hid (y4P a fr tg wi = pathF n a.es (hasB tg) (fun x => hasB wi x.t) fr) := by
        show _ = _
        rw [Hpath.out, if_pos Hin.out]
        simp only [Int.toNat_natCast]
       clear H1 H2 HE1 HE2 k1 k1' k2 k2' HR1' HR2' hEs hb4 hb3
       generalize pathF n a.es (hasB tg) (fun x => hasB wi x.t) fr = r at hp4 Hpath'
       cases r with
       | none =>
        have hp5 : v4 = .tuple #[.slice none 0 0, .bool false] := hp4
        subst hp5
        go_wp2_with fail
        refine bodyPost_ret (v := .tuple #[.slice none 0 0, .bool false, .int .i64 0]) (by simp [results, Tryz.results47, go_sem]) rfl ⟨_, rfl, ?_, hW4⟩
        rw [Herr.out, Hpath'.out]
        unfold y4K
        rw [if_pos rfl]
       | some xs =>
        obtain ⟨v5, rfl, hp5, hfr5⟩ := hp4
        have Hfr5 := Lib.hid (hfr5.mono hW3.size)
        clear hfr5
        have Hp5 := Lib.hid hp5
        obtain ⟨a5, c5, rfl, hp6⟩ := hp5
        clear hp6
        go_wp2_with fail
        refine bodyPost_ret (v := .tuple #[.slice a5 xs.length c5, .bool true, .int .i64 0]) (by simp [results, Tryz.results47, go_sem]) rfl ⟨_, rfl, ?_, hW4⟩
        rw [Herr.out, Hpath'.out]
        unfold y4K
        rw [if_pos rfl]
        exact ⟨_, rfl, Hp5.out, Hfr5.out⟩
 ·have H1 := Lib.hid h1
  have h1' : (a.err != 0) = true := by simpa using h1
  clear h1
  go_wp2_with fail
  refine bodyPost_ret (v := .tuple #[.slice none 0 0, .bool false, .int .i64 a.err]) (by simp [results, Tryz.results47, go_sem]) rfl ⟨_, rfl, ?_, hW1⟩
  rw [show y3v a from_ tg wi = a.err by rw [y3v, err2, if_neg H1.out]]
  exact y4K.err H1.out
end Go.Proofs.YtidakgbibobbdaaGreatDoor
namespace Go.Proofs.YtidakgbibobbdaaGreatDoor
open Go Go.RowKit
abbrev rEd : Rep (Int × Int × Int) := rP (rK .i64) (rP (rK .i64) (rK .i64))
abbrev AutT := List Int × Int × List Int × (List (Int × Int × Int))
def toEd (x : Int × Int × Int) : Ed := ⟨x.1, x.2.1, x.2.2⟩
def toAut (p : AutT) : Aut := ⟨p.1, p.2.1, p.2.2.1, p.2.2.2.map toEd⟩
theorem y7U {s : Sig} : ∀ {xs : List Int} {cs : List Value}, Cells (rK .i64) s cs xs → cs = ints xs
 | [], cs, h => h
 | x :: xs, cs, h => by
  obtain ⟨c, d, rfl, h1, h2⟩ := h
  have h1 : c = [.int .i64 x] := h1
  rw [h1, y7U h2]; rfl
theorem y7V {s : Sig} : ∀ (xs : List Int), Cells (rK .i64) s (ints xs) xs
 | [] => rfl
 | x :: xs => ⟨[.int .i64 x], ints xs, rfl, rfl, y7V xs⟩
theorem yah {s : Sig} : ∀ {xs : List (Int × Int × Int)} {cs : List Value}, Cells rEd s cs xs → cs = y5L (xs.map toEd)
 | [], cs, h => h
 | x :: xs, cs, h => by
  obtain ⟨c, d, rfl, ⟨c1, c2, rfl, h1, d1, d2, rfl, h3, h4⟩, h2⟩ := h
  have h1 : c1 = [.int .i64 x.1] := h1
  have h3 : d1 = [.int .i64 x.2.1] := h3
  have h4 : d2 = [.int .i64 x.2.2] := h4
  rw [h1, h3, h4, yah h2]; rfl
theorem RdL.rdI {s : Sig} {a : Option Addr} {c : Nat} {xs : List Int} (h : RdL (rK .i64) s a c xs) : RdI s.w (.slice a xs.length c) xs := by
 obtain ⟨cs, h1, _, h3⟩ := h
 rw [y7U h3] at h1
 exact ⟨a, c, rfl, h1⟩
theorem RdL.rdE {s : Sig} {a : Option Addr} {c : Nat} {xs : List (Int × Int × Int)} (h : RdL rEd s a c xs) : RdE s.w (.slice a xs.length c) (xs.map toEd) := by
 obtain ⟨cs, h1, _, h3⟩ := h
 rw [yah h3] at h1
 exact ⟨a, c, by rw [List.length_map], by rw [List.length_map]; exact h1⟩
def Sig.nw (s : Sig) (w' : World) : Sig := ⟨w', fun b => if b < s.w.heap.size then s.tag b else 0⟩
theorem Sig.nw_mv {s : Sig} {w' : World} (h : Below s.w.heap.size s.w w') : Mv No s (s.nw w') := Below.mv h fun b hb => if_pos hb
theorem RdI.rdL {s : Sig} {w' : World} {v : Value} {xs : List Int} (h : RdI w' v xs) (hf : y5W s.w.heap.size v) : ∃ a c, v = .slice a xs.length c ∧ RdL (rK .i64) (s.nw w') a c xs := by
 obtain ⟨a, c, rfl, h1⟩ := h
 refine ⟨a, c, rfl, ints xs, h1, fun ad e _ => ?_, y7V xs⟩
 subst e
 exact if_neg (by have := hf ad _ _ rfl; omega)
def y4C (p0 : AutT) (p1 : Int) (p2 p3 : List Int) : Option (List Int × Bool × Int) :=
 if p0.1.length ≤ 1000000 ∧ p0.2.2.1.length ≤ 1000000 ∧ p0.2.2.2.length ≤ 1000000 ∧ p2.length ≤ 1000000 ∧ p3.length ≤ 1000000 then
  if y3v (toAut p0) p1 p2 p3 = 0 then some (match y4P (toAut p0) p1 p2 p3 with
   | some xs => (xs, true, 0)
   | none => ([], false, 0))
  else some ([], false, y3v (toAut p0) p1 p2 p3)
 else none
theorem y9T {s : Sig} {p0 : AutT} {p1 : Int} {p2 p3 : List Int} {a1 : Option Addr} {c1 : Nat} {a2 : Option Addr} {c2 : Nat} {a3 : Option Addr} {c3 : Nat} {a4 : Option Addr} {c4 : Nat} {a5 : Option Addr} {c5 : Nat} {r : List Int × Bool × Int} (h1 : RdL (rK .i64) s a1 c1 p0.1) (h2 : RdL (rK .i64) s a2 c2 p0.2.2.1) (h3 : RdL rEd s a3 c3 p0.2.2.2) (h4 : RdL (rK .i64) s a4 c4 p2) (h5 : RdL (rK .i64) s a5 c5 p3) (hm : y4C p0 p1 p2 p3 = some r) :
  Calls Tryz.prog 47 #[.agg #[.slice a1 p0.1.length c1, .int .i64 p0.2.1, .slice a2 p0.2.2.1.length c2, .slice a3 p0.2.2.2.length c3], .int .i64 p1, .slice a4 p2.length c4, .slice a5 p3.length c5] s.w (RetS No s fun v s' => ∃ (a6 : Option Addr) (c6 : Nat), v = .tuple #[.slice a6 r.1.length c6, .bool r.2.1, .int .i64 r.2.2] ∧ RdL (rK .i64) s' a6 c6 r.1) := by
 unfold y4C at hm
 split at hm
 ·rename_i hc
  obtain ⟨g1, g2, g3, g4, g5⟩ := hc
  refine (yc3 _ _ _ (toAut p0) p1 p2 p3 s.w ⟨_, _, _, rfl, h1.rdI, h2.rdI, h3.rdE⟩ ⟨g1, g2, by simpa [toAut] using g3⟩ h4.rdI h5.rdI g4 g5).mono fun en w' hh => ?_
  obtain ⟨u, rfl, hp, hb⟩ := hh
  refine ⟨u, s.nw w', rfl, rfl, Sig.nw_mv hb, ?_⟩
  unfold y4K at hp
  split at hp
  ·rename_i h0
   rw [if_pos h0] at hm
   cases hr : y4P (toAut p0) p1 p2 p3 with
   | none =>
    rw [hr] at hm hp
    cases hm
    exact ⟨none, 0, hp, RdL.nil⟩
   | some xs =>
    rw [hr] at hm hp
    cases hm
    obtain ⟨v, rfl, h6, h7⟩ := hp
    obtain ⟨a, c, rfl, h8⟩ := h6.rdL h7
    exact ⟨a, c, rfl, h8⟩
  ·rename_i h0
   rw [if_neg h0] at hm
   cases hm
   exact ⟨none, 0, hp, RdL.nil⟩
 ·cases hm
def y1P (p0 : AutT × List Int) (p1 : List Int) : Option (List Int) :=
 if p0.1.2.2.2.length ≤ 1000000 ∧ p1.length ≤ 1000000 ∧ 0 ≤ p0.1.2.1 ∧ p0.1.2.1 ≤ 1000000 ∧ (p0.1.2.2.2.all fun x => decide (0 ≤ x.1 ∧ x.1 < p0.1.2.1 ∧ 0 ≤ x.2.2 ∧ x.2.2 < p0.1.2.1)) = true ∧ (p1.all fun x => decide (0 ≤ x ∧ x < p0.1.2.1)) = true then
  some (y2h p0.1.2.1.toNat (p0.1.2.2.2.map toEd) p1)
 else none
theorem y6F {s : Sig} {p0 : AutT × List Int} {p1 : List Int} {a1 : Option Addr} {c1 : Nat} {a2 : Option Addr} {c2 : Nat} {a3 : Option Addr} {c3 : Nat} {a4 : Option Addr} {c4 : Nat} {a5 : Option Addr} {c5 : Nat} {r : List Int} (_h1 : RdL (rK .i64) s a1 c1 p0.1.1) (_h2 : RdL (rK .i64) s a2 c2 p0.1.2.2.1) (h3 : RdL rEd s a3 c3 p0.1.2.2.2) (_h4 : RdL (rK .i64) s a4 c4 p0.2) (h5 : RdL (rK .i64) s a5 c5 p1) (hm : y1P p0 p1 = some r) :
  Calls Tryz.prog 142 #[.agg #[.slice a1 p0.1.1.length c1, .int .i64 p0.1.2.1, .slice a2 p0.1.2.2.1.length c2, .slice a3 p0.1.2.2.2.length c3, .slice a4 p0.2.length c4], .slice a5 p1.length c5] s.w (RetS No s fun v s' => ∃ (a6 : Option Addr) (c6 : Nat), v = .slice a6 r.length c6 ∧ RdL (rK .i64) s' a6 c6 r) := by
 unfold y1P at hm
 split at hm
 ·rename_i hc
  cases hm
  obtain ⟨g1, g2, g3, g4, g5, g6⟩ := hc
  obtain ⟨⟨x1, n, x2, es⟩, x3⟩ := p0
  dsimp only at *
  obtain ⟨n, rfl⟩ : ∃ k : Nat, n = k := ⟨n.toNat, by omega⟩
  refine (yaB _ _ _ _ _ _ _ _ _ _ _ n (es.map toEd) p1 s.w h3.rdE h5.rdI (by simpa using g1) g2 (by omega) ?_ ?_).mono fun en w' hh => ?_
  ·intro x hx
   obtain ⟨y, hy, rfl⟩ := List.mem_map.1 hx
   simpa [toEd] using List.all_eq_true.1 g5 y hy
  ·intro x hx
   simpa using List.all_eq_true.1 g6 x hx
  ·obtain ⟨u, rfl, ⟨h6, h7⟩, hb⟩ := hh
   obtain ⟨a, c, rfl, h8⟩ := h6.rdL h7
   exact ⟨_, s.nw w', rfl, rfl, Sig.nw_mv hb, a, c, rfl, h8⟩
 ·cases hm
theorem y9U {p0 : AutT} {p1 : Int} {p2 p3 : List Int} {r : List Int × Bool × Int} (hm : y4C p0 p1 p2 p3 = some r) : Fw Tryz.prog 47 ⟨0, []⟩ [.a [lF qI p0.1, lI p0.2.1, lF qI p0.2.2.1, lF qT p0.2.2.2], .i p1, .f qI p2, .f qI p3] [] (.tp [.f qI r.1, .b r.2.1, .i r.2.2]) [] :=
 ⟨fun ts β s vs ht _ _ _ h _ => by
  obtain ⟨v0, us0, ⟨cs, ⟨x1, t1, ⟨a1, c1, e1, g1⟩, ⟨x2, t2, ⟨e2, _⟩, ⟨x3, t3, ⟨a3, c3, e3, g3⟩, ⟨x4, t4, ⟨a4, c4, e4, g4⟩, e5, e6⟩, e7⟩, e8⟩, e9⟩, e10⟩, ⟨v1, us1, ⟨f1, _⟩, ⟨v2, us2, ⟨a5, c5, f2, g5⟩, ⟨v3, us3, ⟨a6, c6, f3, g6⟩, f4, f5⟩, f6⟩, f7⟩, f8⟩ := h
  subst e5 e6 e7 e8 e9 e10 e1 e2 e3 e4 f4 f5 f6 f7 f8 f1 f2 f3
  exact Calls.mono (y9T g1 g3 g4 g5 g6 hm) fun en w' ⟨v, s', q1, q2, m, a, c, hv, hr⟩ => ⟨v, s', q1, q2, m.no, β, fun _ _ => rfl, ⟨_, ⟨_, _, ⟨a, c, rfl, hr⟩, ⟨_, _, ⟨rfl, rfl⟩, ⟨_, _, ⟨rfl, rfl⟩, rfl, rfl⟩, rfl⟩, rfl⟩, hv⟩, fun i o ho => by simp at ho⟩⟩
theorem y6G {p0 : AutT × List Int} {p1 : List Int} {r : List Int} (hm : y1P p0 p1 = some r) : Fw Tryz.prog 142 ⟨0, []⟩ [.a [lF qI p0.1.1, lI p0.1.2.1, lF qI p0.1.2.2.1, lF qT p0.1.2.2.2, lF qI p0.2], .f qI p1] [] (.f qI r) [] :=
 ⟨fun ts β s vs ht _ _ _ h _ => by
  obtain ⟨v0, us0, ⟨cs, ⟨x1, t1, ⟨a1, c1, e1, g1⟩, ⟨x2, t2, ⟨e2, _⟩, ⟨x3, t3, ⟨a3, c3, e3, g3⟩, ⟨x4, t4, ⟨a4, c4, e4, g4⟩, ⟨x5, t5, ⟨a5, c5, e5, g5⟩, z1, z2⟩, z3⟩, z4⟩, z5⟩, z6⟩, z7⟩, ⟨v2, us2, ⟨a6, c6, f2, g6⟩, f4, f5⟩, f6⟩ := h
  subst z1 z2 z3 z4 z5 z6 z7 e1 e2 e3 e4 e5 f4 f5 f6 f2
  exact Calls.mono (y6F g1 g3 g4 g5 g6 hm) fun en w' ⟨v, s', q1, q2, m, a, c, hv, hr⟩ => ⟨v, s', q1, q2, m.no, β, fun _ _ => rfl, ⟨a, c, hv, hr⟩, fun i o ho => by simp at ho⟩⟩
section
variable {K : Kx} {C : Cx} {P : Program} {n : Nat} {ops : Array Oper} {σ : Sx} {d : Nat} {ty : TypeId} {pos : String} {af : Array Edge} {g : Option (Nat × Bool)}
theorem O.ia {T : TypeId} {x i : Operand} {k m b off : Nat} {j : Int} {kd : IntKind} (hI : IA P T k m) (hg : Gu ops σ g) (hx : σ.ev x = some (sL (lP b off))) (hi : σ.ev i = some (VL (.int kd j))) (hj : rng j k = some ()) (hb : Nat.blt d n = true) : Ox K C P n ops ⟨some d, .indexAddr T x i, ty, pos, af, g⟩ σ (F1 d (sL (lP b (off + j.toNat * m)))) :=
 Ox.pure fun _ _ _ _ _ _ hd k => by
  obtain ⟨v, h1, b, h2, rfl⟩ := hd.evv hx
  exact L.ia hI (hd.gd hg) h1 (hd.evl hi) (ydt hj) hb (k _ ⟨b, h2, rfl⟩)
theorem yek {f : Int → LV} {l : List LV} {cs : List Int} {off m k : Nat} {v : Int} (hl : (l.drop off).take m = cs.map f) (hv : cs[k]? = some v) : l[off + k]? = some (f v) := by
 have h : ((l.drop off).take m)[k]? = some (f v) := by rw [hl, List.getElem?_map, hv]; rfl
 rw [List.getElem?_take] at h
 split at h
 ·rwa [List.getElem?_drop] at h
 ·cases h
theorem O.ldA {T : TypeId} {x : Operand} {l : List LV} {b off e k m : Nat} {v : Int} {kd : IntKind} {cs : List Int} (hT : NAg P T) (hg : Gu ops σ g) (hx : σ.ev x = some (sL (lP b e))) (ho : aget σ.ob b = some (.bx ty l)) (hl : (l.drop off).take m = cs.map fun z => lV (.int kd z)) (he : e = off + k) (hv : cs[k]? = some v) (hb : Nat.blt d n = true) {ty' : TypeId} : Ox K C P n ops ⟨some d, .load T x, ty', pos, af, g⟩ σ (F1 d (VL (.int kd v))) :=
 O.ld hT hg hx (.B ho) (by rw [he]; exact yek hl hv) hb
end
/-! Common operations, in short. -/
section
variable {K : Kx} {C : Cx} {P : Program} {Φ : Fr} {Q : Exit → Act → World → Prop} {n : Nat} {ops : Array Oper} {os : List Oper} {σ : Sx} {d : Nat} {ty : TypeId} {pos : String} {af : Array Edge}
theorem V.mv {x : Operand} {y : SV} (h : (σ.ev x, Nat.blt d n, (F1 d y).ok K σ.n) = (some y, true, true)) (h2 : V K C Φ P Q n ops os (σ.eff (F1 d y))) : V K C Φ P Q n ops (⟨some d, .move x, ty, pos, af, none⟩ :: os) σ := by
 simp only [Prod.mk.injEq] at h
 exact .op (O.mv .no h.1 h.2.1) h.2.2 h2
theorem V.sa {x : Operand} {y : SV} (h : (σ.ev x, Nat.blt d n, (F1 d y).ok K σ.n) = (some y, true, true)) (h2 : V K C Φ P Q n ops os (σ.eff (F1 d y))) : V K C Φ P Q n ops (⟨some d, .assign x, ty, pos, af, none⟩ :: os) σ := by
 simp only [Prod.mk.injEq] at h
 exact .op (O.as .no h.1 h.2.1) h.2.2 h2
theorem V.bi {op : BinOp} {T U : TypeId} {x y : Operand} {k : IntKind} {i j : Int} {v : Value} (h : (σ.ev x, σ.ev y, y7p op k i j, Nat.blt d n, (F1 d (VL v)).ok K σ.n) = (some (VL (.int k i)), some (VL (.int k j)), some v, true, true)) (h2 : V K C Φ P Q n ops os (σ.eff (F1 d (VL v)))) : V K C Φ P Q n ops (⟨some d, .binOp op T x y U, ty, pos, af, none⟩ :: os) σ := by
 simp only [Prod.mk.injEq] at h
 exact .op (O.bi .no h.1 h.2.1 h.2.2.1 h.2.2.2.1) h.2.2.2.2 h2
theorem V.sk {op : Op} {j q : Nat} {b b' : Bool} (h : ((ops[j]?).bind (·.dst), aget σ.sl q, b', Nat.blt d n, (F1 d (.tp [])).ok K σ.n) = (some q, some (VL (.bool b')), !b, true, true)) (h2 : V K C Φ P Q n ops os (σ.eff (F1 d (.tp [])))) : V K C Φ P Q n ops (⟨some d, op, ty, pos, af, some (j, b)⟩ :: os) σ := by
 simp only [Prod.mk.injEq] at h
 exact .op (O.skip h.1 h.2.1 h.2.2.1 h.2.2.2.1) h.2.2.2.2 h2
end
def Sx.dr (σ : Sx) (d : List Nat) : Sx := ⟨σ.sl, σ.ob.filter fun p => !(d.any (Nat.beq p.1)), σ.n⟩
theorem y9V {d : List Nat} {i : Nat} {o : Ob} : ∀ {l : List (Nat × Ob)}, aget (l.filter fun p => !(d.any (Nat.beq p.1))) i = some o → aget l i = some o
 | [], h => h
 | (j, x) :: l, h => by
  rw [List.filter_cons] at h
  simp only [aget]
  split at h
  ·simp only [aget] at h
   cases hb : Nat.beq j i with
   | true => rw [hb] at h; exact h
   | false => rw [hb] at h; exact y9V h
  ·rename_i hd
   cases hb : Nat.beq j i with
   | true =>
    exfalso
    have hm := (List.mem_filter.1 (y5N h)).2
    rw [← Nat.eq_of_beq_eq_true hb] at hm
    exact hd hm
   | false => exact y9V h
section
variable {K : Kx} {C : Cx} {P : Program} {Φ : Fr} {Q : Exit → Act → World → Prop} {n : Nat} {σ : Sx} {fs : List Eff} {A : List (List Nat)} {N : Nat}
theorem Den.okd {d : List Nat} {k : Nat} {m : List Bool} {j : Nat} {β : Nat → Value} {s : Sig} {e : List (Nat × Value)} (hk : Go.Proofs.YtidakgbibobbdaaGreatDoor.okK A fs N (σ.dr d) k m = true) (hn : Nat.beq (muK m fs σ.n) j = true) (h : Den K C (mu A fs N σ k (ixs m 0)) β s e) : Den K C (muS (σ.dr d) fs m j) β s e := by
 have hj : (mu A fs N σ k (ixs m 0)).n = j := by
  show muN fs σ.n (ixs m 0) = j
  rw [y5M (fs := fs) fun i => by rw [Nat.zero_add]]
  exact Nat.eq_of_beq_eq_true hn
 simp only [Go.Proofs.YtidakgbibobbdaaGreatDoor.okK, Bool.and_eq_true] at hk
 obtain ⟨k1, k2, k3⟩ := hk
 have ho : ∀ i o, aget (muO m fs (σ.dr d).ob) i = some o → aget (mu A fs N σ k (ixs m 0)).ob i = some o := fun i o hx => by
  show aget (muE A fs N k (ixs m 0) (muF A fs N k σ.ob)) i = some o
  rw [y9f (fs := fs) (fun j hj p hp => List.all_eq_true.1 (List.all_eq_true.1 k1 j hj) p hp) fun i => by rw [Nat.zero_add], y7x]
  rw [y7x] at hx
  refine y6D (fun hno x hx => ?_) hx
  rcases Bool.or_eq_true_iff.1 (List.all_eq_true.1 k2 _ (y5N hx)) with g | g
  ·obtain ⟨q, hq, hq2⟩ := List.any_eq_true.1 g
   have : q.1 = i := Nat.eq_of_beq_eq_true hq2
   exact absurd (show (i, q.2) ∈ _ from by rw [← this]; exact hq) (hno q.2)
  ·exact yaR g (y9V hx)
 have hs : ∀ d' x, aget (muM m fs (σ.dr d).sl) d' = some x → aget (mu A fs N σ k (ixs m 0)).sl d' = some x := fun i o hx => by
  show aget (muA fs (ixs m 0) (muB A fs N k σ.sl)) i = some o
  rw [y7u (fs := fs) fun i => by rw [Nat.zero_add], y7w]
  rw [y7w] at hx
  refine y6D (fun hno x hx => ?_) hx
  rcases Bool.or_eq_true_iff.1 (List.all_eq_true.1 k3 _ (y5N hx)) with g | g
  ·obtain ⟨q, hq, hq2⟩ := List.any_eq_true.1 g
   have : q.1 = i := Nat.eq_of_beq_eq_true hq2
   exact absurd (show (i, q.2) ∈ _ from by rw [← this]; exact hq) (hno q.2)
  ·exact yaS g hx
 exact ⟨h.ok, h.mv, h.b0, hj ▸ h.m, fun d x hx => h.sl d x (hs d x hx), fun i o hx => h.ob i o (ho i o hx), fun d x hx => hj ▸ h.fs d x (hs d x hx), fun i o hx => hj ▸ h.fo i o (ho i o hx)⟩
def Wsd (K : Kx) (C : Cx) (P : Program) (n : Nat) (ops : Array Oper) (all : List Eff) (σ : Sx) : List (Nat × List Bool × List Nat) → List Eff → List Oper → Prop
 | _, _, [] => True
 | m :: ms, f :: fs, o :: os => Ox K C P n ops o (muS (σ.dr m.2.2) all m.2.1 m.1) f ∧ Wsd K C P n ops all σ ms fs os
 | _, _, _ :: _ => False
def okKd (A : List (List Nat)) (fs : List Eff) (N : Nat) (σ : Sx) : Nat → List (Nat × List Bool × List Nat) → Bool
 | _, [] => true
 | k, m :: ms => Go.Proofs.YtidakgbibobbdaaGreatDoor.okK A fs N (σ.dr m.2.2) k m.2.1 && okKd A fs N σ (k + 1) ms
def nsOd (fs : List Eff) (n : Nat) (ms : List (Nat × List Bool × List Nat)) : Bool := ms.all fun m => Nat.beq (muK m.2.1 fs n) m.1
theorem Wsd.gg {ops : Array Oper} {all : List Eff} : ∀ {l : List Oper} {k : Nat} {ms : List (Nat × List Bool × List Nat)} {fs : List Eff}, okKd A all N σ k ms = true → nsOd all σ.n ms = true → Wsd K C P n ops all σ ms fs l → (∀ i, all.getD (k + i) noE = fs.getD i noE) → (∀ i, A.getD (k + i) [] = (ms.map fun m => ixs m.2.1 0).getD i []) → y5Z K C P n ops A all N σ k l
 | [], _, _, _, _, _, _, _, _ => trivial
 | o :: os, k, m :: ms, f :: fs, hk, hn, hw, hf, hA => by
  simp only [okKd, Bool.and_eq_true] at hk
  simp only [nsOd, List.all_cons, Bool.and_eq_true] at hn
  refine ⟨?_, Wsd.gg hk.2 hn.2 hw.2 (fun i => ?_) (fun i => ?_)⟩
  ·have h1 := hf 0
   have h2 := hA 0
   rw [Nat.add_zero] at h1 h2
   rw [h1, h2, show (List.map (fun (m : Nat × List Bool × List Nat) => ixs m.2.1 0) (m :: ms)).getD 0 [] = ixs m.2.1 0 from rfl]
   intro Φ Q os β s e hd hc
   have hj : (mu A all N σ k (ixs m.2.1 0)).n = m.1 := by
    show muN all σ.n (ixs m.2.1 0) = m.1
    rw [y5M (fs := all) fun i => by rw [Nat.zero_add]]
    exact Nat.eq_of_beq_eq_true hn.1
   exact hw.1 Φ Q os β s e (hd.okd hk.1 hn.1) fun β' s' e' a => hc β' s' e' (by rw [hj]; exact a)
  ·have := hf (i + 1); rw [show k + (i + 1) = k + 1 + i by omega] at this; simpa using this
  ·have := hA (i + 1); rw [show k + (i + 1) = k + 1 + i by omega] at this; simpa using this
 | _ :: _, _, [], _, _, _, hw, _, _ => by cases hw
 | _ :: _, _, _ :: _, [], _, _, hw, _, _ => by cases hw
theorem WE.drd {id : Nat} {l : List Oper} (j : Nat) (ms : List (Nat × List Bool × List Nat)) (fs : List Eff) (τ : Sx) (hs : Wsd K C P n l.toArray fs σ ms fs l) (hok : (okK (ms.map fun m => ixs m.2.1 0) fs l.length σ l.length (List.replicate l.length true) && (Nat.beq (muK (List.replicate l.length true) fs σ.n) j && (okKd (ms.map fun m => ixs m.2.1 0) fs l.length σ 0 ms && (nsOd fs σ.n ms && y7t P K (ms.map fun m => ixs m.2.1 0) fs σ.n l.toArray)))) = true) (hτ : τ.is K (muS σ fs (List.replicate l.length true) j) []) (h0 : WX K C Φ Q n .normal τ) : WE K C Φ P Q n (.region id l.toArray true) σ := by
 simp only [Bool.and_eq_true] at hok
 obtain ⟨h1, h2, h3, h4, h5⟩ := hok
 have hz : ∀ i, fs.getD (0 + i) noE = fs.getD i noE := fun i => by rw [Nat.zero_add]
 refine .draw' (ms.map fun m => ixs m.2.1 0) fs (Wsd.gg h3 h4 hs hz fun i => by rw [Nat.zero_add]) h5 ?_
 rw [List.range_eq_range', ← y8O]
 exact fun β s e hd => h0.sub [] hτ β s e (hd.okK h1 h2)
end
end Go.Proofs.YtidakgbibobbdaaGreatDoor
namespace Go.Proofs
open Go.Shelf
def Tryz.lays169_ren : Go.Shelf.Ren := ⟨fun | 169 => 127 | n => n, fun | 70 => 191 | 9 => 9 | 0 => 0 | 72 => 193 | 37 => 89 | 127 => 231 | 3 => 3 | 5 => 5 | n => n, fun | n => n⟩
theorem Tryz.lays169 : Go.Proofs.Lays.n169 Tryz.prog Tryz.lays169_ren := {
 mixed := by kernel_rfl
 f169 := Tryz.func127.trans (congrArg some (by kernel_rfl))
 t0 := Tryz.underlying0
 a0 := Tryz.isAgg0
 z0 := Tryz.sizeOf0
 v0 := Tryz.zeroValue0
 t3 := Tryz.underlying3
 a3 := Tryz.isAgg3
 z3 := Tryz.sizeOf3
 v3 := Tryz.zeroValue3
 t9 := Tryz.underlying9
 a9 := Tryz.isAgg9
 z9 := Tryz.sizeOf9
 v9 := Tryz.zeroValue9
 t37 := Tryz.underlying89
 a37 := Tryz.isAgg89
 z37 := Tryz.sizeOf89
 v37 := Tryz.zeroValue89
 t70 := Tryz.underlying191
 a70 := Tryz.isAgg191
 z70 := Tryz.sizeOf191
 v70 := Tryz.zeroValue191
 t72 := Tryz.underlying193
 a72 := Tryz.isAgg193
 z72 := Tryz.sizeOf193
 v72 := Tryz.zeroValue193
 t127 := Tryz.underlying231
 a127 := Tryz.isAgg231
 z127 := Tryz.sizeOf231
 v127 := Tryz.zeroValue231 }
theorem Tryz.Builder_Extra_169 : Builder.Extra Tryz.prog Tryz.lays169_ren := {
 sizeBuilder := by kernel_rfl
 liesBuilder := by kernel_rfl
 t5 := Tryz.underlying5
 a5 := Tryz.isAgg5
 z5 := Tryz.sizeOf5
 v5 := Tryz.zeroValue5
 infoByte := by kernel_rfl
 cellsByte := by kernel_rfl
 sizeByte := by kernel_rfl
 neB5 := by decide }
open Go.RowKit in
theorem Tryz.Builder_String_any (B b : Nat) (l : List UInt8) (w : World) (h : Lib.IsBuilder 193 5 B b (Lib.byteCells l) w) (hBw : B ≤ w.heap.size) :
  Calls Tryz.prog 127 #[.pointer (some ⟨b, 0, none⟩)] w fun e w' => e = .returned (.string ⟨l.toArray⟩) ∧ Below B w w' := Any.Builder_String_any Tryz.lays169 Tryz.Builder_Extra_169 B b l w h hBw
def Tryz.lays171_ren : Go.Shelf.Ren := ⟨fun | 171 => 125 | 243 => 162 | 246 => 180 | 283 => 201 | 284 => 202 | 285 => 203 | 286 => 204 | 129 => 192 | 317 => 214 | 318 => 215 | 319 => 216 | 320 => 217 | 337 => 228 | 338 => 229 | n => n, fun | 3 => 3 | 9 => 9 | 2 => 2 | 4 => 4 | 171 => 261 | 0 => 0 | 53 => 255 | 37 => 89 | 5 => 5 | 173 => 263 | 212 => 276 | 51 => 253 | 20 => 20 | 213 => 277 | 46 => 216 | 232 => 288 | 233 => 289 | n => n, fun | 17 => 0 | 18 => 1 | 19 => 2 | n => n⟩
theorem Tryz.lays171 : Go.Proofs.Lays.n171 Tryz.prog Tryz.lays171_ren := {
 mixed := by kernel_rfl
 f129 := Tryz.func192.trans (congrArg some (by kernel_rfl))
 f171 := Tryz.func125.trans (congrArg some (by kernel_rfl))
 f243 := Tryz.func162.trans (congrArg some (by kernel_rfl))
 f246 := Tryz.func180.trans (congrArg some (by kernel_rfl))
 f283 := Tryz.func201.trans (congrArg some (by kernel_rfl))
 f284 := Tryz.func202.trans (congrArg some (by kernel_rfl))
 f285 := Tryz.func203.trans (congrArg some (by kernel_rfl))
 f286 := Tryz.func204.trans (congrArg some (by kernel_rfl))
 f317 := Tryz.func214.trans (congrArg some (by kernel_rfl))
 f318 := Tryz.func215.trans (congrArg some (by kernel_rfl))
 f319 := Tryz.func216.trans (congrArg some (by kernel_rfl))
 f320 := Tryz.func217.trans (congrArg some (by kernel_rfl))
 f337 := Tryz.func228.trans (congrArg some (by kernel_rfl))
 f338 := Tryz.func229.trans (congrArg some (by kernel_rfl))
 t0 := Tryz.underlying0
 a0 := Tryz.isAgg0
 z0 := Tryz.sizeOf0
 v0 := Tryz.zeroValue0
 t2 := Tryz.underlying2
 a2 := Tryz.isAgg2
 z2 := Tryz.sizeOf2
 v2 := Tryz.zeroValue2
 t3 := Tryz.underlying3
 a3 := Tryz.isAgg3
 z3 := Tryz.sizeOf3
 v3 := Tryz.zeroValue3
 t4 := Tryz.underlying4
 a4 := Tryz.isAgg4
 z4 := Tryz.sizeOf4
 v4 := Tryz.zeroValue4
 t5 := Tryz.underlying5
 a5 := Tryz.isAgg5
 z5 := Tryz.sizeOf5
 v5 := Tryz.zeroValue5
 t9 := Tryz.underlying9
 a9 := Tryz.isAgg9
 z9 := Tryz.sizeOf9
 v9 := Tryz.zeroValue9
 t20 := Tryz.underlying20
 a20 := Tryz.isAgg20
 z20 := Tryz.sizeOf20
 v20 := Tryz.zeroValue20
 t37 := Tryz.underlying89
 a37 := Tryz.isAgg89
 z37 := Tryz.sizeOf89
 v37 := Tryz.zeroValue89
 t46 := Tryz.underlying216
 a46 := Tryz.isAgg216
 z46 := Tryz.sizeOf216
 v46 := Tryz.zeroValue216
 t51 := Tryz.underlying253
 a51 := Tryz.isAgg253
 z51 := Tryz.sizeOf253
 v51 := Tryz.zeroValue253
 t53 := Tryz.underlying255
 a53 := Tryz.isAgg255
 z53 := Tryz.sizeOf255
 v53 := Tryz.zeroValue255
 t171 := Tryz.underlying261
 a171 := Tryz.isAgg261
 z171 := Tryz.sizeOf261
 v171 := Tryz.zeroValue261
 t173 := Tryz.underlying263
 a173 := Tryz.isAgg263
 z173 := Tryz.sizeOf263
 v173 := Tryz.zeroValue263
 t212 := Tryz.underlying276
 a212 := Tryz.isAgg276
 z212 := Tryz.sizeOf276
 v212 := Tryz.zeroValue276
 t213 := Tryz.underlying277
 a213 := Tryz.isAgg277
 z213 := Tryz.sizeOf277
 t232 := Tryz.underlying288
 a232 := Tryz.isAgg288
 z232 := Tryz.sizeOf288
 v232 := Tryz.zeroValue288
 t233 := Tryz.underlying289
 a233 := Tryz.isAgg289
 z233 := Tryz.sizeOf289
 v233 := Tryz.zeroValue289
 g17 := by kernel_rfl
 g18 := by kernel_rfl
 g19 := by kernel_rfl }
open Go.RowKit Go.Sort Go.Lib in
theorem Tryz.strconv_Itoa_small (i : Nat) (hi : i < 100) (w : World) :
  Calls Tryz.prog 125 #[.int .i64 i] w fun e w' => e = .returned (.string ⟨(Lib.decDigits i).toArray⟩) ∧ w' = w := Any.strconv_Itoa_small Tryz.lays171 i hi w
end Go.Proofs
namespace Go.Proofs.YtidakgbibobbdaaGreatDoor
open Go Go.RowKit
abbrev bT : TypeId := 193
abbrev bE : TypeId := 5
theorem yel : (Tryz.prog.info? bT).map (fun i => i.size) = some 2 := by kernel_rfl
theorem yem : liesAt Tryz.prog (Tryz.prog).depth bT (2 / (Tryz.prog).cellsOf bT) 0 bT 1 = true := by kernel_rfl
theorem ybE : (Tryz.prog.info? bE).map (fun i => (i.zero, i.size, i.bytes)) = some (some (.int .u8 0), 1, 1) := by kernel_rfl
theorem ky_tp : (Tryz.prog).underlying 191 = some (.pointer bT) := by kernel_rfl
theorem ky_un : (Tryz.prog).underlying 240 = some .unsafePointer := by kernel_rfl
/-- Behind copyCheck the builder knows its address. -/
theorem yaY (B b : Nat) (bs : List Value) (w : World) (h : Lib.IsBuilder bT bE B b bs w) :
  Calls Tryz.prog 161 #[.pointer (some ⟨b, 0, none⟩)] w fun e w' => e = .returned (.tuple #[]) ∧ Lib.BuilderAt bT bE B b (.pointer (some ⟨b, 0, none⟩)) bs w' ∧ Below B w w' := by
 obtain ⟨j, hj, hjs⟩ := Option.map_eq_some_iff.1 yel
 rcases h with h | h
 ·have h0 := h.cell0
  have hsh := h.shape
  have hfz := h.frozen0
  suffices hh : Calls Tryz.prog 161 #[.pointer (some ⟨b, 0, none⟩)] w fun e w' => e = .returned (.tuple #[]) ∧ w' = w.setCell ⟨b, 0, none⟩ (.pointer (some ⟨b, 0, none⟩)) by
   refine hh.mono ?_
   rintro e w' ⟨rfl, rfl⟩
   exact ⟨rfl, h.used _, (Below.refl B w).setCell (p := ⟨b, 0, none⟩) h.1 _⟩
  go_enter Tryz.func161, Tryz.ntmps161
  go_wp2
  rw [Lib.run_to_unsafe w ⟨b, 0, none⟩ ky_tp ky_un hj (by rw [hjs]; decide) hsh (Nat.zero_lt_succ 1)]
  simp only [Result.andThen]
  rw [Oper.upon_value]
  go_wp2
  rw [run_callFunc_extern Tryz.func179 (by kernel_rfl) (by kernel_rfl) (by kernel_rfl) (e := Extern.AbiNoEscape.same) (by kernel_rfl)]
  rw [Lib.run_noEscape]
  simp only [Result.andThen]
  rw [Oper.upon_value]
  go_wp2
  rw [Lib.run_from_unsafe w ⟨b, 0, none⟩ ky_un ky_tp hj hsh yem]
  simp only [Result.andThen]
  rw [Oper.upon_value]
  go_wp2
  go_end0
  exact ⟨rfl, rfl⟩
 ·have h0 := h.cell0
  suffices hh : Calls Tryz.prog 161 #[.pointer (some ⟨b, 0, none⟩)] w fun e w' => e = .returned (.tuple #[]) ∧ w' = w by
   refine hh.mono ?_
   rintro e w' ⟨rfl, rfl⟩
   exact ⟨rfl, h, Below.refl B _⟩
  go_enter Tryz.func161, Tryz.ntmps161
  go_wp2
  rw [Lib.run_neq_ptr_same w _ ky_tp hj]
  go_wp2
  go_end0
  exact ⟨rfl, rfl⟩
theorem ydD (B b : Nat) (bs : List Value) (c : Int) (w : World) (h : Lib.IsBuilder bT bE B b bs w) (hlen : bs.length + 1 ≤ 1000000) (hBw : B ≤ w.heap.size) :
  Calls Tryz.prog 126 #[.pointer (some ⟨b, 0, none⟩), .int .u8 c] w fun e w' => e = .returned .nilIface ∧ Lib.BuilderAt bT bE B b (.pointer (some ⟨b, 0, none⟩)) (bs ++ [.int .u8 c]) w' ∧ Below B w w' := by
 obtain ⟨i0, hi, hz0, hz1, hz2⟩ := info_parts ybE
 go_enter Tryz.func126, Tryz.ntmps126
 go_wp2_with (go_at_call 161; refine (yaY B b bs _ h).mono ?_)
 rintro e w1 ⟨rfl, h1, hb1⟩
 obtain ⟨hB, v, hbk, hown, hne⟩ := h1
 have c1 : w1.cell? ⟨b, 1, none⟩ = some v := by rw [Lib.cell_of_heap hbk]; rfl
 have hlt : b < w1.heap.size := (Array.getElem?_eq_some_iff.1 hbk).1
 have hsz := hb1.size
 go_wp2_with (at_builtin; refine wpList_append_own _ rfl _ _ 89 rfl B bE i0 (.int .u8 0) 1 1 Tryz.underlying89 hi hz0 hz1 hz2 rfl (by decide) _ _ _ rfl (hown.alloc _) ⟨w1.heap.size, 0, none⟩ 1 1 [.int .u8 c] rfl rfl ?c1 ?c2 (by unfold maxLen; omega) (by omega) (by simp; omega) ?_)
 case c1 =>
  intro j u hj
  match j, hj with
  | 0, hj => simp at hj; subst hj; simp [Addr.add]
 case c2 => intro u hu; simp at hu; subst hu; rfl
 intro v' w2 hown' hgrow _
 have hb2 : w2.heap[b]? = some (.cells #[.pointer (some ⟨b, 0, none⟩), v] bT (0, 0)) := by
  rw [hgrow.block b (by simp; omega) (fun e => hne e.symm), Lib.alloc_old w1 _ b hlt]
  exact hbk
 have d1 : w2.cell? ⟨b, 1, none⟩ = some v := by rw [Lib.cell_of_heap hb2]; rfl
 have f1 : w2.frozen? ⟨b, 1, none⟩ = false := Lib.frozen_of_heap hb2 1
 obtain ⟨ao, n', cap, rfl⟩ : ∃ ao n' cap, v' = .slice ao n' cap := by
  rcases hown'.2 with ⟨hv, _⟩ | ⟨g, cap, cur, hv, _⟩ <;> exact ⟨_, _, _, hv⟩
 go_wp2
 go_ret
 refine ⟨rfl, Lib.BuilderAt.put (T := bT) (e := bE) hB hb2 (bs' := bs ++ [.int .u8 c]) (by simpa using hown') (by decide), ?_⟩
 exact ((hb1.alloc (by omega) _).grown hgrow (by simp; omega) (fun k hk => (hown.lt k hk).1)).setCell (p := ⟨b, 1, none⟩) hB _
theorem yen (B b : Nat) (bs : List Value) (t : ByteArray) (w : World) (h : Lib.IsBuilder bT bE B b bs w) (hlen : bs.length + t.size ≤ 1000000) (hBw : B ≤ w.heap.size) :
  Calls Tryz.prog 124 #[.pointer (some ⟨b, 0, none⟩), .string t] w fun e w' => e = .returned (.tuple #[.int .i64 t.size, .nilIface]) ∧ Lib.BuilderAt bT bE B b (.pointer (some ⟨b, 0, none⟩)) (bs ++ Lib.strCells t) w' ∧ Below B w w' := by
 obtain ⟨i0, hi, hz0, hz1, hz2⟩ := info_parts ybE
 go_enter Tryz.func124, Tryz.ntmps124
 go_wp2_with (go_at_call 161; refine (yaY B b bs _ h).mono ?_)
 rintro e w1 ⟨rfl, h1, hb1⟩
 obtain ⟨hB, v, hbk, hown, hne⟩ := h1
 have c1 : w1.cell? ⟨b, 1, none⟩ = some v := by rw [Lib.cell_of_heap hbk]; rfl
 have hlt : b < w1.heap.size := (Array.getElem?_eq_some_iff.1 hbk).1
 have hsz := hb1.size
 go_wp2_with (at_builtin; refine Lib.wpList_append_own_string _ rfl _ _ 89 9 rfl B bE i0 Tryz.underlying89 Tryz.underlying9 hi hz0 hz1 hz2 _ _ _ rfl hown t rfl (by unfold maxLen; omega) (by omega) (by omega) ?_)
 intro v' w2 hown' hgrow _
 have hb2 : w2.heap[b]? = some (.cells #[.pointer (some ⟨b, 0, none⟩), v] bT (0, 0)) := by
  rw [hgrow.block b hlt (fun e => hne e.symm)]
  exact hbk
 have d1 : w2.cell? ⟨b, 1, none⟩ = some v := by rw [Lib.cell_of_heap hb2]; rfl
 have f1 : w2.frozen? ⟨b, 1, none⟩ = false := Lib.frozen_of_heap hb2 1
 obtain ⟨ao, n', cap, rfl⟩ : ∃ ao n' cap, v' = .slice ao n' cap := by
  rcases hown'.2 with ⟨hv, _⟩ | ⟨g, cap, cur, hv, _⟩ <;> exact ⟨_, _, _, hv⟩
 go_wp2
 go_ret2
 refine ⟨rfl, Lib.BuilderAt.put (T := bT) (e := bE) hB hb2 (bs' := bs ++ Lib.strCells t) (by simpa [Lib.strCells_length] using hown') (by decide), ?_⟩
 exact (hb1.grown hgrow (by omega) (fun k hk => (hown.lt k hk).1)).setCell (p := ⟨b, 1, none⟩) hB _
def dig2 (u : Nat) : List UInt8 := if u < 10 then [UInt8.ofNat (48 + u)] else [UInt8.ofNat (48 + u / 10), UInt8.ofNat (48 + u % 10)]
theorem y9W {u : Nat} (h : u < 100) : Lib.decDigits u = dig2 u := by
 unfold dig2
 split
 ·exact Lib.decDigits_one ‹_›
 ·exact Lib.decDigits_two ‹_› h
theorem yaZ (u : Nat) : (dig2 u).length ≤ 2 := by unfold dig2; split <;> simp
def keyB : List Int → List UInt8
 | [] => []
 | x :: xs => dig2 x.toNat ++ 32 :: keyB xs
theorem yai : ∀ (xs : List Int) (x : Int), keyB (xs ++ [x]) = keyB xs ++ dig2 x.toNat ++ [32]
 | [], x => by simp [keyB]
 | y :: ys, x => by rw [List.cons_append, keyB, yai ys x, keyB]; simp
theorem yb0 : ∀ (xs : List Int), (keyB xs).length ≤ 3 * xs.length
 | [] => by simp [keyB]
 | x :: xs => by have h1 := yb0 xs; have h2 := yaZ x.toNat; simp only [keyB, List.length_append, List.length_cons]; omega
def y3l (p0 : List Int) : Option ByteArray := if (p0.all fun x => decide (0 ≤ x ∧ x < 100)) = true ∧ p0.length ≤ 1000 then some ⟨(keyB p0).toArray⟩ else none
theorem yeo (a : Option Addr) (c : Nat) (xs : List Int) (w : World) (hr : RdS w 1 a xs.length c (ints xs)) (hx : ∀ x ∈ xs, 0 ≤ x ∧ x < 100) (hl : xs.length ≤ 1000) :
  Calls Tryz.prog 79 #[.slice a xs.length c] w fun e w' => e = .returned (.string ⟨(keyB xs).toArray⟩) ∧ Below w.heap.size w w' := by
 have Hx := Lib.hid hx
 clear hx
 go_enter Tryz.func79, Tryz.ntmps79
 go_wp2
 go_loopw [8] (fun i wr => ∃ k : Nat, k ≤ xs.length ∧ i = .int .i64 k ∧ Lib.IsBuilder bT bE w.heap.size w.heap.size (Lib.byteCells (keyB (xs.take k))) wr ∧ Below w.heap.size w wr) (fun i _ => xs.length - (intOf i).toNat)
 case atStart => exact ⟨0, Nat.zero_le _, rfl, Lib.fresh_isBuilder bT bE w, (Below.refl _ w).alloc (Nat.le_refl _) _⟩
 case round =>
  obtain ⟨k, hk, rfl, hI, hbw⟩ := hrel
  by_cases hlt : k < xs.length
  ·obtain ⟨b, off, rfl, hc0⟩ := hr.at_int k hlt
   have hc := keep0 hbw hc0
   have hsz := hbw.size
   obtain ⟨n, hn⟩ : ∃ n : Nat, xs[k] = n := ⟨xs[k].toNat, by have := Hx.out _ (List.getElem_mem hlt); omega⟩
   have hn100 : n < 100 := by have := Hx.out _ (List.getElem_mem hlt); omega
   rw [hn] at hc
   have hkl := yb0 (xs.take k)
   rw [List.length_take, Nat.min_eq_left hk] at hkl
   have hd2 := yaZ n
   go_wp2_with (go_at_call 125; refine (Tryz.strconv_Itoa_small n hn100 _).mono ?_)
   rintro e W0 ⟨rfl, rfl⟩
   go_wp2_with (go_at_call 124; refine (yen w.heap.size w.heap.size _ _ _ hI (by rw [Lib.byteCells_length, y9W hn100]; simp [ByteArray.size]; omega) hsz).mono ?_)
   rintro e W1 ⟨rfl, h1, b1⟩
   go_wp2_with (go_at_call 126; refine (ydD w.heap.size w.heap.size _ _ _ (.inr h1) (by rw [List.length_append, Lib.byteCells_length, Lib.strCells_length, y9W hn100]; simp [ByteArray.size]; omega) (Nat.le_trans hsz b1.size)).mono ?_)
   rintro e W2 ⟨rfl, h2, b2⟩
   go_wp2
   go_roundw
   case rel =>
    refine ⟨k + 1, by omega, by go_num, .inr ?_, (hbw.trans b1).trans b2⟩
    rw [y4e xs k hlt, yai, hn, Lib.byteCells_append, Lib.byteCells_append]
    rw [y9W hn100] at h2
    exact h2
   case measure => simp [intOf]; omega
  ·have hke : k = xs.length := by omega
   subst hke
   rw [List.take_length] at hI
   go_wp2_with (go_at_call 127; refine (Tryz.Builder_String_any w.heap.size w.heap.size _ _ hI hbw.size).mono ?_)
   rintro e W1 ⟨rfl, b1⟩
   go_wp2
   go_ret
   exact ⟨rfl, hbw.trans b1⟩
theorem y9u {s : Sig} {p0 : List Int} {a1 : Option Addr} {c1 : Nat} {r : ByteArray} (h1 : RdL (rK .i64) s a1 c1 p0) (hm : y3l p0 = some r) :
  Calls Tryz.prog 79 #[.slice a1 p0.length c1] s.w (RetS No s fun v s' => v = .string r) := by
 unfold y3l at hm
 split at hm
 ·rename_i hc
  cases hm
  obtain ⟨g1, g2⟩ := hc
  obtain ⟨a, c, he, h2⟩ := h1.rdI
  cases he
  refine (yeo _ _ p0 s.w h2 (fun x hx => by simpa using List.all_eq_true.1 g1 x hx) g2).mono fun en w' hh => ?_
  obtain ⟨rfl, hb⟩ := hh
  exact ⟨_, s.nw w', rfl, rfl, Sig.nw_mv hb, rfl⟩
 ·cases hm
def y2o (p0 : List Int) : Option (List Int) := if p0.length ≤ 1000000 then some p0.reverse else none
theorem y7c {s : Sig} {p0 : List Int} {t0 : Nat} {a1 : Option Addr} {c1 : Nat} {r : List Int} (_zt0 : 0 < t0) (h1 : RowT (rK .i64) s t0 3 a1 c1 p0) (hm : y2o p0 = some r) :
  Calls Tryz.prog 112 #[.slice a1 p0.length c1] s.w (RetS (One t0) s fun v s' => v = .tuple #[] ∧ RowT (rK .i64) s' t0 3 a1 c1 r) := by
 obtain ⟨hl, rfl⟩ : p0.length ≤ 1000000 ∧ p0.reverse = r := by
  unfold y2o at hm
  split at hm
  ·exact ⟨by assumption, Option.some.inj hm⟩
  ·cases hm
 obtain ⟨cs, h2, h3⟩ := h1
 have hc := y7U h3
 subst hc
 refine (y8D _ p0 s.w 0 s.tag t0 h2 hl).mono ?_
 rintro e w' ⟨rfl, hr, ht⟩
 exact ⟨_, ⟨w', s.tag⟩, rfl, rfl, ht.mv, rfl, ints p0.reverse, by rw [List.length_reverse]; exact hr, y7V _⟩
end Go.Proofs.YtidakgbibobbdaaGreatDoor
namespace Go.Proofs
open Go.Shelf
def Tryz.lays189_ren : Go.Shelf.Ren := ⟨fun | 189 => 147 | 125 => 170 | 257 => 169 | 128 => 191 | 129 => 192 | 294 => 183 | 295 => 184 | 296 => 185 | 297 => 186 | 298 => 187 | 299 => 188 | 216 => 150 | 300 => 189 | 301 => 190 | 328 => 206 | 329 => 207 | 330 => 208 | 331 => 209 | 332 => 210 | 215 => 164 | 343 => 226 | n => n, fun | 28 => 22 | 3 => 3 | 46 => 216 | 0 => 0 | 51 => 253 | 53 => 255 | 4 => 4 | 183 => 247 | 182 => 246 | 131 => 146 | 5 => 5 | 9 => 9 | 218 => 266 | 222 => 270 | 228 => 283 | 229 => 67 | n => n, fun | n => n⟩
theorem Tryz.lays189 : Go.Proofs.Lays.n189 Tryz.prog Tryz.lays189_ren := {
 mixed := by kernel_rfl
 f125 := Tryz.func170.trans (congrArg some (by kernel_rfl))
 f128 := Tryz.func191.trans (congrArg some (by kernel_rfl))
 f129 := Tryz.func192.trans (congrArg some (by kernel_rfl))
 f189 := Tryz.func147.trans (congrArg some (by kernel_rfl))
 f215 := Tryz.func164.trans (congrArg some (by kernel_rfl))
 f216 := Tryz.func150.trans (congrArg some (by kernel_rfl))
 f257 := Tryz.func169.trans (congrArg some (by kernel_rfl))
 f294 := Tryz.func183.trans (congrArg some (by kernel_rfl))
 f295 := Tryz.func184.trans (congrArg some (by kernel_rfl))
 f296 := Tryz.func185.trans (congrArg some (by kernel_rfl))
 f297 := Tryz.func186.trans (congrArg some (by kernel_rfl))
 f298 := Tryz.func187.trans (congrArg some (by kernel_rfl))
 f299 := Tryz.func188.trans (congrArg some (by kernel_rfl))
 f300 := Tryz.func189.trans (congrArg some (by kernel_rfl))
 f301 := Tryz.func190.trans (congrArg some (by kernel_rfl))
 f328 := Tryz.func206.trans (congrArg some (by kernel_rfl))
 f329 := Tryz.func207.trans (congrArg some (by kernel_rfl))
 f330 := Tryz.func208.trans (congrArg some (by kernel_rfl))
 f331 := Tryz.func209.trans (congrArg some (by kernel_rfl))
 f332 := Tryz.func210.trans (congrArg some (by kernel_rfl))
 f343 := Tryz.func226.trans (congrArg some (by kernel_rfl))
 t0 := Tryz.underlying0
 a0 := Tryz.isAgg0
 z0 := Tryz.sizeOf0
 v0 := Tryz.zeroValue0
 t3 := Tryz.underlying3
 a3 := Tryz.isAgg3
 z3 := Tryz.sizeOf3
 v3 := Tryz.zeroValue3
 t4 := Tryz.underlying4
 a4 := Tryz.isAgg4
 z4 := Tryz.sizeOf4
 v4 := Tryz.zeroValue4
 t5 := Tryz.underlying5
 a5 := Tryz.isAgg5
 z5 := Tryz.sizeOf5
 v5 := Tryz.zeroValue5
 t9 := Tryz.underlying9
 a9 := Tryz.isAgg9
 z9 := Tryz.sizeOf9
 v9 := Tryz.zeroValue9
 t28 := Tryz.underlying22
 a28 := Tryz.isAgg22
 z28 := Tryz.sizeOf22
 v28 := Tryz.zeroValue22
 t46 := Tryz.underlying216
 a46 := Tryz.isAgg216
 z46 := Tryz.sizeOf216
 v46 := Tryz.zeroValue216
 t51 := Tryz.underlying253
 a51 := Tryz.isAgg253
 z51 := Tryz.sizeOf253
 v51 := Tryz.zeroValue253
 t53 := Tryz.underlying255
 a53 := Tryz.isAgg255
 z53 := Tryz.sizeOf255
 v53 := Tryz.zeroValue255
 t131 := Tryz.underlying146
 a131 := Tryz.isAgg146
 z131 := Tryz.sizeOf146
 v131 := Tryz.zeroValue146
 t182 := Tryz.underlying246
 a182 := Tryz.isAgg246
 z182 := Tryz.sizeOf246
 v182 := Tryz.zeroValue246
 t183 := Tryz.underlying247
 a183 := Tryz.isAgg247
 z183 := Tryz.sizeOf247
 v183 := Tryz.zeroValue247
 t218 := Tryz.underlying266
 a218 := Tryz.isAgg266
 z218 := Tryz.sizeOf266
 v218 := Tryz.zeroValue266
 t222 := Tryz.underlying270
 a222 := Tryz.isAgg270
 z222 := Tryz.sizeOf270
 v222 := Tryz.zeroValue270
 t228 := Tryz.underlying283
 a228 := Tryz.isAgg283
 z228 := Tryz.sizeOf283
 v228 := Tryz.zeroValue283
 t229 := Tryz.underlying67
 a229 := Tryz.isAgg67
 z229 := Tryz.sizeOf67
 v229 := Tryz.zeroValue67 }
open Go.RowKit Go.Sort Go.Lib in
theorem Tryz.slices_Sort_int (blk off cap : Nat) (zs : List Int) (w : World) (hH : Holds (Value.int .i64) w blk off zs.toArray) (hblk : blk < w.heap.size) (hsz : zs.length < 4611686018427387904) :
  Calls Tryz.prog 147 #[.slice (some ⟨blk, off, none⟩) zs.length cap] w fun e w' => e = .returned (.tuple #[]) ∧ ∃ n os, w' = grow (putRow (Value.int .i64) (Sort.ahead w n) blk off (zs.mergeSort fun x y => decide (x ≤ y)).toArray) os := Any.slices_Sort_int Tryz.lays189 blk off cap zs w hH hblk hsz
open Go.RowKit Go.Sort Go.Lib in
theorem Tryz.slices_Sort_int_none (p : Option Addr) (cap : Nat) (w : World) :
  Calls Tryz.prog 147 #[.slice p 0 cap] w fun e w' => e = .returned (.tuple #[]) ∧ w' = w := Any.slices_Sort_int_none Tryz.lays189 p cap w
end Go.Proofs
namespace Go.Proofs.YtidakgbibobbdaaGreatDoor
open Go Go.RowKit Go.Sort
section
variable {α β : Type} {r : Rep α} {s : Sig} {t : Nat} {T : TypeId} {a : Option Addr} {cap : Nat} {xs ys : List α}
theorem ycU {enc : β → Value} [Inhabited β] {w : World} {b off n : Nat} {d : Array β} {os : Array Obj} {cur : Array Value} {fr : Nat × Nat} (h : w.heap[b]? = some (.cells cur T fr)) : (grow (putRow enc (Sort.ahead w n) b off d) os).heap[b]? = some (.cells (putCells enc off d cur) T fr) := by
 have hb : b < w.heap.size := (Array.getElem?_eq_some_iff.1 h).1
 show ((w.heap.modify b (onCells (putCells enc off d))) ++ os)[b]? = _
 rw [Array.getElem?_append_left (by simpa using hb), Array.getElem?_modify, if_pos rfl, h]
 rfl
theorem yaj {enc : β → Value} [Inhabited β] {w : World} {b b' off n : Nat} {d : Array β} {os : Array Obj} (hb : b' < w.heap.size) (hne : b' ≠ b) : (grow (putRow enc (Sort.ahead w n) b off d) os).heap[b']? = w.heap[b']? := by
 show ((w.heap.modify b (onCells (putCells enc off d))) ++ os)[b']? = _
 rw [Array.getElem?_append_left (by simpa using hb), Array.getElem?_modify, if_neg (Ne.symm hne)]
theorem RowAt.put {b off : Nat} {cur : Array Value} {vs : List Value} (h : RowAt r s t T b off cap cur vs xs) (h1 : r.sz = 1) (ht : 0 < t) {enc : β → Value} [Inhabited β] {d : Array β} (hd : d.size = xs.length) (hy : ys.length = xs.length) (hr : ∀ j, j < d.size → ∀ h2 : j < ys.length, r.rd s [enc d[j]!] ys[j]) {w' : World} (hw : ∃ n os, w' = grow (putRow enc (Sort.ahead s.w n) b off d) os) :
  ∃ s', w' = s'.w ∧ Mv (One t) s s' ∧ RowT r s' t T (some ⟨b, off, none⟩) cap ys := by
 obtain ⟨n, os, rfl⟩ := hw
 have hb : b < s.w.heap.size := (Array.getElem?_eq_some_iff.1 h.heap).1
 refine ⟨⟨_, fun b => if b < s.w.heap.size then s.tag b else 0⟩, rfl, ⟨rfl, rfl, rfl, ?_, fun b' hb' hn => ⟨yaj hb' fun e => hn (by rw [e]; exact h.tag), if_pos hb'⟩⟩, ?_⟩
 ·show _ ≤ ((s.w.heap.modify b _) ++ os).size
  simp
 ·have hm : Mv (One t) s ⟨grow (putRow enc (Sort.ahead s.w n) b off d) os, fun b => if b < s.w.heap.size then s.tag b else 0⟩ := ⟨rfl, rfl, rfl, (by show _ ≤ ((s.w.heap.modify b _) ++ os).size; simp), fun b' hb' hn => ⟨yaj hb' fun e => hn (by rw [e]; exact h.tag), if_pos hb'⟩⟩
  have hle := hm.le (by show ¬ 0 = t; omega)
  have hcap := h.cap
  have hcs : ((putCells enc off d cur).toList.drop off).take (ys.length * 1) = (d.toList.map enc) := by
   rw [Nat.mul_one]
   apply List.ext_getElem?
   intro j
   rw [List.getElem?_take, List.getElem?_drop, List.getElem?_map]
   by_cases hj : j < ys.length
   ·rw [if_pos hj, Array.getElem?_toList, putCells, Array.getElem?_mapIdx, Array.getElem?_eq_getElem (by omega), Option.map_some, if_pos ⟨by omega, by omega⟩, Nat.add_sub_cancel_left, Array.getElem?_toList, Array.getElem?_eq_getElem (by omega), Option.map_some, getElem!_pos _ _ (by omega)]
   ·rw [if_neg hj, Array.getElem?_toList, Array.getElem?_eq_none (by omega)]; rfl
  refine ⟨d.toList.map enc, ⟨by rw [h1, Nat.mul_one, List.length_map, Array.length_toList]; omega, .inr ⟨b, off, cap, putCells enc off d cur, rfl, ⟨ycU h.heap, ?_, Nat.zero_le _⟩, by omega, hcap.2.1, ?_, by rw [h1]; exact hcs⟩⟩, Cells.of h1 (by simp; omega) fun j hj hj2 => ?_⟩
  ·show (if b < s.w.heap.size then s.tag b else 0) = t
   rw [if_pos hb]; exact h.tag
  ·rw [h1, Nat.mul_one, putCells, Array.size_mapIdx]; exact hcap.2.2
  ·have hjd : j < d.size := by simpa using hj
   have := hr j hjd hj2
   rw [getElem!_pos d j hjd] at this
   rw [List.getElem_map, Array.getElem_toList]
   exact r.mono hle this
theorem RowAt.holds {b off : Nat} {cur : Array Value} {vs : List Value} (h : RowAt r s t T b off cap cur vs xs) {enc : β → Value} [Inhabited β] {d : Array β} (hd : d.size = vs.length) (he : ∀ j (h : j < vs.length), enc d[j]! = vs[j]) : Holds enc s.w b off d := fun j hj => by
 have hc := h.cell j (by omega)
 refine ⟨?_, ?_⟩
 ·unfold World.cell?
  rw [h.heap]
  show cur[off + j]? = _
  rw [hc, he j (by omega)]
 ·unfold World.frozen?
  rw [h.heap]
  show (decide (0 ≤ off + j) && decide (off + j < 0)) = false
  simp
end
def isI (x : Int) : List Int → List Int
 | [] => [x]
 | y :: l => if x ≤ y then x :: y :: l else y :: isI x l
def isL : List Int → List Int
 | [] => []
 | x :: l => isI x (isL l)
theorem y9g (x : Int) : ∀ l : List Int, (isI x l).Perm (x :: l)
 | [] => .refl _
 | y :: l => by
  unfold isI
  split
  ·exact .refl _
  ·exact ((y9g x l).cons y).trans (.swap x y l)
theorem yb1 : ∀ l : List Int, (isL l).Perm l
 | [] => .refl _
 | x :: l => (y9g x _).trans ((yb1 l).cons x)
theorem ycV (x : Int) : ∀ {l : List Int}, l.Pairwise (· ≤ ·) → (isI x l).Pairwise (· ≤ ·)
 | [], _ => by simp [isI]
 | y :: l, h => by
  obtain ⟨h1, h2⟩ := List.pairwise_cons.1 h
  unfold isI
  split
  ·rename_i hxy
   refine List.pairwise_cons.2 ⟨fun z hz => ?_, h⟩
   rcases List.mem_cons.1 hz with rfl | hz
   ·exact hxy
   ·exact Int.le_trans hxy (h1 z hz)
  ·rename_i hxy
   refine List.pairwise_cons.2 ⟨fun z hz => ?_, ycV x h2⟩
   rcases List.mem_cons.1 ((y9g x l).mem_iff.1 hz) with rfl | hz
   ·omega
   ·exact h1 z hz
theorem ycW : ∀ l : List Int, (isL l).Pairwise (· ≤ ·)
 | [] => .nil
 | x :: l => ycV x (ycW l)
theorem yeE (l : List Int) : isL l = l.mergeSort fun x y => decide (x ≤ y) := by
 refine List.Perm.eq_of_pairwise (le := (· ≤ ·)) (fun a b _ _ h1 h2 => Int.le_antisymm h1 h2) (ycW l) ?_ ((yb1 l).trans (List.mergeSort_perm l _).symm)
 exact (List.pairwise_mergeSort (le := fun x y : Int => decide (x ≤ y)) (fun a b c h1 h2 => by simp at *; omega) (fun a b => by simp; omega) l).imp fun h => by simpa using h
def y5h (p0 : List Int) : Option (List Int) := if p0.length ≤ 4294967296 then some (isL p0) else none
theorem y8n {s : Sig} {p0 : List Int} {t0 : Nat} {a1 : Option Addr} {c1 : Nat} {r : List Int} (zt0 : 0 < t0) (h1 : RowT (rK .i64) s t0 3 a1 c1 p0) (hm : y5h p0 = some r) :
  Calls Tryz.prog 147 #[.slice a1 p0.length c1] s.w (RetS (One t0) s fun v s' => v = .tuple #[] ∧ RowT (rK .i64) s' t0 3 a1 c1 r) := by
 obtain ⟨hl, rfl⟩ : p0.length ≤ 4294967296 ∧ p0.mergeSort (fun x y => decide (x ≤ y)) = r := by
  unfold y5h at hm
  rw [yeE] at hm
  split at hm
  ·exact ⟨by assumption, Option.some.inj hm⟩
  ·cases hm
 rcases h1.seen rfl with ⟨rfl, rfl, rfl⟩ | ⟨b, off, cur, vs, rfl, h⟩
 ·refine (Tryz.slices_Sort_int_none none 0 s.w).mono ?_
  rintro e w' ⟨rfl, rfl⟩
  exact ⟨_, s, rfl, rfl, Mv.refl _ _, rfl, by simpa using RowT.nil⟩
 ·have hv : ∀ j (h2 : j < vs.length) (h3 : j < p0.length), vs[j] = .int .i64 p0[j] := fun j h2 h3 => by
   have := h.rd j h2 h3
   exact List.head_eq_of_cons_eq this
  have hlen := h.len
  have hb : b < s.w.heap.size := (Array.getElem?_eq_some_iff.1 h.heap).1
  refine (Tryz.slices_Sort_int b off c1 p0 s.w (h.holds (by simp [hlen]) fun j hj => ?_) hb (by omega)).mono ?_
  ·rw [hv j hj (by omega), getElem!_pos _ _ (by simp; omega)]
   simp
  ·rintro e w' ⟨rfl, hw⟩
   obtain ⟨s', hw', hm, hr⟩ := h.put rfl zt0 (ys := p0.mergeSort fun x y => decide (x ≤ y)) (by simp) (by simp) (fun j hj h2 => by
    have e := getElem!_pos (p0.mergeSort fun x y => decide (x ≤ y)).toArray j hj
    rw [e]
    show [_] = [_]
    simp) hw
   exact ⟨_, s', hw', rfl, hm, rfl, hr⟩
end Go.Proofs.YtidakgbibobbdaaGreatDoor
namespace Go.Proofs.YtidakgbibobbdaaGreatDoor
open Go Go.RowKit
noncomputable section
def Yd (P : Program) (l N : Nat) (enc : Nat → List Value) (J : Nat → Sig → Prop) : Prop :=
 ∀ k, k < N → ∀ s, J k s → YieldAt Fence.wide 2 P l (enc k).toArray s.w fun e W' => e = .returned (.bool true) ∧ ∃ s', W' = s'.w ∧ Le s s' ∧ J (k + 1) s'
def FI (P : Program) (s : Sig) (v : Value) (N : Nat) (enc : Nat → List Value) : Prop :=
 ∃ gf lb, v = .func (.func gf) #[] lb ∧ Cf P gf ∧ ∀ (l : Nat) (J : Nat → Sig → Prop) (s1 : Sig), Le s s1 → (∀ k a b, J k a → Mv No a b → J k b) → Yd P l N enc J → J 0 s1 →
  Calls P gf (#[.func (.yield l) #[] #[]] ++ lb) s1.w fun e W' => (∃ v, e = .returned v) ∧ ∃ s2, W' = s2.w ∧ J N s2
theorem FI.mono {P : Program} {s s' : Sig} {v : Value} {N : Nat} {enc : Nat → List Value} (h : FI P s v N enc) (m : Le s s') : FI P s' v N enc := by
 obtain ⟨gf, lb, e, hc, h⟩ := h
 exact ⟨gf, lb, e, hc, fun l J s1 h1 h2 h3 h4 => h l J s1 (m.trans h1) h2 h3 h4⟩
def Lf (s0 s : Sig) : Prop := Le s0 s
theorem Lf.mono {s0 s s' : Sig} (h : Lf s0 s) (m : Le s s') : Lf s0 s' := Le.trans h m
structure Rc (s : Sig) (t u D : Nat) (r : Loop) : Prop where
 lp : s.w.heap[D + 1]? = some (.loop r)
 mark : s.w.heap[D]? = some (.deferred (some []))
 tr : s.tag (D + 1) = t
 tm : s.tag D = u
theorem Rc.mv {S : Nat → Prop} {s s' : Sig} {t u D : Nat} {r : Loop} (h : Rc s t u D r) (m : Mv S s s') (hn : ¬ S t) (hu : ¬ S u) : Rc s' t u D r := by
 obtain ⟨g1, g2⟩ := m.blk (D + 1) (Array.getElem?_eq_some_iff.1 h.lp).1 (by rw [h.tr]; exact hn)
 obtain ⟨g3, g4⟩ := m.blk D (Array.getElem?_eq_some_iff.1 h.mark).1 (by rw [h.tm]; exact hu)
 exact ⟨g1.trans h.lp, g3.trans h.mark, g2.trans h.tr, g4.trans h.tm⟩
structure Mk (s : Sig) (t D : Nat) : Prop where
 mark : s.w.heap[D]? = some (.deferred (some []))
 tm : s.tag D = t
theorem Rc.put {s : Sig} {t u D : Nat} {r : Loop} (h : Rc s t u D r) (r' : Loop) : Mv (One t) s ⟨s.w.putObj (D + 1) (.loop r'), s.tag⟩ ∧ Rc ⟨s.w.putObj (D + 1) (.loop r'), s.tag⟩ t u D r' := by
 have hl := (Array.getElem?_eq_some_iff.1 h.lp).1
 refine ⟨⟨rfl, rfl, rfl, by simp [World.putObj], fun b hb hn => ⟨World.putObj_heap_other fun e => hn ?_, rfl⟩⟩, ⟨World.putObj_heap_same hl, (World.putObj_heap_other (by omega)).trans h.mark, h.tr, h.tm⟩⟩
 subst e; exact h.tr
def Env.zp : List Nat → List Value → List (Nat × Value) → List (Nat × Value)
 | p :: ps, v :: vs, e => Env.zp ps vs ((p, v) :: e)
 | _, _, e => e
theorem Fits.zp {Φ : Fr} {n : Nat} : ∀ {ps : List Nat} {vs : List Value} {e : List (Nat × Value)} {a : Act}, (∀ p ∈ ps, p < n) → Fits Φ n e a →
  Fits Φ n (Env.zp ps vs e) { a with tmps := (ps.zip vs).foldl (fun t (p, v) => t.setIfInBounds p v) a.tmps }
 | [], _, _, _, _, h => by simpa [Env.zp] using h
 | _ :: _, [], _, _, _, h => by simpa [Env.zp] using h
 | p :: ps, v :: vs, e, a, hp, h => by
  have := Fits.zp (ps := ps) (vs := vs) (fun q hq => hp q (List.mem_cons_of_mem _ hq)) (h.put (d := p) (by simpa using hp p (List.mem_cons_self ..)) v)
  simpa [Env.zp, Act.put] using this
def RQ (K : Sig → Prop) : Exit → Act → World → Prop
 | .normal, _, W => ∃ c : Sig, W = c.w ∧ K c
 | _, _, _ => False
def RB (Φ : Fr) (P : Program) (l : Nat) (body : Code) (K : Sig → Prop) (a : Act) (w : World) : Prop := ∃ w₂, (Instr.beginRound l).run P w = .ok () w₂ ∧ body.wpIn Φ.f 2 P (RQ K) a w₂
theorem X.beg {Φ : Fr} {P : Program} {n t u D : Nat} {r : Loop} {body : Code} {K : Sig → Prop} {e : List (Nat × Value)} {s : Sig} (h : Rc s t u D r) (hr : r.state = .ready)
  (hb : ∀ s', Mv (One t) s s' → Rc s' t u D { r with state := .busy } → E Φ P (RQ K) n body e s'.w) : X Φ (Exit.then (RB Φ P (D + 1) body K) (fun _ _ _ => False)) n .normal e s.w := fun a ha =>
 ⟨_, run_beginRound h.lp hr, hb _ (h.put _).1 (h.put _).2 a ha⟩
theorem X.rnd {Φ : Fr} {n : Nat} {K : Sig → Prop} {e : List (Nat × Value)} {s : Sig} (h : K s) : X Φ (RQ K) n .normal e s.w := fun _ _ => ⟨s, rfl, h⟩
theorem E.range {ds : List Deferred} {P : Program} {Q : Exit → Act → World → Prop} {n : Nat} {e : List (Nat × Value)} {s : Sig} {g : Operand} {ps : Array Tmp} {assign body : Code} {v : Value} {N : Nat} {enc : Nat → List Value} (t u : Nat) (ht : t ≠ 0) (htu : t ≠ u)
  (J : Nat → Sig → Prop) (hg : Env.ev e g = some v) (hit : FI P s v N enc) (hps : ∀ k, (enc k).length = ps.size) (hpn : ∀ p ∈ ps.toList, p < n) (h0 : J 0 s)
  (hbody : ∀ (k D : Nat) (r : Loop) (a b : Sig), k < N → J k a → Mv (One t) a b → Rc b t u D r → r.state = .ready →
   E ⟨some (D + 1), []⟩ P (Exit.then (RB ⟨some (D + 1), []⟩ P (D + 1) body (fun c => J (k + 1) c ∧ Rc c t u D { r with state := .busy } ∧ Le b c)) (fun _ _ _ => False)) n assign (Env.zp ps.toList (enc k) e) b.w)
  (hend : ∀ (D : Nat) (a b : Sig), s.w.heap.size ≤ D → J N a → Mv (One t) a b → Mk b u D → X ⟨none, mark D :: ds⟩ Q n .normal e b.w) : E ⟨none, ds⟩ P Q n (.rangeFunc g ps assign body) e s.w := by
 obtain ⟨gf, lb, rfl, hcf, hit⟩ := hit
 intro ac ha
 refine wpIn_rangeFunc ?_
 intro fn _
 obtain ⟨r0, hr0⟩ : ∃ r0 : Loop, r0 = { state := .ready, pending := none, fn, tmps := ac.tmps, params := ps, assign, body, defers := s.w.heap.size } := ⟨_, rfl⟩
 obtain ⟨W1, hW1⟩ : ∃ W1, (s.w.alloc (.deferred (some []))).alloc (.loop r0) = W1 := ⟨_, rfl⟩
 have hsz : (s.w.alloc (.deferred (some []))).heap.size = s.w.heap.size + 1 := World.size_alloc _ _
 have hL1 : W1.heap[s.w.heap.size + 1]? = some (.loop r0) := by
  rw [← hW1]; have := World.alloc_heap_new (s.w.alloc (.deferred (some []))) (.loop r0); rwa [World.size_alloc] at this
 have hK1 : W1.heap[s.w.heap.size]? = some (.deferred (some [])) := by
  rw [← hW1]; exact (Below.heap_alloc _ _ _ (by simp)).trans (World.alloc_heap_new s.w _)
 have hb1 : Below s.w.heap.size s.w W1 := by
  rw [← hW1]; exact ((Below.refl _ s.w).alloc (Nat.le_refl _) _).alloc (by simp) _
 obtain ⟨tg, htg⟩ : ∃ tg : Nat → Nat, tg = fun b => if b < s.w.heap.size then s.tag b else if b = s.w.heap.size then u else t := ⟨_, rfl⟩
 have hm1 : Mv No s ⟨W1, tg⟩ := Below.mv hb1 fun b hb => by rw [htg]; exact if_pos hb
 have hRc1 : Rc ⟨W1, tg⟩ t u s.w.heap.size r0 := ⟨hL1, hK1, by rw [htg]; exact (if_neg (by omega)).trans (if_neg (by omega)), by rw [htg]; exact (if_neg (by omega)).trans (if_pos rfl)⟩
 have hev : ac.eval g = .func (.func gf) #[] lb := ha.ev hg
 refine ⟨s.w.heap.size + 1, [{ target := .collected s.w.heap.size, args := #[] }], W1, { target := .fn (.func gf) lb, args := #[.func (.yield (s.w.heap.size + 1)) #[] #[]] }, W1, gf,
  #[.func (.yield (s.w.heap.size + 1)) #[] #[]] ++ lb, W1, ?_, ?_, ?_, ?_, fun e => (by cases e), ?_⟩
 ·rw [← hW1, hr0]; exact run_enterLoop_outer _ _ _ _ _
 ·simp only [resolve, hev]
  simp [go_sem]
 ·intro f' _; trivial
 ·have := hcf (#[.func (.yield (s.w.heap.size + 1)) #[] #[]] ++ lb) W1
  simp [invoke, go_sem] at this ⊢
  exact this
 ·obtain ⟨J', hJ'⟩ : ∃ J' : Nat → Sig → Prop, J' = fun k b => (∃ a, J k a ∧ Mv (One t) a b) ∧ Rc b t u s.w.heap.size r0 := ⟨_, rfl⟩
  have h := hit (s.w.heap.size + 1) J' ⟨W1, tg⟩ (hm1.le no_No) (by
   intro k a b hk hm
   rw [hJ'] at hk ⊢
   obtain ⟨⟨a0, h1, h2⟩, h3⟩ := hk
   exact ⟨⟨a0, h1, h2.trans hm.no⟩, h3.mv hm no_No no_No⟩) (by
   intro k hkN a hk
   rw [hJ'] at hk ⊢
   obtain ⟨⟨a0, h1, h2⟩, h3⟩ := hk
   have hy := run_yield (P := P) (args := (enc k).toArray) h3.lp (by rw [hr0]; simpa using hps k)
   rw [hr0] at hy
   refine ⟨fn, _, assign, body, hy, roundIn_of_wpIn trivial ?_⟩
   have hf0 : Fits ⟨some (s.w.heap.size + 1), []⟩ n e { tmps := ac.tmps, defers := [] } := ⟨ha.size, rfl, ha.has⟩
   have hf := hf0.zp (ps := ps.toList) (vs := enc k) hpn
   have hfold : (Array.zip ps (enc k).toArray).foldl (fun t (x : Tmp × Value) => t.setIfInBounds x.1 x.2) ac.tmps = (ps.toList.zip (enc k)).foldl (fun t (x : Nat × Value) => t.setIfInBounds x.1 x.2) ac.tmps := by
    rw [← Array.foldl_toList, Array.toList_zip]
   have hb := hbody k s.w.heap.size r0 a0 a hkN h1 h2 h3 (by rw [hr0]) _ hf
   rw [← hfold] at hb
   refine wpIn_mono hb fun ex a1 w1 hq => ?_
   cases ex <;> first | exact hq | skip
   obtain ⟨w2, hq1, hq2⟩ := hq
   refine ⟨w2, hq1, wpIn_mono hq2 fun ex a3 w3 hq => ?_⟩
   cases ex <;> first | exact hq.elim | skip
   obtain ⟨c, rfl, hJc, hRc, hle⟩ := hq
   obtain ⟨g1, g2⟩ := hRc.put r0
   have hend := run_endRound (P := P) none hRc.lp
   refine ⟨_, _, hend, rfl, ⟨c.w.putObj (s.w.heap.size + 1) (.loop r0), c.tag⟩, ?_, hle.trans (g1.le (Ne.symm ht)), ⟨c, hJc, g1⟩, g2⟩
   rw [hr0]; rfl) (by
   rw [hJ']
   exact ⟨⟨s, h0, hm1.no⟩, hRc1⟩)
  refine (callsIn_wide (n := 1)).2 (h.mono ?_)
  rintro en W2 ⟨⟨vv, rfl⟩, s2, rfl, h5⟩
  rw [hJ'] at h5
  obtain ⟨⟨a0, h1, h2⟩, h3⟩ := h5
  obtain ⟨g1, g2⟩ := h3.put { r0 with state := .exhausted, pending := none }
  have hen := run_endLoop (P := P) h3.lp (by rw [hr0]; simp)
  rw [show r0.pending = none by rw [hr0]] at hen
  refine ⟨none, _, hen, ?_⟩
  refine hend s.w.heap.size a0 _ (Nat.le_refl _) h1 (h2.trans g1) ⟨g2.mark, g2.tm⟩ _ ?_
  exact ⟨ha.size, by rw [← show ac.defers = ds from ha.defers]; rfl, ha.has⟩
theorem L.opIn {Φ : Fr} {P : Program} {Q : Exit → Act → World → Prop} {n : Nat} {e : List (Nat × Value)} {w : World} {ops : Array Oper} {os : List Oper} {o : Oper} (hw : Wt ops e o.guard) (h : ∀ a, Fits Φ n e a → ∀ K : Act → World → Prop, (∀ e' a' w', Fits Φ n e' a' → L Φ P Q n ops os e' w' → K a' w') → o.wpIn Φ.f 2 P a w K Q) : L Φ P Q n ops (o :: os) e w := fun is his a ha => by
 cases is with
 | nil => cases his
 | cons i rest =>
  simp only [List.map_cons, List.cons.injEq] at his
  obtain ⟨h1, h2⟩ := his
  simp only [wpOpsIn, h1]
  rw [if_pos (Wt.wanted ha hw)]
  exact h a ha _ fun e' a' w' hf hl => hl rest h2 a' hf
theorem L.yd {P : Program} {Q : Exit → Act → World → Prop} {n : Nat} {e : List (Nat × Value)} {s : Sig} {ops : Array Oper} {os : List Oper} {d : Nat} {ty : TypeId} {pos : String} {af : Array Edge} {g : Option (Nat × Bool)} {c : Call} {x : Operand} {xs : List Operand} {l N k : Nat} {enc : Nat → List Value} {J : Nat → Sig → Prop}
  (hY : Yd P l N enc J) (hk : k < N) (hJ : J k s) (hc : c.callee = .value x) (hca : c.args = xs.toArray) (hw : Wt ops e g) (hx : Env.ev e x = some (.func (.yield l) #[] #[])) (hxs : Env.evs e xs = some (enc k)) (hd : Nat.blt d n = true)
  (h : ∀ s', Le s s' → J (k + 1) s' → L Fr.o P Q n ops os ((d, .bool true) :: e) s'.w) : L Fr.o P Q n ops (⟨some d, .call c, ty, pos, af, g⟩ :: os) e s.w :=
 L.opIn hw fun ac ha K hK => by
  obtain ⟨fn, tmps, assign, body, hy, hR⟩ := hY k hk s hJ
  refine ⟨fun _ _ => trivial, ?_⟩
  have h2 : c.args.map ac.eval = (enc k).toArray := by rw [hca, List.map_toArray, ha.evs hxs]
  have h3 : ac.eval x = .func (.yield l) #[] #[] := ha.ev hx
  have hrun : (Oper.semAt Fr.o.f.round ac.eval ⟨some d, .call c, ty, pos, af, g⟩).run P s.w = .ok (.round l fn tmps assign body) s.w := by
   show (execOp ac.eval ⟨some d, .call c, ty, pos, af, g⟩).run P s.w = _
   simp [execOp, resolve, hc, h2, h3, Deferred.ofValue, invoke, hy]
  rw [hrun]
  refine ⟨fun e => (by cases e), ?_⟩
  have hR1 : RoundIn Fr.o.f (2 - 1) P l fn tmps assign body s.w fun e W' => e = .returned (.bool true) ∧ ∃ s', W' = s'.w ∧ Le s s' ∧ J (k + 1) s' := ⟨trivial, fun c cs hr => hR.2 c cs (fun d hd => by cases hd)⟩
  refine hR1.mono ?_
  rintro en W' ⟨rfl, s', rfl, hle, hJ'⟩
  exact hK _ _ _ (ha.put hd (.bool true)) (h s' hle hJ')
def rngF {S : Type} (f : Nat → S → Option S) : Nat → Nat → S → Option S
 | 0, _, s => some s
 | m + 1, k, s => (f k s).bind (rngF f m (k + 1))
theorem ydE {S : Type} {f : Nat → S → Option S} {N k : Nat} {s o : S} (hk : k < N) (h : rngF f (N - k) k s = some o) : ∃ s', f k s = some s' ∧ rngF f (N - (k + 1)) (k + 1) s' = some o := by
 rw [show N - k = (N - (k + 1)) + 1 by omega, rngF] at h
 exact Option.bind_eq_some_iff.1 h
theorem yep {S : Type} {f : Nat → S → Option S} {N : Nat} {s o : S} (h : rngF f (N - N) N s = some o) : s = o := by
 rw [Nat.sub_self, rngF] at h
 exact Option.some.inj h
def Mks (s : Sig) (t : Nat) (ds : List Deferred) : Prop := ∃ Ds : List Nat, ds = Ds.map mark ∧ Ds.Nodup ∧ ∀ D ∈ Ds, s.w.heap[D]? = some (.deferred (some [])) ∧ s.tag D = t
theorem Mks.nil {s : Sig} {t : Nat} : Mks s t [] := ⟨[], rfl, List.nodup_nil, fun _ h => by cases h⟩
theorem Mks.mv {S : Nat → Prop} {s s' : Sig} {t : Nat} {ds : List Deferred} (h : Mks s t ds) (m : Mv S s s') (hn : ¬ S t) : Mks s' t ds := by
 obtain ⟨Ds, h1, h2, h3⟩ := h
 refine ⟨Ds, h1, h2, fun D hD => ?_⟩
 obtain ⟨g1, g2⟩ := h3 D hD
 obtain ⟨g3, g4⟩ := m.blk D (Array.getElem?_eq_some_iff.1 g1).1 (by rw [g2]; exact hn)
 exact ⟨g3.trans g1, g4.trans g2⟩
theorem Mks.old {s : Sig} {t : Nat} {ds : List Deferred} (h : Mks s t ds) : ∀ D, mark D ∈ ds → D < s.w.heap.size := by
 obtain ⟨Ds, rfl, _, h3⟩ := h
 intro D hD
 obtain ⟨D', h4, h5⟩ := List.mem_map.1 hD
 cases h5
 exact (Array.getElem?_eq_some_iff.1 (h3 _ h4).1).1
theorem Mks.cons {s : Sig} {t D N : Nat} {ds : List Deferred} (h : Mks s t ds) (ho : ∀ D, mark D ∈ ds → D < N) (hD : N ≤ D) (hk : Mk s t D) : Mks s t (mark D :: ds) := by
 obtain ⟨Ds, rfl, h2, h3⟩ := h
 refine ⟨D :: Ds, rfl, List.nodup_cons.2 ⟨fun hm => ?_, h2⟩, fun D' hD' => ?_⟩
 ·have := ho D (List.mem_map.2 ⟨D, hm, rfl⟩); omega
 ·rcases List.mem_cons.1 hD' with rfl | h4
  ·exact ⟨hk.mark, hk.tm⟩
  ·exact h3 D' h4
theorem ybF {F : Fence} {n : Nat} {P : Program} {fn : Func} {tmps : Array Value} {R : Ending → World → Prop} {t : Nat} : ∀ (Ds : List Nat) (s : Sig), Ds.Nodup → (∀ D ∈ Ds, s.w.heap[D]? = some (.deferred (some [])) ∧ s.tag D = t) →
  (∀ s', Mv (One t) s s' → ∃ v, (results fn tmps).run P s'.w = .ok v s'.w ∧ R (.returned v) s'.w) → LeavesInM F n P fn tmps R (Ds.map mark) .returning s.w
 | [], s, _, _, hfin => hfin s (Mv.refl _ _)
 | D :: Ds, s, hnd, hD, hfin => by
  obtain ⟨hd, ht⟩ := hD D (List.mem_cons_self ..)
  have hm : Mv (One t) s ⟨s.w.putObj D (.deferred none), s.tag⟩ := by
   refine ⟨rfl, rfl, rfl, by simp [World.putObj], fun b hb hn => ⟨World.putObj_heap_other fun e => hn ?_, rfl⟩⟩
   subst e; exact ht
  refine ⟨by simp, .inl ⟨D, _, rfl, run_takeDeferred hd, ybF Ds ⟨s.w.putObj D (.deferred none), s.tag⟩ (List.nodup_cons.1 hnd).2 (fun D' hD' => ⟨?_, (hD D' (List.mem_cons_of_mem _ hD')).2⟩) fun s' hs' => hfin s' (hm.trans hs')⟩⟩
  show (s.w.putObj D (.deferred none)).heap[D']? = _
  rw [World.putObj_heap_other ?_]
  ·exact (hD D' (List.mem_cons_of_mem _ hD')).1
  ·rintro rfl; exact (List.nodup_cons.1 hnd).1 hD'
theorem X.lv {P : Program} {fn : Func} {R : Ending → World → Prop} {n t : Nat} {e : List (Nat × Value)} {s : Sig} {ds : List Deferred} {x : Exit} (hx : x = .ret ∨ x = .normal) (hk : Mks s t ds) (h : ∀ s', Mv (One t) s s' → X Fr.o (bodyPost P fn R) n x e s'.w) :
  X ⟨none, ds⟩ (bodyPostM Fence.wide 4 P fn R) n x e s.w := fun a ha => by
 obtain ⟨Ds, rfl, h2, h3⟩ := hk
 have hl : LeavesInM Fence.wide 4 P fn a.tmps R (Ds.map mark) .returning s.w := ybF Ds s h2 h3 fun s' hs' => by
  have := h s' hs' { a with defers := [] } ⟨ha.size, rfl, ha.has⟩
  rcases hx with rfl | rfl
  ·exact this.2
  ·exact this.2
 obtain ⟨tmps, dd⟩ := a
 obtain rfl : dd = Ds.map mark := ha.defers
 rcases hx with rfl | rfl
 ·exact hl
 ·exact hl
theorem E.entryM {P : Program} {f : FuncId} {fn : Func} {c : Code} {vs : List Value} {w : World} {R : Ending → World → Prop} {n : Nat} {e : List (Nat × Value)} (hf : P.funcs[f]? = some fn) (hb : fn.body = some c) (hn : fn.ntmps = n) (hv : Nat.ble vs.length n = true) (he : Env.ofArgs 0 vs = e)
  (h : E Fr.o P (bodyPostM Fence.wide 4 P fn R) n c e w) : Calls P f vs.toArray w R := by
 subst hn
 subst he
 have hv' : vs.length ≤ fn.ntmps := Nat.le_of_ble_eq_true hv
 refine y7y hf hb ((wpIn_wide (n := 2)).1 (h _ ⟨by simp; omega, rfl, fun d v hg => ?_⟩))
 obtain ⟨_, h2⟩ := Env.get_ofArgs hg
 have hl := (List.getElem?_eq_some_iff.1 h2).1
 rw [Nat.sub_zero] at h2 hl
 rw [Array.getElem?_append_left (by simpa using hl)]
 simpa using h2
theorem vlNi : NAg Tryz.prog 22 := NAg.mk' Tryz.underlying22 rfl (by kernel_rfl)
theorem vlNn : NAg Tryz.prog 3 := NAg.mk' Tryz.underlying3 rfl (by kernel_rfl)
theorem vlSi : Sl Tryz.prog 22 3 1 := Sl.mk' Tryz.underlying22 (by kernel_rfl)
theorem vlCf : Cf Tryz.prog 148 := Cf.mk Tryz.func148 (by kernel_rfl) (by kernel_rfl)
def y4n (p0 : List Int) : Option (List Int) := if p0.length ≤ 4294967296 then some p0 else none
theorem yc4 {s : Sig} {q0 : List Int} {a1 : Option Addr} {c1 : Nat} {b2 : Nat} (h1 : RdL (rK .i64) s a1 c1 q0) (bx2 : Bx s 0 b2 #[.slice a1 q0.length c1] 22) (hlen : q0.length ≤ 4294967296) :
    FI Tryz.prog s (.func (.func 148) #[] #[.pointer (some ⟨b2, 0, none⟩)]) q0.length (fun k => encI (q0.getD k 0)) := by
 refine ⟨148, #[.pointer (some ⟨b2, 0, none⟩)], rfl, vlCf, fun l J s1 hle hcl hY h0 => ?_⟩
 replace h1 := h1.mono hle
 replace bx2 := bx2.le hle
 have hW : ∀ i : Nat, i < 4294967296 → W ((i : Int) + 1) = ((i + 1 : Nat) : Int) := fun i hi => by rw [show W ((i : Int) + 1) = (i : Int) + 1 from IntWalk.i64_in _ (by omega)]; rfl
 obtain ⟨f, hf⟩ : ∃ f : Int → Option (Int ⊕ Unit), f = fun i => if decide (i < (q0.length : Int)) then some (.inl (W (i + 1))) else some (.inr ()) := ⟨_, rfl⟩
 have hit : iter f 0 = some () := by
  refine ydp (fun i => (i : Int)) q0.length (by omega) (fun i hi => ?_) ?_
  · rw [hf]
    show (if decide ((i : Int) < (q0.length : Int)) then some (Sum.inl (W ((i : Int) + 1))) else some (Sum.inr ())) = some (Sum.inl (((i + 1 : Nat) : Int)))
    rw [if_pos (by simpa using hi), hW i (by omega)]
  · rw [hf]
    show (if decide ((q0.length : Int) < (q0.length : Int)) then some (Sum.inl (W ((q0.length : Int) + 1))) else some (Sum.inr ())) = some (Sum.inr ())
    rw [if_neg (by simp)]
 refine E.entry (vs := [.func (.yield l) #[] #[], .pointer (some ⟨b2, 0, none⟩)]) Tryz.func148 rfl Tryz.ntmps148 rfl rfl (E.seq (E.reg (L.ld (j := 0) bx2.mem vlNi Wt.no rfl rfl rfl rfl (L.len vlSi Wt.no rfl rfl (L.mv Wt.no rfl rfl (L.nil (X.seqN (E.block ?_))))))))
 refine E.cut (x := .exit 0) (fun e w => ∃ (s46 : Sig), J q0.length s46 ∧ e = [] ∧ w = s46.w) ?_ ?_
 · rintro _ _ ⟨s46, hJ, rfl, rfl⟩
   refine X.blkE ?_
   exact X.rt (.inr rfl) Tryz.results148 Rs.nil rfl ⟨⟨_, rfl⟩, s46, rfl, hJ⟩
 intro K47
 refine E.iter (fun (st43 : Int) (e : List (Nat × Value)) (w : World) => ∃ (k : Nat) (s44 : Sig), st43 = (k : Int) ∧ k ≤ q0.length ∧ J k s44 ∧ RdL (rK .i64) s44 a1 c1 q0 ∧ e = [(7, .int .i64 st43), (6, .int .i64 (q0.length : Int)), (5, .slice a1 q0.length c1), (0, .func (.yield l) #[] #[])] ∧ w = s44.w) hit ⟨0, s1, rfl, Nat.zero_le _, h0, h1, rfl, rfl⟩ (Sub.rf rfl) ?_
 rintro st43 res43 hm ih43 ho43 _ _ ⟨k, s44, rfl, hk, hJ, h1, rfl, rfl⟩
 rw [hf] at hm
 refine E.seq (E.reg (L.bi Wt.no rfl rfl rfl rfl (L.nil (X.seqN (E.seq ?_)))))
 rcases ifS hm with ⟨hc, hm⟩ | ⟨hc, hm⟩
 · refine E.cT rfl hc (E.skip (X.seqN (E.seq (E.block (E.seq (E.reg ?_))))))
   have hk2 : k < q0.length := by simpa using hc
   have ex18 : idx q0 (k : Int) = some q0[k] := by unfold idx; rw [if_pos (by omega), Int.toNat_natCast, yGe hk2]
   have henc : [Value.int .i64 q0[k]] = encI (q0.getD k 0) := by rw [List.getD_eq_getElem?_getD, yGe hk2]; rfl
   generalize q0[k] = x18 at ex18 henc
   refine L.ix (r := (rK .i64)) vlSi h1 Wt.no rfl rfl ex18 rfl fun b19 o19 cc19 me19 rd19 => ?_
   obtain rfl := rd19
   refine L.ld (j := 0) me19 vlNn Wt.no rfl rfl rfl rfl (L.as Wt.no rfl rfl (L.nil (X.seqN (E.seq (E.reg (L.mv Wt.no rfl rfl (L.mv Wt.no rfl rfl ?_)))))))
   refine L.yd (x := .tmp 11) (xs := [.tmp 12]) hY hk2 hJ rfl rfl Wt.no rfl (by rw [← henc]; rfl) rfl fun s59 hle59 hJ => ?_
   have h1 := h1.mono hle59
   refine L.not Wt.no rfl rfl (L.nil (X.seqN (E.cF rfl rfl (E.skip (X.blkN (X.seqN (E.reg (L.bi Wt.no rfl rfl rfl rfl (L.mv Wt.no rfl rfl (L.nil (X.sub (ih43 _ (Option.some.inj hm).symm _ _ ⟨k + 1, s59, ?_, hk2, hJ, h1, rfl, rfl⟩) (Sub.rf rfl))))))))))))
   exact hW k (by omega)
 refine E.cF rfl hc (E.exit (X.seqX (X.seqX ?_)))
 have hkl : k = q0.length := by simp at hc; omega
 subst hkl
 exact X.sub (K47 _ _ ⟨s44, hJ, rfl, rfl⟩) Sub.nil
theorem y7A {s : Sig} {p0 : List Int} {a1 : Option Addr} {c1 : Nat} {r : List Int} (h1 : RdL (rK .i64) s a1 c1 p0) (hm : y4n p0 = some r) :
    Calls Tryz.prog 109 #[.slice a1 p0.length c1] s.w (RetS No s fun v s' => FI Tryz.prog s' v r.length (fun k => encI (r.getD k 0))) := by
 obtain ⟨hlen, rfl⟩ : p0.length ≤ 4294967296 ∧ p0 = r := by
  unfold y4n at hm
  split at hm
  · exact ⟨by assumption, Option.some.inj hm⟩
  · cases hm
 obtain ⟨N, hN, hNb⟩ := s.fresh
 have m0 : Mv (Up N No) s s := Mv.refl _ _
 refine E.entry (vs := [.slice a1 p0.length c1]) Tryz.func109 rfl Tryz.ntmps109 rfl rfl (E.seq (E.reg (L.box (N + 0) Wt.no rfl rfl rfl fun b1 s2 m3 bx1 => ?_)))
 replace m0 := m0.trans m3.no
 replace h1 := h1.mono (m3.le no_No)
 refine L.as Wt.no rfl rfl (L.nil (X.seqN (E.seq (E.reg (L.mf Wt.no rfl rfl rfl (L.as Wt.no rfl rfl (L.nil (X.seqN (E.ret ?_)))))))))
 refine X.rt (.inl rfl) Tryz.results109 (Rs.tmp rfl Rs.nil) rfl ⟨_, s2.ren N (fun _ => 0), rfl, rfl, m0.ren hNb, ?_⟩
 have hr : ∀ {k b : Nat} {cs : Array Value} {T : TypeId}, Bx s2 (N + k) b cs T → Bx (s2.ren N (fun _ => 0)) 0 b cs T := fun h => ⟨h.heap, by simp [Sig.ren, h.htag]⟩
 exact yc4 (h1.ren hN) (hr bx1) hlen
theorem bs22 : Bs Tryz.prog 22 3 1 [.int .i64 0] := Bs.mk' Tryz.underlying22 (by kernel_rfl) (by kernel_rfl) rfl
theorem el3 : El Tryz.prog 3 1 8 := El.mk' (z := .int .i64 0) (by kernel_rfl) (by kernel_rfl) (by kernel_rfl) rfl
theorem nag22 : NAg Tryz.prog 22 := NAg.mk' Tryz.underlying22 rfl (by kernel_rfl)
def y3a (x22 : Int) (st20 : List Int) : Option (List Int) :=
 (app st20 ([x22] : List Int)).bind fun x32 =>
 some x32
def y4z (p0 : List Int) (p1 : List (Int)) : Option (List Int) :=
 (rngF (fun k => y3a (p1.getD k 0)) p1.length 0 p0).bind fun o20 =>
 some o20
theorem y6H {s : Sig} {p0 : List Int} {p1 : List (Int)} {t0 : Nat} {a1 : Option Addr} {c1 : Nat} {vp1 : Value} {r : List Int} (zt0 : 0 < t0) (h1 : RowT (rK .i64) s t0 3 a1 c1 p0) (hp1 : FI Tryz.prog s vp1 p1.length (fun k => encI (p1.getD k 0))) (hm : y4z p0 p1 = some r) :
  Calls Tryz.prog 168 #[.slice a1 p0.length c1, vp1] s.w (RetS (One t0) s fun v s' => ∃ (a2 : Option Addr) (c2 : Nat), v = .slice a2 r.length c2 ∧ RowT (rK .i64) s' t0 3 a2 c2 r) := by
 unfold y4z at hm
 obtain ⟨N, hN, hNb, lt0, -⟩ := s.freshL [t0]
 have m0 : Mv (Up N (One t0)) s s := Mv.refl _ _
 have mk0 : Mks s (N + 0) [] := Mks.nil
 refine E.entryM (vs := [.slice a1 p0.length c1, vp1]) (e := [(0, .slice a1 p0.length c1), (1, vp1)]) Tryz.func168 rfl Tryz.ntmps168 rfl rfl ?_
 refine E.seq ?_
 refine E.reg ?_
 refine L.box (N + 1) Wt.no rfl rfl rfl ?_
 intro b3 s4 m5 bx3
 replace m0 := m0.trans m5.no
 replace hp1 := hp1.mono (m5.le no_No)
 replace mk0 := mk0.mv m5 no_No
 replace h1 := h1.mv m5 no_No no_No
 refine L.as Wt.no rfl rfl ?_
 refine L.nil ?_
 refine X.seqN ?_
 refine E.seq ?_
 refine E.seq ?_
 refine E.reg ?_
 refine L.mv Wt.no rfl rfl ?_
 refine L.nil ?_
 refine X.seqN ?_
 refine E.block ?_
 obtain ⟨o20, eo20, hm⟩ := bindS hm
 have mko20 := mk0.old
 refine E.range (N + 2) (N + 0) (tgn hN) (by omega) (fun (k : Nat) (s21 : Sig) => ∃ (st20 : List Int) (a7 : Option Addr) (c7 : Nat), rngF (fun k => y3a (p1.getD k 0)) (p1.length - k) k st20 = some o20 ∧ Mv (Up N (One t0)) s s21 ∧ RowT (rK .i64) s21 t0 3 a7 c7 st20 ∧ Mks s21 (N + 0) [] ∧ Bx s21 (N + 1) b3 #[.slice a7 st20.length c7] 22) rfl hp1 (fun _ => rfl) (by decide) ⟨p0, a1, c1, eo20, m0, h1, mk0, bx3⟩ ?_ ?_
 ·rintro k20 D20 r20 s21 s23 hk20 ⟨st20, a7, c7, hj20, m0, h7, mk0, bx3⟩ m24 rc25 hr20
  obtain ⟨res20, hm, hj20⟩ := ydE hk20 hj20
  have hm : y3a (p1.getD k20 0) st20 = some res20 := hm
  show E _ _ _ _ _ (Env.zp _ (encI (p1.getD k20 0)) _) _
  generalize p1.getD k20 0 = x22 at hm ⊢
  refine E.sub (e' := [(2, .pointer (some ⟨b3, 0, none⟩)), (7, .int .i64 x22)]) (Sub.rf rfl) ?_
  unfold y3a at hm
  replace m0 := m0.trans (m24.one up)
  replace mk0 := mk0.mv m24 (tgN (by decide))
  replace bx3 := bx3.mv m24 (tgN (by decide))
  replace h7 := h7.mv m24 (tgV lt0) (tg0 hN)
  have h26 : Lf s23 s23 := Le.refl _
  refine E.reg ?_
  refine L.as Wt.no rfl rfl ?_
  refine L.nil ?_
  refine X.beg rc25 hr20 fun s27 m28 rc25 => ?_
  replace m0 := m0.trans (m28.one up)
  replace mk0 := mk0.mv m28 (tgN (by decide))
  replace h26 := h26.mono (m28.le (tg0 hN))
  replace bx3 := bx3.mv m28 (tgN (by decide))
  replace h7 := h7.mv m28 (tgV lt0) (tg0 hN)
  refine E.block ?_
  refine E.reg ?_
  refine L.ld (j := 0) bx3.mem nag22 Wt.no rfl rfl rfl rfl ?_
  refine L.mv Wt.no rfl rfl ?_
  refine L.bsE (k := 1) (cs := [.int .i64 x22]) 0 bs22 (Nat.le_of_ble_eq_true rfl) Wt.no rfl rfl rfl rfl ?_
  intro b29 s30 m31 bx29
  replace m0 := m0.trans m31.no
  replace h7 := h7.mv m31 no_No no_No
  replace mk0 := mk0.mv m31 no_No
  replace h26 := h26.mono (m31.le no_No)
  replace rc25 := rc25.mv m31 no_No no_No
  replace bx3 := bx3.mv m31 no_No
  have h29 := Bx.rdL (r := (rK .i64)) (xs := ([x22] : List Int)) bx29 ⟨[.int .i64 x22], _, rfl, rfl, rfl⟩ (Nat.le_of_ble_eq_true rfl)
  obtain ⟨x32, ex32, hm⟩ := bindS hm
  refine L.ap (r := (rK .i64)) Tryz.underlying22 el3 rfl (tgpV zt0) h7 h29.wk Wt.no rfl rfl ex32 rfl ?_
  intro a33 c33 s34 m35 h33
  replace m0 := m0.trans (m35.one (.inr rfl))
  replace mk0 := mk0.mv m35 (tgW lt0)
  replace h26 := h26.mono (m35.le (tgz zt0))
  replace rc25 := rc25.mv m35 (tgW lt0) (tgW lt0)
  replace bx3 := bx3.mv m35 (tgW lt0)
  refine L.st (c := [.slice a33 x32.length c33]) (cs' := #[.slice a33 x32.length c33]) bx3 nag22.sz Wt.no rfl rfl rfl rfl rfl (Nat.le_of_ble_eq_true rfl) rfl ?_
  intro s36 m37 bx3
  replace m0 := m0.trans (m37.one up)
  replace mk0 := mk0.mv m37 (tgN (by decide))
  replace h26 := h26.mono (m37.le (tg0 hN))
  replace rc25 := rc25.mv m37 (tgN (by decide)) (tgN (by decide))
  replace h33 := h33.mv m37 (tgV lt0) (tg0 hN)
  refine L.nil ?_
  refine X.blkN ?_
  obtain rfl := Option.some.inj hm
  exact X.rnd ⟨⟨x32, a33, c33, hj20, m0, h33, mk0, bx3⟩, rc25, h26⟩
 ·rintro D20 s21 s23 hD20 ⟨st20, a7, c7, hj20, m0, h7, mk0, bx3⟩ m24 mk20
  have hx := (yep hj20).symm
  subst hx
  replace m0 := m0.trans (m24.one up)
  replace mk0 := mk0.mv m24 (tgN (by decide))
  replace bx3 := bx3.mv m24 (tgN (by decide))
  replace h7 := h7.mv m24 (tgV lt0) (tg0 hN)
  replace mk0 := mk0.cons mko20 hD20 mk20
  refine X.blkN ?_
  refine X.seqN ?_
  refine E.seq ?_
  refine E.reg ?_
  refine L.ld (j := 0) bx3.mem nag22 Wt.no rfl rfl rfl rfl ?_
  refine L.as Wt.no rfl rfl ?_
  refine L.nil ?_
  refine X.seqN ?_
  refine E.ret ?_
  refine X.lv (.inl rfl) mk0 fun s38 m39 => ?_
  replace m0 := m0.trans (m39.one up)
  replace h7 := h7.mv m39 (tgV lt0) (tg0 hN)
  obtain rfl := Option.some.inj hm
  exact X.rt (.inl rfl) Tryz.results168 (Rs.tmp rfl Rs.nil) rfl ⟨_, (s38).ren N (fun _ => 0), rfl, rfl, m0.ren hNb, ⟨a7, c7, rfl, (h7.renV hN lt0)⟩⟩
theorem cf168 : Cf Tryz.prog 168 := Cf.mk Tryz.func168 (by kernel_rfl) (by kernel_rfl)
def y4H (p0 : List (Int)) : Option (List Int) :=
 (y4z ([] : List Int) p0).bind fun r2 =>
 some r2
theorem y7d {s : Sig} {p0 : List (Int)} {vp0 : Value} {u0 : Nat} {r : List Int} (hp0 : FI Tryz.prog s vp0 p0.length (fun k => encI (p0.getD k 0))) (hm : y4H p0 = some r) :
  Calls Tryz.prog 146 #[vp0] s.w (RetS No s fun v s' => ∃ (a1 : Option Addr) (c1 : Nat), v = .slice a1 r.length c1 ∧ RowT (rK .i64) s' u0 3 a1 c1 r) := by
 unfold y4H at hm
 obtain ⟨N, hN, hNb⟩ := s.fresh
 have m0 : Mv (Up N No) s s := Mv.refl _ _
 refine E.entry (vs := [vp0]) (e := [(0, vp0)]) Tryz.func146 rfl Tryz.ntmps146 rfl rfl ?_
 refine E.seq ?_
 refine E.reg ?_
 refine L.as Wt.no rfl rfl ?_
 refine L.nil ?_
 refine X.seqN ?_
 refine E.seq ?_
 refine E.reg ?_
 refine L.mv Wt.no rfl rfl ?_
 obtain ⟨r2, er2, hm⟩ := bindS hm
 refine L.ca (vs := [.slice none 0 0, vp0]) cf168 rfl rfl Wt.no rfl (y6H (s := s) (p0 := ([] : List Int)) (p1 := p0) (t0 := (N + 0)) (tpos hN) RowT.nil hp0 er2) rfl ?_
 rintro _ s3 m4 ⟨a5, c5, rfl, h5⟩
 replace m0 := m0.trans (m4.one up)
 refine L.as Wt.no rfl rfl ?_
 refine L.nil ?_
 refine X.seqN ?_
 refine E.ret ?_
 obtain rfl := Option.some.inj hm
 exact X.rt (.inl rfl) Tryz.results146 (Rs.tmp rfl Rs.nil) rfl ⟨_, (s3).ren N (fun k => cond (Nat.beq k 0) u0 (0)), rfl, rfl, m0.ren hNb, ⟨a5, c5, rfl, (h5.ren hN)⟩⟩
theorem cf146 : Cf Tryz.prog 146 := Cf.mk Tryz.func146 (by kernel_rfl) (by kernel_rfl)
theorem cf147 : Cf Tryz.prog 147 := Cf.mk Tryz.func147 (by kernel_rfl) (by kernel_rfl)
def y4o (p0 : List (Int)) : Option (List Int) :=
 (y4H p0).bind fun r2 =>
 (y5h r2).bind fun r6 =>
 (lenEq r6 r2).bind fun _ =>
 some r6
theorem y7B {s : Sig} {p0 : List (Int)} {vp0 : Value} {u0 : Nat} {r : List Int} (hp0 : FI Tryz.prog s vp0 p0.length (fun k => encI (p0.getD k 0))) (hm : y4o p0 = some r) :
  Calls Tryz.prog 108 #[vp0] s.w (RetS No s fun v s' => ∃ (a1 : Option Addr) (c1 : Nat), v = .slice a1 r.length c1 ∧ RowT (rK .i64) s' u0 3 a1 c1 r) := by
 unfold y4o at hm
 obtain ⟨N, hN, hNb⟩ := s.fresh
 have m0 : Mv (Up N No) s s := Mv.refl _ _
 refine E.entry (vs := [vp0]) (e := [(0, vp0)]) Tryz.func108 rfl Tryz.ntmps108 rfl rfl ?_
 refine E.seq ?_
 refine E.reg ?_
 refine L.as Wt.no rfl rfl ?_
 refine L.nil ?_
 refine X.seqN ?_
 refine E.seq ?_
 refine E.reg ?_
 refine L.mv Wt.no rfl rfl ?_
 obtain ⟨r2, er2, hm⟩ := bindS hm
 refine L.ca (vs := [vp0]) cf146 rfl rfl Wt.no rfl (y7d (s := s) (p0 := p0) (u0 := (N + 0)) hp0 er2) rfl ?_
 rintro _ s3 m4 ⟨a5, c5, rfl, h5⟩
 replace m0 := m0.trans m4.no
 refine L.as Wt.no rfl rfl ?_
 refine L.nil ?_
 refine X.seqN ?_
 refine E.seq ?_
 refine E.reg ?_
 refine L.mv Wt.no rfl rfl ?_
 obtain ⟨r6, er6, hm⟩ := bindS hm
 refine L.ca (vs := [.slice a5 r2.length c5]) cf147 rfl rfl Wt.no rfl (y8n (s := s3) (p0 := r2) (t0 := (N + 0)) (tpos hN) h5 er6) rfl ?_
 rintro _ s7 m8 ⟨rfl, h5⟩
 obtain ⟨_, qz9, hm⟩ := bindS hm
 have elz9 := yds qz9
 replace m0 := m0.trans (m8.one up)
 refine L.reval (d := 3) rfl elz9 ?_
 refine L.nil ?_
 refine X.seqN ?_
 refine E.seq ?_
 refine E.reg ?_
 refine L.mv Wt.no rfl rfl ?_
 refine L.as Wt.no rfl rfl ?_
 refine L.nil ?_
 refine X.seqN ?_
 refine E.ret ?_
 obtain rfl := Option.some.inj hm
 exact X.rt (.inl rfl) Tryz.results108 (Rs.tmp rfl Rs.nil) rfl ⟨_, (s7).ren N (fun k => cond (Nat.beq k 0) u0 (0)), rfl, rfl, m0.ren hNb, ⟨a5, c5, rfl, (h5.ren hN)⟩⟩
def lT (P : Program) (xs : List Int) : LV := ⟨fun _ s v => FI P s v xs.length (fun k => encI (xs.getD k 0)), [], none, none, fun _ hl h => h.mono hl, nofun, nofun, fun ⟨_, _, e, _⟩ => by rw [e]; rfl⟩
theorem y5E {p0 : List Int} {r : ByteArray} (hm : y3l p0 = some r) : Fw Tryz.prog 79 ⟨0, []⟩ [.f qI p0] [] (.o (lV (.string r))) [] :=
 ⟨fun ts β s vs _ _ _ _ ⟨v, us, ⟨a, c, e, h⟩, hu, e2⟩ _ => by
  have hu : us = [] := hu
  subst hu; subst e; subst e2
  exact Calls.mono (y9u h hm) fun en w' ⟨v, s', e1, e2, m, hv⟩ => ⟨v, s', e1, e2, m.no, β, fun _ _ => rfl, ⟨hv, rfl⟩, fun i o ho => by simp at ho⟩⟩
theorem y7C {p0 : List Int} {r : List Int} (hm : y4n p0 = some r) : Fw Tryz.prog 109 ⟨0, []⟩ [.f qI p0] [] (.o (lT Tryz.prog r)) [] :=
 ⟨fun ts β s vs _ _ _ _ ⟨v, us, ⟨a, c, e, h⟩, hu, e2⟩ _ => by
  have hu : us = [] := hu
  subst hu; subst e; subst e2
  exact Calls.mono (y7A h hm) fun en w' ⟨v, s', e1, e2, m, hv⟩ => ⟨v, s', e1, e2, m.no, β, fun _ _ => rfl, hv, fun i o ho => by simp at ho⟩⟩
theorem y7D {p0 : List Int} {r : List Int} (hm : y4o p0 = some r) : Fw Tryz.prog 108 ⟨0, []⟩ [.o (lT Tryz.prog p0)] [] (.h 0) [ROW qI 3 r] :=
 ⟨fun ts β s vs ht _ _ _ ⟨v, us, h, hu, e2⟩ _ => by
  have hu : us = [] := hu
  subst hu; subst e2
  obtain ⟨t, rfl⟩ : ∃ t, ts = [t] := by
   match ts, ht with
   | [t], _ => exact ⟨t, rfl⟩
  exact Calls.mono (y7B (u0 := t) h hm) fun en w' ⟨v, s', e1, e2, m, a, c, hv, hr⟩ => ⟨v, s', e1, e2, m.no, fun _ => v, fun i hi => (by cases hi), ⟨rfl, by rw [hv]; rfl⟩, fun i o ho => by
   match i, ho with
   | 0, ho => cases ho; exact ⟨a, c, hv, hr⟩⟩⟩
theorem y7e {p0 : List Int} {r : List Int} (hm : y2o p0 = some r) : Fw Tryz.prog 112 ⟨1, [0]⟩ [.h 0] [ROW qI 3 p0] (.tp []) [ROW qI 3 r] :=
 ⟨fun ts β s vs ht _ _ hp ⟨v, us, h, hu, e2⟩ ho => by
  have hu : us = [] := hu
  subst hu; subst e2
  obtain ⟨t, rfl⟩ : ∃ t, ts = [t] := by
   match ts, ht with
   | [t], _ => exact ⟨t, rfl⟩
  obtain ⟨a, c, e, h2⟩ := ho 0 _ rfl
  have hv : v = .slice a p0.length c := h.1.trans e
  subst hv
  have hl : r.length = p0.length := by
   unfold y2o at hm
   split at hm
   ·cases hm; exact List.length_reverse
   ·cases hm
  exact Calls.mono (y7c (hp t (.head _)) h2 hm) fun en w' ⟨v, s', e1, e2, m, hv, hr⟩ => ⟨v, s', e1, e2, m.weak fun t' ht' => ⟨0, .head _, by rw [show t' = t from ht']; rfl⟩, β, fun _ _ => rfl, ⟨[], rfl, hv⟩, fun i o ho => by
   match i, ho with
   | 0, ho => cases ho; exact ⟨a, c, by rw [e, hl], hr⟩⟩⟩
end
end Go.Proofs.YtidakgbibobbdaaGreatDoor
set_option maxRecDepth 100000
set_option maxHeartbeats 8000000
namespace Go.Proofs.YtidakgbibobbdaaGreatDoor
open Go Go.RowKit
noncomputable section
abbrev Arr55 := (Int × Int × Int × Int × Int) × (Int × Int × Int × Int × Int) × (Int × Int × Int × Int × Int) × (Int × Int × Int × Int × Int) × (Int × Int × Int × Int × Int)
abbrev y1M := Int × Int × Arr55
abbrev EdgL := List (Int × Int × Int)
abbrev KeyT := (Int × Int) × Int
theorem ag25 : Ag Tryz.prog 25 4 := Ag.mk' Tryz.underlying25 rfl (by kernel_rfl)
theorem ag27 : Ag Tryz.prog 27 9 := Ag.mk' Tryz.underlying27 rfl (by kernel_rfl)
theorem bs23 : Bs Tryz.prog 23 97 3 [.int .i64 0, .int .i64 0, .int .i64 0] := Bs.mk' Tryz.underlying23 (by kernel_rfl) (by kernel_rfl) rfl
theorem pl25 : Pl Tryz.prog 25 [(0, 1), (1, 1), (2, 1), (3, 1)] [.slice none 0 0, .int .i64 0, .slice none 0 0, .slice none 0 0] := Pl.str Tryz.underlying25 (by kernel_rfl) (by kernel_rfl)
theorem pl27 : Pl Tryz.prog 27 [(0, 4), (4, 4), (8, 1)] [.slice none 0 0, .int .i64 0, .slice none 0 0, .slice none 0 0, .slice none 0 0, .int .i64 0, .slice none 0 0, .slice none 0 0, .slice none 0 0] := Pl.str Tryz.underlying27 (by kernel_rfl) (by kernel_rfl)
theorem pl97 : Pl Tryz.prog 97 [(0, 1), (1, 1), (2, 1)] [.int .i64 0, .int .i64 0, .int .i64 0] := Pl.str Tryz.underlying97 (by kernel_rfl) (by kernel_rfl)
theorem zz25 : (Tryz.prog.info? 25).bind (·.zero) = some (.agg #[.slice none 0 0, .int .i64 0, .slice none 0 0, .slice none 0 0]) := by kernel_rfl
theorem zz27 : (Tryz.prog.info? 27).bind (·.zero) = some (.agg #[.slice none 0 0, .int .i64 0, .slice none 0 0, .slice none 0 0, .slice none 0 0, .int .i64 0, .slice none 0 0, .slice none 0 0, .slice none 0 0]) := by kernel_rfl
theorem nag3 : NAg Tryz.prog 3 := NAg.mk' Tryz.underlying3 rfl (by kernel_rfl)
theorem sl22 : Sl Tryz.prog 22 3 1 := Sl.mk' Tryz.underlying22 (by kernel_rfl)
theorem lv3 {y : Int} : Lv qI y [lI y] := .k
theorem cf131 : Cf Tryz.prog 131 := Cf.mk Tryz.func131 (by kernel_rfl) (by kernel_rfl)
theorem ag97 : Ag Tryz.prog 97 3 := Ag.mk' Tryz.underlying97 rfl (by kernel_rfl)
theorem cf84 : Cf Tryz.prog 84 := Cf.mk Tryz.func84 (by kernel_rfl) (by kernel_rfl)
theorem y1D : FA Tryz.prog 25 0 0 := FA.mk Tryz.underlying25 rfl rfl ⟨1, by decide, by kernel_rfl⟩
theorem yW : FA Tryz.prog 25 1 1 := FA.mk Tryz.underlying25 rfl rfl ⟨1, by decide, by kernel_rfl⟩
theorem yz : FA Tryz.prog 25 3 3 := FA.mk Tryz.underlying25 rfl rfl ⟨1, by decide, by kernel_rfl⟩
theorem y3C : FA Tryz.prog 97 0 0 := FA.mk Tryz.underlying97 rfl rfl ⟨1, by decide, by kernel_rfl⟩
theorem y4D : FA Tryz.prog 97 1 1 := FA.mk Tryz.underlying97 rfl rfl ⟨1, by decide, by kernel_rfl⟩
theorem y4E : FA Tryz.prog 97 2 2 := FA.mk Tryz.underlying97 rfl rfl ⟨1, by decide, by kernel_rfl⟩
theorem nag23 : NAg Tryz.prog 23 := NAg.mk' Tryz.underlying23 rfl (by kernel_rfl)
theorem sl23 : Sl Tryz.prog 23 97 3 := Sl.mk' Tryz.underlying23 (by kernel_rfl)
theorem zz97 : (Tryz.prog.info? 97).bind (·.zero) = some (.agg #[.int .i64 0, .int .i64 0, .int .i64 0]) := by kernel_rfl
theorem lv97 {y : Int × Int × Int} : Lv qT y [lI y.1, lI y.2.1, lI y.2.2] := (.p .k (.p .k .k))
theorem cf102 : Cf Tryz.prog 102 := Cf.mk Tryz.func102 (by kernel_rfl) (by kernel_rfl)
theorem cf103 : Cf Tryz.prog 103 := Cf.mk Tryz.func103 (by kernel_rfl) (by kernel_rfl)
theorem y2N : FA Tryz.prog 25 2 2 := FA.mk Tryz.underlying25 rfl rfl ⟨1, by decide, by kernel_rfl⟩
theorem cf72 : Cf Tryz.prog 72 := Cf.mk Tryz.func72 (by kernel_rfl) (by kernel_rfl)
theorem cf73 : Cf Tryz.prog 73 := Cf.mk Tryz.func73 (by kernel_rfl) (by kernel_rfl)
theorem cf26 : Cf Tryz.prog 26 := Cf.mk Tryz.func26 (by kernel_rfl) (by kernel_rfl)
theorem cf51 : Cf Tryz.prog 51 := Cf.mk Tryz.func51 (by kernel_rfl) (by kernel_rfl)
theorem sl73 : Sl Tryz.prog 73 25 4 := Sl.mk' Tryz.underlying73 (by kernel_rfl)
abbrev rE25 : Rep AutT := (rP (rL qI) (rP qI (rP (rL qI) (rL qT))))
theorem lv25 {y : AutT} : Lv rE25 y [lF qI y.1, lI y.2.1, lF qI y.2.2.1, lF qT y.2.2.2] := (.p .l (.p .k (.p .l .l)))
theorem cf178 : Cf Tryz.prog 178 := Cf.mk Tryz.func178 (by kernel_rfl) (by kernel_rfl)
theorem cf160 : Cf Tryz.prog 160 := Cf.mk Tryz.func160 (by kernel_rfl) (by kernel_rfl)
theorem ag138 : Ag Tryz.prog 138 3 := Ag.mk' Tryz.underlying138 rfl (by kernel_rfl)
theorem bs136 : Bs Tryz.prog 136 106 1 [.map none] := Bs.mk' Tryz.underlying136 (by kernel_rfl) (by kernel_rfl) rfl
theorem cf123 : Cf Tryz.prog 123 := Cf.mk Tryz.func123 (by kernel_rfl) (by kernel_rfl)
theorem el106 : El Tryz.prog 106 1 8 := El.mk' (z := .map none) (by kernel_rfl) (by kernel_rfl) (by kernel_rfl) rfl
theorem y9X : FA Tryz.prog 138 2 2 := FA.mk Tryz.underlying138 rfl rfl ⟨1, by decide, by kernel_rfl⟩
theorem md106 : Md Tryz.prog 106 190 3 kvP (rK .i64) 0 (.int .i64 0) := Md.mk' Tryz.underlying106 (KE.pair' Tryz.underlying190 (by kernel_rfl) Tryz.underlying3 (by kernel_rfl) (NAg.mk' Tryz.underlying3 rfl (by kernel_rfl)).agg) (by kernel_rfl) (fun _ => rfl)
theorem yb2 : NAg Tryz.prog 136 := NAg.mk' Tryz.underlying136 rfl (by kernel_rfl)
theorem pl138 : Pl Tryz.prog 138 [(0, 1), (1, 1), (2, 1)] [.slice none 0 0, .slice none 0 0, .slice none 0 0] := Pl.str Tryz.underlying138 (by kernel_rfl) (by kernel_rfl)
theorem pl190 : Pl Tryz.prog 190 (plK 1 2 0) [.int .i64 0, .int .i64 0] := Pl.arr Tryz.underlying190 (by kernel_rfl) (by kernel_rfl)
theorem zz138 : (Tryz.prog.info? 138).bind (·.zero) = some (.agg #[.slice none 0 0, .slice none 0 0, .slice none 0 0]) := by kernel_rfl
theorem y8P : FA Tryz.prog 138 0 0 := FA.mk Tryz.underlying138 rfl rfl ⟨1, by decide, by kernel_rfl⟩
theorem nag73 : NAg Tryz.prog 73 := NAg.mk' Tryz.underlying73 rfl (by kernel_rfl)
theorem zr3 : Zr Tryz.prog (rK .i64) 3 8 (0 : Int) := Zr.mk' (v := .int .i64 0) (by kernel_rfl) (by kernel_rfl) (by kernel_rfl) (fun _ => rfl)
theorem cf164 : Cf Tryz.prog 164 := Cf.mk Tryz.func164 (by kernel_rfl) (by kernel_rfl)
theorem cf150 : Cf Tryz.prog 150 := Cf.mk Tryz.func150 (by kernel_rfl) (by kernel_rfl)
theorem cf151 : Cf Tryz.prog 151 := Cf.mk Tryz.func151 (by kernel_rfl) (by kernel_rfl)
theorem cf118 : Cf Tryz.prog 118 := Cf.mk Tryz.func118 (by kernel_rfl) (by kernel_rfl)
theorem cf68 : Cf Tryz.prog 68 := Cf.mk Tryz.func68 (by kernel_rfl) (by kernel_rfl)
theorem cf83 : Cf Tryz.prog 83 := Cf.mk Tryz.func83 (by kernel_rfl) (by kernel_rfl)
theorem yb3 : NAg Tryz.prog 106 := NAg.mk' Tryz.underlying106 rfl (by kernel_rfl)
theorem sl136 : Sl Tryz.prog 136 106 1 := Sl.mk' Tryz.underlying136 (by kernel_rfl)
theorem lv106 {y : List KeyT} : Lv (rM kvP qI) y [lM kvP qI y] := .m
theorem bs34 : Bs Tryz.prog 34 22 1 [.slice none 0 0] := Bs.mk' Tryz.underlying34 (by kernel_rfl) (by kernel_rfl) rfl
theorem cf76 : Cf Tryz.prog 76 := Cf.mk Tryz.func76 (by kernel_rfl) (by kernel_rfl)
theorem cf77 : Cf Tryz.prog 77 := Cf.mk Tryz.func77 (by kernel_rfl) (by kernel_rfl)
theorem cf78 : Cf Tryz.prog 78 := Cf.mk Tryz.func78 (by kernel_rfl) (by kernel_rfl)
theorem cf79 : Cf Tryz.prog 79 := Cf.mk Tryz.func79 (by kernel_rfl) (by kernel_rfl)
theorem cf80 : Cf Tryz.prog 80 := Cf.mk Tryz.func80 (by kernel_rfl) (by kernel_rfl)
theorem cf81 : Cf Tryz.prog 81 := Cf.mk Tryz.func81 (by kernel_rfl) (by kernel_rfl)
theorem el22 : El Tryz.prog 22 1 24 := El.mk' (z := .slice none 0 0) (by kernel_rfl) (by kernel_rfl) (by kernel_rfl) rfl
theorem el97 : El Tryz.prog 97 3 24 := El.mk' (z := .agg #[.int .i64 0, .int .i64 0, .int .i64 0]) (by kernel_rfl) (by kernel_rfl) (by kernel_rfl) rfl
theorem ybG : FA Tryz.prog 138 1 1 := FA.mk Tryz.underlying138 rfl rfl ⟨1, by decide, by kernel_rfl⟩
theorem md143 : Md Tryz.prog 143 9 3 kvS (rK .i64) 0 (.int .i64 0) := Md.mk' Tryz.underlying143 (KE.string Tryz.underlying9) (by kernel_rfl) (fun _ => rfl)
theorem sl34 : Sl Tryz.prog 34 22 1 := Sl.mk' Tryz.underlying34 (by kernel_rfl)
theorem lv22 {y : List Int} : Lv (rL qI) y [lF qI y] := .l
theorem cf145 : Cf Tryz.prog 145 := Cf.mk Tryz.func145 (by kernel_rfl) (by kernel_rfl)
theorem ag108 : Ag Tryz.prog 108 5 := Ag.mk' Tryz.underlying108 rfl (by kernel_rfl)
theorem ybH : FA Tryz.prog 108 1 4 := FA.mk Tryz.underlying108 rfl rfl ⟨1, by decide, by kernel_rfl⟩
theorem pl108 : Pl Tryz.prog 108 [(0, 4), (4, 1)] [.slice none 0 0, .int .i64 0, .slice none 0 0, .slice none 0 0, .map none] := Pl.str Tryz.underlying108 (by kernel_rfl) (by kernel_rfl)
theorem zz108 : (Tryz.prog.info? 108).bind (·.zero) = some (.agg #[.slice none 0 0, .int .i64 0, .slice none 0 0, .slice none 0 0, .map none]) := by kernel_rfl
theorem bs73 : Bs Tryz.prog 73 25 4 [.slice none 0 0, .int .i64 0, .slice none 0 0, .slice none 0 0] := Bs.mk' Tryz.underlying73 (by kernel_rfl) (by kernel_rfl) rfl
theorem cf104 : Cf Tryz.prog 104 := Cf.mk Tryz.func104 (by kernel_rfl) (by kernel_rfl)
theorem cf105 : Cf Tryz.prog 105 := Cf.mk Tryz.func105 (by kernel_rfl) (by kernel_rfl)
theorem cf29 : Cf Tryz.prog 29 := Cf.mk Tryz.func29 (by kernel_rfl) (by kernel_rfl)
theorem cf30 : Cf Tryz.prog 30 := Cf.mk Tryz.func30 (by kernel_rfl) (by kernel_rfl)
theorem cf34 : Cf Tryz.prog 34 := Cf.mk Tryz.func34 (by kernel_rfl) (by kernel_rfl)
theorem y5i : FA Tryz.prog 27 0 0 := FA.mk Tryz.underlying27 rfl rfl ⟨4, by decide, by kernel_rfl⟩
theorem y6I : FA Tryz.prog 27 1 4 := FA.mk Tryz.underlying27 rfl rfl ⟨4, by decide, by kernel_rfl⟩
theorem y8E : FA Tryz.prog 27 2 8 := FA.mk Tryz.underlying27 rfl rfl ⟨1, by decide, by kernel_rfl⟩
theorem pl110 : Pl Tryz.prog 110 [(0, 5), (5, 5), (10, 5), (15, 1), (16, 1), (17, 1)] [.slice none 0 0, .int .i64 0, .slice none 0 0, .slice none 0 0, .map none, .slice none 0 0, .int .i64 0, .slice none 0 0, .slice none 0 0, .map none, .slice none 0 0, .int .i64 0, .slice none 0 0, .slice none 0 0, .map none, .slice none 0 0, .slice none 0 0, .slice none 0 0] := Pl.str Tryz.underlying110 (by kernel_rfl) (by kernel_rfl)
abbrev rE108 : Rep (AutT × (List KeyT)) := (rP rE25 (rM kvP qI))
abbrev rE110 : Rep ((AutT × (List KeyT)) × (AutT × (List KeyT)) × (AutT × (List KeyT)) × List (List Int) × List Int × List Int) := (rP rE108 (rP rE108 (rP rE108 (rP (rL (rL qI)) (rP (rL qI) (rL qI))))))
theorem bs174 : Bs Tryz.prog 174 173 2 [.int .i64 0, .slice none 0 0] := Bs.mk' Tryz.underlying174 (by kernel_rfl) (by kernel_rfl) rfl
theorem cf106 : Cf Tryz.prog 106 := Cf.mk Tryz.func106 (by kernel_rfl) (by kernel_rfl)
theorem el173 : El Tryz.prog 173 2 32 := El.mk' (z := .agg #[.int .i64 0, .slice none 0 0]) (by kernel_rfl) (by kernel_rfl) (by kernel_rfl) rfl
theorem ybI : FA Tryz.prog 110 0 0 := FA.mk Tryz.underlying110 rfl rfl ⟨5, by decide, by kernel_rfl⟩
theorem y9Y : FA Tryz.prog 110 3 15 := FA.mk Tryz.underlying110 rfl rfl ⟨1, by decide, by kernel_rfl⟩
theorem y9Z : FA Tryz.prog 110 4 16 := FA.mk Tryz.underlying110 rfl rfl ⟨1, by decide, by kernel_rfl⟩
theorem yeq : FA Tryz.prog 173 0 0 := FA.mk Tryz.underlying173 rfl rfl ⟨1, by decide, by kernel_rfl⟩
theorem y7E : FA Tryz.prog 173 1 1 := FA.mk Tryz.underlying173 rfl rfl ⟨1, by decide, by kernel_rfl⟩
theorem nag34 : NAg Tryz.prog 34 := NAg.mk' Tryz.underlying34 rfl (by kernel_rfl)
theorem pl173 : Pl Tryz.prog 173 [(0, 1), (1, 1)] [.int .i64 0, .slice none 0 0] := Pl.str Tryz.underlying173 (by kernel_rfl) (by kernel_rfl)
theorem sl174 : Sl Tryz.prog 174 173 2 := Sl.mk' Tryz.underlying174 (by kernel_rfl)
abbrev rE173 : Rep (Int × List Int) := (rP qI (rL qI))
theorem lv173 {y : Int × List Int} : Lv rE173 y [lI y.1, lF qI y.2] := (.p .k .l)
abbrev lx110 (y : (AutT × (List KeyT)) × (AutT × (List KeyT)) × (AutT × (List KeyT)) × List (List Int) × List Int × List Int) : List LV := [lF qI y.1.1.1, lI y.1.1.2.1, lF qI y.1.1.2.2.1, lF qT y.1.1.2.2.2, lM kvP qI y.1.2, lF qI y.2.1.1.1, lI y.2.1.1.2.1, lF qI y.2.1.1.2.2.1, lF qT y.2.1.1.2.2.2, lM kvP qI y.2.1.2, lF qI y.2.2.1.1.1, lI y.2.2.1.1.2.1, lF qI y.2.2.1.1.2.2.1, lF qT y.2.2.1.1.2.2.2, lM kvP qI y.2.2.1.2, lF (rL qI) y.2.2.2.1, lF qI y.2.2.2.2.1, lF qI y.2.2.2.2.2]
theorem y4t : FA Tryz.prog 108 0 0 := FA.mk Tryz.underlying108 rfl rfl ⟨4, by decide, by kernel_rfl⟩
theorem ybJ : FA Tryz.prog 110 1 5 := FA.mk Tryz.underlying110 rfl rfl ⟨5, by decide, by kernel_rfl⟩
theorem cf108 : Cf Tryz.prog 108 := Cf.mk Tryz.func108 (by kernel_rfl) (by kernel_rfl)
theorem cf109 : Cf Tryz.prog 109 := Cf.mk Tryz.func109 (by kernel_rfl) (by kernel_rfl)
theorem cf54 : Cf Tryz.prog 54 := Cf.mk Tryz.func54 (by kernel_rfl) (by kernel_rfl)
theorem cf110 : Cf Tryz.prog 110 := Cf.mk Tryz.func110 (by kernel_rfl) (by kernel_rfl)
theorem cf111 : Cf Tryz.prog 111 := Cf.mk Tryz.func111 (by kernel_rfl) (by kernel_rfl)
theorem cf112 : Cf Tryz.prog 112 := Cf.mk Tryz.func112 (by kernel_rfl) (by kernel_rfl)
theorem ag38 : Ag Tryz.prog 38 3 := Ag.mk' Tryz.underlying38 rfl (by kernel_rfl)
theorem cf52 : Cf Tryz.prog 52 := Cf.mk Tryz.func52 (by kernel_rfl) (by kernel_rfl)
theorem cf57 : Cf Tryz.prog 57 := Cf.mk Tryz.func57 (by kernel_rfl) (by kernel_rfl)
theorem cf58 : Cf Tryz.prog 58 := Cf.mk Tryz.func58 (by kernel_rfl) (by kernel_rfl)
theorem cf59 : Cf Tryz.prog 59 := Cf.mk Tryz.func59 (by kernel_rfl) (by kernel_rfl)
theorem y5O : FA Tryz.prog 110 2 10 := FA.mk Tryz.underlying110 rfl rfl ⟨5, by decide, by kernel_rfl⟩
theorem pl38 : Pl Tryz.prog 38 [(0, 1), (1, 1), (2, 1)] [.int .i64 0, .slice none 0 0, .slice none 0 0] := Pl.str Tryz.underlying38 (by kernel_rfl) (by kernel_rfl)
theorem zz38 : (Tryz.prog.info? 38).bind (·.zero) = some (.agg #[.int .i64 0, .slice none 0 0, .slice none 0 0]) := by kernel_rfl
theorem lv110 {y : (AutT × (List KeyT)) × (AutT × (List KeyT)) × (AutT × (List KeyT)) × List (List Int) × List Int × List Int} : Lv rE110 y [lF qI y.1.1.1, lI y.1.1.2.1, lF qI y.1.1.2.2.1, lF qT y.1.1.2.2.2, lM kvP qI y.1.2, lF qI y.2.1.1.1, lI y.2.1.1.2.1, lF qI y.2.1.1.2.2.1, lF qT y.2.1.1.2.2.2, lM kvP qI y.2.1.2, lF qI y.2.2.1.1.1, lI y.2.2.1.1.2.1, lF qI y.2.2.1.1.2.2.1, lF qT y.2.2.1.1.2.2.2, lM kvP qI y.2.2.1.2, lF (rL qI) y.2.2.2.1, lF qI y.2.2.2.2.1, lF qI y.2.2.2.2.2] := (.p (.p (.p .l (.p .k (.p .l .l))) .m) (.p (.p (.p .l (.p .k (.p .l .l))) .m) (.p (.p (.p .l (.p .k (.p .l .l))) .m) (.p .l (.p .l .l)))))
theorem cf113 : Cf Tryz.prog 113 := Cf.mk Tryz.func113 (by kernel_rfl) (by kernel_rfl)
theorem nag99 : NAg Tryz.prog 99 := NAg.mk' Tryz.underlying99 rfl (by kernel_rfl)
theorem cf114 : Cf Tryz.prog 114 := Cf.mk Tryz.func114 (by kernel_rfl) (by kernel_rfl)
theorem cf115 : Cf Tryz.prog 115 := Cf.mk Tryz.func115 (by kernel_rfl) (by kernel_rfl)
theorem cf66 : Cf Tryz.prog 66 := Cf.mk Tryz.func66 (by kernel_rfl) (by kernel_rfl)
theorem md181 : Md Tryz.prog 181 3 3 kvI (rK .i64) 0 (.int .i64 0) := Md.mk' Tryz.underlying181 (KE.int Tryz.underlying3) (by kernel_rfl) (fun _ => rfl)
theorem nag4 : NAg Tryz.prog 4 := NAg.mk' Tryz.underlying4 rfl (by kernel_rfl)
theorem sl118 : Sl Tryz.prog 118 4 1 := Sl.mk' Tryz.underlying118 (by kernel_rfl)
theorem zr4 : Zr Tryz.prog rB 4 1 false := Zr.mk' (v := .bool false) (by kernel_rfl) (by kernel_rfl) (by kernel_rfl) (fun _ => rfl)
theorem lv4 {y : Bool} : Lv rB y [lB y] := .b
theorem cf61 : Cf Tryz.prog 61 := Cf.mk Tryz.func61 (by kernel_rfl) (by kernel_rfl)
theorem cf62 : Cf Tryz.prog 62 := Cf.mk Tryz.func62 (by kernel_rfl) (by kernel_rfl)
theorem cf63 : Cf Tryz.prog 63 := Cf.mk Tryz.func63 (by kernel_rfl) (by kernel_rfl)
theorem cf64 : Cf Tryz.prog 64 := Cf.mk Tryz.func64 (by kernel_rfl) (by kernel_rfl)
theorem cf74 : Cf Tryz.prog 74 := Cf.mk Tryz.func74 (by kernel_rfl) (by kernel_rfl)
theorem cf16 : Cf Tryz.prog 16 := Cf.mk Tryz.func16 (by kernel_rfl) (by kernel_rfl)
theorem cf18 : Cf Tryz.prog 18 := Cf.mk Tryz.func18 (by kernel_rfl) (by kernel_rfl)
theorem cf33 : Cf Tryz.prog 33 := Cf.mk Tryz.func33 (by kernel_rfl) (by kernel_rfl)
theorem cf50 : Cf Tryz.prog 50 := Cf.mk Tryz.func50 (by kernel_rfl) (by kernel_rfl)
theorem y9v : FA Tryz.prog 38 0 0 := FA.mk Tryz.underlying38 rfl rfl ⟨1, by decide, by kernel_rfl⟩
theorem y9w : FA Tryz.prog 38 1 1 := FA.mk Tryz.underlying38 rfl rfl ⟨1, by decide, by kernel_rfl⟩
theorem y9x : FA Tryz.prog 38 2 2 := FA.mk Tryz.underlying38 rfl rfl ⟨1, by decide, by kernel_rfl⟩
theorem cf65 : Cf Tryz.prog 65 := Cf.mk Tryz.func65 (by kernel_rfl) (by kernel_rfl)
theorem cf48 : Cf Tryz.prog 48 := Cf.mk Tryz.func48 (by kernel_rfl) (by kernel_rfl)
theorem cf45 : Cf Tryz.prog 45 := Cf.mk Tryz.func45 (by kernel_rfl) (by kernel_rfl)
theorem cf11 : Cf Tryz.prog 11 := Cf.mk Tryz.func11 (by kernel_rfl) (by kernel_rfl)
theorem cf19 : Cf Tryz.prog 19 := Cf.mk Tryz.func19 (by kernel_rfl) (by kernel_rfl)
theorem cf20 : Cf Tryz.prog 20 := Cf.mk Tryz.func20 (by kernel_rfl) (by kernel_rfl)
theorem cf23 : Cf Tryz.prog 23 := Cf.mk Tryz.func23 (by kernel_rfl) (by kernel_rfl)
theorem cf172 : Cf Tryz.prog 172 := Cf.mk Tryz.func172 (by kernel_rfl) (by kernel_rfl)
theorem cf173 : Cf Tryz.prog 173 := Cf.mk Tryz.func173 (by kernel_rfl) (by kernel_rfl)
theorem cf152 : Cf Tryz.prog 152 := Cf.mk Tryz.func152 (by kernel_rfl) (by kernel_rfl)
theorem cf171 : Cf Tryz.prog 171 := Cf.mk Tryz.func171 (by kernel_rfl) (by kernel_rfl)
theorem cf174 : Cf Tryz.prog 174 := Cf.mk Tryz.func174 (by kernel_rfl) (by kernel_rfl)
theorem cf153 : Cf Tryz.prog 153 := Cf.mk Tryz.func153 (by kernel_rfl) (by kernel_rfl)
theorem ycX : FA Tryz.prog 55 0 0 := FA.mk Tryz.underlying55 rfl rfl ⟨1, by decide, by kernel_rfl⟩
theorem yeF : FA Tryz.prog 55 1 1 := FA.mk Tryz.underlying55 rfl rfl ⟨1, by decide, by kernel_rfl⟩
theorem yeG : FA Tryz.prog 55 2 2 := FA.mk Tryz.underlying55 rfl rfl ⟨25, by decide, by kernel_rfl⟩
theorem ia52 : IA Tryz.prog 52 5 1 := IA.mk Tryz.underlying52 (by kernel_rfl)
theorem ia53 : IA Tryz.prog 53 5 5 := IA.mk Tryz.underlying53 (by kernel_rfl)
theorem nag5 : NAg Tryz.prog 5 := NAg.mk' Tryz.underlying5 rfl (by kernel_rfl)
abbrev lx55 (y : y1M) : List LV := [lV (.int .u8 y.1), lV (.int .u8 y.2.1), lV (.int .u8 y.2.2.1.1), lV (.int .u8 y.2.2.1.2.1), lV (.int .u8 y.2.2.1.2.2.1), lV (.int .u8 y.2.2.1.2.2.2.1), lV (.int .u8 y.2.2.1.2.2.2.2), lV (.int .u8 y.2.2.2.1.1), lV (.int .u8 y.2.2.2.1.2.1), lV (.int .u8 y.2.2.2.1.2.2.1), lV (.int .u8 y.2.2.2.1.2.2.2.1), lV (.int .u8 y.2.2.2.1.2.2.2.2), lV (.int .u8 y.2.2.2.2.1.1), lV (.int .u8 y.2.2.2.2.1.2.1), lV (.int .u8 y.2.2.2.2.1.2.2.1), lV (.int .u8 y.2.2.2.2.1.2.2.2.1), lV (.int .u8 y.2.2.2.2.1.2.2.2.2), lV (.int .u8 y.2.2.2.2.2.1.1), lV (.int .u8 y.2.2.2.2.2.1.2.1), lV (.int .u8 y.2.2.2.2.2.1.2.2.1), lV (.int .u8 y.2.2.2.2.2.1.2.2.2.1), lV (.int .u8 y.2.2.2.2.2.1.2.2.2.2), lV (.int .u8 y.2.2.2.2.2.2.1), lV (.int .u8 y.2.2.2.2.2.2.2.1), lV (.int .u8 y.2.2.2.2.2.2.2.2.1), lV (.int .u8 y.2.2.2.2.2.2.2.2.2.1), lV (.int .u8 y.2.2.2.2.2.2.2.2.2.2)]
theorem ag55 : Ag Tryz.prog 55 27 := Ag.mk' Tryz.underlying55 rfl (by kernel_rfl)
theorem cf119 : Cf Tryz.prog 119 := Cf.mk Tryz.func119 (by kernel_rfl) (by kernel_rfl)
theorem cf120 : Cf Tryz.prog 120 := Cf.mk Tryz.func120 (by kernel_rfl) (by kernel_rfl)
theorem ycY : FA Tryz.prog 57 0 0 := FA.mk Tryz.underlying57 rfl rfl ⟨1, by decide, by kernel_rfl⟩
theorem ycZ : FA Tryz.prog 57 1 1 := FA.mk Tryz.underlying57 rfl rfl ⟨27, by decide, by kernel_rfl⟩
theorem yd0 : FA Tryz.prog 59 0 0 := FA.mk Tryz.underlying59 rfl rfl ⟨28, by decide, by kernel_rfl⟩
theorem yd1 : FA Tryz.prog 59 1 28 := FA.mk Tryz.underlying59 rfl rfl ⟨28, by decide, by kernel_rfl⟩
theorem yeH : FA Tryz.prog 59 2 56 := FA.mk Tryz.underlying59 rfl rfl ⟨1, by decide, by kernel_rfl⟩
theorem nag51 : NAg Tryz.prog 51 := NAg.mk' Tryz.underlying51 rfl (by kernel_rfl)
abbrev lx59 (y : (Int × y1M) × (Int × y1M) × Int) : List LV := [lV (.int .u8 y.1.1), lV (.int .u8 y.1.2.1), lV (.int .u8 y.1.2.2.1), lV (.int .u8 y.1.2.2.2.1.1), lV (.int .u8 y.1.2.2.2.1.2.1), lV (.int .u8 y.1.2.2.2.1.2.2.1), lV (.int .u8 y.1.2.2.2.1.2.2.2.1), lV (.int .u8 y.1.2.2.2.1.2.2.2.2), lV (.int .u8 y.1.2.2.2.2.1.1), lV (.int .u8 y.1.2.2.2.2.1.2.1), lV (.int .u8 y.1.2.2.2.2.1.2.2.1), lV (.int .u8 y.1.2.2.2.2.1.2.2.2.1), lV (.int .u8 y.1.2.2.2.2.1.2.2.2.2), lV (.int .u8 y.1.2.2.2.2.2.1.1), lV (.int .u8 y.1.2.2.2.2.2.1.2.1), lV (.int .u8 y.1.2.2.2.2.2.1.2.2.1), lV (.int .u8 y.1.2.2.2.2.2.1.2.2.2.1), lV (.int .u8 y.1.2.2.2.2.2.1.2.2.2.2), lV (.int .u8 y.1.2.2.2.2.2.2.1.1), lV (.int .u8 y.1.2.2.2.2.2.2.1.2.1), lV (.int .u8 y.1.2.2.2.2.2.2.1.2.2.1), lV (.int .u8 y.1.2.2.2.2.2.2.1.2.2.2.1), lV (.int .u8 y.1.2.2.2.2.2.2.1.2.2.2.2), lV (.int .u8 y.1.2.2.2.2.2.2.2.1), lV (.int .u8 y.1.2.2.2.2.2.2.2.2.1), lV (.int .u8 y.1.2.2.2.2.2.2.2.2.2.1), lV (.int .u8 y.1.2.2.2.2.2.2.2.2.2.2.1), lV (.int .u8 y.1.2.2.2.2.2.2.2.2.2.2.2), lV (.int .u8 y.2.1.1), lV (.int .u8 y.2.1.2.1), lV (.int .u8 y.2.1.2.2.1), lV (.int .u8 y.2.1.2.2.2.1.1), lV (.int .u8 y.2.1.2.2.2.1.2.1), lV (.int .u8 y.2.1.2.2.2.1.2.2.1), lV (.int .u8 y.2.1.2.2.2.1.2.2.2.1), lV (.int .u8 y.2.1.2.2.2.1.2.2.2.2), lV (.int .u8 y.2.1.2.2.2.2.1.1), lV (.int .u8 y.2.1.2.2.2.2.1.2.1), lV (.int .u8 y.2.1.2.2.2.2.1.2.2.1), lV (.int .u8 y.2.1.2.2.2.2.1.2.2.2.1), lV (.int .u8 y.2.1.2.2.2.2.1.2.2.2.2), lV (.int .u8 y.2.1.2.2.2.2.2.1.1), lV (.int .u8 y.2.1.2.2.2.2.2.1.2.1), lV (.int .u8 y.2.1.2.2.2.2.2.1.2.2.1), lV (.int .u8 y.2.1.2.2.2.2.2.1.2.2.2.1), lV (.int .u8 y.2.1.2.2.2.2.2.1.2.2.2.2), lV (.int .u8 y.2.1.2.2.2.2.2.2.1.1), lV (.int .u8 y.2.1.2.2.2.2.2.2.1.2.1), lV (.int .u8 y.2.1.2.2.2.2.2.2.1.2.2.1), lV (.int .u8 y.2.1.2.2.2.2.2.2.1.2.2.2.1), lV (.int .u8 y.2.1.2.2.2.2.2.2.1.2.2.2.2), lV (.int .u8 y.2.1.2.2.2.2.2.2.2.1), lV (.int .u8 y.2.1.2.2.2.2.2.2.2.2.1), lV (.int .u8 y.2.1.2.2.2.2.2.2.2.2.2.1), lV (.int .u8 y.2.1.2.2.2.2.2.2.2.2.2.2.1), lV (.int .u8 y.2.1.2.2.2.2.2.2.2.2.2.2.2), lV (.int .u8 y.2.2)]
theorem ag59 : Ag Tryz.prog 59 57 := Ag.mk' Tryz.underlying59 rfl (by kernel_rfl)
theorem cf69 : Cf Tryz.prog 69 := Cf.mk Tryz.func69 (by kernel_rfl) (by kernel_rfl)
theorem cf70 : Cf Tryz.prog 70 := Cf.mk Tryz.func70 (by kernel_rfl) (by kernel_rfl)
theorem cf166 : Cf Tryz.prog 166 := Cf.mk Tryz.func166 (by kernel_rfl) (by kernel_rfl)
theorem cf140 : Cf Tryz.prog 140 := Cf.mk Tryz.func140 (by kernel_rfl) (by kernel_rfl)
theorem cf93 : Cf Tryz.prog 93 := Cf.mk Tryz.func93 (by kernel_rfl) (by kernel_rfl)
theorem cf128 : Cf Tryz.prog 128 := Cf.mk Tryz.func128 (by kernel_rfl) (by kernel_rfl)
theorem cf129 : Cf Tryz.prog 129 := Cf.mk Tryz.func129 (by kernel_rfl) (by kernel_rfl)
theorem cf130 : Cf Tryz.prog 130 := Cf.mk Tryz.func130 (by kernel_rfl) (by kernel_rfl)
theorem cf82 : Cf Tryz.prog 82 := Cf.mk Tryz.func82 (by kernel_rfl) (by kernel_rfl)
theorem cf141 : Cf Tryz.prog 141 := Cf.mk Tryz.func141 (by kernel_rfl) (by kernel_rfl)
theorem cf49 : Cf Tryz.prog 49 := Cf.mk Tryz.func49 (by kernel_rfl) (by kernel_rfl)
theorem cf94 : Cf Tryz.prog 94 := Cf.mk Tryz.func94 (by kernel_rfl) (by kernel_rfl)
theorem ag165 : Ag Tryz.prog 165 5 := Ag.mk' Tryz.underlying165 rfl (by kernel_rfl)
theorem ya0 : FA Tryz.prog 165 1 4 := FA.mk Tryz.underlying165 rfl rfl ⟨1, by decide, by kernel_rfl⟩
theorem pl165 : Pl Tryz.prog 165 [(0, 4), (4, 1)] [.slice none 0 0, .int .i64 0, .slice none 0 0, .slice none 0 0, .slice none 0 0] := Pl.str Tryz.underlying165 (by kernel_rfl) (by kernel_rfl)
theorem zz165 : (Tryz.prog.info? 165).bind (·.zero) = some (.agg #[.slice none 0 0, .int .i64 0, .slice none 0 0, .slice none 0 0, .slice none 0 0]) := by kernel_rfl
theorem cf142 : Cf Tryz.prog 142 := Cf.mk Tryz.func142 (by kernel_rfl) (by kernel_rfl)
theorem cf98 : Cf Tryz.prog 98 := Cf.mk Tryz.func98 (by kernel_rfl) (by kernel_rfl)
theorem cf95 : Cf Tryz.prog 95 := Cf.mk Tryz.func95 (by kernel_rfl) (by kernel_rfl)
theorem cf75 : Cf Tryz.prog 75 := Cf.mk Tryz.func75 (by kernel_rfl) (by kernel_rfl)
theorem cf163 : Cf Tryz.prog 163 := Cf.mk Tryz.func163 (by kernel_rfl) (by kernel_rfl)
theorem cf132 : Cf Tryz.prog 132 := Cf.mk Tryz.func132 (by kernel_rfl) (by kernel_rfl)
theorem cf88 : Cf Tryz.prog 88 := Cf.mk Tryz.func88 (by kernel_rfl) (by kernel_rfl)
theorem cf90 : Cf Tryz.prog 90 := Cf.mk Tryz.func90 (by kernel_rfl) (by kernel_rfl)
theorem cf85 : Cf Tryz.prog 85 := Cf.mk Tryz.func85 (by kernel_rfl) (by kernel_rfl)
theorem cf86 : Cf Tryz.prog 86 := Cf.mk Tryz.func86 (by kernel_rfl) (by kernel_rfl)
theorem cf87 : Cf Tryz.prog 87 := Cf.mk Tryz.func87 (by kernel_rfl) (by kernel_rfl)
theorem cf25 : Cf Tryz.prog 25 := Cf.mk Tryz.func25 (by kernel_rfl) (by kernel_rfl)
theorem cf28 : Cf Tryz.prog 28 := Cf.mk Tryz.func28 (by kernel_rfl) (by kernel_rfl)
theorem cf37 : Cf Tryz.prog 37 := Cf.mk Tryz.func37 (by kernel_rfl) (by kernel_rfl)
theorem cf39 : Cf Tryz.prog 39 := Cf.mk Tryz.func39 (by kernel_rfl) (by kernel_rfl)
theorem cf44 : Cf Tryz.prog 44 := Cf.mk Tryz.func44 (by kernel_rfl) (by kernel_rfl)
theorem cf46 : Cf Tryz.prog 46 := Cf.mk Tryz.func46 (by kernel_rfl) (by kernel_rfl)
theorem cf47 : Cf Tryz.prog 47 := Cf.mk Tryz.func47 (by kernel_rfl) (by kernel_rfl)
theorem sl89 : Sl Tryz.prog 89 5 1 := Sl.mk' Tryz.underlying89 (by kernel_rfl)
theorem lv5 {y : Int} : Lv (rK .u8) y [lV (.int .u8 y)] := .k
def y4I : Option (AutT × AutT × List Int) :=
 some ((([0, 1] : List Int), 4, ([3] : List Int), ([(0, 0, 1), (0, 1, 2), (1, 1, 3), (2, 0, 3)] : List (Int × Int × Int))), (([0, 1] : List Int), 5, ([3, 4] : List Int), ([(0, 0, 1), (0, 1, 2), (1, 1, 3), (2, 0, 4)] : List (Int × Int × Int))), ([0, 1] : List Int))
theorem y7f {r : (AutT × AutT × List Int)} (hm : y4I = some r) :
  Fw Tryz.prog 50 ⟨0, []⟩ [] [] (.g [lF qI r.1.1, lI r.1.2.1, lF qI r.1.2.2.1, lF qT r.1.2.2.2, lF qI r.2.1.1, lI r.2.1.2.1, lF qI r.2.1.2.2.1, lF qT r.2.1.2.2.2, lF qI r.2.2]) [] := by
 unfold y4I at hm
 refine Fw.mk' Tryz.func50 R Tryz.ntmps50 R R (fun C => ?_) R R
 refine .seq (.reg (.op (O.al 0 R zz27 R Z R) R (.nil (.seqN (.seq (.reg (.op (O.bsF (r := qI) (zs := ([0, 1] : List Int)) bs22 R R Z R R R (.c .k (.c .k .n)) R R R) R (.op (O.bsF (r := qI) (zs := ([3] : List Int)) bs22 R R Z R R R (.c .k .n) R R R) R (.op (O.bu (l := [lI 0, lI 0, lI 1]) pl97 R Z R R R) R (.op (O.bu (l := [lI 0, lI 1, lI 2]) pl97 R Z R R R) R (.op (O.bu (l := [lI 1, lI 1, lI 3]) pl97 R Z R R R) R (.op (O.bu (l := [lI 2, lI 0, lI 3]) pl97 R Z R R R) R (.op (O.bsF (r := qT) (zs := ([(0, 0, 1), (0, 1, 2), (1, 1, 3), (2, 0, 3)] : List (Int × Int × Int))) bs23 R R Z R R R (.c (.p .k (.p .k .k)) (.c (.p .k (.p .k .k)) (.c (.p .k (.p .k .k)) (.c (.p .k (.p .k .k)) .n)))) R R R) R (.op (O.bu (l := [lF qI ([0, 1] : List Int), lI 4, lF qI ([3] : List Int), lF qT ([(0, 0, 1), (0, 1, 2), (1, 1, 3), (2, 0, 3)] : List (Int × Int × Int))]) pl25 R Z R R R) R (.op (O.al 1 R zz25 R Z R) R (.op (O.st ag25.sz Z R R R R R) R (.nil (.seqN (.seq (.reg (.op (O.bsF (r := qI) (zs := ([0, 1] : List Int)) bs22 R R Z R R R (.c .k (.c .k .n)) R R R) R (.op (O.bsF (r := qI) (zs := ([3, 4] : List Int)) bs22 R R Z R R R (.c .k (.c .k .n)) R R R) R (.op (O.bu (l := [lI 0, lI 0, lI 1]) pl97 R Z R R R) R (.op (O.bu (l := [lI 0, lI 1, lI 2]) pl97 R Z R R R) R (.op (O.bu (l := [lI 1, lI 1, lI 3]) pl97 R Z R R R) R (.op (O.bu (l := [lI 2, lI 0, lI 4]) pl97 R Z R R R) R (.op (O.bsF (r := qT) (zs := ([(0, 0, 1), (0, 1, 2), (1, 1, 3), (2, 0, 4)] : List (Int × Int × Int))) bs23 R R Z R R R (.c (.p .k (.p .k .k)) (.c (.p .k (.p .k .k)) (.c (.p .k (.p .k .k)) (.c (.p .k (.p .k .k)) .n)))) R R R) R (.op (O.bu (l := [lF qI ([0, 1] : List Int), lI 5, lF qI ([3, 4] : List Int), lF qT ([(0, 0, 1), (0, 1, 2), (1, 1, 3), (2, 0, 4)] : List (Int × Int × Int))]) pl25 R Z R R R) R (.op (O.al 2 R zz25 R Z R) R (.op (O.st ag25.sz Z R R R R R) R (.nil (.seqN (.seq (.reg (.op (O.lg (l' := [lF qI ([0, 1] : List Int), lI 4, lF qI ([3] : List Int), lF qT ([(0, 0, 1), (0, 1, 2), (1, 1, 3), (2, 0, 3)] : List (Int × Int × Int))]) ag25 Z R (.B R) R R R) R (.op (O.lg (l' := [lF qI ([0, 1] : List Int), lI 5, lF qI ([3, 4] : List Int), lF qT ([(0, 0, 1), (0, 1, 2), (1, 1, 3), (2, 0, 4)] : List (Int × Int × Int))]) ag25 Z R (.B R) R R R) R (.op (O.bsF (r := qI) (zs := ([0, 1] : List Int)) bs22 R R Z R R R (.c .k (.c .k .n)) R R R) R (.op (O.bu (l := [lF qI ([0, 1] : List Int), lI 4, lF qI ([3] : List Int), lF qT ([(0, 0, 1), (0, 1, 2), (1, 1, 3), (2, 0, 3)] : List (Int × Int × Int)), lF qI ([0, 1] : List Int), lI 5, lF qI ([3, 4] : List Int), lF qT ([(0, 0, 1), (0, 1, 2), (1, 1, 3), (2, 0, 4)] : List (Int × Int × Int)), lF qI ([0, 1] : List Int)]) pl27 R Z R R R) R (.op (O.st ag27.sz Z R R R R R) R ?_)))))))))))))))))))))))))))))))))))))))
 refine .nil (.seqN (.ret ?_))
 obtain rfl := oi hm
 exact WX.rt [] (.inl R) Tryz.results50 (.cell R R ag27 R .nil) R (fun _ _ _ h => h) trivial
def y1F (p0 : List Int) (p1 : Int) (st10 : Int) : Option (Int ⊕ (Unit ⊕ Int)) :=
 if decide (st10 < (p0.length : Int)) then
  (idx p0 st10).bind fun x16 =>
  if ((decide (x16 < 0)) || (decide (x16 ≥ p1))) then
   some (.inr (.inr (2)))
  else
   (if decide (st10 > 0) then
    (idx p0 (W (st10 - 1))).bind fun x22 =>
    some (decide (x16 ≤ x22))
   else
    some false).bind fun b19 =>
   if b19 then
    some (.inr (.inr (5)))
   else
    some (.inl (W (st10 + 1)))
 else
  some (.inr (.inl ()))
def yY (p0 : List Int) (p1 : Int) : Option Int :=
 (iter (y1F p0 p1) 0).bind fun o10 =>
 match o10 with
 | .inl u12 =>
  some 0
 | .inr (u14) =>
  some u14
theorem y5j {p0 : List Int} {p1 : Int} {r : Int} (hm : yY p0 p1 = some r) :
  Fw Tryz.prog 102 ⟨0, []⟩ [.f qI p0, .i p1] [] (.i r) [] := by
 unfold yY at hm
 refine Fw.mk' Tryz.func102 R Tryz.ntmps102 R R (fun C => ?_) R R
 refine .seq (.reg (.sa R (.nil (.seqN (.seq (.seq (.reg (.mv R (.op (O.len sl22 Z R R) R (.mv R (.nil (.seqN (.block (bS hm fun o10 eo10 hm => ?_))))))))))))))
 refine .cutU (z := .exit 0) (fun u12 => .inl u12 = o10) (fun (u12 : Unit) => ⟨[], [], 0⟩) ?_ fun K13 => ?_
 ·rintro u12 rfl
  dsimp only at hm
  refine .blkE (.seqN (.seq (.reg (.sa R (.nil (.seqN (.ret ?_)))))))
  obtain rfl := oi hm
  exact WX.rt [] (.inl R) Tryz.results102 (.tmp R .nil) R (fun _ _ _ h => h) trivial
 refine .cutU (z := .ret) (fun u14 => .inr (u14) = o10) (fun (u14 : Int) => ⟨[(4, .i u14)], [], 0⟩) ?_ fun K15 => ?_
 ·rintro u14 rfl
  dsimp only at hm
  refine .blkR (.seqR ?_)
  obtain rfl := oi hm
  exact WX.rt [] (.inl R) Tryz.results102 (.tmp R .nil) R (fun _ _ _ h => h) trivial
 refine .iter (fun (st10 : Int) => ⟨[(9, .i st10), (8, .i (p0.length : Int)), (7, .f qI p0), (0, .f qI p0), (1, .i p1)], [], 0⟩) eo10 [] R ?_
 intro st10 res10 hm ih10 ho10
 unfold y1F at hm
 refine .seq (.reg (.bi R (.nil (.seqN (.seq ?_)))))
 rcases ifS hm with ⟨hc, hm⟩ | ⟨hc, hm⟩
 ·refine .cT R hc ?_
  refine .skip (.seqN (.seq (.block (.seq (.reg (.mv R (bS hm fun x16 ex16 hm => .op (O.ix sl22 Z R R ex16 R) R (.op (O.ld nag3 Z R (.E lv3) R R) R (.sa R (.sa R (.nil (.seqN (.block (.seq (.reg (.mv R (.bi R (.mv R ?_))))))))))))))))))
  refine .cut 4 (fun (v17 : Bool) => ((decide (x16 < 0)) || (decide (x16 ≥ p1))) = v17) (fun v17 => ⟨[(21, .b v17), (6, .i x16), (5, .i st10), (9, .i st10), (8, .i (p0.length : Int)), (7, .f qI p0), (0, .f qI p0), (1, .i p1)], [], 0⟩) ?_ ?_
  ·rintro _ rfl
   refine .sa R (.nil (.seqN ?_))
   rcases ifS hm with ⟨hc, hm⟩ | ⟨hc, hm⟩
   ·refine .cT R hc ?_
    exact .seq (.reg (.sa R (.nil (.seqN (.ret (.blkR (.blkR (.seqR (.seqR ((K15 _ (ho10 _ (oi hm).symm)).sub [] R))))))))))
   ·refine .cF R hc ?_
    refine .seq (.reg (.mv R (.bi R (.mv R (bS hm fun b19 eb19 hm => ?_)))))
    refine .cut 8 (fun (v20 : Bool) => b19 = v20) (fun v20 => ⟨[(33, .b v20), (9, .i st10), (8, .i (p0.length : Int)), (7, .f qI p0), (0, .f qI p0), (1, .i p1)], [], 0⟩) ?_ ?_
    ·rintro _ rfl
     refine .sa R (.nil (.seqN ?_))
     rcases ifS hm with ⟨hc, hm⟩ | ⟨hc, hm⟩
     ·refine .cT R hc ?_
      exact .seq (.reg (.sa R (.nil (.seqN (.ret (.blkR (.blkR (.seqR (.seqR ((K15 _ (ho10 _ (oi hm).symm)).sub [] R))))))))))
     ·refine .cF R hc ?_
      exact .skip (.blkN (.blkN (.seqN (.reg (.bi R (.mv R (.nil ((ih10 _ (oi hm).symm).sub [] R))))))))
    ·intro J21
     rcases ifS eb19 with ⟨hc, hm⟩ | ⟨hc, hm⟩
     ·refine .know (d := 25) R hc ?_
      exact .op (O.mv (Gu.mk R R) R R) R (.op (O.mv (Gu.mk R R) R R) R (.op (O.mv (Gu.mk R R) R R) R (.op (O.bi (Gu.mk R R) R R R R) R (bS hm fun x22 ex22 hm => .op (O.ix sl22 (Gu.mk R R) R R ex22 R) R (.op (O.ld nag3 (Gu.mk R R) R (.E lv3) R R) R (.op (O.bi (Gu.mk R R) R R R R) R (.op (O.pkT Z R R R R) R ((J21 (decide (x16 ≤ x22)) (oi hm).symm).sub [] R))))))))
     ·refine .know (d := 25) R hc ?_
      exact .sk R (.sk R (.sk R (.sk R (.sk R (.sk R (.sk R (.op (O.pkF Z R R R R) R ((J21 false (oi hm).symm).sub [] R))))))))
  ·intro J18
   rcases Bool.eq_false_or_eq_true (decide (x16 < 0)) with hc | hc
   ·refine .know (d := 17) R hc ?_
    exact .sk R (.sk R (.sk R (.op (O.pkT Z R R R R) R ((J18 true (orT hc).symm).sub [] R))))
   ·refine .know (d := 17) R hc ?_
    exact .op (O.mv (Gu.mk R R) R R) R (.op (O.mv (Gu.mk R R) R R) R (.op (O.bi (Gu.mk R R) R R R R) R (.op (O.pkF Z R R R R) R ((J18 (decide (x16 ≥ p1)) (orF hc).symm).sub [] R))))
 ·refine .cF R hc ?_
  exact .exit (.seqX (.seqX ((K13 _ (ho10 _ (oi hm).symm)).sub [] R)))
def y2c (p0 : List Int) (p1 : Int) (st4 : Int) : Option (Int ⊕ (Unit ⊕ Int)) :=
 if decide (st4 < (p0.length : Int)) then
  (idx p0 st4).bind fun x10 =>
  if (p1 == x10) then
   some (.inr (.inr (st4)))
  else
   some (.inl (W (st4 + 1)))
 else
  some (.inr (.inl ()))
def y4u (p0 : List Int) (p1 : Int) : Option Int :=
 (iter (y2c p0 p1) 0).bind fun o4 =>
 match o4 with
 | .inl u6 =>
  some (-1)
 | .inr (u8) =>
  some u8
theorem y7W {p0 : List Int} {p1 : Int} {r : Int} (hm : y4u p0 p1 = some r) :
  Fw Tryz.prog 131 ⟨0, []⟩ [.f qI p0, .i p1] [] (.i r) [] := by
 unfold y4u at hm
 refine Fw.mk' Tryz.func131 R Tryz.ntmps131 R R (fun C => ?_) R R
 refine .seq (.reg (.sa R (.nil (.seqN (.seq (.seq (.reg (.mv R (.op (O.len sl22 Z R R) R (.mv R (.nil (.seqN (.block (bS hm fun o4 eo4 hm => ?_))))))))))))))
 refine .cutU (z := .exit 0) (fun u6 => .inl u6 = o4) (fun (u6 : Unit) => ⟨[], [], 0⟩) ?_ fun K7 => ?_
 ·rintro u6 rfl
  dsimp only at hm
  refine .blkE (.seqN (.seq (.reg (.sa R (.nil (.seqN (.ret ?_)))))))
  obtain rfl := oi hm
  exact WX.rt [] (.inl R) Tryz.results131 (.tmp R .nil) R (fun _ _ _ h => h) trivial
 refine .cutU (z := .ret) (fun u8 => .inr (u8) = o4) (fun (u8 : Int) => ⟨[(4, .i u8)], [], 0⟩) ?_ fun K9 => ?_
 ·rintro u8 rfl
  dsimp only at hm
  refine .blkR (.seqR ?_)
  obtain rfl := oi hm
  exact WX.rt [] (.inl R) Tryz.results131 (.tmp R .nil) R (fun _ _ _ h => h) trivial
 refine .iter (fun (st4 : Int) => ⟨[(8, .i st4), (7, .i (p0.length : Int)), (0, .f qI p0), (1, .i p1)], [], 0⟩) eo4 [] R ?_
 intro st4 res4 hm ih4 ho4
 unfold y2c at hm
 refine .seq (.reg (.bi R (.nil (.seqN (.seq ?_)))))
 rcases ifS hm with ⟨hc, hm⟩ | ⟨hc, hm⟩
 ·refine .cT R hc ?_
  refine .skip (.seqN (.seq (.block (.seq (.reg (.mv R (.sa R (.nil (.seqN (.seq (.reg (.mv R (.mv R (.mv R (bS hm fun x10 ex10 hm => .op (O.ix sl22 Z R R ex10 R) R (.op (O.ld nag3 Z R (.E lv3) R R) R (.bi R (.nil (.seqN ?_)))))))))))))))))))
  rcases ifS hm with ⟨hc, hm⟩ | ⟨hc, hm⟩
  ·refine .cT R hc ?_
   exact .seq (.reg (.mv R (.sa R (.nil (.seqN (.ret (.blkR (.seqR (.seqR ((K9 _ (ho4 _ (oi hm).symm)).sub [] R))))))))))
  ·refine .cF R hc ?_
   exact .skip (.blkN (.seqN (.reg (.bi R (.mv R (.nil ((ih4 _ (oi hm).symm).sub [] R)))))))
 ·refine .cF R hc ?_
  exact .exit (.seqX (.seqX ((K7 _ (ho4 _ (oi hm).symm)).sub [] R)))
def yA (p0 : List Int) (p1 : Int) : Option Bool :=
 (y4u p0 p1).bind fun r1 =>
 some (decide (r1 ≥ 0))
theorem y3m {p0 : List Int} {p1 : Int} {r : Bool} (hm : yA p0 p1 = some r) :
  Fw Tryz.prog 84 ⟨0, []⟩ [.f qI p0, .i p1] [] (.b r) [] := by
 unfold yA at hm
 refine Fw.mk' Tryz.func84 R Tryz.ntmps84 R R (fun C => ?_) R R
 refine .seq (.reg (.sa R (.nil (.seqN (.seq (.reg (.mv R (.mv R (bS hm fun r1 er1 hm => .op (O.ca0 (y7W er1) cf131 R R Z R R R) R (.bi R (.sa R (.nil (.seqN (.ret ?_))))))))))))))
 obtain rfl := oi hm
 exact WX.rt [] (.inl R) Tryz.results84 (.tmp R .nil) R (fun _ _ _ h => h) trivial
end
end Go.Proofs.YtidakgbibobbdaaGreatDoor
