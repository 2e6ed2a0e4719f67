/- The contract of path. -/
import Derived.Deep.DeepCutAuto
import Derived.StillTailTactics
import Derived.Test.YthchkddhibhenaaRS4
import Derived.Test.YthchkddhibhenaaRS7
namespace Go.Proofs.Ythchkddhibhenaa
open Go.RowKit Go.Shelf
attribute [local go_sem] Oper.semAt_some

/-- What path returns. -/
def PathPost : Option (List Int) → Value → World → Prop
  | some xs, u, w' => ∃ v, u = .tuple #[v, .bool true] ∧ RdI w' v xs
  | none, u, _ => u = .tuple #[.slice none 0 0, .bool false]

/-- How far the search is from its end: its place stands in the box that slot 12 points to. -/
def pathMu (n : Nat) (a : Act) (w : World) : Nat := match a.tmps.getD 12 undef with
  | .pointer (some ad) => n - (intOf ((w.cell? ad).getD undef)).toNat
  | _ => 0

theorem Try.info_step : (Try.prog.info? 115).map (fun i => (i.zero, i.size, i.bytes)) = some (some (.agg #[.int .i64 0, .int .i64 0, .int .i64 0]), 3, 24) := by kernel_rfl

set_option maxRecDepth 100000 in
set_option maxHeartbeats 4000000 in
theorem path_any (aa am ae af : Option Addr) (la lm ca cm ce cf : Nat) (n from_ : Nat) (es : List Ed) (fw fp : FuncId) (capw capp : Array Value) (want : Int → Bool) (perm : Ed → Bool) (w : World)
    (hre : RdS w 3 ae es.length ce (edCells es)) (hrf : RdS w 1 af (n + 1) cf (ints (firsts n es))) (hl : es.length ≤ 1000000) (hn : n ≤ 1000000) (hfrom : from_ < n) (hin : ∀ x ∈ es, 0 ≤ x.t ∧ x.t < n)
    (hew : Enters Try.prog fw) (hep : Enters Try.prog fp)
    (hw : ∀ (s : Int) (W : World), 0 ≤ s → s < n → Below w.heap.size w W → Calls Try.prog fw (#[.int .i64 s] ++ capw) W fun e w' => e = .returned (.bool (want s)) ∧ Below W.heap.size W w')
    (hp : ∀ (x : Ed) (W : World), x ∈ es → Below w.heap.size w W → Calls Try.prog fp (#[x.val] ++ capp) W fun e w' => e = .returned (.bool (perm x)) ∧ Below W.heap.size W w') :
    Calls Try.prog 53 #[.agg #[.slice aa la ca, .int .i64 n, .slice am lm cm, .slice ae es.length ce, .slice af (n + 1) cf], .int .i64 from_, .func (.func fw) #[] capw, .func (.func fp) #[] capp] w
      (Ret w fun u w' => PathPost (pathF n es want perm from_) u w') := by
  obtain ⟨bf, offf, rfl, hcf⟩ := hrf.at_elem 0 (by omega)
  obtain ⟨i0, hi, hz0, hz1, hz2⟩ := info_parts Try.info_bool
  have hmk := fun W : World => run_make (P := Try.prog) W 86 4 i0 (.bool false) Try.underlying86 hi hz0 .i64 .i64 (n : Int) (n : Int) (by omega) (by omega) (by rw [hz2]; omega) (by omega)
  rw [hz1] at hmk
  simp only [Int.toNat_natCast, Nat.mul_one, Value.cells] at hmk
  have hmc : (madeCells #[Value.bool false] n)[from_]? = some (.bool false) := by
    rw [← Array.getElem?_toList, toList_madeCells_one, List.getElem?_replicate, if_pos hfrom]
  have Hcf := Lib.hid hcf
  clear hcf
  have Hw := Lib.hid hw
  have Hp := Lib.hid hp
  have Hin := Lib.hid hin
  have Hew := Lib.hid hew
  have Hep := Lib.hid hep
  clear hw hp hin hew hep
  refine calls_of_marks Try.func53 rfl ?_
  simp only [Try.ntmps53, List.size_toArray, List.length_cons, List.length_nil, Nat.reduceAdd, Nat.reduceSub, Array.replicate_succ, Array.replicate_zero, List.push_toArray, List.append_toArray, List.nil_append, List.cons_append]
  go_wp2_with fail
  clear hmk hmc
  refine wp_loop (fun a' wr => ∃ (v12 v13 v14 v15 v26 v27 v28 v29 v30 v31 v32 v33 v34 v35 v36 v37 v38 v39 v40 v41 v42 v43 v44 v45 v46 v47 v48 v49 v50 v51 v52 v53 v54 v55 v56 v57 v58 v59 v60 v61 v62 v63 v64 v65 v66 v67 v68 v69 v70 v71 v72 v73 v74 v75 v76 v77 v78 v79 v80 v81 v82 v83 v84 v85 v86 v87 v88 v89 v90 v91 v92 v93 v94 : Value) (ds : List Deferred) (tag : Nat → Nat) (bi i : Nat) (vs : Value) (seen : List Bool) (steps : List St), v12 = .pointer (some ⟨bi, 0, none⟩) ∧
      PInv w #[.slice aa la ca, .int .i64 n, .slice am lm cm, .slice ae es.length ce, .slice (some ⟨bf, offf, none⟩) (n + 1) cf] (.func (.func fp) #[] capp) n ds wr tag bi i vs seen steps ∧ POk n seen steps ∧ i ≤ steps.length ∧
      Hid (bfs (subOf es) want perm (n + 1) 0 ((List.replicate n false).set from_ true) [⟨from_, -1, -1⟩] = bfs (subOf es) want perm (n + 1 - i) i seen steps) ∧
      a' = { tmps := #[Value.agg #[.slice aa la ca, .int .i64 n, .slice am lm cm, .slice ae es.length ce, .slice (some ⟨bf, offf, none⟩) (n + 1) cf], Value.int .i64 from_, Value.func (.func fw) #[] capw, Value.func (.func fp) #[] capp, Value.pointer (some ⟨w.heap.size, 0, none⟩), undef, undef, Value.pointer (some ⟨w.heap.size + 1, 0, none⟩), Value.slice none 0 0, Value.bool false, Value.pointer (some ⟨w.heap.size + 1 + 1 + 1, 0, none⟩), Value.pointer (some ⟨w.heap.size + 1 + 1 + 1 + 1 + 1, 0, none⟩), v12, v13, v14, v15, Value.int .i64 from_, Value.agg #[.int .i64 from_, .int .i64 (-1), .int .i64 (-1)], Value.slice (some ⟨w.heap.size + 1 + 1, 0, none⟩) 1 1, Value.pointer (some ⟨w.heap.size, 0, none⟩), Value.pointer (some ⟨w.heap.size, 1, none⟩), Value.int .i64 n, Value.slice (some ⟨w.heap.size + 1 + 1 + 1 + 1, 0, none⟩) n n, Value.slice (some ⟨w.heap.size + 1 + 1 + 1 + 1, 0, none⟩) n n, Value.int .i64 from_, Value.pointer (some ⟨w.heap.size + 1 + 1 + 1 + 1, from_, none⟩), v26, v27, v28, v29, v30, v31, v32, v33, v34, v35, v36, v37, v38, v39, v40, v41, v42, v43, v44, v45, v46, v47, v48, v49, v50, v51, v52, v53, v54, v55, v56, v57, v58, v59, v60, v61, v62, v63, v64, v65, v66, v67, v68, v69, v70, v71, v72, v73, v74, v75, v76, v77, v78, v79, v80, v81, v82, v83, v84, v85, v86, v87, v88, v89, v90, v91, v92, v93, v94], defers := ds }) (fun a' wr => pathMu n a' wr) ?_ ?_
  · repeat apply Exists.intro
    refine ⟨rfl, (?_ : PInv _ _ _ _ _ _ (fun b => if b = w.heap.size + 1 + 1 then 2 else if b = w.heap.size + 1 + 1 + 1 then 3 else if b = w.heap.size + 1 + 1 + 1 + 1 then 1 else if b = w.heap.size + 1 + 1 + 1 + 1 + 1 + 1 then 4 else 0) _ 0 _ ((List.replicate n false).set from_ true) [⟨from_, -1, -1⟩]), POk.start n from_ hfrom, Nat.zero_le _, rfl, rfl⟩
    refine ⟨(by (repeat (first | with_reducible exact Below.refl _ _ | with_reducible exact hre | (with_reducible refine belCall ?_ hre (by first | omega | (simp; done) | (simp; omega) | (simp at *; omega))) | (with_reducible refine Below.alloc ?_ (by first | omega | (simp; done) | (simp; omega) | (simp at *; omega)) _) | (with_reducible refine Below.drew ?_) | (with_reducible refine Below.setCell ?_ (by first | omega | (simp; done) | (simp; omega) | (simp at *; omega)) _)))), Marks.nil _ _, ⟨(by repeat (first | with_reducible assumption | (refine heap_drewp ?_) | (refine heap_at ?_; (first | rfl | (simp; done) | (simp; omega))) | (refine heap_past ?_ ?_; (next => first | omega | (simp; done) | (simp; omega))))), (by (try dsimp only); (repeat' split); all_goals omega), by omega⟩, ⟨(by repeat (first | with_reducible assumption | (refine heap_drewp ?_) | (refine heap_at ?_; (first | rfl | (simp; done) | (simp; omega))) | (refine heap_past ?_ ?_; (next => first | omega | (simp; done) | (simp; omega))))), (by (try dsimp only); (repeat' split); all_goals omega), by omega⟩, ⟨(by repeat (first | with_reducible assumption | (refine heap_drewp ?_) | (refine heap_at ?_; (first | rfl | (simp; done) | (simp; omega))) | (refine heap_past ?_ ?_; (next => first | omega | (simp; done) | (simp; omega))))), (by (try dsimp only); (repeat' split); all_goals omega), by omega⟩, ⟨by simp [stCells, St.cells], .inr ⟨_, 0, 1, _, rfl, ⟨(by repeat (first | with_reducible assumption | (refine heap_drewp ?_) | (refine heap_at ?_; (first | rfl | (simp; done) | (simp; omega))) | (refine heap_past ?_ ?_; (next => first | omega | (simp; done) | (simp; omega))))), (by (try dsimp only); (repeat' split); all_goals omega), by omega⟩, Nat.le_refl _, by simp [maxLen], by simp, by simp [stCells, St.cells]⟩⟩, ⟨(by repeat (first | with_reducible assumption | (refine heap_drewp ?_) | (refine heap_at ?_; (first | rfl | (simp; done) | (simp; omega))) | (refine heap_past ?_ ?_; (next => first | omega | (simp; done) | (simp; omega))))), (by (try dsimp only); (repeat' split); all_goals omega), by omega⟩, ⟨by simp, .inr ⟨_, 0, n, _, rfl, ⟨(by repeat (first | with_reducible assumption | (refine heap_drewp ?_) | (refine heap_at ?_; (first | rfl | (simp; done) | (simp; omega))) | (refine heap_past ?_ ?_; (next => first | omega | (simp; done) | (simp; omega))))), (by (try dsimp only); (repeat' split); all_goals omega), by omega⟩, Nat.le_refl _, by unfold maxLen; omega, by simp [size_madeCells], ?_⟩⟩, ⟨(by repeat (first | with_reducible assumption | (refine heap_drewp ?_) | (refine heap_at ?_; (first | rfl | (simp; done) | (simp; omega))) | (refine heap_past ?_ ?_; (next => first | omega | (simp; done) | (simp; omega))))), (by (try dsimp only); (repeat' split); all_goals omega), by omega⟩⟩
    rw [List.drop_zero, Nat.mul_one, List.take_of_length_le (by simp [size_madeCells]), Array.toList_setIfInBounds, toList_madeCells_one]
    simp
  · intro _ wr h
    obtain ⟨v12, h⟩ := h
    obtain ⟨v13, h⟩ := h
    obtain ⟨v14, h⟩ := h
    obtain ⟨v15, h⟩ := h
    obtain ⟨v26, h⟩ := h
    obtain ⟨v27, h⟩ := h
    obtain ⟨v28, h⟩ := h
    obtain ⟨v29, h⟩ := h
    obtain ⟨v30, h⟩ := h
    obtain ⟨v31, h⟩ := h
    obtain ⟨v32, h⟩ := h
    obtain ⟨v33, h⟩ := h
    obtain ⟨v34, h⟩ := h
    obtain ⟨v35, h⟩ := h
    obtain ⟨v36, h⟩ := h
    obtain ⟨v37, h⟩ := h
    obtain ⟨v38, h⟩ := h
    obtain ⟨v39, h⟩ := h
    obtain ⟨v40, h⟩ := h
    obtain ⟨v41, h⟩ := h
    obtain ⟨v42, h⟩ := h
    obtain ⟨v43, h⟩ := h
    obtain ⟨v44, h⟩ := h
    obtain ⟨v45, h⟩ := h
    obtain ⟨v46, h⟩ := h
    obtain ⟨v47, h⟩ := h
    obtain ⟨v48, h⟩ := h
    obtain ⟨v49, h⟩ := h
    obtain ⟨v50, h⟩ := h
    obtain ⟨v51, h⟩ := h
    obtain ⟨v52, h⟩ := h
    obtain ⟨v53, h⟩ := h
    obtain ⟨v54, h⟩ := h
    obtain ⟨v55, h⟩ := h
    obtain ⟨v56, h⟩ := h
    obtain ⟨v57, h⟩ := h
    obtain ⟨v58, h⟩ := h
    obtain ⟨v59, h⟩ := h
    obtain ⟨v60, h⟩ := h
    obtain ⟨v61, h⟩ := h
    obtain ⟨v62, h⟩ := h
    obtain ⟨v63, h⟩ := h
    obtain ⟨v64, h⟩ := h
    obtain ⟨v65, h⟩ := h
    obtain ⟨v66, h⟩ := h
    obtain ⟨v67, h⟩ := h
    obtain ⟨v68, h⟩ := h
    obtain ⟨v69, h⟩ := h
    obtain ⟨v70, h⟩ := h
    obtain ⟨v71, h⟩ := h
    obtain ⟨v72, h⟩ := h
    obtain ⟨v73, h⟩ := h
    obtain ⟨v74, h⟩ := h
    obtain ⟨v75, h⟩ := h
    obtain ⟨v76, h⟩ := h
    obtain ⟨v77, h⟩ := h
    obtain ⟨v78, h⟩ := h
    obtain ⟨v79, h⟩ := h
    obtain ⟨v80, h⟩ := h
    obtain ⟨v81, h⟩ := h
    obtain ⟨v82, h⟩ := h
    obtain ⟨v83, h⟩ := h
    obtain ⟨v84, h⟩ := h
    obtain ⟨v85, h⟩ := h
    obtain ⟨v86, h⟩ := h
    obtain ⟨v87, h⟩ := h
    obtain ⟨v88, h⟩ := h
    obtain ⟨v89, h⟩ := h
    obtain ⟨v90, h⟩ := h
    obtain ⟨v91, h⟩ := h
    obtain ⟨v92, h⟩ := h
    obtain ⟨v93, h⟩ := h
    obtain ⟨v94, h⟩ := h
    obtain ⟨ds, tag, bi, i, vs, seen, steps, rfl, hI, hok, hi0, hbfs, rfl⟩ := h
    have hsz := hI.size
    have k0 : wr.cell? ⟨bi, 0, none⟩ = some (.int .i64 i) := hI.ib.cell 0
    have k1 : wr.cell? ⟨w.heap.size + 1 + 1 + 1, 0, none⟩ = some vs := hI.sb.cell 0
    have Hk0 := Lib.hid k0
    by_cases hlt : i < steps.length
    · obtain ⟨bs, os, cs, rfl, hbs, s0, s1, s2⟩ := hI.st.at_step i hlt
      have hen : ∀ args W, (callFunc fw args).run Try.prog W = .ok (.enter fw args) W := Hew.out
      have hHen := Lib.hid hen
      clear hen
      have hsr := hok.range steps[i] (List.getElem_mem hlt)
      cases hwant : want steps[i].s
      · have Hwant := Lib.hid hwant
        clear hwant
        go_wp2_with fail
        rw [hHen.out, Oper.upon_enter]
        refine (Hw.out steps[i].s wr hsr.1 hsr.2 hI.below).mono ?_
        rintro e w1 ⟨he, hb1⟩
        rw [Hwant.out] at he
        subst he
        dsimp only
        have hI1 := hI.call hb1
        clear k0 k1 s0 s1 s2
        have hsz1 := hI1.size
        have k0 : w1.cell? ⟨bi, 0, none⟩ = some (.int .i64 i) := hI1.ib.cell 0
        obtain ⟨bs', os', cs', e1, hbs', s0, s1, s2⟩ := hI1.st.at_step i hlt
        cases e1
        have k1 : w1.cell? ⟨w.heap.size + 1 + 1 + 1, 0, none⟩ = some (.slice (some ⟨bs, os, none⟩) steps.length cs) := hI1.sb.cell 0
        have g0 : w1.cell? ⟨w.heap.size, 0, none⟩ = some (Value.slice aa la ca) := hI1.g.cell 0
        have g1 : w1.cell? ⟨w.heap.size, 1, none⟩ = some (Value.int .i64 n) := hI1.g.cell 1
        have g2 : w1.cell? ⟨w.heap.size, 2, none⟩ = some (Value.slice am lm cm) := hI1.g.cell 2
        have g3 : w1.cell? ⟨w.heap.size, 3, none⟩ = some (Value.slice ae es.length ce) := hI1.g.cell 3
        have g4 : w1.cell? ⟨w.heap.size, 4, none⟩ = some (Value.slice (some ⟨bf, offf, none⟩) (n + 1) cf) := hI1.g.cell 4
        go_wp2_with fail
        go_still_tail 6, (by kernel_rfl)
        change wpList _ _ _ _ _ w1.drew
        have hI2 := hI1.call (bel_drew w1)
        clear g0 g1 g2 g3 g4 k0 k1 s0 s1 s2 hI1 hsz1 hb1 hbs' hbs hI
        generalize w1.drew = w2 at *
        go_wp2_with (go_at_call 68; refine (edges_any _ _ _ _ _ _ _ _ _ _ _ _ _ _ _).mono ?_; rintro e w3 ⟨rfl, rfl⟩)
        have hI3 := (hI2.call (bel_alloc w2 (.cells #[.slice aa la ca, .int .i64 n, .slice am lm cm, .slice ae es.length ce, .slice (some ⟨bf, offf, none⟩) (n + 1) cf] 80))).call (bel_alloc _ (.cells #[.int .i64 steps[i].s] 3))
        have hg3 : ((w2.alloc (.cells #[.slice aa la ca, .int .i64 n, .slice am lm cm, .slice ae es.length ce, .slice (some ⟨bf, offf, none⟩) (n + 1) cf] 80)).alloc (.cells #[.int .i64 steps[i].s] 3)).cell? ⟨w2.heap.size, 3, none⟩ = some (.slice ae es.length ce) := by simp [go_sem]
        have hg4 : ((w2.alloc (.cells #[.slice aa la ca, .int .i64 n, .slice am lm cm, .slice ae es.length ce, .slice (some ⟨bf, offf, none⟩) (n + 1) cf] 80)).alloc (.cells #[.int .i64 steps[i].s] 3)).cell? ⟨w2.heap.size, 4, none⟩ = some (.slice (some ⟨bf, offf, none⟩) (n + 1) cf) := by simp [go_sem]
        have hg5 : ((w2.alloc (.cells #[.slice aa la ca, .int .i64 n, .slice am lm cm, .slice ae es.length ce, .slice (some ⟨bf, offf, none⟩) (n + 1) cf] 80)).alloc (.cells #[.int .i64 steps[i].s] 3)).cell? ⟨w2.heap.size + 1, 0, none⟩ = some (.int .i64 steps[i].s) := by simp [go_sem]
        clear hI2
        generalize (w2.alloc (.cells #[.slice aa la ca, .int .i64 n, .slice am lm cm, .slice ae es.length ce, .slice (some ⟨bf, offf, none⟩) (n + 1) cf] 80)).alloc (.cells #[.int .i64 steps[i].s] 3) = w3 at *
        have hfc : ∀ s : Nat, s ≤ n → w3.cell? ⟨bf, offf + s, none⟩ = some (.int .i64 (fstN es s)) := by
          intro s hs
          have h1 := Hcf.out s (by simp [firsts]; omega)
          have h2 := firsts_get n es s hs
          rw [List.getElem?_eq_getElem (by simp [firsts]; omega)] at h2
          rw [Option.some.inj h2] at h1
          exact keep0 hI3.below h1
        have hseq := edges_stops w2.heap.size (w2.heap.size + 1) w.heap.size ae (some ⟨bf, offf, none⟩) ce (n + 1) cf steps[i].s es (fstN es steps[i].s) (fstN es (steps[i].s + 1)) (fstN_mono es _ _ (by omega)) (fstN_le es _) hl w3 hI3.below.size hg3 hg4 hg5 hsr.1 (by omega) bf offf rfl (by omega)
          (by have := hfc steps[i].s.toNat (by omega); rwa [Int.toNat_of_nonneg hsr.1] at this) (by have := hfc (steps[i].s + 1).toNat (by omega); rwa [Int.toNat_of_nonneg (by omega)] at this) (hre.mono hI3.below) (fun h0 ad e => World.block_lt_of_cell? w ⟨ad.block, ad.off + 0, none⟩ (hre.cell ad e 0 (by rw [hre.hlen]; omega)))
        clear hg3 hg4 hg5 hfc
        refine wp_edges (bg := w2.heap.size) (bs := w2.heap.size + 1) (n₀ := w.heap.size) rfl hseq (Below.refl _ _) hI3.below.size rfl
          (fun pre W => (∀ y ∈ pre, y ∈ subOf es steps[i].s) ∧ ∃ tag vs, PInv w #[.slice aa la ca, .int .i64 n, .slice am lm cm, .slice ae es.length ce, .slice (some ⟨bf, offf, none⟩) (n + 1) cf] (.func (.func fp) #[] capp) n ds W tag bi i vs (pre.foldl (pStep perm i) (seen, steps)).1 (pre.foldl (pStep perm i) (seen, steps)).2)
          ?hI ⟨by simp, tag, _, hI3⟩
          (fun x a' W => ∃ Bx, w.heap.size ≤ Bx ∧ W.heap[Bx]? = some (.cells #[.int .i64 x.f, .int .i64 x.e, .int .i64 x.t] 45 (0, 0)) ∧ a' = { tmps := #[Value.agg #[.slice aa la ca, .int .i64 n, .slice am lm cm, .slice ae es.length ce, .slice (some ⟨bf, offf, none⟩) (n + 1) cf], Value.int .i64 from_, Value.func (.func fw) #[] capw, Value.func (.func fp) #[] capp, Value.pointer (some ⟨w.heap.size, 0, none⟩), undef, undef, Value.pointer (some ⟨w.heap.size + 1, 0, none⟩), Value.slice none 0 0, Value.bool false, Value.pointer (some ⟨w.heap.size + 1 + 1 + 1, 0, none⟩), Value.pointer (some ⟨w.heap.size + 1 + 1 + 1 + 1 + 1, 0, none⟩), Value.pointer (some ⟨bi, 0, none⟩), v13, v14, Value.pointer (some ⟨Bx, 0, none⟩), Value.int .i64 from_, Value.agg #[.int .i64 from_, .int .i64 (-1), .int .i64 (-1)], Value.slice (some ⟨w.heap.size + 1 + 1, 0, none⟩) 1 1, Value.pointer (some ⟨w.heap.size, 0, none⟩), Value.pointer (some ⟨w.heap.size, 1, none⟩), Value.int .i64 n, Value.slice (some ⟨w.heap.size + 1 + 1 + 1 + 1, 0, none⟩) n n, Value.slice (some ⟨w.heap.size + 1 + 1 + 1 + 1, 0, none⟩) n n, Value.int .i64 from_, Value.pointer (some ⟨w.heap.size + 1 + 1 + 1 + 1, from_, none⟩), Value.int .i64 i, Value.slice (some ⟨bs, os, none⟩) steps.length cs, Value.int .i64 steps.length, Value.bool true, v30, v31, Value.func (.func fw) #[] capw, Value.slice (some ⟨bs, os, none⟩) steps.length cs, Value.int .i64 i, Value.pointer (some ⟨bs, os + i * 3, none⟩), Value.pointer (some ⟨bs, os + i * 3, none⟩), Value.int .i64 steps[i].s, Value.bool false, v39, v40, v41, v42, v43, v44, v45, v46, v47, v48, v49, v50, v51, v52, v53, v54, v55, v56, v57, v58, v59, v60, v61, Value.agg #[.slice aa la ca, .int .i64 n, .slice am lm cm, .slice ae es.length ce, .slice (some ⟨bf, offf, none⟩) (n + 1) cf], Value.slice (some ⟨bs, os, none⟩) steps.length cs, Value.int .i64 i, Value.pointer (some ⟨bs, os + i * 3, none⟩), Value.pointer (some ⟨bs, os + i * 3, none⟩), Value.int .i64 steps[i].s, Value.func (.func 84) #[] #[.pointer (some ⟨w2.heap.size, 0, none⟩), .pointer (some ⟨w2.heap.size + 1, 0, none⟩)], Value.agg #[.int .i64 x.f, .int .i64 x.e, .int .i64 x.t], v70, v71, v72, v73, v74, v75, v76, v77, v78, v79, v80, v81, v82, v83, v84, v85, v86, v87, v88, v89, v90, v91, v92, v93, v94], defers := [] })
          ?hAx ?assign ?body ?done
        case hI =>
          intro pre W W' row h1 hg hr
          obtain ⟨h1, tag, vs, h2⟩ := h1
          exact ⟨h1, tag, vs, h2.others hg (fun D hD => hI3.marks.lt hD) hI3.below.size hr⟩
        case hAx =>
          intro x a' u W W' row h1 hg hr
          obtain ⟨Bx, h1, h2, h3⟩ := h1
          refine ⟨Bx, h1, (hg.block Bx (Array.getElem?_eq_some_iff.1 h2).1 (fun e => ?_)).trans h2, h3⟩
          obtain ⟨o, ho, hc⟩ := (hr Bx e.symm).2
          rw [h2] at ho
          cases ho
          cases hc
        case assign =>
          intro l pre x W K hx hiW hK
          dsimp only [Ed.val]
          gi_wp2
          refine hK _ _ ((KeepsOthers.alloc _ _).from _) ((Below.refl _ W).alloc ?_ _) ?_ ⟨W.heap.size, ?_, (by repeat (first | with_reducible assumption | (refine heap_drewp ?_) | (refine heap_at ?_; (first | rfl | (simp; done) | (simp; omega))) | (refine heap_past ?_ ?_; (next => first | omega | (simp; done) | (simp; omega))))), rfl⟩
          · obtain ⟨_, _, _, h2⟩ := hiW; exact h2.below.size
          · obtain ⟨h1, tag, vs, h2⟩ := hiW; exact ⟨h1, tag, vs, h2.call (bel_alloc _ _)⟩
          · obtain ⟨_, _, _, h2⟩ := hiW; exact h2.below.size
        case body =>
          rintro l pre x a' W hx hl ⟨hpre, tag, vs, hJ⟩ ⟨Bx, hBx, hbx, rfl⟩
          have hJ2 := hJ.retag hbx
          have hOx : Own W w.heap.size (tagUp tag Bx 5) 5 Bx #[.int .i64 x.f, .int .i64 x.e, .int .i64 x.t] 45 := ⟨hbx, tagUp_at _ _ _, hBx⟩
          have hxe := subOf_mem hx
          have hxr := Hin.out x hxe
          obtain ⟨hok', hi'⟩ := POk.fold (perm := perm) pre hok hlt (fun y hy => Hin.out y (subOf_mem (hpre y hy)))
          have Hmem : Hid (∀ y ∈ pre ++ [x], y ∈ subOf es steps[i].s) := by
            intro y hy
            rcases List.mem_append.1 hy with h1 | h1
            · exact hpre y h1
            · rw [List.mem_singleton.1 h1]; exact hx
          have Hacc : Hid ((pre ++ [x]).foldl (pStep perm i) (seen, steps) = pStep perm i (pre.foldl (pStep perm i) (seen, steps)) x) := by
            show _ = _
            rw [List.foldl_append]; rfl
          clear hpre hx hJ
          generalize pre.foldl (pStep perm i) (seen, steps) = acc at *
          obtain ⟨se, st⟩ := acc
          dsimp only at hJ2 hok' hi'
          have hszW := hJ2.size
          have hBW := hJ2.below.size
          have hBxl := hOx.lt
          have x0 : W.cell? ⟨Bx, 0, none⟩ = some (.int .i64 x.f) := hOx.cell 0
          have x1 : W.cell? ⟨Bx, 1, none⟩ = some (.int .i64 x.e) := hOx.cell 1
          have x2 : W.cell? ⟨Bx, 2, none⟩ = some (.int .i64 x.t) := hOx.cell 2
          have e0 : W.cell? ⟨w.heap.size + 1 + 1 + 1 + 1 + 1, 0, none⟩ = some (.slice (some ⟨w.heap.size + 1 + 1 + 1 + 1, 0, none⟩) n n) := hJ2.eb.cell 0
          have hlen := hok'.len
          have e1 := hJ2.se.cellAt x.t.toNat (by omega)
          have hq : x.t.toNat < se.length := by omega
          clear hlen
          rw [List.getElem?_map, List.getElem?_eq_getElem hq, Nat.zero_add, Option.map_some] at e1
          cases hb : se[x.t.toNat]
          · rw [hb] at e1
            have e2 : W.cell? ⟨w.heap.size + 1, 0, none⟩ = some (.func (.func fp) #[] capp) := hJ2.fp.cell 0
            have Hb := Lib.hid hb
            clear hb
            have hHep : Hid (∀ args W, (callFunc fp args).run Try.prog W = .ok (.enter fp args) W) := Hep.out
            cases hpx : perm x
            · have Hpx := Lib.hid hpx
              clear hpx
              gi_wp2_with fail
              refine ⟨trivial, ?_⟩
              rw [hHep.out, Oper.uponIn_enter]
              refine ⟨fun _ => by decide, ?_⟩
              refine (CallsIn.inRound l (callsIn_wide.2 (Hp.out x W hxe hJ2.below))).mono ?_
              rintro e w4 ⟨he, hb4⟩
              rw [Hpx.out] at he
              subst he
              dsimp only
              gi_wp2
              refine ⟨(keepsBelow hb4), belCall (Below.refl _ _) hb4 hJ2.below.size, Hmem.out, tagUp tag Bx 5, vs, ?_⟩
              rw [Hacc.out, show pStep perm i (se, st) x = (se, st) from ?_]
              · exact hJ2.call hb4
              · unfold pStep
                rw [if_neg]
                rw [Hpx.out]
                simp
            · have Hpx := Lib.hid hpx
              clear hpx
              gi_wp2_with fail
              refine ⟨trivial, ?_⟩
              rw [hHep.out, Oper.uponIn_enter]
              refine ⟨fun _ => by decide, ?_⟩
              refine (CallsIn.inRound l (callsIn_wide.2 (Hp.out x W hxe hJ2.below))).mono ?_
              rintro e w4 ⟨he, hb4⟩
              rw [Hpx.out] at he
              subst he
              dsimp only
              have hJ4 := hJ2.call hb4
              have hO4 := hOx.below hb4
              obtain ⟨avs, cvs, rfl⟩ := hJ4.st.val
              clear x0 x1 x2 e0 e1 e2 hJ2 hOx
              have hle := hok'.le
              have hszW4 := hJ4.size
              have hBxl4 := hO4.lt
              have x2 : w4.cell? ⟨Bx, 2, none⟩ = some (.int .i64 x.t) := hO4.cell 2
              have e0 : w4.cell? ⟨w.heap.size + 1 + 1 + 1 + 1 + 1, 0, none⟩ = some (.slice (some ⟨w.heap.size + 1 + 1 + 1 + 1, 0, none⟩) n n) := hJ4.eb.cell 0
              have e1 := hJ4.se.cellAt x.t.toNat (by omega)
              rw [List.getElem?_map, List.getElem?_eq_getElem hq, Nat.zero_add, Option.map_some] at e1
              have e2 := hJ4.se.frozenAt x.t.toNat
              obtain ⟨hJ5, t5⟩ := hJ4.setSeen x.t.toNat
              have hO5 := hO4.turn t5 (by decide)
              have y1 : (w4.setCell ⟨w.heap.size + 1 + 1 + 1 + 1, x.t.toNat, none⟩ (.bool true)).cell? ⟨Bx, 1, none⟩ = some (.int .i64 x.e) := hO5.cell 1
              have y2 : (w4.setCell ⟨w.heap.size + 1 + 1 + 1 + 1, x.t.toNat, none⟩ (.bool true)).cell? ⟨Bx, 2, none⟩ = some (.int .i64 x.t) := hO5.cell 2
              have y3 : (w4.setCell ⟨w.heap.size + 1 + 1 + 1 + 1, x.t.toNat, none⟩ (.bool true)).cell? ⟨w.heap.size + 1 + 1 + 1, 0, none⟩ = some (.slice avs st.length cvs) := hJ5.sb.cell 0
              have y4 : (w4.setCell ⟨w.heap.size + 1 + 1 + 1 + 1, x.t.toNat, none⟩ (.bool true)).cell? ⟨bi, 0, none⟩ = some (.int .i64 i) := hJ5.ib.cell 0
              have T5 := Lib.hid t5
              clear t5 hO5 hJ4 hO4
              obtain ⟨i1, hi1, hw0, hw1, hw2⟩ := info_parts Try.info_step
              have hJ6 := hJ5.call (bel_alloc _ (.cells #[.int .i64 x.t, .int .i64 i, .int .i64 x.e] 115))
              gi_wp2_with (gi_at_builtin; (refine wpListIn_append_row rfl _ _ 116 rfl 115 i1 (.agg #[.int .i64 0, .int .i64 0, .int .i64 0]) 24 Try.underlying116 hi1 hw0 hw1 hw2 rfl rfl hJ6.st (some ⟨_, 0, none⟩) 1 1 [.int .i64 x.t, .int .i64 i, .int .i64 x.e] rfl rfl (by simp) (fun ad e => by cases e; exact new_cells_at _ _ (by simp)) (by simp [Value.oneCell']) (by unfold maxLen; omega) (by omega) hJ6.below.size ?_); intro v6 w6 tag6 hr6 ht6; have hJ7 := hJ6.push (x := ⟨x.t, i, x.e⟩) hr6 ht6; have s6 := hJ6.sb.turn ht6 (by decide); obtain ⟨a6, c6, rfl⟩ := hr6.val; have z0 := s6.cell 0; have z1 := s6.frozen 0; have z2 : w6.cell? ⟨w.heap.size + 1 + 1 + 1, 0, none⟩ = some (.slice avs st.length cvs) := z0; clear z0)
              refine ⟨(keepsBelow hb4).trans ((keepsTurn T5.out).trans ((keepsBelow (bel_alloc _ (.cells #[.int .i64 x.t, .int .i64 i, .int .i64 x.e] 115))).trans ((keepsTurn ht6).trans (keepsTurn (Turn.setCell s6 0 (.slice a6 (st.length + 1) c6)))))), ?_, Hmem.out, tag6, .slice a6 (st.length + 1) c6, ?_⟩
              · have q1 := belCall (Below.refl w.heap.size W) hb4 hBW
                have q2 := belTurn q1 T5.out (Nat.le_trans hBW hb4.size)
                have q3 := belCall q2 (bel_alloc _ (.cells #[.int .i64 x.t, .int .i64 i, .int .i64 x.e] 115)) (Nat.le_trans hBW q2.size)
                have q4 := belTurn q3 ht6 (Nat.le_trans hBW q3.size)
                exact belTurn q4 (Turn.setCell s6 0 (.slice a6 (st.length + 1) c6)) (Nat.le_trans hBW q4.size)
              · rw [Hacc.out, show pStep perm i (se, st) x = (se.set x.t.toNat true, st ++ [⟨x.t, i, x.e⟩]) from ?_]
                · exact hJ7
                · unfold pStep
                  rw [if_pos]
                  dsimp only
                  rw [List.getElem?_eq_getElem hq, Hb.out, Hpx.out]
                  exact ⟨rfl, rfl⟩
          · rw [hb] at e1
            have Hb := Lib.hid hb
            clear hb
            gi_wp2
            refine ⟨fun _ h => (by cases h), ?_⟩
            gi_wp2
            refine ⟨KeepsFrom.refl _ _, Below.refl _ _, Hmem.out, tagUp tag Bx 5, vs, ?_⟩
            rw [Hacc.out, show pStep perm i (se, st) x = (se, st) from ?_]
            · exact hJ2
            · unfold pStep
              rw [if_neg]
              dsimp only
              rw [List.getElem?_eq_getElem hq, Hb.out]
              simp
        case done =>
          rintro D W hD ⟨hpre, tag', vs', hW⟩ hd
          have hW2 := hW.mark (fun D' hD' => hI3.marks.lt hD') hD hI3.below.size hd
          have hszW := hW2.size
          have hibl := hW2.ib.lt
          have k2 : W.cell? ⟨bi, 0, none⟩ = some (.int .i64 i) := hW2.ib.cell 0
          have hile := hok.le
          have Hfin := Lib.hid (hW2.newI (i + 1))
          obtain ⟨hok', hi'⟩ := POk.fold (perm := perm) (subOf es steps[i].s) hok hlt (fun y hy => Hin.out y (subOf_mem hy))
          have Hb2 : Hid (bfs (subOf es) want perm (n + 1 - i) i seen steps = bfs (subOf es) want perm (n + 1 - (i + 1)) (i + 1) ((subOf es steps[i].s).foldl (pStep perm i) (seen, steps)).1 ((subOf es steps[i].s).foldl (pStep perm i) (seen, steps)).2) := by
            show _ = _
            rw [show n + 1 - i = n - i + 1 by omega, bfs_next hlt Hwant.out, show n + 1 - (i + 1) = n - i by omega]
          clear hpre hseq hd hW hW2
          go_wp2_with fail
          refine ⟨?_, ?_⟩
          · repeat apply Exists.intro
            exact ⟨rfl, Hfin.out, hok', hi', hbfs.out.trans Hb2.out, rfl⟩
          · unfold pathMu
            have Hk := Hk0.out
            simp [Hk, intOf]
            omega
      · have Hwant := Lib.hid hwant
        clear hwant
        go_wp2_with fail
        rw [hHen.out, Oper.upon_enter]
        refine (Hw.out steps[i].s wr hsr.1 hsr.2 hI.below).mono ?_
        rintro e w1 ⟨he, hb1⟩
        rw [Hwant.out] at he
        subst he
        dsimp only
        have hI1 := hI.call hb1
        clear k0 k1 s0 s1 s2 hI hb1 hbs
        have hsz1 := hI1.size
        have k0 : w1.cell? ⟨bi, 0, none⟩ = some (.int .i64 i) := hI1.ib.cell 0
        have hile := hok.le
        have Hpath : Hid (pathF n es want perm from_ = some (back steps (i + 1) i).reverse) := by
          show _ = _
          unfold pathF
          rw [hbfs.out, show n + 1 - i = n - i + 1 by omega, bfs_found hlt Hwant.out]; rfl
        obtain ⟨i2, hi2, hy0, hy1, hy2⟩ := info_parts Try.info_int
        go_wp2_with fail
        go_loopw [13, 14] (fun v k wr' => ∃ (xs : List Int) (kk f : Nat) (tag' : Nat → Nat), k = .int .i64 kk ∧ Row wr' w.heap.size tag' 6 3 1 v xs.length (ints xs) ∧ xs.length + kk ≤ i ∧ kk < f ∧ Hid (back steps (i + 1) i = xs ++ back steps f kk) ∧
          PInv w #[.slice aa la ca, .int .i64 n, .slice am lm cm, .slice ae es.length ce, .slice (some ⟨bf, offf, none⟩) (n + 1) cf] (.func (.func fp) #[] capp) n ds wr' tag' bi i (.slice (some ⟨bs, os, none⟩) steps.length cs) seen steps) (fun _ k _ => (intOf k).toNat)
        case atStart => exact ⟨[], i, i + 1, tag, rfl, Row.nil _ _ _ _ _ _, by simp, by omega, by simp [Hid], hI1⟩
        case round =>
          clear hI1 hsz1 k0
          obtain ⟨xs, kk, f, tag', rfl, hv, hxk, hkf, hbk, hI4⟩ := hrel
          obtain ⟨bs', os', cs', e1, hbs', s0, s1, s2⟩ := hI4.st.at_step kk (by omega)
          cases e1
          have hsz4 := hI4.size
          have k1 : wr.cell? ⟨w.heap.size + 1 + 1 + 1, 0, none⟩ = some (.slice (some ⟨bs, os, none⟩) steps.length cs) := hI4.sb.cell 0
          have hpar := hok.parent kk (by omega)
          obtain ⟨av, cv, rfl⟩ := hv.val
          by_cases hp : 0 ≤ steps[kk].p
          · obtain ⟨kp, hkp⟩ := Int.eq_ofNat_of_zero_le hp
            have Hnext : Hid (back steps f kk = steps[kk].e :: back steps (f - 1) kp) := by
              show _ = _
              obtain ⟨f', rfl⟩ : ∃ f', f = f' + 1 := ⟨f - 1, by omega⟩
              rw [back_next (by omega) hp, hkp]; rfl
            have hkk : kp < kk := by omega
            rw [hkp] at s1
            have Hkp := Lib.hid hkp
            clear hkp hp hpar
            generalize steps[kk].e = ev at *
            have hv2 := hv.below (bel_alloc wr (.cells #[.int .i64 ev] 3))
            have hI5 := hI4.call (bel_alloc wr (.cells #[.int .i64 ev] 3))
            go_wp2_with (at_builtin; refine wpList_append_row rfl _ _ 28 rfl 3 i2 (.int .i64 0) 8 Try.underlying28 hi2 hy0 hy1 hy2 rfl rfl hv2 (some ⟨_, 0, none⟩) 1 1 [.int .i64 ev] rfl rfl (by simp) (fun ad e => by cases e; exact new_cells_at _ _ rfl) (by simp [Value.oneCell']) (by unfold maxLen; omega) (by omega) hI5.below.size ?_; intro v6 w6 tag6 hr6 ht6; have hI6 := hI5.turn ht6 (by decide); have q1 : w6.cell? ⟨w.heap.size + 1 + 1 + 1, 0, none⟩ = some (.slice (some ⟨bs, os, none⟩) steps.length cs) := hI6.sb.cell 0; obtain ⟨bs6, os6, cs6, e6, hbs6, r0, r1, r2⟩ := hI6.st.at_step kk (by omega); cases e6; rw [Hkp.out] at r1; clear r0 r2)
            go_roundw
            case rel =>
              refine ⟨xs ++ [ev], kp, f - 1, tag6, rfl, ?_, by simp; omega, by omega, ?_, hI6⟩
              · have h1 := hr6
                rw [List.length_append]
                simpa [ints] using h1
              · show _ = _
                rw [hbk.out, Hnext.out]; simp
            case measure => simp [intOf]; omega
          · have Hend : Hid (back steps f kk = []) := by
              show _ = _
              obtain ⟨f', rfl⟩ : ∃ f', f = f' + 1 := ⟨f - 1, by omega⟩
              exact back_end (by omega) (by omega)
            have hp' : steps[kk].p < 0 := by omega
            go_wp2_with (go_at_call 79; refine (reverse_any _ xs _ w.heap.size tag' 6 hv (by omega)).mono ?_; rintro e w7 ⟨⟨r, rfl⟩, hv7, ht7⟩)
            refine bodyPostM_ret (hI4.turn ht7 (by decide)).marks (fun w' hq => ⟨.tuple #[.slice av xs.length cv, .bool true], by simp [results, Try.results53, go_sem], _, rfl, ?_, (hI4.turn ht7 (by decide)).below.trans hq.below⟩)
            rw [Hpath.out, hbk.out, Hend.out, List.append_nil]
            have h9 := hq.row hv7
            have h10 : Row w' w.heap.size tag' 6 3 1 (.slice av xs.length cv) xs.reverse.length (ints xs.reverse) := by rw [List.length_reverse]; exact h9
            exact ⟨_, rfl, h10.rdI⟩
    · have hie : i = steps.length := by omega
      have Hpath : Hid (pathF n es want perm from_ = none) := by
        show _ = _
        have := hok.le
        unfold pathF
        rw [hbfs.out, show n + 1 - i = n - i + 1 by omega, bfs_end (by omega)]; rfl
      clear hie
      obtain ⟨av, cv, rfl⟩ := hI.st.val
      go_wp2_with fail
      refine bodyPostM_ret hI.marks (fun w' hq => ⟨.tuple #[.slice none 0 0, .bool false], by simp [results, Try.results53, go_sem], _, rfl, ?_, hI.below.trans hq.below⟩)
      rw [Hpath.out]
      rfl
end Go.Proofs.Ythchkddhibhenaa
