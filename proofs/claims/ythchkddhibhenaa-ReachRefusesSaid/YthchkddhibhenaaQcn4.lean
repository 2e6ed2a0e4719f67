/- Parts of the proof, without what nothing here names. -/
import Derived.Deep.LoopGhost
import Derived.RangeFuncNested
import Derived.RangeFuncBound
import Derived.RangeFuncCalls
import Derived.RangeFuncLeaves
import Derived.Test.YthchkddhibhenaaProg
import Derived.Shelf.Sort.Plain
import Derived.Shelf.Slices.In.SortNone
import Derived.Shelf.SlSortCmp.NoneTotal
import Derived.Ground.SlsfProg
import Derived.Test.YthchkddhibhenaaQcn3
namespace Go.Proofs.Ythchkddhibhenaa
open Go.RowKit Go.Shelf
attribute [local go_sem] Oper.semAt_some

set_option maxRecDepth 100000 in
set_option maxHeartbeats 4000000 in
theorem forward_any (aa am ae af : Option Addr) (la lm ca cm ce cf : Nat) (n : Nat) (es : List Ed) (fp : FuncId) (capp : Array Value) (perm : Ed → Bool) (v : Value) (start : List Int) (w : World)
    (hre : RdS w 3 ae es.length ce (edCells es)) (hrf : RdS w 1 af (n + 1) cf (ints (firsts n es))) (hst : RdI w v start) (hl : es.length ≤ 1000000) (hn : n + start.length ≤ 999999) (hn0 : 0 < n) (hstart : ∀ s ∈ start, 0 ≤ s ∧ s < (n : Int)) (hin : ∀ x ∈ es, 0 ≤ x.t ∧ x.t < (n : Int))
    (hep : Enters Try.prog fp)
    (hp : ∀ (x : Ed) (W : World), x ∈ es → Below w.heap.size w W → Calls Try.prog fp (#[x.val] ++ capp) W fun e w' => e = .returned (.bool (perm x)) ∧ Below W.heap.size W w') :
    Calls Try.prog 81 #[.agg #[.slice aa la ca, .int .i64 n, .slice am lm cm, .slice ae es.length ce, .slice af (n + 1) cf], v, .func (.func fp) #[] capp] w
      (Ret w fun u w' => RdB w' u (forwardF n es perm start)) := by
  obtain ⟨bf, offf, rfl, hcf⟩ := hrf.at_elem 0 (by omega)
  have Hcf := Lib.hid hcf
  have Hp := Lib.hid hp
  have Hin := Lib.hid hin
  have Hep := Lib.hid hep
  have Hst := Lib.hid hst
  have Hstart := Lib.hid hstart
  clear hcf hp hin hep hst hstart
  refine calls_of_marks Try.func81 rfl ?_
  simp only [Try.ntmps81, List.size_toArray, List.length_cons, List.length_nil, Nat.reduceAdd, Nat.reduceSub, Array.replicate_succ, Array.replicate_zero, List.push_toArray, List.append_toArray, List.nil_append, List.cons_append]
  go_wp2_with fail
  refine (flags_any _ _ _ v n start _ (Hst.out.mono (by (repeat (first | with_reducible exact Below.refl _ _ | with_reducible exact hre | (with_reducible refine belCall ?_ hre (by first | omega | (simp; done) | (simp; omega) | (simp at *; omega))) | (with_reducible refine Below.alloc ?_ (by first | omega | (simp; done) | (simp; omega) | (simp at *; omega)) _) | (with_reducible refine Below.drew ?_) | (with_reducible refine Below.setCell ?_ (by first | omega | (simp; done) | (simp; omega) | (simp at *; omega)) _))))) (by omega) (by omega) Hstart.out).mono ?_
  rintro e w1 ⟨_, rfl, hown1, hb1⟩
  generalize hw0 : (w.alloc (.cells #[.slice aa la ca, .int .i64 n, .slice am lm cm, .slice ae es.length ce, .slice (some ⟨bf, offf, none⟩) (n + 1) cf] 80)).alloc (.cells #[.func (.func fp) #[] capp] 90) = w0 at *
  have hz0 : w0.heap.size = w.heap.size + 1 + 1 := by rw [← hw0]; simp
  have hB0 : Below w.heap.size w w0 := by rw [← hw0]; (repeat (first | with_reducible exact Below.refl _ _ | with_reducible exact hre | (with_reducible refine belCall ?_ hre (by first | omega | (simp; done) | (simp; omega) | (simp at *; omega))) | (with_reducible refine Below.alloc ?_ (by first | omega | (simp; done) | (simp; omega) | (simp at *; omega)) _) | (with_reducible refine Below.drew ?_) | (with_reducible refine Below.setCell ?_ (by first | omega | (simp; done) | (simp; omega) | (simp at *; omega)) _)))
  have hgh : w0.heap[w.heap.size]? = some (.cells #[.slice aa la ca, .int .i64 n, .slice am lm cm, .slice ae es.length ce, .slice (some ⟨bf, offf, none⟩) (n + 1) cf] 80 (0, 0)) := by rw [← hw0]; exact (by repeat (first | with_reducible assumption | (with_reducible refine heap_at ?_; (first | (simp; done) | (simp; omega))) | (with_reducible refine heap_past ?_ ?_; (next => first | omega | (simp; done) | (simp; omega)))))
  have hfh : w0.heap[w.heap.size + 1]? = some (.cells #[.func (.func fp) #[] capp] 90 (0, 0)) := by rw [← hw0]; exact (by repeat (first | with_reducible assumption | (with_reducible refine heap_at ?_; (first | (simp; done) | (simp; omega))) | (with_reducible refine heap_past ?_ ?_; (next => first | omega | (simp; done) | (simp; omega)))))
  have hB1 := hB0.trans (hb1.mono hB0.size)
  have hz1 := hb1.size
  obtain ⟨a1, c1, rfl, hr1⟩ := RdS.of_own hown1
  have hse0 : Row w1 w.heap.size (tagFrom (fun _ => 0) w0.heap.size 1) 1 4 1 (.slice a1 n c1) n (bools (flagL n start)) := Row.of_call hown1 (by omega)
  obtain ⟨b1, o1, c1', e1, hbl1, hbB1, _⟩ := hse0.addr hn0
  cases e1
  have hgh1 := (hb1.block _ (by omega)).trans hgh
  have hfh1 := (hb1.block _ (by omega)).trans hfh
  have Hgh := Lib.hid hgh1
  have Hfh := Lib.hid hfh1
  have Hown1 := Lib.hid hown1
  clear hr1 hown1 hse0 hgh hfh hgh1 hfh1 hw0
  go_wp2_with fail
  have hbal := bel_alloc w1 (.cells #[.slice (some ⟨b1, o1, none⟩) n c1] 86)
  refine (clone_any v start _ (Hst.out.mono (hB1.alloc (by omega) _)) (by omega)).mono ?_
  rintro e w2 ⟨_, rfl, hown2, hb2⟩
  have hz2 := hb2.size
  simp only [World.size_alloc] at hz2
  obtain ⟨a2, c2, rfl, hr2⟩ := RdS.of_own hown2
  have hB2 : Below w.heap.size w w2 := (hB1.alloc (by omega) _).trans (hb2.mono (by simp; omega))
  have hh7 : w2.heap[w1.heap.size]? = some (.cells #[.slice (some ⟨b1, o1, none⟩) n c1] 86 (0, 0)) := (hb2.block _ (by simp)).trans (heap_at rfl)
  have hgh2 := (hb2.block _ (by simp; omega)).trans ((hbal.block _ (by omega)).trans Hgh.out)
  have hfh2 := (hb2.block _ (by simp; omega)).trans ((hbal.block _ (by omega)).trans Hfh.out)
  have Hown2 := Lib.hid hown2
  have Hh7 := Lib.hid hh7
  have Hgh2 := Lib.hid hgh2
  have Hfh2 := Lib.hid hfh2
  have Hb2 := Lib.hid hb2
  have Hbal := Lib.hid hbal
  clear hr2 hown2 hh7 hgh2 hfh2 hb2 hbal Hgh Hfh hb1
  go_wp2_with fail
  have hz3 : w2.heap.size < (w2.alloc (.cells #[.slice a2 start.length c2] 28)).heap.size := by simp
  have hstart0 : FInv w #[.slice aa la ca, .int .i64 n, .slice am lm cm, .slice ae es.length ce, .slice (some ⟨bf, offf, none⟩) (n + 1) cf] (.func (.func fp) #[] capp) n w1.heap.size w2.heap.size (.slice (some ⟨b1, o1, none⟩) n c1) [] (w2.alloc (.cells #[.slice a2 start.length c2] 28)) (fun b => if b < w0.heap.size then 0 else if b < w1.heap.size then 1 else if b = w1.heap.size then 0 else if b < w2.heap.size then 2 else 3) (.slice a2 start.length c2) (flagL n start) start := by
    have hb3 := bel_alloc w2 (.cells #[.slice a2 start.length c2] 28)
    refine ⟨hB2.alloc (by omega) _, Marks.nil _ _, ⟨(hb3.block _ (by omega)).trans Hgh2.out, by rw [if_pos (by omega)], by omega⟩, ⟨(hb3.block _ (by omega)).trans Hfh2.out, by rw [if_pos (by omega)], by omega⟩, ⟨(hb3.block _ (by omega)).trans Hh7.out, by rw [if_neg (by omega), if_neg (by omega), if_pos rfl], by omega⟩, ⟨heap_at rfl, by rw [if_neg (by omega), if_neg (by omega), if_neg (by omega), if_neg (by omega)], by omega⟩, ?_, ?_⟩
    · have h1 : Row w1 w.heap.size (fun b => if b < w0.heap.size then 0 else if b < w1.heap.size then 1 else if b = w1.heap.size then 0 else if b < w2.heap.size then 2 else 3) 1 4 1 (.slice (some ⟨b1, o1, none⟩) n c1) n (bools (flagL n start)) := Row.of_own Hown1.out (by omega) (fun b h1 h2 => by rw [if_neg (by omega), if_pos h2])
      exact ((h1.below Hbal.out).below Hb2.out).below hb3
    · have h2 : Row w2 w.heap.size (fun b => if b < w0.heap.size then 0 else if b < w1.heap.size then 1 else if b = w1.heap.size then 0 else if b < w2.heap.size then 2 else 3) 2 3 1 (.slice a2 start.length c2) start.length (ints start) := Row.of_own Hown2.out (by simp; omega) (fun b h1 h2 => by simp at h1; rw [if_neg (by omega), if_neg (by omega), if_neg (by omega), if_pos h2])
      exact h2.below hb3
  have hok0 : FOk n ((flagL n start).count false + start.length) (flagL n start) start := ⟨flagL_length n start, Hstart.out, Nat.le_refl _⟩
  have hm0 : (flagL n start).count false + start.length ≤ 999999 := by
    have h1 := List.count_le_length (a := false) (l := flagL n start)
    rw [flagL_length] at h1
    omega
  refine wp_loop_ghost_k (fun k a' wr => ∃ (v9 v10 v17 v18 v19 v20 v21 v22 v23 v24 v25 v26 v27 v28 v29 v30 v31 v32 v33 v34 v35 v36 v37 v38 v39 v40 v41 v42 v43 v44 v45 v46 v47 v48 : Value) (ds : List Deferred) (tag : Nat → Nat) (vq : Value) (seen : List Bool) (q : List Int) (m : Nat), FInv w #[.slice aa la ca, .int .i64 n, .slice am lm cm, .slice ae es.length ce, .slice (some ⟨bf, offf, none⟩) (n + 1) cf] (.func (.func fp) #[] capp) n w1.heap.size w2.heap.size (.slice (some ⟨b1, o1, none⟩) n c1) ds wr tag vq seen q ∧ FOk n m seen q ∧ k = m + 1 ∧ m ≤ 999999 ∧ Hid (forwardF n es perm start = fwd (subOf es) perm (m + 1) seen q) ∧
      a' = { tmps := #[Value.agg #[.slice aa la ca, .int .i64 n, .slice am lm cm, .slice ae es.length ce, .slice (some ⟨bf, offf, none⟩) (n + 1) cf], v, Value.func (.func fp) #[] capp, Value.pointer (some ⟨w.heap.size, 0, none⟩), undef, Value.pointer (some ⟨w.heap.size + 1, 0, none⟩), Value.slice none 0 0, Value.pointer (some ⟨w1.heap.size, 0, none⟩), Value.pointer (some ⟨w2.heap.size, 0, none⟩), v9, v10, Value.pointer (some ⟨w.heap.size, 0, none⟩), Value.agg #[.slice aa la ca, .int .i64 n, .slice am lm cm, .slice ae es.length ce], v, Value.slice (some ⟨b1, o1, none⟩) n c1, v, Value.slice a2 start.length c2, v17, v18, v19, v20, v21, v22, v23, v24, v25, v26, v27, v28, v29, v30, v31, v32, v33, v34, v35, v36, v37, v38, v39, v40, v41, v42, v43, v44, v45, v46, v47, v48, undef], defers := ds }) ((flagL n start).count false + start.length + 1) ?_ ?_
  · repeat apply Exists.intro
    exact ⟨hstart0, hok0, rfl, hm0, rfl, rfl⟩
  · intro gk _ wr h
    obtain ⟨v9, h⟩ := h
    obtain ⟨v10, h⟩ := h
    obtain ⟨v17, h⟩ := h
    obtain ⟨v18, h⟩ := h
    obtain ⟨v19, h⟩ := h
    obtain ⟨v20, h⟩ := h
    obtain ⟨v21, h⟩ := h
    obtain ⟨v22, h⟩ := h
    obtain ⟨v23, h⟩ := h
    obtain ⟨v24, h⟩ := h
    obtain ⟨v25, h⟩ := h
    obtain ⟨v26, h⟩ := h
    obtain ⟨v27, h⟩ := h
    obtain ⟨v28, h⟩ := h
    obtain ⟨v29, h⟩ := h
    obtain ⟨v30, h⟩ := h
    obtain ⟨v31, h⟩ := h
    obtain ⟨v32, h⟩ := h
    obtain ⟨v33, h⟩ := h
    obtain ⟨v34, h⟩ := h
    obtain ⟨v35, h⟩ := h
    obtain ⟨v36, h⟩ := h
    obtain ⟨v37, h⟩ := h
    obtain ⟨v38, h⟩ := h
    obtain ⟨v39, h⟩ := h
    obtain ⟨v40, h⟩ := h
    obtain ⟨v41, h⟩ := h
    obtain ⟨v42, h⟩ := h
    obtain ⟨v43, h⟩ := h
    obtain ⟨v44, h⟩ := h
    obtain ⟨v45, h⟩ := h
    obtain ⟨v46, h⟩ := h
    obtain ⟨v47, h⟩ := h
    obtain ⟨v48, h⟩ := h
    obtain ⟨ds, tag, vq, seen, q, m, hI, hok, rfl, hmb, hfw, rfl⟩ := h
    have Hmb := Lib.hid hmb
    clear hmb
    intro J K hJ hK
    have hml := hok.sum
    have hnl : n ≤ 1000000 := by omega
    cases q with
    | nil =>
      have k8 : wr.cell? ⟨w2.heap.size, 0, none⟩ = some vq := hI.qb.cell 0
      have k7 : wr.cell? ⟨w1.heap.size, 0, none⟩ = some (.slice (some ⟨b1, o1, none⟩) n c1) := hI.eb.cell 0
      obtain ⟨aq, cq, rfl⟩ := hI.st.val
      have hlen := hok.len
      have Hlen := Lib.hid hlen
      clear hlen
      go_wp2_with fail
      refine bodyPostM_ret hI.marks (fun w' hq => ⟨.slice (some ⟨b1, o1, none⟩) n c1, by simp [results, Try.results81, go_sem], _, rfl, ?_, hI.below.trans hq.below⟩)
      rw [hfw.out, fwd]
      have h9 := hq.row hI.se
      rw [← Hlen.out] at h9
      obtain ⟨a9, c9, e9, h10⟩ := h9.rd
      rw [Hlen.out] at e9
      cases e9
      exact ⟨_, _, by rw [Hlen.out], h10⟩
    | cons s q =>
      obtain ⟨bq, oq, cq, rfl, hbq, hBq, hcq⟩ := hI.st.at_int 0 (by simp)
      have k8 : wr.cell? ⟨w2.heap.size, 0, none⟩ = some (.slice (some ⟨bq, oq, none⟩) (s :: q).length cq) := hI.qb.cell 0
      have f8 := hI.qb.frozen 0
      obtain ⟨hs0, hs1⟩ := hok.range s (List.mem_cons_self ..)
      have htail := Row.tail (m := q.length) (x := .int .i64 s) (cs := ints q) hI.st
      rw [List.length_cons] at k8
      have hq0 : 0 < q.length + 1 := by omega
      have hcs : wr.cell? ⟨bq, oq, none⟩ = some (.int .i64 s) := hcq
      have hwin : (ints (s :: q)).length = (ints (s :: q)).length := rfl
      have hcapn : q.length + 1 ≤ cq := by
        rcases hI.st.2 with ⟨h', _⟩ | ⟨_, _, _, _, h', _, h9, _⟩
        · cases h'
        · cases h'; simpa using h9
      have hcapm : cq ≤ maxLen := by
        rcases hI.st.2 with ⟨h', _⟩ | ⟨_, _, _, _, h', _, _, h9, _⟩
        · cases h'
        · cases h'; exact h9
      unfold maxLen at hcapm
      have Hok := Lib.hid hok
      have Hml := Lib.hid hml
      clear hcq hok hml hwin
      have Hm1 : Hid (1 ≤ m) := by
        have := Hml.out
        simp only [List.length_cons] at this
        show 1 ≤ m
        omega
      have Hok2 : Hid (FOk n (m - 1) seen q) := ⟨Hok.out.len, fun t ht => Hok.out.range t (List.mem_cons_of_mem _ ht), by have := Hok.out.sum; simp only [List.length_cons] at this; omega⟩
      have Hnext : Hid (forwardF n es perm start = fwd (subOf es) perm (m - 1 + 1) ((subOf es s).foldl (fwStep perm) (seen, q)).1 ((subOf es s).foldl (fwStep perm) (seen, q)).2) := by
        show _ = _
        rw [hfw.out, fwd, show m - 1 + 1 = m by have := Hm1.out; omega]
      have g0 : wr.cell? ⟨w.heap.size, 0, none⟩ = some (Value.slice aa la ca) := hI.g.cell 0
      have g1 : wr.cell? ⟨w.heap.size, 1, none⟩ = some (Value.int .i64 n) := hI.g.cell 1
      have g2 : wr.cell? ⟨w.heap.size, 2, none⟩ = some (Value.slice am lm cm) := hI.g.cell 2
      have g3 : wr.cell? ⟨w.heap.size, 3, none⟩ = some (Value.slice ae es.length ce) := hI.g.cell 3
      have g4 : wr.cell? ⟨w.heap.size, 4, none⟩ = some (Value.slice (some ⟨bf, offf, none⟩) (n + 1) cf) := hI.g.cell 4
      have hwne : ¬ w2.heap.size = w.heap.size := by omega
      have hwne2 : ¬ w.heap.size = w2.heap.size := by omega
      have Hm : Hid (m ≤ 999999) := Hmb
      by_cases hcap : cq = 1
      · have hI2 := hI.setQ (htail.1 hcap)
        subst hcap
        obtain rfl : q = [] := List.eq_nil_of_length_eq_zero (by omega)
        clear htail
        go_wp2_with fail
        have hI3 : FInv w #[.slice aa la ca, .int .i64 n, .slice am lm cm, .slice ae es.length ce, .slice (some ⟨bf, offf, none⟩) (n + 1) cf] (.func (.func fp) #[] capp) n w1.heap.size w2.heap.size (.slice (some ⟨b1, o1, none⟩) n c1) ds (wr.setCell ⟨w2.heap.size, 0, none⟩ (.slice (some ⟨bq, oq, none⟩) 0 0)) tag (.slice (some ⟨bq, oq, none⟩) 0 0) seen [] := by simpa using hI2
        clear g0 g1 g2 g3 g4 k8 f8 hcs hI2 hI hwne hwne2
        generalize wr.setCell ⟨w2.heap.size, 0, none⟩ _ = wq at *
        refine (edges_any _ _ _ _ _ _ _ _ _ _ _ _ _ _ _).mono ?_
        rintro e w3 ⟨rfl, rfl⟩
        go_wp2_with fail
        have hI4 := (hI3.call (bel_alloc wq (.cells #[.slice aa la ca, .int .i64 n, .slice am lm cm, .slice ae es.length ce, .slice (some ⟨bf, offf, none⟩) (n + 1) cf] 80))).call (bel_alloc _ (.cells #[.int .i64 s] 3))
        have hg3 : ((wq.alloc (.cells #[.slice aa la ca, .int .i64 n, .slice am lm cm, .slice ae es.length ce, .slice (some ⟨bf, offf, none⟩) (n + 1) cf] 80)).alloc (.cells #[.int .i64 s] 3)).cell? ⟨wq.heap.size, 3, none⟩ = some (.slice ae es.length ce) := by simp [go_sem]
        have hg4 : ((wq.alloc (.cells #[.slice aa la ca, .int .i64 n, .slice am lm cm, .slice ae es.length ce, .slice (some ⟨bf, offf, none⟩) (n + 1) cf] 80)).alloc (.cells #[.int .i64 s] 3)).cell? ⟨wq.heap.size, 4, none⟩ = some (.slice (some ⟨bf, offf, none⟩) (n + 1) cf) := by simp [go_sem]
        have hg5 : ((wq.alloc (.cells #[.slice aa la ca, .int .i64 n, .slice am lm cm, .slice ae es.length ce, .slice (some ⟨bf, offf, none⟩) (n + 1) cf] 80)).alloc (.cells #[.int .i64 s] 3)).cell? ⟨wq.heap.size + 1, 0, none⟩ = some (.int .i64 s) := by simp [go_sem]
        clear hI3
        generalize (wq.alloc (.cells #[.slice aa la ca, .int .i64 n, .slice am lm cm, .slice ae es.length ce, .slice (some ⟨bf, offf, none⟩) (n + 1) cf] 80)).alloc (.cells #[.int .i64 s] 3) = w3 at *
        have hfc : ∀ j : Nat, j ≤ n → w3.cell? ⟨bf, offf + j, none⟩ = some (.int .i64 (fstN es j)) := by
          intro j hj
          have h1 := Hcf.out j (by simp [firsts]; omega)
          have h2 := firsts_get n es j hj
          rw [List.getElem?_eq_getElem (by simp [firsts]; omega)] at h2
          rw [Option.some.inj h2] at h1
          exact keep0 hI4.below h1
        have hseq := edges_stops wq.heap.size (wq.heap.size + 1) w.heap.size ae (some ⟨bf, offf, none⟩) ce (n + 1) cf s es (fstN es s) (fstN es (s + 1)) (fstN_mono es _ _ (by omega)) (fstN_le es _) hl w3 hI4.below.size hg3 hg4 hg5 hs0 (by omega) bf offf rfl (by omega)
          (by have := hfc s.toNat (by omega); rwa [Int.toNat_of_nonneg hs0] at this) (by have := hfc (s + 1).toNat (by omega); rwa [Int.toNat_of_nonneg (by omega)] at this) (hre.mono hI4.below) (fun h0 ad e => World.block_lt_of_cell? w ⟨ad.block, ad.off + 0, none⟩ (hre.cell ad e 0 (by rw [hre.hlen]; omega)))
        clear hg3 hg4 hg5 hfc
        refine wp_edges (bg := wq.heap.size) (bs := wq.heap.size + 1) (n₀ := w.heap.size) rfl hseq (Below.refl _ _) hI4.below.size rfl
          (fun pre W => (∀ y ∈ pre, y ∈ subOf es s) ∧ ∃ tag vq, FInv w #[.slice aa la ca, .int .i64 n, .slice am lm cm, .slice ae es.length ce, .slice (some ⟨bf, offf, none⟩) (n + 1) cf] (.func (.func fp) #[] capp) n w1.heap.size w2.heap.size (.slice (some ⟨b1, o1, none⟩) n c1) ds W tag vq (pre.foldl (fwStep perm) (seen, [])).1 (pre.foldl (fwStep perm) (seen, [])).2)
          ?hI ⟨by simp, tag, _, hI4⟩
          (fun x a' W => ∃ (Bx : Nat) (y17 y18 y19 y20 y21 y22 y23 y24 : Value), w.heap.size ≤ Bx ∧ W.heap[Bx]? = some (.cells #[.int .i64 x.f, .int .i64 x.e, .int .i64 x.t] 45 (0, 0)) ∧ a' = { tmps := #[Value.agg #[.slice aa la ca, .int .i64 n, .slice am lm cm, .slice ae es.length ce, .slice (some ⟨bf, offf, none⟩) (n + 1) cf], v, Value.func (.func fp) #[] capp, Value.pointer (some ⟨w.heap.size, 0, none⟩), undef, Value.pointer (some ⟨w.heap.size + 1, 0, none⟩), Value.slice none 0 0, Value.pointer (some ⟨w1.heap.size, 0, none⟩), Value.pointer (some ⟨w2.heap.size, 0, none⟩), Value.int .i64 s, Value.pointer (some ⟨Bx, 0, none⟩), Value.pointer (some ⟨w.heap.size, 0, none⟩), Value.agg #[.slice aa la ca, .int .i64 n, .slice am lm cm, .slice ae es.length ce], v, Value.slice (some ⟨b1, o1, none⟩) n c1, v, Value.slice a2 start.length c2, y17, y18, y19, y20, y21, y22, y23, y24, Value.agg #[.slice aa la ca, .int .i64 n, .slice am lm cm, .slice ae es.length ce, .slice (some ⟨bf, offf, none⟩) (n + 1) cf], Value.int .i64 s, Value.func (.func 84) #[] #[.pointer (some ⟨wq.heap.size, 0, none⟩), .pointer (some ⟨wq.heap.size + 1, 0, none⟩)], Value.agg #[.int .i64 x.f, .int .i64 x.e, .int .i64 x.t], v29, v30, v31, v32, v33, v34, v35, v36, v37, v38, v39, v40, v41, v42, v43, v44, v45, v46, v47, v48, undef], defers := [] })
          ?hAx ?assign ?body ?done
        case hI =>
          intro pre W W' row h1 hg hr
          obtain ⟨h1, tag, vs, h2⟩ := h1
          exact ⟨h1, tag, vs, h2.others hg (fun D hD => hI4.marks.lt hD) hI4.below.size hr⟩
        case hAx =>
          intro x a' u W W' row h1 hg hr
          obtain ⟨Bx, y17, y18, y19, y20, y21, y22, y23, y24, h1, h2, h3⟩ := h1
          refine ⟨Bx, y17, y18, y19, y20, y21, y22, y23, y24, h1, (hg.block Bx (Array.getElem?_eq_some_iff.1 h2).1 (fun e => ?_)).trans h2, h3⟩
          obtain ⟨o, ho, hc⟩ := (hr Bx e.symm).2
          rw [h2] at ho
          cases ho
          cases hc
        case assign =>
          intro l pre x W K hx hiW hK
          dsimp only [Ed.val]
          gi_wp2
          refine hK _ _ ((KeepsOthers.alloc _ _).from _) ((Below.refl _ W).alloc ?_ _) ?_ ⟨W.heap.size, _, _, _, _, _, _, _, _, ?_, (by repeat (first | with_reducible assumption | (refine heap_drewp ?_) | (refine heap_at ?_; (first | rfl | (simp; done) | (simp; omega))) | (refine heap_past ?_ ?_; (next => first | omega | (simp; done) | (simp; omega))))), rfl⟩
          · obtain ⟨_, _, _, h2⟩ := hiW; exact h2.below.size
          · obtain ⟨h1, tag, vs, h2⟩ := hiW; exact ⟨h1, tag, vs, h2.call (bel_alloc _ _)⟩
          · obtain ⟨_, _, _, h2⟩ := hiW; exact h2.below.size
        case body =>
          rintro l pre x a' W hx hl ⟨hpre, tag, vq, hJ⟩ ⟨Bx, y17, y18, y19, y20, y21, y22, y23, y24, hBx, hbx, rfl⟩
          have hJ2 := hJ.retag hbx
          have hOx : Own W w.heap.size (tagUp tag Bx 5) 5 Bx #[.int .i64 x.f, .int .i64 x.e, .int .i64 x.t] 45 := ⟨hbx, tagUp_at _ _ _, hBx⟩
          have hxe := subOf_mem hx
          have hxr := Hin.out x hxe
          have hok' := FOk.fold (perm := perm) pre Hok2.out (fun y hy => Hin.out y (subOf_mem (hpre y hy)))
          have Hmem : Hid (∀ y ∈ pre ++ [x], y ∈ subOf es s) := by
            intro y hy
            rcases List.mem_append.1 hy with h1 | h1
            · exact hpre y h1
            · rw [List.mem_singleton.1 h1]; exact hx
          have Hacc : Hid ((pre ++ [x]).foldl (fwStep perm) (seen, []) = fwStep perm (pre.foldl (fwStep perm) (seen, [])) x) := by
            show _ = _
            rw [List.foldl_append]; rfl
          clear hpre hx hJ
          generalize pre.foldl (fwStep perm) (seen, []) = acc at *
          obtain ⟨se, st⟩ := acc
          dsimp only at hJ2 hok'
          have hBW := hJ2.below.size
          have hBxl := hOx.lt
          have hb7l := hJ2.eb.lt
          have hb8l := hJ2.qb.lt
          have x0 : W.cell? ⟨Bx, 0, none⟩ = some (.int .i64 x.f) := hOx.cell 0
          have x1 : W.cell? ⟨Bx, 1, none⟩ = some (.int .i64 x.e) := hOx.cell 1
          have x2 : W.cell? ⟨Bx, 2, none⟩ = some (.int .i64 x.t) := hOx.cell 2
          have e0 : W.cell? ⟨w1.heap.size, 0, none⟩ = some (.slice (some ⟨b1, o1, none⟩) n c1) := hJ2.eb.cell 0
          have hlen := hok'.len
          have e1 := hJ2.se.cellAt x.t.toNat (by omega)
          have hq : x.t.toNat < se.length := by omega
          have hstl : st.length ≤ 1000000 := by have := hok'.sum; have := Hm.out; omega
          clear hlen
          rw [List.getElem?_map, List.getElem?_eq_getElem hq, Option.map_some] at e1
          cases hb : se[x.t.toNat]
          · rw [hb] at e1
            have e2 : W.cell? ⟨w.heap.size + 1, 0, none⟩ = some (.func (.func fp) #[] capp) := hJ2.fp.cell 0
            have Hb := Lib.hid hb
            clear hb
            have hHep : Hid (∀ args W, (callFunc fp args).run Try.prog W = .ok (.enter fp args) W) := Hep.out
            cases hpx : perm x
            · have Hpx := Lib.hid hpx
              clear hpx
              gi_wp2_with fail
              refine ⟨trivial, ?_⟩
              rw [hHep.out, Oper.uponIn_enter]
              refine ⟨fun _ => by decide, ?_⟩
              refine (CallsIn.inRound l (callsIn_wide.2 (Hp.out x W hxe hJ2.below))).mono ?_
              rintro e w4 ⟨he, hb4⟩
              rw [Hpx.out] at he
              subst he
              dsimp only
              gi_wp2
              refine ⟨(keepsBelow hb4), belCall (Below.refl _ _) hb4 hJ2.below.size, Hmem.out, tagUp tag Bx 5, vq, ?_⟩
              rw [Hacc.out, show fwStep perm (se, st) x = (se, st) from ?_]
              · exact hJ2.call hb4
              · unfold fwStep
                rw [if_neg]
                rw [Hpx.out]
                simp
            · have Hpx := Lib.hid hpx
              clear hpx
              gi_wp2_with fail
              refine ⟨trivial, ?_⟩
              rw [hHep.out, Oper.uponIn_enter]
              refine ⟨fun _ => by decide, ?_⟩
              refine (CallsIn.inRound l (callsIn_wide.2 (Hp.out x W hxe hJ2.below))).mono ?_
              rintro e w4 ⟨he, hb4⟩
              rw [Hpx.out] at he
              subst he
              dsimp only
              have hJ4 := hJ2.call hb4
              have hO4 := hOx.below hb4
              obtain ⟨avs, cvs, rfl⟩ := hJ4.st.val
              clear x0 x1 x2 e0 e1 e2 hJ2 hOx
              have hBxl4 := hO4.lt
              have hb7l4 := hJ4.eb.lt
              have hb8l4 := hJ4.qb.lt
              have x2 : w4.cell? ⟨Bx, 2, none⟩ = some (.int .i64 x.t) := hO4.cell 2
              have e0 : w4.cell? ⟨w1.heap.size, 0, none⟩ = some (.slice (some ⟨b1, o1, none⟩) n c1) := hJ4.eb.cell 0
              have e1 := hJ4.se.cellAt x.t.toNat (by omega)
              rw [List.getElem?_map, List.getElem?_eq_getElem hq, Option.map_some] at e1
              have e2 := hJ4.se.frozenAt (o1 + x.t.toNat)
              obtain ⟨hJ5, t5⟩ := hJ4.setSeen x.t.toNat
              have hO5 := hO4.turn t5 (by decide)
              have z2 : (w4.setCell ⟨b1, o1 + x.t.toNat, none⟩ (.bool true)).cell? ⟨Bx, 2, none⟩ = some (.int .i64 x.t) := hO5.cell 2
              have z3 : (w4.setCell ⟨b1, o1 + x.t.toNat, none⟩ (.bool true)).cell? ⟨w2.heap.size, 0, none⟩ = some (.slice avs st.length cvs) := hJ5.qb.cell 0
              have T5 := Lib.hid t5
              clear t5 hO5 hJ4 hO4
              obtain ⟨i1, hi1, hw0, hw1, hw2⟩ := info_parts Try.info_int
              have hJ6 := hJ5.call (bel_alloc _ (.cells #[.int .i64 x.t] 3))
              gi_wp2_with (gi_at_builtin; (refine wpListIn_append_row rfl _ _ 28 rfl 3 i1 (.int .i64 0) 8 Try.underlying28 hi1 hw0 hw1 hw2 rfl rfl hJ6.st (some ⟨_, 0, none⟩) 1 1 [.int .i64 x.t] rfl rfl (by simp) (fun ad e => by cases e; exact new_cells_at _ _ (by simp)) (by simp [Value.oneCell']) (by unfold maxLen; omega) (by omega) hJ6.below.size ?_); intro v6 w6 tag6 hr6 ht6; have hJ7 := hJ6.push (x := x.t) hr6 ht6; have s6 := hJ6.qb.turn ht6 (by decide); obtain ⟨a6, c6, rfl⟩ := hr6.val; have z0 := s6.cell 0; have z1 := s6.frozen 0; have z4 : w6.cell? ⟨w2.heap.size, 0, none⟩ = some (.slice avs st.length cvs) := z0; clear z0)
              refine ⟨(keepsBelow hb4).trans ((keepsTurn T5.out).trans ((keepsBelow (bel_alloc _ (.cells #[.int .i64 x.t] 3))).trans ((keepsTurn ht6).trans (keepsTurn (Turn.setCell s6 0 (.slice a6 (st.length + 1) c6)))))), ?_, Hmem.out, tag6, .slice a6 (st.length + 1) c6, ?_⟩
              · have q1 := belCall (Below.refl w.heap.size W) hb4 hBW
                have q2 := belTurn q1 T5.out (Nat.le_trans hBW hb4.size)
                have q3 := belCall q2 (bel_alloc _ (.cells #[.int .i64 x.t] 3)) (Nat.le_trans hBW q2.size)
                have q4 := belTurn q3 ht6 (Nat.le_trans hBW q3.size)
                exact belTurn q4 (Turn.setCell s6 0 (.slice a6 (st.length + 1) c6)) (Nat.le_trans hBW q4.size)
              · rw [Hacc.out, show fwStep perm (se, st) x = (se.set x.t.toNat true, st ++ [x.t]) from ?_]
                · exact hJ7
                · unfold fwStep
                  rw [if_pos]
                  dsimp only
                  rw [List.getElem?_eq_getElem hq, Hb.out, Hpx.out]
                  exact ⟨rfl, rfl⟩
          · rw [hb] at e1
            have Hb := Lib.hid hb
            clear hb
            gi_wp2
            refine ⟨fun _ h => (by cases h), ?_⟩
            gi_wp2
            refine ⟨KeepsFrom.refl _ _, Below.refl _ _, Hmem.out, tagUp tag Bx 5, vq, ?_⟩
            rw [Hacc.out, show fwStep perm (se, st) x = (se, st) from ?_]
            · exact hJ2
            · unfold fwStep
              rw [if_neg]
              dsimp only
              rw [List.getElem?_eq_getElem hq, Hb.out]
              simp
        case done =>
          rintro D W hD ⟨hpre, tag', vq', hW⟩ hd
          have hW2 := hW.mark (fun D' hD' => hI4.marks.lt hD') hD hI4.below.size hd
          have Hfin := Lib.hid hW2
          have hok' := FOk.fold (perm := perm) (subOf es s) Hok2.out (fun y hy => Hin.out y (subOf_mem hy))
          clear hpre hseq hd hW hW2
          go_wp2_with fail
          refine Handed.intro (m - 1 + 1) (by have := Hm1.out; omega) (hJ _ _ _ ?_)
          repeat apply Exists.intro
          exact ⟨Hfin.out, hok', rfl, by have := Hm.out; omega, Hnext.out, rfl⟩
      · have hI2 := hI.setQ (htail.2 hcap)
        have hcap2 : ¬ 1 = cq := fun e => hcap e.symm
        clear htail
        go_wp2_with fail
        have hI3 : FInv w #[.slice aa la ca, .int .i64 n, .slice am lm cm, .slice ae es.length ce, .slice (some ⟨bf, offf, none⟩) (n + 1) cf] (.func (.func fp) #[] capp) n w1.heap.size w2.heap.size (.slice (some ⟨b1, o1, none⟩) n c1) ds (wr.setCell ⟨w2.heap.size, 0, none⟩ (.slice (some ⟨bq, oq + 1, none⟩) q.length (cq - 1))) tag (.slice (some ⟨bq, oq + 1, none⟩) q.length (cq - 1)) seen q := by simpa using hI2
        clear g0 g1 g2 g3 g4 k8 f8 hcs hI2 hI hwne hwne2
        generalize wr.setCell ⟨w2.heap.size, 0, none⟩ _ = wq at *
        refine (edges_any _ _ _ _ _ _ _ _ _ _ _ _ _ _ _).mono ?_
        rintro e w3 ⟨rfl, rfl⟩
        go_wp2_with fail
        have hI4 := (hI3.call (bel_alloc wq (.cells #[.slice aa la ca, .int .i64 n, .slice am lm cm, .slice ae es.length ce, .slice (some ⟨bf, offf, none⟩) (n + 1) cf] 80))).call (bel_alloc _ (.cells #[.int .i64 s] 3))
        have hg3 : ((wq.alloc (.cells #[.slice aa la ca, .int .i64 n, .slice am lm cm, .slice ae es.length ce, .slice (some ⟨bf, offf, none⟩) (n + 1) cf] 80)).alloc (.cells #[.int .i64 s] 3)).cell? ⟨wq.heap.size, 3, none⟩ = some (.slice ae es.length ce) := by simp [go_sem]
        have hg4 : ((wq.alloc (.cells #[.slice aa la ca, .int .i64 n, .slice am lm cm, .slice ae es.length ce, .slice (some ⟨bf, offf, none⟩) (n + 1) cf] 80)).alloc (.cells #[.int .i64 s] 3)).cell? ⟨wq.heap.size, 4, none⟩ = some (.slice (some ⟨bf, offf, none⟩) (n + 1) cf) := by simp [go_sem]
        have hg5 : ((wq.alloc (.cells #[.slice aa la ca, .int .i64 n, .slice am lm cm, .slice ae es.length ce, .slice (some ⟨bf, offf, none⟩) (n + 1) cf] 80)).alloc (.cells #[.int .i64 s] 3)).cell? ⟨wq.heap.size + 1, 0, none⟩ = some (.int .i64 s) := by simp [go_sem]
        clear hI3
        generalize (wq.alloc (.cells #[.slice aa la ca, .int .i64 n, .slice am lm cm, .slice ae es.length ce, .slice (some ⟨bf, offf, none⟩) (n + 1) cf] 80)).alloc (.cells #[.int .i64 s] 3) = w3 at *
        have hfc : ∀ j : Nat, j ≤ n → w3.cell? ⟨bf, offf + j, none⟩ = some (.int .i64 (fstN es j)) := by
          intro j hj
          have h1 := Hcf.out j (by simp [firsts]; omega)
          have h2 := firsts_get n es j hj
          rw [List.getElem?_eq_getElem (by simp [firsts]; omega)] at h2
          rw [Option.some.inj h2] at h1
          exact keep0 hI4.below h1
        have hseq := edges_stops wq.heap.size (wq.heap.size + 1) w.heap.size ae (some ⟨bf, offf, none⟩) ce (n + 1) cf s es (fstN es s) (fstN es (s + 1)) (fstN_mono es _ _ (by omega)) (fstN_le es _) hl w3 hI4.below.size hg3 hg4 hg5 hs0 (by omega) bf offf rfl (by omega)
          (by have := hfc s.toNat (by omega); rwa [Int.toNat_of_nonneg hs0] at this) (by have := hfc (s + 1).toNat (by omega); rwa [Int.toNat_of_nonneg (by omega)] at this) (hre.mono hI4.below) (fun h0 ad e => World.block_lt_of_cell? w ⟨ad.block, ad.off + 0, none⟩ (hre.cell ad e 0 (by rw [hre.hlen]; omega)))
        clear hg3 hg4 hg5 hfc
        refine wp_edges (bg := wq.heap.size) (bs := wq.heap.size + 1) (n₀ := w.heap.size) rfl hseq (Below.refl _ _) hI4.below.size rfl
          (fun pre W => (∀ y ∈ pre, y ∈ subOf es s) ∧ ∃ tag vq, FInv w #[.slice aa la ca, .int .i64 n, .slice am lm cm, .slice ae es.length ce, .slice (some ⟨bf, offf, none⟩) (n + 1) cf] (.func (.func fp) #[] capp) n w1.heap.size w2.heap.size (.slice (some ⟨b1, o1, none⟩) n c1) ds W tag vq (pre.foldl (fwStep perm) (seen, q)).1 (pre.foldl (fwStep perm) (seen, q)).2)
          ?hI ⟨by simp, tag, _, hI4⟩
          (fun x a' W => ∃ (Bx : Nat) (y17 y18 y19 y20 y21 y22 y23 y24 : Value), w.heap.size ≤ Bx ∧ W.heap[Bx]? = some (.cells #[.int .i64 x.f, .int .i64 x.e, .int .i64 x.t] 45 (0, 0)) ∧ a' = { tmps := #[Value.agg #[.slice aa la ca, .int .i64 n, .slice am lm cm, .slice ae es.length ce, .slice (some ⟨bf, offf, none⟩) (n + 1) cf], v, Value.func (.func fp) #[] capp, Value.pointer (some ⟨w.heap.size, 0, none⟩), undef, Value.pointer (some ⟨w.heap.size + 1, 0, none⟩), Value.slice none 0 0, Value.pointer (some ⟨w1.heap.size, 0, none⟩), Value.pointer (some ⟨w2.heap.size, 0, none⟩), Value.int .i64 s, Value.pointer (some ⟨Bx, 0, none⟩), Value.pointer (some ⟨w.heap.size, 0, none⟩), Value.agg #[.slice aa la ca, .int .i64 n, .slice am lm cm, .slice ae es.length ce], v, Value.slice (some ⟨b1, o1, none⟩) n c1, v, Value.slice a2 start.length c2, y17, y18, y19, y20, y21, y22, y23, y24, Value.agg #[.slice aa la ca, .int .i64 n, .slice am lm cm, .slice ae es.length ce, .slice (some ⟨bf, offf, none⟩) (n + 1) cf], Value.int .i64 s, Value.func (.func 84) #[] #[.pointer (some ⟨wq.heap.size, 0, none⟩), .pointer (some ⟨wq.heap.size + 1, 0, none⟩)], Value.agg #[.int .i64 x.f, .int .i64 x.e, .int .i64 x.t], v29, v30, v31, v32, v33, v34, v35, v36, v37, v38, v39, v40, v41, v42, v43, v44, v45, v46, v47, v48, undef], defers := [] })
          ?hAx ?assign ?body ?done
        case hI =>
          intro pre W W' row h1 hg hr
          obtain ⟨h1, tag, vs, h2⟩ := h1
          exact ⟨h1, tag, vs, h2.others hg (fun D hD => hI4.marks.lt hD) hI4.below.size hr⟩
        case hAx =>
          intro x a' u W W' row h1 hg hr
          obtain ⟨Bx, y17, y18, y19, y20, y21, y22, y23, y24, h1, h2, h3⟩ := h1
          refine ⟨Bx, y17, y18, y19, y20, y21, y22, y23, y24, h1, (hg.block Bx (Array.getElem?_eq_some_iff.1 h2).1 (fun e => ?_)).trans h2, h3⟩
          obtain ⟨o, ho, hc⟩ := (hr Bx e.symm).2
          rw [h2] at ho
          cases ho
          cases hc
        case assign =>
          intro l pre x W K hx hiW hK
          dsimp only [Ed.val]
          gi_wp2
          refine hK _ _ ((KeepsOthers.alloc _ _).from _) ((Below.refl _ W).alloc ?_ _) ?_ ⟨W.heap.size, _, _, _, _, _, _, _, _, ?_, (by repeat (first | with_reducible assumption | (refine heap_drewp ?_) | (refine heap_at ?_; (first | rfl | (simp; done) | (simp; omega))) | (refine heap_past ?_ ?_; (next => first | omega | (simp; done) | (simp; omega))))), rfl⟩
          · obtain ⟨_, _, _, h2⟩ := hiW; exact h2.below.size
          · obtain ⟨h1, tag, vs, h2⟩ := hiW; exact ⟨h1, tag, vs, h2.call (bel_alloc _ _)⟩
          · obtain ⟨_, _, _, h2⟩ := hiW; exact h2.below.size
        case body =>
          rintro l pre x a' W hx hl ⟨hpre, tag, vq, hJ⟩ ⟨Bx, y17, y18, y19, y20, y21, y22, y23, y24, hBx, hbx, rfl⟩
          have hJ2 := hJ.retag hbx
          have hOx : Own W w.heap.size (tagUp tag Bx 5) 5 Bx #[.int .i64 x.f, .int .i64 x.e, .int .i64 x.t] 45 := ⟨hbx, tagUp_at _ _ _, hBx⟩
          have hxe := subOf_mem hx
          have hxr := Hin.out x hxe
          have hok' := FOk.fold (perm := perm) pre Hok2.out (fun y hy => Hin.out y (subOf_mem (hpre y hy)))
          have Hmem : Hid (∀ y ∈ pre ++ [x], y ∈ subOf es s) := by
            intro y hy
            rcases List.mem_append.1 hy with h1 | h1
            · exact hpre y h1
            · rw [List.mem_singleton.1 h1]; exact hx
          have Hacc : Hid ((pre ++ [x]).foldl (fwStep perm) (seen, q) = fwStep perm (pre.foldl (fwStep perm) (seen, q)) x) := by
            show _ = _
            rw [List.foldl_append]; rfl
          clear hpre hx hJ
          generalize pre.foldl (fwStep perm) (seen, q) = acc at *
          obtain ⟨se, st⟩ := acc
          dsimp only at hJ2 hok'
          have hBW := hJ2.below.size
          have hBxl := hOx.lt
          have hb7l := hJ2.eb.lt
          have hb8l := hJ2.qb.lt
          have x0 : W.cell? ⟨Bx, 0, none⟩ = some (.int .i64 x.f) := hOx.cell 0
          have x1 : W.cell? ⟨Bx, 1, none⟩ = some (.int .i64 x.e) := hOx.cell 1
          have x2 : W.cell? ⟨Bx, 2, none⟩ = some (.int .i64 x.t) := hOx.cell 2
          have e0 : W.cell? ⟨w1.heap.size, 0, none⟩ = some (.slice (some ⟨b1, o1, none⟩) n c1) := hJ2.eb.cell 0
          have hlen := hok'.len
          have e1 := hJ2.se.cellAt x.t.toNat (by omega)
          have hq : x.t.toNat < se.length := by omega
          have hstl : st.length ≤ 1000000 := by have := hok'.sum; have := Hm.out; omega
          clear hlen
          rw [List.getElem?_map, List.getElem?_eq_getElem hq, Option.map_some] at e1
          cases hb : se[x.t.toNat]
          · rw [hb] at e1
            have e2 : W.cell? ⟨w.heap.size + 1, 0, none⟩ = some (.func (.func fp) #[] capp) := hJ2.fp.cell 0
            have Hb := Lib.hid hb
            clear hb
            have hHep : Hid (∀ args W, (callFunc fp args).run Try.prog W = .ok (.enter fp args) W) := Hep.out
            cases hpx : perm x
            · have Hpx := Lib.hid hpx
              clear hpx
              gi_wp2_with fail
              refine ⟨trivial, ?_⟩
              rw [hHep.out, Oper.uponIn_enter]
              refine ⟨fun _ => by decide, ?_⟩
              refine (CallsIn.inRound l (callsIn_wide.2 (Hp.out x W hxe hJ2.below))).mono ?_
              rintro e w4 ⟨he, hb4⟩
              rw [Hpx.out] at he
              subst he
              dsimp only
              gi_wp2
              refine ⟨(keepsBelow hb4), belCall (Below.refl _ _) hb4 hJ2.below.size, Hmem.out, tagUp tag Bx 5, vq, ?_⟩
              rw [Hacc.out, show fwStep perm (se, st) x = (se, st) from ?_]
              · exact hJ2.call hb4
              · unfold fwStep
                rw [if_neg]
                rw [Hpx.out]
                simp
            · have Hpx := Lib.hid hpx
              clear hpx
              gi_wp2_with fail
              refine ⟨trivial, ?_⟩
              rw [hHep.out, Oper.uponIn_enter]
              refine ⟨fun _ => by decide, ?_⟩
              refine (CallsIn.inRound l (callsIn_wide.2 (Hp.out x W hxe hJ2.below))).mono ?_
              rintro e w4 ⟨he, hb4⟩
              rw [Hpx.out] at he
              subst he
              dsimp only
              have hJ4 := hJ2.call hb4
              have hO4 := hOx.below hb4
              obtain ⟨avs, cvs, rfl⟩ := hJ4.st.val
              clear x0 x1 x2 e0 e1 e2 hJ2 hOx
              have hBxl4 := hO4.lt
              have hb7l4 := hJ4.eb.lt
              have hb8l4 := hJ4.qb.lt
              have x2 : w4.cell? ⟨Bx, 2, none⟩ = some (.int .i64 x.t) := hO4.cell 2
              have e0 : w4.cell? ⟨w1.heap.size, 0, none⟩ = some (.slice (some ⟨b1, o1, none⟩) n c1) := hJ4.eb.cell 0
              have e1 := hJ4.se.cellAt x.t.toNat (by omega)
              rw [List.getElem?_map, List.getElem?_eq_getElem hq, Option.map_some] at e1
              have e2 := hJ4.se.frozenAt (o1 + x.t.toNat)
              obtain ⟨hJ5, t5⟩ := hJ4.setSeen x.t.toNat
              have hO5 := hO4.turn t5 (by decide)
              have z2 : (w4.setCell ⟨b1, o1 + x.t.toNat, none⟩ (.bool true)).cell? ⟨Bx, 2, none⟩ = some (.int .i64 x.t) := hO5.cell 2
              have z3 : (w4.setCell ⟨b1, o1 + x.t.toNat, none⟩ (.bool true)).cell? ⟨w2.heap.size, 0, none⟩ = some (.slice avs st.length cvs) := hJ5.qb.cell 0
              have T5 := Lib.hid t5
              clear t5 hO5 hJ4 hO4
              obtain ⟨i1, hi1, hw0, hw1, hw2⟩ := info_parts Try.info_int
              have hJ6 := hJ5.call (bel_alloc _ (.cells #[.int .i64 x.t] 3))
              gi_wp2_with (gi_at_builtin; (refine wpListIn_append_row rfl _ _ 28 rfl 3 i1 (.int .i64 0) 8 Try.underlying28 hi1 hw0 hw1 hw2 rfl rfl hJ6.st (some ⟨_, 0, none⟩) 1 1 [.int .i64 x.t] rfl rfl (by simp) (fun ad e => by cases e; exact new_cells_at _ _ (by simp)) (by simp [Value.oneCell']) (by unfold maxLen; omega) (by omega) hJ6.below.size ?_); intro v6 w6 tag6 hr6 ht6; have hJ7 := hJ6.push (x := x.t) hr6 ht6; have s6 := hJ6.qb.turn ht6 (by decide); obtain ⟨a6, c6, rfl⟩ := hr6.val; have z0 := s6.cell 0; have z1 := s6.frozen 0; have z4 : w6.cell? ⟨w2.heap.size, 0, none⟩ = some (.slice avs st.length cvs) := z0; clear z0)
              refine ⟨(keepsBelow hb4).trans ((keepsTurn T5.out).trans ((keepsBelow (bel_alloc _ (.cells #[.int .i64 x.t] 3))).trans ((keepsTurn ht6).trans (keepsTurn (Turn.setCell s6 0 (.slice a6 (st.length + 1) c6)))))), ?_, Hmem.out, tag6, .slice a6 (st.length + 1) c6, ?_⟩
              · have q1 := belCall (Below.refl w.heap.size W) hb4 hBW
                have q2 := belTurn q1 T5.out (Nat.le_trans hBW hb4.size)
                have q3 := belCall q2 (bel_alloc _ (.cells #[.int .i64 x.t] 3)) (Nat.le_trans hBW q2.size)
                have q4 := belTurn q3 ht6 (Nat.le_trans hBW q3.size)
                exact belTurn q4 (Turn.setCell s6 0 (.slice a6 (st.length + 1) c6)) (Nat.le_trans hBW q4.size)
              · rw [Hacc.out, show fwStep perm (se, st) x = (se.set x.t.toNat true, st ++ [x.t]) from ?_]
                · exact hJ7
                · unfold fwStep
                  rw [if_pos]
                  dsimp only
                  rw [List.getElem?_eq_getElem hq, Hb.out, Hpx.out]
                  exact ⟨rfl, rfl⟩
          · rw [hb] at e1
            have Hb := Lib.hid hb
            clear hb
            gi_wp2
            refine ⟨fun _ h => (by cases h), ?_⟩
            gi_wp2
            refine ⟨KeepsFrom.refl _ _, Below.refl _ _, Hmem.out, tagUp tag Bx 5, vq, ?_⟩
            rw [Hacc.out, show fwStep perm (se, st) x = (se, st) from ?_]
            · exact hJ2
            · unfold fwStep
              rw [if_neg]
              dsimp only
              rw [List.getElem?_eq_getElem hq, Hb.out]
              simp
        case done =>
          rintro D W hD ⟨hpre, tag', vq', hW⟩ hd
          have hW2 := hW.mark (fun D' hD' => hI4.marks.lt hD') hD hI4.below.size hd
          have Hfin := Lib.hid hW2
          have hok' := FOk.fold (perm := perm) (subOf es s) Hok2.out (fun y hy => Hin.out y (subOf_mem hy))
          clear hpre hseq hd hW hW2
          go_wp2_with fail
          refine Handed.intro (m - 1 + 1) (by have := Hm1.out; omega) (hJ _ _ _ ?_)
          repeat apply Exists.intro
          exact ⟨Hfin.out, hok', rfl, by have := Hm.out; omega, Hnext.out, rfl⟩
end Go.Proofs.Ythchkddhibhenaa

namespace Go.Proofs.Ythchkddhibhenaa
open Go.RowKit

theorem anyEdge_any (x : Ed) (w : World) : Calls Try.prog 65 #[x.val] w fun e w' => e = .returned (.bool true) ∧ Below w.heap.size w w' := by
  dsimp only [Ed.val]
  go_enter Try.func65, Try.ntmps65
  go_wp2
  go_ret
  exact ⟨rfl, by first | exact Below.refl _ _ | exact bel_alloc _ _⟩

/-- The flags that reachable returns. -/
def reachF (n : Nat) (es : List Ed) : List Bool := if n = 0 then [] else forwardF n es (fun _ => true) [0]

set_option maxRecDepth 100000 in
set_option maxHeartbeats 1600000 in
theorem reachable_any (aa am ae af : Option Addr) (la lm ca cm ce cf : Nat) (n : Nat) (es : List Ed) (w : World)
    (hre : RdS w 3 ae es.length ce (edCells es)) (hrf : RdS w 1 af (n + 1) cf (ints (firsts n es))) (hl : es.length ≤ 1000000) (hn : n ≤ 100000) (hin : ∀ x ∈ es, 0 ≤ x.t ∧ x.t < (n : Int)) :
    Calls Try.prog 60 #[.agg #[.slice aa la ca, .int .i64 n, .slice am lm cm, .slice ae es.length ce, .slice af (n + 1) cf]] w (Ret w fun u w' => RdB w' u (reachF n es)) := by
  have HR : Hid (reachF n es = if n = 0 then [] else forwardF n es (fun _ => true) [0]) := rfl
  generalize reachF n es = R at *
  have Hin := Lib.hid hin
  clear hin
  go_enter Try.func60, Try.ntmps60
  by_cases h0 : n = 0
  · subst h0
    go_wp2_with fail
    go_ret
    refine ⟨_, rfl, ?_, (Below.refl _ _).alloc (Nat.le_refl _) _⟩
    rw [HR.out, if_pos (by trivial)]
    exact ⟨none, 0, rfl, ⟨rfl, Nat.le_refl _, by simp [maxLen], fun _ => rfl, fun _ e => (by cases e), fun _ e => (by cases e)⟩⟩
  · have hn0 : ((n : Int) == 0) = false := by simp; omega
    have HR2 : Hid (R = forwardF n es (fun _ => true) [0]) := by show _ = _; rw [HR.out, if_neg h0]
    have hpos : 0 < n := by omega
    clear h0 HR
    go_wp2_with fail
    have hbw := (bel_alloc w (.cells #[.slice aa la ca, .int .i64 n, .slice am lm cm, .slice ae es.length ce, .slice af (n + 1) cf] 80)).trans ((bel_alloc _ (.cells #[.int .i64 0] 3)).mono (by simp))
    refine (forward_any aa am ae af la lm ca cm ce cf n es 65 #[] (fun _ => true) _ [0] _ (hre.mono hbw) (hrf.mono hbw) ⟨_, 1, rfl, RdS.lit (cs := #[.int .i64 0]) (heap_at (by simp)) rfl (by decide)⟩ hl (by simp; omega) hpos (fun s hs => by rw [List.mem_singleton.1 hs]; omega) Hin.out (fun _ _ => by kernel_rfl) (fun x W _ _ => anyEdge_any x W)).mono ?_
    rintro e w3 ⟨v3, rfl, hr3, hb3⟩
    have Hr3 := Lib.hid hr3
    obtain ⟨a3, c3, rfl, hr3'⟩ := hr3
    clear hr3'
    go_wp2_with fail
    go_ret
    exact ⟨_, rfl, by rw [HR2.out]; exact Hr3.out, hbw.trans (hb3.mono hbw.size)⟩

set_option maxRecDepth 100000 in
set_option maxHeartbeats 1600000 in
theorem reachables_any (v : Value) (a : Aut) (w : World) (ha : RdA w v a) (hs : a.small) :
    Calls Try.prog 26 #[v] w (Ret w (ListPost a.err (listL (reachF a.n.toNat a.es)))) := by
  have ha0 := ha
  obtain ⟨va, vm, ve, rfl, ⟨aa, ca, rfl, hra⟩, ⟨am, cm, rfl, hrm⟩, ⟨ae, ce, rfl, hre⟩⟩ := ha
  have Ha0 := Lib.hid ha0
  have Hs := Lib.hid hs
  clear ha0 hs
  go_enter Try.func26, Try.ntmps26
  go_wp2_with fail
  refine (check_any _ a _ (Ha0.out.mono (by (repeat (first | with_reducible exact Below.refl _ _ | with_reducible exact Ha0 | (with_reducible refine belCall ?_ Ha0 (by first | omega | (simp; done) | (simp; omega) | (simp at *; omega))) | (with_reducible refine Below.alloc ?_ (by first | omega | (simp; done) | (simp; omega) | (simp at *; omega)) _) | (with_reducible refine Below.drew ?_) | (with_reducible refine Below.setCell ?_ (by first | omega | (simp; done) | (simp; omega) | (simp at *; omega)) _))))) Hs.out).mono ?_
  rintro e w1 ⟨_, rfl, rfl, hb1⟩
  have hW1 : Below w.heap.size w w1 := ((Below.refl _ _).alloc (Nat.le_refl _) _).trans (hb1.mono (by simp))
  have hbx := box4 hb1
  clear hb1
  by_cases h1 : a.err = 0
  · have hok := Aut.ok_of h1
    have H1 := Lib.hid h1
    rw [h1]
    clear h1
    have hn0 := hok.n0
    have hn1 := hok.n1
    have Hes := Lib.hid hok.es
    have hae := Hs.out.es
    clear hok
    generalize hn : a.n = an at *
    obtain ⟨n, rfl⟩ := Int.eq_ofNat_of_zero_le hn0
    have Hn := Lib.hid hn
    obtain ⟨x0, x1, x2, x3, x4⟩ := hbx
    clear hn hn0
    go_wp2_with fail
    refine (newGraph_any _ _ _ _ _ _ _ n a.es _ (RdE.mono ⟨ae, ce, rfl, hre⟩ hW1) hae (by omega) (fun x hx => ⟨(Hes.out x hx).1, (Hes.out x hx).2.1⟩)).mono ?_
    rintro e w3 ⟨_, rfl, ⟨af, cf, rfl, hrf⟩, hb3⟩
    have hW3 := hW1.trans (hb3.mono hW1.size)
    clear x0 x1 x2 x3 x4 hb3
    go_wp2_with fail
    refine (reachable_any aa am ae af _ _ ca cm ce cf n a.es _ (hre.mono hW3) hrf hae (by omega) (fun x hx => (Hes.out x hx).2.2)).mono ?_
    rintro e w4 ⟨v4, rfl, hr4, hb4⟩
    have hW4 := hW3.trans (hb4.mono hW3.size)
    have hfl : (reachF n a.es).length ≤ 1000000 := by
      obtain ⟨a4, c4, _, h5⟩ := hr4
      unfold reachF
      split
      · simp
      · rename_i h6
        have := forwardF_length (perm := fun _ => true) n a.es [0] (fun x hx => (Hes.out x hx).2.2) (fun s hs => by rw [List.mem_singleton.1 hs]; omega)
        omega
    have Hr4 := Lib.hid hr4
    obtain ⟨a4, c4, rfl, hr4'⟩ := hr4
    clear hr4' hb4
    go_wp2_with fail
    refine (list_any _ _ _ Hr4.out hfl).mono ?_
    rintro e w5 ⟨v5, rfl, hown5, hb5⟩
    have H5 := Lib.hid (RdI.of_own hown5)
    obtain ⟨a5, c5, rfl, hr5⟩ := RdS.of_own hown5
    clear hr5 hown5
    go_wp2_with fail
    go_ret2
    refine ⟨_, rfl, ?_, hW4.trans (hb5.mono hW4.size)⟩
    rw [ListPost, if_pos H1.out]
    exact ⟨_, rfl, H5.out⟩
  · have H1 := Lib.hid h1
    have h1' : (a.err != 0) = true := by simpa using h1
    clear h1
    go_wp2_with fail
    go_ret2
    refine ⟨_, rfl, ?_, hW1⟩
    rw [ListPost, if_neg H1.out]
    rfl
end Go.Proofs.Ythchkddhibhenaa

namespace Go.Proofs.Ythchkddhibhenaa

/-- One edge stands before another. -/
def edLt (x y : Ed) : Prop := x.f < y.f ∨ (x.f = y.f ∧ x.e < y.e)
def Sorted (es : List Ed) : Prop := es.Pairwise edLt
end Go.Proofs.Ythchkddhibhenaa

namespace Go.Proofs.Ythchkddhibhenaa
open Go.RowKit

theorem bel_drewN {B : Nat} {a w : World} (h : Below B a w) (n : Nat) : Below B a (w.drewN n) := h.trans ⟨rfl, rfl, rfl, Nat.le_refl _, fun _ _ => rfl⟩

end Go.Proofs.Ythchkddhibhenaa

namespace Go.Proofs.Ythchkddhibhenaa

theorem setErr_ok {n : Int} : ∀ {p : Option Int} {xs : List Int}, xs.Pairwise (· < ·) → (∀ x ∈ xs, 0 ≤ x ∧ x < n) → (∀ q, p = some q → ∀ x ∈ xs, q < x) → setErr n p xs = 0
  | _, [], _, _, _ => rfl
  | p, x :: xs, h, hr, hp => by
    obtain ⟨h1, h2⟩ := List.pairwise_cons.1 h
    have h3 := hr x (List.mem_cons_self ..)
    rw [setErr, if_neg (by omega), if_neg ?_]
    · exact setErr_ok h2 (fun y hy => hr y (List.mem_cons_of_mem _ hy)) (fun q hq y hy => by cases hq; exact h1 y hy)
    · rintro ⟨q, hq, hle⟩
      have := hp q hq x (List.mem_cons_self ..)
      omega
theorem edErr_ok {al : List Int} {n : Int} : ∀ {p : Option Ed} {es : List Ed}, Sorted es → (∀ x ∈ es, 0 ≤ x.f ∧ x.f < n ∧ 0 ≤ x.t ∧ x.t < n ∧ hasB al x.e = true) → (∀ q, p = some q → ∀ x ∈ es, edLt q x) → edErr al n p es = 0
  | _, [], _, _, _ => rfl
  | p, x :: xs, h, hr, hp => by
    obtain ⟨h1, h2⟩ := List.pairwise_cons.1 h
    have h3 := hr x (List.mem_cons_self ..)
    rw [edErr, if_neg (by omega), if_neg (by rw [h3.2.2.2.2]; simp), if_neg ?_]
    · exact edErr_ok h2 (fun y hy => hr y (List.mem_cons_of_mem _ hy)) (fun q hq y hy => by cases hq; exact h1 y hy)
    · rintro ⟨q, hq, hle⟩
      have := hp q hq x (List.mem_cons_self ..)
      unfold edLt at this
      omega
theorem range_pairwise (k : Nat) (p : Nat → Bool) : (((List.range k).filter p).map fun (i : Nat) => (i : Int)).Pairwise (· < ·) := by
  rw [List.pairwise_map]
  refine List.Pairwise.filter _ ?_
  exact List.Pairwise.imp (fun {a b} h => by omega) List.pairwise_lt_range
theorem range_in (k : Nat) (p : Nat → Bool) : ∀ x ∈ ((List.range k).filter p).map fun (i : Nat) => (i : Int), 0 ≤ x ∧ x < (k : Int) := by
  intro x hx
  obtain ⟨i, hi, rfl⟩ := List.mem_map.1 hx
  have := List.mem_range.1 (List.mem_filter.1 hi).1
  omega
end Go.Proofs.Ythchkddhibhenaa

namespace Go.Proofs.Ythchkddhibhenaa

open Go.RowKit in
theorem RdI.nil0 (w : World) : RdI w (.slice none 0 0) [] := ⟨none, 0, rfl, ⟨rfl, Nat.le_refl _, by simp [maxLen], fun _ => rfl, fun _ e => (by cases e), fun _ e => (by cases e)⟩⟩
abbrev Inc (xs : List Int) : Prop := xs.Pairwise (· < ·)
/-- How many edges lead out of a list. -/
def news (es : List Ed) (o : List Int) : Nat := es.countP fun x => !hasB o x.t
end Go.Proofs.Ythchkddhibhenaa

namespace Go.Proofs.Ythchkddhibhenaa
open Go.RowKit

/-- The numbers below k that are chosen. -/
def selL (p : Nat → Bool) (k : Nat) : List Int := ((List.range k).filter p).map fun (i : Nat) => (i : Int)
theorem selL_true {p : Nat → Bool} {k : Nat} (h : p k = true) : selL p (k + 1) = selL p k ++ [(k : Int)] := by simp [selL, List.range_succ, List.filter_append, h]
theorem selL_false {p : Nat → Bool} {k : Nat} (h : p k = false) : selL p (k + 1) = selL p k := by simp [selL, List.range_succ, List.filter_append, h]
theorem selL_le (p : Nat → Bool) (k : Nat) : (selL p k).length ≤ k := by
  unfold selL
  rw [List.length_map]
  exact Nat.le_trans (List.length_filter_le _ _) (by simp)
/-- Whether a state has no edge. -/
def deadB (es : List Ed) (i : Nat) : Bool := es.all fun x => x.f != i
theorem deadB_iff (es : List Ed) (i : Nat) : (((fstN es i : Nat) : Int) == ((fstN es ((i : Int) + 1) : Nat) : Int)) = deadB es i := by
  have h : fstN es ((i : Int) + 1) = fstN es i + es.countP fun x => decide (x.f = (i : Int)) := by
    unfold fstN
    induction es with
    | nil => rfl
    | cons x es ih =>
      rw [List.countP_cons, List.countP_cons, List.countP_cons, ih]
      by_cases h1 : x.f < (i : Int)
      · rw [if_pos (by simp; omega), if_pos (by simpa using h1), if_neg (by simp; omega)]; omega
      · by_cases h2 : x.f = (i : Int)
        · rw [if_pos (by simp; omega), if_neg (by simpa using h1), if_pos (by simpa using h2)]; omega
        · rw [if_neg (by simp; omega), if_neg (by simpa using h1), if_neg (by simpa using h2)]; omega
  rw [h, Bool.eq_iff_iff, beq_iff_eq]
  unfold deadB
  rw [List.all_eq_true]
  constructor
  · intro he x hx
    have h0 : es.countP (fun x => decide (x.f = (i : Int))) = 0 := by omega
    have := List.countP_eq_zero.1 h0 x hx
    simpa using this
  · intro ha
    have h0 : es.countP (fun x => decide (x.f = (i : Int))) = 0 := by
      rw [List.countP_eq_zero]
      intro x hx
      simpa using ha x hx
    omega

set_option maxRecDepth 100000 in
set_option maxHeartbeats 1600000 in
theorem dead_any (v : Value) (a : Aut) (w : World) (ha : RdA w v a) (hs : a.small) :
    Calls Try.prog 28 #[v] w (Ret w (ListPost a.err (selL (deadB a.es) a.n.toNat))) := by
  have ha0 := ha
  obtain ⟨va, vm, ve, rfl, ⟨aa, ca, rfl, hra⟩, ⟨am, cm, rfl, hrm⟩, ⟨ae, ce, rfl, hre⟩⟩ := ha
  obtain ⟨i0, hi, hz0, hz1, hz2⟩ := info_parts Try.info_int
  have Ha0 := Lib.hid ha0
  have Hs := Lib.hid hs
  clear ha0 hs
  go_enter Try.func28, Try.ntmps28
  go_wp2_with fail
  refine (check_any _ a _ (Ha0.out.mono (by (repeat (first | with_reducible exact Below.refl _ _ | with_reducible exact Ha0 | (with_reducible refine belCall ?_ Ha0 (by first | omega | (simp; done) | (simp; omega) | (simp at *; omega))) | (with_reducible refine Below.alloc ?_ (by first | omega | (simp; done) | (simp; omega) | (simp at *; omega)) _) | (with_reducible refine Below.drew ?_) | (with_reducible refine Below.setCell ?_ (by first | omega | (simp; done) | (simp; omega) | (simp at *; omega)) _))))) Hs.out).mono ?_
  rintro e w1 ⟨_, rfl, rfl, hb1⟩
  have hW1 : Below w.heap.size w w1 := ((Below.refl _ _).alloc (Nat.le_refl _) _).trans (hb1.mono (by simp))
  have hbx := box4 hb1
  clear hb1
  by_cases h1 : a.err = 0
  · have hok := Aut.ok_of h1
    have H1 := Lib.hid h1
    rw [h1]
    clear h1
    have hn0 := hok.n0
    have hn1 := hok.n1
    have Hes := Lib.hid hok.es
    have hae := Hs.out.es
    clear hok
    generalize hn : a.n = an at *
    obtain ⟨n, rfl⟩ := Int.eq_ofNat_of_zero_le hn0
    have Hn := Lib.hid hn
    obtain ⟨x0, x1, x2, x3, x4⟩ := hbx
    clear hn hn0
    go_wp2_with fail
    refine (newGraph_any _ _ _ _ _ _ _ n a.es _ (RdE.mono ⟨ae, ce, rfl, hre⟩ hW1) hae (by omega) (fun x hx => ⟨(Hes.out x hx).1, (Hes.out x hx).2.1⟩)).mono ?_
    rintro e w3 ⟨_, rfl, ⟨af, cf, rfl, hrf⟩, hb3⟩
    have hW3 := hW1.trans (hb3.mono hW1.size)
    obtain ⟨z0, z1, z2, z3, z4⟩ := box4' ⟨x0, x1, x2, x3, x4⟩ hb3
    have Hf : Hid (∀ k : Nat, k ≤ n → ∃ bb oo, af = some ⟨bb, oo, none⟩ ∧ w3.cell? ⟨bb, oo + k, none⟩ = some (.int .i64 (fstN a.es k))) := by
      intro k hk
      obtain ⟨bb, oo, e, h9⟩ := hrf.at_elem k (by omega)
      refine ⟨bb, oo, e, ?_⟩
      have h8 := h9 k (by have := hrf.hlen; omega)
      rw [h8, ← List.getElem?_eq_getElem]
      exact firsts_get n a.es k hk
    have Hok3 := Lib.hid (show w3.heap.size = w3.heap.size from rfl)
    clear x0 x1 x2 x3 x4 hb3 hrf
    go_wp2_with fail
    clear z0 z1 z2 z3
    go_loopw [6, 17] (fun o i wr => ∃ (k : Nat) (tag : Nat → Nat), k ≤ n ∧ i = .int .i64 k ∧ Below (w3.heap.size + 1) (w3.alloc (.cells #[.slice aa a.al.length ca, .int .i64 n, .slice am a.ms.length cm, .slice ae a.es.length ce, .slice af (n + 1) cf] 80)) wr ∧ Row wr (w3.heap.size + 1) tag 1 3 1 o (selL (deadB a.es) k).length (ints (selL (deadB a.es) k))) (fun _ i _ => n - (intOf i).toNat)
    case atStart => exact ⟨0, fun _ => 1, Nat.zero_le _, rfl, Below.refl _ _, Row.nil _ _ _ _ _ _⟩
    case round =>
      obtain ⟨k, tag, hk, rfl, hB, hrow⟩ := hrel
      have hB0 : Below w3.heap.size w3 wr := ((Below.refl _ _).alloc (Nat.le_refl _) _).trans (hB.mono (Nat.le_succ _))
      have hsz := hB.size
      simp only [World.size_alloc] at hsz
      have c4 : wr.cell? ⟨w3.heap.size, 4, none⟩ = some (.slice af (n + 1) cf) := (hB.cell (p := ⟨w3.heap.size, 4, none⟩) (by simp)).trans (by simp [go_sem])
      have hle := selL_le (deadB a.es) k
      obtain ⟨ao, co, rfl⟩ := hrow.val
      by_cases hlt : k < n
      · have Hsel : Hid (∀ b, deadB a.es k = b → selL (deadB a.es) (k + 1) = if b = true then selL (deadB a.es) k ++ [(k : Int)] else selL (deadB a.es) k) := by
          intro b hb
          cases b with
          | true => exact selL_true hb
          | false => exact selL_false hb
        obtain ⟨bb, oo, rfl, g0⟩ := Hf.out k hk
        obtain ⟨bb', oo', e1, g1⟩ := Hf.out (k + 1) (by omega)
        cases e1
        have hdi := deadB_iff a.es k
        rw [show ((k + 1 : Nat) : Int) = (k : Int) + 1 by omega] at g1
        replace g0 := keep0 hB0 g0
        replace g1 := keep0 hB0 g1
        have hlti : (k : Int) < n := by omega
        have hlti2 : (k : Int) + 1 < (n : Int) + 1 := by omega
        generalize selL (deadB a.es) k = O at *
        generalize ((fstN a.es k : Nat) : Int) = p at *
        generalize ((fstN a.es ((k : Int) + 1) : Nat) : Int) = q at *
        have hrowd := hrow.below (bel_drew wr)
        cases hb : deadB a.es k with
        | false =>
          have HO := Lib.hid (Hsel.out _ hb)
          rw [hb] at hdi
          clear hb
          go_wp2_with fail
          go_quiet (fail)
          go_wp2_with fail
          go_roundw
          case rel => exact ⟨k + 1, tag, by omega, by go_num, bel_drewN hB _, by rw [HO.out]; exact hrow.below (bel_drewN (Below.refl _ _) _)⟩
          case measure => simp [intOf]; omega
        | true =>
          have HO := Lib.hid (Hsel.out _ hb)
          rw [hb] at hdi
          clear hb
          go_wp2_with fail
          go_quiet (fail)
          have hrow10 := (hrow.below (bel_drewN (Below.refl _ _) nq)).below (bel_alloc (wr.drewN nq) (.cells #[.int .i64 k] 3))
          go_wp2_with (at_builtin; refine wpList_append_row rfl _ _ 28 rfl 3 i0 (.int .i64 0) 8 Try.underlying28 hi hz0 hz1 hz2 rfl rfl hrow10 (some ⟨_, 0, none⟩) 1 1 [.int .i64 k] rfl (by simp) (fun e => by cases e) (fun ad e => by cases e; exact new_cells_at _ _ rfl) (by simp [Value.oneCell']) (by unfold maxLen; omega) (by omega) (by simp; omega) ?_; intro v6 w6 tag6 hr6 ht6; obtain ⟨a6, c6, rfl⟩ := hr6.val)
          go_roundw
          case rel =>
            refine ⟨k + 1, tag6, by omega, by go_num, belTurn ((bel_drewN hB nq).alloc (by simp; omega) _) ht6 (by simp; omega), ?_⟩
            rw [HO.out, if_pos (by trivial), List.length_append]
            have := hr6
            simpa [ints] using this
          case measure => simp [intOf]; omega
      · have hkn : n = k := by omega
        have Hrow := Lib.hid hrow
        have hge : (n : Int) ≤ k := by omega
        have Hkn := Lib.hid hkn
        clear hkn hrow
        generalize hO : selL (deadB a.es) k = O at *
        have HO := Lib.hid hO
        clear hO
        go_wp2_with fail
        go_ret2
        refine ⟨_, rfl, ?_, hW3.trans (hB0.mono hW3.size)⟩
        rw [ListPost, if_pos H1.out]
        refine ⟨_, rfl, ?_⟩
        rw [show selL (deadB a.es) ((n : Int)).toNat = O by rw [Int.toNat_natCast, Hkn.out, HO.out]]
        exact Hrow.out.rdI
  · have H1 := Lib.hid h1
    have h1' : (a.err != 0) = true := by simpa using h1
    clear h1
    go_wp2_with fail
    go_ret2
    refine ⟨_, rfl, ?_, hW1⟩
    rw [ListPost, if_neg H1.out]
    rfl
end Go.Proofs.Ythchkddhibhenaa

namespace Go.Proofs.Ythchkddhibhenaa
open Go.RowKit

/-- Whether no edge by some events leads out of a set. -/
def closedL (es : List Ed) (set evs : List Int) : Bool := es.all fun x => !(hasB set x.f && !hasB set x.t && hasB evs x.e)
/-- What Closed returns. -/
def CPost (e : Int) (b : Bool) (u : Value) (_ : World) : Prop := u = if e = 0 then .tuple #[.bool b, .int .i64 0] else .tuple #[.bool false, .int .i64 e]

set_option maxRecDepth 100000 in
set_option maxHeartbeats 1600000 in
theorem closed_any (v vs vv : Value) (a : Aut) (set evs : List Int) (w : World) (ha : RdA w v a) (hs : a.small) (h1 : RdI w vs set) (h2 : RdI w vv evs) (hl1 : set.length ≤ 1000000) (hl2 : evs.length ≤ 1000000) :
    Calls Try.prog 22 #[v, vs, vv] w (Ret w (CPost (err2 a.err (err2 (setErr a.n none set) (setErr 32 none evs))) (closedL a.es set evs))) := by
  have ha0 := ha
  obtain ⟨va, vm, ve, rfl, ⟨aa, ca, rfl, hra⟩, ⟨am, cm, rfl, hrm⟩, ⟨ae, ce, rfl, hre⟩⟩ := ha
  have Ha0 := Lib.hid ha0
  have Hs := Lib.hid hs
  have Hr1 := Lib.hid h1
  have Hr2 := Lib.hid h2
  clear ha0 hs h1 h2
  go_enter Try.func22, Try.ntmps22
  go_wp2_with fail
  refine (closure_any _ vs vv a set evs _ (Ha0.out.mono (by (repeat (first | with_reducible exact Below.refl _ _ | with_reducible exact Ha0 | (with_reducible refine belCall ?_ Ha0 (by first | omega | (simp; done) | (simp; omega) | (simp at *; omega))) | (with_reducible refine Below.alloc ?_ (by first | omega | (simp; done) | (simp; omega) | (simp at *; omega)) _) | (with_reducible refine Below.drew ?_) | (with_reducible refine Below.setCell ?_ (by first | omega | (simp; done) | (simp; omega) | (simp at *; omega)) _))))) Hs.out (Hr1.out.mono (by (repeat (first | with_reducible exact Below.refl _ _ | with_reducible exact Ha0 | (with_reducible refine belCall ?_ Ha0 (by first | omega | (simp; done) | (simp; omega) | (simp at *; omega))) | (with_reducible refine Below.alloc ?_ (by first | omega | (simp; done) | (simp; omega) | (simp at *; omega)) _) | (with_reducible refine Below.drew ?_) | (with_reducible refine Below.setCell ?_ (by first | omega | (simp; done) | (simp; omega) | (simp at *; omega)) _))))) (Hr2.out.mono (by (repeat (first | with_reducible exact Below.refl _ _ | with_reducible exact Ha0 | (with_reducible refine belCall ?_ Ha0 (by first | omega | (simp; done) | (simp; omega) | (simp at *; omega))) | (with_reducible refine Below.alloc ?_ (by first | omega | (simp; done) | (simp; omega) | (simp at *; omega)) _) | (with_reducible refine Below.drew ?_) | (with_reducible refine Below.setCell ?_ (by first | omega | (simp; done) | (simp; omega) | (simp at *; omega)) _))))) hl1 hl2).mono ?_
  rintro e w1 ⟨_, rfl, rfl, hb1⟩
  have hW1 : Below w.heap.size w w1 := ((Below.refl _ _).alloc (Nat.le_refl _) _).trans (hb1.mono (by simp))
  have hbx := box4 hb1
  clear hb1
  by_cases h1 : err2 a.err (err2 (setErr a.n none set) (setErr 32 none evs)) = 0
  · have herr : a.err = 0 ∧ setErr a.n none set = 0 ∧ setErr 32 none evs = 0 := by
      unfold err2 at h1
      split at h1
      · rename_i g1
        split at h1
        · rename_i g2; exact ⟨g1, g2, h1⟩
        · rename_i g2; exact absurd h1 g2
      · rename_i g1; exact absurd h1 g1
    have hok := Aut.ok_of herr.1
    have hin := setErr_zero herr.2.1
    have H1 := Lib.hid h1
    rw [h1]
    clear h1 herr
    have hn0 := hok.n0
    have hn1 := hok.n1
    have Hes := Lib.hid hok.es
    have Hin := Lib.hid hin
    have hae := Hs.out.es
    clear hok hin
    generalize hn : a.n = an at *
    obtain ⟨n, rfl⟩ := Int.eq_ofNat_of_zero_le hn0
    have hn' : n ≤ 4096 := by omega
    have Hn := Lib.hid hn
    clear hn hn0 hn1
    obtain ⟨x0, x1, x2, x3, x4⟩ := hbx
    have Hbx := Lib.hid (And.intro x0 (And.intro x1 (And.intro x2 (And.intro x3 x4))))
    go_wp2_with fail
    refine (flags_any _ _ _ vs n set _ (Hr1.out.mono hW1) hl1 (by omega) Hin.out).mono ?_
    rintro e w2 ⟨_, rfl, hown, hb2⟩
    have hrow : Row w2 w1.heap.size (fun _ => 1) 1 4 1 _ n (bools (flagL n set)) := Row.of_own hown (Nat.le_refl _) (fun _ _ _ => rfl)
    have hfl := flagL_length n set
    have hlen : a.es.length ≤ 1000000 := hae
    clear hown
    obtain ⟨af, cf, rfl⟩ := hrow.val
    have c3 := keep0 hb2 x3
    go_wp2_with fail
    clear x0 x1 x2 x3
    go_loopw [25] (fun i wr => ∃ kk : Nat, i = .int .i64 kk ∧ kk ≤ a.es.length ∧ Below w2.heap.size w2 wr ∧ Hid (closedL a.es set evs = closedL (a.es.drop kk) set evs)) (fun i _ => a.es.length - (intOf i).toNat)
    case atStart => exact ⟨0, rfl, Nat.zero_le _, Below.refl _ _, rfl⟩
    case round =>
      obtain ⟨kk, rfl, hkk, hB, hfold⟩ := hrel
      have hsz := hB.size
      have hbz2 := hb2.size
      have hrow' : Row wr w1.heap.size (fun _ => 1) 1 4 1 (.slice af n cf) n (bools (flagL n set)) := hrow.below hB
      by_cases hlt : kk < a.es.length
      · obtain ⟨b, off, rfl, d0, d1, d2⟩ := hre.at_edge kk hlt
        have hx := Hes.out a.es[kk] (List.getElem_mem hlt)
        have Hdrop : Hid (closedL (a.es.drop kk) set evs = (!(hasB set a.es[kk].f && !hasB set a.es[kk].t && hasB evs a.es[kk].e) && closedL (a.es.drop (kk + 1)) set evs)) := by
          show _ = _
          rw [List.drop_eq_getElem_cons hlt]; rfl
        have hbz := World.block_lt_of_cell? _ _ d0
        dsimp only at hbz
        have hwz := hW1.size
        have hW2 := hW1.trans (hb2.mono hW1.size)
        have hW2r := hW2.trans (hB.mono hW2.size)
        replace d0 := keep0 hW2r d0
        replace d1 := keep0 hW2r d1
        replace d2 := keep0 hW2r d2
        generalize a.es[kk] = x at *
        obtain ⟨hx0, hx1, hx2, hx3⟩ := hx
        obtain ⟨f0, e0, t0⟩ := x
        dsimp only at *
        obtain ⟨xf, rfl⟩ := Int.eq_ofNat_of_zero_le hx0
        obtain ⟨xt, rfl⟩ := Int.eq_ofNat_of_zero_le hx2
        have hxf : xf < n := by omega
        have hxt : xt < n := by omega
        obtain ⟨gB, gO, gC, e1, hgl, hgb, _⟩ := hrow'.addr (by omega)
        cases e1
        have Hget : Hid (∀ j : Nat, j < n → wr.cell? ⟨gB, gO + j, none⟩ = some (.bool (hasB set j))) := by
          intro j hj
          rw [hrow'.cellAt j (by omega), List.getElem?_map, List.getElem?_eq_getElem (by rw [flagL_length]; exact hj)]
          simp [flagL]
        have g1 := Hget.out xf hxf
        have g2 := Hget.out xt hxt
        clear hx0 hx1 hx2 hx3 Hget hrow hrow'
        cases q1 : hasB set xf with
        | false =>
          have Q : Hid (closedL a.es set evs = closedL (a.es.drop (kk + 1)) set evs) := by
            show _ = _
            rw [hfold.out, Hdrop.out, q1]; simp
          rw [q1] at g1
          clear q1 Hdrop hfold
          go_wp2
          go_roundw
          case rel => exact ⟨kk + 1, by go_num, by omega, (by (repeat (first | with_reducible exact Below.refl _ _ | with_reducible exact hB | (with_reducible refine belCall ?_ hB (by first | omega | (simp; done) | (simp; omega) | (simp at *; omega))) | (with_reducible refine Below.alloc ?_ (by first | omega | (simp; done) | (simp; omega) | (simp at *; omega)) _) | (with_reducible refine Below.drew ?_) | (with_reducible refine Below.setCell ?_ (by first | omega | (simp; done) | (simp; omega) | (simp at *; omega)) _)))), Q.out⟩
          case measure => simp [intOf]; omega
        | true =>
          cases q2 : hasB set xt with
          | true =>
            have Q : Hid (closedL a.es set evs = closedL (a.es.drop (kk + 1)) set evs) := by
              show _ = _
              rw [hfold.out, Hdrop.out, q1, q2]; simp
            rw [q1] at g1
            rw [q2] at g2
            clear q1 q2 Hdrop hfold
            go_wp2
            go_roundw
            case rel => exact ⟨kk + 1, by go_num, by omega, (by (repeat (first | with_reducible exact Below.refl _ _ | with_reducible exact hB | (with_reducible refine belCall ?_ hB (by first | omega | (simp; done) | (simp; omega) | (simp at *; omega))) | (with_reducible refine Below.alloc ?_ (by first | omega | (simp; done) | (simp; omega) | (simp at *; omega)) _) | (with_reducible refine Below.drew ?_) | (with_reducible refine Below.setCell ?_ (by first | omega | (simp; done) | (simp; omega) | (simp at *; omega)) _)))), Q.out⟩
            case measure => simp [intOf]; omega
          | false =>
            cases q3 : hasB evs e0 with
            | false =>
              have Q : Hid (closedL a.es set evs = closedL (a.es.drop (kk + 1)) set evs) := by
                show _ = _
                rw [hfold.out, Hdrop.out, q3]; simp
              have Q3 := Lib.hid q3
              rw [q1] at g1
              rw [q2] at g2
              clear q1 q2 q3 Hdrop hfold
              go_wp2_with (go_at_call 57; ((with_reducible refine (contains_any vv evs e0 _ (Hr2.out.mono (by (repeat (first | with_reducible exact Below.refl _ _ | with_reducible exact hW2r | (with_reducible refine belCall ?_ hW2r (by first | omega | (simp; done) | (simp; omega) | (simp at *; omega))) | (with_reducible refine Below.alloc ?_ (by first | omega | (simp; done) | (simp; omega) | (simp at *; omega)) _) | (with_reducible refine Below.drew ?_) | (with_reducible refine Below.setCell ?_ (by first | omega | (simp; done) | (simp; omega) | (simp at *; omega)) _))))) hl2).mono ?_); rintro e w1 ⟨rfl, rfl⟩; rw [Q3.out]))
              go_roundw
              case rel => exact ⟨kk + 1, by go_num, by omega, (by (repeat (first | with_reducible exact Below.refl _ _ | with_reducible exact hB | (with_reducible refine belCall ?_ hB (by first | omega | (simp; done) | (simp; omega) | (simp at *; omega))) | (with_reducible refine Below.alloc ?_ (by first | omega | (simp; done) | (simp; omega) | (simp at *; omega)) _) | (with_reducible refine Below.drew ?_) | (with_reducible refine Below.setCell ?_ (by first | omega | (simp; done) | (simp; omega) | (simp at *; omega)) _)))), Q.out⟩
              case measure => simp [intOf]; omega
            | true =>
              have Q : Hid (closedL a.es set evs = false) := by
                show _ = _
                rw [hfold.out, Hdrop.out, q1, q2, q3]; simp
              have Q3 := Lib.hid q3
              rw [q1] at g1
              rw [q2] at g2
              clear q1 q2 q3 Hdrop hfold
              go_wp2_with (go_at_call 57; ((with_reducible refine (contains_any vv evs e0 _ (Hr2.out.mono (by (repeat (first | with_reducible exact Below.refl _ _ | with_reducible exact hW2r | (with_reducible refine belCall ?_ hW2r (by first | omega | (simp; done) | (simp; omega) | (simp at *; omega))) | (with_reducible refine Below.alloc ?_ (by first | omega | (simp; done) | (simp; omega) | (simp at *; omega)) _) | (with_reducible refine Below.drew ?_) | (with_reducible refine Below.setCell ?_ (by first | omega | (simp; done) | (simp; omega) | (simp at *; omega)) _))))) hl2).mono ?_); rintro e w1 ⟨rfl, rfl⟩; rw [Q3.out]))
              go_ret2
              refine ⟨_, rfl, ?_, (by (repeat (first | with_reducible exact Below.refl _ _ | with_reducible exact hW2r | (with_reducible refine belCall ?_ hW2r (by first | omega | (simp; done) | (simp; omega) | (simp at *; omega))) | (with_reducible refine Below.alloc ?_ (by first | omega | (simp; done) | (simp; omega) | (simp at *; omega)) _) | (with_reducible refine Below.drew ?_) | (with_reducible refine Below.setCell ?_ (by first | omega | (simp; done) | (simp; omega) | (simp at *; omega)) _))))⟩
              rw [CPost, if_pos H1.out, Q.out]
              rfl
      · have Q : Hid (closedL a.es set evs = true) := by
          show _ = _
          rw [hfold.out, List.drop_of_length_le (by omega)]; rfl
        have hW2 := hW1.trans (hb2.mono hW1.size)
        have hW2r := hW2.trans (hB.mono hW2.size)
        clear hfold
        go_wp2
        go_ret2
        refine ⟨_, rfl, ?_, hW2r⟩
        rw [CPost, if_pos H1.out, Q.out]
        rfl
  · have H1 := Lib.hid h1
    have h1' : (err2 a.err (err2 (setErr a.n none set) (setErr 32 none evs)) != 0) = true := by simpa using h1
    clear h1
    go_wp2_with fail
    go_ret2
    refine ⟨_, rfl, ?_, hW1⟩
    rw [CPost, if_neg H1.out]
    rfl

end Go.Proofs.Ythchkddhibhenaa

namespace Go.Proofs.Ythchkddhibhenaa
open Go.RowKit Go.Shelf

/-- An edge of the state is looked at. -/
def rStep (n : Nat) (es : List Ed) (perm : Ed → Bool) (s : Int) (acc : Option (List Int)) (x : Ed) : Option (List Int) :=
  if perm x = true then match pathF n es (fun t => t == s) perm x.t.toNat with
    | none => acc
    | some r => match acc with
      | none => some (x.e :: r)
      | some b => if r.length + 1 < b.length then some (x.e :: r) else some b
  else acc
/-- What round returns. -/
def roundF (n : Nat) (es : List Ed) (perm : Ed → Bool) (s : Int) : Option (List Int) := (subOf es s).foldl (rStep n es perm s) none

section
variable {n : Nat} {es : List Ed} {perm : Ed → Bool} {s : Int} {acc : Option (List Int)} {x : Ed}
theorem rStep_not (h : perm x = false) : rStep n es perm s acc x = acc := by rw [rStep, if_neg (by rw [h]; simp)]
theorem rStep_none (hp : perm x = true) (h : pathF n es (fun t => t == s) perm x.t.toNat = none) : rStep n es perm s acc x = acc := by rw [rStep, if_pos hp, h]
theorem rStep_first {r : List Int} (hp : perm x = true) (h : pathF n es (fun t => t == s) perm x.t.toNat = some r) : rStep n es perm s none x = some (x.e :: r) := by rw [rStep, if_pos hp, h]
theorem rStep_less {r b : List Int} (hp : perm x = true) (h : pathF n es (fun t => t == s) perm x.t.toNat = some r) (hl : r.length + 1 < b.length) : rStep n es perm s (some b) x = some (x.e :: r) := by rw [rStep, if_pos hp, h]; exact if_pos hl
theorem rStep_more {r b : List Int} (hp : perm x = true) (h : pathF n es (fun t => t == s) perm x.t.toNat = some r) (hl : ¬ r.length + 1 < b.length) : rStep n es perm s (some b) x = some b := by rw [rStep, if_pos hp, h]; exact if_neg hl
end

structure GInv (w : World) (G : Array Value) (FP : Value) (s : Int) (wr : World) (tag : Nat → Nat) (vb : Value) (best : Option (List Int)) : Prop where
  below : Below w.heap.size w wr
  g : Own wr w.heap.size tag 0 w.heap.size G 80
  sb : Own wr w.heap.size tag 0 (w.heap.size + 1) #[.int .i64 s] 3
  fp : Own wr w.heap.size tag 0 (w.heap.size + 1 + 1) #[FP] 90
  bb : Own wr w.heap.size tag 3 (w.heap.size + 1 + 1 + 1) #[vb] 28
  fb : Own wr w.heap.size tag 4 (w.heap.size + 1 + 1 + 1 + 1) #[.bool best.isSome] 4
  ro : Row wr w.heap.size tag 2 3 1 vb (best.getD []).length (ints (best.getD []))
  nl : best = none → vb = .slice none 0 0

section
variable {w : World} {G : Array Value} {FP : Value} {s : Int} {wr wr' : World} {tag tag' : Nat → Nat} {vb vb' : Value} {best : Option (List Int)}
theorem GInv.call (h : GInv w G FP s wr tag vb best) (hb : Below wr.heap.size wr wr') : GInv w G FP s wr' tag vb best :=
  ⟨belCall h.below hb h.below.size, h.g.below hb, h.sb.below hb, h.fp.below hb, h.bb.below hb, h.fb.below hb, h.ro.below hb, h.nl⟩
theorem GInv.others {b : Nat} {row : Option Nat} (h : GInv w G FP s wr tag vb best) (hg : wr.grownBy wr' row) (hws : w.heap.size ≤ b) (hr : ∀ r, row = some r → b ≤ r ∧ ∃ o : Obj, wr.heap[r]? = some o ∧ o.isCells = false) : GInv w G FP s wr' tag vb best :=
  ⟨belOthers h.below hg h.below.size hws (fun r e => (hr r e).1), h.g.others hg (fun r e => (hr r e).2), h.sb.others hg (fun r e => (hr r e).2), h.fp.others hg (fun r e => (hr r e).2), h.bb.others hg (fun r e => (hr r e).2), h.fb.others hg (fun r e => (hr r e).2), h.ro.others hg (fun r e => (hr r e).2), h.nl⟩
theorem GInv.retag {bx : Nat} {cx : Array Value} (h : GInv w G FP s wr tag vb best) (hx : wr.heap[bx]? = some (.cells cx 45 (0, 0))) : GInv w G FP s wr (tagUp tag bx 5) vb best :=
  ⟨h.below, h.g.retag hx (by decide), h.sb.retag hx (by decide), h.fp.retag hx (by decide), h.bb.retag hx (by decide), h.fb.retag hx (by decide), h.ro.retag hx (by decide), h.nl⟩
theorem Own.up {B k b : Nat} {cs : Array Value} {t : TypeId} (h : Own wr B tag k b cs t) (o : Obj) (k' : Nat) : Own (wr.alloc o) B (tagUp tag wr.heap.size k') k b cs t :=
  ⟨((bel_alloc wr o).block b h.lt).trans h.heap, (tagUp_lt h.lt).trans h.htag, h.base⟩
theorem GInv.up (h : GInv w G FP s wr tag vb best) (o : Obj) (k : Nat) : GInv w G FP s (wr.alloc o) (tagUp tag wr.heap.size k) vb best :=
  ⟨h.below.alloc h.below.size o, h.g.up o k, h.sb.up o k, h.fp.up o k, h.bb.up o k, h.fb.up o k, h.ro.up o k, h.nl⟩
theorem back_length (steps : List St) : ∀ (f : Nat) (k : Int), (back steps f k).length ≤ f
  | 0, _ => Nat.le_refl _
  | f + 1, k => by
    rw [back]
    split
    · simp
    · split
      · rename_i x _ _
        have := back_length steps f x.p
        simp only [List.length_cons]; omega
      · simp
theorem bfs_at {sub : Int → List Ed} {want : Int → Bool} {perm : Ed → Bool} : ∀ (f i : Nat) {seen : List Bool} {steps : List St} {r : List St × Nat}, bfs sub want perm f i seen steps = some r → r.2 < i + f
  | 0, _, _, _, _, h => by cases h
  | f + 1, i, seen, steps, r, h => by
    rw [bfs] at h
    split at h
    · cases h
    · split at h
      · cases h; show i < i + (f + 1); omega
      · have := bfs_at f (i + 1) h; omega
theorem pathF_len {n : Nat} {es : List Ed} {want : Int → Bool} {perm : Ed → Bool} {i : Nat} {r : List Int} (h : pathF n es want perm i = some r) : r.length ≤ n + 1 := by
  rw [pathF, Option.map_eq_some_iff] at h
  obtain ⟨p, hp, rfl⟩ := h
  have h1 := bfs_at _ _ hp
  have h2 := back_length p.1 (p.2 + 1) p.2
  rw [List.length_reverse]
  omega
/-- A better word. -/
theorem GInv.put (h : GInv w G FP s wr tag vb best) (ht : Turn w.heap.size tag tag' 2 wr wr') {r : List Int} (hr : Row wr' w.heap.size tag' 2 3 1 vb' r.length (ints r)) :
    GInv w G FP s ((wr'.setCell ⟨w.heap.size + 1 + 1 + 1, 0, none⟩ vb').setCell ⟨w.heap.size + 1 + 1 + 1 + 1, 0, none⟩ (.bool true)) tag' vb' (some r) ∧ Below w.heap.size wr ((wr'.setCell ⟨w.heap.size + 1 + 1 + 1, 0, none⟩ vb').setCell ⟨w.heap.size + 1 + 1 + 1 + 1, 0, none⟩ (.bool true)) ∧ ∀ m, KeepsFrom m wr ((wr'.setCell ⟨w.heap.size + 1 + 1 + 1, 0, none⟩ vb').setCell ⟨w.heap.size + 1 + 1 + 1 + 1, 0, none⟩ (.bool true)) := by
  have hB : w.heap.size ≤ wr'.heap.size := Nat.le_trans h.below.size ht.size
  have hb := h.bb.turn ht (by decide)
  have hf := h.fb.turn ht (by decide)
  have t1 := Turn.setCell hb 0 vb'
  have hb1 := hb.set 0 vb'
  have hf1 := hf.turn t1 (by decide)
  have t2 := Turn.setCell hf1 0 (.bool true)
  have hf2 := hf1.set 0 (.bool true)
  have hB1 : w.heap.size ≤ (wr'.setCell ⟨w.heap.size + 1 + 1 + 1, 0, none⟩ vb').heap.size := Nat.le_trans hB t1.size
  refine ⟨⟨belTurn (belTurn (belTurn h.below ht h.below.size) t1 hB) t2 hB1, ((h.g.turn ht (by decide)).turn t1 (by decide)).turn t2 (by decide), ((h.sb.turn ht (by decide)).turn t1 (by decide)).turn t2 (by decide), ((h.fp.turn ht (by decide)).turn t1 (by decide)).turn t2 (by decide), hb1.turn t2 (by decide), hf2, (hr.turn t1 (by decide)).turn t2 (by decide), fun e => by cases e⟩, ?_, ?_⟩
  · exact belTurn (belTurn (belTurn (Below.refl _ _) ht h.below.size) t1 hB) t2 hB1
  · exact fun m => (keepsTurn ht).trans ((keepsTurn t1).trans (keepsTurn t2))
end
end Go.Proofs.Ythchkddhibhenaa

namespace Go.Proofs.Ythchkddhibhenaa
open Go.RowKit

theorem edErr_ev {al : List Int} {n : Int} : ∀ {p : Option Ed} {xs : List Ed}, edErr al n p xs = 0 → ∀ x ∈ xs, hasB al x.e = true
  | _, [], _, x, hx => by cases hx
  | p, y :: ys, h, x, hx => by
    rw [edErr] at h
    split at h
    · cases h
    · split at h
      · cases h
      · rename_i h1 h2
        split at h
        · cases h
        · rcases List.mem_cons.1 hx with rfl | h3
          · simpa using h2
          · exact edErr_ev h x h3
theorem Aut.ev_of {a : Aut} (h : a.err = 0) : ∀ x ∈ a.es, 0 ≤ x.e ∧ x.e < 32 := by
  unfold Aut.err at h
  split at h
  · rename_i h1; rw [h] at h1; cases h1
  · split at h
    · cases h
    · split at h
      · cases h
      · split at h
        · rename_i h1; rw [h] at h1; cases h1
        · rename_i h1 h2 h3 h4
          intro x hx
          have h5 : setErr 32 none a.al = 0 := by simpa using h1
          exact setErr_zero h5 _ (hasB_true.1 (edErr_ev h x hx))

/-- The flags of the events. -/
def byF (evs : List Int) : List Bool := evs.foldl (fun F x => F.set x.toNat true) (List.replicate 32 false)
theorem byF_aux : ∀ (evs : List Int) (F : List Bool), F.length = 32 → (∀ x ∈ evs, 0 ≤ x ∧ x < 32) → (evs.foldl (fun F x => F.set x.toNat true) F).length = 32 ∧ ∀ j : Nat, j < 32 → (evs.foldl (fun F x => F.set x.toNat true) F).getD j false = (F.getD j false || hasB evs j)
  | [], F, hl, _ => ⟨hl, fun j _ => by simp [hasB]⟩
  | x :: evs, F, hl, hin => by
    have hx := hin x (List.mem_cons_self ..)
    obtain ⟨h1, h2⟩ := byF_aux evs (F.set x.toNat true) (by simp [hl]) (fun y hy => hin y (List.mem_cons_of_mem _ hy))
    refine ⟨h1, fun j hj => ?_⟩
    rw [List.foldl_cons, h2 j hj]
    obtain ⟨t, rfl⟩ := Int.eq_ofNat_of_zero_le hx.1
    have hc : hasB ((t : Int) :: evs) j = ((t : Int) == j || hasB evs j) := by
      cases hb : hasB evs j with
      | true => rw [Bool.or_true]; exact hasB_true.2 (List.mem_cons_of_mem _ (hasB_true.1 hb))
      | false =>
        rw [Bool.or_false]
        by_cases e : t = j
        · subst e; simp; exact hasB_true.2 (List.mem_cons_self ..)
        · have : ((t : Int) == (j : Int)) = false := by simp; omega
          rw [this]
          cases hh : hasB ((t : Int) :: evs) j with
          | false => rfl
          | true =>
            rcases List.mem_cons.1 (hasB_true.1 hh) with h | h
            · omega
            · rw [hasB_true.2 h] at hb; cases hb
    rw [hc, ← Bool.or_assoc]
    congr 1
    rw [List.getD_eq_getElem?_getD, List.getElem?_set, List.getD_eq_getElem?_getD]
    by_cases e : t = j
    · subst e
      simp [hl, hj]
    · rw [if_neg (by simpa using e), show ((t : Int) == (j : Int)) = false by simp; omega, Bool.or_false]
theorem byF_length {evs : List Int} (h : ∀ x ∈ evs, 0 ≤ x ∧ x < 32) : (byF evs).length = 32 := (byF_aux evs _ (by simp) h).1
theorem byF_has {evs : List Int} (h : ∀ x ∈ evs, 0 ≤ x ∧ x < 32) (e : Int) (h0 : 0 ≤ e) (h1 : e < 32) : (byF evs).getD e.toNat false = hasB evs e := by
  obtain ⟨j, rfl⟩ := Int.eq_ofNat_of_zero_le h0
  have := (byF_aux evs (List.replicate 32 false) (by simp) h).2 j (by omega)
  rw [byF, Int.toNat_natCast, this, List.getD_eq_getElem?_getD, List.getElem?_replicate]
  split <;> simp

/-- The first cycle, from state k on. -/
def cycI (n : Nat) (es : List Ed) (perm : Ed → Bool) : List Bool → Nat → Option (List Int × List Int)
  | [], _ => none
  | b :: l, k => if b = true then match roundF n es perm k with
      | some c => some ((pathF n es (fun t => t == (k : Int)) (fun _ => true) 0).getD [], c)
      | none => cycI n es perm l (k + 1)
    else cycI n es perm l (k + 1)
section
variable {n : Nat} {es : List Ed} {perm : Ed → Bool} {l : List Bool} {k : Nat}
theorem cycI_skip : cycI n es perm (false :: l) k = cycI n es perm l (k + 1) := by rw [cycI, if_neg (by simp)]
theorem cycI_none (h : roundF n es perm k = none) : cycI n es perm (true :: l) k = cycI n es perm l (k + 1) := by rw [cycI, if_pos rfl, h]
theorem cycI_some {c : List Int} (h : roundF n es perm k = some c) : cycI n es perm (true :: l) k = some ((pathF n es (fun t => t == (k : Int)) (fun _ => true) 0).getD [], c) := by rw [cycI, if_pos rfl, h]
end
/-- What Cycle returns. -/
def CycPost (e : Int) (r : Option (List Int × List Int)) (u : Value) (w' : World) : Prop :=
  if e = 0 then match r with
    | some p => ∃ v1 v2, u = .tuple #[v1, v2, .bool true, .int .i64 0] ∧ RdI w' v1 p.1 ∧ RdI w' v2 p.2
    | none => u = .tuple #[.slice none 0 0, .slice none 0 0, .bool false, .int .i64 0]
  else u = .tuple #[.slice none 0 0, .slice none 0 0, .bool false, .int .i64 e]

theorem CycPost.err {e : Int} {r : Option (List Int × List Int)} {w' : World} (h : e ≠ 0) : CycPost e r (.tuple #[.slice none 0 0, .slice none 0 0, .bool false, .int .i64 e]) w' := by unfold CycPost; rw [if_neg h]
theorem CycPost.none' {e : Int} {r : Option (List Int × List Int)} {w' : World} (h : e = 0) (hr : r = none) : CycPost e r (.tuple #[.slice none 0 0, .slice none 0 0, .bool false, .int .i64 0]) w' := by unfold CycPost; rw [if_pos h, hr]
theorem CycPost.some' {e : Int} {r : Option (List Int × List Int)} {w' : World} {p c : List Int} {v1 v2 : Value} (h : e = 0) (hr : r = some (p, c)) (h1 : RdI w' v1 p) (h2 : RdI w' v2 c) : CycPost e r (.tuple #[v1, v2, .bool true, .int .i64 0]) w' := by unfold CycPost; rw [if_pos h, hr]; exact ⟨v1, v2, rfl, h1, h2⟩

theorem cyc1_any (bb : Nat) (F : List Bool) (x : Ed) (w : World) (hb : ∀ j : Nat, j < 32 → w.cell? ⟨bb, j, none⟩ = some (.bool (F.getD j false))) (h0 : 0 ≤ x.e) (h1 : x.e < 32) :
    Calls Try.prog 62 #[x.val, .pointer (some ⟨bb, 0, none⟩)] w fun e w' => e = .returned (.bool (F.getD x.e.toNat false)) ∧ Below w.heap.size w w' := by
  obtain ⟨xf, xe, xt⟩ := x
  dsimp only at *
  obtain ⟨j, rfl⟩ := Int.eq_ofNat_of_zero_le h0
  have hj : j < 32 := by omega
  have hc := hb j hj
  rw [Int.toNat_natCast]
  generalize F.getD j false = b at *
  have hbl := World.block_lt_of_cell? w _ hc
  dsimp only at hbl
  clear hb
  dsimp only [Ed.val]
  go_enter Try.func62, Try.ntmps62
  go_wp2
  go_ret
  exact ⟨rfl, bel_alloc _ _⟩
theorem cyc2_any (bs : Nat) (s t : Int) (w : World) (hb : w.cell? ⟨bs, 0, none⟩ = some (.int .i64 s)) :
    Calls Try.prog 64 #[.int .i64 t, .pointer (some ⟨bs, 0, none⟩)] w fun e w' => e = .returned (.bool (t == s)) ∧ Below w.heap.size w w' := by
  have hbl := World.block_lt_of_cell? w _ hb
  dsimp only at hbl
  go_enter Try.func64, Try.ntmps64
  go_wp2
  go_ret
  exact ⟨rfl, Below.refl _ _⟩
end Go.Proofs.Ythchkddhibhenaa

namespace Go.Proofs.Ythchkddhibhenaa
open Go.RowKit Go.Shelf
attribute [local go_sem] Oper.semAt_some

theorem round1_any (bs : Nat) (s t : Int) (w : World) (hb : w.cell? ⟨bs, 0, none⟩ = some (.int .i64 s)) :
    Calls Try.prog 82 #[.int .i64 t, .pointer (some ⟨bs, 0, none⟩)] w fun e w' => e = .returned (.bool (t == s)) ∧ Below w.heap.size w w' := by
  have hbl := World.block_lt_of_cell? w _ hb
  dsimp only at hbl
  go_enter Try.func82, Try.ntmps82
  go_wp2
  go_ret
  exact ⟨rfl, Below.refl _ _⟩

theorem rowcons {w : World} {B : Nat} {tag : Nat → Nat} {k : Nat} {t : TypeId} {v : Value} {e : Int} {r : List Int} (h : Row w B tag k t 1 v ([Value.int .i64 e].length + r.length) ([Value.int .i64 e] ++ ints r)) : Row w B tag k t 1 v (e :: r).length (ints (e :: r)) := by
  have h2 : [Value.int .i64 e].length + r.length = (e :: r).length := by simp; omega
  rw [h2] at h
  exact h

set_option maxRecDepth 100000 in
set_option maxHeartbeats 4000000 in
theorem round_any (aa am ae af : Option Addr) (la lm ca cm ce cf : Nat) (n : Nat) (es : List Ed) (fp : FuncId) (capp : Array Value) (perm : Ed → Bool) (s : Int) (w : World)
    (hre : RdS w 3 ae es.length ce (edCells es)) (hrf : RdS w 1 af (n + 1) cf (ints (firsts n es))) (hl : es.length ≤ 1000000) (hn : n ≤ 1000000) (hs0 : 0 ≤ s) (hs1 : s < (n : Int)) (hin : ∀ x ∈ es, 0 ≤ x.t ∧ x.t < (n : Int))
    (hep : Enters Try.prog fp)
    (hp : ∀ (x : Ed) (W : World), x ∈ es → Below w.heap.size w W → Calls Try.prog fp (#[x.val] ++ capp) W fun e w' => e = .returned (.bool (perm x)) ∧ Below W.heap.size W w') :
    Calls Try.prog 63 #[.agg #[.slice aa la ca, .int .i64 n, .slice am lm cm, .slice ae es.length ce, .slice af (n + 1) cf], .int .i64 s, .func (.func fp) #[] capp] w
      (Ret w fun u w' => PathPost (roundF n es perm s) u w') := by
  have hrf0 := hrf
  obtain ⟨bf, offf, rfl, hcf⟩ := hrf.at_elem 0 (by omega)
  have Hcf := Lib.hid hcf
  have Hp := Lib.hid hp
  have Hin := Lib.hid hin
  have Hep := Lib.hid hep
  have Hre := Lib.hid hre
  have Hrf := Lib.hid hrf0
  clear hcf hp hin hep hrf hrf0
  generalize hR0 : roundF n es perm s = R
  have HR := Lib.hid hR0.symm
  clear hR0
  refine calls_of_marks Try.func63 rfl ?_
  simp only [Try.ntmps63, List.size_toArray, List.length_cons, List.length_nil, Nat.reduceAdd, Nat.reduceSub, Array.replicate_succ, Array.replicate_zero, List.push_toArray, List.append_toArray, List.nil_append, List.cons_append]
  go_wp2_with fail
  generalize hw0 : ((((w.alloc (.cells #[.slice aa la ca, .int .i64 n, .slice am lm cm, .slice ae es.length ce, .slice (some ⟨bf, offf, none⟩) (n + 1) cf] 80)).alloc (.cells #[.int .i64 s] 3)).alloc (.cells #[(.func (.func fp) #[] capp)] 90)).alloc (.cells #[.slice none 0 0] 28)).alloc (.cells #[.bool false] 4) = w0 at *
  have hI0 : GInv w #[.slice aa la ca, .int .i64 n, .slice am lm cm, .slice ae es.length ce, .slice (some ⟨bf, offf, none⟩) (n + 1) cf] (.func (.func fp) #[] capp) s w0 (fun b => if b ≤ w.heap.size + 1 + 1 then 0 else if b = w.heap.size + 1 + 1 + 1 then 3 else 4) (.slice none 0 0) none := by
    rw [← hw0]
    refine ⟨by (repeat (first | with_reducible exact Below.refl _ _ | with_reducible exact Hre | (with_reducible refine belCall ?_ Hre (by first | omega | (simp; done) | (simp; omega) | (simp at *; omega))) | (with_reducible refine Below.alloc ?_ (by first | omega | (simp; done) | (simp; omega) | (simp at *; omega)) _) | (with_reducible refine Below.drew ?_) | (with_reducible refine Below.setCell ?_ (by first | omega | (simp; done) | (simp; omega) | (simp at *; omega)) _))), ⟨(by repeat (first | with_reducible assumption | (with_reducible refine heap_at ?_; (first | (simp; done) | (simp; omega))) | (with_reducible refine heap_past ?_ ?_; (next => first | omega | (simp; done) | (simp; omega))))), if_pos (by omega), by omega⟩, ⟨(by repeat (first | with_reducible assumption | (with_reducible refine heap_at ?_; (first | (simp; done) | (simp; omega))) | (with_reducible refine heap_past ?_ ?_; (next => first | omega | (simp; done) | (simp; omega))))), if_pos (by omega), by omega⟩, ⟨(by repeat (first | with_reducible assumption | (with_reducible refine heap_at ?_; (first | (simp; done) | (simp; omega))) | (with_reducible refine heap_past ?_ ?_; (next => first | omega | (simp; done) | (simp; omega))))), if_pos (by omega), by omega⟩, ⟨(by repeat (first | with_reducible assumption | (with_reducible refine heap_at ?_; (first | (simp; done) | (simp; omega))) | (with_reducible refine heap_past ?_ ?_; (next => first | omega | (simp; done) | (simp; omega))))), by rw [if_neg (by omega), if_pos rfl], by omega⟩, ⟨show _ = some (Obj.cells #[Value.bool false] 4 (0, 0)) from (by repeat (first | with_reducible assumption | (with_reducible refine heap_at ?_; (first | (simp; done) | (simp; omega))) | (with_reducible refine heap_past ?_ ?_; (next => first | omega | (simp; done) | (simp; omega))))), by rw [if_neg (by omega), if_neg (by omega)], by omega⟩, Row.nil _ _ _ _ _ _, fun _ => rfl⟩
  clear hw0
  refine (edges_any _ _ _ _ _ _ _ _ _ _ _ _ _ _ _).mono ?_
  rintro e w3 ⟨rfl, rfl⟩
  go_wp2_with fail
  have hI4 := (hI0.call (bel_alloc w0 (.cells #[.slice aa la ca, .int .i64 n, .slice am lm cm, .slice ae es.length ce, .slice (some ⟨bf, offf, none⟩) (n + 1) cf] 80))).call (bel_alloc _ (.cells #[.int .i64 s] 3))
  have hg3 : ((w0.alloc (.cells #[.slice aa la ca, .int .i64 n, .slice am lm cm, .slice ae es.length ce, .slice (some ⟨bf, offf, none⟩) (n + 1) cf] 80)).alloc (.cells #[.int .i64 s] 3)).cell? ⟨w0.heap.size, 3, none⟩ = some (.slice ae es.length ce) := by simp [go_sem]
  have hg4 : ((w0.alloc (.cells #[.slice aa la ca, .int .i64 n, .slice am lm cm, .slice ae es.length ce, .slice (some ⟨bf, offf, none⟩) (n + 1) cf] 80)).alloc (.cells #[.int .i64 s] 3)).cell? ⟨w0.heap.size, 4, none⟩ = some (.slice (some ⟨bf, offf, none⟩) (n + 1) cf) := by simp [go_sem]
  have hg5 : ((w0.alloc (.cells #[.slice aa la ca, .int .i64 n, .slice am lm cm, .slice ae es.length ce, .slice (some ⟨bf, offf, none⟩) (n + 1) cf] 80)).alloc (.cells #[.int .i64 s] 3)).cell? ⟨w0.heap.size + 1, 0, none⟩ = some (.int .i64 s) := by simp [go_sem]
  clear hI0
  generalize (w0.alloc (.cells #[.slice aa la ca, .int .i64 n, .slice am lm cm, .slice ae es.length ce, .slice (some ⟨bf, offf, none⟩) (n + 1) cf] 80)).alloc (.cells #[.int .i64 s] 3) = w3 at *
  have hfc : ∀ j : Nat, j ≤ n → w3.cell? ⟨bf, offf + j, none⟩ = some (.int .i64 (fstN es j)) := by
    intro j hj
    have h1 := Hcf.out j (by simp [firsts]; omega)
    have h2 := firsts_get n es j hj
    rw [List.getElem?_eq_getElem (by simp [firsts]; omega)] at h2
    rw [Option.some.inj h2] at h1
    exact keep0 hI4.below h1
  have hseq := edges_stops w0.heap.size (w0.heap.size + 1) w.heap.size ae (some ⟨bf, offf, none⟩) ce (n + 1) cf s es (fstN es s) (fstN es (s + 1)) (fstN_mono es _ _ (by omega)) (fstN_le es _) hl w3 hI4.below.size hg3 hg4 hg5 hs0 (by omega) bf offf rfl (by omega)
    (by have := hfc s.toNat (by omega); rwa [Int.toNat_of_nonneg hs0] at this) (by have := hfc (s + 1).toNat (by omega); rwa [Int.toNat_of_nonneg (by omega)] at this) (hre.mono hI4.below) (fun h0 ad e => World.block_lt_of_cell? w ⟨ad.block, ad.off + 0, none⟩ (hre.cell ad e 0 (by rw [hre.hlen]; omega)))
  clear hg3 hg4 hg5 hfc
  refine wp_edges (bg := w0.heap.size) (bs := w0.heap.size + 1) (n₀ := w.heap.size) rfl hseq (Below.refl _ _) hI4.below.size rfl
    (fun pre W => ∃ tag vb, GInv w #[.slice aa la ca, .int .i64 n, .slice am lm cm, .slice ae es.length ce, .slice (some ⟨bf, offf, none⟩) (n + 1) cf] (.func (.func fp) #[] capp) s W tag vb (pre.foldl (rStep n es perm s) none))
    ?hI ⟨_, _, hI4⟩
    (fun x a' W => ∃ Bx : Nat, w.heap.size ≤ Bx ∧ W.heap[Bx]? = some (.cells #[.int .i64 x.f, .int .i64 x.e, .int .i64 x.t] 45 (0, 0)) ∧ a' = { tmps := #[Value.agg #[.slice aa la ca, .int .i64 n, .slice am lm cm, .slice ae es.length ce, .slice (some ⟨bf, offf, none⟩) (n + 1) cf], Value.int .i64 s, Value.func (.func fp) #[] capp, Value.pointer (some ⟨w.heap.size, 0, none⟩), Value.pointer (some ⟨w.heap.size + 1, 0, none⟩), Value.pointer (some ⟨w.heap.size + 1 + 1, 0, none⟩), Value.slice none 0 0, Value.bool false, Value.pointer (some ⟨w.heap.size + 1 + 1 + 1, 0, none⟩), Value.pointer (some ⟨w.heap.size + 1 + 1 + 1 + 1, 0, none⟩), Value.pointer (some ⟨Bx, 0, none⟩), undef, undef, Value.agg #[.slice aa la ca, .int .i64 n, .slice am lm cm, .slice ae es.length ce, .slice (some ⟨bf, offf, none⟩) (n + 1) cf], Value.int .i64 s, Value.func (.func 84) #[] #[.pointer (some ⟨w0.heap.size, 0, none⟩), .pointer (some ⟨w0.heap.size + 1, 0, none⟩)], Value.agg #[.int .i64 x.f, .int .i64 x.e, .int .i64 x.t], undef, undef, undef, undef, undef, undef, undef, undef, undef, undef, undef, undef, undef, undef, undef, undef, undef, undef, undef, undef, undef, undef, undef, undef, undef, undef, undef, undef, undef, undef, undef, undef, undef], defers := [] })
    ?hAx ?assign ?body ?done
  case hI =>
    intro pre W W' row h1 hg hr
    obtain ⟨tag, vs, h2⟩ := h1
    exact ⟨tag, vs, h2.others hg hI4.below.size hr⟩
  case hAx =>
    intro x a' u W W' row h1 hg hr
    obtain ⟨Bx, h1, h2, h3⟩ := h1
    refine ⟨Bx, h1, (hg.block Bx (Array.getElem?_eq_some_iff.1 h2).1 (fun e => ?_)).trans h2, h3⟩
    obtain ⟨o, ho, hc⟩ := (hr Bx e.symm).2
    rw [h2] at ho
    cases ho
    cases hc
  case assign =>
    intro l pre x W K hx hiW hK
    dsimp only [Ed.val]
    gi_wp2
    refine hK _ _ ((KeepsOthers.alloc _ _).from _) ((Below.refl _ W).alloc ?_ _) ?_ ⟨W.heap.size, ?_, (by repeat (first | with_reducible assumption | (refine heap_drewp ?_) | (refine heap_at ?_; (first | rfl | (simp; done) | (simp; omega))) | (refine heap_past ?_ ?_; (next => first | omega | (simp; done) | (simp; omega))))), rfl⟩
    · obtain ⟨_, _, h2⟩ := hiW; exact h2.below.size
    · obtain ⟨tag, vs, h2⟩ := hiW; exact ⟨tag, vs, h2.call (bel_alloc _ _)⟩
    · obtain ⟨_, _, h2⟩ := hiW; exact h2.below.size
  case body =>
    rintro l pre x a' W hx hl0 ⟨tag, vb, hJ⟩ ⟨Bx, hBx, hbx, rfl⟩
    have hJ2 := hJ.retag hbx
    have hOx : Own W w.heap.size (tagUp tag Bx 5) 5 Bx #[.int .i64 x.f, .int .i64 x.e, .int .i64 x.t] 45 := ⟨hbx, tagUp_at _ _ _, hBx⟩
    have hxe := subOf_mem hx
    have hxr := Hin.out x hxe
    obtain ⟨xf, xe, xt⟩ := x
    dsimp only at *
    obtain ⟨t, rfl⟩ := Int.eq_ofNat_of_zero_le hxr.1
    have ht : t < n := by omega
    have Hacc : Hid ((pre ++ [(⟨xf, xe, (t : Int)⟩ : Ed)]).foldl (rStep n es perm s) none = rStep n es perm s (pre.foldl (rStep n es perm s) none) (⟨xf, xe, (t : Int)⟩ : Ed)) := by
      show _ = _
      rw [List.foldl_append]; rfl
    clear hx hJ
    generalize pre.foldl (rStep n es perm s) none = acc at *
    have hBW := hJ2.below.size
    have hBxl := hOx.lt
    have x0 : W.cell? ⟨Bx, 0, none⟩ = some (.int .i64 xf) := hOx.cell 0
    have x1 : W.cell? ⟨Bx, 1, none⟩ = some (.int .i64 xe) := hOx.cell 1
    have x2 : W.cell? ⟨Bx, 2, none⟩ = some (.int .i64 (t : Int)) := hOx.cell 2
    have e2 : W.cell? ⟨w.heap.size + 1 + 1, 0, none⟩ = some (.func (.func fp) #[] capp) := hJ2.fp.cell 0
    have hHep : Hid (∀ args W, (callFunc fp args).run Try.prog W = .ok (.enter fp args) W) := Hep.out
    cases hpx : perm ⟨xf, xe, t⟩
    · have Hpx := Lib.hid hpx
      clear hpx
      gi_wp2_with fail
      refine ⟨trivial, ?_⟩
      rw [hHep.out, Oper.uponIn_enter]
      refine ⟨fun _ => by decide, ?_⟩
      refine (CallsIn.inRound l (callsIn_wide.2 (Hp.out ⟨xf, xe, t⟩ W hxe hJ2.below))).mono ?_
      rintro e w4 ⟨he, hb4⟩
      rw [Hpx.out] at he
      subst he
      dsimp only
      gi_wp2
      refine ⟨(keepsBelow hb4), belCall (Below.refl _ _) hb4 hJ2.below.size, tagUp tag Bx 5, vb, ?_⟩
      rw [Hacc.out, rStep_not Hpx.out]
      exact hJ2.call hb4
    · have Hpx := Lib.hid hpx
      clear hpx
      gi_wp2_with fail
      refine ⟨trivial, ?_⟩
      rw [hHep.out, Oper.uponIn_enter]
      refine ⟨fun _ => by decide, ?_⟩
      refine (CallsIn.inRound l (callsIn_wide.2 (Hp.out ⟨xf, xe, t⟩ W hxe hJ2.below))).mono ?_
      rintro e w4 ⟨he, hb4⟩
      rw [Hpx.out] at he
      subst he
      dsimp only
      have hJ4 := hJ2.call hb4
      have hO4 := hOx.below hb4
      clear x0 x1 x2 e2 hJ2 hOx
      have g0 : w4.cell? ⟨w.heap.size, 0, none⟩ = some (Value.slice aa la ca) := hJ4.g.cell 0
      have g1 : w4.cell? ⟨w.heap.size, 1, none⟩ = some (Value.int .i64 n) := hJ4.g.cell 1
      have g2 : w4.cell? ⟨w.heap.size, 2, none⟩ = some (Value.slice am lm cm) := hJ4.g.cell 2
      have g3 : w4.cell? ⟨w.heap.size, 3, none⟩ = some (Value.slice ae es.length ce) := hJ4.g.cell 3
      have g4 : w4.cell? ⟨w.heap.size, 4, none⟩ = some (Value.slice (some ⟨bf, offf, none⟩) (n + 1) cf) := hJ4.g.cell 4
      have x2 : w4.cell? ⟨Bx, 2, none⟩ = some (.int .i64 (t : Int)) := hO4.cell 2
      have e2 : w4.cell? ⟨w.heap.size + 1 + 1, 0, none⟩ = some (.func (.func fp) #[] capp) := hJ4.fp.cell 0
      gi_wp2_with fail
      refine ⟨trivial, ?_⟩
      have hsc : w4.cell? ⟨w.heap.size + 1, 0, none⟩ = some (.int .i64 s) := hJ4.sb.cell 0
      refine (CallsIn.inRound l (callsIn_wide.2 (path_any aa am ae (some ⟨bf, offf, none⟩) la lm ca cm ce cf n t es 82 fp #[.pointer (some ⟨w.heap.size + 1, 0, none⟩)] capp (fun t => t == s) perm w4 (Hre.out.mono hJ4.below) (Hrf.out.mono hJ4.below) hl hn ht Hin.out (enters_of Try.func82 (by kernel_rfl) rfl) Hep.out (fun t' W' _ _ hb' => round1_any _ s t' W' (keep0 hb' hsc)) (fun y W' hy hb' => Hp.out y W' hy (hJ4.below.trans (hb'.mono hJ4.below.size)))))).mono ?_
      rintro e w5 ⟨u5, rfl, hp5, hb5⟩
      have hJ5 := hJ4.call hb5
      have hO5 := hO4.below hb5
      clear g0 g1 g2 g3 g4 x2 e2 hsc hJ4 hO4
      have hB5 : Below w.heap.size W w5 := belCall (belCall (Below.refl _ _) hb4 hBW) hb5 (Nat.le_trans hBW hb4.size)
      have hK5 : KeepsFrom w3.heap.size W w5 := (keepsBelow hb4).trans (keepsBelow hb5)
      clear hb4 hb5
      cases hpf : pathF n es (fun t => t == s) perm t with
      | none =>
        rw [hpf] at hp5
        obtain rfl : u5 = _ := hp5
        have Hpf := Lib.hid hpf
        clear hpf
        gi_wp2_with fail
        all_goals first
          | (rename_i h1 h2; exact absurd h1 (by simp [undef]))
          | (refine ⟨hK5, hB5, tagUp tag Bx 5, vb, ?_⟩
             rw [Hacc.out, rStep_none Hpx.out Hpf.out]
             exact hJ5)
      | some r =>
        rw [hpf] at hp5
        obtain ⟨v5, rfl, hr5⟩ := hp5
        have hrl := pathF_len hpf
        have Hpf := Lib.hid hpf
        have Hr5 := Lib.hid hr5
        obtain ⟨a5, c5, rfl, hr5'⟩ := hr5
        clear hpf hr5'
        have k9 : w5.cell? ⟨w.heap.size + 1 + 1 + 1 + 1, 0, none⟩ = some (.bool acc.isSome) := hJ5.fb.cell 0
        have k8 : w5.cell? ⟨w.heap.size + 1 + 1 + 1, 0, none⟩ = some vb := hJ5.bb.cell 0
        obtain ⟨av, cv, rfl⟩ := hJ5.ro.val
        have k1 : w5.cell? ⟨Bx, 1, none⟩ = some (.int .i64 xe) := hO5.cell 1
        obtain ⟨i1, hi1, hw0, hw1, hw2⟩ := info_parts Try.info_int
        have hJ6 := hJ5.up (.cells #[.int .i64 xe] 3) 2
        have hsrc : (a5 = none → r.length = 0 ∧ c5 = 0) ∧ ∀ ad, a5 = some ad → ∀ j u, (ints r)[j]? = some u → (w5.alloc (.cells #[.int .i64 xe] 3)).cell? (ad.add j) = some u := by
          obtain ⟨a9, c9, e9, hrd⟩ := Hr5.out.mono (bel_alloc w5 (.cells #[.int .i64 xe] 3))
          cases e9
          exact hrd.src
        have Hsrc := Lib.hid hsrc
        clear hsrc
        cases acc with
        | none =>
          replace k9 : w5.cell? ⟨w.heap.size + 1 + 1 + 1 + 1, 0, none⟩ = some (.bool false) := k9
          gi_wp2_with (gi_at_builtin; (refine wpListIn_append_row rfl _ _ 28 rfl 3 i1 (.int .i64 0) 8 Try.underlying28 hi1 hw0 hw1 hw2 rfl rfl (Row.fresh w5 w.heap.size (tagUp tag Bx 5) 2 3 [.int .i64 xe] hJ5.below.size (by show 1 ≤ maxLen; decide)) a5 r.length c5 (ints r) rfl (by simp) Hsrc.out.1 Hsrc.out.2 (ints_oneCell .i64 _) (by show 1 + r.length ≤ maxLen; unfold maxLen; omega) (by show (1 + r.length) * 8 ≤ _; omega) hJ6.below.size ?_); intro v6 w6 tag6 hr6 ht6; have HP6 := Lib.hid (hJ6.put ht6 (rowcons hr6)); have s6 := hJ6.bb.turn ht6 (by decide); have s7 := hJ6.fb.turn ht6 (by decide); obtain ⟨a6, c6, rfl⟩ := hr6.val; have z0 := s6.cell 0; have z1 := s6.frozen 0; have z2 := s7.cell 0; have z3 := s7.frozen 0; have t1 := Turn.setCell s6 0 (.slice a6 (1 + r.length) c6); have s8 := s7.turn t1 (by decide); have z4 := s8.cell 0; have z5 := s8.frozen 0; simp at z0 z2 z4; clear s6 s7 s8 t1 hr6 ht6)
          have hfin := HP6.out.1
          have hq9 : (pre ++ [(⟨xf, xe, (t : Int)⟩ : Ed)]).foldl (rStep n es perm s) none = some (xe :: r) := by
            rw [Hacc.out]; exact rStep_first Hpx.out Hpf.out
          rw [← hq9] at hfin
          exact ⟨hK5.trans ((keepsBelow (bel_alloc w5 _)).trans (HP6.out.2.2 _)), (belCall hB5 (bel_alloc w5 _) (Nat.le_trans hBW hB5.size)).trans HP6.out.2.1, tag6, _, hfin⟩
        | some b =>
          replace k9 : w5.cell? ⟨w.heap.size + 1 + 1 + 1 + 1, 0, none⟩ = some (.bool true) := k9
          replace k8 : w5.cell? ⟨w.heap.size + 1 + 1 + 1, 0, none⟩ = some (.slice av b.length cv) := k8
          by_cases hlt : r.length + 1 < b.length
          · have hltI : (r.length : Int) + 1 < (b.length : Int) := by omega
            gi_wp2_with (gi_at_builtin; (refine wpListIn_append_row rfl _ _ 28 rfl 3 i1 (.int .i64 0) 8 Try.underlying28 hi1 hw0 hw1 hw2 rfl rfl (Row.fresh w5 w.heap.size (tagUp tag Bx 5) 2 3 [.int .i64 xe] hJ5.below.size (by show 1 ≤ maxLen; decide)) a5 r.length c5 (ints r) rfl (by simp) Hsrc.out.1 Hsrc.out.2 (ints_oneCell .i64 _) (by show 1 + r.length ≤ maxLen; unfold maxLen; omega) (by show (1 + r.length) * 8 ≤ _; omega) hJ6.below.size ?_); intro v6 w6 tag6 hr6 ht6; have HP6 := Lib.hid (hJ6.put ht6 (rowcons hr6)); have s6 := hJ6.bb.turn ht6 (by decide); have s7 := hJ6.fb.turn ht6 (by decide); obtain ⟨a6, c6, rfl⟩ := hr6.val; have z0 := s6.cell 0; have z1 := s6.frozen 0; have z2 := s7.cell 0; have z3 := s7.frozen 0; have t1 := Turn.setCell s6 0 (.slice a6 (1 + r.length) c6); have s8 := s7.turn t1 (by decide); have z4 := s8.cell 0; have z5 := s8.frozen 0; simp at z0 z2 z4; clear s6 s7 s8 t1 hr6 ht6)
            have hfin := HP6.out.1
            have hq9 : (pre ++ [(⟨xf, xe, (t : Int)⟩ : Ed)]).foldl (rStep n es perm s) none = some (xe :: r) := by
              rw [Hacc.out]; exact rStep_less Hpx.out Hpf.out hlt
            rw [← hq9] at hfin
            exact ⟨hK5.trans ((keepsBelow (bel_alloc w5 _)).trans (HP6.out.2.2 _)), (belCall hB5 (bel_alloc w5 _) (Nat.le_trans hBW hB5.size)).trans HP6.out.2.1, tag6, _, hfin⟩
          · have hltI : ¬ (r.length : Int) + 1 < (b.length : Int) := by omega
            gi_wp2_with fail
            refine ⟨hK5, hB5, tagUp tag Bx 5, .slice av b.length cv, ?_⟩
            rw [Hacc.out, rStep_more Hpx.out Hpf.out hlt]
            exact hJ5
  case done =>
    rintro D W hD ⟨tag', vb', hW⟩ hd
    have hm := Marks.cons (Marks.nil w.heap.size W) (s := w.heap.size) (fun D' h => by cases h) (Nat.le_trans hI4.below.size hD) (Nat.le_trans hI4.below.size hD) hd
    have hW0 : ∃ acc, R = acc ∧ GInv w #[.slice aa la ca, .int .i64 n, .slice am lm cm, .slice ae es.length ce, .slice (some ⟨bf, offf, none⟩) (n + 1) cf] (.func (.func fp) #[] capp) s W tag' vb' acc := ⟨_, HR.out, hW⟩
    clear hW HR
    obtain ⟨acc, rfl, hW⟩ := hW0
    have k9 : W.cell? ⟨w.heap.size + 1 + 1 + 1 + 1, 0, none⟩ = some (.bool R.isSome) := hW.fb.cell 0
    have k8 : W.cell? ⟨w.heap.size + 1 + 1 + 1, 0, none⟩ = some vb' := hW.bb.cell 0
    obtain ⟨av, cv, rfl⟩ := hW.ro.val
    have HW := Lib.hid (hW.call (bel_drew W))
    have HM := Lib.hid (hm.below (bel_drew W))
    clear hd hm hW hseq hI4
    go_wp2_with fail
    go_region
    go_wp2_with fail
    refine bodyPostM_ret HM.out (fun w' hq => ⟨.tuple #[.slice av (R.getD []).length cv, .bool R.isSome], by simp [results, Try.results63, go_sem], _, rfl, ?_, HW.out.below.trans hq.below⟩)
    have hro := hq.row HW.out.ro
    have hnl := HW.out.nl
    clear k8 k9
    cases R with
    | none =>
      have h := hnl rfl
      rw [h]
      rfl
    | some r => exact ⟨_, rfl, hro.rdI⟩
end Go.Proofs.Ythchkddhibhenaa

namespace Go.Proofs.Ythchkddhibhenaa
open Go.RowKit

set_option maxRecDepth 100000 in
set_option maxHeartbeats 4000000 in
theorem cycle_any (v vv : Value) (a : Aut) (evs : List Int) (w : World) (ha : RdA w v a) (hs : a.small) (h2 : RdI w vv evs) (hl2 : evs.length ≤ 1000000) :
    Calls Try.prog 32 #[v, vv] w (Ret w (CycPost (err2 a.err (setErr 32 none evs)) (cycI a.n.toNat a.es (fun x => hasB evs x.e) (reachF a.n.toNat a.es) 0))) := by
  have ha0 := ha
  obtain ⟨va, vm, ve, rfl, ⟨aa, ca, rfl, hra⟩, ⟨am, cm, rfl, hrm⟩, ⟨ae, ce, rfl, hre⟩⟩ := ha
  have Ha0 := Lib.hid ha0
  have Hs := Lib.hid hs
  have Hr2 := Lib.hid h2
  obtain ⟨av, cv, rfl, hrv⟩ := h2
  clear ha0 hs
  go_enter Try.func32, Try.ntmps32
  go_wp2_with fail
  refine (check_any _ a _ (Ha0.out.mono (by (repeat (first | with_reducible exact Below.refl _ _ | with_reducible exact Ha0 | (with_reducible refine belCall ?_ Ha0 (by first | omega | (simp; done) | (simp; omega) | (simp at *; omega))) | (with_reducible refine Below.alloc ?_ (by first | omega | (simp; done) | (simp; omega) | (simp at *; omega)) _) | (with_reducible refine Below.drew ?_) | (with_reducible refine Below.setCell ?_ (by first | omega | (simp; done) | (simp; omega) | (simp at *; omega)) _))))) Hs.out).mono ?_
  rintro e w1 ⟨_, rfl, rfl, hb1⟩
  have hW1 : Below w.heap.size w w1 := ((Below.refl _ _).alloc (Nat.le_refl _) _).trans (hb1.mono (by simp))
  have hbx := box4 hb1
  clear hb1
  by_cases h1 : a.err = 0
  · have H1 := Lib.hid h1
    rw [h1]
    obtain ⟨x0, x1, x2, x3, x4⟩ := hbx
    by_cases h3 : setErr 32 none evs = 0
    · have hok := Aut.ok_of h1
      have hev := Aut.ev_of h1
      have hin := setErr_zero h3
      have H3 := Lib.hid h3
      have hn0 := hok.n0
      have hn1 := hok.n1
      have Hes := Lib.hid hok.es
      have Hev := Lib.hid hev
      have Hin := Lib.hid hin
      have hae := Hs.out.es
      clear hok hev hin h1 h3
      generalize hn : a.n = an at *
      obtain ⟨n, rfl⟩ := Int.eq_ofNat_of_zero_le hn0
      have Hn := Lib.hid hn
      clear hn hn0
      go_wp2_with fail
      refine (rcheckSet_any _ _ _ _ (Hr2.out.mono hW1) hl2).mono ?_
      rintro e w2 ⟨rfl, rfl⟩
      rw [H3.out]
      go_wp2_with fail
      refine (newGraph_any _ _ _ _ _ _ _ n a.es _ (RdE.mono ⟨ae, ce, rfl, hre⟩ hW1) hae (by omega) (fun x hx => ⟨(Hes.out x hx).1, (Hes.out x hx).2.1⟩)).mono ?_
      rintro e w3 ⟨_, rfl, ⟨af, cf, rfl, hrf⟩, hb3⟩
      have hW3 := hW1.trans (hb3.mono hW1.size)
      clear x0 x1 x2 x3 x4 hb3
      generalize hR0 : cycI n a.es (fun x => hasB evs x.e) (reachF n a.es) 0 = R
      have HR : Hid (R = cycI n a.es (fun x => hasB evs x.e) (reachF n a.es) 0) := Lib.hid hR0.symm
      have HR0 : Hid (cycI a.n.toNat a.es (fun x => hasB evs x.e) (reachF a.n.toNat a.es) 0 = R) := by show _ = _; rw [Hn.out, Int.toNat_natCast]; exact hR0
      clear hR0
      go_wp2_with fail
      have hg0 : Own ((w3.alloc (.cells #[.slice aa a.al.length ca, .int .i64 n, .slice am a.ms.length cm, .slice ae a.es.length ce, .slice af (n + 1) cf] 80)).alloc (.cells (bools (List.replicate 32 false)).toArray 98)) w3.heap.size (fun b => if b = w3.heap.size then 0 else 1) 0 w3.heap.size #[.slice aa a.al.length ca, .int .i64 n, .slice am a.ms.length cm, .slice ae a.es.length ce, .slice af (n + 1) cf] 80 := ⟨heap_past (by simp) (heap_at rfl), if_pos rfl, Nat.le_refl _⟩
      have ha0 : Own ((w3.alloc (.cells #[.slice aa a.al.length ca, .int .i64 n, .slice am a.ms.length cm, .slice ae a.es.length ce, .slice af (n + 1) cf] 80)).alloc (.cells (bools (List.replicate 32 false)).toArray 98)) w3.heap.size (fun b => if b = w3.heap.size then 0 else 1) 1 (w3.heap.size + 1) (bools (List.replicate 32 false)).toArray 98 := ⟨heap_at (by simp), if_neg (by omega), by omega⟩
      have hb0 : Below w3.heap.size w3 ((w3.alloc (.cells #[.slice aa a.al.length ca, .int .i64 n, .slice am a.ms.length cm, .slice ae a.es.length ce, .slice af (n + 1) cf] 80)).alloc (.cells (bools (List.replicate 32 false)).toArray 98)) := ((Below.refl _ _).alloc (Nat.le_refl _) _).alloc (by simp) _
      replace hg0 := Lib.hid hg0
      replace ha0 := Lib.hid ha0
      replace hb0 := Lib.hid hb0
      go_loopw [13, 31] (fun _ i wr => ∃ k : Nat, i = .int .i64 k ∧ k ≤ evs.length ∧ Below w3.heap.size w3 wr ∧ Own wr w3.heap.size (fun b => if b = w3.heap.size then 0 else 1) 0 w3.heap.size #[.slice aa a.al.length ca, .int .i64 n, .slice am a.ms.length cm, .slice ae a.es.length ce, .slice af (n + 1) cf] 80 ∧ Own wr w3.heap.size (fun b => if b = w3.heap.size then 0 else 1) 1 (w3.heap.size + 1) (bools ((evs.take k).foldl (fun F x => F.set x.toNat true) (List.replicate 32 false))).toArray 98) (fun _ i _ => evs.length - (intOf i).toNat)
      case atStart => exact ⟨0, rfl, Nat.zero_le _, hb0.out, hg0.out, ha0.out⟩
      case round =>
        clear hg0 ha0 hb0
        obtain ⟨k, rfl, hk, hB, hg, harr⟩ := hrel
        by_cases hlt : k < evs.length
        · have hltI : (k : Int) < (evs.length : Int) := by omega
          obtain ⟨b, off, rfl, hc⟩ := hrv.at_int k hlt
          have hxi := Hin.out _ (List.getElem_mem hlt)
          have hc3 := keep0 hB (keep0 hW3 hc)
          have hbl := World.block_lt_of_cell? _ _ hc3
          dsimp only at hbl
          have Htk : Hid ((evs.take (k + 1)).foldl (fun F x => F.set x.toNat true) (List.replicate 32 false) = ((evs.take k).foldl (fun F x => F.set x.toNat true) (List.replicate 32 false)).set (evs[k]).toNat true) := by
            show _ = _
            rw [List.take_succ_eq_append_getElem hlt, List.foldl_append]; rfl
          have hFl := (byF_aux (evs.take k) (List.replicate 32 false) (by simp) (fun x hx => Hin.out x (List.mem_of_mem_take hx))).1
          generalize (evs.take k).foldl (fun F x => F.set x.toNat true) (List.replicate 32 false) = F at *
          generalize evs[k] = y at *
          obtain ⟨j, rfl⟩ := Int.eq_ofNat_of_zero_le hxi.1
          have hj : j < 32 := by omega
          have k1 : wr.cell? ⟨w3.heap.size + 1, j, none⟩ = some (.bool (F[j]'(by omega))) := by
            rw [harr.cell, List.getElem?_toArray, List.getElem?_map, List.getElem?_eq_getElem (by omega)]; rfl
          have k2 := harr.frozen j
          have T := Lib.hid (Turn.setCell harr j (.bool true))
          have hset := harr.set j (.bool true)
          have hset2 : Own (wr.setCell ⟨w3.heap.size + 1, j, none⟩ (.bool true)) w3.heap.size (fun b => if b = w3.heap.size then 0 else 1) 1 (w3.heap.size + 1) (bools (F.set j true)).toArray 98 := by
            rw [show (bools (F.set j true)).toArray = (bools F).toArray.setIfInBounds j (.bool true) by simp [List.map_set]]
            exact hset
          have Hset := Lib.hid hset2
          have Hg := Lib.hid (hg.turn T.out (by decide))
          have HB := Lib.hid (belTurn hB T.out hB.size)
          clear hset hset2 harr hg hB hc
          go_wp2_with fail
          go_roundw
          case rel =>
            refine ⟨k + 1, by go_num, by omega, HB.out, Hg.out, ?_⟩
            rw [Htk.out]
            exact Hset.out
          case measure => simp [intOf]; omega
        · have hke : k = evs.length := by omega
          have hnl : ¬ (k : Int) < (evs.length : Int) := by omega
          rw [hke, List.take_length] at harr
          have harr2 : ∀ j : Nat, j < 32 → wr.cell? ⟨w3.heap.size + 1, j, none⟩ = some (.bool ((byF evs).getD j false)) := by
            intro j hj
            have hl := byF_length Hin.out
            rw [harr.cell, List.getElem?_toArray, List.getElem?_map, List.getD_eq_getElem?_getD]
            show Option.map _ (byF evs)[j]? = _
            rw [List.getElem?_eq_getElem (by omega)]; rfl
          have Harr := Lib.hid harr2
          have g0 : wr.cell? ⟨w3.heap.size, 0, none⟩ = some (.slice aa a.al.length ca) := hg.cell 0
          have g1 : wr.cell? ⟨w3.heap.size, 1, none⟩ = some (.int .i64 n) := hg.cell 1
          have g2 : wr.cell? ⟨w3.heap.size, 2, none⟩ = some (.slice am a.ms.length cm) := hg.cell 2
          have g3 : wr.cell? ⟨w3.heap.size, 3, none⟩ = some (.slice ae a.es.length ce) := hg.cell 3
          have g4 : wr.cell? ⟨w3.heap.size, 4, none⟩ = some (.slice af (n + 1) cf) := hg.cell 4
          have hgl := hg.lt
          have HB := Lib.hid hB
          have hW4 := hW3.trans (hB.mono hW3.size)
          clear harr harr2 hg hke
          go_wp2_with fail
          refine (reachable_any aa am ae af _ _ ca cm ce cf n a.es _ (hre.mono hW4) (hrf.mono hB) hae (by omega) (fun x hx => (Hes.out x hx).2.2)).mono ?_
          rintro e w4 ⟨v4, rfl, hr4, hb4⟩
          have hW5 := hW4.trans (hb4.mono hW4.size)
          have hB5 := hB.trans (hb4.mono hB.size)
          have HE : Hid (err2 a.err (setErr 32 none evs) = 0) := by show _ = _; rw [err2, if_pos H1.out]; exact H3.out
          have hfl : (reachF n a.es).length = n := by
            unfold reachF
            split
            · rename_i h6; rw [h6]; rfl
            · rename_i h6
              exact forwardF_length (perm := fun _ => true) n a.es [0] (fun x hx => (Hes.out x hx).2.2) (fun s hs => by rw [List.mem_singleton.1 hs]; omega)
          generalize reachF n a.es = fl at *
          obtain ⟨a4, c4, rfl, hr5⟩ := hr4
          rw [hfl] at hr5 ⊢
          replace g0 := keep0 hb4 g0
          replace g1 := keep0 hb4 g1
          replace g2 := keep0 hb4 g2
          replace g3 := keep0 hb4 g3
          replace g4 := keep0 hb4 g4
          have hgl4 : w3.heap.size < w4.heap.size := Nat.lt_of_lt_of_le hgl hb4.size
          have Harr4 : Hid (∀ j : Nat, j < 32 → w4.cell? ⟨w3.heap.size + 1, j, none⟩ = some (.bool ((byF evs).getD j false))) := fun j hj => keep0 hb4 (Harr.out j hj)
          have hcell : ∀ k : Nat, k < n → ∃ bb oo, a4 = some ⟨bb, oo, none⟩ ∧ w4.cell? ⟨bb, oo + k, none⟩ = some (.bool (fl.getD k false)) := by
            intro k hk
            rw [← hfl] at hr5
            obtain ⟨bb, oo, e, h9⟩ := hr5.at_bool k (by omega)
            refine ⟨bb, oo, e, ?_⟩
            rw [h9, List.getD_eq_getElem?_getD, List.getElem?_eq_getElem (by omega)]; rfl
          have Hcell := Lib.hid hcell
          have Hfl := Lib.hid hfl
          have HB5 := Lib.hid hB5
          clear hb4 hcell hr5 hfl Harr hB HB hB5
          have hHR : Hid (R = cycI n a.es (fun x => hasB evs x.e) (fl.drop 0) 0) := HR.out
          go_wp2_with fail
          go_loopw [42] (fun i wr' => ∃ k : Nat, i = .int .i64 k ∧ k ≤ n ∧ Below w4.heap.size w4 wr' ∧ Hid (R = cycI n a.es (fun x => hasB evs x.e) (fl.drop k) k)) (fun i _ => n - (intOf i).toNat)
          case atStart => exact ⟨0, rfl, Nat.zero_le _, Below.refl _ _, hHR⟩
          case round =>
            obtain ⟨k, rfl, hk, hB, hRk⟩ := hrel
            by_cases hlt : k < n
            · have hltI : (k : Int) < (n : Int) := by omega
              obtain ⟨bb, oo, rfl, hck⟩ := Hcell.out k hlt
              have hck' := keep0 hB hck
              have hbl := World.block_lt_of_cell? _ _ hck'
              dsimp only at hbl
              have hlf : k < fl.length := by have := Hfl.out; omega
              have Hd : Hid (R = cycI n a.es (fun x => hasB evs x.e) (fl.getD k false :: fl.drop (k + 1)) k) := by
                show _ = _
                rw [hRk.out, List.drop_eq_getElem_cons hlf, List.getD_eq_getElem?_getD, List.getElem?_eq_getElem hlf]; rfl
              have z0 := keep0 hB g0
              have z1 := keep0 hB g1
              have z2 := keep0 hB g2
              have z3 := keep0 hB g3
              have z4 := keep0 hB g4
              have hzl : w3.heap.size < wr.heap.size := Nat.lt_of_lt_of_le hgl4 hB.size
              clear hRk hck
              cases hx : fl.getD k false with
              | false =>
                rw [hx] at hck' Hd
                have HZ : Hid (R = cycI n a.es (fun x => hasB evs x.e) (fl.drop (k + 1)) (k + 1)) := by show _ = _; rw [Hd.out, cycI_skip]
                clear Hd hx
                go_wp2_with fail
                go_roundw
                case rel => exact ⟨k + 1, by go_num, by omega, hB.alloc hB.size _, HZ.out⟩
                case measure => simp [intOf]; omega
              | true =>
                rw [hx] at hck' Hd
                clear hx
                have hbw := hB.alloc hB.size (.cells #[.int .i64 (k : Int)] 3)
                have hbox : (wr.alloc (.cells #[.int .i64 (k : Int)] 3)).cell? ⟨wr.heap.size, 0, none⟩ = some (.int .i64 k) := by simp [go_sem]
                have hbxl : wr.heap.size < (wr.alloc (.cells #[.int .i64 (k : Int)] 3)).heap.size := by simp
                have y0 := keep0 (bel_alloc wr (.cells #[.int .i64 (k : Int)] 3)) z0
                have y1 := keep0 (bel_alloc wr (.cells #[.int .i64 (k : Int)] 3)) z1
                have y2 := keep0 (bel_alloc wr (.cells #[.int .i64 (k : Int)] 3)) z2
                have y3 := keep0 (bel_alloc wr (.cells #[.int .i64 (k : Int)] 3)) z3
                have y4 := keep0 (bel_alloc wr (.cells #[.int .i64 (k : Int)] 3)) z4
                have hp : ∀ (x : Ed) (W : World), x ∈ a.es → Below w4.heap.size w4 W → Calls Try.prog 62 (#[x.val] ++ #[.pointer (some ⟨w3.heap.size + 1, 0, none⟩)]) W fun e w' => e = .returned (.bool (hasB evs x.e)) ∧ Below W.heap.size W w' := by
                  intro x W hx hb
                  have he := Hev.out x hx
                  have h := cyc1_any (w3.heap.size + 1) (byF evs) x W (fun j hj => keep0 hb (Harr4.out j hj)) he.1 he.2
                  rwa [byF_has Hin.out x.e he.1 he.2] at h
                have Hp := Lib.hid hp
                have hW6 := hW5.trans (hbw.mono hW5.size)
                clear hp z0 z1 z2 z3 z4
                go_wp2_with fail
                generalize wr.alloc (.cells #[.int .i64 (k : Int)] 3) = w6 at *
                refine (round_any aa am ae af _ _ ca cm ce cf n a.es 62 #[.pointer (some ⟨w3.heap.size + 1, 0, none⟩)] (fun x => hasB evs x.e) k w6 (hre.mono hW6) (hrf.mono (HB5.out.trans (hbw.mono HB5.out.size))) hae (by omega) (by omega) (by omega) (fun x hx => (Hes.out x hx).2.2) (enters_of Try.func62 (by kernel_rfl) rfl) (fun x W hx hb => Hp.out x W hx (hbw.trans (hb.mono hbw.size)))).mono ?_
                rintro e w7 ⟨v7, rfl, hp7, hb7⟩
                have hbw7 := hbw.trans (hb7.mono hbw.size)
                have hW7 := hW6.trans (hb7.mono hW6.size)
                replace y0 := keep0 hb7 y0
                replace y1 := keep0 hb7 y1
                replace y2 := keep0 hb7 y2
                replace y3 := keep0 hb7 y3
                replace y4 := keep0 hb7 y4
                have hbox7 := keep hb7 hbox hbxl
                cases hrf2 : roundF n a.es (fun x => hasB evs x.e) k with
                | none =>
                  rw [hrf2] at hp7
                  obtain rfl : v7 = _ := hp7
                  have HZ : Hid (R = cycI n a.es (fun x => hasB evs x.e) (fl.drop (k + 1)) (k + 1)) := by show _ = _; rw [Hd.out, cycI_none hrf2]
                  clear Hd hrf2 hbox hbxl hb7
                  go_wp2_with fail
                  go_roundw
                  case rel => exact ⟨k + 1, by go_num, by omega, hbw7, HZ.out⟩
                  case measure => simp [intOf]; omega
                | some c =>
                  rw [hrf2] at hp7
                  obtain ⟨v8, rfl, hr8⟩ := hp7
                  have Hr8 := Lib.hid hr8
                  obtain ⟨a8, c8, rfl, hr8'⟩ := hr8
                  have HZ : Hid (R = some ((pathF n a.es (fun t => t == (k : Int)) (fun _ => true) 0).getD [], c)) := by show _ = _; rw [Hd.out, cycI_some hrf2]
                  clear Hd hrf2 hbox hbxl hb7 hr8'
                  go_wp2_with fail
                  refine (path_any aa am ae af _ _ ca cm ce cf n 0 a.es 64 65 #[.pointer (some ⟨wr.heap.size, 0, none⟩)] #[] (fun t => t == (k : Int)) (fun _ => true) w7 (hre.mono hW7) (hrf.mono (HB5.out.trans (hbw7.mono HB5.out.size))) hae (by omega) (by omega) (fun x hx => (Hes.out x hx).2.2) (enters_of Try.func64 (by kernel_rfl) rfl) (fun _ _ => by kernel_rfl) (fun t' W' _ _ hb' => cyc2_any _ k t' W' (keep0 hb' hbox7)) (fun y W' _ _ => anyEdge_any y W')).mono ?_
                  rintro e w9 ⟨u9, rfl, hp9, hb9⟩
                  have hW9 := hW7.trans (hb9.mono hW7.size)
                  have Hr9 := Lib.hid (Hr8.out.mono hb9)
                  cases hpf : pathF n a.es (fun t => t == (k : Int)) (fun _ => true) 0 with
                  | none =>
                    rw [hpf] at hp9
                    obtain rfl : u9 = _ := hp9
                    have HQ : Hid (R = some ([], c)) := by show _ = _; rw [HZ.out, hpf]; rfl
                    clear HZ hpf hb9
                    go_wp2_with fail
                    refine bodyPost_ret (v := .tuple #[.slice none 0 0, .slice a8 c.length c8, .bool true, .int .i64 0]) (by simp [results, Try.results32, go_sem]) rfl ⟨_, rfl, ?_, hW9⟩
                    exact CycPost.some' HE.out (HR0.out.trans HQ.out) (RdI.nil0 _) Hr9.out
                  | some p =>
                    rw [hpf] at hp9
                    obtain ⟨v10, rfl, hr10⟩ := hp9
                    have Hr10 := Lib.hid hr10
                    obtain ⟨a10, c10, rfl, hr10'⟩ := hr10
                    have HQ : Hid (R = some (p, c)) := by show _ = _; rw [HZ.out, hpf]; rfl
                    clear HZ hpf hb9 hr10'
                    go_wp2_with fail
                    refine bodyPost_ret (v := .tuple #[.slice a10 p.length c10, .slice a8 c.length c8, .bool true, .int .i64 0]) (by simp [results, Try.results32, go_sem]) rfl ⟨_, rfl, ?_, hW9⟩
                    exact CycPost.some' HE.out (HR0.out.trans HQ.out) Hr10.out Hr9.out
            · have hnl : ¬ (k : Int) < (n : Int) := by omega
              have HQ : Hid (R = none) := by
                show _ = _
                rw [hRk.out, List.drop_of_length_le (by have := Hfl.out; omega)]; rfl
              have hW6 := hW5.trans (hB.mono hW5.size)
              clear hRk
              go_wp2_with fail
              refine bodyPost_ret (v := .tuple #[.slice none 0 0, .slice none 0 0, .bool false, .int .i64 0]) (by simp [results, Try.results32, go_sem]) rfl ⟨_, rfl, ?_, hW6⟩
              exact CycPost.none' HE.out (HR0.out.trans HQ.out)
    · have h3' : (setErr 32 none evs != 0) = true := by simpa using h3
      have H3 := Lib.hid h3
      clear h3 h1
      go_wp2_with fail
      refine (rcheckSet_any _ _ _ _ (Hr2.out.mono hW1) hl2).mono ?_
      rintro e w2 ⟨rfl, rfl⟩
      go_wp2_with fail
      refine bodyPost_ret (v := .tuple #[.slice none 0 0, .slice none 0 0, .bool false, .int .i64 (setErr 32 none evs)]) (by simp [results, Try.results32, go_sem]) rfl ⟨_, rfl, ?_, hW1⟩
      rw [show err2 a.err (setErr 32 none evs) = setErr 32 none evs by rw [err2, if_pos H1.out]]
      exact CycPost.err H3.out
  · have H1 := Lib.hid h1
    have h1' : (a.err != 0) = true := by simpa using h1
    clear h1
    go_wp2_with fail
    refine bodyPost_ret (v := .tuple #[.slice none 0 0, .slice none 0 0, .bool false, .int .i64 a.err]) (by simp [results, Try.results32, go_sem]) rfl ⟨_, rfl, ?_, hW1⟩
    rw [show err2 a.err (setErr 32 none evs) = a.err by rw [err2, if_neg H1.out]]
    exact CycPost.err H1.out
end Go.Proofs.Ythchkddhibhenaa

namespace Go.Proofs.Ythchkddhibhenaa

/-- A state whose flag is set. -/
def Gd (fl : List Bool) (s : Int) : Prop := fl.getD s.toNat false = true
section
variable {es : List Ed} {n : Nat} {set evs : List Int}
theorem listL_inc (fl : List Bool) : Inc (listL fl) := range_pairwise _ _
theorem listL_in (fl : List Bool) : ∀ s ∈ listL fl, 0 ≤ s ∧ s < (fl.length : Int) := range_in _ _
end
end Go.Proofs.Ythchkddhibhenaa

namespace Go.Proofs.Ythchkddhibhenaa

theorem Gd_true {fl : List Bool} {k : Nat} {s : Int} (_h0 : 0 ≤ s) (hk : k < fl.length) : Gd (fl.set k true) s ↔ Gd fl s ∨ s.toNat = k := by
  unfold Gd
  by_cases e : k = s.toNat
  · subst e
    rw [List.getD_eq_getElem?_getD, List.getElem?_set_self hk]
    exact ⟨fun _ => .inr rfl, fun _ => rfl⟩
  · rw [List.getD_eq_getElem?_getD, List.getElem?_set_ne e, ← List.getD_eq_getElem?_getD]
    exact ⟨.inl, fun h => h.elim id (fun h => absurd h.symm e)⟩
end Go.Proofs.Ythchkddhibhenaa

namespace Go.Proofs.Ythchkddhibhenaa
open Go Go.RowKit Go.Shelf
attribute [local go_sem] Oper.semAt_some

/-- What Trim returns. -/
def trimF (a : Aut) : Aut := restrictF a.al a.ms a.n.toNat a.es (corea a)
theorem corea_err {a : Aut} (h : a.err = 0) : setErr a.n none (corea a) = 0 := by
  have hok := Aut.ok_of h
  have hn0 := hok.n0
  have hin := listL_in ((backward a.n.toNat a.es a.ms).map fun d => decide (0 ≤ d))
  rw [List.length_map, backward_length] at hin
  have hn : ((a.n.toNat : Nat) : Int) = a.n := Int.toNat_of_nonneg hn0
  rw [hn] at hin
  exact setErr_ok (listL_inc _) hin (fun q hq => by cases hq)
theorem listL_len (fl : List Bool) : (listL fl).length ≤ fl.length := by
  have := listK_le fl fl.length
  unfold listL
  omega
theorem corea_len (a : Aut) : (corea a).length ≤ a.n.toNat := by
  have h := listL_len ((backward a.n.toNat a.es a.ms).map fun d => decide (0 ≤ d))
  rw [List.length_map, backward_length] at h
  exact h
set_option maxRecDepth 100000 in
set_option maxHeartbeats 1600000 in
theorem trim_any (v : Value) (a : Aut) (w : World) (ha : RdA w v a) (hs : a.small) :
    Calls Try.prog 34 #[v] w (Ret w (RestPost w.heap.size a.err (trimF a))) := by
  have Ha := Lib.hid ha
  have Hs := Lib.hid hs
  obtain ⟨va, vm, ve, rfl, ⟨aa, ca, rfl, hra⟩, ⟨am, cm, rfl, hrm⟩, ⟨ae, ce, rfl, hre⟩⟩ := ha
  clear hs
  go_enter Try.func34, Try.ntmps34
  go_wp2_with fail
  have hB0 : Below w.heap.size w ((w.alloc (.cells #[.slice aa a.al.length ca, .int .i64 a.n, .slice am a.ms.length cm, .slice ae a.es.length ce] 31)).alloc (.cells #[.slice none 0 0, .int .i64 0, .slice none 0 0, .slice none 0 0] 31)) := by (repeat (first | with_reducible exact Below.refl _ _ | with_reducible exact Ha | (with_reducible refine belCall ?_ Ha (by first | omega | (simp; done) | (simp; omega) | (simp at *; omega))) | (with_reducible refine Below.alloc ?_ (by first | omega | (simp; done) | (simp; omega) | (simp at *; omega)) _) | (with_reducible refine Below.drew ?_) | (with_reducible refine Below.setCell ?_ (by first | omega | (simp; done) | (simp; omega) | (simp at *; omega)) _)))
  refine (corea_any _ a _ (Ha.out.mono hB0) Hs.out).mono ?_
  rintro e w1 ⟨u, rfl, hpost, hb1⟩
  have hW1 := hB0.trans (hb1.mono hB0.size)
  have ho1 : Own w1 w.heap.size (fun _ => 0) 0 w.heap.size #[.slice aa a.al.length ca, .int .i64 a.n, .slice am a.ms.length cm, .slice ae a.es.length ce] 31 := ⟨(hb1.block _ (by simp; omega)).trans (by repeat (first | with_reducible assumption | (with_reducible refine heap_at ?_; (first | (simp; done) | (simp; omega))) | (with_reducible refine heap_past ?_ ?_; (next => first | omega | (simp; done) | (simp; omega))))), rfl, Nat.le_refl _⟩
  have ho4 : Own w1 w.heap.size (fun _ => 0) 0 (w.heap.size + 1) #[.slice none 0 0, .int .i64 0, .slice none 0 0, .slice none 0 0] 31 := ⟨(hb1.block _ (by simp)).trans (by repeat (first | with_reducible assumption | (with_reducible refine heap_at ?_; (first | (simp; done) | (simp; omega))) | (with_reducible refine heap_past ?_ ?_; (next => first | omega | (simp; done) | (simp; omega))))), rfl, by omega⟩
  clear hb1
  have x0 : w1.cell? ⟨w.heap.size, 0, none⟩ = some (.slice aa a.al.length ca) := ho1.cell 0
  have x1 : w1.cell? ⟨w.heap.size, 1, none⟩ = some (.int .i64 a.n) := ho1.cell 1
  have x2 : w1.cell? ⟨w.heap.size, 2, none⟩ = some (.slice am a.ms.length cm) := ho1.cell 2
  have x3 : w1.cell? ⟨w.heap.size, 3, none⟩ = some (.slice ae a.es.length ce) := ho1.cell 3
  by_cases h1 : a.err = 0
  · rw [ListPost, if_pos h1] at hpost
    obtain ⟨vc, rfl, hvc⟩ := hpost
    have Hvc := Lib.hid hvc
    obtain ⟨ac, cc, rfl, _⟩ := hvc
    have Hce := Lib.hid (corea_err h1)
    have hcl := corea_len a
    have hn1 := (Aut.ok_of h1).n1
    have hcl2 : (corea a).length ≤ 1000000 := by omega
    have H1 := Lib.hid h1
    have HTR : Hid (trimF a = restrictF a.al a.ms a.n.toNat a.es (corea a)) := rfl
    clear h1 hcl hn1
    generalize hco : corea a = co at *
    generalize trimF a = R at *
    go_wp2_with fail
    refine (restrict_any _ _ a co _ (Ha.out.mono hW1) Hs.out Hvc.out hcl2).mono ?_
    rintro e w2 ⟨u, rfl, hpost, hb2⟩
    have hW2 := hW1.trans (hb2.mono hW1.size)
    rw [err2, if_pos H1.out, Hce.out, RestPost, if_pos rfl] at hpost
    obtain ⟨vr, rfl, hvr, hfr⟩ := hpost
    have hq4 := ho4.below hb2
    have hbb : w.heap.size + 1 < w1.heap.size := ho4.lt
    have hvr2 := ((hvr.setCell hfr hbb 0 (.slice none 0 0)))
    obtain ⟨a1, a2, a3, l1, c1, l2, c2, l3, c3, n, rfl, hf1, hf2, hf3⟩ := hfr
    have hfr : FreshA w1.heap.size (.agg #[.slice a1 l1 c1, .int .i64 n, .slice a2 l2 c2, .slice a3 l3 c3]) := ⟨a1, a2, a3, l1, c1, l2, c2, l3, c3, n, rfl, hf1, hf2, hf3⟩
    have Hvr := Lib.hid ((((hvr.setCell hfr hbb 0 (.slice a1 l1 c1)).setCell hfr hbb 1 (.int .i64 n)).setCell hfr hbb 2 (.slice a2 l2 c2)).setCell hfr hbb 3 (.slice a3 l3 c3))
    have Hfr := Lib.hid (hfr.mono (B' := w.heap.size) hW1.size)
    have Hs5 := Lib.hid (hq4.store4 (.slice a1 l1 c1) (.int .i64 n) (.slice a2 l2 c2) (.slice a3 l3 c3))
    have q0 : w2.cell? ⟨w.heap.size + 1, 0, none⟩ = some (.slice none 0 0) := hq4.cell 0
    have q1 : w2.cell? ⟨w.heap.size + 1, 1, none⟩ = some (.int .i64 0) := hq4.cell 1
    have q2 : w2.cell? ⟨w.heap.size + 1, 2, none⟩ = some (.slice none 0 0) := hq4.cell 2
    have q3 : w2.cell? ⟨w.heap.size + 1, 3, none⟩ = some (.slice none 0 0) := hq4.cell 3
    have f0 := hq4.frozen 0
    have f1 := hq4.frozen 1
    have f2 := hq4.frozen 2
    have f3 := hq4.frozen 3
    clear hvr hfr hf1 hf2 hf3 ho1 ho4 hvr2 x0 x1 x2 x3 hq4
    go_wp2_with fail
    have d0 := Hs5.out.1.cell 0
    have d1 := Hs5.out.1.cell 1
    have d2 := Hs5.out.1.cell 2
    have d3 := Hs5.out.1.cell 3
    refine bodyPost_ret (v := .tuple #[.agg #[.slice a1 l1 c1, .int .i64 n, .slice a2 l2 c2, .slice a3 l3 c3], .int .i64 0]) (by simp [results, Try.results34, go_sem, d0, d1, d2, d3]) rfl ⟨_, rfl, ?_, belTurn hW2 Hs5.out.2 hW2.size⟩
    rw [H1.out, HTR.out]
    exact RestPost.ok rfl Hvr.out Hfr.out
  · rw [ListPost, if_neg h1] at hpost
    subst hpost
    have h1' : (a.err != 0) = true := by simpa using h1
    have H1 := Lib.hid h1
    clear h1
    have q0 : w1.cell? ⟨w.heap.size + 1, 0, none⟩ = some (.slice none 0 0) := ho4.cell 0
    have q1 : w1.cell? ⟨w.heap.size + 1, 1, none⟩ = some (.int .i64 0) := ho4.cell 1
    have q2 : w1.cell? ⟨w.heap.size + 1, 2, none⟩ = some (.slice none 0 0) := ho4.cell 2
    have q3 : w1.cell? ⟨w.heap.size + 1, 3, none⟩ = some (.slice none 0 0) := ho4.cell 3
    have f0 := ho4.frozen 0
    have f1 := ho4.frozen 1
    have f2 := ho4.frozen 2
    have f3 := ho4.frozen 3
    have hl4 := ho4.lt
    have Hs5 := Lib.hid (ho4.store4 (.slice none 0 0) (.int .i64 0) (.slice none 0 0) (.slice none 0 0))
    clear ho1 ho4 x0 x1 x2 x3
    go_wp2_with fail
    have d0 := Hs5.out.1.cell 0
    have d1 := Hs5.out.1.cell 1
    have d2 := Hs5.out.1.cell 2
    have d3 := Hs5.out.1.cell 3
    refine bodyPost_ret (v := .tuple #[.agg #[.slice none 0 0, .int .i64 0, .slice none 0 0, .slice none 0 0], .int .i64 a.err]) (by simp [results, Try.results34, go_sem, d0, d1, d2, d3]) rfl ⟨_, rfl, ?_, belTurn hW1 Hs5.out.2 hW1.size⟩
    exact RestPost.err H1.out
end Go.Proofs.Ythchkddhibhenaa

namespace Go.Proofs.Ythchkddhibhenaa
open Go Go.RowKit
def smA (p : AutT) : Bool := decide (p.1.length ≤ 1000000) && (decide (p.2.2.1.length ≤ 1000000) && decide (p.2.2.2.length ≤ 1000000))
theorem smA_small {p : AutT} (h : smA p = true) : (toAut p).small := by
  unfold smA at h
  rw [Bool.and_eq_true, Bool.and_eq_true, decide_eq_true_eq, decide_eq_true_eq, decide_eq_true_eq] at h
  exact ⟨h.1, h.2.1, by simpa [toAut] using h.2.2⟩
theorem rdA {s : Sig} {p0 : AutT} {a1 : Option Addr} {c1 : Nat} {a2 : Option Addr} {c2 : Nat} {a3 : Option Addr} {c3 : Nat} (h1 : RdL (rK .i64) s a1 c1 p0.1) (h2 : RdL (rK .i64) s a2 c2 p0.2.2.1) (h3 : RdL rEd s a3 c3 p0.2.2.2) : RdA s.w (.agg #[.slice a1 p0.1.length c1, .int .i64 p0.2.1, .slice a2 p0.2.2.1.length c2, .slice a3 p0.2.2.2.length c3]) (toAut p0) := ⟨_, _, _, rfl, h1.rdI, h2.rdI, h3.rdE⟩
theorem ifN {α : Type} {b : Bool} {x r : α} (h : (if b = true then some x else none) = some r) : b = true ∧ x = r := by
  cases b with
  | true => exact ⟨rfl, Option.some.inj h⟩
  | false => cases h
/-- A list, or an error. -/
def lstE (e : Int) (xs : List Int) : List Int × Int := if e = 0 then (xs, 0) else ([], e)
theorem ListPost.loose {e : Int} {xs : List Int} {u : Value} {w : World} (h : ListPost e xs u w) : ∃ (a : Option Addr) (c : Nat), u = .tuple #[.slice a (lstE e xs).1.length c, .int .i64 (lstE e xs).2] := by
  unfold ListPost at h
  unfold lstE
  split at h
  · rename_i h0
    obtain ⟨v, rfl, a, c, rfl, _⟩ := h
    rw [if_pos h0]
    exact ⟨a, c, rfl⟩
  · rename_i h0
    rw [if_neg h0]
    exact ⟨none, 0, h⟩
/-- An automaton, or an error. -/
def rstE (e : Int) (r : Aut) : AutT × Int := if e = 0 then (frAut r, 0) else (([], 0, [], []), e)
theorem RestPost.rst {s : Sig} {e : Int} {r : Aut} {u : Value} {w' : World} (h : RestPost s.w.heap.size e r u w') : ∃ (a5 : Option Addr) (c5 : Nat) (a6 : Option Addr) (c6 : Nat) (a7 : Option Addr) (c7 : Nat), u = .tuple #[.agg #[.slice a5 (rstE e r).1.1.length c5, .int .i64 (rstE e r).1.2.1, .slice a6 (rstE e r).1.2.2.1.length c6, .slice a7 (rstE e r).1.2.2.2.length c7], .int .i64 (rstE e r).2] ∧ RdL (rK .i64) (s.nw w') a5 c5 (rstE e r).1.1 ∧ RdL (rK .i64) (s.nw w') a6 c6 (rstE e r).1.2.2.1 ∧ RdL rEd (s.nw w') a7 c7 (rstE e r).1.2.2.2 := by
  unfold RestPost at h
  unfold rstE
  split at h
  · rename_i h0
    rw [if_pos h0]
    obtain ⟨v, rfl, ⟨va, vm, ve, rfl, ⟨aa, ca, rfl, h5⟩, ⟨am, cm, rfl, h6⟩, ⟨ae, ce, rfl, h7⟩⟩, b1, b2, b3, l1, d1, l2, d2, l3, d3, n', e, f1, f2, f3⟩ := h
    simp only [Value.agg.injEq, Array.mk.injEq, List.cons.injEq, Value.slice.injEq] at e
    obtain ⟨⟨rfl, _⟩, _, ⟨rfl, _⟩, ⟨rfl, _⟩, _⟩ := e
    exact ⟨_, _, _, _, _, _, by simp [frAut], h5.rdInts f1, h6.rdInts f2, h7.rdEd f3⟩
  · rename_i h0
    rw [if_neg h0]
    exact ⟨none, 0, none, 0, none, 0, h, RdL.nil, RdL.nil, RdL.nil⟩
/-- A cycle, none, or an error. -/
def cycE (e : Int) (r : Option (List Int × List Int)) : List Int × List Int × Bool × Int := if e = 0 then (match r with
  | some p => (p.1, p.2, true, 0)
  | none => ([], [], false, 0)) else ([], [], false, e)
theorem CycPost.loose {e : Int} {r : Option (List Int × List Int)} {u : Value} {w : World} (h : CycPost e r u w) : ∃ (a : Option Addr) (c : Nat) (a' : Option Addr) (c' : Nat), u = .tuple #[.slice a (cycE e r).1.length c, .slice a' (cycE e r).2.1.length c', .bool (cycE e r).2.2.1, .int .i64 (cycE e r).2.2.2] := by
  unfold CycPost at h
  unfold cycE
  split at h
  · rename_i h0
    rw [if_pos h0]
    cases r with
    | none => exact ⟨none, 0, none, 0, h⟩
    | some p =>
      obtain ⟨v1, v2, rfl, ⟨a, c, rfl, _⟩, a', c', rfl, _⟩ := h
      exact ⟨a, c, a', c', rfl⟩
  · rename_i h0
    rw [if_neg h0]
    exact ⟨none, 0, none, 0, h⟩
/-- Two errors, or whether. -/
def clsE (e : Int) (b : Bool) : Bool × Int := if e = 0 then (b, 0) else (false, e)
theorem CPost.cls {e : Int} {b : Bool} {u : Value} {w : World} (h : CPost e b u w) : u = .tuple #[.bool (clsE e b).1, .int .i64 (clsE e b).2] := by
  unfold CPost at h
  unfold clsE
  split at h
  · rename_i h0
    rw [if_pos h0]
    exact h
  · rename_i h0
    rw [if_neg h0]
    exact h
def m_overseerlaw04_known : Option Bool := some true
theorem m_overseerlaw04_known_c {s : Sig} {r : Bool} (hm : m_overseerlaw04_known = some r) : Calls Try.prog 12 #[] s.w (RetS No s fun v _ => v = .bool r) := by
  obtain rfl := Option.some.inj hm
  refine (known_any s.w).mono fun en w' hh => ?_
  obtain ⟨u, rfl, hp, hb⟩ := hh
  exact ⟨u, s.nw w', rfl, rfl, Sig.nw_mv hb, hp⟩
def m_reach_Reachable (p0 : AutT) : Option (List Int × Int) := if (smA p0) = true then some (lstE (toAut p0).err (listL (reachF (toAut p0).n.toNat (toAut p0).es))) else none
theorem m_reach_Reachable_c {s : Sig} {p0 : AutT} {a1 : Option Addr} {c1 : Nat} {a2 : Option Addr} {c2 : Nat} {a3 : Option Addr} {c3 : Nat} {r : List Int × Int} (h1 : RdL (rK .i64) s a1 c1 p0.1) (h2 : RdL (rK .i64) s a2 c2 p0.2.2.1) (h3 : RdL rEd s a3 c3 p0.2.2.2) (hm : m_reach_Reachable p0 = some r) :
    Calls Try.prog 26 #[.agg #[.slice a1 p0.1.length c1, .int .i64 p0.2.1, .slice a2 p0.2.2.1.length c2, .slice a3 p0.2.2.2.length c3]] s.w (RetS No s fun v _ => ∃ (a6 : Option Addr) (c6 : Nat), v = .tuple #[.slice a6 r.1.length c6, .int .i64 r.2]) := by
  unfold m_reach_Reachable at hm
  obtain ⟨g, rfl⟩ := ifN hm
  have g0 := g
  refine (reachables_any _ (toAut p0) s.w (rdA h1 h2 h3) (smA_small g0)).mono fun en w' hh => ?_
  obtain ⟨u, rfl, hp, hb⟩ := hh
  exact ⟨u, s.nw w', rfl, rfl, Sig.nw_mv hb, hp.loose⟩
def m_reach_Coreachable (p0 : AutT) : Option (List Int × Int) := if (smA p0) = true then some (lstE (toAut p0).err (corea (toAut p0))) else none
theorem m_reach_Coreachable_c {s : Sig} {p0 : AutT} {a1 : Option Addr} {c1 : Nat} {a2 : Option Addr} {c2 : Nat} {a3 : Option Addr} {c3 : Nat} {r : List Int × Int} (h1 : RdL (rK .i64) s a1 c1 p0.1) (h2 : RdL (rK .i64) s a2 c2 p0.2.2.1) (h3 : RdL rEd s a3 c3 p0.2.2.2) (hm : m_reach_Coreachable p0 = some r) :
    Calls Try.prog 27 #[.agg #[.slice a1 p0.1.length c1, .int .i64 p0.2.1, .slice a2 p0.2.2.1.length c2, .slice a3 p0.2.2.2.length c3]] s.w (RetS No s fun v _ => ∃ (a6 : Option Addr) (c6 : Nat), v = .tuple #[.slice a6 r.1.length c6, .int .i64 r.2]) := by
  unfold m_reach_Coreachable at hm
  obtain ⟨g, rfl⟩ := ifN hm
  have g0 := g
  refine (corea_any _ (toAut p0) s.w (rdA h1 h2 h3) (smA_small g0)).mono fun en w' hh => ?_
  obtain ⟨u, rfl, hp, hb⟩ := hh
  exact ⟨u, s.nw w', rfl, rfl, Sig.nw_mv hb, hp.loose⟩
def m_reach_Dead (p0 : AutT) : Option (List Int × Int) := if (smA p0) = true then some (lstE (toAut p0).err (selL (deadB (toAut p0).es) (toAut p0).n.toNat)) else none
theorem m_reach_Dead_c {s : Sig} {p0 : AutT} {a1 : Option Addr} {c1 : Nat} {a2 : Option Addr} {c2 : Nat} {a3 : Option Addr} {c3 : Nat} {r : List Int × Int} (h1 : RdL (rK .i64) s a1 c1 p0.1) (h2 : RdL (rK .i64) s a2 c2 p0.2.2.1) (h3 : RdL rEd s a3 c3 p0.2.2.2) (hm : m_reach_Dead p0 = some r) :
    Calls Try.prog 28 #[.agg #[.slice a1 p0.1.length c1, .int .i64 p0.2.1, .slice a2 p0.2.2.1.length c2, .slice a3 p0.2.2.2.length c3]] s.w (RetS No s fun v _ => ∃ (a6 : Option Addr) (c6 : Nat), v = .tuple #[.slice a6 r.1.length c6, .int .i64 r.2]) := by
  unfold m_reach_Dead at hm
  obtain ⟨g, rfl⟩ := ifN hm
  have g0 := g
  refine (dead_any _ (toAut p0) s.w (rdA h1 h2 h3) (smA_small g0)).mono fun en w' hh => ?_
  obtain ⟨u, rfl, hp, hb⟩ := hh
  exact ⟨u, s.nw w', rfl, rfl, Sig.nw_mv hb, hp.loose⟩
def m_reach_Trim (p0 : AutT) : Option (AutT × Int) := if (smA p0) = true then some (rstE (toAut p0).err (trimF (toAut p0))) else none
theorem m_reach_Trim_c {s : Sig} {p0 : AutT} {a1 : Option Addr} {c1 : Nat} {a2 : Option Addr} {c2 : Nat} {a3 : Option Addr} {c3 : Nat} {r : AutT × Int} (h1 : RdL (rK .i64) s a1 c1 p0.1) (h2 : RdL (rK .i64) s a2 c2 p0.2.2.1) (h3 : RdL rEd s a3 c3 p0.2.2.2) (hm : m_reach_Trim p0 = some r) :
    Calls Try.prog 34 #[.agg #[.slice a1 p0.1.length c1, .int .i64 p0.2.1, .slice a2 p0.2.2.1.length c2, .slice a3 p0.2.2.2.length c3]] s.w (RetS No s fun v s' => ∃ (a5 : Option Addr) (c5 : Nat) (a6 : Option Addr) (c6 : Nat) (a7 : Option Addr) (c7 : Nat), v = .tuple #[.agg #[.slice a5 r.1.1.length c5, .int .i64 r.1.2.1, .slice a6 r.1.2.2.1.length c6, .slice a7 r.1.2.2.2.length c7], .int .i64 r.2] ∧ RdL (rK .i64) s' a5 c5 r.1.1 ∧ RdL (rK .i64) s' a6 c6 r.1.2.2.1 ∧ RdL rEd s' a7 c7 r.1.2.2.2) := by
  unfold m_reach_Trim at hm
  obtain ⟨g, rfl⟩ := ifN hm
  have g0 := g
  refine (trim_any _ (toAut p0) s.w (rdA h1 h2 h3) (smA_small g0)).mono fun en w' hh => ?_
  obtain ⟨u, rfl, hp, hb⟩ := hh
  exact ⟨u, s.nw w', rfl, rfl, Sig.nw_mv hb, hp.rst⟩
def m_reach_Distances (p0 : AutT) (p1 : List Int) : Option (List Int × Int) := if (smA p0 && decide (p1.length ≤ 1000000)) = true then some (lstE (err2 (toAut p0).err (setErr (toAut p0).n none p1)) (backward (toAut p0).n.toNat (toAut p0).es p1)) else none
theorem m_reach_Distances_c {s : Sig} {p0 : AutT} {p1 : List Int} {a1 : Option Addr} {c1 : Nat} {a2 : Option Addr} {c2 : Nat} {a3 : Option Addr} {c3 : Nat} {a4 : Option Addr} {c4 : Nat} {r : List Int × Int} (h1 : RdL (rK .i64) s a1 c1 p0.1) (h2 : RdL (rK .i64) s a2 c2 p0.2.2.1) (h3 : RdL rEd s a3 c3 p0.2.2.2) (h4 : RdL (rK .i64) s a4 c4 p1) (hm : m_reach_Distances p0 p1 = some r) :
    Calls Try.prog 15 #[.agg #[.slice a1 p0.1.length c1, .int .i64 p0.2.1, .slice a2 p0.2.2.1.length c2, .slice a3 p0.2.2.2.length c3], .slice a4 p1.length c4] s.w (RetS No s fun v _ => ∃ (a6 : Option Addr) (c6 : Nat), v = .tuple #[.slice a6 r.1.length c6, .int .i64 r.2]) := by
  unfold m_reach_Distances at hm
  obtain ⟨g, rfl⟩ := ifN hm
  simp only [Bool.and_eq_true, decide_eq_true_eq] at g
  obtain ⟨g0, g1⟩ := g
  refine (distances_any _ _ (toAut p0) p1 s.w (rdA h1 h2 h3) (smA_small g0) h4.rdI g1).mono fun en w' hh => ?_
  obtain ⟨u, rfl, hp, hb⟩ := hh
  exact ⟨u, s.nw w', rfl, rfl, Sig.nw_mv hb, hp.loose⟩
def m_reach_Closed (p0 : AutT) (p1 : List Int) (p2 : List Int) : Option (Bool × Int) := if (smA p0 && decide (p1.length ≤ 1000000) && decide (p2.length ≤ 1000000)) = true then some (clsE (err2 (toAut p0).err (err2 (setErr (toAut p0).n none p1) (setErr 32 none p2))) (closedL (toAut p0).es p1 p2)) else none
theorem m_reach_Closed_c {s : Sig} {p0 : AutT} {p1 : List Int} {p2 : List Int} {a1 : Option Addr} {c1 : Nat} {a2 : Option Addr} {c2 : Nat} {a3 : Option Addr} {c3 : Nat} {a4 : Option Addr} {c4 : Nat} {a5 : Option Addr} {c5 : Nat} {r : Bool × Int} (h1 : RdL (rK .i64) s a1 c1 p0.1) (h2 : RdL (rK .i64) s a2 c2 p0.2.2.1) (h3 : RdL rEd s a3 c3 p0.2.2.2) (h4 : RdL (rK .i64) s a4 c4 p1) (h5 : RdL (rK .i64) s a5 c5 p2) (hm : m_reach_Closed p0 p1 p2 = some r) :
    Calls Try.prog 22 #[.agg #[.slice a1 p0.1.length c1, .int .i64 p0.2.1, .slice a2 p0.2.2.1.length c2, .slice a3 p0.2.2.2.length c3], .slice a4 p1.length c4, .slice a5 p2.length c5] s.w (RetS No s fun v _ => v = .tuple #[.bool r.1, .int .i64 r.2]) := by
  unfold m_reach_Closed at hm
  obtain ⟨g, rfl⟩ := ifN hm
  simp only [Bool.and_eq_true, decide_eq_true_eq] at g
  obtain ⟨⟨g0, g1⟩, g2⟩ := g
  refine (closed_any _ _ _ (toAut p0) p1 p2 s.w (rdA h1 h2 h3) (smA_small g0) h4.rdI h5.rdI g1 g2).mono fun en w' hh => ?_
  obtain ⟨u, rfl, hp, hb⟩ := hh
  exact ⟨u, s.nw w', rfl, rfl, Sig.nw_mv hb, hp.cls⟩
def m_reach_Interior (p0 : AutT) (p1 : List Int) (p2 : List Int) : Option (List Int × Int) := if (smA p0 && decide (p1.length ≤ 1000000) && decide (p2.length ≤ 1000000)) = true then some (lstE (err2 (toAut p0).err (err2 (setErr (toAut p0).n none p1) (setErr 32 none p2))) (interior (toAut p0).n.toNat (toAut p0).es p1 p2)) else none
theorem m_reach_Interior_c {s : Sig} {p0 : AutT} {p1 : List Int} {p2 : List Int} {a1 : Option Addr} {c1 : Nat} {a2 : Option Addr} {c2 : Nat} {a3 : Option Addr} {c3 : Nat} {a4 : Option Addr} {c4 : Nat} {a5 : Option Addr} {c5 : Nat} {r : List Int × Int} (h1 : RdL (rK .i64) s a1 c1 p0.1) (h2 : RdL (rK .i64) s a2 c2 p0.2.2.1) (h3 : RdL rEd s a3 c3 p0.2.2.2) (h4 : RdL (rK .i64) s a4 c4 p1) (h5 : RdL (rK .i64) s a5 c5 p2) (hm : m_reach_Interior p0 p1 p2 = some r) :
    Calls Try.prog 23 #[.agg #[.slice a1 p0.1.length c1, .int .i64 p0.2.1, .slice a2 p0.2.2.1.length c2, .slice a3 p0.2.2.2.length c3], .slice a4 p1.length c4, .slice a5 p2.length c5] s.w (RetS No s fun v _ => ∃ (a6 : Option Addr) (c6 : Nat), v = .tuple #[.slice a6 r.1.length c6, .int .i64 r.2]) := by
  unfold m_reach_Interior at hm
  obtain ⟨g, rfl⟩ := ifN hm
  simp only [Bool.and_eq_true, decide_eq_true_eq] at g
  obtain ⟨⟨g0, g1⟩, g2⟩ := g
  refine (interior_any _ _ _ (toAut p0) p1 p2 s.w (rdA h1 h2 h3) (smA_small g0) h4.rdI h5.rdI g1 g2).mono fun en w' hh => ?_
  obtain ⟨u, rfl, hp, hb⟩ := hh
  exact ⟨u, s.nw w', rfl, rfl, Sig.nw_mv hb, hp.loose⟩
def m_reach_Cycle (p0 : AutT) (p1 : List Int) : Option (List Int × List Int × Bool × Int) := if (smA p0 && decide (p1.length ≤ 1000000)) = true then some (cycE (err2 (toAut p0).err (setErr 32 none p1)) (cycI (toAut p0).n.toNat (toAut p0).es (fun x => hasB p1 x.e) (reachF (toAut p0).n.toNat (toAut p0).es) 0)) else none
theorem m_reach_Cycle_c {s : Sig} {p0 : AutT} {p1 : List Int} {a1 : Option Addr} {c1 : Nat} {a2 : Option Addr} {c2 : Nat} {a3 : Option Addr} {c3 : Nat} {a4 : Option Addr} {c4 : Nat} {r : List Int × List Int × Bool × Int} (h1 : RdL (rK .i64) s a1 c1 p0.1) (h2 : RdL (rK .i64) s a2 c2 p0.2.2.1) (h3 : RdL rEd s a3 c3 p0.2.2.2) (h4 : RdL (rK .i64) s a4 c4 p1) (hm : m_reach_Cycle p0 p1 = some r) :
    Calls Try.prog 32 #[.agg #[.slice a1 p0.1.length c1, .int .i64 p0.2.1, .slice a2 p0.2.2.1.length c2, .slice a3 p0.2.2.2.length c3], .slice a4 p1.length c4] s.w (RetS No s fun v _ => ∃ (a6 : Option Addr) (c6 : Nat) (a7 : Option Addr) (c7 : Nat), v = .tuple #[.slice a6 r.1.length c6, .slice a7 r.2.1.length c7, .bool r.2.2.1, .int .i64 r.2.2.2]) := by
  unfold m_reach_Cycle at hm
  obtain ⟨g, rfl⟩ := ifN hm
  simp only [Bool.and_eq_true, decide_eq_true_eq] at g
  obtain ⟨g0, g1⟩ := g
  refine (cycle_any _ _ (toAut p0) p1 s.w (rdA h1 h2 h3) (smA_small g0) h4.rdI g1).mono fun en w' hh => ?_
  obtain ⟨u, rfl, hp, hb⟩ := hh
  exact ⟨u, s.nw w', rfl, rfl, Sig.nw_mv hb, hp.loose⟩
end Go.Proofs.Ythchkddhibhenaa

namespace Go.Proofs.Ythchkddhibhenaa
open Go Go.RowKit
/-- What a region has laid into a slot. -/
abbrev G (D : Nat → Bool) (e : List (Nat × Value)) (k t : Nat) (v : Value) : Prop := D k = true → Env.get e t = some v
/-! Short names (press5.py). -/
theorem R {α : Sort _} {a : α} : a = a := rfl
theorem oi {α : Type} {a b : α} (h : some a = some b) : a = b := Option.some.inj h
theorem nb {i j : Nat} (h : Nat.ble i j = true) : i ≤ j := Nat.le_of_ble_eq_true h
end Go.Proofs.Ythchkddhibhenaa

namespace Go.Proofs.Ythchkddhibhenaa
open Go Go.RowKit

/-- What the calls of yield do, round by round. -/
def Yd (P : Program) (l N : Nat) (enc : Nat → List Value) (J : Nat → Sig → Prop) : Prop :=
  ∀ k, k < N → ∀ s, J k s → YieldAt Fence.wide 2 P l (enc k).toArray s.w fun e W' => e = .returned (.bool true) ∧ ∃ s', W' = s'.w ∧ Le s s' ∧ J (k + 1) s'
/-- A function that calls yield for each of N items, in order. -/
def FI (P : Program) (s : Sig) (v : Value) (N : Nat) (enc : Nat → List Value) : Prop :=
  ∃ gf lb, v = .func (.func gf) #[] lb ∧ Cf P gf ∧ ∀ (l : Nat) (J : Nat → Sig → Prop) (s1 : Sig), Le s s1 → (∀ k a b, J k a → Mv No a b → J k b) → Yd P l N enc J → J 0 s1 →
    Calls P gf (#[.func (.yield l) #[] #[]] ++ lb) s1.w fun e W' => (∃ v, e = .returned v) ∧ ∃ s2, W' = s2.w ∧ J N s2
/-- What has stayed since a world of earlier on. -/
def Lf (s0 s : Sig) : Prop := Le s0 s
theorem Lf.mono {s0 s s' : Sig} (h : Lf s0 s) (m : Le s s') : Lf s0 s' := Le.trans h m
/-- The record of a range over a function (tag t), and the block for what its rounds defer (tag u). -/
structure Rc (s : Sig) (t u D : Nat) (r : Loop) : Prop where
  lp : s.w.heap[D + 1]? = some (.loop r)
  mark : s.w.heap[D]? = some (.deferred (some []))
  tr : s.tag (D + 1) = t
  tm : s.tag D = u
theorem Rc.mv {S : Nat → Prop} {s s' : Sig} {t u D : Nat} {r : Loop} (h : Rc s t u D r) (m : Mv S s s') (hn : ¬ S t) (hu : ¬ S u) : Rc s' t u D r := by
  obtain ⟨g1, g2⟩ := m.blk (D + 1) (Array.getElem?_eq_some_iff.1 h.lp).1 (by rw [h.tr]; exact hn)
  obtain ⟨g3, g4⟩ := m.blk D (Array.getElem?_eq_some_iff.1 h.mark).1 (by rw [h.tm]; exact hu)
  exact ⟨g1.trans h.lp, g3.trans h.mark, g2.trans h.tr, g4.trans h.tm⟩
/-- The mark that a range over a function has left. -/
structure Mk (s : Sig) (t D : Nat) : Prop where
  mark : s.w.heap[D]? = some (.deferred (some []))
  tm : s.tag D = t
/-- A record is turned. -/
theorem Rc.put {s : Sig} {t u D : Nat} {r : Loop} (h : Rc s t u D r) (r' : Loop) : Mv (One t) s ⟨s.w.putObj (D + 1) (.loop r'), s.tag⟩ ∧ Rc ⟨s.w.putObj (D + 1) (.loop r'), s.tag⟩ t u D r' := by
  have hl := (Array.getElem?_eq_some_iff.1 h.lp).1
  refine ⟨⟨rfl, rfl, rfl, by simp [World.putObj], fun b hb hn => ⟨World.putObj_heap_other fun e => hn ?_, rfl⟩⟩, ⟨World.putObj_heap_same hl, (World.putObj_heap_other (by omega)).trans h.mark, h.tr, h.tm⟩⟩
  subst e; exact h.tr
def Env.zp : List Nat → List Value → List (Nat × Value) → List (Nat × Value)
  | p :: ps, v :: vs, e => Env.zp ps vs ((p, v) :: e)
  | _, _, e => e
theorem Fits.zp {Φ : Fr} {n : Nat} : ∀ {ps : List Nat} {vs : List Value} {e : List (Nat × Value)} {a : Act}, (∀ p ∈ ps, p < n) → Fits Φ n e a →
    Fits Φ n (Env.zp ps vs e) { a with tmps := (ps.zip vs).foldl (fun t (p, v) => t.setIfInBounds p v) a.tmps }
  | [], _, _, _, _, h => by simpa [Env.zp] using h
  | _ :: _, [], _, _, _, h => by simpa [Env.zp] using h
  | p :: ps, v :: vs, e, a, hp, h => by
    have := Fits.zp (ps := ps) (vs := vs) (fun q hq => hp q (List.mem_cons_of_mem _ hq)) (h.put (d := p) (by simpa using hp p (List.mem_cons_self ..)) v)
    simpa [Env.zp, Act.put] using this
/-- A round has gone through. -/
def RQ (K : Sig → Prop) : Exit → Act → World → Prop
  | .normal, _, W => ∃ c : Sig, W = c.w ∧ K c
  | _, _, _ => False
/-- A round's body is still to come. -/
def RB (Φ : Fr) (P : Program) (l : Nat) (body : Code) (K : Sig → Prop) (a : Act) (w : World) : Prop := ∃ w₂, (Instr.beginRound l).run P w = .ok () w₂ ∧ body.wpIn Φ.f 2 P (RQ K) a w₂
theorem X.beg {Φ : Fr} {P : Program} {n t u D : Nat} {r : Loop} {body : Code} {K : Sig → Prop} {e : List (Nat × Value)} {s : Sig} (h : Rc s t u D r) (hr : r.state = .ready)
    (hb : ∀ s', Mv (One t) s s' → Rc s' t u D { r with state := .busy } → E Φ P (RQ K) n body e s'.w) : X Φ (Exit.then (RB Φ P (D + 1) body K) (fun _ _ _ => False)) n .normal e s.w := fun a ha =>
  ⟨_, run_beginRound h.lp hr, hb _ (h.put _).1 (h.put _).2 a ha⟩
theorem X.rnd {Φ : Fr} {n : Nat} {K : Sig → Prop} {e : List (Nat × Value)} {s : Sig} (h : K s) : X Φ (RQ K) n .normal e s.w := fun _ _ => ⟨s, rfl, h⟩
theorem E.range {ds : List Deferred} {P : Program} {Q : Exit → Act → World → Prop} {n : Nat} {e : List (Nat × Value)} {s : Sig} {g : Operand} {ps : Array Tmp} {assign body : Code} {v : Value} {N : Nat} {enc : Nat → List Value} (t u : Nat) (ht : t ≠ 0) (htu : t ≠ u)
    (J : Nat → Sig → Prop) (hg : Env.ev e g = some v) (hit : FI P s v N enc) (hps : ∀ k, (enc k).length = ps.size) (hpn : ∀ p ∈ ps.toList, p < n) (h0 : J 0 s)
    (hbody : ∀ (k D : Nat) (r : Loop) (a b : Sig), k < N → J k a → Mv (One t) a b → Rc b t u D r → r.state = .ready →
      E ⟨some (D + 1), []⟩ P (Exit.then (RB ⟨some (D + 1), []⟩ P (D + 1) body (fun c => J (k + 1) c ∧ Rc c t u D { r with state := .busy } ∧ Le b c)) (fun _ _ _ => False)) n assign (Env.zp ps.toList (enc k) e) b.w)
    (hend : ∀ (D : Nat) (a b : Sig), s.w.heap.size ≤ D → J N a → Mv (One t) a b → Mk b u D → X ⟨none, mark D :: ds⟩ Q n .normal e b.w) : E ⟨none, ds⟩ P Q n (.rangeFunc g ps assign body) e s.w := by
  obtain ⟨gf, lb, rfl, hcf, hit⟩ := hit
  intro ac ha
  refine wpIn_rangeFunc ?_
  intro fn _
  obtain ⟨r0, hr0⟩ : ∃ r0 : Loop, r0 = { state := .ready, pending := none, fn, tmps := ac.tmps, params := ps, assign, body, defers := s.w.heap.size } := ⟨_, rfl⟩
  obtain ⟨W1, hW1⟩ : ∃ W1, (s.w.alloc (.deferred (some []))).alloc (.loop r0) = W1 := ⟨_, rfl⟩
  have hsz : (s.w.alloc (.deferred (some []))).heap.size = s.w.heap.size + 1 := World.size_alloc _ _
  have hL1 : W1.heap[s.w.heap.size + 1]? = some (.loop r0) := by
    rw [← hW1]; have := World.alloc_heap_new (s.w.alloc (.deferred (some []))) (.loop r0); rwa [World.size_alloc] at this
  have hK1 : W1.heap[s.w.heap.size]? = some (.deferred (some [])) := by
    rw [← hW1]; exact (Below.heap_alloc _ _ _ (by simp)).trans (World.alloc_heap_new s.w _)
  have hb1 : Below s.w.heap.size s.w W1 := by
    rw [← hW1]; exact ((Below.refl _ s.w).alloc (Nat.le_refl _) _).alloc (by simp) _
  obtain ⟨tg, htg⟩ : ∃ tg : Nat → Nat, tg = fun b => if b < s.w.heap.size then s.tag b else if b = s.w.heap.size then u else t := ⟨_, rfl⟩
  have hm1 : Mv No s ⟨W1, tg⟩ := Below.mv hb1 fun b hb => by rw [htg]; exact if_pos hb
  have hRc1 : Rc ⟨W1, tg⟩ t u s.w.heap.size r0 := ⟨hL1, hK1, by rw [htg]; exact (if_neg (by omega)).trans (if_neg (by omega)), by rw [htg]; exact (if_neg (by omega)).trans (if_pos rfl)⟩
  have hev : ac.eval g = .func (.func gf) #[] lb := ha.ev hg
  refine ⟨s.w.heap.size + 1, [{ target := .collected s.w.heap.size, args := #[] }], W1, { target := .fn (.func gf) lb, args := #[.func (.yield (s.w.heap.size + 1)) #[] #[]] }, W1, gf,
    #[.func (.yield (s.w.heap.size + 1)) #[] #[]] ++ lb, W1, ?_, ?_, ?_, ?_, fun e => (by cases e), ?_⟩
  · rw [← hW1, hr0]; exact run_enterLoop_outer _ _ _ _ _
  · simp only [resolve, hev]
    simp [go_sem]
  · intro f' _; trivial
  · have := hcf (#[.func (.yield (s.w.heap.size + 1)) #[] #[]] ++ lb) W1
    simp [invoke, go_sem] at this ⊢
    exact this
  · obtain ⟨J', hJ'⟩ : ∃ J' : Nat → Sig → Prop, J' = fun k b => (∃ a, J k a ∧ Mv (One t) a b) ∧ Rc b t u s.w.heap.size r0 := ⟨_, rfl⟩
    have h := hit (s.w.heap.size + 1) J' ⟨W1, tg⟩ (hm1.le no_No) (by
      intro k a b hk hm
      rw [hJ'] at hk ⊢
      obtain ⟨⟨a0, h1, h2⟩, h3⟩ := hk
      exact ⟨⟨a0, h1, h2.trans hm.no⟩, h3.mv hm no_No no_No⟩) (by
      intro k hkN a hk
      rw [hJ'] at hk ⊢
      obtain ⟨⟨a0, h1, h2⟩, h3⟩ := hk
      have hy := run_yield (P := P) (args := (enc k).toArray) h3.lp (by rw [hr0]; simpa using hps k)
      rw [hr0] at hy
      refine ⟨fn, _, assign, body, hy, roundIn_of_wpIn trivial ?_⟩
      have hf0 : Fits ⟨some (s.w.heap.size + 1), []⟩ n e { tmps := ac.tmps, defers := [] } := ⟨ha.size, rfl, ha.has⟩
      have hf := hf0.zp (ps := ps.toList) (vs := enc k) hpn
      have hfold : (Array.zip ps (enc k).toArray).foldl (fun t (x : Tmp × Value) => t.setIfInBounds x.1 x.2) ac.tmps = (ps.toList.zip (enc k)).foldl (fun t (x : Nat × Value) => t.setIfInBounds x.1 x.2) ac.tmps := by
        rw [← Array.foldl_toList, Array.toList_zip]
      have hb := hbody k s.w.heap.size r0 a0 a hkN h1 h2 h3 (by rw [hr0]) _ hf
      rw [← hfold] at hb
      refine wpIn_mono hb fun ex a1 w1 hq => ?_
      cases ex <;> first | exact hq | skip
      obtain ⟨w2, hq1, hq2⟩ := hq
      refine ⟨w2, hq1, wpIn_mono hq2 fun ex a3 w3 hq => ?_⟩
      cases ex <;> first | exact hq.elim | skip
      obtain ⟨c, rfl, hJc, hRc, hle⟩ := hq
      obtain ⟨g1, g2⟩ := hRc.put r0
      have hend := run_endRound (P := P) none hRc.lp
      refine ⟨_, _, hend, rfl, ⟨c.w.putObj (s.w.heap.size + 1) (.loop r0), c.tag⟩, ?_, hle.trans (g1.le (Ne.symm ht)), ⟨c, hJc, g1⟩, g2⟩
      rw [hr0]; rfl) (by
      rw [hJ']
      exact ⟨⟨s, h0, hm1.no⟩, hRc1⟩)
    refine (callsIn_wide (n := 1)).2 (h.mono ?_)
    rintro en W2 ⟨⟨vv, rfl⟩, s2, rfl, h5⟩
    rw [hJ'] at h5
    obtain ⟨⟨a0, h1, h2⟩, h3⟩ := h5
    obtain ⟨g1, g2⟩ := h3.put { r0 with state := .exhausted, pending := none }
    have hen := run_endLoop (P := P) h3.lp (by rw [hr0]; simp)
    rw [show r0.pending = none by rw [hr0]] at hen
    refine ⟨none, _, hen, ?_⟩
    refine hend s.w.heap.size a0 _ (Nat.le_refl _) h1 (h2.trans g1) ⟨g2.mark, g2.tm⟩ _ ?_
    exact ⟨ha.size, by rw [← show ac.defers = ds from ha.defers]; rfl, ha.has⟩

theorem L.opIn {Φ : Fr} {P : Program} {Q : Exit → Act → World → Prop} {n : Nat} {e : List (Nat × Value)} {w : World} {ops : Array Oper} {os : List Oper} {o : Oper} (hw : Wt ops e o.guard) (h : ∀ a, Fits Φ n e a → ∀ K : Act → World → Prop, (∀ e' a' w', Fits Φ n e' a' → L Φ P Q n ops os e' w' → K a' w') → o.wpIn Φ.f 2 P a w K Q) : L Φ P Q n ops (o :: os) e w := fun is his a ha => by
  cases is with
  | nil => cases his
  | cons i rest =>
    simp only [List.map_cons, List.cons.injEq] at his
    obtain ⟨h1, h2⟩ := his
    simp only [wpOpsIn, h1]
    rw [if_pos (Wt.wanted ha hw)]
    exact h a ha _ fun e' a' w' hf hl => hl rest h2 a' hf
/-- A call of yield, in a plain frame. -/
theorem L.yd {P : Program} {Q : Exit → Act → World → Prop} {n : Nat} {e : List (Nat × Value)} {s : Sig} {ops : Array Oper} {os : List Oper} {d : Nat} {ty : TypeId} {pos : String} {af : Array Edge} {g : Option (Nat × Bool)} {c : Call} {x : Operand} {xs : List Operand} {l N k : Nat} {enc : Nat → List Value} {J : Nat → Sig → Prop}
    (hY : Yd P l N enc J) (hk : k < N) (hJ : J k s) (hc : c.callee = .value x) (hca : c.args = xs.toArray) (hw : Wt ops e g) (hx : Env.ev e x = some (.func (.yield l) #[] #[])) (hxs : Env.evs e xs = some (enc k)) (hd : Nat.blt d n = true)
    (h : ∀ s', Le s s' → J (k + 1) s' → L Fr.o P Q n ops os ((d, .bool true) :: e) s'.w) : L Fr.o P Q n ops (⟨some d, .call c, ty, pos, af, g⟩ :: os) e s.w :=
  L.opIn hw fun ac ha K hK => by
    obtain ⟨fn, tmps, assign, body, hy, hR⟩ := hY k hk s hJ
    refine ⟨fun _ _ => trivial, ?_⟩
    have h2 : c.args.map ac.eval = (enc k).toArray := by rw [hca, List.map_toArray, ha.evs hxs]
    have h3 : ac.eval x = .func (.yield l) #[] #[] := ha.ev hx
    have hrun : (Oper.semAt Fr.o.f.round ac.eval ⟨some d, .call c, ty, pos, af, g⟩).run P s.w = .ok (.round l fn tmps assign body) s.w := by
      show (execOp ac.eval ⟨some d, .call c, ty, pos, af, g⟩).run P s.w = _
      simp [execOp, resolve, hc, h2, h3, Deferred.ofValue, invoke, hy]
    rw [hrun]
    refine ⟨fun e => (by cases e), ?_⟩
    have hR1 : RoundIn Fr.o.f (2 - 1) P l fn tmps assign body s.w fun e W' => e = .returned (.bool true) ∧ ∃ s', W' = s'.w ∧ Le s s' ∧ J (k + 1) s' := ⟨trivial, fun c cs hr => hR.2 c cs (fun d hd => by cases hd)⟩
    refine hR1.mono ?_
    rintro en W' ⟨rfl, s', rfl, hle, hJ'⟩
    exact hK _ _ _ (ha.put hd (.bool true)) (h s' hle hJ')

/-- The rounds of a range, k the number of the next one, m how many are to come. -/
def rngF {S : Type} (f : Nat → S → Option S) : Nat → Nat → S → Option S
  | 0, _, s => some s
  | m + 1, k, s => (f k s).bind (rngF f m (k + 1))
theorem rng_step {S : Type} {f : Nat → S → Option S} {N k : Nat} {s o : S} (hk : k < N) (h : rngF f (N - k) k s = some o) : ∃ s', f k s = some s' ∧ rngF f (N - (k + 1)) (k + 1) s' = some o := by
  rw [show N - k = (N - (k + 1)) + 1 by omega, rngF] at h
  exact Option.bind_eq_some_iff.1 h
theorem rng_end {S : Type} {f : Nat → S → Option S} {N : Nat} {s o : S} (h : rngF f (N - N) N s = some o) : s = o := by
  rw [Nat.sub_self, rngF] at h
  exact Option.some.inj h
/-- The marks that ranges over functions have left. -/
def Mks (s : Sig) (t : Nat) (ds : List Deferred) : Prop := ∃ Ds : List Nat, ds = Ds.map mark ∧ Ds.Nodup ∧ ∀ D ∈ Ds, s.w.heap[D]? = some (.deferred (some [])) ∧ s.tag D = t
theorem Mks.nil {s : Sig} {t : Nat} : Mks s t [] := ⟨[], rfl, List.nodup_nil, fun _ h => by cases h⟩
theorem Mks.mv {S : Nat → Prop} {s s' : Sig} {t : Nat} {ds : List Deferred} (h : Mks s t ds) (m : Mv S s s') (hn : ¬ S t) : Mks s' t ds := by
  obtain ⟨Ds, h1, h2, h3⟩ := h
  refine ⟨Ds, h1, h2, fun D hD => ?_⟩
  obtain ⟨g1, g2⟩ := h3 D hD
  obtain ⟨g3, g4⟩ := m.blk D (Array.getElem?_eq_some_iff.1 g1).1 (by rw [g2]; exact hn)
  exact ⟨g3.trans g1, g4.trans g2⟩
theorem Mks.old {s : Sig} {t : Nat} {ds : List Deferred} (h : Mks s t ds) : ∀ D, mark D ∈ ds → D < s.w.heap.size := by
  obtain ⟨Ds, rfl, _, h3⟩ := h
  intro D hD
  obtain ⟨D', h4, h5⟩ := List.mem_map.1 hD
  cases h5
  exact (Array.getElem?_eq_some_iff.1 (h3 _ h4).1).1
theorem Mks.cons {s : Sig} {t D N : Nat} {ds : List Deferred} (h : Mks s t ds) (ho : ∀ D, mark D ∈ ds → D < N) (hD : N ≤ D) (hk : Mk s t D) : Mks s t (mark D :: ds) := by
  obtain ⟨Ds, rfl, h2, h3⟩ := h
  refine ⟨D :: Ds, rfl, List.nodup_cons.2 ⟨fun hm => ?_, h2⟩, fun D' hD' => ?_⟩
  · have := ho D (List.mem_map.2 ⟨D, hm, rfl⟩); omega
  · rcases List.mem_cons.1 hD' with rfl | h4
    · exact ⟨hk.mark, hk.tm⟩
    · exact h3 D' h4
theorem leavesT {F : Fence} {n : Nat} {P : Program} {fn : Func} {tmps : Array Value} {R : Ending → World → Prop} {t : Nat} : ∀ (Ds : List Nat) (s : Sig), Ds.Nodup → (∀ D ∈ Ds, s.w.heap[D]? = some (.deferred (some [])) ∧ s.tag D = t) →
    (∀ s', Mv (One t) s s' → ∃ v, (results fn tmps).run P s'.w = .ok v s'.w ∧ R (.returned v) s'.w) → LeavesInM F n P fn tmps R (Ds.map mark) .returning s.w
  | [], s, _, _, hfin => hfin s (Mv.refl _ _)
  | D :: Ds, s, hnd, hD, hfin => by
    obtain ⟨hd, ht⟩ := hD D (List.mem_cons_self ..)
    have hm : Mv (One t) s ⟨s.w.putObj D (.deferred none), s.tag⟩ := by
      refine ⟨rfl, rfl, rfl, by simp [World.putObj], fun b hb hn => ⟨World.putObj_heap_other fun e => hn ?_, rfl⟩⟩
      subst e; exact ht
    refine ⟨by simp, .inl ⟨D, _, rfl, run_takeDeferred hd, leavesT Ds ⟨s.w.putObj D (.deferred none), s.tag⟩ (List.nodup_cons.1 hnd).2 (fun D' hD' => ⟨?_, (hD D' (List.mem_cons_of_mem _ hD')).2⟩) fun s' hs' => hfin s' (hm.trans hs')⟩⟩
    show (s.w.putObj D (.deferred none)).heap[D']? = _
    rw [World.putObj_heap_other ?_]
    · exact (hD D' (List.mem_cons_of_mem _ hD')).1
    · rintro rfl; exact (List.nodup_cons.1 hnd).1 hD'
/-- A way out of a function that has ranged over functions. -/
theorem X.lv {P : Program} {fn : Func} {R : Ending → World → Prop} {n t : Nat} {e : List (Nat × Value)} {s : Sig} {ds : List Deferred} {x : Exit} (hx : x = .ret ∨ x = .normal) (hk : Mks s t ds) (h : ∀ s', Mv (One t) s s' → X Fr.o (bodyPost P fn R) n x e s'.w) :
    X ⟨none, ds⟩ (bodyPostM Fence.wide 4 P fn R) n x e s.w := fun a ha => by
  obtain ⟨Ds, rfl, h2, h3⟩ := hk
  have hl : LeavesInM Fence.wide 4 P fn a.tmps R (Ds.map mark) .returning s.w := leavesT Ds s h2 h3 fun s' hs' => by
    have := h s' hs' { a with defers := [] } ⟨ha.size, rfl, ha.has⟩
    rcases hx with rfl | rfl
    · exact this.2
    · exact this.2
  obtain ⟨tmps, dd⟩ := a
  obtain rfl : dd = Ds.map mark := ha.defers
  rcases hx with rfl | rfl
  · exact hl
  · exact hl
theorem E.entryM {P : Program} {f : FuncId} {fn : Func} {c : Code} {vs : List Value} {w : World} {R : Ending → World → Prop} {n : Nat} {e : List (Nat × Value)} (hf : P.funcs[f]? = some fn) (hb : fn.body = some c) (hn : fn.ntmps = n) (hv : Nat.ble vs.length n = true) (he : Env.ofArgs 0 vs = e)
    (h : E Fr.o P (bodyPostM Fence.wide 4 P fn R) n c e w) : Calls P f vs.toArray w R := by
  subst hn
  subst he
  have hv' : vs.length ≤ fn.ntmps := Nat.le_of_ble_eq_true hv
  refine calls_of_marks hf hb ((wpIn_wide (n := 2)).1 (h _ ⟨by simp; omega, rfl, fun d v hg => ?_⟩))
  obtain ⟨_, h2⟩ := Env.get_ofArgs hg
  have hl := (List.getElem?_eq_some_iff.1 h2).1
  rw [Nat.sub_zero] at h2 hl
  rw [Array.getElem?_append_left (by simpa using hl)]
  simpa using h2
section
variable {r : Option Nat} {ds0 : List Deferred} {P : Program} {Q : Exit → Act → World → Prop} {n : Nat} {e e' : List (Nat × Value)} {w : World}
theorem E.seqJM {x y : Code} (J : List (Nat × Value) → World → List Deferred → Prop) (hy : ∀ e w ds, J e w ds → E ⟨r, ds⟩ P Q n y e w)
    (h : (∀ e w ds, J e w ds → X ⟨r, ds⟩ (Exit.then (y.wpIn (Fr.f ⟨r, ds0⟩) 2 P Q) Q) n .normal e w) → E ⟨r, ds0⟩ P (Exit.then (y.wpIn (Fr.f ⟨r, ds0⟩) 2 P Q) Q) n x e w) : E ⟨r, ds0⟩ P Q n (.seq x y) e w :=
  E.seq (h fun e w ds hj => X.seqN (hy e w ds hj))
theorem E.cutM {x : Exit} {c : Code} (J : List (Nat × Value) → World → List Deferred → Prop) (hj : ∀ e w ds, J e w ds → X ⟨r, ds⟩ Q n x e w) (h : (∀ e w ds, J e w ds → X ⟨r, ds⟩ Q n x e w) → E ⟨r, ds0⟩ P Q n c e w) : E ⟨r, ds0⟩ P Q n c e w := h hj
theorem EiterM {S O : Type} {f : S → Option (S ⊕ O)} {o : O} {st0 : S} {c : Code} (I : S → List (Nat × Value) → World → List Deferred → Prop) (hi : iter f st0 = some o) (h0 : I st0 e' w ds0) (hs : Sub e' e)
    (round : ∀ st res, f st = some res → (∀ st', res = .inl st' → ∀ e w ds, I st' e w ds → X ⟨r, ds⟩ (Exit.then (LW ⟨r, []⟩ P Q c) Q) n .normal e w) → (∀ o', res = .inr o' → o' = o) → ∀ e w ds, I st e w ds → E ⟨r, ds⟩ P (Exit.then (LW ⟨r, []⟩ P Q c) Q) n c e w) : E ⟨r, ds0⟩ P Q n (.loop c) e w := by
  refine E.loop (H.sub hs ?_)
  exact Iter.ind (motive := fun st => ∀ e w ds, I st e w ds → H ⟨r, ds⟩ P Q n c e w) (fun st res h1 h2 h3 e w ds hI => H.round (Φ := ⟨r, ds⟩) (round st res h1 (fun st' e' e w ds hI => X.again (h2 st' e' e w ds hI)) h3 e w ds hI)) (iter_some hi) _ _ _ h0
end
end Go.Proofs.Ythchkddhibhenaa

namespace Go.Proofs.Ythchkddhibhenaa
open Go Go.RowKit
theorem bwNi : NAg Try.prog 28 := NAg.mk' Try.underlying28 rfl (by kernel_rfl)
theorem bwNn : NAg Try.prog 3 := NAg.mk' Try.underlying3 rfl (by kernel_rfl)
theorem bwSi : Sl Try.prog 28 3 1 := Sl.mk' Try.underlying28 (by kernel_rfl)
theorem bwCf : Cf Try.prog 89 := Cf.mk Try.func89 (by kernel_rfl) (by kernel_rfl)
/-- A place and its element as a round's arguments. -/
def encB (x : Int × Int) : List Value := [.int .i64 x.1, .int .i64 x.2]
/-- The places of a list with their elements, from the last one on. -/
def m_slices_Backward_int (p0 : List Int) : Option (List (Int × Int)) := if p0.length ≤ 4294967296 then some ((List.range p0.length).map fun k => (((p0.length - 1 - k : Nat) : Int), p0.getD (p0.length - 1 - k) 0)) else none
set_option maxRecDepth 100000 in
set_option maxHeartbeats 8000000 in
theorem backward1_fi {s : Sig} {q0 : List Int} {r : List (Int × Int)} {a1 : Option Addr} {c1 : Nat} {b2 : Nat} (h1 : RdL (rK .i64) s a1 c1 q0) (bx2 : Bx s 0 b2 #[.slice a1 q0.length c1] 28) (hr : m_slices_Backward_int q0 = some r) :
    FI Try.prog s (.func (.func 89) #[] #[.pointer (some ⟨b2, 0, none⟩)]) r.length (fun k => encB (r.getD k (0, 0))) := by
 obtain ⟨hlen, rfl⟩ : q0.length ≤ 4294967296 ∧ (List.range q0.length).map (fun k => (((q0.length - 1 - k : Nat) : Int), q0.getD (q0.length - 1 - k) 0)) = r := by
  unfold m_slices_Backward_int at hr
  split at hr
  · exact ⟨by assumption, Option.some.inj hr⟩
  · cases hr
 have hrl : ((List.range q0.length).map fun k => (((q0.length - 1 - k : Nat) : Int), q0.getD (q0.length - 1 - k) 0)).length = q0.length := by rw [List.length_map, List.length_range]
 have hrg : ∀ k, k < q0.length → ((List.range q0.length).map fun k => (((q0.length - 1 - k : Nat) : Int), q0.getD (q0.length - 1 - k) 0)).getD k (0, 0) = (((q0.length - 1 - k : Nat) : Int), q0.getD (q0.length - 1 - k) 0) := fun k hk => by
  rw [List.getD_eq_getElem?_getD, List.getElem?_map, List.getElem?_range hk]; rfl
 generalize ((List.range q0.length).map fun k => (((q0.length - 1 - k : Nat) : Int), q0.getD (q0.length - 1 - k) 0)) = r at hrl hrg
 rw [hrl]
 refine ⟨89, #[.pointer (some ⟨b2, 0, none⟩)], rfl, bwCf, fun l J s1 hle hcl hY h0 => ?_⟩
 replace h1 := h1.mono hle
 replace bx2 := bx2.le hle
 obtain ⟨f, hf⟩ : ∃ f : Int → Option (Int ⊕ Unit), f = fun i => if decide (i ≥ 0) then some (.inl (W (i - 1))) else some (.inr ()) := ⟨_, rfl⟩
 have hW : ∀ i : Nat, i ≤ q0.length → W ((q0.length : Int) - (i : Int) - 1) = (q0.length : Int) - ((i + 1 : Nat) : Int) := fun i hi => by rw [show W ((q0.length : Int) - (i : Int) - 1) = (q0.length : Int) - (i : Int) - 1 from IntWalk.i64_in _ (by omega)]; omega
 have hit : iter f ((q0.length : Int) - 1) = some () := by
  refine iter_run (fun i => (q0.length : Int) - ((i + 1 : Nat) : Int)) q0.length (by omega) (fun i hi => ?_) ?_
  · rw [hf]
    show (if decide ((q0.length : Int) - ((i + 1 : Nat) : Int) ≥ 0) then some (Sum.inl (W ((q0.length : Int) - ((i + 1 : Nat) : Int) - 1))) else some (Sum.inr ())) = some (Sum.inl ((q0.length : Int) - ((i + 1 + 1 : Nat) : Int)))
    rw [if_pos (by simp; omega), hW (i + 1) (by omega)]
  · rw [hf]
    show (if decide ((q0.length : Int) - ((q0.length + 1 : Nat) : Int) ≥ 0) then some (Sum.inl (W ((q0.length : Int) - ((q0.length + 1 : Nat) : Int) - 1))) else some (Sum.inr ())) = some (Sum.inr ())
    rw [if_neg (by simp; omega)]
 refine E.entry (vs := [.func (.yield l) #[] #[], .pointer (some ⟨b2, 0, none⟩)]) Try.func89 rfl Try.ntmps89 rfl rfl (E.seq (E.reg (L.ld (j := 0) bx2.mem bwNi Wt.no rfl rfl rfl rfl (L.len bwSi Wt.no rfl rfl (L.bi Wt.no rfl rfl rfl rfl (L.as Wt.no rfl rfl (L.nil (X.seqN (E.block ?_)))))))))
 have hW0 : W ((q0.length : Int) - 1) = (q0.length : Int) - 1 := by rw [show W ((q0.length : Int) - 1) = (q0.length : Int) - 1 from IntWalk.i64_in _ (by omega)]
 have hit2 : iter f (W ((q0.length : Int) - 1)) = some () := by rw [hW0]; exact hit
 refine E.cut (x := .exit 0) (fun e w => ∃ (s46 : Sig), J q0.length s46 ∧ e = [] ∧ w = s46.w) ?_ ?_
 · rintro _ _ ⟨s46, hJ, rfl, rfl⟩
   refine X.blkE ?_
   exact X.rt (.inr rfl) Try.results89 Rs.nil rfl ⟨⟨_, rfl⟩, s46, rfl, hJ⟩
 intro K47
 refine E.iter (fun (st43 : Int) (e : List (Nat × Value)) (w : World) => ∃ (k : Nat) (s44 : Sig), st43 = (q0.length : Int) - ((k + 1 : Nat) : Int) ∧ k ≤ q0.length ∧ J k s44 ∧ RdL (rK .i64) s44 a1 c1 q0 ∧ Bx s44 0 b2 #[.slice a1 q0.length c1] 28 ∧ e = [(3, .int .i64 st43), (0, .func (.yield l) #[] #[]), (1, .pointer (some ⟨b2, 0, none⟩))] ∧ w = s44.w) hit2 ⟨0, s1, hW0, Nat.zero_le _, h0, h1, bx2, rfl, rfl⟩ (Sub.rf rfl) ?_
 rintro st43 res43 hm ih43 ho43 _ _ ⟨k, s44, rfl, hk, hJ, h1, bx2, rfl, rfl⟩
 rw [hf] at hm
 refine E.seq (E.seq (E.reg (L.mv Wt.no rfl rfl (L.bi Wt.no rfl rfl rfl rfl (L.nil (X.seqN ?_))))))
 rcases ifS hm with ⟨hc, hm⟩ | ⟨hc, hm⟩
 · have hk2 : k < q0.length := by simp at hc; omega
   have hn1 : (q0.length : Int) - ((k + 1 : Nat) : Int) = ((q0.length - 1 - k : Nat) : Int) := by omega
   have hlt : q0.length - 1 - k < q0.length := by omega
   have ex18 : idx q0 ((q0.length : Int) - ((k + 1 : Nat) : Int)) = some q0[q0.length - 1 - k] := by rw [hn1, idx_nat, List.getElem?_eq_getElem hlt]
   have hgd : q0.getD (q0.length - 1 - k) 0 = q0[q0.length - 1 - k] := by rw [List.getD_eq_getElem?_getD, List.getElem?_eq_getElem hlt]; rfl
   have henc : [Value.int .i64 ((q0.length : Int) - ((k + 1 : Nat) : Int)), Value.int .i64 q0[q0.length - 1 - k]] = encB (r.getD k (0, 0)) := by rw [hrg k hk2, hgd, hn1]; rfl
   generalize q0[q0.length - 1 - k] = x18 at ex18 henc
   refine E.cT rfl hc (E.skip (X.seqN (E.seq (E.block (E.seq (E.reg (L.mv Wt.no rfl rfl (L.mv Wt.no rfl rfl (L.ld (j := 0) bx2.mem bwNi Wt.no rfl rfl rfl rfl (L.mv Wt.no rfl rfl ?_))))))))))
   refine L.ix (r := (rK .i64)) bwSi h1 Wt.no rfl rfl ex18 rfl ?_
   rintro b19 o19 cc19 me19 rd19
   obtain rfl := rd19
   refine L.ld (j := 0) me19 bwNn Wt.no rfl rfl rfl rfl ?_
   refine L.yd (x := .tmp 11) (xs := [.tmp 12, .tmp 16]) hY hk2 hJ rfl rfl Wt.no rfl (by rw [← henc]; rfl) rfl fun s59 hle59 hJ => ?_
   have h1 := h1.mono hle59
   have bx2 := bx2.le hle59
   refine L.not Wt.no rfl rfl (L.nil (X.seqN (E.cF rfl rfl (E.skip (X.blkN (X.seqN (E.reg (L.mv Wt.no rfl rfl (L.bi Wt.no rfl rfl rfl rfl (L.as Wt.no rfl rfl (L.nil (X.sub (ih43 _ (Option.some.inj hm).symm _ _ ⟨k + 1, s59, ?_, hk2, hJ, h1, bx2, rfl, rfl⟩) (Sub.rf rfl)))))))))))))
   exact hW (k + 1) (by omega)
 refine E.cF rfl hc (E.exit (X.seqX (X.seqX ?_)))
 have hkl : k = q0.length := by simp at hc; omega
 subst hkl
 exact X.sub (K47 _ _ ⟨s44, hJ, rfl, rfl⟩) Sub.nil
theorem m_slices_Backward_int_c {s : Sig} {p0 : List Int} {a1 : Option Addr} {c1 : Nat} {r : List (Int × Int)} (h1 : RdL (rK .i64) s a1 c1 p0) (hm : m_slices_Backward_int p0 = some r) :
    Calls Try.prog 73 #[.slice a1 p0.length c1] s.w (RetS No s fun v s' => FI Try.prog s' v r.length (fun k => encB (r.getD k (0, 0)))) := by
 obtain ⟨N, hN, hNb⟩ := s.fresh
 have m0 : Mv (Up N No) s s := Mv.refl _ _
 refine E.entry (vs := [.slice a1 p0.length c1]) Try.func73 rfl Try.ntmps73 rfl rfl (E.seq (E.reg (L.box (N + 0) Wt.no rfl rfl rfl fun b1 s2 m3 bx1 => ?_)))
 replace m0 := m0.trans m3.no
 replace h1 := h1.mono (m3.le no_No)
 refine L.as Wt.no rfl rfl (L.nil (X.seqN (E.seq (E.reg (L.mf Wt.no rfl rfl rfl (L.as Wt.no rfl rfl (L.nil (X.seqN (E.ret ?_)))))))))
 refine X.rt (.inl rfl) Try.results73 (Rs.tmp rfl Rs.nil) rfl ⟨_, s2.ren N (fun _ => 0), rfl, rfl, m0.ren hNb, ?_⟩
 have hr : ∀ {k b : Nat} {cs : Array Value} {T : TypeId}, Bx s2 (N + k) b cs T → Bx (s2.ren N (fun _ => 0)) 0 b cs T := fun h => ⟨h.heap, by simp [Sig.ren, h.htag]⟩
 exact backward1_fi (h1.ren hN) (hr bx1) hm
end Go.Proofs.Ythchkddhibhenaa

namespace Go.Proofs.Ythchkddhibhenaa
open Go Go.RowKit
/-- A row of one cell an element, seen from its block. -/
structure RowAt {α : Type} (r : Rep α) (s : Sig) (t : Nat) (T : TypeId) (b off cap : Nat) (cur : Array Value) (vs : List Value) (xs : List α) : Prop where
  heap : s.w.heap[b]? = some (.cells cur T (0, 0))
  tag : s.tag b = t
  cap : xs.length ≤ cap ∧ cap ≤ maxLen ∧ off + cap ≤ cur.size
  len : vs.length = xs.length
  cell : ∀ j (h : j < vs.length), cur[off + j]? = some vs[j]
  rd : ∀ j (h : j < vs.length) (h2 : j < xs.length), r.rd s [vs[j]] xs[j]
section
variable {α β : Type} {r : Rep α} {s : Sig} {t : Nat} {T : TypeId} {a : Option Addr} {cap : Nat} {xs ys : List α}
theorem RowT.seen (h : RowT r s t T a cap xs) (h1 : r.sz = 1) : (a = none ∧ cap = 0 ∧ xs = []) ∨ ∃ b off cur vs, a = some ⟨b, off, none⟩ ∧ RowAt r s t T b off cap cur vs xs := by
  obtain ⟨cs, ⟨hl, hrow⟩, hc⟩ := h
  rw [h1, Nat.mul_one] at hl
  rcases hrow with ⟨e, hn⟩ | ⟨b, off, cap', cur, e, ho, k1, k2, k3, k4⟩
  · simp only [Value.slice.injEq] at e
    exact .inl ⟨e.1, e.2.2, List.eq_nil_of_length_eq_zero hn⟩
  · simp only [Value.slice.injEq, true_and] at e
    obtain ⟨rfl, rfl⟩ := e
    rw [h1, Nat.mul_one] at k3 k4
    refine .inr ⟨b, off, cur, cs, rfl, ho.heap, ho.htag, ⟨k1, k2, k3⟩, hl, fun j hj => ?_, fun j hj hj2 => ?_⟩
    · have e2 : cs[j]? = cur.toList[off + j]? := by rw [← k4, List.getElem?_take, if_pos (by omega), List.getElem?_drop]
      rw [List.getElem?_eq_getElem hj] at e2
      rw [← Array.getElem?_toList]
      exact e2.symm
    · have := hc.at j hj2
      rw [h1, Nat.mul_one, List.drop_eq_getElem_cons hj] at this
      exact this
theorem Cells.of {s : Sig} (h1 : r.sz = 1) : ∀ {cs : List Value} {xs : List α}, cs.length = xs.length → (∀ j (h : j < cs.length) (h2 : j < xs.length), r.rd s [cs[j]] xs[j]) → Cells r s cs xs
  | [], [], _, _ => rfl
  | [], _ :: _, h, _ => by cases h
  | _ :: _, [], h, _ => by cases h
  | c :: cs, x :: xs, h, hr => ⟨[c], cs, rfl, hr 0 (by simp) (by simp), Cells.of h1 (by simpa using h) fun j hj hj2 => hr (j + 1) (by simpa using hj) (by simpa using hj2)⟩
end
/-- Slices that are nil. -/
def rNil {α : Type} : Rep (List α) := ⟨1, fun _ cs x => cs = [.slice none 0 0] ∧ x = [], fun h => by rw [h.1]; rfl, fun _ h => h, fun h u hu => by rw [h.1] at hu; rw [List.mem_singleton.1 hu]; rfl⟩
section
variable {α : Type}
structure RowR (r : Rep α) (s : Sig) (N q t : Nat) (T U : TypeId) (a : Option Addr) (cap n : Nat) (xss : List (List α)) (out : Option Nat) : Prop where
  is : xss.length = n ∧ ∃ (b off : Nat) (cur : Array Value) (vs : List Value), a = some ⟨b, off, none⟩ ∧ s.w.heap[b]? = some (.cells cur T (0, 0)) ∧ s.tag b = t ∧ n ≤ cap ∧ cap ≤ maxLen ∧ off + cap ≤ cur.size ∧ vs.length = n ∧ (∀ j (h : j < vs.length), cur[off + j]? = some vs[j]) ∧
    ∀ j (h : j < vs.length) (h2 : j < xss.length), out = some j ∨ ∃ ai ci, vs[j] = .slice ai xss[j].length ci ∧ RowT r s (fam N q j) U ai ci xss[j]
variable {r : Rep α} {s s' : Sig} {N q t cap n : Nat} {T U : TypeId} {a : Option Addr} {xss yss : List (List α)} {out : Option Nat} {S : Nat → Prop}
theorem RowR.mv (h : RowR r s N q t T U a cap n xss out) (m : Mv S s s') (ht : ¬ S t) (h0 : ¬ S 0) (hr : ∀ i, (∀ k, out = some k → i ≠ k) → ¬ S (fam N q i)) : RowR r s' N q t T U a cap n xss out := by
  obtain ⟨hn, b, off, cur, vs, ha, h1, h2, h3, h4, h5, h6, h7, h8⟩ := h.is
  obtain ⟨g1, g2⟩ := m.blk b (Array.getElem?_eq_some_iff.1 h1).1 (by rw [h2]; exact ht)
  refine ⟨hn, b, off, cur, vs, ha, g1.trans h1, g2.trans h2, h3, h4, h5, h6, h7, fun j hj hj2 => ?_⟩
  by_cases ho : out = some j
  · exact .inl ho
  · obtain ⟨ai, ci, e, g⟩ := (h8 j hj hj2).resolve_left ho
    exact .inr ⟨ai, ci, e, g.mv m (hr j fun k hk e2 => ho (by rw [hk, e2])) h0⟩
theorem RowR.start (h : RowT (rNil (α := α)) s t T a cap xss) (ha : a ≠ none) : RowR r s N q t T U a cap xss.length xss none := by
  rcases h.seen rfl with ⟨e, _⟩ | ⟨b, off, cur, vs, e, g⟩
  · exact absurd e ha
  · refine ⟨rfl, b, off, cur, vs, e, g.heap, g.tag, g.cap.1, g.cap.2.1, g.cap.2.2, g.len, g.cell, fun j hj hj2 => .inr ?_⟩
    obtain ⟨e1, e2⟩ := g.rd j hj hj2
    have e1 := List.head_eq_of_cons_eq e1
    rw [e2, e1]
    exact ⟨none, 0, rfl, RowT.nil⟩
theorem RowR.fz {p : Nat → Bool} (h : RowR r s N q t T U a cap n xss none) (h0 : p 0 = false) (ht : p t = true) (hr : ∀ i, p (fam N q i) = true) : RdL (rL r) (s.fzP p) a cap xss := by
  obtain ⟨hn, b, off, cur, vs, rfl, h1, h2, h3, h4, h5, h6, h7, h8⟩ := h.is
  have hle : Le s (s.fzP p) := (Sig.fzP_mv p s).le (by show ¬ p 0 = true; rw [h0]; simp)
  refine ⟨vs, ⟨by show vs.length = xss.length * 1; omega, by omega, h4, fun e => (by cases e), fun ad e => (by cases e; rfl), fun ad e j hj => ?_⟩, fun ad e _ => ?_, Cells.of rfl (by omega) fun j hj hj2 => ?_⟩
  · cases e
    show World.cell? s.w _ = _
    unfold World.cell?
    rw [h1]
    exact h7 j hj
  · cases e
    show (if p (s.tag b) then 0 else s.tag b) = 0
    rw [h2, ht]; rfl
  · obtain ⟨ai, ci, e, g⟩ := (h8 j hj hj2).resolve_left (by simp)
    exact ⟨ai, ci, by rw [e], g.rd hle rfl fun b' hb => by simp [Sig.fzP, hb, hr j]⟩
end
section
variable {Φ : Fr} {P : Program} {Q : Exit → Act → World → Prop} {m : Nat} {e : List (Nat × Value)} {s : Sig} {ops : Array Oper} {os : List Oper} {d : Nat} {ty : TypeId} {pos : String} {af : Array Edge} {g : Option (Nat × Bool)}
variable {α : Type} {r : Rep α} {N q t cap n b off : Nat} {T U W T' : TypeId} {a : Option Addr} {xss yss : List (List α)} {y zs : List α} {out : Option Nat} {j : Int} {k : IntKind} {ai : Option Addr} {ci : Nat}
theorem L.irR {x i : Operand} (hS : Sl P W T 1) (hR : RowR r s N q t T U a cap n xss out) (hw : Wt ops e g) (hx : Env.ev e x = some (.slice a n cap)) (hi : Env.ev e i = some (.int k j)) (hy : idx xss j = some y) (hd : Nat.blt d m = true)
    (h : ∀ b off, Spot a 1 j.toNat b off → L Φ P Q m ops os ((d, .pointer (some ⟨b, off, none⟩)) :: e) s.w) : L Φ P Q m ops (⟨some d, .indexAddr W x i, ty, pos, af, g⟩ :: os) e s.w := by
  obtain ⟨h0, hk, rfl⟩ := idx_some hy
  obtain ⟨hn, b, off, cur, vs, rfl, h1, h2, h3, h4, h5, h6, h7, h8⟩ := hR.is
  refine L.val hw hd (v := .pointer (some ⟨b, off + j.toNat * 1, none⟩)) (fun ac ha => ?_) (h _ _ ⟨off, rfl, rfl⟩)
  have hlt : j < n := by omega
  simp [execOp, Instr.indexAt, ha.ev hx, ha.ev hi, asIntOf, run_underlying hS.und, hS.sz, h0, hlt, Addr.add_lit]
theorem L.ldR {x : Operand} (hR : RowR r s N q t T U a cap n xss none) (hsp : Spot a 1 j.toNat b off) (hy : idx xss j = some y) (hN : NAg P T) (hw : Wt ops e g) (hx : Env.ev e x = some (.pointer (some ⟨b, off, none⟩))) (hd : Nat.blt d m = true)
    (h : ∀ ai ci, RowT r s (fam N q j.toNat) U ai ci y → RowR r s N q t T U a cap n xss (some j.toNat) → L Φ P Q m ops os ((d, .slice ai y.length ci) :: e) s.w) : L Φ P Q m ops (⟨some d, .load T x, ty, pos, af, g⟩ :: os) e s.w := by
  obtain ⟨h0, hk, rfl⟩ := idx_some hy
  obtain ⟨hn, b', off', cur, vs, rfl, h1, h2, h3, h4, h5, h6, h7, h8⟩ := hR.is
  obtain ⟨o, e1, rfl⟩ := hsp.is
  simp only [Option.some.injEq, Addr.mk.injEq, and_true] at e1
  obtain ⟨rfl, rfl⟩ := e1
  obtain ⟨ai, ci, e2, g2⟩ := (h8 j.toNat (by omega) hk).resolve_left (by simp)
  have hmem : Mem s t b' (off' + j.toNat * 1) [.slice ai xss[j.toNat].length ci] := ⟨fun _ => h2, fun i hi => by
    have hi0 : i = 0 := by simpa using hi
    subst hi0
    unfold World.cell?
    rw [h1]
    show cur[off' + j.toNat * 1 + 0]? = _
    rw [Nat.mul_one, Nat.add_zero, h7 j.toNat (by omega), e2]
    rfl⟩
  exact L.ld (j := 0) hmem hN hw hx rfl rfl hd (h ai ci g2 ⟨hn, b', off', cur, vs, rfl, h1, h2, h3, h4, h5, h6, h7, fun i hi hi2 => .inr ((h8 i hi hi2).resolve_left (by simp))⟩)
theorem L.suR {x z : Operand} (hR : RowR r s N q t T U a cap n xss (some j.toNat)) (hZ : RowT r s (fam N q j.toNat) U ai ci zs) (hsp : Spot a 1 j.toNat b off) (hi : idx xss j = some y) (hu : upd xss j zs = some yss) (ht : Nat.blt 0 t = true) (htf : ∀ i, fam N q i ≠ t) (hT : ∀ w, (sizeOf T').run P w = .ok 1 w) (hw : Wt ops e g) (hx : Env.ev e x = some (.pointer (some ⟨b, off, none⟩))) (hz : Env.ev e z = some (.slice ai zs.length ci))
    (h : ∀ s', Mv (One t) s s' → RowR r s' N q t T U a cap n yss none → L Φ P Q m ops os e s'.w) : L Φ P Q m ops (⟨none, .store T' x z, ty, pos, af, g⟩ :: os) e s.w := by
  obtain ⟨h0, hk, rfl⟩ := upd_some hu
  obtain ⟨hn, b', off', cur, vs, rfl, h1, h2, h3, h4, h5, h6, h7, h8⟩ := hR.is
  obtain ⟨o, e1, rfl⟩ := hsp.is
  simp only [Option.some.injEq, Addr.mk.injEq, and_true] at e1
  obtain ⟨rfl, rfl⟩ := e1
  have ht' : 0 < t := by simpa using ht
  have hst := run_storeCells_at P b' (off' + j.toNat) T [.slice ai zs.length ci] 0 cur s.w h1 (by simp; omega) (fun u hu => by rw [List.mem_singleton.1 hu]; rfl)
  simp only [Nat.add_zero] at hst
  refine L.unit hw (w' := s.w.setRow b' (cur.toList.take (off' + j.toNat) ++ [Value.slice ai zs.length ci] ++ cur.toList.drop (off' + j.toNat + 1)).toArray) (fun ac ha => ?_) ?_
  · have hst' := hst
    simp [execOp, Instr.storeAt, Instr.sureAddr, storeVar, ha.ev hx, ha.ev hz, hT, Value.cells]
    simp at hst'
    rw [hst']
    simp [Result.andThen]
  · have hmv : Mv (One t) s ⟨s.w.setRow b' (cur.toList.take (off' + j.toNat) ++ [Value.slice ai zs.length ci] ++ cur.toList.drop (off' + j.toNat + 1)).toArray, s.tag⟩ :=
      ⟨rfl, rfl, rfl, by simp, fun b2 hb hn => ⟨setRow_other _ _ _ _ (by rintro rfl; exact hn h2), rfl⟩⟩
    refine h _ hmv ?_
    have hf : ∀ i, ¬ One t (fam N q i) := fun i e => htf i e
    have hz0 : ¬ One t 0 := fun e => by have : 0 = t := e; omega
    refine ⟨by rw [List.length_set]; exact hn, b', off', _, vs.set j.toNat (.slice ai zs.length ci), rfl, setRow_heap _ _ _ _ _ _ h1, h2, h3, h4, ?_, by rw [List.length_set]; exact h6, fun i hi => ?_, fun i hi hi2 => ?_⟩
    · simp only [List.size_toArray, List.length_append, List.length_take, List.length_drop, Array.length_toList, List.length_singleton]
      omega
    · have hi' : i < vs.length := by simpa using hi
      have hsp2 := get_splice (l := cur.toList) (c := [Value.slice ai zs.length ci]) (i := off' + j.toNat) (by simp; omega) (off' + i)
      rw [List.length_singleton] at hsp2
      rw [List.getElem?_toArray, hsp2, List.getElem_set]
      by_cases e2 : j.toNat = i
      · rw [if_pos e2, if_pos (by omega), ← e2, Nat.sub_self]; rfl
      · rw [if_neg e2, if_neg (by omega), Array.getElem?_toList]
        exact h7 i hi'
    · right
      have hi' : i < vs.length := by simpa using hi
      have hi2' : i < xss.length := by simpa using hi2
      by_cases e2 : j.toNat = i
      · subst e2
        refine ⟨ai, ci, ?_, ?_⟩
        · rw [List.getElem_set_self, List.getElem_set_self]
        · rw [List.getElem_set_self]; exact hZ.mv hmv (hf _) hz0
      · obtain ⟨aj, cj, e3, g3⟩ := (h8 i hi' hi2').resolve_left (by simpa using e2)
        refine ⟨aj, cj, ?_, ?_⟩
        · rw [List.getElem_set_ne e2, List.getElem_set_ne e2, e3]
        · rw [List.getElem_set_ne e2]; exact g3.mv hmv (hf _) hz0
end
end Go.Proofs.Ythchkddhibhenaa

namespace Go.Proofs
open Go.Shelf
def Try.lays189_ren : Go.Shelf.Ren := ⟨fun | 189 => 74 | 125 => 91 | 257 => 90 | 128 => 107 | 129 => 108 | 294 => 99 | 295 => 100 | 296 => 101 | 297 => 102 | 298 => 103 | 299 => 104 | 216 => 94 | 300 => 105 | 301 => 106 | 328 => 120 | 329 => 121 | 330 => 122 | 331 => 123 | 332 => 124 | 215 => 119 | 343 => 128 | n => n, fun | 28 => 28 | 3 => 3 | 46 => 130 | 0 => 0 | 51 => 143 | 53 => 145 | 4 => 4 | 183 => 137 | 182 => 136 | 131 => 100 | 5 => 5 | 9 => 9 | 218 => 152 | 222 => 156 | 228 => 160 | 229 => 118 | n => n, fun | n => n⟩
theorem Try.lays189 : Go.Proofs.Lays.n189 Try.prog Try.lays189_ren := {
  mixed := by kernel_rfl
  f125 := Try.func91.trans (congrArg some (by kernel_rfl))
  f128 := Try.func107.trans (congrArg some (by kernel_rfl))
  f129 := Try.func108.trans (congrArg some (by kernel_rfl))
  f189 := Try.func74.trans (congrArg some (by kernel_rfl))
  f215 := Try.func119.trans (congrArg some (by kernel_rfl))
  f216 := Try.func94.trans (congrArg some (by kernel_rfl))
  f257 := Try.func90.trans (congrArg some (by kernel_rfl))
  f294 := Try.func99.trans (congrArg some (by kernel_rfl))
  f295 := Try.func100.trans (congrArg some (by kernel_rfl))
  f296 := Try.func101.trans (congrArg some (by kernel_rfl))
  f297 := Try.func102.trans (congrArg some (by kernel_rfl))
  f298 := Try.func103.trans (congrArg some (by kernel_rfl))
  f299 := Try.func104.trans (congrArg some (by kernel_rfl))
  f300 := Try.func105.trans (congrArg some (by kernel_rfl))
  f301 := Try.func106.trans (congrArg some (by kernel_rfl))
  f328 := Try.func120.trans (congrArg some (by kernel_rfl))
  f329 := Try.func121.trans (congrArg some (by kernel_rfl))
  f330 := Try.func122.trans (congrArg some (by kernel_rfl))
  f331 := Try.func123.trans (congrArg some (by kernel_rfl))
  f332 := Try.func124.trans (congrArg some (by kernel_rfl))
  f343 := Try.func128.trans (congrArg some (by kernel_rfl))
  t0 := Try.underlying0
  a0 := Try.isAgg0
  z0 := Try.sizeOf0
  v0 := Try.zeroValue0
  t3 := Try.underlying3
  a3 := Try.isAgg3
  z3 := Try.sizeOf3
  v3 := Try.zeroValue3
  t4 := Try.underlying4
  a4 := Try.isAgg4
  z4 := Try.sizeOf4
  v4 := Try.zeroValue4
  t5 := Try.underlying5
  a5 := Try.isAgg5
  z5 := Try.sizeOf5
  v5 := Try.zeroValue5
  t9 := Try.underlying9
  a9 := Try.isAgg9
  z9 := Try.sizeOf9
  v9 := Try.zeroValue9
  t28 := Try.underlying28
  a28 := Try.isAgg28
  z28 := Try.sizeOf28
  v28 := Try.zeroValue28
  t46 := Try.underlying130
  a46 := Try.isAgg130
  z46 := Try.sizeOf130
  v46 := Try.zeroValue130
  t51 := Try.underlying143
  a51 := Try.isAgg143
  z51 := Try.sizeOf143
  v51 := Try.zeroValue143
  t53 := Try.underlying145
  a53 := Try.isAgg145
  z53 := Try.sizeOf145
  v53 := Try.zeroValue145
  t131 := Try.underlying100
  a131 := Try.isAgg100
  z131 := Try.sizeOf100
  v131 := Try.zeroValue100
  t182 := Try.underlying136
  a182 := Try.isAgg136
  z182 := Try.sizeOf136
  v182 := Try.zeroValue136
  t183 := Try.underlying137
  a183 := Try.isAgg137
  z183 := Try.sizeOf137
  v183 := Try.zeroValue137
  t218 := Try.underlying152
  a218 := Try.isAgg152
  z218 := Try.sizeOf152
  v218 := Try.zeroValue152
  t222 := Try.underlying156
  a222 := Try.isAgg156
  z222 := Try.sizeOf156
  v222 := Try.zeroValue156
  t228 := Try.underlying160
  a228 := Try.isAgg160
  z228 := Try.sizeOf160
  v228 := Try.zeroValue160
  t229 := Try.underlying118
  a229 := Try.isAgg118
  z229 := Try.sizeOf118
  v229 := Try.zeroValue118 }
open Go.RowKit Go.Sort Go.Lib in
theorem Try.slices_Sort_int (blk off cap : Nat) (zs : List Int) (w : World) (hH : Holds (Value.int .i64) w blk off zs.toArray) (hblk : blk < w.heap.size) (hsz : zs.length < 4611686018427387904) :
    Calls Try.prog 74 #[.slice (some ⟨blk, off, none⟩) zs.length cap] w fun e w' => e = .returned (.tuple #[]) ∧ ∃ n os, w' = grow (putRow (Value.int .i64) (Sort.ahead w n) blk off (zs.mergeSort fun x y => decide (x ≤ y)).toArray) os := Any.slices_Sort_int Try.lays189 blk off cap zs w hH hblk hsz
open Go.RowKit Go.Sort Go.Lib in
theorem Try.slices_Sort_int_none (p : Option Addr) (cap : Nat) (w : World) :
    Calls Try.prog 74 #[.slice p 0 cap] w fun e w' => e = .returned (.tuple #[]) ∧ w' = w := Any.slices_Sort_int_none Try.lays189 p cap w
def Try.sortL_ren : Go.Shelf.Ren := ⟨fun | 6 => 75 | 15 => 91 | 14 => 92 | 28 => 107 | 29 => 108 | 20 => 109 | 21 => 110 | 22 => 111 | 23 => 112 | 24 => 113 | 25 => 114 | 26 => 115 | 27 => 116 | 46 => 125 | 47 => 121 | 48 => 122 | 49 => 126 | 50 => 127 | 57 => 129 | n => n, fun | 22 => 65 | 24 => 28 | 25 => 113 | 3 => 3 | 39 => 130 | 0 => 0 | 53 => 143 | 55 => 145 | 4 => 4 | 46 => 137 | 45 => 136 | 50 => 100 | 5 => 5 | 9 => 9 | 66 => 152 | 70 => 156 | 76 => 160 | 77 => 118 | n => n, fun | n => n⟩
theorem Try.sortL : Go.Proofs.SlLaysF.n6 Try.prog Try.sortL_ren := {
  mixed := by kernel_rfl
  f6 := ⟨Try.f75.name, by decide, Try.func75.trans (congrArg some (by kernel_rfl))⟩
  f14 := ⟨Try.f92.name, by decide, Try.func92.trans (congrArg some (by kernel_rfl))⟩
  f15 := Try.func91.trans (congrArg some (by kernel_rfl))
  f20 := ⟨Try.f109.name, by decide, Try.func109.trans (congrArg some (by kernel_rfl))⟩
  f21 := ⟨Try.f110.name, by decide, Try.func110.trans (congrArg some (by kernel_rfl))⟩
  f22 := ⟨Try.f111.name, by decide, Try.func111.trans (congrArg some (by kernel_rfl))⟩
  f23 := ⟨Try.f112.name, by decide, Try.func112.trans (congrArg some (by kernel_rfl))⟩
  f24 := ⟨Try.f113.name, by decide, Try.func113.trans (congrArg some (by kernel_rfl))⟩
  f25 := ⟨Try.f114.name, by decide, Try.func114.trans (congrArg some (by kernel_rfl))⟩
  f26 := ⟨Try.f115.name, by decide, Try.func115.trans (congrArg some (by kernel_rfl))⟩
  f27 := ⟨Try.f116.name, by decide, Try.func116.trans (congrArg some (by kernel_rfl))⟩
  f28 := Try.func107.trans (congrArg some (by kernel_rfl))
  f29 := Try.func108.trans (congrArg some (by kernel_rfl))
  f46 := ⟨Try.f125.name, by decide, Try.func125.trans (congrArg some (by kernel_rfl))⟩
  f47 := Try.func121.trans (congrArg some (by kernel_rfl))
  f48 := Try.func122.trans (congrArg some (by kernel_rfl))
  f49 := ⟨Try.f126.name, by decide, Try.func126.trans (congrArg some (by kernel_rfl))⟩
  f50 := ⟨Try.f127.name, by decide, Try.func127.trans (congrArg some (by kernel_rfl))⟩
  f57 := ⟨Try.f129.name, by decide, Try.func129.trans (congrArg some (by kernel_rfl))⟩
  t0 := Try.underlying0
  a0 := Try.isAgg0
  z0 := Try.sizeOf0
  v0 := Try.zeroValue0
  t3 := Try.underlying3
  a3 := Try.isAgg3
  z3 := Try.sizeOf3
  v3 := Try.zeroValue3
  t4 := Try.underlying4
  a4 := Try.isAgg4
  z4 := Try.sizeOf4
  v4 := Try.zeroValue4
  t5 := Try.underlying5
  a5 := Try.isAgg5
  z5 := Try.sizeOf5
  v5 := Try.zeroValue5
  t9 := Try.underlying9
  a9 := Try.isAgg9
  z9 := Try.sizeOf9
  v9 := Try.zeroValue9
  t22 := Try.underlying65
  a22 := Try.isAgg65
  z22 := Try.sizeOf65
  v22 := Try.zeroValue65
  a24 := Try.isAgg28
  z24 := Try.sizeOf28
  t25 := Try.underlying113
  a25 := Try.isAgg113
  z25 := Try.sizeOf113
  v25 := Try.zeroValue113
  t39 := Try.underlying130
  a39 := Try.isAgg130
  z39 := Try.sizeOf130
  v39 := Try.zeroValue130
  t45 := Try.underlying136
  a45 := Try.isAgg136
  z45 := Try.sizeOf136
  v45 := Try.zeroValue136
  t46 := Try.underlying137
  a46 := Try.isAgg137
  z46 := Try.sizeOf137
  v46 := Try.zeroValue137
  t50 := Try.underlying100
  a50 := Try.isAgg100
  z50 := Try.sizeOf100
  v50 := Try.zeroValue100
  t53 := Try.underlying143
  a53 := Try.isAgg143
  z53 := Try.sizeOf143
  v53 := Try.zeroValue143
  t55 := Try.underlying145
  a55 := Try.isAgg145
  z55 := Try.sizeOf145
  v55 := Try.zeroValue145
  t66 := Try.underlying152
  a66 := Try.isAgg152
  z66 := Try.sizeOf152
  v66 := Try.zeroValue152
  t70 := Try.underlying156
  a70 := Try.isAgg156
  z70 := Try.sizeOf156
  v70 := Try.zeroValue156
  t76 := Try.underlying160
  a76 := Try.isAgg160
  z76 := Try.sizeOf160
  v76 := Try.zeroValue160
  t77 := Try.underlying118
  a77 := Try.isAgg118
  z77 := Try.sizeOf118
  v77 := Try.zeroValue118 }
end Go.Proofs

namespace Go.Proofs.Ythchkddhibhenaa
open Go Go.RowKit Go.Sort
section
variable {α β : Type} {r : Rep α} {s : Sig} {t : Nat} {T : TypeId} {a : Option Addr} {cap : Nat} {xs ys : List α}
theorem put_block {enc : β → Value} [Inhabited β] {w : World} {b off n : Nat} {d : Array β} {os : Array Obj} {cur : Array Value} {fr : Nat × Nat} (h : w.heap[b]? = some (.cells cur T fr)) : (grow (putRow enc (Sort.ahead w n) b off d) os).heap[b]? = some (.cells (putCells enc off d cur) T fr) := by
  have hb : b < w.heap.size := (Array.getElem?_eq_some_iff.1 h).1
  show ((w.heap.modify b (onCells (putCells enc off d))) ++ os)[b]? = _
  rw [Array.getElem?_append_left (by simpa using hb), Array.getElem?_modify, if_pos rfl, h]
  rfl
theorem put_other {enc : β → Value} [Inhabited β] {w : World} {b b' off n : Nat} {d : Array β} {os : Array Obj} (hb : b' < w.heap.size) (hne : b' ≠ b) : (grow (putRow enc (Sort.ahead w n) b off d) os).heap[b']? = w.heap[b']? := by
  show ((w.heap.modify b (onCells (putCells enc off d))) ++ os)[b']? = _
  rw [Array.getElem?_append_left (by simpa using hb), Array.getElem?_modify, if_neg (Ne.symm hne)]
theorem RowAt.put {b off : Nat} {cur : Array Value} {vs : List Value} (h : RowAt r s t T b off cap cur vs xs) (h1 : r.sz = 1) (ht : 0 < t) {enc : β → Value} [Inhabited β] {d : Array β} (hd : d.size = xs.length) (hy : ys.length = xs.length) (hr : ∀ j, j < d.size → ∀ h2 : j < ys.length, r.rd s [enc d[j]!] ys[j]) {w' : World} (hw : ∃ n os, w' = grow (putRow enc (Sort.ahead s.w n) b off d) os) :
    ∃ s', w' = s'.w ∧ Mv (One t) s s' ∧ RowT r s' t T (some ⟨b, off, none⟩) cap ys := by
  obtain ⟨n, os, rfl⟩ := hw
  have hb : b < s.w.heap.size := (Array.getElem?_eq_some_iff.1 h.heap).1
  refine ⟨⟨_, fun b => if b < s.w.heap.size then s.tag b else 0⟩, rfl, ⟨rfl, rfl, rfl, ?_, fun b' hb' hn => ⟨put_other hb' fun e => hn (by rw [e]; exact h.tag), if_pos hb'⟩⟩, ?_⟩
  · show _ ≤ ((s.w.heap.modify b _) ++ os).size
    simp
  · have hm : Mv (One t) s ⟨grow (putRow enc (Sort.ahead s.w n) b off d) os, fun b => if b < s.w.heap.size then s.tag b else 0⟩ := ⟨rfl, rfl, rfl, (by show _ ≤ ((s.w.heap.modify b _) ++ os).size; simp), fun b' hb' hn => ⟨put_other hb' fun e => hn (by rw [e]; exact h.tag), if_pos hb'⟩⟩
    have hle := hm.le (by show ¬ 0 = t; omega)
    have hcap := h.cap
    have hcs : ((putCells enc off d cur).toList.drop off).take (ys.length * 1) = (d.toList.map enc) := by
      rw [Nat.mul_one]
      apply List.ext_getElem?
      intro j
      rw [List.getElem?_take, List.getElem?_drop, List.getElem?_map]
      by_cases hj : j < ys.length
      · rw [if_pos hj, Array.getElem?_toList, putCells, Array.getElem?_mapIdx, Array.getElem?_eq_getElem (by omega), Option.map_some, if_pos ⟨by omega, by omega⟩, Nat.add_sub_cancel_left, Array.getElem?_toList, Array.getElem?_eq_getElem (by omega), Option.map_some, getElem!_pos _ _ (by omega)]
      · rw [if_neg hj, Array.getElem?_toList, Array.getElem?_eq_none (by omega)]; rfl
    refine ⟨d.toList.map enc, ⟨by rw [h1, Nat.mul_one, List.length_map, Array.length_toList]; omega, .inr ⟨b, off, cap, putCells enc off d cur, rfl, ⟨put_block h.heap, ?_, Nat.zero_le _⟩, by omega, hcap.2.1, ?_, by rw [h1]; exact hcs⟩⟩, Cells.of h1 (by simp; omega) fun j hj hj2 => ?_⟩
    · show (if b < s.w.heap.size then s.tag b else 0) = t
      rw [if_pos hb]; exact h.tag
    · rw [h1, Nat.mul_one, putCells, Array.size_mapIdx]; exact hcap.2.2
    · have hjd : j < d.size := by simpa using hj
      have := hr j hjd hj2
      rw [getElem!_pos d j hjd] at this
      rw [List.getElem_map, Array.getElem_toList]
      exact r.mono hle this
theorem RowAt.holds {b off : Nat} {cur : Array Value} {vs : List Value} (h : RowAt r s t T b off cap cur vs xs) {enc : β → Value} [Inhabited β] {d : Array β} (hd : d.size = vs.length) (he : ∀ j (h : j < vs.length), enc d[j]! = vs[j]) : Holds enc s.w b off d := fun j hj => by
  have hc := h.cell j (by omega)
  refine ⟨?_, ?_⟩
  · unfold World.cell?
    rw [h.heap]
    show cur[off + j]? = _
    rw [hc, he j (by omega)]
  · unfold World.frozen?
    rw [h.heap]
    show (decide (0 ≤ off + j) && decide (off + j < 0)) = false
    simp
end
/-- What slices.Sort leaves. -/
def m_slices_Sort_int (p0 : List Int) : Option (List Int) := if p0.length ≤ 4294967296 then some (p0.mergeSort fun x y => decide (x ≤ y)) else none
theorem m_slices_Sort_int_c {s : Sig} {p0 : List Int} {t0 : Nat} {a1 : Option Addr} {c1 : Nat} {r : List Int} (zt0 : 0 < t0) (h1 : RowT (rK .i64) s t0 3 a1 c1 p0) (hm : m_slices_Sort_int p0 = some r) :
    Calls Try.prog 74 #[.slice a1 p0.length c1] s.w (RetS (One t0) s fun v s' => v = .tuple #[] ∧ RowT (rK .i64) s' t0 3 a1 c1 r) := by
  obtain ⟨hl, rfl⟩ : p0.length ≤ 4294967296 ∧ p0.mergeSort (fun x y => decide (x ≤ y)) = r := by
    unfold m_slices_Sort_int at hm
    split at hm
    · exact ⟨by assumption, Option.some.inj hm⟩
    · cases hm
  rcases h1.seen rfl with ⟨rfl, rfl, rfl⟩ | ⟨b, off, cur, vs, rfl, h⟩
  · refine (Try.slices_Sort_int_none none 0 s.w).mono ?_
    rintro e w' ⟨rfl, rfl⟩
    exact ⟨_, s, rfl, rfl, Mv.refl _ _, rfl, by simpa using RowT.nil⟩
  · have hv : ∀ j (h2 : j < vs.length) (h3 : j < p0.length), vs[j] = .int .i64 p0[j] := fun j h2 h3 => by
      have := h.rd j h2 h3
      exact List.head_eq_of_cons_eq this
    have hlen := h.len
    have hb : b < s.w.heap.size := (Array.getElem?_eq_some_iff.1 h.heap).1
    refine (Try.slices_Sort_int b off c1 p0 s.w (h.holds (by simp [hlen]) fun j hj => ?_) hb (by omega)).mono ?_
    · rw [hv j hj (by omega), getElem!_pos _ _ (by simp; omega)]
      simp
    · rintro e w' ⟨rfl, hw⟩
      obtain ⟨s', hw', hm, hr⟩ := h.put rfl zt0 (ys := p0.mergeSort fun x y => decide (x ≤ y)) (by simp) (by simp) (fun j hj h2 => by
        have e := getElem!_pos (p0.mergeSort fun x y => decide (x ≤ y)).toArray j hj
        rw [e]
        show [_] = [_]
        simp) hw
      exact ⟨_, s', hw', rfl, hm, rfl, hr⟩
set_option maxHeartbeats 2000000 in
/-- The comparison of two groups by their first elements. -/
theorem first_cmp (b1 o1 n1 c1 b2 o2 n2 c2 : Nat) (x y : Int) (w : World) (h1 : w.cell? ⟨b1, o1, none⟩ = some (.int .i64 x)) (h2 : w.cell? ⟨b2, o2, none⟩ = some (.int .i64 y)) (l1 : 0 < n1) (l2 : 0 < n2) (hx : 0 ≤ x ∧ x < 4294967296) (hy : 0 ≤ y ∧ y < 4294967296) :
    Calls Try.prog 76 #[.slice (some ⟨b1, o1, none⟩) n1 c1, .slice (some ⟨b2, o2, none⟩) n2 c2] w fun e w' => e = .returned (.int .i64 (x - y)) ∧ ∃ q, w' = w.drewN q := by
  go_enter Try.func76, Try.ntmps76
  go_wp2_with fail
  go_region
  go_wp2_with fail
  go_ret
  exact ⟨rfl, 1, rfl⟩
/-- The first element. -/
def hd0 (l : List Int) : Int := l.headD 0
theorem hd0_get : ∀ {l : List Int} (h : 0 < l.length), l[0] = hd0 l
  | _ :: _, _ => rfl
/-- What slices.SortFunc leaves of groups that differ in their first elements. -/
def m_slices_SortFunc_int (p0 : List (List Int)) : Option (List (List Int)) :=
  if (∀ l ∈ p0, l ≠ [] ∧ 0 ≤ hd0 l ∧ hd0 l < 4294967296) ∧ (p0.map hd0).Nodup ∧ p0.length ≤ 4294967296 then some (((List.finRange p0.length).mergeSort fun x y => !decide (hd0 (p0.get y) - hd0 (p0.get x) < 0)).map p0.get) else none
theorem m_slices_SortFunc_int_c {s : Sig} {p0 : List (List Int)} {t0 : Nat} {a1 : Option Addr} {c1 : Nat} {r : List (List Int)} (zt0 : 0 < t0) (h1 : RowT (rL (rK .i64)) s t0 28 a1 c1 p0) (hm : m_slices_SortFunc_int p0 = some r) :
    Calls Try.prog 75 #[.slice a1 p0.length c1, .func (.func 76) #[] #[]] s.w (RetS (One t0) s fun v s' => v = .tuple #[] ∧ RowT (rL (rK .i64)) s' t0 28 a1 c1 r) := by
  obtain ⟨⟨hne, hnd, hl⟩, rfl⟩ : ((∀ l ∈ p0, l ≠ [] ∧ 0 ≤ hd0 l ∧ hd0 l < 4294967296) ∧ (p0.map hd0).Nodup ∧ p0.length ≤ 4294967296) ∧ ((List.finRange p0.length).mergeSort fun x y => !decide (hd0 (p0.get y) - hd0 (p0.get x) < 0)).map p0.get = r := by
    unfold m_slices_SortFunc_int at hm
    split at hm
    · exact ⟨by assumption, Option.some.inj hm⟩
    · cases hm
  have hnone : ∀ (p : Option Addr) (cap : Nat), Calls Try.prog 75 #[.slice p 0 cap, .func (.func 76) #[] #[]] s.w fun e w' => e = .returned (.tuple #[]) ∧ w' = s.w := fun p cap => AnyF.slices_SortFunc_none (P := Try.prog) (ρ := Try.sortL_ren) { Try.sortL with } p cap (.func (.func 76) #[] #[]) s.w
  by_cases h0 : p0 = []
  · subst h0
    refine (hnone a1 c1).mono ?_
    rintro e w' ⟨rfl, rfl⟩
    exact ⟨_, s, rfl, rfl, Mv.refl _ _, rfl, by simpa using h1⟩
  rcases h1.seen rfl with ⟨rfl, rfl, rfl⟩ | ⟨b, off, cur, vs, rfl, h⟩
  · exact absurd rfl h0
  have hlen := h.len
  have hb : b < s.w.heap.size := (Array.getElem?_eq_some_iff.1 h.heap).1
  have hpos : 0 < p0.length := List.length_pos_iff.2 h0
  haveI : Inhabited (Fin p0.length) := ⟨⟨0, hpos⟩⟩
  have hin : ∀ i : Fin p0.length, p0.get i ∈ p0 := fun i => List.get_mem _ _
  -- what lies in a place of the row
  have hel : ∀ i : Fin p0.length, ∃ bi oi ci, vs[i.1]'(by omega) = .slice (some ⟨bi, oi, none⟩) (p0.get i).length ci ∧ 0 < (p0.get i).length ∧ ∀ W : World, (∀ b', b' < s.w.heap.size → b' ≠ b → W.heap[b']? = s.w.heap[b']?) → W.cell? ⟨bi, oi, none⟩ = some (.int .i64 (hd0 (p0.get i))) := fun i => by
    obtain ⟨a, ci, e, hrd⟩ := h.rd i.1 (by omega) i.2
    obtain ⟨hn, h2, h3⟩ := hne _ (hin i)
    have hp : 0 < (p0.get i).length := List.length_pos_iff.2 hn
    obtain ⟨bi, oi, c, ea, hmem, hc⟩ := hrd.at 0 hp
    have hc2 : c = [.int .i64 (hd0 (p0.get i))] := by
      have e2 : (p0.get i)[0] = hd0 (p0.get i) := hd0_get hp
      have : c = [.int .i64 (p0.get i)[0]] := hc
      rw [this, e2]
    subst ea hc2
    have hcell := hmem.2 0 (by simp)
    have ht := hmem.1 (by simp)
    refine ⟨bi, oi, ci, List.head_eq_of_cons_eq e, hp, fun W hW => ?_⟩
    have hcell : s.w.cell? ⟨bi, oi, none⟩ = some (.int .i64 (hd0 (p0.get i))) := by simpa using hcell
    have hlt := World.block_lt_of_cell? _ _ hcell
    rw [← hcell]
    exact World.cell?_of_block (w := s.w) (a := ⟨bi, oi, none⟩) (hW bi hlt fun e => by rw [e, h.tag] at ht; omega)
  obtain ⟨enc, henc⟩ : ∃ enc : Fin p0.length → Value, enc = fun i => vs[i.1]'(by omega) := ⟨_, rfl⟩
  obtain ⟨cf, hcf⟩ : ∃ cf : Fin p0.length → Fin p0.length → Int, cf = fun i j => hd0 (p0.get i) - hd0 (p0.get j) := ⟨_, rfl⟩
  have hlt : ∀ i j, Go.Proofs.ltOf cf i j = decide (hd0 (p0.get i) - hd0 (p0.get j) < 0) := fun i j => by rw [hcf]; rfl
  have hinj : ∀ i j : Fin p0.length, hd0 (p0.get i) = hd0 (p0.get j) → i = j := fun i j e => by
    have hp := List.pairwise_iff_getElem.1 hnd
    refine Fin.ext ?_
    rcases Nat.lt_trichotomy i.1 j.1 with g | g | g
    · exact absurd (by simpa using e) (hp i.1 j.1 (by simp) (by simp) g)
    · exact g
    · exact absurd (by simpa using e.symm) (hp j.1 i.1 (by simp) (by simp) g)
  have hO : SWO (Go.Proofs.ltOf cf) := ⟨fun i => by rw [hlt]; simp, fun i j k g1 g2 => by rw [hlt] at *; simp at *; omega, fun i j k g1 g2 => by rw [hlt] at *; simp at *; omega⟩
  have hT : ∀ i j, Go.Proofs.ltOf cf i j = false → Go.Proofs.ltOf cf j i = false → i = j := fun i j g1 g2 => hinj i j (by rw [hlt] at *; simp at *; omega)
  have hcmp : CmpReads Try.prog 76 #[] enc cf b off p0.length s.w := fun m os dk hdk i j => by
    obtain ⟨bi, oi, ci, ei, li, gi⟩ := hel i
    obtain ⟨bj, oj, cj, ej, lj, gj⟩ := hel j
    have hW : ∀ b', b' < s.w.heap.size → b' ≠ b → (sortWorld enc s.w b off m dk os).heap[b']? = s.w.heap[b']? := fun b' h1 h2 => put_other h1 h2
    have hci := hne _ (hin i)
    have hcj := hne _ (hin j)
    have hw : hd0 (p0.get i) - hd0 (p0.get j) = cf i j := by rw [hcf]
    have hq := first_cmp bi oi _ ci bj oj _ cj _ _ _ (gi _ hW) (gj _ hW) li lj hci.2 hcj.2
    rw [hw] at hq
    rw [henc]
    dsimp only
    rw [ei, ej]
    rw [henc] at hq
    exact hq
  have eg : ∀ args w, (callFunc 76 args).run Try.prog w = .ok (.enter 76 args) w := enters_of Try.func76 (by kernel_rfl) rfl
  have hd : ∀ j (g : j < vs.length), enc ((List.finRange p0.length).toArray[j]!) = vs[j] := fun j g => by
    have e := getElem!_pos (List.finRange p0.length).toArray j (by simp; omega)
    rw [e, henc]
    simp
  have hS := Any.slices_SortFunc_total Try.sortL enc (fun i => by obtain ⟨bi, oi, ci, ei, _⟩ := hel i; rw [henc]; dsimp only; rw [ei]; rfl) cf hO 76 #[] b off c1 (List.finRange p0.length).toArray s.w eg (by have := hcmp.lays; simpa using this) (h.holds (by simp [hlen]) hd) hb (by simp; omega) hT
  have hsz : (List.finRange p0.length).toArray.size = p0.length := by simp
  rw [hsz] at hS
  have hS : Calls Try.prog 75 #[.slice (some ⟨b, off, none⟩) p0.length c1, .func (.func 76) #[] #[]] s.w _ := hS
  refine hS.mono ?_
  rintro e w' ⟨rfl, hw⟩
  have hfun : (fun x y : Fin p0.length => !(Go.Proofs.ltOf cf) y x) = fun x y => !decide (hd0 (p0.get y) - hd0 (p0.get x) < 0) := by funext x y; rw [hlt]
  rw [hfun] at hw
  obtain ⟨s', hw', hm, hr⟩ := h.put rfl zt0 (ys := ((List.finRange p0.length).mergeSort fun x y => !decide (hd0 (p0.get y) - hd0 (p0.get x) < 0)).map p0.get) (d := ((List.finRange p0.length).mergeSort fun x y => !decide (hd0 (p0.get y) - hd0 (p0.get x) < 0)).toArray) (enc := enc) (by simp) (by simp) (fun j hj h2 => by
    have e := getElem!_pos ((List.finRange p0.length).mergeSort fun x y => !decide (hd0 (p0.get y) - hd0 (p0.get x) < 0)).toArray j hj
    rw [e, List.getElem_map, henc]
    exact h.rd _ _ _) (by obtain ⟨n, os, hw⟩ := hw; exact ⟨n, os, hw⟩)
  have hrl : (((List.finRange p0.length).mergeSort fun x y => !decide (hd0 (p0.get y) - hd0 (p0.get x) < 0)).map p0.get).length = p0.length := by simp
  exact ⟨_, s', hw', rfl, hm, rfl, hr⟩
end Go.Proofs.Ythchkddhibhenaa

