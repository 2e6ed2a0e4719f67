/- The contract of forward. -/
import Derived.Test.YthchkddhibhenaaFwdFn
import Derived.Test.YthchkddhibhenaaClone
import Derived.Test.YthchkddhibhenaaRowIn
import Derived.Test.YthchkddhibhenaaRegInv
import Derived.Deep.LoopGhost
namespace Go.Proofs.Ythchkddhibhenaa
open Go.RowKit Go.Shelf
attribute [local go_sem] Oper.semAt_some

set_option maxRecDepth 100000 in
set_option maxHeartbeats 4000000 in
theorem forward_any (aa am ae af : Option Addr) (la lm ca cm ce cf : Nat) (n : Nat) (es : List Ed) (fp : FuncId) (capp : Array Value) (perm : Ed → Bool) (v : Value) (start : List Int) (w : World)
    (hre : RdS w 3 ae es.length ce (edCells es)) (hrf : RdS w 1 af (n + 1) cf (ints (firsts n es))) (hst : RdI w v start) (hl : es.length ≤ 1000000) (hn : n + start.length ≤ 999999) (hn0 : 0 < n) (hstart : ∀ s ∈ start, 0 ≤ s ∧ s < (n : Int)) (hin : ∀ x ∈ es, 0 ≤ x.t ∧ x.t < (n : Int))
    (hep : Enters Try.prog fp)
    (hp : ∀ (x : Ed) (W : World), x ∈ es → Below w.heap.size w W → Calls Try.prog fp (#[x.val] ++ capp) W fun e w' => e = .returned (.bool (perm x)) ∧ Below W.heap.size W w') :
    Calls Try.prog 81 #[.agg #[.slice aa la ca, .int .i64 n, .slice am lm cm, .slice ae es.length ce, .slice af (n + 1) cf], v, .func (.func fp) #[] capp] w
      (Ret w fun u w' => RdB w' u (forwardF n es perm start)) := by
  obtain ⟨bf, offf, rfl, hcf⟩ := hrf.at_elem 0 (by omega)
  have Hcf := Lib.hid hcf
  have Hp := Lib.hid hp
  have Hin := Lib.hid hin
  have Hep := Lib.hid hep
  have Hst := Lib.hid hst
  have Hstart := Lib.hid hstart
  clear hcf hp hin hep hst hstart
  refine calls_of_marks Try.func81 rfl ?_
  simp only [Try.ntmps81, List.size_toArray, List.length_cons, List.length_nil, Nat.reduceAdd, Nat.reduceSub, Array.replicate_succ, Array.replicate_zero, List.push_toArray, List.append_toArray, List.nil_append, List.cons_append]
  go_wp2_with fail
  refine (flags_any _ _ _ v n start _ (Hst.out.mono (by (repeat (first | with_reducible exact Below.refl _ _ | with_reducible exact hre | (with_reducible refine belCall ?_ hre (by first | omega | (simp; done) | (simp; omega) | (simp at *; omega))) | (with_reducible refine Below.alloc ?_ (by first | omega | (simp; done) | (simp; omega) | (simp at *; omega)) _) | (with_reducible refine Below.drew ?_) | (with_reducible refine Below.setCell ?_ (by first | omega | (simp; done) | (simp; omega) | (simp at *; omega)) _))))) (by omega) (by omega) Hstart.out).mono ?_
  rintro e w1 ⟨_, rfl, hown1, hb1⟩
  generalize hw0 : (w.alloc (.cells #[.slice aa la ca, .int .i64 n, .slice am lm cm, .slice ae es.length ce, .slice (some ⟨bf, offf, none⟩) (n + 1) cf] 80)).alloc (.cells #[.func (.func fp) #[] capp] 90) = w0 at *
  have hz0 : w0.heap.size = w.heap.size + 1 + 1 := by rw [← hw0]; simp
  have hB0 : Below w.heap.size w w0 := by rw [← hw0]; (repeat (first | with_reducible exact Below.refl _ _ | with_reducible exact hre | (with_reducible refine belCall ?_ hre (by first | omega | (simp; done) | (simp; omega) | (simp at *; omega))) | (with_reducible refine Below.alloc ?_ (by first | omega | (simp; done) | (simp; omega) | (simp at *; omega)) _) | (with_reducible refine Below.drew ?_) | (with_reducible refine Below.setCell ?_ (by first | omega | (simp; done) | (simp; omega) | (simp at *; omega)) _)))
  have hgh : w0.heap[w.heap.size]? = some (.cells #[.slice aa la ca, .int .i64 n, .slice am lm cm, .slice ae es.length ce, .slice (some ⟨bf, offf, none⟩) (n + 1) cf] 80 (0, 0)) := by rw [← hw0]; exact (by repeat (first | with_reducible assumption | (with_reducible refine heap_at ?_; (first | (simp; done) | (simp; omega))) | (with_reducible refine heap_past ?_ ?_; (next => first | omega | (simp; done) | (simp; omega)))))
  have hfh : w0.heap[w.heap.size + 1]? = some (.cells #[.func (.func fp) #[] capp] 90 (0, 0)) := by rw [← hw0]; exact (by repeat (first | with_reducible assumption | (with_reducible refine heap_at ?_; (first | (simp; done) | (simp; omega))) | (with_reducible refine heap_past ?_ ?_; (next => first | omega | (simp; done) | (simp; omega)))))
  have hB1 := hB0.trans (hb1.mono hB0.size)
  have hz1 := hb1.size
  obtain ⟨a1, c1, rfl, hr1⟩ := RdS.of_own hown1
  have hse0 : Row w1 w.heap.size (tagFrom (fun _ => 0) w0.heap.size 1) 1 4 1 (.slice a1 n c1) n (bools (flagL n start)) := Row.of_call hown1 (by omega)
  obtain ⟨b1, o1, c1', e1, hbl1, hbB1, _⟩ := hse0.addr hn0
  cases e1
  have hgh1 := (hb1.block _ (by omega)).trans hgh
  have hfh1 := (hb1.block _ (by omega)).trans hfh
  have Hgh := Lib.hid hgh1
  have Hfh := Lib.hid hfh1
  have Hown1 := Lib.hid hown1
  clear hr1 hown1 hse0 hgh hfh hgh1 hfh1 hw0
  go_wp2_with fail
  have hbal := bel_alloc w1 (.cells #[.slice (some ⟨b1, o1, none⟩) n c1] 86)
  refine (clone_any v start _ (Hst.out.mono (hB1.alloc (by omega) _)) (by omega)).mono ?_
  rintro e w2 ⟨_, rfl, hown2, hb2⟩
  have hz2 := hb2.size
  simp only [World.size_alloc] at hz2
  obtain ⟨a2, c2, rfl, hr2⟩ := RdS.of_own hown2
  have hB2 : Below w.heap.size w w2 := (hB1.alloc (by omega) _).trans (hb2.mono (by simp; omega))
  have hh7 : w2.heap[w1.heap.size]? = some (.cells #[.slice (some ⟨b1, o1, none⟩) n c1] 86 (0, 0)) := (hb2.block _ (by simp)).trans (heap_at rfl)
  have hgh2 := (hb2.block _ (by simp; omega)).trans ((hbal.block _ (by omega)).trans Hgh.out)
  have hfh2 := (hb2.block _ (by simp; omega)).trans ((hbal.block _ (by omega)).trans Hfh.out)
  have Hown2 := Lib.hid hown2
  have Hh7 := Lib.hid hh7
  have Hgh2 := Lib.hid hgh2
  have Hfh2 := Lib.hid hfh2
  have Hb2 := Lib.hid hb2
  have Hbal := Lib.hid hbal
  clear hr2 hown2 hh7 hgh2 hfh2 hb2 hbal Hgh Hfh hb1
  go_wp2_with fail
  have hz3 : w2.heap.size < (w2.alloc (.cells #[.slice a2 start.length c2] 28)).heap.size := by simp
  have hstart0 : FInv w #[.slice aa la ca, .int .i64 n, .slice am lm cm, .slice ae es.length ce, .slice (some ⟨bf, offf, none⟩) (n + 1) cf] (.func (.func fp) #[] capp) n w1.heap.size w2.heap.size (.slice (some ⟨b1, o1, none⟩) n c1) [] (w2.alloc (.cells #[.slice a2 start.length c2] 28)) (fun b => if b < w0.heap.size then 0 else if b < w1.heap.size then 1 else if b = w1.heap.size then 0 else if b < w2.heap.size then 2 else 3) (.slice a2 start.length c2) (flagL n start) start := by
    have hb3 := bel_alloc w2 (.cells #[.slice a2 start.length c2] 28)
    refine ⟨hB2.alloc (by omega) _, Marks.nil _ _, ⟨(hb3.block _ (by omega)).trans Hgh2.out, by rw [if_pos (by omega)], by omega⟩, ⟨(hb3.block _ (by omega)).trans Hfh2.out, by rw [if_pos (by omega)], by omega⟩, ⟨(hb3.block _ (by omega)).trans Hh7.out, by rw [if_neg (by omega), if_neg (by omega), if_pos rfl], by omega⟩, ⟨heap_at rfl, by rw [if_neg (by omega), if_neg (by omega), if_neg (by omega), if_neg (by omega)], by omega⟩, ?_, ?_⟩
    · have h1 : Row w1 w.heap.size (fun b => if b < w0.heap.size then 0 else if b < w1.heap.size then 1 else if b = w1.heap.size then 0 else if b < w2.heap.size then 2 else 3) 1 4 1 (.slice (some ⟨b1, o1, none⟩) n c1) n (bools (flagL n start)) := Row.of_own Hown1.out (by omega) (fun b h1 h2 => by rw [if_neg (by omega), if_pos h2])
      exact ((h1.below Hbal.out).below Hb2.out).below hb3
    · have h2 : Row w2 w.heap.size (fun b => if b < w0.heap.size then 0 else if b < w1.heap.size then 1 else if b = w1.heap.size then 0 else if b < w2.heap.size then 2 else 3) 2 3 1 (.slice a2 start.length c2) start.length (ints start) := Row.of_own Hown2.out (by simp; omega) (fun b h1 h2 => by simp at h1; rw [if_neg (by omega), if_neg (by omega), if_neg (by omega), if_pos h2])
      exact h2.below hb3
  have hok0 : FOk n ((flagL n start).count false + start.length) (flagL n start) start := ⟨flagL_length n start, Hstart.out, Nat.le_refl _⟩
  have hm0 : (flagL n start).count false + start.length ≤ 999999 := by
    have h1 := List.count_le_length (a := false) (l := flagL n start)
    rw [flagL_length] at h1
    omega
  refine wp_loop_ghost_k (fun k a' wr => ∃ (v9 v10 v17 v18 v19 v20 v21 v22 v23 v24 v25 v26 v27 v28 v29 v30 v31 v32 v33 v34 v35 v36 v37 v38 v39 v40 v41 v42 v43 v44 v45 v46 v47 v48 : Value) (ds : List Deferred) (tag : Nat → Nat) (vq : Value) (seen : List Bool) (q : List Int) (m : Nat), FInv w #[.slice aa la ca, .int .i64 n, .slice am lm cm, .slice ae es.length ce, .slice (some ⟨bf, offf, none⟩) (n + 1) cf] (.func (.func fp) #[] capp) n w1.heap.size w2.heap.size (.slice (some ⟨b1, o1, none⟩) n c1) ds wr tag vq seen q ∧ FOk n m seen q ∧ k = m + 1 ∧ m ≤ 999999 ∧ Hid (forwardF n es perm start = fwd (subOf es) perm (m + 1) seen q) ∧
      a' = { tmps := #[Value.agg #[.slice aa la ca, .int .i64 n, .slice am lm cm, .slice ae es.length ce, .slice (some ⟨bf, offf, none⟩) (n + 1) cf], v, Value.func (.func fp) #[] capp, Value.pointer (some ⟨w.heap.size, 0, none⟩), undef, Value.pointer (some ⟨w.heap.size + 1, 0, none⟩), Value.slice none 0 0, Value.pointer (some ⟨w1.heap.size, 0, none⟩), Value.pointer (some ⟨w2.heap.size, 0, none⟩), v9, v10, Value.pointer (some ⟨w.heap.size, 0, none⟩), Value.agg #[.slice aa la ca, .int .i64 n, .slice am lm cm, .slice ae es.length ce], v, Value.slice (some ⟨b1, o1, none⟩) n c1, v, Value.slice a2 start.length c2, v17, v18, v19, v20, v21, v22, v23, v24, v25, v26, v27, v28, v29, v30, v31, v32, v33, v34, v35, v36, v37, v38, v39, v40, v41, v42, v43, v44, v45, v46, v47, v48, undef], defers := ds }) ((flagL n start).count false + start.length + 1) ?_ ?_
  · repeat apply Exists.intro
    exact ⟨hstart0, hok0, rfl, hm0, rfl, rfl⟩
  · intro gk _ wr h
    obtain ⟨v9, h⟩ := h
    obtain ⟨v10, h⟩ := h
    obtain ⟨v17, h⟩ := h
    obtain ⟨v18, h⟩ := h
    obtain ⟨v19, h⟩ := h
    obtain ⟨v20, h⟩ := h
    obtain ⟨v21, h⟩ := h
    obtain ⟨v22, h⟩ := h
    obtain ⟨v23, h⟩ := h
    obtain ⟨v24, h⟩ := h
    obtain ⟨v25, h⟩ := h
    obtain ⟨v26, h⟩ := h
    obtain ⟨v27, h⟩ := h
    obtain ⟨v28, h⟩ := h
    obtain ⟨v29, h⟩ := h
    obtain ⟨v30, h⟩ := h
    obtain ⟨v31, h⟩ := h
    obtain ⟨v32, h⟩ := h
    obtain ⟨v33, h⟩ := h
    obtain ⟨v34, h⟩ := h
    obtain ⟨v35, h⟩ := h
    obtain ⟨v36, h⟩ := h
    obtain ⟨v37, h⟩ := h
    obtain ⟨v38, h⟩ := h
    obtain ⟨v39, h⟩ := h
    obtain ⟨v40, h⟩ := h
    obtain ⟨v41, h⟩ := h
    obtain ⟨v42, h⟩ := h
    obtain ⟨v43, h⟩ := h
    obtain ⟨v44, h⟩ := h
    obtain ⟨v45, h⟩ := h
    obtain ⟨v46, h⟩ := h
    obtain ⟨v47, h⟩ := h
    obtain ⟨v48, h⟩ := h
    obtain ⟨ds, tag, vq, seen, q, m, hI, hok, rfl, hmb, hfw, rfl⟩ := h
    have Hmb := Lib.hid hmb
    clear hmb
    intro J K hJ hK
    have hml := hok.sum
    have hnl : n ≤ 1000000 := by omega
    cases q with
    | nil =>
      have k8 : wr.cell? ⟨w2.heap.size, 0, none⟩ = some vq := hI.qb.cell 0
      have k7 : wr.cell? ⟨w1.heap.size, 0, none⟩ = some (.slice (some ⟨b1, o1, none⟩) n c1) := hI.eb.cell 0
      obtain ⟨aq, cq, rfl⟩ := hI.st.val
      have hlen := hok.len
      have Hlen := Lib.hid hlen
      clear hlen
      go_wp2_with fail
      refine bodyPostM_ret hI.marks (fun w' hq => ⟨.slice (some ⟨b1, o1, none⟩) n c1, by simp [results, Try.results81, go_sem], _, rfl, ?_, hI.below.trans hq.below⟩)
      rw [hfw.out, fwd]
      have h9 := hq.row hI.se
      rw [← Hlen.out] at h9
      obtain ⟨a9, c9, e9, h10⟩ := h9.rd
      rw [Hlen.out] at e9
      cases e9
      exact ⟨_, _, by rw [Hlen.out], h10⟩
    | cons s q =>
      obtain ⟨bq, oq, cq, rfl, hbq, hBq, hcq⟩ := hI.st.at_int 0 (by simp)
      have k8 : wr.cell? ⟨w2.heap.size, 0, none⟩ = some (.slice (some ⟨bq, oq, none⟩) (s :: q).length cq) := hI.qb.cell 0
      have f8 := hI.qb.frozen 0
      obtain ⟨hs0, hs1⟩ := hok.range s (List.mem_cons_self ..)
      have htail := Row.tail (m := q.length) (x := .int .i64 s) (cs := ints q) hI.st
      rw [List.length_cons] at k8
      have hq0 : 0 < q.length + 1 := by omega
      have hcs : wr.cell? ⟨bq, oq, none⟩ = some (.int .i64 s) := hcq
      have hwin : (ints (s :: q)).length = (ints (s :: q)).length := rfl
      have hcapn : q.length + 1 ≤ cq := by
        rcases hI.st.2 with ⟨h', _⟩ | ⟨_, _, _, _, h', _, h9, _⟩
        · cases h'
        · cases h'; simpa using h9
      have hcapm : cq ≤ maxLen := by
        rcases hI.st.2 with ⟨h', _⟩ | ⟨_, _, _, _, h', _, _, h9, _⟩
        · cases h'
        · cases h'; exact h9
      unfold maxLen at hcapm
      have Hok := Lib.hid hok
      have Hml := Lib.hid hml
      clear hcq hok hml hwin
      have Hm1 : Hid (1 ≤ m) := by
        have := Hml.out
        simp only [List.length_cons] at this
        show 1 ≤ m
        omega
      have Hok2 : Hid (FOk n (m - 1) seen q) := ⟨Hok.out.len, fun t ht => Hok.out.range t (List.mem_cons_of_mem _ ht), by have := Hok.out.sum; simp only [List.length_cons] at this; omega⟩
      have Hnext : Hid (forwardF n es perm start = fwd (subOf es) perm (m - 1 + 1) ((subOf es s).foldl (fwStep perm) (seen, q)).1 ((subOf es s).foldl (fwStep perm) (seen, q)).2) := by
        show _ = _
        rw [hfw.out, fwd, show m - 1 + 1 = m by have := Hm1.out; omega]
      have g0 : wr.cell? ⟨w.heap.size, 0, none⟩ = some (Value.slice aa la ca) := hI.g.cell 0
      have g1 : wr.cell? ⟨w.heap.size, 1, none⟩ = some (Value.int .i64 n) := hI.g.cell 1
      have g2 : wr.cell? ⟨w.heap.size, 2, none⟩ = some (Value.slice am lm cm) := hI.g.cell 2
      have g3 : wr.cell? ⟨w.heap.size, 3, none⟩ = some (Value.slice ae es.length ce) := hI.g.cell 3
      have g4 : wr.cell? ⟨w.heap.size, 4, none⟩ = some (Value.slice (some ⟨bf, offf, none⟩) (n + 1) cf) := hI.g.cell 4
      have hwne : ¬ w2.heap.size = w.heap.size := by omega
      have hwne2 : ¬ w.heap.size = w2.heap.size := by omega
      have Hm : Hid (m ≤ 999999) := Hmb
      by_cases hcap : cq = 1
      · have hI2 := hI.setQ (htail.1 hcap)
        subst hcap
        obtain rfl : q = [] := List.eq_nil_of_length_eq_zero (by omega)
        clear htail
        go_wp2_with fail
        have hI3 : FInv w #[.slice aa la ca, .int .i64 n, .slice am lm cm, .slice ae es.length ce, .slice (some ⟨bf, offf, none⟩) (n + 1) cf] (.func (.func fp) #[] capp) n w1.heap.size w2.heap.size (.slice (some ⟨b1, o1, none⟩) n c1) ds (wr.setCell ⟨w2.heap.size, 0, none⟩ (.slice (some ⟨bq, oq, none⟩) 0 0)) tag (.slice (some ⟨bq, oq, none⟩) 0 0) seen [] := by simpa using hI2
        clear g0 g1 g2 g3 g4 k8 f8 hcs hI2 hI hwne hwne2
        generalize wr.setCell ⟨w2.heap.size, 0, none⟩ _ = wq at *
        refine (edges_any _ _ _ _ _ _ _ _ _ _ _ _ _ _ _).mono ?_
        rintro e w3 ⟨rfl, rfl⟩
        go_wp2_with fail
        have hI4 := (hI3.call (bel_alloc wq (.cells #[.slice aa la ca, .int .i64 n, .slice am lm cm, .slice ae es.length ce, .slice (some ⟨bf, offf, none⟩) (n + 1) cf] 80))).call (bel_alloc _ (.cells #[.int .i64 s] 3))
        have hg3 : ((wq.alloc (.cells #[.slice aa la ca, .int .i64 n, .slice am lm cm, .slice ae es.length ce, .slice (some ⟨bf, offf, none⟩) (n + 1) cf] 80)).alloc (.cells #[.int .i64 s] 3)).cell? ⟨wq.heap.size, 3, none⟩ = some (.slice ae es.length ce) := by simp [go_sem]
        have hg4 : ((wq.alloc (.cells #[.slice aa la ca, .int .i64 n, .slice am lm cm, .slice ae es.length ce, .slice (some ⟨bf, offf, none⟩) (n + 1) cf] 80)).alloc (.cells #[.int .i64 s] 3)).cell? ⟨wq.heap.size, 4, none⟩ = some (.slice (some ⟨bf, offf, none⟩) (n + 1) cf) := by simp [go_sem]
        have hg5 : ((wq.alloc (.cells #[.slice aa la ca, .int .i64 n, .slice am lm cm, .slice ae es.length ce, .slice (some ⟨bf, offf, none⟩) (n + 1) cf] 80)).alloc (.cells #[.int .i64 s] 3)).cell? ⟨wq.heap.size + 1, 0, none⟩ = some (.int .i64 s) := by simp [go_sem]
        clear hI3
        generalize (wq.alloc (.cells #[.slice aa la ca, .int .i64 n, .slice am lm cm, .slice ae es.length ce, .slice (some ⟨bf, offf, none⟩) (n + 1) cf] 80)).alloc (.cells #[.int .i64 s] 3) = w3 at *
        have hfc : ∀ j : Nat, j ≤ n → w3.cell? ⟨bf, offf + j, none⟩ = some (.int .i64 (fstN es j)) := by
          intro j hj
          have h1 := Hcf.out j (by simp [firsts]; omega)
          have h2 := firsts_get n es j hj
          rw [List.getElem?_eq_getElem (by simp [firsts]; omega)] at h2
          rw [Option.some.inj h2] at h1
          exact keep0 hI4.below h1
        have hseq := edges_stops wq.heap.size (wq.heap.size + 1) w.heap.size ae (some ⟨bf, offf, none⟩) ce (n + 1) cf s es (fstN es s) (fstN es (s + 1)) (fstN_mono es _ _ (by omega)) (fstN_le es _) hl w3 hI4.below.size hg3 hg4 hg5 hs0 (by omega) bf offf rfl (by omega)
          (by have := hfc s.toNat (by omega); rwa [Int.toNat_of_nonneg hs0] at this) (by have := hfc (s + 1).toNat (by omega); rwa [Int.toNat_of_nonneg (by omega)] at this) (hre.mono hI4.below) (fun h0 ad e => World.block_lt_of_cell? w ⟨ad.block, ad.off + 0, none⟩ (hre.cell ad e 0 (by rw [hre.hlen]; omega)))
        clear hg3 hg4 hg5 hfc
        refine wp_edges (bg := wq.heap.size) (bs := wq.heap.size + 1) (n₀ := w.heap.size) rfl hseq (Below.refl _ _) hI4.below.size rfl
          (fun pre W => (∀ y ∈ pre, y ∈ subOf es s) ∧ ∃ tag vq, FInv w #[.slice aa la ca, .int .i64 n, .slice am lm cm, .slice ae es.length ce, .slice (some ⟨bf, offf, none⟩) (n + 1) cf] (.func (.func fp) #[] capp) n w1.heap.size w2.heap.size (.slice (some ⟨b1, o1, none⟩) n c1) ds W tag vq (pre.foldl (fwStep perm) (seen, [])).1 (pre.foldl (fwStep perm) (seen, [])).2)
          ?hI ⟨by simp, tag, _, hI4⟩
          (fun x a' W => ∃ (Bx : Nat) (y17 y18 y19 y20 y21 y22 y23 y24 : Value), w.heap.size ≤ Bx ∧ W.heap[Bx]? = some (.cells #[.int .i64 x.f, .int .i64 x.e, .int .i64 x.t] 45 (0, 0)) ∧ a' = { tmps := #[Value.agg #[.slice aa la ca, .int .i64 n, .slice am lm cm, .slice ae es.length ce, .slice (some ⟨bf, offf, none⟩) (n + 1) cf], v, Value.func (.func fp) #[] capp, Value.pointer (some ⟨w.heap.size, 0, none⟩), undef, Value.pointer (some ⟨w.heap.size + 1, 0, none⟩), Value.slice none 0 0, Value.pointer (some ⟨w1.heap.size, 0, none⟩), Value.pointer (some ⟨w2.heap.size, 0, none⟩), Value.int .i64 s, Value.pointer (some ⟨Bx, 0, none⟩), Value.pointer (some ⟨w.heap.size, 0, none⟩), Value.agg #[.slice aa la ca, .int .i64 n, .slice am lm cm, .slice ae es.length ce], v, Value.slice (some ⟨b1, o1, none⟩) n c1, v, Value.slice a2 start.length c2, y17, y18, y19, y20, y21, y22, y23, y24, Value.agg #[.slice aa la ca, .int .i64 n, .slice am lm cm, .slice ae es.length ce, .slice (some ⟨bf, offf, none⟩) (n + 1) cf], Value.int .i64 s, Value.func (.func 84) #[] #[.pointer (some ⟨wq.heap.size, 0, none⟩), .pointer (some ⟨wq.heap.size + 1, 0, none⟩)], Value.agg #[.int .i64 x.f, .int .i64 x.e, .int .i64 x.t], v29, v30, v31, v32, v33, v34, v35, v36, v37, v38, v39, v40, v41, v42, v43, v44, v45, v46, v47, v48, undef], defers := [] })
          ?hAx ?assign ?body ?done
        case hI =>
          intro pre W W' row h1 hg hr
          obtain ⟨h1, tag, vs, h2⟩ := h1
          exact ⟨h1, tag, vs, h2.others hg (fun D hD => hI4.marks.lt hD) hI4.below.size hr⟩
        case hAx =>
          intro x a' u W W' row h1 hg hr
          obtain ⟨Bx, y17, y18, y19, y20, y21, y22, y23, y24, h1, h2, h3⟩ := h1
          refine ⟨Bx, y17, y18, y19, y20, y21, y22, y23, y24, h1, (hg.block Bx (Array.getElem?_eq_some_iff.1 h2).1 (fun e => ?_)).trans h2, h3⟩
          obtain ⟨o, ho, hc⟩ := (hr Bx e.symm).2
          rw [h2] at ho
          cases ho
          cases hc
        case assign =>
          intro l pre x W K hx hiW hK
          dsimp only [Ed.val]
          gi_wp2
          refine hK _ _ ((KeepsOthers.alloc _ _).from _) ((Below.refl _ W).alloc ?_ _) ?_ ⟨W.heap.size, _, _, _, _, _, _, _, _, ?_, (by repeat (first | with_reducible assumption | (refine heap_drewp ?_) | (refine heap_at ?_; (first | rfl | (simp; done) | (simp; omega))) | (refine heap_past ?_ ?_; (next => first | omega | (simp; done) | (simp; omega))))), rfl⟩
          · obtain ⟨_, _, _, h2⟩ := hiW; exact h2.below.size
          · obtain ⟨h1, tag, vs, h2⟩ := hiW; exact ⟨h1, tag, vs, h2.call (bel_alloc _ _)⟩
          · obtain ⟨_, _, _, h2⟩ := hiW; exact h2.below.size
        case body =>
          rintro l pre x a' W hx hl ⟨hpre, tag, vq, hJ⟩ ⟨Bx, y17, y18, y19, y20, y21, y22, y23, y24, hBx, hbx, rfl⟩
          have hJ2 := hJ.retag hbx
          have hOx : Own W w.heap.size (tagUp tag Bx 5) 5 Bx #[.int .i64 x.f, .int .i64 x.e, .int .i64 x.t] 45 := ⟨hbx, tagUp_at _ _ _, hBx⟩
          have hxe := subOf_mem hx
          have hxr := Hin.out x hxe
          have hok' := FOk.fold (perm := perm) pre Hok2.out (fun y hy => Hin.out y (subOf_mem (hpre y hy)))
          have Hmem : Hid (∀ y ∈ pre ++ [x], y ∈ subOf es s) := by
            intro y hy
            rcases List.mem_append.1 hy with h1 | h1
            · exact hpre y h1
            · rw [List.mem_singleton.1 h1]; exact hx
          have Hacc : Hid ((pre ++ [x]).foldl (fwStep perm) (seen, []) = fwStep perm (pre.foldl (fwStep perm) (seen, [])) x) := by
            show _ = _
            rw [List.foldl_append]; rfl
          clear hpre hx hJ
          generalize pre.foldl (fwStep perm) (seen, []) = acc at *
          obtain ⟨se, st⟩ := acc
          dsimp only at hJ2 hok'
          have hBW := hJ2.below.size
          have hBxl := hOx.lt
          have hb7l := hJ2.eb.lt
          have hb8l := hJ2.qb.lt
          have x0 : W.cell? ⟨Bx, 0, none⟩ = some (.int .i64 x.f) := hOx.cell 0
          have x1 : W.cell? ⟨Bx, 1, none⟩ = some (.int .i64 x.e) := hOx.cell 1
          have x2 : W.cell? ⟨Bx, 2, none⟩ = some (.int .i64 x.t) := hOx.cell 2
          have e0 : W.cell? ⟨w1.heap.size, 0, none⟩ = some (.slice (some ⟨b1, o1, none⟩) n c1) := hJ2.eb.cell 0
          have hlen := hok'.len
          have e1 := hJ2.se.cellAt x.t.toNat (by omega)
          have hq : x.t.toNat < se.length := by omega
          have hstl : st.length ≤ 1000000 := by have := hok'.sum; have := Hm.out; omega
          clear hlen
          rw [List.getElem?_map, List.getElem?_eq_getElem hq, Option.map_some] at e1
          cases hb : se[x.t.toNat]
          · rw [hb] at e1
            have e2 : W.cell? ⟨w.heap.size + 1, 0, none⟩ = some (.func (.func fp) #[] capp) := hJ2.fp.cell 0
            have Hb := Lib.hid hb
            clear hb
            have hHep : Hid (∀ args W, (callFunc fp args).run Try.prog W = .ok (.enter fp args) W) := Hep.out
            cases hpx : perm x
            · have Hpx := Lib.hid hpx
              clear hpx
              gi_wp2_with fail
              refine ⟨trivial, ?_⟩
              rw [hHep.out, Oper.uponIn_enter]
              refine ⟨fun _ => by decide, ?_⟩
              refine (CallsIn.inRound l (callsIn_wide.2 (Hp.out x W hxe hJ2.below))).mono ?_
              rintro e w4 ⟨he, hb4⟩
              rw [Hpx.out] at he
              subst he
              dsimp only
              gi_wp2
              refine ⟨(keepsBelow hb4), belCall (Below.refl _ _) hb4 hJ2.below.size, Hmem.out, tagUp tag Bx 5, vq, ?_⟩
              rw [Hacc.out, show fwStep perm (se, st) x = (se, st) from ?_]
              · exact hJ2.call hb4
              · unfold fwStep
                rw [if_neg]
                rw [Hpx.out]
                simp
            · have Hpx := Lib.hid hpx
              clear hpx
              gi_wp2_with fail
              refine ⟨trivial, ?_⟩
              rw [hHep.out, Oper.uponIn_enter]
              refine ⟨fun _ => by decide, ?_⟩
              refine (CallsIn.inRound l (callsIn_wide.2 (Hp.out x W hxe hJ2.below))).mono ?_
              rintro e w4 ⟨he, hb4⟩
              rw [Hpx.out] at he
              subst he
              dsimp only
              have hJ4 := hJ2.call hb4
              have hO4 := hOx.below hb4
              obtain ⟨avs, cvs, rfl⟩ := hJ4.st.val
              clear x0 x1 x2 e0 e1 e2 hJ2 hOx
              have hBxl4 := hO4.lt
              have hb7l4 := hJ4.eb.lt
              have hb8l4 := hJ4.qb.lt
              have x2 : w4.cell? ⟨Bx, 2, none⟩ = some (.int .i64 x.t) := hO4.cell 2
              have e0 : w4.cell? ⟨w1.heap.size, 0, none⟩ = some (.slice (some ⟨b1, o1, none⟩) n c1) := hJ4.eb.cell 0
              have e1 := hJ4.se.cellAt x.t.toNat (by omega)
              rw [List.getElem?_map, List.getElem?_eq_getElem hq, Option.map_some] at e1
              have e2 := hJ4.se.frozenAt (o1 + x.t.toNat)
              obtain ⟨hJ5, t5⟩ := hJ4.setSeen x.t.toNat
              have hO5 := hO4.turn t5 (by decide)
              have z2 : (w4.setCell ⟨b1, o1 + x.t.toNat, none⟩ (.bool true)).cell? ⟨Bx, 2, none⟩ = some (.int .i64 x.t) := hO5.cell 2
              have z3 : (w4.setCell ⟨b1, o1 + x.t.toNat, none⟩ (.bool true)).cell? ⟨w2.heap.size, 0, none⟩ = some (.slice avs st.length cvs) := hJ5.qb.cell 0
              have T5 := Lib.hid t5
              clear t5 hO5 hJ4 hO4
              obtain ⟨i1, hi1, hw0, hw1, hw2⟩ := info_parts Try.info_int
              have hJ6 := hJ5.call (bel_alloc _ (.cells #[.int .i64 x.t] 3))
              gi_wp2_with (gi_at_builtin; (refine wpListIn_append_row rfl _ _ 28 rfl 3 i1 (.int .i64 0) 8 Try.underlying28 hi1 hw0 hw1 hw2 rfl rfl hJ6.st (some ⟨_, 0, none⟩) 1 1 [.int .i64 x.t] rfl rfl (by simp) (fun ad e => by cases e; exact new_cells_at _ _ (by simp)) (by simp [Value.oneCell']) (by unfold maxLen; omega) (by omega) hJ6.below.size ?_); intro v6 w6 tag6 hr6 ht6; have hJ7 := hJ6.push (x := x.t) hr6 ht6; have s6 := hJ6.qb.turn ht6 (by decide); obtain ⟨a6, c6, rfl⟩ := hr6.val; have z0 := s6.cell 0; have z1 := s6.frozen 0; have z4 : w6.cell? ⟨w2.heap.size, 0, none⟩ = some (.slice avs st.length cvs) := z0; clear z0)
              refine ⟨(keepsBelow hb4).trans ((keepsTurn T5.out).trans ((keepsBelow (bel_alloc _ (.cells #[.int .i64 x.t] 3))).trans ((keepsTurn ht6).trans (keepsTurn (Turn.setCell s6 0 (.slice a6 (st.length + 1) c6)))))), ?_, Hmem.out, tag6, .slice a6 (st.length + 1) c6, ?_⟩
              · have q1 := belCall (Below.refl w.heap.size W) hb4 hBW
                have q2 := belTurn q1 T5.out (Nat.le_trans hBW hb4.size)
                have q3 := belCall q2 (bel_alloc _ (.cells #[.int .i64 x.t] 3)) (Nat.le_trans hBW q2.size)
                have q4 := belTurn q3 ht6 (Nat.le_trans hBW q3.size)
                exact belTurn q4 (Turn.setCell s6 0 (.slice a6 (st.length + 1) c6)) (Nat.le_trans hBW q4.size)
              · rw [Hacc.out, show fwStep perm (se, st) x = (se.set x.t.toNat true, st ++ [x.t]) from ?_]
                · exact hJ7
                · unfold fwStep
                  rw [if_pos]
                  dsimp only
                  rw [List.getElem?_eq_getElem hq, Hb.out, Hpx.out]
                  exact ⟨rfl, rfl⟩
          · rw [hb] at e1
            have Hb := Lib.hid hb
            clear hb
            gi_wp2
            refine ⟨fun _ h => (by cases h), ?_⟩
            gi_wp2
            refine ⟨KeepsFrom.refl _ _, Below.refl _ _, Hmem.out, tagUp tag Bx 5, vq, ?_⟩
            rw [Hacc.out, show fwStep perm (se, st) x = (se, st) from ?_]
            · exact hJ2
            · unfold fwStep
              rw [if_neg]
              dsimp only
              rw [List.getElem?_eq_getElem hq, Hb.out]
              simp
        case done =>
          rintro D W hD ⟨hpre, tag', vq', hW⟩ hd
          have hW2 := hW.mark (fun D' hD' => hI4.marks.lt hD') hD hI4.below.size hd
          have Hfin := Lib.hid hW2
          have hok' := FOk.fold (perm := perm) (subOf es s) Hok2.out (fun y hy => Hin.out y (subOf_mem hy))
          clear hpre hseq hd hW hW2
          go_wp2_with fail
          refine Handed.intro (m - 1 + 1) (by have := Hm1.out; omega) (hJ _ _ _ ?_)
          repeat apply Exists.intro
          exact ⟨Hfin.out, hok', rfl, by have := Hm.out; omega, Hnext.out, rfl⟩
      · have hI2 := hI.setQ (htail.2 hcap)
        have hcap2 : ¬ 1 = cq := fun e => hcap e.symm
        clear htail
        go_wp2_with fail
        have hI3 : FInv w #[.slice aa la ca, .int .i64 n, .slice am lm cm, .slice ae es.length ce, .slice (some ⟨bf, offf, none⟩) (n + 1) cf] (.func (.func fp) #[] capp) n w1.heap.size w2.heap.size (.slice (some ⟨b1, o1, none⟩) n c1) ds (wr.setCell ⟨w2.heap.size, 0, none⟩ (.slice (some ⟨bq, oq + 1, none⟩) q.length (cq - 1))) tag (.slice (some ⟨bq, oq + 1, none⟩) q.length (cq - 1)) seen q := by simpa using hI2
        clear g0 g1 g2 g3 g4 k8 f8 hcs hI2 hI hwne hwne2
        generalize wr.setCell ⟨w2.heap.size, 0, none⟩ _ = wq at *
        refine (edges_any _ _ _ _ _ _ _ _ _ _ _ _ _ _ _).mono ?_
        rintro e w3 ⟨rfl, rfl⟩
        go_wp2_with fail
        have hI4 := (hI3.call (bel_alloc wq (.cells #[.slice aa la ca, .int .i64 n, .slice am lm cm, .slice ae es.length ce, .slice (some ⟨bf, offf, none⟩) (n + 1) cf] 80))).call (bel_alloc _ (.cells #[.int .i64 s] 3))
        have hg3 : ((wq.alloc (.cells #[.slice aa la ca, .int .i64 n, .slice am lm cm, .slice ae es.length ce, .slice (some ⟨bf, offf, none⟩) (n + 1) cf] 80)).alloc (.cells #[.int .i64 s] 3)).cell? ⟨wq.heap.size, 3, none⟩ = some (.slice ae es.length ce) := by simp [go_sem]
        have hg4 : ((wq.alloc (.cells #[.slice aa la ca, .int .i64 n, .slice am lm cm, .slice ae es.length ce, .slice (some ⟨bf, offf, none⟩) (n + 1) cf] 80)).alloc (.cells #[.int .i64 s] 3)).cell? ⟨wq.heap.size, 4, none⟩ = some (.slice (some ⟨bf, offf, none⟩) (n + 1) cf) := by simp [go_sem]
        have hg5 : ((wq.alloc (.cells #[.slice aa la ca, .int .i64 n, .slice am lm cm, .slice ae es.length ce, .slice (some ⟨bf, offf, none⟩) (n + 1) cf] 80)).alloc (.cells #[.int .i64 s] 3)).cell? ⟨wq.heap.size + 1, 0, none⟩ = some (.int .i64 s) := by simp [go_sem]
        clear hI3
        generalize (wq.alloc (.cells #[.slice aa la ca, .int .i64 n, .slice am lm cm, .slice ae es.length ce, .slice (some ⟨bf, offf, none⟩) (n + 1) cf] 80)).alloc (.cells #[.int .i64 s] 3) = w3 at *
        have hfc : ∀ j : Nat, j ≤ n → w3.cell? ⟨bf, offf + j, none⟩ = some (.int .i64 (fstN es j)) := by
          intro j hj
          have h1 := Hcf.out j (by simp [firsts]; omega)
          have h2 := firsts_get n es j hj
          rw [List.getElem?_eq_getElem (by simp [firsts]; omega)] at h2
          rw [Option.some.inj h2] at h1
          exact keep0 hI4.below h1
        have hseq := edges_stops wq.heap.size (wq.heap.size + 1) w.heap.size ae (some ⟨bf, offf, none⟩) ce (n + 1) cf s es (fstN es s) (fstN es (s + 1)) (fstN_mono es _ _ (by omega)) (fstN_le es _) hl w3 hI4.below.size hg3 hg4 hg5 hs0 (by omega) bf offf rfl (by omega)
          (by have := hfc s.toNat (by omega); rwa [Int.toNat_of_nonneg hs0] at this) (by have := hfc (s + 1).toNat (by omega); rwa [Int.toNat_of_nonneg (by omega)] at this) (hre.mono hI4.below) (fun h0 ad e => World.block_lt_of_cell? w ⟨ad.block, ad.off + 0, none⟩ (hre.cell ad e 0 (by rw [hre.hlen]; omega)))
        clear hg3 hg4 hg5 hfc
        refine wp_edges (bg := wq.heap.size) (bs := wq.heap.size + 1) (n₀ := w.heap.size) rfl hseq (Below.refl _ _) hI4.below.size rfl
          (fun pre W => (∀ y ∈ pre, y ∈ subOf es s) ∧ ∃ tag vq, FInv w #[.slice aa la ca, .int .i64 n, .slice am lm cm, .slice ae es.length ce, .slice (some ⟨bf, offf, none⟩) (n + 1) cf] (.func (.func fp) #[] capp) n w1.heap.size w2.heap.size (.slice (some ⟨b1, o1, none⟩) n c1) ds W tag vq (pre.foldl (fwStep perm) (seen, q)).1 (pre.foldl (fwStep perm) (seen, q)).2)
          ?hI ⟨by simp, tag, _, hI4⟩
          (fun x a' W => ∃ (Bx : Nat) (y17 y18 y19 y20 y21 y22 y23 y24 : Value), w.heap.size ≤ Bx ∧ W.heap[Bx]? = some (.cells #[.int .i64 x.f, .int .i64 x.e, .int .i64 x.t] 45 (0, 0)) ∧ a' = { tmps := #[Value.agg #[.slice aa la ca, .int .i64 n, .slice am lm cm, .slice ae es.length ce, .slice (some ⟨bf, offf, none⟩) (n + 1) cf], v, Value.func (.func fp) #[] capp, Value.pointer (some ⟨w.heap.size, 0, none⟩), undef, Value.pointer (some ⟨w.heap.size + 1, 0, none⟩), Value.slice none 0 0, Value.pointer (some ⟨w1.heap.size, 0, none⟩), Value.pointer (some ⟨w2.heap.size, 0, none⟩), Value.int .i64 s, Value.pointer (some ⟨Bx, 0, none⟩), Value.pointer (some ⟨w.heap.size, 0, none⟩), Value.agg #[.slice aa la ca, .int .i64 n, .slice am lm cm, .slice ae es.length ce], v, Value.slice (some ⟨b1, o1, none⟩) n c1, v, Value.slice a2 start.length c2, y17, y18, y19, y20, y21, y22, y23, y24, Value.agg #[.slice aa la ca, .int .i64 n, .slice am lm cm, .slice ae es.length ce, .slice (some ⟨bf, offf, none⟩) (n + 1) cf], Value.int .i64 s, Value.func (.func 84) #[] #[.pointer (some ⟨wq.heap.size, 0, none⟩), .pointer (some ⟨wq.heap.size + 1, 0, none⟩)], Value.agg #[.int .i64 x.f, .int .i64 x.e, .int .i64 x.t], v29, v30, v31, v32, v33, v34, v35, v36, v37, v38, v39, v40, v41, v42, v43, v44, v45, v46, v47, v48, undef], defers := [] })
          ?hAx ?assign ?body ?done
        case hI =>
          intro pre W W' row h1 hg hr
          obtain ⟨h1, tag, vs, h2⟩ := h1
          exact ⟨h1, tag, vs, h2.others hg (fun D hD => hI4.marks.lt hD) hI4.below.size hr⟩
        case hAx =>
          intro x a' u W W' row h1 hg hr
          obtain ⟨Bx, y17, y18, y19, y20, y21, y22, y23, y24, h1, h2, h3⟩ := h1
          refine ⟨Bx, y17, y18, y19, y20, y21, y22, y23, y24, h1, (hg.block Bx (Array.getElem?_eq_some_iff.1 h2).1 (fun e => ?_)).trans h2, h3⟩
          obtain ⟨o, ho, hc⟩ := (hr Bx e.symm).2
          rw [h2] at ho
          cases ho
          cases hc
        case assign =>
          intro l pre x W K hx hiW hK
          dsimp only [Ed.val]
          gi_wp2
          refine hK _ _ ((KeepsOthers.alloc _ _).from _) ((Below.refl _ W).alloc ?_ _) ?_ ⟨W.heap.size, _, _, _, _, _, _, _, _, ?_, (by repeat (first | with_reducible assumption | (refine heap_drewp ?_) | (refine heap_at ?_; (first | rfl | (simp; done) | (simp; omega))) | (refine heap_past ?_ ?_; (next => first | omega | (simp; done) | (simp; omega))))), rfl⟩
          · obtain ⟨_, _, _, h2⟩ := hiW; exact h2.below.size
          · obtain ⟨h1, tag, vs, h2⟩ := hiW; exact ⟨h1, tag, vs, h2.call (bel_alloc _ _)⟩
          · obtain ⟨_, _, _, h2⟩ := hiW; exact h2.below.size
        case body =>
          rintro l pre x a' W hx hl ⟨hpre, tag, vq, hJ⟩ ⟨Bx, y17, y18, y19, y20, y21, y22, y23, y24, hBx, hbx, rfl⟩
          have hJ2 := hJ.retag hbx
          have hOx : Own W w.heap.size (tagUp tag Bx 5) 5 Bx #[.int .i64 x.f, .int .i64 x.e, .int .i64 x.t] 45 := ⟨hbx, tagUp_at _ _ _, hBx⟩
          have hxe := subOf_mem hx
          have hxr := Hin.out x hxe
          have hok' := FOk.fold (perm := perm) pre Hok2.out (fun y hy => Hin.out y (subOf_mem (hpre y hy)))
          have Hmem : Hid (∀ y ∈ pre ++ [x], y ∈ subOf es s) := by
            intro y hy
            rcases List.mem_append.1 hy with h1 | h1
            · exact hpre y h1
            · rw [List.mem_singleton.1 h1]; exact hx
          have Hacc : Hid ((pre ++ [x]).foldl (fwStep perm) (seen, q) = fwStep perm (pre.foldl (fwStep perm) (seen, q)) x) := by
            show _ = _
            rw [List.foldl_append]; rfl
          clear hpre hx hJ
          generalize pre.foldl (fwStep perm) (seen, q) = acc at *
          obtain ⟨se, st⟩ := acc
          dsimp only at hJ2 hok'
          have hBW := hJ2.below.size
          have hBxl := hOx.lt
          have hb7l := hJ2.eb.lt
          have hb8l := hJ2.qb.lt
          have x0 : W.cell? ⟨Bx, 0, none⟩ = some (.int .i64 x.f) := hOx.cell 0
          have x1 : W.cell? ⟨Bx, 1, none⟩ = some (.int .i64 x.e) := hOx.cell 1
          have x2 : W.cell? ⟨Bx, 2, none⟩ = some (.int .i64 x.t) := hOx.cell 2
          have e0 : W.cell? ⟨w1.heap.size, 0, none⟩ = some (.slice (some ⟨b1, o1, none⟩) n c1) := hJ2.eb.cell 0
          have hlen := hok'.len
          have e1 := hJ2.se.cellAt x.t.toNat (by omega)
          have hq : x.t.toNat < se.length := by omega
          have hstl : st.length ≤ 1000000 := by have := hok'.sum; have := Hm.out; omega
          clear hlen
          rw [List.getElem?_map, List.getElem?_eq_getElem hq, Option.map_some] at e1
          cases hb : se[x.t.toNat]
          · rw [hb] at e1
            have e2 : W.cell? ⟨w.heap.size + 1, 0, none⟩ = some (.func (.func fp) #[] capp) := hJ2.fp.cell 0
            have Hb := Lib.hid hb
            clear hb
            have hHep : Hid (∀ args W, (callFunc fp args).run Try.prog W = .ok (.enter fp args) W) := Hep.out
            cases hpx : perm x
            · have Hpx := Lib.hid hpx
              clear hpx
              gi_wp2_with fail
              refine ⟨trivial, ?_⟩
              rw [hHep.out, Oper.uponIn_enter]
              refine ⟨fun _ => by decide, ?_⟩
              refine (CallsIn.inRound l (callsIn_wide.2 (Hp.out x W hxe hJ2.below))).mono ?_
              rintro e w4 ⟨he, hb4⟩
              rw [Hpx.out] at he
              subst he
              dsimp only
              gi_wp2
              refine ⟨(keepsBelow hb4), belCall (Below.refl _ _) hb4 hJ2.below.size, Hmem.out, tagUp tag Bx 5, vq, ?_⟩
              rw [Hacc.out, show fwStep perm (se, st) x = (se, st) from ?_]
              · exact hJ2.call hb4
              · unfold fwStep
                rw [if_neg]
                rw [Hpx.out]
                simp
            · have Hpx := Lib.hid hpx
              clear hpx
              gi_wp2_with fail
              refine ⟨trivial, ?_⟩
              rw [hHep.out, Oper.uponIn_enter]
              refine ⟨fun _ => by decide, ?_⟩
              refine (CallsIn.inRound l (callsIn_wide.2 (Hp.out x W hxe hJ2.below))).mono ?_
              rintro e w4 ⟨he, hb4⟩
              rw [Hpx.out] at he
              subst he
              dsimp only
              have hJ4 := hJ2.call hb4
              have hO4 := hOx.below hb4
              obtain ⟨avs, cvs, rfl⟩ := hJ4.st.val
              clear x0 x1 x2 e0 e1 e2 hJ2 hOx
              have hBxl4 := hO4.lt
              have hb7l4 := hJ4.eb.lt
              have hb8l4 := hJ4.qb.lt
              have x2 : w4.cell? ⟨Bx, 2, none⟩ = some (.int .i64 x.t) := hO4.cell 2
              have e0 : w4.cell? ⟨w1.heap.size, 0, none⟩ = some (.slice (some ⟨b1, o1, none⟩) n c1) := hJ4.eb.cell 0
              have e1 := hJ4.se.cellAt x.t.toNat (by omega)
              rw [List.getElem?_map, List.getElem?_eq_getElem hq, Option.map_some] at e1
              have e2 := hJ4.se.frozenAt (o1 + x.t.toNat)
              obtain ⟨hJ5, t5⟩ := hJ4.setSeen x.t.toNat
              have hO5 := hO4.turn t5 (by decide)
              have z2 : (w4.setCell ⟨b1, o1 + x.t.toNat, none⟩ (.bool true)).cell? ⟨Bx, 2, none⟩ = some (.int .i64 x.t) := hO5.cell 2
              have z3 : (w4.setCell ⟨b1, o1 + x.t.toNat, none⟩ (.bool true)).cell? ⟨w2.heap.size, 0, none⟩ = some (.slice avs st.length cvs) := hJ5.qb.cell 0
              have T5 := Lib.hid t5
              clear t5 hO5 hJ4 hO4
              obtain ⟨i1, hi1, hw0, hw1, hw2⟩ := info_parts Try.info_int
              have hJ6 := hJ5.call (bel_alloc _ (.cells #[.int .i64 x.t] 3))
              gi_wp2_with (gi_at_builtin; (refine wpListIn_append_row rfl _ _ 28 rfl 3 i1 (.int .i64 0) 8 Try.underlying28 hi1 hw0 hw1 hw2 rfl rfl hJ6.st (some ⟨_, 0, none⟩) 1 1 [.int .i64 x.t] rfl rfl (by simp) (fun ad e => by cases e; exact new_cells_at _ _ (by simp)) (by simp [Value.oneCell']) (by unfold maxLen; omega) (by omega) hJ6.below.size ?_); intro v6 w6 tag6 hr6 ht6; have hJ7 := hJ6.push (x := x.t) hr6 ht6; have s6 := hJ6.qb.turn ht6 (by decide); obtain ⟨a6, c6, rfl⟩ := hr6.val; have z0 := s6.cell 0; have z1 := s6.frozen 0; have z4 : w6.cell? ⟨w2.heap.size, 0, none⟩ = some (.slice avs st.length cvs) := z0; clear z0)
              refine ⟨(keepsBelow hb4).trans ((keepsTurn T5.out).trans ((keepsBelow (bel_alloc _ (.cells #[.int .i64 x.t] 3))).trans ((keepsTurn ht6).trans (keepsTurn (Turn.setCell s6 0 (.slice a6 (st.length + 1) c6)))))), ?_, Hmem.out, tag6, .slice a6 (st.length + 1) c6, ?_⟩
              · have q1 := belCall (Below.refl w.heap.size W) hb4 hBW
                have q2 := belTurn q1 T5.out (Nat.le_trans hBW hb4.size)
                have q3 := belCall q2 (bel_alloc _ (.cells #[.int .i64 x.t] 3)) (Nat.le_trans hBW q2.size)
                have q4 := belTurn q3 ht6 (Nat.le_trans hBW q3.size)
                exact belTurn q4 (Turn.setCell s6 0 (.slice a6 (st.length + 1) c6)) (Nat.le_trans hBW q4.size)
              · rw [Hacc.out, show fwStep perm (se, st) x = (se.set x.t.toNat true, st ++ [x.t]) from ?_]
                · exact hJ7
                · unfold fwStep
                  rw [if_pos]
                  dsimp only
                  rw [List.getElem?_eq_getElem hq, Hb.out, Hpx.out]
                  exact ⟨rfl, rfl⟩
          · rw [hb] at e1
            have Hb := Lib.hid hb
            clear hb
            gi_wp2
            refine ⟨fun _ h => (by cases h), ?_⟩
            gi_wp2
            refine ⟨KeepsFrom.refl _ _, Below.refl _ _, Hmem.out, tagUp tag Bx 5, vq, ?_⟩
            rw [Hacc.out, show fwStep perm (se, st) x = (se, st) from ?_]
            · exact hJ2
            · unfold fwStep
              rw [if_neg]
              dsimp only
              rw [List.getElem?_eq_getElem hq, Hb.out]
              simp
        case done =>
          rintro D W hD ⟨hpre, tag', vq', hW⟩ hd
          have hW2 := hW.mark (fun D' hD' => hI4.marks.lt hD') hD hI4.below.size hd
          have Hfin := Lib.hid hW2
          have hok' := FOk.fold (perm := perm) (subOf es s) Hok2.out (fun y hy => Hin.out y (subOf_mem hy))
          clear hpre hseq hd hW hW2
          go_wp2_with fail
          refine Handed.intro (m - 1 + 1) (by have := Hm1.out; omega) (hJ _ _ _ ?_)
          repeat apply Exists.intro
          exact ⟨Hfin.out, hok', rfl, by have := Hm.out; omega, Hnext.out, rfl⟩
end Go.Proofs.Ythchkddhibhenaa
