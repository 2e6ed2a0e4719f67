/- Texts joined: Forward, Reachable, CycFn, RegMono. Each is introduced by its own sentence. -/
import Derived.Deep.LoopGhost
import Derived.Test.YthchkddhibhenaaCyc1
import Derived.Test.YthchkddhibhenaaCyc2
import Derived.Test.YthchkddhibhenaaCyc6
import Derived.Test.YthchkddhibhenaaCyc7
import Derived.Test.YthchkddhibhenaaCyc10
/- The contract of forward. -/
namespace Go.Proofs.Ythchkddhibhenaa
open Go.RowKit Go.Shelf
attribute [local go_sem] Oper.semAt_some

set_option maxRecDepth 100000 in
set_option maxHeartbeats 4000000 in
theorem forward_any (aa am ae af : Option Addr) (la lm ca cm ce cf : Nat) (n : Nat) (es : List Ed) (fp : FuncId) (capp : Array Value) (perm : Ed → Bool) (v : Value) (start : List Int) (w : World)
    (hre : RdS w 3 ae es.length ce (edCells es)) (hrf : RdS w 1 af (n + 1) cf (ints (firsts n es))) (hst : RdI w v start) (hl : es.length ≤ 1000000) (hn : n + start.length ≤ 999999) (hn0 : 0 < n) (hstart : ∀ s ∈ start, 0 ≤ s ∧ s < (n : Int)) (hin : ∀ x ∈ es, 0 ≤ x.t ∧ x.t < (n : Int))
    (hep : Enters Try.prog fp)
    (hp : ∀ (x : Ed) (W : World), x ∈ es → Below w.heap.size w W → Calls Try.prog fp (#[x.val] ++ capp) W fun e w' => e = .returned (.bool (perm x)) ∧ Below W.heap.size W w') :
    Calls Try.prog 81 #[.agg #[.slice aa la ca, .int .i64 n, .slice am lm cm, .slice ae es.length ce, .slice af (n + 1) cf], v, .func (.func fp) #[] capp] w
      (Ret w fun u w' => RdB w' u (forwardF n es perm start)) := by
  obtain ⟨bf, offf, rfl, hcf⟩ := hrf.at_elem 0 (by omega)
  have Hcf := Lib.hid hcf
  have Hp := Lib.hid hp
  have Hin := Lib.hid hin
  have Hep := Lib.hid hep
  have Hst := Lib.hid hst
  have Hstart := Lib.hid hstart
  clear hcf hp hin hep hst hstart
  refine calls_of_marks Try.func81 rfl ?_
  simp only [Try.ntmps81, List.size_toArray, List.length_cons, List.length_nil, Nat.reduceAdd, Nat.reduceSub, Array.replicate_succ, Array.replicate_zero, List.push_toArray, List.append_toArray, List.nil_append, List.cons_append]
  go_wp2_with fail
  refine (flags_any _ _ _ v n start _ (Hst.out.mono (by (repeat (first | with_reducible exact Below.refl _ _ | with_reducible exact hre | (with_reducible refine belCall ?_ hre (by first | omega | (simp; done) | (simp; omega) | (simp at *; omega))) | (with_reducible refine Below.alloc ?_ (by first | omega | (simp; done) | (simp; omega) | (simp at *; omega)) _) | (with_reducible refine Below.drew ?_) | (with_reducible refine Below.setCell ?_ (by first | omega | (simp; done) | (simp; omega) | (simp at *; omega)) _))))) (by omega) (by omega) Hstart.out).mono ?_
  rintro e w1 ⟨_, rfl, hown1, hb1⟩
  generalize hw0 : (w.alloc (.cells #[.slice aa la ca, .int .i64 n, .slice am lm cm, .slice ae es.length ce, .slice (some ⟨bf, offf, none⟩) (n + 1) cf] 80)).alloc (.cells #[.func (.func fp) #[] capp] 90) = w0 at *
  have hz0 : w0.heap.size = w.heap.size + 1 + 1 := by rw [← hw0]; simp
  have hB0 : Below w.heap.size w w0 := by rw [← hw0]; (repeat (first | with_reducible exact Below.refl _ _ | with_reducible exact hre | (with_reducible refine belCall ?_ hre (by first | omega | (simp; done) | (simp; omega) | (simp at *; omega))) | (with_reducible refine Below.alloc ?_ (by first | omega | (simp; done) | (simp; omega) | (simp at *; omega)) _) | (with_reducible refine Below.drew ?_) | (with_reducible refine Below.setCell ?_ (by first | omega | (simp; done) | (simp; omega) | (simp at *; omega)) _)))
  have hgh : w0.heap[w.heap.size]? = some (.cells #[.slice aa la ca, .int .i64 n, .slice am lm cm, .slice ae es.length ce, .slice (some ⟨bf, offf, none⟩) (n + 1) cf] 80 (0, 0)) := by rw [← hw0]; exact (by repeat (first | with_reducible assumption | (with_reducible refine heap_at ?_; (first | (simp; done) | (simp; omega))) | (with_reducible refine heap_past ?_ ?_; (next => first | omega | (simp; done) | (simp; omega)))))
  have hfh : w0.heap[w.heap.size + 1]? = some (.cells #[.func (.func fp) #[] capp] 90 (0, 0)) := by rw [← hw0]; exact (by repeat (first | with_reducible assumption | (with_reducible refine heap_at ?_; (first | (simp; done) | (simp; omega))) | (with_reducible refine heap_past ?_ ?_; (next => first | omega | (simp; done) | (simp; omega)))))
  have hB1 := hB0.trans (hb1.mono hB0.size)
  have hz1 := hb1.size
  obtain ⟨a1, c1, rfl, hr1⟩ := RdS.of_own hown1
  have hse0 : Row w1 w.heap.size (tagFrom (fun _ => 0) w0.heap.size 1) 1 4 1 (.slice a1 n c1) n (bools (flagL n start)) := Row.of_call hown1 (by omega)
  obtain ⟨b1, o1, c1', e1, hbl1, hbB1, _⟩ := hse0.addr hn0
  cases e1
  have hgh1 := (hb1.block _ (by omega)).trans hgh
  have hfh1 := (hb1.block _ (by omega)).trans hfh
  have Hgh := Lib.hid hgh1
  have Hfh := Lib.hid hfh1
  have Hown1 := Lib.hid hown1
  clear hr1 hown1 hse0 hgh hfh hgh1 hfh1 hw0
  go_wp2_with fail
  have hbal := bel_alloc w1 (.cells #[.slice (some ⟨b1, o1, none⟩) n c1] 86)
  refine (clone_any v start _ (Hst.out.mono (hB1.alloc (by omega) _)) (by omega)).mono ?_
  rintro e w2 ⟨_, rfl, hown2, hb2⟩
  have hz2 := hb2.size
  simp only [World.size_alloc] at hz2
  obtain ⟨a2, c2, rfl, hr2⟩ := RdS.of_own hown2
  have hB2 : Below w.heap.size w w2 := (hB1.alloc (by omega) _).trans (hb2.mono (by simp; omega))
  have hh7 : w2.heap[w1.heap.size]? = some (.cells #[.slice (some ⟨b1, o1, none⟩) n c1] 86 (0, 0)) := (hb2.block _ (by simp)).trans (heap_at rfl)
  have hgh2 := (hb2.block _ (by simp; omega)).trans ((hbal.block _ (by omega)).trans Hgh.out)
  have hfh2 := (hb2.block _ (by simp; omega)).trans ((hbal.block _ (by omega)).trans Hfh.out)
  have Hown2 := Lib.hid hown2
  have Hh7 := Lib.hid hh7
  have Hgh2 := Lib.hid hgh2
  have Hfh2 := Lib.hid hfh2
  have Hb2 := Lib.hid hb2
  have Hbal := Lib.hid hbal
  clear hr2 hown2 hh7 hgh2 hfh2 hb2 hbal Hgh Hfh hb1
  go_wp2_with fail
  have hz3 : w2.heap.size < (w2.alloc (.cells #[.slice a2 start.length c2] 28)).heap.size := by simp
  have hstart0 : FInv w #[.slice aa la ca, .int .i64 n, .slice am lm cm, .slice ae es.length ce, .slice (some ⟨bf, offf, none⟩) (n + 1) cf] (.func (.func fp) #[] capp) n w1.heap.size w2.heap.size (.slice (some ⟨b1, o1, none⟩) n c1) [] (w2.alloc (.cells #[.slice a2 start.length c2] 28)) (fun b => if b < w0.heap.size then 0 else if b < w1.heap.size then 1 else if b = w1.heap.size then 0 else if b < w2.heap.size then 2 else 3) (.slice a2 start.length c2) (flagL n start) start := by
    have hb3 := bel_alloc w2 (.cells #[.slice a2 start.length c2] 28)
    refine ⟨hB2.alloc (by omega) _, Marks.nil _ _, ⟨(hb3.block _ (by omega)).trans Hgh2.out, by rw [if_pos (by omega)], by omega⟩, ⟨(hb3.block _ (by omega)).trans Hfh2.out, by rw [if_pos (by omega)], by omega⟩, ⟨(hb3.block _ (by omega)).trans Hh7.out, by rw [if_neg (by omega), if_neg (by omega), if_pos rfl], by omega⟩, ⟨heap_at rfl, by rw [if_neg (by omega), if_neg (by omega), if_neg (by omega), if_neg (by omega)], by omega⟩, ?_, ?_⟩
    · have h1 : Row w1 w.heap.size (fun b => if b < w0.heap.size then 0 else if b < w1.heap.size then 1 else if b = w1.heap.size then 0 else if b < w2.heap.size then 2 else 3) 1 4 1 (.slice (some ⟨b1, o1, none⟩) n c1) n (bools (flagL n start)) := Row.of_own Hown1.out (by omega) (fun b h1 h2 => by rw [if_neg (by omega), if_pos h2])
      exact ((h1.below Hbal.out).below Hb2.out).below hb3
    · have h2 : Row w2 w.heap.size (fun b => if b < w0.heap.size then 0 else if b < w1.heap.size then 1 else if b = w1.heap.size then 0 else if b < w2.heap.size then 2 else 3) 2 3 1 (.slice a2 start.length c2) start.length (ints start) := Row.of_own Hown2.out (by simp; omega) (fun b h1 h2 => by simp at h1; rw [if_neg (by omega), if_neg (by omega), if_neg (by omega), if_pos h2])
      exact h2.below hb3
  have hok0 : FOk n ((flagL n start).count false + start.length) (flagL n start) start := ⟨flagL_length n start, Hstart.out, Nat.le_refl _⟩
  have hm0 : (flagL n start).count false + start.length ≤ 999999 := by
    have h1 := List.count_le_length (a := false) (l := flagL n start)
    rw [flagL_length] at h1
    omega
  refine wp_loop_ghost_k (fun k a' wr => ∃ (v9 v10 v17 v18 v19 v20 v21 v22 v23 v24 v25 v26 v27 v28 v29 v30 v31 v32 v33 v34 v35 v36 v37 v38 v39 v40 v41 v42 v43 v44 v45 v46 v47 v48 : Value) (ds : List Deferred) (tag : Nat → Nat) (vq : Value) (seen : List Bool) (q : List Int) (m : Nat), FInv w #[.slice aa la ca, .int .i64 n, .slice am lm cm, .slice ae es.length ce, .slice (some ⟨bf, offf, none⟩) (n + 1) cf] (.func (.func fp) #[] capp) n w1.heap.size w2.heap.size (.slice (some ⟨b1, o1, none⟩) n c1) ds wr tag vq seen q ∧ FOk n m seen q ∧ k = m + 1 ∧ m ≤ 999999 ∧ Hid (forwardF n es perm start = fwd (subOf es) perm (m + 1) seen q) ∧
      a' = { tmps := #[Value.agg #[.slice aa la ca, .int .i64 n, .slice am lm cm, .slice ae es.length ce, .slice (some ⟨bf, offf, none⟩) (n + 1) cf], v, Value.func (.func fp) #[] capp, Value.pointer (some ⟨w.heap.size, 0, none⟩), undef, Value.pointer (some ⟨w.heap.size + 1, 0, none⟩), Value.slice none 0 0, Value.pointer (some ⟨w1.heap.size, 0, none⟩), Value.pointer (some ⟨w2.heap.size, 0, none⟩), v9, v10, Value.pointer (some ⟨w.heap.size, 0, none⟩), Value.agg #[.slice aa la ca, .int .i64 n, .slice am lm cm, .slice ae es.length ce], v, Value.slice (some ⟨b1, o1, none⟩) n c1, v, Value.slice a2 start.length c2, v17, v18, v19, v20, v21, v22, v23, v24, v25, v26, v27, v28, v29, v30, v31, v32, v33, v34, v35, v36, v37, v38, v39, v40, v41, v42, v43, v44, v45, v46, v47, v48, undef], defers := ds }) ((flagL n start).count false + start.length + 1) ?_ ?_
  · repeat apply Exists.intro
    exact ⟨hstart0, hok0, rfl, hm0, rfl, rfl⟩
  · intro gk _ wr h
    obtain ⟨v9, h⟩ := h
    obtain ⟨v10, h⟩ := h
    obtain ⟨v17, h⟩ := h
    obtain ⟨v18, h⟩ := h
    obtain ⟨v19, h⟩ := h
    obtain ⟨v20, h⟩ := h
    obtain ⟨v21, h⟩ := h
    obtain ⟨v22, h⟩ := h
    obtain ⟨v23, h⟩ := h
    obtain ⟨v24, h⟩ := h
    obtain ⟨v25, h⟩ := h
    obtain ⟨v26, h⟩ := h
    obtain ⟨v27, h⟩ := h
    obtain ⟨v28, h⟩ := h
    obtain ⟨v29, h⟩ := h
    obtain ⟨v30, h⟩ := h
    obtain ⟨v31, h⟩ := h
    obtain ⟨v32, h⟩ := h
    obtain ⟨v33, h⟩ := h
    obtain ⟨v34, h⟩ := h
    obtain ⟨v35, h⟩ := h
    obtain ⟨v36, h⟩ := h
    obtain ⟨v37, h⟩ := h
    obtain ⟨v38, h⟩ := h
    obtain ⟨v39, h⟩ := h
    obtain ⟨v40, h⟩ := h
    obtain ⟨v41, h⟩ := h
    obtain ⟨v42, h⟩ := h
    obtain ⟨v43, h⟩ := h
    obtain ⟨v44, h⟩ := h
    obtain ⟨v45, h⟩ := h
    obtain ⟨v46, h⟩ := h
    obtain ⟨v47, h⟩ := h
    obtain ⟨v48, h⟩ := h
    obtain ⟨ds, tag, vq, seen, q, m, hI, hok, rfl, hmb, hfw, rfl⟩ := h
    have Hmb := Lib.hid hmb
    clear hmb
    intro J K hJ hK
    have hml := hok.sum
    have hnl : n ≤ 1000000 := by omega
    cases q with
    | nil =>
      have k8 : wr.cell? ⟨w2.heap.size, 0, none⟩ = some vq := hI.qb.cell 0
      have k7 : wr.cell? ⟨w1.heap.size, 0, none⟩ = some (.slice (some ⟨b1, o1, none⟩) n c1) := hI.eb.cell 0
      obtain ⟨aq, cq, rfl⟩ := hI.st.val
      have hlen := hok.len
      have Hlen := Lib.hid hlen
      clear hlen
      go_wp2_with fail
      refine bodyPostM_ret hI.marks (fun w' hq => ⟨.slice (some ⟨b1, o1, none⟩) n c1, by simp [results, Try.results81, go_sem], _, rfl, ?_, hI.below.trans hq.below⟩)
      rw [hfw.out, fwd]
      have h9 := hq.row hI.se
      rw [← Hlen.out] at h9
      obtain ⟨a9, c9, e9, h10⟩ := h9.rd
      rw [Hlen.out] at e9
      cases e9
      exact ⟨_, _, by rw [Hlen.out], h10⟩
    | cons s q =>
      obtain ⟨bq, oq, cq, rfl, hbq, hBq, hcq⟩ := hI.st.at_int 0 (by simp)
      have k8 : wr.cell? ⟨w2.heap.size, 0, none⟩ = some (.slice (some ⟨bq, oq, none⟩) (s :: q).length cq) := hI.qb.cell 0
      have f8 := hI.qb.frozen 0
      obtain ⟨hs0, hs1⟩ := hok.range s (List.mem_cons_self ..)
      have htail := Row.tail (m := q.length) (x := .int .i64 s) (cs := ints q) hI.st
      rw [List.length_cons] at k8
      have hq0 : 0 < q.length + 1 := by omega
      have hcs : wr.cell? ⟨bq, oq, none⟩ = some (.int .i64 s) := hcq
      have hwin : (ints (s :: q)).length = (ints (s :: q)).length := rfl
      have hcapn : q.length + 1 ≤ cq := by
        rcases hI.st.2 with ⟨h', _⟩ | ⟨_, _, _, _, h', _, h9, _⟩
        · cases h'
        · cases h'; simpa using h9
      have hcapm : cq ≤ maxLen := by
        rcases hI.st.2 with ⟨h', _⟩ | ⟨_, _, _, _, h', _, _, h9, _⟩
        · cases h'
        · cases h'; exact h9
      unfold maxLen at hcapm
      have Hok := Lib.hid hok
      have Hml := Lib.hid hml
      clear hcq hok hml hwin
      have Hm1 : Hid (1 ≤ m) := by
        have := Hml.out
        simp only [List.length_cons] at this
        show 1 ≤ m
        omega
      have Hok2 : Hid (FOk n (m - 1) seen q) := ⟨Hok.out.len, fun t ht => Hok.out.range t (List.mem_cons_of_mem _ ht), by have := Hok.out.sum; simp only [List.length_cons] at this; omega⟩
      have Hnext : Hid (forwardF n es perm start = fwd (subOf es) perm (m - 1 + 1) ((subOf es s).foldl (fwStep perm) (seen, q)).1 ((subOf es s).foldl (fwStep perm) (seen, q)).2) := by
        show _ = _
        rw [hfw.out, fwd, show m - 1 + 1 = m by have := Hm1.out; omega]
      have g0 : wr.cell? ⟨w.heap.size, 0, none⟩ = some (Value.slice aa la ca) := hI.g.cell 0
      have g1 : wr.cell? ⟨w.heap.size, 1, none⟩ = some (Value.int .i64 n) := hI.g.cell 1
      have g2 : wr.cell? ⟨w.heap.size, 2, none⟩ = some (Value.slice am lm cm) := hI.g.cell 2
      have g3 : wr.cell? ⟨w.heap.size, 3, none⟩ = some (Value.slice ae es.length ce) := hI.g.cell 3
      have g4 : wr.cell? ⟨w.heap.size, 4, none⟩ = some (Value.slice (some ⟨bf, offf, none⟩) (n + 1) cf) := hI.g.cell 4
      have hwne : ¬ w2.heap.size = w.heap.size := by omega
      have hwne2 : ¬ w.heap.size = w2.heap.size := by omega
      have Hm : Hid (m ≤ 999999) := Hmb
      by_cases hcap : cq = 1
      · have hI2 := hI.setQ (htail.1 hcap)
        subst hcap
        obtain rfl : q = [] := List.eq_nil_of_length_eq_zero (by omega)
        clear htail
        go_wp2_with fail
        have hI3 : FInv w #[.slice aa la ca, .int .i64 n, .slice am lm cm, .slice ae es.length ce, .slice (some ⟨bf, offf, none⟩) (n + 1) cf] (.func (.func fp) #[] capp) n w1.heap.size w2.heap.size (.slice (some ⟨b1, o1, none⟩) n c1) ds (wr.setCell ⟨w2.heap.size, 0, none⟩ (.slice (some ⟨bq, oq, none⟩) 0 0)) tag (.slice (some ⟨bq, oq, none⟩) 0 0) seen [] := by simpa using hI2
        clear g0 g1 g2 g3 g4 k8 f8 hcs hI2 hI hwne hwne2
        generalize wr.setCell ⟨w2.heap.size, 0, none⟩ _ = wq at *
        refine (edges_any _ _ _ _ _ _ _ _ _ _ _ _ _ _ _).mono ?_
        rintro e w3 ⟨rfl, rfl⟩
        go_wp2_with fail
        have hI4 := (hI3.call (bel_alloc wq (.cells #[.slice aa la ca, .int .i64 n, .slice am lm cm, .slice ae es.length ce, .slice (some ⟨bf, offf, none⟩) (n + 1) cf] 80))).call (bel_alloc _ (.cells #[.int .i64 s] 3))
        have hg3 : ((wq.alloc (.cells #[.slice aa la ca, .int .i64 n, .slice am lm cm, .slice ae es.length ce, .slice (some ⟨bf, offf, none⟩) (n + 1) cf] 80)).alloc (.cells #[.int .i64 s] 3)).cell? ⟨wq.heap.size, 3, none⟩ = some (.slice ae es.length ce) := by simp [go_sem]
        have hg4 : ((wq.alloc (.cells #[.slice aa la ca, .int .i64 n, .slice am lm cm, .slice ae es.length ce, .slice (some ⟨bf, offf, none⟩) (n + 1) cf] 80)).alloc (.cells #[.int .i64 s] 3)).cell? ⟨wq.heap.size, 4, none⟩ = some (.slice (some ⟨bf, offf, none⟩) (n + 1) cf) := by simp [go_sem]
        have hg5 : ((wq.alloc (.cells #[.slice aa la ca, .int .i64 n, .slice am lm cm, .slice ae es.length ce, .slice (some ⟨bf, offf, none⟩) (n + 1) cf] 80)).alloc (.cells #[.int .i64 s] 3)).cell? ⟨wq.heap.size + 1, 0, none⟩ = some (.int .i64 s) := by simp [go_sem]
        clear hI3
        generalize (wq.alloc (.cells #[.slice aa la ca, .int .i64 n, .slice am lm cm, .slice ae es.length ce, .slice (some ⟨bf, offf, none⟩) (n + 1) cf] 80)).alloc (.cells #[.int .i64 s] 3) = w3 at *
        have hfc : ∀ j : Nat, j ≤ n → w3.cell? ⟨bf, offf + j, none⟩ = some (.int .i64 (fstN es j)) := by
          intro j hj
          have h1 := Hcf.out j (by simp [firsts]; omega)
          have h2 := firsts_get n es j hj
          rw [List.getElem?_eq_getElem (by simp [firsts]; omega)] at h2
          rw [Option.some.inj h2] at h1
          exact keep0 hI4.below h1
        have hseq := edges_stops wq.heap.size (wq.heap.size + 1) w.heap.size ae (some ⟨bf, offf, none⟩) ce (n + 1) cf s es (fstN es s) (fstN es (s + 1)) (fstN_mono es _ _ (by omega)) (fstN_le es _) hl w3 hI4.below.size hg3 hg4 hg5 hs0 (by omega) bf offf rfl (by omega)
          (by have := hfc s.toNat (by omega); rwa [Int.toNat_of_nonneg hs0] at this) (by have := hfc (s + 1).toNat (by omega); rwa [Int.toNat_of_nonneg (by omega)] at this) (hre.mono hI4.below) (fun h0 ad e => World.block_lt_of_cell? w ⟨ad.block, ad.off + 0, none⟩ (hre.cell ad e 0 (by rw [hre.hlen]; omega)))
        clear hg3 hg4 hg5 hfc
        refine wp_edges (bg := wq.heap.size) (bs := wq.heap.size + 1) (n₀ := w.heap.size) rfl hseq (Below.refl _ _) hI4.below.size rfl
          (fun pre W => (∀ y ∈ pre, y ∈ subOf es s) ∧ ∃ tag vq, FInv w #[.slice aa la ca, .int .i64 n, .slice am lm cm, .slice ae es.length ce, .slice (some ⟨bf, offf, none⟩) (n + 1) cf] (.func (.func fp) #[] capp) n w1.heap.size w2.heap.size (.slice (some ⟨b1, o1, none⟩) n c1) ds W tag vq (pre.foldl (fwStep perm) (seen, [])).1 (pre.foldl (fwStep perm) (seen, [])).2)
          ?hI ⟨by simp, tag, _, hI4⟩
          (fun x a' W => ∃ (Bx : Nat) (y17 y18 y19 y20 y21 y22 y23 y24 : Value), w.heap.size ≤ Bx ∧ W.heap[Bx]? = some (.cells #[.int .i64 x.f, .int .i64 x.e, .int .i64 x.t] 45 (0, 0)) ∧ a' = { tmps := #[Value.agg #[.slice aa la ca, .int .i64 n, .slice am lm cm, .slice ae es.length ce, .slice (some ⟨bf, offf, none⟩) (n + 1) cf], v, Value.func (.func fp) #[] capp, Value.pointer (some ⟨w.heap.size, 0, none⟩), undef, Value.pointer (some ⟨w.heap.size + 1, 0, none⟩), Value.slice none 0 0, Value.pointer (some ⟨w1.heap.size, 0, none⟩), Value.pointer (some ⟨w2.heap.size, 0, none⟩), Value.int .i64 s, Value.pointer (some ⟨Bx, 0, none⟩), Value.pointer (some ⟨w.heap.size, 0, none⟩), Value.agg #[.slice aa la ca, .int .i64 n, .slice am lm cm, .slice ae es.length ce], v, Value.slice (some ⟨b1, o1, none⟩) n c1, v, Value.slice a2 start.length c2, y17, y18, y19, y20, y21, y22, y23, y24, Value.agg #[.slice aa la ca, .int .i64 n, .slice am lm cm, .slice ae es.length ce, .slice (some ⟨bf, offf, none⟩) (n + 1) cf], Value.int .i64 s, Value.func (.func 84) #[] #[.pointer (some ⟨wq.heap.size, 0, none⟩), .pointer (some ⟨wq.heap.size + 1, 0, none⟩)], Value.agg #[.int .i64 x.f, .int .i64 x.e, .int .i64 x.t], v29, v30, v31, v32, v33, v34, v35, v36, v37, v38, v39, v40, v41, v42, v43, v44, v45, v46, v47, v48, undef], defers := [] })
          ?hAx ?assign ?body ?done
        case hI =>
          intro pre W W' row h1 hg hr
          obtain ⟨h1, tag, vs, h2⟩ := h1
          exact ⟨h1, tag, vs, h2.others hg (fun D hD => hI4.marks.lt hD) hI4.below.size hr⟩
        case hAx =>
          intro x a' u W W' row h1 hg hr
          obtain ⟨Bx, y17, y18, y19, y20, y21, y22, y23, y24, h1, h2, h3⟩ := h1
          refine ⟨Bx, y17, y18, y19, y20, y21, y22, y23, y24, h1, (hg.block Bx (Array.getElem?_eq_some_iff.1 h2).1 (fun e => ?_)).trans h2, h3⟩
          obtain ⟨o, ho, hc⟩ := (hr Bx e.symm).2
          rw [h2] at ho
          cases ho
          cases hc
        case assign =>
          intro l pre x W K hx hiW hK
          dsimp only [Ed.val]
          gi_wp2
          refine hK _ _ ((KeepsOthers.alloc _ _).from _) ((Below.refl _ W).alloc ?_ _) ?_ ⟨W.heap.size, _, _, _, _, _, _, _, _, ?_, (by repeat (first | with_reducible assumption | (refine heap_drewp ?_) | (refine heap_at ?_; (first | rfl | (simp; done) | (simp; omega))) | (refine heap_past ?_ ?_; (next => first | omega | (simp; done) | (simp; omega))))), rfl⟩
          · obtain ⟨_, _, _, h2⟩ := hiW; exact h2.below.size
          · obtain ⟨h1, tag, vs, h2⟩ := hiW; exact ⟨h1, tag, vs, h2.call (bel_alloc _ _)⟩
          · obtain ⟨_, _, _, h2⟩ := hiW; exact h2.below.size
        case body =>
          rintro l pre x a' W hx hl ⟨hpre, tag, vq, hJ⟩ ⟨Bx, y17, y18, y19, y20, y21, y22, y23, y24, hBx, hbx, rfl⟩
          have hJ2 := hJ.retag hbx
          have hOx : Own W w.heap.size (tagUp tag Bx 5) 5 Bx #[.int .i64 x.f, .int .i64 x.e, .int .i64 x.t] 45 := ⟨hbx, tagUp_at _ _ _, hBx⟩
          have hxe := subOf_mem hx
          have hxr := Hin.out x hxe
          have hok' := FOk.fold (perm := perm) pre Hok2.out (fun y hy => Hin.out y (subOf_mem (hpre y hy)))
          have Hmem : Hid (∀ y ∈ pre ++ [x], y ∈ subOf es s) := by
            intro y hy
            rcases List.mem_append.1 hy with h1 | h1
            · exact hpre y h1
            · rw [List.mem_singleton.1 h1]; exact hx
          have Hacc : Hid ((pre ++ [x]).foldl (fwStep perm) (seen, []) = fwStep perm (pre.foldl (fwStep perm) (seen, [])) x) := by
            show _ = _
            rw [List.foldl_append]; rfl
          clear hpre hx hJ
          generalize pre.foldl (fwStep perm) (seen, []) = acc at *
          obtain ⟨se, st⟩ := acc
          dsimp only at hJ2 hok'
          have hBW := hJ2.below.size
          have hBxl := hOx.lt
          have hb7l := hJ2.eb.lt
          have hb8l := hJ2.qb.lt
          have x0 : W.cell? ⟨Bx, 0, none⟩ = some (.int .i64 x.f) := hOx.cell 0
          have x1 : W.cell? ⟨Bx, 1, none⟩ = some (.int .i64 x.e) := hOx.cell 1
          have x2 : W.cell? ⟨Bx, 2, none⟩ = some (.int .i64 x.t) := hOx.cell 2
          have e0 : W.cell? ⟨w1.heap.size, 0, none⟩ = some (.slice (some ⟨b1, o1, none⟩) n c1) := hJ2.eb.cell 0
          have hlen := hok'.len
          have e1 := hJ2.se.cellAt x.t.toNat (by omega)
          have hq : x.t.toNat < se.length := by omega
          have hstl : st.length ≤ 1000000 := by have := hok'.sum; have := Hm.out; omega
          clear hlen
          rw [List.getElem?_map, List.getElem?_eq_getElem hq, Option.map_some] at e1
          cases hb : se[x.t.toNat]
          · rw [hb] at e1
            have e2 : W.cell? ⟨w.heap.size + 1, 0, none⟩ = some (.func (.func fp) #[] capp) := hJ2.fp.cell 0
            have Hb := Lib.hid hb
            clear hb
            have hHep : Hid (∀ args W, (callFunc fp args).run Try.prog W = .ok (.enter fp args) W) := Hep.out
            cases hpx : perm x
            · have Hpx := Lib.hid hpx
              clear hpx
              gi_wp2_with fail
              refine ⟨trivial, ?_⟩
              rw [hHep.out, Oper.uponIn_enter]
              refine ⟨fun _ => by decide, ?_⟩
              refine (CallsIn.inRound l (callsIn_wide.2 (Hp.out x W hxe hJ2.below))).mono ?_
              rintro e w4 ⟨he, hb4⟩
              rw [Hpx.out] at he
              subst he
              dsimp only
              gi_wp2
              refine ⟨(keepsBelow hb4), belCall (Below.refl _ _) hb4 hJ2.below.size, Hmem.out, tagUp tag Bx 5, vq, ?_⟩
              rw [Hacc.out, show fwStep perm (se, st) x = (se, st) from ?_]
              · exact hJ2.call hb4
              · unfold fwStep
                rw [if_neg]
                rw [Hpx.out]
                simp
            · have Hpx := Lib.hid hpx
              clear hpx
              gi_wp2_with fail
              refine ⟨trivial, ?_⟩
              rw [hHep.out, Oper.uponIn_enter]
              refine ⟨fun _ => by decide, ?_⟩
              refine (CallsIn.inRound l (callsIn_wide.2 (Hp.out x W hxe hJ2.below))).mono ?_
              rintro e w4 ⟨he, hb4⟩
              rw [Hpx.out] at he
              subst he
              dsimp only
              have hJ4 := hJ2.call hb4
              have hO4 := hOx.below hb4
              obtain ⟨avs, cvs, rfl⟩ := hJ4.st.val
              clear x0 x1 x2 e0 e1 e2 hJ2 hOx
              have hBxl4 := hO4.lt
              have hb7l4 := hJ4.eb.lt
              have hb8l4 := hJ4.qb.lt
              have x2 : w4.cell? ⟨Bx, 2, none⟩ = some (.int .i64 x.t) := hO4.cell 2
              have e0 : w4.cell? ⟨w1.heap.size, 0, none⟩ = some (.slice (some ⟨b1, o1, none⟩) n c1) := hJ4.eb.cell 0
              have e1 := hJ4.se.cellAt x.t.toNat (by omega)
              rw [List.getElem?_map, List.getElem?_eq_getElem hq, Option.map_some] at e1
              have e2 := hJ4.se.frozenAt (o1 + x.t.toNat)
              obtain ⟨hJ5, t5⟩ := hJ4.setSeen x.t.toNat
              have hO5 := hO4.turn t5 (by decide)
              have z2 : (w4.setCell ⟨b1, o1 + x.t.toNat, none⟩ (.bool true)).cell? ⟨Bx, 2, none⟩ = some (.int .i64 x.t) := hO5.cell 2
              have z3 : (w4.setCell ⟨b1, o1 + x.t.toNat, none⟩ (.bool true)).cell? ⟨w2.heap.size, 0, none⟩ = some (.slice avs st.length cvs) := hJ5.qb.cell 0
              have T5 := Lib.hid t5
              clear t5 hO5 hJ4 hO4
              obtain ⟨i1, hi1, hw0, hw1, hw2⟩ := info_parts Try.info_int
              have hJ6 := hJ5.call (bel_alloc _ (.cells #[.int .i64 x.t] 3))
              gi_wp2_with (gi_at_builtin; (refine wpListIn_append_row rfl _ _ 28 rfl 3 i1 (.int .i64 0) 8 Try.underlying28 hi1 hw0 hw1 hw2 rfl rfl hJ6.st (some ⟨_, 0, none⟩) 1 1 [.int .i64 x.t] rfl rfl (by simp) (fun ad e => by cases e; exact new_cells_at _ _ (by simp)) (by simp [Value.oneCell']) (by unfold maxLen; omega) (by omega) hJ6.below.size ?_); intro v6 w6 tag6 hr6 ht6; have hJ7 := hJ6.push (x := x.t) hr6 ht6; have s6 := hJ6.qb.turn ht6 (by decide); obtain ⟨a6, c6, rfl⟩ := hr6.val; have z0 := s6.cell 0; have z1 := s6.frozen 0; have z4 : w6.cell? ⟨w2.heap.size, 0, none⟩ = some (.slice avs st.length cvs) := z0; clear z0)
              refine ⟨(keepsBelow hb4).trans ((keepsTurn T5.out).trans ((keepsBelow (bel_alloc _ (.cells #[.int .i64 x.t] 3))).trans ((keepsTurn ht6).trans (keepsTurn (Turn.setCell s6 0 (.slice a6 (st.length + 1) c6)))))), ?_, Hmem.out, tag6, .slice a6 (st.length + 1) c6, ?_⟩
              · have q1 := belCall (Below.refl w.heap.size W) hb4 hBW
                have q2 := belTurn q1 T5.out (Nat.le_trans hBW hb4.size)
                have q3 := belCall q2 (bel_alloc _ (.cells #[.int .i64 x.t] 3)) (Nat.le_trans hBW q2.size)
                have q4 := belTurn q3 ht6 (Nat.le_trans hBW q3.size)
                exact belTurn q4 (Turn.setCell s6 0 (.slice a6 (st.length + 1) c6)) (Nat.le_trans hBW q4.size)
              · rw [Hacc.out, show fwStep perm (se, st) x = (se.set x.t.toNat true, st ++ [x.t]) from ?_]
                · exact hJ7
                · unfold fwStep
                  rw [if_pos]
                  dsimp only
                  rw [List.getElem?_eq_getElem hq, Hb.out, Hpx.out]
                  exact ⟨rfl, rfl⟩
          · rw [hb] at e1
            have Hb := Lib.hid hb
            clear hb
            gi_wp2
            refine ⟨fun _ h => (by cases h), ?_⟩
            gi_wp2
            refine ⟨KeepsFrom.refl _ _, Below.refl _ _, Hmem.out, tagUp tag Bx 5, vq, ?_⟩
            rw [Hacc.out, show fwStep perm (se, st) x = (se, st) from ?_]
            · exact hJ2
            · unfold fwStep
              rw [if_neg]
              dsimp only
              rw [List.getElem?_eq_getElem hq, Hb.out]
              simp
        case done =>
          rintro D W hD ⟨hpre, tag', vq', hW⟩ hd
          have hW2 := hW.mark (fun D' hD' => hI4.marks.lt hD') hD hI4.below.size hd
          have Hfin := Lib.hid hW2
          have hok' := FOk.fold (perm := perm) (subOf es s) Hok2.out (fun y hy => Hin.out y (subOf_mem hy))
          clear hpre hseq hd hW hW2
          go_wp2_with fail
          refine Handed.intro (m - 1 + 1) (by have := Hm1.out; omega) (hJ _ _ _ ?_)
          repeat apply Exists.intro
          exact ⟨Hfin.out, hok', rfl, by have := Hm.out; omega, Hnext.out, rfl⟩
      · have hI2 := hI.setQ (htail.2 hcap)
        have hcap2 : ¬ 1 = cq := fun e => hcap e.symm
        clear htail
        go_wp2_with fail
        have hI3 : FInv w #[.slice aa la ca, .int .i64 n, .slice am lm cm, .slice ae es.length ce, .slice (some ⟨bf, offf, none⟩) (n + 1) cf] (.func (.func fp) #[] capp) n w1.heap.size w2.heap.size (.slice (some ⟨b1, o1, none⟩) n c1) ds (wr.setCell ⟨w2.heap.size, 0, none⟩ (.slice (some ⟨bq, oq + 1, none⟩) q.length (cq - 1))) tag (.slice (some ⟨bq, oq + 1, none⟩) q.length (cq - 1)) seen q := by simpa using hI2
        clear g0 g1 g2 g3 g4 k8 f8 hcs hI2 hI hwne hwne2
        generalize wr.setCell ⟨w2.heap.size, 0, none⟩ _ = wq at *
        refine (edges_any _ _ _ _ _ _ _ _ _ _ _ _ _ _ _).mono ?_
        rintro e w3 ⟨rfl, rfl⟩
        go_wp2_with fail
        have hI4 := (hI3.call (bel_alloc wq (.cells #[.slice aa la ca, .int .i64 n, .slice am lm cm, .slice ae es.length ce, .slice (some ⟨bf, offf, none⟩) (n + 1) cf] 80))).call (bel_alloc _ (.cells #[.int .i64 s] 3))
        have hg3 : ((wq.alloc (.cells #[.slice aa la ca, .int .i64 n, .slice am lm cm, .slice ae es.length ce, .slice (some ⟨bf, offf, none⟩) (n + 1) cf] 80)).alloc (.cells #[.int .i64 s] 3)).cell? ⟨wq.heap.size, 3, none⟩ = some (.slice ae es.length ce) := by simp [go_sem]
        have hg4 : ((wq.alloc (.cells #[.slice aa la ca, .int .i64 n, .slice am lm cm, .slice ae es.length ce, .slice (some ⟨bf, offf, none⟩) (n + 1) cf] 80)).alloc (.cells #[.int .i64 s] 3)).cell? ⟨wq.heap.size, 4, none⟩ = some (.slice (some ⟨bf, offf, none⟩) (n + 1) cf) := by simp [go_sem]
        have hg5 : ((wq.alloc (.cells #[.slice aa la ca, .int .i64 n, .slice am lm cm, .slice ae es.length ce, .slice (some ⟨bf, offf, none⟩) (n + 1) cf] 80)).alloc (.cells #[.int .i64 s] 3)).cell? ⟨wq.heap.size + 1, 0, none⟩ = some (.int .i64 s) := by simp [go_sem]
        clear hI3
        generalize (wq.alloc (.cells #[.slice aa la ca, .int .i64 n, .slice am lm cm, .slice ae es.length ce, .slice (some ⟨bf, offf, none⟩) (n + 1) cf] 80)).alloc (.cells #[.int .i64 s] 3) = w3 at *
        have hfc : ∀ j : Nat, j ≤ n → w3.cell? ⟨bf, offf + j, none⟩ = some (.int .i64 (fstN es j)) := by
          intro j hj
          have h1 := Hcf.out j (by simp [firsts]; omega)
          have h2 := firsts_get n es j hj
          rw [List.getElem?_eq_getElem (by simp [firsts]; omega)] at h2
          rw [Option.some.inj h2] at h1
          exact keep0 hI4.below h1
        have hseq := edges_stops wq.heap.size (wq.heap.size + 1) w.heap.size ae (some ⟨bf, offf, none⟩) ce (n + 1) cf s es (fstN es s) (fstN es (s + 1)) (fstN_mono es _ _ (by omega)) (fstN_le es _) hl w3 hI4.below.size hg3 hg4 hg5 hs0 (by omega) bf offf rfl (by omega)
          (by have := hfc s.toNat (by omega); rwa [Int.toNat_of_nonneg hs0] at this) (by have := hfc (s + 1).toNat (by omega); rwa [Int.toNat_of_nonneg (by omega)] at this) (hre.mono hI4.below) (fun h0 ad e => World.block_lt_of_cell? w ⟨ad.block, ad.off + 0, none⟩ (hre.cell ad e 0 (by rw [hre.hlen]; omega)))
        clear hg3 hg4 hg5 hfc
        refine wp_edges (bg := wq.heap.size) (bs := wq.heap.size + 1) (n₀ := w.heap.size) rfl hseq (Below.refl _ _) hI4.below.size rfl
          (fun pre W => (∀ y ∈ pre, y ∈ subOf es s) ∧ ∃ tag vq, FInv w #[.slice aa la ca, .int .i64 n, .slice am lm cm, .slice ae es.length ce, .slice (some ⟨bf, offf, none⟩) (n + 1) cf] (.func (.func fp) #[] capp) n w1.heap.size w2.heap.size (.slice (some ⟨b1, o1, none⟩) n c1) ds W tag vq (pre.foldl (fwStep perm) (seen, q)).1 (pre.foldl (fwStep perm) (seen, q)).2)
          ?hI ⟨by simp, tag, _, hI4⟩
          (fun x a' W => ∃ (Bx : Nat) (y17 y18 y19 y20 y21 y22 y23 y24 : Value), w.heap.size ≤ Bx ∧ W.heap[Bx]? = some (.cells #[.int .i64 x.f, .int .i64 x.e, .int .i64 x.t] 45 (0, 0)) ∧ a' = { tmps := #[Value.agg #[.slice aa la ca, .int .i64 n, .slice am lm cm, .slice ae es.length ce, .slice (some ⟨bf, offf, none⟩) (n + 1) cf], v, Value.func (.func fp) #[] capp, Value.pointer (some ⟨w.heap.size, 0, none⟩), undef, Value.pointer (some ⟨w.heap.size + 1, 0, none⟩), Value.slice none 0 0, Value.pointer (some ⟨w1.heap.size, 0, none⟩), Value.pointer (some ⟨w2.heap.size, 0, none⟩), Value.int .i64 s, Value.pointer (some ⟨Bx, 0, none⟩), Value.pointer (some ⟨w.heap.size, 0, none⟩), Value.agg #[.slice aa la ca, .int .i64 n, .slice am lm cm, .slice ae es.length ce], v, Value.slice (some ⟨b1, o1, none⟩) n c1, v, Value.slice a2 start.length c2, y17, y18, y19, y20, y21, y22, y23, y24, Value.agg #[.slice aa la ca, .int .i64 n, .slice am lm cm, .slice ae es.length ce, .slice (some ⟨bf, offf, none⟩) (n + 1) cf], Value.int .i64 s, Value.func (.func 84) #[] #[.pointer (some ⟨wq.heap.size, 0, none⟩), .pointer (some ⟨wq.heap.size + 1, 0, none⟩)], Value.agg #[.int .i64 x.f, .int .i64 x.e, .int .i64 x.t], v29, v30, v31, v32, v33, v34, v35, v36, v37, v38, v39, v40, v41, v42, v43, v44, v45, v46, v47, v48, undef], defers := [] })
          ?hAx ?assign ?body ?done
        case hI =>
          intro pre W W' row h1 hg hr
          obtain ⟨h1, tag, vs, h2⟩ := h1
          exact ⟨h1, tag, vs, h2.others hg (fun D hD => hI4.marks.lt hD) hI4.below.size hr⟩
        case hAx =>
          intro x a' u W W' row h1 hg hr
          obtain ⟨Bx, y17, y18, y19, y20, y21, y22, y23, y24, h1, h2, h3⟩ := h1
          refine ⟨Bx, y17, y18, y19, y20, y21, y22, y23, y24, h1, (hg.block Bx (Array.getElem?_eq_some_iff.1 h2).1 (fun e => ?_)).trans h2, h3⟩
          obtain ⟨o, ho, hc⟩ := (hr Bx e.symm).2
          rw [h2] at ho
          cases ho
          cases hc
        case assign =>
          intro l pre x W K hx hiW hK
          dsimp only [Ed.val]
          gi_wp2
          refine hK _ _ ((KeepsOthers.alloc _ _).from _) ((Below.refl _ W).alloc ?_ _) ?_ ⟨W.heap.size, _, _, _, _, _, _, _, _, ?_, (by repeat (first | with_reducible assumption | (refine heap_drewp ?_) | (refine heap_at ?_; (first | rfl | (simp; done) | (simp; omega))) | (refine heap_past ?_ ?_; (next => first | omega | (simp; done) | (simp; omega))))), rfl⟩
          · obtain ⟨_, _, _, h2⟩ := hiW; exact h2.below.size
          · obtain ⟨h1, tag, vs, h2⟩ := hiW; exact ⟨h1, tag, vs, h2.call (bel_alloc _ _)⟩
          · obtain ⟨_, _, _, h2⟩ := hiW; exact h2.below.size
        case body =>
          rintro l pre x a' W hx hl ⟨hpre, tag, vq, hJ⟩ ⟨Bx, y17, y18, y19, y20, y21, y22, y23, y24, hBx, hbx, rfl⟩
          have hJ2 := hJ.retag hbx
          have hOx : Own W w.heap.size (tagUp tag Bx 5) 5 Bx #[.int .i64 x.f, .int .i64 x.e, .int .i64 x.t] 45 := ⟨hbx, tagUp_at _ _ _, hBx⟩
          have hxe := subOf_mem hx
          have hxr := Hin.out x hxe
          have hok' := FOk.fold (perm := perm) pre Hok2.out (fun y hy => Hin.out y (subOf_mem (hpre y hy)))
          have Hmem : Hid (∀ y ∈ pre ++ [x], y ∈ subOf es s) := by
            intro y hy
            rcases List.mem_append.1 hy with h1 | h1
            · exact hpre y h1
            · rw [List.mem_singleton.1 h1]; exact hx
          have Hacc : Hid ((pre ++ [x]).foldl (fwStep perm) (seen, q) = fwStep perm (pre.foldl (fwStep perm) (seen, q)) x) := by
            show _ = _
            rw [List.foldl_append]; rfl
          clear hpre hx hJ
          generalize pre.foldl (fwStep perm) (seen, q) = acc at *
          obtain ⟨se, st⟩ := acc
          dsimp only at hJ2 hok'
          have hBW := hJ2.below.size
          have hBxl := hOx.lt
          have hb7l := hJ2.eb.lt
          have hb8l := hJ2.qb.lt
          have x0 : W.cell? ⟨Bx, 0, none⟩ = some (.int .i64 x.f) := hOx.cell 0
          have x1 : W.cell? ⟨Bx, 1, none⟩ = some (.int .i64 x.e) := hOx.cell 1
          have x2 : W.cell? ⟨Bx, 2, none⟩ = some (.int .i64 x.t) := hOx.cell 2
          have e0 : W.cell? ⟨w1.heap.size, 0, none⟩ = some (.slice (some ⟨b1, o1, none⟩) n c1) := hJ2.eb.cell 0
          have hlen := hok'.len
          have e1 := hJ2.se.cellAt x.t.toNat (by omega)
          have hq : x.t.toNat < se.length := by omega
          have hstl : st.length ≤ 1000000 := by have := hok'.sum; have := Hm.out; omega
          clear hlen
          rw [List.getElem?_map, List.getElem?_eq_getElem hq, Option.map_some] at e1
          cases hb : se[x.t.toNat]
          · rw [hb] at e1
            have e2 : W.cell? ⟨w.heap.size + 1, 0, none⟩ = some (.func (.func fp) #[] capp) := hJ2.fp.cell 0
            have Hb := Lib.hid hb
            clear hb
            have hHep : Hid (∀ args W, (callFunc fp args).run Try.prog W = .ok (.enter fp args) W) := Hep.out
            cases hpx : perm x
            · have Hpx := Lib.hid hpx
              clear hpx
              gi_wp2_with fail
              refine ⟨trivial, ?_⟩
              rw [hHep.out, Oper.uponIn_enter]
              refine ⟨fun _ => by decide, ?_⟩
              refine (CallsIn.inRound l (callsIn_wide.2 (Hp.out x W hxe hJ2.below))).mono ?_
              rintro e w4 ⟨he, hb4⟩
              rw [Hpx.out] at he
              subst he
              dsimp only
              gi_wp2
              refine ⟨(keepsBelow hb4), belCall (Below.refl _ _) hb4 hJ2.below.size, Hmem.out, tagUp tag Bx 5, vq, ?_⟩
              rw [Hacc.out, show fwStep perm (se, st) x = (se, st) from ?_]
              · exact hJ2.call hb4
              · unfold fwStep
                rw [if_neg]
                rw [Hpx.out]
                simp
            · have Hpx := Lib.hid hpx
              clear hpx
              gi_wp2_with fail
              refine ⟨trivial, ?_⟩
              rw [hHep.out, Oper.uponIn_enter]
              refine ⟨fun _ => by decide, ?_⟩
              refine (CallsIn.inRound l (callsIn_wide.2 (Hp.out x W hxe hJ2.below))).mono ?_
              rintro e w4 ⟨he, hb4⟩
              rw [Hpx.out] at he
              subst he
              dsimp only
              have hJ4 := hJ2.call hb4
              have hO4 := hOx.below hb4
              obtain ⟨avs, cvs, rfl⟩ := hJ4.st.val
              clear x0 x1 x2 e0 e1 e2 hJ2 hOx
              have hBxl4 := hO4.lt
              have hb7l4 := hJ4.eb.lt
              have hb8l4 := hJ4.qb.lt
              have x2 : w4.cell? ⟨Bx, 2, none⟩ = some (.int .i64 x.t) := hO4.cell 2
              have e0 : w4.cell? ⟨w1.heap.size, 0, none⟩ = some (.slice (some ⟨b1, o1, none⟩) n c1) := hJ4.eb.cell 0
              have e1 := hJ4.se.cellAt x.t.toNat (by omega)
              rw [List.getElem?_map, List.getElem?_eq_getElem hq, Option.map_some] at e1
              have e2 := hJ4.se.frozenAt (o1 + x.t.toNat)
              obtain ⟨hJ5, t5⟩ := hJ4.setSeen x.t.toNat
              have hO5 := hO4.turn t5 (by decide)
              have z2 : (w4.setCell ⟨b1, o1 + x.t.toNat, none⟩ (.bool true)).cell? ⟨Bx, 2, none⟩ = some (.int .i64 x.t) := hO5.cell 2
              have z3 : (w4.setCell ⟨b1, o1 + x.t.toNat, none⟩ (.bool true)).cell? ⟨w2.heap.size, 0, none⟩ = some (.slice avs st.length cvs) := hJ5.qb.cell 0
              have T5 := Lib.hid t5
              clear t5 hO5 hJ4 hO4
              obtain ⟨i1, hi1, hw0, hw1, hw2⟩ := info_parts Try.info_int
              have hJ6 := hJ5.call (bel_alloc _ (.cells #[.int .i64 x.t] 3))
              gi_wp2_with (gi_at_builtin; (refine wpListIn_append_row rfl _ _ 28 rfl 3 i1 (.int .i64 0) 8 Try.underlying28 hi1 hw0 hw1 hw2 rfl rfl hJ6.st (some ⟨_, 0, none⟩) 1 1 [.int .i64 x.t] rfl rfl (by simp) (fun ad e => by cases e; exact new_cells_at _ _ (by simp)) (by simp [Value.oneCell']) (by unfold maxLen; omega) (by omega) hJ6.below.size ?_); intro v6 w6 tag6 hr6 ht6; have hJ7 := hJ6.push (x := x.t) hr6 ht6; have s6 := hJ6.qb.turn ht6 (by decide); obtain ⟨a6, c6, rfl⟩ := hr6.val; have z0 := s6.cell 0; have z1 := s6.frozen 0; have z4 : w6.cell? ⟨w2.heap.size, 0, none⟩ = some (.slice avs st.length cvs) := z0; clear z0)
              refine ⟨(keepsBelow hb4).trans ((keepsTurn T5.out).trans ((keepsBelow (bel_alloc _ (.cells #[.int .i64 x.t] 3))).trans ((keepsTurn ht6).trans (keepsTurn (Turn.setCell s6 0 (.slice a6 (st.length + 1) c6)))))), ?_, Hmem.out, tag6, .slice a6 (st.length + 1) c6, ?_⟩
              · have q1 := belCall (Below.refl w.heap.size W) hb4 hBW
                have q2 := belTurn q1 T5.out (Nat.le_trans hBW hb4.size)
                have q3 := belCall q2 (bel_alloc _ (.cells #[.int .i64 x.t] 3)) (Nat.le_trans hBW q2.size)
                have q4 := belTurn q3 ht6 (Nat.le_trans hBW q3.size)
                exact belTurn q4 (Turn.setCell s6 0 (.slice a6 (st.length + 1) c6)) (Nat.le_trans hBW q4.size)
              · rw [Hacc.out, show fwStep perm (se, st) x = (se.set x.t.toNat true, st ++ [x.t]) from ?_]
                · exact hJ7
                · unfold fwStep
                  rw [if_pos]
                  dsimp only
                  rw [List.getElem?_eq_getElem hq, Hb.out, Hpx.out]
                  exact ⟨rfl, rfl⟩
          · rw [hb] at e1
            have Hb := Lib.hid hb
            clear hb
            gi_wp2
            refine ⟨fun _ h => (by cases h), ?_⟩
            gi_wp2
            refine ⟨KeepsFrom.refl _ _, Below.refl _ _, Hmem.out, tagUp tag Bx 5, vq, ?_⟩
            rw [Hacc.out, show fwStep perm (se, st) x = (se, st) from ?_]
            · exact hJ2
            · unfold fwStep
              rw [if_neg]
              dsimp only
              rw [List.getElem?_eq_getElem hq, Hb.out]
              simp
        case done =>
          rintro D W hD ⟨hpre, tag', vq', hW⟩ hd
          have hW2 := hW.mark (fun D' hD' => hI4.marks.lt hD') hD hI4.below.size hd
          have Hfin := Lib.hid hW2
          have hok' := FOk.fold (perm := perm) (subOf es s) Hok2.out (fun y hy => Hin.out y (subOf_mem hy))
          clear hpre hseq hd hW hW2
          go_wp2_with fail
          refine Handed.intro (m - 1 + 1) (by have := Hm1.out; omega) (hJ _ _ _ ?_)
          repeat apply Exists.intro
          exact ⟨Hfin.out, hok', rfl, by have := Hm.out; omega, Hnext.out, rfl⟩
end Go.Proofs.Ythchkddhibhenaa

/- The contracts of anyEdge, reachable and Reachable. -/
namespace Go.Proofs.Ythchkddhibhenaa
open Go.RowKit

theorem anyEdge_any (x : Ed) (w : World) : Calls Try.prog 65 #[x.val] w fun e w' => e = .returned (.bool true) ∧ Below w.heap.size w w' := by
  dsimp only [Ed.val]
  go_enter Try.func65, Try.ntmps65
  go_wp2
  go_ret
  exact ⟨rfl, by first | exact Below.refl _ _ | exact bel_alloc _ _⟩

/-- The flags that reachable returns. -/
def reachF (n : Nat) (es : List Ed) : List Bool := if n = 0 then [] else forwardF n es (fun _ => true) [0]

set_option maxRecDepth 100000 in
set_option maxHeartbeats 1600000 in
theorem reachable_any (aa am ae af : Option Addr) (la lm ca cm ce cf : Nat) (n : Nat) (es : List Ed) (w : World)
    (hre : RdS w 3 ae es.length ce (edCells es)) (hrf : RdS w 1 af (n + 1) cf (ints (firsts n es))) (hl : es.length ≤ 1000000) (hn : n ≤ 100000) (hin : ∀ x ∈ es, 0 ≤ x.t ∧ x.t < (n : Int)) :
    Calls Try.prog 60 #[.agg #[.slice aa la ca, .int .i64 n, .slice am lm cm, .slice ae es.length ce, .slice af (n + 1) cf]] w (Ret w fun u w' => RdB w' u (reachF n es)) := by
  have HR : Hid (reachF n es = if n = 0 then [] else forwardF n es (fun _ => true) [0]) := rfl
  generalize reachF n es = R at *
  have Hin := Lib.hid hin
  clear hin
  go_enter Try.func60, Try.ntmps60
  by_cases h0 : n = 0
  · subst h0
    go_wp2_with fail
    go_ret
    refine ⟨_, rfl, ?_, (Below.refl _ _).alloc (Nat.le_refl _) _⟩
    rw [HR.out, if_pos (by trivial)]
    exact ⟨none, 0, rfl, ⟨rfl, Nat.le_refl _, by simp [maxLen], fun _ => rfl, fun _ e => (by cases e), fun _ e => (by cases e)⟩⟩
  · have hn0 : ((n : Int) == 0) = false := by simp; omega
    have HR2 : Hid (R = forwardF n es (fun _ => true) [0]) := by show _ = _; rw [HR.out, if_neg h0]
    have hpos : 0 < n := by omega
    clear h0 HR
    go_wp2_with fail
    have hbw := (bel_alloc w (.cells #[.slice aa la ca, .int .i64 n, .slice am lm cm, .slice ae es.length ce, .slice af (n + 1) cf] 80)).trans ((bel_alloc _ (.cells #[.int .i64 0] 3)).mono (by simp))
    refine (forward_any aa am ae af la lm ca cm ce cf n es 65 #[] (fun _ => true) _ [0] _ (hre.mono hbw) (hrf.mono hbw) ⟨_, 1, rfl, RdS.lit (cs := #[.int .i64 0]) (heap_at (by simp)) rfl (by decide)⟩ hl (by simp; omega) hpos (fun s hs => by rw [List.mem_singleton.1 hs]; omega) Hin.out (fun _ _ => by kernel_rfl) (fun x W _ _ => anyEdge_any x W)).mono ?_
    rintro e w3 ⟨v3, rfl, hr3, hb3⟩
    have Hr3 := Lib.hid hr3
    obtain ⟨a3, c3, rfl, hr3'⟩ := hr3
    clear hr3'
    go_wp2_with fail
    go_ret
    exact ⟨_, rfl, by rw [HR2.out]; exact Hr3.out, hbw.trans (hb3.mono hbw.size)⟩

set_option maxRecDepth 100000 in
set_option maxHeartbeats 1600000 in
theorem reachables_any (v : Value) (a : Aut) (w : World) (ha : RdA w v a) (hs : a.small) :
    Calls Try.prog 26 #[v] w (Ret w (ListPost a.err (listL (reachF a.n.toNat a.es)))) := by
  have ha0 := ha
  obtain ⟨va, vm, ve, rfl, ⟨aa, ca, rfl, hra⟩, ⟨am, cm, rfl, hrm⟩, ⟨ae, ce, rfl, hre⟩⟩ := ha
  have Ha0 := Lib.hid ha0
  have Hs := Lib.hid hs
  clear ha0 hs
  go_enter Try.func26, Try.ntmps26
  go_wp2_with fail
  refine (check_any _ a _ (Ha0.out.mono (by (repeat (first | with_reducible exact Below.refl _ _ | with_reducible exact Ha0 | (with_reducible refine belCall ?_ Ha0 (by first | omega | (simp; done) | (simp; omega) | (simp at *; omega))) | (with_reducible refine Below.alloc ?_ (by first | omega | (simp; done) | (simp; omega) | (simp at *; omega)) _) | (with_reducible refine Below.drew ?_) | (with_reducible refine Below.setCell ?_ (by first | omega | (simp; done) | (simp; omega) | (simp at *; omega)) _))))) Hs.out).mono ?_
  rintro e w1 ⟨_, rfl, rfl, hb1⟩
  have hW1 : Below w.heap.size w w1 := ((Below.refl _ _).alloc (Nat.le_refl _) _).trans (hb1.mono (by simp))
  have hbx := box4 hb1
  clear hb1
  by_cases h1 : a.err = 0
  · have hok := Aut.ok_of h1
    have H1 := Lib.hid h1
    rw [h1]
    clear h1
    have hn0 := hok.n0
    have hn1 := hok.n1
    have Hes := Lib.hid hok.es
    have hae := Hs.out.es
    clear hok
    generalize hn : a.n = an at *
    obtain ⟨n, rfl⟩ := Int.eq_ofNat_of_zero_le hn0
    have Hn := Lib.hid hn
    obtain ⟨x0, x1, x2, x3, x4⟩ := hbx
    clear hn hn0
    go_wp2_with fail
    refine (newGraph_any _ _ _ _ _ _ _ n a.es _ (RdE.mono ⟨ae, ce, rfl, hre⟩ hW1) hae (by omega) (fun x hx => ⟨(Hes.out x hx).1, (Hes.out x hx).2.1⟩)).mono ?_
    rintro e w3 ⟨_, rfl, ⟨af, cf, rfl, hrf⟩, hb3⟩
    have hW3 := hW1.trans (hb3.mono hW1.size)
    clear x0 x1 x2 x3 x4 hb3
    go_wp2_with fail
    refine (reachable_any aa am ae af _ _ ca cm ce cf n a.es _ (hre.mono hW3) hrf hae (by omega) (fun x hx => (Hes.out x hx).2.2)).mono ?_
    rintro e w4 ⟨v4, rfl, hr4, hb4⟩
    have hW4 := hW3.trans (hb4.mono hW3.size)
    have hfl : (reachF n a.es).length ≤ 1000000 := by
      obtain ⟨a4, c4, _, h5⟩ := hr4
      unfold reachF
      split
      · simp
      · rename_i h6
        have := forwardF_length (perm := fun _ => true) n a.es [0] (fun x hx => (Hes.out x hx).2.2) (fun s hs => by rw [List.mem_singleton.1 hs]; omega)
        omega
    have Hr4 := Lib.hid hr4
    obtain ⟨a4, c4, rfl, hr4'⟩ := hr4
    clear hr4' hb4
    go_wp2_with fail
    refine (list_any _ _ _ Hr4.out hfl).mono ?_
    rintro e w5 ⟨v5, rfl, hown5, hb5⟩
    have H5 := Lib.hid (RdI.of_own hown5)
    obtain ⟨a5, c5, rfl, hr5⟩ := RdS.of_own hown5
    clear hr5 hown5
    go_wp2_with fail
    go_ret2
    refine ⟨_, rfl, ?_, hW4.trans (hb5.mono hW4.size)⟩
    rw [ListPost, if_pos H1.out]
    exact ⟨_, rfl, H5.out⟩
  · have H1 := Lib.hid h1
    have h1' : (a.err != 0) = true := by simpa using h1
    clear h1
    go_wp2_with fail
    go_ret2
    refine ⟨_, rfl, ?_, hW1⟩
    rw [ListPost, if_neg H1.out]
    rfl
end Go.Proofs.Ythchkddhibhenaa

/- Cycle as a plain function; the closures of Cycle. -/
namespace Go.Proofs.Ythchkddhibhenaa
open Go.RowKit

theorem edErr_ev {al : List Int} {n : Int} : ∀ {p : Option Ed} {xs : List Ed}, edErr al n p xs = 0 → ∀ x ∈ xs, hasB al x.e = true
  | _, [], _, x, hx => by cases hx
  | p, y :: ys, h, x, hx => by
    rw [edErr] at h
    split at h
    · cases h
    · split at h
      · cases h
      · rename_i h1 h2
        split at h
        · cases h
        · rcases List.mem_cons.1 hx with rfl | h3
          · simpa using h2
          · exact edErr_ev h x h3
theorem Aut.ev_of {a : Aut} (h : a.err = 0) : ∀ x ∈ a.es, 0 ≤ x.e ∧ x.e < 32 := by
  unfold Aut.err at h
  split at h
  · rename_i h1; rw [h] at h1; cases h1
  · split at h
    · cases h
    · split at h
      · cases h
      · split at h
        · rename_i h1; rw [h] at h1; cases h1
        · rename_i h1 h2 h3 h4
          intro x hx
          have h5 : setErr 32 none a.al = 0 := by simpa using h1
          exact setErr_zero h5 _ (hasB_true.1 (edErr_ev h x hx))

/-- The flags of the events. -/
def byF (evs : List Int) : List Bool := evs.foldl (fun F x => F.set x.toNat true) (List.replicate 32 false)
theorem byF_aux : ∀ (evs : List Int) (F : List Bool), F.length = 32 → (∀ x ∈ evs, 0 ≤ x ∧ x < 32) → (evs.foldl (fun F x => F.set x.toNat true) F).length = 32 ∧ ∀ j : Nat, j < 32 → (evs.foldl (fun F x => F.set x.toNat true) F).getD j false = (F.getD j false || hasB evs j)
  | [], F, hl, _ => ⟨hl, fun j _ => by simp [hasB]⟩
  | x :: evs, F, hl, hin => by
    have hx := hin x (List.mem_cons_self ..)
    obtain ⟨h1, h2⟩ := byF_aux evs (F.set x.toNat true) (by simp [hl]) (fun y hy => hin y (List.mem_cons_of_mem _ hy))
    refine ⟨h1, fun j hj => ?_⟩
    rw [List.foldl_cons, h2 j hj]
    obtain ⟨t, rfl⟩ := Int.eq_ofNat_of_zero_le hx.1
    have hc : hasB ((t : Int) :: evs) j = ((t : Int) == j || hasB evs j) := by
      cases hb : hasB evs j with
      | true => rw [Bool.or_true]; exact hasB_true.2 (List.mem_cons_of_mem _ (hasB_true.1 hb))
      | false =>
        rw [Bool.or_false]
        by_cases e : t = j
        · subst e; simp; exact hasB_true.2 (List.mem_cons_self ..)
        · have : ((t : Int) == (j : Int)) = false := by simp; omega
          rw [this]
          cases hh : hasB ((t : Int) :: evs) j with
          | false => rfl
          | true =>
            rcases List.mem_cons.1 (hasB_true.1 hh) with h | h
            · omega
            · rw [hasB_true.2 h] at hb; cases hb
    rw [hc, ← Bool.or_assoc]
    congr 1
    rw [List.getD_eq_getElem?_getD, List.getElem?_set, List.getD_eq_getElem?_getD]
    by_cases e : t = j
    · subst e
      simp [hl, hj]
    · rw [if_neg (by simpa using e), show ((t : Int) == (j : Int)) = false by simp; omega, Bool.or_false]
theorem byF_length {evs : List Int} (h : ∀ x ∈ evs, 0 ≤ x ∧ x < 32) : (byF evs).length = 32 := (byF_aux evs _ (by simp) h).1
theorem byF_has {evs : List Int} (h : ∀ x ∈ evs, 0 ≤ x ∧ x < 32) (e : Int) (h0 : 0 ≤ e) (h1 : e < 32) : (byF evs).getD e.toNat false = hasB evs e := by
  obtain ⟨j, rfl⟩ := Int.eq_ofNat_of_zero_le h0
  have := (byF_aux evs (List.replicate 32 false) (by simp) h).2 j (by omega)
  rw [byF, Int.toNat_natCast, this, List.getD_eq_getElem?_getD, List.getElem?_replicate]
  split <;> simp

/-- The first cycle, from state k on. -/
def cycI (n : Nat) (es : List Ed) (perm : Ed → Bool) : List Bool → Nat → Option (List Int × List Int)
  | [], _ => none
  | b :: l, k => if b = true then match roundF n es perm k with
      | some c => some ((pathF n es (fun t => t == (k : Int)) (fun _ => true) 0).getD [], c)
      | none => cycI n es perm l (k + 1)
    else cycI n es perm l (k + 1)
section
variable {n : Nat} {es : List Ed} {perm : Ed → Bool} {l : List Bool} {k : Nat}
theorem cycI_skip : cycI n es perm (false :: l) k = cycI n es perm l (k + 1) := by rw [cycI, if_neg (by simp)]
theorem cycI_none (h : roundF n es perm k = none) : cycI n es perm (true :: l) k = cycI n es perm l (k + 1) := by rw [cycI, if_pos rfl, h]
theorem cycI_some {c : List Int} (h : roundF n es perm k = some c) : cycI n es perm (true :: l) k = some ((pathF n es (fun t => t == (k : Int)) (fun _ => true) 0).getD [], c) := by rw [cycI, if_pos rfl, h]
end
/-- What Cycle returns. -/
def CycPost (e : Int) (r : Option (List Int × List Int)) (u : Value) (w' : World) : Prop :=
  if e = 0 then match r with
    | some p => ∃ v1 v2, u = .tuple #[v1, v2, .bool true, .int .i64 0] ∧ RdI w' v1 p.1 ∧ RdI w' v2 p.2
    | none => u = .tuple #[.slice none 0 0, .slice none 0 0, .bool false, .int .i64 0]
  else u = .tuple #[.slice none 0 0, .slice none 0 0, .bool false, .int .i64 e]

theorem CycPost.err {e : Int} {r : Option (List Int × List Int)} {w' : World} (h : e ≠ 0) : CycPost e r (.tuple #[.slice none 0 0, .slice none 0 0, .bool false, .int .i64 e]) w' := by unfold CycPost; rw [if_neg h]
theorem CycPost.none' {e : Int} {r : Option (List Int × List Int)} {w' : World} (h : e = 0) (hr : r = none) : CycPost e r (.tuple #[.slice none 0 0, .slice none 0 0, .bool false, .int .i64 0]) w' := by unfold CycPost; rw [if_pos h, hr]
theorem CycPost.some' {e : Int} {r : Option (List Int × List Int)} {w' : World} {p c : List Int} {v1 v2 : Value} (h : e = 0) (hr : r = some (p, c)) (h1 : RdI w' v1 p) (h2 : RdI w' v2 c) : CycPost e r (.tuple #[v1, v2, .bool true, .int .i64 0]) w' := by unfold CycPost; rw [if_pos h, hr]; exact ⟨v1, v2, rfl, h1, h2⟩

theorem cyc1_any (bb : Nat) (F : List Bool) (x : Ed) (w : World) (hb : ∀ j : Nat, j < 32 → w.cell? ⟨bb, j, none⟩ = some (.bool (F.getD j false))) (h0 : 0 ≤ x.e) (h1 : x.e < 32) :
    Calls Try.prog 62 #[x.val, .pointer (some ⟨bb, 0, none⟩)] w fun e w' => e = .returned (.bool (F.getD x.e.toNat false)) ∧ Below w.heap.size w w' := by
  obtain ⟨xf, xe, xt⟩ := x
  dsimp only at *
  obtain ⟨j, rfl⟩ := Int.eq_ofNat_of_zero_le h0
  have hj : j < 32 := by omega
  have hc := hb j hj
  rw [Int.toNat_natCast]
  generalize F.getD j false = b at *
  have hbl := World.block_lt_of_cell? w _ hc
  dsimp only at hbl
  clear hb
  dsimp only [Ed.val]
  go_enter Try.func62, Try.ntmps62
  go_wp2
  go_ret
  exact ⟨rfl, bel_alloc _ _⟩
theorem cyc2_any (bs : Nat) (s t : Int) (w : World) (hb : w.cell? ⟨bs, 0, none⟩ = some (.int .i64 s)) :
    Calls Try.prog 64 #[.int .i64 t, .pointer (some ⟨bs, 0, none⟩)] w fun e w' => e = .returned (.bool (t == s)) ∧ Below w.heap.size w w' := by
  have hbl := World.block_lt_of_cell? w _ hb
  dsimp only at hbl
  go_enter Try.func64, Try.ntmps64
  go_wp2
  go_ret
  exact ⟨rfl, Below.refl _ _⟩
end Go.Proofs.Ythchkddhibhenaa

/- A law for a region that draws its order, makes memory and calls, but stores nothing: what holds of each slot stays. -/
namespace Go.Proofs.Ythchkddhibhenaa
open Go Go.RowKit

section
variable {P : Program} {ops : Array Oper} {Q : Exit → Act → World → Prop}
/-- What holds of the slots of the operations that have been carried out. -/
structure MonoI (R : Nat → Value → World → Prop) (n : Nat) (w0 : World) (l : Array Bool) (us : List Value) (W : World) : Prop where
  len : us.length = n
  bel : Below w0.heap.size w0 W
  has : ∀ j, j < n → l.getD j false = true → R j (us.getD j undef) W
theorem MonoI.step {R : Nat → Value → World → Prop} {n k : Nat} {w0 : World} {l : Array Bool} {us : List Value} {W W' : World} (hmono : ∀ j v W W', Below W.heap.size W W' → R j v W → R j v W')
    (hl : ∀ j, j < n → (l.setIfInBounds k true).getD j false = (j == k || l.getD j false)) (h : MonoI R n w0 l us W) (hb : Below W.heap.size W W') {v : Value} (hv : R k v W') : MonoI R n w0 (l.setIfInBounds k true) (us.set k v) W' := by
  refine ⟨by rw [List.length_set]; exact h.len, h.bel.trans (hb.mono h.bel.size), fun j hj hs => ?_⟩
  by_cases e : k = j
  · subst e
    rw [List.getD_eq_getElem?_getD, List.getElem?_set_self (by rw [h.len]; exact hj)]
    exact hv
  · rw [List.getD_eq_getElem?_getD, List.getElem?_set_ne e, ← List.getD_eq_getElem?_getD]
    have h1 : (j == k) = false := by simp; omega
    rw [hl j hj, h1, Bool.false_or] at hs
    exact hmono j _ W W' hb (h.has j hj hs)
theorem wp_region_mono {id : Nat} {a : Act} {w : World} (R : Nat → Value → World → Prop) (ds : List Nat) (hmono : ∀ j v W W', Below W.heap.size W W' → R j v W → R j v W') (hn : ds.length = ops.size) (hm : P.follows .mixedOrders = true) (hB : afterB ops = true)
    (hs : Steps P ops Q .any (MonoI R ops.size w.drew) a ds 0)
    (hend : ∀ us W, us.length = ops.size → Below w.drew.heap.size w.drew W → (∀ j, j < ops.size → R j (us.getD j undef) W) → Q .normal (puts a ds us) W) : (Code.region id ops true).wp P Q a w := by
  refine wp_region_inv (MonoI R ops.size w.drew) ds hm hB ⟨by simp [hn], Below.refl _ _, fun j hj h => ?_⟩ hs (fun l us W h hall => hend us W h.len h.bel (fun j hj => h.has j hj (hall j hj)))
  rw [Array.getD_eq_getD_getElem?, Array.getElem?_replicate] at h
  split at h <;> cases h
end
end Go.Proofs.Ythchkddhibhenaa
