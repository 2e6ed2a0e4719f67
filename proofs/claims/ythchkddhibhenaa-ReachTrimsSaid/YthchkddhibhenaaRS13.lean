/- Texts joined: FwdFn, From. Each is introduced by its own sentence. -/
import Derived.Deep.LoopGhost
import Derived.Test.YthchkddhibhenaaRS4
import Derived.Test.YthchkddhibhenaaRS10
/- The search forward, as a plain function. -/
namespace Go.Proofs.Ythchkddhibhenaa
open Go.RowKit Go.Shelf

/-- An edge is looked at: the flags and the queue. -/
def fwStep (perm : Ed → Bool) (acc : List Bool × List Int) (x : Ed) : List Bool × List Int :=
  if acc.1[x.t.toNat]?.getD true = false ∧ perm x = true then (acc.1.set x.t.toNat true, acc.2 ++ [x.t]) else acc
/-- The search. -/
def fwd (sub : Int → List Ed) (perm : Ed → Bool) : Nat → List Bool → List Int → List Bool
  | 0, seen, _ => seen
  | _ + 1, seen, [] => seen
  | f + 1, seen, s :: q => fwd sub perm f ((sub s).foldl (fwStep perm) (seen, q)).1 ((sub s).foldl (fwStep perm) (seen, q)).2
structure FOk (n m : Nat) (seen : List Bool) (q : List Int) : Prop where
  len : seen.length = n
  range : ∀ s ∈ q, 0 ≤ s ∧ s < (n : Int)
  sum : seen.count false + q.length ≤ m
theorem count_set_false {l : List Bool} {j : Nat} (h : l[j]? = some false) : (l.set j true).count false + 1 = l.count false := by
  induction l generalizing j with
  | nil => simp at h
  | cons a l ih =>
    cases j with
    | zero => simp at h; subst h; simp
    | succ j =>
      simp at h
      rw [List.set_cons_succ, List.count_cons, List.count_cons, ← ih h]
      omega
theorem FOk.step {n m : Nat} {perm : Ed → Bool} {seen : List Bool} {q : List Int} (h : FOk n m seen q) (x : Ed) (h0 : 0 ≤ x.t) (h1 : x.t < (n : Int)) : FOk n m (fwStep perm (seen, q) x).1 (fwStep perm (seen, q) x).2 := by
  unfold fwStep
  dsimp only
  split
  · rename_i hc
    have hlt : x.t.toNat < seen.length := by rw [h.len]; omega
    have hs : seen[x.t.toNat]? = some false := by
      have := hc.1
      rw [List.getElem?_eq_getElem hlt] at this ⊢
      simpa using this
    have h2 := count_set_false hs
    have h3 := h.sum
    refine ⟨by simp [h.len], fun s hs => ?_, by simp only [List.length_append, List.length_singleton]; omega⟩
    rcases List.mem_append.1 hs with h4 | h4
    · exact h.range s h4
    · rw [List.mem_singleton.1 h4]; exact ⟨h0, h1⟩
  · exact h
theorem FOk.fold {n m : Nat} {perm : Ed → Bool} : ∀ (l : List Ed) {seen : List Bool} {q : List Int}, FOk n m seen q → (∀ x ∈ l, 0 ≤ x.t ∧ x.t < (n : Int)) → FOk n m (l.foldl (fwStep perm) (seen, q)).1 (l.foldl (fwStep perm) (seen, q)).2
  | [], _, _, h, _ => h
  | x :: l, seen, q, h, hx => by
    have h1 := h.step (perm := perm) x (hx x (List.mem_cons_self ..)).1 (hx x (List.mem_cons_self ..)).2
    exact FOk.fold l h1 (fun y hy => hx y (List.mem_cons_of_mem _ hy))
/-- What forward returns. -/
def forwardF (n : Nat) (es : List Ed) (perm : Ed → Bool) (start : List Int) : List Bool := fwd (subOf es) perm ((flagL n start).count false + start.length + 1) (flagL n start) start

theorem fwd_length {n : Nat} {es : List Ed} {perm : Ed → Bool} (hin : ∀ x ∈ es, 0 ≤ x.t ∧ x.t < (n : Int)) : ∀ (f m : Nat) {seen : List Bool} {q : List Int}, FOk n m seen q → (fwd (subOf es) perm f seen q).length = n
  | 0, _, _, _, h => h.len
  | f + 1, _, _, [], h => h.len
  | f + 1, m, seen, s :: q, h => by
    rw [fwd]
    have h0 : FOk n m seen q := ⟨h.len, fun t ht => h.range t (List.mem_cons_of_mem _ ht), by have := h.sum; simp only [List.length_cons] at this; omega⟩
    exact fwd_length hin f m (FOk.fold (perm := perm) (subOf es s) h0 (fun x hx => hin x (subOf_mem hx)))
theorem forwardF_length {perm : Ed → Bool} (n : Nat) (es : List Ed) (start : List Int) (hin : ∀ x ∈ es, 0 ≤ x.t ∧ x.t < (n : Int)) (hst : ∀ s ∈ start, 0 ≤ s ∧ s < (n : Int)) : (forwardF n es perm start).length = n :=
  fwd_length hin _ _ ⟨flagL_length n start, hst, Nat.le_refl _⟩
/-- What holds while forward searches. -/
structure FInv (w : World) (G : Array Value) (FP : Value) (n b7 b8 : Nat) (vs : Value) (ds : List Deferred) (wr : World) (tag : Nat → Nat) (vq : Value) (seen : List Bool) (q : List Int) : Prop where
  below : Below w.heap.size w wr
  marks : Marks w.heap.size wr ds
  g : Own wr w.heap.size tag 0 w.heap.size G 80
  fp : Own wr w.heap.size tag 0 (w.heap.size + 1) #[FP] 90
  eb : Own wr w.heap.size tag 0 b7 #[vs] 86
  qb : Own wr w.heap.size tag 3 b8 #[vq] 28
  se : Row wr w.heap.size tag 1 4 1 vs n (bools seen)
  st : Row wr w.heap.size tag 2 3 1 vq q.length (ints q)

section
variable {w : World} {G : Array Value} {FP : Value} {n b7 b8 : Nat} {vs : Value} {ds : List Deferred} {wr wr' : World} {tag tag' : Nat → Nat} {vq : Value} {seen : List Bool} {q : List Int}
theorem FInv.call (h : FInv w G FP n b7 b8 vs ds wr tag vq seen q) (hb : Below wr.heap.size wr wr') : FInv w G FP n b7 b8 vs ds wr' tag vq seen q :=
  ⟨belCall h.below hb h.below.size, h.marks.below hb, h.g.below hb, h.fp.below hb, h.eb.below hb, h.qb.below hb, h.se.below hb, h.st.below hb⟩
theorem FInv.others {s : Nat} {row : Option Nat} (h : FInv w G FP n b7 b8 vs ds wr tag vq seen q) (hg : wr.grownBy wr' row) (hs : ∀ D, mark D ∈ ds → D < s) (hws : w.heap.size ≤ s) (hr : ∀ r, row = some r → s ≤ r ∧ ∃ o : Obj, wr.heap[r]? = some o ∧ o.isCells = false) : FInv w G FP n b7 b8 vs ds wr' tag vq seen q :=
  ⟨belOthers h.below hg h.below.size hws (fun r e => (hr r e).1), h.marks.others hs hg (fun r e => (hr r e).1), h.g.others hg (fun r e => (hr r e).2), h.fp.others hg (fun r e => (hr r e).2), h.eb.others hg (fun r e => (hr r e).2), h.qb.others hg (fun r e => (hr r e).2), h.se.others hg (fun r e => (hr r e).2), h.st.others hg (fun r e => (hr r e).2)⟩
theorem FInv.retag {bx : Nat} {cx : Array Value} (h : FInv w G FP n b7 b8 vs ds wr tag vq seen q) (hx : wr.heap[bx]? = some (.cells cx 45 (0, 0))) : FInv w G FP n b7 b8 vs ds wr (tagUp tag bx 5) vq seen q :=
  ⟨h.below, h.marks, h.g.retag hx (by decide), h.fp.retag hx (by decide), h.eb.retag hx (by decide), h.qb.retag hx (by decide), h.se.retag hx (by decide), h.st.retag hx (by decide)⟩
/-- A flag is set. -/
theorem FInv.setSeen {bs os cs : Nat} (h : FInv w G FP n b7 b8 (.slice (some ⟨bs, os, none⟩) n cs) ds wr tag vq seen q) (j : Nat) : FInv w G FP n b7 b8 (.slice (some ⟨bs, os, none⟩) n cs) ds (wr.setCell ⟨bs, os + j, none⟩ (.bool true)) tag vq (seen.set j true) q ∧ Turn w.heap.size tag tag 1 wr (wr.setCell ⟨bs, os + j, none⟩ (.bool true)) := by
  have h1 := h.se.set j (.bool true)
  refine ⟨⟨belTurn h.below h1.2 h.below.size, h.marks.turn h1.2, h.g.turn h1.2 (by decide), h.fp.turn h1.2 (by decide), h.eb.turn h1.2 (by decide), h.qb.turn h1.2 (by decide), ?_, h.st.turn h1.2 (by decide)⟩, h1.2⟩
  have h2 := h1.1
  rwa [show bools (seen.set j true) = (bools seen).set j (.bool true) from List.map_set ..]
/-- The queue's box gets another value. -/
theorem FInv.setQ {vq' : Value} {q' : List Int} (h : FInv w G FP n b7 b8 vs ds wr tag vq seen q) (hr : Row wr w.heap.size tag 2 3 1 vq' q'.length (ints q')) : FInv w G FP n b7 b8 vs ds (wr.setCell ⟨b8, 0, none⟩ vq') tag vq' seen q' := by
  have h1 := Turn.setCell h.qb 0 vq'
  have h2 := h.qb.set 0 vq'
  exact ⟨belTurn h.below h1 h.below.size, h.marks.turn h1, h.g.turn h1 (by decide), h.fp.turn h1 (by decide), h.eb.turn h1 (by decide), h2, h.se.turn h1 (by decide), hr.turn h1 (by decide)⟩
/-- A state more in the queue, and the box that holds it. -/
theorem FInv.push {vq' : Value} {x : Int} (h : FInv w G FP n b7 b8 vs ds wr tag vq seen q) (hr : Row wr' w.heap.size tag' 2 3 1 vq' (q.length + 1) (ints q ++ [.int .i64 x])) (ht : Turn w.heap.size tag tag' 2 wr wr') :
    FInv w G FP n b7 b8 vs ds (wr'.setCell ⟨b8, 0, none⟩ vq') tag' vq' seen (q ++ [x]) := by
  have hs := h.qb.turn ht (by decide)
  have h1 := Turn.setCell hs 0 vq'
  have h2 := hs.set 0 vq'
  have hB : w.heap.size ≤ wr'.heap.size := Nat.le_trans h.below.size ht.size
  exact ⟨belTurn (belTurn h.below ht h.below.size) h1 hB, (h.marks.turn ht).turn h1, (h.g.turn ht (by decide)).turn h1 (by decide), (h.fp.turn ht (by decide)).turn h1 (by decide), (h.eb.turn ht (by decide)).turn h1 (by decide), h2, (h.se.turn ht (by decide)).turn h1 (by decide), by rw [List.length_append, show ints (q ++ [x]) = ints q ++ [.int .i64 x] by simp [ints]]; exact hr.turn h1 (by decide)⟩
/-- Another mark. -/
theorem FInv.mark {s D : Nat} (h : FInv w G FP n b7 b8 vs ds wr tag vq seen q) (hs : ∀ D', Go.Proofs.Ythchkddhibhenaa.mark D' ∈ ds → D' < s) (hD : s ≤ D) (hB : w.heap.size ≤ s) (hd : wr.heap[D]? = some (.deferred (some []))) : FInv w G FP n b7 b8 vs (Go.Proofs.Ythchkddhibhenaa.mark D :: ds) wr tag vq seen q :=
  { h with marks := h.marks.cons hs hD (Nat.le_trans hB hD) hd }
end
end Go.Proofs.Ythchkddhibhenaa

/- The contract of From. -/
namespace Go.Proofs.Ythchkddhibhenaa
open Go.RowKit

set_option maxRecDepth 100000 in
set_option maxHeartbeats 1600000 in
theorem from_any (v vs vw vv : Value) (a : Aut) (start within evs : List Int) (w : World) (ha : RdA w v a) (hs : a.small) (h1 : RdI w vs start) (h2 : RdI w vw within) (h3 : RdI w vv evs) (hl1 : start.length + a.es.length ≤ 1000000) (hl2 : within.length ≤ 1000000) (hl3 : evs.length ≤ 1000000) :
    Calls Try.prog 59 #[v, vs, vw, vv] w (Ret w fun u w' => RdI w' u (fromL a.es start within evs)) := by
  obtain ⟨va, vm, ve, rfl, ⟨aa, ca, rfl, hra⟩, ⟨am, cm, rfl, hrm⟩, ⟨ae, ce, rfl, hre⟩⟩ := ha
  have H2 := Lib.hid h2
  have H3 := Lib.hid h3
  obtain ⟨a0, cs, rfl, hrs⟩ := h1
  obtain ⟨al, n, ms, es⟩ := a
  dsimp only at *
  clear hs hra hrm h2 h3
  have Hres : Hid (fromL es start within evs = fLoop es within evs (es.length + 1) (start.foldl (sStep within) [])) := rfl
  generalize fromL es start within evs = R at *
  go_enter Try.func59, Try.ntmps59
  go_wp2_with fail
  go_loopw [9, 10] (fun o i wr => ∃ (k : Nat) (O : List Int), k ≤ start.length ∧ i = .int .i64 k ∧ Below (w.heap.size + 1) (w.alloc (.cells #[.slice aa al.length ca, .int .i64 n, .slice am ms.length cm, .slice ae es.length ce] 31)) wr ∧ RdI wr o O ∧ Inc O ∧ O.length ≤ k ∧ Hid (start.foldl (sStep within) [] = (start.drop k).foldl (sStep within) O)) (fun _ i _ => start.length - (intOf i).toNat)
  case atStart => exact ⟨0, [], Nat.zero_le _, rfl, Below.refl _ _, RdI.nil0 _, List.Pairwise.nil, Nat.zero_le _, rfl⟩
  case round =>
    obtain ⟨k, O, hk, rfl, hB, hO, hinc, hlen, hf⟩ := hrel
    have hB0 : Below w.heap.size w wr := ((Below.refl _ _).alloc (Nat.le_refl _) _).trans (hB.mono (Nat.le_succ _))
    have hsz := hB.size
    simp only [World.size_alloc] at hsz
    have HO := Lib.hid hO
    have Hinc := Lib.hid hinc
    obtain ⟨ao, co, rfl, hO'⟩ := hO
    clear hO' hinc
    by_cases hlt : k < start.length
    · obtain ⟨b, off, rfl, hc⟩ := hrs.at_int k hlt
      have Hd : Hid ((start.drop k).foldl (sStep within) O = (start.drop (k + 1)).foldl (sStep within) (sStep within O start[k])) := by
        show _ = _
        rw [List.drop_eq_getElem_cons hlt, List.foldl_cons]
      replace hc := keep0 hB0 hc
      generalize start[k] = s at *
      cases hw : hasB within s with
      | false =>
        have HW := Lib.hid hw
        have HS : Hid (sStep within O s = O) := by show _ = _; rw [sStep, if_neg (by rw [hw]; simp)]
        clear hw
        go_wp2_with (go_at_call 50; refine (has_any _ within s _ (H2.out.mono hB0) hl2).mono ?_; rintro e w1 ⟨rfl, rfl⟩; rw [HW.out])
        go_roundw
        case rel => exact ⟨k + 1, O, by omega, by go_num, hB, HO.out, Hinc.out, by omega, by show _ = _; rw [hf.out, Hd.out, HS.out]⟩
        case measure => simp [intOf]; omega
      | true =>
        have HW := Lib.hid hw
        have HS : Hid (sStep within O s = addL O s) := by show _ = _; rw [sStep, if_pos hw]
        have hadd : (addL O s).length ≤ k + 1 := by
          rcases addL_len Hinc.out s with ⟨_, h⟩ | ⟨_, h⟩
          · rw [h]; omega
          · omega
        clear hw
        go_wp2_with (first
          | (go_at_call 50; refine (has_any _ within s _ (H2.out.mono hB0) hl2).mono ?_; rintro e w1 ⟨rfl, rfl⟩; rw [HW.out])
          | (go_at_call 51; refine (add_any _ O s _ HO.out (by omega)).mono ?_; rintro e w1 ⟨v1, rfl, hr1, hb1⟩; have Hr1 := Lib.hid hr1; obtain ⟨a1, c1, rfl, hr1'⟩ := hr1; have hB1 := hB.trans (hb1.mono (by omega)); clear hr1' hb1))
        go_roundw
        case rel => exact ⟨k + 1, addL O s, by omega, by go_num, hB1, Hr1.out, addL_inc Hinc.out _, hadd, by show _ = _; rw [hf.out, Hd.out, HS.out]⟩
        case measure => simp [intOf]; omega
    · have HO2 : Hid (start.foldl (sStep within) [] = O) := by
        show _ = _
        rw [hf.out, show k = start.length by omega, List.drop_length]; rfl
      have HR : Hid (R = fLoop es within evs (es.length + 1) O) := by
        show _ = _
        rw [Hres.out, HO2.out]
      have hOl : O.length ≤ start.length := by omega
      clear hf HO2
      go_wp2_with fail
      go_loopg [9, 11] (news es O + 1) (fun gk o nn wr => ∃ (P : List Int) (m : Int) (f : Nat), nn = .int .i64 m ∧ Below (w.heap.size + 1) (w.alloc (.cells #[.slice aa al.length ca, .int .i64 n, .slice am ms.length cm, .slice ae es.length ce] 31)) wr ∧ RdI wr o P ∧ Inc P ∧ P.length + news es P ≤ start.length + es.length ∧
        Hid (R = if m = (P.length : Int) then P else fLoop es within evs f P) ∧ news es P < f ∧ -1 ≤ m ∧ m ≤ 1000000 ∧ gk = if m = (P.length : Int) then 0 else news es P + 1)
      case atStart =>
        have := news_le es O
        exact ⟨O, -1, _, rfl, hB, HO.out, Hinc.out, by omega, by show _ = _; rw [HR.out, if_neg (by omega)], by omega, by omega, by omega, by rw [if_neg (by omega)]⟩
      case round =>
        clear hB hB0 hsz hlen HO Hinc
        obtain ⟨P, m, f, rfl, hB, hO, hinc, hPl, hR, hnf, hm0, hm1, hgk⟩ := hrel
        have hB0 : Below w.heap.size w wr := ((Below.refl _ _).alloc (Nat.le_refl _) _).trans (hB.mono (Nat.le_succ _))
        have HO := Lib.hid hO
        have Hinc := Lib.hid hinc
        have Hgk := Lib.hid hgk
        obtain ⟨ao', co', rfl, hO'⟩ := hO
        clear hO' hinc hgk
        by_cases hm : m = (P.length : Int)
        · have HR2 : Hid (R = P) := by show _ = _; rw [hR.out, if_pos hm]
          subst hm
          clear hR
          go_wp2_with fail
          go_ret
          exact ⟨_, rfl, by rw [HR2.out]; exact HO.out, hB0⟩
        · have q : (m != (P.length : Int)) = true := by simpa using hm
          have HR2 : Hid (R = fLoop es within evs f P) := by show _ = _; rw [hR.out, if_neg hm]
          have Hgk2 : Hid (gk = news es P + 1) := by show _ = _; rw [Hgk.out, if_neg hm]
          clear hR Hgk hm
          have hfold : Hid (es.foldl (fStep within evs) P = es.foldl (fStep within evs) P) := rfl
          go_wp2_with fail
          go_loopw [9, 12] (fun o i wr' => ∃ (k : Nat) (Q : List Int), k ≤ es.length ∧ i = .int .i64 k ∧ Below (w.heap.size + 1) (w.alloc (.cells #[.slice aa al.length ca, .int .i64 n, .slice am ms.length cm, .slice ae es.length ce] 31)) wr' ∧ RdI wr' o Q ∧ Inc Q ∧ Q.length + news es Q ≤ start.length + es.length ∧ Hid (es.foldl (fStep within evs) P = (es.drop k).foldl (fStep within evs) Q)) (fun _ i _ => es.length - (intOf i).toNat)
          case atStart => exact ⟨0, P, Nat.zero_le _, rfl, hB, HO.out, Hinc.out, hPl, rfl⟩
          case round =>
            clear hB hB0
            obtain ⟨j, Q, hj, rfl, hB, hO2, hinc2, hQl, hf⟩ := hrel
            have hB0 : Below w.heap.size w wr := ((Below.refl _ _).alloc (Nat.le_refl _) _).trans (hB.mono (Nat.le_succ _))
            have hsz := hB.size
            simp only [World.size_alloc] at hsz
            have c3 : wr.cell? ⟨w.heap.size, 3, none⟩ = some (.slice ae es.length ce) := (hB.cell (p := ⟨w.heap.size, 3, none⟩) (by simp)).trans (by simp [go_sem])
            have HQ := Lib.hid hO2
            have Hinc2 := Lib.hid hinc2
            obtain ⟨aq, cq, rfl, hO'⟩ := hO2
            clear hO' hinc2
            by_cases hltj : j < es.length
            · obtain ⟨b, off, rfl, d0, d1, d2⟩ := hre.at_edge j hltj
              have Hd : Hid ((es.drop j).foldl (fStep within evs) Q = (es.drop (j + 1)).foldl (fStep within evs) (fStep within evs Q es[j])) := by
                show _ = _
                rw [List.drop_eq_getElem_cons hltj, List.foldl_cons]
              have hbl := World.block_lt_of_cell? _ _ d0
              replace d0 := keep0 hB0 d0
              replace d1 := keep0 hB0 d1
              replace d2 := keep0 hB0 d2
              have hbl2 := World.block_lt_of_cell? _ _ d0
              dsimp only at hbl hbl2
              have Hok := Lib.hid (fStep_ok (es := es) (within := within) (evs := evs) Hinc2.out es[j] (List.getElem_mem hltj))
              generalize es[j] = x at *
              obtain ⟨xf, xe, xt⟩ := x
              dsimp only at *
              have HN : Hid (∀ Z, fStep within evs Q ⟨xf, xe, xt⟩ = Z → es.foldl (fStep within evs) P = (es.drop (j + 1)).foldl (fStep within evs) Z) := by
                intro Z hZ
                rw [hf.out, Hd.out, hZ]
              have HB2 := Lib.hid hB0
              clear hf Hd
              have hnq : Q.length ≤ 1000000 := by omega
              cases h1 : hasB Q xf with
              | false =>
                have E1 := Lib.hid h1
                have HZ := Lib.hid (HN.out Q (by unfold fStep; rw [if_neg (by rw [h1]; simp)]))
                clear h1
                go_wp2_with (go_at_call 50; refine (has_any _ Q xf _ (HQ.out.mono (by (repeat (first | with_reducible exact Below.refl _ _ | with_reducible exact hB0 | (with_reducible refine belCall ?_ hB0 (by first | omega | (simp; done) | (simp; omega) | (simp at *; omega))) | (with_reducible refine Below.alloc ?_ (by first | omega | (simp; done) | (simp; omega) | (simp at *; omega)) _) | (with_reducible refine Below.drew ?_) | (with_reducible refine Below.setCell ?_ (by first | omega | (simp; done) | (simp; omega) | (simp at *; omega)) _))))) hnq).mono ?_; rintro e w1 ⟨rfl, rfl⟩; rw [E1.out])
                go_roundw
                case rel => exact ⟨j + 1, Q, by omega, by go_num, (by (repeat (first | with_reducible exact Below.refl _ _ | with_reducible exact hB | (with_reducible refine belCall ?_ hB (by first | omega | (simp; done) | (simp; omega) | (simp at *; omega))) | (with_reducible refine Below.alloc ?_ (by first | omega | (simp; done) | (simp; omega) | (simp at *; omega)) _) | (with_reducible refine Below.drew ?_) | (with_reducible refine Below.setCell ?_ (by first | omega | (simp; done) | (simp; omega) | (simp at *; omega)) _)))), HQ.out.mono (bel_alloc _ _), Hinc2.out, hQl, HZ.out⟩
                case measure => simp [intOf]; omega
              | true =>
                have E1 := Lib.hid h1
                cases h2 : hasB within xt with
                | false =>
                  have E2 := Lib.hid h2
                  have HZ := Lib.hid (HN.out Q (by unfold fStep; rw [if_neg (by rw [h2]; simp)]))
                  clear h1 h2
                  go_wp2_with fail
                  refine (has_any _ Q xf _ (HQ.out.mono (bel_alloc _ _)) hnq).mono ?_
                  rintro e w1 ⟨rfl, rfl⟩
                  rw [E1.out]
                  go_wp2_with fail
                  refine (has_any _ within xt _ (H2.out.mono (by (repeat (first | with_reducible exact Below.refl _ _ | with_reducible exact hB0 | (with_reducible refine belCall ?_ hB0 (by first | omega | (simp; done) | (simp; omega) | (simp at *; omega))) | (with_reducible refine Below.alloc ?_ (by first | omega | (simp; done) | (simp; omega) | (simp at *; omega)) _) | (with_reducible refine Below.drew ?_) | (with_reducible refine Below.setCell ?_ (by first | omega | (simp; done) | (simp; omega) | (simp at *; omega)) _))))) hl2).mono ?_
                  rintro e w1 ⟨rfl, rfl⟩
                  rw [E2.out]
                  go_wp2_with fail
                  go_roundw
                  case rel => exact ⟨j + 1, Q, by omega, by go_num, (by (repeat (first | with_reducible exact Below.refl _ _ | with_reducible exact hB | (with_reducible refine belCall ?_ hB (by first | omega | (simp; done) | (simp; omega) | (simp at *; omega))) | (with_reducible refine Below.alloc ?_ (by first | omega | (simp; done) | (simp; omega) | (simp at *; omega)) _) | (with_reducible refine Below.drew ?_) | (with_reducible refine Below.setCell ?_ (by first | omega | (simp; done) | (simp; omega) | (simp at *; omega)) _)))), HQ.out.mono (bel_alloc _ _), Hinc2.out, hQl, HZ.out⟩
                  case measure => simp [intOf]; omega
                | true =>
                  have E2 := Lib.hid h2
                  cases h3 : hasB evs xe with
                  | false =>
                    have E3 := Lib.hid h3
                    have HZ := Lib.hid (HN.out Q (by unfold fStep; rw [if_neg (by rw [h3]; simp)]))
                    clear h1 h2 h3
                    go_wp2_with fail
                    refine (has_any _ Q xf _ (HQ.out.mono (bel_alloc _ _)) hnq).mono ?_
                    rintro e w1 ⟨rfl, rfl⟩
                    rw [E1.out]
                    go_wp2_with fail
                    refine (has_any _ within xt _ (H2.out.mono (by (repeat (first | with_reducible exact Below.refl _ _ | with_reducible exact hB0 | (with_reducible refine belCall ?_ hB0 (by first | omega | (simp; done) | (simp; omega) | (simp at *; omega))) | (with_reducible refine Below.alloc ?_ (by first | omega | (simp; done) | (simp; omega) | (simp at *; omega)) _) | (with_reducible refine Below.drew ?_) | (with_reducible refine Below.setCell ?_ (by first | omega | (simp; done) | (simp; omega) | (simp at *; omega)) _))))) hl2).mono ?_
                    rintro e w1 ⟨rfl, rfl⟩
                    rw [E2.out]
                    go_wp2_with fail
                    refine (has_any _ evs xe _ (H3.out.mono (by (repeat (first | with_reducible exact Below.refl _ _ | with_reducible exact hB0 | (with_reducible refine belCall ?_ hB0 (by first | omega | (simp; done) | (simp; omega) | (simp at *; omega))) | (with_reducible refine Below.alloc ?_ (by first | omega | (simp; done) | (simp; omega) | (simp at *; omega)) _) | (with_reducible refine Below.drew ?_) | (with_reducible refine Below.setCell ?_ (by first | omega | (simp; done) | (simp; omega) | (simp at *; omega)) _))))) hl3).mono ?_
                    rintro e w1 ⟨rfl, rfl⟩
                    rw [E3.out]
                    go_wp2_with fail
                    go_roundw
                    case rel => exact ⟨j + 1, Q, by omega, by go_num, (by (repeat (first | with_reducible exact Below.refl _ _ | with_reducible exact hB | (with_reducible refine belCall ?_ hB (by first | omega | (simp; done) | (simp; omega) | (simp at *; omega))) | (with_reducible refine Below.alloc ?_ (by first | omega | (simp; done) | (simp; omega) | (simp at *; omega)) _) | (with_reducible refine Below.drew ?_) | (with_reducible refine Below.setCell ?_ (by first | omega | (simp; done) | (simp; omega) | (simp at *; omega)) _)))), HQ.out.mono (bel_alloc _ _), Hinc2.out, hQl, HZ.out⟩
                    case measure => simp [intOf]; omega
                  | true =>
                    have E3 := Lib.hid h3
                    have HE : Hid (fStep within evs Q ⟨xf, xe, xt⟩ = addL Q xt) := by
                      show _ = _
                      unfold fStep; rw [if_pos ⟨h1, h2, h3⟩]
                    have HZ := Lib.hid (HN.out (addL Q xt) HE.out)
                    have hok := Hok.out
                    rw [HE.out] at hok
                    have hql2 : (addL Q xt).length + news es (addL Q xt) ≤ start.length + es.length := Nat.le_trans hok.2.1 hQl
                    clear h1 h2 h3 hok
                    go_wp2_with fail
                    refine (has_any _ Q xf _ (HQ.out.mono (bel_alloc _ _)) hnq).mono ?_
                    rintro e w1 ⟨rfl, rfl⟩
                    rw [E1.out]
                    go_wp2_with fail
                    refine (has_any _ within xt _ (H2.out.mono (by (repeat (first | with_reducible exact Below.refl _ _ | with_reducible exact hB0 | (with_reducible refine belCall ?_ hB0 (by first | omega | (simp; done) | (simp; omega) | (simp at *; omega))) | (with_reducible refine Below.alloc ?_ (by first | omega | (simp; done) | (simp; omega) | (simp at *; omega)) _) | (with_reducible refine Below.drew ?_) | (with_reducible refine Below.setCell ?_ (by first | omega | (simp; done) | (simp; omega) | (simp at *; omega)) _))))) hl2).mono ?_
                    rintro e w1 ⟨rfl, rfl⟩
                    rw [E2.out]
                    go_wp2_with fail
                    refine (has_any _ evs xe _ (H3.out.mono (by (repeat (first | with_reducible exact Below.refl _ _ | with_reducible exact hB0 | (with_reducible refine belCall ?_ hB0 (by first | omega | (simp; done) | (simp; omega) | (simp at *; omega))) | (with_reducible refine Below.alloc ?_ (by first | omega | (simp; done) | (simp; omega) | (simp at *; omega)) _) | (with_reducible refine Below.drew ?_) | (with_reducible refine Below.setCell ?_ (by first | omega | (simp; done) | (simp; omega) | (simp at *; omega)) _))))) hl3).mono ?_
                    rintro e w1 ⟨rfl, rfl⟩
                    rw [E3.out]
                    go_wp2_with fail
                    refine (add_any _ Q xt _ (HQ.out.mono (bel_alloc _ _)) hnq).mono ?_
                    rintro e w1 ⟨v1, rfl, hr1, hb1⟩
                    have Hr1 := Lib.hid hr1
                    obtain ⟨a1, c1, rfl, hr1'⟩ := hr1
                    have hB1 : Below (w.heap.size + 1) (w.alloc (.cells #[.slice aa al.length ca, .int .i64 n, .slice am ms.length cm, .slice (some ⟨b, off, none⟩) es.length ce] 31)) w1 := (hB.alloc (by omega) _).trans (hb1.mono (by simp; omega))
                    clear hr1' hb1
                    go_wp2_with fail
                    go_roundw
                    case rel => exact ⟨j + 1, addL Q xt, by omega, by go_num, hB1, Hr1.out, addL_inc Hinc2.out _, hql2, HZ.out⟩
                    case measure => simp [intOf]; omega
            · have HF : Hid (es.foldl (fStep within evs) P = Q) := by
                show _ = _
                rw [hf.out, show j = es.length by omega, List.drop_length]; rfl
              have Hok := Lib.hid (fFold_ok (es := es) (within := within) (evs := evs) es Hinc.out (fun _ h => h))
              clear hf
              go_wp2_with fail
              go_roundg (if (P.length : Int) = (Q.length : Int) then 0 else news es Q + 1)
              case measure =>
                rw [Hgk2.out]
                have h5 := Hok.out
                rw [HF.out] at h5
                split <;> omega
              case rel =>
                have h5 := Hok.out
                rw [HF.out] at h5
                obtain ⟨f', rfl⟩ : ∃ f', f = f' + 1 := ⟨f - 1, by omega⟩
                refine ⟨Q, P.length, if (P.length : Int) = (Q.length : Int) then news es Q + 1 else f', rfl, hB, HQ.out, Hinc2.out, hQl, ?_, ?_, by omega, by omega, rfl⟩
                · show _ = _
                  rw [HR2.out, fLoop, HF.out]
                  by_cases e : P.length = Q.length
                  · rw [if_pos e.symm, if_pos (by omega)]
                  · rw [if_neg (fun h => e h.symm), if_neg (by omega), if_neg (by omega)]
                · split <;> omega
end Go.Proofs.Ythchkddhibhenaa
