/- Parts of the proof, without what nothing here names. -/
import Derived.Deep.DeepCutAuto
import Derived.Deep.LoopGhost
import Derived.Test.YtfbapajcheammaaDoorProg
import Derived.Test.YtfbapajcheammaaDoorQV2
namespace Go.Proofs.YtfbapajcheammaaDoor
open Go Go.RowKit
/-- An append where there is room: one cell of the block turns. -/
theorem run_append_at {P : Program} {w : World} {B k A : Nat} {tag : Nat → Nat} (ty tt e : TypeId) (i : TypeInfo) (ht : P.underlying tt = some (.slice e)) (hi : P.info? e = some i) (hsize : i.size = 1) {cs : Array Value} (ho : Own w B tag k A cs e)
    (o n cap : Nat) (ad : Addr) (c : Nat) (x : Value) (hx : w.cell? ad = some x) (h1 : x.oneCell' = true) (hroom : n + 1 ≤ cap) (hfit : o + n + 1 ≤ cs.size) :
    ∃ w', (Builtin.append_ #[tt, tt] ty #[.slice (some ⟨A, o, none⟩) n cap, .slice (some ad) 1 c]).run P w = .ok (.slice (some ⟨A, o, none⟩) (n + 1) cap) w' ∧ Own w' B tag k A (cs.setIfInBounds (o + n) x) e ∧ Turn B tag tag k w w' := by
  have hst := run_storeCells_at P A (o + n) e [x] 0 cs w ho.heap (by simpa using hfit) (by simpa using h1)
  have hf := run_firstCells_some (P := P) w i.size 1 ad 1 c [x] (by simp [hsize]) (fun j u hj => by
    match j, hj with
    | 0, hj => simp at hj; subst hj; simpa [Addr.add] using hx)
  simp only [Nat.add_zero] at hst
  have he : (cs.toList.take (o + n) ++ [x] ++ cs.toList.drop (o + n + [x].length)).toArray = cs.setIfInBounds (o + n) x := by
    apply Array.toList_inj.1
    rw [Array.toList_setIfInBounds, List.set_eq_take_append_cons_drop, if_pos (by rw [Array.length_toList]; omega)]
    simp
  rw [he] at hst
  refine ⟨w.setRow A (cs.setIfInBounds (o + n) x), ?_, ⟨setRow_heap w A cs _ e _ ho.heap, ho.htag, ho.base⟩, ⟨rfl, rfl, rfl, by simp, fun _ _ => rfl, fun b' _ hne => setRow_other w A b' _ ?_, fun b' o hb' hc => (setRow_other w A b' _ ?_).trans hb'⟩⟩
  · rw [hsize] at hf
    simp [Builtin.append_, run_underlying ht, sizeOf, typeInfo, hi, Builtin.lenOf, hroom, hf, hsize, Addr.add_lit, hst]
  · rintro rfl
    rcases hne with h2 | h2
    · exact absurd ho.base (Nat.not_le.2 h2)
    · exact h2 ho.htag
  · rintro rfl
    rw [ho.heap] at hb'
    cases hb'
    cases hc
theorem step_append_at {P : Program} {ops : Array Oper} {o : Oper} {a : Act} {K : Act → World → Prop} {Q : Exit → Act → World → Prop} {E : Prop}
    {w : World} {B k A : Nat} {tag : Nat → Nat} (hgd : o.guard = none) (s x : Operand) (tt : TypeId)
    (ho : o.op = .call { callee := .builtin .append, args := #[s, x], argTypes := #[tt, tt] })
    (e : TypeId) (i : TypeInfo) (ht : P.underlying tt = some (.slice e)) (hi : P.info? e = some i) (hsize : i.size = 1) {cs : Array Value} (hown : Own w B tag k A cs e)
    (off n cap : Nat) (ad : Addr) (c : Nat) (u : Value) (hs : a.eval s = .slice (some ⟨A, off, none⟩) n cap) (hx : a.eval x = .slice (some ad) 1 c) (hu : w.cell? ad = some u) (h1 : u.oneCell' = true) (hroom : n + 1 ≤ cap) (hfit : off + n + 1 ≤ cs.size)
    (h : ∀ w', Own w' B tag k A (cs.setIfInBounds (off + n) u) e → Turn B tag tag k w w' → K (a.put o.dst (.slice (some ⟨A, off, none⟩) (n + 1) cap)) w') :
    if Region.wanted o (yielded ops a.tmps) = true then Oper.wp P o a w K Q else E := by
  have hw : Region.wanted o (yielded ops a.tmps) = true := by simp [Region.wanted, hgd]
  rw [if_pos hw]
  obtain ⟨w', hrun, h2, h3⟩ := run_append_at (P := P) (w := w) o.type tt e i ht hi hsize hown off n cap ad c u hu h1 hroom hfit
  unfold Oper.wp
  simp [execOp, ho, resolve, invoke, builtin, hs, hx, hrun, Result.andThen]
  exact h w' h2 h3
/-- What holds while into runs: the automaton's box, the counts. -/
structure NInv (w : World) (G : Array Value) (n : Nat) (wr : World) (tag : Nat → Nat) (C : Nat) (L : List Int) : Prop where
  below : Below w.heap.size w wr
  g : Own wr w.heap.size tag 0 w.heap.size G 34
  cnt : Row wr w.heap.size tag 1 3 1 (.slice (some ⟨C, 0, none⟩) (n + 1) (n + 1)) (n + 1) (ints L)
section
variable {w : World} {G : Array Value} {n : Nat} {wr wr' : World} {tag tag' : Nat → Nat} {C : Nat} {L : List Int}
theorem NInv.turn {k : Nat} (h : NInv w G n wr tag C L) (ht : Turn w.heap.size tag tag' k wr wr') (h1 : 1 < k) : NInv w G n wr' tag' C L :=
  ⟨belTurn h.below ht h.below.size, h.g.turn ht (by omega), h.cnt.turn ht (by omega)⟩
theorem NInv.new (h : NInv w G n wr tag C L) (o : Obj) (kk : Nat) : NInv w G n (wr.alloc o) (tagUp tag wr.heap.size kk) C L := by
  have hb := bel_alloc wr o
  have ht : Turn w.heap.size tag (tagUp tag wr.heap.size kk) 9 wr (wr.alloc o) := { Turn.below (B := w.heap.size) (tag := tag) (k := 9) hb with tags := fun b hb => tagUp_lt hb }
  exact h.turn ht (by decide)
theorem NInv.call (h : NInv w G n wr tag C L) (hb : Below wr.heap.size wr wr') : NInv w G n wr' tag C L :=
  ⟨belCall h.below hb h.below.size, h.g.below hb, h.cnt.below hb⟩
/-- One count set. -/
theorem NInv.put (h : NInv w G n wr tag C L) (j : Nat) (x : Int) : NInv w G n (wr.setCell ⟨C, j, none⟩ (.int .i64 x)) tag C (L.set j x) := by
  have h1 := h.cnt.set j (.int .i64 x)
  rw [Nat.zero_add] at h1
  refine ⟨belTurn h.below h1.2 h.below.size, h.g.turn h1.2 (by decide), ?_⟩
  have := h1.1
  rwa [show (ints L).set j (.int .i64 x) = ints (L.set j x) from by simp [ints, List.map_set]] at this
theorem NInv.at (h : NInv w G n wr tag C L) (j : Nat) (hj : j < L.length) : wr.cell? ⟨C, j, none⟩ = some (.int .i64 L[j]) := by
  have hl : L.length = n + 1 := by have := h.cnt.1; simpa using this
  have := h.cnt.cellAt j (by omega)
  rw [Nat.zero_add, List.getElem?_map, List.getElem?_eq_getElem hj] at this
  exact this
end
/-- What out[s] is where the edges fs have been entered. -/
def segV (es : List Ed) (A : Nat) (fs : List Ed) (s : Nat) : Value := .slice (some ⟨A, if offs es (s + 1) = offs es s then 0 else offs es s, none⟩) (inL fs s).length (offs es (s + 1) - offs es s)
theorem inL_len (es : List Ed) (s : Nat) : (inL es s).length = offs es (s + 1) - offs es s := by
  rw [offs_succ, Nat.add_sub_cancel_left, inL, List.length_map, ← List.countP_eq_length_filter]
  congr 1
  funext x
  congr 1
  apply propext
  omega
theorem inL_app (es fs : List Ed) (s : Nat) : inL (es ++ fs) s = inL es s ++ inL fs s := by simp [inL]
def ivsA (es : List Ed) (A n k : Nat) : List Value := (List.range n).map fun s => if s < k then segV es A [] s else .slice none 0 0
theorem ivsA_next {es : List Ed} {A n k : Nat} (hk : k < n) : ivsA es A n (k + 1) = (ivsA es A n k).set k (segV es A [] k) := by
  apply List.ext_getElem
  · simp [ivsA]
  · intro i h1 h2
    rw [List.getElem_set]
    simp only [ivsA, List.getElem_map, List.getElem_range]
    by_cases e : k = i
    · subst e; rw [if_pos (by omega), if_pos rfl]
    · rw [if_neg e]
      by_cases e2 : i < k
      · rw [if_pos (by omega), if_pos e2]
      · rw [if_neg (by omega), if_neg e2]
def ivsB (es : List Ed) (A n : Nat) (fs : List Ed) : List Value := (List.range n).map (segV es A fs)
theorem ivsA_all (es : List Ed) (A n : Nat) : ivsA es A n n = ivsB es A n [] := by
  apply List.map_congr_left
  intro s hs
  rw [if_pos (List.mem_range.1 hs)]
theorem ivsB_next {es fs : List Ed} {A n t : Nat} {x : Ed} (hx : x.t = (t : Int)) (ht : t < n) : ivsB es A n (fs ++ [x]) = (ivsB es A n fs).set t (.slice (some ⟨A, if offs es (t + 1) = offs es t then 0 else offs es t, none⟩) ((inL fs t).length + 1) (offs es (t + 1) - offs es t)) := by
  apply List.ext_getElem
  · simp [ivsB]
  · intro i h1 h2
    rw [List.getElem_set]
    simp only [ivsB, List.getElem_map, List.getElem_range]
    by_cases e : t = i
    · subst e; rw [if_pos rfl, segV, inL_same fs x t hx, List.length_append]; rfl
    · rw [if_neg e, segV, segV, inL_other fs x i (by omega)]
/-- The cells of the block that all lists share. -/
def Seg (es : List Ed) (n : Nat) (fs : List Ed) (cur : Array Value) : Prop := ∀ s, s < n → ∀ j (h : j < (inL fs s).length), cur[offs es s + j]? = some (.int .i64 (inL fs s)[j])
theorem Seg.push {es fs gs : List Ed} {n t : Nat} {x : Ed} {cur : Array Value} (h : Seg es n fs cur) (he : es = fs ++ x :: gs) (hx : x.t = (t : Int)) (ht : t < n) (hc : es.length ≤ cur.size) :
    Seg es n (fs ++ [x]) (cur.setIfInBounds (offs es t + (inL fs t).length) (.int .i64 x.f)) := by
  have hle : ∀ s, (inL (fs ++ [x]) s).length ≤ offs es (s + 1) - offs es s := by
    intro s
    rw [← inL_len, he, show fs ++ x :: gs = (fs ++ [x]) ++ gs by simp, inL_app (fs ++ [x]), List.length_append]
    omega
  have hlt : (inL fs t).length < offs es (t + 1) - offs es t := by
    have := hle t
    rw [inL_same fs x t hx, List.length_append] at this
    simp at this; omega
  have hsz : offs es t + (inL fs t).length < cur.size := by
    have := offs_le es (t + 1)
    omega
  intro s hs j hj
  by_cases e : s = t
  · subst e
    have h2 := inL_same fs x s hx
    simp only [h2] at hj ⊢
    by_cases e2 : j = (inL fs s).length
    · subst e2
      rw [Array.getElem?_setIfInBounds_self_of_lt hsz]
      simp
    · have hj' : j < (inL fs s).length := by rw [List.length_append] at hj; simp at hj; omega
      rw [Array.getElem?_setIfInBounds_ne (by omega), h s hs j hj', List.getElem_append_left hj']
  · have h2 := inL_other fs x s (by omega)
    have hj2 := hle s
    simp only [h2] at hj hj2 ⊢
    rw [Array.getElem?_setIfInBounds_ne ?_, h s hs j hj]
    rcases Nat.lt_or_gt_of_ne e with g | g
    · have := offs_mono (es := es) (show s + 1 ≤ t by omega)
      omega
    · have := offs_mono (es := es) (show t + 1 ≤ s by omega)
      omega
/-- Behind the three makes: all that holds while into fills its lists. -/
structure FInv (w : World) (G : Array Value) (n : Nat) (es : List Ed) (A O : Nat) (wr : World) (tag : Nat → Nat) (ivs : List Value) (fs : List Ed) : Prop where
  inv : NInv w G n wr tag (w.heap.size + 1) (curL es n n)
  out : Row wr w.heap.size tag 3 31 1 (.slice (some ⟨O, 0, none⟩) n n) n ivs
  all : ∃ cur, Own wr w.heap.size tag 2 A cur 3 ∧ es.length ≤ cur.size ∧ Seg es n fs cur
section
variable {w : World} {G : Array Value} {n : Nat} {es fs : List Ed} {A O : Nat} {wr wr' : World} {tag tag' : Nat → Nat} {ivs : List Value}
theorem FInv.turn {k : Nat} (h : FInv w G n es A O wr tag ivs fs) (ht : Turn w.heap.size tag tag' k wr wr') (h1 : 3 < k) : FInv w G n es A O wr' tag' ivs fs := by
  obtain ⟨cur, g1, g2, g3⟩ := h.all
  exact ⟨h.inv.turn ht (by omega), h.out.turn ht (by omega), cur, g1.turn ht (by omega), g2, g3⟩
theorem FInv.call (h : FInv w G n es A O wr tag ivs fs) (hb : Below wr.heap.size wr wr') : FInv w G n es A O wr' tag ivs fs := by
  obtain ⟨cur, g1, g2, g3⟩ := h.all
  exact ⟨h.inv.call hb, h.out.below hb, cur, g1.below hb, g2, g3⟩
theorem FInv.new (h : FInv w G n es A O wr tag ivs fs) (o : Obj) (kk : Nat) : FInv w G n es A O (wr.alloc o) (tagUp tag wr.heap.size kk) ivs fs := by
  have hb := bel_alloc wr o
  have ht : Turn w.heap.size tag (tagUp tag wr.heap.size kk) 9 wr (wr.alloc o) := { Turn.below (B := w.heap.size) (tag := tag) (k := 9) hb with tags := fun b hb => tagUp_lt hb }
  exact h.turn ht (by decide)
/-- A slot of out set. -/
theorem FInv.put (h : FInv w G n es A O wr tag ivs fs) (j : Nat) (v : Value) : FInv w G n es A O (wr.setCell ⟨O, j, none⟩ v) tag (ivs.set j v) fs := by
  obtain ⟨cur, g1, g2, g3⟩ := h.all
  have h1 := h.out.set j v
  rw [Nat.zero_add] at h1
  exact ⟨h.inv.turn h1.2 (by decide), h1.1, cur, g1.turn h1.2 (by decide), g2, g3⟩
theorem FInv.slot (h : FInv w G n es A O wr tag ivs fs) (j : Nat) (hj : j < n) {v : Value} (hv : ivs[j]? = some v) : wr.cell? ⟨O, j, none⟩ = some v := by
  have := h.out.cellAt j (by omega)
  rwa [Nat.zero_add, hv] at this
end
/-- One edge entered. -/
theorem FInv.push {w : World} {G : Array Value} {n : Nat} {es fs gs : List Ed} {A O : Nat} {wr wr' : World} {tag : Nat → Nat} {x : Ed} {t : Nat} {cur : Array Value} (h : FInv w G n es A O wr tag (ivsB es A n fs) fs) (he : es = fs ++ x :: gs) (hx : x.t = (t : Int)) (ht : t < n)
    (hs : es.length ≤ cur.size) (hg : Seg es n fs cur) (ho : Own wr' w.heap.size tag 2 A (cur.setIfInBounds (offs es t + (inL fs t).length) (.int .i64 x.f)) 3) (hT : Turn w.heap.size tag tag 2 wr wr') (hne : ¬ offs es (t + 1) = offs es t) :
    FInv w G n es A O (wr'.setCell ⟨O, t, none⟩ (.slice (some ⟨A, offs es t, none⟩) ((inL fs t).length + 1) (offs es (t + 1) - offs es t))) tag (ivsB es A n (fs ++ [x])) (fs ++ [x]) := by
  have h1 : FInv w G n es A O wr' tag (ivsB es A n fs) (fs ++ [x]) := ⟨h.inv.turn hT (by decide), h.out.turn hT (by decide), _, ho, by simpa using hs, hg.push he hx ht hs⟩
  have h2 := h1.put t (.slice (some ⟨A, offs es t, none⟩) ((inL fs t).length + 1) (offs es (t + 1) - offs es t))
  rw [ivsB_next hx ht, if_neg hne]
  exact h2
theorem room_at {es fs gs : List Ed} {x : Ed} {t : Nat} (he : es = fs ++ x :: gs) (hx : x.t = (t : Int)) : (inL fs t).length + 1 ≤ offs es (t + 1) - offs es t := by
  rw [← inL_len, he, show fs ++ x :: gs = (fs ++ [x]) ++ gs by simp, inL_app (fs ++ [x]), List.length_append, inL_same fs x t hx, List.length_append]
  simp
/-- What into hands back: a list of the lists of what leads into each state. -/
def IntoPost (B n : Nat) (es : List Ed) (u : Value) (w' : World) : Prop :=
  ∃ O ivs, u = .slice (some ⟨O, 0, none⟩) n n ∧ B ≤ O ∧ RdS w' 1 (some ⟨O, 0, none⟩) n n ivs ∧ ∀ s, s < n → ∃ a c, ivs[s]? = some (.slice a (inL es s).length c) ∧ RdS w' 1 a (inL es s).length c (ints (inL es s)) ∧ ∀ ad, a = some ad → B ≤ ad.block
theorem FInv.post {w : World} {G : Array Value} {n : Nat} {es : List Ed} {A O : Nat} {wr : World} {tag : Nat → Nat} (h : FInv w G n es A O wr tag (ivsB es A n es) es) (hl : es.length ≤ 1000000) :
    IntoPost w.heap.size n es (.slice (some ⟨O, 0, none⟩) n n) wr := by
  have hO : w.heap.size ≤ O := by
    rcases h.out.2 with ⟨g, _⟩ | ⟨b, off, cap, cur, g1, g2, _⟩
    · cases g
    · cases g1; exact g2.base
  obtain ⟨a, c, e1, e2⟩ := h.out.rd
  cases e1
  obtain ⟨cur, g1, g2, g3⟩ := h.all
  refine ⟨O, _, rfl, hO, e2, fun s hs => ⟨_, _, by rw [ivsB, List.getElem?_map, List.getElem?_range hs, Option.map_some, segV], ⟨by simp, Nat.le_of_eq (inL_len es s), by have := offs_le es (s + 1); unfold maxLen; omega, fun e => (by cases e), fun ad e => by cases e; rfl, fun ad e j hj => ?_⟩, fun ad e => by cases e; exact g1.base⟩⟩
  cases e
  have hj' : j < (inL es s).length := by simpa using hj
  have hne : ¬ offs es (s + 1) = offs es s := by have := inL_len es s; omega
  rw [if_neg hne]
  have := g1.cell (offs es s + j)
  rw [g3 s hs j hj'] at this
  rw [this, List.getElem_map]
theorem Tryd.ninfo_int : (Tryd.prog.info? 3).map (fun i => (i.zero, i.size, i.bytes)) = some (some (.int .i64 0), 1, 8) := by kernel_rfl
theorem Tryd.ninfo_ints : (Tryd.prog.info? 31).map (fun i => (i.zero, i.size, i.bytes)) = some (some (.slice none 0 0), 1, 24) := by kernel_rfl
set_option maxRecDepth 100000 in
set_option maxHeartbeats 4000000 in
theorem into_any (aa am ae : Option Addr) (la lm ca cm ce : Nat) (n ne : Nat) (es : List Ed) (w : World) (hne : ne = es.length) (hre : RdS w 3 ae es.length ce (edCells es)) (hl : es.length ≤ 1000000) (hn : n ≤ 1000000)
    (hit : ∀ x ∈ es, 0 ≤ x.t ∧ x.t < n) :
    Calls Tryd.prog 52 #[.agg #[.slice aa la ca, .int .i64 n, .slice am lm cm, .slice ae ne ce]] w (Ret w (IntoPost w.heap.size n es)) := by
  subst hne
  obtain ⟨i0, hi, hz0, hz1, hz2⟩ := info_parts Tryd.ninfo_ints
  obtain ⟨i1, hi1, hy0, hy1, hy2⟩ := info_parts Tryd.ninfo_int
  have Hit := Lib.hid hit
  clear hit
  go_enter Tryd.func52, Tryd.ntmps52
  have hI0 : ∀ w3 : World, w3.ownsRow (w.heap.size + 1) 3 1 (.slice (some ⟨w.heap.size + 1, 0, none⟩) (n + 1) (n + 1)) (n + 1) (madeCells (Value.int .i64 0).cells ((n + 1) * 1)).toList → (w.alloc (.cells #[.slice aa la ca, .int .i64 n, .slice am lm cm, .slice ae es.length ce] 34)).grownBy w3 none →
      NInv w #[.slice aa la ca, .int .i64 n, .slice am lm cm, .slice ae es.length ce] n w3 (fun b => if b = w.heap.size then 0 else 1) (w.heap.size + 1) (curL [] n 0) := by
    intro w3 hown3 hgrow3
    have hb3 : Below (w.alloc (.cells #[.slice aa la ca, .int .i64 n, .slice am lm cm, .slice ae es.length ce] 34)).heap.size _ w3 := Below.grown (Below.refl _ _) hgrow3 (Nat.le_refl _) (fun k e => (by cases e))
    refine ⟨((Below.refl _ w).alloc (Nat.le_refl _) _).trans (hb3.mono (by simp)), (Own.new w w.heap.size (fun b => if b = w.heap.size then 0 else 1) 0 _ _ (Nat.le_refl _) (if_pos rfl)).below hb3, Row.of_own (B' := w.heap.size + 1) ?_ (by omega) (fun b hb _ => if_neg (by omega))⟩
    rw [curL_nil]
    simpa [Value.cells, toList_madeCells_one] using hown3
  go_wp2_with (at_make; refine wpList_make_full _ rfl _ _ 31 rfl (w.heap.size + 1) 3 i1 (.int .i64 0) 1 Tryd.underlying31 hi1 hy0 hy1 .i64 .i64 _ _ (n + 1) rfl rfl (by first | rfl | omega) (by first | rfl | omega) (by rw [hy2]; omega) (by unfold maxLen; omega) (by simp) ?_; intro w3 hown3 hgrow3; have hI := hI0 w3 (by simpa using hown3) hgrow3; have e3 := hI.g.cell 3; have e1 := hI.g.cell 1; clear hI0 hown3 hgrow3)
  go_loopw [19] (fun j wr => ∃ (k : Nat) (tag : Nat → Nat), k ≤ es.length ∧ j = .int .i64 k ∧ NInv w #[.slice aa la ca, .int .i64 n, .slice am lm cm, .slice ae es.length ce] n wr tag (w.heap.size + 1) (curL (es.take k) n 0)) (fun j _ => es.length - (intOf j).toNat)
  case atStart => exact ⟨0, _, Nat.zero_le _, rfl, hI⟩
  case round =>
    clear hI e3 e1
    obtain ⟨k, tag, hk, rfl, hI⟩ := hrel
    by_cases hlt : k < es.length
    · obtain ⟨b, off, rfl, c0, c1, c2⟩ := hre.at_edge k hlt
      obtain ⟨hx2, hx3⟩ := Hit.out es[k] (List.getElem_mem hlt)
      replace c0 := keep0 hI.below c0
      replace c1 := keep0 hI.below c1
      replace c2 := keep0 hI.below c2
      have hbl := World.block_lt_of_cell? wr _ c0
      obtain ⟨t, ht⟩ := Int.eq_ofNat_of_zero_le hx2
      have htn : t < n := by omega
      have hts := curL_snoc (es := es.take k) (n := n) ht htn (fun y hy => (Hit.out y (List.mem_of_mem_take hy)).1)
      rw [← take_snoc es k hlt] at hts
      have hcl := curL_len (es.take k) n 0
      have Hts := Lib.hid hts
      clear hts
      rw [ht] at c2
      clear ht hx2 hx3
      have hI2 := hI.new (.cells #[.int .i64 es[k].f, .int .i64 es[k].e, .int .i64 t] 58) 5
      have hO := hI2.g
      have hzl := hI.g.lt
      have d0 := hI2.at (t + 1) (by omega)
      have d1 := hI2.cnt.frozenAt (t + 1)
      have hpt := hI2.put (t + 1) ((curL (es.take k) n 0)[t + 1]'(by omega) + 1)
      obtain ⟨y, hy⟩ : ∃ y, (curL (es.take k) n 0)[t + 1]'(by omega) = y := ⟨_, rfl⟩
      have hyb : 0 ≤ y ∧ y ≤ 1000000 := by
        rw [← hy, curL_get (by omega), if_neg (by omega)]
        have := List.countP_le_length (p := fun x : Ed => decide (x.t + 1 = ((t + 1 : Nat) : Int))) (l := es.take k)
        have := List.length_take_le k es
        omega
      have Hy := Lib.hid hy
      rw [hy] at d0 hpt
      clear hy
      have Hpt := Lib.hid hpt
      clear hpt hI hI2 hO
      go_wp2_with fail
      go_roundw
      case rel => exact ⟨k + 1, _, by omega, by go_num, by rw [Hts.out, Hy.out]; exact Hpt.out⟩
      case measure => simp [intOf]; omega
    · obtain rfl : k = es.length := by omega
      rw [List.take_length] at hI
      have e1 := hI.g.cell 1
      have hzl := hI.g.lt
      go_wp2_with fail
      clear e1
      go_loopw [34] (fun j wr => ∃ (k : Nat), k ≤ n ∧ j = .int .i64 k ∧ NInv w #[.slice aa la ca, .int .i64 n, .slice am lm cm, .slice ae es.length ce] n wr tag (w.heap.size + 1) (curL es n k)) (fun j _ => n - (intOf j).toNat)
      case atStart => exact ⟨0, Nat.zero_le _, rfl, hI⟩
      case round =>
        clear hI hzl
        obtain ⟨k, hk, rfl, hI⟩ := hrel
        have hcl := curL_len es n k
        by_cases hkn : k < n
        · have d0 := hI.at k (by omega)
          have d1 := hI.at (k + 1) (by omega)
          have d2 := hI.cnt.frozenAt (k + 1)
          have hadd := curL_add (es := es) hkn
          have hpt := hI.put (k + 1) ((curL es n k)[k + 1]'(by omega) + (curL es n k)[k]'(by omega))
          rw [← hadd] at hpt
          have hy0 : 0 ≤ (curL es n k)[k]'(by omega) ∧ (curL es n k)[k]'(by omega) ≤ 1000000 := by
            rw [curL_get (by omega), if_pos (Nat.le_refl _)]
            have := offs_le es k
            omega
          have hy1 : 0 ≤ (curL es n k)[k + 1]'(by omega) ∧ (curL es n k)[k + 1]'(by omega) ≤ 1000000 := by
            rw [curL_get (by omega), if_neg (by omega)]
            have := List.countP_le_length (p := fun x : Ed => decide (x.t + 1 = ((k + 1 : Nat) : Int))) (l := es)
            omega
          generalize (curL es n k)[k]'(by omega) = y0 at *
          generalize (curL es n k)[k + 1]'(by omega) = y1 at *
          have Hpt := Lib.hid hpt
          clear hpt hI hadd
          go_wp2_with fail
          go_region
          all_goals go_wp2_with fail
          all_goals go_roundw
          case rel => exact ⟨k + 1, by omega, by go_num, Hpt.out.call (bel_drew _)⟩
          case measure => simp [intOf]; omega
        · obtain rfl : n = k := by omega
          have e3 := hI.g.cell 3
          have e1 := hI.g.cell 1
          have hzl := hI.g.lt
          go_wp2_with (at_make; first
            | (refine wpList_make_full _ rfl _ _ 31 rfl wr.heap.size 3 i1 (.int .i64 0) 1 Tryd.underlying31 hi1 hy0 hy1 .i64 .i64 _ _ es.length rfl rfl (by first | rfl | omega) (by first | rfl | omega) (by rw [hy2]; omega) (by unfold maxLen; omega) (Nat.le_refl _) ?_
               intro w3 hown3 hgrow3
               have hb3 : Below wr.heap.size wr w3 := Below.grown (Below.refl _ _) hgrow3 (Nat.le_refl _) (fun k e => (by cases e))
               replace e1 := keep0 hb3 e1
               replace e3 := keep0 hb3 e3
               have hgt := hb3.size)
            | (refine wpList_make_full _ rfl _ _ 35 rfl w3.heap.size 31 i0 (.slice none 0 0) 1 Tryd.underlying35 hi hz0 hz1 .i64 .i64 _ _ n rfl rfl (by first | rfl | omega) (by first | rfl | omega) (by rw [hz2]; omega) (by unfold maxLen; omega) (Nat.le_refl _) ?_
               intro w5 hown5 hgrow5))
          obtain ⟨tag2, hI2, hA⟩ : ∃ tag2, NInv w #[.slice aa la ca, .int .i64 n, .slice am lm cm, .slice ae es.length ce] n w3 tag2 (w.heap.size + 1) (curL es n n) ∧ ∃ cur, Own w3 w.heap.size tag2 2 wr.heap.size cur 3 ∧ es.length ≤ cur.size := by
            have ht : Turn w.heap.size tag (fun b => if b < wr.heap.size then tag b else 2) 9 wr w3 := { Turn.below (B := w.heap.size) (tag := tag) (k := 9) hb3 with tags := fun b hb => if_pos hb }
            refine ⟨_, hI.turn ht (by decide), ?_⟩
            have hR : Row w3 w.heap.size (fun b => if b < wr.heap.size then tag b else 2) 2 3 1 (.slice (some ⟨wr.heap.size, 0, none⟩) es.length es.length) es.length _ := Row.of_own (B' := wr.heap.size) hown3 hI.below.size (fun b hb _ => if_neg (by omega))
            rcases hR.2 with ⟨g, _⟩ | ⟨b, off, cap, cur, g1, g2, g3, g4, g5, _⟩
            · cases g
            · cases g1
              exact ⟨cur, g2, by omega⟩
          obtain ⟨tag3, hI3⟩ : ∃ tag3, FInv w #[.slice aa la ca, .int .i64 n, .slice am lm cm, .slice ae es.length ce] n es wr.heap.size w3.heap.size w5 tag3 (ivsA es wr.heap.size n 0) [] := by
            have hb5 : Below w3.heap.size w3 w5 := Below.grown (Below.refl _ _) hgrow5 (Nat.le_refl _) (fun k e => (by cases e))
            have ht : Turn w.heap.size tag2 (fun b => if b < w3.heap.size then tag2 b else 3) 9 w3 w5 := { Turn.below (B := w.heap.size) (tag := tag2) (k := 9) hb5 with tags := fun b hb => if_pos hb }
            obtain ⟨cur, g1, g2⟩ := hA
            refine ⟨_, hI2.turn ht (by decide), ?_, cur, g1.turn ht (by decide), g2, fun s hs j hj => by simp [inL] at hj⟩
            refine Row.of_own (B' := w3.heap.size) ?_ hI2.below.size (fun b hb _ => if_neg (by omega))
            have hv : ivsA es wr.heap.size n 0 = List.replicate n (.slice none 0 0) := by
              apply List.ext_getElem
              · simp [ivsA]
              · intro i h1 h2; simp [ivsA]
            rw [hv]
            simpa [Value.cells, toList_madeCells_one] using hown5
          clear hown3 hgrow3 hown5 hgrow5 e1 e3 hI hI2 hA hb3 hlt hkn hcl
          generalize wr.heap.size = A at *
          generalize w3.heap.size = O at *
          go_loopw [58] (fun j wr => ∃ (k : Nat), k ≤ n ∧ j = .int .i64 k ∧ FInv w #[.slice aa la ca, .int .i64 n, .slice am lm cm, .slice ae es.length ce] n es A O wr tag3 (ivsA es A n k) []) (fun j _ => n - (intOf j).toNat)
          case atStart => exact ⟨0, Nat.zero_le _, rfl, hI3⟩
          case round =>
            clear hI3
            obtain ⟨k, hk, rfl, hF⟩ := hrel
            by_cases hkn : k < n
            · have hcl := curL_len es n n
              have d0 := hF.inv.at k (by omega)
              have d1 := hF.inv.at (k + 1) (by omega)
              rw [curL_get (by omega), if_pos (by omega)] at d0 d1
              have d2 := hF.out.frozenAt k
              have d3 := hF.slot k hkn (v := .slice none 0 0) (by simp [ivsA, hkn])
              have hlo := offs_mono (es := es) (show k ≤ k + 1 by omega)
              have hhi := offs_le es (k + 1)
              have hpt := hF.put k (segV es A [] k)
              rw [← ivsA_next hkn] at hpt
              simp only [segV] at hpt
              generalize offs es k = lo at *
              generalize offs es (k + 1) = hi' at *
              have Hpt := Lib.hid hpt
              clear hpt hF
              by_cases he : hi' = lo
              · subst he
                go_wp2_with fail
                go_region
                all_goals go_wp2_with fail
                all_goals go_roundw
                case rel => exact ⟨k + 1, by omega, by go_num, by simpa [inL] using Hpt.out.call (bel_drew _)⟩
                case measure => simp [intOf]; omega
              · rw [if_neg he] at Hpt
                go_wp2_with fail
                go_region
                all_goals go_wp2_with fail
                all_goals go_roundw
                case rel => exact ⟨k + 1, by omega, by go_num, by simpa [inL, he] using Hpt.out.call (bel_drew _)⟩
                case measure => simp [intOf]; omega
            · obtain rfl : n = k := by omega
              rw [ivsA_all] at hF
              have e3 := hF.inv.g.cell 3
              have hzl := hF.inv.g.lt
              go_wp2_with fail
              clear e3
              go_loopw [83] (fun j wr => ∃ (k : Nat) (tag : Nat → Nat), k ≤ es.length ∧ j = .int .i64 k ∧ FInv w #[.slice aa la ca, .int .i64 n, .slice am lm cm, .slice ae es.length ce] n es A O wr tag (ivsB es A n (es.take k)) (es.take k)) (fun j _ => es.length - (intOf j).toNat)
              case atStart => exact ⟨0, _, Nat.zero_le _, rfl, hF⟩
              case round =>
                clear hF hzl
                obtain ⟨k, tag, hk, rfl, hF⟩ := hrel
                by_cases hlt : k < es.length
                · obtain ⟨b, off, rfl, c0, c1, c2⟩ := hre.at_edge k hlt
                  obtain ⟨hx2, hx3⟩ := Hit.out es[k] (List.getElem_mem hlt)
                  replace c0 := keep0 hF.inv.below c0
                  replace c1 := keep0 hF.inv.below c1
                  replace c2 := keep0 hF.inv.below c2
                  have hbl := World.block_lt_of_cell? wr _ c0
                  obtain ⟨t, ht⟩ := Int.eq_ofNat_of_zero_le hx2
                  have htn : t < n := by omega
                  have he : es = es.take k ++ es[k] :: es.drop (k + 1) := by rw [← List.drop_eq_getElem_cons hlt, List.take_append_drop]
                  have hroom := room_at he ht
                  have Ht := Lib.hid ht
                  have He := Lib.hid he
                  have hts := take_snoc es k hlt
                  have Hts := Lib.hid hts
                  clear hts he
                  rw [ht] at c2
                  clear ht hx2 hx3
                  have hF2 := hF.new (.cells #[.int .i64 es[k].f, .int .i64 es[k].e, .int .i64 t] 58) 5
                  have hOx := Own.new wr w.heap.size (tagUp tag wr.heap.size 5) 5 #[.int .i64 es[k].f, .int .i64 es[k].e, .int .i64 t] 58 hF.inv.below.size (tagUp_at _ _ _)
                  have hb2 : Below (wr.alloc (.cells #[.int .i64 es[k].f, .int .i64 es[k].e, .int .i64 t] 58)).heap.size _ ((wr.alloc (.cells #[.int .i64 es[k].f, .int .i64 es[k].e, .int .i64 t] 58)).alloc (.cells #[.int .i64 es[k].f] 3)).drew := (bel_alloc _ _).drew
                  have hF3 := hF2.call hb2
                  have hO3 := hOx.below hb2
                  obtain ⟨cur, g1, g2, g3⟩ := hF3.all
                  have hne : ¬ offs es (t + 1) = offs es t := by omega
                  have hle := offs_le es (t + 1)
                  have hiv : (ivsB es A n (es.take k))[t]? = some (.slice (some ⟨A, offs es t, none⟩) (inL (es.take k) t).length (offs es (t + 1) - offs es t)) := by rw [ivsB, List.getElem?_map, List.getElem?_range htn, Option.map_some, segV, if_neg hne]
                  have d0 := hF.slot t htn hiv
                  have hrl := hF.out.addr (by omega)
                  obtain ⟨_, _, _, e9, hrl, hrb, _⟩ := hrl
                  cases e9
                  have hrl' : w.heap.size < wr.heap.size := hF.inv.g.lt
                  have hu : ((wr.alloc (.cells #[.int .i64 es[k].f, .int .i64 es[k].e, .int .i64 t] 58)).alloc (.cells #[.int .i64 es[k].f] 3)).drew.cell? ⟨wr.heap.size + 1, 0, none⟩ = some (.int .i64 es[k].f) := by
                    have hnc := new_cells_at (w := wr.alloc (.cells #[.int .i64 es[k].f, .int .i64 es[k].e, .int .i64 t] 58)) (s := wr.heap.size + 1) [Value.int .i64 es[k].f] 3 (by simp) 0 _ rfl
                    simp only [Addr.add] at hnc
                    exact hnc
                  have hpush := fun w6 h6 h7 => hF3.push (wr' := w6) He.out Ht.out htn g2 g3 h6 h7 hne
                  generalize hlo : offs es t = lo at *
                  generalize hhi : offs es (t + 1) - lo = cp at *
                  generalize hm : (inL (es.take k) t).length = m at *
                  have Hpush := Lib.hid hpush
                  clear hpush
                  go_wp2_with fail
                  go_region_law (refine step_append_at rfl _ _ 31 rfl 3 i1 Tryd.underlying31 hi1 hy1 g1 lo m cp ⟨_, 0, none⟩ 1 (.int .i64 es[k].f) rfl rfl (by first | exact hu | simpa using hu) (by simp [Value.oneCell']) hroom (by omega) ?_; intro w6 ho6 ht6; have z2 : w6.cell? ⟨wr.heap.size, 2, none⟩ = some (.int .i64 t) := (hO3.turn ht6 (by omega)).cell 2; have z3 := (hF3.out.turn ht6 (by omega)).cellAt t (by omega); have z4 := (hF3.out.turn ht6 (by omega)).frozenAt t; rw [Nat.zero_add, hiv] at z3)
                  all_goals
                    have Hfin := Lib.hid (Hpush.out w6 ho6 ht6)
                    clear hF hF2 hF3 hOx hO3 d0 ho6 ht6 z2 z3 z4 Hpush g1 g3 hiv
                    go_wp2_with fail
                    go_roundw
                    case rel => exact ⟨k + 1, _, by omega, by go_num, by rw [Hts.out]; exact Hfin.out⟩
                    case measure => simp [intOf]; omega
                · obtain rfl : k = es.length := by omega
                  rw [List.take_length] at hF
                  go_wp2_with fail
                  go_ret
                  exact ⟨_, rfl, hF.post hl, hF.inv.below⟩
theorem cells_of {α : Type} {r : Rep α} (h1 : r.sz = 1) {s : Sig} : ∀ {cs : List Value} {xs : List α}, cs.length = xs.length → (∀ (i : Nat) (h : i < xs.length), ∃ v, cs[i]? = some v ∧ r.rd s [v] xs[i]) → Cells r s cs xs
  | [], [], _, _ => rfl
  | c :: cs, x :: xs, hl, h => by
    obtain ⟨v, h2, h3⟩ := h 0 (by simp)
    cases h2
    exact ⟨[c], cs, rfl, h3, cells_of h1 (by simpa using hl) fun i hi => by
      obtain ⟨v, h4, h5⟩ := h (i + 1) (by simpa using hi)
      exact ⟨v, by simpa using h4, by simpa using h5⟩⟩
  | [], x :: xs, hl, _ => by simp at hl
  | c :: cs, [], hl, _ => by simp at hl
/-- What blocking.into computes. -/
def m_blocking_into (p0 : AutT) : Option (List (List Int)) :=
  if p0.2.2.2.length ≤ 1000000 ∧ 0 ≤ p0.2.1 ∧ p0.2.1 ≤ 1000000 ∧ (p0.2.2.2.all fun x => decide (0 ≤ x.2.2 ∧ x.2.2 < p0.2.1)) = true then
    some ((List.range p0.2.1.toNat).map (inL (p0.2.2.2.map toEd)))
  else none
theorem m_blocking_into_c {s : Sig} {p0 : AutT} {a1 : Option Addr} {c1 : Nat} {a2 : Option Addr} {c2 : Nat} {a3 : Option Addr} {c3 : Nat} {r : List (List Int)} (_h1 : RdL (rK .i64) s a1 c1 p0.1) (_h2 : RdL (rK .i64) s a2 c2 p0.2.2.1) (h3 : RdL rEd s a3 c3 p0.2.2.2) (hm : m_blocking_into p0 = some r) :
    Calls Tryd.prog 52 #[.agg #[.slice a1 p0.1.length c1, .int .i64 p0.2.1, .slice a2 p0.2.2.1.length c2, .slice a3 p0.2.2.2.length c3]] s.w (RetS No s fun v s' => ∃ (a4 : Option Addr) (c4 : Nat), v = .slice a4 r.length c4 ∧ RdL (rL (rK .i64)) s' a4 c4 r) := by
  unfold m_blocking_into at hm
  split at hm
  · rename_i hc
    cases hm
    obtain ⟨g1, g2, g3, g4⟩ := hc
    obtain ⟨x1, n, x2, es⟩ := p0
    dsimp only at *
    obtain ⟨n, rfl⟩ : ∃ k : Nat, n = k := ⟨n.toNat, by omega⟩
    obtain ⟨ae, ce, e1, hre⟩ := h3.rdE
    rw [List.length_map] at e1
    cases e1
    have hcall := into_any a1 a2 a3 x1.length x2.length c1 c2 c3 n es.length (es.map toEd) s.w (by simp) hre (by simpa using g1) (by omega) (fun x hx => by
      obtain ⟨y, hy, rfl⟩ := List.mem_map.1 hx
      simpa [toEd] using List.all_eq_true.1 g4 y hy)
    refine hcall.mono fun en w' hh => ?_
    obtain ⟨u, rfl, ⟨O, ivs, rfl, hO, h6, h7⟩, hb⟩ := hh
    rw [Int.toNat_natCast]
    refine ⟨_, s.nw w', rfl, rfl, Sig.nw_mv hb, some ⟨O, 0, none⟩, n, by simp, ivs, by rw [List.length_map, List.length_range]; exact h6, fun ad e _ => by cases e; exact if_neg (Nat.not_lt.2 hO), ?_⟩
    refine cells_of rfl (by have := h6.hlen; simp; omega) fun i hi => ?_
    have hi' : i < n := by simpa using hi
    obtain ⟨a, c, h8, h9, h10⟩ := h7 i hi'
    refine ⟨_, h8, a, c, ?_, ints (inL (es.map toEd) i), ?_, fun ad e _ => if_neg (by have := h10 ad e; omega), ?_⟩
    · simp
    · rw [List.getElem_map, List.getElem_range]; exact h9
    · simpa using ints_cells _
  · cases hm
end Go.Proofs.YtfbapajcheammaaDoor

namespace Go.Proofs.YtfbapajcheammaaDoor
open Go Go.RowKit
theorem L.slt {α : Type} {r : Rep α} {P : Program} {Q : Exit → Act → World → Prop} {n : Nat} {e : List (Nat × Value)} {s : Sig} {ops : Array Oper} {os : List Oper} {d : Nat} {ty : TypeId} {pos : String} {af : Array Edge} {g : Option (Nat × Bool)} {T U : TypeId} {a : Option Addr} {cap : Nat} {xs : List α} {t : Nat}
    {x lo : Operand} {k' : IntKind} {j : Int} {zs : List α} {T' : TypeId} (hS : Sl P T U r.sz) (hR : RowT r s t T' a cap xs) (hw : Wt ops e g) (hx : Env.ev e x = some (.slice a xs.length cap)) (hj : Env.ev e lo = some (.int k' j)) (hz : slc xs j xs.length = some zs) (hd : Nat.blt d n = true)
    (h : ∀ a' cap', RowT r s t T' a' cap' zs → L P Q n ops os ((d, .slice a' zs.length cap') :: e) s.w) : L P Q n ops (⟨some d, .slice T x (some lo) none none, ty, pos, af, g⟩ :: os) e s.w := by
  have hz0 := hz
  obtain ⟨h0, h1, h2, rfl⟩ := slc_some hz
  have hl : ((xs.take (xs.length : Int).toNat).drop j.toNat).length = xs.length - j.toNat := by rw [List.length_drop, List.length_take]; simp
  have hzs : (xs.take (xs.length : Int).toNat).drop j.toNat = xs.drop j.toNat := by simp
  refine L.slo hS hR hw hx hj hz0 hd ?_
  rw [← hl]
  refine h _ _ ?_
  rw [hzs]
  obtain ⟨cs, g1, g2⟩ := hR
  have hlen := g1.1
  have hjm := Nat.mul_le_mul_right r.sz (show j.toNat ≤ xs.length by omega)
  have hsp : (xs.take j.toNat ++ xs.drop j.toNat) = xs := List.take_append_drop _ _
  rw [← hsp] at g2
  have hc := g2.split.2
  rw [List.length_take, Nat.min_eq_left (by omega)] at hc
  refine ⟨cs.drop (j.toNat * r.sz), ⟨by rw [List.length_drop, List.length_drop, hlen, Nat.sub_mul], ?_⟩, hc⟩
  rcases g1.2 with ⟨e1, e2⟩ | ⟨b, off, cap', cur, e1, ho, q1, q2, q3, q4⟩
  · simp only [Value.slice.injEq] at e1
    have e0 : j.toNat = 0 := by omega
    refine .inl ⟨?_, by rw [List.length_drop]; omega⟩
    rw [e1.1, e1.2.2, e0, List.length_drop, e2]
    simp
  · simp only [Value.slice.injEq] at e1
    obtain ⟨rfl, _, rfl⟩ := e1
    by_cases he : cap = j.toNat
    · have hx0 : xs.length = j.toNat := by omega
      refine .inr ⟨b, off, 0, cur, ?_, ho, ?_, by omega, by omega, ?_⟩
      · rw [if_pos he, he]; simp
      · rw [List.length_drop]; omega
      · rw [List.length_drop, hx0, Nat.sub_self, Nat.zero_mul, List.take_zero]
        exact (List.eq_nil_of_length_eq_zero (by rw [List.length_drop, hlen, hx0]; omega)).symm
    · refine .inr ⟨b, off + j.toNat * r.sz, cap - j.toNat, cur, ?_, ho, ?_, by omega, ?_, ?_⟩
      · rw [if_neg he]; simp [Addr.add_lit]
      · rw [List.length_drop]; omega
      · rw [Nat.sub_mul]
        have := Nat.mul_le_mul_right r.sz (show j.toNat ≤ cap by omega)
        omega
      · rw [List.length_drop, Nat.sub_mul, ← List.drop_drop, ← q4, List.drop_take]
theorem K1 {e : List (Nat × Value)} {t1 : Nat} {v1 : Value} (h1 : Env.get e t1 = some v1) : Kn e [(t1, v1)] := ⟨h1, trivial⟩
theorem K2 {e : List (Nat × Value)} {t1 : Nat} {v1 : Value} {t2 : Nat} {v2 : Value} (h1 : Env.get e t1 = some v1) (h2 : Env.get e t2 = some v2) : Kn e [(t1, v1), (t2, v2)] := ⟨h1, h2, trivial⟩
theorem K3 {e : List (Nat × Value)} {t1 : Nat} {v1 : Value} {t2 : Nat} {v2 : Value} {t3 : Nat} {v3 : Value} (h1 : Env.get e t1 = some v1) (h2 : Env.get e t2 = some v2) (h3 : Env.get e t3 = some v3) : Kn e [(t1, v1), (t2, v2), (t3, v3)] := ⟨h1, h2, h3, trivial⟩
theorem K4 {e : List (Nat × Value)} {t1 : Nat} {v1 : Value} {t2 : Nat} {v2 : Value} {t3 : Nat} {v3 : Value} {t4 : Nat} {v4 : Value} (h1 : Env.get e t1 = some v1) (h2 : Env.get e t2 = some v2) (h3 : Env.get e t3 = some v3) (h4 : Env.get e t4 = some v4) : Kn e [(t1, v1), (t2, v2), (t3, v3), (t4, v4)] := ⟨h1, h2, h3, h4, trivial⟩
/-- What a region has laid into a slot. -/
abbrev G (D : Nat → Bool) (e : List (Nat × Value)) (k t : Nat) (v : Value) : Prop := D k = true → Env.get e t = some v
end Go.Proofs.YtfbapajcheammaaDoor

namespace Go.Proofs.YtfbapajcheammaaDoor
open Go Go.RowKit
theorem ag34 : Ag Tryd.prog 34 4 := Ag.mk' Tryd.underlying34 rfl (by kernel_rfl)
theorem bs31 : Bs Tryd.prog 31 3 1 [.int .i64 0] := Bs.mk' Tryd.underlying31 (by kernel_rfl) (by kernel_rfl) rfl
theorem bs32 : Bs Tryd.prog 32 58 3 [.int .i64 0, .int .i64 0, .int .i64 0] := Bs.mk' Tryd.underlying32 (by kernel_rfl) (by kernel_rfl) rfl
theorem el3 : El Tryd.prog 3 1 8 := El.mk' (z := .int .i64 0) (by kernel_rfl) (by kernel_rfl) (by kernel_rfl) rfl
theorem el58 : El Tryd.prog 58 3 24 := El.mk' (z := .agg #[.int .i64 0, .int .i64 0, .int .i64 0]) (by kernel_rfl) (by kernel_rfl) (by kernel_rfl) rfl
theorem pl34 : Pl Tryd.prog 34 [(0, 1), (1, 1), (2, 1), (3, 1)] [.slice none 0 0, .int .i64 0, .slice none 0 0, .slice none 0 0] := Pl.str Tryd.underlying34 (by kernel_rfl) (by kernel_rfl)
theorem pl58 : Pl Tryd.prog 58 [(0, 1), (1, 1), (2, 1)] [.int .i64 0, .int .i64 0, .int .i64 0] := Pl.str Tryd.underlying58 (by kernel_rfl) (by kernel_rfl)
theorem zz34 : (Tryd.prog.info? 34).bind (·.zero) = some (.agg #[.slice none 0 0, .int .i64 0, .slice none 0 0, .slice none 0 0]) := by kernel_rfl
/-- What overseerlaw24.example computes. -/
noncomputable def m_overseerlaw24_example : Option (List Int × Int × List Int × (List (Int × Int × Int))) :=
  some (([0, 1, 2] : List Int), 5, ([1] : List Int), ([(0, 0, 1), (0, 1, 2), (0, 2, 4), (2, 0, 3), (3, 0, 2)] : List (Int × Int × Int)))
set_option maxRecDepth 100000 in
set_option maxHeartbeats 8000000 in
theorem m_overseerlaw24_example_c {s : Sig} {r : (List Int × Int × List Int × (List (Int × Int × Int)))} (hm : m_overseerlaw24_example = some r) :
    Calls Tryd.prog 41 #[] s.w (RetS No s fun v s' => ∃ (a1 : Option Addr) (c1 : Nat) (a2 : Option Addr) (c2 : Nat) (a3 : Option Addr) (c3 : Nat), v = .agg #[.slice a1 r.1.length c1, .int .i64 r.2.1, .slice a2 r.2.2.1.length c2, .slice a3 r.2.2.2.length c3] ∧ RdL (rK .i64) s' a1 c1 r.1 ∧ RdL (rK .i64) s' a2 c2 r.2.2.1 ∧ RdL (rP (rK .i64) (rP (rK .i64) (rK .i64))) s' a3 c3 r.2.2.2) := by
 unfold m_overseerlaw24_example at hm
 obtain ⟨N, hN, hNb⟩ := s.fresh
 have m0 : Mv (Up N No) s s := Mv.refl _ _
 refine E.entry Tryd.func41 rfl Tryd.ntmps41 rfl rfl (E.seq (E.reg (L.al (N + 0) zz34 rfl Wt.no rfl fun b4 s5 m6 bx4 => ?_)))
 replace m0 := m0.trans m6.no
 refine L.nil (X.seqN (E.seq (E.reg (L.bsE (k := 3) (cs := [.int .i64 0, .int .i64 1, .int .i64 2]) 0 bs31 (Nat.le_of_ble_eq_true rfl) Wt.no rfl rfl rfl rfl fun b7 s8 m9 bx7 => ?_))))
 replace m0 := m0.trans m9.no
 replace bx4 := bx4.mv m9 no_No
 have h7 := Bx.rdL (r := (rK .i64)) (xs := ([0, 1, 2] : List Int)) bx7 ⟨[.int .i64 0], _, rfl, rfl, ⟨[.int .i64 1], _, rfl, rfl, ⟨[.int .i64 2], _, rfl, rfl, rfl⟩⟩⟩ (Nat.le_of_ble_eq_true rfl)
 refine L.bsE (k := 1) (cs := [.int .i64 1]) 0 bs31 (Nat.le_of_ble_eq_true rfl) Wt.no rfl rfl rfl rfl fun b10 s11 m12 bx10 => ?_
 replace m0 := m0.trans m12.no
 replace h7 := h7.mono (m12.le no_No)
 replace bx4 := bx4.mv m12 no_No
 have h10 := Bx.rdL (r := (rK .i64)) (xs := ([1] : List Int)) bx10 ⟨[.int .i64 1], _, rfl, rfl, rfl⟩ (Nat.le_of_ble_eq_true rfl)
 refine L.bu (cs := [.int .i64 0, .int .i64 0, .int .i64 1]) pl58 Wt.no rfl rfl rfl (L.bu (cs := [.int .i64 0, .int .i64 1, .int .i64 2]) pl58 Wt.no rfl rfl rfl (L.bu (cs := [.int .i64 0, .int .i64 2, .int .i64 4]) pl58 Wt.no rfl rfl rfl (L.bu (cs := [.int .i64 2, .int .i64 0, .int .i64 3]) pl58 Wt.no rfl rfl rfl (L.bu (cs := [.int .i64 3, .int .i64 0, .int .i64 2]) pl58 Wt.no rfl rfl rfl (L.bsE (k := 5) (cs := [.int .i64 0, .int .i64 0, .int .i64 1, .int .i64 0, .int .i64 1, .int .i64 2, .int .i64 0, .int .i64 2, .int .i64 4, .int .i64 2, .int .i64 0, .int .i64 3, .int .i64 3, .int .i64 0, .int .i64 2]) 0 bs32 (Nat.le_of_ble_eq_true rfl) Wt.no rfl rfl rfl rfl fun b13 s14 m15 bx13 => ?_)))))
 replace m0 := m0.trans m15.no
 replace h7 := h7.mono (m15.le no_No)
 replace h10 := h10.mono (m15.le no_No)
 replace bx4 := bx4.mv m15 no_No
 have h13 := Bx.rdL (r := (rP (rK .i64) (rP (rK .i64) (rK .i64)))) (xs := ([(0, 0, 1), (0, 1, 2), (0, 2, 4), (2, 0, 3), (3, 0, 2)] : List (Int × Int × Int))) bx13 ⟨[.int .i64 0, .int .i64 0, .int .i64 1], _, rfl, ⟨[.int .i64 0], [.int .i64 0, .int .i64 1], rfl, rfl, ⟨[.int .i64 0], [.int .i64 1], rfl, rfl, rfl⟩⟩, ⟨[.int .i64 0, .int .i64 1, .int .i64 2], _, rfl, ⟨[.int .i64 0], [.int .i64 1, .int .i64 2], rfl, rfl, ⟨[.int .i64 1], [.int .i64 2], rfl, rfl, rfl⟩⟩, ⟨[.int .i64 0, .int .i64 2, .int .i64 4], _, rfl, ⟨[.int .i64 0], [.int .i64 2, .int .i64 4], rfl, rfl, ⟨[.int .i64 2], [.int .i64 4], rfl, rfl, rfl⟩⟩, ⟨[.int .i64 2, .int .i64 0, .int .i64 3], _, rfl, ⟨[.int .i64 2], [.int .i64 0, .int .i64 3], rfl, rfl, ⟨[.int .i64 0], [.int .i64 3], rfl, rfl, rfl⟩⟩, ⟨[.int .i64 3, .int .i64 0, .int .i64 2], _, rfl, ⟨[.int .i64 3], [.int .i64 0, .int .i64 2], rfl, rfl, ⟨[.int .i64 0], [.int .i64 2], rfl, rfl, rfl⟩⟩, rfl⟩⟩⟩⟩⟩ (Nat.le_of_ble_eq_true rfl)
 refine L.bu (cs := [.slice (some ⟨b7, 0, none⟩) ([0, 1, 2] : List Int).length (([0, 1, 2] : List Int).length), .int .i64 5, .slice (some ⟨b10, 0, none⟩) ([1] : List Int).length (([1] : List Int).length), .slice (some ⟨b13, 0, none⟩) ([(0, 0, 1), (0, 1, 2), (0, 2, 4), (2, 0, 3), (3, 0, 2)] : List (Int × Int × Int)).length (([(0, 0, 1), (0, 1, 2), (0, 2, 4), (2, 0, 3), (3, 0, 2)] : List (Int × Int × Int)).length)]) pl34 Wt.no rfl rfl rfl (L.st (c := [.slice (some ⟨b7, 0, none⟩) ([0, 1, 2] : List Int).length (([0, 1, 2] : List Int).length), .int .i64 5, .slice (some ⟨b10, 0, none⟩) ([1] : List Int).length (([1] : List Int).length), .slice (some ⟨b13, 0, none⟩) ([(0, 0, 1), (0, 1, 2), (0, 2, 4), (2, 0, 3), (3, 0, 2)] : List (Int × Int × Int)).length (([(0, 0, 1), (0, 1, 2), (0, 2, 4), (2, 0, 3), (3, 0, 2)] : List (Int × Int × Int)).length)]) (cs' := #[.slice (some ⟨b7, 0, none⟩) ([0, 1, 2] : List Int).length (([0, 1, 2] : List Int).length), .int .i64 5, .slice (some ⟨b10, 0, none⟩) ([1] : List Int).length (([1] : List Int).length), .slice (some ⟨b13, 0, none⟩) ([(0, 0, 1), (0, 1, 2), (0, 2, 4), (2, 0, 3), (3, 0, 2)] : List (Int × Int × Int)).length (([(0, 0, 1), (0, 1, 2), (0, 2, 4), (2, 0, 3), (3, 0, 2)] : List (Int × Int × Int)).length)]) bx4 ag34.sz Wt.no rfl rfl rfl rfl rfl (Nat.le_of_ble_eq_true rfl) rfl fun s16 m17 bx4 => ?_)
 replace m0 := m0.trans (m17.one up)
 replace h7 := h7.mono (m17.le (tg0 hN))
 replace h10 := h10.mono (m17.le (tg0 hN))
 replace h13 := h13.mono (m17.le (tg0 hN))
 refine L.nil (X.seqN (E.ret ?_))
 obtain rfl := Option.some.inj hm
 exact X.rt (.inl rfl) Tryd.results41 (Rs.cell rfl bx4 ag34 rfl Rs.nil) rfl ⟨_, (s16).ren N (fun _ => 0), rfl, rfl, m0.ren hNb, ⟨(some ⟨b7, 0, none⟩), ([0, 1, 2] : List Int).length, (some ⟨b10, 0, none⟩), ([1] : List Int).length, (some ⟨b13, 0, none⟩), ([(0, 0, 1), (0, 1, 2), (0, 2, 4), (2, 0, 3), (3, 0, 2)] : List (Int × Int × Int)).length, rfl, (h7.ren hN), (h10.ren hN), (h13.ren hN)⟩⟩

theorem nag3 : NAg Tryd.prog 3 := NAg.mk' Tryd.underlying3 rfl (by kernel_rfl)
theorem sl31 : Sl Tryd.prog 31 3 1 := Sl.mk' Tryd.underlying31 (by kernel_rfl)
noncomputable def m_automaton_checkSet_l1 (p0 : List Int) (p1 : Int) (st13 : Int) : Option (Int ⊕ (Unit ⊕ Int)) :=
  if decide (st13 < (p0.length : Int)) then
    (idx p0 st13).bind fun x22 =>
    if ((decide (x22 < 0)) || (decide (x22 ≥ p1))) then
      some (.inr (.inr (2)))
    else
      (if decide (st13 > 0) then
        (idx p0 (W (st13 - 1))).bind fun x28 =>
        some (decide (x22 ≤ x28))
      else
        some false).bind fun b25 =>
      if b25 then
        some (.inr (.inr (5)))
      else
        some (.inl (W (st13 + 1)))
  else
    some (.inr (.inl ()))
/-- What automaton.checkSet computes. -/
noncomputable def m_automaton_checkSet (p0 : List Int) (p1 : Int) : Option Int :=
  (iter (m_automaton_checkSet_l1 p0 p1) 0).bind fun o13 =>
  match o13 with
  | .inl u16 =>
    some 0
  | .inr (u19) =>
    some u19
set_option maxRecDepth 100000 in
set_option maxHeartbeats 8000000 in
theorem m_automaton_checkSet_c {s : Sig} {p0 : List Int} {p1 : Int} {a1 : Option Addr} {c1 : Nat} {r : Int} (h1 : RdL (rK .i64) s a1 c1 p0) (hm : m_automaton_checkSet p0 p1 = some r) :
    Calls Tryd.prog 62 #[.slice a1 p0.length c1, .int .i64 p1] s.w (RetS No s fun v s' => v = .int .i64 r) := by
 unfold m_automaton_checkSet at hm
 obtain ⟨N, hN, hNb⟩ := s.fresh
 have m0 : Mv (Up N No) s s := Mv.refl _ _
 refine E.entry Tryd.func62 rfl Tryd.ntmps62 rfl rfl (E.seq (E.reg (L.as Wt.no rfl rfl (L.nil (X.seqN (E.seq (E.seq (E.reg (L.mv Wt.no rfl rfl (L.len sl31 Wt.no rfl rfl (L.mv Wt.no rfl rfl (L.nil (X.seqN (E.block ?_))))))))))))))
 obtain ⟨o13, eo13, hm⟩ := bindS hm
 refine E.cut (x := .exit 0) (fun e w => ∃ (s17 : Sig) (u16 : Unit), o13 = .inl u16 ∧ Mv (Up N No) s s17 ∧ e = [] ∧ w = s17.w) ?_ ?_
 ·rintro _ _ ⟨s17, u16, rfl, m0, rfl, rfl⟩
  dsimp only at hm
  refine X.blkE (X.seqN (E.seq (E.reg (L.as Wt.no rfl rfl (L.nil (X.seqN (E.ret ?_)))))))
  obtain rfl := Option.some.inj hm
  exact X.rt (.inl rfl) Tryd.results62 (Rs.tmp rfl Rs.nil) rfl ⟨_, (s17).ren N (fun _ => 0), rfl, rfl, m0.ren hNb, rfl⟩
 intro K18
 refine E.cut (x := .ret) (fun e w => ∃ (s20 : Sig) (u19 : Int), o13 = .inr (u19) ∧ Mv (Up N No) s s20 ∧ e = [(4, .int .i64 u19)] ∧ w = s20.w) ?_ ?_
 ·rintro _ _ ⟨s20, u19, rfl, m0, rfl, rfl⟩
  dsimp only at hm
  refine X.blkR (X.seqR ?_)
  obtain rfl := Option.some.inj hm
  exact X.rt (.inl rfl) Tryd.results62 (Rs.tmp rfl Rs.nil) rfl ⟨_, (s20).ren N (fun _ => 0), rfl, rfl, m0.ren hNb, rfl⟩
 intro K21
 refine E.iter (fun (st13 : Int) (e : List (Nat × Value)) (w : World) => ∃ (s15 : Sig), Mv (Up N No) s s15 ∧ RdL (rK .i64) s15 a1 c1 p0 ∧ e = [(9, .int .i64 st13), (8, .int .i64 (p0.length : Int)), (7, .slice a1 p0.length c1), (0, .slice a1 p0.length c1), (1, .int .i64 p1)] ∧ w = s15.w) eo13 ⟨s, m0, h1, rfl, rfl⟩ (Sub.rf rfl) ?_
 rintro st13 res13 hm ih13 ho13 _ _ ⟨s15, m0, h1, rfl, rfl⟩
 unfold m_automaton_checkSet_l1 at hm
 refine E.seq (E.reg (L.bi Wt.no rfl rfl rfl rfl (L.nil (X.seqN (E.seq ?_)))))
 rcases ifS hm with ⟨hc, hm⟩ | ⟨hc, hm⟩
 ·refine E.cT rfl hc (E.skip (X.seqN (E.seq (E.block (E.seq (E.reg (L.mv Wt.no rfl rfl ?_)))))))
  obtain ⟨x22, ex22, hm⟩ := bindS hm
  refine L.ix (r := (rK .i64)) sl31 h1 Wt.no rfl rfl ex22 rfl fun b23 o23 cc23 me23 rd23 => ?_
  obtain rfl := rd23
  refine L.ld (j := 0) me23 nag3 Wt.no rfl rfl rfl rfl (L.as Wt.no rfl rfl (L.as Wt.no rfl rfl (L.nil (X.seqN (E.block (E.seq (E.reg (L.mv Wt.no rfl rfl (L.bi Wt.no rfl rfl rfl rfl (L.mv Wt.no rfl rfl (L.cut 4 (fun e w => ∃ (v24 : Bool), ((decide (x22 < 0)) || (decide (x22 ≥ p1))) = v24 ∧ e = (21, .bool v24) :: [(6, .int .i64 x22), (5, .int .i64 st13), (9, .int .i64 st13), (8, .int .i64 (p0.length : Int)), (7, .slice a1 p0.length c1), (0, .slice a1 p0.length c1), (1, .int .i64 p1)] ∧ w = s15.w) ?_ ?_)))))))))))
  ·rintro _ _ ⟨v24, rfl, rfl, rfl⟩
   refine L.as Wt.no rfl rfl (L.nil (X.seqN ?_))
   rcases ifS hm with ⟨hc, hm⟩ | ⟨hc, hm⟩
   ·refine E.cT rfl hc (E.seq (E.reg (L.as Wt.no rfl rfl (L.nil (X.seqN (E.ret (X.blkR (X.blkR (X.seqR (X.seqR ?_))))))))))
    have hx := ho13 _ (Option.some.inj hm).symm
    exact X.sub (K21 _ _ ⟨s15, 2, hx.symm, m0, rfl, rfl⟩) (Sub.rf rfl)
   refine E.cF rfl hc (E.seq (E.reg (L.mv Wt.no rfl rfl (L.bi Wt.no rfl rfl rfl rfl (L.mv Wt.no rfl rfl ?_)))))
   obtain ⟨b25, eb25, hm⟩ := bindS hm
   refine L.cut 8 (fun e w => ∃ (v26 : Bool), b25 = v26 ∧ e = (33, .bool v26) :: [(9, .int .i64 st13), (8, .int .i64 (p0.length : Int)), (7, .slice a1 p0.length c1), (0, .slice a1 p0.length c1), (1, .int .i64 p1)] ∧ w = s15.w) ?_ ?_
   ·rintro _ _ ⟨v26, rfl, rfl, rfl⟩
    refine L.as Wt.no rfl rfl (L.nil (X.seqN ?_))
    rcases ifS hm with ⟨hc, hm⟩ | ⟨hc, hm⟩
    ·refine E.cT rfl hc (E.seq (E.reg (L.as Wt.no rfl rfl (L.nil (X.seqN (E.ret (X.blkR (X.blkR (X.seqR (X.seqR ?_))))))))))
     have hx := ho13 _ (Option.some.inj hm).symm
     exact X.sub (K21 _ _ ⟨s15, 5, hx.symm, m0, rfl, rfl⟩) (Sub.rf rfl)
    exact E.cF rfl hc (E.skip (X.blkN (X.blkN (X.seqN (E.reg (L.bi Wt.no rfl rfl rfl rfl (L.mv Wt.no rfl rfl (L.nil (X.sub (ih13 _ (Option.some.inj hm).symm _ _ ⟨s15, m0, h1, rfl, rfl⟩) (Sub.rf rfl))))))))))
   intro J27
   rcases ifS eb25 with ⟨hc, hm⟩ | ⟨hc, hm⟩
   ·refine L.know (d := 25) rfl hc (L.mv (Wt.mk rfl rfl) rfl rfl (L.mv (Wt.mk rfl rfl) rfl rfl (L.mv (Wt.mk rfl rfl) rfl rfl (L.bi (Wt.mk rfl rfl) rfl rfl rfl rfl ?_))))
    obtain ⟨x28, ex28, hm⟩ := bindS hm
    refine L.ix (r := (rK .i64)) sl31 h1 (Wt.mk rfl rfl) rfl rfl ex28 rfl fun b29 o29 cc29 me29 rd29 => ?_
    obtain rfl := rd29
    exact L.ld (j := 0) me29 nag3 (Wt.mk rfl rfl) rfl rfl rfl rfl (L.bi (Wt.mk rfl rfl) rfl rfl rfl rfl (L.pkT Wt.no rfl rfl rfl rfl (L.sb (J27 _ _ ⟨(decide (x22 ≤ x28)), (Option.some.inj hm).symm, rfl, rfl⟩) rfl)))
   exact L.know (d := 25) rfl hc (L.skip rfl rfl rfl rfl (L.skip rfl rfl rfl rfl (L.skip rfl rfl rfl rfl (L.skip rfl rfl rfl rfl (L.skip rfl rfl rfl rfl (L.skip rfl rfl rfl rfl (L.skip rfl rfl rfl rfl (L.pkF Wt.no rfl rfl rfl rfl (L.sb (J27 _ _ ⟨false, (Option.some.inj hm).symm, rfl, rfl⟩) rfl)))))))))
  intro J30
  rcases Bool.eq_false_or_eq_true (decide (x22 < 0)) with hc | hc
  ·exact L.know (d := 17) rfl hc (L.skip rfl rfl rfl rfl (L.skip rfl rfl rfl rfl (L.skip rfl rfl rfl rfl (L.pkT Wt.no rfl rfl rfl rfl (L.sb (J30 _ _ ⟨true, (orT hc).symm, rfl, rfl⟩) rfl)))))
  exact L.know (d := 17) rfl hc (L.mv (Wt.mk rfl rfl) rfl rfl (L.mv (Wt.mk rfl rfl) rfl rfl (L.bi (Wt.mk rfl rfl) rfl rfl rfl rfl (L.pkF Wt.no rfl rfl rfl rfl (L.sb (J30 _ _ ⟨(decide (x22 ≥ p1)), (orF hc).symm, rfl, rfl⟩) rfl)))))
 refine E.cF rfl hc (E.exit (X.seqX (X.seqX ?_)))
 have hx := ho13 _ (Option.some.inj hm).symm
 exact X.sub (K18 _ _ ⟨s15, (), hx.symm, m0, rfl, rfl⟩) Sub.nil

noncomputable def m_slices_Index_int_l1 (p0 : List Int) (p1 : Int) (st6 : Int) : Option (Int ⊕ (Unit ⊕ Int)) :=
  if decide (st6 < (p0.length : Int)) then
    (idx p0 st6).bind fun x15 =>
    if (p1 == x15) then
      some (.inr (.inr (st6)))
    else
      some (.inl (W (st6 + 1)))
  else
    some (.inr (.inl ()))
/-- What slices.Index<<>int,int> computes. -/
noncomputable def m_slices_Index_int (p0 : List Int) (p1 : Int) : Option Int :=
  (iter (m_slices_Index_int_l1 p0 p1) 0).bind fun o6 =>
  match o6 with
  | .inl u9 =>
    some (-1)
  | .inr (u12) =>
    some u12
set_option maxRecDepth 100000 in
set_option maxHeartbeats 8000000 in
theorem m_slices_Index_int_c {s : Sig} {p0 : List Int} {p1 : Int} {a1 : Option Addr} {c1 : Nat} {r : Int} (h1 : RdL (rK .i64) s a1 c1 p0) (hm : m_slices_Index_int p0 p1 = some r) :
    Calls Tryd.prog 94 #[.slice a1 p0.length c1, .int .i64 p1] s.w (RetS No s fun v s' => v = .int .i64 r) := by
 unfold m_slices_Index_int at hm
 obtain ⟨N, hN, hNb⟩ := s.fresh
 have m0 : Mv (Up N No) s s := Mv.refl _ _
 refine E.entry Tryd.func94 rfl Tryd.ntmps94 rfl rfl (E.seq (E.reg (L.as Wt.no rfl rfl (L.nil (X.seqN (E.seq (E.seq (E.reg (L.mv Wt.no rfl rfl (L.len sl31 Wt.no rfl rfl (L.mv Wt.no rfl rfl (L.nil (X.seqN (E.block ?_))))))))))))))
 obtain ⟨o6, eo6, hm⟩ := bindS hm
 refine E.cut (x := .exit 0) (fun e w => ∃ (s10 : Sig) (u9 : Unit), o6 = .inl u9 ∧ Mv (Up N No) s s10 ∧ e = [] ∧ w = s10.w) ?_ ?_
 ·rintro _ _ ⟨s10, u9, rfl, m0, rfl, rfl⟩
  dsimp only at hm
  refine X.blkE (X.seqN (E.seq (E.reg (L.as Wt.no rfl rfl (L.nil (X.seqN (E.ret ?_)))))))
  obtain rfl := Option.some.inj hm
  exact X.rt (.inl rfl) Tryd.results94 (Rs.tmp rfl Rs.nil) rfl ⟨_, (s10).ren N (fun _ => 0), rfl, rfl, m0.ren hNb, rfl⟩
 intro K11
 refine E.cut (x := .ret) (fun e w => ∃ (s13 : Sig) (u12 : Int), o6 = .inr (u12) ∧ Mv (Up N No) s s13 ∧ e = [(4, .int .i64 u12)] ∧ w = s13.w) ?_ ?_
 ·rintro _ _ ⟨s13, u12, rfl, m0, rfl, rfl⟩
  dsimp only at hm
  refine X.blkR (X.seqR ?_)
  obtain rfl := Option.some.inj hm
  exact X.rt (.inl rfl) Tryd.results94 (Rs.tmp rfl Rs.nil) rfl ⟨_, (s13).ren N (fun _ => 0), rfl, rfl, m0.ren hNb, rfl⟩
 intro K14
 refine E.iter (fun (st6 : Int) (e : List (Nat × Value)) (w : World) => ∃ (s8 : Sig), Mv (Up N No) s s8 ∧ RdL (rK .i64) s8 a1 c1 p0 ∧ e = [(8, .int .i64 st6), (7, .int .i64 (p0.length : Int)), (0, .slice a1 p0.length c1), (1, .int .i64 p1)] ∧ w = s8.w) eo6 ⟨s, m0, h1, rfl, rfl⟩ (Sub.rf rfl) ?_
 rintro st6 res6 hm ih6 ho6 _ _ ⟨s8, m0, h1, rfl, rfl⟩
 unfold m_slices_Index_int_l1 at hm
 refine E.seq (E.reg (L.bi Wt.no rfl rfl rfl rfl (L.nil (X.seqN (E.seq ?_)))))
 rcases ifS hm with ⟨hc, hm⟩ | ⟨hc, hm⟩
 ·refine E.cT rfl hc (E.skip (X.seqN (E.seq (E.block (E.seq (E.reg (L.mv Wt.no rfl rfl (L.as Wt.no rfl rfl (L.nil (X.seqN (E.seq (E.reg (L.mv Wt.no rfl rfl (L.mv Wt.no rfl rfl (L.mv Wt.no rfl rfl ?_)))))))))))))))
  obtain ⟨x15, ex15, hm⟩ := bindS hm
  refine L.ix (r := (rK .i64)) sl31 h1 Wt.no rfl rfl ex15 rfl fun b16 o16 cc16 me16 rd16 => ?_
  obtain rfl := rd16
  refine L.ld (j := 0) me16 nag3 Wt.no rfl rfl rfl rfl (L.bi Wt.no rfl rfl rfl rfl (L.nil (X.seqN ?_)))
  rcases ifS hm with ⟨hc, hm⟩ | ⟨hc, hm⟩
  ·refine E.cT rfl hc (E.seq (E.reg (L.mv Wt.no rfl rfl (L.as Wt.no rfl rfl (L.nil (X.seqN (E.ret (X.blkR (X.seqR (X.seqR ?_))))))))))
   have hx := ho6 _ (Option.some.inj hm).symm
   exact X.sub (K14 _ _ ⟨s8, st6, hx.symm, m0, rfl, rfl⟩) (Sub.rf rfl)
  exact E.cF rfl hc (E.skip (X.blkN (X.seqN (E.reg (L.bi Wt.no rfl rfl rfl rfl (L.mv Wt.no rfl rfl (L.nil (X.sub (ih6 _ (Option.some.inj hm).symm _ _ ⟨s8, m0, h1, rfl, rfl⟩) (Sub.rf rfl)))))))))
 refine E.cF rfl hc (E.exit (X.seqX (X.seqX ?_)))
 have hx := ho6 _ (Option.some.inj hm).symm
 exact X.sub (K11 _ _ ⟨s8, (), hx.symm, m0, rfl, rfl⟩) Sub.nil

theorem cf94 : Cf Tryd.prog 94 := Cf.mk Tryd.func94 (by kernel_rfl) (by kernel_rfl)
/-- What slices.Contains<<>int,int> computes. -/
noncomputable def m_slices_Contains_int (p0 : List Int) (p1 : Int) : Option Bool :=
  (m_slices_Index_int p0 p1).bind fun r2 =>
  some (decide (r2 ≥ 0))
set_option maxRecDepth 100000 in
set_option maxHeartbeats 8000000 in
theorem m_slices_Contains_int_c {s : Sig} {p0 : List Int} {p1 : Int} {a1 : Option Addr} {c1 : Nat} {r : Bool} (h1 : RdL (rK .i64) s a1 c1 p0) (hm : m_slices_Contains_int p0 p1 = some r) :
    Calls Tryd.prog 83 #[.slice a1 p0.length c1, .int .i64 p1] s.w (RetS No s fun v s' => v = .bool r) := by
 unfold m_slices_Contains_int at hm
 obtain ⟨N, hN, hNb⟩ := s.fresh
 have m0 : Mv (Up N No) s s := Mv.refl _ _
 refine E.entry Tryd.func83 rfl Tryd.ntmps83 rfl rfl (E.seq (E.reg (L.as Wt.no rfl rfl (L.nil (X.seqN (E.seq (E.reg (L.mv Wt.no rfl rfl (L.mv Wt.no rfl rfl ?_)))))))))
 obtain ⟨r2, er2, hm⟩ := bindS hm
 refine L.ca cf94 rfl rfl Wt.no rfl (m_slices_Index_int_c (s := s) (p0 := p0) (p1 := p1) h1 er2) rfl ?_
 rintro _ s3 m4 rfl
 replace m0 := m0.trans m4.no
 refine L.bi Wt.no rfl rfl rfl rfl (L.as Wt.no rfl rfl (L.nil (X.seqN (E.ret ?_))))
 obtain rfl := Option.some.inj hm
 exact X.rt (.inl rfl) Tryd.results83 (Rs.tmp rfl Rs.nil) rfl ⟨_, (s3).ren N (fun _ => 0), rfl, rfl, m0.ren hNb, rfl⟩

theorem ag58 : Ag Tryd.prog 58 3 := Ag.mk' Tryd.underlying58 rfl (by kernel_rfl)
theorem cf83 : Cf Tryd.prog 83 := Cf.mk Tryd.func83 (by kernel_rfl) (by kernel_rfl)
theorem fa34_0 : FA Tryd.prog 34 0 0 := FA.mk Tryd.underlying34 rfl rfl ⟨1, by decide, by kernel_rfl⟩
theorem fa34_1 : FA Tryd.prog 34 1 1 := FA.mk Tryd.underlying34 rfl rfl ⟨1, by decide, by kernel_rfl⟩
theorem fa34_3 : FA Tryd.prog 34 3 3 := FA.mk Tryd.underlying34 rfl rfl ⟨1, by decide, by kernel_rfl⟩
theorem fa58_0 : FA Tryd.prog 58 0 0 := FA.mk Tryd.underlying58 rfl rfl ⟨1, by decide, by kernel_rfl⟩
theorem fa58_1 : FA Tryd.prog 58 1 1 := FA.mk Tryd.underlying58 rfl rfl ⟨1, by decide, by kernel_rfl⟩
theorem fa58_2 : FA Tryd.prog 58 2 2 := FA.mk Tryd.underlying58 rfl rfl ⟨1, by decide, by kernel_rfl⟩
theorem nag31 : NAg Tryd.prog 31 := NAg.mk' Tryd.underlying31 rfl (by kernel_rfl)
theorem nag32 : NAg Tryd.prog 32 := NAg.mk' Tryd.underlying32 rfl (by kernel_rfl)
theorem sl32 : Sl Tryd.prog 32 58 3 := Sl.mk' Tryd.underlying32 (by kernel_rfl)
theorem zz58 : (Tryd.prog.info? 58).bind (·.zero) = some (.agg #[.int .i64 0, .int .i64 0, .int .i64 0]) := by kernel_rfl
noncomputable def m_automaton_checkEdges_j1 (st38 : Int) : Option (Int ⊕ (Unit ⊕ Int)) :=
  some (.inl (W (st38 + 1)))
noncomputable def m_automaton_checkEdges_l1 (p0 : List Int × Int × List Int × (List (Int × Int × Int))) (st38 : Int) : Option (Int ⊕ (Unit ⊕ Int)) :=
  if decide (st38 < (p0.2.2.2.length : Int)) then
    (idx p0.2.2.2 st38).bind fun x49 =>
    if ((((decide (x49.1 < 0)) || (decide (x49.1 ≥ p0.2.1))) || (decide (x49.2.2 < 0))) || (decide (x49.2.2 ≥ p0.2.1))) then
      some (.inr (.inr (2)))
    else
      (m_slices_Contains_int p0.1 x49.2.1).bind fun r59 =>
      if (!r59) then
        some (.inr (.inr (9)))
      else
        if (st38 == 0) then
          m_automaton_checkEdges_j1 st38
        else
          (idx p0.2.2.2 (W (st38 - 1))).bind fun x62 =>
          if ((decide (x49.1 < x62.1)) || ((x49.1 == x62.1) && (decide (x49.2.1 ≤ x62.2.1)))) then
            some (.inr (.inr (5)))
          else
            m_automaton_checkEdges_j1 st38
  else
    some (.inr (.inl ()))
/-- What automaton.checkEdges computes. -/
noncomputable def m_automaton_checkEdges (p0 : List Int × Int × List Int × (List (Int × Int × Int))) : Option Int :=
  (iter (m_automaton_checkEdges_l1 p0) 0).bind fun o38 =>
  match o38 with
  | .inl u41 =>
    some 0
  | .inr (u44) =>
    some u44
set_option maxRecDepth 100000 in
set_option maxHeartbeats 8000000 in
theorem m_automaton_checkEdges_c {s : Sig} {p0 : List Int × Int × List Int × (List (Int × Int × Int))} {a1 : Option Addr} {c1 : Nat} {a2 : Option Addr} {c2 : Nat} {a3 : Option Addr} {c3 : Nat} {r : Int} (h1 : RdL (rK .i64) s a1 c1 p0.1) (h2 : RdL (rK .i64) s a2 c2 p0.2.2.1) (h3 : RdL (rP (rK .i64) (rP (rK .i64) (rK .i64))) s a3 c3 p0.2.2.2) (hm : m_automaton_checkEdges p0 = some r) :
    Calls Tryd.prog 63 #[.agg #[.slice a1 p0.1.length c1, .int .i64 p0.2.1, .slice a2 p0.2.2.1.length c2, .slice a3 p0.2.2.2.length c3]] s.w (RetS No s fun v s' => v = .int .i64 r) := by
 unfold m_automaton_checkEdges at hm
 obtain ⟨N, hN, hNb⟩ := s.fresh
 have m0 : Mv (Up N No) s s := Mv.refl _ _
 refine E.entry Tryd.func63 rfl Tryd.ntmps63 rfl rfl (E.seq (E.reg (L.box (N + 0) Wt.no rfl rfl rfl fun b4 s5 m6 bx4 => ?_)))
 replace m0 := m0.trans m6.no
 replace h1 := h1.mono (m6.le no_No)
 replace h2 := h2.mono (m6.le no_No)
 replace h3 := h3.mono (m6.le no_No)
 refine L.as Wt.no rfl rfl (L.nil (X.seqN (E.seq (E.seq (E.reg (L.fa fa34_3 Wt.no rfl rfl (L.ld (j := 3) bx4.mem nag32 Wt.no rfl rfl rfl rfl (L.len sl32 Wt.no rfl rfl (L.mv Wt.no rfl rfl (L.nil (X.seqN (E.block ?_))))))))))))
 obtain ⟨o38, eo38, hm⟩ := bindS hm
 refine E.cut (x := .exit 0) (fun e w => ∃ (s42 : Sig) (u41 : Unit), o38 = .inl u41 ∧ Mv (Up N No) s s42 ∧ e = [] ∧ w = s42.w) ?_ ?_
 ·rintro _ _ ⟨s42, u41, rfl, m0, rfl, rfl⟩
  dsimp only at hm
  refine X.blkE (X.seqN (E.seq (E.reg (L.as Wt.no rfl rfl (L.nil (X.seqN (E.ret ?_)))))))
  obtain rfl := Option.some.inj hm
  exact X.rt (.inl rfl) Tryd.results63 (Rs.tmp rfl Rs.nil) rfl ⟨_, (s42).ren N (fun _ => 0), rfl, rfl, m0.ren hNb, rfl⟩
 intro K43
 refine E.cut (x := .ret) (fun e w => ∃ (s45 : Sig) (u44 : Int), o38 = .inr (u44) ∧ Mv (Up N No) s s45 ∧ e = [(2, .int .i64 u44)] ∧ w = s45.w) ?_ ?_
 ·rintro _ _ ⟨s45, u44, rfl, m0, rfl, rfl⟩
  dsimp only at hm
  refine X.blkR (X.seqR ?_)
  obtain rfl := Option.some.inj hm
  exact X.rt (.inl rfl) Tryd.results63 (Rs.tmp rfl Rs.nil) rfl ⟨_, (s45).ren N (fun _ => 0), rfl, rfl, m0.ren hNb, rfl⟩
 intro K46
 refine E.iter (fun (st38 : Int) (e : List (Nat × Value)) (w : World) => ∃ (s40 : Sig), Mv (Up N No) s s40 ∧ RdL (rP (rK .i64) (rP (rK .i64) (rK .i64))) s40 a3 c3 p0.2.2.2 ∧ RdL (rK .i64) s40 a1 c1 p0.1 ∧ RdL (rK .i64) s40 a2 c2 p0.2.2.1 ∧ Bx s40 (N + 0) b4 #[.slice a1 p0.1.length c1, .int .i64 p0.2.1, .slice a2 p0.2.2.1.length c2, .slice a3 p0.2.2.2.length c3] 34 ∧ e = [(9, .int .i64 st38), (8, .int .i64 (p0.2.2.2.length : Int)), (7, .slice a3 p0.2.2.2.length c3), (1, .pointer (some ⟨b4, 0, none⟩))] ∧ w = s40.w) eo38 ⟨s5, m0, h3, h1, h2, bx4, rfl, rfl⟩ (Sub.rf rfl) ?_
 rintro st38 res38 hm ih38 ho38 _ _ ⟨s40, m0, h3, h1, h2, bx4, rfl, rfl⟩
 unfold m_automaton_checkEdges_l1 at hm
 refine E.seq (E.reg (L.bi Wt.no rfl rfl rfl rfl (L.nil (X.seqN (E.seq ?_)))))
 rcases ifS hm with ⟨hc, hm⟩ | ⟨hc, hm⟩
 ·refine E.cT rfl hc (E.skip (X.seqN (E.seqJ (fun e w => ∃ (s47 : Sig), m_automaton_checkEdges_j1 st38 = some res38 ∧ Mv (Up N No) s s47 ∧ RdL (rP (rK .i64) (rP (rK .i64) (rK .i64))) s47 a3 c3 p0.2.2.2 ∧ RdL (rK .i64) s47 a1 c1 p0.1 ∧ RdL (rK .i64) s47 a2 c2 p0.2.2.1 ∧ Bx s47 (N + 0) b4 #[.slice a1 p0.1.length c1, .int .i64 p0.2.1, .slice a2 p0.2.2.1.length c2, .slice a3 p0.2.2.2.length c3] 34 ∧ e = [(9, .int .i64 st38), (8, .int .i64 (p0.2.2.2.length : Int)), (7, .slice a3 p0.2.2.2.length c3), (1, .pointer (some ⟨b4, 0, none⟩))] ∧ w = s47.w) ?_ ?_)))
  ·rintro _ _ ⟨s47, hm, m0, h3, h1, h2, bx4, rfl, rfl⟩
   unfold m_automaton_checkEdges_j1 at hm
   exact E.reg (L.bi Wt.no rfl rfl rfl rfl (L.mv Wt.no rfl rfl (L.nil (X.sub (ih38 _ (Option.some.inj hm).symm _ _ ⟨s47, m0, h3, h1, h2, bx4, rfl, rfl⟩) (Sub.rf rfl)))))
  intro Jj48
  refine E.block (E.seq (E.reg (L.mv Wt.no rfl rfl ?_)))
  obtain ⟨x49, ex49, hm⟩ := bindS hm
  refine L.ix (r := (rP (rK .i64) (rP (rK .i64) (rK .i64)))) sl32 h3 Wt.no rfl rfl ex49 rfl fun b50 o50 cc50 me50 rd50 => ?_
  obtain ⟨_, _, rfl, rfl, ⟨_, _, rfl, rfl, rfl⟩⟩ := rd50
  refine L.lg (j := 0) (cs := [.int .i64 x49.1, .int .i64 x49.2.1, .int .i64 x49.2.2]) me50 ag58 Wt.no rfl rfl rfl rfl rfl (L.al (N + 1) zz58 rfl Wt.no rfl fun b51 s52 m53 bx51 => ?_)
  replace m0 := m0.trans m53.no
  replace h3 := h3.mono (m53.le no_No)
  replace bx4 := bx4.mv m53 no_No
  replace h1 := h1.mono (m53.le no_No)
  replace h2 := h2.mono (m53.le no_No)
  refine L.as Wt.no rfl rfl (L.st (c := [.int .i64 x49.1, .int .i64 x49.2.1, .int .i64 x49.2.2]) (cs' := #[.int .i64 x49.1, .int .i64 x49.2.1, .int .i64 x49.2.2]) bx51 ag58.sz Wt.no rfl rfl rfl rfl rfl (Nat.le_of_ble_eq_true rfl) rfl fun s54 m55 bx51 => ?_)
  replace m0 := m0.trans (m55.one up)
  replace h3 := h3.mono (m55.le (tg0 hN))
  replace bx4 := bx4.mv m55 (tgN (by decide))
  replace h1 := h1.mono (m55.le (tg0 hN))
  replace h2 := h2.mono (m55.le (tg0 hN))
  refine L.nil (X.seqN (E.seq (E.block (E.seq (E.reg (L.fa fa58_0 Wt.no rfl rfl (L.ld (j := 0) bx51.mem nag3 Wt.no rfl rfl rfl rfl (L.bi Wt.no rfl rfl rfl rfl (L.mv Wt.no rfl rfl (L.cut 6 (fun e w => ∃ (v56 : Bool), ((decide (x49.1 < 0)) || (decide (x49.1 ≥ p0.2.1))) = v56 ∧ e = (24, .bool v56) :: [(3, .int .i64 st38), (4, .pointer (some ⟨b51, 0, none⟩)), (9, .int .i64 st38), (8, .int .i64 (p0.2.2.2.length : Int)), (7, .slice a3 p0.2.2.2.length c3), (1, .pointer (some ⟨b4, 0, none⟩))] ∧ w = s54.w) ?_ ?_))))))))))
  ·rintro _ _ ⟨v56, rfl, rfl, rfl⟩
   refine L.mv Wt.no rfl rfl (L.cut 4 (fun e w => ∃ (v57 : Bool), (((decide (x49.1 < 0)) || (decide (x49.1 ≥ p0.2.1))) || (decide (x49.2.2 < 0))) = v57 ∧ e = (29, .bool v57) :: [(3, .int .i64 st38), (4, .pointer (some ⟨b51, 0, none⟩)), (9, .int .i64 st38), (8, .int .i64 (p0.2.2.2.length : Int)), (7, .slice a3 p0.2.2.2.length c3), (1, .pointer (some ⟨b4, 0, none⟩))] ∧ w = s54.w) ?_ ?_)
   ·rintro _ _ ⟨v57, rfl, rfl, rfl⟩
    refine L.mv Wt.no rfl rfl (L.cut 6 (fun e w => ∃ (v58 : Bool), ((((decide (x49.1 < 0)) || (decide (x49.1 ≥ p0.2.1))) || (decide (x49.2.2 < 0))) || (decide (x49.2.2 ≥ p0.2.1))) = v58 ∧ e = (36, .bool v58) :: [(3, .int .i64 st38), (4, .pointer (some ⟨b51, 0, none⟩)), (9, .int .i64 st38), (8, .int .i64 (p0.2.2.2.length : Int)), (7, .slice a3 p0.2.2.2.length c3), (1, .pointer (some ⟨b4, 0, none⟩))] ∧ w = s54.w) ?_ ?_)
    ·rintro _ _ ⟨v58, rfl, rfl, rfl⟩
     refine L.as Wt.no rfl rfl (L.nil (X.seqN ?_))
     rcases ifS hm with ⟨hc, hm⟩ | ⟨hc, hm⟩
     ·refine E.cT rfl hc (E.seq (E.reg (L.as Wt.no rfl rfl (L.nil (X.seqN (E.ret (X.blkR (X.seqR (X.blkR (X.seqR (X.seqR ?_)))))))))))
      have hx := ho38 _ (Option.some.inj hm).symm
      exact X.sub (K46 _ _ ⟨s54, 2, hx.symm, m0, rfl, rfl⟩) (Sub.rf rfl)
     refine E.cF rfl hc (E.seq (E.reg (L.fa fa34_0 Wt.no rfl rfl (L.ld (j := 0) bx4.mem nag31 Wt.no rfl rfl rfl rfl (L.fa fa58_1 Wt.no rfl rfl (L.ld (j := 1) bx51.mem nag3 Wt.no rfl rfl rfl rfl ?_))))))
     obtain ⟨r59, er59, hm⟩ := bindS hm
     refine L.ca cf83 rfl rfl Wt.no rfl (m_slices_Contains_int_c (s := s54) (p0 := p0.1) (p1 := x49.2.1) h1 er59) rfl ?_
     rintro _ s60 m61 rfl
     replace m0 := m0.trans m61.no
     replace h3 := h3.mono (m61.le no_No)
     replace bx4 := bx4.mv m61 no_No
     replace h1 := h1.mono (m61.le no_No)
     replace h2 := h2.mono (m61.le no_No)
     replace bx51 := bx51.mv m61 no_No
     refine L.not Wt.no rfl rfl (L.as Wt.no rfl rfl (L.nil (X.seqN ?_)))
     rcases ifS hm with ⟨hc, hm⟩ | ⟨hc, hm⟩
     ·refine E.cT rfl hc (E.seq (E.reg (L.as Wt.no rfl rfl (L.nil (X.seqN (E.ret (X.blkR (X.seqR (X.blkR (X.seqR (X.seqR ?_)))))))))))
      have hx := ho38 _ (Option.some.inj hm).symm
      exact X.sub (K46 _ _ ⟨s60, 9, hx.symm, m0, rfl, rfl⟩) (Sub.rf rfl)
     refine E.cF rfl hc (E.skip (X.blkN (X.seqN (E.seq (E.seq (E.reg (L.mv Wt.no rfl rfl (L.bi Wt.no rfl rfl rfl rfl (L.nil (X.seqN ?_))))))))))
     rcases ifS hm with ⟨hc, hm⟩ | ⟨hc, hm⟩
     ·exact E.cT rfl hc (E.exit (X.seqX (X.blkE (X.sub (Jj48 _ _ ⟨s60, hm, m0, h3, h1, h2, bx4, rfl, rfl⟩) (Sub.rf rfl)))))
     refine E.cF rfl hc (E.skip (X.seqN (E.seq (E.reg (L.fa fa34_3 Wt.no rfl rfl (L.ld (j := 3) bx4.mem nag32 Wt.no rfl rfl rfl rfl (L.mv Wt.no rfl rfl (L.bi Wt.no rfl rfl rfl rfl ?_))))))))
     obtain ⟨x62, ex62, hm⟩ := bindS hm
     refine L.ix (r := (rP (rK .i64) (rP (rK .i64) (rK .i64)))) sl32 h3 Wt.no rfl rfl ex62 rfl fun b63 o63 cc63 me63 rd63 => ?_
     obtain ⟨_, _, rfl, rfl, ⟨_, _, rfl, rfl, rfl⟩⟩ := rd63
     refine L.lg (j := 0) (cs := [.int .i64 x62.1, .int .i64 x62.2.1, .int .i64 x62.2.2]) me63 ag58 Wt.no rfl rfl rfl rfl rfl (L.al (N + 2) zz58 rfl Wt.no rfl fun b64 s65 m66 bx64 => ?_)
     replace m0 := m0.trans m66.no
     replace h3 := h3.mono (m66.le no_No)
     replace bx4 := bx4.mv m66 no_No
     replace h1 := h1.mono (m66.le no_No)
     replace h2 := h2.mono (m66.le no_No)
     replace bx51 := bx51.mv m66 no_No
     refine L.st (c := [.int .i64 x62.1, .int .i64 x62.2.1, .int .i64 x62.2.2]) (cs' := #[.int .i64 x62.1, .int .i64 x62.2.1, .int .i64 x62.2.2]) bx64 ag58.sz Wt.no rfl rfl rfl rfl rfl (Nat.le_of_ble_eq_true rfl) rfl fun s67 m68 bx64 => ?_
     replace m0 := m0.trans (m68.one up)
     replace h3 := h3.mono (m68.le (tg0 hN))
     replace bx4 := bx4.mv m68 (tgN (by decide))
     replace h1 := h1.mono (m68.le (tg0 hN))
     replace h2 := h2.mono (m68.le (tg0 hN))
     replace bx51 := bx51.mv m68 (tgN (by decide))
     refine L.nil (X.seqN (E.seq (E.reg (L.fa fa58_0 Wt.no rfl rfl (L.ld (j := 0) bx51.mem nag3 Wt.no rfl rfl rfl rfl (L.fa fa58_0 Wt.no rfl rfl (L.ld (j := 0) bx64.mem nag3 Wt.no rfl rfl rfl rfl (L.bi Wt.no rfl rfl rfl rfl (L.mv Wt.no rfl rfl (L.cut 13 (fun e w => ∃ (v69 : Bool), ((decide (x49.1 < x62.1)) || ((x49.1 == x62.1) && (decide (x49.2.1 ≤ x62.2.1)))) = v69 ∧ e = (70, .bool v69) :: [(9, .int .i64 st38), (8, .int .i64 (p0.2.2.2.length : Int)), (7, .slice a3 p0.2.2.2.length c3), (1, .pointer (some ⟨b4, 0, none⟩))] ∧ w = s67.w) ?_ ?_))))))))))
     ·rintro _ _ ⟨v69, rfl, rfl, rfl⟩
      refine L.nil (X.seqN ?_)
      rcases ifS hm with ⟨hc, hm⟩ | ⟨hc, hm⟩
      ·refine E.cT rfl hc (E.seq (E.reg (L.as Wt.no rfl rfl (L.nil (X.seqN (E.ret (X.blkR (X.seqR (X.seqR ?_)))))))))
       have hx := ho38 _ (Option.some.inj hm).symm
       exact X.sub (K46 _ _ ⟨s67, 5, hx.symm, m0, rfl, rfl⟩) (Sub.rf rfl)
      exact E.cF rfl hc (E.skip (X.blkN (X.sub (Jj48 _ _ ⟨s67, hm, m0, h3, h1, h2, bx4, rfl, rfl⟩) (Sub.rf rfl))))
     intro J70
     rcases Bool.eq_false_or_eq_true (decide (x49.1 < x62.1)) with hc | hc
     ·exact L.know (d := 57) rfl hc (L.skip rfl rfl rfl rfl (L.skip rfl rfl rfl rfl (L.skip rfl rfl rfl rfl (L.skip rfl rfl rfl rfl (L.skip rfl rfl rfl rfl (L.skip rfl rfl rfl rfl (L.skipU rfl rfl rfl (L.skipU rfl rfl rfl (L.skipU rfl rfl rfl (L.skipU rfl rfl rfl (L.skipU rfl rfl rfl (L.skip rfl rfl rfl rfl (L.pkT Wt.no rfl rfl rfl rfl (L.sb (J70 _ _ ⟨true, (orT hc).symm, rfl, rfl⟩) rfl))))))))))))))
     refine L.know (d := 57) rfl hc (L.fa fa58_0 (Wt.mk rfl rfl) rfl rfl (L.ld (j := 0) bx51.mem nag3 (Wt.mk rfl rfl) rfl rfl rfl rfl (L.fa fa58_0 (Wt.mk rfl rfl) rfl rfl (L.ld (j := 0) bx64.mem nag3 (Wt.mk rfl rfl) rfl rfl rfl rfl (L.bi (Wt.mk rfl rfl) rfl rfl rfl rfl (L.mv (Wt.mk rfl rfl) rfl rfl (L.cut 6 (fun e w => ∃ (v71 : Bool), ((x49.1 == x62.1) && (decide (x49.2.1 ≤ x62.2.1))) = v71 ∧ e = (69, .bool v71) :: [(57, .bool false), (9, .int .i64 st38), (8, .int .i64 (p0.2.2.2.length : Int)), (7, .slice a3 p0.2.2.2.length c3), (1, .pointer (some ⟨b4, 0, none⟩))] ∧ w = s67.w) ?_ ?_)))))))
     ·rintro _ _ ⟨v71, rfl, rfl, rfl⟩
      exact L.pkF Wt.no rfl rfl rfl rfl (L.sb (J70 _ _ ⟨((x49.1 == x62.1) && (decide (x49.2.1 ≤ x62.2.1))), (orF hc).symm, rfl, rfl⟩) rfl)
     intro J72
     rcases Bool.eq_false_or_eq_true (x49.1 == x62.1) with hc | hc
     ·exact L.know (d := 63) rfl hc (L.fa fa58_1 (Wt.mk rfl rfl) rfl rfl (L.ld (j := 1) bx51.mem nag3 (Wt.mk rfl rfl) rfl rfl rfl rfl (L.fa fa58_1 (Wt.mk rfl rfl) rfl rfl (L.ld (j := 1) bx64.mem nag3 (Wt.mk rfl rfl) rfl rfl rfl rfl (L.bi (Wt.mk rfl rfl) rfl rfl rfl rfl (L.pkT (Wt.mk rfl rfl) rfl rfl rfl rfl (L.sb (J72 _ _ ⟨(decide (x49.2.1 ≤ x62.2.1)), (andT hc).symm, rfl, rfl⟩) rfl)))))))
     exact L.know (d := 63) rfl hc (L.skip rfl rfl rfl rfl (L.skip rfl rfl rfl rfl (L.skip rfl rfl rfl rfl (L.skip rfl rfl rfl rfl (L.skip rfl rfl rfl rfl (L.pkF (Wt.mk rfl rfl) rfl rfl rfl rfl (L.sb (J72 _ _ ⟨false, (andF hc).symm, rfl, rfl⟩) rfl)))))))
    intro J73
    rcases Bool.eq_false_or_eq_true (((decide (x49.1 < 0)) || (decide (x49.1 ≥ p0.2.1))) || (decide (x49.2.2 < 0))) with hc | hc
    ·exact L.know (d := 30) rfl hc (L.skip rfl rfl rfl rfl (L.skip rfl rfl rfl rfl (L.skip rfl rfl rfl rfl (L.skip rfl rfl rfl rfl (L.skip rfl rfl rfl rfl (L.pkT Wt.no rfl rfl rfl rfl (L.sb (J73 _ _ ⟨true, (orT hc).symm, rfl, rfl⟩) rfl)))))))
    exact L.know (d := 30) rfl hc (L.fa fa58_2 (Wt.mk rfl rfl) rfl rfl (L.ld (j := 2) bx51.mem nag3 (Wt.mk rfl rfl) rfl rfl rfl rfl (L.fa fa34_1 (Wt.mk rfl rfl) rfl rfl (L.ld (j := 1) bx4.mem nag3 (Wt.mk rfl rfl) rfl rfl rfl rfl (L.bi (Wt.mk rfl rfl) rfl rfl rfl rfl (L.pkF Wt.no rfl rfl rfl rfl (L.sb (J73 _ _ ⟨(decide (x49.2.2 ≥ p0.2.1)), (orF hc).symm, rfl, rfl⟩) rfl)))))))
   intro J74
   rcases Bool.eq_false_or_eq_true ((decide (x49.1 < 0)) || (decide (x49.1 ≥ p0.2.1))) with hc | hc
   ·exact L.know (d := 25) rfl hc (L.skip rfl rfl rfl rfl (L.skip rfl rfl rfl rfl (L.skip rfl rfl rfl rfl (L.pkT Wt.no rfl rfl rfl rfl (L.sb (J74 _ _ ⟨true, (orT hc).symm, rfl, rfl⟩) rfl)))))
   exact L.know (d := 25) rfl hc (L.fa fa58_2 (Wt.mk rfl rfl) rfl rfl (L.ld (j := 2) bx51.mem nag3 (Wt.mk rfl rfl) rfl rfl rfl rfl (L.bi (Wt.mk rfl rfl) rfl rfl rfl rfl (L.pkF Wt.no rfl rfl rfl rfl (L.sb (J74 _ _ ⟨(decide (x49.2.2 < 0)), (orF hc).symm, rfl, rfl⟩) rfl)))))
  intro J75
  rcases Bool.eq_false_or_eq_true (decide (x49.1 < 0)) with hc | hc
  ·exact L.know (d := 18) rfl hc (L.skip rfl rfl rfl rfl (L.skip rfl rfl rfl rfl (L.skip rfl rfl rfl rfl (L.skip rfl rfl rfl rfl (L.skip rfl rfl rfl rfl (L.pkT Wt.no rfl rfl rfl rfl (L.sb (J75 _ _ ⟨true, (orT hc).symm, rfl, rfl⟩) rfl)))))))
  exact L.know (d := 18) rfl hc (L.fa fa58_0 (Wt.mk rfl rfl) rfl rfl (L.ld (j := 0) bx51.mem nag3 (Wt.mk rfl rfl) rfl rfl rfl rfl (L.fa fa34_1 (Wt.mk rfl rfl) rfl rfl (L.ld (j := 1) bx4.mem nag3 (Wt.mk rfl rfl) rfl rfl rfl rfl (L.bi (Wt.mk rfl rfl) rfl rfl rfl rfl (L.pkF Wt.no rfl rfl rfl rfl (L.sb (J75 _ _ ⟨(decide (x49.1 ≥ p0.2.1)), (orF hc).symm, rfl, rfl⟩) rfl)))))))
 refine E.cF rfl hc (E.exit (X.seqX (X.seqX ?_)))
 have hx := ho38 _ (Option.some.inj hm).symm
 exact X.sub (K43 _ _ ⟨s40, (), hx.symm, m0, rfl, rfl⟩) Sub.nil

theorem cf62 : Cf Tryd.prog 62 := Cf.mk Tryd.func62 (by kernel_rfl) (by kernel_rfl)
theorem cf63 : Cf Tryd.prog 63 := Cf.mk Tryd.func63 (by kernel_rfl) (by kernel_rfl)
theorem fa34_2 : FA Tryd.prog 34 2 2 := FA.mk Tryd.underlying34 rfl rfl ⟨1, by decide, by kernel_rfl⟩
/-- What automaton.Check computes. -/
noncomputable def m_automaton_Check (p0 : List Int × Int × List Int × (List (Int × Int × Int))) : Option Int :=
  (m_automaton_checkSet p0.1 32).bind fun r7 =>
  if (r7 != 0) then
    some r7
  else
    if decide (p0.2.1 < 0) then
      some 2
    else
      if decide (p0.2.1 > 4096) then
        some 3
      else
        (m_automaton_checkSet p0.2.2.1 p0.2.1).bind fun r10 =>
        if (r10 != 0) then
          some r10
        else
          (m_automaton_checkEdges p0).bind fun r13 =>
          some r13
set_option maxRecDepth 100000 in
set_option maxHeartbeats 8000000 in
theorem m_automaton_Check_c {s : Sig} {p0 : List Int × Int × List Int × (List (Int × Int × Int))} {a1 : Option Addr} {c1 : Nat} {a2 : Option Addr} {c2 : Nat} {a3 : Option Addr} {c3 : Nat} {r : Int} (h1 : RdL (rK .i64) s a1 c1 p0.1) (h2 : RdL (rK .i64) s a2 c2 p0.2.2.1) (h3 : RdL (rP (rK .i64) (rP (rK .i64) (rK .i64))) s a3 c3 p0.2.2.2) (hm : m_automaton_Check p0 = some r) :
    Calls Tryd.prog 39 #[.agg #[.slice a1 p0.1.length c1, .int .i64 p0.2.1, .slice a2 p0.2.2.1.length c2, .slice a3 p0.2.2.2.length c3]] s.w (RetS No s fun v s' => v = .int .i64 r) := by
 unfold m_automaton_Check at hm
 obtain ⟨N, hN, hNb⟩ := s.fresh
 have m0 : Mv (Up N No) s s := Mv.refl _ _
 refine E.entry Tryd.func39 rfl Tryd.ntmps39 rfl rfl (E.seq (E.reg (L.box (N + 0) Wt.no rfl rfl rfl fun b4 s5 m6 bx4 => ?_)))
 replace m0 := m0.trans m6.no
 replace h1 := h1.mono (m6.le no_No)
 replace h2 := h2.mono (m6.le no_No)
 replace h3 := h3.mono (m6.le no_No)
 refine L.as Wt.no rfl rfl (L.nil (X.seqN (E.seq (E.seq (E.reg (L.fa fa34_0 Wt.no rfl rfl (L.ld (j := 0) bx4.mem nag31 Wt.no rfl rfl rfl rfl ?_)))))))
 obtain ⟨r7, er7, hm⟩ := bindS hm
 refine L.ca cf62 rfl rfl Wt.no rfl (m_automaton_checkSet_c (s := s5) (p0 := p0.1) (p1 := 32) h1 er7) rfl ?_
 rintro _ s8 m9 rfl
 replace m0 := m0.trans m9.no
 replace bx4 := bx4.mv m9 no_No
 replace h1 := h1.mono (m9.le no_No)
 replace h2 := h2.mono (m9.le no_No)
 replace h3 := h3.mono (m9.le no_No)
 refine L.as Wt.no rfl rfl (L.nil (X.seqN (E.seq (E.reg (L.mv Wt.no rfl rfl (L.bi Wt.no rfl rfl rfl rfl (L.nil (X.seqN ?_))))))))
 rcases ifS hm with ⟨hc, hm⟩ | ⟨hc, hm⟩
 ·refine E.cT rfl hc (E.seq (E.reg (L.mv Wt.no rfl rfl (L.as Wt.no rfl rfl (L.nil (X.seqN (E.ret (X.seqR ?_))))))))
  obtain rfl := Option.some.inj hm
  exact X.rt (.inl rfl) Tryd.results39 (Rs.tmp rfl Rs.nil) rfl ⟨_, (s8).ren N (fun _ => 0), rfl, rfl, m0.ren hNb, rfl⟩
 refine E.cF rfl hc (E.skip (X.seqN (E.seq (E.block (E.seq (E.reg (L.fa fa34_1 Wt.no rfl rfl (L.ld (j := 1) bx4.mem nag3 Wt.no rfl rfl rfl rfl (L.bi Wt.no rfl rfl rfl rfl (L.as Wt.no rfl rfl (L.nil (X.seqN ?_))))))))))))
 rcases ifS hm with ⟨hc, hm⟩ | ⟨hc, hm⟩
 ·refine E.cT rfl hc (E.seq (E.reg (L.as Wt.no rfl rfl (L.nil (X.seqN (E.ret (X.blkR (X.seqR ?_))))))))
  obtain rfl := Option.some.inj hm
  exact X.rt (.inl rfl) Tryd.results39 (Rs.tmp rfl Rs.nil) rfl ⟨_, (s8).ren N (fun _ => 0), rfl, rfl, m0.ren hNb, rfl⟩
 refine E.cF rfl hc (E.seq (E.reg (L.fa fa34_1 Wt.no rfl rfl (L.ld (j := 1) bx4.mem nag3 Wt.no rfl rfl rfl rfl (L.bi Wt.no rfl rfl rfl rfl (L.as Wt.no rfl rfl (L.nil (X.seqN ?_))))))))
 rcases ifS hm with ⟨hc, hm⟩ | ⟨hc, hm⟩
 ·refine E.cT rfl hc (E.seq (E.reg (L.as Wt.no rfl rfl (L.nil (X.seqN (E.ret (X.blkR (X.seqR ?_))))))))
  obtain rfl := Option.some.inj hm
  exact X.rt (.inl rfl) Tryd.results39 (Rs.tmp rfl Rs.nil) rfl ⟨_, (s8).ren N (fun _ => 0), rfl, rfl, m0.ren hNb, rfl⟩
 refine E.cF rfl hc (E.skip (X.blkN (X.seqN (E.seq (E.seq (E.reg (L.fa fa34_2 Wt.no rfl rfl (L.ld (j := 2) bx4.mem nag31 Wt.no rfl rfl rfl rfl (L.fa fa34_1 Wt.no rfl rfl (L.ld (j := 1) bx4.mem nag3 Wt.no rfl rfl rfl rfl ?_))))))))))
 obtain ⟨r10, er10, hm⟩ := bindS hm
 refine L.ca cf62 rfl rfl Wt.no rfl (m_automaton_checkSet_c (s := s8) (p0 := p0.2.2.1) (p1 := p0.2.1) h2 er10) rfl ?_
 rintro _ s11 m12 rfl
 replace m0 := m0.trans m12.no
 replace bx4 := bx4.mv m12 no_No
 replace h1 := h1.mono (m12.le no_No)
 replace h2 := h2.mono (m12.le no_No)
 replace h3 := h3.mono (m12.le no_No)
 refine L.as Wt.no rfl rfl (L.nil (X.seqN (E.seq (E.reg (L.mv Wt.no rfl rfl (L.bi Wt.no rfl rfl rfl rfl (L.nil (X.seqN ?_))))))))
 rcases ifS hm with ⟨hc, hm⟩ | ⟨hc, hm⟩
 ·refine E.cT rfl hc (E.seq (E.reg (L.mv Wt.no rfl rfl (L.as Wt.no rfl rfl (L.nil (X.seqN (E.ret (X.seqR ?_))))))))
  obtain rfl := Option.some.inj hm
  exact X.rt (.inl rfl) Tryd.results39 (Rs.tmp rfl Rs.nil) rfl ⟨_, (s11).ren N (fun _ => 0), rfl, rfl, m0.ren hNb, rfl⟩
 refine E.cF rfl hc (E.skip (X.seqN (E.seq (E.reg (L.lg (j := 0) (cs := [.slice a1 p0.1.length c1, .int .i64 p0.2.1, .slice a2 p0.2.2.1.length c2, .slice a3 p0.2.2.2.length c3]) bx4.mem ag34 Wt.no rfl rfl rfl rfl rfl ?_)))))
 obtain ⟨r13, er13, hm⟩ := bindS hm
 refine L.ca cf63 rfl rfl Wt.no rfl (m_automaton_checkEdges_c (s := s11) (p0 := p0) h1 h2 h3 er13) rfl ?_
 rintro _ s14 m15 rfl
 replace m0 := m0.trans m15.no
 refine L.as Wt.no rfl rfl (L.nil (X.seqN (E.ret ?_)))
 obtain rfl := Option.some.inj hm
 exact X.rt (.inl rfl) Tryd.results39 (Rs.tmp rfl Rs.nil) rfl ⟨_, (s14).ren N (fun _ => 0), rfl, rfl, m0.ren hNb, rfl⟩

/-- What slices.Clone<<>int,int> computes. -/
noncomputable def m_slices_Clone_int (p0 : List Int) : Option (List Int) :=
  (app ([] : List Int) p0).bind fun x6 =>
  some x6
set_option maxRecDepth 100000 in
set_option maxHeartbeats 8000000 in
theorem m_slices_Clone_int_c {s : Sig} {p0 : List Int} {a1 : Option Addr} {c1 : Nat} {u0 : Nat} {r : List Int} (h1 : RdL (rK .i64) s a1 c1 p0) (hm : m_slices_Clone_int p0 = some r) :
    Calls Tryd.prog 50 #[.slice a1 p0.length c1] s.w (RetS No s fun v s' => ∃ (a2 : Option Addr) (c2 : Nat), v = .slice a2 r.length c2 ∧ RowT (rK .i64) s' u0 3 a2 c2 r) := by
 unfold m_slices_Clone_int at hm
 obtain ⟨N, hN, hNb⟩ := s.fresh
 have m0 : Mv (Up N No) s s := Mv.refl _ _
 refine E.entry Tryd.func50 rfl Tryd.ntmps50 rfl rfl (E.seq (E.reg (L.as Wt.no rfl rfl (L.nil (X.seqN (E.seq (E.seq (E.reg (L.mv Wt.no rfl rfl (L.nil? Tryd.underlying31 Wt.no rfl rfl rfl (L.nil (X.seqN ?_))))))))))))
 rcases isNoneS a1 with hc | hc
 ·refine E.cT rfl hc ?_
  obtain rfl := h1.eq_nil hc
  replace hm : some ([] : List Int) = some r := by simpa [app, slc] using hm
  refine E.seq (E.reg (L.as Wt.no rfl rfl (L.nil (X.seqN (E.ret (X.seqR ?_))))))
  obtain rfl := Option.some.inj hm
  exact X.rt (.inl rfl) Tryd.results50 (Rs.tmp rfl Rs.nil) rfl ⟨_, (s).ren N (fun _ => 0), rfl, rfl, m0.ren hNb, ⟨none, 0, rfl, RowT.nil⟩⟩
 refine E.cF rfl hc (E.skip (X.seqN (E.seq (E.reg (L.bs0 (N + 0) bs31 (Nat.le_of_ble_eq_true rfl) Wt.no rfl fun b3 s4 m5 bx3 => ?_)))))
 replace m0 := m0.trans m5.no
 replace h1 := h1.mono (m5.le no_No)
 have h3 := Bx.row (r := (rK .i64)) (xs := ([] : List Int)) bx3 rfl (Nat.le_of_ble_eq_true rfl)
 refine L.mv Wt.no rfl rfl ?_
 obtain ⟨x6, ex6, hm⟩ := bindS hm
 refine L.ap (r := (rK .i64)) Tryd.underlying31 el3 rfl (tgp hN) h3 h1.wk Wt.no rfl rfl ex6 rfl fun a7 c7 s8 m9 h7 => ?_
 replace m0 := m0.trans (m9.one up)
 refine L.as Wt.no rfl rfl (L.nil (X.seqN (E.ret ?_)))
 obtain rfl := Option.some.inj hm
 exact X.rt (.inl rfl) Tryd.results50 (Rs.tmp rfl Rs.nil) rfl ⟨_, (s8).ren N (fun k => cond (Nat.beq k 0) u0 (0)), rfl, rfl, m0.ren hNb, ⟨a7, c7, rfl, (h7.ren hN)⟩⟩

end Go.Proofs.YtfbapajcheammaaDoor

namespace Go.Proofs.YtfbapajcheammaaDoor
open Go Go.RowKit
theorem cf50 : Cf Tryd.prog 50 := Cf.mk Tryd.func50 (by kernel_rfl) (by kernel_rfl)
theorem cf52 : Cf Tryd.prog 52 := Cf.mk Tryd.func52 (by kernel_rfl) (by kernel_rfl)
theorem sl35 : Sl Tryd.prog 35 31 1 := Sl.mk' Tryd.underlying35 (by kernel_rfl)
theorem zr3 : Zr Tryd.prog (rK .i64) 3 8 (0 : Int) := Zr.mk' (v := .int .i64 0) (by kernel_rfl) (by kernel_rfl) (by kernel_rfl) (fun _ => rfl)
noncomputable def m_blocking_spread_j1 (st170 : Int × List Int × List Int) (l177 : List Int) (l179 : List Int) : Option ((Int × List Int × List Int) ⊕ (List Int × List Int)) :=
  some (.inl (W (st170.1 + 1), l177, l179))
noncomputable def m_blocking_spread_l4 (st127 : Int × List Int × List Int) (x134 : List Int) (st170 : Int × List Int × List Int) : Option ((Int × List Int × List Int) ⊕ (List Int × List Int)) :=
  if decide (st170.1 < (x134.length : Int)) then
    (idx x134 st170.1).bind fun x182 =>
    (idx st170.2.2 x182).bind fun x184 =>
    if decide (x184 < 0) then
      (idx st170.2.1 st127.1).bind fun x186 =>
      (idx st170.2.2 x186).bind fun x188 =>
      (idx st170.2.2 x182).bind fun x190 =>
      (upd st170.2.2 x182 (W (x188 + 1))).bind fun x192 =>
      (app st170.2.1 ([x182] : List Int)).bind fun x198 =>
      m_blocking_spread_j1 st170 x198 x192
    else
      m_blocking_spread_j1 st170 st170.2.1 st170.2.2
  else
    some (.inr st170.2)
noncomputable def m_blocking_spread_l3 (r9 : List (List Int)) (st127 : Int × List Int × List Int) : Option ((Int × List Int × List Int) ⊕ (List Int)) :=
  if decide (st127.1 < (st127.2.1.length : Int)) then
    (idx st127.2.1 st127.1).bind fun x132 =>
    (idx r9 x132).bind fun x134 =>
    (iter (m_blocking_spread_l4 st127 x134) (0, st127.2)).bind fun o170 =>
    some (.inl (W (st127.1 + 1), o170))
  else
    some (.inr st127.2.2)
noncomputable def m_blocking_spread_l2 (r30 : List Int) (st45 : Int × List Int) : Option ((Int × List Int) ⊕ (List Int)) :=
  if decide (st45.1 < (r30.length : Int)) then
    (idx r30 st45.1).bind fun x203 =>
    (idx st45.2 x203).bind fun x205 =>
    (upd st45.2 x203 0).bind fun x207 =>
    some (.inl (W (st45.1 + 1), x207))
  else
    some (.inr st45.2)
noncomputable def m_blocking_spread_l1 (x13 : List Int) (st26 : Int × List Int) : Option ((Int × List Int) ⊕ (List Int)) :=
  if decide (st26.1 < (x13.length : Int)) then
    (idx st26.2 st26.1).bind fun x211 =>
    (upd st26.2 st26.1 (-1)).bind fun x213 =>
    some (.inl (W (st26.1 + 1), x213))
  else
    some (.inr st26.2)
/-- What blocking.spread computes. -/
noncomputable def m_blocking_spread (p0 : List Int × Int × List Int × (List (Int × Int × Int))) (p1 : List Int) : Option (List Int) :=
  (m_blocking_into p0).bind fun r9 =>
  (mkL p0.2.1 (0 : Int)).bind fun x13 =>
  (iter (m_blocking_spread_l1 x13) (0, x13)).bind fun o26 =>
  (m_slices_Clone_int p1).bind fun r30 =>
  (iter (m_blocking_spread_l2 r30) (0, o26)).bind fun o45 =>
  (iter (m_blocking_spread_l3 r9) (0, r30, o45)).bind fun o127 =>
  some o127
set_option maxRecDepth 100000 in
set_option maxHeartbeats 8000000 in
theorem m_blocking_spread_c {s : Sig} {p0 : List Int × Int × List Int × (List (Int × Int × Int))} {p1 : List Int} {a1 : Option Addr} {c1 : Nat} {a2 : Option Addr} {c2 : Nat} {a3 : Option Addr} {c3 : Nat} {a4 : Option Addr} {c4 : Nat} {u0 : Nat} {r : List Int} (h1 : RdL (rK .i64) s a1 c1 p0.1) (h2 : RdL (rK .i64) s a2 c2 p0.2.2.1) (h3 : RdL (rP (rK .i64) (rP (rK .i64) (rK .i64))) s a3 c3 p0.2.2.2) (h4 : RdL (rK .i64) s a4 c4 p1) (hm : m_blocking_spread p0 p1 = some r) :
    Calls Tryd.prog 35 #[.agg #[.slice a1 p0.1.length c1, .int .i64 p0.2.1, .slice a2 p0.2.2.1.length c2, .slice a3 p0.2.2.2.length c3], .slice a4 p1.length c4] s.w (RetS No s fun v s' => ∃ (a5 : Option Addr) (c5 : Nat), v = .slice a5 r.length c5 ∧ RowT (rK .i64) s' u0 3 a5 c5 r) := by
 unfold m_blocking_spread at hm
 obtain ⟨N, hN, hNb⟩ := s.fresh
 have m0 : Mv (Up N No) s s := Mv.refl _ _
 refine E.entry Tryd.func35 rfl Tryd.ntmps35 rfl rfl (E.seq (E.reg (L.box (N + 0) Wt.no rfl rfl rfl fun b6 s7 m8 bx6 => ?_)))
 replace m0 := m0.trans m8.no
 replace h4 := h4.mono (m8.le no_No)
 replace h1 := h1.mono (m8.le no_No)
 replace h2 := h2.mono (m8.le no_No)
 replace h3 := h3.mono (m8.le no_No)
 refine L.as Wt.no rfl rfl (L.nil (X.seqN (E.seq (E.reg (L.lg (j := 0) (cs := [.slice a1 p0.1.length c1, .int .i64 p0.2.1, .slice a2 p0.2.2.1.length c2, .slice a3 p0.2.2.2.length c3]) bx6.mem ag34 Wt.no rfl rfl rfl rfl rfl ?_)))))
 obtain ⟨r9, er9, hm⟩ := bindS hm
 refine L.ca cf52 rfl rfl Wt.no rfl (m_blocking_into_c (s := s7) (p0 := p0) h1 h2 h3 er9) rfl ?_
 rintro _ s10 m11 ⟨a12, c12, rfl, h12⟩
 replace m0 := m0.trans m11.no
 replace h4 := h4.mono (m11.le no_No)
 replace bx6 := bx6.mv m11 no_No
 refine L.as Wt.no rfl rfl (L.nil (X.seqN (E.seq (E.reg (L.fa fa34_1 Wt.no rfl rfl (L.ld (j := 1) bx6.mem nag3 Wt.no rfl rfl rfl rfl ?_))))))
 obtain ⟨x13, ex13, hm⟩ := bindS hm
 refine L.mk (z := (0 : Int)) (N + 1) Tryd.underlying31 zr3 rfl Wt.no rfl rfl ex13 rfl fun b14 s15 m16 h14 => ?_
 replace m0 := m0.trans m16.no
 replace h4 := h4.mono (m16.le no_No)
 replace h12 := h12.mono (m16.le no_No)
 refine L.as Wt.no rfl rfl (L.nil (X.seqN (E.seq (E.seq (E.reg (L.mv Wt.no rfl rfl (L.len sl31 Wt.no rfl rfl (L.mv Wt.no rfl rfl (L.nil (X.seqN (E.block ?_)))))))))))
 obtain ⟨o26, eo26, hm⟩ := bindS hm
 refine E.cut (x := .exit 0) (fun e w => ∃ (s29 : Sig), Mv (Up N No) s s29 ∧ RowT (rK .i64) s29 (N + 1) 3 (some ⟨b14, 0, none⟩) x13.length o26 ∧ RdL (rL (rK .i64)) s29 a12 c12 r9 ∧ RdL (rK .i64) s29 a4 c4 p1 ∧ e = [(6, .slice (some ⟨b14, 0, none⟩) o26.length x13.length), (5, .slice a12 r9.length c12), (1, .slice a4 p1.length c4)] ∧ w = s29.w) ?_ ?_
 ·rintro _ _ ⟨s29, m0, h14, h12, h4, rfl, rfl⟩
  refine X.blkE (X.seqN (E.seq (E.reg (L.mv Wt.no rfl rfl ?_))))
  obtain ⟨r30, er30, hm⟩ := bindS hm
  refine L.ca cf50 rfl rfl Wt.no rfl (m_slices_Clone_int_c (s := s29) (p0 := p1) (u0 := (N + 2)) h4 er30) rfl ?_
  rintro _ s31 m32 ⟨a33, c33, rfl, h33⟩
  replace m0 := m0.trans m32.no
  replace h12 := h12.mono (m32.le no_No)
  replace h14 := h14.mv m32 no_No no_No
  refine L.as Wt.no rfl rfl (L.nil (X.seqN (E.seq (E.seq (E.reg (L.mv Wt.no rfl rfl (L.len sl31 Wt.no rfl rfl (L.mv Wt.no rfl rfl (L.nil (X.seqN (E.block ?_)))))))))))
  obtain ⟨o45, eo45, hm⟩ := bindS hm
  refine E.cut (x := .exit 2) (fun e w => ∃ (s48 : Sig), Mv (Up N No) s s48 ∧ RowT (rK .i64) s48 (N + 2) 3 a33 c33 r30 ∧ RowT (rK .i64) s48 (N + 1) 3 (some ⟨b14, 0, none⟩) x13.length o45 ∧ RdL (rL (rK .i64)) s48 a12 c12 r9 ∧ e = [(8, .slice a33 r30.length c33), (6, .slice (some ⟨b14, 0, none⟩) o45.length x13.length), (5, .slice a12 r9.length c12)] ∧ w = s48.w) ?_ ?_
  ·rintro _ _ ⟨s48, m0, h33, h14, h12, rfl, rfl⟩
   refine X.blkE (X.seqN (E.seq (E.seq (E.reg (L.as Wt.no rfl rfl (L.nil (X.seqN (E.block ?_))))))))
   obtain ⟨o127, eo127, hm⟩ := bindS hm
   refine E.cut (x := .exit 4) (fun e w => ∃ (s130 : Sig), Mv (Up N No) s s130 ∧ RowT (rK .i64) s130 (N + 1) 3 (some ⟨b14, 0, none⟩) x13.length o127 ∧ e = [(6, .slice (some ⟨b14, 0, none⟩) o127.length x13.length)] ∧ w = s130.w) ?_ ?_
   ·rintro _ _ ⟨s130, m0, h14, rfl, rfl⟩
    refine X.blkE (X.seqN (E.seq (E.reg (L.mv Wt.no rfl rfl (L.as Wt.no rfl rfl (L.nil (X.seqN (E.ret ?_))))))))
    obtain rfl := Option.some.inj hm
    exact X.rt (.inl rfl) Tryd.results35 (Rs.tmp rfl Rs.nil) rfl ⟨_, (s130).ren N (fun k => cond (Nat.beq k 1) u0 (0)), rfl, rfl, m0.ren hNb, ⟨(some ⟨b14, 0, none⟩), x13.length, rfl, (h14.ren hN)⟩⟩
   intro K131
   refine E.iter (fun (st127 : Int × List Int × List Int) (e : List (Nat × Value)) (w : World) => ∃ (s129 : Sig) (a51 : Option Addr) (c51 : Nat), Mv (Up N No) s s129 ∧ RowT (rK .i64) s129 (N + 2) 3 a51 c51 st127.2.1 ∧ RowT (rK .i64) s129 (N + 1) 3 (some ⟨b14, 0, none⟩) x13.length st127.2.2 ∧ RdL (rL (rK .i64)) s129 a12 c12 r9 ∧ e = [(11, .int .i64 st127.1), (8, .slice a51 st127.2.1.length c51), (6, .slice (some ⟨b14, 0, none⟩) st127.2.2.length x13.length), (5, .slice a12 r9.length c12)] ∧ w = s129.w) eo127 ⟨s48, a33, c33, m0, h33, h14, h12, rfl, rfl⟩ (Sub.rf rfl) ?_
   rintro st127 res127 hm ih127 ho127 _ _ ⟨s129, a51, c51, m0, h51, h14, h12, rfl, rfl⟩
   unfold m_blocking_spread_l3 at hm
   refine E.seq (E.seq (E.reg (L.mv Wt.no rfl rfl (L.mv Wt.no rfl rfl (L.len sl31 Wt.no rfl rfl (L.bi Wt.no rfl rfl rfl rfl (L.nil (X.seqN ?_))))))))
   rcases ifS hm with ⟨hc, hm⟩ | ⟨hc, hm⟩
   ·refine E.cT rfl hc (E.skip (X.seqN (E.seq (E.block (E.seq (E.reg (L.mv Wt.no rfl rfl (L.mv Wt.no rfl rfl (L.mv Wt.no rfl rfl ?_)))))))))
    obtain ⟨x132, ex132, hm⟩ := bindS hm
    refine L.ir (r := (rK .i64)) sl31 h51 Wt.no rfl rfl ex132 rfl fun b133 o133 cc133 me133 rd133 sp133 => ?_
    obtain rfl := rd133
    refine L.ld (j := 0) me133 nag3 Wt.no rfl rfl rfl rfl ?_
    obtain ⟨x134, ex134, hm⟩ := bindS hm
    refine L.ix (r := (rL (rK .i64))) sl35 h12 Wt.no rfl rfl ex134 rfl fun b135 o135 cc135 me135 rd135 => ?_
    obtain ⟨a136, c136, rfl, h136⟩ := rd135
    refine L.ld (j := 0) me135 nag31 Wt.no rfl rfl rfl rfl (L.len sl31 Wt.no rfl rfl (L.mv Wt.no rfl rfl (L.nil (X.seqN (E.block ?_)))))
    obtain ⟨o170, eo170, hm⟩ := bindS hm
    refine E.cut (x := .exit 6) (fun e w => ∃ (s175 : Sig) (a172 : Option Addr) (c172 : Nat), Mv (Up N No) s s175 ∧ RowT (rK .i64) s175 (N + 2) 3 a172 c172 o170.1 ∧ RowT (rK .i64) s175 (N + 1) 3 (some ⟨b14, 0, none⟩) x13.length o170.2 ∧ RdL (rL (rK .i64)) s175 a12 c12 r9 ∧ e = [(11, .int .i64 st127.1), (8, .slice a172 o170.1.length c172), (6, .slice (some ⟨b14, 0, none⟩) o170.2.length x13.length), (5, .slice a12 r9.length c12)] ∧ w = s175.w) ?_ ?_
    ·rintro _ _ ⟨s175, a172, c172, m0, h172, h14, h12, rfl, rfl⟩
     exact X.blkE (X.blkN (X.seqN (E.reg (L.mv Wt.no rfl rfl (L.bi Wt.no rfl rfl rfl rfl (L.as Wt.no rfl rfl (L.nil (X.sub (ih127 _ (Option.some.inj hm).symm _ _ ⟨s175, a172, c172, m0, h172, h14, h12, rfl, rfl⟩) (Sub.rf rfl)))))))))
    intro K176
    refine E.iter (fun (st170 : Int × List Int × List Int) (e : List (Nat × Value)) (w : World) => ∃ (s174 : Sig) (a139 : Option Addr) (c139 : Nat), Mv (Up N No) s s174 ∧ RdL (rK .i64) s174 a136 c136 x134 ∧ RowT (rK .i64) s174 (N + 2) 3 a139 c139 st170.2.1 ∧ RowT (rK .i64) s174 (N + 1) 3 (some ⟨b14, 0, none⟩) x13.length st170.2.2 ∧ RdL (rL (rK .i64)) s174 a12 c12 r9 ∧ e = [(54, .int .i64 st170.1), (53, .int .i64 (x134.length : Int)), (52, .slice a136 x134.length c136), (11, .int .i64 st127.1), (8, .slice a139 st170.2.1.length c139), (6, .slice (some ⟨b14, 0, none⟩) st170.2.2.length x13.length), (5, .slice a12 r9.length c12)] ∧ w = s174.w) eo170 ⟨s129, a51, c51, m0, h136, h51, h14, h12, rfl, rfl⟩ (Sub.rf rfl) ?_
    rintro st170 res170 hm ih170 ho170 _ _ ⟨s174, a139, c139, m0, h136, h139, h14, h12, rfl, rfl⟩
    unfold m_blocking_spread_l4 at hm
    refine E.seq (E.reg (L.bi Wt.no rfl rfl rfl rfl (L.nil (X.seqN (E.seq ?_)))))
    rcases ifS hm with ⟨hc, hm⟩ | ⟨hc, hm⟩
    ·refine E.cT rfl hc (E.skip (X.seqN (E.seqJ (fun e w => ∃ (s180 : Sig) (l177 : List Int) (l179 : List Int) (a178 : Option Addr) (c178 : Nat), m_blocking_spread_j1 st170 l177 l179 = some res170 ∧ Mv (Up N No) s s180 ∧ RowT (rK .i64) s180 (N + 2) 3 a178 c178 l177 ∧ RowT (rK .i64) s180 (N + 1) 3 (some ⟨b14, 0, none⟩) x13.length l179 ∧ RdL (rK .i64) s180 a136 c136 x134 ∧ RdL (rL (rK .i64)) s180 a12 c12 r9 ∧ e = [(8, .slice a178 l177.length c178), (6, .slice (some ⟨b14, 0, none⟩) l179.length x13.length), (54, .int .i64 st170.1), (53, .int .i64 (x134.length : Int)), (52, .slice a136 x134.length c136), (11, .int .i64 st127.1), (5, .slice a12 r9.length c12)] ∧ w = s180.w) ?_ ?_)))
     ·rintro _ _ ⟨s180, l177, l179, a178, c178, hm, m0, h178, h14, h136, h12, rfl, rfl⟩
      unfold m_blocking_spread_j1 at hm
      exact E.reg (L.bi Wt.no rfl rfl rfl rfl (L.mv Wt.no rfl rfl (L.nil (X.sub (ih170 _ (Option.some.inj hm).symm _ _ ⟨s180, a178, c178, m0, h136, h178, h14, h12, rfl, rfl⟩) (Sub.rf rfl)))))
     intro Jj181
     refine E.block (E.seq (E.reg ?_))
     obtain ⟨x182, ex182, hm⟩ := bindS hm
     refine L.ix (r := (rK .i64)) sl31 h136 Wt.no rfl rfl ex182 rfl fun b183 o183 cc183 me183 rd183 => ?_
     obtain rfl := rd183
     refine L.ld (j := 0) me183 nag3 Wt.no rfl rfl rfl rfl (L.as Wt.no rfl rfl (L.nil (X.seqN (E.seq (E.reg (L.mv Wt.no rfl rfl (L.mv Wt.no rfl rfl ?_)))))))
     obtain ⟨x184, ex184, hm⟩ := bindS hm
     refine L.ir (r := (rK .i64)) sl31 h14 Wt.no rfl rfl ex184 rfl fun b185 o185 cc185 me185 rd185 sp185 => ?_
     obtain rfl := rd185
     refine L.ld (j := 0) me185 nag3 Wt.no rfl rfl rfl rfl (L.bi Wt.no rfl rfl rfl rfl (L.nil (X.seqN ?_)))
     rcases ifS hm with ⟨hc, hm⟩ | ⟨hc, hm⟩
     ·refine E.cT rfl hc (E.seq (E.reg (L.mv Wt.no rfl rfl (L.mv Wt.no rfl rfl (L.mv Wt.no rfl rfl (L.mv Wt.no rfl rfl (L.mv Wt.no rfl rfl ?_)))))))
      obtain ⟨x186, ex186, hm⟩ := bindS hm
      refine L.ir (r := (rK .i64)) sl31 h139 Wt.no rfl rfl ex186 rfl fun b187 o187 cc187 me187 rd187 sp187 => ?_
      obtain rfl := rd187
      refine L.ld (j := 0) me187 nag3 Wt.no rfl rfl rfl rfl ?_
      obtain ⟨x188, ex188, hm⟩ := bindS hm
      refine L.ir (r := (rK .i64)) sl31 h14 Wt.no rfl rfl ex188 rfl fun b189 o189 cc189 me189 rd189 sp189 => ?_
      obtain rfl := rd189
      refine L.ld (j := 0) me189 nag3 Wt.no rfl rfl rfl rfl (L.bi Wt.no rfl rfl rfl rfl ?_)
      obtain ⟨x190, ex190, hm⟩ := bindS hm
      refine L.ir (r := (rK .i64)) sl31 h14 Wt.no rfl rfl ex190 rfl fun b191 o191 cc191 me191 rd191 sp191 => ?_
      obtain rfl := rd191
      obtain ⟨x192, ex192, hm⟩ := bindS hm
      have elx192 := upd_len ex192
      refine L.su (fo := 0) (c := [.int .i64 (W (x188 + 1))]) (z := W (x188 + 1)) h14 sp191 ex190 ex192 (tgp hN) nag3.sz Wt.no rfl rfl rfl rfl rfl rfl (fun c0 hc0 => by obtain rfl := hc0; exact rfl) fun s193 m194 h14 => ?_
      replace m0 := m0.trans (m194.one up)
      replace h12 := h12.mono (m194.le (tg0 hN))
      replace h139 := h139.mv m194 (tgN (by decide)) (tg0 hN)
      replace h136 := h136.mono (m194.le (tg0 hN))
      refine L.reval (d := 6) rfl elx192 (L.nil (X.seqN (E.reg (L.mv Wt.no rfl rfl (L.mv Wt.no rfl rfl (L.bsE (k := 1) (cs := [.int .i64 x182]) 0 bs31 (Nat.le_of_ble_eq_true rfl) Wt.no rfl rfl rfl rfl fun b195 s196 m197 bx195 => ?_))))))
      replace m0 := m0.trans m197.no
      replace h12 := h12.mono (m197.le no_No)
      replace h14 := h14.mv m197 no_No no_No
      replace h139 := h139.mv m197 no_No no_No
      replace h136 := h136.mono (m197.le no_No)
      have h195 := Bx.rdL (r := (rK .i64)) (xs := ([x182] : List Int)) bx195 ⟨[.int .i64 x182], _, rfl, rfl, rfl⟩ (Nat.le_of_ble_eq_true rfl)
      obtain ⟨x198, ex198, hm⟩ := bindS hm
      refine L.ap (r := (rK .i64)) Tryd.underlying31 el3 rfl (tgp hN) h139 h195.wk Wt.no rfl rfl ex198 rfl fun a199 c199 s200 m201 h199 => ?_
      replace m0 := m0.trans (m201.one up)
      replace h136 := h136.mono (m201.le (tg0 hN))
      replace h12 := h12.mono (m201.le (tg0 hN))
      replace h14 := h14.mv m201 (tgN (by decide)) (tg0 hN)
      exact L.as Wt.no rfl rfl (L.nil (X.blkN (X.sub (Jj181 _ _ ⟨s200, x198, x192, a199, c199, hm, m0, h199, h14, h136, h12, rfl, rfl⟩) (Sub.rf rfl))))
     exact E.cF rfl hc (E.skip (X.blkN (X.sub (Jj181 _ _ ⟨s174, st170.2.1, st170.2.2, a139, c139, hm, m0, h139, h14, h136, h12, rfl, rfl⟩) (Sub.rf rfl))))
    refine E.cF rfl hc (E.exit (X.seqX (X.seqX ?_)))
    have hx := ho170 _ (Option.some.inj hm).symm
    subst hx
    exact X.sub (K176 _ _ ⟨s174, a139, c139, m0, h139, h14, h12, rfl, rfl⟩) (Sub.rf rfl)
   refine E.cF rfl hc (E.exit (X.seqX (X.seqX ?_)))
   have hx := ho127 _ (Option.some.inj hm).symm
   subst hx
   exact X.sub (K131 _ _ ⟨s129, m0, h14, rfl, rfl⟩) (Sub.rf rfl)
  intro K202
  refine E.iter (fun (st45 : Int × List Int) (e : List (Nat × Value)) (w : World) => ∃ (s47 : Sig), Mv (Up N No) s s47 ∧ RowT (rK .i64) s47 (N + 2) 3 a33 c33 r30 ∧ RowT (rK .i64) s47 (N + 1) 3 (some ⟨b14, 0, none⟩) x13.length st45.2 ∧ RdL (rL (rK .i64)) s47 a12 c12 r9 ∧ e = [(32, .int .i64 st45.1), (31, .int .i64 (r30.length : Int)), (30, .slice a33 r30.length c33), (8, .slice a33 r30.length c33), (6, .slice (some ⟨b14, 0, none⟩) st45.2.length x13.length), (5, .slice a12 r9.length c12)] ∧ w = s47.w) eo45 ⟨s31, m0, h33, h14, h12, rfl, rfl⟩ (Sub.rf rfl) ?_
  rintro st45 res45 hm ih45 ho45 _ _ ⟨s47, m0, h33, h14, h12, rfl, rfl⟩
  unfold m_blocking_spread_l2 at hm
  refine E.seq (E.reg (L.bi Wt.no rfl rfl rfl rfl (L.nil (X.seqN (E.seq ?_)))))
  rcases ifS hm with ⟨hc, hm⟩ | ⟨hc, hm⟩
  ·refine E.cT rfl hc (E.skip (X.seqN (E.seq (E.block (E.seq (E.reg ?_))))))
   obtain ⟨x203, ex203, hm⟩ := bindS hm
   refine L.ir (r := (rK .i64)) sl31 h33 Wt.no rfl rfl ex203 rfl fun b204 o204 cc204 me204 rd204 sp204 => ?_
   obtain rfl := rd204
   refine L.ld (j := 0) me204 nag3 Wt.no rfl rfl rfl rfl (L.as Wt.no rfl rfl (L.nil (X.seqN (E.reg (L.mv Wt.no rfl rfl (L.mv Wt.no rfl rfl ?_))))))
   obtain ⟨x205, ex205, hm⟩ := bindS hm
   refine L.ir (r := (rK .i64)) sl31 h14 Wt.no rfl rfl ex205 rfl fun b206 o206 cc206 me206 rd206 sp206 => ?_
   obtain rfl := rd206
   obtain ⟨x207, ex207, hm⟩ := bindS hm
   have elx207 := upd_len ex207
   refine L.su (fo := 0) (c := [.int .i64 0]) (z := 0) h14 sp206 ex205 ex207 (tgp hN) nag3.sz Wt.no rfl rfl rfl rfl rfl rfl (fun c0 hc0 => by obtain rfl := hc0; exact rfl) fun s208 m209 h14 => ?_
   replace m0 := m0.trans (m209.one up)
   replace h12 := h12.mono (m209.le (tg0 hN))
   replace h33 := h33.mv m209 (tgN (by decide)) (tg0 hN)
   exact L.reval (d := 6) rfl elx207 (L.nil (X.blkN (X.seqN (E.reg (L.bi Wt.no rfl rfl rfl rfl (L.mv Wt.no rfl rfl (L.nil (X.sub (ih45 _ (Option.some.inj hm).symm _ _ ⟨s208, m0, h33, h14, h12, rfl, rfl⟩) (Sub.rf rfl)))))))))
  refine E.cF rfl hc (E.exit (X.seqX (X.seqX ?_)))
  have hx := ho45 _ (Option.some.inj hm).symm
  subst hx
  exact X.sub (K202 _ _ ⟨s47, m0, h33, h14, h12, rfl, rfl⟩) (Sub.rf rfl)
 intro K210
 refine E.iter (fun (st26 : Int × List Int) (e : List (Nat × Value)) (w : World) => ∃ (s28 : Sig), Mv (Up N No) s s28 ∧ RowT (rK .i64) s28 (N + 1) 3 (some ⟨b14, 0, none⟩) x13.length st26.2 ∧ RdL (rL (rK .i64)) s28 a12 c12 r9 ∧ RdL (rK .i64) s28 a4 c4 p1 ∧ e = [(21, .int .i64 st26.1), (20, .int .i64 (x13.length : Int)), (6, .slice (some ⟨b14, 0, none⟩) st26.2.length x13.length), (5, .slice a12 r9.length c12), (1, .slice a4 p1.length c4)] ∧ w = s28.w) eo26 ⟨s15, m0, h14, h12, h4, rfl, rfl⟩ (Sub.rf rfl) ?_
 rintro st26 res26 hm ih26 ho26 _ _ ⟨s28, m0, h14, h12, h4, rfl, rfl⟩
 unfold m_blocking_spread_l1 at hm
 refine E.seq (E.reg (L.bi Wt.no rfl rfl rfl rfl (L.nil (X.seqN (E.seq ?_)))))
 rcases ifS hm with ⟨hc, hm⟩ | ⟨hc, hm⟩
 ·refine E.cT rfl hc (E.skip (X.seqN (E.seq (E.block (E.seq (E.reg (L.mv Wt.no rfl rfl (L.as Wt.no rfl rfl (L.nil (X.seqN (E.reg (L.mv Wt.no rfl rfl (L.mv Wt.no rfl rfl ?_)))))))))))))
  obtain ⟨x211, ex211, hm⟩ := bindS hm
  refine L.ir (r := (rK .i64)) sl31 h14 Wt.no rfl rfl ex211 rfl fun b212 o212 cc212 me212 rd212 sp212 => ?_
  obtain rfl := rd212
  obtain ⟨x213, ex213, hm⟩ := bindS hm
  have elx213 := upd_len ex213
  refine L.su (fo := 0) (c := [.int .i64 (-1)]) (z := (-1)) h14 sp212 ex211 ex213 (tgp hN) nag3.sz Wt.no rfl rfl rfl rfl rfl rfl (fun c0 hc0 => by obtain rfl := hc0; exact rfl) fun s214 m215 h14 => ?_
  replace m0 := m0.trans (m215.one up)
  replace h4 := h4.mono (m215.le (tg0 hN))
  replace h12 := h12.mono (m215.le (tg0 hN))
  exact L.reval (d := 6) rfl elx213 (L.nil (X.blkN (X.seqN (E.reg (L.bi Wt.no rfl rfl rfl rfl (L.mv Wt.no rfl rfl (L.nil (X.sub (ih26 _ (Option.some.inj hm).symm _ _ ⟨s214, m0, h14, h12, h4, rfl, rfl⟩) (Sub.rf rfl)))))))))
 refine E.cF rfl hc (E.exit (X.seqX (X.seqX ?_)))
 have hx := ho26 _ (Option.some.inj hm).symm
 subst hx
 exact X.sub (K210 _ _ ⟨s28, m0, h14, h12, h4, rfl, rfl⟩) (Sub.rf rfl)

/-- What blocking.kinds$1 computes. -/
noncomputable def m_blocking_kinds_1 (q0 : List Int) (p0 : Int) : Option Bool :=
  (idx q0 p0).bind fun x3 =>
  some (x3 == 0)
set_option maxRecDepth 100000 in
set_option maxHeartbeats 8000000 in
theorem m_blocking_kinds_1_c {s : Sig} {q0 : List Int} {p0 : Int} {a1 : Option Addr} {c1 : Nat} {b2 : Nat} {r : Bool} (h1 : RdL (rK .i64) s a1 c1 q0) (bx2 : Bx s 0 b2 #[.slice a1 q0.length c1] 31) (hm : m_blocking_kinds_1 q0 p0 = some r) :
    Calls Tryd.prog 64 #[.int .i64 p0, .pointer (some ⟨b2, 0, none⟩)] s.w (RetS No s fun v s' => v = .bool r) := by
 unfold m_blocking_kinds_1 at hm
 obtain ⟨N, hN, hNb⟩ := s.fresh
 have m0 : Mv (Up N No) s s := Mv.refl _ _
 refine E.entry Tryd.func64 rfl Tryd.ntmps64 rfl rfl (E.seq (E.reg (L.as Wt.no rfl rfl (L.nil (X.seqN (E.seq (E.reg (L.ld (j := 0) bx2.mem nag31 Wt.no rfl rfl rfl rfl (L.mv Wt.no rfl rfl ?_)))))))))
 obtain ⟨x3, ex3, hm⟩ := bindS hm
 refine L.ix (r := (rK .i64)) sl31 h1 Wt.no rfl rfl ex3 rfl fun b4 o4 cc4 me4 rd4 => ?_
 obtain rfl := rd4
 refine L.ld (j := 0) me4 nag3 Wt.no rfl rfl rfl rfl (L.bi Wt.no rfl rfl rfl rfl (L.as Wt.no rfl rfl (L.nil (X.seqN (E.ret ?_)))))
 obtain rfl := Option.some.inj hm
 exact X.rt (.inl rfl) Tryd.results64 (Rs.tmp rfl Rs.nil) rfl ⟨_, (s).ren N (fun _ => 0), rfl, rfl, m0.ren hNb, rfl⟩

/-- What blocking.kinds$2 computes. -/
noncomputable def m_blocking_kinds_2 (q0 : List Int) (p0 : Int) : Option Bool :=
  (idx q0 p0).bind fun x3 =>
  some (decide (x3 > 0))
set_option maxRecDepth 100000 in
set_option maxHeartbeats 8000000 in
theorem m_blocking_kinds_2_c {s : Sig} {q0 : List Int} {p0 : Int} {a1 : Option Addr} {c1 : Nat} {b2 : Nat} {r : Bool} (h1 : RdL (rK .i64) s a1 c1 q0) (bx2 : Bx s 0 b2 #[.slice a1 q0.length c1] 31) (hm : m_blocking_kinds_2 q0 p0 = some r) :
    Calls Tryd.prog 65 #[.int .i64 p0, .pointer (some ⟨b2, 0, none⟩)] s.w (RetS No s fun v s' => v = .bool r) := by
 unfold m_blocking_kinds_2 at hm
 obtain ⟨N, hN, hNb⟩ := s.fresh
 have m0 : Mv (Up N No) s s := Mv.refl _ _
 refine E.entry Tryd.func65 rfl Tryd.ntmps65 rfl rfl (E.seq (E.reg (L.as Wt.no rfl rfl (L.nil (X.seqN (E.seq (E.reg (L.ld (j := 0) bx2.mem nag31 Wt.no rfl rfl rfl rfl (L.mv Wt.no rfl rfl ?_)))))))))
 obtain ⟨x3, ex3, hm⟩ := bindS hm
 refine L.ix (r := (rK .i64)) sl31 h1 Wt.no rfl rfl ex3 rfl fun b4 o4 cc4 me4 rd4 => ?_
 obtain rfl := rd4
 refine L.ld (j := 0) me4 nag3 Wt.no rfl rfl rfl rfl (L.bi Wt.no rfl rfl rfl rfl (L.as Wt.no rfl rfl (L.nil (X.seqN (E.ret ?_)))))
 obtain rfl := Option.some.inj hm
 exact X.rt (.inl rfl) Tryd.results65 (Rs.tmp rfl Rs.nil) rfl ⟨_, (s).ren N (fun _ => 0), rfl, rfl, m0.ren hNb, rfl⟩

/-- What blocking.kinds$3 computes. -/
noncomputable def m_blocking_kinds_3 (q0 : List Int) (p0 : Int) : Option Bool :=
  (idx q0 p0).bind fun x3 =>
  some (x3 == 0)
set_option maxRecDepth 100000 in
set_option maxHeartbeats 8000000 in
theorem m_blocking_kinds_3_c {s : Sig} {q0 : List Int} {p0 : Int} {a1 : Option Addr} {c1 : Nat} {b2 : Nat} {r : Bool} (h1 : RdL (rK .i64) s a1 c1 q0) (bx2 : Bx s 0 b2 #[.slice a1 q0.length c1] 31) (hm : m_blocking_kinds_3 q0 p0 = some r) :
    Calls Tryd.prog 66 #[.int .i64 p0, .pointer (some ⟨b2, 0, none⟩)] s.w (RetS No s fun v s' => v = .bool r) := by
 unfold m_blocking_kinds_3 at hm
 obtain ⟨N, hN, hNb⟩ := s.fresh
 have m0 : Mv (Up N No) s s := Mv.refl _ _
 refine E.entry Tryd.func66 rfl Tryd.ntmps66 rfl rfl (E.seq (E.reg (L.as Wt.no rfl rfl (L.nil (X.seqN (E.seq (E.reg (L.ld (j := 0) bx2.mem nag31 Wt.no rfl rfl rfl rfl (L.mv Wt.no rfl rfl ?_)))))))))
 obtain ⟨x3, ex3, hm⟩ := bindS hm
 refine L.ix (r := (rK .i64)) sl31 h1 Wt.no rfl rfl ex3 rfl fun b4 o4 cc4 me4 rd4 => ?_
 obtain rfl := rd4
 refine L.ld (j := 0) me4 nag3 Wt.no rfl rfl rfl rfl (L.bi Wt.no rfl rfl rfl rfl (L.as Wt.no rfl rfl (L.nil (X.seqN (E.ret ?_)))))
 obtain rfl := Option.some.inj hm
 exact X.rt (.inl rfl) Tryd.results66 (Rs.tmp rfl Rs.nil) rfl ⟨_, (s).ren N (fun _ => 0), rfl, rfl, m0.ren hNb, rfl⟩

/-- What blocking.kinds$4 computes. -/
noncomputable def m_blocking_kinds_4 (q0 : List Int) (p0 : Int) : Option Bool :=
  (idx q0 p0).bind fun x3 =>
  some (decide (x3 > 0))
set_option maxRecDepth 100000 in
set_option maxHeartbeats 8000000 in
theorem m_blocking_kinds_4_c {s : Sig} {q0 : List Int} {p0 : Int} {a1 : Option Addr} {c1 : Nat} {b2 : Nat} {r : Bool} (h1 : RdL (rK .i64) s a1 c1 q0) (bx2 : Bx s 0 b2 #[.slice a1 q0.length c1] 31) (hm : m_blocking_kinds_4 q0 p0 = some r) :
    Calls Tryd.prog 67 #[.int .i64 p0, .pointer (some ⟨b2, 0, none⟩)] s.w (RetS No s fun v s' => v = .bool r) := by
 unfold m_blocking_kinds_4 at hm
 obtain ⟨N, hN, hNb⟩ := s.fresh
 have m0 : Mv (Up N No) s s := Mv.refl _ _
 refine E.entry Tryd.func67 rfl Tryd.ntmps67 rfl rfl (E.seq (E.reg (L.as Wt.no rfl rfl (L.nil (X.seqN (E.seq (E.reg (L.ld (j := 0) bx2.mem nag31 Wt.no rfl rfl rfl rfl (L.mv Wt.no rfl rfl ?_)))))))))
 obtain ⟨x3, ex3, hm⟩ := bindS hm
 refine L.ix (r := (rK .i64)) sl31 h1 Wt.no rfl rfl ex3 rfl fun b4 o4 cc4 me4 rd4 => ?_
 obtain rfl := rd4
 refine L.ld (j := 0) me4 nag3 Wt.no rfl rfl rfl rfl (L.bi Wt.no rfl rfl rfl rfl (L.as Wt.no rfl rfl (L.nil (X.seqN (E.ret ?_)))))
 obtain rfl := Option.some.inj hm
 exact X.rt (.inl rfl) Tryd.results67 (Rs.tmp rfl Rs.nil) rfl ⟨_, (s).ren N (fun _ => 0), rfl, rfl, m0.ren hNb, rfl⟩

/-- What blocking.kinds$5 computes. -/
noncomputable def m_blocking_kinds_5 (p0 : Int) : Option Bool :=
  some true
set_option maxRecDepth 100000 in
set_option maxHeartbeats 8000000 in
theorem m_blocking_kinds_5_c {s : Sig} {p0 : Int} {r : Bool} (hm : m_blocking_kinds_5 p0 = some r) :
    Calls Tryd.prog 68 #[.int .i64 p0] s.w (RetS No s fun v s' => v = .bool r) := by
 unfold m_blocking_kinds_5 at hm
 obtain ⟨N, hN, hNb⟩ := s.fresh
 have m0 : Mv (Up N No) s s := Mv.refl _ _
 refine E.entry Tryd.func68 rfl Tryd.ntmps68 rfl rfl (E.seq (E.reg (L.as Wt.no rfl rfl (L.nil (X.seqN (E.seq (E.reg (L.as Wt.no rfl rfl (L.nil (X.seqN (E.ret ?_)))))))))))
 obtain rfl := Option.some.inj hm
 exact X.rt (.inl rfl) Tryd.results68 (Rs.tmp rfl Rs.nil) rfl ⟨_, (s).ren N (fun _ => 0), rfl, rfl, m0.ren hNb, rfl⟩

theorem fa109_1 : FA Tryd.prog 109 1 1 := FA.mk Tryd.underlying109 rfl rfl ⟨1, by decide, by kernel_rfl⟩
theorem nag102 : NAg Tryd.prog 102 := NAg.mk' Tryd.underlying102 rfl (by kernel_rfl)
/-- What blocking.kinds$6 computes. -/
noncomputable def m_blocking_kinds_6 (q0 : Int) (p0 : Int × (Option (Int → Option Bool))) : Option Bool :=
  p0.2.bind fun f6 =>
  (f6 q0).bind fun r7 =>
  some r7
set_option maxRecDepth 100000 in
set_option maxHeartbeats 8000000 in
theorem m_blocking_kinds_6_c {s : Sig} {q0 : Int} {p0 : Int × (Option (Int → Option Bool))} {v1 : Value} {b2 : Nat} {r : Bool} (h1 : FO1 Tryd.prog s v1 (fun (x0 : Int) => [.int .i64 x0]) (fun (r : Bool) => .bool r) p0.2) (bx2 : Bx s 0 b2 #[.int .i64 q0] 3) (hm : m_blocking_kinds_6 q0 p0 = some r) :
    Calls Tryd.prog 70 #[.agg #[.int .i64 p0.1, v1], .pointer (some ⟨b2, 0, none⟩)] s.w (RetS No s fun v s' => v = .bool r) := by
 unfold m_blocking_kinds_6 at hm
 obtain ⟨N, hN, hNb⟩ := s.fresh
 have m0 : Mv (Up N No) s s := Mv.refl _ _
 refine E.entry Tryd.func70 rfl Tryd.ntmps70 rfl rfl (E.seq (E.reg (L.box (N + 0) Wt.no rfl rfl rfl fun b3 s4 m5 bx3 => ?_)))
 replace m0 := m0.trans m5.no
 replace bx2 := bx2.mv m5 no_No
 replace h1 := h1.mono (m5.le no_No)
 refine L.as Wt.no rfl rfl (L.nil (X.seqN (E.seq (E.reg (L.fa fa109_1 Wt.no rfl rfl (L.ld (j := 1) bx3.mem nag102 Wt.no rfl rfl rfl rfl (L.ld (j := 0) bx2.mem nag3 Wt.no rfl rfl rfl rfl ?_)))))))
 obtain ⟨f6, ef6, hm⟩ := bindS hm
 have hf6 := FO1.some h1 ef6
 obtain ⟨r7, er7, hm⟩ := bindS hm
 refine L.fv1 (y := q0) hf6 rfl rfl Wt.no rfl rfl er7 rfl fun s8 m9 => ?_
 replace m0 := m0.trans m9.no
 refine L.as Wt.no rfl rfl (L.nil (X.seqN (E.ret ?_)))
 obtain rfl := Option.some.inj hm
 exact X.rt (.inl rfl) Tryd.results70 (Rs.tmp rfl Rs.nil) rfl ⟨_, (s8).ren N (fun _ => 0), rfl, rfl, m0.ren hNb, rfl⟩

end Go.Proofs.YtfbapajcheammaaDoor

namespace Go.Proofs.YtfbapajcheammaaDoor
open Go Go.RowKit
theorem ag109 : Ag Tryd.prog 109 2 := Ag.mk' Tryd.underlying109 rfl (by kernel_rfl)
theorem sl110 : Sl Tryd.prog 110 109 2 := Sl.mk' Tryd.underlying110 (by kernel_rfl)
noncomputable def m_slices_IndexFunc_blocking_test_blocking_test_l1 (p0 : List (Int × (Option (Int → Option Bool)))) (p1 : (Int × (Option (Int → Option Bool))) → Option Bool) (st10 : Int) : Option (Int ⊕ (Unit ⊕ Int)) :=
  if decide (st10 < (p0.length : Int)) then
    (idx p0 st10).bind fun x19 =>
    (p1 x19).bind fun r22 =>
    if r22 then
      some (.inr (.inr (st10)))
    else
      some (.inl (W (st10 + 1)))
  else
    some (.inr (.inl ()))
/-- What blocking.test> computes. -/
noncomputable def m_slices_IndexFunc_blocking_test_blocking_test (p0 : List (Int × (Option (Int → Option Bool)))) (p1 : (Int × (Option (Int → Option Bool))) → Option Bool) : Option Int :=
  (iter (m_slices_IndexFunc_blocking_test_blocking_test_l1 p0 p1) 0).bind fun o10 =>
  match o10 with
  | .inl u13 =>
    some (-1)
  | .inr (u16) =>
    some u16
set_option maxRecDepth 100000 in
set_option maxHeartbeats 8000000 in
theorem m_slices_IndexFunc_blocking_test_blocking_test_c {s : Sig} {p0 : List (Int × (Option (Int → Option Bool)))} {p1 : (Int × (Option (Int → Option Bool))) → Option Bool} {a1 : Option Addr} {c1 : Nat} {vp1 : Value} {r : Int} (h1 : RdL (rP (rK .i64) (rF1 Tryd.prog (fun (x0 : Int) => [.int .i64 x0]) (fun (r : Bool) => .bool r))) s a1 c1 p0) (hp1 : FW1 Tryd.prog s vp1 (rP (rK .i64) (rF1 Tryd.prog (fun (x0 : Int) => [.int .i64 x0]) (fun (r : Bool) => .bool r))) (fun (r : Bool) => .bool r) p1) (hm : m_slices_IndexFunc_blocking_test_blocking_test p0 p1 = some r) :
    Calls Tryd.prog 69 #[.slice a1 p0.length c1, vp1] s.w (RetS No s fun v s' => v = .int .i64 r) := by
 unfold m_slices_IndexFunc_blocking_test_blocking_test at hm
 obtain ⟨N, hN, hNb⟩ := s.fresh
 have m0 : Mv (Up N No) s s := Mv.refl _ _
 refine E.entry Tryd.func69 rfl Tryd.ntmps69 rfl rfl (E.seq (E.reg (L.as Wt.no rfl rfl (L.nil (X.seqN (E.seq (E.seq (E.reg (L.mv Wt.no rfl rfl (L.len sl110 Wt.no rfl rfl (L.mv Wt.no rfl rfl (L.nil (X.seqN (E.block ?_))))))))))))))
 obtain ⟨o10, eo10, hm⟩ := bindS hm
 refine E.cut (x := .exit 0) (fun e w => ∃ (s14 : Sig) (u13 : Unit), o10 = .inl u13 ∧ Mv (Up N No) s s14 ∧ e = [] ∧ w = s14.w) ?_ ?_
 ·rintro _ _ ⟨s14, u13, rfl, m0, rfl, rfl⟩
  dsimp only at hm
  refine X.blkE (X.seqN (E.seq (E.reg (L.as Wt.no rfl rfl (L.nil (X.seqN (E.ret ?_)))))))
  obtain rfl := Option.some.inj hm
  exact X.rt (.inl rfl) Tryd.results69 (Rs.tmp rfl Rs.nil) rfl ⟨_, (s14).ren N (fun _ => 0), rfl, rfl, m0.ren hNb, rfl⟩
 intro K15
 refine E.cut (x := .ret) (fun e w => ∃ (s17 : Sig) (u16 : Int), o10 = .inr (u16) ∧ Mv (Up N No) s s17 ∧ e = [(4, .int .i64 u16)] ∧ w = s17.w) ?_ ?_
 ·rintro _ _ ⟨s17, u16, rfl, m0, rfl, rfl⟩
  dsimp only at hm
  refine X.blkR (X.seqR ?_)
  obtain rfl := Option.some.inj hm
  exact X.rt (.inl rfl) Tryd.results69 (Rs.tmp rfl Rs.nil) rfl ⟨_, (s17).ren N (fun _ => 0), rfl, rfl, m0.ren hNb, rfl⟩
 intro K18
 refine E.iter (fun (st10 : Int) (e : List (Nat × Value)) (w : World) => ∃ (s12 : Sig), Mv (Up N No) s s12 ∧ RdL (rP (rK .i64) (rF1 Tryd.prog (fun (x0 : Int) => [.int .i64 x0]) (fun (r : Bool) => .bool r))) s12 a1 c1 p0 ∧ FW1 Tryd.prog s12 vp1 (rP (rK .i64) (rF1 Tryd.prog (fun (x0 : Int) => [.int .i64 x0]) (fun (r : Bool) => .bool r))) (fun (r : Bool) => .bool r) p1 ∧ e = [(8, .int .i64 st10), (7, .int .i64 (p0.length : Int)), (0, .slice a1 p0.length c1), (1, vp1)] ∧ w = s12.w) eo10 ⟨s, m0, h1, hp1, rfl, rfl⟩ (Sub.rf rfl) ?_
 rintro st10 res10 hm ih10 ho10 _ _ ⟨s12, m0, h1, hp1, rfl, rfl⟩
 unfold m_slices_IndexFunc_blocking_test_blocking_test_l1 at hm
 refine E.seq (E.reg (L.bi Wt.no rfl rfl rfl rfl (L.nil (X.seqN (E.seq ?_)))))
 rcases ifS hm with ⟨hc, hm⟩ | ⟨hc, hm⟩
 ·refine E.cT rfl hc (E.skip (X.seqN (E.seq (E.block (E.seq (E.reg (L.mv Wt.no rfl rfl (L.as Wt.no rfl rfl (L.nil (X.seqN (E.seq (E.reg (L.mv Wt.no rfl rfl (L.mv Wt.no rfl rfl (L.mv Wt.no rfl rfl ?_)))))))))))))))
  obtain ⟨x19, ex19, hm⟩ := bindS hm
  refine L.ix (r := (rP (rK .i64) (rF1 Tryd.prog (fun (x0 : Int) => [.int .i64 x0]) (fun (r : Bool) => .bool r)))) sl110 h1 Wt.no rfl rfl ex19 rfl fun b20 o20 cc20 me20 rd20 => ?_
  obtain ⟨_, _, rfl, rfl, ⟨v21, rfl, h21⟩⟩ := rd20
  refine L.lg (j := 0) (cs := [.int .i64 x19.1, v21]) me20 ag109 Wt.no rfl rfl rfl rfl rfl ?_
  obtain ⟨r22, er22, hm⟩ := bindS hm
  refine L.fw1 (cs := [.int .i64 x19.1, v21]) (y := x19) hp1 ⟨[.int .i64 x19.1], [v21], rfl, rfl, ⟨_, rfl, h21⟩⟩ rfl rfl Wt.no rfl rfl er22 rfl fun s23 m24 => ?_
  replace m0 := m0.trans m24.no
  replace h1 := h1.mono (m24.le no_No)
  replace hp1 := hp1.mono (m24.le no_No)
  refine L.nil (X.seqN ?_)
  rcases ifS hm with ⟨hc, hm⟩ | ⟨hc, hm⟩
  ·refine E.cT rfl hc (E.seq (E.reg (L.mv Wt.no rfl rfl (L.as Wt.no rfl rfl (L.nil (X.seqN (E.ret (X.blkR (X.seqR (X.seqR ?_))))))))))
   have hx := ho10 _ (Option.some.inj hm).symm
   exact X.sub (K18 _ _ ⟨s23, st10, hx.symm, m0, rfl, rfl⟩) (Sub.rf rfl)
  exact E.cF rfl hc (E.skip (X.blkN (X.seqN (E.reg (L.bi Wt.no rfl rfl rfl rfl (L.mv Wt.no rfl rfl (L.nil (X.sub (ih10 _ (Option.some.inj hm).symm _ _ ⟨s23, m0, h1, hp1, rfl, rfl⟩) (Sub.rf rfl)))))))))
 refine E.cF rfl hc (E.exit (X.seqX (X.seqX ?_)))
 have hx := ho10 _ (Option.some.inj hm).symm
 exact X.sub (K15 _ _ ⟨s12, (), hx.symm, m0, rfl, rfl⟩) Sub.nil

theorem bs110 : Bs Tryd.prog 110 109 2 [.int .i64 0, .nilFunc] := Bs.mk' Tryd.underlying110 (by kernel_rfl) (by kernel_rfl) rfl
theorem cf35 : Cf Tryd.prog 35 := Cf.mk Tryd.func35 (by kernel_rfl) (by kernel_rfl)
theorem cf64 : Cf Tryd.prog 64 := Cf.mk Tryd.func64 (by kernel_rfl) (by kernel_rfl)
theorem cf65 : Cf Tryd.prog 65 := Cf.mk Tryd.func65 (by kernel_rfl) (by kernel_rfl)
theorem cf66 : Cf Tryd.prog 66 := Cf.mk Tryd.func66 (by kernel_rfl) (by kernel_rfl)
theorem cf67 : Cf Tryd.prog 67 := Cf.mk Tryd.func67 (by kernel_rfl) (by kernel_rfl)
theorem cf68 : Cf Tryd.prog 68 := Cf.mk Tryd.func68 (by kernel_rfl) (by kernel_rfl)
theorem cf69 : Cf Tryd.prog 69 := Cf.mk Tryd.func69 (by kernel_rfl) (by kernel_rfl)
theorem cf70 : Cf Tryd.prog 70 := Cf.mk Tryd.func70 (by kernel_rfl) (by kernel_rfl)
theorem fa109_0 : FA Tryd.prog 109 0 0 := FA.mk Tryd.underlying109 rfl rfl ⟨1, by decide, by kernel_rfl⟩
theorem nag4 : NAg Tryd.prog 4 := NAg.mk' Tryd.underlying4 rfl (by kernel_rfl)
theorem pl109 : Pl Tryd.prog 109 [(0, 1), (1, 1)] [.int .i64 0, .nilFunc] := Pl.str Tryd.underlying109 (by kernel_rfl) (by kernel_rfl)
theorem sl77 : Sl Tryd.prog 77 4 1 := Sl.mk' Tryd.underlying77 (by kernel_rfl)
theorem zr4 : Zr Tryd.prog rB 4 1 false := Zr.mk' (v := .bool false) (by kernel_rfl) (by kernel_rfl) (by kernel_rfl) (fun _ => rfl)
theorem zz3 : (Tryd.prog.info? 3).bind (·.zero) = some (.int .i64 0) := by kernel_rfl
theorem zz31 : (Tryd.prog.info? 31).bind (·.zero) = some (.slice none 0 0) := by kernel_rfl
theorem fv68 {s : Sig} : FV1 Tryd.prog s (.func (.func 68) #[] #[]) (fun (x0 : Int) => [.int .i64 x0]) (fun r => .bool r) m_blocking_kinds_5 := ⟨68, #[], #[], rfl, cf68, fun x0 r hm s' hl => by have hh := m_blocking_kinds_5_c (s := s') hm; simpa using hh⟩
noncomputable def m_blocking_kinds_l3 (r8 : List Int) (r71 : List Int) (x89 : List Int) (st125 : Int × List Int) : Option ((Int × List Int) ⊕ (List Int)) :=
  if decide (st125.1 < (x89.length : Int)) then
    (m_slices_IndexFunc_blocking_test_blocking_test ([(1, (some (m_blocking_kinds_1 r8))), (2, (some (m_blocking_kinds_2 r8))), (3, (some (m_blocking_kinds_3 r71))), (5, (some (m_blocking_kinds_4 r71))), (4, (some m_blocking_kinds_5))] : List (Int × (Option (Int → Option Bool)))) (m_blocking_kinds_6 st125.1)).bind fun r137 =>
    (idx ([(1, (some (m_blocking_kinds_1 r8))), (2, (some (m_blocking_kinds_2 r8))), (3, (some (m_blocking_kinds_3 r71))), (5, (some (m_blocking_kinds_4 r71))), (4, (some m_blocking_kinds_5))] : List (Int × (Option (Int → Option Bool)))) r137).bind fun x145 =>
    (idx st125.2 st125.1).bind fun x151 =>
    (upd st125.2 st125.1 x145.1).bind fun x154 =>
    some (.inl (W (st125.1 + 1), x154))
  else
    some (.inr st125.2)
noncomputable def m_blocking_kinds_j1 (st65 : Int × List Int) (l159 : List Int) : Option ((Int × List Int) ⊕ (List Int)) :=
  some (.inl (W (st65.1 + 1), l159))
noncomputable def m_blocking_kinds_l2 (r8 : List Int) (o37 : List Bool) (st65 : Int × List Int) : Option ((Int × List Int) ⊕ (List Int)) :=
  if decide (st65.1 < (r8.length : Int)) then
    (idx r8 st65.1).bind fun x163 =>
    (if decide (x163 < 0) then
      (idx o37 st65.1).bind fun x175 =>
      some (!x175)
    else
      some false).bind fun b165 =>
    if b165 then
      (app st65.2 ([st65.1] : List Int)).bind fun x170 =>
      m_blocking_kinds_j1 st65 x170
    else
      m_blocking_kinds_j1 st65 st65.2
  else
    some (.inr st65.2)
noncomputable def m_blocking_kinds_l1 (p0 : List Int × Int × List Int × (List (Int × Int × Int))) (st37 : Int × List Bool) : Option ((Int × List Bool) ⊕ (List Bool)) :=
  if decide (st37.1 < (p0.2.2.2.length : Int)) then
    (idx p0.2.2.2 st37.1).bind fun x178 =>
    (idx st37.2 x178.1).bind fun x185 =>
    (upd st37.2 x178.1 true).bind fun x187 =>
    some (.inl (W (st37.1 + 1), x187))
  else
    some (.inr st37.2)
/-- What blocking.kinds computes. -/
noncomputable def m_blocking_kinds (p0 : List Int × Int × List Int × (List (Int × Int × Int))) : Option (List Int) :=
  (m_blocking_spread p0 p0.2.2.1).bind fun r8 =>
  (mkL p0.2.1 false).bind fun x17 =>
  (iter (m_blocking_kinds_l1 p0) (0, x17)).bind fun o37 =>
  (iter (m_blocking_kinds_l2 r8 o37) (0, ([] : List Int))).bind fun o65 =>
  (m_blocking_spread p0 o65).bind fun r71 =>
  (mkL p0.2.1 (0 : Int)).bind fun x89 =>
  (iter (m_blocking_kinds_l3 r8 r71 x89) (0, x89)).bind fun o125 =>
  some o125
set_option maxRecDepth 100000 in
set_option maxHeartbeats 8000000 in
theorem m_blocking_kinds_c {s : Sig} {p0 : List Int × Int × List Int × (List (Int × Int × Int))} {a1 : Option Addr} {c1 : Nat} {a2 : Option Addr} {c2 : Nat} {a3 : Option Addr} {c3 : Nat} {u0 : Nat} {r : List Int} (h1 : RdL (rK .i64) s a1 c1 p0.1) (h2 : RdL (rK .i64) s a2 c2 p0.2.2.1) (h3 : RdL (rP (rK .i64) (rP (rK .i64) (rK .i64))) s a3 c3 p0.2.2.2) (hm : m_blocking_kinds p0 = some r) :
    Calls Tryd.prog 40 #[.agg #[.slice a1 p0.1.length c1, .int .i64 p0.2.1, .slice a2 p0.2.2.1.length c2, .slice a3 p0.2.2.2.length c3]] s.w (RetS No s fun v s' => ∃ (a4 : Option Addr) (c4 : Nat), v = .slice a4 r.length c4 ∧ RowT (rK .i64) s' u0 3 a4 c4 r) := by
 unfold m_blocking_kinds at hm
 obtain ⟨N, hN, hNb⟩ := s.fresh
 have m0 : Mv (Up N No) s s := Mv.refl _ _
 refine E.entry Tryd.func40 rfl Tryd.ntmps40 rfl rfl (E.seq (E.reg (L.box (N + 0) Wt.no rfl rfl rfl fun b5 s6 m7 bx5 => ?_)))
 replace m0 := m0.trans m7.no
 replace h1 := h1.mono (m7.le no_No)
 replace h2 := h2.mono (m7.le no_No)
 replace h3 := h3.mono (m7.le no_No)
 refine L.as Wt.no rfl rfl (L.nil (X.seqN (E.seq (E.reg (L.lg (j := 0) (cs := [.slice a1 p0.1.length c1, .int .i64 p0.2.1, .slice a2 p0.2.2.1.length c2, .slice a3 p0.2.2.2.length c3]) bx5.mem ag34 Wt.no rfl rfl rfl rfl rfl (L.fa fa34_2 Wt.no rfl rfl (L.ld (j := 2) bx5.mem nag31 Wt.no rfl rfl rfl rfl ?_)))))))
 obtain ⟨r8, er8, hm⟩ := bindS hm
 refine L.ca cf35 rfl rfl Wt.no rfl (m_blocking_spread_c (s := s6) (p0 := p0) (p1 := p0.2.2.1) (u0 := 0) h1 h2 h3 h2 er8) rfl ?_
 rintro _ s9 m10 ⟨a11, c11, rfl, h11⟩
 replace h11 := h11.p
 replace m0 := m0.trans m10.no
 replace bx5 := bx5.mv m10 no_No
 replace h1 := h1.mono (m10.le no_No)
 replace h2 := h2.mono (m10.le no_No)
 replace h3 := h3.mono (m10.le no_No)
 refine L.al (N + 1) zz31 rfl Wt.no rfl fun b12 s13 m14 bx12 => ?_
 replace m0 := m0.trans m14.no
 replace h11 := h11.mono (m14.le no_No)
 replace bx5 := bx5.mv m14 no_No
 replace h1 := h1.mono (m14.le no_No)
 replace h2 := h2.mono (m14.le no_No)
 replace h3 := h3.mono (m14.le no_No)
 refine L.st (c := [.slice a11 r8.length c11]) (cs' := #[.slice a11 r8.length c11]) bx12 nag31.sz Wt.no rfl rfl rfl rfl rfl (Nat.le_of_ble_eq_true rfl) rfl fun s15 m16 bx12 => ?_
 replace m0 := m0.trans (m16.one up)
 replace bx5 := bx5.mv m16 (tgN (by decide))
 replace h1 := h1.mono (m16.le (tg0 hN))
 replace h2 := h2.mono (m16.le (tg0 hN))
 replace h3 := h3.mono (m16.le (tg0 hN))
 replace h11 := h11.mono (m16.le (tg0 hN))
 refine L.nil (X.seqN (E.seq (E.reg (L.fa fa34_1 Wt.no rfl rfl (L.ld (j := 1) bx5.mem nag3 Wt.no rfl rfl rfl rfl ?_)))))
 obtain ⟨x17, ex17, hm⟩ := bindS hm
 refine L.mk (z := false) (N + 2) Tryd.underlying77 zr4 rfl Wt.no rfl rfl ex17 rfl fun b18 s19 m20 h18 => ?_
 replace m0 := m0.trans m20.no
 replace bx5 := bx5.mv m20 no_No
 replace h1 := h1.mono (m20.le no_No)
 replace h2 := h2.mono (m20.le no_No)
 replace h3 := h3.mono (m20.le no_No)
 replace bx12 := bx12.mv m20 no_No
 replace h11 := h11.mono (m20.le no_No)
 refine L.as Wt.no rfl rfl (L.nil (X.seqN (E.seq (E.seq (E.reg (L.fa fa34_3 Wt.no rfl rfl (L.ld (j := 3) bx5.mem nag32 Wt.no rfl rfl rfl rfl (L.len sl32 Wt.no rfl rfl (L.mv Wt.no rfl rfl (L.nil (X.seqN (E.block ?_))))))))))))
 obtain ⟨o37, eo37, hm⟩ := bindS hm
 refine E.cut (x := .exit 0) (fun e w => ∃ (s40 : Sig), Mv (Up N No) s s40 ∧ RowT rB s40 (N + 2) 4 (some ⟨b18, 0, none⟩) x17.length o37 ∧ RdL (rK .i64) s40 a1 c1 p0.1 ∧ RdL (rK .i64) s40 a2 c2 p0.2.2.1 ∧ RdL (rP (rK .i64) (rP (rK .i64) (rK .i64))) s40 a3 c3 p0.2.2.2 ∧ RdL (rK .i64) s40 a11 c11 r8 ∧ Bx s40 (N + 0) b5 #[.slice a1 p0.1.length c1, .int .i64 p0.2.1, .slice a2 p0.2.2.1.length c2, .slice a3 p0.2.2.2.length c3] 34 ∧ Bx s40 (N + 1) b12 #[.slice a11 r8.length c11] 31 ∧ e = [(4, .slice (some ⟨b18, 0, none⟩) o37.length x17.length), (3, .pointer (some ⟨b12, 0, none⟩)), (1, .pointer (some ⟨b5, 0, none⟩))] ∧ w = s40.w) ?_ ?_
 ·rintro _ _ ⟨s40, m0, h18, h1, h2, h3, h11, bx5, bx12, rfl, rfl⟩
  refine X.blkE (X.seqN (E.seq (E.reg (L.as Wt.no rfl rfl (L.nil (X.seqN (E.seq (E.seq (E.reg (L.ld (j := 0) bx12.mem nag31 Wt.no rfl rfl rfl rfl (L.len sl31 Wt.no rfl rfl (L.mv Wt.no rfl rfl (L.nil (X.seqN (E.block ?_)))))))))))))))
  obtain ⟨o65, eo65, hm⟩ := bindS hm
  refine E.cut (x := .exit 2) (fun e w => ∃ (s69 : Sig) (a67 : Option Addr) (c67 : Nat), Mv (Up N No) s s69 ∧ RowT (rK .i64) s69 (N + 4) 3 a67 c67 o65 ∧ RdL (rK .i64) s69 a1 c1 p0.1 ∧ RdL (rK .i64) s69 a2 c2 p0.2.2.1 ∧ RdL (rP (rK .i64) (rP (rK .i64) (rK .i64))) s69 a3 c3 p0.2.2.2 ∧ RdL (rK .i64) s69 a11 c11 r8 ∧ Bx s69 (N + 0) b5 #[.slice a1 p0.1.length c1, .int .i64 p0.2.1, .slice a2 p0.2.2.1.length c2, .slice a3 p0.2.2.2.length c3] 34 ∧ Bx s69 (N + 1) b12 #[.slice a11 r8.length c11] 31 ∧ e = [(7, .slice a67 o65.length c67), (3, .pointer (some ⟨b12, 0, none⟩)), (1, .pointer (some ⟨b5, 0, none⟩))] ∧ w = s69.w) ?_ ?_
  ·rintro _ _ ⟨s69, a67, c67, m0, h67, h1, h2, h3, h11, bx5, bx12, rfl, rfl⟩
   refine X.blkE (X.seqN (E.seq (E.reg (L.lg (j := 0) (cs := [.slice a1 p0.1.length c1, .int .i64 p0.2.1, .slice a2 p0.2.2.1.length c2, .slice a3 p0.2.2.2.length c3]) bx5.mem ag34 Wt.no rfl rfl rfl rfl rfl (L.mv Wt.no rfl rfl ?_)))))
   have m70 := Sig.fz_mv (N + 4) s69
   replace h67 := h67.fz (tgn hN)
   replace m0 := m0.trans (m70.one up)
   replace h1 := h1.mono (m70.le (tg0 hN))
   replace h2 := h2.mono (m70.le (tg0 hN))
   replace h3 := h3.mono (m70.le (tg0 hN))
   replace bx5 := bx5.mv m70 (tgN (by decide))
   replace bx12 := bx12.mv m70 (tgN (by decide))
   replace h11 := h11.mono (m70.le (tg0 hN))
   refine L.toR (s' := (Sig.fz (N + 4) s69)) rfl ?_
   obtain ⟨r71, er71, hm⟩ := bindS hm
   refine L.ca cf35 rfl rfl Wt.no rfl (m_blocking_spread_c (s := (Sig.fz (N + 4) s69)) (p0 := p0) (p1 := o65) (u0 := 0) h1 h2 h3 h67 er71) rfl ?_
   rintro _ s72 m73 ⟨a74, c74, rfl, h74⟩
   replace h74 := h74.p
   replace m0 := m0.trans m73.no
   replace bx5 := bx5.mv m73 no_No
   replace bx12 := bx12.mv m73 no_No
   replace h11 := h11.mono (m73.le no_No)
   refine L.al (N + 5) zz31 rfl Wt.no rfl fun b75 s76 m77 bx75 => ?_
   replace m0 := m0.trans m77.no
   replace h74 := h74.mono (m77.le no_No)
   replace bx5 := bx5.mv m77 no_No
   replace bx12 := bx12.mv m77 no_No
   replace h11 := h11.mono (m77.le no_No)
   refine L.st (c := [.slice a74 r71.length c74]) (cs' := #[.slice a74 r71.length c74]) bx75 nag31.sz Wt.no rfl rfl rfl rfl rfl (Nat.le_of_ble_eq_true rfl) rfl fun s78 m79 bx75 => ?_
   replace m0 := m0.trans (m79.one up)
   replace bx5 := bx5.mv m79 (tgN (by decide))
   replace h74 := h74.mono (m79.le (tg0 hN))
   replace bx12 := bx12.mv m79 (tgN (by decide))
   replace h11 := h11.mono (m79.le (tg0 hN))
   refine L.nil (X.seqN (E.seq (E.reg ?_)))
   have m80 := Sig.fz_mv (N + 1) s78
   replace bx12 := bx12.fz (tgn hN)
   replace m0 := m0.trans (m80.one up)
   replace bx5 := bx5.mv m80 (tgN (by decide))
   replace h11 := h11.mono (m80.le (tg0 hN))
   replace bx75 := bx75.mv m80 (tgN (by decide))
   replace h74 := h74.mono (m80.le (tg0 hN))
   refine L.toR (s' := (Sig.fz (N + 1) s78)) rfl ?_
   have h81 : FV1 Tryd.prog (Sig.fz (N + 1) s78) (.func (.func 64) #[] #[.pointer (some ⟨b12, 0, none⟩)]) (fun (x0 : Int) => [.int .i64 x0]) (fun (r : Bool) => .bool r) (m_blocking_kinds_1 r8) := ⟨64, #[], #[.pointer (some ⟨b12, 0, none⟩)], rfl, cf64, fun x0 r hm s' hl => by have hh := m_blocking_kinds_1_c (s := s') (h11.mono hl) (bx12.le hl) hm; simpa using hh⟩
   refine L.mf Wt.no rfl rfl rfl (L.bu (cs := [.int .i64 1, (.func (.func 64) #[] #[.pointer (some ⟨b12, 0, none⟩)])]) pl109 Wt.no rfl rfl rfl ?_)
   have h82 : FV1 Tryd.prog (Sig.fz (N + 1) s78) (.func (.func 65) #[] #[.pointer (some ⟨b12, 0, none⟩)]) (fun (x0 : Int) => [.int .i64 x0]) (fun (r : Bool) => .bool r) (m_blocking_kinds_2 r8) := ⟨65, #[], #[.pointer (some ⟨b12, 0, none⟩)], rfl, cf65, fun x0 r hm s' hl => by have hh := m_blocking_kinds_2_c (s := s') (h11.mono hl) (bx12.le hl) hm; simpa using hh⟩
   refine L.mf Wt.no rfl rfl rfl (L.bu (cs := [.int .i64 2, (.func (.func 65) #[] #[.pointer (some ⟨b12, 0, none⟩)])]) pl109 Wt.no rfl rfl rfl ?_)
   have m83 := Sig.fz_mv (N + 5) (Sig.fz (N + 1) s78)
   replace bx75 := bx75.fz (tgn hN)
   replace m0 := m0.trans (m83.one up)
   replace h81 := h81.mono (m83.le (tg0 hN))
   replace h82 := h82.mono (m83.le (tg0 hN))
   replace bx5 := bx5.mv m83 (tgN (by decide))
   replace h74 := h74.mono (m83.le (tg0 hN))
   refine L.toR (s' := (Sig.fz (N + 5) (Sig.fz (N + 1) s78))) rfl ?_
   have h84 : FV1 Tryd.prog (Sig.fz (N + 5) (Sig.fz (N + 1) s78)) (.func (.func 66) #[] #[.pointer (some ⟨b75, 0, none⟩)]) (fun (x0 : Int) => [.int .i64 x0]) (fun (r : Bool) => .bool r) (m_blocking_kinds_3 r71) := ⟨66, #[], #[.pointer (some ⟨b75, 0, none⟩)], rfl, cf66, fun x0 r hm s' hl => by have hh := m_blocking_kinds_3_c (s := s') (h74.mono hl) (bx75.le hl) hm; simpa using hh⟩
   refine L.mf Wt.no rfl rfl rfl (L.bu (cs := [.int .i64 3, (.func (.func 66) #[] #[.pointer (some ⟨b75, 0, none⟩)])]) pl109 Wt.no rfl rfl rfl ?_)
   have h85 : FV1 Tryd.prog (Sig.fz (N + 5) (Sig.fz (N + 1) s78)) (.func (.func 67) #[] #[.pointer (some ⟨b75, 0, none⟩)]) (fun (x0 : Int) => [.int .i64 x0]) (fun (r : Bool) => .bool r) (m_blocking_kinds_4 r71) := ⟨67, #[], #[.pointer (some ⟨b75, 0, none⟩)], rfl, cf67, fun x0 r hm s' hl => by have hh := m_blocking_kinds_4_c (s := s') (h74.mono hl) (bx75.le hl) hm; simpa using hh⟩
   refine L.mf Wt.no rfl rfl rfl (L.bu (cs := [.int .i64 5, (.func (.func 67) #[] #[.pointer (some ⟨b75, 0, none⟩)])]) pl109 Wt.no rfl rfl rfl (L.bu (cs := [.int .i64 4, (.func (.func 68) #[] #[])]) pl109 Wt.no rfl rfl rfl (L.bsE (k := 5) (cs := [.int .i64 1, (.func (.func 64) #[] #[.pointer (some ⟨b12, 0, none⟩)]), .int .i64 2, (.func (.func 65) #[] #[.pointer (some ⟨b12, 0, none⟩)]), .int .i64 3, (.func (.func 66) #[] #[.pointer (some ⟨b75, 0, none⟩)]), .int .i64 5, (.func (.func 67) #[] #[.pointer (some ⟨b75, 0, none⟩)]), .int .i64 4, (.func (.func 68) #[] #[])]) 0 bs110 (Nat.le_of_ble_eq_true rfl) Wt.no rfl rfl rfl rfl fun b86 s87 m88 bx86 => ?_)))
   replace m0 := m0.trans m88.no
   replace bx5 := bx5.mv m88 no_No
   replace h81 := h81.mono (m88.le no_No)
   replace h82 := h82.mono (m88.le no_No)
   replace h84 := h84.mono (m88.le no_No)
   replace h85 := h85.mono (m88.le no_No)
   have h86 := Bx.rdL (r := (rP (rK .i64) (rF1 Tryd.prog (fun (x0 : Int) => [.int .i64 x0]) (fun (r : Bool) => .bool r)))) (xs := ([(1, (some (m_blocking_kinds_1 r8))), (2, (some (m_blocking_kinds_2 r8))), (3, (some (m_blocking_kinds_3 r71))), (5, (some (m_blocking_kinds_4 r71))), (4, (some m_blocking_kinds_5))] : List (Int × (Option (Int → Option Bool))))) bx86 ⟨[.int .i64 1, (.func (.func 64) #[] #[.pointer (some ⟨b12, 0, none⟩)])], _, rfl, ⟨[.int .i64 1], [(.func (.func 64) #[] #[.pointer (some ⟨b12, 0, none⟩)])], rfl, rfl, ⟨_, rfl, h81⟩⟩, ⟨[.int .i64 2, (.func (.func 65) #[] #[.pointer (some ⟨b12, 0, none⟩)])], _, rfl, ⟨[.int .i64 2], [(.func (.func 65) #[] #[.pointer (some ⟨b12, 0, none⟩)])], rfl, rfl, ⟨_, rfl, h82⟩⟩, ⟨[.int .i64 3, (.func (.func 66) #[] #[.pointer (some ⟨b75, 0, none⟩)])], _, rfl, ⟨[.int .i64 3], [(.func (.func 66) #[] #[.pointer (some ⟨b75, 0, none⟩)])], rfl, rfl, ⟨_, rfl, h84⟩⟩, ⟨[.int .i64 5, (.func (.func 67) #[] #[.pointer (some ⟨b75, 0, none⟩)])], _, rfl, ⟨[.int .i64 5], [(.func (.func 67) #[] #[.pointer (some ⟨b75, 0, none⟩)])], rfl, rfl, ⟨_, rfl, h85⟩⟩, ⟨[.int .i64 4, (.func (.func 68) #[] #[])], _, rfl, ⟨[.int .i64 4], [(.func (.func 68) #[] #[])], rfl, rfl, ⟨_, rfl, fv68⟩⟩, rfl⟩⟩⟩⟩⟩ (Nat.le_of_ble_eq_true rfl)
   refine L.as Wt.no rfl rfl (L.nil (X.seqN (E.seq (E.reg (L.fa fa34_1 Wt.no rfl rfl (L.ld (j := 1) bx5.mem nag3 Wt.no rfl rfl rfl rfl ?_))))))
   obtain ⟨x89, ex89, hm⟩ := bindS hm
   refine L.mk (z := (0 : Int)) (N + 6) Tryd.underlying31 zr3 rfl Wt.no rfl rfl ex89 rfl fun b90 s91 m92 h90 => ?_
   replace m0 := m0.trans m92.no
   replace h86 := h86.mono (m92.le no_No)
   refine L.as Wt.no rfl rfl (L.nil (X.seqN (E.seq (E.seq (E.reg (L.mv Wt.no rfl rfl (L.len sl31 Wt.no rfl rfl (L.mv Wt.no rfl rfl (L.nil (X.seqN (E.block ?_)))))))))))
   obtain ⟨o125, eo125, hm⟩ := bindS hm
   refine E.cut (x := .exit 4) (fun e w => ∃ (s128 : Sig), Mv (Up N No) s s128 ∧ RowT (rK .i64) s128 (N + 6) 3 (some ⟨b90, 0, none⟩) x89.length o125 ∧ e = [(12, .slice (some ⟨b90, 0, none⟩) o125.length x89.length)] ∧ w = s128.w) ?_ ?_
   ·rintro _ _ ⟨s128, m0, h90, rfl, rfl⟩
    refine X.blkE (X.seqN (E.seq (E.reg (L.mv Wt.no rfl rfl (L.as Wt.no rfl rfl (L.nil (X.seqN (E.ret ?_))))))))
    obtain rfl := Option.some.inj hm
    exact X.rt (.inl rfl) Tryd.results40 (Rs.tmp rfl Rs.nil) rfl ⟨_, (s128).ren N (fun k => cond (Nat.beq k 6) u0 (0)), rfl, rfl, m0.ren hNb, ⟨(some ⟨b90, 0, none⟩), x89.length, rfl, (h90.ren hN)⟩⟩
   intro K129
   refine E.iter (fun (st125 : Int × List Int) (e : List (Nat × Value)) (w : World) => ∃ (s127 : Sig), Mv (Up N No) s s127 ∧ RowT (rK .i64) s127 (N + 6) 3 (some ⟨b90, 0, none⟩) x89.length st125.2 ∧ RdL (rP (rK .i64) (rF1 Tryd.prog (fun (x0 : Int) => [.int .i64 x0]) (fun (r : Bool) => .bool r))) s127 (some ⟨b86, 0, none⟩) (([(1, (some (m_blocking_kinds_1 r8))), (2, (some (m_blocking_kinds_2 r8))), (3, (some (m_blocking_kinds_3 r71))), (5, (some (m_blocking_kinds_4 r71))), (4, (some m_blocking_kinds_5))] : List (Int × (Option (Int → Option Bool)))).length) ([(1, (some (m_blocking_kinds_1 r8))), (2, (some (m_blocking_kinds_2 r8))), (3, (some (m_blocking_kinds_3 r71))), (5, (some (m_blocking_kinds_4 r71))), (4, (some m_blocking_kinds_5))] : List (Int × (Option (Int → Option Bool)))) ∧ e = [(73, .int .i64 st125.1), (72, .int .i64 (x89.length : Int)), (12, .slice (some ⟨b90, 0, none⟩) st125.2.length x89.length), (11, .slice (some ⟨b86, 0, none⟩) ([(1, (some (m_blocking_kinds_1 r8))), (2, (some (m_blocking_kinds_2 r8))), (3, (some (m_blocking_kinds_3 r71))), (5, (some (m_blocking_kinds_4 r71))), (4, (some m_blocking_kinds_5))] : List (Int × (Option (Int → Option Bool)))).length (([(1, (some (m_blocking_kinds_1 r8))), (2, (some (m_blocking_kinds_2 r8))), (3, (some (m_blocking_kinds_3 r71))), (5, (some (m_blocking_kinds_4 r71))), (4, (some m_blocking_kinds_5))] : List (Int × (Option (Int → Option Bool)))).length))] ∧ w = s127.w) eo125 ⟨s91, m0, h90, h86, rfl, rfl⟩ (Sub.rf rfl) ?_
   rintro st125 res125 hm ih125 ho125 _ _ ⟨s127, m0, h90, h86, rfl, rfl⟩
   unfold m_blocking_kinds_l3 at hm
   refine E.seq (E.reg (L.bi Wt.no rfl rfl rfl rfl (L.nil (X.seqN (E.seq ?_)))))
   rcases ifS hm with ⟨hc, hm⟩ | ⟨hc, hm⟩
   ·refine E.cT rfl hc (E.skip (X.seqN (E.seq (E.block (E.seq (E.reg (L.mv Wt.no rfl rfl (L.al (N + 7) zz3 rfl Wt.no rfl fun b130 s131 m132 bx130 => ?_))))))))
    replace m0 := m0.trans m132.no
    replace h86 := h86.mono (m132.le no_No)
    replace h90 := h90.mv m132 no_No no_No
    refine L.st (c := [.int .i64 st125.1]) (cs' := #[.int .i64 st125.1]) bx130 nag3.sz Wt.no rfl rfl rfl rfl rfl (Nat.le_of_ble_eq_true rfl) rfl fun s133 m134 bx130 => ?_
    replace m0 := m0.trans (m134.one up)
    replace h86 := h86.mono (m134.le (tg0 hN))
    replace h90 := h90.mv m134 (tgN (by decide)) (tg0 hN)
    refine L.nil (X.seqN (E.seq (E.reg (L.mv Wt.no rfl rfl ?_))))
    have m135 := Sig.fz_mv (N + 7) s133
    replace bx130 := bx130.fz (tgn hN)
    replace m0 := m0.trans (m135.one up)
    replace h86 := h86.mono (m135.le (tg0 hN))
    replace h90 := h90.mv m135 (tgN (by decide)) (tg0 hN)
    refine L.toR (s' := (Sig.fz (N + 7) s133)) rfl ?_
    have h136 : FW1 Tryd.prog (Sig.fz (N + 7) s133) (.func (.func 70) #[] #[.pointer (some ⟨b130, 0, none⟩)]) (rP (rK .i64) (rF1 Tryd.prog (fun (x0 : Int) => [.int .i64 x0]) (fun (r : Bool) => .bool r))) (fun (r : Bool) => .bool r) (m_blocking_kinds_6 st125.1) := ⟨70, #[], #[.pointer (some ⟨b130, 0, none⟩)], rfl, cf70, fun x0 r hm s' hl cs hrd => by obtain ⟨_, _, rfl, rfl, ⟨v0, rfl, hv0⟩⟩ := hrd; have hh := m_blocking_kinds_6_c (s := s') hv0 (bx130.le hl) hm; simpa using hh⟩
    refine L.mf Wt.no rfl rfl rfl ?_
    obtain ⟨r137, er137, hm⟩ := bindS hm
    refine L.ca cf69 rfl rfl Wt.no rfl (m_slices_IndexFunc_blocking_test_blocking_test_c (s := (Sig.fz (N + 7) s133)) (p0 := ([(1, (some (m_blocking_kinds_1 r8))), (2, (some (m_blocking_kinds_2 r8))), (3, (some (m_blocking_kinds_3 r71))), (5, (some (m_blocking_kinds_4 r71))), (4, (some m_blocking_kinds_5))] : List (Int × (Option (Int → Option Bool))))) (p1 := (m_blocking_kinds_6 st125.1)) h86 h136 er137) rfl ?_
    rintro _ s138 m139 rfl
    replace m0 := m0.trans m139.no
    replace h86 := h86.mono (m139.le no_No)
    replace h90 := h90.mv m139 no_No no_No
    replace bx130 := bx130.mv m139 no_No
    refine L.as Wt.no rfl rfl (L.nil (X.seqN ?_))
    obtain ⟨x145, ex145, hm⟩ := bindS hm
    obtain ⟨x151, ex151, hm⟩ := bindS hm
    obtain ⟨x154, ex154, hm⟩ := bindS hm
    have elx154 := upd_len ex154
    refine E.draw [[], [], [], [], [2, 3], [2, 3, 4], [2, 3, 4, 5], [0, 1, 2, 3, 4, 5, 6], [0, 1, 2, 3, 4, 5, 6, 7]] (fun D e sx => Mv (One (N + 6)) s138 sx ∧ Sub [(14, .int .i64 r137), (13, .pointer (some ⟨b130, 0, none⟩)), (73, .int .i64 st125.1), (72, .int .i64 (x89.length : Int)), (12, .slice (some ⟨b90, 0, none⟩) st125.2.length x89.length), (11, .slice (some ⟨b86, 0, none⟩) ([(1, (some (m_blocking_kinds_1 r8))), (2, (some (m_blocking_kinds_2 r8))), (3, (some (m_blocking_kinds_3 r71))), (5, (some (m_blocking_kinds_4 r71))), (4, (some m_blocking_kinds_5))] : List (Int × (Option (Int → Option Bool)))).length (([(1, (some (m_blocking_kinds_1 r8))), (2, (some (m_blocking_kinds_2 r8))), (3, (some (m_blocking_kinds_3 r71))), (5, (some (m_blocking_kinds_4 r71))), (4, (some m_blocking_kinds_5))] : List (Int × (Option (Int → Option Bool)))).length))] e ∧ AllP [G D e 0 79 (.slice (some ⟨b90, 0, none⟩) st125.2.length x89.length), G D e 1 80 (.int .i64 st125.1), G D e 2 81 (.slice (some ⟨b86, 0, none⟩) ([(1, (some (m_blocking_kinds_1 r8))), (2, (some (m_blocking_kinds_2 r8))), (3, (some (m_blocking_kinds_3 r71))), (5, (some (m_blocking_kinds_4 r71))), (4, (some m_blocking_kinds_5))] : List (Int × (Option (Int → Option Bool)))).length (([(1, (some (m_blocking_kinds_1 r8))), (2, (some (m_blocking_kinds_2 r8))), (3, (some (m_blocking_kinds_3 r71))), (5, (some (m_blocking_kinds_4 r71))), (4, (some m_blocking_kinds_5))] : List (Int × (Option (Int → Option Bool)))).length)), G D e 3 82 (.int .i64 r137), D 4 = true → (∃ (b146 : Nat) (o146 : Nat) (v147 : Value), Env.get e 83 = some (.pointer (some ⟨b146, o146, none⟩)) ∧ Mem sx 0 b146 o146 [.int .i64 x145.1, v147] ∧ FO1 Tryd.prog sx v147 (fun (x0 : Int) => [.int .i64 x0]) (fun (r : Bool) => .bool r) x145.2), D 5 = true → ∀ (b146 : Nat) (o146 : Nat) (v147 : Value), Env.get e 83 = some (.pointer (some ⟨b146, o146, none⟩)) → (Env.get e 84 = some (.pointer (some ⟨b146, o146 + 0, none⟩))), G D e 6 85 (.int .i64 x145.1), D 7 = true → (∃ (b152 : Nat) (o152 : Nat), Env.get e 86 = some (.pointer (some ⟨b152, o152, none⟩)) ∧ Spot (some ⟨b90, 0, none⟩) (rK .i64).sz (st125.1).toNat b152 o152), D 8 = false → RowT (rK .i64) sx (N + 6) 3 (some ⟨b90, 0, none⟩) x89.length st125.2, D 8 = true → RowT (rK .i64) sx (N + 6) 3 (some ⟨b90, 0, none⟩) x89.length x154, D 7 = true → D 8 = false → ∀ (b152 : Nat) (o152 : Nat), Env.get e 86 = some (.pointer (some ⟨b152, o152, none⟩)) → Mem sx (N + 6) b152 o152 [.int .i64 x151]]) (by kernel_rfl) (by kernel_rfl) (by kernel_rfl) ?_ ?_ ?_
    ·intro sz mz
     exact ⟨mz.no, (Sub.rf rfl), nofun, nofun, nofun, nofun, nofun, nofun, nofun, nofun, fun _ => h90.mv mz no_No no_No, nofun, nofun, trivial⟩
    ·refine ⟨?_, ?_, ?_, ?_, ?_, ?_, ?_, ?_, ?_, trivial⟩
     ·rintro D e s140 ⟨im, ib, i⟩ hk hf ha
      have kn := K1 (ib 12 _ rfl)
      exact L.kns _ kn (L.mv Wt.no rfl rfl (L.nil (X.dk kn ⟨im, Sub.fresh ib rfl, i.u 0 (fun _ => rfl)⟩)))
     ·rintro D e s141 ⟨im, ib, i⟩ hk hf ha
      have bx130 := bx130.mv im (tg0 hN)
      have kn := K1 (ib 13 _ rfl)
      exact L.kns _ kn (L.ld (j := 0) bx130.mem nag3 Wt.no rfl rfl rfl rfl (L.nil (X.dk kn ⟨im, Sub.fresh ib rfl, i.u 1 (fun _ => rfl)⟩)))
     ·rintro D e s142 ⟨im, ib, i⟩ hk hf ha
      have kn := K1 (ib 11 _ rfl)
      exact L.kns _ kn (L.mv Wt.no rfl rfl (L.nil (X.dk kn ⟨im, Sub.fresh ib rfl, i.u 2 (fun _ => rfl)⟩)))
     ·rintro D e s143 ⟨im, ib, i⟩ hk hf ha
      have kn := K1 (ib 14 _ rfl)
      exact L.kns _ kn (L.mv Wt.no rfl rfl (L.nil (X.dk kn ⟨im, Sub.fresh ib rfl, i.u 3 (fun _ => rfl)⟩)))
     ·rintro D e s144 ⟨im, ib, i⟩ hk hf ha
      have h86 := h86.mono (im.le (tg0 hN))
      have kn := K2 ((i.p 2) (ha.at 2 rfl)) ((i.p 3) (ha.at 3 rfl))
      refine L.kns _ kn (L.ix (r := (rP (rK .i64) (rF1 Tryd.prog (fun (x0 : Int) => [.int .i64 x0]) (fun (r : Bool) => .bool r)))) sl110 h86 Wt.no rfl rfl ex145 rfl fun b146 o146 cc146 me146 rd146 => ?_)
      obtain ⟨_, _, rfl, rfl, ⟨v147, rfl, h147⟩⟩ := rd146
      exact L.nil (X.dk kn ⟨im, Sub.fresh ib rfl, (i.u 4 (fun _ => ⟨b146, o146, v147, rfl, me146, h147⟩)).u 5 (fun z => Bool.noConfusion ((hf 5 (Nat.le_of_ble_eq_true rfl) rfl).symm.trans z))⟩)
     ·rintro D e s148 ⟨im, ib, i⟩ hk hf ha
      obtain ⟨b146, o146, v147, g4_, me146, h147⟩ := (i.p 4) (ha.at 4 rfl)
      have kn := K1 g4_
      exact L.kns _ kn (L.fa fa109_0 Wt.no rfl rfl (L.nil (X.dk kn ⟨im, Sub.fresh ib rfl, i.u 5 (fun _ _ _ _ q4 => by cases g4_.symm.trans q4; exact rfl)⟩)))
     ·rintro D e s149 ⟨im, ib, i⟩ hk hf ha
      obtain ⟨b146, o146, v147, g4_, me146, h147⟩ := (i.p 4) (ha.at 4 rfl)
      have g5_ := (i.p 5) (ha.at 5 rfl) b146 o146 v147 g4_
      have kn := K1 g5_
      exact L.kns _ kn (L.ld (j := 0) me146 nag3 Wt.no rfl rfl rfl rfl (L.nil (X.dk kn ⟨im, Sub.fresh ib rfl, i.u 6 (fun _ => rfl)⟩)))
     ·rintro D e s150 ⟨im, ib, i⟩ hk hf ha
      obtain h90 := (i.p 8) (hf 8 (Nat.le_of_ble_eq_true rfl) rfl)
      have kn := K2 ((i.p 0) (ha.at 0 rfl)) ((i.p 1) (ha.at 1 rfl))
      refine L.kns _ kn (L.ir (r := (rK .i64)) sl31 h90 Wt.no rfl rfl ex151 rfl fun b152 o152 cc152 me152 rd152 sp152 => ?_)
      obtain rfl := rd152
      exact L.nil (X.dk kn ⟨im, Sub.fresh ib rfl, (i.u 7 (fun _ => ⟨b152, o152, rfl, sp152⟩)).u 10 (fun _ _ _ _ q7 => by cases (show some (.pointer (some ⟨b152, o152, none⟩) : Value) = some _ from q7); exact me152)⟩)
     rintro D e s153 ⟨im, ib, i⟩ hk hf ha
     obtain ⟨b152, o152, g7_, sp152⟩ := (i.p 7) (ha.at 7 rfl)
     obtain h90 := (i.p 8) hk
     have kn := K2 g7_ ((i.p 6) (ha.at 6 rfl))
     exact L.kns _ kn (L.su (fo := 0) (c := [.int .i64 x145.1]) (z := x145.1) h90 sp152 ex151 ex154 (tgp hN) nag3.sz Wt.no rfl rfl rfl rfl rfl rfl (fun c0 hc0 => by obtain rfl := hc0; exact rfl) fun s155 m156 h90 => L.nil (X.dn kn ⟨im.trans (m156.one rfl), ib, ((((i.u 4 (fun z => let ⟨b146, o146, v147, q, me146, h147⟩ := (i.p 4) z; ⟨b146, o146, v147, q, (me146.mv m156 (tg0 hN)), (h147.mono (m156.le (tg0 hN)))⟩)).u 7 (fun z => let ⟨b152, o152, q, sp152⟩ := (i.p 7) z; ⟨b152, o152, q, sp152⟩)).u 8 (fun z => Bool.noConfusion (show true = false from z))).u 9 (fun _ => by exact h90)).u 10 (fun _ y8 => Bool.noConfusion (show true = false from y8))⟩))
    rintro D e s157 hD ⟨im, ib, i⟩
    obtain h90 := (i.p 9) (hD 8 rfl)
    have h86 := h86.mono (im.le (tg0 hN))
    have m0 := m0.trans (im.one up)
    refine X.sub (e' := [(73, .int .i64 st125.1), (72, .int .i64 (x89.length : Int)), (12, .slice (some ⟨b90, 0, none⟩) st125.2.length x89.length), (11, .slice (some ⟨b86, 0, none⟩) ([(1, (some (m_blocking_kinds_1 r8))), (2, (some (m_blocking_kinds_2 r8))), (3, (some (m_blocking_kinds_3 r71))), (5, (some (m_blocking_kinds_4 r71))), (4, (some m_blocking_kinds_5))] : List (Int × (Option (Int → Option Bool)))).length (([(1, (some (m_blocking_kinds_1 r8))), (2, (some (m_blocking_kinds_2 r8))), (3, (some (m_blocking_kinds_3 r71))), (5, (some (m_blocking_kinds_4 r71))), (4, (some m_blocking_kinds_5))] : List (Int × (Option (Int → Option Bool)))).length))]) ?_ (Sub.cons (ib 73 _ rfl) (Sub.cons (ib 72 _ rfl) (Sub.cons (ib 12 _ rfl) (Sub.cons (ib 11 _ rfl) Sub.nil))))
    exact X.reval (d := 12) rfl elx154 (X.blkN (X.seqN (E.reg (L.bi Wt.no rfl rfl rfl rfl (L.mv Wt.no rfl rfl (L.nil (X.sub (ih125 _ (Option.some.inj hm).symm _ _ ⟨s157, m0, h90, h86, rfl, rfl⟩) (Sub.rf rfl))))))))
   refine E.cF rfl hc (E.exit (X.seqX (X.seqX ?_)))
   have hx := ho125 _ (Option.some.inj hm).symm
   subst hx
   exact X.sub (K129 _ _ ⟨s127, m0, h90, rfl, rfl⟩) (Sub.rf rfl)
  intro K158
  refine E.iter (fun (st65 : Int × List Int) (e : List (Nat × Value)) (w : World) => ∃ (s68 : Sig) (a43 : Option Addr) (c43 : Nat), Mv (Up N No) s s68 ∧ RdL (rK .i64) s68 a11 c11 r8 ∧ RowT (rK .i64) s68 (N + 4) 3 a43 c43 st65.2 ∧ RowT rB s68 (N + 2) 4 (some ⟨b18, 0, none⟩) x17.length o37 ∧ RdL (rK .i64) s68 a1 c1 p0.1 ∧ RdL (rK .i64) s68 a2 c2 p0.2.2.1 ∧ RdL (rP (rK .i64) (rP (rK .i64) (rK .i64))) s68 a3 c3 p0.2.2.2 ∧ Bx s68 (N + 0) b5 #[.slice a1 p0.1.length c1, .int .i64 p0.2.1, .slice a2 p0.2.2.1.length c2, .slice a3 p0.2.2.2.length c3] 34 ∧ Bx s68 (N + 1) b12 #[.slice a11 r8.length c11] 31 ∧ e = [(36, .int .i64 st65.1), (35, .int .i64 (r8.length : Int)), (34, .slice a11 r8.length c11), (7, .slice a43 st65.2.length c43), (4, .slice (some ⟨b18, 0, none⟩) o37.length x17.length), (3, .pointer (some ⟨b12, 0, none⟩)), (1, .pointer (some ⟨b5, 0, none⟩))] ∧ w = s68.w) eo65 ⟨s40, none, 0, m0, h11, RowT.nil, h18, h1, h2, h3, bx5, bx12, rfl, rfl⟩ (Sub.rf rfl) ?_
  rintro st65 res65 hm ih65 ho65 _ _ ⟨s68, a43, c43, m0, h11, h43, h18, h1, h2, h3, bx5, bx12, rfl, rfl⟩
  unfold m_blocking_kinds_l2 at hm
  refine E.seq (E.reg (L.bi Wt.no rfl rfl rfl rfl (L.nil (X.seqN (E.seq ?_)))))
  rcases ifS hm with ⟨hc, hm⟩ | ⟨hc, hm⟩
  ·refine E.cT rfl hc (E.skip (X.seqN (E.seqJ (fun e w => ∃ (s161 : Sig) (l159 : List Int) (a160 : Option Addr) (c160 : Nat), m_blocking_kinds_j1 st65 l159 = some res65 ∧ Mv (Up N No) s s161 ∧ RowT (rK .i64) s161 (N + 4) 3 a160 c160 l159 ∧ RdL (rK .i64) s161 a11 c11 r8 ∧ RowT rB s161 (N + 2) 4 (some ⟨b18, 0, none⟩) x17.length o37 ∧ RdL (rK .i64) s161 a1 c1 p0.1 ∧ RdL (rK .i64) s161 a2 c2 p0.2.2.1 ∧ RdL (rP (rK .i64) (rP (rK .i64) (rK .i64))) s161 a3 c3 p0.2.2.2 ∧ Bx s161 (N + 0) b5 #[.slice a1 p0.1.length c1, .int .i64 p0.2.1, .slice a2 p0.2.2.1.length c2, .slice a3 p0.2.2.2.length c3] 34 ∧ Bx s161 (N + 1) b12 #[.slice a11 r8.length c11] 31 ∧ e = [(7, .slice a160 l159.length c160), (36, .int .i64 st65.1), (35, .int .i64 (r8.length : Int)), (34, .slice a11 r8.length c11), (4, .slice (some ⟨b18, 0, none⟩) o37.length x17.length), (3, .pointer (some ⟨b12, 0, none⟩)), (1, .pointer (some ⟨b5, 0, none⟩))] ∧ w = s161.w) ?_ ?_)))
   ·rintro _ _ ⟨s161, l159, a160, c160, hm, m0, h160, h11, h18, h1, h2, h3, bx5, bx12, rfl, rfl⟩
    unfold m_blocking_kinds_j1 at hm
    exact E.reg (L.bi Wt.no rfl rfl rfl rfl (L.mv Wt.no rfl rfl (L.nil (X.sub (ih65 _ (Option.some.inj hm).symm _ _ ⟨s161, a160, c160, m0, h11, h160, h18, h1, h2, h3, bx5, bx12, rfl, rfl⟩) (Sub.rf rfl)))))
   intro Jj162
   refine E.block (E.seq (E.reg (L.mv Wt.no rfl rfl ?_)))
   obtain ⟨x163, ex163, hm⟩ := bindS hm
   refine L.ix (r := (rK .i64)) sl31 h11 Wt.no rfl rfl ex163 rfl fun b164 o164 cc164 me164 rd164 => ?_
   obtain rfl := rd164
   refine L.ld (j := 0) me164 nag3 Wt.no rfl rfl rfl rfl (L.as Wt.no rfl rfl (L.as Wt.no rfl rfl (L.nil (X.seqN (E.seq (E.reg (L.mv Wt.no rfl rfl (L.bi Wt.no rfl rfl rfl rfl (L.mv Wt.no rfl rfl ?_)))))))))
   obtain ⟨b165, eb165, hm⟩ := bindS hm
   refine L.cut 6 (fun e w => ∃ (v166 : Bool), b165 = v166 ∧ e = (49, .bool v166) :: [(8, .int .i64 st65.1), (36, .int .i64 st65.1), (35, .int .i64 (r8.length : Int)), (34, .slice a11 r8.length c11), (7, .slice a43 st65.2.length c43), (4, .slice (some ⟨b18, 0, none⟩) o37.length x17.length), (3, .pointer (some ⟨b12, 0, none⟩)), (1, .pointer (some ⟨b5, 0, none⟩))] ∧ w = s68.w) ?_ ?_
   ·rintro _ _ ⟨v166, rfl, rfl, rfl⟩
    refine L.nil (X.seqN ?_)
    rcases ifS hm with ⟨hc, hm⟩ | ⟨hc, hm⟩
    ·refine E.cT rfl hc (E.reg (L.mv Wt.no rfl rfl (L.mv Wt.no rfl rfl (L.bsE (k := 1) (cs := [.int .i64 st65.1]) 0 bs31 (Nat.le_of_ble_eq_true rfl) Wt.no rfl rfl rfl rfl fun b167 s168 m169 bx167 => ?_))))
     replace m0 := m0.trans m169.no
     replace h11 := h11.mono (m169.le no_No)
     replace h18 := h18.mv m169 no_No no_No
     replace h43 := h43.mv m169 no_No no_No
     replace bx5 := bx5.mv m169 no_No
     replace h1 := h1.mono (m169.le no_No)
     replace h2 := h2.mono (m169.le no_No)
     replace h3 := h3.mono (m169.le no_No)
     replace bx12 := bx12.mv m169 no_No
     have h167 := Bx.rdL (r := (rK .i64)) (xs := ([st65.1] : List Int)) bx167 ⟨[.int .i64 st65.1], _, rfl, rfl, rfl⟩ (Nat.le_of_ble_eq_true rfl)
     obtain ⟨x170, ex170, hm⟩ := bindS hm
     refine L.ap (r := (rK .i64)) Tryd.underlying31 el3 rfl (tgp hN) h43 h167.wk Wt.no rfl rfl ex170 rfl fun a171 c171 s172 m173 h171 => ?_
     replace m0 := m0.trans (m173.one up)
     replace h11 := h11.mono (m173.le (tg0 hN))
     replace h18 := h18.mv m173 (tgN (by decide)) (tg0 hN)
     replace bx5 := bx5.mv m173 (tgN (by decide))
     replace h1 := h1.mono (m173.le (tg0 hN))
     replace h2 := h2.mono (m173.le (tg0 hN))
     replace h3 := h3.mono (m173.le (tg0 hN))
     replace bx12 := bx12.mv m173 (tgN (by decide))
     exact L.as Wt.no rfl rfl (L.nil (X.blkN (X.sub (Jj162 _ _ ⟨s172, x170, a171, c171, hm, m0, h171, h11, h18, h1, h2, h3, bx5, bx12, rfl, rfl⟩) (Sub.rf rfl))))
    exact E.cF rfl hc (E.skip (X.blkN (X.sub (Jj162 _ _ ⟨s68, st65.2, a43, c43, hm, m0, h43, h11, h18, h1, h2, h3, bx5, bx12, rfl, rfl⟩) (Sub.rf rfl))))
   intro J174
   rcases ifS eb165 with ⟨hc, hm⟩ | ⟨hc, hm⟩
   ·refine L.know (d := 43) rfl hc (L.mv (Wt.mk rfl rfl) rfl rfl (L.mv (Wt.mk rfl rfl) rfl rfl ?_))
    obtain ⟨x175, ex175, hm⟩ := bindS hm
    refine L.ir (r := rB) sl77 h18 (Wt.mk rfl rfl) rfl rfl ex175 rfl fun b176 o176 cc176 me176 rd176 sp176 => ?_
    obtain rfl := rd176
    exact L.ld (j := 0) me176 nag4 (Wt.mk rfl rfl) rfl rfl rfl rfl (L.not (Wt.mk rfl rfl) rfl rfl (L.pkT Wt.no rfl rfl rfl rfl (L.sb (J174 _ _ ⟨(!x175), (Option.some.inj hm).symm, rfl, rfl⟩) rfl)))
   exact L.know (d := 43) rfl hc (L.skip rfl rfl rfl rfl (L.skip rfl rfl rfl rfl (L.skip rfl rfl rfl rfl (L.skip rfl rfl rfl rfl (L.skip rfl rfl rfl rfl (L.pkF Wt.no rfl rfl rfl rfl (L.sb (J174 _ _ ⟨false, (Option.some.inj hm).symm, rfl, rfl⟩) rfl)))))))
  refine E.cF rfl hc (E.exit (X.seqX (X.seqX ?_)))
  have hx := ho65 _ (Option.some.inj hm).symm
  subst hx
  exact X.sub (K158 _ _ ⟨s68, a43, c43, m0, h43, h1, h2, h3, h11, bx5, bx12, rfl, rfl⟩) (Sub.rf rfl)
 intro K177
 refine E.iter (fun (st37 : Int × List Bool) (e : List (Nat × Value)) (w : World) => ∃ (s39 : Sig), Mv (Up N No) s s39 ∧ RdL (rP (rK .i64) (rP (rK .i64) (rK .i64))) s39 a3 c3 p0.2.2.2 ∧ RowT rB s39 (N + 2) 4 (some ⟨b18, 0, none⟩) x17.length st37.2 ∧ RdL (rK .i64) s39 a1 c1 p0.1 ∧ RdL (rK .i64) s39 a2 c2 p0.2.2.1 ∧ RdL (rK .i64) s39 a11 c11 r8 ∧ Bx s39 (N + 0) b5 #[.slice a1 p0.1.length c1, .int .i64 p0.2.1, .slice a2 p0.2.2.1.length c2, .slice a3 p0.2.2.2.length c3] 34 ∧ Bx s39 (N + 1) b12 #[.slice a11 r8.length c11] 31 ∧ e = [(25, .int .i64 st37.1), (24, .int .i64 (p0.2.2.2.length : Int)), (23, .slice a3 p0.2.2.2.length c3), (4, .slice (some ⟨b18, 0, none⟩) st37.2.length x17.length), (3, .pointer (some ⟨b12, 0, none⟩)), (1, .pointer (some ⟨b5, 0, none⟩))] ∧ w = s39.w) eo37 ⟨s19, m0, h3, h18, h1, h2, h11, bx5, bx12, rfl, rfl⟩ (Sub.rf rfl) ?_
 rintro st37 res37 hm ih37 ho37 _ _ ⟨s39, m0, h3, h18, h1, h2, h11, bx5, bx12, rfl, rfl⟩
 unfold m_blocking_kinds_l1 at hm
 refine E.seq (E.reg (L.bi Wt.no rfl rfl rfl rfl (L.nil (X.seqN (E.seq ?_)))))
 rcases ifS hm with ⟨hc, hm⟩ | ⟨hc, hm⟩
 ·refine E.cT rfl hc (E.skip (X.seqN (E.seq (E.block (E.seq (E.reg ?_))))))
  obtain ⟨x178, ex178, hm⟩ := bindS hm
  refine L.ix (r := (rP (rK .i64) (rP (rK .i64) (rK .i64)))) sl32 h3 Wt.no rfl rfl ex178 rfl fun b179 o179 cc179 me179 rd179 => ?_
  obtain ⟨_, _, rfl, rfl, ⟨_, _, rfl, rfl, rfl⟩⟩ := rd179
  refine L.lg (j := 0) (cs := [.int .i64 x178.1, .int .i64 x178.2.1, .int .i64 x178.2.2]) me179 ag58 Wt.no rfl rfl rfl rfl rfl (L.al (N + 3) zz58 rfl Wt.no rfl fun b180 s181 m182 bx180 => ?_)
  replace m0 := m0.trans m182.no
  replace h18 := h18.mv m182 no_No no_No
  replace h3 := h3.mono (m182.le no_No)
  replace bx5 := bx5.mv m182 no_No
  replace h1 := h1.mono (m182.le no_No)
  replace h2 := h2.mono (m182.le no_No)
  replace bx12 := bx12.mv m182 no_No
  replace h11 := h11.mono (m182.le no_No)
  refine L.st (c := [.int .i64 x178.1, .int .i64 x178.2.1, .int .i64 x178.2.2]) (cs' := #[.int .i64 x178.1, .int .i64 x178.2.1, .int .i64 x178.2.2]) bx180 ag58.sz Wt.no rfl rfl rfl rfl rfl (Nat.le_of_ble_eq_true rfl) rfl fun s183 m184 bx180 => ?_
  replace m0 := m0.trans (m184.one up)
  replace h18 := h18.mv m184 (tgN (by decide)) (tg0 hN)
  replace h3 := h3.mono (m184.le (tg0 hN))
  replace bx5 := bx5.mv m184 (tgN (by decide))
  replace h1 := h1.mono (m184.le (tg0 hN))
  replace h2 := h2.mono (m184.le (tg0 hN))
  replace bx12 := bx12.mv m184 (tgN (by decide))
  replace h11 := h11.mono (m184.le (tg0 hN))
  refine L.nil (X.seqN (E.reg (L.mv Wt.no rfl rfl (L.fa fa58_0 Wt.no rfl rfl (L.ld (j := 0) bx180.mem nag3 Wt.no rfl rfl rfl rfl ?_)))))
  obtain ⟨x185, ex185, hm⟩ := bindS hm
  refine L.ir (r := rB) sl77 h18 Wt.no rfl rfl ex185 rfl fun b186 o186 cc186 me186 rd186 sp186 => ?_
  obtain rfl := rd186
  obtain ⟨x187, ex187, hm⟩ := bindS hm
  have elx187 := upd_len ex187
  refine L.su (fo := 0) (c := [.bool true]) (z := true) h18 sp186 ex185 ex187 (tgp hN) nag4.sz Wt.no rfl rfl rfl rfl rfl rfl (fun c0 hc0 => by obtain rfl := hc0; exact rfl) fun s188 m189 h18 => ?_
  replace m0 := m0.trans (m189.one up)
  replace h3 := h3.mono (m189.le (tg0 hN))
  replace bx5 := bx5.mv m189 (tgN (by decide))
  replace h1 := h1.mono (m189.le (tg0 hN))
  replace h2 := h2.mono (m189.le (tg0 hN))
  replace bx12 := bx12.mv m189 (tgN (by decide))
  replace h11 := h11.mono (m189.le (tg0 hN))
  exact L.reval (d := 4) rfl elx187 (L.nil (X.blkN (X.seqN (E.reg (L.bi Wt.no rfl rfl rfl rfl (L.mv Wt.no rfl rfl (L.nil (X.sub (ih37 _ (Option.some.inj hm).symm _ _ ⟨s188, m0, h3, h18, h1, h2, h11, bx5, bx12, rfl, rfl⟩) (Sub.rf rfl)))))))))
 refine E.cF rfl hc (E.exit (X.seqX (X.seqX ?_)))
 have hx := ho37 _ (Option.some.inj hm).symm
 subst hx
 exact X.sub (K177 _ _ ⟨s39, m0, h18, h1, h2, h3, h11, bx5, bx12, rfl, rfl⟩) (Sub.rf rfl)

theorem cf39 : Cf Tryd.prog 39 := Cf.mk Tryd.func39 (by kernel_rfl) (by kernel_rfl)
theorem cf40 : Cf Tryd.prog 40 := Cf.mk Tryd.func40 (by kernel_rfl) (by kernel_rfl)
/-- What blocking.Kinds computes. -/
noncomputable def m_blocking_Kinds (p0 : List Int × Int × List Int × (List (Int × Int × Int))) : Option (List Int × Int) :=
  (m_automaton_Check p0).bind fun r8 =>
  if (r8 != 0) then
    some (([] : List Int), r8)
  else
    (m_blocking_kinds p0).bind fun r11 =>
    some (r11, 0)
set_option maxRecDepth 100000 in
set_option maxHeartbeats 8000000 in
theorem m_blocking_Kinds_c {s : Sig} {p0 : List Int × Int × List Int × (List (Int × Int × Int))} {a1 : Option Addr} {c1 : Nat} {a2 : Option Addr} {c2 : Nat} {a3 : Option Addr} {c3 : Nat} {u0 : Nat} {r : List Int × Int} (h1 : RdL (rK .i64) s a1 c1 p0.1) (h2 : RdL (rK .i64) s a2 c2 p0.2.2.1) (h3 : RdL (rP (rK .i64) (rP (rK .i64) (rK .i64))) s a3 c3 p0.2.2.2) (hm : m_blocking_Kinds p0 = some r) :
    Calls Tryd.prog 18 #[.agg #[.slice a1 p0.1.length c1, .int .i64 p0.2.1, .slice a2 p0.2.2.1.length c2, .slice a3 p0.2.2.2.length c3]] s.w (RetS No s fun v s' => ∃ (a4 : Option Addr) (c4 : Nat), v = .tuple #[.slice a4 r.1.length c4, .int .i64 r.2] ∧ RowT (rK .i64) s' u0 3 a4 c4 r.1) := by
 unfold m_blocking_Kinds at hm
 obtain ⟨N, hN, hNb⟩ := s.fresh
 have m0 : Mv (Up N No) s s := Mv.refl _ _
 refine E.entry Tryd.func18 rfl Tryd.ntmps18 rfl rfl (E.seq (E.reg (L.box (N + 0) Wt.no rfl rfl rfl fun b5 s6 m7 bx5 => ?_)))
 replace m0 := m0.trans m7.no
 replace h1 := h1.mono (m7.le no_No)
 replace h2 := h2.mono (m7.le no_No)
 replace h3 := h3.mono (m7.le no_No)
 refine L.as Wt.no rfl rfl (L.as Wt.no rfl rfl (L.nil (X.seqN (E.seq (E.seq (E.reg (L.lg (j := 0) (cs := [.slice a1 p0.1.length c1, .int .i64 p0.2.1, .slice a2 p0.2.2.1.length c2, .slice a3 p0.2.2.2.length c3]) bx5.mem ag34 Wt.no rfl rfl rfl rfl rfl ?_)))))))
 obtain ⟨r8, er8, hm⟩ := bindS hm
 refine L.ca cf39 rfl rfl Wt.no rfl (m_automaton_Check_c (s := s6) (p0 := p0) h1 h2 h3 er8) rfl ?_
 rintro _ s9 m10 rfl
 replace m0 := m0.trans m10.no
 replace bx5 := bx5.mv m10 no_No
 replace h1 := h1.mono (m10.le no_No)
 replace h2 := h2.mono (m10.le no_No)
 replace h3 := h3.mono (m10.le no_No)
 refine L.as Wt.no rfl rfl (L.nil (X.seqN (E.seq (E.reg (L.mv Wt.no rfl rfl (L.bi Wt.no rfl rfl rfl rfl (L.nil (X.seqN ?_))))))))
 rcases ifS hm with ⟨hc, hm⟩ | ⟨hc, hm⟩
 ·refine E.cT rfl hc (E.seq (E.reg (L.mv Wt.no rfl rfl (L.as Wt.no rfl rfl (L.as Wt.no rfl rfl (L.nil (X.seqN (E.ret (X.seqR ?_)))))))))
  obtain rfl := Option.some.inj hm
  exact X.rt (.inl rfl) Tryd.results18 (Rs.tmp rfl (Rs.tmp rfl Rs.nil)) rfl ⟨_, (s9).ren N (fun _ => 0), rfl, rfl, m0.ren hNb, ⟨none, 0, rfl, RowT.nil⟩⟩
 refine E.cF rfl hc (E.skip (X.seqN (E.seq (E.reg (L.lg (j := 0) (cs := [.slice a1 p0.1.length c1, .int .i64 p0.2.1, .slice a2 p0.2.2.1.length c2, .slice a3 p0.2.2.2.length c3]) bx5.mem ag34 Wt.no rfl rfl rfl rfl rfl ?_)))))
 obtain ⟨r11, er11, hm⟩ := bindS hm
 refine L.ca cf40 rfl rfl Wt.no rfl (m_blocking_kinds_c (s := s9) (p0 := p0) (u0 := (N + 1)) h1 h2 h3 er11) rfl ?_
 rintro _ s12 m13 ⟨a14, c14, rfl, h14⟩
 replace m0 := m0.trans m13.no
 refine L.as Wt.no rfl rfl (L.as Wt.no rfl rfl (L.nil (X.seqN (E.ret ?_))))
 obtain rfl := Option.some.inj hm
 exact X.rt (.inl rfl) Tryd.results18 (Rs.tmp rfl (Rs.tmp rfl Rs.nil)) rfl ⟨_, (s12).ren N (fun k => cond (Nat.beq k 1) u0 (0)), rfl, rfl, m0.ren hNb, ⟨a14, c14, rfl, (h14.ren hN)⟩⟩

theorem sl29 : Sl Tryd.prog 29 34 4 := Sl.mk' Tryd.underlying29 (by kernel_rfl)
noncomputable def m_product_Check_l1 (p0 : List (List Int × Int × List Int × (List (Int × Int × Int)))) (st17 : Int) : Option (Int ⊕ (Unit ⊕ Int)) :=
  if decide (st17 < (p0.length : Int)) then
    (idx p0 st17).bind fun x26 =>
    (m_automaton_Check x26).bind fun r36 =>
    if (r36 != 0) then
      some (.inr (.inr (r36)))
    else
      some (.inl (W (st17 + 1)))
  else
    some (.inr (.inl ()))
/-- What product.Check computes. -/
noncomputable def m_product_Check (p0 : List (List Int × Int × List Int × (List (Int × Int × Int)))) : Option Int :=
  if decide ((p0.length : Int) > 12) then
    some 3
  else
    (iter (m_product_Check_l1 p0) 0).bind fun o17 =>
    match o17 with
    | .inl u20 =>
      some 0
    | .inr (u23) =>
      some u23
set_option maxRecDepth 100000 in
set_option maxHeartbeats 8000000 in
theorem m_product_Check_c {s : Sig} {p0 : List (List Int × Int × List Int × (List (Int × Int × Int)))} {a1 : Option Addr} {c1 : Nat} {r : Int} (h1 : RdL (rP (rL (rK .i64)) (rP (rK .i64) (rP (rL (rK .i64)) (rL (rP (rK .i64) (rP (rK .i64) (rK .i64))))))) s a1 c1 p0) (hm : m_product_Check p0 = some r) :
    Calls Tryd.prog 27 #[.slice a1 p0.length c1] s.w (RetS No s fun v s' => v = .int .i64 r) := by
 unfold m_product_Check at hm
 obtain ⟨N, hN, hNb⟩ := s.fresh
 have m0 : Mv (Up N No) s s := Mv.refl _ _
 refine E.entry Tryd.func27 rfl Tryd.ntmps27 rfl rfl (E.seq (E.reg (L.as Wt.no rfl rfl (L.nil (X.seqN (E.seq (E.seq (E.reg (L.mv Wt.no rfl rfl (L.len sl29 Wt.no rfl rfl (L.bi Wt.no rfl rfl rfl rfl (L.nil (X.seqN ?_)))))))))))))
 rcases ifS hm with ⟨hc, hm⟩ | ⟨hc, hm⟩
 ·refine E.cT rfl hc (E.seq (E.reg (L.as Wt.no rfl rfl (L.nil (X.seqN (E.ret (X.seqR ?_)))))))
  obtain rfl := Option.some.inj hm
  exact X.rt (.inl rfl) Tryd.results27 (Rs.tmp rfl Rs.nil) rfl ⟨_, (s).ren N (fun _ => 0), rfl, rfl, m0.ren hNb, rfl⟩
 refine E.cF rfl hc (E.skip (X.seqN (E.seq (E.seq (E.reg (L.mv Wt.no rfl rfl (L.len sl29 Wt.no rfl rfl (L.mv Wt.no rfl rfl (L.nil (X.seqN (E.block ?_)))))))))))
 obtain ⟨o17, eo17, hm⟩ := bindS hm
 refine E.cut (x := .exit 0) (fun e w => ∃ (s21 : Sig) (u20 : Unit), o17 = .inl u20 ∧ Mv (Up N No) s s21 ∧ e = [] ∧ w = s21.w) ?_ ?_
 ·rintro _ _ ⟨s21, u20, rfl, m0, rfl, rfl⟩
  dsimp only at hm
  refine X.blkE (X.seqN (E.seq (E.reg (L.as Wt.no rfl rfl (L.nil (X.seqN (E.ret ?_)))))))
  obtain rfl := Option.some.inj hm
  exact X.rt (.inl rfl) Tryd.results27 (Rs.tmp rfl Rs.nil) rfl ⟨_, (s21).ren N (fun _ => 0), rfl, rfl, m0.ren hNb, rfl⟩
 intro K22
 refine E.cut (x := .ret) (fun e w => ∃ (s24 : Sig) (u23 : Int), o17 = .inr (u23) ∧ Mv (Up N No) s s24 ∧ e = [(2, .int .i64 u23)] ∧ w = s24.w) ?_ ?_
 ·rintro _ _ ⟨s24, u23, rfl, m0, rfl, rfl⟩
  dsimp only at hm
  refine X.blkR (X.seqR ?_)
  obtain rfl := Option.some.inj hm
  exact X.rt (.inl rfl) Tryd.results27 (Rs.tmp rfl Rs.nil) rfl ⟨_, (s24).ren N (fun _ => 0), rfl, rfl, m0.ren hNb, rfl⟩
 intro K25
 refine E.iter (fun (st17 : Int) (e : List (Nat × Value)) (w : World) => ∃ (s19 : Sig), Mv (Up N No) s s19 ∧ RdL (rP (rL (rK .i64)) (rP (rK .i64) (rP (rL (rK .i64)) (rL (rP (rK .i64) (rP (rK .i64) (rK .i64))))))) s19 a1 c1 p0 ∧ e = [(11, .int .i64 st17), (10, .int .i64 (p0.length : Int)), (9, .slice a1 p0.length c1)] ∧ w = s19.w) eo17 ⟨s, m0, h1, rfl, rfl⟩ (Sub.rf rfl) ?_
 rintro st17 res17 hm ih17 ho17 _ _ ⟨s19, m0, h1, rfl, rfl⟩
 unfold m_product_Check_l1 at hm
 refine E.seq (E.reg (L.bi Wt.no rfl rfl rfl rfl (L.nil (X.seqN (E.seq ?_)))))
 rcases ifS hm with ⟨hc, hm⟩ | ⟨hc, hm⟩
 ·refine E.cT rfl hc (E.skip (X.seqN (E.seq (E.block (E.seq (E.reg ?_))))))
  obtain ⟨x26, ex26, hm⟩ := bindS hm
  refine L.ix (r := (rP (rL (rK .i64)) (rP (rK .i64) (rP (rL (rK .i64)) (rL (rP (rK .i64) (rP (rK .i64) (rK .i64)))))))) sl29 h1 Wt.no rfl rfl ex26 rfl fun b27 o27 cc27 me27 rd27 => ?_
  obtain ⟨_, _, rfl, ⟨a28, c28, rfl, h28⟩, ⟨_, _, rfl, rfl, ⟨_, _, rfl, ⟨a29, c29, rfl, h29⟩, ⟨a30, c30, rfl, h30⟩⟩⟩⟩ := rd27
  refine L.lg (j := 0) (cs := [.slice a28 x26.1.length c28, .int .i64 x26.2.1, .slice a29 x26.2.2.1.length c29, .slice a30 x26.2.2.2.length c30]) me27 ag34 Wt.no rfl rfl rfl rfl rfl (L.al (N + 0) zz34 rfl Wt.no rfl fun b31 s32 m33 bx31 => ?_)
  replace m0 := m0.trans m33.no
  replace h1 := h1.mono (m33.le no_No)
  replace h28 := h28.mono (m33.le no_No)
  replace h29 := h29.mono (m33.le no_No)
  replace h30 := h30.mono (m33.le no_No)
  refine L.st (c := [.slice a28 x26.1.length c28, .int .i64 x26.2.1, .slice a29 x26.2.2.1.length c29, .slice a30 x26.2.2.2.length c30]) (cs' := #[.slice a28 x26.1.length c28, .int .i64 x26.2.1, .slice a29 x26.2.2.1.length c29, .slice a30 x26.2.2.2.length c30]) bx31 ag34.sz Wt.no rfl rfl rfl rfl rfl (Nat.le_of_ble_eq_true rfl) rfl fun s34 m35 bx31 => ?_
  replace m0 := m0.trans (m35.one up)
  replace h1 := h1.mono (m35.le (tg0 hN))
  replace h28 := h28.mono (m35.le (tg0 hN))
  replace h29 := h29.mono (m35.le (tg0 hN))
  replace h30 := h30.mono (m35.le (tg0 hN))
  refine L.nil (X.seqN (E.seq (E.reg (L.lg (j := 0) (cs := [.slice a28 x26.1.length c28, .int .i64 x26.2.1, .slice a29 x26.2.2.1.length c29, .slice a30 x26.2.2.2.length c30]) bx31.mem ag34 Wt.no rfl rfl rfl rfl rfl ?_))))
  obtain ⟨r36, er36, hm⟩ := bindS hm
  refine L.ca cf39 rfl rfl Wt.no rfl (m_automaton_Check_c (s := s34) (p0 := x26) h28 h29 h30 er36) rfl ?_
  rintro _ s37 m38 rfl
  replace m0 := m0.trans m38.no
  replace h1 := h1.mono (m38.le no_No)
  refine L.as Wt.no rfl rfl (L.nil (X.seqN (E.seq (E.reg (L.mv Wt.no rfl rfl (L.bi Wt.no rfl rfl rfl rfl (L.nil (X.seqN ?_))))))))
  rcases ifS hm with ⟨hc, hm⟩ | ⟨hc, hm⟩
  ·refine E.cT rfl hc (E.seq (E.reg (L.mv Wt.no rfl rfl (L.as Wt.no rfl rfl (L.nil (X.seqN (E.ret (X.blkR (X.seqR (X.seqR ?_))))))))))
   have hx := ho17 _ (Option.some.inj hm).symm
   exact X.sub (K25 _ _ ⟨s37, r36, hx.symm, m0, rfl, rfl⟩) (Sub.rf rfl)
  exact E.cF rfl hc (E.skip (X.blkN (X.seqN (E.reg (L.bi Wt.no rfl rfl rfl rfl (L.mv Wt.no rfl rfl (L.nil (X.sub (ih17 _ (Option.some.inj hm).symm _ _ ⟨s37, m0, h1, rfl, rfl⟩) (Sub.rf rfl)))))))))
 refine E.cF rfl hc (E.exit (X.seqX (X.seqX ?_)))
 have hx := ho17 _ (Option.some.inj hm).symm
 exact X.sub (K22 _ _ ⟨s19, (), hx.symm, m0, rfl, rfl⟩) Sub.nil

noncomputable def m_alphabet_merge_j4 (p2 : Bool → Bool → Option Bool) (st170 : List Int × List Int × List Int) (b177 : Bool) (b180 : Bool) (l183 : List Int) (l188 : List Int) (n190 : Int) : Option ((List Int × List Int × List Int) ⊕ (List Int)) :=
  (p2 b177 b180).bind fun r193 =>
  if r193 then
    (app st170.1 ([n190] : List Int)).bind fun x199 =>
    some (.inl (x199, l183, l188))
  else
    some (.inl (st170.1, l183, l188))
noncomputable def m_alphabet_merge_j3 (p2 : Bool → Bool → Option Bool) (st170 : List Int × List Int × List Int) (b177 : Bool) (b180 : Bool) (l183 : List Int) (n185 : Int) : Option ((List Int × List Int × List Int) ⊕ (List Int)) :=
  if b180 then
    (idx st170.2.2 0).bind fun x205 =>
    (slc st170.2.2 1 (st170.2.2.length : Int)).bind fun x210 =>
    m_alphabet_merge_j4 p2 st170 b177 b180 l183 x210 x205
  else
    m_alphabet_merge_j4 p2 st170 b177 b180 l183 st170.2.2 n185
noncomputable def m_alphabet_merge_j2 (p2 : Bool → Bool → Option Bool) (st170 : List Int × List Int × List Int) (b177 : Bool) (b180 : Bool) : Option ((List Int × List Int × List Int) ⊕ (List Int)) :=
  if b177 then
    (idx st170.2.1 0).bind fun x217 =>
    (slc st170.2.1 1 (st170.2.1.length : Int)).bind fun x222 =>
    m_alphabet_merge_j3 p2 st170 b177 b180 x222 x217
  else
    m_alphabet_merge_j3 p2 st170 b177 b180 st170.2.1 0
noncomputable def m_alphabet_merge_j1 (p2 : Bool → Bool → Option Bool) (st170 : List Int × List Int × List Int) (b177 : Bool) : Option ((List Int × List Int × List Int) ⊕ (List Int)) :=
  if decide ((st170.2.2.length : Int) > 0) then
    if ((st170.2.1.length : Int) == 0) then
      m_alphabet_merge_j2 p2 st170 b177 true
    else
      (idx st170.2.2 0).bind fun x250 =>
      (idx st170.2.1 0).bind fun x255 =>
      m_alphabet_merge_j2 p2 st170 b177 (decide (x250 ≤ x255))
  else
    m_alphabet_merge_j2 p2 st170 b177 false
noncomputable def m_alphabet_merge_l1 (p2 : Bool → Bool → Option Bool) (st170 : List Int × List Int × List Int) : Option ((List Int × List Int × List Int) ⊕ (List Int)) :=
  if ((decide ((st170.2.1.length : Int) > 0)) || (decide ((st170.2.2.length : Int) > 0))) then
    if decide ((st170.2.1.length : Int) > 0) then
      if ((st170.2.2.length : Int) == 0) then
        m_alphabet_merge_j1 p2 st170 true
      else
        (idx st170.2.1 0).bind fun x301 =>
        (idx st170.2.2 0).bind fun x306 =>
        m_alphabet_merge_j1 p2 st170 (decide (x301 ≤ x306))
    else
      m_alphabet_merge_j1 p2 st170 false
  else
    some (.inr st170.1)
/-- What alphabet.merge computes. -/
noncomputable def m_alphabet_merge (p0 : List Int) (p1 : List Int) (p2 : Bool → Bool → Option Bool) : Option (List Int) :=
  (iter (m_alphabet_merge_l1 p2) (([] : List Int), p0, p1)).bind fun o170 =>
  some o170
set_option maxRecDepth 100000 in
set_option maxHeartbeats 8000000 in
abbrev m_alphabet_merge_w0 : List (List Nat) := [[], [0], [0, 1], [0, 1, 2], [0, 1, 2, 3], [0, 1, 2, 3, 4], [0, 1, 2, 3, 4, 5], [0, 1, 2, 3, 4, 5, 6], [0, 1, 2, 3, 4, 5, 6, 7], [0, 1, 2, 3, 4, 5, 6, 7, 8], [0, 1, 2, 3, 4, 5, 6, 7, 8, 9], [0, 1, 2, 3, 4, 5, 6, 7], [0, 1, 2, 3, 4, 5, 6, 7, 11], [0, 1, 2, 3, 4, 5, 6, 7, 11, 12], [0, 1, 2, 3, 4, 5, 6, 7, 8, 9, 10, 11, 12, 13], [0, 1, 2, 3, 4, 5, 6, 7, 8, 9, 10, 11, 12, 13, 14], [0, 1, 2, 3, 4, 5, 6, 7, 8, 9, 10, 11, 12, 13, 14, 15], [0, 1, 2, 3, 4, 5, 6, 7, 8, 9, 10, 11, 12, 13, 14, 15, 16]]
theorem m_alphabet_merge_c {s : Sig} {p0 : List Int} {p1 : List Int} {p2 : Bool → Bool → Option Bool} {a1 : Option Addr} {c1 : Nat} {a2 : Option Addr} {c2 : Nat} {vp2 : Value} {u0 : Nat} {r : List Int} (h1 : RdL (rK .i64) s a1 c1 p0) (h2 : RdL (rK .i64) s a2 c2 p1) (hp2 : FV2 Tryd.prog s vp2 (fun (x0 : Bool) (x1 : Bool) => [.bool x0, .bool x1]) (fun (r : Bool) => .bool r) p2) (hm : m_alphabet_merge p0 p1 p2 = some r) :
    Calls Tryd.prog 87 #[.slice a1 p0.length c1, .slice a2 p1.length c2, vp2] s.w (RetS No s fun v s' => ∃ (a3 : Option Addr) (c3 : Nat), v = .slice a3 r.length c3 ∧ RowT (rK .i64) s' u0 3 a3 c3 r) := by
 unfold m_alphabet_merge at hm
 obtain ⟨N, hN, hNb⟩ := s.fresh
 have m0 : Mv (Up N No) s s := Mv.refl _ _
 refine E.entry Tryd.func87 rfl Tryd.ntmps87 rfl rfl (E.seq (E.reg (L.as Wt.no rfl rfl (L.nil (X.seqN (E.seq (E.reg (L.as Wt.no rfl rfl (L.nil (X.seqN (E.seq (E.block ?_))))))))))))
 obtain ⟨o170, eo170, hm⟩ := bindS hm
 refine E.cut (x := .exit 0) (fun e w => ∃ (s174 : Sig) (a172 : Option Addr) (c172 : Nat), Mv (Up N No) s s174 ∧ RowT (rK .i64) s174 (N + 0) 3 a172 c172 o170 ∧ e = [(7, .slice a172 o170.length c172)] ∧ w = s174.w) ?_ ?_
 ·rintro _ _ ⟨s174, a172, c172, m0, h172, rfl, rfl⟩
  refine X.blkE (X.seqN (E.seq (E.reg (L.mv Wt.no rfl rfl (L.as Wt.no rfl rfl (L.nil (X.seqN (E.ret ?_))))))))
  obtain rfl := Option.some.inj hm
  exact X.rt (.inl rfl) Tryd.results87 (Rs.tmp rfl Rs.nil) rfl ⟨_, (s174).ren N (fun k => cond (Nat.beq k 0) u0 (0)), rfl, rfl, m0.ren hNb, ⟨a172, c172, rfl, (h172.ren hN)⟩⟩
 intro K175
 refine E.iter (fun (st170 : List Int × List Int × List Int) (e : List (Nat × Value)) (w : World) => ∃ (s173 : Sig) (a5 : Option Addr) (c5 : Nat) (a7 : Option Addr) (c7 : Nat) (a9 : Option Addr) (c9 : Nat), Mv (Up N No) s s173 ∧ RowT (rK .i64) s173 (N + 0) 3 a5 c5 st170.1 ∧ RdL (rK .i64) s173 a7 c7 st170.2.1 ∧ RdL (rK .i64) s173 a9 c9 st170.2.2 ∧ FV2 Tryd.prog s173 vp2 (fun (x0 : Bool) (x1 : Bool) => [.bool x0, .bool x1]) (fun (r : Bool) => .bool r) p2 ∧ e = [(7, .slice a5 st170.1.length c5), (0, .slice a7 st170.2.1.length c7), (1, .slice a9 st170.2.2.length c9), (2, vp2)] ∧ w = s173.w) eo170 ⟨s, none, 0, a1, c1, a2, c2, m0, RowT.nil, h1, h2, hp2, rfl, rfl⟩ (Sub.rf rfl) ?_
 rintro st170 res170 hm ih170 ho170 _ _ ⟨s173, a5, c5, a7, c7, a9, c9, m0, h5, h7, h9, hp2, rfl, rfl⟩
 unfold m_alphabet_merge_l1 at hm
 refine E.seq (E.seq (E.reg (L.mv Wt.no rfl rfl (L.len sl31 Wt.no rfl rfl (L.bi Wt.no rfl rfl rfl rfl (L.mv Wt.no rfl rfl (L.cut 4 (fun e w => ∃ (v176 : Bool), ((decide ((st170.2.1.length : Int) > 0)) || (decide ((st170.2.2.length : Int) > 0))) = v176 ∧ e = (18, .bool v176) :: [(7, .slice a5 st170.1.length c5), (0, .slice a7 st170.2.1.length c7), (1, .slice a9 st170.2.2.length c9), (2, vp2)] ∧ w = s173.w) ?_ ?_)))))))
 ·rintro _ _ ⟨v176, rfl, rfl, rfl⟩
  refine L.nil (X.seqN ?_)
  rcases ifS hm with ⟨hc, hm⟩ | ⟨hc, hm⟩
  ·refine E.cT rfl hc (E.skip (X.seqN (E.block (E.seqJ (fun e w => ∃ (s178 : Sig) (b177 : Bool), m_alphabet_merge_j1 p2 st170 b177 = some res170 ∧ Mv (Up N No) s s178 ∧ RowT (rK .i64) s178 (N + 0) 3 a5 c5 st170.1 ∧ RdL (rK .i64) s178 a7 c7 st170.2.1 ∧ RdL (rK .i64) s178 a9 c9 st170.2.2 ∧ FV2 Tryd.prog s178 vp2 (fun (x0 : Bool) (x1 : Bool) => [.bool x0, .bool x1]) (fun (r : Bool) => .bool r) p2 ∧ e = [(8, .bool b177), (7, .slice a5 st170.1.length c5), (0, .slice a7 st170.2.1.length c7), (1, .slice a9 st170.2.2.length c9), (2, vp2)] ∧ w = s178.w) ?_ ?_))))
   ·rintro _ _ ⟨s178, b177, hm, m0, h5, h7, h9, hp2, rfl, rfl⟩
    unfold m_alphabet_merge_j1 at hm
    refine E.seqJ (fun e w => ∃ (s181 : Sig) (b180 : Bool), m_alphabet_merge_j2 p2 st170 b177 b180 = some res170 ∧ Mv (Up N No) s s181 ∧ RowT (rK .i64) s181 (N + 0) 3 a5 c5 st170.1 ∧ RdL (rK .i64) s181 a7 c7 st170.2.1 ∧ RdL (rK .i64) s181 a9 c9 st170.2.2 ∧ FV2 Tryd.prog s181 vp2 (fun (x0 : Bool) (x1 : Bool) => [.bool x0, .bool x1]) (fun (r : Bool) => .bool r) p2 ∧ e = [(9, .bool b180), (8, .bool b177), (7, .slice a5 st170.1.length c5), (0, .slice a7 st170.2.1.length c7), (1, .slice a9 st170.2.2.length c9), (2, vp2)] ∧ w = s181.w) ?_ ?_
    ·rintro _ _ ⟨s181, b180, hm, m0, h5, h7, h9, hp2, rfl, rfl⟩
     unfold m_alphabet_merge_j2 at hm
     refine E.seq (E.reg (L.as Wt.no rfl rfl (L.nil (X.seqN (E.seqJ (fun e w => ∃ (s186 : Sig) (l183 : List Int) (n185 : Int) (a184 : Option Addr) (c184 : Nat), m_alphabet_merge_j3 p2 st170 b177 b180 l183 n185 = some res170 ∧ Mv (Up N No) s s186 ∧ RdL (rK .i64) s186 a184 c184 l183 ∧ RowT (rK .i64) s186 (N + 0) 3 a5 c5 st170.1 ∧ RdL (rK .i64) s186 a9 c9 st170.2.2 ∧ FV2 Tryd.prog s186 vp2 (fun (x0 : Bool) (x1 : Bool) => [.bool x0, .bool x1]) (fun (r : Bool) => .bool r) p2 ∧ e = [(0, .slice a184 l183.length c184), (10, .int .i64 n185), (9, .bool b180), (8, .bool b177), (7, .slice a5 st170.1.length c5), (1, .slice a9 st170.2.2.length c9), (2, vp2)] ∧ w = s186.w) ?_ ?_)))))
     ·rintro _ _ ⟨s186, l183, n185, a184, c184, hm, m0, h184, h5, h9, hp2, rfl, rfl⟩
      unfold m_alphabet_merge_j3 at hm
      refine E.seqJ (fun e w => ∃ (s191 : Sig) (l188 : List Int) (n190 : Int) (a189 : Option Addr) (c189 : Nat), m_alphabet_merge_j4 p2 st170 b177 b180 l183 l188 n190 = some res170 ∧ Mv (Up N No) s s191 ∧ RdL (rK .i64) s191 a189 c189 l188 ∧ RdL (rK .i64) s191 a184 c184 l183 ∧ RowT (rK .i64) s191 (N + 0) 3 a5 c5 st170.1 ∧ FV2 Tryd.prog s191 vp2 (fun (x0 : Bool) (x1 : Bool) => [.bool x0, .bool x1]) (fun (r : Bool) => .bool r) p2 ∧ e = [(1, .slice a189 l188.length c189), (10, .int .i64 n190), (0, .slice a184 l183.length c184), (9, .bool b180), (8, .bool b177), (7, .slice a5 st170.1.length c5), (2, vp2)] ∧ w = s191.w) ?_ ?_
      ·rintro _ _ ⟨s191, l188, n190, a189, c189, hm, m0, h189, h184, h5, hp2, rfl, rfl⟩
       unfold m_alphabet_merge_j4 at hm
       refine E.seq (E.reg (L.mv Wt.no rfl rfl (L.mv Wt.no rfl rfl (L.mv Wt.no rfl rfl ?_))))
       obtain ⟨r193, er193, hm⟩ := bindS hm
       refine L.fv2 (y := b177) (z := b180) hp2 rfl rfl Wt.no rfl rfl er193 rfl fun s194 m195 => ?_
       replace m0 := m0.trans m195.no
       replace h184 := h184.mono (m195.le no_No)
       replace h189 := h189.mono (m195.le no_No)
       replace hp2 := hp2.mono (m195.le no_No)
       replace h5 := h5.mv m195 no_No no_No
       refine L.nil (X.seqN ?_)
       rcases ifS hm with ⟨hc, hm⟩ | ⟨hc, hm⟩
       ·refine E.cT rfl hc (E.reg (L.mv Wt.no rfl rfl (L.mv Wt.no rfl rfl (L.bsE (k := 1) (cs := [.int .i64 n190]) 0 bs31 (Nat.le_of_ble_eq_true rfl) Wt.no rfl rfl rfl rfl fun b196 s197 m198 bx196 => ?_))))
        replace m0 := m0.trans m198.no
        replace h184 := h184.mono (m198.le no_No)
        replace h189 := h189.mono (m198.le no_No)
        replace hp2 := hp2.mono (m198.le no_No)
        replace h5 := h5.mv m198 no_No no_No
        have h196 := Bx.rdL (r := (rK .i64)) (xs := ([n190] : List Int)) bx196 ⟨[.int .i64 n190], _, rfl, rfl, rfl⟩ (Nat.le_of_ble_eq_true rfl)
        obtain ⟨x199, ex199, hm⟩ := bindS hm
        refine L.ap (r := (rK .i64)) Tryd.underlying31 el3 rfl (tgp hN) h5 h196.wk Wt.no rfl rfl ex199 rfl fun a200 c200 s201 m202 h200 => ?_
        replace m0 := m0.trans (m202.one up)
        replace h184 := h184.mono (m202.le (tg0 hN))
        replace h189 := h189.mono (m202.le (tg0 hN))
        replace hp2 := hp2.mono (m202.le (tg0 hN))
        exact L.as Wt.no rfl rfl (L.nil (X.blkN (X.sub (ih170 _ (Option.some.inj hm).symm _ _ ⟨s201, a200, c200, a184, c184, a189, c189, m0, h200, h184, h189, hp2, rfl, rfl⟩) (Sub.rf rfl))))
       exact E.cF rfl hc (E.skip (X.blkN (X.sub (ih170 _ (Option.some.inj hm).symm _ _ ⟨s194, a5, c5, a184, c184, a189, c189, m0, h5, h184, h189, hp2, rfl, rfl⟩) (Sub.rf rfl))))
      intro Jj192
      refine E.seq (E.reg (L.mv Wt.no rfl rfl (L.nil (X.seqN ?_))))
      rcases ifS hm with ⟨hc, hm⟩ | ⟨hc, hm⟩
      ·refine E.cT rfl hc ?_
       obtain ⟨x205, ex205, hm⟩ := bindS hm
       obtain ⟨x210, ex210, hm⟩ := bindS hm
       refine E.draw [[], [0], [0, 1], [], [3], [0, 1, 2], [0, 1, 2, 3, 4, 5]] (fun D e sx => Mv No s186 sx ∧ Sub [(0, .slice a184 l183.length c184), (9, .bool b180), (8, .bool b177), (7, .slice a5 st170.1.length c5), (2, vp2)] e ∧ AllP [D 6 = false → Env.get e 1 = some (.slice a9 st170.2.2.length c9), G D e 0 60 (.slice a9 st170.2.2.length c9), D 1 = true → (∃ (b206 : Nat) (o206 : Nat), Env.get e 61 = some (.pointer (some ⟨b206, o206, none⟩)) ∧ Mem sx 0 b206 o206 [.int .i64 x205]), G D e 2 62 (.int .i64 x205), G D e 3 63 (.slice a9 st170.2.2.length c9), D 4 = true → (∃ (a211 : Option Addr) (c211 : Nat), Env.get e 64 = some (.slice a211 x210.length c211) ∧ RdL (rK .i64) sx a211 c211 x210), G D e 5 10 (.int .i64 x205), D 6 = true → ∀ (a211 : Option Addr) (c211 : Nat), Env.get e 64 = some (.slice a211 x210.length c211) → (Env.get e 1 = some (.slice a211 x210.length c211))]) (by kernel_rfl) (by kernel_rfl) (by kernel_rfl) ?_ ?_ ?_
       ·intro sz mz
        exact ⟨mz, (Sub.rf rfl), fun _ => rfl, nofun, nofun, nofun, nofun, nofun, nofun, nofun, trivial⟩
       ·refine ⟨?_, ?_, ?_, ?_, ?_, ?_, ?_, trivial⟩
        ·rintro D e s203 ⟨im, ib, i⟩ hk hf ha
         have kn := K1 ((i.p 0) (hf 6 (Nat.le_of_ble_eq_true rfl) rfl))
         exact L.kns _ kn (L.mv Wt.no rfl rfl (L.nil (X.dk kn ⟨im, Sub.fresh ib rfl, i.u 1 (fun _ => rfl)⟩)))
        ·rintro D e s204 ⟨im, ib, i⟩ hk hf ha
         have h9 := h9.mono (im.le no_No)
         have kn := K1 ((i.p 1) (ha.at 0 rfl))
         refine L.kns _ kn (L.ix (r := (rK .i64)) sl31 h9 Wt.no rfl rfl ex205 rfl fun b206 o206 cc206 me206 rd206 => ?_)
         obtain rfl := rd206
         exact L.nil (X.dk kn ⟨im, Sub.fresh ib rfl, i.u 2 (fun _ => ⟨b206, o206, rfl, me206⟩)⟩)
        ·rintro D e s207 ⟨im, ib, i⟩ hk hf ha
         obtain ⟨b206, o206, g1_, me206⟩ := (i.p 2) (ha.at 1 rfl)
         have kn := K1 g1_
         exact L.kns _ kn (L.ld (j := 0) me206 nag3 Wt.no rfl rfl rfl rfl (L.nil (X.dk kn ⟨im, Sub.fresh ib rfl, i.u 3 (fun _ => rfl)⟩)))
        ·rintro D e s208 ⟨im, ib, i⟩ hk hf ha
         have kn := K1 ((i.p 0) (hf 6 (Nat.le_of_ble_eq_true rfl) rfl))
         exact L.kns _ kn (L.mv Wt.no rfl rfl (L.nil (X.dk kn ⟨im, Sub.fresh ib rfl, i.u 4 (fun _ => rfl)⟩)))
        ·rintro D e s209 ⟨im, ib, i⟩ hk hf ha
         have h9 := h9.mono (im.le no_No)
         have kn := K1 ((i.p 4) (ha.at 3 rfl))
         exact L.kns _ kn (L.sf (r := (rK .i64)) sl31 h9 Wt.no rfl rfl ex210 rfl fun a211 c211 h211 => L.nil (X.dk kn ⟨im, Sub.fresh ib rfl, (i.u 5 (fun _ => ⟨a211, c211, rfl, h211⟩)).u 7 (fun z => Bool.noConfusion ((hf 6 (Nat.le_of_ble_eq_true rfl) rfl).symm.trans z))⟩))
        ·rintro D e s212 ⟨im, ib, i⟩ hk hf ha
         have kn := K1 ((i.p 3) (ha.at 2 rfl))
         exact L.kns _ kn (L.as Wt.no rfl rfl (L.nil (X.dk kn ⟨im, Sub.fresh ib rfl, i.u 6 (fun _ => rfl)⟩)))
        rintro D e s213 ⟨im, ib, i⟩ hk hf ha
        obtain ⟨a211, c211, g4_, h211⟩ := (i.p 5) (ha.at 4 rfl)
        have kn := K1 g4_
        exact L.kns _ kn (L.as Wt.no rfl rfl (L.nil (X.dk kn ⟨im, Sub.fresh ib rfl, (i.u 0 (fun z => Bool.noConfusion (show true = false from z))).u 7 (fun _ _ _ q4 => by cases g4_.symm.trans q4; exact rfl)⟩)))
       rintro D e s214 hD ⟨im, ib, i⟩
       obtain ⟨a211, c211, g4_, h211⟩ := (i.p 5) (hD 4 rfl)
       have g5_ := (i.p 6) (hD 5 rfl)
       have g6_ := (i.p 7) (hD 6 rfl) a211 c211 g4_
       have h184 := h184.mono (im.le no_No)
       have h5 := h5.mv im no_No no_No
       have hp2 := hp2.mono (im.le no_No)
       have m0 := m0.trans im.no
       refine X.sub (e' := [(1, .slice a211 x210.length c211), (10, .int .i64 x205), (0, .slice a184 l183.length c184), (9, .bool b180), (8, .bool b177), (7, .slice a5 st170.1.length c5), (2, vp2)]) ?_ (Sub.cons g6_ (Sub.cons g5_ (Sub.cons (ib 0 _ rfl) (Sub.cons (ib 9 _ rfl) (Sub.cons (ib 8 _ rfl) (Sub.cons (ib 7 _ rfl) (Sub.cons (ib 2 _ rfl) Sub.nil)))))))
       exact X.sub (Jj192 _ _ ⟨s214, x210, x205, a211, c211, hm, m0, h211, h184, h5, hp2, rfl, rfl⟩) (Sub.rf rfl)
      exact E.cF rfl hc (E.skip (X.sub (Jj192 _ _ ⟨s186, st170.2.2, n185, a9, c9, hm, m0, h9, h184, h5, hp2, rfl, rfl⟩) (Sub.rf rfl)))
     intro Jj187
     refine E.seq (E.reg (L.mv Wt.no rfl rfl (L.nil (X.seqN ?_))))
     rcases ifS hm with ⟨hc, hm⟩ | ⟨hc, hm⟩
     ·refine E.cT rfl hc ?_
      obtain ⟨x217, ex217, hm⟩ := bindS hm
      obtain ⟨x222, ex222, hm⟩ := bindS hm
      refine E.draw [[], [0], [0, 1], [], [3], [0, 1, 2], [0, 1, 2, 3, 4, 5]] (fun D e sx => Mv No s181 sx ∧ Sub [(9, .bool b180), (8, .bool b177), (7, .slice a5 st170.1.length c5), (1, .slice a9 st170.2.2.length c9), (2, vp2)] e ∧ AllP [D 6 = false → Env.get e 0 = some (.slice a7 st170.2.1.length c7), G D e 0 54 (.slice a7 st170.2.1.length c7), D 1 = true → (∃ (b218 : Nat) (o218 : Nat), Env.get e 55 = some (.pointer (some ⟨b218, o218, none⟩)) ∧ Mem sx 0 b218 o218 [.int .i64 x217]), G D e 2 56 (.int .i64 x217), G D e 3 57 (.slice a7 st170.2.1.length c7), D 4 = true → (∃ (a223 : Option Addr) (c223 : Nat), Env.get e 58 = some (.slice a223 x222.length c223) ∧ RdL (rK .i64) sx a223 c223 x222), G D e 5 10 (.int .i64 x217), D 6 = true → ∀ (a223 : Option Addr) (c223 : Nat), Env.get e 58 = some (.slice a223 x222.length c223) → (Env.get e 0 = some (.slice a223 x222.length c223))]) (by kernel_rfl) (by kernel_rfl) (by kernel_rfl) ?_ ?_ ?_
      ·intro sz mz
       exact ⟨mz, (Sub.rf rfl), fun _ => rfl, nofun, nofun, nofun, nofun, nofun, nofun, nofun, trivial⟩
      ·refine ⟨?_, ?_, ?_, ?_, ?_, ?_, ?_, trivial⟩
       ·rintro D e s215 ⟨im, ib, i⟩ hk hf ha
        have kn := K1 ((i.p 0) (hf 6 (Nat.le_of_ble_eq_true rfl) rfl))
        exact L.kns _ kn (L.mv Wt.no rfl rfl (L.nil (X.dk kn ⟨im, Sub.fresh ib rfl, i.u 1 (fun _ => rfl)⟩)))
       ·rintro D e s216 ⟨im, ib, i⟩ hk hf ha
        have h7 := h7.mono (im.le no_No)
        have kn := K1 ((i.p 1) (ha.at 0 rfl))
        refine L.kns _ kn (L.ix (r := (rK .i64)) sl31 h7 Wt.no rfl rfl ex217 rfl fun b218 o218 cc218 me218 rd218 => ?_)
        obtain rfl := rd218
        exact L.nil (X.dk kn ⟨im, Sub.fresh ib rfl, i.u 2 (fun _ => ⟨b218, o218, rfl, me218⟩)⟩)
       ·rintro D e s219 ⟨im, ib, i⟩ hk hf ha
        obtain ⟨b218, o218, g1_, me218⟩ := (i.p 2) (ha.at 1 rfl)
        have kn := K1 g1_
        exact L.kns _ kn (L.ld (j := 0) me218 nag3 Wt.no rfl rfl rfl rfl (L.nil (X.dk kn ⟨im, Sub.fresh ib rfl, i.u 3 (fun _ => rfl)⟩)))
       ·rintro D e s220 ⟨im, ib, i⟩ hk hf ha
        have kn := K1 ((i.p 0) (hf 6 (Nat.le_of_ble_eq_true rfl) rfl))
        exact L.kns _ kn (L.mv Wt.no rfl rfl (L.nil (X.dk kn ⟨im, Sub.fresh ib rfl, i.u 4 (fun _ => rfl)⟩)))
       ·rintro D e s221 ⟨im, ib, i⟩ hk hf ha
        have h7 := h7.mono (im.le no_No)
        have kn := K1 ((i.p 4) (ha.at 3 rfl))
        exact L.kns _ kn (L.sf (r := (rK .i64)) sl31 h7 Wt.no rfl rfl ex222 rfl fun a223 c223 h223 => L.nil (X.dk kn ⟨im, Sub.fresh ib rfl, (i.u 5 (fun _ => ⟨a223, c223, rfl, h223⟩)).u 7 (fun z => Bool.noConfusion ((hf 6 (Nat.le_of_ble_eq_true rfl) rfl).symm.trans z))⟩))
       ·rintro D e s224 ⟨im, ib, i⟩ hk hf ha
        have kn := K1 ((i.p 3) (ha.at 2 rfl))
        exact L.kns _ kn (L.as Wt.no rfl rfl (L.nil (X.dk kn ⟨im, Sub.fresh ib rfl, i.u 6 (fun _ => rfl)⟩)))
       rintro D e s225 ⟨im, ib, i⟩ hk hf ha
       obtain ⟨a223, c223, g4_, h223⟩ := (i.p 5) (ha.at 4 rfl)
       have kn := K1 g4_
       exact L.kns _ kn (L.as Wt.no rfl rfl (L.nil (X.dk kn ⟨im, Sub.fresh ib rfl, (i.u 0 (fun z => Bool.noConfusion (show true = false from z))).u 7 (fun _ _ _ q4 => by cases g4_.symm.trans q4; exact rfl)⟩)))
      rintro D e s226 hD ⟨im, ib, i⟩
      obtain ⟨a223, c223, g4_, h223⟩ := (i.p 5) (hD 4 rfl)
      have g5_ := (i.p 6) (hD 5 rfl)
      have g6_ := (i.p 7) (hD 6 rfl) a223 c223 g4_
      have h5 := h5.mv im no_No no_No
      have h9 := h9.mono (im.le no_No)
      have hp2 := hp2.mono (im.le no_No)
      have m0 := m0.trans im.no
      refine X.sub (e' := [(0, .slice a223 x222.length c223), (10, .int .i64 x217), (9, .bool b180), (8, .bool b177), (7, .slice a5 st170.1.length c5), (1, .slice a9 st170.2.2.length c9), (2, vp2)]) ?_ (Sub.cons g6_ (Sub.cons g5_ (Sub.cons (ib 9 _ rfl) (Sub.cons (ib 8 _ rfl) (Sub.cons (ib 7 _ rfl) (Sub.cons (ib 1 _ rfl) (Sub.cons (ib 2 _ rfl) Sub.nil)))))))
      exact X.sub (Jj187 _ _ ⟨s226, x222, x217, a223, c223, hm, m0, h223, h5, h9, hp2, rfl, rfl⟩) (Sub.rf rfl)
     exact E.cF rfl hc (E.skip (X.sub (Jj187 _ _ ⟨s181, st170.2.1, 0, a7, c7, hm, m0, h7, h5, h9, hp2, rfl, rfl⟩) (Sub.rf rfl)))
    intro Jj182
    rcases ifS hm with ⟨hc231, hm⟩ | ⟨hc231, hm⟩
    ·have _ := hN
     rcases ifS hm with ⟨hc236, hm⟩ | ⟨hc236, hm⟩
     ·have _ := hN
      refine E.draw m_alphabet_merge_w0 (fun D e sx => Mv No s178 sx ∧ Sub [(8, .bool b177), (7, .slice a5 st170.1.length c5), (0, .slice a7 st170.2.1.length c7), (1, .slice a9 st170.2.2.length c9), (2, vp2)] e ∧ AllP [G D e 0 36 (.slice a9 st170.2.2.length c9), G D e 1 37 (.int .i64 (st170.2.2.length : Int)), G D e 2 38 (.bool (decide ((st170.2.2.length : Int) > 0))), G D e 3 39 (.bool (decide ((st170.2.2.length : Int) > 0))), G D e 4 40 (.slice a7 st170.2.1.length c7), G D e 5 41 (.int .i64 (st170.2.1.length : Int)), G D e 6 42 (.bool ((st170.2.1.length : Int) == 0)), G D e 7 43 (.bool ((st170.2.1.length : Int) == 0)), G D e 8 44 undef, G D e 9 45 undef, G D e 10 46 undef, G D e 11 47 undef, G D e 12 48 undef, G D e 13 49 undef, G D e 14 50 undef, G D e 15 51 (.bool true), G D e 16 52 (.bool true), G D e 17 9 (.bool true)]) (by kernel_rfl) (by kernel_rfl) (by kernel_rfl) ?_ ?_ ?_
      ·intro sz mz
       exact ⟨mz, (Sub.rf rfl), nofun, nofun, nofun, nofun, nofun, nofun, nofun, nofun, nofun, nofun, nofun, nofun, nofun, nofun, nofun, nofun, nofun, nofun, trivial⟩
      ·refine ⟨?_, ?_, ?_, ?_, ?_, ?_, ?_, ?_, ?_, ?_, ?_, ?_, ?_, ?_, ?_, ?_, ?_, ?_, trivial⟩
       ·rintro D e s227 ⟨im, ib, i⟩ hk hf ha
        have kn := K1 (ib 1 _ rfl)
        exact L.kns _ kn (L.mv Wt.no rfl rfl (L.nil (X.dk kn ⟨im, Sub.fresh ib rfl, i.u 0 (fun _ => rfl)⟩)))
       ·rintro D e s228 ⟨im, ib, i⟩ hk hf ha
        have kn := K1 ((i.p 0) (ha.at 0 rfl))
        exact L.kns _ kn (L.len sl31 Wt.no rfl rfl (L.nil (X.dk kn ⟨im, Sub.fresh ib rfl, i.u 1 (fun _ => rfl)⟩)))
       ·rintro D e s229 ⟨im, ib, i⟩ hk hf ha
        have kn := K1 ((i.p 1) (ha.at 1 rfl))
        exact L.kns _ kn (L.bi Wt.no rfl rfl rfl rfl (L.nil (X.dk kn ⟨im, Sub.fresh ib rfl, i.u 2 (fun _ => rfl)⟩)))
       ·rintro D e s230 ⟨im, ib, i⟩ hk hf ha
        have kn := K1 ((i.p 2) (ha.at 2 rfl))
        exact L.kns _ kn (L.mv Wt.no rfl rfl (L.nil (X.dk kn ⟨im, Sub.fresh ib rfl, i.u 3 (fun _ => rfl)⟩)))
       ·rintro D e s232 ⟨im, ib, i⟩ hk hf ha
        have g3_ := (i.p 3) (ha.at 3 rfl)
        rw [hc231] at g3_
        have kn := K2 (ib 0 _ rfl) g3_
        exact L.kns _ kn (L.mv (Wt.mk rfl rfl) rfl rfl (L.nil (X.dk kn ⟨im, Sub.fresh ib rfl, i.u 4 (fun _ => rfl)⟩)))
       ·rintro D e s233 ⟨im, ib, i⟩ hk hf ha
        have g3_ := (i.p 3) (ha.at 3 rfl)
        rw [hc231] at g3_
        have kn := K2 ((i.p 4) (ha.at 4 rfl)) g3_
        exact L.kns _ kn (L.len sl31 (Wt.mk rfl rfl) rfl rfl (L.nil (X.dk kn ⟨im, Sub.fresh ib rfl, i.u 5 (fun _ => rfl)⟩)))
       ·rintro D e s234 ⟨im, ib, i⟩ hk hf ha
        have g3_ := (i.p 3) (ha.at 3 rfl)
        rw [hc231] at g3_
        have kn := K2 ((i.p 5) (ha.at 5 rfl)) g3_
        exact L.kns _ kn (L.bi (Wt.mk rfl rfl) rfl rfl rfl rfl (L.nil (X.dk kn ⟨im, Sub.fresh ib rfl, i.u 6 (fun _ => rfl)⟩)))
       ·rintro D e s235 ⟨im, ib, i⟩ hk hf ha
        have g3_ := (i.p 3) (ha.at 3 rfl)
        rw [hc231] at g3_
        have kn := K2 ((i.p 6) (ha.at 6 rfl)) g3_
        exact L.kns _ kn (L.mv (Wt.mk rfl rfl) rfl rfl (L.nil (X.dk kn ⟨im, Sub.fresh ib rfl, i.u 7 (fun _ => rfl)⟩)))
       ·rintro D e s237 ⟨im, ib, i⟩ hk hf ha
        have g7_ := (i.p 7) (ha.at 7 rfl)
        rw [hc236] at g7_
        have kn := K2 (ib 1 _ rfl) g7_
        exact L.kns _ kn (L.skip rfl rfl rfl rfl (L.nil (X.dk kn ⟨im, Sub.fresh ib rfl, i.u 8 (fun _ => rfl)⟩)))
       ·rintro D e s238 ⟨im, ib, i⟩ hk hf ha
        have g7_ := (i.p 7) (ha.at 7 rfl)
        rw [hc236] at g7_
        have kn := K2 ((i.p 8) (ha.at 8 rfl)) g7_
        exact L.kns _ kn (L.skip rfl rfl rfl rfl (L.nil (X.dk kn ⟨im, Sub.fresh ib rfl, i.u 9 (fun _ => rfl)⟩)))
       ·rintro D e s239 ⟨im, ib, i⟩ hk hf ha
        have g7_ := (i.p 7) (ha.at 7 rfl)
        rw [hc236] at g7_
        have kn := K2 ((i.p 9) (ha.at 9 rfl)) g7_
        exact L.kns _ kn (L.skip rfl rfl rfl rfl (L.nil (X.dk kn ⟨im, Sub.fresh ib rfl, i.u 10 (fun _ => rfl)⟩)))
       ·rintro D e s240 ⟨im, ib, i⟩ hk hf ha
        have g7_ := (i.p 7) (ha.at 7 rfl)
        rw [hc236] at g7_
        have kn := K2 (ib 0 _ rfl) g7_
        exact L.kns _ kn (L.skip rfl rfl rfl rfl (L.nil (X.dk kn ⟨im, Sub.fresh ib rfl, i.u 11 (fun _ => rfl)⟩)))
       ·rintro D e s241 ⟨im, ib, i⟩ hk hf ha
        have g7_ := (i.p 7) (ha.at 7 rfl)
        rw [hc236] at g7_
        have kn := K2 ((i.p 11) (ha.at 11 rfl)) g7_
        exact L.kns _ kn (L.skip rfl rfl rfl rfl (L.nil (X.dk kn ⟨im, Sub.fresh ib rfl, i.u 12 (fun _ => rfl)⟩)))
       ·rintro D e s242 ⟨im, ib, i⟩ hk hf ha
        have g7_ := (i.p 7) (ha.at 7 rfl)
        rw [hc236] at g7_
        have kn := K2 ((i.p 12) (ha.at 12 rfl)) g7_
        exact L.kns _ kn (L.skip rfl rfl rfl rfl (L.nil (X.dk kn ⟨im, Sub.fresh ib rfl, i.u 13 (fun _ => rfl)⟩)))
       ·rintro D e s243 ⟨im, ib, i⟩ hk hf ha
        have g7_ := (i.p 7) (ha.at 7 rfl)
        rw [hc236] at g7_
        have kn := K3 ((i.p 10) (ha.at 10 rfl)) ((i.p 13) (ha.at 13 rfl)) g7_
        exact L.kns _ kn (L.skip rfl rfl rfl rfl (L.nil (X.dk kn ⟨im, Sub.fresh ib rfl, i.u 14 (fun _ => rfl)⟩)))
       ·rintro D e s244 ⟨im, ib, i⟩ hk hf ha
        have g3_ := (i.p 3) (ha.at 3 rfl)
        have g7_ := (i.p 7) (ha.at 7 rfl)
        rw [hc236] at g7_
        rw [hc231] at g3_
        have kn := K3 g7_ ((i.p 14) (ha.at 14 rfl)) g3_
        exact L.kns _ kn (L.pkT (Wt.mk rfl rfl) rfl rfl rfl rfl (L.nil (X.dk kn ⟨im, Sub.fresh ib rfl, i.u 15 (fun _ => rfl)⟩)))
       ·rintro D e s245 ⟨im, ib, i⟩ hk hf ha
        have g3_ := (i.p 3) (ha.at 3 rfl)
        rw [hc231] at g3_
        have kn := K2 g3_ ((i.p 15) (ha.at 15 rfl))
        exact L.kns _ kn (L.pkT Wt.no rfl rfl rfl rfl (L.nil (X.dk kn ⟨im, Sub.fresh ib rfl, i.u 16 (fun _ => rfl)⟩)))
       rintro D e s246 ⟨im, ib, i⟩ hk hf ha
       have kn := K1 ((i.p 16) (ha.at 16 rfl))
       exact L.kns _ kn (L.as Wt.no rfl rfl (L.nil (X.dk kn ⟨im, Sub.fresh ib rfl, i.u 17 (fun _ => rfl)⟩)))
      rintro D e s247 hD ⟨im, ib, i⟩
      have g17_ := (i.p 17) (hD 17 rfl)
      have h5 := h5.mv im no_No no_No
      have h7 := h7.mono (im.le no_No)
      have h9 := h9.mono (im.le no_No)
      have hp2 := hp2.mono (im.le no_No)
      have m0 := m0.trans im.no
      refine X.sub (e' := [(9, .bool true), (8, .bool b177), (7, .slice a5 st170.1.length c5), (0, .slice a7 st170.2.1.length c7), (1, .slice a9 st170.2.2.length c9), (2, vp2)]) ?_ (Sub.cons g17_ (Sub.cons (ib 8 _ rfl) (Sub.cons (ib 7 _ rfl) (Sub.cons (ib 0 _ rfl) (Sub.cons (ib 1 _ rfl) (Sub.cons (ib 2 _ rfl) Sub.nil))))))
      exact X.sub (Jj182 _ _ ⟨s247, true, hm, m0, h5, h7, h9, hp2, rfl, rfl⟩) (Sub.rf rfl)
     have _ := hN
     obtain ⟨x250, ex250, hm⟩ := bindS hm
     obtain ⟨x255, ex255, hm⟩ := bindS hm
     refine E.draw m_alphabet_merge_w0 (fun D e sx => Mv No s178 sx ∧ Sub [(8, .bool b177), (7, .slice a5 st170.1.length c5), (0, .slice a7 st170.2.1.length c7), (1, .slice a9 st170.2.2.length c9), (2, vp2)] e ∧ AllP [G D e 0 36 (.slice a9 st170.2.2.length c9), G D e 1 37 (.int .i64 (st170.2.2.length : Int)), G D e 2 38 (.bool (decide ((st170.2.2.length : Int) > 0))), G D e 3 39 (.bool (decide ((st170.2.2.length : Int) > 0))), G D e 4 40 (.slice a7 st170.2.1.length c7), G D e 5 41 (.int .i64 (st170.2.1.length : Int)), G D e 6 42 (.bool ((st170.2.1.length : Int) == 0)), G D e 7 43 (.bool ((st170.2.1.length : Int) == 0)), G D e 8 44 (.slice a9 st170.2.2.length c9), D 9 = true → (∃ (b251 : Nat) (o251 : Nat), Env.get e 45 = some (.pointer (some ⟨b251, o251, none⟩)) ∧ Mem sx 0 b251 o251 [.int .i64 x250]), G D e 10 46 (.int .i64 x250), G D e 11 47 (.slice a7 st170.2.1.length c7), D 12 = true → (∃ (b256 : Nat) (o256 : Nat), Env.get e 48 = some (.pointer (some ⟨b256, o256, none⟩)) ∧ Mem sx 0 b256 o256 [.int .i64 x255]), G D e 13 49 (.int .i64 x255), G D e 14 50 (.bool (decide (x250 ≤ x255))), G D e 15 51 (.bool (decide (x250 ≤ x255))), G D e 16 52 (.bool (decide (x250 ≤ x255))), G D e 17 9 (.bool (decide (x250 ≤ x255)))]) (by kernel_rfl) (by kernel_rfl) (by kernel_rfl) ?_ ?_ ?_
     ·intro sz mz
      exact ⟨mz, (Sub.rf rfl), nofun, nofun, nofun, nofun, nofun, nofun, nofun, nofun, nofun, nofun, nofun, nofun, nofun, nofun, nofun, nofun, nofun, nofun, trivial⟩
     ·refine ⟨?_, ?_, ?_, ?_, ?_, ?_, ?_, ?_, ?_, ?_, ?_, ?_, ?_, ?_, ?_, ?_, ?_, ?_, trivial⟩
      ·rintro D e s227 ⟨im, ib, i⟩ hk hf ha
       have kn := K1 (ib 1 _ rfl)
       exact L.kns _ kn (L.mv Wt.no rfl rfl (L.nil (X.dk kn ⟨im, Sub.fresh ib rfl, i.u 0 (fun _ => rfl)⟩)))
      ·rintro D e s228 ⟨im, ib, i⟩ hk hf ha
       have kn := K1 ((i.p 0) (ha.at 0 rfl))
       exact L.kns _ kn (L.len sl31 Wt.no rfl rfl (L.nil (X.dk kn ⟨im, Sub.fresh ib rfl, i.u 1 (fun _ => rfl)⟩)))
      ·rintro D e s229 ⟨im, ib, i⟩ hk hf ha
       have kn := K1 ((i.p 1) (ha.at 1 rfl))
       exact L.kns _ kn (L.bi Wt.no rfl rfl rfl rfl (L.nil (X.dk kn ⟨im, Sub.fresh ib rfl, i.u 2 (fun _ => rfl)⟩)))
      ·rintro D e s230 ⟨im, ib, i⟩ hk hf ha
       have kn := K1 ((i.p 2) (ha.at 2 rfl))
       exact L.kns _ kn (L.mv Wt.no rfl rfl (L.nil (X.dk kn ⟨im, Sub.fresh ib rfl, i.u 3 (fun _ => rfl)⟩)))
      ·rintro D e s232 ⟨im, ib, i⟩ hk hf ha
       have g3_ := (i.p 3) (ha.at 3 rfl)
       rw [hc231] at g3_
       have kn := K2 (ib 0 _ rfl) g3_
       exact L.kns _ kn (L.mv (Wt.mk rfl rfl) rfl rfl (L.nil (X.dk kn ⟨im, Sub.fresh ib rfl, i.u 4 (fun _ => rfl)⟩)))
      ·rintro D e s233 ⟨im, ib, i⟩ hk hf ha
       have g3_ := (i.p 3) (ha.at 3 rfl)
       rw [hc231] at g3_
       have kn := K2 ((i.p 4) (ha.at 4 rfl)) g3_
       exact L.kns _ kn (L.len sl31 (Wt.mk rfl rfl) rfl rfl (L.nil (X.dk kn ⟨im, Sub.fresh ib rfl, i.u 5 (fun _ => rfl)⟩)))
      ·rintro D e s234 ⟨im, ib, i⟩ hk hf ha
       have g3_ := (i.p 3) (ha.at 3 rfl)
       rw [hc231] at g3_
       have kn := K2 ((i.p 5) (ha.at 5 rfl)) g3_
       exact L.kns _ kn (L.bi (Wt.mk rfl rfl) rfl rfl rfl rfl (L.nil (X.dk kn ⟨im, Sub.fresh ib rfl, i.u 6 (fun _ => rfl)⟩)))
      ·rintro D e s235 ⟨im, ib, i⟩ hk hf ha
       have g3_ := (i.p 3) (ha.at 3 rfl)
       rw [hc231] at g3_
       have kn := K2 ((i.p 6) (ha.at 6 rfl)) g3_
       exact L.kns _ kn (L.mv (Wt.mk rfl rfl) rfl rfl (L.nil (X.dk kn ⟨im, Sub.fresh ib rfl, i.u 7 (fun _ => rfl)⟩)))
      ·rintro D e s248 ⟨im, ib, i⟩ hk hf ha
       have g7_ := (i.p 7) (ha.at 7 rfl)
       rw [hc236] at g7_
       have kn := K2 (ib 1 _ rfl) g7_
       exact L.kns _ kn (L.mv (Wt.mk rfl rfl) rfl rfl (L.nil (X.dk kn ⟨im, Sub.fresh ib rfl, i.u 8 (fun _ => rfl)⟩)))
      ·rintro D e s249 ⟨im, ib, i⟩ hk hf ha
       have g7_ := (i.p 7) (ha.at 7 rfl)
       have h9 := h9.mono (im.le no_No)
       rw [hc236] at g7_
       have kn := K2 ((i.p 8) (ha.at 8 rfl)) g7_
       refine L.kns _ kn (L.ix (r := (rK .i64)) sl31 h9 (Wt.mk rfl rfl) rfl rfl ex250 rfl fun b251 o251 cc251 me251 rd251 => ?_)
       obtain rfl := rd251
       exact L.nil (X.dk kn ⟨im, Sub.fresh ib rfl, i.u 9 (fun _ => ⟨b251, o251, rfl, me251⟩)⟩)
      ·rintro D e s252 ⟨im, ib, i⟩ hk hf ha
       have g7_ := (i.p 7) (ha.at 7 rfl)
       obtain ⟨b251, o251, g9_, me251⟩ := (i.p 9) (ha.at 9 rfl)
       rw [hc236] at g7_
       have kn := K2 g9_ g7_
       exact L.kns _ kn (L.ld (j := 0) me251 nag3 (Wt.mk rfl rfl) rfl rfl rfl rfl (L.nil (X.dk kn ⟨im, Sub.fresh ib rfl, i.u 10 (fun _ => rfl)⟩)))
      ·rintro D e s253 ⟨im, ib, i⟩ hk hf ha
       have g7_ := (i.p 7) (ha.at 7 rfl)
       rw [hc236] at g7_
       have kn := K2 (ib 0 _ rfl) g7_
       exact L.kns _ kn (L.mv (Wt.mk rfl rfl) rfl rfl (L.nil (X.dk kn ⟨im, Sub.fresh ib rfl, i.u 11 (fun _ => rfl)⟩)))
      ·rintro D e s254 ⟨im, ib, i⟩ hk hf ha
       have g7_ := (i.p 7) (ha.at 7 rfl)
       have h7 := h7.mono (im.le no_No)
       rw [hc236] at g7_
       have kn := K2 ((i.p 11) (ha.at 11 rfl)) g7_
       refine L.kns _ kn (L.ix (r := (rK .i64)) sl31 h7 (Wt.mk rfl rfl) rfl rfl ex255 rfl fun b256 o256 cc256 me256 rd256 => ?_)
       obtain rfl := rd256
       exact L.nil (X.dk kn ⟨im, Sub.fresh ib rfl, i.u 12 (fun _ => ⟨b256, o256, rfl, me256⟩)⟩)
      ·rintro D e s257 ⟨im, ib, i⟩ hk hf ha
       have g7_ := (i.p 7) (ha.at 7 rfl)
       obtain ⟨b256, o256, g12_, me256⟩ := (i.p 12) (ha.at 12 rfl)
       rw [hc236] at g7_
       have kn := K2 g12_ g7_
       exact L.kns _ kn (L.ld (j := 0) me256 nag3 (Wt.mk rfl rfl) rfl rfl rfl rfl (L.nil (X.dk kn ⟨im, Sub.fresh ib rfl, i.u 13 (fun _ => rfl)⟩)))
      ·rintro D e s258 ⟨im, ib, i⟩ hk hf ha
       have g7_ := (i.p 7) (ha.at 7 rfl)
       rw [hc236] at g7_
       have kn := K3 ((i.p 10) (ha.at 10 rfl)) ((i.p 13) (ha.at 13 rfl)) g7_
       exact L.kns _ kn (L.bi (Wt.mk rfl rfl) rfl rfl rfl rfl (L.nil (X.dk kn ⟨im, Sub.fresh ib rfl, i.u 14 (fun _ => rfl)⟩)))
      ·rintro D e s259 ⟨im, ib, i⟩ hk hf ha
       have g3_ := (i.p 3) (ha.at 3 rfl)
       have g7_ := (i.p 7) (ha.at 7 rfl)
       rw [hc236] at g7_
       rw [hc231] at g3_
       have kn := K3 g7_ ((i.p 14) (ha.at 14 rfl)) g3_
       exact L.kns _ kn (L.pkF (Wt.mk rfl rfl) rfl rfl rfl rfl (L.nil (X.dk kn ⟨im, Sub.fresh ib rfl, i.u 15 (fun _ => rfl)⟩)))
      ·rintro D e s260 ⟨im, ib, i⟩ hk hf ha
       have g3_ := (i.p 3) (ha.at 3 rfl)
       rw [hc231] at g3_
       have kn := K2 g3_ ((i.p 15) (ha.at 15 rfl))
       exact L.kns _ kn (L.pkT Wt.no rfl rfl rfl rfl (L.nil (X.dk kn ⟨im, Sub.fresh ib rfl, i.u 16 (fun _ => rfl)⟩)))
      rintro D e s261 ⟨im, ib, i⟩ hk hf ha
      have kn := K1 ((i.p 16) (ha.at 16 rfl))
      exact L.kns _ kn (L.as Wt.no rfl rfl (L.nil (X.dk kn ⟨im, Sub.fresh ib rfl, i.u 17 (fun _ => rfl)⟩)))
     rintro D e s262 hD ⟨im, ib, i⟩
     have g17_ := (i.p 17) (hD 17 rfl)
     have h5 := h5.mv im no_No no_No
     have h7 := h7.mono (im.le no_No)
     have h9 := h9.mono (im.le no_No)
     have hp2 := hp2.mono (im.le no_No)
     have m0 := m0.trans im.no
     refine X.sub (e' := [(9, .bool (decide (x250 ≤ x255))), (8, .bool b177), (7, .slice a5 st170.1.length c5), (0, .slice a7 st170.2.1.length c7), (1, .slice a9 st170.2.2.length c9), (2, vp2)]) ?_ (Sub.cons g17_ (Sub.cons (ib 8 _ rfl) (Sub.cons (ib 7 _ rfl) (Sub.cons (ib 0 _ rfl) (Sub.cons (ib 1 _ rfl) (Sub.cons (ib 2 _ rfl) Sub.nil))))))
     exact X.sub (Jj182 _ _ ⟨s262, (decide (x250 ≤ x255)), hm, m0, h5, h7, h9, hp2, rfl, rfl⟩) (Sub.rf rfl)
    have _ := hN
    refine E.draw m_alphabet_merge_w0 (fun D e sx => Mv No s178 sx ∧ Sub [(8, .bool b177), (7, .slice a5 st170.1.length c5), (0, .slice a7 st170.2.1.length c7), (1, .slice a9 st170.2.2.length c9), (2, vp2)] e ∧ AllP [G D e 0 36 (.slice a9 st170.2.2.length c9), G D e 1 37 (.int .i64 (st170.2.2.length : Int)), G D e 2 38 (.bool (decide ((st170.2.2.length : Int) > 0))), G D e 3 39 (.bool (decide ((st170.2.2.length : Int) > 0))), G D e 4 40 undef, G D e 5 41 undef, G D e 6 42 undef, G D e 7 43 undef, G D e 8 44 undef, G D e 9 45 undef, G D e 10 46 undef, G D e 11 47 undef, G D e 12 48 undef, G D e 13 49 undef, G D e 14 50 undef, G D e 15 51 undef, G D e 16 52 (.bool false), G D e 17 9 (.bool false)]) (by kernel_rfl) (by kernel_rfl) (by kernel_rfl) ?_ ?_ ?_
    ·intro sz mz
     exact ⟨mz, (Sub.rf rfl), nofun, nofun, nofun, nofun, nofun, nofun, nofun, nofun, nofun, nofun, nofun, nofun, nofun, nofun, nofun, nofun, nofun, nofun, trivial⟩
    ·refine ⟨?_, ?_, ?_, ?_, ?_, ?_, ?_, ?_, ?_, ?_, ?_, ?_, ?_, ?_, ?_, ?_, ?_, ?_, trivial⟩
     ·rintro D e s227 ⟨im, ib, i⟩ hk hf ha
      have kn := K1 (ib 1 _ rfl)
      exact L.kns _ kn (L.mv Wt.no rfl rfl (L.nil (X.dk kn ⟨im, Sub.fresh ib rfl, i.u 0 (fun _ => rfl)⟩)))
     ·rintro D e s228 ⟨im, ib, i⟩ hk hf ha
      have kn := K1 ((i.p 0) (ha.at 0 rfl))
      exact L.kns _ kn (L.len sl31 Wt.no rfl rfl (L.nil (X.dk kn ⟨im, Sub.fresh ib rfl, i.u 1 (fun _ => rfl)⟩)))
     ·rintro D e s229 ⟨im, ib, i⟩ hk hf ha
      have kn := K1 ((i.p 1) (ha.at 1 rfl))
      exact L.kns _ kn (L.bi Wt.no rfl rfl rfl rfl (L.nil (X.dk kn ⟨im, Sub.fresh ib rfl, i.u 2 (fun _ => rfl)⟩)))
     ·rintro D e s230 ⟨im, ib, i⟩ hk hf ha
      have kn := K1 ((i.p 2) (ha.at 2 rfl))
      exact L.kns _ kn (L.mv Wt.no rfl rfl (L.nil (X.dk kn ⟨im, Sub.fresh ib rfl, i.u 3 (fun _ => rfl)⟩)))
     ·rintro D e s263 ⟨im, ib, i⟩ hk hf ha
      have g3_ := (i.p 3) (ha.at 3 rfl)
      rw [hc231] at g3_
      have kn := K2 (ib 0 _ rfl) g3_
      exact L.kns _ kn (L.skip rfl rfl rfl rfl (L.nil (X.dk kn ⟨im, Sub.fresh ib rfl, i.u 4 (fun _ => rfl)⟩)))
     ·rintro D e s264 ⟨im, ib, i⟩ hk hf ha
      have g3_ := (i.p 3) (ha.at 3 rfl)
      rw [hc231] at g3_
      have kn := K2 ((i.p 4) (ha.at 4 rfl)) g3_
      exact L.kns _ kn (L.skip rfl rfl rfl rfl (L.nil (X.dk kn ⟨im, Sub.fresh ib rfl, i.u 5 (fun _ => rfl)⟩)))
     ·rintro D e s265 ⟨im, ib, i⟩ hk hf ha
      have g3_ := (i.p 3) (ha.at 3 rfl)
      rw [hc231] at g3_
      have kn := K2 ((i.p 5) (ha.at 5 rfl)) g3_
      exact L.kns _ kn (L.skip rfl rfl rfl rfl (L.nil (X.dk kn ⟨im, Sub.fresh ib rfl, i.u 6 (fun _ => rfl)⟩)))
     ·rintro D e s266 ⟨im, ib, i⟩ hk hf ha
      have g3_ := (i.p 3) (ha.at 3 rfl)
      rw [hc231] at g3_
      have kn := K2 ((i.p 6) (ha.at 6 rfl)) g3_
      exact L.kns _ kn (L.skip rfl rfl rfl rfl (L.nil (X.dk kn ⟨im, Sub.fresh ib rfl, i.u 7 (fun _ => rfl)⟩)))
     ·rintro D e s267 ⟨im, ib, i⟩ hk hf ha
      have kn := K2 (ib 1 _ rfl) ((i.p 7) (ha.at 7 rfl))
      exact L.kns _ kn (L.skipU rfl rfl rfl (L.nil (X.dk kn ⟨im, Sub.fresh ib rfl, i.u 8 (fun _ => rfl)⟩)))
     ·rintro D e s268 ⟨im, ib, i⟩ hk hf ha
      have kn := K2 ((i.p 8) (ha.at 8 rfl)) ((i.p 7) (ha.at 7 rfl))
      exact L.kns _ kn (L.skipU rfl rfl rfl (L.nil (X.dk kn ⟨im, Sub.fresh ib rfl, i.u 9 (fun _ => rfl)⟩)))
     ·rintro D e s269 ⟨im, ib, i⟩ hk hf ha
      have kn := K2 ((i.p 9) (ha.at 9 rfl)) ((i.p 7) (ha.at 7 rfl))
      exact L.kns _ kn (L.skipU rfl rfl rfl (L.nil (X.dk kn ⟨im, Sub.fresh ib rfl, i.u 10 (fun _ => rfl)⟩)))
     ·rintro D e s270 ⟨im, ib, i⟩ hk hf ha
      have kn := K2 (ib 0 _ rfl) ((i.p 7) (ha.at 7 rfl))
      exact L.kns _ kn (L.skipU rfl rfl rfl (L.nil (X.dk kn ⟨im, Sub.fresh ib rfl, i.u 11 (fun _ => rfl)⟩)))
     ·rintro D e s271 ⟨im, ib, i⟩ hk hf ha
      have kn := K2 ((i.p 11) (ha.at 11 rfl)) ((i.p 7) (ha.at 7 rfl))
      exact L.kns _ kn (L.skipU rfl rfl rfl (L.nil (X.dk kn ⟨im, Sub.fresh ib rfl, i.u 12 (fun _ => rfl)⟩)))
     ·rintro D e s272 ⟨im, ib, i⟩ hk hf ha
      have kn := K2 ((i.p 12) (ha.at 12 rfl)) ((i.p 7) (ha.at 7 rfl))
      exact L.kns _ kn (L.skipU rfl rfl rfl (L.nil (X.dk kn ⟨im, Sub.fresh ib rfl, i.u 13 (fun _ => rfl)⟩)))
     ·rintro D e s273 ⟨im, ib, i⟩ hk hf ha
      have kn := K3 ((i.p 10) (ha.at 10 rfl)) ((i.p 13) (ha.at 13 rfl)) ((i.p 7) (ha.at 7 rfl))
      exact L.kns _ kn (L.skipU rfl rfl rfl (L.nil (X.dk kn ⟨im, Sub.fresh ib rfl, i.u 14 (fun _ => rfl)⟩)))
     ·rintro D e s274 ⟨im, ib, i⟩ hk hf ha
      have g3_ := (i.p 3) (ha.at 3 rfl)
      rw [hc231] at g3_
      have kn := K3 ((i.p 7) (ha.at 7 rfl)) ((i.p 14) (ha.at 14 rfl)) g3_
      exact L.kns _ kn (L.skip rfl rfl rfl rfl (L.nil (X.dk kn ⟨im, Sub.fresh ib rfl, i.u 15 (fun _ => rfl)⟩)))
     ·rintro D e s275 ⟨im, ib, i⟩ hk hf ha
      have g3_ := (i.p 3) (ha.at 3 rfl)
      rw [hc231] at g3_
      have kn := K2 g3_ ((i.p 15) (ha.at 15 rfl))
      exact L.kns _ kn (L.pkF Wt.no rfl rfl rfl rfl (L.nil (X.dk kn ⟨im, Sub.fresh ib rfl, i.u 16 (fun _ => rfl)⟩)))
     rintro D e s276 ⟨im, ib, i⟩ hk hf ha
     have kn := K1 ((i.p 16) (ha.at 16 rfl))
     exact L.kns _ kn (L.as Wt.no rfl rfl (L.nil (X.dk kn ⟨im, Sub.fresh ib rfl, i.u 17 (fun _ => rfl)⟩)))
    rintro D e s277 hD ⟨im, ib, i⟩
    have g17_ := (i.p 17) (hD 17 rfl)
    have h5 := h5.mv im no_No no_No
    have h7 := h7.mono (im.le no_No)
    have h9 := h9.mono (im.le no_No)
    have hp2 := hp2.mono (im.le no_No)
    have m0 := m0.trans im.no
    refine X.sub (e' := [(9, .bool false), (8, .bool b177), (7, .slice a5 st170.1.length c5), (0, .slice a7 st170.2.1.length c7), (1, .slice a9 st170.2.2.length c9), (2, vp2)]) ?_ (Sub.cons g17_ (Sub.cons (ib 8 _ rfl) (Sub.cons (ib 7 _ rfl) (Sub.cons (ib 0 _ rfl) (Sub.cons (ib 1 _ rfl) (Sub.cons (ib 2 _ rfl) Sub.nil))))))
    exact X.sub (Jj182 _ _ ⟨s277, false, hm, m0, h5, h7, h9, hp2, rfl, rfl⟩) (Sub.rf rfl)
   intro Jj179
   rcases ifS hm with ⟨hc282, hm⟩ | ⟨hc282, hm⟩
   ·have _ := hN
    rcases ifS hm with ⟨hc287, hm⟩ | ⟨hc287, hm⟩
    ·have _ := hN
     refine E.draw m_alphabet_merge_w0 (fun D e sx => Mv No s173 sx ∧ Sub [(7, .slice a5 st170.1.length c5), (0, .slice a7 st170.2.1.length c7), (1, .slice a9 st170.2.2.length c9), (2, vp2)] e ∧ AllP [G D e 0 19 (.slice a7 st170.2.1.length c7), G D e 1 20 (.int .i64 (st170.2.1.length : Int)), G D e 2 21 (.bool (decide ((st170.2.1.length : Int) > 0))), G D e 3 22 (.bool (decide ((st170.2.1.length : Int) > 0))), G D e 4 23 (.slice a9 st170.2.2.length c9), G D e 5 24 (.int .i64 (st170.2.2.length : Int)), G D e 6 25 (.bool ((st170.2.2.length : Int) == 0)), G D e 7 26 (.bool ((st170.2.2.length : Int) == 0)), G D e 8 27 undef, G D e 9 28 undef, G D e 10 29 undef, G D e 11 30 undef, G D e 12 31 undef, G D e 13 32 undef, G D e 14 33 undef, G D e 15 34 (.bool true), G D e 16 35 (.bool true), G D e 17 8 (.bool true)]) (by kernel_rfl) (by kernel_rfl) (by kernel_rfl) ?_ ?_ ?_
     ·intro sz mz
      exact ⟨mz, (Sub.rf rfl), nofun, nofun, nofun, nofun, nofun, nofun, nofun, nofun, nofun, nofun, nofun, nofun, nofun, nofun, nofun, nofun, nofun, nofun, trivial⟩
     ·refine ⟨?_, ?_, ?_, ?_, ?_, ?_, ?_, ?_, ?_, ?_, ?_, ?_, ?_, ?_, ?_, ?_, ?_, ?_, trivial⟩
      ·rintro D e s278 ⟨im, ib, i⟩ hk hf ha
       have kn := K1 (ib 0 _ rfl)
       exact L.kns _ kn (L.mv Wt.no rfl rfl (L.nil (X.dk kn ⟨im, Sub.fresh ib rfl, i.u 0 (fun _ => rfl)⟩)))
      ·rintro D e s279 ⟨im, ib, i⟩ hk hf ha
       have kn := K1 ((i.p 0) (ha.at 0 rfl))
       exact L.kns _ kn (L.len sl31 Wt.no rfl rfl (L.nil (X.dk kn ⟨im, Sub.fresh ib rfl, i.u 1 (fun _ => rfl)⟩)))
      ·rintro D e s280 ⟨im, ib, i⟩ hk hf ha
       have kn := K1 ((i.p 1) (ha.at 1 rfl))
       exact L.kns _ kn (L.bi Wt.no rfl rfl rfl rfl (L.nil (X.dk kn ⟨im, Sub.fresh ib rfl, i.u 2 (fun _ => rfl)⟩)))
      ·rintro D e s281 ⟨im, ib, i⟩ hk hf ha
       have kn := K1 ((i.p 2) (ha.at 2 rfl))
       exact L.kns _ kn (L.mv Wt.no rfl rfl (L.nil (X.dk kn ⟨im, Sub.fresh ib rfl, i.u 3 (fun _ => rfl)⟩)))
      ·rintro D e s283 ⟨im, ib, i⟩ hk hf ha
       have g3_ := (i.p 3) (ha.at 3 rfl)
       rw [hc282] at g3_
       have kn := K2 (ib 1 _ rfl) g3_
       exact L.kns _ kn (L.mv (Wt.mk rfl rfl) rfl rfl (L.nil (X.dk kn ⟨im, Sub.fresh ib rfl, i.u 4 (fun _ => rfl)⟩)))
      ·rintro D e s284 ⟨im, ib, i⟩ hk hf ha
       have g3_ := (i.p 3) (ha.at 3 rfl)
       rw [hc282] at g3_
       have kn := K2 ((i.p 4) (ha.at 4 rfl)) g3_
       exact L.kns _ kn (L.len sl31 (Wt.mk rfl rfl) rfl rfl (L.nil (X.dk kn ⟨im, Sub.fresh ib rfl, i.u 5 (fun _ => rfl)⟩)))
      ·rintro D e s285 ⟨im, ib, i⟩ hk hf ha
       have g3_ := (i.p 3) (ha.at 3 rfl)
       rw [hc282] at g3_
       have kn := K2 ((i.p 5) (ha.at 5 rfl)) g3_
       exact L.kns _ kn (L.bi (Wt.mk rfl rfl) rfl rfl rfl rfl (L.nil (X.dk kn ⟨im, Sub.fresh ib rfl, i.u 6 (fun _ => rfl)⟩)))
      ·rintro D e s286 ⟨im, ib, i⟩ hk hf ha
       have g3_ := (i.p 3) (ha.at 3 rfl)
       rw [hc282] at g3_
       have kn := K2 ((i.p 6) (ha.at 6 rfl)) g3_
       exact L.kns _ kn (L.mv (Wt.mk rfl rfl) rfl rfl (L.nil (X.dk kn ⟨im, Sub.fresh ib rfl, i.u 7 (fun _ => rfl)⟩)))
      ·rintro D e s288 ⟨im, ib, i⟩ hk hf ha
       have g7_ := (i.p 7) (ha.at 7 rfl)
       rw [hc287] at g7_
       have kn := K2 (ib 0 _ rfl) g7_
       exact L.kns _ kn (L.skip rfl rfl rfl rfl (L.nil (X.dk kn ⟨im, Sub.fresh ib rfl, i.u 8 (fun _ => rfl)⟩)))
      ·rintro D e s289 ⟨im, ib, i⟩ hk hf ha
       have g7_ := (i.p 7) (ha.at 7 rfl)
       rw [hc287] at g7_
       have kn := K2 ((i.p 8) (ha.at 8 rfl)) g7_
       exact L.kns _ kn (L.skip rfl rfl rfl rfl (L.nil (X.dk kn ⟨im, Sub.fresh ib rfl, i.u 9 (fun _ => rfl)⟩)))
      ·rintro D e s290 ⟨im, ib, i⟩ hk hf ha
       have g7_ := (i.p 7) (ha.at 7 rfl)
       rw [hc287] at g7_
       have kn := K2 ((i.p 9) (ha.at 9 rfl)) g7_
       exact L.kns _ kn (L.skip rfl rfl rfl rfl (L.nil (X.dk kn ⟨im, Sub.fresh ib rfl, i.u 10 (fun _ => rfl)⟩)))
      ·rintro D e s291 ⟨im, ib, i⟩ hk hf ha
       have g7_ := (i.p 7) (ha.at 7 rfl)
       rw [hc287] at g7_
       have kn := K2 (ib 1 _ rfl) g7_
       exact L.kns _ kn (L.skip rfl rfl rfl rfl (L.nil (X.dk kn ⟨im, Sub.fresh ib rfl, i.u 11 (fun _ => rfl)⟩)))
      ·rintro D e s292 ⟨im, ib, i⟩ hk hf ha
       have g7_ := (i.p 7) (ha.at 7 rfl)
       rw [hc287] at g7_
       have kn := K2 ((i.p 11) (ha.at 11 rfl)) g7_
       exact L.kns _ kn (L.skip rfl rfl rfl rfl (L.nil (X.dk kn ⟨im, Sub.fresh ib rfl, i.u 12 (fun _ => rfl)⟩)))
      ·rintro D e s293 ⟨im, ib, i⟩ hk hf ha
       have g7_ := (i.p 7) (ha.at 7 rfl)
       rw [hc287] at g7_
       have kn := K2 ((i.p 12) (ha.at 12 rfl)) g7_
       exact L.kns _ kn (L.skip rfl rfl rfl rfl (L.nil (X.dk kn ⟨im, Sub.fresh ib rfl, i.u 13 (fun _ => rfl)⟩)))
      ·rintro D e s294 ⟨im, ib, i⟩ hk hf ha
       have g7_ := (i.p 7) (ha.at 7 rfl)
       rw [hc287] at g7_
       have kn := K3 ((i.p 10) (ha.at 10 rfl)) ((i.p 13) (ha.at 13 rfl)) g7_
       exact L.kns _ kn (L.skip rfl rfl rfl rfl (L.nil (X.dk kn ⟨im, Sub.fresh ib rfl, i.u 14 (fun _ => rfl)⟩)))
      ·rintro D e s295 ⟨im, ib, i⟩ hk hf ha
       have g3_ := (i.p 3) (ha.at 3 rfl)
       have g7_ := (i.p 7) (ha.at 7 rfl)
       rw [hc287] at g7_
       rw [hc282] at g3_
       have kn := K3 g7_ ((i.p 14) (ha.at 14 rfl)) g3_
       exact L.kns _ kn (L.pkT (Wt.mk rfl rfl) rfl rfl rfl rfl (L.nil (X.dk kn ⟨im, Sub.fresh ib rfl, i.u 15 (fun _ => rfl)⟩)))
      ·rintro D e s296 ⟨im, ib, i⟩ hk hf ha
       have g3_ := (i.p 3) (ha.at 3 rfl)
       rw [hc282] at g3_
       have kn := K2 g3_ ((i.p 15) (ha.at 15 rfl))
       exact L.kns _ kn (L.pkT Wt.no rfl rfl rfl rfl (L.nil (X.dk kn ⟨im, Sub.fresh ib rfl, i.u 16 (fun _ => rfl)⟩)))
      rintro D e s297 ⟨im, ib, i⟩ hk hf ha
      have kn := K1 ((i.p 16) (ha.at 16 rfl))
      exact L.kns _ kn (L.as Wt.no rfl rfl (L.nil (X.dk kn ⟨im, Sub.fresh ib rfl, i.u 17 (fun _ => rfl)⟩)))
     rintro D e s298 hD ⟨im, ib, i⟩
     have g17_ := (i.p 17) (hD 17 rfl)
     have h5 := h5.mv im no_No no_No
     have h7 := h7.mono (im.le no_No)
     have h9 := h9.mono (im.le no_No)
     have hp2 := hp2.mono (im.le no_No)
     have m0 := m0.trans im.no
     refine X.sub (e' := [(8, .bool true), (7, .slice a5 st170.1.length c5), (0, .slice a7 st170.2.1.length c7), (1, .slice a9 st170.2.2.length c9), (2, vp2)]) ?_ (Sub.cons g17_ (Sub.cons (ib 7 _ rfl) (Sub.cons (ib 0 _ rfl) (Sub.cons (ib 1 _ rfl) (Sub.cons (ib 2 _ rfl) Sub.nil)))))
     exact X.sub (Jj179 _ _ ⟨s298, true, hm, m0, h5, h7, h9, hp2, rfl, rfl⟩) (Sub.rf rfl)
    have _ := hN
    obtain ⟨x301, ex301, hm⟩ := bindS hm
    obtain ⟨x306, ex306, hm⟩ := bindS hm
    refine E.draw m_alphabet_merge_w0 (fun D e sx => Mv No s173 sx ∧ Sub [(7, .slice a5 st170.1.length c5), (0, .slice a7 st170.2.1.length c7), (1, .slice a9 st170.2.2.length c9), (2, vp2)] e ∧ AllP [G D e 0 19 (.slice a7 st170.2.1.length c7), G D e 1 20 (.int .i64 (st170.2.1.length : Int)), G D e 2 21 (.bool (decide ((st170.2.1.length : Int) > 0))), G D e 3 22 (.bool (decide ((st170.2.1.length : Int) > 0))), G D e 4 23 (.slice a9 st170.2.2.length c9), G D e 5 24 (.int .i64 (st170.2.2.length : Int)), G D e 6 25 (.bool ((st170.2.2.length : Int) == 0)), G D e 7 26 (.bool ((st170.2.2.length : Int) == 0)), G D e 8 27 (.slice a7 st170.2.1.length c7), D 9 = true → (∃ (b302 : Nat) (o302 : Nat), Env.get e 28 = some (.pointer (some ⟨b302, o302, none⟩)) ∧ Mem sx 0 b302 o302 [.int .i64 x301]), G D e 10 29 (.int .i64 x301), G D e 11 30 (.slice a9 st170.2.2.length c9), D 12 = true → (∃ (b307 : Nat) (o307 : Nat), Env.get e 31 = some (.pointer (some ⟨b307, o307, none⟩)) ∧ Mem sx 0 b307 o307 [.int .i64 x306]), G D e 13 32 (.int .i64 x306), G D e 14 33 (.bool (decide (x301 ≤ x306))), G D e 15 34 (.bool (decide (x301 ≤ x306))), G D e 16 35 (.bool (decide (x301 ≤ x306))), G D e 17 8 (.bool (decide (x301 ≤ x306)))]) (by kernel_rfl) (by kernel_rfl) (by kernel_rfl) ?_ ?_ ?_
    ·intro sz mz
     exact ⟨mz, (Sub.rf rfl), nofun, nofun, nofun, nofun, nofun, nofun, nofun, nofun, nofun, nofun, nofun, nofun, nofun, nofun, nofun, nofun, nofun, nofun, trivial⟩
    ·refine ⟨?_, ?_, ?_, ?_, ?_, ?_, ?_, ?_, ?_, ?_, ?_, ?_, ?_, ?_, ?_, ?_, ?_, ?_, trivial⟩
     ·rintro D e s278 ⟨im, ib, i⟩ hk hf ha
      have kn := K1 (ib 0 _ rfl)
      exact L.kns _ kn (L.mv Wt.no rfl rfl (L.nil (X.dk kn ⟨im, Sub.fresh ib rfl, i.u 0 (fun _ => rfl)⟩)))
     ·rintro D e s279 ⟨im, ib, i⟩ hk hf ha
      have kn := K1 ((i.p 0) (ha.at 0 rfl))
      exact L.kns _ kn (L.len sl31 Wt.no rfl rfl (L.nil (X.dk kn ⟨im, Sub.fresh ib rfl, i.u 1 (fun _ => rfl)⟩)))
     ·rintro D e s280 ⟨im, ib, i⟩ hk hf ha
      have kn := K1 ((i.p 1) (ha.at 1 rfl))
      exact L.kns _ kn (L.bi Wt.no rfl rfl rfl rfl (L.nil (X.dk kn ⟨im, Sub.fresh ib rfl, i.u 2 (fun _ => rfl)⟩)))
     ·rintro D e s281 ⟨im, ib, i⟩ hk hf ha
      have kn := K1 ((i.p 2) (ha.at 2 rfl))
      exact L.kns _ kn (L.mv Wt.no rfl rfl (L.nil (X.dk kn ⟨im, Sub.fresh ib rfl, i.u 3 (fun _ => rfl)⟩)))
     ·rintro D e s283 ⟨im, ib, i⟩ hk hf ha
      have g3_ := (i.p 3) (ha.at 3 rfl)
      rw [hc282] at g3_
      have kn := K2 (ib 1 _ rfl) g3_
      exact L.kns _ kn (L.mv (Wt.mk rfl rfl) rfl rfl (L.nil (X.dk kn ⟨im, Sub.fresh ib rfl, i.u 4 (fun _ => rfl)⟩)))
     ·rintro D e s284 ⟨im, ib, i⟩ hk hf ha
      have g3_ := (i.p 3) (ha.at 3 rfl)
      rw [hc282] at g3_
      have kn := K2 ((i.p 4) (ha.at 4 rfl)) g3_
      exact L.kns _ kn (L.len sl31 (Wt.mk rfl rfl) rfl rfl (L.nil (X.dk kn ⟨im, Sub.fresh ib rfl, i.u 5 (fun _ => rfl)⟩)))
     ·rintro D e s285 ⟨im, ib, i⟩ hk hf ha
      have g3_ := (i.p 3) (ha.at 3 rfl)
      rw [hc282] at g3_
      have kn := K2 ((i.p 5) (ha.at 5 rfl)) g3_
      exact L.kns _ kn (L.bi (Wt.mk rfl rfl) rfl rfl rfl rfl (L.nil (X.dk kn ⟨im, Sub.fresh ib rfl, i.u 6 (fun _ => rfl)⟩)))
     ·rintro D e s286 ⟨im, ib, i⟩ hk hf ha
      have g3_ := (i.p 3) (ha.at 3 rfl)
      rw [hc282] at g3_
      have kn := K2 ((i.p 6) (ha.at 6 rfl)) g3_
      exact L.kns _ kn (L.mv (Wt.mk rfl rfl) rfl rfl (L.nil (X.dk kn ⟨im, Sub.fresh ib rfl, i.u 7 (fun _ => rfl)⟩)))
     ·rintro D e s299 ⟨im, ib, i⟩ hk hf ha
      have g7_ := (i.p 7) (ha.at 7 rfl)
      rw [hc287] at g7_
      have kn := K2 (ib 0 _ rfl) g7_
      exact L.kns _ kn (L.mv (Wt.mk rfl rfl) rfl rfl (L.nil (X.dk kn ⟨im, Sub.fresh ib rfl, i.u 8 (fun _ => rfl)⟩)))
     ·rintro D e s300 ⟨im, ib, i⟩ hk hf ha
      have g7_ := (i.p 7) (ha.at 7 rfl)
      have h7 := h7.mono (im.le no_No)
      rw [hc287] at g7_
      have kn := K2 ((i.p 8) (ha.at 8 rfl)) g7_
      refine L.kns _ kn (L.ix (r := (rK .i64)) sl31 h7 (Wt.mk rfl rfl) rfl rfl ex301 rfl fun b302 o302 cc302 me302 rd302 => ?_)
      obtain rfl := rd302
      exact L.nil (X.dk kn ⟨im, Sub.fresh ib rfl, i.u 9 (fun _ => ⟨b302, o302, rfl, me302⟩)⟩)
     ·rintro D e s303 ⟨im, ib, i⟩ hk hf ha
      have g7_ := (i.p 7) (ha.at 7 rfl)
      obtain ⟨b302, o302, g9_, me302⟩ := (i.p 9) (ha.at 9 rfl)
      rw [hc287] at g7_
      have kn := K2 g9_ g7_
      exact L.kns _ kn (L.ld (j := 0) me302 nag3 (Wt.mk rfl rfl) rfl rfl rfl rfl (L.nil (X.dk kn ⟨im, Sub.fresh ib rfl, i.u 10 (fun _ => rfl)⟩)))
     ·rintro D e s304 ⟨im, ib, i⟩ hk hf ha
      have g7_ := (i.p 7) (ha.at 7 rfl)
      rw [hc287] at g7_
      have kn := K2 (ib 1 _ rfl) g7_
      exact L.kns _ kn (L.mv (Wt.mk rfl rfl) rfl rfl (L.nil (X.dk kn ⟨im, Sub.fresh ib rfl, i.u 11 (fun _ => rfl)⟩)))
     ·rintro D e s305 ⟨im, ib, i⟩ hk hf ha
      have g7_ := (i.p 7) (ha.at 7 rfl)
      have h9 := h9.mono (im.le no_No)
      rw [hc287] at g7_
      have kn := K2 ((i.p 11) (ha.at 11 rfl)) g7_
      refine L.kns _ kn (L.ix (r := (rK .i64)) sl31 h9 (Wt.mk rfl rfl) rfl rfl ex306 rfl fun b307 o307 cc307 me307 rd307 => ?_)
      obtain rfl := rd307
      exact L.nil (X.dk kn ⟨im, Sub.fresh ib rfl, i.u 12 (fun _ => ⟨b307, o307, rfl, me307⟩)⟩)
     ·rintro D e s308 ⟨im, ib, i⟩ hk hf ha
      have g7_ := (i.p 7) (ha.at 7 rfl)
      obtain ⟨b307, o307, g12_, me307⟩ := (i.p 12) (ha.at 12 rfl)
      rw [hc287] at g7_
      have kn := K2 g12_ g7_
      exact L.kns _ kn (L.ld (j := 0) me307 nag3 (Wt.mk rfl rfl) rfl rfl rfl rfl (L.nil (X.dk kn ⟨im, Sub.fresh ib rfl, i.u 13 (fun _ => rfl)⟩)))
     ·rintro D e s309 ⟨im, ib, i⟩ hk hf ha
      have g7_ := (i.p 7) (ha.at 7 rfl)
      rw [hc287] at g7_
      have kn := K3 ((i.p 10) (ha.at 10 rfl)) ((i.p 13) (ha.at 13 rfl)) g7_
      exact L.kns _ kn (L.bi (Wt.mk rfl rfl) rfl rfl rfl rfl (L.nil (X.dk kn ⟨im, Sub.fresh ib rfl, i.u 14 (fun _ => rfl)⟩)))
     ·rintro D e s310 ⟨im, ib, i⟩ hk hf ha
      have g3_ := (i.p 3) (ha.at 3 rfl)
      have g7_ := (i.p 7) (ha.at 7 rfl)
      rw [hc287] at g7_
      rw [hc282] at g3_
      have kn := K3 g7_ ((i.p 14) (ha.at 14 rfl)) g3_
      exact L.kns _ kn (L.pkF (Wt.mk rfl rfl) rfl rfl rfl rfl (L.nil (X.dk kn ⟨im, Sub.fresh ib rfl, i.u 15 (fun _ => rfl)⟩)))
     ·rintro D e s311 ⟨im, ib, i⟩ hk hf ha
      have g3_ := (i.p 3) (ha.at 3 rfl)
      rw [hc282] at g3_
      have kn := K2 g3_ ((i.p 15) (ha.at 15 rfl))
      exact L.kns _ kn (L.pkT Wt.no rfl rfl rfl rfl (L.nil (X.dk kn ⟨im, Sub.fresh ib rfl, i.u 16 (fun _ => rfl)⟩)))
     rintro D e s312 ⟨im, ib, i⟩ hk hf ha
     have kn := K1 ((i.p 16) (ha.at 16 rfl))
     exact L.kns _ kn (L.as Wt.no rfl rfl (L.nil (X.dk kn ⟨im, Sub.fresh ib rfl, i.u 17 (fun _ => rfl)⟩)))
    rintro D e s313 hD ⟨im, ib, i⟩
    have g17_ := (i.p 17) (hD 17 rfl)
    have h5 := h5.mv im no_No no_No
    have h7 := h7.mono (im.le no_No)
    have h9 := h9.mono (im.le no_No)
    have hp2 := hp2.mono (im.le no_No)
    have m0 := m0.trans im.no
    refine X.sub (e' := [(8, .bool (decide (x301 ≤ x306))), (7, .slice a5 st170.1.length c5), (0, .slice a7 st170.2.1.length c7), (1, .slice a9 st170.2.2.length c9), (2, vp2)]) ?_ (Sub.cons g17_ (Sub.cons (ib 7 _ rfl) (Sub.cons (ib 0 _ rfl) (Sub.cons (ib 1 _ rfl) (Sub.cons (ib 2 _ rfl) Sub.nil)))))
    exact X.sub (Jj179 _ _ ⟨s313, (decide (x301 ≤ x306)), hm, m0, h5, h7, h9, hp2, rfl, rfl⟩) (Sub.rf rfl)
   have _ := hN
   refine E.draw m_alphabet_merge_w0 (fun D e sx => Mv No s173 sx ∧ Sub [(7, .slice a5 st170.1.length c5), (0, .slice a7 st170.2.1.length c7), (1, .slice a9 st170.2.2.length c9), (2, vp2)] e ∧ AllP [G D e 0 19 (.slice a7 st170.2.1.length c7), G D e 1 20 (.int .i64 (st170.2.1.length : Int)), G D e 2 21 (.bool (decide ((st170.2.1.length : Int) > 0))), G D e 3 22 (.bool (decide ((st170.2.1.length : Int) > 0))), G D e 4 23 undef, G D e 5 24 undef, G D e 6 25 undef, G D e 7 26 undef, G D e 8 27 undef, G D e 9 28 undef, G D e 10 29 undef, G D e 11 30 undef, G D e 12 31 undef, G D e 13 32 undef, G D e 14 33 undef, G D e 15 34 undef, G D e 16 35 (.bool false), G D e 17 8 (.bool false)]) (by kernel_rfl) (by kernel_rfl) (by kernel_rfl) ?_ ?_ ?_
   ·intro sz mz
    exact ⟨mz, (Sub.rf rfl), nofun, nofun, nofun, nofun, nofun, nofun, nofun, nofun, nofun, nofun, nofun, nofun, nofun, nofun, nofun, nofun, nofun, nofun, trivial⟩
   ·refine ⟨?_, ?_, ?_, ?_, ?_, ?_, ?_, ?_, ?_, ?_, ?_, ?_, ?_, ?_, ?_, ?_, ?_, ?_, trivial⟩
    ·rintro D e s278 ⟨im, ib, i⟩ hk hf ha
     have kn := K1 (ib 0 _ rfl)
     exact L.kns _ kn (L.mv Wt.no rfl rfl (L.nil (X.dk kn ⟨im, Sub.fresh ib rfl, i.u 0 (fun _ => rfl)⟩)))
    ·rintro D e s279 ⟨im, ib, i⟩ hk hf ha
     have kn := K1 ((i.p 0) (ha.at 0 rfl))
     exact L.kns _ kn (L.len sl31 Wt.no rfl rfl (L.nil (X.dk kn ⟨im, Sub.fresh ib rfl, i.u 1 (fun _ => rfl)⟩)))
    ·rintro D e s280 ⟨im, ib, i⟩ hk hf ha
     have kn := K1 ((i.p 1) (ha.at 1 rfl))
     exact L.kns _ kn (L.bi Wt.no rfl rfl rfl rfl (L.nil (X.dk kn ⟨im, Sub.fresh ib rfl, i.u 2 (fun _ => rfl)⟩)))
    ·rintro D e s281 ⟨im, ib, i⟩ hk hf ha
     have kn := K1 ((i.p 2) (ha.at 2 rfl))
     exact L.kns _ kn (L.mv Wt.no rfl rfl (L.nil (X.dk kn ⟨im, Sub.fresh ib rfl, i.u 3 (fun _ => rfl)⟩)))
    ·rintro D e s314 ⟨im, ib, i⟩ hk hf ha
     have g3_ := (i.p 3) (ha.at 3 rfl)
     rw [hc282] at g3_
     have kn := K2 (ib 1 _ rfl) g3_
     exact L.kns _ kn (L.skip rfl rfl rfl rfl (L.nil (X.dk kn ⟨im, Sub.fresh ib rfl, i.u 4 (fun _ => rfl)⟩)))
    ·rintro D e s315 ⟨im, ib, i⟩ hk hf ha
     have g3_ := (i.p 3) (ha.at 3 rfl)
     rw [hc282] at g3_
     have kn := K2 ((i.p 4) (ha.at 4 rfl)) g3_
     exact L.kns _ kn (L.skip rfl rfl rfl rfl (L.nil (X.dk kn ⟨im, Sub.fresh ib rfl, i.u 5 (fun _ => rfl)⟩)))
    ·rintro D e s316 ⟨im, ib, i⟩ hk hf ha
     have g3_ := (i.p 3) (ha.at 3 rfl)
     rw [hc282] at g3_
     have kn := K2 ((i.p 5) (ha.at 5 rfl)) g3_
     exact L.kns _ kn (L.skip rfl rfl rfl rfl (L.nil (X.dk kn ⟨im, Sub.fresh ib rfl, i.u 6 (fun _ => rfl)⟩)))
    ·rintro D e s317 ⟨im, ib, i⟩ hk hf ha
     have g3_ := (i.p 3) (ha.at 3 rfl)
     rw [hc282] at g3_
     have kn := K2 ((i.p 6) (ha.at 6 rfl)) g3_
     exact L.kns _ kn (L.skip rfl rfl rfl rfl (L.nil (X.dk kn ⟨im, Sub.fresh ib rfl, i.u 7 (fun _ => rfl)⟩)))
    ·rintro D e s318 ⟨im, ib, i⟩ hk hf ha
     have kn := K2 (ib 0 _ rfl) ((i.p 7) (ha.at 7 rfl))
     exact L.kns _ kn (L.skipU rfl rfl rfl (L.nil (X.dk kn ⟨im, Sub.fresh ib rfl, i.u 8 (fun _ => rfl)⟩)))
    ·rintro D e s319 ⟨im, ib, i⟩ hk hf ha
     have kn := K2 ((i.p 8) (ha.at 8 rfl)) ((i.p 7) (ha.at 7 rfl))
     exact L.kns _ kn (L.skipU rfl rfl rfl (L.nil (X.dk kn ⟨im, Sub.fresh ib rfl, i.u 9 (fun _ => rfl)⟩)))
    ·rintro D e s320 ⟨im, ib, i⟩ hk hf ha
     have kn := K2 ((i.p 9) (ha.at 9 rfl)) ((i.p 7) (ha.at 7 rfl))
     exact L.kns _ kn (L.skipU rfl rfl rfl (L.nil (X.dk kn ⟨im, Sub.fresh ib rfl, i.u 10 (fun _ => rfl)⟩)))
    ·rintro D e s321 ⟨im, ib, i⟩ hk hf ha
     have kn := K2 (ib 1 _ rfl) ((i.p 7) (ha.at 7 rfl))
     exact L.kns _ kn (L.skipU rfl rfl rfl (L.nil (X.dk kn ⟨im, Sub.fresh ib rfl, i.u 11 (fun _ => rfl)⟩)))
    ·rintro D e s322 ⟨im, ib, i⟩ hk hf ha
     have kn := K2 ((i.p 11) (ha.at 11 rfl)) ((i.p 7) (ha.at 7 rfl))
     exact L.kns _ kn (L.skipU rfl rfl rfl (L.nil (X.dk kn ⟨im, Sub.fresh ib rfl, i.u 12 (fun _ => rfl)⟩)))
    ·rintro D e s323 ⟨im, ib, i⟩ hk hf ha
     have kn := K2 ((i.p 12) (ha.at 12 rfl)) ((i.p 7) (ha.at 7 rfl))
     exact L.kns _ kn (L.skipU rfl rfl rfl (L.nil (X.dk kn ⟨im, Sub.fresh ib rfl, i.u 13 (fun _ => rfl)⟩)))
    ·rintro D e s324 ⟨im, ib, i⟩ hk hf ha
     have kn := K3 ((i.p 10) (ha.at 10 rfl)) ((i.p 13) (ha.at 13 rfl)) ((i.p 7) (ha.at 7 rfl))
     exact L.kns _ kn (L.skipU rfl rfl rfl (L.nil (X.dk kn ⟨im, Sub.fresh ib rfl, i.u 14 (fun _ => rfl)⟩)))
    ·rintro D e s325 ⟨im, ib, i⟩ hk hf ha
     have g3_ := (i.p 3) (ha.at 3 rfl)
     rw [hc282] at g3_
     have kn := K3 ((i.p 7) (ha.at 7 rfl)) ((i.p 14) (ha.at 14 rfl)) g3_
     exact L.kns _ kn (L.skip rfl rfl rfl rfl (L.nil (X.dk kn ⟨im, Sub.fresh ib rfl, i.u 15 (fun _ => rfl)⟩)))
    ·rintro D e s326 ⟨im, ib, i⟩ hk hf ha
     have g3_ := (i.p 3) (ha.at 3 rfl)
     rw [hc282] at g3_
     have kn := K2 g3_ ((i.p 15) (ha.at 15 rfl))
     exact L.kns _ kn (L.pkF Wt.no rfl rfl rfl rfl (L.nil (X.dk kn ⟨im, Sub.fresh ib rfl, i.u 16 (fun _ => rfl)⟩)))
    rintro D e s327 ⟨im, ib, i⟩ hk hf ha
    have kn := K1 ((i.p 16) (ha.at 16 rfl))
    exact L.kns _ kn (L.as Wt.no rfl rfl (L.nil (X.dk kn ⟨im, Sub.fresh ib rfl, i.u 17 (fun _ => rfl)⟩)))
   rintro D e s328 hD ⟨im, ib, i⟩
   have g17_ := (i.p 17) (hD 17 rfl)
   have h5 := h5.mv im no_No no_No
   have h7 := h7.mono (im.le no_No)
   have h9 := h9.mono (im.le no_No)
   have hp2 := hp2.mono (im.le no_No)
   have m0 := m0.trans im.no
   refine X.sub (e' := [(8, .bool false), (7, .slice a5 st170.1.length c5), (0, .slice a7 st170.2.1.length c7), (1, .slice a9 st170.2.2.length c9), (2, vp2)]) ?_ (Sub.cons g17_ (Sub.cons (ib 7 _ rfl) (Sub.cons (ib 0 _ rfl) (Sub.cons (ib 1 _ rfl) (Sub.cons (ib 2 _ rfl) Sub.nil)))))
   exact X.sub (Jj179 _ _ ⟨s328, false, hm, m0, h5, h7, h9, hp2, rfl, rfl⟩) (Sub.rf rfl)
  refine E.cF rfl hc (E.exit (X.seqX (X.seqX ?_)))
  have hx := ho170 _ (Option.some.inj hm).symm
  subst hx
  exact X.sub (K175 _ _ ⟨s173, a5, c5, m0, h5, rfl, rfl⟩) (Sub.rf rfl)
 intro J329
 rcases Bool.eq_false_or_eq_true (decide ((st170.2.1.length : Int) > 0)) with hc | hc
 ·exact L.know (d := 14) rfl hc (L.skip rfl rfl rfl rfl (L.skip rfl rfl rfl rfl (L.skip rfl rfl rfl rfl (L.pkT Wt.no rfl rfl rfl rfl (L.sb (J329 _ _ ⟨true, (orT hc).symm, rfl, rfl⟩) rfl)))))
 exact L.know (d := 14) rfl hc (L.mv (Wt.mk rfl rfl) rfl rfl (L.len sl31 (Wt.mk rfl rfl) rfl rfl (L.bi (Wt.mk rfl rfl) rfl rfl rfl rfl (L.pkF Wt.no rfl rfl rfl rfl (L.sb (J329 _ _ ⟨(decide ((st170.2.2.length : Int) > 0)), (orF hc).symm, rfl, rfl⟩) rfl)))))

/-- What alphabet.Union$1 computes. -/
noncomputable def m_alphabet_Union_1 (p0 : Bool) (p1 : Bool) : Option Bool :=
  some (p0 || p1)
set_option maxRecDepth 100000 in
set_option maxHeartbeats 8000000 in
theorem m_alphabet_Union_1_c {s : Sig} {p0 : Bool} {p1 : Bool} {r : Bool} (hm : m_alphabet_Union_1 p0 p1 = some r) :
    Calls Tryd.prog 88 #[.bool p0, .bool p1] s.w (RetS No s fun v s' => v = .bool r) := by
 unfold m_alphabet_Union_1 at hm
 obtain ⟨N, hN, hNb⟩ := s.fresh
 have m0 : Mv (Up N No) s s := Mv.refl _ _
 refine E.entry Tryd.func88 rfl Tryd.ntmps88 rfl rfl (E.seq (E.reg (L.as Wt.no rfl rfl (L.nil (X.seqN (E.seq (E.reg (L.mv Wt.no rfl rfl (L.mv Wt.no rfl rfl (L.cut 2 (fun e w => ∃ (v1 : Bool), (p0 || p1) = v1 ∧ e = (8, .bool v1) :: [] ∧ w = s.w) ?_ ?_))))))))))
 ·rintro _ _ ⟨v1, rfl, rfl, rfl⟩
  refine L.as Wt.no rfl rfl (L.nil (X.seqN (E.ret ?_)))
  obtain rfl := Option.some.inj hm
  exact X.rt (.inl rfl) Tryd.results88 (Rs.tmp rfl Rs.nil) rfl ⟨_, (s).ren N (fun _ => 0), rfl, rfl, m0.ren hNb, rfl⟩
 intro J2
 rcases Bool.eq_false_or_eq_true p0 with hc | hc
 ·exact L.know (d := 6) rfl hc (L.skip rfl rfl rfl rfl (L.pkT Wt.no rfl rfl rfl rfl (L.sb (J2 _ _ ⟨true, (orT hc).symm, rfl, rfl⟩) rfl)))
 exact L.know (d := 6) rfl hc (L.mv (Wt.mk rfl rfl) rfl rfl (L.pkF Wt.no rfl rfl rfl rfl (L.sb (J2 _ _ ⟨p1, (orF hc).symm, rfl, rfl⟩) rfl)))

theorem cf87 : Cf Tryd.prog 87 := Cf.mk Tryd.func87 (by kernel_rfl) (by kernel_rfl)
theorem cf88 : Cf Tryd.prog 88 := Cf.mk Tryd.func88 (by kernel_rfl) (by kernel_rfl)
theorem fv88 {s : Sig} : FV2 Tryd.prog s (.func (.func 88) #[] #[]) (fun (x0 : Bool) (x1 : Bool) => [.bool x0, .bool x1]) (fun r => .bool r) m_alphabet_Union_1 := ⟨88, #[], #[], rfl, cf88, fun x0 x1 r hm s' hl => by have hh := m_alphabet_Union_1_c (s := s') hm; simpa using hh⟩
/-- What alphabet.Union computes. -/
noncomputable def m_alphabet_Union (p0 : List Int) (p1 : List Int) : Option (List Int) :=
  (m_alphabet_merge p0 p1 m_alphabet_Union_1).bind fun r4 =>
  some r4
set_option maxRecDepth 100000 in
set_option maxHeartbeats 8000000 in
theorem m_alphabet_Union_c {s : Sig} {p0 : List Int} {p1 : List Int} {a1 : Option Addr} {c1 : Nat} {a2 : Option Addr} {c2 : Nat} {u0 : Nat} {r : List Int} (h1 : RdL (rK .i64) s a1 c1 p0) (h2 : RdL (rK .i64) s a2 c2 p1) (hm : m_alphabet_Union p0 p1 = some r) :
    Calls Tryd.prog 76 #[.slice a1 p0.length c1, .slice a2 p1.length c2] s.w (RetS No s fun v s' => ∃ (a3 : Option Addr) (c3 : Nat), v = .slice a3 r.length c3 ∧ RowT (rK .i64) s' u0 3 a3 c3 r) := by
 unfold m_alphabet_Union at hm
 obtain ⟨N, hN, hNb⟩ := s.fresh
 have m0 : Mv (Up N No) s s := Mv.refl _ _
 refine E.entry Tryd.func76 rfl Tryd.ntmps76 rfl rfl (E.seq (E.reg (L.as Wt.no rfl rfl (L.nil (X.seqN (E.seq (E.reg (L.mv Wt.no rfl rfl (L.mv Wt.no rfl rfl ?_)))))))))
 obtain ⟨r4, er4, hm⟩ := bindS hm
 refine L.ca cf87 rfl rfl Wt.no rfl (m_alphabet_merge_c (s := s) (p0 := p0) (p1 := p1) (p2 := m_alphabet_Union_1) (u0 := (N + 0)) h1 h2 fv88 er4) rfl ?_
 rintro _ s5 m6 ⟨a7, c7, rfl, h7⟩
 replace m0 := m0.trans m6.no
 refine L.as Wt.no rfl rfl (L.nil (X.seqN (E.ret ?_)))
 obtain rfl := Option.some.inj hm
 exact X.rt (.inl rfl) Tryd.results76 (Rs.tmp rfl Rs.nil) rfl ⟨_, (s5).ren N (fun k => cond (Nat.beq k 0) u0 (0)), rfl, rfl, m0.ren hNb, ⟨a7, c7, rfl, (h7.ren hN)⟩⟩

end Go.Proofs.YtfbapajcheammaaDoor

