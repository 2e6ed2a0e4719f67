/- Parts of the proof, without what nothing here names. -/
import Derived.Deep.LoopGhost
import Derived.Deep.DeepCutAuto
import Derived.Deep.RegionWith
import Derived.BigQuiet
import Derived.Deep.QuietTactic
import Derived.Test.YthchkddhibhenaaQcn2
namespace Go.Proofs.Ythchkddhibhenaa
open Go.RowKit Go.Shelf

theorem wp_edges_lt {g : Operand} {ps : Array Tmp} {assign body : Code} {Q : Exit → Act → World → Prop} {a : Act} {w : World} {bg bs n₀ N : Nat} {sub : List Ed} {w0 : World}
    (hg : a.eval g = .func (.func 84) #[] #[.pointer (some ⟨bg, 0, none⟩), .pointer (some ⟨bs, 0, none⟩)])
    (hseq : SeqStopsK Fence.wide 3 Try.prog 84 #[.pointer (some ⟨bg, 0, none⟩), .pointer (some ⟨bs, 0, none⟩)] (edEnc (sub := sub)) (Below n₀) (fun ys => ys.map (·.1) = sub) (fun _ => True) N w0)
    (hb0 : Below w0.heap.size w0 w) (hn0 : n₀ ≤ w.heap.size) (hps : ps.size = 1)
    (I : List Ed → World → Prop) (hI : OwnFrom w.heap.size I) (h0 : I [] w) (Ax : Ed → Act → World → Prop) (hAx : ∀ x a', OwnFrom w.heap.size (fun (_ : Unit) W => Ax x a' W))
    (hassign : ∀ (l : Nat) (pre : List Ed) (x : Ed) (W : World) (K : Act → World → Prop), x ∈ sub → I pre W → (∀ a' W', KeepsFrom w.heap.size W W' → Below n₀ W W' → I pre W' → Ax x a' W' → K a' W') →
      assign.wpIn (Fence.wide.inRound l) 2 Try.prog (Exit.then K (fun _ _ _ => False)) { tmps := (ps.zip #[x.val]).foldl (fun t (p, v) => t.setIfInBounds p v) a.tmps, defers := [] } W)
    (hbody : ∀ (l : Nat) (pre : List Ed) (x : Ed) (a' : Act) (W : World), x ∈ sub → w.heap.size ≤ l → pre.length < N → I pre W → Ax x a' W →
      body.wpIn (Fence.wide.inRound l) 2 Try.prog (ownPostG w.heap.size (Below n₀) I (fun _ _ _ => False) (pre ++ [x]) W) a' W)
    (hdone : ∀ (D : Nat) (W : World), w.heap.size ≤ D → I sub W → W.heap[D]? = some (.deferred (some [])) → Q .normal { a with defers := mark D :: a.defers } W) :
    (Code.rangeFunc g ps assign body).wp Try.prog Q a w := by
  refine wpIn_wide.1 (wpIn_rangeFunc_ownH (n := 4) rfl (by decide) hg trivial (enters_of Try.func84 (by kernel_rfl) rfl) hseq belowK_t (belowK_b hn0) hb0 (fun _ => by simp [edEnc, hps])
    (fun (pre : List { x : Ed // x ∈ sub }) W => I (pre.map (fun y => y.1)) W) (fun _ _ _ => False) (fun pre W W' row h1 h2 h3 => hI (pre.map (fun y => y.1)) W W' row h1 h2 h3) (fun _ _ _ _ _ h _ _ => h) h0 (fun x a' W => Ax x.1 a' W) (fun x a' => hAx x.1 a')
    (fun l pre x W K hi hK => hassign l (pre.map (fun y => y.1)) x.1 W K x.2 hi hK) (fun l pre x a' W hl _ hi hax hlt => ?_) (fun D ys W hD hS hi hd => ?_) (fun _ _ _ _ _ _ h => h.elim))
  · have := hbody l (pre.map (fun y => y.1)) x.1 a' W x.2 hl (by rw [List.length_map]; exact hlt) hi hax
    refine wpIn_mono this ?_
    intro e a2 W2 h2
    cases e <;> simp only [ownPostG] at h2 ⊢
    · exact ⟨h2.1, h2.2.1, by rw [List.map_append]; exact h2.2.2⟩
    all_goals exact h2
  · exact hdone D W hD (by rw [← hS]; exact hi) hd

theorem wp_edges_box {g : Operand} {ps : Array Tmp} {assign body : Code} {Q : Exit → Act → World → Prop} {a : Act} {w : World} {bg bs n₀ N : Nat} {sub : List Ed} {w0 : World}
    (hg : a.eval g = .func (.func 84) #[] #[.pointer (some ⟨bg, 0, none⟩), .pointer (some ⟨bs, 0, none⟩)])
    (hseq : SeqStopsK Fence.wide 3 Try.prog 84 #[.pointer (some ⟨bg, 0, none⟩), .pointer (some ⟨bs, 0, none⟩)] (edEnc (sub := sub)) (Below n₀) (fun ys => ys.map (·.1) = sub) (fun _ => True) N w0)
    (hb0 : Below w0.heap.size w0 w) (hn0 : n₀ ≤ w.heap.size) (p q : Nat) (hps : ps = #[p])
    (I : List Ed → World → Prop) (hI : OwnFrom w.heap.size I) (h0 : I [] w) (B : Ed → Nat → World → Prop) (hB : ∀ x b, OwnFrom w.heap.size (fun (_ : Unit) W => B x b W))
    (hassign : ∀ (l : Nat) (pre : List Ed) (x : Ed) (W : World) (K : Act → World → Prop), x ∈ sub → I pre W → (∀ b W', KeepsFrom w.heap.size W W' → Below n₀ W W' → I pre W' → B x b W' → K { tmps := (a.tmps.setIfInBounds p x.val).setIfInBounds q (.pointer (some ⟨b, 0, none⟩)), defers := [] } W') →
      assign.wpIn (Fence.wide.inRound l) 2 Try.prog (Exit.then K (fun _ _ _ => False)) { tmps := a.tmps.setIfInBounds p x.val, defers := [] } W)
    (hbody : ∀ (l : Nat) (pre : List Ed) (x : Ed) (b : Nat) (W : World), x ∈ sub → w.heap.size ≤ l → pre.length < N → I pre W → B x b W →
      body.wpIn (Fence.wide.inRound l) 2 Try.prog (ownPostG w.heap.size (Below n₀) I (fun _ _ _ => False) (pre ++ [x]) W) { tmps := (a.tmps.setIfInBounds p x.val).setIfInBounds q (.pointer (some ⟨b, 0, none⟩)), defers := [] } W)
    (hdone : ∀ (D : Nat) (W : World), w.heap.size ≤ D → I sub W → W.heap[D]? = some (.deferred (some [])) → Q .normal { a with defers := mark D :: a.defers } W) :
    (Code.rangeFunc g ps assign body).wp Try.prog Q a w := by
  subst hps
  refine wp_edges_lt hg hseq hb0 hn0 rfl I hI h0 (fun x a' W => ∃ b, B x b W ∧ a' = { tmps := (a.tmps.setIfInBounds p x.val).setIfInBounds q (.pointer (some ⟨b, 0, none⟩)), defers := [] }) ?_ ?_ ?_ hdone
  · intro x a' u W W' row h1 h2 h3
    obtain ⟨b, hb, e⟩ := h1
    exact ⟨b, hB x b u W W' row hb h2 h3, e⟩
  · intro l pre x W K hx hi hK
    have h := hassign l pre x W K hx hi (fun b W' h1 h2 h3 h4 => hK _ W' h1 h2 h3 ⟨b, h4, rfl⟩)
    have e : (Array.zip #[p] #[x.val]) = #[(p, x.val)] := by simp [Array.zip]
    rw [e]
    simp only [List.foldl_toArray, List.foldl_cons, List.foldl_nil, List.size_toArray, List.length_cons, List.length_nil, List.foldl_toArray']
    exact h
  · rintro l pre x a' W hx hl hlt hi ⟨b, hb, rfl⟩
    exact hbody l pre x b W hx hl hlt hi hb
end Go.Proofs.Ythchkddhibhenaa

namespace Go.Proofs.Ythchkddhibhenaa
open Go.RowKit

/-- The lists of an automaton lie in memory from block B on. -/
def FreshA (B : Nat) (v : Value) : Prop := ∃ (a1 a2 a3 : Option Addr) (l1 c1 l2 c2 l3 c3 : Nat) (n : Int), v = .agg #[.slice a1 l1 c1, .int .i64 n, .slice a2 l2 c2, .slice a3 l3 c3] ∧ (∀ ad, a1 = some ad → B ≤ ad.block) ∧ (∀ ad, a2 = some ad → B ≤ ad.block) ∧ (∀ ad, a3 = some ad → B ≤ ad.block)
theorem Row.fresh_ad {w : World} {B : Nat} {tag : Nat → Nat} {k : Nat} {t : TypeId} {sz : Nat} {n c m : Nat} {cs : List Value} {a : Option Addr} (h : Row w B tag k t sz (.slice a n c) m cs) : ∀ ad, a = some ad → B ≤ ad.block := by
  intro ad e
  rcases h.2 with ⟨h1, _⟩ | ⟨b, off, cap, cur, h1, ho, _⟩
  · cases h1; cases e
  · cases h1; cases e; exact ho.base
theorem FreshA.mono {B B' : Nat} {v : Value} (h : FreshA B v) (hb : B' ≤ B) : FreshA B' v := by
  obtain ⟨a1, a2, a3, l1, c1, l2, c2, l3, c3, n, e, h1, h2, h3⟩ := h
  exact ⟨a1, a2, a3, l1, c1, l2, c2, l3, c3, n, e, fun ad e => Nat.le_trans hb (h1 ad e), fun ad e => Nat.le_trans hb (h2 ad e), fun ad e => Nat.le_trans hb (h3 ad e)⟩
/-- What Restrict returns. -/
def RestPost (B : Nat) (e : Int) (r : Aut) (u : Value) (w' : World) : Prop := if e = 0 then ∃ v, u = .tuple #[v, .int .i64 0] ∧ RdA w' v r ∧ FreshA B v else u = .tuple #[.agg #[.slice none 0 0, .int .i64 0, .slice none 0 0, .slice none 0 0], .int .i64 e]
theorem RestPost.err {B : Nat} {e : Int} {r : Aut} {w' : World} (h : e ≠ 0) : RestPost B e r (.tuple #[.agg #[.slice none 0 0, .int .i64 0, .slice none 0 0, .slice none 0 0], .int .i64 e]) w' := by unfold RestPost; rw [if_neg h]
theorem RestPost.ok {B : Nat} {e : Int} {r : Aut} {v : Value} {w' : World} (h : e = 0) (hr : RdA w' v r) (hf : FreshA B v) : RestPost B e r (.tuple #[v, .int .i64 0]) w' := by unfold RestPost; rw [if_pos h]; exact ⟨v, rfl, hr, hf⟩
/-- Four cells of another block are stored: the lists in new memory stay. -/
theorem RdA.setCell {w : World} {v : Value} {r : Aut} {B b : Nat} (h : RdA w v r) (hf : FreshA B v) (hb : b < B) (j : Nat) (x : Value) : RdA (w.setCell ⟨b, j, none⟩ x) v r := by
  obtain ⟨a1, a2, a3, l1, c1, l2, c2, l3, c3, n, rfl, h1, h2, h3⟩ := hf
  obtain ⟨va, vm, ve, e, ⟨aa, ca, rfl, ha⟩, ⟨am, cm, rfl, hm⟩, ⟨ae, ce, rfl, he⟩⟩ := h
  cases e
  have hk : ∀ (ad : Addr) (i : Nat), B ≤ ad.block → (w.setCell ⟨b, j, none⟩ x).cell? ⟨ad.block, i, none⟩ = w.cell? ⟨ad.block, i, none⟩ := fun ad i hB => by
    apply World.cell?_setCell_other
    intro e
    have := congrArg Addr.block e
    dsimp only at this
    omega
  exact ⟨_, _, _, rfl, ⟨_, _, rfl, ⟨ha.hlen, ha.hcap, ha.hmax, ha.hnil, ha.spot, fun ad e j hj => (hk ad _ (h1 ad e)).trans (ha.cell ad e j hj)⟩⟩, ⟨_, _, rfl, ⟨hm.hlen, hm.hcap, hm.hmax, hm.hnil, hm.spot, fun ad e j hj => (hk ad _ (h2 ad e)).trans (hm.cell ad e j hj)⟩⟩, ⟨_, _, rfl, ⟨he.hlen, he.hcap, he.hmax, he.hnil, he.spot, fun ad e j hj => (hk ad _ (h3 ad e)).trans (he.cell ad e j hj)⟩⟩⟩
end Go.Proofs.Ythchkddhibhenaa

namespace Go.Proofs.Ythchkddhibhenaa
open Go Go.RowKit Go.Shelf
attribute [local go_sem] Oper.semAt_some

/-- What holds of the slots that hold no memory of the region of the two lists of flags. -/
def PR10 (A vk : Value) (B : Nat) (vm : Value) : Nat → Value → Prop
  | 0, v => v = A
  | 1, v => v = vk
  | 3, v => v = A
  | 4, v => v = .pointer (some ⟨B, 2, none⟩)
  | 5, v => v = vm
  | _, _ => True
/-- What holds of the slots of a region. -/
def RE20 (Gc : Array Value) (vq : Value) (i : Nat) (bq : Nat) (oq : Nat) (t : Int) (B : Nat) : Nat → Value → World → Prop
  | 0, v, _ => v = .agg Gc
  | 1, v, _ => v = vq
  | 2, v, _ => v = .int .i64 i
  | 3, v, _ => v = .pointer (some ⟨bq, oq + i, none⟩)
  | 4, v, _ => v = .int .i64 t
  | 5, v, W => ∃ m, v = .func (.func 84) #[] #[.pointer (some ⟨m, 0, none⟩), .pointer (some ⟨m + 1, 0, none⟩)] ∧ B ≤ m ∧ W.heap[m]? = some (.cells Gc 80 (0, 0)) ∧ W.heap[m + 1]? = some (.cells #[.int .i64 t] 3 (0, 0))
  | _ + 6, _, _ => False
theorem RE20_mono {Gc : Array Value} {vq : Value} {i : Nat} {bq : Nat} {oq : Nat} {t : Int} {B : Nat} : ∀ j v W W', Below W.heap.size W W' → RE20 Gc vq i bq oq t B j v W → RE20 Gc vq i bq oq t B j v W'
  | 0, _, _, _, _, h => h
  | 1, _, _, _, _, h => h
  | 2, _, _, _, _, h => h
  | 3, _, _, _, _, h => h
  | 4, _, _, _, _, h => h
  | 5, _, _, _, hb, h => by
      obtain ⟨m, h1, h2, h3, h4⟩ := h
      exact ⟨m, h1, h2, (hb.block m (Array.getElem?_eq_some_iff.1 h3).1).trans h3, (hb.block (m + 1) (Array.getElem?_eq_some_iff.1 h4).1).trans h4⟩
  | _ + 6, _, _, _, _, h => h.elim
theorem list_RE20 {us : List Value} (h : us.length = 6) : ∃ u0 u1 u2 u3 u4 u5, us = [u0, u1, u2, u3, u4, u5] := by
  match us, h with
  | [u0, u1, u2, u3, u4, u5], _ => exact ⟨_, _, _, _, _, _, rfl⟩
/-- The rest while an edge is appended. -/
def PhiX (w : World) (G : Array Value) (n b8 b9 b11 b12 b13 : Nat) (va vin vnum vmk : Value) (alL : List Int) (inF mkF : List Bool) (ds : List Deferred) (bi i : Nat) (vm vq : Value) (S : RSt) (ms : List Int) (Bx : Nat) (xf xe xt : Int) (V : World) (vf : Value) (nf : Nat) (fl : List Value) (c : Value) (tag : Nat → Nat) (W : World) : Prop :=
  XB w G n b8 b9 b11 b12 b13 va vin vnum vmk alL inF mkF ds W tag bi i vm c vq S ms ∧ Own W w.heap.size tag 10 Bx #[.int .i64 xf, .int .i64 xe, .int .i64 xt] 45 ∧ Below w.heap.size V W ∧ (∀ m, KeepsFrom m V W) ∧ Row W w.heap.size tag 0 3 1 vf nf fl
/-- The slots that hold no memory of the edges. -/
def PR26 (b8 Bx bn t2 n i : Nat) (xe xt nv : Int) (ve : Value) : Nat → Value → Prop
  | 0, v => v = .pointer (some ⟨b8, 3, none⟩)
  | 1, v => v = ve
  | 2, v => v = .int .i64 (i : Int)
  | 3, v => v = .pointer (some ⟨Bx, 1, none⟩)
  | 4, v => v = .int .i64 xe
  | 5, v => v = .slice (some ⟨bn, 0, none⟩) n n
  | 6, v => v = .pointer (some ⟨Bx, 2, none⟩)
  | 7, v => v = .int .i64 xt
  | 8, v => v = .pointer (some ⟨bn, t2, none⟩)
  | 9, v => v = .int .i64 nv
  | 10, v => v = .int .i64 (nv - 1)
  | 11, v => v = .agg #[.int .i64 (i : Int), .int .i64 xe, .int .i64 (nv - 1)]
  | 14, v => v = .pointer (some ⟨b8, 3, none⟩)
  | _, _ => True
/-- Four cells are stored. -/
theorem Own.store4 {w : World} {B : Nat} {tag : Nat → Nat} {k b : Nat} {c0 c1 c2 c3 : Value} {t : TypeId} (h : Own w B tag k b #[c0, c1, c2, c3] t) (d0 d1 d2 d3 : Value) :
    Own ((((w.setCell ⟨b, 0, none⟩ d0).setCell ⟨b, 1, none⟩ d1).setCell ⟨b, 2, none⟩ d2).setCell ⟨b, 3, none⟩ d3) B tag k b #[d0, d1, d2, d3] t ∧ Turn B tag tag k w ((((w.setCell ⟨b, 0, none⟩ d0).setCell ⟨b, 1, none⟩ d1).setCell ⟨b, 2, none⟩ d2).setCell ⟨b, 3, none⟩ d3) := by
  have h0 := h.set 0 d0
  have h1 := h0.set 1 d1
  have h2 := h1.set 2 d2
  have h3 := h2.set 3 d3
  exact ⟨h3, ((Turn.setCell h 0 d0).trans (Turn.setCell h0 1 d1)).trans ((Turn.setCell h1 2 d2).trans (Turn.setCell h2 3 d3))⟩

set_option maxRecDepth 100000 in
set_option maxHeartbeats 6000000 in
theorem restrict_any (v vk : Value) (a : Aut) (kp : List Int) (w : World) (ha : RdA w v a) (hs : a.small) (h2 : RdI w vk kp) (hl2 : kp.length ≤ 1000000) :
    Calls Try.prog 37 #[v, vk] w (Ret w (RestPost w.heap.size (err2 a.err (setErr a.n none kp)) (restrictF a.al a.ms a.n.toNat a.es kp))) := by
  have Ha := Lib.hid ha
  have Hs := Lib.hid hs
  obtain ⟨va, vm, ve, rfl, ⟨aa, ca, rfl, hra⟩, ⟨am, cm, rfl, hrm⟩, ⟨ae, ce, rfl, hre⟩⟩ := ha
  have H2 := Lib.hid h2
  have Hra := Lib.hid hra
  have Hrm := Lib.hid hrm
  obtain ⟨ak, ck, rfl, hrk⟩ := h2
  clear hs hra hrm
  generalize hE : err2 a.err (setErr a.n none kp) = E0
  have HE := Lib.hid hE.symm
  generalize hRR : restrictF a.al a.ms a.n.toNat a.es kp = R
  have HRR := Lib.hid hRR.symm
  clear hE hRR
  refine calls_of_marks Try.func37 rfl ?_
  simp only [Try.ntmps37, List.size_toArray, List.length_cons, List.length_nil, Nat.reduceAdd, Nat.reduceSub, Array.replicate_succ, Array.replicate_zero, List.push_toArray, List.append_toArray, List.nil_append, List.cons_append]
  go_wp2_with fail
  have hB0 : Below w.heap.size w ((w.alloc (.cells #[.slice aa a.al.length ca, .int .i64 a.n, .slice am a.ms.length cm, .slice ae a.es.length ce] 31)).alloc (.cells #[.slice none 0 0, .int .i64 0, .slice none 0 0, .slice none 0 0] 31)) := by (repeat (first | with_reducible exact Below.refl _ _ | with_reducible exact Ha | (with_reducible refine belCall ?_ Ha (by first | omega | (simp; done) | (simp; omega) | (simp at *; omega))) | (with_reducible refine Below.alloc ?_ (by first | omega | (simp; done) | (simp; omega) | (simp at *; omega)) _) | (with_reducible refine Below.drew ?_) | (with_reducible refine Below.setCell ?_ (by first | omega | (simp; done) | (simp; omega) | (simp at *; omega)) _)))
  refine (check_any _ a _ (Ha.out.mono hB0) Hs.out).mono ?_
  rintro e w1 ⟨_, rfl, rfl, hb1⟩
  have hW1 := hB0.trans (hb1.mono hB0.size)
  have ho1 : Own w1 w.heap.size (fun _ => 0) 0 w.heap.size #[.slice aa a.al.length ca, .int .i64 a.n, .slice am a.ms.length cm, .slice ae a.es.length ce] 31 := ⟨(hb1.block _ (by simp; omega)).trans (by repeat (first | with_reducible assumption | (with_reducible refine heap_at ?_; (first | (simp; done) | (simp; omega))) | (with_reducible refine heap_past ?_ ?_; (next => first | omega | (simp; done) | (simp; omega))))), rfl, Nat.le_refl _⟩
  have ho4 : Own w1 w.heap.size (fun _ => 0) 0 (w.heap.size + 1) #[.slice none 0 0, .int .i64 0, .slice none 0 0, .slice none 0 0] 31 := ⟨(hb1.block _ (by simp)).trans (by repeat (first | with_reducible assumption | (with_reducible refine heap_at ?_; (first | (simp; done) | (simp; omega))) | (with_reducible refine heap_past ?_ ?_; (next => first | omega | (simp; done) | (simp; omega))))), rfl, by omega⟩
  clear hb1
  have x0 : w1.cell? ⟨w.heap.size, 0, none⟩ = some (.slice aa a.al.length ca) := ho1.cell 0
  have x1 : w1.cell? ⟨w.heap.size, 1, none⟩ = some (.int .i64 a.n) := ho1.cell 1
  have x2 : w1.cell? ⟨w.heap.size, 2, none⟩ = some (.slice am a.ms.length cm) := ho1.cell 2
  have x3 : w1.cell? ⟨w.heap.size, 3, none⟩ = some (.slice ae a.es.length ce) := ho1.cell 3
  have q0 : w1.cell? ⟨w.heap.size + 1, 0, none⟩ = some (.slice none 0 0) := ho4.cell 0
  have q1 : w1.cell? ⟨w.heap.size + 1, 1, none⟩ = some (.int .i64 0) := ho4.cell 1
  have q2 : w1.cell? ⟨w.heap.size + 1, 2, none⟩ = some (.slice none 0 0) := ho4.cell 2
  have q3 : w1.cell? ⟨w.heap.size + 1, 3, none⟩ = some (.slice none 0 0) := ho4.cell 3
  have f0 := ho4.frozen 0
  have f1 := ho4.frozen 1
  have f2 := ho4.frozen 2
  have f3 := ho4.frozen 3
  have hl4 := ho4.lt
  have HO4 := Lib.hid ho4
  have HO1 := Lib.hid ho1
  clear ho1 ho4
  by_cases h1 : a.err = 0
  · have H1 := Lib.hid h1
    rw [h1]
    have hok := Aut.ok_of h1
    have hn0 := hok.n0
    have hn1 := hok.n1
    have Hes := Lib.hid hok.es
    have Hms := Lib.hid hok.ms
    have hae := Hs.out.es
    have hal := Hs.out.al
    have hams := Hs.out.ms
    clear hok h1
    generalize hn : a.n = an at *
    obtain ⟨n, rfl⟩ := Int.eq_ofNat_of_zero_le hn0
    have Hn := Lib.hid hn
    clear hn hn0
    go_wp2_with fail
    refine (checkStates_any _ _ _ _ _ _ _ _ _ _ _ kp _ (H2.out.mono hW1) hl2).mono ?_
    rintro e w2 ⟨_, rfl, rfl, hb2⟩
    have hW2 := hW1.trans (hb2.mono hW1.size)
    replace x0 := keep0 hb2 x0
    replace x1 := keep0 hb2 x1
    replace x2 := keep0 hb2 x2
    replace x3 := keep0 hb2 x3
    have HO4 := Lib.hid (HO4.out.below hb2)
    have HO1 := Lib.hid (HO1.out.below hb2)
    clear q0 q1 q2 q3 f0 f1 f2 f3 hl4
    have q0 : w2.cell? ⟨w.heap.size + 1, 0, none⟩ = some (.slice none 0 0) := HO4.out.cell 0
    have q1 : w2.cell? ⟨w.heap.size + 1, 1, none⟩ = some (.int .i64 0) := HO4.out.cell 1
    have q2 : w2.cell? ⟨w.heap.size + 1, 2, none⟩ = some (.slice none 0 0) := HO4.out.cell 2
    have q3 : w2.cell? ⟨w.heap.size + 1, 3, none⟩ = some (.slice none 0 0) := HO4.out.cell 3
    have f0 := HO4.out.frozen 0
    have f1 := HO4.out.frozen 1
    have f2 := HO4.out.frozen 2
    have f3 := HO4.out.frozen 3
    have hl4 := HO4.out.lt
    clear hb2
    by_cases h3 : setErr n none kp = 0
    · have H3 := Lib.hid h3
      have hin := setErr_zero h3
      have Hin := Lib.hid hin
      rw [h3]
      have HE2 : Hid (E0 = 0) := by show _ = _; rw [HE.out, err2, if_pos H1.out]; exact h3
      clear h3 hin HE
      have hrst : Hid (RdS w2 1 aa a.al.length ca (ints a.al)) := Hra.out.mono hW2
      go_wp2_with fail
      refine (clone_any _ a.al _ ⟨_, _, rfl, hrst.out⟩ (by omega)).mono ?_
      rintro e w3 ⟨_, rfl, hown3, hb3⟩
      have hW3 := hW2.trans (hb3.mono hW2.size)
      replace x0 := keep0 hb3 x0
      replace x1 := keep0 hb3 x1
      replace x2 := keep0 hb3 x2
      replace x3 := keep0 hb3 x3
      have HO4 := Lib.hid (HO4.out.turn (Turn.call (B := w.heap.size) (k := 1) hb3) (by decide))
      have HO1 := Lib.hid (HO1.out.turn (Turn.call (B := w.heap.size) (k := 1) hb3) (by decide))
      have hz3 := hb3.size
      clear q0 q1 q2 q3 f0 f1 f2 f3 hl4
      have q0 : w3.cell? ⟨w.heap.size + 1, 0, none⟩ = some (.slice none 0 0) := HO4.out.cell 0
      have q1 : w3.cell? ⟨w.heap.size + 1, 1, none⟩ = some (.int .i64 0) := HO4.out.cell 1
      have q2 : w3.cell? ⟨w.heap.size + 1, 2, none⟩ = some (.slice none 0 0) := HO4.out.cell 2
      have q3 : w3.cell? ⟨w.heap.size + 1, 3, none⟩ = some (.slice none 0 0) := HO4.out.cell 3
      have f0 := HO4.out.frozen 0
      have f1 := HO4.out.frozen 1
      have f2 := HO4.out.frozen 2
      have f3 := HO4.out.frozen 3
      have hl4 := HO4.out.lt
      have hrow3 := Row.of_call (tag := fun _ => 0) (k := 1) hown3 hW2.size
      obtain ⟨a3, c3, rfl⟩ := hrow3.val
      have Hrow3 := Lib.hid hrow3
      clear hown3 hrow3 hb3
      by_cases hk : kp.head? = some 0
      · have hkp : 0 < kp.length := by
          cases hkc : kp with
          | nil => rw [hkc] at hk; cases hk
          | cons k0 l => simp
        obtain ⟨bk, ok, rfl, hck⟩ := hrk.at_int 0 hkp
        have hck' := keep0 hW3 hck
        have hk0 : kp[0] = 0 := by rw [List.head?_eq_getElem?, List.getElem?_eq_getElem hkp] at hk; exact Option.some.inj hk
        rw [hk0, Nat.add_zero] at hck'
        have hnp : 0 < n := by have := Hin.out _ (List.getElem_mem hkp); rw [hk0] at this; omega
        have hklen : ((kp.length : Int) == 0) = false := by rw [beq_eq_false_iff_ne]; omega
        have hbkl := World.block_lt_of_cell? _ _ hck'
        dsimp only at hbkl
        have hkI : (0 : Int) < (kp.length : Int) := by omega
        clear hk0 hck
        go_wp2_with fail
        have HPhi : Hid (PhiD w w3.heap.size (.slice aa a.al.length ca) (.int .i64 n) (.slice am a.ms.length cm) (.slice ae a.es.length ce) (.slice a3 a.al.length c3) a.al (tagUp (fun _ => 0) w3.heap.size 6) (w3.alloc (.cells #[.slice a3 a.al.length c3, .int .i64 0, .slice none 0 0, .slice none 0 0] 31))) :=
          ⟨hW3.alloc hW3.size _, (HO1.out.name (fun _ => 0)).upR _ 6, (HO4.out.name (fun _ => 0)).upR _ 6, Own.new w3 _ _ 6 _ _ hW3.size (tagUp_at _ _ _), (Hrow3.out.name (fun _ => 0)).up _ 6⟩
        have hl43 : w.heap.size + 1 < w3.heap.size := hl4
        clear HO1 HO4 Hrow3 x0 x1 x2 x3 q0 q1 q2 q3 f0 f1 f2 f3 hl4 hck' hbkl hz3
        generalize w3.alloc (.cells #[.slice a3 a.al.length c3, .int .i64 0, .slice none 0 0, .slice none 0 0] 31) = w5 at *
        refine wp_region_inv2 (fun l us W => ∃ tag, RB10 (PhiD w w3.heap.size (.slice aa a.al.length ca) (.int .i64 n) (.slice am a.ms.length cm) (.slice ae a.es.length ce) (.slice a3 a.al.length c3) a.al) (PR10 (.agg #[.slice aa a.al.length ca, .int .i64 n, .slice am a.ms.length cm, .slice ae a.es.length ce]) (.slice (some ⟨bk, ok, none⟩) kp.length ck) w.heap.size (.slice am a.ms.length cm)) w.heap.size n (flagL n kp) (flagL n a.ms) l us tag W) [43, 44, 45, 46, 47, 48, 49, 9, 10] (by kernel_rfl) (by kernel_rfl) ⟨_, RB10.start rfl HPhi.out.1.size (PhiD.turn2 (Turn.below (bel_drew _)) HPhi.out.1.size HPhi.out)⟩ ?_ ?_
        · skip
          refine Steps.cons rfl ?_ ?_
          · intro l us W2 hl hI hd hn K' hK
            obtain ⟨tg2, hI⟩ := hI
            have hlen := hI.len
            obtain ⟨u0, u1, u2, u3, u4, u5, u6, u7, u8, rfl⟩ := list9r hlen
            have HK : Hid (∀ v W' tag', RB10 (PhiD w w3.heap.size (.slice aa a.al.length ca) (.int .i64 n) (.slice am a.ms.length cm) (.slice ae a.es.length ce) (.slice a3 a.al.length c3) a.al) (PR10 (.agg #[.slice aa a.al.length ca, .int .i64 n, .slice am a.ms.length cm, .slice ae a.es.length ce]) (.slice (some ⟨bk, ok, none⟩) kp.length ck) w.heap.size (.slice am a.ms.length cm)) w.heap.size n (flagL n kp) (flagL n a.ms) (l.setIfInBounds 0 true) ([u0, u1, u2, u3, u4, u5, u6, u7, u8].set 0 v) tag' W' → ∀ a', puts _ _ [v, u1, u2, u3, u4, u5, u6, u7, u8] = a' → K' a' W') := fun v W' tag' h a' e => hK _ a' W' e ⟨tag', h⟩
            have HS := Lib.hid (hI.pureStep (v := (.agg #[.slice aa a.al.length ca, .int .i64 n, .slice am a.ms.length cm, .slice ae a.es.length ce])) hl (by decide) rfl)
            have y0 : W2.cell? ⟨w.heap.size, 0, none⟩ = some (.slice aa a.al.length ca) := hI.phi.2.1.cell 0
            have y1 : W2.cell? ⟨w.heap.size, 1, none⟩ = some (.int .i64 n) := hI.phi.2.1.cell 1
            have y2 : W2.cell? ⟨w.heap.size, 2, none⟩ = some (.slice am a.ms.length cm) := hI.phi.2.1.cell 2
            have y3 : W2.cell? ⟨w.heap.size, 3, none⟩ = some (.slice ae a.es.length ce) := hI.phi.2.1.cell 3
            clear hK hl hI hlen hd hn
            refine StepG.mk ?_
            simp only [puts, Act.put]
            go_simp
            exact HK.out _ _ _ HS.out _ (by simp [puts, Act.put])
          refine Steps.cons rfl ?_ ?_
          · intro l us W2 hl hI hd hn K' hK
            obtain ⟨tg2, hI⟩ := hI
            have hlen := hI.len
            obtain ⟨u0, u1, u2, u3, u4, u5, u6, u7, u8, rfl⟩ := list9r hlen
            have HK : Hid (∀ v W' tag', RB10 (PhiD w w3.heap.size (.slice aa a.al.length ca) (.int .i64 n) (.slice am a.ms.length cm) (.slice ae a.es.length ce) (.slice a3 a.al.length c3) a.al) (PR10 (.agg #[.slice aa a.al.length ca, .int .i64 n, .slice am a.ms.length cm, .slice ae a.es.length ce]) (.slice (some ⟨bk, ok, none⟩) kp.length ck) w.heap.size (.slice am a.ms.length cm)) w.heap.size n (flagL n kp) (flagL n a.ms) (l.setIfInBounds 1 true) ([u0, u1, u2, u3, u4, u5, u6, u7, u8].set 1 v) tag' W' → ∀ a', puts _ _ [u0, v, u2, u3, u4, u5, u6, u7, u8] = a' → K' a' W') := fun v W' tag' h a' e => hK _ a' W' e ⟨tag', h⟩
            have HS := Lib.hid (hI.pureStep (v := (.slice (some ⟨bk, ok, none⟩) kp.length ck)) hl (by decide) rfl)
            clear hK hl hI hlen hd hn
            refine StepG.mk ?_
            simp only [puts, Act.put]
            go_simp
            exact HK.out _ _ _ HS.out _ (by simp [puts, Act.put])
          refine Steps.cons rfl ?_ ?_
          · intro l us W2 hl hI hd hn K' hK
            obtain ⟨tg2, hI⟩ := hI
            have hlen := hI.len
            obtain ⟨u0, u1, u2, u3, u4, u5, u6, u7, u8, rfl⟩ := list9r hlen
            have HK : Hid (∀ v W' tag', RB10 (PhiD w w3.heap.size (.slice aa a.al.length ca) (.int .i64 n) (.slice am a.ms.length cm) (.slice ae a.es.length ce) (.slice a3 a.al.length c3) a.al) (PR10 (.agg #[.slice aa a.al.length ca, .int .i64 n, .slice am a.ms.length cm, .slice ae a.es.length ce]) (.slice (some ⟨bk, ok, none⟩) kp.length ck) w.heap.size (.slice am a.ms.length cm)) w.heap.size n (flagL n kp) (flagL n a.ms) (l.setIfInBounds 2 true) ([u0, u1, u2, u3, u4, u5, u6, u7, u8].set 2 v) tag' W' → ∀ a', puts _ _ [u0, u1, v, u3, u4, u5, u6, u7, u8] = a' → K' a' W') := fun v W' tag' h a' e => hK _ a' W' e ⟨tag', h⟩
            have d0 : l.getD 0 false = true := by
              simp [Region.binds] at hd
              simp [hd]
            have d1 : l.getD 1 false = true := by
              simp [Region.binds] at hd
              simp [hd]
            obtain rfl : u0 = _ := hI.pure 0 (by decide) d0
            obtain rfl : u1 = _ := hI.pure 1 (by decide) d1
            have hbl := hI.phi.1
            have HS := Lib.hid (fun (v : Value) (W' : World) (hb : Below W2.heap.size W2 W') (hown : W'.ownsRow W2.heap.size 4 1 v n (bools (flagL n kp))) => hI.op2 (v := v) hl (hI.phi.call hb) (fun _ => trivial) hn hb hown)
            clear hK hl hI hlen hd hn d0 d1
            refine StepG.mk ?_
            simp only [puts, Act.put]
            go_simp
            refine (flags_any _ _ _ _ n kp _ (H2.out.mono hbl) (by omega) (by omega) Hin.out).mono ?_
            rintro e w9 ⟨v9, rfl, hown9, hb9⟩
            go_simp
            exact HK.out _ _ _ (HS.out _ _ hb9 hown9) _ (by simp [puts, Act.put])
          refine Steps.cons rfl ?_ ?_
          · intro l us W2 hl hI hd hn K' hK
            obtain ⟨tg2, hI⟩ := hI
            have hlen := hI.len
            obtain ⟨u0, u1, u2, u3, u4, u5, u6, u7, u8, rfl⟩ := list9r hlen
            have HK : Hid (∀ v W' tag', RB10 (PhiD w w3.heap.size (.slice aa a.al.length ca) (.int .i64 n) (.slice am a.ms.length cm) (.slice ae a.es.length ce) (.slice a3 a.al.length c3) a.al) (PR10 (.agg #[.slice aa a.al.length ca, .int .i64 n, .slice am a.ms.length cm, .slice ae a.es.length ce]) (.slice (some ⟨bk, ok, none⟩) kp.length ck) w.heap.size (.slice am a.ms.length cm)) w.heap.size n (flagL n kp) (flagL n a.ms) (l.setIfInBounds 3 true) ([u0, u1, u2, u3, u4, u5, u6, u7, u8].set 3 v) tag' W' → ∀ a', puts _ _ [u0, u1, u2, v, u4, u5, u6, u7, u8] = a' → K' a' W') := fun v W' tag' h a' e => hK _ a' W' e ⟨tag', h⟩
            have HS := Lib.hid (hI.pureStep (v := (.agg #[.slice aa a.al.length ca, .int .i64 n, .slice am a.ms.length cm, .slice ae a.es.length ce])) hl (by decide) rfl)
            have y0 : W2.cell? ⟨w.heap.size, 0, none⟩ = some (.slice aa a.al.length ca) := hI.phi.2.1.cell 0
            have y1 : W2.cell? ⟨w.heap.size, 1, none⟩ = some (.int .i64 n) := hI.phi.2.1.cell 1
            have y2 : W2.cell? ⟨w.heap.size, 2, none⟩ = some (.slice am a.ms.length cm) := hI.phi.2.1.cell 2
            have y3 : W2.cell? ⟨w.heap.size, 3, none⟩ = some (.slice ae a.es.length ce) := hI.phi.2.1.cell 3
            clear hK hl hI hlen hd hn
            refine StepG.mk ?_
            simp only [puts, Act.put]
            go_simp
            exact HK.out _ _ _ HS.out _ (by simp [puts, Act.put])
          refine Steps.cons rfl ?_ ?_
          · intro l us W2 hl hI hd hn K' hK
            obtain ⟨tg2, hI⟩ := hI
            have hlen := hI.len
            obtain ⟨u0, u1, u2, u3, u4, u5, u6, u7, u8, rfl⟩ := list9r hlen
            have HK : Hid (∀ v W' tag', RB10 (PhiD w w3.heap.size (.slice aa a.al.length ca) (.int .i64 n) (.slice am a.ms.length cm) (.slice ae a.es.length ce) (.slice a3 a.al.length c3) a.al) (PR10 (.agg #[.slice aa a.al.length ca, .int .i64 n, .slice am a.ms.length cm, .slice ae a.es.length ce]) (.slice (some ⟨bk, ok, none⟩) kp.length ck) w.heap.size (.slice am a.ms.length cm)) w.heap.size n (flagL n kp) (flagL n a.ms) (l.setIfInBounds 4 true) ([u0, u1, u2, u3, u4, u5, u6, u7, u8].set 4 v) tag' W' → ∀ a', puts _ _ [u0, u1, u2, u3, v, u5, u6, u7, u8] = a' → K' a' W') := fun v W' tag' h a' e => hK _ a' W' e ⟨tag', h⟩
            have HS := Lib.hid (hI.pureStep (v := (.pointer (some ⟨w.heap.size, 2, none⟩))) hl (by decide) rfl)
            clear hK hl hI hlen hd hn
            refine StepG.mk ?_
            simp only [puts, Act.put]
            go_simp
            exact HK.out _ _ _ HS.out _ (by simp [puts, Act.put])
          refine Steps.cons rfl ?_ ?_
          · intro l us W2 hl hI hd hn K' hK
            obtain ⟨tg2, hI⟩ := hI
            have hlen := hI.len
            obtain ⟨u0, u1, u2, u3, u4, u5, u6, u7, u8, rfl⟩ := list9r hlen
            have HK : Hid (∀ v W' tag', RB10 (PhiD w w3.heap.size (.slice aa a.al.length ca) (.int .i64 n) (.slice am a.ms.length cm) (.slice ae a.es.length ce) (.slice a3 a.al.length c3) a.al) (PR10 (.agg #[.slice aa a.al.length ca, .int .i64 n, .slice am a.ms.length cm, .slice ae a.es.length ce]) (.slice (some ⟨bk, ok, none⟩) kp.length ck) w.heap.size (.slice am a.ms.length cm)) w.heap.size n (flagL n kp) (flagL n a.ms) (l.setIfInBounds 5 true) ([u0, u1, u2, u3, u4, u5, u6, u7, u8].set 5 v) tag' W' → ∀ a', puts _ _ [u0, u1, u2, u3, u4, v, u6, u7, u8] = a' → K' a' W') := fun v W' tag' h a' e => hK _ a' W' e ⟨tag', h⟩
            have d4 : l.getD 4 false = true := by
              simp [Region.binds] at hd
              simp [hd]
            obtain rfl : u4 = _ := hI.pure 4 (by decide) d4
            have HS := Lib.hid (hI.pureStep (v := (.slice am a.ms.length cm)) hl (by decide) rfl)
            have y2 : W2.cell? ⟨w.heap.size, 2, none⟩ = some (.slice am a.ms.length cm) := hI.phi.2.1.cell 2
            clear hK hl hI hlen hd hn d4
            refine StepG.mk ?_
            simp only [puts, Act.put]
            go_simp
            exact HK.out _ _ _ HS.out _ (by simp [puts, Act.put])
          refine Steps.cons rfl ?_ ?_
          · intro l us W2 hl hI hd hn K' hK
            obtain ⟨tg2, hI⟩ := hI
            have hlen := hI.len
            obtain ⟨u0, u1, u2, u3, u4, u5, u6, u7, u8, rfl⟩ := list9r hlen
            have HK : Hid (∀ v W' tag', RB10 (PhiD w w3.heap.size (.slice aa a.al.length ca) (.int .i64 n) (.slice am a.ms.length cm) (.slice ae a.es.length ce) (.slice a3 a.al.length c3) a.al) (PR10 (.agg #[.slice aa a.al.length ca, .int .i64 n, .slice am a.ms.length cm, .slice ae a.es.length ce]) (.slice (some ⟨bk, ok, none⟩) kp.length ck) w.heap.size (.slice am a.ms.length cm)) w.heap.size n (flagL n kp) (flagL n a.ms) (l.setIfInBounds 6 true) ([u0, u1, u2, u3, u4, u5, u6, u7, u8].set 6 v) tag' W' → ∀ a', puts _ _ [u0, u1, u2, u3, u4, u5, v, u7, u8] = a' → K' a' W') := fun v W' tag' h a' e => hK _ a' W' e ⟨tag', h⟩
            have d3 : l.getD 3 false = true := by
              simp [Region.binds] at hd
              simp [hd]
            have d5 : l.getD 5 false = true := by
              simp [Region.binds] at hd
              simp [hd]
            obtain rfl : u3 = _ := hI.pure 3 (by decide) d3
            obtain rfl : u5 = _ := hI.pure 5 (by decide) d5
            have hbl := hI.phi.1
            have HS := Lib.hid (fun (v : Value) (W' : World) (hb : Below W2.heap.size W2 W') (hown : W'.ownsRow W2.heap.size 4 1 v n (bools (flagL n a.ms))) => hI.op6 (v := v) hl (hI.phi.call hb) hb hown)
            clear hK hl hI hlen hd hn d3 d5
            refine StepG.mk ?_
            simp only [puts, Act.put]
            go_simp
            refine (flags_any _ _ _ _ n a.ms _ ⟨_, _, rfl, Hrm.out.mono hbl⟩ (by omega) (by omega) Hms.out).mono ?_
            rintro e w9 ⟨v9, rfl, hown9, hb9⟩
            go_simp
            exact HK.out _ _ _ (HS.out _ _ hb9 hown9) _ (by simp [puts, Act.put])
          refine Steps.cons rfl ?_ ?_
          · intro l us W2 hl hI hd hn K' hK
            obtain ⟨tg2, hI⟩ := hI
            have hlen := hI.len
            obtain ⟨u0, u1, u2, u3, u4, u5, u6, u7, u8, rfl⟩ := list9r hlen
            have HK : Hid (∀ v W' tag', RB10 (PhiD w w3.heap.size (.slice aa a.al.length ca) (.int .i64 n) (.slice am a.ms.length cm) (.slice ae a.es.length ce) (.slice a3 a.al.length c3) a.al) (PR10 (.agg #[.slice aa a.al.length ca, .int .i64 n, .slice am a.ms.length cm, .slice ae a.es.length ce]) (.slice (some ⟨bk, ok, none⟩) kp.length ck) w.heap.size (.slice am a.ms.length cm)) w.heap.size n (flagL n kp) (flagL n a.ms) (l.setIfInBounds 7 true) ([u0, u1, u2, u3, u4, u5, u6, u7, u8].set 7 v) tag' W' → ∀ a', puts _ _ [u0, u1, u2, u3, u4, u5, u6, v, u8] = a' → K' a' W') := fun v W' tag' h a' e => hK _ a' W' e ⟨tag', h⟩
            have HS := Lib.hid (hI.op7 hl (hI.phi.up _ 2) hn)
            clear hK hl hI hlen hd hn
            refine StepG.mk ?_
            simp only [puts, Act.put]
            go_simp
            exact HK.out _ _ _ HS.out _ (by simp [puts, Act.put])
          refine Steps.cons rfl ?_ ?_
          · intro l us W2 hl hI hd hn K' hK
            obtain ⟨tg2, hI⟩ := hI
            have hlen := hI.len
            obtain ⟨u0, u1, u2, u3, u4, u5, u6, u7, u8, rfl⟩ := list9r hlen
            have HK : Hid (∀ W' tag', RB10 (PhiD w w3.heap.size (.slice aa a.al.length ca) (.int .i64 n) (.slice am a.ms.length cm) (.slice ae a.es.length ce) (.slice a3 a.al.length c3) a.al) (PR10 (.agg #[.slice aa a.al.length ca, .int .i64 n, .slice am a.ms.length cm, .slice ae a.es.length ce]) (.slice (some ⟨bk, ok, none⟩) kp.length ck) w.heap.size (.slice am a.ms.length cm)) w.heap.size n (flagL n kp) (flagL n a.ms) (l.setIfInBounds 8 true) [u0, u1, u2, u3, u4, u5, u6, u7, u8] tag' W' → ∀ a', puts _ _ [u0, u1, u2, u3, u4, u5, u6, u7, u8] = a' → K' a' W') := fun W' tag' h a' e => hK _ a' W' e ⟨tag', h⟩
            have d7 : l.getD 7 false = true := by
              simp [Region.binds] at hd
              simp [hd]
            have d2 : l.getD 2 false = true := by
              simp [Region.binds] at hd
              simp [hd]
            obtain ⟨b9, e9, ho9⟩ := hI.s7 d7
            obtain rfl : u7 = _ := e9
            obtain ⟨a2, c2, e2⟩ := (hI.s2 d2).val
            obtain rfl : u2 = _ := e2
            have HS := Lib.hid (hI.op8 hl PhiD.turn2 d2 d7 rfl)
            rw [hn] at ho9
            have y0 : W2.cell? ⟨b9, 0, none⟩ = some (.slice none 0 0) := ho9.cell 0
            have y1 := ho9.frozen 0
            clear hK hl hI hlen hd hn d7 d2 ho9
            refine StepG.mk ?_
            simp only [puts, Act.put]
            go_simp
            exact HK.out _ _ HS.out _ (by simp [puts, Act.put])
          refine Steps.cons rfl ?_ ?_
          · intro l us W2 hl hI hd hn K' hK
            obtain ⟨tg2, hI⟩ := hI
            have hlen := hI.len
            obtain ⟨u0, u1, u2, u3, u4, u5, u6, u7, u8, rfl⟩ := list9r hlen
            have HK : Hid (∀ v W' tag', RB10 (PhiD w w3.heap.size (.slice aa a.al.length ca) (.int .i64 n) (.slice am a.ms.length cm) (.slice ae a.es.length ce) (.slice a3 a.al.length c3) a.al) (PR10 (.agg #[.slice aa a.al.length ca, .int .i64 n, .slice am a.ms.length cm, .slice ae a.es.length ce]) (.slice (some ⟨bk, ok, none⟩) kp.length ck) w.heap.size (.slice am a.ms.length cm)) w.heap.size n (flagL n kp) (flagL n a.ms) (l.setIfInBounds 9 true) ([u0, u1, u2, u3, u4, u5, u6, u7, u8].set 8 v) tag' W' → ∀ a', puts _ _ [u0, u1, u2, u3, u4, u5, u6, u7, v] = a' → K' a' W') := fun v W' tag' h a' e => hK _ a' W' e ⟨tag', h⟩
            have d6 : l.getD 6 false = true := by
              simp [Region.binds] at hd
              simp [hd]
            have HS := Lib.hid (hI.op9 hl d6)
            clear hK hl hI hlen hd hn d6
            refine StepG.mk ?_
            simp only [puts, Act.put]
            go_simp
            exact HK.out _ _ _ HS.out _ (by simp [puts, Act.put])
          exact Steps.nil (Nat.le_refl _)
        · intro l us W2 hI hall
          obtain ⟨tg2, hI⟩ := hI
          have hlen := hI.len
          obtain ⟨u0, u1, u2, u3, u4, u5, u6, u7, u8, rfl⟩ := list9r hlen
          obtain ⟨b9, e9, ho9⟩ := hI.s7 (hall 7 (by decide))
          rw [hall 8 (by decide)] at ho9
          replace ho9 : Own W2 w.heap.size tg2 2 b9 #[u2] 86 := ho9
          obtain rfl : u7 = _ := e9
          have hin2 : Row W2 w.heap.size tg2 1 4 1 u2 n (bools (flagL n kp)) := hI.s2 (hall 2 (by decide))
          have hmk2 : Row W2 w.heap.size tg2 1 4 1 u8 n (bools (flagL n a.ms)) := hI.s9 (hall 9 (by decide))
          obtain ⟨b10, o10, c10, e10, _⟩ := hin2.addr hnp
          obtain rfl : u2 = _ := e10
          obtain ⟨b11, o11, c11, e11, _⟩ := hmk2.addr hnp
          obtain rfl : u8 = _ := e11
          have hphi := hI.phi
          have HY : Hid (YB w w3.heap.size b9 n (.slice aa a.al.length ca) (.int .i64 n) (.slice am a.ms.length cm) (.slice ae a.es.length ce) (.slice a3 a.al.length c3) (.slice (some ⟨b10, o10, none⟩) n c10) (.slice (some ⟨b11, o11, none⟩) n c11) a.al (flagL n kp) (flagL n a.ms) (fun b => (fun j => if j = 2 then 0 else j) (tg2 b)) W2) :=
            ⟨⟨hphi.1, hphi.2.1.name (fun j => if j = 2 then 0 else j), hphi.2.2.1.name (fun j => if j = 2 then 0 else j), hphi.2.2.2.1.name (fun j => if j = 2 then 0 else j), hphi.2.2.2.2.name (fun j => if j = 2 then 0 else j)⟩, ho9.name (fun j => if j = 2 then 0 else j), hin2.name (fun j => if j = 2 then 0 else j), hmk2.name (fun j => if j = 2 then 0 else j)⟩
          clear hlen hall hI ho9 hin2 hmk2 hphi HPhi
          generalize (fun b => (fun j => if j = 2 then 0 else j) (tg2 b)) = tg at *
          have hbW := HY.out.phi.1
          have hsW := hbW.size
          have x1 : W2.cell? ⟨w.heap.size, 1, none⟩ = some (.int .i64 n) := HY.out.phi.2.1.cell 1
          have hxl := HY.out.phi.2.1.lt
          obtain ⟨i0, hi, hz0, hz1, hz2⟩ := info_parts Try.info_int
          simp only [puts, Act.put, List.setIfInBounds_toArray, List.set_cons_succ, List.set_cons_zero]
          go_wp2_with (at_make; refine wpList_make_full _ rfl _ _ 28 rfl W2.heap.size 3 i0 (.int .i64 0) 1 Try.underlying28 hi hz0 hz1 .i64 .i64 _ _ n rfl rfl (by first | rfl | omega) (by first | rfl | omega) (by rw [hz2]; omega) (by unfold maxLen; omega) (Nat.le_refl _) ?_; intro w6 hown6 hgrow6; have hbm : Below W2.heap.size W2 w6 := Below.grown (Below.refl _ _) hgrow6 (Nat.le_refl _) (fun k e => (by cases e)); have HY6 := Lib.hid (HY.out.late 2 hbm); have hnr : Row w6 w.heap.size (tagFrom tg W2.heap.size 2) 2 3 1 (.slice (some ⟨W2.heap.size, 0, none⟩) n n) n (ints (List.replicate n 0)) := Row.of_call (by simpa [Value.cells, toList_madeCells_one] using hown6) hsW; have HN6 := Lib.hid hnr; have x0 : w6.cell? ⟨w.heap.size, 0, none⟩ = some (.slice aa a.al.length ca) := HY6.out.phi.2.1.cell 0; have x1 : w6.cell? ⟨w.heap.size, 1, none⟩ = some (.int .i64 n) := HY6.out.phi.2.1.cell 1; have x2 : w6.cell? ⟨w.heap.size, 2, none⟩ = some (.slice am a.ms.length cm) := HY6.out.phi.2.1.cell 2; have x3 : w6.cell? ⟨w.heap.size, 3, none⟩ = some (.slice ae a.es.length ce) := HY6.out.phi.2.1.cell 3; have hxl6 := HY6.out.phi.2.1.lt; have hW2l := hnr; clear hown6 hgrow6 hnr)
          have hW6 := HY6.out.phi.1
          obtain ⟨_, _, _, e6, hN6l, _⟩ := hW2l.addr hnp
          cases e6
          have hb7 := bel_alloc w6 (.cells #[.slice (some ⟨W2.heap.size, 0, none⟩) n n] 28)
          refine (newGraph_row _ _ _ _ _ _ _ n a.es _ (RdE.mono ⟨ae, ce, rfl, hre⟩ (hW6.trans (hb7.mono hW6.size))) hae (by omega) (fun x hx => ⟨(Hes.out x hx).1, (Hes.out x hx).2.1⟩)).mono ?_
          rintro e w8 ⟨_, rfl, ⟨af, cf, tgg, rfl, hrg⟩, hb8⟩
          obtain ⟨bf, offf, cf', eaf, _⟩ := hrg.addr (by omega)
          cases eaf
          have hs6 := hW6.size
          have hs8 := hb8.size
          simp only [World.size_alloc] at hs8
          have hY8 := (HY6.out.up (.cells #[.slice (some ⟨W2.heap.size, 0, none⟩) n n] 28) 0).late 0 hb8
          have hN8 := ((HN6.out.up (.cells #[.slice (some ⟨W2.heap.size, 0, none⟩) n n] 28) 0).late (k' := 0) hb8)
          have hnb8 := (Own.new w6 w.heap.size (tagUp (tagFrom tg W2.heap.size 2) w6.heap.size 0) 0 #[.slice (some ⟨W2.heap.size, 0, none⟩) n n] 28 hs6 (tagUp_at _ _ _)).late (k' := 0) hb8
          have hrg8 : Row w8 w.heap.size (tagFrom (tagUp (tagFrom tg W2.heap.size 2) w6.heap.size 0) (w6.alloc (.cells #[.slice (some ⟨W2.heap.size, 0, none⟩) n n] 28)).heap.size 0) 0 3 1 (.slice (some ⟨bf, offf, none⟩) (n + 1) cf) (n + 1) (ints (firsts n a.es)) := hrg.of_row (by simp; omega) (fun b hb => if_neg (by omega))
          generalize (tagFrom (tagUp (tagFrom tg W2.heap.size 2) w6.heap.size 0) (w6.alloc (.cells #[.slice (some ⟨W2.heap.size, 0, none⟩) n n] 28)).heap.size 0) = tg8 at *
          have hs9 : w8.heap.size ≤ w8.heap.size := Nat.le_refl _
          have hsw8 := hY8.phi.1.size
          have hY11 := ((hY8.up (.cells #[.slice aa a.al.length ca, .int .i64 n, .slice am a.ms.length cm, .slice ae a.es.length ce, .slice (some ⟨bf, offf, none⟩) (n + 1) cf] 80) 0).up (.cells #[.int .i64 0] 3) 4).up (.cells #[.slice (some ⟨w8.heap.size + 1, 0, none⟩) 1 1] 28) 3
          have hN11 := ((hN8.up (.cells #[.slice aa a.al.length ca, .int .i64 n, .slice am a.ms.length cm, .slice ae a.es.length ce, .slice (some ⟨bf, offf, none⟩) (n + 1) cf] 80) 0).up (.cells #[.int .i64 0] 3) 4).up (.cells #[.slice (some ⟨w8.heap.size + 1, 0, none⟩) 1 1] 28) 3
          have hnb11 := ((hnb8.upR (.cells #[.slice aa a.al.length ca, .int .i64 n, .slice am a.ms.length cm, .slice ae a.es.length ce, .slice (some ⟨bf, offf, none⟩) (n + 1) cf] 80) 0).upR (.cells #[.int .i64 0] 3) 4).upR (.cells #[.slice (some ⟨w8.heap.size + 1, 0, none⟩) 1 1] 28) 3
          have hG11 := ((hrg8.up (.cells #[.slice aa a.al.length ca, .int .i64 n, .slice am a.ms.length cm, .slice ae a.es.length ce, .slice (some ⟨bf, offf, none⟩) (n + 1) cf] 80) 0).up (.cells #[.int .i64 0] 3) 4).up (.cells #[.slice (some ⟨w8.heap.size + 1, 0, none⟩) 1 1] 28) 3
          have hgb11 := ((Own.new w8 w.heap.size (tagUp tg8 w8.heap.size 0) 0 #[.slice aa a.al.length ca, .int .i64 n, .slice am a.ms.length cm, .slice ae a.es.length ce, .slice (some ⟨bf, offf, none⟩) (n + 1) cf] 80 hsw8 (tagUp_at _ _ _)).upR (.cells #[.int .i64 0] 3) 4).upR (.cells #[.slice (some ⟨w8.heap.size + 1, 0, none⟩) 1 1] 28) 3
          have hq11 := (Row.fresh (w8.alloc (.cells #[.slice aa a.al.length ca, .int .i64 n, .slice am a.ms.length cm, .slice ae a.es.length ce, .slice (some ⟨bf, offf, none⟩) (n + 1) cf] 80)) w.heap.size (tagUp tg8 w8.heap.size 0) 4 3 [.int .i64 0] (by simp; omega) (by show 1 ≤ maxLen; decide)).up (.cells #[.slice (some ⟨w8.heap.size + 1, 0, none⟩) 1 1] 28) 3
          have hqb11 := Own.new ((w8.alloc (.cells #[.slice aa a.al.length ca, .int .i64 n, .slice am a.ms.length cm, .slice ae a.es.length ce, .slice (some ⟨bf, offf, none⟩) (n + 1) cf] 80)).alloc (.cells #[.int .i64 0] 3)) w.heap.size (tagUp (tagUp (tagUp tg8 w8.heap.size 0) (w8.alloc (.cells #[.slice aa a.al.length ca, .int .i64 n, .slice am a.ms.length cm, .slice ae a.es.length ce, .slice (some ⟨bf, offf, none⟩) (n + 1) cf] 80)).heap.size 4) ((w8.alloc (.cells #[.slice aa a.al.length ca, .int .i64 n, .slice am a.ms.length cm, .slice ae a.es.length ce, .slice (some ⟨bf, offf, none⟩) (n + 1) cf] 80)).alloc (.cells #[.int .i64 0] 3)).heap.size 3) 3 #[.slice (some ⟨w8.heap.size + 1, 0, none⟩) 1 1] 28 (by simp; omega) (tagUp_at _ _ _)
          have e8 : (w8.alloc (.cells #[.slice aa a.al.length ca, .int .i64 n, .slice am a.ms.length cm, .slice ae a.es.length ce, .slice (some ⟨bf, offf, none⟩) (n + 1) cf] 80)).heap.size = w8.heap.size + 1 := by simp
          have e9 : ((w8.alloc (.cells #[.slice aa a.al.length ca, .int .i64 n, .slice am a.ms.length cm, .slice ae a.es.length ce, .slice (some ⟨bf, offf, none⟩) (n + 1) cf] 80)).alloc (.cells #[.int .i64 0] 3)).heap.size = w8.heap.size + 1 + 1 := by simp
          have e10 : (((w8.alloc (.cells #[.slice aa a.al.length ca, .int .i64 n, .slice am a.ms.length cm, .slice ae a.es.length ce, .slice (some ⟨bf, offf, none⟩) (n + 1) cf] 80)).alloc (.cells #[.int .i64 0] 3)).alloc (.cells #[.slice (some ⟨w8.heap.size + 1, 0, none⟩) 1 1] 28)).heap.size = w8.heap.size + 1 + 1 + 1 := by simp
          generalize tagUp (tagUp (tagUp tg8 w8.heap.size 0) (w8.alloc (.cells #[.slice aa a.al.length ca, .int .i64 n, .slice am a.ms.length cm, .slice ae a.es.length ce, .slice (some ⟨bf, offf, none⟩) (n + 1) cf] 80)).heap.size 4) ((w8.alloc (.cells #[.slice aa a.al.length ca, .int .i64 n, .slice am a.ms.length cm, .slice ae a.es.length ce, .slice (some ⟨bf, offf, none⟩) (n + 1) cf] 80)).alloc (.cells #[.int .i64 0] 3)).heap.size 3 = tg11 at *
          rw [e8] at hq11
          rw [e9] at hqb11
          clear hY8 hN8 hnb8 hrg8 hrg hb8 hb7 HY6 HN6 x0 x1 x2 x3 HY
          go_upto_region 14 with fail
          generalize ((w8.alloc (.cells #[.slice aa a.al.length ca, .int .i64 n, .slice am a.ms.length cm, .slice ae a.es.length ce, .slice (some ⟨bf, offf, none⟩) (n + 1) cf] 80)).alloc (.cells #[.int .i64 0] 3)).alloc (.cells #[.slice (some ⟨w8.heap.size + 1, 0, none⟩) 1 1] 28) = w11 at *
          have n0 : w11.cell? ⟨w6.heap.size, 0, none⟩ = some (.slice (some ⟨W2.heap.size, 0, none⟩) n n) := hnb11.cell 0
          have n1 : w11.cell? ⟨W2.heap.size, 0, none⟩ = some (.int .i64 0) := by
            have h := hN11.cellAt 0 (by omega)
            rw [List.getElem?_map, List.getElem?_replicate, if_pos hnp] at h
            exact h
          have n2 := hN11.frozenAt 0
          have hnpI : (0 : Int) < (n : Int) := by omega
          have hl11 : W2.heap.size < w11.heap.size := by omega
          have hset := hN11.set 0 (.int .i64 1)
          have hst : (ints (List.replicate n 0)).set 0 (.int .i64 1) = ints ((List.replicate n 0).set 0 1) := (List.map_set ..).symm
          rw [Nat.zero_add, hst] at hset
          have hX13 : Hid (XB w #[.slice aa a.al.length ca, .int .i64 n, .slice am a.ms.length cm, .slice ae a.es.length ce, .slice (some ⟨bf, offf, none⟩) (n + 1) cf] n w3.heap.size b9 w6.heap.size w8.heap.size (w8.heap.size + 1 + 1) (.slice a3 a.al.length c3) (.slice (some ⟨b10, o10, none⟩) n c10) (.slice (some ⟨W2.heap.size, 0, none⟩) n n) (.slice (some ⟨b11, o11, none⟩) n c11) a.al (flagL n kp) (flagL n a.ms) [] ((w11.setCell ⟨W2.heap.size, 0, none⟩ (.int .i64 1)).alloc (.cells #[.int .i64 0] 3)) (tagUp tg11 (w11.setCell ⟨W2.heap.size, 0, none⟩ (.int .i64 1)).heap.size 5) (w11.setCell ⟨W2.heap.size, 0, none⟩ (.int .i64 1)).heap.size 0 (.slice none 0 0) (.slice none 0 0) (.slice (some ⟨w8.heap.size + 1, 0, none⟩) 1 1) ⟨(List.replicate n 0).set 0 1, [0], []⟩ []) :=
            have T := hset.2
            have hb := belTurn hY11.phi.1 T hY11.phi.1.size
            ⟨hb.alloc hb.size _, Marks.nil _ _, (hY11.phi.2.2.1.turn T (by decide)).upR _ 5, (hY11.phi.2.2.2.1.turn T (by decide)).upR _ 5, (hY11.ib.turn T (by decide)).upR _ 5, (hnb11.turn T (by decide)).upR _ 5, (hgb11.turn T (by decide)).upR _ 5, (hqb11.turn T (by decide)).upR _ 5, Own.new _ _ _ 5 _ _ hb.size (tagUp_at _ _ _), (hY11.phi.2.2.2.2.turn T (by decide)).up _ 5, (hY11.inr.turn T (by decide)).up _ 5, (hY11.mkr.turn T (by decide)).up _ 5, hset.1.up _ 5, (hq11.turn T (by decide)).up _ 5, Row.nil _ _ _ _ _ _⟩
          have hG13 : Hid (Row ((w11.setCell ⟨W2.heap.size, 0, none⟩ (.int .i64 1)).alloc (.cells #[.int .i64 0] 3)) w.heap.size (tagUp tg11 (w11.setCell ⟨W2.heap.size, 0, none⟩ (.int .i64 1)).heap.size 5) 0 3 1 (.slice (some ⟨bf, offf, none⟩) (n + 1) cf) (n + 1) (ints (firsts n a.es))) := (hG11.turn hset.2 (by decide)).up _ 5
          clear hY11 hN11 hnb11 hG11 hgb11 hq11 hqb11 hset hst e8 e9
          go_wp2_with fail
          have e12 : (w11.setCell ⟨W2.heap.size, 0, none⟩ (.int .i64 1)).heap.size = w8.heap.size + 1 + 1 + 1 := by rw [World.size_setCell]; exact e10
          rw [e12] at hX13 hG13
          have hok0 : ROk n (0 * 1000000) ⟨(List.replicate n 0).set 0 1, [0], []⟩ := by
            refine ⟨by simp, ?_, fun s hs => ?_, fun v hv => ?_, by simp⟩
            · have := count_set0 (l := List.replicate n 0) (j := 0) (v := 1) (by rw [List.getElem?_replicate, if_pos hnp]) (by decide)
              simp at this ⊢
              omega
            · rw [List.mem_singleton.1 hs]; omega
            · rcases List.mem_or_eq_of_mem_set hv with h4 | h4
              · rw [List.eq_of_mem_replicate h4]; omega
              · subst h4; omega
          have hinFl := flagL_length n kp
          have hmkFl := flagL_length n a.ms
          have HR1 : Hid (R = ⟨a.al, ((rsLoop a.es (flagL n kp) (flagL n a.ms) (n + 1) 0 ⟨(List.replicate n 0).set 0 1, [0], []⟩ []).1.q.length : Int), (rsLoop a.es (flagL n kp) (flagL n a.ms) (n + 1) 0 ⟨(List.replicate n 0).set 0 1, [0], []⟩ []).2, (rsLoop a.es (flagL n kp) (flagL n a.ms) (n + 1) 0 ⟨(List.replicate n 0).set 0 1, [0], []⟩ []).1.E⟩) := by
            show _ = _
            rw [HRR.out, restrictF, if_pos hk, Int.toNat_natCast]
          generalize flagL n kp = inF at *
          generalize flagL n a.ms = mkF at *
          generalize hRL : rsLoop a.es inF mkF (n + 1) 0 ⟨(List.replicate n 0).set 0 1, [0], []⟩ [] = RL at *
          have HRL0 : Hid (RL = rsLoop a.es inF mkF (n + 1 - 0) 0 ⟨(List.replicate n 0).set 0 1, [0], []⟩ []) := by show _ = _; rw [← hRL]; rfl
          clear hRL HRR hk
          refine wp_loop_ghost_k (fun k a' wr => ∃ (v15 v58 v59 v60 v61 v62 v63 v64 v65 v66 v67 v68 v69 v70 v71 v72 v73 v74 v75 v76 v77 v78 v79 v80 v81 v82 v83 v84 v85 v86 v87 v88 v89 v90 v91 v92 v93 v94 v95 v96 v97 v98 v99 v100 v101 v102 v103 v104 v105 v106 v107 v108 v109 v110 v111 v112 v113 v114 v115 v116 v117 v118 v119 v120 v121 v122 : Value) (ds : List Deferred) (tag : Nat → Nat) (bi i : Nat) (vm ve vq : Value) (S : RSt) (ms : List Int), XB w #[.slice aa a.al.length ca, .int .i64 n, .slice am a.ms.length cm, .slice ae a.es.length ce, .slice (some ⟨bf, offf, none⟩) (n + 1) cf] n w3.heap.size b9 w6.heap.size w8.heap.size (w8.heap.size + 1 + 1) (.slice a3 a.al.length c3) (.slice (some ⟨b10, o10, none⟩) n c10) (.slice (some ⟨W2.heap.size, 0, none⟩) n n) (.slice (some ⟨b11, o11, none⟩) n c11) a.al inF mkF ds wr tag bi i vm ve vq S ms ∧ Row wr w.heap.size tag 8 45 3 ve S.E.length (edCells S.E) ∧ Row wr w.heap.size tag 0 3 1 (.slice (some ⟨bf, offf, none⟩) (n + 1) cf) (n + 1) (ints (firsts n a.es)) ∧ ROk n (i * 1000000) S ∧ ms.length ≤ i ∧ i ≤ n ∧ i ≤ S.q.length ∧ k = n + 1 - i ∧ Hid (RL = rsLoop a.es inF mkF (n + 1 - i) i S ms) ∧ a' = { tmps := #[Value.agg #[.slice aa a.al.length ca, .int .i64 n, .slice am a.ms.length cm, .slice ae a.es.length ce], Value.slice (some ⟨bk, ok, none⟩) kp.length ck, Value.pointer (some ⟨w.heap.size, 0, none⟩), undef, Value.pointer (some ⟨w.heap.size + 1, 0, none⟩), Value.int .i64 0, Value.int .i64 0, Value.int .i64 0, Value.pointer (some ⟨w3.heap.size, 0, none⟩), Value.pointer (some ⟨b9, 0, none⟩), Value.slice (some ⟨b11, o11, none⟩) n c11, Value.pointer (some ⟨w6.heap.size, 0, none⟩), Value.pointer (some ⟨w8.heap.size, 0, none⟩), Value.pointer (some ⟨w8.heap.size + 1 + 1, 0, none⟩), Value.pointer (some ⟨bi, 0, none⟩), v15, Value.agg #[.slice aa a.al.length ca, .int .i64 n, .slice am a.ms.length cm, .slice ae a.es.length ce], Value.int .i64 0, Value.int .i64 0, Value.bool false, undef, undef, Value.agg #[.slice aa a.al.length ca, .int .i64 n, .slice am a.ms.length cm, .slice ae a.es.length ce], Value.slice (some ⟨bk, ok, none⟩) kp.length ck, Value.int .i64 0, Value.int .i64 0, Value.bool false, undef, undef, Value.pointer (some ⟨w.heap.size, 0, none⟩), Value.slice aa a.al.length ca, Value.slice a3 a.al.length c3, Value.agg #[.slice a3 a.al.length c3, .int .i64 0, .slice none 0 0, .slice none 0 0], Value.slice (some ⟨bk, ok, none⟩) kp.length ck, Value.int .i64 kp.length, Value.bool false, Value.bool false, Value.slice (some ⟨bk, ok, none⟩) kp.length ck, Value.pointer (some ⟨bk, ok, none⟩), Value.int .i64 0, Value.bool false, Value.bool false, undef, u0, u1, Value.slice (some ⟨b10, o10, none⟩) n c10, u3, u4, u5, u6, Value.pointer (some ⟨w.heap.size, 1, none⟩), Value.int .i64 n, Value.slice (some ⟨W2.heap.size, 0, none⟩) n n, Value.agg #[.slice aa a.al.length ca, .int .i64 n, .slice am a.ms.length cm, .slice ae a.es.length ce], Value.agg #[.slice aa a.al.length ca, .int .i64 n, .slice am a.ms.length cm, .slice ae a.es.length ce, .slice (some ⟨bf, offf, none⟩) (n + 1) cf], Value.slice (some ⟨w8.heap.size + 1, 0, none⟩) 1 1, Value.slice (some ⟨W2.heap.size, 0, none⟩) n n, Value.pointer (some ⟨W2.heap.size, 0, none⟩), v58, v59, v60, v61, v62, v63, v64, v65, v66, v67, v68, v69, v70, v71, v72, v73, v74, v75, v76, v77, v78, v79, v80, v81, v82, v83, v84, v85, v86, v87, v88, v89, v90, v91, v92, v93, v94, v95, v96, v97, v98, v99, v100, v101, v102, v103, v104, v105, v106, v107, v108, v109, v110, v111, v112, v113, v114, v115, v116, v117, v118, v119, v120, v121, v122, undef, undef, undef, undef], defers := ds }) (n + 1) ?_ ?_
          · repeat apply Exists.intro
            exact ⟨hX13.out, Row.nil _ _ _ _ _ _, hG13.out, hok0, Nat.zero_le _, Nat.zero_le _, Nat.zero_le _, rfl, HRL0.out, rfl⟩
          · intro gk _ wr h
            obtain ⟨v15, h⟩ := h
            obtain ⟨v58, h⟩ := h
            obtain ⟨v59, h⟩ := h
            obtain ⟨v60, h⟩ := h
            obtain ⟨v61, h⟩ := h
            obtain ⟨v62, h⟩ := h
            obtain ⟨v63, h⟩ := h
            obtain ⟨v64, h⟩ := h
            obtain ⟨v65, h⟩ := h
            obtain ⟨v66, h⟩ := h
            obtain ⟨v67, h⟩ := h
            obtain ⟨v68, h⟩ := h
            obtain ⟨v69, h⟩ := h
            obtain ⟨v70, h⟩ := h
            obtain ⟨v71, h⟩ := h
            obtain ⟨v72, h⟩ := h
            obtain ⟨v73, h⟩ := h
            obtain ⟨v74, h⟩ := h
            obtain ⟨v75, h⟩ := h
            obtain ⟨v76, h⟩ := h
            obtain ⟨v77, h⟩ := h
            obtain ⟨v78, h⟩ := h
            obtain ⟨v79, h⟩ := h
            obtain ⟨v80, h⟩ := h
            obtain ⟨v81, h⟩ := h
            obtain ⟨v82, h⟩ := h
            obtain ⟨v83, h⟩ := h
            obtain ⟨v84, h⟩ := h
            obtain ⟨v85, h⟩ := h
            obtain ⟨v86, h⟩ := h
            obtain ⟨v87, h⟩ := h
            obtain ⟨v88, h⟩ := h
            obtain ⟨v89, h⟩ := h
            obtain ⟨v90, h⟩ := h
            obtain ⟨v91, h⟩ := h
            obtain ⟨v92, h⟩ := h
            obtain ⟨v93, h⟩ := h
            obtain ⟨v94, h⟩ := h
            obtain ⟨v95, h⟩ := h
            obtain ⟨v96, h⟩ := h
            obtain ⟨v97, h⟩ := h
            obtain ⟨v98, h⟩ := h
            obtain ⟨v99, h⟩ := h
            obtain ⟨v100, h⟩ := h
            obtain ⟨v101, h⟩ := h
            obtain ⟨v102, h⟩ := h
            obtain ⟨v103, h⟩ := h
            obtain ⟨v104, h⟩ := h
            obtain ⟨v105, h⟩ := h
            obtain ⟨v106, h⟩ := h
            obtain ⟨v107, h⟩ := h
            obtain ⟨v108, h⟩ := h
            obtain ⟨v109, h⟩ := h
            obtain ⟨v110, h⟩ := h
            obtain ⟨v111, h⟩ := h
            obtain ⟨v112, h⟩ := h
            obtain ⟨v113, h⟩ := h
            obtain ⟨v114, h⟩ := h
            obtain ⟨v115, h⟩ := h
            obtain ⟨v116, h⟩ := h
            obtain ⟨v117, h⟩ := h
            obtain ⟨v118, h⟩ := h
            obtain ⟨v119, h⟩ := h
            obtain ⟨v120, h⟩ := h
            obtain ⟨v121, h⟩ := h
            obtain ⟨v122, h⟩ := h
            obtain ⟨ds, tag, bi, i, vm, ve, vq, S, ms, hX, hE, hG, hok, hml, hin, hiq, rfl, hRL, rfl⟩ := h
            intro J K hJ hK
            obtain ⟨avq, cvq, rfl⟩ := hX.qr.val
            have q1 : wr.cell? ⟨w8.heap.size + 1 + 1, 0, none⟩ = some (.slice avq S.q.length cvq) := hX.qb.cell 0
            have q2 : wr.cell? ⟨bi, 0, none⟩ = some (.int .i64 i) := hX.io.cell 0
            have hbX := hX.below
            by_cases hlt : i < S.q.length
            · have hltI : (i : Int) < (S.q.length : Int) := by omega
              obtain ⟨bq, oq, cq, e9, hbql, _, qc⟩ := hX.qr.at_int i hlt
              cases e9
              have hsr := hok.rng _ (List.getElem_mem hlt)
              have Hs8 : Hid (S.q.getD i 0 = S.q[i]) := by show _ = _; rw [List.getD_eq_getElem?_getD, List.getElem?_eq_getElem hlt]; rfl
              have Hstep : Hid (RL = rsLoop a.es inF mkF (n + 1 - (i + 1)) (i + 1) ((subOf a.es S.q[i]).foldl (rsStep inF i) S) (if mkF.getD S.q[i].toNat false = true then ms ++ [(i : Int)] else ms)) := by
                show _ = _
                rw [hRL.out, show n + 1 - i = (n + 1 - (i + 1)) + 1 by omega, rsLoop, if_pos hlt, Hs8.out]
              clear Hs8
              generalize hs9 : S.q[i] = s0 at *
              obtain ⟨t, rfl⟩ := Int.eq_ofNat_of_zero_le hsr.1
              have Hs9 := Lib.hid hs9
              clear hs9
              have ht : t < n := by omega
              rw [Int.toNat_natCast] at Hstep
              have mkc : wr.cell? ⟨b11, o11 + t, none⟩ = some (.bool (mkF.getD t false)) := by
                rw [hX.mkr.cellAt t (by omega), List.getElem?_map, List.getElem?_eq_getElem (by omega), List.getD_eq_getElem?_getD, List.getElem?_eq_getElem (by omega)]; rfl
              have o2 : wr.cell? ⟨w3.heap.size, 2, none⟩ = some vm := hX.ob.cell 2
              obtain ⟨avm, cvm, rfl⟩ := hX.mr.val
              have hbl1 := World.block_lt_of_cell? _ _ mkc
              have hbl2 := World.block_lt_of_cell? _ _ o2
              dsimp only at hbl1 hbl2
              have HX := Lib.hid hX
              have HEr := Lib.hid hE
              have HGr := Lib.hid hG
              have Hok := Lib.hid hok
              clear hX hE hG hok hRL
              generalize hmt : mkF.getD t false = mt at *
              go_upto_if 70 with fail
              go_cut [70] from 58 to 122 (fun _ wx => ∃ (tag : Nat → Nat) (vm : Value) (ms' : List Int), XB w #[.slice aa a.al.length ca, .int .i64 n, .slice am a.ms.length cm, .slice ae a.es.length ce, .slice (some ⟨bf, offf, none⟩) (n + 1) cf] n w3.heap.size b9 w6.heap.size w8.heap.size (w8.heap.size + 1 + 1) (.slice a3 a.al.length c3) (.slice (some ⟨b10, o10, none⟩) n c10) (.slice (some ⟨W2.heap.size, 0, none⟩) n n) (.slice (some ⟨b11, o11, none⟩) n c11) a.al inF mkF ds wx tag bi i vm ve (.slice (some ⟨bq, oq, none⟩) S.q.length cvq) S ms' ∧ Row wx w.heap.size tag 8 45 3 ve S.E.length (edCells S.E) ∧ Row wx w.heap.size tag 0 3 1 (.slice (some ⟨bf, offf, none⟩) (n + 1) cf) (n + 1) (ints (firsts n a.es)) ∧ ms' = (if mt = true then ms ++ [(i : Int)] else ms))
              case first =>
                cases mt with
                | false =>
                  go_wp2_with fail
                  go_meet
                  exact ⟨tag, _, ms, HX.out, HEr.out, HGr.out, by simp⟩
                | true =>
                  have hX6 := Lib.hid (HX.out.up (.cells #[.int .i64 (i : Int)] 3) 9)
                  have hE6 := Lib.hid (HEr.out.up (.cells #[.int .i64 (i : Int)] 3) 9)
                  have hG6 := Lib.hid (HGr.out.up (.cells #[.int .i64 (i : Int)] 3) 9)
                  have hszX := HX.out.below.size
                  go_wp2_with (at_builtin; refine wpList_append_row rfl _ _ 28 rfl 3 i0 (.int .i64 0) 8 Try.underlying28 hi hz0 hz1 hz2 rfl rfl hX6.out.mr (some ⟨_, 0, none⟩) 1 1 [.int .i64 (i : Int)] rfl (by simp) (fun e => by cases e) (fun ad e => by cases e; exact new_cells_at _ _ rfl) (by simp [Value.oneCell']) (by unfold maxLen; omega) (by omega) (by simp; omega) ?_; intro v6 w9 tag6 hr6 ht6; have HP6 := Lib.hid (hX6.out.markS hr6 ht6); have s6 := hX6.out.ob.turn ht6 (by decide); have HT6 := Lib.hid (Turn.setCell s6 2 v6); have hE7 := Lib.hid (hE6.out.turn ht6 (by decide)); have hG7 := Lib.hid (hG6.out.turn ht6 (by decide)); obtain ⟨a6, c6, rfl⟩ := hr6.val; have z0 := s6.cell 2; have z1 := s6.frozen 2; simp at z0; clear hr6 ht6 s6)
                  go_meet
                  exact ⟨tag6, _, _, HP6.out, hE7.out.turn HT6.out (by decide), hG7.out.turn HT6.out (by decide), by simp⟩
              case rest =>
                obtain ⟨tag', vm', ms', hX, hE, hG, hms⟩ := hcut
                have Hms' := Lib.hid hms
                clear q1 q2 qc mkc o2 hbl1 hbl2 HX HEr HGr hbX hms
                have g0 : wc.cell? ⟨w8.heap.size, 0, none⟩ = some (Value.slice aa a.al.length ca) := hX.g.cell 0
                have g1 : wc.cell? ⟨w8.heap.size, 1, none⟩ = some (Value.int .i64 n) := hX.g.cell 1
                have g2 : wc.cell? ⟨w8.heap.size, 2, none⟩ = some (Value.slice am a.ms.length cm) := hX.g.cell 2
                have g3 : wc.cell? ⟨w8.heap.size, 3, none⟩ = some (Value.slice ae a.es.length ce) := hX.g.cell 3
                have g4 : wc.cell? ⟨w8.heap.size, 4, none⟩ = some (Value.slice (some ⟨bf, offf, none⟩) (n + 1) cf) := hX.g.cell 4
                have hgl := hX.g.lt
                have q1 : wc.cell? ⟨w8.heap.size + 1 + 1, 0, none⟩ = some (.slice (some ⟨bq, oq, none⟩) S.q.length cvq) := hX.qb.cell 0
                have hql := hX.qb.lt
                have q2 : wc.cell? ⟨bi, 0, none⟩ = some (.int .i64 i) := hX.io.cell 0
                have hil := hX.io.lt
                obtain ⟨_, _, _, e9, hqcl, _, qc⟩ := hX.qr.at_int i hlt
                cases e9
                rw [Hs9.out] at qc
                have hbWd := hX.below.drew
                have hszc := hX.below.size
                have HX := Lib.hid hX
                have HEr := Lib.hid hE
                have HGr := Lib.hid hG
                clear hX hE hG
                go_wp2_with fail
                refine wp_region_mono2 (RE20 (#[.slice aa a.al.length ca, .int .i64 n, .slice am a.ms.length cm, .slice ae a.es.length ce, .slice (some ⟨bf, offf, none⟩) (n + 1) cf]) (.slice (some ⟨bq, oq, none⟩) S.q.length cvq) (i) (bq) (oq) (((t : Nat) : Int)) (w.heap.size)) [77, 78, 79, 80, 81, 82] RE20_mono rfl (by kernel_rfl) (by kernel_rfl) ?_ ?_
                · skip
                  refine Steps.cons rfl ?_ ?_
                  · intro l us W hl hI hd hn K' hK
                    have hHas := hI.has
                    have hbel := hI.bel
                    have hlen := hI.len
                    obtain ⟨u0, u1, u2, u3, u4, u5, rfl⟩ := list_RE20 hlen
                    have HK : Hid (∀ v W', Below W.heap.size W W' → RE20 (#[.slice aa a.al.length ca, .int .i64 n, .slice am a.ms.length cm, .slice ae a.es.length ce, .slice (some ⟨bf, offf, none⟩) (n + 1) cf]) (.slice (some ⟨bq, oq, none⟩) S.q.length cvq) (i) (bq) (oq) (((t : Nat) : Int)) (w.heap.size) 0 v W' → ∀ a', puts _ _ [v, u1, u2, u3, u4, u5] = a' → K' a' W') := fun v W' hb hv a' e => hK _ a' W' e (hI.step RE20_mono hl hb hv)
                    have hWW := hbWd.trans (hbel.mono hbWd.size)
                    have y0 := keep hbel g0 hgl
                    have y1 := keep hbel g1 hgl
                    have y2 := keep hbel g2 hgl
                    have y3 := keep hbel g3 hgl
                    have y4 := keep hbel g4 hgl
                    clear hl hI hd hn hK hHas hlen 
                    refine StepG.mk ?_
                    simp only [puts, Act.put]
                    go_simp
                    exact HK.out (.agg (#[.slice aa a.al.length ca, .int .i64 n, .slice am a.ms.length cm, .slice ae a.es.length ce, .slice (some ⟨bf, offf, none⟩) (n + 1) cf])) _ (Below.refl _ _) rfl _ (by simp [puts, Act.put])
                  refine Steps.cons rfl ?_ ?_
                  · intro l us W hl hI hd hn K' hK
                    have hHas := hI.has
                    have hbel := hI.bel
                    have hlen := hI.len
                    obtain ⟨u0, u1, u2, u3, u4, u5, rfl⟩ := list_RE20 hlen
                    have HK : Hid (∀ v W', Below W.heap.size W W' → RE20 (#[.slice aa a.al.length ca, .int .i64 n, .slice am a.ms.length cm, .slice ae a.es.length ce, .slice (some ⟨bf, offf, none⟩) (n + 1) cf]) (.slice (some ⟨bq, oq, none⟩) S.q.length cvq) (i) (bq) (oq) (((t : Nat) : Int)) (w.heap.size) 1 v W' → ∀ a', puts _ _ [u0, v, u2, u3, u4, u5] = a' → K' a' W') := fun v W' hb hv a' e => hK _ a' W' e (hI.step RE20_mono hl hb hv)
                    have hWW := hbWd.trans (hbel.mono hbWd.size)
                    have y := keep hbel q1 hql
                    clear hl hI hd hn hK hHas hlen 
                    refine StepG.mk ?_
                    simp only [puts, Act.put]
                    go_simp
                    exact HK.out ((.slice (some ⟨bq, oq, none⟩) S.q.length cvq)) _ (Below.refl _ _) rfl _ (by simp [puts, Act.put])
                  refine Steps.cons rfl ?_ ?_
                  · intro l us W hl hI hd hn K' hK
                    have hHas := hI.has
                    have hbel := hI.bel
                    have hlen := hI.len
                    obtain ⟨u0, u1, u2, u3, u4, u5, rfl⟩ := list_RE20 hlen
                    have HK : Hid (∀ v W', Below W.heap.size W W' → RE20 (#[.slice aa a.al.length ca, .int .i64 n, .slice am a.ms.length cm, .slice ae a.es.length ce, .slice (some ⟨bf, offf, none⟩) (n + 1) cf]) (.slice (some ⟨bq, oq, none⟩) S.q.length cvq) (i) (bq) (oq) (((t : Nat) : Int)) (w.heap.size) 2 v W' → ∀ a', puts _ _ [u0, u1, v, u3, u4, u5] = a' → K' a' W') := fun v W' hb hv a' e => hK _ a' W' e (hI.step RE20_mono hl hb hv)
                    have hWW := hbWd.trans (hbel.mono hbWd.size)
                    have y := keep hbel q2 hil
                    clear hl hI hd hn hK hHas hlen 
                    refine StepG.mk ?_
                    simp only [puts, Act.put]
                    go_simp
                    exact HK.out (.int .i64 i) _ (Below.refl _ _) rfl _ (by simp [puts, Act.put])
                  refine Steps.cons rfl ?_ ?_
                  · intro l us W hl hI hd hn K' hK
                    have hHas := hI.has
                    have hbel := hI.bel
                    have hlen := hI.len
                    obtain ⟨u0, u1, u2, u3, u4, u5, rfl⟩ := list_RE20 hlen
                    have HK : Hid (∀ v W', Below W.heap.size W W' → RE20 (#[.slice aa a.al.length ca, .int .i64 n, .slice am a.ms.length cm, .slice ae a.es.length ce, .slice (some ⟨bf, offf, none⟩) (n + 1) cf]) (.slice (some ⟨bq, oq, none⟩) S.q.length cvq) (i) (bq) (oq) (((t : Nat) : Int)) (w.heap.size) 3 v W' → ∀ a', puts _ _ [u0, u1, u2, v, u4, u5] = a' → K' a' W') := fun v W' hb hv a' e => hK _ a' W' e (hI.step RE20_mono hl hb hv)
                    have hWW := hbWd.trans (hbel.mono hbWd.size)
                    have d1 : l.getD 1 false = true := by
                      simp [Region.binds] at hd
                      simp [hd]
                    have d2 : l.getD 2 false = true := by
                      simp [Region.binds] at hd
                      simp [hd]
                    obtain rfl : u1 = _ := hHas 1 (by decide) d1
                    obtain rfl : u2 = _ := hHas 2 (by decide) d2
                    clear hl hI hd hn hK hHas hlen d1 d2
                    refine StepG.mk ?_
                    simp only [puts, Act.put]
                    go_simp
                    exact HK.out (.pointer (some ⟨bq, oq + i, none⟩)) _ (Below.refl _ _) rfl _ (by simp [puts, Act.put])
                  refine Steps.cons rfl ?_ ?_
                  · intro l us W hl hI hd hn K' hK
                    have hHas := hI.has
                    have hbel := hI.bel
                    have hlen := hI.len
                    obtain ⟨u0, u1, u2, u3, u4, u5, rfl⟩ := list_RE20 hlen
                    have HK : Hid (∀ v W', Below W.heap.size W W' → RE20 (#[.slice aa a.al.length ca, .int .i64 n, .slice am a.ms.length cm, .slice ae a.es.length ce, .slice (some ⟨bf, offf, none⟩) (n + 1) cf]) (.slice (some ⟨bq, oq, none⟩) S.q.length cvq) (i) (bq) (oq) (((t : Nat) : Int)) (w.heap.size) 4 v W' → ∀ a', puts _ _ [u0, u1, u2, u3, v, u5] = a' → K' a' W') := fun v W' hb hv a' e => hK _ a' W' e (hI.step RE20_mono hl hb hv)
                    have hWW := hbWd.trans (hbel.mono hbWd.size)
                    have y := keep hbel qc hqcl
                    have d3 : l.getD 3 false = true := by
                      simp [Region.binds] at hd
                      simp [hd]
                    obtain rfl : u3 = _ := hHas 3 (by decide) d3
                    clear hl hI hd hn hK hHas hlen d3
                    refine StepG.mk ?_
                    simp only [puts, Act.put]
                    go_simp
                    exact HK.out (.int .i64 (((t : Nat) : Int))) _ (Below.refl _ _) rfl _ (by simp [puts, Act.put])
                  refine Steps.cons rfl ?_ ?_
                  · intro l us W hl hI hd hn K' hK
                    have hHas := hI.has
                    have hbel := hI.bel
                    have hlen := hI.len
                    obtain ⟨u0, u1, u2, u3, u4, u5, rfl⟩ := list_RE20 hlen
                    have HK : Hid (∀ v W', Below W.heap.size W W' → RE20 (#[.slice aa a.al.length ca, .int .i64 n, .slice am a.ms.length cm, .slice ae a.es.length ce, .slice (some ⟨bf, offf, none⟩) (n + 1) cf]) (.slice (some ⟨bq, oq, none⟩) S.q.length cvq) (i) (bq) (oq) (((t : Nat) : Int)) (w.heap.size) 5 v W' → ∀ a', puts _ _ [u0, u1, u2, u3, u4, v] = a' → K' a' W') := fun v W' hb hv a' e => hK _ a' W' e (hI.step RE20_mono hl hb hv)
                    have hWW := hbWd.trans (hbel.mono hbWd.size)
                    have d0 : l.getD 0 false = true := by
                      simp [Region.binds] at hd
                      simp [hd]
                    have d4 : l.getD 4 false = true := by
                      simp [Region.binds] at hd
                      simp [hd]
                    obtain rfl : u0 = _ := hHas 0 (by decide) d0
                    obtain rfl : u4 = _ := hHas 4 (by decide) d4
                    clear hl hI hd hn hK hHas hlen d0 d4
                    refine StepG.mk ?_
                    simp only [puts, Act.put]
                    go_simp
                    refine (edges_any _ _ _ _ _ _ _ _ _ _ _ _ _ _ _).mono ?_
                    rintro e w9 ⟨rfl, rfl⟩
                    go_simp
                    exact HK.out _ _ ((bel_alloc _ _).trans ((bel_alloc _ _).mono (by simp))) ⟨W.heap.size, rfl, hWW.size, heap_past (by simp) (heap_at rfl), heap_at (by simp)⟩ _ (by simp [puts, Act.put])
                  exact Steps.nil (Nat.le_refl _)
                · intro us W3 hlen hbel hall
                  obtain ⟨u77, u78, u79, u80, u81, u82, rfl⟩ := list_RE20 hlen
                  obtain ⟨m, e82, hBm, hm1, hm2⟩ : ∃ m, u82 = .func (.func 84) #[] #[.pointer (some ⟨m, 0, none⟩), .pointer (some ⟨m + 1, 0, none⟩)] ∧ w.heap.size ≤ m ∧ W3.heap[m]? = some (.cells #[.slice aa a.al.length ca, .int .i64 n, .slice am a.ms.length cm, .slice ae a.es.length ce, .slice (some ⟨bf, offf, none⟩) (n + 1) cf] 80 (0, 0)) ∧ W3.heap[m + 1]? = some (.cells #[.int .i64 ((t : Nat) : Int)] 3 (0, 0)) := hall 5 (by decide)
                  subst e82
                  have hX3 := HX.out.call ((bel_drew _).trans hbel)
                  have hE3 := HEr.out.below ((bel_drew _).trans hbel)
                  have hG3 := HGr.out.below ((bel_drew _).trans hbel)
                  clear hall hlen hbel hbWd g0 g1 g2 g3 g4 q1 q2 qc HX HEr HGr
                  simp only [puts, Act.put, List.setIfInBounds_toArray, List.set_cons_succ, List.set_cons_zero]
                  have hg3 : W3.cell? ⟨m, 3, none⟩ = some (.slice ae a.es.length ce) := by simp [World.cell?, hm1]
                  have hg4 : W3.cell? ⟨m, 4, none⟩ = some (.slice (some ⟨bf, offf, none⟩) (n + 1) cf) := by simp [World.cell?, hm1]
                  have hg5 : W3.cell? ⟨m + 1, 0, none⟩ = some (.int .i64 ((t : Nat) : Int)) := by simp [World.cell?, hm2]
                  have hfc : ∀ j : Nat, j ≤ n → W3.cell? ⟨bf, offf + j, none⟩ = some (.int .i64 (fstN a.es j)) := by
                    intro j hj
                    rw [hG3.cellAt j (by omega)]
                    exact firsts_get n a.es j hj
                  have hseq := edges_stops m (m + 1) w.heap.size ae (some ⟨bf, offf, none⟩) ce (n + 1) cf (t : Int) a.es (fstN a.es t) (fstN a.es (t + 1)) (fstN_mono a.es _ _ (by omega)) (fstN_le a.es _) hae W3 hX3.below.size hg3 hg4 hg5 (by omega) (by omega) bf offf rfl (by omega)
                    (by have := hfc t (by omega); rwa [Int.toNat_natCast]) (by have := hfc (t + 1) (by omega); rwa [show ((t : Int) + 1).toNat = t + 1 by omega]) (hre.mono hX3.below) (fun h0 ad e => World.block_lt_of_cell? w ⟨ad.block, ad.off + 0, none⟩ (hre.cell ad e 0 (by rw [hre.hlen]; omega)))
                  clear hg3 hg4 hg5 hfc hm1 hm2
                  go_wp2_with fail
                  refine wp_edges_box (bg := m) (bs := m + 1) (n₀ := w.heap.size) rfl hseq (Below.refl _ _) hX3.below.size 83 15 rfl
                    (fun pre W => (∀ y ∈ pre, y ∈ a.es) ∧ ∃ tag vm ve vq, XB w #[.slice aa a.al.length ca, .int .i64 n, .slice am a.ms.length cm, .slice ae a.es.length ce, .slice (some ⟨bf, offf, none⟩) (n + 1) cf] n w3.heap.size b9 w6.heap.size w8.heap.size (w8.heap.size + 1 + 1) (.slice a3 a.al.length c3) (.slice (some ⟨b10, o10, none⟩) n c10) (.slice (some ⟨W2.heap.size, 0, none⟩) n n) (.slice (some ⟨b11, o11, none⟩) n c11) a.al inF mkF ds W tag bi i vm ve vq (pre.foldl (rsStep inF i) S) ms' ∧ Row W w.heap.size tag 8 45 3 ve (pre.foldl (rsStep inF i) S).E.length (edCells (pre.foldl (rsStep inF i) S).E) ∧ Row W w.heap.size tag 0 3 1 (.slice (some ⟨bf, offf, none⟩) (n + 1) cf) (n + 1) (ints (firsts n a.es)))
                    ?hI ⟨by simp, _, _, _, _, hX3, hE3, hG3⟩
                    (fun x Bx W => w.heap.size ≤ Bx ∧ W.heap[Bx]? = some (.cells #[.int .i64 x.f, .int .i64 x.e, .int .i64 x.t] 45 (0, 0)) ∧ ∃ (cs : Array Value) (tc : TypeId), W.heap[w3.heap.size]? = some (.cells cs tc (0, 0)) ∧ ∀ off m c, cs[3]? ≠ some (.slice (some ⟨Bx, off, none⟩) m c))
                    ?hB ?assign ?body ?done
                  case hI =>
                    intro pre W W' row h1 hg hr
                    obtain ⟨h0, tag1, vm1, ve1, vq1, h2, h3, h4⟩ := h1
                    exact ⟨h0, tag1, vm1, ve1, vq1, h2.others hg (fun D hD => hX3.marks.lt hD) hX3.below.size hr, h3.others hg (fun r e => (hr r e).2), h4.others hg (fun r e => (hr r e).2)⟩
                  case hB =>
                    intro x Bx u W W' row h1 hg hr
                    obtain ⟨h1, h2, cs, tc, h3, h4⟩ := h1
                    refine ⟨h1, (hg.block Bx (Array.getElem?_eq_some_iff.1 h2).1 (fun e => ?_)).trans h2, cs, tc, (hg.block _ (Array.getElem?_eq_some_iff.1 h3).1 (fun e => ?_)).trans h3, h4⟩
                    · obtain ⟨o, ho, hc⟩ := (hr Bx e.symm).2
                      rw [h2] at ho
                      cases ho
                      cases hc
                    · obtain ⟨o, ho, hc⟩ := (hr _ e.symm).2
                      rw [h3] at ho
                      cases ho
                      cases hc
                  case assign =>
                    intro l pre x W K hx hiW hK
                    obtain ⟨h0, tag1, vm1, ve1, vq1, h2, h3, h4⟩ := hiW
                    have hsW := h2.below.size
                    have hnv : ∀ off m c, #[Value.slice a3 a.al.length c3, Value.int .i64 0, vm1, ve1][3]? ≠ some (.slice (some ⟨W.heap.size, off, none⟩) m c) := by
                      intro off m c e
                      have e' : ve1 = .slice (some ⟨W.heap.size, off, none⟩) m c := by simpa using e
                      rcases h3.2 with ⟨h9, _⟩ | ⟨b, _, _, _, h9, h10, _⟩
                      · rw [h9] at e'; cases e'
                      · rw [h9] at e'; cases e'
                        exact absurd h10.lt (Nat.lt_irrefl _)
                    have hK2 := Lib.hid (hK W.heap.size (W.alloc (.cells #[.int .i64 x.f, .int .i64 x.e, .int .i64 x.t] 45)) ((KeepsOthers.alloc _ _).from _) ((Below.refl _ W).alloc hsW _) ⟨h0, tag1, vm1, ve1, vq1, h2.call (bel_alloc _ _), h3.below (bel_alloc _ _), h4.below (bel_alloc _ _)⟩ ⟨hsW, heap_at rfl, _, _, ((bel_alloc W _).block _ h2.ob.lt).trans h2.ob.heap, hnv⟩)
                    clear hK h2 h3 h4 hnv
                    dsimp only [Ed.val] at hK2 ⊢
                    simp only [List.setIfInBounds_toArray, List.set_cons_succ, List.set_cons_zero] at hK2 ⊢
                    gi_wp2
                    exact hK2.out
                  case body =>
                    rintro l pre ⟨xf, xe, xt⟩ Bx W hx hl0 hpl ⟨hpre, tag1, vm1, ve1, vq1, hJ, hEr, hGr⟩ ⟨hBx, hbx, cs, tc, hcs, hne⟩
                    rw [hJ.ob.heap] at hcs
                    cases hcs
                    have hne' : ∀ off m c, ve1 ≠ .slice (some ⟨Bx, off, none⟩) m c := fun off m c e => hne off m c (by rw [e]; rfl)
                    have hJ2 := hJ.retag hbx
                    have hE2 := hEr.retagNe (bx := Bx) 10 (fun off c => hne' off _ c)
                    have hG2 := hGr.retag (kx := 10) hbx (by decide)
                    have hxm := subOf_mem (s := (t : Int)) hx
                    have hxr := Hes.out _ hxm
                    dsimp only at hxr hbx
                    obtain ⟨t2, rfl⟩ := Int.eq_ofNat_of_zero_le hxr.2.2.1
                    have ht2 : t2 < n := by omega
                    have hOx : Own W w.heap.size (tagUp tag1 Bx 10) 10 Bx #[.int .i64 xf, .int .i64 xe, .int .i64 (t2 : Int)] 45 := ⟨hbx, tagUp_at _ _ _, hBx⟩
                    have Hmem : Hid (∀ y ∈ pre ++ [(⟨xf, xe, (t2 : Int)⟩ : Ed)], y ∈ a.es) := by
                      intro y hy
                      rcases List.mem_append.1 hy with h1 | h1
                      · exact hpre y h1
                      · rw [List.mem_singleton.1 h1]; exact hxm
                    have hokp := (ROk.fold (inF := inF) (i := i) pre Hok.out (fun y hy => (Hes.out y (hpre y hy)).2.2)).more (m' := 5000000000) (by have := fstN_le a.es ((t : Int) + 1); have := Hok.out.cnt; omega)
                    have Hacc : Hid ((pre ++ [(⟨xf, xe, (t2 : Int)⟩ : Ed)]).foldl (rsStep inF i) S = rsStep inF i (pre.foldl (rsStep inF i) S) ⟨xf, xe, (t2 : Int)⟩) := by
                      show _ = _
                      rw [List.foldl_append]; rfl
                    clear hJ hEr hGr hne hne' hpre
                    generalize pre.foldl (rsStep inF i) S = S1 at *
                    have hBW := hJ2.below.size
                    have hlen1 := hokp.len
                    have x2 : W.cell? ⟨Bx, 2, none⟩ = some (.int .i64 (t2 : Int)) := hOx.cell 2
                    have hBxl := hOx.lt
                    have i0 : W.cell? ⟨b9, 0, none⟩ = some (.slice (some ⟨b10, o10, none⟩) n c10) := hJ2.ib.cell 0
                    have i1 : W.cell? ⟨b10, o10 + t2, none⟩ = some (.bool (inF.getD t2 false)) := by
                      rw [hJ2.inr.cellAt t2 (by omega), List.getElem?_map, List.getElem?_eq_getElem (by omega), List.getD_eq_getElem?_getD, List.getElem?_eq_getElem (by omega)]; rfl
                    have hb10l := World.block_lt_of_cell? _ _ i1
                    dsimp only at hb10l
                    have ht2I : (t2 : Int) < (n : Int) := by omega
                    have HJ := Lib.hid hJ2
                    have HE3 := Lib.hid hE2
                    have HG3 := Lib.hid hG2
                    have Hokp := Lib.hid hokp
                    clear hJ2 hE2 hG2 hokp hx
                    dsimp only [Ed.val]
                    simp only [List.setIfInBounds_toArray, List.set_cons_succ, List.set_cons_zero]
                    cases hit : inF.getD t2 false with
                    | false =>
                      rw [hit] at i1
                      have hst : rsStep inF i S1 ⟨xf, xe, (t2 : Int)⟩ = S1 := rsStep_out (by show inF.getD (t2 : Int).toNat false = false; rw [Int.toNat_natCast]; exact hit)
                      have Hst := Lib.hid hst
                      clear hst hit
                      gi_wp2_with fail
                      refine ⟨KeepsFrom.refl _ _, Below.refl _ _, Hmem.out, tagUp tag1 Bx 10, vm1, ve1, vq1, ?_⟩
                      rw [Hacc.out, Hst.out]
                      exact ⟨HJ.out, HE3.out, HG3.out⟩
                    | true =>
                      rw [hit] at i1
                      have n0 : W.cell? ⟨w6.heap.size, 0, none⟩ = some (.slice (some ⟨W2.heap.size, 0, none⟩) n n) := HJ.out.nb.cell 0
                      have hn0l := HJ.out.nb.lt
                      have n1 : W.cell? ⟨W2.heap.size, t2, none⟩ = some (.int .i64 (S1.num.getD t2 0)) := by
                        have h := HJ.out.nr.cellAt t2 (by omega)
                        rw [Nat.zero_add, List.getElem?_map, List.getElem?_eq_getElem (by omega)] at h
                        rw [h, List.getD_eq_getElem?_getD, List.getElem?_eq_getElem (by omega)]; rfl
                      have hn1l := World.block_lt_of_cell? _ _ n1
                      dsimp only at hn1l
                      have hinT : inF.getD (⟨xf, xe, (t2 : Int)⟩ : Ed).t.toNat false = true := by show inF.getD (t2 : Int).toNat false = true; rw [Int.toNat_natCast]; exact hit
                      have HinT := Lib.hid hinT
                      clear hit hinT
                      by_cases hz : S1.num.getD t2 0 = 0
                      · have Hz := Lib.hid hz
                        rw [hz] at n1
                        clear hz
                        have qb0 : W.cell? ⟨w8.heap.size + 1 + 1, 0, none⟩ = some vq1 := HJ.out.qb.cell 0
                        have hqb0 := HJ.out.qb.lt
                        obtain ⟨avq1, cvq1, rfl⟩ := HJ.out.qr.val
                        have hcn1 := Hokp.out.cnt
                        have hJ6 := Lib.hid (HJ.out.up (.cells #[.int .i64 (t2 : Int)] 3) 9)
                        have hE6 := Lib.hid (HE3.out.up (.cells #[.int .i64 (t2 : Int)] 3) 9)
                        have hG6 := Lib.hid (HG3.out.up (.cells #[.int .i64 (t2 : Int)] 3) 9)
                        have hO6 := Lib.hid (hOx.upR (.cells #[.int .i64 (t2 : Int)] 3) 9)
                        obtain ⟨j0, hi1, hw0, hw1, hw2⟩ := info_parts Try.info_int
                        gi_wp2_with (gi_at_builtin; (refine wpListIn_append_row rfl _ _ 28 rfl 3 j0 (.int .i64 0) 8 Try.underlying28 hi1 hw0 hw1 hw2 rfl rfl hJ6.out.qr (some ⟨_, 0, none⟩) 1 1 [.int .i64 (t2 : Int)] rfl rfl (by simp) (fun ad e => by cases e; exact new_cells_at _ _ (by simp)) (by simp [Value.oneCell']) (by unfold maxLen; omega) (by omega) (by simp; omega) ?_); intro v16 w16 tag16 hr16 ht16; have HP16 := Lib.hid (hJ6.out.push hr16 ht16); have s16 := hJ6.out.qb.turn ht16 (by decide); have T16 := Turn.setCell s16 0 v16; have hE16 := Lib.hid ((hE6.out.turn ht16 (by decide)).turn T16 (by decide)); have hG16 := Lib.hid ((hG6.out.turn ht16 (by decide)).turn T16 (by decide)); have hO16 := Lib.hid ((hO6.out.turn ht16 (by decide)).turn T16 (by decide)); have HT16 := Lib.hid (And.intro ht16 T16); obtain ⟨a16, c16, rfl⟩ := hr16.val; have z0 := s16.cell 0; have z1 := s16.frozen 0; simp at z0; have y0 := HP16.out.nb.cell 0; have y1 := HP16.out.qb.cell 0; have y2 := hO16.out.cell 2; have y3 := HP16.out.nr.cellAt t2 (by omega); have y4 := HP16.out.nr.frozenAt t2; dsimp only at y3; rw [Nat.zero_add, List.getElem?_map, List.getElem?_eq_getElem (by omega)] at y3; simp at y0 y1 y2; clear hr16 ht16 s16 T16)
                        have hn17 := HP16.out.setNum t2 ((S1.q.length : Int) + 1)
                        rw [Nat.zero_add] at hn17
                        have T17 := hn17.2
                        have HP17 := Lib.hid hn17.1
                        have HE17 := Lib.hid (hE16.out.turn T17 (by decide))
                        have HG17 := Lib.hid (hG16.out.turn T17 (by decide))
                        have HO17 := Lib.hid (hO16.out.turn T17 (by decide))
                        have hsz16 := HP16.out.below.size
                        have HK17 : Hid (∀ m, KeepsFrom m W _) := fun m => (keepsBelow (bel_alloc W (.cells #[.int .i64 (t2 : Int)] 3))).trans ((keepsTurn HT16.out.1).trans ((keepsTurn HT16.out.2).trans (keepsTurn T17)))
                        have HB17 : Hid (Below w.heap.size W _) := belTurn (belTurn (belTurn ((Below.refl _ W).alloc hBW _) HT16.out.1 (by simp; omega)) HT16.out.2 (by have := HT16.out.1.size; simp at this; omega)) T17 hsz16
                        have hst : rsStep inF i S1 ⟨xf, xe, (t2 : Int)⟩ = ⟨S1.num.set t2 ((S1.q.length : Int) + 1), S1.q ++ [(t2 : Int)], S1.E ++ [⟨i, xe, (S1.q.length : Int) + 1 - 1⟩]⟩ := by
                          rw [show (S1.q.length : Int) + 1 - 1 = S1.q.length by omega]
                          exact rsStep_new (i := i) HinT.out (by show S1.num.getD (t2 : Int).toNat 0 = 0; rw [Int.toNat_natCast]; exact Hz.out) (by show (t2 : Int).toNat < _; rw [Int.toNat_natCast]; omega)
                        have hnvb : 0 ≤ (S1.q.length : Int) + 1 ∧ (S1.q.length : Int) + 1 ≤ (n : Int) + 1 := by omega
                        have HXB := Lib.hid hn17.1
                        clear hn17 T17 HP17 HP16 hE16 hG16 hO16 HT16 z0 z1 y0 y1 y2 y3 y4 HJ hJ6 hE6 hG6 hO6 HE3 HG3 hOx x2 i0 i1 n0 n1 qb0
                        generalize World.setCell (World.setCell w16 _ _) _ _ = V at *
                        obtain ⟨S2, hS2n, hS2q, hS2E, HP17⟩ : ∃ S2 : RSt, S2.num = S1.num.set t2 ((S1.q.length : Int) + 1) ∧ S2.q = S1.q ++ [(t2 : Int)] ∧ S2.E = S1.E ∧ Hid (XB w #[.slice aa a.al.length ca, .int .i64 n, .slice am a.ms.length cm, .slice ae a.es.length ce, .slice (some ⟨bf, offf, none⟩) (n + 1) cf] n w3.heap.size b9 w6.heap.size w8.heap.size (w8.heap.size + 1 + 1) (.slice a3 a.al.length c3) (.slice (some ⟨b10, o10, none⟩) n c10) (.slice (some ⟨W2.heap.size, 0, none⟩) n n) (.slice (some ⟨b11, o11, none⟩) n c11) a.al inF mkF ds V tag16 bi i vm1 ve1 (.slice a16 (S1.q.length + 1) c16) S2 ms') := ⟨⟨S1.num.set t2 ((S1.q.length : Int) + 1), S1.q ++ [(t2 : Int)], S1.E⟩, rfl, rfl, rfl, HXB⟩
                        clear HXB
                        have HNV : Hid (S2.num.getD t2 0 = (S1.q.length : Int) + 1) := by show _ = _; rw [hS2n, List.getD_eq_getElem?_getD, List.getElem?_set_self (by omega)]; rfl
                        have hlen2 : S2.num.length = n := by rw [hS2n, List.length_set]; exact hlen1
                        rw [← hS2n, ← hS2q] at hst
                        have Hst := Lib.hid hst
                        have hEl := Hokp.out.el
                        clear hst hS2n hS2q hS2E
                        generalize hnv : (S1.q.length : Int) + 1 = nv at *
                        have Hnv := Lib.hid hnv
                        clear hnv
                        obtain ⟨ave, cve, rfl⟩ := HE17.out.val
                        have HX26 : Hid (PhiX w #[.slice aa a.al.length ca, .int .i64 n, .slice am a.ms.length cm, .slice ae a.es.length ce, .slice (some ⟨bf, offf, none⟩) (n + 1) cf] n w3.heap.size b9 w6.heap.size w8.heap.size (w8.heap.size + 1 + 1) (.slice a3 a.al.length c3) (.slice (some ⟨b10, o10, none⟩) n c10) (.slice (some ⟨W2.heap.size, 0, none⟩) n n) (.slice (some ⟨b11, o11, none⟩) n c11) a.al inF mkF ds bi i vm1 (.slice a16 (S1.q.length + 1) c16) S2 ms' Bx xf xe (t2 : Int) V (.slice (some ⟨bf, offf, none⟩) (n + 1) cf) (n + 1) (ints (firsts n a.es)) (.slice ave S1.E.length cve) tag16 V) := ⟨HP17.out, HO17.out, Below.refl _ _, fun m => KeepsFrom.refl _ _, HG17.out⟩
                        have HE26 := HE17
                        obtain ⟨j1, hj1, hj2, hj3, hj4⟩ := info_parts Try.info_edge
                        generalize hE26 : S1.E = E26 at *
                        refine wpIn_region_inv (fun l us WW => ∃ tag, RX (PhiX w #[.slice aa a.al.length ca, .int .i64 n, .slice am a.ms.length cm, .slice ae a.es.length ce, .slice (some ⟨bf, offf, none⟩) (n + 1) cf] n w3.heap.size b9 w6.heap.size w8.heap.size (w8.heap.size + 1 + 1) (.slice a3 a.al.length c3) (.slice (some ⟨b10, o10, none⟩) n c10) (.slice (some ⟨W2.heap.size, 0, none⟩) n n) (.slice (some ⟨b11, o11, none⟩) n c11) a.al inF mkF ds bi i vm1 (.slice a16 (S1.q.length + 1) c16) S2 ms' Bx xf xe (t2 : Int) V (.slice (some ⟨bf, offf, none⟩) (n + 1) cf) (n + 1) (ints (firsts n a.es))) (PR26 w3.heap.size Bx W2.heap.size t2 n i xe (t2 : Int) nv (.slice ave E26.length cve)) w.heap.size E26 ⟨i, xe, nv - 1⟩ (.slice ave E26.length cve) l us tag WW) [107, 108, 109, 110, 111, 112, 113, 114, 115, 116, 117, 118, 119, 120, 121] (by kernel_rfl) (by kernel_rfl) ⟨_, RX.start rfl HX26.out.1.below.size ⟨HX26.out.1.call (bel_drew _), HX26.out.2.1.below (bel_drew _), HX26.out.2.2.1.drew, fun m => (HX26.out.2.2.2.1 m).trans (keepsBelow (bel_drew _)), HX26.out.2.2.2.2.below (bel_drew _)⟩ (HE26.out.below (bel_drew _))⟩ ?_ ?_
                        · skip
                          refine StepsIn.cons rfl ?_ ?_
                          · intro l us W4 hl hI hd hn K' hK
                            obtain ⟨tg4, hI⟩ := hI
                            have hlen := hI.len
                            obtain ⟨u0, u1, u2, u3, u4, u5, u6, u7, u8, u9, u10, u11, u12, u13, u14, rfl⟩ := list15 hlen
                            have HK : Hid (∀ v W' tag', RX (PhiX w #[.slice aa a.al.length ca, .int .i64 n, .slice am a.ms.length cm, .slice ae a.es.length ce, .slice (some ⟨bf, offf, none⟩) (n + 1) cf] n w3.heap.size b9 w6.heap.size w8.heap.size (w8.heap.size + 1 + 1) (.slice a3 a.al.length c3) (.slice (some ⟨b10, o10, none⟩) n c10) (.slice (some ⟨W2.heap.size, 0, none⟩) n n) (.slice (some ⟨b11, o11, none⟩) n c11) a.al inF mkF ds bi i vm1 (.slice a16 (S1.q.length + 1) c16) S2 ms' Bx xf xe (t2 : Int) V (.slice (some ⟨bf, offf, none⟩) (n + 1) cf) (n + 1) (ints (firsts n a.es))) (PR26 w3.heap.size Bx W2.heap.size t2 n i xe (t2 : Int) nv (.slice ave E26.length cve)) w.heap.size E26 ⟨i, xe, nv - 1⟩ (.slice ave E26.length cve) (l.setIfInBounds 0 true) ([u0, u1, u2, u3, u4, u5, u6, u7, u8, u9, u10, u11, u12, u13, u14].set 0 v) tag' W' → ∀ a', puts _ _ [v, u1, u2, u3, u4, u5, u6, u7, u8, u9, u10, u11, u12, u13, u14] = a' → K' a' W') := fun v W' tag' h a' e => hK _ a' W' e ⟨tag', h⟩
                            have HS := Lib.hid (hI.pureStep (v := .pointer (some ⟨w3.heap.size, 3, none⟩)) hl (by decide) rfl)
                            clear hK hl hI hlen hd hn
                            refine StepGIn.mk ?_
                            simp only [puts, Act.put]
                            go_simp
                            exact HK.out _ _ _ HS.out _ (by simp [puts, Act.put])
                          refine StepsIn.cons rfl ?_ ?_
                          · intro l us W4 hl hI hd hn K' hK
                            obtain ⟨tg4, hI⟩ := hI
                            have hlen := hI.len
                            obtain ⟨u0, u1, u2, u3, u4, u5, u6, u7, u8, u9, u10, u11, u12, u13, u14, rfl⟩ := list15 hlen
                            have HK : Hid (∀ v W' tag', RX (PhiX w #[.slice aa a.al.length ca, .int .i64 n, .slice am a.ms.length cm, .slice ae a.es.length ce, .slice (some ⟨bf, offf, none⟩) (n + 1) cf] n w3.heap.size b9 w6.heap.size w8.heap.size (w8.heap.size + 1 + 1) (.slice a3 a.al.length c3) (.slice (some ⟨b10, o10, none⟩) n c10) (.slice (some ⟨W2.heap.size, 0, none⟩) n n) (.slice (some ⟨b11, o11, none⟩) n c11) a.al inF mkF ds bi i vm1 (.slice a16 (S1.q.length + 1) c16) S2 ms' Bx xf xe (t2 : Int) V (.slice (some ⟨bf, offf, none⟩) (n + 1) cf) (n + 1) (ints (firsts n a.es))) (PR26 w3.heap.size Bx W2.heap.size t2 n i xe (t2 : Int) nv (.slice ave E26.length cve)) w.heap.size E26 ⟨i, xe, nv - 1⟩ (.slice ave E26.length cve) (l.setIfInBounds 1 true) ([u0, u1, u2, u3, u4, u5, u6, u7, u8, u9, u10, u11, u12, u13, u14].set 1 v) tag' W' → ∀ a', puts _ _ [u0, v, u2, u3, u4, u5, u6, u7, u8, u9, u10, u11, u12, u13, u14] = a' → K' a' W') := fun v W' tag' h a' e => hK _ a' W' e ⟨tag', h⟩
                            have d0 : l.getD 0 false = true := by
                              simp [Region.binds] at hd
                              simp [hd]
                            obtain rfl : u0 = _ := hI.pure 0 (by decide) d0
                            have HS := Lib.hid (hI.pureStep (v := .slice ave E26.length cve) hl (by decide) rfl)
                            have h15 : l.getD 15 false = false := by
                              cases h : l.getD 15 false with
                              | false => rfl
                              | true => rw [(hI.o13 (hI.o15 h)).2] at hn; cases hn
                            have hp := hI.phi
                            rw [h15] at hp
                            have y0 : W4.cell? ⟨w3.heap.size, 3, none⟩ = some (.slice ave E26.length cve) := hp.1.ob.cell 3
                            clear h15 hp
                            clear hK hl hI hlen hd hn d0
                            refine StepGIn.mk ?_
                            simp only [puts, Act.put]
                            go_simp
                            exact HK.out _ _ _ HS.out _ (by simp [puts, Act.put])
                          refine StepsIn.cons rfl ?_ ?_
                          · intro l us W4 hl hI hd hn K' hK
                            obtain ⟨tg4, hI⟩ := hI
                            have hlen := hI.len
                            obtain ⟨u0, u1, u2, u3, u4, u5, u6, u7, u8, u9, u10, u11, u12, u13, u14, rfl⟩ := list15 hlen
                            have HK : Hid (∀ v W' tag', RX (PhiX w #[.slice aa a.al.length ca, .int .i64 n, .slice am a.ms.length cm, .slice ae a.es.length ce, .slice (some ⟨bf, offf, none⟩) (n + 1) cf] n w3.heap.size b9 w6.heap.size w8.heap.size (w8.heap.size + 1 + 1) (.slice a3 a.al.length c3) (.slice (some ⟨b10, o10, none⟩) n c10) (.slice (some ⟨W2.heap.size, 0, none⟩) n n) (.slice (some ⟨b11, o11, none⟩) n c11) a.al inF mkF ds bi i vm1 (.slice a16 (S1.q.length + 1) c16) S2 ms' Bx xf xe (t2 : Int) V (.slice (some ⟨bf, offf, none⟩) (n + 1) cf) (n + 1) (ints (firsts n a.es))) (PR26 w3.heap.size Bx W2.heap.size t2 n i xe (t2 : Int) nv (.slice ave E26.length cve)) w.heap.size E26 ⟨i, xe, nv - 1⟩ (.slice ave E26.length cve) (l.setIfInBounds 2 true) ([u0, u1, u2, u3, u4, u5, u6, u7, u8, u9, u10, u11, u12, u13, u14].set 2 v) tag' W' → ∀ a', puts _ _ [u0, u1, v, u3, u4, u5, u6, u7, u8, u9, u10, u11, u12, u13, u14] = a' → K' a' W') := fun v W' tag' h a' e => hK _ a' W' e ⟨tag', h⟩
                            have HS := Lib.hid (hI.pureStep (v := .int .i64 (i : Int)) hl (by decide) rfl)
                            have y0 : W4.cell? ⟨bi, 0, none⟩ = some (.int .i64 (i : Int)) := hI.phi.1.io.cell 0
                            clear hK hl hI hlen hd hn
                            refine StepGIn.mk ?_
                            simp only [puts, Act.put]
                            go_simp
                            exact HK.out _ _ _ HS.out _ (by simp [puts, Act.put])
                          refine StepsIn.cons rfl ?_ ?_
                          · intro l us W4 hl hI hd hn K' hK
                            obtain ⟨tg4, hI⟩ := hI
                            have hlen := hI.len
                            obtain ⟨u0, u1, u2, u3, u4, u5, u6, u7, u8, u9, u10, u11, u12, u13, u14, rfl⟩ := list15 hlen
                            have HK : Hid (∀ v W' tag', RX (PhiX w #[.slice aa a.al.length ca, .int .i64 n, .slice am a.ms.length cm, .slice ae a.es.length ce, .slice (some ⟨bf, offf, none⟩) (n + 1) cf] n w3.heap.size b9 w6.heap.size w8.heap.size (w8.heap.size + 1 + 1) (.slice a3 a.al.length c3) (.slice (some ⟨b10, o10, none⟩) n c10) (.slice (some ⟨W2.heap.size, 0, none⟩) n n) (.slice (some ⟨b11, o11, none⟩) n c11) a.al inF mkF ds bi i vm1 (.slice a16 (S1.q.length + 1) c16) S2 ms' Bx xf xe (t2 : Int) V (.slice (some ⟨bf, offf, none⟩) (n + 1) cf) (n + 1) (ints (firsts n a.es))) (PR26 w3.heap.size Bx W2.heap.size t2 n i xe (t2 : Int) nv (.slice ave E26.length cve)) w.heap.size E26 ⟨i, xe, nv - 1⟩ (.slice ave E26.length cve) (l.setIfInBounds 3 true) ([u0, u1, u2, u3, u4, u5, u6, u7, u8, u9, u10, u11, u12, u13, u14].set 3 v) tag' W' → ∀ a', puts _ _ [u0, u1, u2, v, u4, u5, u6, u7, u8, u9, u10, u11, u12, u13, u14] = a' → K' a' W') := fun v W' tag' h a' e => hK _ a' W' e ⟨tag', h⟩
                            have HS := Lib.hid (hI.pureStep (v := .pointer (some ⟨Bx, 1, none⟩)) hl (by decide) rfl)
                            clear hK hl hI hlen hd hn
                            refine StepGIn.mk ?_
                            simp only [puts, Act.put]
                            go_simp
                            exact HK.out _ _ _ HS.out _ (by simp [puts, Act.put])
                          refine StepsIn.cons rfl ?_ ?_
                          · intro l us W4 hl hI hd hn K' hK
                            obtain ⟨tg4, hI⟩ := hI
                            have hlen := hI.len
                            obtain ⟨u0, u1, u2, u3, u4, u5, u6, u7, u8, u9, u10, u11, u12, u13, u14, rfl⟩ := list15 hlen
                            have HK : Hid (∀ v W' tag', RX (PhiX w #[.slice aa a.al.length ca, .int .i64 n, .slice am a.ms.length cm, .slice ae a.es.length ce, .slice (some ⟨bf, offf, none⟩) (n + 1) cf] n w3.heap.size b9 w6.heap.size w8.heap.size (w8.heap.size + 1 + 1) (.slice a3 a.al.length c3) (.slice (some ⟨b10, o10, none⟩) n c10) (.slice (some ⟨W2.heap.size, 0, none⟩) n n) (.slice (some ⟨b11, o11, none⟩) n c11) a.al inF mkF ds bi i vm1 (.slice a16 (S1.q.length + 1) c16) S2 ms' Bx xf xe (t2 : Int) V (.slice (some ⟨bf, offf, none⟩) (n + 1) cf) (n + 1) (ints (firsts n a.es))) (PR26 w3.heap.size Bx W2.heap.size t2 n i xe (t2 : Int) nv (.slice ave E26.length cve)) w.heap.size E26 ⟨i, xe, nv - 1⟩ (.slice ave E26.length cve) (l.setIfInBounds 4 true) ([u0, u1, u2, u3, u4, u5, u6, u7, u8, u9, u10, u11, u12, u13, u14].set 4 v) tag' W' → ∀ a', puts _ _ [u0, u1, u2, u3, v, u5, u6, u7, u8, u9, u10, u11, u12, u13, u14] = a' → K' a' W') := fun v W' tag' h a' e => hK _ a' W' e ⟨tag', h⟩
                            have d3 : l.getD 3 false = true := by
                              simp [Region.binds] at hd
                              simp [hd]
                            obtain rfl : u3 = _ := hI.pure 3 (by decide) d3
                            have HS := Lib.hid (hI.pureStep (v := .int .i64 xe) hl (by decide) rfl)
                            have y0 : W4.cell? ⟨Bx, 1, none⟩ = some (.int .i64 xe) := hI.phi.2.1.cell 1
                            clear hK hl hI hlen hd hn d3
                            refine StepGIn.mk ?_
                            simp only [puts, Act.put]
                            go_simp
                            exact HK.out _ _ _ HS.out _ (by simp [puts, Act.put])
                          refine StepsIn.cons rfl ?_ ?_
                          · intro l us W4 hl hI hd hn K' hK
                            obtain ⟨tg4, hI⟩ := hI
                            have hlen := hI.len
                            obtain ⟨u0, u1, u2, u3, u4, u5, u6, u7, u8, u9, u10, u11, u12, u13, u14, rfl⟩ := list15 hlen
                            have HK : Hid (∀ v W' tag', RX (PhiX w #[.slice aa a.al.length ca, .int .i64 n, .slice am a.ms.length cm, .slice ae a.es.length ce, .slice (some ⟨bf, offf, none⟩) (n + 1) cf] n w3.heap.size b9 w6.heap.size w8.heap.size (w8.heap.size + 1 + 1) (.slice a3 a.al.length c3) (.slice (some ⟨b10, o10, none⟩) n c10) (.slice (some ⟨W2.heap.size, 0, none⟩) n n) (.slice (some ⟨b11, o11, none⟩) n c11) a.al inF mkF ds bi i vm1 (.slice a16 (S1.q.length + 1) c16) S2 ms' Bx xf xe (t2 : Int) V (.slice (some ⟨bf, offf, none⟩) (n + 1) cf) (n + 1) (ints (firsts n a.es))) (PR26 w3.heap.size Bx W2.heap.size t2 n i xe (t2 : Int) nv (.slice ave E26.length cve)) w.heap.size E26 ⟨i, xe, nv - 1⟩ (.slice ave E26.length cve) (l.setIfInBounds 5 true) ([u0, u1, u2, u3, u4, u5, u6, u7, u8, u9, u10, u11, u12, u13, u14].set 5 v) tag' W' → ∀ a', puts _ _ [u0, u1, u2, u3, u4, v, u6, u7, u8, u9, u10, u11, u12, u13, u14] = a' → K' a' W') := fun v W' tag' h a' e => hK _ a' W' e ⟨tag', h⟩
                            have HS := Lib.hid (hI.pureStep (v := .slice (some ⟨W2.heap.size, 0, none⟩) n n) hl (by decide) rfl)
                            have y0 : W4.cell? ⟨w6.heap.size, 0, none⟩ = some (.slice (some ⟨W2.heap.size, 0, none⟩) n n) := hI.phi.1.nb.cell 0
                            clear hK hl hI hlen hd hn
                            refine StepGIn.mk ?_
                            simp only [puts, Act.put]
                            go_simp
                            exact HK.out _ _ _ HS.out _ (by simp [puts, Act.put])
                          refine StepsIn.cons rfl ?_ ?_
                          · intro l us W4 hl hI hd hn K' hK
                            obtain ⟨tg4, hI⟩ := hI
                            have hlen := hI.len
                            obtain ⟨u0, u1, u2, u3, u4, u5, u6, u7, u8, u9, u10, u11, u12, u13, u14, rfl⟩ := list15 hlen
                            have HK : Hid (∀ v W' tag', RX (PhiX w #[.slice aa a.al.length ca, .int .i64 n, .slice am a.ms.length cm, .slice ae a.es.length ce, .slice (some ⟨bf, offf, none⟩) (n + 1) cf] n w3.heap.size b9 w6.heap.size w8.heap.size (w8.heap.size + 1 + 1) (.slice a3 a.al.length c3) (.slice (some ⟨b10, o10, none⟩) n c10) (.slice (some ⟨W2.heap.size, 0, none⟩) n n) (.slice (some ⟨b11, o11, none⟩) n c11) a.al inF mkF ds bi i vm1 (.slice a16 (S1.q.length + 1) c16) S2 ms' Bx xf xe (t2 : Int) V (.slice (some ⟨bf, offf, none⟩) (n + 1) cf) (n + 1) (ints (firsts n a.es))) (PR26 w3.heap.size Bx W2.heap.size t2 n i xe (t2 : Int) nv (.slice ave E26.length cve)) w.heap.size E26 ⟨i, xe, nv - 1⟩ (.slice ave E26.length cve) (l.setIfInBounds 6 true) ([u0, u1, u2, u3, u4, u5, u6, u7, u8, u9, u10, u11, u12, u13, u14].set 6 v) tag' W' → ∀ a', puts _ _ [u0, u1, u2, u3, u4, u5, v, u7, u8, u9, u10, u11, u12, u13, u14] = a' → K' a' W') := fun v W' tag' h a' e => hK _ a' W' e ⟨tag', h⟩
                            have HS := Lib.hid (hI.pureStep (v := .pointer (some ⟨Bx, 2, none⟩)) hl (by decide) rfl)
                            clear hK hl hI hlen hd hn
                            refine StepGIn.mk ?_
                            simp only [puts, Act.put]
                            go_simp
                            exact HK.out _ _ _ HS.out _ (by simp [puts, Act.put])
                          refine StepsIn.cons rfl ?_ ?_
                          · intro l us W4 hl hI hd hn K' hK
                            obtain ⟨tg4, hI⟩ := hI
                            have hlen := hI.len
                            obtain ⟨u0, u1, u2, u3, u4, u5, u6, u7, u8, u9, u10, u11, u12, u13, u14, rfl⟩ := list15 hlen
                            have HK : Hid (∀ v W' tag', RX (PhiX w #[.slice aa a.al.length ca, .int .i64 n, .slice am a.ms.length cm, .slice ae a.es.length ce, .slice (some ⟨bf, offf, none⟩) (n + 1) cf] n w3.heap.size b9 w6.heap.size w8.heap.size (w8.heap.size + 1 + 1) (.slice a3 a.al.length c3) (.slice (some ⟨b10, o10, none⟩) n c10) (.slice (some ⟨W2.heap.size, 0, none⟩) n n) (.slice (some ⟨b11, o11, none⟩) n c11) a.al inF mkF ds bi i vm1 (.slice a16 (S1.q.length + 1) c16) S2 ms' Bx xf xe (t2 : Int) V (.slice (some ⟨bf, offf, none⟩) (n + 1) cf) (n + 1) (ints (firsts n a.es))) (PR26 w3.heap.size Bx W2.heap.size t2 n i xe (t2 : Int) nv (.slice ave E26.length cve)) w.heap.size E26 ⟨i, xe, nv - 1⟩ (.slice ave E26.length cve) (l.setIfInBounds 7 true) ([u0, u1, u2, u3, u4, u5, u6, u7, u8, u9, u10, u11, u12, u13, u14].set 7 v) tag' W' → ∀ a', puts _ _ [u0, u1, u2, u3, u4, u5, u6, v, u8, u9, u10, u11, u12, u13, u14] = a' → K' a' W') := fun v W' tag' h a' e => hK _ a' W' e ⟨tag', h⟩
                            have d6 : l.getD 6 false = true := by
                              simp [Region.binds] at hd
                              simp [hd]
                            obtain rfl : u6 = _ := hI.pure 6 (by decide) d6
                            have HS := Lib.hid (hI.pureStep (v := .int .i64 (t2 : Int)) hl (by decide) rfl)
                            have y0 : W4.cell? ⟨Bx, 2, none⟩ = some (.int .i64 (t2 : Int)) := hI.phi.2.1.cell 2
                            clear hK hl hI hlen hd hn d6
                            refine StepGIn.mk ?_
                            simp only [puts, Act.put]
                            go_simp
                            exact HK.out _ _ _ HS.out _ (by simp [puts, Act.put])
                          refine StepsIn.cons rfl ?_ ?_
                          · intro l us W4 hl hI hd hn K' hK
                            obtain ⟨tg4, hI⟩ := hI
                            have hlen := hI.len
                            obtain ⟨u0, u1, u2, u3, u4, u5, u6, u7, u8, u9, u10, u11, u12, u13, u14, rfl⟩ := list15 hlen
                            have HK : Hid (∀ v W' tag', RX (PhiX w #[.slice aa a.al.length ca, .int .i64 n, .slice am a.ms.length cm, .slice ae a.es.length ce, .slice (some ⟨bf, offf, none⟩) (n + 1) cf] n w3.heap.size b9 w6.heap.size w8.heap.size (w8.heap.size + 1 + 1) (.slice a3 a.al.length c3) (.slice (some ⟨b10, o10, none⟩) n c10) (.slice (some ⟨W2.heap.size, 0, none⟩) n n) (.slice (some ⟨b11, o11, none⟩) n c11) a.al inF mkF ds bi i vm1 (.slice a16 (S1.q.length + 1) c16) S2 ms' Bx xf xe (t2 : Int) V (.slice (some ⟨bf, offf, none⟩) (n + 1) cf) (n + 1) (ints (firsts n a.es))) (PR26 w3.heap.size Bx W2.heap.size t2 n i xe (t2 : Int) nv (.slice ave E26.length cve)) w.heap.size E26 ⟨i, xe, nv - 1⟩ (.slice ave E26.length cve) (l.setIfInBounds 8 true) ([u0, u1, u2, u3, u4, u5, u6, u7, u8, u9, u10, u11, u12, u13, u14].set 8 v) tag' W' → ∀ a', puts _ _ [u0, u1, u2, u3, u4, u5, u6, u7, v, u9, u10, u11, u12, u13, u14] = a' → K' a' W') := fun v W' tag' h a' e => hK _ a' W' e ⟨tag', h⟩
                            have d5 : l.getD 5 false = true := by
                              simp [Region.binds] at hd
                              simp [hd]
                            have d7 : l.getD 7 false = true := by
                              simp [Region.binds] at hd
                              simp [hd]
                            obtain rfl : u5 = _ := hI.pure 5 (by decide) d5
                            obtain rfl : u7 = _ := hI.pure 7 (by decide) d7
                            have HS := Lib.hid (hI.pureStep (v := .pointer (some ⟨W2.heap.size, t2, none⟩)) hl (by decide) rfl)
                            clear hK hl hI hlen hd hn d5 d7
                            refine StepGIn.mk ?_
                            simp only [puts, Act.put]
                            go_simp
                            exact HK.out _ _ _ HS.out _ (by simp [puts, Act.put])
                          refine StepsIn.cons rfl ?_ ?_
                          · intro l us W4 hl hI hd hn K' hK
                            obtain ⟨tg4, hI⟩ := hI
                            have hlen := hI.len
                            obtain ⟨u0, u1, u2, u3, u4, u5, u6, u7, u8, u9, u10, u11, u12, u13, u14, rfl⟩ := list15 hlen
                            have HK : Hid (∀ v W' tag', RX (PhiX w #[.slice aa a.al.length ca, .int .i64 n, .slice am a.ms.length cm, .slice ae a.es.length ce, .slice (some ⟨bf, offf, none⟩) (n + 1) cf] n w3.heap.size b9 w6.heap.size w8.heap.size (w8.heap.size + 1 + 1) (.slice a3 a.al.length c3) (.slice (some ⟨b10, o10, none⟩) n c10) (.slice (some ⟨W2.heap.size, 0, none⟩) n n) (.slice (some ⟨b11, o11, none⟩) n c11) a.al inF mkF ds bi i vm1 (.slice a16 (S1.q.length + 1) c16) S2 ms' Bx xf xe (t2 : Int) V (.slice (some ⟨bf, offf, none⟩) (n + 1) cf) (n + 1) (ints (firsts n a.es))) (PR26 w3.heap.size Bx W2.heap.size t2 n i xe (t2 : Int) nv (.slice ave E26.length cve)) w.heap.size E26 ⟨i, xe, nv - 1⟩ (.slice ave E26.length cve) (l.setIfInBounds 9 true) ([u0, u1, u2, u3, u4, u5, u6, u7, u8, u9, u10, u11, u12, u13, u14].set 9 v) tag' W' → ∀ a', puts _ _ [u0, u1, u2, u3, u4, u5, u6, u7, u8, v, u10, u11, u12, u13, u14] = a' → K' a' W') := fun v W' tag' h a' e => hK _ a' W' e ⟨tag', h⟩
                            have d8 : l.getD 8 false = true := by
                              simp [Region.binds] at hd
                              simp [hd]
                            obtain rfl : u8 = _ := hI.pure 8 (by decide) d8
                            have HS := Lib.hid (hI.pureStep (v := .int .i64 nv) hl (by decide) rfl)
                            have y0 : W4.cell? ⟨W2.heap.size, t2, none⟩ = some (.int .i64 nv) := by
                              have h := hI.phi.1.nr.cellAt t2 (by omega)
                              rw [Nat.zero_add] at h
                              rw [h, ← HNV.out, List.getElem?_map, List.getElem?_eq_getElem (by omega), List.getD_eq_getElem?_getD, List.getElem?_eq_getElem (by omega)]; rfl
                            clear hK hl hI hlen hd hn d8
                            refine StepGIn.mk ?_
                            simp only [puts, Act.put]
                            go_simp
                            exact HK.out _ _ _ HS.out _ (by simp [puts, Act.put])
                          refine StepsIn.cons rfl ?_ ?_
                          · intro l us W4 hl hI hd hn K' hK
                            obtain ⟨tg4, hI⟩ := hI
                            have hlen := hI.len
                            obtain ⟨u0, u1, u2, u3, u4, u5, u6, u7, u8, u9, u10, u11, u12, u13, u14, rfl⟩ := list15 hlen
                            have HK : Hid (∀ v W' tag', RX (PhiX w #[.slice aa a.al.length ca, .int .i64 n, .slice am a.ms.length cm, .slice ae a.es.length ce, .slice (some ⟨bf, offf, none⟩) (n + 1) cf] n w3.heap.size b9 w6.heap.size w8.heap.size (w8.heap.size + 1 + 1) (.slice a3 a.al.length c3) (.slice (some ⟨b10, o10, none⟩) n c10) (.slice (some ⟨W2.heap.size, 0, none⟩) n n) (.slice (some ⟨b11, o11, none⟩) n c11) a.al inF mkF ds bi i vm1 (.slice a16 (S1.q.length + 1) c16) S2 ms' Bx xf xe (t2 : Int) V (.slice (some ⟨bf, offf, none⟩) (n + 1) cf) (n + 1) (ints (firsts n a.es))) (PR26 w3.heap.size Bx W2.heap.size t2 n i xe (t2 : Int) nv (.slice ave E26.length cve)) w.heap.size E26 ⟨i, xe, nv - 1⟩ (.slice ave E26.length cve) (l.setIfInBounds 10 true) ([u0, u1, u2, u3, u4, u5, u6, u7, u8, u9, u10, u11, u12, u13, u14].set 10 v) tag' W' → ∀ a', puts _ _ [u0, u1, u2, u3, u4, u5, u6, u7, u8, u9, v, u11, u12, u13, u14] = a' → K' a' W') := fun v W' tag' h a' e => hK _ a' W' e ⟨tag', h⟩
                            have d9 : l.getD 9 false = true := by
                              simp [Region.binds] at hd
                              simp [hd]
                            obtain rfl : u9 = _ := hI.pure 9 (by decide) d9
                            have HS := Lib.hid (hI.pureStep (v := .int .i64 (nv - 1)) hl (by decide) rfl)
                            clear hK hl hI hlen hd hn d9
                            refine StepGIn.mk ?_
                            simp only [puts, Act.put]
                            go_simp
                            exact HK.out _ _ _ HS.out _ (by simp [puts, Act.put]; exact (IntWalk.i64_in _ (by omega)).symm)
                          refine StepsIn.cons rfl ?_ ?_
                          · intro l us W4 hl hI hd hn K' hK
                            obtain ⟨tg4, hI⟩ := hI
                            have hlen := hI.len
                            obtain ⟨u0, u1, u2, u3, u4, u5, u6, u7, u8, u9, u10, u11, u12, u13, u14, rfl⟩ := list15 hlen
                            have HK : Hid (∀ v W' tag', RX (PhiX w #[.slice aa a.al.length ca, .int .i64 n, .slice am a.ms.length cm, .slice ae a.es.length ce, .slice (some ⟨bf, offf, none⟩) (n + 1) cf] n w3.heap.size b9 w6.heap.size w8.heap.size (w8.heap.size + 1 + 1) (.slice a3 a.al.length c3) (.slice (some ⟨b10, o10, none⟩) n c10) (.slice (some ⟨W2.heap.size, 0, none⟩) n n) (.slice (some ⟨b11, o11, none⟩) n c11) a.al inF mkF ds bi i vm1 (.slice a16 (S1.q.length + 1) c16) S2 ms' Bx xf xe (t2 : Int) V (.slice (some ⟨bf, offf, none⟩) (n + 1) cf) (n + 1) (ints (firsts n a.es))) (PR26 w3.heap.size Bx W2.heap.size t2 n i xe (t2 : Int) nv (.slice ave E26.length cve)) w.heap.size E26 ⟨i, xe, nv - 1⟩ (.slice ave E26.length cve) (l.setIfInBounds 11 true) ([u0, u1, u2, u3, u4, u5, u6, u7, u8, u9, u10, u11, u12, u13, u14].set 11 v) tag' W' → ∀ a', puts _ _ [u0, u1, u2, u3, u4, u5, u6, u7, u8, u9, u10, v, u12, u13, u14] = a' → K' a' W') := fun v W' tag' h a' e => hK _ a' W' e ⟨tag', h⟩
                            have d2 : l.getD 2 false = true := by
                              simp [Region.binds] at hd
                              simp [hd]
                            have d4 : l.getD 4 false = true := by
                              simp [Region.binds] at hd
                              simp [hd]
                            have d10 : l.getD 10 false = true := by
                              simp [Region.binds] at hd
                              simp [hd]
                            obtain rfl : u2 = _ := hI.pure 2 (by decide) d2
                            obtain rfl : u4 = _ := hI.pure 4 (by decide) d4
                            obtain rfl : u10 = _ := hI.pure 10 (by decide) d10
                            have HS := Lib.hid (hI.pureStep (v := .agg #[.int .i64 (i : Int), .int .i64 xe, .int .i64 (nv - 1)]) hl (by decide) rfl)
                            clear hK hl hI hlen hd hn d2 d4 d10
                            refine StepGIn.mk ?_
                            simp only [puts, Act.put]
                            go_simp
                            exact HK.out _ _ _ HS.out _ (by simp [puts, Act.put])
                          refine StepsIn.cons rfl ?_ ?_
                          · intro l us W4 hl hI hd hn K' hK
                            obtain ⟨tg4, hI⟩ := hI
                            have hlen := hI.len
                            obtain ⟨u0, u1, u2, u3, u4, u5, u6, u7, u8, u9, u10, u11, u12, u13, u14, rfl⟩ := list15 hlen
                            have HK : Hid (∀ v W' tag', RX (PhiX w #[.slice aa a.al.length ca, .int .i64 n, .slice am a.ms.length cm, .slice ae a.es.length ce, .slice (some ⟨bf, offf, none⟩) (n + 1) cf] n w3.heap.size b9 w6.heap.size w8.heap.size (w8.heap.size + 1 + 1) (.slice a3 a.al.length c3) (.slice (some ⟨b10, o10, none⟩) n c10) (.slice (some ⟨W2.heap.size, 0, none⟩) n n) (.slice (some ⟨b11, o11, none⟩) n c11) a.al inF mkF ds bi i vm1 (.slice a16 (S1.q.length + 1) c16) S2 ms' Bx xf xe (t2 : Int) V (.slice (some ⟨bf, offf, none⟩) (n + 1) cf) (n + 1) (ints (firsts n a.es))) (PR26 w3.heap.size Bx W2.heap.size t2 n i xe (t2 : Int) nv (.slice ave E26.length cve)) w.heap.size E26 ⟨i, xe, nv - 1⟩ (.slice ave E26.length cve) (l.setIfInBounds 12 true) ([u0, u1, u2, u3, u4, u5, u6, u7, u8, u9, u10, u11, u12, u13, u14].set 12 v) tag' W' → ∀ a', puts _ _ [u0, u1, u2, u3, u4, u5, u6, u7, u8, u9, u10, u11, v, u13, u14] = a' → K' a' W') := fun v W' tag' h a' e => hK _ a' W' e ⟨tag', h⟩
                            have d11 : l.getD 11 false = true := by
                              simp [Region.binds] at hd
                              simp [hd]
                            obtain rfl : u11 = _ := hI.pure 11 (by decide) d11
                            have HS := Lib.hid (hI.op12 hl (fun c h => ⟨h.1.up _ 11, h.2.1.upR _ 11, h.2.2.1.alloc h.1.below.size _, fun m => (h.2.2.2.1 m).trans (keepsBelow (bel_alloc _ _)), h.2.2.2.2.up _ 11⟩) hn (fun _ => trivial))
                            clear hK hl hI hlen hd hn d11
                            refine StepGIn.mk ?_
                            simp only [puts, Act.put]
                            go_simp
                            exact HK.out _ _ _ HS.out _ (by simp [puts, Act.put])
                          refine StepsIn.cons rfl ?_ ?_
                          · intro l us W4 hl hI hd hn K' hK
                            obtain ⟨tg4, hI⟩ := hI
                            have hlen := hI.len
                            obtain ⟨u0, u1, u2, u3, u4, u5, u6, u7, u8, u9, u10, u11, u12, u13, u14, rfl⟩ := list15 hlen
                            have HK : Hid (∀ v W' tag', RX (PhiX w #[.slice aa a.al.length ca, .int .i64 n, .slice am a.ms.length cm, .slice ae a.es.length ce, .slice (some ⟨bf, offf, none⟩) (n + 1) cf] n w3.heap.size b9 w6.heap.size w8.heap.size (w8.heap.size + 1 + 1) (.slice a3 a.al.length c3) (.slice (some ⟨b10, o10, none⟩) n c10) (.slice (some ⟨W2.heap.size, 0, none⟩) n n) (.slice (some ⟨b11, o11, none⟩) n c11) a.al inF mkF ds bi i vm1 (.slice a16 (S1.q.length + 1) c16) S2 ms' Bx xf xe (t2 : Int) V (.slice (some ⟨bf, offf, none⟩) (n + 1) cf) (n + 1) (ints (firsts n a.es))) (PR26 w3.heap.size Bx W2.heap.size t2 n i xe (t2 : Int) nv (.slice ave E26.length cve)) w.heap.size E26 ⟨i, xe, nv - 1⟩ (.slice ave E26.length cve) (l.setIfInBounds 13 true) ([u0, u1, u2, u3, u4, u5, u6, u7, u8, u9, u10, u11, u12, u13, u14].set 13 v) tag' W' → ∀ a', puts _ _ [u0, u1, u2, u3, u4, u5, u6, u7, u8, u9, u10, u11, u12, v, u14] = a' → K' a' W') := fun v W' tag' h a' e => hK _ a' W' e ⟨tag', h⟩
                            have d1 : l.getD 1 false = true := by
                              simp [Region.binds] at hd
                              simp [hd]
                            have d12 : l.getD 12 false = true := by
                              simp [Region.binds] at hd
                              simp [hd]
                            obtain rfl : u1 = _ := hI.pure 1 (by decide) d1
                            have hs1 := hI.s1 hn
                            obtain ⟨a9, c9, e9, hrd⟩ := (hI.s12 d12 hn).rd
                            obtain rfl : u12 = _ := e9
                            refine StepGIn.append_row rfl _ _ 29 rfl 45 j1 (.agg #[.int .i64 0, .int .i64 0, .int .i64 0]) 24 Try.underlying29 hj1 hj2 hj3 hj4 rfl (by simp [puts, Act.put, Act.eval]) hs1 a9 1 c9 (Ed.cells ⟨i, xe, nv - 1⟩) (by simp [puts, Act.put, Act.eval]) (by simp [Ed.cells]) hrd.src.1 hrd.src.2 (by simp [Ed.cells, Value.oneCell']) (by unfold maxLen; omega) (by omega) hI.size ?_
                            intro v9 W9 tag9 hr9 ht9
                            exact HK.out _ _ _ (hI.op13 hl (fun c h => ⟨h.1.turn ht9 (by decide), h.2.1.turn ht9 (by decide), belTurn h.2.2.1 ht9 h.1.below.size, fun m => (h.2.2.2.1 m).trans (keepsTurn ht9), h.2.2.2.2.turn ht9 (by decide)⟩) hn d12 d1 (fun _ => trivial) ht9 hr9) _ (by simp [puts, Act.put])
                          refine StepsIn.cons rfl ?_ ?_
                          · intro l us W4 hl hI hd hn K' hK
                            obtain ⟨tg4, hI⟩ := hI
                            have hlen := hI.len
                            obtain ⟨u0, u1, u2, u3, u4, u5, u6, u7, u8, u9, u10, u11, u12, u13, u14, rfl⟩ := list15 hlen
                            have HK : Hid (∀ v W' tag', RX (PhiX w #[.slice aa a.al.length ca, .int .i64 n, .slice am a.ms.length cm, .slice ae a.es.length ce, .slice (some ⟨bf, offf, none⟩) (n + 1) cf] n w3.heap.size b9 w6.heap.size w8.heap.size (w8.heap.size + 1 + 1) (.slice a3 a.al.length c3) (.slice (some ⟨b10, o10, none⟩) n c10) (.slice (some ⟨W2.heap.size, 0, none⟩) n n) (.slice (some ⟨b11, o11, none⟩) n c11) a.al inF mkF ds bi i vm1 (.slice a16 (S1.q.length + 1) c16) S2 ms' Bx xf xe (t2 : Int) V (.slice (some ⟨bf, offf, none⟩) (n + 1) cf) (n + 1) (ints (firsts n a.es))) (PR26 w3.heap.size Bx W2.heap.size t2 n i xe (t2 : Int) nv (.slice ave E26.length cve)) w.heap.size E26 ⟨i, xe, nv - 1⟩ (.slice ave E26.length cve) (l.setIfInBounds 14 true) ([u0, u1, u2, u3, u4, u5, u6, u7, u8, u9, u10, u11, u12, u13, u14].set 14 v) tag' W' → ∀ a', puts _ _ [u0, u1, u2, u3, u4, u5, u6, u7, u8, u9, u10, u11, u12, u13, v] = a' → K' a' W') := fun v W' tag' h a' e => hK _ a' W' e ⟨tag', h⟩
                            have HS := Lib.hid (hI.pureStep (v := .pointer (some ⟨w3.heap.size, 3, none⟩)) hl (by decide) rfl)
                            clear hK hl hI hlen hd hn
                            refine StepGIn.mk ?_
                            simp only [puts, Act.put]
                            go_simp
                            exact HK.out _ _ _ HS.out _ (by simp [puts, Act.put])
                          refine StepsIn.cons rfl ?_ ?_
                          · intro l us W4 hl hI hd hn K' hK
                            obtain ⟨tg4, hI⟩ := hI
                            have hlen := hI.len
                            obtain ⟨u0, u1, u2, u3, u4, u5, u6, u7, u8, u9, u10, u11, u12, u13, u14, rfl⟩ := list15 hlen
                            have HK : Hid (∀ W' tag', RX (PhiX w #[.slice aa a.al.length ca, .int .i64 n, .slice am a.ms.length cm, .slice ae a.es.length ce, .slice (some ⟨bf, offf, none⟩) (n + 1) cf] n w3.heap.size b9 w6.heap.size w8.heap.size (w8.heap.size + 1 + 1) (.slice a3 a.al.length c3) (.slice (some ⟨b10, o10, none⟩) n c10) (.slice (some ⟨W2.heap.size, 0, none⟩) n n) (.slice (some ⟨b11, o11, none⟩) n c11) a.al inF mkF ds bi i vm1 (.slice a16 (S1.q.length + 1) c16) S2 ms' Bx xf xe (t2 : Int) V (.slice (some ⟨bf, offf, none⟩) (n + 1) cf) (n + 1) (ints (firsts n a.es))) (PR26 w3.heap.size Bx W2.heap.size t2 n i xe (t2 : Int) nv (.slice ave E26.length cve)) w.heap.size E26 ⟨i, xe, nv - 1⟩ (.slice ave E26.length cve) (l.setIfInBounds 15 true) [u0, u1, u2, u3, u4, u5, u6, u7, u8, u9, u10, u11, u12, u13, u14] tag' W' → ∀ a', puts _ _ [u0, u1, u2, u3, u4, u5, u6, u7, u8, u9, u10, u11, u12, u13, u14] = a' → K' a' W') := fun W' tag' h a' e => hK _ a' W' e ⟨tag', h⟩
                            have d14 : l.getD 14 false = true := by
                              simp [Region.binds] at hd
                              simp [hd]
                            have d13 : l.getD 13 false = true := by
                              simp [Region.binds] at hd
                              simp [hd]
                            obtain rfl : u14 = _ := hI.pure 14 (by decide) d14
                            obtain ⟨a13, c13, e13⟩ := (hI.s13 d13).val
                            obtain rfl : u13 = _ := e13
                            have hp := hI.phi
                            rw [hn] at hp
                            have y0 : W4.cell? ⟨w3.heap.size, 3, none⟩ = some (.slice ave E26.length cve) := hp.1.ob.cell 3
                            have y1 := hp.1.ob.frozen 3
                            have HS := Lib.hid (hI.op15 (b8 := w3.heap.size) hl (fun c c' h => ⟨⟨(h.1.putE c' S2 rfl rfl).1, h.2.1.turn (h.1.putE c' S2 rfl rfl).2 (by decide), belTurn h.2.2.1 (h.1.putE c' S2 rfl rfl).2 h.1.below.size, fun m => (h.2.2.2.1 m).trans (keepsTurn (h.1.putE c' S2 rfl rfl).2), h.2.2.2.2.turn (h.1.putE c' S2 rfl rfl).2 (by decide)⟩, (h.1.putE c' S2 rfl rfl).2⟩) hn d13)
                            clear hp
                            clear hK hl hI hlen hd hn d14 d13
                            refine StepGIn.mk ?_
                            simp only [puts, Act.put]
                            go_simp
                            exact HK.out _ _ HS.out _ (by simp [puts, Act.put])
                          exact StepsIn.nil (Nat.le_refl _)
                        · intro l us W4 hI hall
                          obtain ⟨tg4, hI⟩ := hI
                          have hlen := hI.len
                          obtain ⟨u0, u1, u2, u3, u4, u5, u6, u7, u8, u9, u10, u11, u12, u13, u14, rfl⟩ := list15 hlen
                          have h13 := hI.s13 (hall 13 (by decide))
                          have hp := hI.phi
                          rw [hall 15 (by decide)] at hp
                          obtain ⟨p1, _, p3, p4, p5⟩ := hp
                          have P1 := Lib.hid p1
                          have P3 := Lib.hid p3
                          have P4 := Lib.hid p4
                          have P5 := Lib.hid p5
                          have HE9 : Hid (Row W4 w.heap.size tg4 8 45 3 u13 (E26 ++ [(⟨i, xe, nv - 1⟩ : Ed)]).length (edCells (E26 ++ [(⟨i, xe, nv - 1⟩ : Ed)]))) := by
                            show Row _ _ _ _ _ _ _ _ _
                            rw [List.length_append]
                            exact h13
                          clear hlen hall hI h13 p1 p3 p4 p5
                          simp only [puts, Act.put, List.setIfInBounds_toArray, List.set_cons_succ, List.set_cons_zero]
                          have KK : Hid (∀ m, KeepsFrom m W W4) := fun m => (HK17.out m).trans (P4.out m)
                          have BB : Hid (Below w.heap.size W W4) := HB17.out.trans P3.out
                          clear P3 P4 HK17 HB17
                          gi_wp2_with fail
                          refine ⟨KK.out _, BB.out, Hmem.out, tg4, vm1, u13, ⟨.slice a16 (S1.q.length + 1) c16, ?_⟩, ?_⟩
                          · rw [Hacc.out, Hst.out]
                            exact P1.out.withE _
                          · rw [Hacc.out, Hst.out]
                            exact ⟨HE9.out, P5.out⟩
                      · have Hz := Lib.hid hz
                        have hzb : (S1.num.getD t2 0 == 0) = false := by rw [beq_eq_false_iff_ne]; exact hz
                        have hst : rsStep inF i S1 ⟨xf, xe, (t2 : Int)⟩ = ⟨S1.num, S1.q, S1.E ++ [⟨i, xe, S1.num.getD t2 0 - 1⟩]⟩ := rsStep_old (i := i) HinT.out (by show S1.num.getD (t2 : Int).toNat 0 ≠ 0; rw [Int.toNat_natCast]; exact hz)
                        have Hst := Lib.hid hst
                        clear hst hz
                        generalize hnv : S1.num.getD t2 0 = nv at *
                        have HNV := Lib.hid hnv
                        clear hnv
                        gi_wp2_with fail
                        obtain ⟨ave, cve, rfl⟩ := HE3.out.val
                        have HX26 : Hid (PhiX w #[.slice aa a.al.length ca, .int .i64 n, .slice am a.ms.length cm, .slice ae a.es.length ce, .slice (some ⟨bf, offf, none⟩) (n + 1) cf] n w3.heap.size b9 w6.heap.size w8.heap.size (w8.heap.size + 1 + 1) (.slice a3 a.al.length c3) (.slice (some ⟨b10, o10, none⟩) n c10) (.slice (some ⟨W2.heap.size, 0, none⟩) n n) (.slice (some ⟨b11, o11, none⟩) n c11) a.al inF mkF ds bi i vm1 vq1 S1 ms' Bx xf xe (t2 : Int) W (.slice (some ⟨bf, offf, none⟩) (n + 1) cf) (n + 1) (ints (firsts n a.es)) (.slice ave S1.E.length cve) (tagUp tag1 Bx 10) W) := ⟨HJ.out, hOx, Below.refl _ _, fun m => KeepsFrom.refl _ _, HG3.out⟩
                        have HE26 := HE3
                        have hEl := Hokp.out.el
                        have hnvb : 0 ≤ nv ∧ nv ≤ (n : Int) := by
                          have h := Hokp.out.bd (S1.num[t2]'(by omega)) (List.getElem_mem _)
                          have e : S1.num[t2]'(by omega) = nv := by rw [← HNV.out, List.getD_eq_getElem?_getD, List.getElem?_eq_getElem (by omega)]; rfl
                          rwa [e] at h
                        obtain ⟨j1, hj1, hj2, hj3, hj4⟩ := info_parts Try.info_edge
                        generalize hE26 : S1.E = E26 at *
                        refine wpIn_region_inv (fun l us WW => ∃ tag, RX (PhiX w #[.slice aa a.al.length ca, .int .i64 n, .slice am a.ms.length cm, .slice ae a.es.length ce, .slice (some ⟨bf, offf, none⟩) (n + 1) cf] n w3.heap.size b9 w6.heap.size w8.heap.size (w8.heap.size + 1 + 1) (.slice a3 a.al.length c3) (.slice (some ⟨b10, o10, none⟩) n c10) (.slice (some ⟨W2.heap.size, 0, none⟩) n n) (.slice (some ⟨b11, o11, none⟩) n c11) a.al inF mkF ds bi i vm1 vq1 S1 ms' Bx xf xe (t2 : Int) W (.slice (some ⟨bf, offf, none⟩) (n + 1) cf) (n + 1) (ints (firsts n a.es))) (PR26 w3.heap.size Bx W2.heap.size t2 n i xe (t2 : Int) nv (.slice ave E26.length cve)) w.heap.size E26 ⟨i, xe, nv - 1⟩ (.slice ave E26.length cve) l us tag WW) [107, 108, 109, 110, 111, 112, 113, 114, 115, 116, 117, 118, 119, 120, 121] (by kernel_rfl) (by kernel_rfl) ⟨_, RX.start rfl HX26.out.1.below.size ⟨HX26.out.1.call (bel_drew _), HX26.out.2.1.below (bel_drew _), HX26.out.2.2.1.drew, fun m => (HX26.out.2.2.2.1 m).trans (keepsBelow (bel_drew _)), HX26.out.2.2.2.2.below (bel_drew _)⟩ (HE26.out.below (bel_drew _))⟩ ?_ ?_
                        · skip
                          refine StepsIn.cons rfl ?_ ?_
                          · intro l us W4 hl hI hd hn K' hK
                            obtain ⟨tg4, hI⟩ := hI
                            have hlen := hI.len
                            obtain ⟨u0, u1, u2, u3, u4, u5, u6, u7, u8, u9, u10, u11, u12, u13, u14, rfl⟩ := list15 hlen
                            have HK : Hid (∀ v W' tag', RX (PhiX w #[.slice aa a.al.length ca, .int .i64 n, .slice am a.ms.length cm, .slice ae a.es.length ce, .slice (some ⟨bf, offf, none⟩) (n + 1) cf] n w3.heap.size b9 w6.heap.size w8.heap.size (w8.heap.size + 1 + 1) (.slice a3 a.al.length c3) (.slice (some ⟨b10, o10, none⟩) n c10) (.slice (some ⟨W2.heap.size, 0, none⟩) n n) (.slice (some ⟨b11, o11, none⟩) n c11) a.al inF mkF ds bi i vm1 vq1 S1 ms' Bx xf xe (t2 : Int) W (.slice (some ⟨bf, offf, none⟩) (n + 1) cf) (n + 1) (ints (firsts n a.es))) (PR26 w3.heap.size Bx W2.heap.size t2 n i xe (t2 : Int) nv (.slice ave E26.length cve)) w.heap.size E26 ⟨i, xe, nv - 1⟩ (.slice ave E26.length cve) (l.setIfInBounds 0 true) ([u0, u1, u2, u3, u4, u5, u6, u7, u8, u9, u10, u11, u12, u13, u14].set 0 v) tag' W' → ∀ a', puts _ _ [v, u1, u2, u3, u4, u5, u6, u7, u8, u9, u10, u11, u12, u13, u14] = a' → K' a' W') := fun v W' tag' h a' e => hK _ a' W' e ⟨tag', h⟩
                            have HS := Lib.hid (hI.pureStep (v := .pointer (some ⟨w3.heap.size, 3, none⟩)) hl (by decide) rfl)
                            clear hK hl hI hlen hd hn
                            refine StepGIn.mk ?_
                            simp only [puts, Act.put]
                            go_simp
                            exact HK.out _ _ _ HS.out _ (by simp [puts, Act.put])
                          refine StepsIn.cons rfl ?_ ?_
                          · intro l us W4 hl hI hd hn K' hK
                            obtain ⟨tg4, hI⟩ := hI
                            have hlen := hI.len
                            obtain ⟨u0, u1, u2, u3, u4, u5, u6, u7, u8, u9, u10, u11, u12, u13, u14, rfl⟩ := list15 hlen
                            have HK : Hid (∀ v W' tag', RX (PhiX w #[.slice aa a.al.length ca, .int .i64 n, .slice am a.ms.length cm, .slice ae a.es.length ce, .slice (some ⟨bf, offf, none⟩) (n + 1) cf] n w3.heap.size b9 w6.heap.size w8.heap.size (w8.heap.size + 1 + 1) (.slice a3 a.al.length c3) (.slice (some ⟨b10, o10, none⟩) n c10) (.slice (some ⟨W2.heap.size, 0, none⟩) n n) (.slice (some ⟨b11, o11, none⟩) n c11) a.al inF mkF ds bi i vm1 vq1 S1 ms' Bx xf xe (t2 : Int) W (.slice (some ⟨bf, offf, none⟩) (n + 1) cf) (n + 1) (ints (firsts n a.es))) (PR26 w3.heap.size Bx W2.heap.size t2 n i xe (t2 : Int) nv (.slice ave E26.length cve)) w.heap.size E26 ⟨i, xe, nv - 1⟩ (.slice ave E26.length cve) (l.setIfInBounds 1 true) ([u0, u1, u2, u3, u4, u5, u6, u7, u8, u9, u10, u11, u12, u13, u14].set 1 v) tag' W' → ∀ a', puts _ _ [u0, v, u2, u3, u4, u5, u6, u7, u8, u9, u10, u11, u12, u13, u14] = a' → K' a' W') := fun v W' tag' h a' e => hK _ a' W' e ⟨tag', h⟩
                            have d0 : l.getD 0 false = true := by
                              simp [Region.binds] at hd
                              simp [hd]
                            obtain rfl : u0 = _ := hI.pure 0 (by decide) d0
                            have HS := Lib.hid (hI.pureStep (v := .slice ave E26.length cve) hl (by decide) rfl)
                            have h15 : l.getD 15 false = false := by
                              cases h : l.getD 15 false with
                              | false => rfl
                              | true => rw [(hI.o13 (hI.o15 h)).2] at hn; cases hn
                            have hp := hI.phi
                            rw [h15] at hp
                            have y0 : W4.cell? ⟨w3.heap.size, 3, none⟩ = some (.slice ave E26.length cve) := hp.1.ob.cell 3
                            clear h15 hp
                            clear hK hl hI hlen hd hn d0
                            refine StepGIn.mk ?_
                            simp only [puts, Act.put]
                            go_simp
                            exact HK.out _ _ _ HS.out _ (by simp [puts, Act.put])
                          refine StepsIn.cons rfl ?_ ?_
                          · intro l us W4 hl hI hd hn K' hK
                            obtain ⟨tg4, hI⟩ := hI
                            have hlen := hI.len
                            obtain ⟨u0, u1, u2, u3, u4, u5, u6, u7, u8, u9, u10, u11, u12, u13, u14, rfl⟩ := list15 hlen
                            have HK : Hid (∀ v W' tag', RX (PhiX w #[.slice aa a.al.length ca, .int .i64 n, .slice am a.ms.length cm, .slice ae a.es.length ce, .slice (some ⟨bf, offf, none⟩) (n + 1) cf] n w3.heap.size b9 w6.heap.size w8.heap.size (w8.heap.size + 1 + 1) (.slice a3 a.al.length c3) (.slice (some ⟨b10, o10, none⟩) n c10) (.slice (some ⟨W2.heap.size, 0, none⟩) n n) (.slice (some ⟨b11, o11, none⟩) n c11) a.al inF mkF ds bi i vm1 vq1 S1 ms' Bx xf xe (t2 : Int) W (.slice (some ⟨bf, offf, none⟩) (n + 1) cf) (n + 1) (ints (firsts n a.es))) (PR26 w3.heap.size Bx W2.heap.size t2 n i xe (t2 : Int) nv (.slice ave E26.length cve)) w.heap.size E26 ⟨i, xe, nv - 1⟩ (.slice ave E26.length cve) (l.setIfInBounds 2 true) ([u0, u1, u2, u3, u4, u5, u6, u7, u8, u9, u10, u11, u12, u13, u14].set 2 v) tag' W' → ∀ a', puts _ _ [u0, u1, v, u3, u4, u5, u6, u7, u8, u9, u10, u11, u12, u13, u14] = a' → K' a' W') := fun v W' tag' h a' e => hK _ a' W' e ⟨tag', h⟩
                            have HS := Lib.hid (hI.pureStep (v := .int .i64 (i : Int)) hl (by decide) rfl)
                            have y0 : W4.cell? ⟨bi, 0, none⟩ = some (.int .i64 (i : Int)) := hI.phi.1.io.cell 0
                            clear hK hl hI hlen hd hn
                            refine StepGIn.mk ?_
                            simp only [puts, Act.put]
                            go_simp
                            exact HK.out _ _ _ HS.out _ (by simp [puts, Act.put])
                          refine StepsIn.cons rfl ?_ ?_
                          · intro l us W4 hl hI hd hn K' hK
                            obtain ⟨tg4, hI⟩ := hI
                            have hlen := hI.len
                            obtain ⟨u0, u1, u2, u3, u4, u5, u6, u7, u8, u9, u10, u11, u12, u13, u14, rfl⟩ := list15 hlen
                            have HK : Hid (∀ v W' tag', RX (PhiX w #[.slice aa a.al.length ca, .int .i64 n, .slice am a.ms.length cm, .slice ae a.es.length ce, .slice (some ⟨bf, offf, none⟩) (n + 1) cf] n w3.heap.size b9 w6.heap.size w8.heap.size (w8.heap.size + 1 + 1) (.slice a3 a.al.length c3) (.slice (some ⟨b10, o10, none⟩) n c10) (.slice (some ⟨W2.heap.size, 0, none⟩) n n) (.slice (some ⟨b11, o11, none⟩) n c11) a.al inF mkF ds bi i vm1 vq1 S1 ms' Bx xf xe (t2 : Int) W (.slice (some ⟨bf, offf, none⟩) (n + 1) cf) (n + 1) (ints (firsts n a.es))) (PR26 w3.heap.size Bx W2.heap.size t2 n i xe (t2 : Int) nv (.slice ave E26.length cve)) w.heap.size E26 ⟨i, xe, nv - 1⟩ (.slice ave E26.length cve) (l.setIfInBounds 3 true) ([u0, u1, u2, u3, u4, u5, u6, u7, u8, u9, u10, u11, u12, u13, u14].set 3 v) tag' W' → ∀ a', puts _ _ [u0, u1, u2, v, u4, u5, u6, u7, u8, u9, u10, u11, u12, u13, u14] = a' → K' a' W') := fun v W' tag' h a' e => hK _ a' W' e ⟨tag', h⟩
                            have HS := Lib.hid (hI.pureStep (v := .pointer (some ⟨Bx, 1, none⟩)) hl (by decide) rfl)
                            clear hK hl hI hlen hd hn
                            refine StepGIn.mk ?_
                            simp only [puts, Act.put]
                            go_simp
                            exact HK.out _ _ _ HS.out _ (by simp [puts, Act.put])
                          refine StepsIn.cons rfl ?_ ?_
                          · intro l us W4 hl hI hd hn K' hK
                            obtain ⟨tg4, hI⟩ := hI
                            have hlen := hI.len
                            obtain ⟨u0, u1, u2, u3, u4, u5, u6, u7, u8, u9, u10, u11, u12, u13, u14, rfl⟩ := list15 hlen
                            have HK : Hid (∀ v W' tag', RX (PhiX w #[.slice aa a.al.length ca, .int .i64 n, .slice am a.ms.length cm, .slice ae a.es.length ce, .slice (some ⟨bf, offf, none⟩) (n + 1) cf] n w3.heap.size b9 w6.heap.size w8.heap.size (w8.heap.size + 1 + 1) (.slice a3 a.al.length c3) (.slice (some ⟨b10, o10, none⟩) n c10) (.slice (some ⟨W2.heap.size, 0, none⟩) n n) (.slice (some ⟨b11, o11, none⟩) n c11) a.al inF mkF ds bi i vm1 vq1 S1 ms' Bx xf xe (t2 : Int) W (.slice (some ⟨bf, offf, none⟩) (n + 1) cf) (n + 1) (ints (firsts n a.es))) (PR26 w3.heap.size Bx W2.heap.size t2 n i xe (t2 : Int) nv (.slice ave E26.length cve)) w.heap.size E26 ⟨i, xe, nv - 1⟩ (.slice ave E26.length cve) (l.setIfInBounds 4 true) ([u0, u1, u2, u3, u4, u5, u6, u7, u8, u9, u10, u11, u12, u13, u14].set 4 v) tag' W' → ∀ a', puts _ _ [u0, u1, u2, u3, v, u5, u6, u7, u8, u9, u10, u11, u12, u13, u14] = a' → K' a' W') := fun v W' tag' h a' e => hK _ a' W' e ⟨tag', h⟩
                            have d3 : l.getD 3 false = true := by
                              simp [Region.binds] at hd
                              simp [hd]
                            obtain rfl : u3 = _ := hI.pure 3 (by decide) d3
                            have HS := Lib.hid (hI.pureStep (v := .int .i64 xe) hl (by decide) rfl)
                            have y0 : W4.cell? ⟨Bx, 1, none⟩ = some (.int .i64 xe) := hI.phi.2.1.cell 1
                            clear hK hl hI hlen hd hn d3
                            refine StepGIn.mk ?_
                            simp only [puts, Act.put]
                            go_simp
                            exact HK.out _ _ _ HS.out _ (by simp [puts, Act.put])
                          refine StepsIn.cons rfl ?_ ?_
                          · intro l us W4 hl hI hd hn K' hK
                            obtain ⟨tg4, hI⟩ := hI
                            have hlen := hI.len
                            obtain ⟨u0, u1, u2, u3, u4, u5, u6, u7, u8, u9, u10, u11, u12, u13, u14, rfl⟩ := list15 hlen
                            have HK : Hid (∀ v W' tag', RX (PhiX w #[.slice aa a.al.length ca, .int .i64 n, .slice am a.ms.length cm, .slice ae a.es.length ce, .slice (some ⟨bf, offf, none⟩) (n + 1) cf] n w3.heap.size b9 w6.heap.size w8.heap.size (w8.heap.size + 1 + 1) (.slice a3 a.al.length c3) (.slice (some ⟨b10, o10, none⟩) n c10) (.slice (some ⟨W2.heap.size, 0, none⟩) n n) (.slice (some ⟨b11, o11, none⟩) n c11) a.al inF mkF ds bi i vm1 vq1 S1 ms' Bx xf xe (t2 : Int) W (.slice (some ⟨bf, offf, none⟩) (n + 1) cf) (n + 1) (ints (firsts n a.es))) (PR26 w3.heap.size Bx W2.heap.size t2 n i xe (t2 : Int) nv (.slice ave E26.length cve)) w.heap.size E26 ⟨i, xe, nv - 1⟩ (.slice ave E26.length cve) (l.setIfInBounds 5 true) ([u0, u1, u2, u3, u4, u5, u6, u7, u8, u9, u10, u11, u12, u13, u14].set 5 v) tag' W' → ∀ a', puts _ _ [u0, u1, u2, u3, u4, v, u6, u7, u8, u9, u10, u11, u12, u13, u14] = a' → K' a' W') := fun v W' tag' h a' e => hK _ a' W' e ⟨tag', h⟩
                            have HS := Lib.hid (hI.pureStep (v := .slice (some ⟨W2.heap.size, 0, none⟩) n n) hl (by decide) rfl)
                            have y0 : W4.cell? ⟨w6.heap.size, 0, none⟩ = some (.slice (some ⟨W2.heap.size, 0, none⟩) n n) := hI.phi.1.nb.cell 0
                            clear hK hl hI hlen hd hn
                            refine StepGIn.mk ?_
                            simp only [puts, Act.put]
                            go_simp
                            exact HK.out _ _ _ HS.out _ (by simp [puts, Act.put])
                          refine StepsIn.cons rfl ?_ ?_
                          · intro l us W4 hl hI hd hn K' hK
                            obtain ⟨tg4, hI⟩ := hI
                            have hlen := hI.len
                            obtain ⟨u0, u1, u2, u3, u4, u5, u6, u7, u8, u9, u10, u11, u12, u13, u14, rfl⟩ := list15 hlen
                            have HK : Hid (∀ v W' tag', RX (PhiX w #[.slice aa a.al.length ca, .int .i64 n, .slice am a.ms.length cm, .slice ae a.es.length ce, .slice (some ⟨bf, offf, none⟩) (n + 1) cf] n w3.heap.size b9 w6.heap.size w8.heap.size (w8.heap.size + 1 + 1) (.slice a3 a.al.length c3) (.slice (some ⟨b10, o10, none⟩) n c10) (.slice (some ⟨W2.heap.size, 0, none⟩) n n) (.slice (some ⟨b11, o11, none⟩) n c11) a.al inF mkF ds bi i vm1 vq1 S1 ms' Bx xf xe (t2 : Int) W (.slice (some ⟨bf, offf, none⟩) (n + 1) cf) (n + 1) (ints (firsts n a.es))) (PR26 w3.heap.size Bx W2.heap.size t2 n i xe (t2 : Int) nv (.slice ave E26.length cve)) w.heap.size E26 ⟨i, xe, nv - 1⟩ (.slice ave E26.length cve) (l.setIfInBounds 6 true) ([u0, u1, u2, u3, u4, u5, u6, u7, u8, u9, u10, u11, u12, u13, u14].set 6 v) tag' W' → ∀ a', puts _ _ [u0, u1, u2, u3, u4, u5, v, u7, u8, u9, u10, u11, u12, u13, u14] = a' → K' a' W') := fun v W' tag' h a' e => hK _ a' W' e ⟨tag', h⟩
                            have HS := Lib.hid (hI.pureStep (v := .pointer (some ⟨Bx, 2, none⟩)) hl (by decide) rfl)
                            clear hK hl hI hlen hd hn
                            refine StepGIn.mk ?_
                            simp only [puts, Act.put]
                            go_simp
                            exact HK.out _ _ _ HS.out _ (by simp [puts, Act.put])
                          refine StepsIn.cons rfl ?_ ?_
                          · intro l us W4 hl hI hd hn K' hK
                            obtain ⟨tg4, hI⟩ := hI
                            have hlen := hI.len
                            obtain ⟨u0, u1, u2, u3, u4, u5, u6, u7, u8, u9, u10, u11, u12, u13, u14, rfl⟩ := list15 hlen
                            have HK : Hid (∀ v W' tag', RX (PhiX w #[.slice aa a.al.length ca, .int .i64 n, .slice am a.ms.length cm, .slice ae a.es.length ce, .slice (some ⟨bf, offf, none⟩) (n + 1) cf] n w3.heap.size b9 w6.heap.size w8.heap.size (w8.heap.size + 1 + 1) (.slice a3 a.al.length c3) (.slice (some ⟨b10, o10, none⟩) n c10) (.slice (some ⟨W2.heap.size, 0, none⟩) n n) (.slice (some ⟨b11, o11, none⟩) n c11) a.al inF mkF ds bi i vm1 vq1 S1 ms' Bx xf xe (t2 : Int) W (.slice (some ⟨bf, offf, none⟩) (n + 1) cf) (n + 1) (ints (firsts n a.es))) (PR26 w3.heap.size Bx W2.heap.size t2 n i xe (t2 : Int) nv (.slice ave E26.length cve)) w.heap.size E26 ⟨i, xe, nv - 1⟩ (.slice ave E26.length cve) (l.setIfInBounds 7 true) ([u0, u1, u2, u3, u4, u5, u6, u7, u8, u9, u10, u11, u12, u13, u14].set 7 v) tag' W' → ∀ a', puts _ _ [u0, u1, u2, u3, u4, u5, u6, v, u8, u9, u10, u11, u12, u13, u14] = a' → K' a' W') := fun v W' tag' h a' e => hK _ a' W' e ⟨tag', h⟩
                            have d6 : l.getD 6 false = true := by
                              simp [Region.binds] at hd
                              simp [hd]
                            obtain rfl : u6 = _ := hI.pure 6 (by decide) d6
                            have HS := Lib.hid (hI.pureStep (v := .int .i64 (t2 : Int)) hl (by decide) rfl)
                            have y0 : W4.cell? ⟨Bx, 2, none⟩ = some (.int .i64 (t2 : Int)) := hI.phi.2.1.cell 2
                            clear hK hl hI hlen hd hn d6
                            refine StepGIn.mk ?_
                            simp only [puts, Act.put]
                            go_simp
                            exact HK.out _ _ _ HS.out _ (by simp [puts, Act.put])
                          refine StepsIn.cons rfl ?_ ?_
                          · intro l us W4 hl hI hd hn K' hK
                            obtain ⟨tg4, hI⟩ := hI
                            have hlen := hI.len
                            obtain ⟨u0, u1, u2, u3, u4, u5, u6, u7, u8, u9, u10, u11, u12, u13, u14, rfl⟩ := list15 hlen
                            have HK : Hid (∀ v W' tag', RX (PhiX w #[.slice aa a.al.length ca, .int .i64 n, .slice am a.ms.length cm, .slice ae a.es.length ce, .slice (some ⟨bf, offf, none⟩) (n + 1) cf] n w3.heap.size b9 w6.heap.size w8.heap.size (w8.heap.size + 1 + 1) (.slice a3 a.al.length c3) (.slice (some ⟨b10, o10, none⟩) n c10) (.slice (some ⟨W2.heap.size, 0, none⟩) n n) (.slice (some ⟨b11, o11, none⟩) n c11) a.al inF mkF ds bi i vm1 vq1 S1 ms' Bx xf xe (t2 : Int) W (.slice (some ⟨bf, offf, none⟩) (n + 1) cf) (n + 1) (ints (firsts n a.es))) (PR26 w3.heap.size Bx W2.heap.size t2 n i xe (t2 : Int) nv (.slice ave E26.length cve)) w.heap.size E26 ⟨i, xe, nv - 1⟩ (.slice ave E26.length cve) (l.setIfInBounds 8 true) ([u0, u1, u2, u3, u4, u5, u6, u7, u8, u9, u10, u11, u12, u13, u14].set 8 v) tag' W' → ∀ a', puts _ _ [u0, u1, u2, u3, u4, u5, u6, u7, v, u9, u10, u11, u12, u13, u14] = a' → K' a' W') := fun v W' tag' h a' e => hK _ a' W' e ⟨tag', h⟩
                            have d5 : l.getD 5 false = true := by
                              simp [Region.binds] at hd
                              simp [hd]
                            have d7 : l.getD 7 false = true := by
                              simp [Region.binds] at hd
                              simp [hd]
                            obtain rfl : u5 = _ := hI.pure 5 (by decide) d5
                            obtain rfl : u7 = _ := hI.pure 7 (by decide) d7
                            have HS := Lib.hid (hI.pureStep (v := .pointer (some ⟨W2.heap.size, t2, none⟩)) hl (by decide) rfl)
                            clear hK hl hI hlen hd hn d5 d7
                            refine StepGIn.mk ?_
                            simp only [puts, Act.put]
                            go_simp
                            exact HK.out _ _ _ HS.out _ (by simp [puts, Act.put])
                          refine StepsIn.cons rfl ?_ ?_
                          · intro l us W4 hl hI hd hn K' hK
                            obtain ⟨tg4, hI⟩ := hI
                            have hlen := hI.len
                            obtain ⟨u0, u1, u2, u3, u4, u5, u6, u7, u8, u9, u10, u11, u12, u13, u14, rfl⟩ := list15 hlen
                            have HK : Hid (∀ v W' tag', RX (PhiX w #[.slice aa a.al.length ca, .int .i64 n, .slice am a.ms.length cm, .slice ae a.es.length ce, .slice (some ⟨bf, offf, none⟩) (n + 1) cf] n w3.heap.size b9 w6.heap.size w8.heap.size (w8.heap.size + 1 + 1) (.slice a3 a.al.length c3) (.slice (some ⟨b10, o10, none⟩) n c10) (.slice (some ⟨W2.heap.size, 0, none⟩) n n) (.slice (some ⟨b11, o11, none⟩) n c11) a.al inF mkF ds bi i vm1 vq1 S1 ms' Bx xf xe (t2 : Int) W (.slice (some ⟨bf, offf, none⟩) (n + 1) cf) (n + 1) (ints (firsts n a.es))) (PR26 w3.heap.size Bx W2.heap.size t2 n i xe (t2 : Int) nv (.slice ave E26.length cve)) w.heap.size E26 ⟨i, xe, nv - 1⟩ (.slice ave E26.length cve) (l.setIfInBounds 9 true) ([u0, u1, u2, u3, u4, u5, u6, u7, u8, u9, u10, u11, u12, u13, u14].set 9 v) tag' W' → ∀ a', puts _ _ [u0, u1, u2, u3, u4, u5, u6, u7, u8, v, u10, u11, u12, u13, u14] = a' → K' a' W') := fun v W' tag' h a' e => hK _ a' W' e ⟨tag', h⟩
                            have d8 : l.getD 8 false = true := by
                              simp [Region.binds] at hd
                              simp [hd]
                            obtain rfl : u8 = _ := hI.pure 8 (by decide) d8
                            have HS := Lib.hid (hI.pureStep (v := .int .i64 nv) hl (by decide) rfl)
                            have y0 : W4.cell? ⟨W2.heap.size, t2, none⟩ = some (.int .i64 nv) := by
                              have h := hI.phi.1.nr.cellAt t2 (by omega)
                              rw [Nat.zero_add] at h
                              rw [h, ← HNV.out, List.getElem?_map, List.getElem?_eq_getElem (by omega), List.getD_eq_getElem?_getD, List.getElem?_eq_getElem (by omega)]; rfl
                            clear hK hl hI hlen hd hn d8
                            refine StepGIn.mk ?_
                            simp only [puts, Act.put]
                            go_simp
                            exact HK.out _ _ _ HS.out _ (by simp [puts, Act.put])
                          refine StepsIn.cons rfl ?_ ?_
                          · intro l us W4 hl hI hd hn K' hK
                            obtain ⟨tg4, hI⟩ := hI
                            have hlen := hI.len
                            obtain ⟨u0, u1, u2, u3, u4, u5, u6, u7, u8, u9, u10, u11, u12, u13, u14, rfl⟩ := list15 hlen
                            have HK : Hid (∀ v W' tag', RX (PhiX w #[.slice aa a.al.length ca, .int .i64 n, .slice am a.ms.length cm, .slice ae a.es.length ce, .slice (some ⟨bf, offf, none⟩) (n + 1) cf] n w3.heap.size b9 w6.heap.size w8.heap.size (w8.heap.size + 1 + 1) (.slice a3 a.al.length c3) (.slice (some ⟨b10, o10, none⟩) n c10) (.slice (some ⟨W2.heap.size, 0, none⟩) n n) (.slice (some ⟨b11, o11, none⟩) n c11) a.al inF mkF ds bi i vm1 vq1 S1 ms' Bx xf xe (t2 : Int) W (.slice (some ⟨bf, offf, none⟩) (n + 1) cf) (n + 1) (ints (firsts n a.es))) (PR26 w3.heap.size Bx W2.heap.size t2 n i xe (t2 : Int) nv (.slice ave E26.length cve)) w.heap.size E26 ⟨i, xe, nv - 1⟩ (.slice ave E26.length cve) (l.setIfInBounds 10 true) ([u0, u1, u2, u3, u4, u5, u6, u7, u8, u9, u10, u11, u12, u13, u14].set 10 v) tag' W' → ∀ a', puts _ _ [u0, u1, u2, u3, u4, u5, u6, u7, u8, u9, v, u11, u12, u13, u14] = a' → K' a' W') := fun v W' tag' h a' e => hK _ a' W' e ⟨tag', h⟩
                            have d9 : l.getD 9 false = true := by
                              simp [Region.binds] at hd
                              simp [hd]
                            obtain rfl : u9 = _ := hI.pure 9 (by decide) d9
                            have HS := Lib.hid (hI.pureStep (v := .int .i64 (nv - 1)) hl (by decide) rfl)
                            clear hK hl hI hlen hd hn d9
                            refine StepGIn.mk ?_
                            simp only [puts, Act.put]
                            go_simp
                            exact HK.out _ _ _ HS.out _ (by simp [puts, Act.put]; exact (IntWalk.i64_in _ (by omega)).symm)
                          refine StepsIn.cons rfl ?_ ?_
                          · intro l us W4 hl hI hd hn K' hK
                            obtain ⟨tg4, hI⟩ := hI
                            have hlen := hI.len
                            obtain ⟨u0, u1, u2, u3, u4, u5, u6, u7, u8, u9, u10, u11, u12, u13, u14, rfl⟩ := list15 hlen
                            have HK : Hid (∀ v W' tag', RX (PhiX w #[.slice aa a.al.length ca, .int .i64 n, .slice am a.ms.length cm, .slice ae a.es.length ce, .slice (some ⟨bf, offf, none⟩) (n + 1) cf] n w3.heap.size b9 w6.heap.size w8.heap.size (w8.heap.size + 1 + 1) (.slice a3 a.al.length c3) (.slice (some ⟨b10, o10, none⟩) n c10) (.slice (some ⟨W2.heap.size, 0, none⟩) n n) (.slice (some ⟨b11, o11, none⟩) n c11) a.al inF mkF ds bi i vm1 vq1 S1 ms' Bx xf xe (t2 : Int) W (.slice (some ⟨bf, offf, none⟩) (n + 1) cf) (n + 1) (ints (firsts n a.es))) (PR26 w3.heap.size Bx W2.heap.size t2 n i xe (t2 : Int) nv (.slice ave E26.length cve)) w.heap.size E26 ⟨i, xe, nv - 1⟩ (.slice ave E26.length cve) (l.setIfInBounds 11 true) ([u0, u1, u2, u3, u4, u5, u6, u7, u8, u9, u10, u11, u12, u13, u14].set 11 v) tag' W' → ∀ a', puts _ _ [u0, u1, u2, u3, u4, u5, u6, u7, u8, u9, u10, v, u12, u13, u14] = a' → K' a' W') := fun v W' tag' h a' e => hK _ a' W' e ⟨tag', h⟩
                            have d2 : l.getD 2 false = true := by
                              simp [Region.binds] at hd
                              simp [hd]
                            have d4 : l.getD 4 false = true := by
                              simp [Region.binds] at hd
                              simp [hd]
                            have d10 : l.getD 10 false = true := by
                              simp [Region.binds] at hd
                              simp [hd]
                            obtain rfl : u2 = _ := hI.pure 2 (by decide) d2
                            obtain rfl : u4 = _ := hI.pure 4 (by decide) d4
                            obtain rfl : u10 = _ := hI.pure 10 (by decide) d10
                            have HS := Lib.hid (hI.pureStep (v := .agg #[.int .i64 (i : Int), .int .i64 xe, .int .i64 (nv - 1)]) hl (by decide) rfl)
                            clear hK hl hI hlen hd hn d2 d4 d10
                            refine StepGIn.mk ?_
                            simp only [puts, Act.put]
                            go_simp
                            exact HK.out _ _ _ HS.out _ (by simp [puts, Act.put])
                          refine StepsIn.cons rfl ?_ ?_
                          · intro l us W4 hl hI hd hn K' hK
                            obtain ⟨tg4, hI⟩ := hI
                            have hlen := hI.len
                            obtain ⟨u0, u1, u2, u3, u4, u5, u6, u7, u8, u9, u10, u11, u12, u13, u14, rfl⟩ := list15 hlen
                            have HK : Hid (∀ v W' tag', RX (PhiX w #[.slice aa a.al.length ca, .int .i64 n, .slice am a.ms.length cm, .slice ae a.es.length ce, .slice (some ⟨bf, offf, none⟩) (n + 1) cf] n w3.heap.size b9 w6.heap.size w8.heap.size (w8.heap.size + 1 + 1) (.slice a3 a.al.length c3) (.slice (some ⟨b10, o10, none⟩) n c10) (.slice (some ⟨W2.heap.size, 0, none⟩) n n) (.slice (some ⟨b11, o11, none⟩) n c11) a.al inF mkF ds bi i vm1 vq1 S1 ms' Bx xf xe (t2 : Int) W (.slice (some ⟨bf, offf, none⟩) (n + 1) cf) (n + 1) (ints (firsts n a.es))) (PR26 w3.heap.size Bx W2.heap.size t2 n i xe (t2 : Int) nv (.slice ave E26.length cve)) w.heap.size E26 ⟨i, xe, nv - 1⟩ (.slice ave E26.length cve) (l.setIfInBounds 12 true) ([u0, u1, u2, u3, u4, u5, u6, u7, u8, u9, u10, u11, u12, u13, u14].set 12 v) tag' W' → ∀ a', puts _ _ [u0, u1, u2, u3, u4, u5, u6, u7, u8, u9, u10, u11, v, u13, u14] = a' → K' a' W') := fun v W' tag' h a' e => hK _ a' W' e ⟨tag', h⟩
                            have d11 : l.getD 11 false = true := by
                              simp [Region.binds] at hd
                              simp [hd]
                            obtain rfl : u11 = _ := hI.pure 11 (by decide) d11
                            have HS := Lib.hid (hI.op12 hl (fun c h => ⟨h.1.up _ 11, h.2.1.upR _ 11, h.2.2.1.alloc h.1.below.size _, fun m => (h.2.2.2.1 m).trans (keepsBelow (bel_alloc _ _)), h.2.2.2.2.up _ 11⟩) hn (fun _ => trivial))
                            clear hK hl hI hlen hd hn d11
                            refine StepGIn.mk ?_
                            simp only [puts, Act.put]
                            go_simp
                            exact HK.out _ _ _ HS.out _ (by simp [puts, Act.put])
                          refine StepsIn.cons rfl ?_ ?_
                          · intro l us W4 hl hI hd hn K' hK
                            obtain ⟨tg4, hI⟩ := hI
                            have hlen := hI.len
                            obtain ⟨u0, u1, u2, u3, u4, u5, u6, u7, u8, u9, u10, u11, u12, u13, u14, rfl⟩ := list15 hlen
                            have HK : Hid (∀ v W' tag', RX (PhiX w #[.slice aa a.al.length ca, .int .i64 n, .slice am a.ms.length cm, .slice ae a.es.length ce, .slice (some ⟨bf, offf, none⟩) (n + 1) cf] n w3.heap.size b9 w6.heap.size w8.heap.size (w8.heap.size + 1 + 1) (.slice a3 a.al.length c3) (.slice (some ⟨b10, o10, none⟩) n c10) (.slice (some ⟨W2.heap.size, 0, none⟩) n n) (.slice (some ⟨b11, o11, none⟩) n c11) a.al inF mkF ds bi i vm1 vq1 S1 ms' Bx xf xe (t2 : Int) W (.slice (some ⟨bf, offf, none⟩) (n + 1) cf) (n + 1) (ints (firsts n a.es))) (PR26 w3.heap.size Bx W2.heap.size t2 n i xe (t2 : Int) nv (.slice ave E26.length cve)) w.heap.size E26 ⟨i, xe, nv - 1⟩ (.slice ave E26.length cve) (l.setIfInBounds 13 true) ([u0, u1, u2, u3, u4, u5, u6, u7, u8, u9, u10, u11, u12, u13, u14].set 13 v) tag' W' → ∀ a', puts _ _ [u0, u1, u2, u3, u4, u5, u6, u7, u8, u9, u10, u11, u12, v, u14] = a' → K' a' W') := fun v W' tag' h a' e => hK _ a' W' e ⟨tag', h⟩
                            have d1 : l.getD 1 false = true := by
                              simp [Region.binds] at hd
                              simp [hd]
                            have d12 : l.getD 12 false = true := by
                              simp [Region.binds] at hd
                              simp [hd]
                            obtain rfl : u1 = _ := hI.pure 1 (by decide) d1
                            have hs1 := hI.s1 hn
                            obtain ⟨a9, c9, e9, hrd⟩ := (hI.s12 d12 hn).rd
                            obtain rfl : u12 = _ := e9
                            refine StepGIn.append_row rfl _ _ 29 rfl 45 j1 (.agg #[.int .i64 0, .int .i64 0, .int .i64 0]) 24 Try.underlying29 hj1 hj2 hj3 hj4 rfl (by simp [puts, Act.put, Act.eval]) hs1 a9 1 c9 (Ed.cells ⟨i, xe, nv - 1⟩) (by simp [puts, Act.put, Act.eval]) (by simp [Ed.cells]) hrd.src.1 hrd.src.2 (by simp [Ed.cells, Value.oneCell']) (by unfold maxLen; omega) (by omega) hI.size ?_
                            intro v9 W9 tag9 hr9 ht9
                            exact HK.out _ _ _ (hI.op13 hl (fun c h => ⟨h.1.turn ht9 (by decide), h.2.1.turn ht9 (by decide), belTurn h.2.2.1 ht9 h.1.below.size, fun m => (h.2.2.2.1 m).trans (keepsTurn ht9), h.2.2.2.2.turn ht9 (by decide)⟩) hn d12 d1 (fun _ => trivial) ht9 hr9) _ (by simp [puts, Act.put])
                          refine StepsIn.cons rfl ?_ ?_
                          · intro l us W4 hl hI hd hn K' hK
                            obtain ⟨tg4, hI⟩ := hI
                            have hlen := hI.len
                            obtain ⟨u0, u1, u2, u3, u4, u5, u6, u7, u8, u9, u10, u11, u12, u13, u14, rfl⟩ := list15 hlen
                            have HK : Hid (∀ v W' tag', RX (PhiX w #[.slice aa a.al.length ca, .int .i64 n, .slice am a.ms.length cm, .slice ae a.es.length ce, .slice (some ⟨bf, offf, none⟩) (n + 1) cf] n w3.heap.size b9 w6.heap.size w8.heap.size (w8.heap.size + 1 + 1) (.slice a3 a.al.length c3) (.slice (some ⟨b10, o10, none⟩) n c10) (.slice (some ⟨W2.heap.size, 0, none⟩) n n) (.slice (some ⟨b11, o11, none⟩) n c11) a.al inF mkF ds bi i vm1 vq1 S1 ms' Bx xf xe (t2 : Int) W (.slice (some ⟨bf, offf, none⟩) (n + 1) cf) (n + 1) (ints (firsts n a.es))) (PR26 w3.heap.size Bx W2.heap.size t2 n i xe (t2 : Int) nv (.slice ave E26.length cve)) w.heap.size E26 ⟨i, xe, nv - 1⟩ (.slice ave E26.length cve) (l.setIfInBounds 14 true) ([u0, u1, u2, u3, u4, u5, u6, u7, u8, u9, u10, u11, u12, u13, u14].set 14 v) tag' W' → ∀ a', puts _ _ [u0, u1, u2, u3, u4, u5, u6, u7, u8, u9, u10, u11, u12, u13, v] = a' → K' a' W') := fun v W' tag' h a' e => hK _ a' W' e ⟨tag', h⟩
                            have HS := Lib.hid (hI.pureStep (v := .pointer (some ⟨w3.heap.size, 3, none⟩)) hl (by decide) rfl)
                            clear hK hl hI hlen hd hn
                            refine StepGIn.mk ?_
                            simp only [puts, Act.put]
                            go_simp
                            exact HK.out _ _ _ HS.out _ (by simp [puts, Act.put])
                          refine StepsIn.cons rfl ?_ ?_
                          · intro l us W4 hl hI hd hn K' hK
                            obtain ⟨tg4, hI⟩ := hI
                            have hlen := hI.len
                            obtain ⟨u0, u1, u2, u3, u4, u5, u6, u7, u8, u9, u10, u11, u12, u13, u14, rfl⟩ := list15 hlen
                            have HK : Hid (∀ W' tag', RX (PhiX w #[.slice aa a.al.length ca, .int .i64 n, .slice am a.ms.length cm, .slice ae a.es.length ce, .slice (some ⟨bf, offf, none⟩) (n + 1) cf] n w3.heap.size b9 w6.heap.size w8.heap.size (w8.heap.size + 1 + 1) (.slice a3 a.al.length c3) (.slice (some ⟨b10, o10, none⟩) n c10) (.slice (some ⟨W2.heap.size, 0, none⟩) n n) (.slice (some ⟨b11, o11, none⟩) n c11) a.al inF mkF ds bi i vm1 vq1 S1 ms' Bx xf xe (t2 : Int) W (.slice (some ⟨bf, offf, none⟩) (n + 1) cf) (n + 1) (ints (firsts n a.es))) (PR26 w3.heap.size Bx W2.heap.size t2 n i xe (t2 : Int) nv (.slice ave E26.length cve)) w.heap.size E26 ⟨i, xe, nv - 1⟩ (.slice ave E26.length cve) (l.setIfInBounds 15 true) [u0, u1, u2, u3, u4, u5, u6, u7, u8, u9, u10, u11, u12, u13, u14] tag' W' → ∀ a', puts _ _ [u0, u1, u2, u3, u4, u5, u6, u7, u8, u9, u10, u11, u12, u13, u14] = a' → K' a' W') := fun W' tag' h a' e => hK _ a' W' e ⟨tag', h⟩
                            have d14 : l.getD 14 false = true := by
                              simp [Region.binds] at hd
                              simp [hd]
                            have d13 : l.getD 13 false = true := by
                              simp [Region.binds] at hd
                              simp [hd]
                            obtain rfl : u14 = _ := hI.pure 14 (by decide) d14
                            obtain ⟨a13, c13, e13⟩ := (hI.s13 d13).val
                            obtain rfl : u13 = _ := e13
                            have hp := hI.phi
                            rw [hn] at hp
                            have y0 : W4.cell? ⟨w3.heap.size, 3, none⟩ = some (.slice ave E26.length cve) := hp.1.ob.cell 3
                            have y1 := hp.1.ob.frozen 3
                            have HS := Lib.hid (hI.op15 (b8 := w3.heap.size) hl (fun c c' h => ⟨⟨(h.1.putE c' S1 rfl rfl).1, h.2.1.turn (h.1.putE c' S1 rfl rfl).2 (by decide), belTurn h.2.2.1 (h.1.putE c' S1 rfl rfl).2 h.1.below.size, fun m => (h.2.2.2.1 m).trans (keepsTurn (h.1.putE c' S1 rfl rfl).2), h.2.2.2.2.turn (h.1.putE c' S1 rfl rfl).2 (by decide)⟩, (h.1.putE c' S1 rfl rfl).2⟩) hn d13)
                            clear hp
                            clear hK hl hI hlen hd hn d14 d13
                            refine StepGIn.mk ?_
                            simp only [puts, Act.put]
                            go_simp
                            exact HK.out _ _ HS.out _ (by simp [puts, Act.put])
                          exact StepsIn.nil (Nat.le_refl _)
                        · intro l us W4 hI hall
                          obtain ⟨tg4, hI⟩ := hI
                          have hlen := hI.len
                          obtain ⟨u0, u1, u2, u3, u4, u5, u6, u7, u8, u9, u10, u11, u12, u13, u14, rfl⟩ := list15 hlen
                          have h13 := hI.s13 (hall 13 (by decide))
                          have hp := hI.phi
                          rw [hall 15 (by decide)] at hp
                          obtain ⟨p1, _, p3, p4, p5⟩ := hp
                          have P1 := Lib.hid p1
                          have P3 := Lib.hid p3
                          have P4 := Lib.hid p4
                          have P5 := Lib.hid p5
                          have HE9 : Hid (Row W4 w.heap.size tg4 8 45 3 u13 (E26 ++ [(⟨i, xe, nv - 1⟩ : Ed)]).length (edCells (E26 ++ [(⟨i, xe, nv - 1⟩ : Ed)]))) := by
                            show Row _ _ _ _ _ _ _ _ _
                            rw [List.length_append]
                            exact h13
                          clear hlen hall hI h13 p1 p3 p4 p5
                          simp only [puts, Act.put, List.setIfInBounds_toArray, List.set_cons_succ, List.set_cons_zero]
                          gi_wp2_with fail
                          refine ⟨P4.out _, P3.out, Hmem.out, tg4, vm1, u13, ⟨vq1, ?_⟩, ?_⟩
                          · rw [Hacc.out, Hst.out]
                            exact P1.out.withE _
                          · rw [Hacc.out, Hst.out]
                            exact ⟨HE9.out, P5.out⟩
                  case done =>
                    rintro D W hD ⟨hpre, tag1, vm1, ve1, vq1, hW, hE1, hG1⟩ hd
                    have hW2 := hW.mark (fun D' hD' => hX3.marks.lt hD') hD hX3.below.size hd
                    have hok' := (ROk.fold (inF := inF) (i := i) (subOf a.es t) Hok.out (fun y hy => (Hes.out y (subOf_mem hy)).2.2)).more (m' := (i + 1) * 1000000) (by have := subOf_length a.es t; omega)
                    have hq' := rsFold_q (inF := inF) (i := i) (subOf a.es t) S
                    have hcn := Hok.out.cnt
                    have hsW := hW.below.size
                    have Hfin := Lib.hid ((hW2.up (.cells #[.int .i64 ((i : Int) + 1)] 3) 5).newI (b' := W.heap.size) (j := i + 1) (Own.new W w.heap.size (tagUp tag1 W.heap.size 5) 5 #[.int .i64 ((i : Int) + 1)] 3 hsW (tagUp_at _ _ _)))
                    have HE9 := Lib.hid (hE1.up (.cells #[.int .i64 ((i : Int) + 1)] 3) 5)
                    have HG9 := Lib.hid (hG1.up (.cells #[.int .i64 ((i : Int) + 1)] 3) 5)
                    have Hok9 := Lib.hid hok'
                    have q2 : W.cell? ⟨bi, 0, none⟩ = some (.int .i64 i) := hW.io.cell 0
                    have hil := hW.io.lt
                    have hml9 : ms'.length ≤ i + 1 := by
                      rw [Hms'.out]
                      split
                      · rw [List.length_append, List.length_singleton]; omega
                      · omega
                    clear hpre hd hW hW2 hE1 hG1 hok' hseq hX3 hE3 hG3
                    go_wp2_with fail
                    refine Handed.intro (n + 1 - (i + 1)) (by omega) (hJ _ _ _ ?_)
                    repeat apply Exists.intro
                    exact ⟨Hfin.out, HE9.out, HG9.out, Hok9.out, hml9, by omega, Nat.le_trans hlt hq', rfl, by rw [Hms'.out]; exact Hstep.out, rfl⟩
            · have hnl : ¬ (i : Int) < (S.q.length : Int) := by omega
              have HQ : Hid (RL = (S, ms)) := by
                show _ = _
                rw [hRL.out, show n + 1 - i = (n - i) + 1 by omega, rsLoop, if_neg hlt]
              have HX := Lib.hid hX
              have HEr := Lib.hid hE
              have o0 : wr.cell? ⟨w3.heap.size, 0, none⟩ = some (.slice a3 a.al.length c3) := hX.ob.cell 0
              have o1 : wr.cell? ⟨w3.heap.size, 1, none⟩ = some (.int .i64 0) := hX.ob.cell 1
              have o2 : wr.cell? ⟨w3.heap.size, 2, none⟩ = some vm := hX.ob.cell 2
              have o3 : wr.cell? ⟨w3.heap.size, 3, none⟩ = some ve := hX.ob.cell 3
              have of1 := hX.ob.frozen 1
              have r0 : wr.cell? ⟨w.heap.size + 1, 0, none⟩ = some (.slice none 0 0) := hX.rc.cell 0
              have r1 : wr.cell? ⟨w.heap.size + 1, 1, none⟩ = some (.int .i64 0) := hX.rc.cell 1
              have r2 : wr.cell? ⟨w.heap.size + 1, 2, none⟩ = some (.slice none 0 0) := hX.rc.cell 2
              have r3 : wr.cell? ⟨w.heap.size + 1, 3, none⟩ = some (.slice none 0 0) := hX.rc.cell 3
              have rf0 := hX.rc.frozen 0
              have rf1 := hX.rc.frozen 1
              have rf2 := hX.rc.frozen 2
              have rf3 := hX.rc.frozen 3
              obtain ⟨avm, cvm, rfl⟩ := hX.mr.val
              obtain ⟨ave, cve, rfl⟩ := hE.val
              have hne : ¬ w3.heap.size = w.heap.size + 1 := by omega
              have hne2 : ¬ w.heap.size + 1 = w3.heap.size := by omega
              clear hX hE hok hRL
              go_wp2_with fail
              have T1 := Turn.setCell HX.out.ob 1 (.int .i64 (S.q.length : Int))
              have rc1 := HX.out.rc.turn T1 (by decide)
              have rc2 : Own _ w.heap.size (tagUp tag (w.heap.size + 1) 11) 11 (w.heap.size + 1) _ _ := ⟨rc1.heap, tagUp_at _ _ _, rc1.base⟩
              have al2 := (HX.out.al.turn T1 (by decide)).retag (kx := 11) rc1.heap (by decide)
              have mr2 := (HX.out.mr.turn T1 (by decide)).retag (kx := 11) rc1.heap (by decide)
              have er2 := (HEr.out.turn T1 (by decide)).retag (kx := 11) rc1.heap (by decide)
              have hs4 := rc2.store4 (.slice a3 a.al.length c3) (.int .i64 (S.q.length : Int)) (.slice avm ms.length cvm) (.slice ave S.E.length cve)
              have hbl1 := belTurn hbX T1 hbX.size
              have hbl2 := belTurn hbl1 hs4.2 hbl1.size
              refine bodyPostM_ret ((HX.out.marks.turn T1).turn hs4.2) (fun w' hq => ?_)
              have ho := hq.own (B' := w.heap.size) hs4.1
              have al3 := hq.row (al2.turn hs4.2 (by decide))
              have mr3 := hq.row (mr2.turn hs4.2 (by decide))
              have er3 := hq.row (er2.turn hs4.2 (by decide))
              have d0 := ho.cell 0
              have d1 := ho.cell 1
              have d2 := ho.cell 2
              have d3 := ho.cell 3
              refine ⟨.tuple #[.agg #[.slice a3 a.al.length c3, .int .i64 (S.q.length : Int), .slice avm ms.length cvm, .slice ave S.E.length cve], .int .i64 0], by simp [results, Try.results37, go_sem, d0, d1, d2, d3], _, rfl, ?_, hbl2.trans hq.below⟩
              rw [HR1.out, HQ.out]
              refine RestPost.ok HE2.out ⟨_, _, _, rfl, al3.rdI, mr3.rdI, ?_⟩ ⟨a3, avm, ave, _, _, _, _, _, _, _, rfl, al3.fresh_ad, mr3.fresh_ad, er3.fresh_ad⟩
              obtain ⟨a9, c9, e9, h9⟩ := er3.rd
              exact ⟨a9, c9, e9, h9⟩
      · have HR : Hid (R = ⟨a.al, 0, [], []⟩) := by show _ = _; rw [HRR.out, restrictF, if_neg hk]
        have Hs5 := Lib.hid (HO4.out.store4 (.slice a3 a.al.length c3) (.int .i64 0) (.slice none 0 0) (.slice none 0 0))
        by_cases hke : kp.length = 0
        · have hkc : kp = [] := List.eq_nil_of_length_eq_zero hke
          subst hkc
          go_wp2_with fail
          · refine bodyPostM_ret (Marks.nil w.heap.size _) (fun w' hq => ?_)
            have ho := hq.own (B' := w.heap.size) (Hs5.out.1.upR (.cells #[.slice a3 a.al.length c3, .int .i64 0, .slice none 0 0, .slice none 0 0] 31) 6)
            have hrw := hq.row ((Hrow3.out.turn Hs5.out.2 (by decide)).up (.cells #[.slice a3 a.al.length c3, .int .i64 0, .slice none 0 0, .slice none 0 0] 31) 6)
            have d0 := ho.cell 0
            have d1 := ho.cell 1
            have d2 := ho.cell 2
            have d3 := ho.cell 3
            have hbl := belTurn hW3 Hs5.out.2 hW3.size
            refine ⟨.tuple #[.agg #[.slice a3 a.al.length c3, .int .i64 0, .slice none 0 0, .slice none 0 0], .int .i64 0], by simp [results, Try.results37, go_sem, d0, d1, d2, d3], _, rfl, ?_, (hbl.alloc hbl.size (.cells #[.slice a3 a.al.length c3, .int .i64 0, .slice none 0 0, .slice none 0 0] 31)).trans hq.below⟩
            rw [HR.out]
            exact RestPost.ok HE2.out ⟨_, _, _, rfl, hrw.rdI, ⟨none, 0, rfl, ⟨rfl, Nat.le_refl _, by simp [maxLen], fun _ => rfl, fun _ e => (by cases e), fun _ e => (by cases e)⟩⟩, ⟨none, 0, rfl, ⟨rfl, Nat.le_refl _, by simp [maxLen], fun _ => rfl, fun _ e => (by cases e), fun _ e => (by cases e)⟩⟩⟩ ⟨a3, none, none, _, _, _, _, _, _, _, rfl, hrw.fresh_ad, fun _ e => (by cases e), fun _ e => (by cases e)⟩
        · have hkp : 0 < kp.length := by omega
          obtain ⟨bk, ok, rfl, hck⟩ := hrk.at_int 0 hkp
          have hck' := keep0 hW3 hck
          have hk0 : kp[0] ≠ 0 := fun e => hk (by rw [List.head?_eq_getElem?, List.getElem?_eq_getElem hkp, e])
          have hk1 : (kp[0] != 0) = true := by simpa using hk0
          have hklen : ((kp.length : Int) == 0) = false := by rw [beq_eq_false_iff_ne]; omega
          have hbkl := World.block_lt_of_cell? _ _ hck'
          dsimp only at hbkl
          have hkI : (0 : Int) < (kp.length : Int) := by omega
          rw [Nat.add_zero] at hck'
          generalize kp[0] = k0 at *
          clear hk hk0 hck
          go_wp2_with fail
          · refine bodyPostM_ret (Marks.nil w.heap.size _) (fun w' hq => ?_)
            have ho := hq.own (B' := w.heap.size) (Hs5.out.1.upR (.cells #[.slice a3 a.al.length c3, .int .i64 0, .slice none 0 0, .slice none 0 0] 31) 6)
            have hrw := hq.row ((Hrow3.out.turn Hs5.out.2 (by decide)).up (.cells #[.slice a3 a.al.length c3, .int .i64 0, .slice none 0 0, .slice none 0 0] 31) 6)
            have d0 := ho.cell 0
            have d1 := ho.cell 1
            have d2 := ho.cell 2
            have d3 := ho.cell 3
            have hbl := belTurn hW3 Hs5.out.2 hW3.size
            refine ⟨.tuple #[.agg #[.slice a3 a.al.length c3, .int .i64 0, .slice none 0 0, .slice none 0 0], .int .i64 0], by simp [results, Try.results37, go_sem, d0, d1, d2, d3], _, rfl, ?_, (hbl.alloc hbl.size (.cells #[.slice a3 a.al.length c3, .int .i64 0, .slice none 0 0, .slice none 0 0] 31)).trans hq.below⟩
            rw [HR.out]
            exact RestPost.ok HE2.out ⟨_, _, _, rfl, hrw.rdI, ⟨none, 0, rfl, ⟨rfl, Nat.le_refl _, by simp [maxLen], fun _ => rfl, fun _ e => (by cases e), fun _ e => (by cases e)⟩⟩, ⟨none, 0, rfl, ⟨rfl, Nat.le_refl _, by simp [maxLen], fun _ => rfl, fun _ e => (by cases e), fun _ e => (by cases e)⟩⟩⟩ ⟨a3, none, none, _, _, _, _, _, _, _, rfl, hrw.fresh_ad, fun _ e => (by cases e), fun _ e => (by cases e)⟩
    · have H3 := Lib.hid h3
      have h3' : (setErr n none kp != 0) = true := by simpa using h3
      clear h3
      go_wp2_with fail
      have hs4 := HO4.out.store4 (.slice none 0 0) (.int .i64 0) (.slice none 0 0) (.slice none 0 0)
      refine bodyPostM_ret (Marks.nil w.heap.size _) (fun w' hq => ?_)
      have ho := hq.own (B' := w.heap.size) hs4.1
      have c0 := ho.cell 0
      have c1 := ho.cell 1
      have c2 := ho.cell 2
      have c3 := ho.cell 3
      refine ⟨.tuple #[.agg #[.slice none 0 0, .int .i64 0, .slice none 0 0, .slice none 0 0], .int .i64 (setErr n none kp)], by simp [results, Try.results37, go_sem, c0, c1, c2, c3], _, rfl, ?_, (belTurn hW2 hs4.2 hW2.size).trans hq.below⟩
      rw [show E0 = setErr n none kp by rw [HE.out, err2, if_pos H1.out]]
      exact RestPost.err H3.out
  · have H1 := Lib.hid h1
    have h1' : (a.err != 0) = true := by simpa using h1
    clear h1
    go_wp2_with fail
    have hs4 := HO4.out.store4 (.slice none 0 0) (.int .i64 0) (.slice none 0 0) (.slice none 0 0)
    refine bodyPostM_ret (Marks.nil w.heap.size _) (fun w' hq => ?_)
    have ho := hq.own (B' := w.heap.size) hs4.1
    have c0 := ho.cell 0
    have c1 := ho.cell 1
    have c2 := ho.cell 2
    have c3 := ho.cell 3
    refine ⟨.tuple #[.agg #[.slice none 0 0, .int .i64 0, .slice none 0 0, .slice none 0 0], .int .i64 a.err], by simp [results, Try.results37, go_sem, c0, c1, c2, c3], _, rfl, ?_, (belTurn hW1 hs4.2 hW1.size).trans hq.below⟩
    rw [show E0 = a.err by rw [HE.out, err2, if_neg H1.out]]
    exact RestPost.err H1.out
end Go.Proofs.Ythchkddhibhenaa

namespace Go.Proofs.Ythchkddhibhenaa
open Go Go.RowKit
def frEd (x : Ed) : Int × Int × Int := (x.f, x.e, x.t)
def frAut (a : Aut) : AutT := (a.al, a.n, a.ms, a.es.map frEd)
theorem eds_cells {s : Sig} : ∀ (xs : List Ed), Cells rEd s (edCells xs) (xs.map frEd)
  | [] => rfl
  | x :: xs => ⟨[.int .i64 x.f, .int .i64 x.e, .int .i64 x.t], edCells xs, rfl, ⟨_, _, rfl, rfl, _, _, rfl, rfl, rfl⟩, eds_cells xs⟩
theorem RdS.rdEd {s : Sig} {w' : World} {a : Option Addr} {c : Nat} {xs : List Ed} (h : RdS w' 3 a xs.length c (edCells xs)) (hf : ∀ ad, a = some ad → s.w.heap.size ≤ ad.block) : RdL rEd (s.nw w') a c (xs.map frEd) := by
  refine ⟨edCells xs, by rw [List.length_map]; exact h, fun ad e _ => ?_, eds_cells xs⟩
  subst e
  exact if_neg (by have := hf ad rfl; omega)
theorem RdS.rdInts {s : Sig} {w' : World} {a : Option Addr} {c : Nat} {xs : List Int} (h : RdS w' 1 a xs.length c (ints xs)) (hf : ∀ ad, a = some ad → s.w.heap.size ≤ ad.block) : RdL (rK .i64) (s.nw w') a c xs := by
  refine ⟨ints xs, h, fun ad e _ => ?_, ints_cells xs⟩
  subst e
  exact if_neg (by have := hf ad rfl; omega)
/-- What reach.Restrict computes (short lists alone). -/
def m_reach_Restrict (p0 : AutT) (p1 : List Int) : Option (AutT × Int) :=
  if p0.1.length ≤ 1000000 ∧ p0.2.2.1.length ≤ 1000000 ∧ p0.2.2.2.length ≤ 1000000 ∧ p1.length ≤ 1000000 then
    if err2 (toAut p0).err (setErr (toAut p0).n none p1) = 0 then some (frAut (restrictF (toAut p0).al (toAut p0).ms (toAut p0).n.toNat (toAut p0).es p1), 0)
    else some (([], 0, [], []), err2 (toAut p0).err (setErr (toAut p0).n none p1))
  else none
theorem m_reach_Restrict_c {s : Sig} {p0 : AutT} {p1 : List Int} {a1 : Option Addr} {c1 : Nat} {a2 : Option Addr} {c2 : Nat} {a3 : Option Addr} {c3 : Nat} {a4 : Option Addr} {c4 : Nat} {r : AutT × Int} (h1 : RdL (rK .i64) s a1 c1 p0.1) (h2 : RdL (rK .i64) s a2 c2 p0.2.2.1) (h3 : RdL rEd s a3 c3 p0.2.2.2) (h4 : RdL (rK .i64) s a4 c4 p1) (hm : m_reach_Restrict p0 p1 = some r) :
    Calls Try.prog 37 #[.agg #[.slice a1 p0.1.length c1, .int .i64 p0.2.1, .slice a2 p0.2.2.1.length c2, .slice a3 p0.2.2.2.length c3], .slice a4 p1.length c4] s.w (RetS No s fun v s' => ∃ (a5 : Option Addr) (c5 : Nat) (a6 : Option Addr) (c6 : Nat) (a7 : Option Addr) (c7 : Nat), v = .tuple #[.agg #[.slice a5 r.1.1.length c5, .int .i64 r.1.2.1, .slice a6 r.1.2.2.1.length c6, .slice a7 r.1.2.2.2.length c7], .int .i64 r.2] ∧ RdL (rK .i64) s' a5 c5 r.1.1 ∧ RdL (rK .i64) s' a6 c6 r.1.2.2.1 ∧ RdL rEd s' a7 c7 r.1.2.2.2) := by
  unfold m_reach_Restrict at hm
  split at hm
  · rename_i hc
    obtain ⟨g1, g2, g3, g4⟩ := hc
    refine (restrict_any _ _ (toAut p0) p1 s.w ⟨_, _, _, rfl, h1.rdI, h2.rdI, h3.rdE⟩ ⟨g1, g2, by simpa [toAut] using g3⟩ h4.rdI g4).mono fun en w' hh => ?_
    obtain ⟨u, rfl, hp, hb⟩ := hh
    refine ⟨u, s.nw w', rfl, rfl, Sig.nw_mv hb, ?_⟩
    unfold RestPost at hp
    split at hp
    · rename_i h0
      rw [if_pos h0] at hm
      obtain rfl := Option.some.inj hm
      obtain ⟨v, rfl, ⟨va, vm, ve, rfl, ⟨aa, ca, rfl, h5⟩, ⟨am, cm, rfl, h6⟩, ⟨ae, ce, rfl, h7⟩⟩, b1, b2, b3, l1, d1, l2, d2, l3, d3, n', e, f1, f2, f3⟩ := hp
      simp only [Value.agg.injEq, Array.mk.injEq, List.cons.injEq, Value.slice.injEq] at e
      obtain ⟨⟨rfl, _⟩, _, ⟨rfl, _⟩, ⟨rfl, _⟩, _⟩ := e
      exact ⟨_, _, _, _, _, _, by simp [frAut], h5.rdInts f1, h6.rdInts f2, h7.rdEd f3⟩
    · rename_i h0
      rw [if_neg h0] at hm
      obtain rfl := Option.some.inj hm
      exact ⟨none, 0, none, 0, none, 0, hp, RdL.nil, RdL.nil, RdL.nil⟩
  · cases hm
end Go.Proofs.Ythchkddhibhenaa

namespace Go.Proofs.Ythchkddhibhenaa
open Go.RowKit

theorem closure_any (v vs vv : Value) (a : Aut) (set evs : List Int) (w : World) (ha : RdA w v a) (hs : a.small) (h1 : RdI w vs set) (h2 : RdI w vv evs) (hl1 : set.length ≤ 1000000) (hl2 : evs.length ≤ 1000000) :
    Calls Try.prog 56 #[v, vs, vv] w (Ret w fun u _ => u = .int .i64 (err2 a.err (err2 (setErr a.n none set) (setErr 32 none evs)))) := by
  have ha0 := ha
  obtain ⟨va, vm, ve, rfl, ⟨aa, ca, rfl, hra⟩, ⟨am, cm, rfl, hrm⟩, ⟨ae, ce, rfl, hre⟩⟩ := ha
  have Ha0 := Lib.hid ha0
  have Hs := Lib.hid hs
  have Hr1 := Lib.hid h1
  have Hr2 := Lib.hid h2
  clear ha0 hs h1 h2
  go_enter Try.func56, Try.ntmps56
  go_wp2_with fail
  refine (check_any _ a _ (Ha0.out.mono (by (repeat (first | with_reducible exact Below.refl _ _ | with_reducible exact Ha0 | (with_reducible refine belCall ?_ Ha0 (by first | omega | (simp; done) | (simp; omega) | (simp at *; omega))) | (with_reducible refine Below.alloc ?_ (by first | omega | (simp; done) | (simp; omega) | (simp at *; omega)) _) | (with_reducible refine Below.drew ?_) | (with_reducible refine Below.setCell ?_ (by first | omega | (simp; done) | (simp; omega) | (simp at *; omega)) _))))) Hs.out).mono ?_
  rintro e w1 ⟨_, rfl, rfl, hb1⟩
  have hW1 : Below w.heap.size w w1 := ((Below.refl _ _).alloc (Nat.le_refl _) _).trans (hb1.mono (by simp))
  have hbx := box4 hb1
  clear hb1
  by_cases h1 : a.err = 0
  · have H1 := Lib.hid h1
    rw [h1]
    clear h1
    obtain ⟨x0, x1, x2, x3, x4⟩ := hbx
    go_wp2_with fail
    refine (checkStates_any _ _ _ _ _ _ _ _ _ _ _ set _ (Hr1.out.mono hW1) hl1).mono ?_
    rintro e w2 ⟨_, rfl, rfl, hb2⟩
    have hW2 := hW1.trans (hb2.mono hW1.size)
    clear x0 x1 x2 x3 x4
    by_cases h2 : setErr a.n none set = 0
    · have H2 := Lib.hid h2
      rw [h2]
      clear h2
      go_wp2_with (go_at_call 61; ((with_reducible refine (rcheckSet_any _ _ _ _ (Hr2.out.mono hW2) hl2).mono ?_); rintro e w1 ⟨rfl, rfl⟩))
      go_ret
      exact ⟨_, rfl, by rw [err2, if_pos H1.out, err2, if_pos H2.out]; rfl, hW2⟩
    · have H2 := Lib.hid h2
      have h2' : (setErr a.n none set != 0) = true := by simpa using h2
      clear h2
      go_wp2_with fail
      go_ret
      exact ⟨_, rfl, by rw [err2, if_pos H1.out, err2, if_neg H2.out]; rfl, hW2⟩
  · have H1 := Lib.hid h1
    have h1' : (a.err != 0) = true := by simpa using h1
    clear h1
    go_wp2_with fail
    go_ret
    exact ⟨_, rfl, by rw [err2, if_neg H1.out]; rfl, hW1⟩
end Go.Proofs.Ythchkddhibhenaa

namespace Go.Proofs.Ythchkddhibhenaa
open Go.RowKit

/-- An edge is looked at: the flags, and whether one has been taken away. -/
def iStep (evs : List Int) (acc : List Bool × Bool) (x : Ed) : List Bool × Bool :=
  if acc.1.getD x.f.toNat false = true ∧ acc.1.getD x.t.toNat false = false ∧ hasB evs x.e = true then (acc.1.set x.f.toNat false, true) else acc
/-- The rounds. -/
def iLoop (es : List Ed) (evs : List Int) : Nat → List Bool → List Bool
  | 0, fl => fl
  | f + 1, fl => if (es.foldl (iStep evs) (fl, false)).2 = true then iLoop es evs f (es.foldl (iStep evs) (fl, false)).1 else (es.foldl (iStep evs) (fl, false)).1
/-- What Interior returns. -/
def interior (n : Nat) (es : List Ed) (set evs : List Int) : List Int := listL (iLoop es evs ((flagL n set).count true + 1) (flagL n set))

theorem count_unset {l : List Bool} {j : Nat} (h : l.getD j false = true) : (l.set j false).count true + 1 = l.count true := by
  induction l generalizing j with
  | nil => simp at h
  | cons a l ih =>
    cases j with
    | zero => simp at h; subst h; simp
    | succ j =>
      simp only [List.getD_cons_succ] at h
      rw [List.set_cons_succ, List.count_cons, List.count_cons, ← ih h]
      omega
theorem iStep_count (evs : List Int) (acc : List Bool × Bool) (x : Ed) : (iStep evs acc x).1.count true ≤ acc.1.count true ∧ ((iStep evs acc x).2 = true → acc.2 = true ∨ (iStep evs acc x).1.count true < acc.1.count true) := by
  unfold iStep
  split
  · rename_i h
    have := count_unset h.1
    exact ⟨by dsimp only; omega, fun _ => .inr (by dsimp only; omega)⟩
  · exact ⟨Nat.le_refl _, .inl⟩
theorem iFold_count (evs : List Int) : ∀ (l : List Ed) (acc : List Bool × Bool), (l.foldl (iStep evs) acc).1.count true ≤ acc.1.count true ∧ ((l.foldl (iStep evs) acc).2 = true → acc.2 = true ∨ (l.foldl (iStep evs) acc).1.count true < acc.1.count true)
  | [], _ => ⟨Nat.le_refl _, .inl⟩
  | x :: l, acc => by
    have h1 := iStep_count evs acc x
    have h2 := iFold_count evs l (iStep evs acc x)
    rw [List.foldl_cons]
    refine ⟨Nat.le_trans h2.1 h1.1, fun h => ?_⟩
    rcases h2.2 h with h3 | h3
    · rcases h1.2 h3 with h4 | h4
      · exact .inl h4
      · exact .inr (by omega)
    · exact .inr (by omega)

set_option maxRecDepth 100000 in
set_option maxHeartbeats 1600000 in
theorem interior_any (v vs vv : Value) (a : Aut) (set evs : List Int) (w : World) (ha : RdA w v a) (hs : a.small) (h1 : RdI w vs set) (h2 : RdI w vv evs) (hl1 : set.length ≤ 1000000) (hl2 : evs.length ≤ 1000000) :
    Calls Try.prog 23 #[v, vs, vv] w (Ret w (ListPost (err2 a.err (err2 (setErr a.n none set) (setErr 32 none evs))) (interior a.n.toNat a.es set evs))) := by
  have ha0 := ha
  obtain ⟨va, vm, ve, rfl, ⟨aa, ca, rfl, hra⟩, ⟨am, cm, rfl, hrm⟩, ⟨ae, ce, rfl, hre⟩⟩ := ha
  have Ha0 := Lib.hid ha0
  have Hs := Lib.hid hs
  have Hr1 := Lib.hid h1
  have Hr2 := Lib.hid h2
  clear ha0 hs h1 h2
  go_enter Try.func23, Try.ntmps23
  go_wp2_with fail
  refine (closure_any _ vs vv a set evs _ (Ha0.out.mono (by (repeat (first | with_reducible exact Below.refl _ _ | with_reducible exact Ha0 | (with_reducible refine belCall ?_ Ha0 (by first | omega | (simp; done) | (simp; omega) | (simp at *; omega))) | (with_reducible refine Below.alloc ?_ (by first | omega | (simp; done) | (simp; omega) | (simp at *; omega)) _) | (with_reducible refine Below.drew ?_) | (with_reducible refine Below.setCell ?_ (by first | omega | (simp; done) | (simp; omega) | (simp at *; omega)) _))))) Hs.out (Hr1.out.mono (by (repeat (first | with_reducible exact Below.refl _ _ | with_reducible exact Ha0 | (with_reducible refine belCall ?_ Ha0 (by first | omega | (simp; done) | (simp; omega) | (simp at *; omega))) | (with_reducible refine Below.alloc ?_ (by first | omega | (simp; done) | (simp; omega) | (simp at *; omega)) _) | (with_reducible refine Below.drew ?_) | (with_reducible refine Below.setCell ?_ (by first | omega | (simp; done) | (simp; omega) | (simp at *; omega)) _))))) (Hr2.out.mono (by (repeat (first | with_reducible exact Below.refl _ _ | with_reducible exact Ha0 | (with_reducible refine belCall ?_ Ha0 (by first | omega | (simp; done) | (simp; omega) | (simp at *; omega))) | (with_reducible refine Below.alloc ?_ (by first | omega | (simp; done) | (simp; omega) | (simp at *; omega)) _) | (with_reducible refine Below.drew ?_) | (with_reducible refine Below.setCell ?_ (by first | omega | (simp; done) | (simp; omega) | (simp at *; omega)) _))))) hl1 hl2).mono ?_
  rintro e w1 ⟨_, rfl, rfl, hb1⟩
  have hW1 : Below w.heap.size w w1 := ((Below.refl _ _).alloc (Nat.le_refl _) _).trans (hb1.mono (by simp))
  have hbx := box4 hb1
  clear hb1
  by_cases h1 : err2 a.err (err2 (setErr a.n none set) (setErr 32 none evs)) = 0
  · have herr : a.err = 0 ∧ setErr a.n none set = 0 ∧ setErr 32 none evs = 0 := by
      unfold err2 at h1
      split at h1
      · rename_i g1
        split at h1
        · rename_i g2; exact ⟨g1, g2, h1⟩
        · rename_i g2; exact absurd h1 g2
      · rename_i g1; exact absurd h1 g1
    have hok := Aut.ok_of herr.1
    have hin := setErr_zero herr.2.1
    have H1 := Lib.hid h1
    rw [h1]
    clear h1 herr
    have hn0 := hok.n0
    have hn1 := hok.n1
    have Hes := Lib.hid hok.es
    have Hin := Lib.hid hin
    have hae := Hs.out.es
    clear hok hin
    have Hres : Hid (interior a.n.toNat a.es set evs = interior a.n.toNat a.es set evs) := rfl
    generalize hn : a.n = an at *
    obtain ⟨n, rfl⟩ := Int.eq_ofNat_of_zero_le hn0
    rw [Int.toNat_natCast] at *
    have hn' : n ≤ 4096 := by omega
    have Hn := Lib.hid hn
    clear hn hn0 hn1 Hres
    obtain ⟨x0, x1, x2, x3, x4⟩ := hbx
    have Hbx := Lib.hid (And.intro x0 (And.intro x1 (And.intro x2 (And.intro x3 x4))))
    go_wp2_with fail
    refine (flags_any _ _ _ vs n set _ (Hr1.out.mono hW1) hl1 (by omega) Hin.out).mono ?_
    rintro e w2 ⟨_, rfl, hown, hb2⟩
    have hrow : Row w2 w1.heap.size (fun _ => 1) 1 4 1 _ n (bools (flagL n set)) := Row.of_own hown (Nat.le_refl _) (fun _ _ _ => rfl)
    have hfl := flagL_length n set
    have hlen : a.es.length ≤ 1000000 := hae
    clear hown
    obtain ⟨af, cf, rfl⟩ := hrow.val
    have Hes2 := Lib.hid (fun (x : Ed) (hx : x ∈ a.es) => Hes.out x hx)
    go_wp2_with fail
    clear x0 x1 x2 x3
    go_loopg [10] ((flagL n set).count true + 1) (fun k g wr => ∃ (fl : List Bool) (gb : Bool) (f : Nat), g = .bool gb ∧ Hid (fl.length = n) ∧ Below w1.heap.size w1 wr ∧ Row wr w1.heap.size (fun _ => 1) 1 4 1 (.slice af n cf) n (bools fl) ∧
      Hid (iLoop a.es evs ((flagL n set).count true + 1) (flagL n set) = if gb = true then iLoop a.es evs (f + 1) fl else fl) ∧ fl.count true ≤ f ∧ k = if gb = true then fl.count true + 1 else 0)
    case atStart => exact ⟨flagL n set, true, _, rfl, hfl, hb2, hrow, rfl, Nat.le_refl _, rfl⟩
    case round =>
      clear hrow hb2 hfl
      obtain ⟨fl, gb, f, rfl, hfl, hB, hrow, hit, hcf, hgk⟩ := hrel
      have c3 : wr.cell? ⟨w.heap.size, 3, none⟩ = some (.slice ae a.es.length ce) := keep hB Hbx.out.2.2.2.1 x4
      have Hgk := Lib.hid hgk
      clear hgk
      cases gb with
      | false =>
        have Hit : Hid (iLoop a.es evs ((flagL n set).count true + 1) (flagL n set) = fl) := by
          show _ = _
          have := hit.out; simpa using this
        clear hit
        have hfl2 : fl.length ≤ 1000000 := by rw [hfl.out]; omega
        have hRB : RdB wr (.slice af n cf) fl := by
          have h := hrow
          rw [← hfl.out] at h
          obtain ⟨a9, c9, e9, h9⟩ := h.rd
          rw [hfl.out] at e9 
          cases e9
          refine ⟨af, cf, by rw [hfl.out], h9⟩
        have HRB := Lib.hid hRB
        clear hRB
        go_wp2_with fail
        refine (list_any _ fl _ HRB.out hfl2).mono ?_
        rintro e w5 ⟨v5, rfl, hown5, hb5⟩
        have Hown5 := Lib.hid hown5
        obtain ⟨a5, c5, rfl, hr5⟩ := RdS.of_own hown5
        clear hown5 hr5
        go_wp2_with fail
        go_ret2
        refine ⟨_, rfl, ?_, (hW1.trans (hB.mono hW1.size)).trans (hb5.mono (Nat.le_trans hW1.size hB.size))⟩
        rw [ListPost, if_pos H1.out]
        refine ⟨_, rfl, ?_⟩
        rw [interior, Hit.out]
        exact RdI.of_own Hown5.out
      | true =>
        have Hit : Hid (iLoop a.es evs ((flagL n set).count true + 1) (flagL n set) = iLoop a.es evs (f + 1) fl) := by
          show _ = _
          have := hit.out; simpa using this
        clear hit
        have Hfold : Hid (a.es.foldl (iStep evs) (fl, false) = a.es.foldl (iStep evs) (fl, false)) := rfl
        go_wp2_with fail
        clear c3
        go_loopg [10, 27] a.es.length (fun k g i wr' => ∃ (kk : Nat) (fl' : List Bool) (gb : Bool), i = .int .i64 kk ∧ g = .bool gb ∧ kk ≤ a.es.length ∧ k = a.es.length - kk ∧ Hid (fl'.length = n) ∧ Below w1.heap.size w1 wr' ∧ Row wr' w1.heap.size (fun _ => 1) 1 4 1 (.slice af n cf) n (bools fl') ∧
          Hid (a.es.foldl (iStep evs) (fl, false) = (a.es.drop kk).foldl (iStep evs) (fl', gb)))
        case atStart => exact ⟨0, fl, false, rfl, rfl, Nat.zero_le _, rfl, hfl, hB, hrow, rfl⟩
        case round =>
          clear hrow hB
          obtain ⟨kk, fl', gb, rfl, rfl, hkk, hgk', hfl', hB, hrow, hfold⟩ := hrel
          have Hgk' := Lib.hid hgk'
          clear hgk'
          have hsz := hB.size
          by_cases hlt : kk < a.es.length
          · obtain ⟨b, off, rfl, d0, d1, d2⟩ := hre.at_edge kk hlt
            have hx := Hes.out a.es[kk] (List.getElem_mem hlt)
            have Hdrop : Hid ((a.es.drop kk).foldl (iStep evs) (fl', gb) = (a.es.drop (kk + 1)).foldl (iStep evs) (iStep evs (fl', gb) a.es[kk])) := by
              show _ = _
              rw [List.drop_eq_getElem_cons hlt, List.foldl_cons]
            have hbz := World.block_lt_of_cell? _ _ d0
            dsimp only at hbz
            have hwz := hW1.size
            replace d0 := keep hB (keep0 hW1 d0) (Nat.lt_of_lt_of_le hbz hwz)
            replace d1 := keep hB (keep0 hW1 d1) (Nat.lt_of_lt_of_le hbz hwz)
            replace d2 := keep hB (keep0 hW1 d2) (Nat.lt_of_lt_of_le hbz hwz)
            generalize a.es[kk] = x at *
            obtain ⟨hx0, hx1, hx2, hx3⟩ := hx
            obtain ⟨f0, e0, t0⟩ := x
            dsimp only at *
            obtain ⟨xf, rfl⟩ := Int.eq_ofNat_of_zero_le hx0
            obtain ⟨xt, rfl⟩ := Int.eq_ofNat_of_zero_le hx2
            have hxf : xf < n := by omega
            have hxt : xt < n := by omega
            obtain ⟨gB, gO, gC, e1, hgl, hgb, _⟩ := hrow.addr (by omega)
            cases e1
            have Hget : Hid (∀ j, j < n → wr.cell? ⟨gB, gO + j, none⟩ = some (.bool (fl'.getD j false))) := by
              intro j hj
              rw [hrow.cellAt j (by omega), List.getElem?_map, List.getElem?_eq_getElem (by rw [hfl'.out]; exact hj), List.getD_eq_getElem?_getD, List.getElem?_eq_getElem (by rw [hfl'.out]; exact hj)]
              rfl
            have g1 := Hget.out xf hxf
            have g2 := Hget.out xt hxt
            have Hstep : Hid (iStep evs (fl', gb) ⟨xf, e0, xt⟩ = if fl'.getD xf false = true ∧ fl'.getD xt false = false ∧ hasB evs e0 = true then (fl'.set xf false, true) else (fl', gb)) := rfl
            have Hset := Lib.hid (hrow.set xf (.bool false))
            have hB2 := belTurn hB Hset.out.2 hsz
            have fz := hrow.frozenAt (gO + xf)
            have HX := Lib.hid (And.intro hx0 (And.intro hx1 (And.intro hx2 hx3)))
            have hBW := hW1.trans (hB.mono hW1.size)
            have hrel0 : Hid (∀ acc, iStep evs (fl', gb) ⟨xf, e0, xt⟩ = acc → a.es.foldl (iStep evs) (fl, false) = (a.es.drop (kk + 1)).foldl (iStep evs) acc) := by
              intro acc h
              rw [hfold.out, Hdrop.out, h]
            clear hx0 hx1 hx2 hx3 Hdrop hfold
            cases q1 : fl'.getD xf false with
            | false =>
              have Q : Hid (iStep evs (fl', gb) ⟨xf, e0, xt⟩ = (fl', gb)) := by
                show _ = _
                rw [Hstep.out, if_neg (by rw [q1]; simp)]
              rw [q1] at g1
              clear q1 Hstep Hget
              go_wp2
              go_roundg (a.es.length - (kk + 1))
              case measure => rw [Hgk'.out]; omega
              case rel => exact ⟨kk + 1, fl', gb, by go_num, rfl, by omega, rfl, hfl', (by (repeat (first | with_reducible exact Below.refl _ _ | with_reducible exact hB | (with_reducible refine belCall ?_ hB (by first | omega | (simp; done) | (simp; omega) | (simp at *; omega))) | (with_reducible refine Below.alloc ?_ (by first | omega | (simp; done) | (simp; omega) | (simp at *; omega)) _) | (with_reducible refine Below.drew ?_) | (with_reducible refine Below.setCell ?_ (by first | omega | (simp; done) | (simp; omega) | (simp at *; omega)) _)))), hrow.below (bel_alloc _ _), hrel0.out _ Q.out⟩
            | true =>
              cases q2 : fl'.getD xt false with
              | true =>
                have Q : Hid (iStep evs (fl', gb) ⟨xf, e0, xt⟩ = (fl', gb)) := by
                  show _ = _
                  rw [Hstep.out, if_neg (by rw [q2]; simp)]
                rw [q1] at g1
                rw [q2] at g2
                clear q1 q2 Hstep Hget
                go_wp2
                go_roundg (a.es.length - (kk + 1))
                case measure => rw [Hgk'.out]; omega
                case rel => exact ⟨kk + 1, fl', gb, by go_num, rfl, by omega, rfl, hfl', (by (repeat (first | with_reducible exact Below.refl _ _ | with_reducible exact hB | (with_reducible refine belCall ?_ hB (by first | omega | (simp; done) | (simp; omega) | (simp at *; omega))) | (with_reducible refine Below.alloc ?_ (by first | omega | (simp; done) | (simp; omega) | (simp at *; omega)) _) | (with_reducible refine Below.drew ?_) | (with_reducible refine Below.setCell ?_ (by first | omega | (simp; done) | (simp; omega) | (simp at *; omega)) _)))), hrow.below (bel_alloc _ _), hrel0.out _ Q.out⟩
              | false =>
                cases q3 : hasB evs e0 with
                | false =>
                  have Q : Hid (iStep evs (fl', gb) ⟨xf, e0, xt⟩ = (fl', gb)) := by
                    show _ = _
                    rw [Hstep.out, if_neg (by rw [q3]; simp)]
                  have Q3 := Lib.hid q3
                  rw [q1] at g1
                  rw [q2] at g2
                  clear q1 q2 q3 Hstep Hget
                  go_wp2_with (go_at_call 57; ((with_reducible refine (contains_any vv evs e0 _ (Hr2.out.mono (by (repeat (first | with_reducible exact Below.refl _ _ | with_reducible exact hBW | (with_reducible refine belCall ?_ hBW (by first | omega | (simp; done) | (simp; omega) | (simp at *; omega))) | (with_reducible refine Below.alloc ?_ (by first | omega | (simp; done) | (simp; omega) | (simp at *; omega)) _) | (with_reducible refine Below.drew ?_) | (with_reducible refine Below.setCell ?_ (by first | omega | (simp; done) | (simp; omega) | (simp at *; omega)) _))))) hl2).mono ?_); rintro e w1 ⟨rfl, rfl⟩; rw [Q3.out]))
                  go_roundg (a.es.length - (kk + 1))
                  case measure => rw [Hgk'.out]; omega
                  case rel => exact ⟨kk + 1, fl', gb, by go_num, rfl, by omega, rfl, hfl', (by (repeat (first | with_reducible exact Below.refl _ _ | with_reducible exact hB | (with_reducible refine belCall ?_ hB (by first | omega | (simp; done) | (simp; omega) | (simp at *; omega))) | (with_reducible refine Below.alloc ?_ (by first | omega | (simp; done) | (simp; omega) | (simp at *; omega)) _) | (with_reducible refine Below.drew ?_) | (with_reducible refine Below.setCell ?_ (by first | omega | (simp; done) | (simp; omega) | (simp at *; omega)) _)))), hrow.below (bel_alloc _ _), hrel0.out _ Q.out⟩
                | true =>
                  have Q : Hid (iStep evs (fl', gb) ⟨xf, e0, xt⟩ = (fl'.set xf false, true)) := by
                    show _ = _
                    rw [Hstep.out, if_pos ⟨q1, q2, q3⟩]
                  have Q3 := Lib.hid q3
                  rw [q1] at g1
                  rw [q2] at g2
                  clear q1 q2 q3 Hstep Hget
                  go_wp2_with (go_at_call 57; ((with_reducible refine (contains_any vv evs e0 _ (Hr2.out.mono (by (repeat (first | with_reducible exact Below.refl _ _ | with_reducible exact hBW | (with_reducible refine belCall ?_ hBW (by first | omega | (simp; done) | (simp; omega) | (simp at *; omega))) | (with_reducible refine Below.alloc ?_ (by first | omega | (simp; done) | (simp; omega) | (simp at *; omega)) _) | (with_reducible refine Below.drew ?_) | (with_reducible refine Below.setCell ?_ (by first | omega | (simp; done) | (simp; omega) | (simp at *; omega)) _))))) hl2).mono ?_); rintro e w1 ⟨rfl, rfl⟩; rw [Q3.out]))
                  go_roundg (a.es.length - (kk + 1))
                  case measure => rw [Hgk'.out]; omega
                  case rel => exact ⟨kk + 1, fl'.set xf false, true, by go_num, rfl, by omega, rfl, by show _ = _; rw [List.length_set]; exact hfl'.out, (by (repeat (first | with_reducible exact Below.refl _ _ | with_reducible exact hB2 | (with_reducible refine belCall ?_ hB2 (by first | omega | (simp; done) | (simp; omega) | (simp at *; omega))) | (with_reducible refine Below.alloc ?_ (by first | omega | (simp; done) | (simp; omega) | (simp at *; omega)) _) | (with_reducible refine Below.drew ?_) | (with_reducible refine Below.setCell ?_ (by first | omega | (simp; done) | (simp; omega) | (simp at *; omega)) _)))), by rw [show bools (fl'.set xf false) = (bools fl').set xf (.bool false) by simp [bools, List.map_set]]; exact Hset.out.1.below (bel_alloc _ _), hrel0.out _ Q.out⟩
          · have hkl : kk = a.es.length := by omega
            have hend : Hid (a.es.foldl (iStep evs) (fl, false) = (fl', gb)) := by
              show _ = _
              rw [hfold.out, hkl, List.drop_length]; rfl
            have Hcnt := Lib.hid (iFold_count evs a.es (fl, false))
            clear hfold hkl
            go_wp2_with fail
            go_roundg (if gb = true then fl'.count true + 1 else 0)
            case measure =>
              rw [Hgk.out]
              cases gb with
              | false => simp
              | true =>
                have h5 := Hcnt.out.2
                rw [hend.out] at h5
                have := h5 rfl
                simp at this
                simp; omega
            case rel =>
              refine ⟨fl', gb, if gb = true then f - 1 else fl'.count true, rfl, hfl', hB, hrow, ?_, ?_, rfl⟩
              · show _ = _
                rw [Hit.out, iLoop, hend.out]
                cases gb with
                | false => rfl
                | true =>
                  have h5 := Hcnt.out.2
                  rw [hend.out] at h5
                  have := h5 rfl
                  simp at this
                  rw [if_pos rfl, if_pos rfl, if_pos rfl, show f - 1 + 1 = f by omega]
              · have h5 := Hcnt.out
                rw [hend.out] at h5
                cases gb with
                | false => simp
                | true =>
                  have := h5.2 rfl
                  simp at this
                  rw [if_pos rfl]
                  omega
  · have H1 := Lib.hid h1
    have h1' : (err2 a.err (err2 (setErr a.n none set) (setErr 32 none evs)) != 0) = true := by simpa using h1
    clear h1
    go_wp2_with fail
    go_ret2
    refine ⟨_, rfl, ?_, hW1⟩
    rw [ListPost, if_neg H1.out]
    rfl
end Go.Proofs.Ythchkddhibhenaa

namespace Go.Proofs.Ythchkddhibhenaa
open Go.RowKit

theorem bwd_length (inn : Nat → List Int) : ∀ (f : Nat) (ds q : List Int), (bwd inn f ds q).length = ds.length
  | 0, _, _ => rfl
  | _ + 1, _, [] => rfl
  | f + 1, ds, s :: q => by
    rw [bwd, bwd_length inn f]
    generalize inn s.toNat = l
    induction l generalizing ds q with
    | nil => rfl
    | cons p l ih =>
      rw [List.foldl_cons]
      have h1 : (bStep s.toNat (ds, q) p).1.length = ds.length := by unfold bStep; dsimp only; split <;> simp
      generalize hb : bStep s.toNat (ds, q) p = r at *
      obtain ⟨r1, r2⟩ := r
      rw [ih r1 r2, h1]
theorem backward_length (n : Nat) (es : List Ed) (tg : List Int) : (backward n es tg).length = n := by rw [backward, bwd_length, bStart_length]

set_option maxHeartbeats 1000000 in
theorem corea_any (v : Value) (a : Aut) (w : World) (ha : RdA w v a) (hs : a.small) :
    Calls Try.prog 27 #[v] w (Ret w (ListPost a.err (corea a))) := by
  have ha0 := ha
  obtain ⟨va, vm, ve, rfl, ⟨aa, ca, rfl, hra⟩, ⟨am, cm, rfl, hrm⟩, ⟨ae, ce, rfl, hre⟩⟩ := ha
  obtain ⟨i0, hi, hz0, hz1, hz2⟩ := info_parts Try.info_int
  have Ha0 := Lib.hid ha0
  have Hs := Lib.hid hs
  clear ha0 hs
  go_enter Try.func27, Try.ntmps27
  go_wp2_with fail
  refine (check_any _ a _ (Ha0.out.mono (by (repeat (first | with_reducible exact Below.refl _ _ | with_reducible exact Ha0 | (with_reducible refine belCall ?_ Ha0 (by first | omega | (simp; done) | (simp; omega) | (simp at *; omega))) | (with_reducible refine Below.alloc ?_ (by first | omega | (simp; done) | (simp; omega) | (simp at *; omega)) _) | (with_reducible refine Below.drew ?_) | (with_reducible refine Below.setCell ?_ (by first | omega | (simp; done) | (simp; omega) | (simp at *; omega)) _))))) Hs.out).mono ?_
  rintro e w1 ⟨_, rfl, rfl, hb1⟩
  have hW1 : Below w.heap.size w w1 := ((Below.refl _ _).alloc (Nat.le_refl _) _).trans (hb1.mono (by simp))
  have hbx := box4 hb1
  clear hb1
  by_cases h1 : a.err = 0
  · have hok := Aut.ok_of h1
    have H1 := Lib.hid h1
    rw [h1]
    clear h1
    have hn0 := hok.n0
    have hn1 := hok.n1
    have Hes := Lib.hid hok.es
    have Hms := Lib.hid hok.ms
    have hae := Hs.out.es
    have ham := Hs.out.ms
    clear hok
    generalize hn : a.n = an at *
    obtain ⟨n, rfl⟩ := Int.eq_ofNat_of_zero_le hn0
    have Hn := Lib.hid hn
    have hbd := box4' hbx (bel_drew w1)
    obtain ⟨x0, x1, x2, x3, x4⟩ := hbx
    obtain ⟨y0, y1, y2, y3, y4⟩ := hbd
    have hW1d := hW1.drew
    clear hn hn0
    go_wp2_with fail
    go_region_with (first
      | (go_at_call 48; refine (newGraph_any _ _ _ _ _ _ _ n a.es _ (RdE.mono ⟨ae, ce, rfl, hre⟩ hW1d) hae (by omega) (fun x hx => ⟨(Hes.out x hx).1, (Hes.out x hx).2.1⟩)).mono ?_; rintro e w3 ⟨_, rfl, ⟨af, cf, rfl, hrf⟩, hb3⟩; have hW3 := hW1d.trans (hb3.mono hW1d.size); obtain ⟨z0, z1, z2, z3, z4⟩ := box4' ⟨y0, y1, y2, y3, y4⟩ hb3)
      | (go_at_call 49; refine (backward_any _ _ _ _ _ _ _ _ _ _ _ n a.es a.ms _ (RdE.mono ⟨ae, ce, rfl, hre⟩ hW3) (RdI.mono ⟨am, cm, rfl, hrm⟩ hW3) hae ham (by omega) Hes.out Hms.out).mono ?_; rintro e w4 ⟨v4, rfl, ⟨a4, c4, rfl, hv4⟩, hb4⟩; have hW4 := hW3.trans (hb4.mono hW3.size)))
    all_goals
      have Hco : Hid (corea a = listL ((backward n a.es a.ms).map fun d => decide (0 ≤ d))) := by
        show _ = _
        rw [corea, Hn.out, Int.toNat_natCast]
      have hlen := backward_length n a.es a.ms
      clear x0 x1 x2 x3 x4 y0 y1 y2 y3 y4 z0 z1 z2 z3 z4 hW1 hW1d hW3 hb3 hb4 hrf
      generalize backward n a.es a.ms = D at *
      have hl2 : D.length ≤ 1000000 := by omega
      have hfl : (D.map fun d => decide (0 ≤ d)).length = D.length := by simp
      clear hlen
      go_wp2_with fail
      go_simp
      go_loopw [5, 19] (fun v i wr => ∃ k : Nat, k ≤ D.length ∧ i = .int .i64 k ∧ Below w4.heap.size w4 wr ∧ wr.ownsRow w4.heap.size 3 1 v (listK (D.map fun d => decide (0 ≤ d)) k).length (ints (listK (D.map fun d => decide (0 ≤ d)) k))) (fun _ i _ => D.length - (intOf i).toNat)
      case atStart => exact ⟨0, Nat.zero_le _, rfl, Below.refl _ _, by simpa [listK] using World.ownsRow_nil w4 w4.heap.size 3 1⟩
      case round =>
        obtain ⟨k, hk, rfl, hB, hown⟩ := hrel
        have hle := listK_le (D.map fun d => decide (0 ≤ d)) k
        have hsz := hB.size
        by_cases hlt : k < D.length
        · obtain ⟨b, off, rfl, hc⟩ := hv4.at_int k hlt
          replace hc := keep0 hB hc
          by_cases hx : 0 ≤ D[k]
          · have hs := Lib.hid (listK_true (fl := D.map fun d => decide (0 ≤ d)) (k := k) (by rw [hfl]; exact hlt) (by simpa using hx))
            go_wp2_with ((at_builtin; refine wpList_append_own _ rfl _ _ 28 rfl (w4.heap.size) 3 i0 (.int .i64 0) 1 8 Try.underlying28 hi hz0 hz1 hz2 rfl (by decide) _ ((listK (D.map fun d => decide (0 ≤ d)) k).length) _ rfl ((hown).alloc _) ⟨_, 0, none⟩ 1 1 [.int .i64 k] rfl rfl (new_cells _ [_] _) (by simp [Value.oneCell']) (by unfold maxLen; omega) (by omega) (by first | omega | (simp; done) | (simp; omega) | (simp at *; omega)) ?_; intro v1 w1 hown1 hgrow1 _); have Hown := Lib.hid hown1; clear hown1)
            go_roundw
            case rel =>
              refine ⟨k + 1, by omega, by go_num, Below.grown (by (repeat (first | with_reducible exact Below.refl _ _ | with_reducible exact hB | (with_reducible refine belCall ?_ hB (by first | omega | (simp; done) | (simp; omega) | (simp at *; omega))) | (with_reducible refine Below.alloc ?_ (by first | omega | (simp; done) | (simp; omega) | (simp at *; omega)) _) | (with_reducible refine Below.drew ?_) | (with_reducible refine Below.setCell ?_ (by first | omega | (simp; done) | (simp; omega) | (simp at *; omega)) _)))) hgrow1 (by first | omega | (simp; done) | (simp; omega) | (simp at *; omega)) (fun j e => (hown.lt j e).1), ?_⟩
              have h1 := Hown.out
              rw [hs.out]
              simpa [ints] using h1
            case measure => simp [intOf]; omega
          · have hs := Lib.hid (listK_false (fl := D.map fun d => decide (0 ≤ d)) (k := k) (by rw [hfl]; exact hlt) (by simpa using hx))
            go_wp2
            go_roundw
            case rel => exact ⟨k + 1, by omega, by go_num, hB, by rw [hs.out]; exact hown⟩
            case measure => simp [intOf]; omega
        · go_wp2
          go_ret2
          obtain rfl : k = D.length := by omega
          refine ⟨_, rfl, ?_, hW4.trans (hB.mono hW4.size)⟩
          rw [ListPost, if_pos H1.out, Hco.out]
          rw [← hfl] at hown
          exact ⟨_, rfl, RdI.of_own hown⟩
  · have H1 := Lib.hid h1
    have h1' : (a.err != 0) = true := by simpa using h1
    clear h1
    go_wp2_with fail
    go_ret2
    refine ⟨_, rfl, ?_, hW1⟩
    rw [ListPost, if_neg H1.out]
    rfl
end Go.Proofs.Ythchkddhibhenaa

namespace Go.Proofs.Ythchkddhibhenaa
open Go.RowKit

def sameB (xs ys : List Int) : Bool := xs == ys
theorem sameB_true {xs ys : List Int} : sameB xs ys = true ↔ xs = ys := by simp [sameB]

theorem same_any (v1 v2 : Value) (xs ys : List Int) (w : World) (h1 : RdI w v1 xs) (h2 : RdI w v2 ys) (_hl1 : xs.length ≤ 1000000) (hl2 : ys.length ≤ 1000000) :
    Calls Try.prog 19 #[v1, v2] w (Ret w fun u _ => u = .bool (sameB xs ys)) := by
  obtain ⟨a, cap, rfl, hr1⟩ := h1
  obtain ⟨a2, cap2, rfl, hr2⟩ := h2
  go_enter Try.func19, Try.ntmps19
  by_cases hlen : xs.length = ys.length
  · have hb : ((xs.length : Int) != ys.length) = false := by simp [hlen]
    have hle : xs.length ≤ ys.length := by omega
    have Hlen := Lib.hid hlen
    clear hlen
    go_wp2_with fail
    go_loopw [5] (fun i wr => ∃ k : Nat, k ≤ xs.length ∧ i = .int .i64 k ∧ Below w.heap.size w wr ∧ Hid (xs.take k = ys.take k)) (fun i _ => xs.length - (intOf i).toNat)
    case atStart => exact ⟨0, Nat.zero_le _, rfl, Below.refl _ _, rfl⟩
    case round =>
      obtain ⟨k, hk, rfl, hB, hn⟩ := hrel
      by_cases hlt : k < xs.length
      · obtain ⟨b, off, rfl, hc⟩ := hr1.at_int k hlt
        obtain ⟨b2, off2, rfl, hc2⟩ := hr2.at_int k (by omega)
        replace hc := keep0 hB hc
        replace hc2 := keep0 hB hc2
        have Hs1 := Lib.hid (take_snoc xs k hlt)
        have Hs2 := Lib.hid (take_snoc ys k (by omega))
        go_wp2_with fail
        go_region
        go_wp2
        · have hx : (xs[k] != ys[k]) = true := by assumption
          go_ret
          refine ⟨_, rfl, congrArg Value.bool ?_, hB.drew⟩
          symm
          rw [Bool.eq_false_iff]
          intro h
          have h := sameB_true.1 h
          subst h
          simp at hx
        · have hx : (xs[k] != ys[k]) = false := by assumption
          go_roundw
          case rel => exact ⟨k + 1, by omega, by go_num, hB.drew, by show _ = _; rw [Hs1.out, Hs2.out, hn.out]; simp at hx; rw [hx]⟩
          case measure => simp [intOf]; omega
      · go_wp2
        go_ret
        refine ⟨_, rfl, congrArg Value.bool ?_, hB⟩
        symm
        rw [sameB_true]
        have h := hn.out
        rwa [List.take_of_length_le (by omega), List.take_of_length_le (by have := Hlen.out; omega)] at h
  · have hb : ((xs.length : Int) != ys.length) = true := by rw [bne_iff_ne]; omega
    have Hlen := Lib.hid hlen
    clear hlen
    go_wp2_with fail
    go_ret
    refine ⟨_, rfl, congrArg Value.bool ?_, Below.refl _ _⟩
    symm
    rw [Bool.eq_false_iff]
    intro h
    exact Hlen.out (by rw [sameB_true.1 h])

end Go.Proofs.Ythchkddhibhenaa

namespace Go.Proofs.Ythchkddhibhenaa
open Go.RowKit

theorem exA_err : exA.err = 0 := by decide +kernel
theorem exA_small : exA.small := ⟨by decide, by decide, by decide⟩
theorem exA_corea : corea exA = [0, 1] := by decide +kernel
theorem exA_dist : backward exA.n.toNat exA.es [3] = [2, -1, 1, 0] := by decide +kernel
theorem exA_distErr : err2 exA.err (setErr exA.n none [3]) = 0 := by decide +kernel
theorem exA_path : reachPath exA 0 [3] [0, 1, 2, 3] = some [1, 0] := by decide +kernel
theorem exA_pathErr : pathErr exA 0 [3] [0, 1, 2, 3] = 0 := by decide +kernel
theorem exA_int : interior exA.n.toNat exA.es [0, 1, 2] [0] = [0, 1] := by decide +kernel
theorem exA_intErr : err2 exA.err (err2 (setErr exA.n none [0, 1, 2]) (setErr 32 none [0])) = 0 := by decide +kernel

/-- An automaton's value written out. -/
theorem RdA.val {w : World} {v : Value} {a : Aut} (h : RdA w v a) : ∃ aa ca am cm ae ce, v = .agg #[.slice aa a.al.length ca, .int .i64 a.n, .slice am a.ms.length cm, .slice ae a.es.length ce] := by
  obtain ⟨va, vm, ve, rfl, ⟨aa, ca, rfl, _⟩, ⟨am, cm, rfl, _⟩, ⟨ae, ce, rfl, _⟩⟩ := h
  exact ⟨_, _, _, _, _, _, rfl⟩

set_option maxRecDepth 100000 in
set_option maxHeartbeats 1600000 in
theorem known_any (w : World) : Calls Try.prog 12 #[] w (Ret w fun u _ => u = .bool true) := by
  go_enter Try.func12, Try.ntmps12
  go_wp2_with fail
  refine (example_any _).mono ?_
  rintro e w1 ⟨v1, rfl, ha1, hb1⟩
  have hW1 := hb1
  have Ha1 := Lib.hid ha1
  obtain ⟨aa1, ca1, am1, cm1, ae1, ce1, rfl⟩ := ha1.val
  clear ha1
  go_wp2_with fail
  refine (corea_any _ exA _ Ha1.out exA_small).mono ?_
  rintro e w2 ⟨v2, rfl, hp2, hb2⟩
  have hW2 := hW1.trans (hb2.mono hW1.size)
  rw [ListPost, if_pos exA_err, exA_corea] at hp2
  obtain ⟨v2, rfl, hr2⟩ := hp2
  have Hr2 := Lib.hid hr2
  obtain ⟨a2, c2, rfl, hr2'⟩ := hr2
  clear hr2' hb1 hb2
  go_wp2_with fail
  refine (example_any _).mono ?_
  rintro e w3 ⟨v3, rfl, ha3, hb3⟩
  have hW3 := hW2.trans (hb3.mono hW2.size)
  have Ha3 := Lib.hid ha3
  obtain ⟨aa3, ca3, am3, cm3, ae3, ce3, rfl⟩ := ha3.val
  have Hr2 := Lib.hid (Hr2.out.mono hb3)
  clear ha3 hb3
  go_wp2_with fail
  refine (distances_any _ _ exA [3] _ (Ha3.out.mono (bel_alloc _ _)) exA_small ⟨_, 1, rfl, RdS.lit (cs := #[.int .i64 3]) (t := 3) (by repeat (first | with_reducible assumption | (with_reducible refine heap_at ?_; (first | (simp; done) | (simp; omega))) | (with_reducible refine heap_past ?_ ?_; (next => first | omega | (simp; done) | (simp; omega))))) rfl (by decide)⟩ (by decide)).mono ?_
  rintro e w4 ⟨v4, rfl, hp4, hb4⟩
  have hW4 := (hW3.alloc hW3.size _).trans (hb4.mono (Nat.le_trans hW3.size (by simp)))
  rw [ListPost, if_pos exA_distErr, exA_dist] at hp4
  obtain ⟨v4, rfl, hr4⟩ := hp4
  have Hr4 := Lib.hid hr4
  obtain ⟨a4, c4, rfl, hr4'⟩ := hr4
  have Hr2 := Lib.hid (RdI.mono (RdI.mono Hr2.out (bel_alloc _ _)) hb4)
  clear hr4' hb4
  go_wp2_with fail
  refine (example_any _).mono ?_
  rintro e w5 ⟨v5, rfl, ha5, hb5⟩
  have hW5 := hW4.trans (hb5.mono hW4.size)
  have Ha5 := Lib.hid ha5
  obtain ⟨aa5, ca5, am5, cm5, ae5, ce5, rfl⟩ := ha5.val
  have Hr2 := Lib.hid (Hr2.out.mono hb5)
  have Hr4 := Lib.hid (Hr4.out.mono hb5)
  clear ha5 hb5
  go_wp2_with fail
  refine (rpath_any _ _ _ exA 0 [3] [0, 1, 2, 3] _ ((Ha5.out.mono (bel_alloc _ _)).mono (bel_alloc _ _)) exA_small ⟨_, 1, rfl, RdS.lit (cs := #[.int .i64 3]) (t := 3) (by repeat (first | with_reducible assumption | (with_reducible refine heap_at ?_; (first | (simp; done) | (simp; omega))) | (with_reducible refine heap_past ?_ ?_; (next => first | omega | (simp; done) | (simp; omega))))) rfl (by decide)⟩ ⟨_, 4, rfl, RdS.lit (cs := #[.int .i64 0, .int .i64 1, .int .i64 2, .int .i64 3]) (t := 3) (by repeat (first | with_reducible assumption | (with_reducible refine heap_at ?_; (first | (simp; done) | (simp; omega))) | (with_reducible refine heap_past ?_ ?_; (next => first | omega | (simp; done) | (simp; omega))))) rfl (by decide)⟩ (by decide) (by decide)).mono ?_
  rintro e w6 ⟨v6, rfl, hp6, hb6⟩
  have hW6 := ((hW5.alloc hW5.size _).alloc (Nat.le_trans hW5.size (by simp)) _).trans (hb6.mono (Nat.le_trans hW5.size (by simp; omega)))
  rw [exA_pathErr, exA_path] at hp6
  unfold PPost at hp6
  rw [if_pos rfl] at hp6
  obtain ⟨v6, rfl, hr6⟩ := hp6
  have Hr6 := Lib.hid hr6
  obtain ⟨a6, c6, rfl, hr6'⟩ := hr6
  have Hr2 := Lib.hid (RdI.mono (RdI.mono (RdI.mono Hr2.out (bel_alloc _ _)) (bel_alloc _ _)) hb6)
  have Hr4 := Lib.hid (RdI.mono (RdI.mono (RdI.mono Hr4.out (bel_alloc _ _)) (bel_alloc _ _)) hb6)
  clear hr6' hb6
  go_wp2_with fail
  refine (example_any _).mono ?_
  rintro e w7 ⟨v7, rfl, ha7, hb7⟩
  have hW7 := hW6.trans (hb7.mono hW6.size)
  have Ha7 := Lib.hid ha7
  obtain ⟨aa7, ca7, am7, cm7, ae7, ce7, rfl⟩ := ha7.val
  have Hr2 := Lib.hid (Hr2.out.mono hb7)
  have Hr4 := Lib.hid (Hr4.out.mono hb7)
  have Hr6 := Lib.hid (Hr6.out.mono hb7)
  clear ha7 hb7
  go_wp2_with fail
  refine (interior_any _ _ _ exA [0, 1, 2] [0] _ ((Ha7.out.mono (bel_alloc _ _)).mono (bel_alloc _ _)) exA_small ⟨_, 3, rfl, RdS.lit (cs := #[.int .i64 0, .int .i64 1, .int .i64 2]) (t := 3) (by repeat (first | with_reducible assumption | (with_reducible refine heap_at ?_; (first | (simp; done) | (simp; omega))) | (with_reducible refine heap_past ?_ ?_; (next => first | omega | (simp; done) | (simp; omega))))) rfl (by decide)⟩ ⟨_, 1, rfl, RdS.lit (cs := #[.int .i64 0]) (t := 3) (by repeat (first | with_reducible assumption | (with_reducible refine heap_at ?_; (first | (simp; done) | (simp; omega))) | (with_reducible refine heap_past ?_ ?_; (next => first | omega | (simp; done) | (simp; omega))))) rfl (by decide)⟩ (by decide) (by decide)).mono ?_
  rintro e w8 ⟨v8, rfl, hp8, hb8⟩
  have hW8 := ((hW7.alloc hW7.size _).alloc (Nat.le_trans hW7.size (by simp)) _).trans (hb8.mono (Nat.le_trans hW7.size (by simp; omega)))
  rw [ListPost, if_pos exA_intErr, exA_int] at hp8
  obtain ⟨v8, rfl, hr8⟩ := hp8
  have Hr8 := Lib.hid hr8
  obtain ⟨a8, c8, rfl, hr8'⟩ := hr8
  have Hr2 := Lib.hid (RdI.mono (RdI.mono (RdI.mono Hr2.out (bel_alloc _ _)) (bel_alloc _ _)) hb8)
  have Hr4 := Lib.hid (RdI.mono (RdI.mono (RdI.mono Hr4.out (bel_alloc _ _)) (bel_alloc _ _)) hb8)
  have Hr6 := Lib.hid (RdI.mono (RdI.mono (RdI.mono Hr6.out (bel_alloc _ _)) (bel_alloc _ _)) hb8)
  clear hr8' hb8 hW1 hW2 hW3 hW4 hW5 hW6 hW7 Ha1 Ha3 Ha5 Ha7
  go_wp2_with fail
  refine (same_any _ _ [0, 1] [0, 1] _ (Hr2.out.mono (bel_alloc _ _)) ⟨_, 2, rfl, RdS.lit (cs := #[.int .i64 0, .int .i64 1]) (t := 3) (by repeat (first | with_reducible assumption | (with_reducible refine heap_at ?_; (first | (simp; done) | (simp; omega))) | (with_reducible refine heap_past ?_ ?_; (next => first | omega | (simp; done) | (simp; omega))))) rfl (by decide)⟩ (by decide) (by decide)).mono ?_
  rintro e w9 ⟨_, rfl, rfl, hb9⟩
  have hW9 := (hW8.alloc hW8.size _).trans (hb9.mono (Nat.le_trans hW8.size (by simp)))
  have Hr4 := Lib.hid (RdI.mono (RdI.mono Hr4.out (bel_alloc _ _)) hb9)
  have Hr6 := Lib.hid (RdI.mono (RdI.mono Hr6.out (bel_alloc _ _)) hb9)
  have Hr8 := Lib.hid (RdI.mono (RdI.mono Hr8.out (bel_alloc _ _)) hb9)
  rw [show sameB [0, 1] [0, 1] = true by decide]
  clear hb9 hW8
  go_wp2_with fail
  refine (same_any _ _ [2, -1, 1, 0] [2, -1, 1, 0] _ (Hr4.out.mono (bel_alloc _ _)) ⟨_, 4, rfl, RdS.lit (cs := #[.int .i64 2, .int .i64 (-1), .int .i64 1, .int .i64 0]) (t := 3) (by repeat (first | with_reducible assumption | (with_reducible refine heap_at ?_; (first | (simp; done) | (simp; omega))) | (with_reducible refine heap_past ?_ ?_; (next => first | omega | (simp; done) | (simp; omega))))) rfl (by decide)⟩ (by decide) (by decide)).mono ?_
  rintro e w10 ⟨_, rfl, rfl, hb10⟩
  have hW10 := (hW9.alloc hW9.size _).trans (hb10.mono (Nat.le_trans hW9.size (by simp)))
  have Hr6 := Lib.hid (RdI.mono (RdI.mono Hr6.out (bel_alloc _ _)) hb10)
  have Hr8 := Lib.hid (RdI.mono (RdI.mono Hr8.out (bel_alloc _ _)) hb10)
  rw [show sameB [2, -1, 1, 0] [2, -1, 1, 0] = true by decide]
  clear hb10 hW9
  go_wp2_with fail
  refine (same_any _ _ [1, 0] [1, 0] _ (Hr6.out.mono (bel_alloc _ _)) ⟨_, 2, rfl, RdS.lit (cs := #[.int .i64 1, .int .i64 0]) (t := 3) (by repeat (first | with_reducible assumption | (with_reducible refine heap_at ?_; (first | (simp; done) | (simp; omega))) | (with_reducible refine heap_past ?_ ?_; (next => first | omega | (simp; done) | (simp; omega))))) rfl (by decide)⟩ (by decide) (by decide)).mono ?_
  rintro e w11 ⟨_, rfl, rfl, hb11⟩
  have hW11 := (hW10.alloc hW10.size _).trans (hb11.mono (Nat.le_trans hW10.size (by simp)))
  have Hr8 := Lib.hid (RdI.mono (RdI.mono Hr8.out (bel_alloc _ _)) hb11)
  rw [show sameB [1, 0] [1, 0] = true by decide]
  clear hb11 hW10
  go_wp2_with fail
  refine (same_any _ _ [0, 1] [0, 1] _ (Hr8.out.mono (bel_alloc _ _)) ⟨_, 2, rfl, RdS.lit (cs := #[.int .i64 0, .int .i64 1]) (t := 3) (by repeat (first | with_reducible assumption | (with_reducible refine heap_at ?_; (first | (simp; done) | (simp; omega))) | (with_reducible refine heap_past ?_ ?_; (next => first | omega | (simp; done) | (simp; omega))))) rfl (by decide)⟩ (by decide) (by decide)).mono ?_
  rintro e w12 ⟨_, rfl, rfl, hb12⟩
  have hW12 := (hW11.alloc hW11.size _).trans (hb12.mono (Nat.le_trans hW11.size (by simp)))
  rw [show sameB [0, 1] [0, 1] = true by decide]
  go_wp2_with fail
  go_ret
  exact ⟨_, rfl, rfl, hW12⟩
end Go.Proofs.Ythchkddhibhenaa

namespace Go.Proofs.Ythchkddhibhenaa
open Go.RowKit Go.Shelf

/-- An edge is looked at: the flags and the queue. -/
def fwStep (perm : Ed → Bool) (acc : List Bool × List Int) (x : Ed) : List Bool × List Int :=
  if acc.1[x.t.toNat]?.getD true = false ∧ perm x = true then (acc.1.set x.t.toNat true, acc.2 ++ [x.t]) else acc
/-- The search. -/
def fwd (sub : Int → List Ed) (perm : Ed → Bool) : Nat → List Bool → List Int → List Bool
  | 0, seen, _ => seen
  | _ + 1, seen, [] => seen
  | f + 1, seen, s :: q => fwd sub perm f ((sub s).foldl (fwStep perm) (seen, q)).1 ((sub s).foldl (fwStep perm) (seen, q)).2
structure FOk (n m : Nat) (seen : List Bool) (q : List Int) : Prop where
  len : seen.length = n
  range : ∀ s ∈ q, 0 ≤ s ∧ s < (n : Int)
  sum : seen.count false + q.length ≤ m
theorem count_set_false {l : List Bool} {j : Nat} (h : l[j]? = some false) : (l.set j true).count false + 1 = l.count false := by
  induction l generalizing j with
  | nil => simp at h
  | cons a l ih =>
    cases j with
    | zero => simp at h; subst h; simp
    | succ j =>
      simp at h
      rw [List.set_cons_succ, List.count_cons, List.count_cons, ← ih h]
      omega
theorem FOk.step {n m : Nat} {perm : Ed → Bool} {seen : List Bool} {q : List Int} (h : FOk n m seen q) (x : Ed) (h0 : 0 ≤ x.t) (h1 : x.t < (n : Int)) : FOk n m (fwStep perm (seen, q) x).1 (fwStep perm (seen, q) x).2 := by
  unfold fwStep
  dsimp only
  split
  · rename_i hc
    have hlt : x.t.toNat < seen.length := by rw [h.len]; omega
    have hs : seen[x.t.toNat]? = some false := by
      have := hc.1
      rw [List.getElem?_eq_getElem hlt] at this ⊢
      simpa using this
    have h2 := count_set_false hs
    have h3 := h.sum
    refine ⟨by simp [h.len], fun s hs => ?_, by simp only [List.length_append, List.length_singleton]; omega⟩
    rcases List.mem_append.1 hs with h4 | h4
    · exact h.range s h4
    · rw [List.mem_singleton.1 h4]; exact ⟨h0, h1⟩
  · exact h
theorem FOk.fold {n m : Nat} {perm : Ed → Bool} : ∀ (l : List Ed) {seen : List Bool} {q : List Int}, FOk n m seen q → (∀ x ∈ l, 0 ≤ x.t ∧ x.t < (n : Int)) → FOk n m (l.foldl (fwStep perm) (seen, q)).1 (l.foldl (fwStep perm) (seen, q)).2
  | [], _, _, h, _ => h
  | x :: l, seen, q, h, hx => by
    have h1 := h.step (perm := perm) x (hx x (List.mem_cons_self ..)).1 (hx x (List.mem_cons_self ..)).2
    exact FOk.fold l h1 (fun y hy => hx y (List.mem_cons_of_mem _ hy))
/-- What forward returns. -/
def forwardF (n : Nat) (es : List Ed) (perm : Ed → Bool) (start : List Int) : List Bool := fwd (subOf es) perm ((flagL n start).count false + start.length + 1) (flagL n start) start

theorem fwd_length {n : Nat} {es : List Ed} {perm : Ed → Bool} (hin : ∀ x ∈ es, 0 ≤ x.t ∧ x.t < (n : Int)) : ∀ (f m : Nat) {seen : List Bool} {q : List Int}, FOk n m seen q → (fwd (subOf es) perm f seen q).length = n
  | 0, _, _, _, h => h.len
  | f + 1, _, _, [], h => h.len
  | f + 1, m, seen, s :: q, h => by
    rw [fwd]
    have h0 : FOk n m seen q := ⟨h.len, fun t ht => h.range t (List.mem_cons_of_mem _ ht), by have := h.sum; simp only [List.length_cons] at this; omega⟩
    exact fwd_length hin f m (FOk.fold (perm := perm) (subOf es s) h0 (fun x hx => hin x (subOf_mem hx)))
theorem forwardF_length {perm : Ed → Bool} (n : Nat) (es : List Ed) (start : List Int) (hin : ∀ x ∈ es, 0 ≤ x.t ∧ x.t < (n : Int)) (hst : ∀ s ∈ start, 0 ≤ s ∧ s < (n : Int)) : (forwardF n es perm start).length = n :=
  fwd_length hin _ _ ⟨flagL_length n start, hst, Nat.le_refl _⟩
/-- What holds while forward searches. -/
structure FInv (w : World) (G : Array Value) (FP : Value) (n b7 b8 : Nat) (vs : Value) (ds : List Deferred) (wr : World) (tag : Nat → Nat) (vq : Value) (seen : List Bool) (q : List Int) : Prop where
  below : Below w.heap.size w wr
  marks : Marks w.heap.size wr ds
  g : Own wr w.heap.size tag 0 w.heap.size G 80
  fp : Own wr w.heap.size tag 0 (w.heap.size + 1) #[FP] 90
  eb : Own wr w.heap.size tag 0 b7 #[vs] 86
  qb : Own wr w.heap.size tag 3 b8 #[vq] 28
  se : Row wr w.heap.size tag 1 4 1 vs n (bools seen)
  st : Row wr w.heap.size tag 2 3 1 vq q.length (ints q)

section
variable {w : World} {G : Array Value} {FP : Value} {n b7 b8 : Nat} {vs : Value} {ds : List Deferred} {wr wr' : World} {tag tag' : Nat → Nat} {vq : Value} {seen : List Bool} {q : List Int}
theorem FInv.call (h : FInv w G FP n b7 b8 vs ds wr tag vq seen q) (hb : Below wr.heap.size wr wr') : FInv w G FP n b7 b8 vs ds wr' tag vq seen q :=
  ⟨belCall h.below hb h.below.size, h.marks.below hb, h.g.below hb, h.fp.below hb, h.eb.below hb, h.qb.below hb, h.se.below hb, h.st.below hb⟩
theorem FInv.others {s : Nat} {row : Option Nat} (h : FInv w G FP n b7 b8 vs ds wr tag vq seen q) (hg : wr.grownBy wr' row) (hs : ∀ D, mark D ∈ ds → D < s) (hws : w.heap.size ≤ s) (hr : ∀ r, row = some r → s ≤ r ∧ ∃ o : Obj, wr.heap[r]? = some o ∧ o.isCells = false) : FInv w G FP n b7 b8 vs ds wr' tag vq seen q :=
  ⟨belOthers h.below hg h.below.size hws (fun r e => (hr r e).1), h.marks.others hs hg (fun r e => (hr r e).1), h.g.others hg (fun r e => (hr r e).2), h.fp.others hg (fun r e => (hr r e).2), h.eb.others hg (fun r e => (hr r e).2), h.qb.others hg (fun r e => (hr r e).2), h.se.others hg (fun r e => (hr r e).2), h.st.others hg (fun r e => (hr r e).2)⟩
theorem FInv.retag {bx : Nat} {cx : Array Value} (h : FInv w G FP n b7 b8 vs ds wr tag vq seen q) (hx : wr.heap[bx]? = some (.cells cx 45 (0, 0))) : FInv w G FP n b7 b8 vs ds wr (tagUp tag bx 5) vq seen q :=
  ⟨h.below, h.marks, h.g.retag hx (by decide), h.fp.retag hx (by decide), h.eb.retag hx (by decide), h.qb.retag hx (by decide), h.se.retag hx (by decide), h.st.retag hx (by decide)⟩
/-- A flag is set. -/
theorem FInv.setSeen {bs os cs : Nat} (h : FInv w G FP n b7 b8 (.slice (some ⟨bs, os, none⟩) n cs) ds wr tag vq seen q) (j : Nat) : FInv w G FP n b7 b8 (.slice (some ⟨bs, os, none⟩) n cs) ds (wr.setCell ⟨bs, os + j, none⟩ (.bool true)) tag vq (seen.set j true) q ∧ Turn w.heap.size tag tag 1 wr (wr.setCell ⟨bs, os + j, none⟩ (.bool true)) := by
  have h1 := h.se.set j (.bool true)
  refine ⟨⟨belTurn h.below h1.2 h.below.size, h.marks.turn h1.2, h.g.turn h1.2 (by decide), h.fp.turn h1.2 (by decide), h.eb.turn h1.2 (by decide), h.qb.turn h1.2 (by decide), ?_, h.st.turn h1.2 (by decide)⟩, h1.2⟩
  have h2 := h1.1
  rwa [show bools (seen.set j true) = (bools seen).set j (.bool true) from List.map_set ..]
/-- The queue's box gets another value. -/
theorem FInv.setQ {vq' : Value} {q' : List Int} (h : FInv w G FP n b7 b8 vs ds wr tag vq seen q) (hr : Row wr w.heap.size tag 2 3 1 vq' q'.length (ints q')) : FInv w G FP n b7 b8 vs ds (wr.setCell ⟨b8, 0, none⟩ vq') tag vq' seen q' := by
  have h1 := Turn.setCell h.qb 0 vq'
  have h2 := h.qb.set 0 vq'
  exact ⟨belTurn h.below h1 h.below.size, h.marks.turn h1, h.g.turn h1 (by decide), h.fp.turn h1 (by decide), h.eb.turn h1 (by decide), h2, h.se.turn h1 (by decide), hr.turn h1 (by decide)⟩
/-- A state more in the queue, and the box that holds it. -/
theorem FInv.push {vq' : Value} {x : Int} (h : FInv w G FP n b7 b8 vs ds wr tag vq seen q) (hr : Row wr' w.heap.size tag' 2 3 1 vq' (q.length + 1) (ints q ++ [.int .i64 x])) (ht : Turn w.heap.size tag tag' 2 wr wr') :
    FInv w G FP n b7 b8 vs ds (wr'.setCell ⟨b8, 0, none⟩ vq') tag' vq' seen (q ++ [x]) := by
  have hs := h.qb.turn ht (by decide)
  have h1 := Turn.setCell hs 0 vq'
  have h2 := hs.set 0 vq'
  have hB : w.heap.size ≤ wr'.heap.size := Nat.le_trans h.below.size ht.size
  exact ⟨belTurn (belTurn h.below ht h.below.size) h1 hB, (h.marks.turn ht).turn h1, (h.g.turn ht (by decide)).turn h1 (by decide), (h.fp.turn ht (by decide)).turn h1 (by decide), (h.eb.turn ht (by decide)).turn h1 (by decide), h2, (h.se.turn ht (by decide)).turn h1 (by decide), by rw [List.length_append, show ints (q ++ [x]) = ints q ++ [.int .i64 x] by simp [ints]]; exact hr.turn h1 (by decide)⟩
/-- Another mark. -/
theorem FInv.mark {s D : Nat} (h : FInv w G FP n b7 b8 vs ds wr tag vq seen q) (hs : ∀ D', Go.Proofs.Ythchkddhibhenaa.mark D' ∈ ds → D' < s) (hD : s ≤ D) (hB : w.heap.size ≤ s) (hd : wr.heap[D]? = some (.deferred (some []))) : FInv w G FP n b7 b8 vs (Go.Proofs.Ythchkddhibhenaa.mark D :: ds) wr tag vq seen q :=
  { h with marks := h.marks.cons hs hD (Nat.le_trans hB hD) hd }
end
end Go.Proofs.Ythchkddhibhenaa

