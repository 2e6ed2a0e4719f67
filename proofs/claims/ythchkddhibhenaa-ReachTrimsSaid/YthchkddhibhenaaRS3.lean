/- The contract of the iterator over the edges of a state. -/
import Derived.RangeFuncNested
import Derived.RangeFuncBound
import Derived.RangeFuncCalls
import Derived.RangeFuncLeaves
import Derived.Shelf.Abstract
import Derived.Shelf.RegionOpen
import Derived.OwnWalkIn
import Derived.TacticsInMore
import Derived.LoopNIn
import Derived.LoopIn
import Derived.Test.YthchkddhibhenaaRS1
import Derived.Test.YthchkddhibhenaaRS2
namespace Go.Proofs.Ythchkddhibhenaa
open Go.RowKit Go.Shelf
attribute [local go_sem] Oper.semAt_some

/-- An edge as one value. -/
def Ed.val (x : Ed) : Value := .agg #[.int .i64 x.f, .int .i64 x.e, .int .i64 x.t]
def edEnc {sub : List Ed} (x : { x : Ed // x ∈ sub }) : Array Value := #[x.1.val]

set_option maxRecDepth 100000 in
set_option maxHeartbeats 2000000 in
theorem edges1_in (l bg bs n₀ : Nat) (ae af : Option Addr) (ce lf cf : Nat) (s : Int) (es : List Ed) (lo hi : Nat) (hlo : lo < hi) (hhi : hi ≤ es.length) (hl : es.length ≤ 1000000)
    (J Jx : List { x : Ed // x ∈ (es.drop lo).take (hi - lo) } → World → Prop)
    (W : World) (habJ : AbidesFrom W.heap.size J) (hn0 : n₀ ≤ W.heap.size)
    (hY : ∀ pre x W, J pre W → pre.length < hi - lo → YieldAt Fence.wide 2 Try.prog l (edEnc x) W fun e W' =>
      (e = .returned (.bool true) ∧ J (pre ++ [x]) W' ∧ Below n₀ W W') ∨ (e = .returned (.bool false) ∧ Jx (pre ++ [x]) W'))
    (hg3 : W.cell? ⟨bg, 3, none⟩ = some (.slice ae es.length ce)) (hg4 : W.cell? ⟨bg, 4, none⟩ = some (.slice af lf cf)) (hs : W.cell? ⟨bs, 0, none⟩ = some (.int .i64 s)) (hs0 : 0 ≤ s) (hs1 : s + 1 < lf)
    (bf offf : Nat) (haf : af = some ⟨bf, offf, none⟩) (hlf : lf ≤ 1000001) (hf0 : W.cell? ⟨bf, offf + s.toNat, none⟩ = some (.int .i64 lo)) (hf1 : W.cell? ⟨bf, offf + (s + 1).toNat, none⟩ = some (.int .i64 hi))
    (hre : RdS W 3 ae es.length ce (edCells es)) (hbe : ∀ ad, ae = some ad → ad.block < n₀) (h0 : J [] W) :
    CallsIn Fence.wide 3 Try.prog 84 #[.func (.yield l) #[] #[], .pointer (some ⟨bg, 0, none⟩), .pointer (some ⟨bs, 0, none⟩)] W fun e W' => (∃ v, e = .returned v) ∧
      ((∃ ys, ys.map (·.1) = (es.drop lo).take (hi - lo) ∧ J ys W') ∨ (∃ pre, Jx pre W')) := by
  refine callsIn_of_wp Try.func84 rfl trivial ?_ rfl
  simp only [Try.ntmps84, List.size_toArray, List.length_cons, List.length_nil, Nat.reduceAdd, Nat.reduceSub, Array.replicate_succ, Array.replicate_zero, List.push_toArray, List.append_toArray, List.nil_append, List.cons_append]
  subst haf
  obtain ⟨be, offe, rfl, _⟩ := hre.at_elem lo (by omega)
  have hcap := hre.hcap
  have hne : ¬ ce = lo := by omega
  have Hre := Lib.hid hre
  have hbe' := hbe _ rfl
  have w1 : IntKind.i64.wrap (s + 1) = s + 1 := IntWalk.i64_in _ (by omega)
  clear hbe hre
  gi_wp2_with fail
  gi_region
  all_goals gi_wp2
  gi_loopw [22] (fun i wr => ∃ k : Nat, k ≤ hi - lo ∧ i = .int .i64 k ∧ (∃ ys, ys.map (·.1) = ((es.drop lo).take (hi - lo)).take k ∧ J ys wr) ∧ Below n₀ W wr) (fun i _ => hi - lo - (intOf i).toNat)
  case atStart => exact ⟨0, Nat.zero_le _, rfl, ⟨[], by simp, habJ [] W W.drew none h0 ⟨rfl, rfl, rfl, Nat.le_refl _, fun _ _ _ => rfl⟩ (fun r e => (by cases e))⟩, (Below.refl _ _).drew⟩
  case round =>
    obtain ⟨k, hk, rfl, ⟨ys, hys, hJ⟩, hB⟩ := hrel
    by_cases hlt : k < hi - lo
    · have hlen : ys.length = k := by
        have := congrArg List.length hys
        simp at this; omega
      have hsub : k < ((es.drop lo).take (hi - lo)).length := by simp; omega
      have hel : ((es.drop lo).take (hi - lo))[k] = es[lo + k] := by simp
      obtain ⟨be', offe', e1, c0, c1, c2⟩ := Hre.out.at_edge (lo + k) (by omega)
      cases e1
      rw [show offe + (lo + k) * 3 = offe + lo * 3 + k * 3 by omega] at c0 c1 c2
      replace c0 := keep hB c0 hbe'
      replace c1 := keep hB c1 hbe'
      replace c2 := keep hB c2 hbe'
      have hJ2 := habJ ys wr (wr.alloc (.cells #[.int .i64 es[lo + k].f, .int .i64 es[lo + k].e, .int .i64 es[lo + k].t] 45)) none hJ (World.grownBy_alloc _ _ _) (fun r e => (by cases e))
      obtain ⟨fn, tmps, assign, body, hy, hR⟩ := hY ys ⟨es[lo + k], hel ▸ List.getElem_mem hsub⟩ _ hJ2 (by omega)
      dsimp only [edEnc, Ed.val] at hy
      gi_wp2
      refine hR.mono ?_
      rintro e W3 (⟨rfl, hJ3, hk3⟩ | ⟨rfl, hJx3⟩)
      · gi_wp2
        go_roundw
        case rel => exact ⟨k + 1, by omega, by go_num, ⟨_, by rw [List.map_append, hys, take_snoc _ k hsub]; simp, hJ3⟩, (hB.alloc (by have := hB.size; omega) _).trans hk3⟩
        case measure => simp [intOf]; omega
      · gi_wp2
        refine bodyPost_ret (results_none rfl _ _ _) rfl ?_
        exact ⟨⟨_, rfl⟩, .inr ⟨_, hJx3⟩⟩
    · obtain rfl : k = hi - lo := by omega
      gi_wp2
      go_end0
      exact ⟨⟨_, rfl⟩, .inl ⟨ys, by rw [hys, List.take_of_length_le (by simp; omega)], hJ⟩⟩
end Go.Proofs.Ythchkddhibhenaa
