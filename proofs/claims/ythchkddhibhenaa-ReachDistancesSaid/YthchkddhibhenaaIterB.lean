/- The contract of the iterator over the edges of a state, where there is none. -/
import Derived.Test.YthchkddhibhenaaIter
namespace Go.Proofs.Ythchkddhibhenaa
open Go.RowKit Go.Shelf
attribute [local go_sem] Oper.semAt_some

set_option maxRecDepth 100000 in
set_option maxHeartbeats 2000000 in
theorem edges0_in {α : Type} (l bg bs : Nat) (ae : Option Addr) (ce lf cf : Nat) (s : Int) (es : List Ed) (lo : Nat) (hhi : lo ≤ es.length) (hl : es.length ≤ 1000000)
    (J : List α → World → Prop) (W : World) (habJ : AbidesFrom W.heap.size J)
    (hs0 : 0 ≤ s) (hs1 : s + 1 < lf)
    (bf offf : Nat) (hg3 : W.cell? ⟨bg, 3, none⟩ = some (.slice ae es.length ce)) (hg4 : W.cell? ⟨bg, 4, none⟩ = some (.slice (some ⟨bf, offf, none⟩) lf cf)) (hs : W.cell? ⟨bs, 0, none⟩ = some (.int .i64 s)) (hlf : lf ≤ 1000001) (hf0 : W.cell? ⟨bf, offf + s.toNat, none⟩ = some (.int .i64 lo)) (hf1 : W.cell? ⟨bf, offf + (s + 1).toNat, none⟩ = some (.int .i64 lo))
    (hre : RdS W 3 ae es.length ce (edCells es)) (h0 : J [] W) :
    CallsIn Fence.wide 3 Try.prog 84 #[.func (.yield l) #[] #[], .pointer (some ⟨bg, 0, none⟩), .pointer (some ⟨bs, 0, none⟩)] W fun e W' => (∃ v, e = .returned v) ∧ J [] W' := by
  have hD := habJ [] W W.drew none h0 ⟨rfl, rfl, rfl, Nat.le_refl _, fun _ _ _ => rfl⟩ (fun r e => (by cases e))
  have HD := Lib.hid hD
  clear hD h0 habJ
  have w1 : IntKind.i64.wrap (s + 1) = s + 1 := IntWalk.i64_in _ (by omega)
  have hcap := hre.hcap
  refine callsIn_of_wp Try.func84 rfl trivial ?_ rfl
  simp only [Try.ntmps84, List.size_toArray, List.length_cons, List.length_nil, Nat.reduceAdd, Nat.reduceSub, Array.replicate_succ, Array.replicate_zero, List.push_toArray, List.append_toArray, List.nil_append, List.cons_append]
  cases ae with
  | none =>
    obtain rfl : ce = 0 := hre.hnil rfl
    have h1 : es = [] := List.eq_nil_of_length_eq_zero (by omega)
    subst h1
    obtain rfl : lo = 0 := by simpa using hhi
    simp only [List.length_nil] at hg3
    clear hre
    gi_wp2_with fail
    gi_region
    gi_wp2
    gi_loopw [22] (fun i wr => i = .int .i64 0 ∧ J [] wr) (fun i _ => 0)
    case atStart => exact ⟨rfl, HD.out⟩
    case round =>
      obtain ⟨rfl, hJ⟩ := hrel
      gi_wp2
      go_end0
      exact ⟨⟨_, rfl⟩, hJ⟩
  | some ad =>
    obtain ⟨be, offe, sp⟩ := ad
    obtain rfl : sp = none := hre.spot _ rfl
    clear hre
    by_cases hne : ce = lo
    all_goals
      gi_wp2_with fail
      gi_region
      gi_wp2
      gi_loopw [22] (fun i wr => i = .int .i64 0 ∧ J [] wr) (fun i _ => 0)
      case atStart => exact ⟨rfl, HD.out⟩
      case round =>
        obtain ⟨rfl, hJ⟩ := hrel
        gi_wp2
        go_end0
        exact ⟨⟨_, rfl⟩, hJ⟩
end Go.Proofs.Ythchkddhibhenaa
