/- Ranging over the edges of a state: the law for the caller; the marks that it leaves; a function that leaves with marks. -/
import Derived.Test.YthchkddhibhenaaIterB
import Derived.Test.YthchkddhibhenaaMarks
namespace Go.Proofs.Ythchkddhibhenaa
open Go.RowKit Go.Shelf

theorem edges_any (aa am ae af : Option Addr) (la lm le lf ca cm ce cf : Nat) (n s : Int) (w : World) :
    Calls Try.prog 68 #[.agg #[.slice aa la ca, .int .i64 n, .slice am lm cm, .slice ae le ce, .slice af lf cf], .int .i64 s] w fun e w' =>
      e = .returned (.func (.func 84) #[] #[.pointer (some ⟨w.heap.size, 0, none⟩), .pointer (some ⟨w.heap.size + 1, 0, none⟩)]) ∧
      w' = (w.alloc (.cells #[.slice aa la ca, .int .i64 n, .slice am lm cm, .slice ae le ce, .slice af lf cf] 80)).alloc (.cells #[.int .i64 s] 3) := by
  have hmf : ∀ (fn : Fn) (first cap : Array Value) (w : World), (Instr.makeFunc fn first cap).run Try.prog w = .ok (.func fn first cap) w := fun _ _ _ _ => rfl
  go_enter Try.func68, Try.ntmps68
  go_wp2
  go_ret
  exact ⟨rfl, rfl⟩

/-- The edges of a part of the list. -/
def edSub (es : List Ed) (lo hi : Nat) : List Ed := (es.drop lo).take (hi - lo)

theorem edges_stops (bg bs n₀ : Nat) (ae af : Option Addr) (ce lf cf : Nat) (s : Int) (es : List Ed) (lo hi : Nat) (hlo : lo ≤ hi) (hhi : hi ≤ es.length) (hl : es.length ≤ 1000000) (w : World) (hn0 : n₀ ≤ w.heap.size)
    (hg3 : w.cell? ⟨bg, 3, none⟩ = some (.slice ae es.length ce)) (hg4 : w.cell? ⟨bg, 4, none⟩ = some (.slice af lf cf)) (hs : w.cell? ⟨bs, 0, none⟩ = some (.int .i64 s)) (hs0 : 0 ≤ s) (hs1 : s + 1 < lf)
    (bf offf : Nat) (haf : af = some ⟨bf, offf, none⟩) (hlf : lf ≤ 1000001) (hf0 : w.cell? ⟨bf, offf + s.toNat, none⟩ = some (.int .i64 lo)) (hf1 : w.cell? ⟨bf, offf + (s + 1).toNat, none⟩ = some (.int .i64 hi))
    (hre : RdS w 3 ae es.length ce (edCells es)) (hbe : 0 < es.length → ∀ ad, ae = some ad → ad.block < n₀) :
    SeqStopsK Fence.wide 3 Try.prog 84 #[.pointer (some ⟨bg, 0, none⟩), .pointer (some ⟨bs, 0, none⟩)] (edEnc (sub := edSub es lo hi)) (Below n₀) (fun ys => ys.map (·.1) = edSub es lo hi) (fun _ => True) (hi - lo) w := by
  intro l J Jx W hW hJ hJx hY h0
  by_cases h : lo < hi
  · have hb := edges1_in l bg bs n₀ ae af ce lf cf s es lo hi h hhi hl J Jx W hJ (Nat.le_trans hn0 hW.size) hY (keep0 hW hg3) (keep0 hW hg4) (keep0 hW hs) hs0 hs1 bf offf haf hlf (keep0 hW hf0) (keep0 hW hf1) (hre.mono hW) (hbe (by omega)) h0
    refine hb.mono ?_
    rintro e W' ⟨h1, h2⟩
    exact ⟨h1, h2.imp id fun ⟨pre, hp⟩ => ⟨pre, trivial, hp⟩⟩
  · obtain rfl : lo = hi := by omega
    subst haf
    have hb := edges0_in l bg bs ae ce lf cf s es lo hhi hl J W hJ hs0 hs1 bf offf (keep0 hW hg3) (keep0 hW hg4) (keep0 hW hs) hlf (keep0 hW hf0) (keep0 hW hf1) (hre.mono hW) h0
    refine hb.mono ?_
    rintro e W' ⟨h1, h2⟩
    exact ⟨h1, .inl ⟨[], by simp [edSub], h2⟩⟩


theorem wp_edges {g : Operand} {ps : Array Tmp} {assign body : Code} {Q : Exit → Act → World → Prop} {a : Act} {w : World} {bg bs n₀ N : Nat} {sub : List Ed} {w0 : World}
    (hg : a.eval g = .func (.func 84) #[] #[.pointer (some ⟨bg, 0, none⟩), .pointer (some ⟨bs, 0, none⟩)])
    (hseq : SeqStopsK Fence.wide 3 Try.prog 84 #[.pointer (some ⟨bg, 0, none⟩), .pointer (some ⟨bs, 0, none⟩)] (edEnc (sub := sub)) (Below n₀) (fun ys => ys.map (·.1) = sub) (fun _ => True) N w0)
    (hb0 : Below w0.heap.size w0 w) (hn0 : n₀ ≤ w.heap.size) (hps : ps.size = 1)
    (I : List Ed → World → Prop) (hI : OwnFrom w.heap.size I) (h0 : I [] w) (Ax : Ed → Act → World → Prop) (hAx : ∀ x a', OwnFrom w.heap.size (fun (_ : Unit) W => Ax x a' W))
    (hassign : ∀ (l : Nat) (pre : List Ed) (x : Ed) (W : World) (K : Act → World → Prop), x ∈ sub → I pre W → (∀ a' W', KeepsFrom w.heap.size W W' → Below n₀ W W' → I pre W' → Ax x a' W' → K a' W') →
      assign.wpIn (Fence.wide.inRound l) 2 Try.prog (Exit.then K (fun _ _ _ => False)) { tmps := (ps.zip #[x.val]).foldl (fun t (p, v) => t.setIfInBounds p v) a.tmps, defers := [] } W)
    (hbody : ∀ (l : Nat) (pre : List Ed) (x : Ed) (a' : Act) (W : World), x ∈ sub → w.heap.size ≤ l → I pre W → Ax x a' W →
      body.wpIn (Fence.wide.inRound l) 2 Try.prog (ownPostG w.heap.size (Below n₀) I (fun _ _ _ => False) (pre ++ [x]) W) a' W)
    (hdone : ∀ (D : Nat) (W : World), w.heap.size ≤ D → I sub W → W.heap[D]? = some (.deferred (some [])) → Q .normal { a with defers := mark D :: a.defers } W) :
    (Code.rangeFunc g ps assign body).wp Try.prog Q a w := by
  refine wpIn_wide.1 (wpIn_rangeFunc_ownH (n := 4) rfl (by decide) hg trivial (enters_of Try.func84 (by kernel_rfl) rfl) hseq belowK_t (belowK_b hn0) hb0 (fun _ => by simp [edEnc, hps])
    (fun (pre : List { x : Ed // x ∈ sub }) W => I (pre.map (fun y => y.1)) W) (fun _ _ _ => False) (fun pre W W' row h1 h2 h3 => hI (pre.map (fun y => y.1)) W W' row h1 h2 h3) (fun _ _ _ _ _ h _ _ => h) h0 (fun x a' W => Ax x.1 a' W) (fun x a' => hAx x.1 a')
    (fun l pre x W K hi hK => hassign l (pre.map (fun y => y.1)) x.1 W K x.2 hi hK) (fun l pre x a' W hl _ hi hax _ => ?_) (fun D ys W hD hS hi hd => ?_) (fun _ _ _ _ _ _ h => h.elim))
  · have := hbody l (pre.map (fun y => y.1)) x.1 a' W x.2 hl hi hax
    refine wpIn_mono this ?_
    intro e a2 W2 h2
    cases e <;> simp only [ownPostG] at h2 ⊢
    · exact ⟨h2.1, h2.2.1, by rw [List.map_append]; exact h2.2.2⟩
    all_goals exact h2
  · exact hdone D W hD (by rw [← hS]; exact hi) hd
end Go.Proofs.Ythchkddhibhenaa
