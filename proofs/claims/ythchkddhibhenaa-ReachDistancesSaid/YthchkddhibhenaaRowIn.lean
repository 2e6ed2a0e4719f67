/- append to a row of the call's own, inside a fence. -/
import Derived.Test.YthchkddhibhenaaRow
import Derived.OwnWalkIn
namespace Go.Proofs.Ythchkddhibhenaa
open Go.RowKit

theorem wpListIn_append_row {F : Fence} {nF : Nat} {P : Program} {ops : Array Oper} {rest : List Oper} {o : Oper} {a : Act} {Q : Exit → Act → World → Prop}
    {w : World} {B : Nat} {tag : Nat → Nat} {k : Nat} {sz : Nat} {v : Value} {n : Nat} {cs : List Value} (hgd : o.guard = none) (s x : Operand) (tt : TypeId)
    (ho : o.op = .call { callee := .builtin .append, args := #[s, x], argTypes := #[tt, tt] })
    (e : TypeId) (i : TypeInfo) (z : Value) (bytes : Nat) (ht : P.underlying tt = some (.slice e)) (hi : P.info? e = some i) (hz : i.zero = some z)
    (hsize : i.size = sz) (hby : i.bytes = bytes) (hzs : z.cells.size = sz) (hs : a.eval s = v) (hrow : Row w B tag k e sz v n cs)
    (ao : Option Addr) (m c : Nat) (news : List Value) (hx : a.eval x = .slice ao m c) (hl : news.length = m * sz) (hnone : ao = none → m = 0 ∧ c = 0)
    (hnews : ∀ ad, ao = some ad → ∀ j u, news[j]? = some u → w.cell? (ad.add j) = some u) (h1 : ∀ u ∈ news, u.oneCell' = true)
    (h63 : n + m ≤ maxLen) (hbytes : (n + m) * bytes ≤ 140737488355328) (hB : B ≤ w.heap.size)
    (h : ∀ v' w' tag', Row w' B tag' k e sz v' (n + m) (cs ++ news) → Turn B tag tag' k w w' → wpListIn F nF P ops Q rest (a.put o.dst v') w') : wpListIn F nF P ops Q (o :: rest) a w := by
  refine wpListIn_plain hgd fun K hK' => ?_
  obtain ⟨v', w', tag', hrun, h2, h3⟩ := run_append_row (P := P) (w := w) (ty := o.type) tt e i z bytes ht hi hz hsize hby hzs hrow ao m c news hl hnone hnews h1 h63 hbytes hB
  unfold Oper.wpIn
  refine ⟨?_, ?_⟩
  · simp [Oper.about, ho, resolve, Target.leads, Sem.run_pure]
  · rw [Oper.semAt_plain F _ _ (by rw [ho]; intro c hc'; cases hc')]
    simp [execOp, ho, resolve, invoke, builtin, hs, hx, hrun, Result.andThen]
    exact hK' _ _ (h v' w' tag' h2 h3)
end Go.Proofs.Ythchkddhibhenaa
