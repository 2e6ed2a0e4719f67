/- A rule for each kind of operation. -/
import Derived.Test.YtkkemchihllklaaRm
import Derived.Laws.CopyRow
import Derived.Laws.Tables
import Derived.Great.BuildSlice
import Derived.Laws.Small
import Derived.MapKept
namespace Go.Proofs.Ytkkemchihllklaa
open Go Go.RowKit

/-- Facts on types and functions. -/
structure NAg (P : Program) (T : TypeId) : Prop where
  agg : ∀ w, (isAgg T).run P w = .ok false w
  sz : ∀ w, (sizeOf T).run P w = .ok 1 w
structure Ag (P : Program) (T : TypeId) (m : Nat) : Prop where
  agg : ∀ w, (isAgg T).run P w = .ok true w
  sz : ∀ w, (sizeOf T).run P w = .ok m w
theorem NAg.mk' {P : Program} {T : TypeId} {d : TypeDesc} (h : P.underlying T = some d) (hd : (match d with | .struct _ | .array _ _ => true | _ => false) = false) (hs : (P.info? T).map (·.size) = some 1) : NAg P T := by
  constructor
  · intro w
    simp only [isAgg, Sem.run_bind, run_underlying h, Result.andThen_ok]
    cases d <;> first | rfl | (simp at hd)
  · intro w
    cases hi : P.info? T with
    | none => simp [hi] at hs
    | some i => simp [hi] at hs; simp [sizeOf, typeInfo, hi, hs]
theorem Ag.mk' {P : Program} {T : TypeId} {d : TypeDesc} {m : Nat} (h : P.underlying T = some d) (hd : (match d with | .struct _ | .array _ _ => true | _ => false) = true) (hs : (P.info? T).map (·.size) = some m) : Ag P T m := by
  constructor
  · intro w
    simp only [isAgg, Sem.run_bind, run_underlying h, Result.andThen_ok]
    cases d <;> first | rfl | (simp at hd)
  · intro w
    cases hi : P.info? T with
    | none => simp [hi] at hs
    | some i => simp [hi] at hs; simp [sizeOf, typeInfo, hi, hs]
def Cf (P : Program) (f : FuncId) : Prop := ∀ args w, (callFunc f args).run P w = .ok (.enter f args) w
theorem Cf.mk {P : Program} {f : FuncId} {fn : Func} (h : P.funcs[f]? = some fn) (hn : (fn.name == "runtime.NumGoroutine") = false) (hb : fn.body.isNone = false) : Cf P f := fun args w => by
  simp only [callFunc, Sem.run_bind, run_program, Result.andThen_ok, h, hn, hb]
  rfl
def FA (P : Program) (S : TypeId) (f o : Nat) : Prop := ∀ w b off, (Instr.fieldAt S (.pointer (some ⟨b, off, none⟩)) f).run P w = .ok (.pointer (some ⟨b, off + o, none⟩)) w
theorem FA.mk {P : Program} {S : TypeId} {fs : Array Field} {f o : Nat} {fd : Field} (h : P.underlying S = some (.struct fs)) (hf : fs[f]? = some fd) (ho : fd.offset = o) (hs : ∃ m, 0 < m ∧ (P.info? fd.type).map (·.size) = some m) : FA P S f o := fun w b off => by
  obtain ⟨m, hm, hs⟩ := hs
  cases hi : P.info? fd.type with
  | none => simp [hi] at hs
  | some i =>
    simp [hi] at hs
    subst ho
    have hsz : (sizeOf fd.type).run P w = .ok m w := by simp [sizeOf, typeInfo, hi, hs]
    have hne : ¬ m = 0 := by omega
    simp only [Instr.fieldAt, Sem.run_bind, run_underlying h, Result.andThen_ok, hf, Instr.sureAddr, Sem.run_pure, fieldPlace, hsz, if_neg hne]
    unfold Addr.add
    split <;> simp_all
/-- A slice type, its element's type, and how an element lies. -/
structure Sl (P : Program) (T E : TypeId) (m : Nat) : Prop where
  und : P.underlying T = some (.slice E)
  sz : ∀ w, (sizeOf E).run P w = .ok m w
theorem Sl.mk' {P : Program} {T E : TypeId} {m : Nat} (h : P.underlying T = some (.slice E)) (hs : (P.info? E).map (·.size) = some m) : Sl P T E m := ⟨h, fun w => by
  cases hi : P.info? E with
  | none => simp [hi] at hs
  | some i => simp [hi] at hs; simp [sizeOf, typeInfo, hi, hs]⟩

/-- The element at an index. -/
def idx {α : Type} (xs : List α) (i : Int) : Option α := if 0 ≤ i then xs[i.toNat]? else none
theorem idx_some {α : Type} {xs : List α} {i : Int} {x : α} (h : idx xs i = some x) : 0 ≤ i ∧ ∃ hk : i.toNat < xs.length, xs[i.toNat] = x := by
  unfold idx at h
  split at h
  · rename_i h0
    obtain ⟨hk, e⟩ := List.getElem?_eq_some_iff.1 h
    exact ⟨h0, hk, e⟩
  · cases h
theorem idx_nat {α : Type} {xs : List α} {k : Nat} : idx xs (k : Int) = xs[k]? := by simp [idx]

/-- What an operation on two ints gives. -/
def intBin : BinOp → IntKind → Int → Int → Option Value
  | .add, k, a, b => some (.int k (k.wrap (a + b)))
  | .sub, k, a, b => some (.int k (k.wrap (a - b)))
  | .mul, k, a, b => some (.int k (k.wrap (a * b)))
  | .eql, _, a, b => some (.bool (a == b))
  | .neq, _, a, b => some (.bool (a != b))
  | .lss, _, a, b => some (.bool (decide (a < b)))
  | .leq, _, a, b => some (.bool (decide (a ≤ b)))
  | .gtr, _, a, b => some (.bool (decide (a > b)))
  | .geq, _, a, b => some (.bool (decide (a ≥ b)))
  | .and, k, a, b => some (.int k (k.wrap ((BitVec.ofInt k.bits a &&& BitVec.ofInt k.bits b).toNat : Int)))
  | .or, k, a, b => some (.int k (k.wrap ((BitVec.ofInt k.bits a ||| BitVec.ofInt k.bits b).toNat : Int)))
  | _, _, _, _ => none

section
variable {P : Program} {Q : Exit → Act → World → Prop} {n : Nat} {e : List (Nat × Value)} {w : World} {s : Sig} {ops : Array Oper} {os : List Oper} {d : Nat} {ty : TypeId} {pos : String} {af : Array Edge} {g : Option (Nat × Bool)}

theorem L.mv {x : Operand} {v : Value} (hw : Wt ops e g) (hx : Env.ev e x = some v) (hd : Nat.blt d n = true) (h : L P Q n ops os ((d, v) :: e) w) : L P Q n ops (⟨some d, .move x, ty, pos, af, g⟩ :: os) e w :=
  L.val hw hd (fun a ha => by simp [execOp, ha.ev hx]) h
theorem L.as {x : Operand} {v : Value} (hw : Wt ops e g) (hx : Env.ev e x = some v) (hd : Nat.blt d n = true) (h : L P Q n ops os ((d, v) :: e) w) : L P Q n ops (⟨some d, .assign x, ty, pos, af, g⟩ :: os) e w :=
  L.val hw hd (fun a ha => by simp [execOp, ha.ev hx]) h
theorem L.pkT {x y z : Operand} {t : Bool} {v : Value} (hw : Wt ops e g) (hx : Env.ev e x = some (.bool t)) (ht : t = true) (hy : Env.ev e y = some v) (hd : Nat.blt d n = true) (h : L P Q n ops os ((d, v) :: e) w) : L P Q n ops (⟨some d, .pick x y z, ty, pos, af, g⟩ :: os) e w :=
  L.val hw hd (fun a ha => by subst ht; simp [execOp, ha.ev hx, ha.ev hy, asBool]) h
theorem L.pkF {x y z : Operand} {t : Bool} {v : Value} (hw : Wt ops e g) (hx : Env.ev e x = some (.bool t)) (ht : t = false) (hy : Env.ev e z = some v) (hd : Nat.blt d n = true) (h : L P Q n ops os ((d, v) :: e) w) : L P Q n ops (⟨some d, .pick x y z, ty, pos, af, g⟩ :: os) e w :=
  L.val hw hd (fun a ha => by subst ht; simp [execOp, ha.ev hx, ha.ev hy, asBool]) h
theorem L.bi {op : BinOp} {T U : TypeId} {x y : Operand} {k : IntKind} {i j : Int} {v : Value} (hw : Wt ops e g) (hx : Env.ev e x = some (.int k i)) (hy : Env.ev e y = some (.int k j)) (hv : intBin op k i j = some v) (hd : Nat.blt d n = true)
    (h : L P Q n ops os ((d, v) :: e) w) : L P Q n ops (⟨some d, .binOp op T x y U, ty, pos, af, g⟩ :: os) e w :=
  L.val hw hd (fun a ha => by
    simp only [execOp, ha.ev hx, ha.ev hy]
    cases op <;> simp only [intBin, Option.some.injEq, reduceCtorEq] at hv <;> subst hv <;> simp [eqGuard, binOp, Op.intArith, Op.intCmp, Op.intBits]) h
/-- A sum or a difference that is in range. -/
theorem L.biW {op : BinOp} {T U : TypeId} {x y : Operand} {k : IntKind} {i j r r' : Int} (hw : Wt ops e g) (hx : Env.ev e x = some (.int k i)) (hy : Env.ev e y = some (.int k j)) (hv : intBin op k i j = some (.int k r)) (hr : r = r') (hd : Nat.blt d n = true)
    (h : L P Q n ops os ((d, .int k r') :: e) w) : L P Q n ops (⟨some d, .binOp op T x y U, ty, pos, af, g⟩ :: os) e w := by
  subst hr
  exact L.bi hw hx hy hv hd h
theorem L.rem {T U : TypeId} {x y : Operand} {k : IntKind} {i j : Int} (hw : Wt ops e g) (hx : Env.ev e x = some (.int k i)) (hy : Env.ev e y = some (.int k j)) (hj : j ≠ 0) (hd : Nat.blt d n = true)
    (h : L P Q n ops os ((d, .int k (i.tmod j)) :: e) w) : L P Q n ops (⟨some d, .binOp .rem T x y U, ty, pos, af, g⟩ :: os) e w :=
  L.val hw hd (fun a ha => by simp [execOp, ha.ev hx, ha.ev hy, eqGuard, binOp, Op.intDiv, hj]) h
theorem L.quo {T U : TypeId} {x y : Operand} {k : IntKind} {i j : Int} (hw : Wt ops e g) (hx : Env.ev e x = some (.int k i)) (hy : Env.ev e y = some (.int k j)) (hj : j ≠ 0) (hd : Nat.blt d n = true)
    (h : L P Q n ops os ((d, .int k (k.wrap (i.tdiv j))) :: e) w) : L P Q n ops (⟨some d, .binOp .quo T x y U, ty, pos, af, g⟩ :: os) e w :=
  L.val hw hd (fun a ha => by simp [execOp, ha.ev hx, ha.ev hy, eqGuard, binOp, Op.intDiv, hj]) h
theorem L.shr {T U : TypeId} {x y : Operand} {k k' : IntKind} {i j : Int} (hw : Wt ops e g) (hx : Env.ev e x = some (.int k i)) (hy : Env.ev e y = some (.int k' j)) (hj : ¬ j < 0) (hd : Nat.blt d n = true)
    (h : L P Q n ops os ((d, .int k (i.fdiv (2 ^ (min j.toNat k.bits)))) :: e) w) : L P Q n ops (⟨some d, .binOp .shr T x y U, ty, pos, af, g⟩ :: os) e w :=
  L.val hw hd (fun a ha => by simp [execOp, ha.ev hx, ha.ev hy, eqGuard, binOp, Op.shift, hj]) h
theorem L.shl {T U : TypeId} {x y : Operand} {k k' : IntKind} {i j : Int} (hw : Wt ops e g) (hx : Env.ev e x = some (.int k i)) (hy : Env.ev e y = some (.int k' j)) (hj : ¬ j < 0) (hd : Nat.blt d n = true)
    (h : L P Q n ops os ((d, .int k (k.wrap (i * 2 ^ (min j.toNat k.bits)))) :: e) w) : L P Q n ops (⟨some d, .binOp .shl T x y U, ty, pos, af, g⟩ :: os) e w :=
  L.val hw hd (fun a ha => by simp [execOp, ha.ev hx, ha.ev hy, eqGuard, binOp, Op.shift, hj]) h
theorem L.beq {T U : TypeId} {x y : Operand} {i j : Bool} (hT : P.underlying T = some .bool) (hw : Wt ops e g) (hx : Env.ev e x = some (.bool i)) (hy : Env.ev e y = some (.bool j)) (hd : Nat.blt d n = true)
    (h : L P Q n ops os ((d, .bool (i == j)) :: e) w) : L P Q n ops (⟨some d, .binOp .eql T x y U, ty, pos, af, g⟩ :: os) e w :=
  L.val hw hd (fun a ha => by
    have hb := run_eql_bool (P := P) w T i j hT
    simp [execOp, ha.ev hx, ha.ev hy, eqGuard, hb, bne]) h
theorem L.bne {T U : TypeId} {x y : Operand} {i j : Bool} (hT : P.underlying T = some .bool) (hw : Wt ops e g) (hx : Env.ev e x = some (.bool i)) (hy : Env.ev e y = some (.bool j)) (hd : Nat.blt d n = true)
    (h : L P Q n ops os ((d, .bool (i != j)) :: e) w) : L P Q n ops (⟨some d, .binOp .neq T x y U, ty, pos, af, g⟩ :: os) e w :=
  L.val hw hd (fun a ha => by
    have hb := run_neq_bool (P := P) w T i j hT
    simp [execOp, ha.ev hx, ha.ev hy, eqGuard, hb]
    cases i <;> cases j <;> rfl) h
theorem L.not {T : TypeId} {x : Operand} {i : Bool} (hw : Wt ops e g) (hx : Env.ev e x = some (.bool i)) (hd : Nat.blt d n = true)
    (h : L P Q n ops os ((d, .bool (!i)) :: e) w) : L P Q n ops (⟨some d, .unOp .not T x, ty, pos, af, g⟩ :: os) e w :=
  L.val hw hd (fun a ha => by simp [execOp, ha.ev hx, Op.unary]) h
theorem L.neg {T : TypeId} {x : Operand} {k : IntKind} {i : Int} (hw : Wt ops e g) (hx : Env.ev e x = some (.int k i)) (hd : Nat.blt d n = true)
    (h : L P Q n ops os ((d, .int k (k.wrap (0 - i))) :: e) w) : L P Q n ops (⟨some d, .unOp .neg T x, ty, pos, af, g⟩ :: os) e w :=
  L.val hw hd (fun a ha => by simp [execOp, ha.ev hx, Op.unary, Op.intArith]) h
theorem L.cv {T U : TypeId} {D : TypeDesc} {x : Operand} {k k' : IntKind} {i : Int} (hT : P.underlying T = some D) (hU : P.underlying U = some (.int k')) (hw : Wt ops e g) (hx : Env.ev e x = some (.int k i)) (hd : Nat.blt d n = true)
    (h : L P Q n ops os ((d, .int k' (k'.wrap i)) :: e) w) : L P Q n ops (⟨some d, .convert T U x, ty, pos, af, g⟩ :: os) e w :=
  L.val hw hd (fun a ha => by simp [execOp, ha.ev hx, convert, run_underlying hT, run_underlying hU, Conv.intToInt]) h
theorem L.ex {x : Operand} {vs : Array Value} {i : Nat} {v : Value} (hw : Wt ops e g) (hx : Env.ev e x = some (.tuple vs)) (hi : vs[i]? = some v) (hd : Nat.blt d n = true)
    (h : L P Q n ops os ((d, v) :: e) w) : L P Q n ops (⟨some d, .extract x i, ty, pos, af, g⟩ :: os) e w :=
  L.val hw hd (fun a ha => by simp [execOp, ha.ev hx, Instr.extract, hi]) h
theorem L.nc {x : Operand} {p : Addr} (hw : Wt ops e g) (hx : Env.ev e x = some (.pointer (some p))) (hd : Nat.blt d n = true)
    (h : L P Q n ops os ((d, .pointer (some p)) :: e) w) : L P Q n ops (⟨some d, .nilCheck x, ty, pos, af, g⟩ :: os) e w :=
  L.val hw hd (fun a ha => by simp [execOp, ha.ev hx]) h
theorem L.len {x : Operand} {T E : TypeId} {m : Nat} {a : Option Addr} {k c : Nat} (hT : Sl P T E m) (hw : Wt ops e g) (hx : Env.ev e x = some (.slice a k c)) (hd : Nat.blt d n = true)
    (h : L P Q n ops os ((d, .int .i64 (k : Int)) :: e) w) : L P Q n ops (⟨some d, .call { callee := .builtin .len, args := #[x], argTypes := #[T] }, ty, pos, af, g⟩ :: os) e w :=
  L.val hw hd (fun ac ha => by simp [execOp, resolve, invoke, builtin, Builtin.len_, ha.ev hx, run_underlying hT.und, goInt]) h
theorem L.cap {x : Operand} {T E : TypeId} {m : Nat} {a : Option Addr} {k c : Nat} (hT : Sl P T E m) (hw : Wt ops e g) (hx : Env.ev e x = some (.slice a k c)) (hd : Nat.blt d n = true)
    (h : L P Q n ops os ((d, .int .i64 (c : Int)) :: e) w) : L P Q n ops (⟨some d, .call { callee := .builtin .cap, args := #[x], argTypes := #[T] }, ty, pos, af, g⟩ :: os) e w :=
  L.val hw hd (fun ac ha => by simp [execOp, resolve, invoke, builtin, Builtin.cap_, ha.ev hx, run_underlying hT.und, goInt]) h
theorem L.min {x y : Operand} {T U : TypeId} {k : IntKind} {i j : Int} (hw : Wt ops e g) (hx : Env.ev e x = some (.int k i)) (hy : Env.ev e y = some (.int k j)) (hd : Nat.blt d n = true)
    (h : L P Q n ops os ((d, .int k (if j < i then j else i)) :: e) w) : L P Q n ops (⟨some d, .call { callee := .builtin .min, args := #[x, y], argTypes := #[T, U] }, ty, pos, af, g⟩ :: os) e w :=
  L.val hw hd (fun ac ha => by simp [execOp, resolve, invoke, builtin, Builtin.min_, Builtin.min2, ha.ev hx, ha.ev hy]) h
theorem L.fa {S : TypeId} {x : Operand} {f o b off : Nat} (hF : FA P S f o) (hw : Wt ops e g) (hx : Env.ev e x = some (.pointer (some ⟨b, off, none⟩))) (hd : Nat.blt d n = true)
    (h : L P Q n ops os ((d, .pointer (some ⟨b, off + o, none⟩)) :: e) w) : L P Q n ops (⟨some d, .fieldAddr S x f, ty, pos, af, g⟩ :: os) e w :=
  L.val hw hd (fun ac ha => by simp [execOp, ha.ev hx, hF w b off]) h
theorem L.mf {f : Fn} {xs ys : List Operand} {us vs : List Value} (hw : Wt ops e g) (hx : Env.evs e xs = some us) (hy : Env.evs e ys = some vs) (hd : Nat.blt d n = true)
    (h : L P Q n ops os ((d, .func f us.toArray vs.toArray) :: e) w) : L P Q n ops (⟨some d, .makeFunc f xs.toArray ys.toArray, ty, pos, af, g⟩ :: os) e w :=
  L.val hw hd (fun ac ha => by simp [execOp, Instr.makeFunc, List.map_toArray, ha.evs hx, ha.evs hy]) h
theorem L.bd {T : TypeId} {xs : List (Nat × Operand)} {ps : List (Nat × Value)} {cs : Array Value} (hw : Wt ops e g) (hx : Env.evp e xs = some ps) (hb : P.built T ps = some cs) (hd : Nat.blt d n = true)
    (h : L P Q n ops os ((d, .agg cs) :: e) w) : L P Q n ops (⟨some d, .build T xs.toArray, ty, pos, af, g⟩ :: os) e w :=
  L.val hw hd (fun ac ha => by
    have h2 : (xs.toArray.map fun (i, x) => (i, ac.eval x)) = ps.toArray := by rw [List.map_toArray, ← ha.evp hx]
    simp only [execOp]
    rw [h2]
    simp [run_build (P := P) w T ps.toArray cs (by simpa using hb)]) h
/-- A load of one cell. -/
theorem L.ld {T : TypeId} {x : Operand} {t b off j o : Nat} {c : List Value} {v : Value} (hm : Mem s t b off c) (hT : NAg P T) (hw : Wt ops e g) (hx : Env.ev e x = some (.pointer (some ⟨b, o, none⟩))) (ho : o = off + j) (hc : c[j]? = some v) (hd : Nat.blt d n = true)
    (h : L P Q n ops os ((d, v) :: e) s.w) : L P Q n ops (⟨some d, .load T x, ty, pos, af, g⟩ :: os) e s.w :=
  L.val hw hd (fun ac ha => by
    subst ho
    obtain ⟨hj, e⟩ := List.getElem?_eq_some_iff.1 hc
    have h1 := hm.cell j hj
    rw [e] at h1
    simp [execOp, Instr.loadAt, Instr.sureAddr, loadVar, ha.ev hx, hT.agg, load, Sem.run, h1]) h
/-- A load of a struct. -/
theorem L.lg {T : TypeId} {x : Operand} {t b off j o m : Nat} {c cs : List Value} (hm : Mem s t b off c) (hT : Ag P T m) (hw : Wt ops e g) (hx : Env.ev e x = some (.pointer (some ⟨b, o, none⟩))) (ho : o = off + j) (hc : (c.drop j).take m = cs) (hl : cs.length = m) (hd : Nat.blt d n = true)
    (h : L P Q n ops os ((d, .agg cs.toArray) :: e) s.w) : L P Q n ops (⟨some d, .load T x, ty, pos, af, g⟩ :: os) e s.w :=
  L.val hw hd (fun ac ha => by
    subst ho
    subst hc
    have h1 : (loadCells ⟨b, off + j, none⟩ ((c.drop j).take m).length).run P s.w = .ok ((c.drop j).take m).toArray s.w := by
      refine run_loadCells_list (P := P) s.w ⟨b, off + j, none⟩ _ fun i v hv => ?_
      rw [Addr.add_lit]
      rw [List.getElem?_take] at hv
      split at hv
      · rw [List.getElem?_drop] at hv
        obtain ⟨hj, e⟩ := List.getElem?_eq_some_iff.1 hv
        have h2 := hm.cell (j + i) hj
        rw [e] at h2
        rw [← h2]
        show s.w.cell? ⟨b, off + j + i, none⟩ = s.w.cell? ⟨b, off + (j + i), none⟩
        rw [Nat.add_assoc]
      · cases hv
    rw [hl] at h1
    simp [execOp, Instr.loadAt, Instr.sureAddr, loadVar, ha.ev hx, hT.agg, hT.sz, h1]) h
theorem L.box {T : TypeId} {x : Operand} {v : Value} {cs : Array Value} (t : Nat) (hw : Wt ops e g) (hx : Env.ev e x = some v) (hc : v.cells = cs) (hd : Nat.blt d n = true)
    (h : ∀ b s', Mv No s s' → Bx s' t b cs T → L P Q n ops os ((d, .pointer (some ⟨b, 0, none⟩)) :: e) s'.w) : L P Q n ops (⟨some d, .box T x, ty, pos, af, g⟩ :: os) e s.w := by
  subst hc
  refine L.val hw hd (v := .pointer (some ⟨s.w.heap.size, 0, none⟩)) (w' := s.w.alloc (.cells v.cells T)) (fun ac ha => by simp [execOp, Instr.box, newVar, newRow, ha.ev hx]) ?_
  refine h s.w.heap.size ⟨s.w.alloc (.cells v.cells T), tagUp s.tag s.w.heap.size t⟩ ?_ ⟨heap_alloc_new s.w _, tagUp_at _ _ _⟩
  exact ⟨rfl, rfl, rfl, by simp, fun b hb _ => ⟨heap_alloc_old s.w _ hb, tagUp_lt hb⟩⟩
theorem L.al {T : TypeId} {z : Value} {cs : Array Value} (t : Nat) (hz : (P.info? T).bind (·.zero) = some z) (hc : z.cells = cs) (hw : Wt ops e g) (hd : Nat.blt d n = true)
    (h : ∀ b s', Mv No s s' → Bx s' t b cs T → L P Q n ops os ((d, .pointer (some ⟨b, 0, none⟩)) :: e) s'.w) : L P Q n ops (⟨some d, .alloc T, ty, pos, af, g⟩ :: os) e s.w := by
  subst hc
  have hz' : ∀ w, (zeroValue T).run P w = .ok z w := fun w => by
    cases hi : P.info? T with
    | none => simp [hi] at hz
    | some i => simp [hi] at hz; simp [zeroValue, typeInfo, hi, hz]
  refine L.val hw hd (v := .pointer (some ⟨s.w.heap.size, 0, none⟩)) (w' := s.w.alloc (.cells z.cells T)) (fun ac ha => by simp [execOp, Instr.alloc, hz', newVar, newRow]) ?_
  refine h s.w.heap.size ⟨s.w.alloc (.cells z.cells T), tagUp s.tag s.w.heap.size t⟩ ?_ ⟨heap_alloc_new s.w _, tagUp_at _ _ _⟩
  exact ⟨rfl, rfl, rfl, by simp, fun b hb _ => ⟨heap_alloc_old s.w _ hb, tagUp_lt hb⟩⟩
/-- A slice that is written out. -/
theorem L.bs {T E : TypeId} {k : Nat} {xs : List (Nat × Operand)} {ps : List (Nat × Value)} {ie : TypeInfo} {z : Value} {cs : Array Value} (t : Nat) (hu : P.underlying T = some (.slice E)) (hie : P.info? E = some ie) (hz : ie.zero = some z) (hs : ¬ k * ie.size > 2 ^ 24) (h0 : ¬ k * ie.size = 0)
    (hw : Wt ops e g) (hx : Env.evp e xs = some ps) (hb : Instr.fill (fun i => some (i * ie.size, ie.size)) ((Array.range (k * ie.size)).map (z.cells[· % z.cells.size]!)) ps = some cs) (hd : Nat.blt d n = true)
    (h : ∀ b s', Mv No s s' → Bx s' t b cs E → L P Q n ops os ((d, .slice (some ⟨b, 0, none⟩) k k) :: e) s'.w) : L P Q n ops (⟨some d, .buildSlice T k xs.toArray, ty, pos, af, g⟩ :: os) e s.w := by
  refine L.val hw hd (v := .slice (some ⟨s.w.heap.size, 0, none⟩) k k) (w' := s.w.alloc (.cells cs E)) (fun ac ha => ?_) ?_
  · have h2 : (xs.toArray.map fun (i, x) => (i, ac.eval x)) = ps.toArray := by rw [List.map_toArray, ← ha.evp hx]
    simp only [execOp]
    rw [h2]
    simp [run_buildSlice (P := P) s.w T E k ps.toArray cs ie z hu hie hz hs h0 (by simpa using hb)]
  · refine h s.w.heap.size ⟨s.w.alloc (.cells cs E), tagUp s.tag s.w.heap.size t⟩ ?_ ⟨heap_alloc_new s.w _, tagUp_at _ _ _⟩
    exact ⟨rfl, rfl, rfl, by simp, fun b hb _ => ⟨heap_alloc_old s.w _ hb, tagUp_lt hb⟩⟩
/-- A store into a block of one's own. -/
theorem L.st {T T' : TypeId} {x y : Operand} {t b o m : Nat} {cs cs' : Array Value} {v : Value} {c : List Value} (hbx : Bx s t b cs T') (hT : ∀ w, (sizeOf T).run P w = .ok m w) (hw : Wt ops e g) (hx : Env.ev e x = some (.pointer (some ⟨b, o, none⟩))) (hy : Env.ev e y = some v)
    (hc : v.cells.toList = c) (hm : c.length = m) (h1' : c.all Value.oneCell' = true) (hf : o + c.length ≤ cs.size) (hcs : (cs.toList.take o ++ c ++ cs.toList.drop (o + c.length)).toArray = cs')
    (h : ∀ s', Mv (One t) s s' → Bx s' t b cs' T' → L P Q n ops os e s'.w) : L P Q n ops (⟨none, .store T x y, ty, pos, af, g⟩ :: os) e s.w := by
  have h1 : ∀ u ∈ c, u.oneCell' = true := List.all_eq_true.1 h1'
  subst hcs
  subst hc
  have hst := run_storeCells_at P b o T' v.cells.toList 0 cs s.w hbx.heap (by simpa using hf) h1
  simp only [Nat.add_zero] at hst
  refine L.unit hw (w' := s.w.setRow b (cs.toList.take o ++ v.cells.toList ++ cs.toList.drop (o + v.cells.toList.length)).toArray) (fun ac ha => ?_) ?_
  · have hsz : v.cells.size = m := by simpa using hm
    simp [execOp, Instr.storeAt, Instr.sureAddr, storeVar, ha.ev hx, ha.ev hy, hT, hsz]
    have hst' := hst
    simp only [Array.length_toList, hsz] at hst'
    rw [hst']
    simp
  · refine h ⟨s.w.setRow b _, s.tag⟩ ⟨rfl, rfl, rfl, by simp, fun b' hb hn => ⟨setRow_other _ _ _ _ ?_, rfl⟩⟩ ⟨setRow_heap _ _ _ _ _ _ hbx.heap, hbx.htag⟩
    rintro rfl
    exact hn hbx.htag
end
end Go.Proofs.Ytkkemchihllklaa
