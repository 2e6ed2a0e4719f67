/- Tags by name: what is handed to a function by reference, and results that are rows of the caller's own. -/
import Derived.Test.YtkkemchihllklaaRe
import Derived.Laws.StructEq
import Derived.Lib.AppendZeros
import Derived.WalkSpells
namespace Go.Proofs.Ytkkemchihllklaa
open Go Go.RowKit

theorem tgV {N i t : Nat} (h : t < N) : ¬ One (N + i) t := fun e => by
  have : t = N + i := e
  omega
theorem tgW {N i t : Nat} (h : t < N) : ¬ One t (N + i) := fun e => by
  have : N + i = t := e
  omega
theorem tgz {t : Nat} (h : 0 < t) : ¬ One t 0 := fun e => by
  have : 0 = t := e
  omega
theorem tgpV {t : Nat} (h : 0 < t) : Nat.blt 0 t = true := by simpa using h
theorem tpos {N i : Nat} (h : 0 < N) : 0 < N + i := by omega
theorem tne {N i j : Nat} (h : Nat.beq i j = false) : N + i ≠ N + j := fun e => by
  have : i = j := by omega
  subst this
  simp at h
theorem tneV {N i t : Nat} (h : t < N) : N + i ≠ t := by omega
theorem tneW {N i t : Nat} (h : t < N) : t ≠ N + i := by omega
theorem tne0 {N i : Nat} (h : 0 < N) : 0 ≠ N + i := by omega
theorem tne0V {t : Nat} (h : 0 < t) : 0 ≠ t := by omega
def BelowT (N : Nat) : List Nat → Prop
  | [] => True
  | t :: ts => t < N ∧ BelowT N ts
theorem BelowT.mono {N M : Nat} (h : N ≤ M) : ∀ {L : List Nat}, BelowT N L → BelowT M L
  | [], _ => trivial
  | _ :: _, h2 => ⟨Nat.lt_of_lt_of_le h2.1 h, BelowT.mono h h2.2⟩
theorem belowT_ex : ∀ L : List Nat, ∃ N, BelowT N L
  | [] => ⟨0, trivial⟩
  | t :: ts => by
    obtain ⟨N, h⟩ := belowT_ex ts
    exact ⟨max N (t + 1), by omega, h.mono (Nat.le_max_left _ _)⟩
theorem Sig.freshL (s : Sig) (L : List Nat) : ∃ N, 0 < N ∧ (∀ b, b < s.w.heap.size → s.tag b < N) ∧ BelowT N L := by
  obtain ⟨N, h0, h⟩ := s.fresh
  obtain ⟨M, h2⟩ := belowT_ex L
  exact ⟨max N M, by omega, fun b hb => by have := h b hb; omega, h2.mono (Nat.le_max_right _ _)⟩

/-- The tags from N on get other names. -/
def Sig.ren (N : Nat) (f : Nat → Nat) (s : Sig) : Sig := ⟨s.w, fun b => if N ≤ s.tag b then f (s.tag b - N) else s.tag b⟩
section
variable {S : Nat → Prop} {s s' : Sig} {N t k b cap : Nat} {f : Nat → Nat} {α : Type} {r : Rep α} {T : TypeId} {a : Option Addr} {xs : List α} {cs : Array Value}
theorem Sig.ren_le (hN : 0 < N) : Le s (s.ren N f) := ⟨Nat.le_refl _, fun b _ ht => ⟨rfl, by simp [Sig.ren, ht]; omega⟩⟩
theorem Mv.ren (h : Mv (fun t => N ≤ t ∨ S t) s s') (hN : ∀ b, b < s.w.heap.size → s.tag b < N) : Mv S s (s'.ren N f) :=
  ⟨h.os, h.tape, h.output, h.size, fun b hb hn => by
    obtain ⟨g1, g2⟩ := h.blk b hb (nor (Nat.not_le.2 (hN b hb)) hn)
    refine ⟨g1, ?_⟩
    show (if N ≤ s'.tag b then f (s'.tag b - N) else s'.tag b) = _
    rw [if_neg (by rw [g2]; exact Nat.not_le.2 (hN b hb)), g2]⟩
theorem RowT.as {t' : Nat} (h : RowT r s t T a cap xs) (hl : Le s s') (hw : s'.w = s.w) (ht : ∀ b, s.tag b = t → s'.tag b = t') : RowT r s' t' T a cap xs := by
  obtain ⟨cs, h1, h2⟩ := h
  refine ⟨cs, ⟨h1.1, h1.2.imp id fun ⟨b, off, cap, cur, g1, g2, g3⟩ => ⟨b, off, cap, cur, g1, ⟨by rw [hw]; exact g2.heap, ht b g2.htag, g2.base⟩, g3⟩⟩, h2.mono hl⟩
theorem RowT.ren (h : RowT r s (N + k) T a cap xs) (hN : 0 < N) : RowT r (s.ren N f) (f k) T a cap xs := h.as (Sig.ren_le hN) rfl fun b e => by
  show (if N ≤ s.tag b then f (s.tag b - N) else s.tag b) = _
  rw [e, if_pos (Nat.le_add_right _ _), Nat.add_sub_cancel_left]
theorem RowT.renV (h : RowT r s t T a cap xs) (hN : 0 < N) (ht : t < N) : RowT r (s.ren N f) t T a cap xs := h.as (Sig.ren_le hN) rfl fun b e => by
  show (if N ≤ s.tag b then f (s.tag b - N) else s.tag b) = _
  rw [e, if_neg (by omega)]
theorem Bx.renV (h : Bx s t b cs T) (ht : t < N) : Bx (s.ren N f) t b cs T := ⟨h.heap, by
  show (if N ≤ s.tag b then f (s.tag b - N) else s.tag b) = _
  rw [h.htag, if_neg (by omega)]⟩
theorem RdL.ren (h : RdL r s a cap xs) (hN : 0 < N) : RdL r (s.ren N f) a cap xs := h.mono (Sig.ren_le hN)
theorem RowT.p (h : RowT r s 0 T a cap xs) : RdL r s a cap xs := h.rd (Le.refl _) rfl fun _ e => e
theorem RowT.lenv (h : RowT r s t T a cap xs) : xs.length ≤ 4294967296 ∨ 4294967296 < xs.length := by omega
theorem Bx.dropV (h : Bx s t b cs T) (ht : t < N) : Bx (s.drop N) t b cs T := ⟨h.heap, by simp [Sig.drop, h.htag]; omega⟩
theorem Bx.drop (h : Bx s (N + k) b cs T) : Bx (s.drop N) 0 b cs T := ⟨h.heap, by simp [Sig.drop, h.htag]⟩
end
def clrG {α : Type} (xs : List α) (lo : Int) (z : α) : Option (List α) := if lo.toNat ≤ xs.length then some (xs.take lo.toNat ++ List.replicate (xs.length - lo.toNat) z) else none
theorem clr_some {α : Type} {xs zs : List α} {lo : Int} {z : α} (h : clrG xs lo z = some zs) : ∃ _ : lo.toNat ≤ xs.length, zs = xs.take lo.toNat ++ List.replicate (xs.length - lo.toNat) z := by
  unfold clrG at h
  split at h
  · rename_i g; cases h; exact ⟨g, rfl⟩
  · cases h
theorem clr_len {α : Type} {xs : List α} {lo : Nat} {z : α} (h : lo ≤ xs.length) : (xs.take lo ++ List.replicate (xs.length - lo) z).length = xs.length := by
  rw [List.length_append, List.length_take, List.length_replicate]; omega
def lenEq {α β : Type} (xs : List α) (ys : List β) : Option Unit := if xs.length = ys.length then some () else none
theorem len_some {α β : Type} {xs : List α} {ys : List β} {u : Unit} (h : lenEq xs ys = some u) : xs.length = ys.length := by
  unfold lenEq at h
  split at h
  · assumption
  · cases h
theorem RowT.dropV {s : Sig} {N t cap : Nat} {α : Type} {r : Rep α} {T : TypeId} {a : Option Addr} {xs : List α} (h : RowT r s t T a cap xs) (ht : t < N) : RowT r (s.drop N) t T a cap xs :=
  h.as (Sig.drop_le N s) rfl fun b e => by
    show (if N ≤ s.tag b then 0 else s.tag b) = t
    rw [e, if_neg (by omega)]
/-- What a call leaves, where rows of one's own were lent: s0 is the same memory with fewer rows of one's own. -/
theorem Calls.lendG {P : Program} {f : FuncId} {args : Array Value} {s s0 : Sig} {Post : Value → Sig → Prop} {R : Value → Prop} (hw : s0.w = s.w) (hc : Calls P f args s0.w (RetS No s0 Post)) (hr : ∀ v s', Post v s' → R v) :
    Calls P f args s.w (RetS No s fun v _ => R v) := by
  rw [← hw]
  refine Calls.mono hc fun en w' hh => ?_
  obtain ⟨v, s', rfl, rfl, hm, hp⟩ := hh
  refine ⟨v, ⟨s'.w, fun b => if b < s.w.heap.size then s.tag b else s'.tag b⟩, rfl, rfl, ⟨?_, ?_, ?_, ?_, fun b hb _ => ⟨?_, if_pos hb⟩⟩, hr v s' hp⟩
  · rw [← hw]; exact hm.os
  · rw [← hw]; exact hm.tape
  · rw [← hw]; exact hm.output
  · rw [← hw]; exact hm.size
  · rw [← hw]; exact (hm.blk b (by rw [hw]; exact hb) id).1
def rStr : Rep ByteArray := ⟨1, fun _ cs x => cs = [.string x], fun h => by rw [h]; rfl, fun _ h => h, fun h u hu => by rw [h] at hu; rw [List.mem_singleton.1 hu]; rfl⟩
/-- A function value, or nil. -/
def FO1 {α β : Type} (P : Program) (s : Sig) (v : Value) (arg : α → List Value) (res : β → Value) : Option (α → Option β) → Prop
  | none => v = .nilFunc
  | some m => FV1 P s v arg res m
def FO2 {α β γ : Type} (P : Program) (s : Sig) (v : Value) (arg : α → β → List Value) (res : γ → Value) : Option (α → β → Option γ) → Prop
  | none => v = .nilFunc
  | some m => FV2 P s v arg res m
section
variable {α β γ : Type} {P : Program} {s s' : Sig} {v : Value} {arg1 : α → List Value} {arg2 : α → β → List Value} {res1 : β → Value} {res2 : γ → Value}
theorem FO1.mono {m : Option (α → Option β)} (h : FO1 P s v arg1 res1 m) (hl : Le s s') : FO1 P s' v arg1 res1 m := by
  cases m with
  | none => exact h
  | some m => exact FV1.mono h hl
theorem FO2.mono {m : Option (α → β → Option γ)} (h : FO2 P s v arg2 res2 m) (hl : Le s s') : FO2 P s' v arg2 res2 m := by
  cases m with
  | none => exact h
  | some m => exact FV2.mono h hl
theorem FO1.some {o : Option (α → Option β)} {m : α → Option β} (h : FO1 P s v arg1 res1 o) (e : o = .some m) : FV1 P s v arg1 res1 m := by subst e; exact h
theorem FO2.some {o : Option (α → β → Option γ)} {m : α → β → Option γ} (h : FO2 P s v arg2 res2 o) (e : o = .some m) : FV2 P s v arg2 res2 m := by subst e; exact h
theorem FO1.one {m : Option (α → Option β)} (h : FO1 P s v arg1 res1 m) : v.oneCell' = true := by
  cases m with
  | none => rw [show v = .nilFunc from h]; rfl
  | some m => obtain ⟨f, fst, cap, rfl, _⟩ := h; rfl
theorem FO2.one {m : Option (α → β → Option γ)} (h : FO2 P s v arg2 res2 m) : v.oneCell' = true := by
  cases m with
  | none => rw [show v = .nilFunc from h]; rfl
  | some m => obtain ⟨f, fst, cap, rfl, _⟩ := h; rfl
end
def rF1 {α β : Type} (P : Program) (arg : α → List Value) (res : β → Value) : Rep (Option (α → Option β)) :=
  ⟨1, fun s cs x => ∃ v, cs = [v] ∧ FO1 P s v arg res x, fun ⟨_, h, _⟩ => by rw [h]; rfl, fun hl ⟨v, h, h2⟩ => ⟨v, h, h2.mono hl⟩, fun ⟨v, h, h2⟩ u hu => by rw [h] at hu; rw [List.mem_singleton.1 hu]; exact h2.one⟩
def rF2 {α β γ : Type} (P : Program) (arg : α → β → List Value) (res : γ → Value) : Rep (Option (α → β → Option γ)) :=
  ⟨1, fun s cs x => ∃ v, cs = [v] ∧ FO2 P s v arg res x, fun ⟨_, h, _⟩ => by rw [h]; rfl, fun hl ⟨v, h, h2⟩ => ⟨v, h, h2.mono hl⟩, fun ⟨v, h, h2⟩ u hu => by rw [h] at hu; rw [List.mem_singleton.1 hu]; exact h2.one⟩
theorem oneC {u : Value} {l : List Value} (h : u.oneCell' = true) (h2 : l.all Value.oneCell' = true) : (u :: l).all Value.oneCell' = true := by rw [List.all_cons, h, h2]; rfl
/-- A pointer's array. -/
def IA (P : Program) (T : TypeId) (k m : Nat) : Prop := ∀ w b off (i : Int) kd, 0 ≤ i → i < k → (Instr.indexAt T (.pointer (some ⟨b, off, none⟩)) (.int kd i)).run P w = .ok (.pointer (some ⟨b, off + i.toNat * m, none⟩)) w
theorem IA.mk {P : Program} {T U : TypeId} {k m : Nat} (hu : P.underlying T = some (.array k U)) (hs : (P.info? U).map (·.size) = some m) : IA P T k m := fun w b off i kd h0 h1 => by
  have hsz : (sizeOf U).run P w = .ok m w := by
    cases hi : P.info? U with
    | none => simp [hi] at hs
    | some j => simp [hi] at hs; simp [sizeOf, typeInfo, hi, hs]
  simp [Instr.indexAt, asIntOf, run_underlying hu, Instr.sureAddr, h0, h1, hsz, Addr.add_lit]
section
variable {P : Program} {Q : Exit → Act → World → Prop} {n : Nat} {e : List (Nat × Value)} {w : World} {s : Sig} {ops : Array Oper} {os : List Oper} {d : Nat} {ty : TypeId} {pos : String} {af : Array Edge} {g : Option (Nat × Bool)}
variable {α β γ : Type} {v : Value} {arg1 : α → List Value} {arg2 : α → β → List Value} {res1 : β → Value} {res2 : γ → Value}
theorem rnfe0 {t : TypeId} {p q : Array TypeId} {c : Bool} (hu : P.underlying t = some (.func p q c)) (d : Nat) (w : World) : (Op.equalIn (d + 1) t .nilFunc .nilFunc).run P w = .ok true w := by
  unfold Op.equalIn
  simp [run_underlying hu]
theorem rnfe1 {t : TypeId} {p q : Array TypeId} {c : Bool} (hu : P.underlying t = some (.func p q c)) (d : Nat) (f : Fn) (x y : Array Value) (w : World) : (Op.equalIn (d + 1) t (.func f x y) .nilFunc).run P w = .ok false w := by
  unfold Op.equalIn
  simp [run_underlying hu]
theorem L.ne0 {x y : Operand} {T U : TypeId} {b : Bool} {p q : Array TypeId} {c : Bool} (hu : P.underlying T = some (.func p q c)) (hw : Wt ops e g) (hx : Env.ev e x = some v) (hy : Env.ev e y = some .nilFunc) (hv : (v = .nilFunc ∧ b = false) ∨ ∃ f p q, v = .func f p q ∧ b = true) (hd : Nat.blt d n = true)
    (h : L P Q n ops os ((d, .bool b) :: e) w) : L P Q n ops (⟨some d, .binOp .neq T x y U, ty, pos, af, g⟩ :: os) e w :=
  L.val hw hd (fun a ha => by
    rcases hv with ⟨rfl, rfl⟩ | ⟨f, p, q, rfl, rfl⟩
    · have : (binOp .neq T .nilFunc .nilFunc).run P w = .ok (.bool false) w := by
        simp only [binOp]; simp [Op.equal, Op.maxDepth, rnfe0 hu 9999]
      simp [execOp, ha.ev hx, ha.ev hy, eqGuard, this]
    · have : (binOp .neq T (.func f p q) .nilFunc).run P w = .ok (.bool true) w := by
        simp only [binOp]; simp [Op.equal, Op.maxDepth, rnfe1 hu 9999]
      simp [execOp, ha.ev hx, ha.ev hy, eqGuard, this]) h
theorem L.fne2 {x y : Operand} {T U : TypeId} {m : Option (α → β → Option γ)} {p q : Array TypeId} {c : Bool} (hu : P.underlying T = some (.func p q c)) (hF : FO2 P s v arg2 res2 m) (hw : Wt ops e g) (hx : Env.ev e x = some v) (hy : Env.ev e y = some .nilFunc) (hd : Nat.blt d n = true)
    (h : L P Q n ops os ((d, .bool m.isSome) :: e) w) : L P Q n ops (⟨some d, .binOp .neq T x y U, ty, pos, af, g⟩ :: os) e w :=
  L.ne0 hu hw hx hy (by
    cases m with
    | none => exact .inl ⟨hF, rfl⟩
    | some m => obtain ⟨f, fst, cap, rfl, _⟩ := hF; exact .inr ⟨_, _, _, rfl, rfl⟩) hd h
theorem L.fne1 {x y : Operand} {T U : TypeId} {m : Option (α → Option β)} {p q : Array TypeId} {c : Bool} (hu : P.underlying T = some (.func p q c)) (hF : FO1 P s v arg1 res1 m) (hw : Wt ops e g) (hx : Env.ev e x = some v) (hy : Env.ev e y = some .nilFunc) (hd : Nat.blt d n = true)
    (h : L P Q n ops os ((d, .bool m.isSome) :: e) w) : L P Q n ops (⟨some d, .binOp .neq T x y U, ty, pos, af, g⟩ :: os) e w :=
  L.ne0 hu hw hx hy (by
    cases m with
    | none => exact .inl ⟨hF, rfl⟩
    | some m => obtain ⟨f, fst, cap, rfl, _⟩ := hF; exact .inr ⟨_, _, _, rfl, rfl⟩) hd h
theorem L.ia {T : TypeId} {x i : Operand} {k m b off : Nat} {j : Int} {kd : IntKind} (hI : IA P T k m) (hw : Wt ops e g) (hx : Env.ev e x = some (.pointer (some ⟨b, off, none⟩))) (hi : Env.ev e i = some (.int kd j)) (hj : (decide (0 ≤ j) && decide (j < k)) = true) (hd : Nat.blt d n = true)
    (h : L P Q n ops os ((d, .pointer (some ⟨b, off + j.toNat * m, none⟩)) :: e) w) : L P Q n ops (⟨some d, .indexAddr T x i, ty, pos, af, g⟩ :: os) e w := by
  obtain ⟨h1, h2⟩ := Bool.and_eq_true_iff.1 hj
  exact L.val hw hd (fun ac ha => by simp [execOp, ha.ev hx, ha.ev hi, hI w b off j kd (of_decide_eq_true h1) (of_decide_eq_true h2)]) h
end
theorem eqField_cons {P : Program} {d : Nat} {xs ys : Array Value} {f : Field} {fs : List Field} {w : World} {x y : Value} {b b' : Bool} (hn : (f.name == "_") = false) (ha : ∀ w, (isAgg f.type).run P w = .ok false w) (hs : ∀ w, (sizeOf f.type).run P w = .ok 1 w) (hx : xs[f.offset]? = some x) (hy : ys[f.offset]? = some y) (he : (Op.equalIn d f.type x y).run P w = .ok b w)
    (h : (Op.eqFields d xs ys fs).run P w = .ok b' w) : (Op.eqFields d xs ys (f :: fs)).run P w = .ok (b && b') w := by
  have hn' : f.name ≠ "_" := by simpa using hn
  have px : (part f.type xs f.offset).run P w = .ok x w := by
    obtain ⟨hk, e⟩ := Array.getElem?_eq_some_iff.1 hx
    simp [part, ha, hs, hk, e]
  have py : (part f.type ys f.offset).run P w = .ok y w := by
    obtain ⟨hk, e⟩ := Array.getElem?_eq_some_iff.1 hy
    simp [part, ha, hs, hk, e]
  simp only [Op.eqFields, if_pos hn', Sem.run_bind, px, py, Result.andThen_ok, he]
  cases b
  · simp
  · simpa using h
/-- Two structs are compared. -/
def Eqs (P : Program) (T : TypeId) (xs ys : List Value) (b : Bool) : Prop := ∀ w, (binOp .eql T (.agg xs.toArray) (.agg ys.toArray)).run P w = .ok (.bool b) w ∧ (binOp .neq T (.agg xs.toArray) (.agg ys.toArray)).run P w = .ok (.bool (!b)) w
theorem Eqs.mk {P : Program} {T : TypeId} {fs : Array Field} {xs ys : List Value} {b : Bool} (hu : P.underlying T = some (.struct fs)) (hs : P.stoodInHeld T = false) (h : ∀ w, (Op.eqFields 9999 xs.toArray ys.toArray fs.toList).run P w = .ok b w) : Eqs P T xs ys b := fun w => by
  have hf : P.fieldsOf T = fs := by simp [Program.fieldsOf, hu]
  have h1 : P.underlying T = some (.struct (P.fieldsOf T)) := by rw [hf]; exact hu
  constructor
  · rw [run_eql_struct, run_equalIn_agg _ 9999 T _ _ h1 hs, hf, h]; rfl
  · rw [run_neq_struct, run_equalIn_agg _ 9999 T _ _ h1 hs, hf, h]; rfl
def rng (i : Int) (n : Nat) : Option Unit := if (decide (0 ≤ i) && decide (i < n)) = true then some () else none
theorem rng_some {i : Int} {n : Nat} {u : Unit} (h : rng i n = some u) : (decide (0 ≤ i) && decide (i < n)) = true := by
  unfold rng at h
  split at h
  · assumption
  · cases h
theorem Mem.sub {s : Sig} {t b off : Nat} {c : List Value} (h : Mem s t b off c) (a n : Nat) (hn : a + n ≤ c.length) : Mem s t b (off + a) ((c.drop a).take n) := by
  refine ⟨fun h0 => h.htag (by rw [List.length_take, List.length_drop] at h0; omega), fun j hj => ?_⟩
  have hj' : j < n := by rw [List.length_take] at hj; omega
  rw [Nat.add_assoc, h.cell (a + j) (by omega)]
  simp
theorem getMap {α β : Type} {f : α → β} {l : List α} {k : Nat} {x : α} (h : l[k]? = some x) : (l.map f)[k]? = some (f x) := by rw [List.getElem?_map, h]; rfl
section
variable {P : Program} {Q : Exit → Act → World → Prop} {n : Nat} {e : List (Nat × Value)} {w : World} {s : Sig} {ops : Array Oper} {os : List Oper} {d : Nat} {ty : TypeId} {pos : String} {af : Array Edge} {g : Option (Nat × Bool)}
variable {α : Type} {r : Rep α} {t : Nat} {T U : TypeId} {a : Option Addr} {cap : Nat} {xs ys : List α}
theorem L.eqs {x y : Operand} {us vs : List Value} {b : Bool} (hE : Eqs P T us vs b) (hg : P.eqGuardType P.depth T = false) (hw : Wt ops e g) (hx : Env.ev e x = some (.agg us.toArray)) (hy : Env.ev e y = some (.agg vs.toArray)) (hd : Nat.blt d n = true)
    (h : L P Q n ops os ((d, .bool b) :: e) w) : L P Q n ops (⟨some d, .binOp .eql T x y U, ty, pos, af, g⟩ :: os) e w :=
  L.val hw hd (fun ac ha => by simp [execOp, ha.ev hx, ha.ev hy, run_eqGuard_agg, hg, (hE _).1]) h
theorem L.nes {x y : Operand} {us vs : List Value} {b : Bool} (hE : Eqs P T us vs b) (hg : P.eqGuardType P.depth T = false) (hw : Wt ops e g) (hx : Env.ev e x = some (.agg us.toArray)) (hy : Env.ev e y = some (.agg vs.toArray)) (hd : Nat.blt d n = true)
    (h : L P Q n ops os ((d, .bool (!b)) :: e) w) : L P Q n ops (⟨some d, .binOp .neq T x y U, ty, pos, af, g⟩ :: os) e w :=
  L.val hw hd (fun ac ha => by simp [execOp, ha.ev hx, ha.ev hy, run_eqGuard_agg, hg, (hE _).2]) h
theorem reqs (hu : P.underlying T = some (.slice U)) (d k c : Nat) (w : World) : (Op.equalIn (d + 1) T (.slice a k c) (.slice none 0 0)).run P w = .ok a.isNone w := by
  unfold Op.equalIn
  cases a <;> simp [run_underlying hu]
/-- A slice is compared with nil. -/
theorem L.nil? {x y : Operand} {k c : Nat} {T' : TypeId} (hu : P.underlying T = some (.slice U)) (hw : Wt ops e g) (hx : Env.ev e x = some (.slice a k c)) (hy : Env.ev e y = some (.slice none 0 0)) (hd : Nat.blt d n = true)
    (h : L P Q n ops os ((d, .bool a.isNone) :: e) w) : L P Q n ops (⟨some d, .binOp .eql T x y T', ty, pos, af, g⟩ :: os) e w :=
  L.val hw hd (fun ac ha => by
    have : (binOp .eql T (.slice a k c) (.slice none 0 0)).run P w = .ok (.bool a.isNone) w := by
      simp only [binOp]
      simp [Op.equal, Op.maxDepth, reqs hu 9999]
    simp [execOp, ha.ev hx, ha.ev hy, eqGuard, this]) h
theorem RdL.eq_nil (h : RdL r s a cap xs) (ha : a.isNone = true) : xs = [] := by
  obtain ⟨cs, h1, _⟩ := h
  have h2 := h1.hnil (by cases a with | none => rfl | some _ => cases ha)
  have := h1.hcap
  exact List.eq_nil_of_length_eq_zero (by omega)
/-- A row's front part is a row. -/
theorem L.sho {x hi : Operand} {k' : IntKind} {j : Int} {zs : List α} {T' : TypeId} (hS : Sl P T U r.sz) (hR : RowT r s t T' a cap xs) (hw : Wt ops e g) (hx : Env.ev e x = some (.slice a xs.length cap)) (hj : Env.ev e hi = some (.int k' j)) (hz : slc xs 0 j = some zs) (hd : Nat.blt d n = true)
    (h : ∀ a' cap', RowT r s t T' a' cap' zs → L P Q n ops os ((d, .slice a' zs.length cap') :: e) s.w) : L P Q n ops (⟨some d, .slice T x none (some hi) none, ty, pos, af, g⟩ :: os) e s.w := by
  obtain ⟨h0, h1, h2, rfl⟩ := slc_some hz
  have hl : ((xs.take j.toNat).drop (0 : Int).toNat).length = j.toNat - 0 := by rw [List.length_drop, List.length_take]; simp; omega
  obtain ⟨cs, g1, g2⟩ := hR
  have hlen := g1.1
  have hjm := Nat.mul_le_mul_right r.sz (show j.toNat ≤ xs.length by omega)
  have hcap : xs.length ≤ cap := by
    rcases g1.2 with ⟨e1, _⟩ | ⟨b, off, cap', cur, e1, _, _, _, h3, _⟩
    · simp only [Value.slice.injEq] at e1; omega
    · simp only [Value.slice.injEq] at e1; omega
  have hr := run_slice_h (P := P) s.w T a xs.length cap (by rw [hS.elem]; exact hS.und) k' j h1 (by omega)
  rw [hS.elem] at hr
  have hsame : (if cap = 0 then a else a.map (·.add (0 * r.sz))) = a := by
    rcases g1.2 with ⟨e1, _⟩ | ⟨b, off, cap', cur, e1, _, _, _, h3, _⟩
    · simp only [Value.slice.injEq] at e1; rw [e1.1]; simp
    · simp only [Value.slice.injEq] at e1; rw [e1.1]; simp [Addr.add_lit]
  have hsp : (((xs.take j.toNat) ++ xs.drop j.toNat)) = xs := List.take_append_drop _ _
  rw [← hsp] at g2
  have hc := g2.split.1
  rw [List.length_take, Nat.min_eq_left (by omega)] at hc
  refine L.val hw hd (fun ac ha => ?_) (h a cap ⟨cs.take (j.toNat * r.sz), ⟨?_, ?_⟩, by simpa using hc⟩)
  · simp only [execOp, ha.ev hx, ha.ev hj, Option.map_some, Option.map_none, Sem.run_bind, run_sliceAt_slice (P := P) s.w T _ _ _ _ (by rw [hS.elem]; exact hS.und), hr, hS.sz, Result.andThen_ok, sliced, Sem.run_pure, hl, hsame, Nat.sub_zero]
  · rw [List.length_take, hl, Nat.sub_zero]; omega
  · rw [hl, Nat.sub_zero]
    rcases g1.2 with ⟨e1, e2⟩ | ⟨b, off, cap', cur, e1, ho, q1, q2, q3, q4⟩
    · simp only [Value.slice.injEq] at e1
      have e0 : j.toNat = 0 := by omega
      exact .inl ⟨by rw [e1.1, e0, e1.2.2], by rw [e0]⟩
    · simp only [Value.slice.injEq] at e1
      refine .inr ⟨b, off, cap', cur, by rw [e1.1, e1.2.2], ho, by omega, q2, q3, ?_⟩
      rw [← q4, List.take_take, Nat.min_eq_left (by omega)]
/-- A row's end part, to be cleared. -/
theorem L.slo {x lo : Operand} {k' : IntKind} {j : Int} {zs : List α} {T' : TypeId} (hS : Sl P T U r.sz) (hR : RowT r s t T' a cap xs) (hw : Wt ops e g) (hx : Env.ev e x = some (.slice a xs.length cap)) (hj : Env.ev e lo = some (.int k' j)) (hz : slc xs j xs.length = some zs) (hd : Nat.blt d n = true)
    (h : L P Q n ops os ((d, .slice (if cap = j.toNat then a else a.map (·.add (j.toNat * r.sz))) (xs.length - j.toNat) (cap - j.toNat)) :: e) s.w) : L P Q n ops (⟨some d, .slice T x (some lo) none none, ty, pos, af, g⟩ :: os) e s.w := by
  obtain ⟨h0, h1, h2, rfl⟩ := slc_some hz
  refine L.val hw hd (fun ac ha => ?_) h
  have hr := run_slice_l (P := P) s.w T a xs.length cap (by rw [hS.elem]; exact hS.und) k' j h0 h1
  rw [hS.elem] at hr
  simp only [execOp, ha.ev hx, ha.ev hj, Option.map_some, Option.map_none, Sem.run_bind, run_sliceAt_slice (P := P) s.w T _ _ _ _ (by rw [hS.elem]; exact hS.und), hr, hS.sz, Result.andThen_ok, sliced, Sem.run_pure]
theorem L.valN {op : Op} {v : Value} {w w' : World} (hw : Wt ops e g)
    (hr : ∀ a, Fits n e a → (execOp a.eval ⟨none, op, ty, pos, af, g⟩).run P w = .ok (.value v) w') (h : L P Q n ops os e w') : L P Q n ops (⟨none, op, ty, pos, af, g⟩ :: os) e w :=
  L.op hw fun a ha K hK => by
    unfold Oper.wp
    rw [hr a ha]
    exact hK _ _ _ (ha.none v) h
theorem L.clr {x : Operand} {lo : Nat} {z : Value} {z0 : α} {T' : TypeId} (hS : Sl P T U r.sz) (hzv : (P.info? U).bind (·.zero) = some z) (hz : z.cells = #[z]) (h1 : z.oneCell' = true) (hr : ∀ s, r.rd s [z] z0) (hlo : lo ≤ xs.length) (hR : RowT r s t T' a cap xs) (ht : Nat.blt 0 t = true)
    (hw : Wt ops e g) (hx : Env.ev e x = some (.slice (if cap = lo then a else a.map (·.add (lo * r.sz))) (xs.length - lo) (cap - lo)))
    (h : ∀ s', Mv (One t) s s' → RowT r s' t T' a cap (xs.take lo ++ List.replicate (xs.length - lo) z0) → L P Q n ops os e s'.w) : L P Q n ops (⟨none, .call { callee := .builtin .clear, args := #[x], argTypes := #[T] }, ty, pos, af, g⟩ :: os) e s.w := by
  have hsz : r.sz = 1 := (r.len (hr s)).symm
  have hzv' : ∀ w, (zeroValue U).run P w = .ok z w := fun w => by
    cases hi : P.info? U with
    | none => simp [hi] at hzv
    | some i => simp [hi] at hzv; simp [zeroValue, typeInfo, hi, hzv]
  by_cases he : xs.length = lo
  · have e0 : xs.length - lo = 0 := by omega
    rw [e0] at hx h
    refine L.valN hw (v := .tuple #[]) (w' := s.w) (fun ac ha => ?_) (h s (Mv.refl _ _) ?_)
    · have : (Builtin.clear_ #[T] ty #[.slice (if cap = lo then a else a.map (·.add (lo * r.sz))) 0 (cap - lo)]).run P s.w = .ok (.tuple #[]) s.w := by
        cases (if cap = lo then a else a.map (·.add (lo * r.sz))) <;> simp [Builtin.clear_, run_underlying hS.und]
      simp [execOp, resolve, invoke, builtin, ha.ev hx, this]
    · rw [← he, List.take_length]; simpa using hR
  · obtain ⟨cs, g1, g2⟩ := hR
    have hlen := g1.1
    rcases g1.2 with ⟨e1, e2⟩ | ⟨b, off, cap', cur, e1, ho, q1, q2, q3, q4⟩
    · omega
    simp only [Value.slice.injEq] at e1
    obtain ⟨rfl, _, rfl⟩ := e1
    rw [hsz, Nat.mul_one] at hlen q3 q4
    rw [if_neg (by omega), hsz] at hx
    simp only [Option.map_some, Addr.add_lit, Nat.mul_one] at hx
    obtain ⟨m, hm⟩ : ∃ m, xs.length - lo = m + 1 := ⟨xs.length - lo - 1, by omega⟩
    have hzc : (Builtin.zeroCells z.cells (m + 1)).toList = List.replicate (m + 1) z := by
      rw [hz]
      simp [Builtin.zeroCells]
      apply List.ext_getElem
      · simp
      · intro i h1 h2
        simp [Nat.mod_one]
    have hst := run_storeCells_at P b (off + lo) T' (List.replicate (m + 1) z) 0 cur s.w ho.heap (by simp only [List.length_replicate]; omega) (by intro v hv'; rw [List.eq_of_mem_replicate hv']; exact h1)
    simp only [Nat.add_zero] at hst
    refine L.valN hw (v := .tuple #[]) (w' := s.w.setRow b (cur.toList.take (off + lo) ++ List.replicate (m + 1) z ++ cur.toList.drop (off + lo + (List.replicate (m + 1) z).length)).toArray) (fun ac ha => ?_) ?_
    · have : (Builtin.clear_ #[T] ty #[.slice (some ⟨b, off + lo, none⟩) (m + 1) (cap - lo)]).run P s.w = .ok (.tuple #[]) (s.w.setRow b (cur.toList.take (off + lo) ++ List.replicate (m + 1) z ++ cur.toList.drop (off + lo + (List.replicate (m + 1) z).length)).toArray) := by
        simp [Builtin.clear_, run_underlying hS.und, hzv', hzc, hst]
      rw [hm] at hx
      simp [execOp, resolve, invoke, builtin, ha.ev hx, this]
    · have hmv : Mv (One t) s ⟨s.w.setRow b (cur.toList.take (off + lo) ++ List.replicate (m + 1) z ++ cur.toList.drop (off + lo + (List.replicate (m + 1) z).length)).toArray, s.tag⟩ :=
        ⟨rfl, rfl, rfl, by simp, fun b' hb hn => ⟨setRow_other _ _ _ _ (by rintro rfl; exact hn ho.htag), rfl⟩⟩
      refine h _ hmv ?_
      have hle := hmv.le (show ¬ One t 0 from fun e => by rw [← e] at ht; simp at ht)
      have hsp : xs.take lo ++ xs.drop lo = xs := List.take_append_drop _ _
      rw [← hsp] at g2
      have hc := g2.split.1
      rw [List.length_take, Nat.min_eq_left hlo, hsz, Nat.mul_one] at hc
      have hrep := Cells.rep (r := r) (s := s) (hr s) (m + 1)
      have hfl : (List.replicate (m + 1) [z]).flatten = List.replicate (m + 1) z := by simp
      rw [hfl] at hrep
      rw [hm]
      have hll : (xs.take lo ++ List.replicate (m + 1) z0).length = xs.length := by rw [List.length_append, List.length_take, List.length_replicate]; omega
      have hcl : cur.toList.length = cur.size := Array.length_toList
      refine ⟨cs.take lo ++ List.replicate (m + 1) z, ⟨?_, .inr ⟨b, off, cap, _, by rw [hll], ⟨setRow_heap _ _ _ _ _ _ ho.heap, ho.htag, ho.base⟩, by rw [hll]; exact q1, q2, ?_, ?_⟩⟩, (Cells.append hc hrep).mono hle⟩
      · rw [hsz, Nat.mul_one, hll, List.length_append, List.length_take, List.length_replicate]; omega
      · simp only [List.size_toArray, List.length_append, List.length_take, List.length_drop, List.length_replicate, hcl, hsz, Nat.mul_one]
        omega
      · rw [hsz, Nat.mul_one, hll]
        apply List.ext_getElem?
        intro j
        have hcur : ∀ i, i < xs.length → cs[i]? = cur.toList[off + i]? := fun i hi => by rw [← q4, List.getElem?_take, if_pos hi, List.getElem?_drop]
        rw [List.getElem?_take, List.getElem?_drop, get_splice (by rw [List.length_replicate, hcl]; omega), List.length_replicate]
        by_cases hj : j < xs.length
        · rw [if_pos hj]
          by_cases hj2 : j < lo
          · rw [if_neg (by omega), List.getElem?_append_left (by rw [List.length_take]; omega), List.getElem?_take, if_pos hj2, hcur j hj]
          · rw [if_pos (by omega), List.getElem?_append_right (by rw [List.length_take]; omega), List.length_take, show off + j - (off + lo) = j - Min.min lo cs.length by omega]
        · rw [if_neg hj, List.getElem?_eq_none (by rw [List.length_append, List.length_take, List.length_replicate]; omega)]
theorem isNoneS (a : Option Addr) : a.isNone = true ∨ a.isNone = false := by cases a <;> simp
end
end Go.Proofs.Ytkkemchihllklaa
