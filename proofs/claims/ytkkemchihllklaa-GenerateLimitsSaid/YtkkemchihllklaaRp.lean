/- Rules for lists: their elements, stores into rows, append, make, parts; calls, entry and return. -/
import Derived.Test.YtkkemchihllklaaRo
import Derived.Laws.OwnMore
import Derived.Laws.Slices
namespace Go.Proofs.Ytkkemchihllklaa
open Go Go.RowKit

/-- append, as long as the list stays short. -/
def app {α : Type} (xs ys : List α) : Option (List α) := if xs.length + ys.length ≤ 4294967296 then some (xs ++ ys) else none
theorem app_some {α : Type} {xs ys zs : List α} (h : app xs ys = some zs) : xs.length + ys.length ≤ 4294967296 ∧ zs = xs ++ ys := by
  unfold app at h
  split at h
  · exact ⟨by assumption, by cases h; rfl⟩
  · cases h
theorem app_eq {α : Type} {xs ys : List α} (h : xs.length + ys.length ≤ 4294967296) : app xs ys = some (xs ++ ys) := if_pos h
/-- make. -/
def mkL {α : Type} (n : Int) (z : α) : Option (List α) := if 0 ≤ n ∧ n ≤ 4294967296 then some (List.replicate n.toNat z) else none
theorem mkL_some {α : Type} {n : Int} {z : α} {zs : List α} (h : mkL n z = some zs) : 0 ≤ n ∧ n ≤ 4294967296 ∧ zs = List.replicate n.toNat z := by
  unfold mkL at h
  split at h
  · rename_i g; exact ⟨g.1, g.2, by cases h; rfl⟩
  · cases h
theorem mkL_eq {α : Type} {n : Int} {z : α} (h0 : 0 ≤ n) (h1 : n ≤ 4294967296) : mkL n z = some (List.replicate n.toNat z) := if_pos ⟨h0, h1⟩
/-- A part of a list. -/
def slc {α : Type} (xs : List α) (lo hi : Int) : Option (List α) := if 0 ≤ lo ∧ lo ≤ hi ∧ hi ≤ xs.length then some ((xs.take hi.toNat).drop lo.toNat) else none
theorem slc_some {α : Type} {xs zs : List α} {lo hi : Int} (h : slc xs lo hi = some zs) : 0 ≤ lo ∧ lo ≤ hi ∧ hi ≤ xs.length ∧ zs = (xs.take hi.toNat).drop lo.toNat := by
  unfold slc at h
  split at h
  · rename_i g; exact ⟨g.1, g.2.1, g.2.2, by cases h; rfl⟩
  · cases h
/-- A store at an index. -/
def upd {α : Type} (xs : List α) (i : Int) (y : α) : Option (List α) := if 0 ≤ i ∧ i < xs.length then some (xs.set i.toNat y) else none
theorem upd_some {α : Type} {xs zs : List α} {i : Int} {y : α} (h : upd xs i y = some zs) : 0 ≤ i ∧ i.toNat < xs.length ∧ zs = xs.set i.toNat y := by
  unfold upd at h
  split at h
  · rename_i g; exact ⟨g.1, by omega, by cases h; rfl⟩
  · cases h

/-- What append reads. -/
def RdW {α : Type} (r : Rep α) (s : Sig) (a : Option Addr) (cap : Nat) (xs : List α) : Prop := ∃ cs, RdS s.w r.sz a xs.length cap cs ∧ Cells r s cs xs
theorem RdL.wk {α : Type} {r : Rep α} {s : Sig} {a : Option Addr} {cap : Nat} {xs : List α} (h : RdL r s a cap xs) : RdW r s a cap xs := by
  obtain ⟨cs, h1, _, h3⟩ := h; exact ⟨cs, h1, h3⟩
theorem RowT.wk {α : Type} {r : Rep α} {s : Sig} {t : Nat} {T : TypeId} {a : Option Addr} {cap : Nat} {xs : List α} (h : RowT r s t T a cap xs) : RdW r s a cap xs := by
  obtain ⟨cs, h1, h2⟩ := h
  obtain ⟨a', cap', e, h3⟩ := h1.rd
  cases e
  exact ⟨cs, h3, h2⟩
structure Spot (a : Option Addr) (sz k b off : Nat) : Prop where
  is : ∃ o, a = some ⟨b, o, none⟩ ∧ off = o + k * sz

/-- What a type's data are when they are made. -/
structure Zr (P : Program) {α : Type} (r : Rep α) (E : TypeId) (by_ : Nat) (z : α) : Prop where
  is : ∃ i v, P.info? E = some i ∧ i.size = r.sz ∧ i.bytes = by_ ∧ i.zero = some v ∧ ∀ s, r.rd s v.cells.toList z
/-- A type of elements. -/
structure El (P : Program) (E : TypeId) (m by_ : Nat) : Prop where
  is : ∃ i v, P.info? E = some i ∧ i.size = m ∧ i.bytes = by_ ∧ i.zero = some v ∧ v.cells.size = m

/-- What a call leaves. -/
def RetS (S : Nat → Prop) (s : Sig) (Post : Value → Sig → Prop) : Ending → World → Prop := fun en w' => ∃ v s', w' = s'.w ∧ en = .returned v ∧ Mv S s s' ∧ Post v s'

def Env.ofArgs : Nat → List Value → List (Nat × Value)
  | _, [] => []
  | i, v :: vs => (i, v) :: Env.ofArgs (i + 1) vs
theorem Env.get_ofArgs : ∀ {vs : List Value} {i d : Nat} {v : Value}, Env.get (Env.ofArgs i vs) d = some v → i ≤ d ∧ vs[d - i]? = some v
  | [], i, d, v, h => by cases h
  | u :: vs, i, d, v, h => by
    simp only [Env.ofArgs, Env.get] at h
    by_cases hb : Nat.beq i d = true
    · have e : i = d := Nat.eq_of_beq_eq_true hb
      subst e
      rw [hb, cond_true, Option.some.injEq] at h
      subst h
      exact ⟨Nat.le_refl _, by simp⟩
    · have hb' : Nat.beq i d = false := by cases h0 : Nat.beq i d <;> simp_all
      rw [hb', cond_false] at h
      obtain ⟨h1, h2⟩ := Env.get_ofArgs h
      refine ⟨by omega, ?_⟩
      rw [← h2, show d - i = (d - (i + 1)) + 1 by omega, List.getElem?_cons_succ]
theorem E.entry {P : Program} {f : FuncId} {fn : Func} {c : Code} {vs : List Value} {w : World} {R : Ending → World → Prop} {n : Nat} {e : List (Nat × Value)} (hf : P.funcs[f]? = some fn) (hb : fn.body = some c) (hn : fn.ntmps = n) (hv : Nat.ble vs.length n = true) (he : Env.ofArgs 0 vs = e)
    (h : E P (bodyPost P fn R) n c e w) : Calls P f vs.toArray w R := by
  subst hn
  subst he
  have hv' : vs.length ≤ fn.ntmps := Nat.le_of_ble_eq_true hv
  refine calls_of_wp hf hb (h _ ⟨by simp; omega, rfl, fun d v hg => ?_⟩)
  obtain ⟨_, h2⟩ := Env.get_ofArgs hg
  have hl := (List.getElem?_eq_some_iff.1 h2).1
  rw [Nat.sub_zero] at h2 hl
  rw [Array.getElem?_append_left (by simpa using hl)]
  simpa using h2
def Env.rv (a : Act) : ResultVar → Sem Value
  | .tmp t => pure (a.tmps.getD t undef)
  | .cell b t => do loadVar t (← asAddr (a.tmps.getD b undef))
theorem Env.rv_run {P : Program} {n : Nat} {e : List (Nat × Value)} {a : Act} {w : World} (ha : Fits n e a) {t : Nat} {v : Value} (h : Env.get e t = some v) : (Env.rv a (.tmp t)).run P w = .ok v w := by
  simp [Env.rv, Array.getD_eq_getD_getElem?, ha.has t v h]
theorem X.ret1 {P : Program} {fn : Func} {R : Ending → World → Prop} {n : Nat} {e : List (Nat × Value)} {w : World} {t : Nat} {v : Value} {x : Exit} (hx : x = .ret ∨ x = .normal) (hr : fn.results = #[.tmp t]) (hv : Env.get e t = some v)
    (h : R (.returned v) w) : X (bodyPost P fn R) n x e w := fun a ha => by
  have h1 : (results fn a.tmps).run P w = .ok v w := by
    have h2 := Env.rv_run (P := P) (w := w) ha hv
    simp [results, hr, Array.getD_eq_getD_getElem?, ha.has t v hv]
  rcases hx with rfl | rfl
  · exact ⟨ha.defers, v, h1, h⟩
  · exact ⟨ha.defers, v, h1, h⟩
theorem X.ret0 {P : Program} {fn : Func} {R : Ending → World → Prop} {n : Nat} {e : List (Nat × Value)} {w : World} {x : Exit} (hx : x = .ret ∨ x = .normal) (hr : fn.results = #[])
    (h : R (.returned (.tuple #[])) w) : X (bodyPost P fn R) n x e w := fun a ha => by
  have h1 : (results fn a.tmps).run P w = .ok (.tuple #[]) w := by simp [results, hr]
  rcases hx with rfl | rfl
  · exact ⟨ha.defers, _, h1, h⟩
  · exact ⟨ha.defers, _, h1, h⟩
theorem X.ret2 {P : Program} {fn : Func} {R : Ending → World → Prop} {n : Nat} {e : List (Nat × Value)} {w : World} {t t' : Nat} {v v' : Value} {x : Exit} (hx : x = .ret ∨ x = .normal) (hr : fn.results = #[.tmp t, .tmp t']) (hv : Env.get e t = some v) (hv' : Env.get e t' = some v')
    (h : R (.returned (.tuple #[v, v'])) w) : X (bodyPost P fn R) n x e w := fun a ha => by
  have h1 : (results fn a.tmps).run P w = .ok (.tuple #[v, v']) w := by
    simp [results, hr, Array.getD_eq_getD_getElem?, ha.has t v hv, ha.has t' v' hv']
  rcases hx with rfl | rfl
  · exact ⟨ha.defers, _, h1, h⟩
  · exact ⟨ha.defers, _, h1, h⟩
theorem X.ret3 {P : Program} {fn : Func} {R : Ending → World → Prop} {n : Nat} {e : List (Nat × Value)} {w : World} {t t' t2 : Nat} {v v' v2 : Value} {x : Exit} (hx : x = .ret ∨ x = .normal) (hr : fn.results = #[.tmp t, .tmp t', .tmp t2]) (hv : Env.get e t = some v) (hv' : Env.get e t' = some v') (hv2 : Env.get e t2 = some v2)
    (h : R (.returned (.tuple #[v, v', v2])) w) : X (bodyPost P fn R) n x e w := fun a ha => by
  have h1 : (results fn a.tmps).run P w = .ok (.tuple #[v, v', v2]) w := by
    simp [results, hr, Array.getD_eq_getD_getElem?, ha.has t v hv, ha.has t' v' hv', ha.has t2 v2 hv2]
  rcases hx with rfl | rfl
  · exact ⟨ha.defers, _, h1, h⟩
  · exact ⟨ha.defers, _, h1, h⟩

section
variable {P : Program} {Q : Exit → Act → World → Prop} {n : Nat} {e : List (Nat × Value)} {w : World} {s : Sig} {ops : Array Oper} {os : List Oper} {d : Nat} {ty : TypeId} {pos : String} {af : Array Edge} {g : Option (Nat × Bool)}
variable {α : Type} {r : Rep α} {t : Nat} {T T' U : TypeId} {a : Option Addr} {cap : Nat} {xs ys : List α}

/-- A call of a function by what it does. -/
theorem L.ca {f : FuncId} {xs : List Operand} {vs : List Value} {c : Call} {S : Nat → Prop} {Post : Value → Sig → Prop} (hcf : Cf P f) (hc : c.callee = .value (.func f)) (hca : c.args = xs.toArray) (hw : Wt ops e g) (hx : Env.evs e xs = some vs)
    (hcall : Calls P f vs.toArray s.w (RetS S s Post)) (hd : Nat.blt d n = true) (h : ∀ v s', Mv S s s' → Post v s' → L P Q n ops os ((d, v) :: e) s'.w) : L P Q n ops (⟨some d, .call c, ty, pos, af, g⟩ :: os) e s.w :=
  L.op hw fun ac ha K hK => by
    unfold Oper.wp
    have h2 : c.args.map ac.eval = vs.toArray := by rw [hca, List.map_toArray, ha.evs hx]
    have hrun : (execOp ac.eval ⟨some d, .call c, ty, pos, af, g⟩).run P s.w = .ok (.enter f vs.toArray) s.w := by
      simp [execOp, resolve, hc, h2, Deferred.ofValue, Act.eval, invoke, hcf _ _]
    rw [hrun, Oper.upon_enter]
    refine hcall.mono fun en w' hh => ?_
    obtain ⟨v, s', rfl, rfl, h3, h4⟩ := hh
    exact hK _ _ _ (ha.put hd v) (h v s' h3 h4)
theorem L.caN {f : FuncId} {xs : List Operand} {vs : List Value} {c : Call} {S : Nat → Prop} {Post : Value → Sig → Prop} (hcf : Cf P f) (hc : c.callee = .value (.func f)) (hca : c.args = xs.toArray) (hw : Wt ops e g) (hx : Env.evs e xs = some vs)
    (hcall : Calls P f vs.toArray s.w (RetS S s Post)) (h : ∀ v s', Mv S s s' → Post v s' → L P Q n ops os e s'.w) : L P Q n ops (⟨none, .call c, ty, pos, af, g⟩ :: os) e s.w :=
  L.op hw fun ac ha K hK => by
    unfold Oper.wp
    have h2 : c.args.map ac.eval = vs.toArray := by rw [hca, List.map_toArray, ha.evs hx]
    have hrun : (execOp ac.eval ⟨none, .call c, ty, pos, af, g⟩).run P s.w = .ok (.enter f vs.toArray) s.w := by
      simp [execOp, resolve, hc, h2, Deferred.ofValue, Act.eval, invoke, hcf _ _]
    rw [hrun, Oper.upon_enter]
    refine hcall.mono fun en w' hh => ?_
    obtain ⟨v, s', rfl, rfl, h3, h4⟩ := hh
    exact hK _ _ _ ha (h v s' h3 h4)

/-- The address of an element of a list. -/
theorem L.ix {x i : Operand} {k : IntKind} {j : Int} {y : α} (hS : Sl P T U r.sz) (hR : RdL r s a cap xs) (hw : Wt ops e g) (hx : Env.ev e x = some (.slice a xs.length cap)) (hi : Env.ev e i = some (.int k j)) (hy : idx xs j = some y) (hd : Nat.blt d n = true)
    (h : ∀ b off c, Mem s 0 b off c → r.rd s c y → L P Q n ops os ((d, .pointer (some ⟨b, off, none⟩)) :: e) s.w) : L P Q n ops (⟨some d, .indexAddr T x i, ty, pos, af, g⟩ :: os) e s.w := by
  obtain ⟨h0, hk, rfl⟩ := idx_some hy
  obtain ⟨b, off, c, rfl, hm, hr⟩ := hR.at j.toNat hk
  refine L.val hw hd (v := .pointer (some ⟨b, off + j.toNat * r.sz, none⟩)) (fun ac ha => ?_) (h _ _ c hm hr)
  have hlt : j < xs.length := by omega
  simp [execOp, Instr.indexAt, ha.ev hx, ha.ev hi, asIntOf, run_underlying hS.und, hS.sz, h0, hlt, Addr.add_lit]
/-- The address of an element of a row of one's own. -/
theorem L.ir {x i : Operand} {k : IntKind} {j : Int} {y : α} (hS : Sl P T U r.sz) (hR : RowT r s t T' a cap xs) (hw : Wt ops e g) (hx : Env.ev e x = some (.slice a xs.length cap)) (hi : Env.ev e i = some (.int k j)) (hy : idx xs j = some y) (hd : Nat.blt d n = true)
    (h : ∀ b off c, Mem s t b off c → r.rd s c y → Spot a r.sz j.toNat b off → L P Q n ops os ((d, .pointer (some ⟨b, off, none⟩)) :: e) s.w) : L P Q n ops (⟨some d, .indexAddr T x i, ty, pos, af, g⟩ :: os) e s.w := by
  obtain ⟨h0, hk, rfl⟩ := idx_some hy
  obtain ⟨cs, h1, h2⟩ := hR
  obtain ⟨b, off, cap', e', hlt, _, htag⟩ := h1.addr (by omega)
  simp only [Value.slice.injEq, true_and] at e'
  obtain ⟨rfl, rfl⟩ := e'
  have hx2 := h2.at j.toNat hk
  have hl := h1.1
  have hm := Nat.mul_le_mul_right r.sz (show j.toNat + 1 ≤ xs.length from hk)
  rw [Nat.succ_mul] at hm
  refine L.val hw hd (v := .pointer (some ⟨b, off + j.toNat * r.sz, none⟩)) (fun ac ha => ?_) (h _ _ _ ⟨fun _ => htag, fun j' hj => ?_⟩ hx2 ⟨off, rfl, rfl⟩)
  · have hlt : j < xs.length := by omega
    simp [execOp, Instr.indexAt, ha.ev hx, ha.ev hi, asIntOf, run_underlying hS.und, hS.sz, h0, hlt, Addr.add_lit]
  · have hj' : j' < r.sz := by rw [r.len hx2] at hj; exact hj
    rw [Nat.add_assoc, h1.cellAt (j.toNat * r.sz + j') (by omega), List.getElem_take, List.getElem_drop, List.getElem?_eq_getElem]
theorem RdS.srcs {w : World} {sz : Nat} {a : Option Addr} {len cap : Nat} {cs : List Value} (h : RdS w sz a len cap cs) : (a = none → len = 0 ∧ cap = 0) ∧ ∀ ad, a = some ad → ∀ j u, cs[j]? = some u → w.cell? (ad.add j) = some u := by
  refine ⟨fun e => ?_, fun ad e j u hu => ?_⟩
  · have := h.hnil e; have := h.hcap; omega
  · obtain ⟨hj, rfl⟩ := List.getElem?_eq_some_iff.1 hu
    rw [← h.cell ad e j hj]
    have := h.spot ad e
    obtain ⟨b, o, sp⟩ := ad
    simp only at this
    subst this
    rw [Addr.add_lit]
/-- append to a row of one's own. -/
theorem L.ap {x y : Operand} {a2 : Option Addr} {cap2 by_ : Nat} {zs : List α} (hU : P.underlying T = some (.slice U)) (hE : El P U r.sz by_) (hby : Nat.ble by_ 32768 = true) (ht : Nat.blt 0 t = true) (hR : RowT r s t U a cap xs) (hY : RdW r s a2 cap2 ys)
    (hw : Wt ops e g) (hx : Env.ev e x = some (.slice a xs.length cap)) (hy : Env.ev e y = some (.slice a2 ys.length cap2)) (hl : app xs ys = some zs) (hd : Nat.blt d n = true)
    (h : ∀ a' cap' s', Mv (One t) s s' → RowT r s' t U a' cap' zs → L P Q n ops os ((d, .slice a' zs.length cap') :: e) s'.w) :
    L P Q n ops (⟨some d, .call { callee := .builtin .append, args := #[x, y], argTypes := #[T, T] }, ty, pos, af, g⟩ :: os) e s.w := by
  obtain ⟨hl1, rfl⟩ := app_some hl
  clear hl
  have hl := hl1
  obtain ⟨cs, h1, h2⟩ := hR
  obtain ⟨ds, g1, g3⟩ := hY
  obtain ⟨i, z, k1, k2, k3, k4, k5⟩ := hE.is
  have hby' : by_ ≤ 32768 := Nat.le_of_ble_eq_true hby
  have ht' : 0 < t := by simpa using ht
  have hbytes : (xs.length + ys.length) * by_ ≤ 140737488355328 := Nat.le_trans (Nat.mul_le_mul hl hby') (by decide)
  obtain ⟨v', w', tag', hrun, hrow, hturn⟩ := run_append_row (P := P) ty T U i z by_ hU k1 k4 k2 k3 k5 h1 a2 ys.length cap2 ds (by rw [g1.hlen]) g1.srcs.1 g1.srcs.2 g3.one (by unfold maxLen; omega) hbytes (Nat.zero_le _)
  obtain ⟨a', cap', rfl⟩ := hrow.val
  have hm : Mv (One t) s ⟨w', tag'⟩ := hturn.mv
  have hle : Le s ⟨w', tag'⟩ := hm.le (by show ¬ 0 = t; omega)
  refine L.val hw hd (v := .slice a' (xs.length + ys.length) cap') (w' := w') (fun ac ha => ?_) ?_
  · simp [execOp, resolve, invoke, builtin, ha.ev hx, ha.ev hy, hrun]
  · have := h a' cap' ⟨w', tag'⟩ hm ⟨cs ++ ds, by rw [List.length_append]; exact hrow, Cells.append (h2.mono hle) (g3.mono hle)⟩
    rwa [List.length_append] at this
/-- make. -/
theorem Cells.rep {z : α} {c : List Value} (hz : r.rd s c z) : ∀ k, Cells r s (List.replicate k c).flatten (List.replicate k z)
  | 0 => rfl
  | k + 1 => ⟨c, _, by rw [List.replicate_succ, List.flatten_cons], hz, Cells.rep hz k⟩
theorem made_flat {c : Array Value} : ∀ (k : Nat), (madeCells c (k * c.size)).toList = (List.replicate k c.toList).flatten := by
  intro k
  apply List.ext_getElem?
  intro i
  by_cases hc : c.size = 0
  · have : c = #[] := Array.eq_empty_of_size_eq_zero hc
    subst this
    simp [madeCells]
  have hf : (List.replicate k c.toList).flatten = (List.replicate k ()).flatMap (fun _ => c.toList) := by simp [List.flatMap, List.map_replicate]
  rw [hf]
  by_cases hi : i < k * c.size
  · have e1 : i = (i / c.size) * c.size + i % c.size := by rw [Nat.mul_comm]; exact (Nat.div_add_mod i c.size).symm
    have hm : i % c.size < c.size := Nat.mod_lt _ (by omega)
    have hq : i / c.size < k := (Nat.div_lt_iff_lt_mul (by omega)).2 hi
    have h2 := flat_at (fun _ : Unit => c.toList) c.size (fun _ => by simp) (List.replicate k ()) (i / c.size) (i % c.size) (by simpa using hq) hm
    rw [← e1] at h2
    rw [h2]
    simp [madeCells, hi, hm]
  · rw [List.getElem?_eq_none (by simp [madeCells]; omega), List.getElem?_eq_none (by rw [flat_length _ c.size (fun _ => by simp)]; simp; omega)]
theorem L.mk {x y : Operand} {k k' : IntKind} {j : Int} {by_ : Nat} {z : α} {zs : List α} (t : Nat) (hU : P.underlying T = some (.slice U)) (hZ : Zr P r U by_ z) (hby : Nat.ble by_ 32768 = true)
    (hw : Wt ops e g) (hx : Env.ev e x = some (.int k j)) (hy : Env.ev e y = some (.int k' j)) (hl : mkL j z = some zs) (hd : Nat.blt d n = true)
    (h : ∀ b s', Mv No s s' → RowT r s' t U (some ⟨b, 0, none⟩) zs.length zs → L P Q n ops os ((d, .slice (some ⟨b, 0, none⟩) zs.length zs.length) :: e) s'.w) :
    L P Q n ops (⟨some d, .makeSlice T x y, ty, pos, af, g⟩ :: os) e s.w := by
  obtain ⟨h0, h1, rfl⟩ := mkL_some hl
  obtain ⟨i, v, k1, k2, k3, k4, k5⟩ := hZ.is
  have hby' : by_ ≤ 32768 := Nat.le_of_ble_eq_true hby
  obtain ⟨m, rfl⟩ : ∃ m : Nat, j = m := ⟨j.toNat, by omega⟩
  have hm32 : m ≤ 4294967296 := by omega
  simp only [Int.toNat_natCast] at h ⊢
  have hbytes : i.bytes * m ≤ 281474976710656 := by
    rw [k3]; exact Nat.le_trans (Nat.mul_le_mul hby' hm32) (by decide)
  have hr := run_make (P := P) s.w T U i v hU k1 k4 k k' m m (by omega) (Int.le_refl _) (by rw [← Int.natCast_mul]; omega) (by omega)
  simp only [Int.toNat_natCast] at hr
  have hvs : v.cells.size = r.sz := by have := r.len (k5 s); simpa using this
  refine L.val hw hd (v := .slice (some ⟨s.w.heap.size, 0, none⟩) m m) (w' := s.w.alloc (.cells (madeCells v.cells (m * i.size)) U)) (fun ac ha => ?_) ?_
  · simp [execOp, ha.ev hx, ha.ev hy, hr]
  · have hmv : Mv No s ⟨s.w.alloc (.cells (madeCells v.cells (m * i.size)) U), tagUp s.tag s.w.heap.size t⟩ := ⟨rfl, rfl, rfl, by simp, fun b hb _ => ⟨heap_alloc_old s.w _ hb, tagUp_lt hb⟩⟩
    have hrow := Bx.row (r := r) (s := ⟨s.w.alloc (.cells (madeCells v.cells (m * i.size)) U), tagUp s.tag s.w.heap.size t⟩) (t := t) (T := U) (xs := List.replicate m z) ⟨heap_alloc_new s.w _, tagUp_at _ _ _⟩ (by
      rw [k2, ← hvs, made_flat]
      exact Cells.rep (k5 _) m) (by simp [maxLen]; omega)
    have := h _ _ hmv hrow
    simpa using this
theorem get_splice {β : Type} {l c : List β} {i : Nat} (h : i + c.length ≤ l.length) (j : Nat) : (l.take i ++ c ++ l.drop (i + c.length))[j]? = if i ≤ j ∧ j < i + c.length then c[j - i]? else l[j]? := by
  have hi : (l.take i).length = i := by rw [List.length_take]; omega
  by_cases h1 : j < i
  · rw [if_neg (by omega), List.append_assoc, List.getElem?_append_left (by omega), List.getElem?_take, if_pos h1]
  · by_cases h2 : j < i + c.length
    · rw [if_pos ⟨by omega, h2⟩, List.getElem?_append_left (by rw [List.length_append]; omega), List.getElem?_append_right (by omega), hi]
    · rw [if_neg (by omega), List.getElem?_append_right (by rw [List.length_append]; omega), List.length_append, hi, List.getElem?_drop]
      congr 1; omega
theorem splice_len {β : Type} {l c : List β} {i : Nat} (h : i + c.length ≤ l.length) : (l.take i ++ c ++ l.drop (i + c.length)).length = l.length := by
  simp only [List.length_append, List.length_take, List.length_drop]; omega
/-- A store into a row of one's own. -/
theorem L.sr {x y : Operand} {b o fo m k : Nat} {v : Value} {c : List Value} {z : α} (hR : RowT r s t T' a cap xs) (hsp : Spot a r.sz k b o) (hk : k < xs.length) (ht : Nat.blt 0 t = true) (hT : ∀ w, (sizeOf T).run P w = .ok m w)
    (hw : Wt ops e g) (hx : Env.ev e x = some (.pointer (some ⟨b, o + fo, none⟩))) (hy : Env.ev e y = some v) (hc : v.cells.toList = c) (hm : c.length = m) (hfo : Nat.ble (fo + m) r.sz = true) (h1 : ∀ u ∈ c, u.oneCell' = true)
    (hz : ∀ c0, r.rd s c0 xs[k] → r.rd s (c0.take fo ++ c ++ c0.drop (fo + c.length)) z)
    (h : ∀ s', Mv (One t) s s' → RowT r s' t T' a cap (xs.set k z) → L P Q n ops os e s'.w) : L P Q n ops (⟨none, .store T x y, ty, pos, af, g⟩ :: os) e s.w := by
  subst hc
  obtain ⟨cs, h2, h3⟩ := hR
  obtain ⟨o', rfl, rfl⟩ := hsp.is
  have ht' : 0 < t := by simpa using ht
  have hfo' : fo + m ≤ r.sz := Nat.le_of_ble_eq_true hfo
  rcases h2.2 with ⟨e', _⟩ | ⟨b', off', cap', cur, e', ho, q1, q2, q3, q4⟩
  · simp at e'
  simp only [Value.slice.injEq, Option.some.injEq, Addr.mk.injEq, and_true, true_and] at e'
  obtain ⟨⟨rfl, rfl⟩, rfl⟩ := e'
  have hkm := Nat.mul_le_mul_right r.sz (show k + 1 ≤ xs.length from hk)
  rw [Nat.succ_mul] at hkm
  have hcm := Nat.mul_le_mul_right r.sz q1
  have hst := run_storeCells_at P b (o' + k * r.sz + fo) T' v.cells.toList 0 cur s.w ho.heap (by omega) h1
  simp only [Nat.add_zero] at hst
  refine L.unit hw (w' := s.w.setRow b (cur.toList.take (o' + k * r.sz + fo) ++ v.cells.toList ++ cur.toList.drop (o' + k * r.sz + fo + v.cells.toList.length)).toArray) (fun ac ha => ?_) ?_
  · have hsz : v.cells.size = m := by simpa using hm
    simp [execOp, Instr.storeAt, Instr.sureAddr, storeVar, ha.ev hx, ha.ev hy, hT, hsz]
    have hst' := hst
    simp only [Array.length_toList, hsz] at hst'
    rw [hst']
    simp
  · have hmv : Mv (One t) s ⟨s.w.setRow b (cur.toList.take (o' + k * r.sz + fo) ++ v.cells.toList ++ cur.toList.drop (o' + k * r.sz + fo + v.cells.toList.length)).toArray, s.tag⟩ :=
      ⟨rfl, rfl, rfl, by simp, fun b' hb hn => ⟨setRow_other _ _ _ _ (by rintro rfl; exact hn ho.htag), rfl⟩⟩
    refine h _ hmv ?_
    have hle := hmv.le (show ¬ One t 0 from fun e => by rw [← e] at ht'; exact absurd ht' (Nat.lt_irrefl _))
    have hset := Cells.set h3 k (hz _ (h3.at k hk)) hk
    refine ⟨_, ⟨?_, .inr ⟨b, o', cap, _, rfl, ⟨setRow_heap _ _ _ _ _ _ ho.heap, ho.htag, ho.base⟩, by simpa using q1, q2, ?_, ?_⟩⟩, hset.mono hle⟩
    · rw [hset.len, List.length_set]
    · simp only [List.size_toArray, List.length_append, List.length_take, List.length_drop, Array.length_toList] at hm ⊢
      omega
    · have hcs : cs.length = xs.length * r.sz := h2.1
      have hc0 : ((cs.drop (k * r.sz)).take r.sz).length = r.sz := by rw [List.length_take, List.length_drop]; omega
      have hmid := splice_len (l := (cs.drop (k * r.sz)).take r.sz) (c := v.cells.toList) (i := fo) (by omega)
      have hcl : cur.toList.length = cur.size := Array.length_toList
      apply List.ext_getElem?
      intro j
      rw [get_splice (by rw [hmid, hc0]; omega)]
      simp only [List.getElem?_take, List.getElem?_drop]
      rw [get_splice (by omega)]
      have hcur : ∀ i, i < xs.length * r.sz → cs[i]? = cur.toList[o' + i]? := fun i hi => by rw [← q4, List.getElem?_take, if_pos hi, List.getElem?_drop]
      rw [List.length_set]
      by_cases hj : j < xs.length * r.sz
      · rw [if_pos hj]
        by_cases hj2 : k * r.sz ≤ j ∧ j < k * r.sz + r.sz
        · rw [hmid, hc0, if_pos hj2, get_splice (by omega)]
          by_cases hj3 : fo ≤ j - k * r.sz ∧ j - k * r.sz < fo + v.cells.toList.length
          · rw [if_pos (by omega), if_pos hj3]
            congr 1; omega
          · rw [if_neg (by omega), if_neg hj3, List.getElem?_take, if_pos (by omega), List.getElem?_drop, hcur _ (by omega)]
            congr 1; omega
        · rw [hmid, hc0, if_neg hj2, if_neg (by omega), hcur _ hj]
      · rw [if_neg hj, hmid, hc0, if_neg (by omega), List.getElem?_eq_none (by omega)]
end
end Go.Proofs.Ytkkemchihllklaa
