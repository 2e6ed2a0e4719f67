/- Rules for what is built: structs, arrays, slices that are written out; function values; remainders. -/
import Derived.Test.YtkkemchihllklaaRd
namespace Go.Proofs.Ytkkemchihllklaa
open Go Go.RowKit

def fillL (pl : List (Nat × Nat)) : List Value → List (Nat × Value) → Option (List Value)
  | cs, [] => some cs
  | cs, (i, v) :: rest => match pl[i]? with
    | none => none
    | some (off, sz) => if Nat.beq v.cells.toList.length sz && Nat.ble (off + sz) cs.length then fillL pl (cs.take off ++ v.cells.toList ++ cs.drop (off + sz)) rest else none
theorem foldl_put (off : Nat) : ∀ (vs : List Value) (k : Nat) (cs : Array Value), off + k + vs.length ≤ cs.size →
    ((vs.zipIdx k).foldl (fun cs (p : Value × Nat) => cs.setIfInBounds (off + p.2) p.1) cs).toList = cs.toList.take (off + k) ++ vs ++ cs.toList.drop (off + k + vs.length)
  | [], k, cs, h => by simp
  | v :: vs, k, cs, h => by
    simp only [List.length_cons] at h
    rw [List.zipIdx_cons, List.foldl_cons, foldl_put off vs (k + 1) _ (by simp; omega)]
    have hl : cs.toList.length = cs.size := Array.length_toList
    rw [Array.toList_setIfInBounds]
    apply List.ext_getElem?
    intro j
    rw [get_splice (by rw [List.length_set]; omega), get_splice (l := cs.toList) (c := v :: vs) (i := off + k) (by simp only [List.length_cons]; omega)]
    simp only [List.length_cons]
    by_cases h1 : j = off + k
    · subst h1
      rw [if_neg (by omega), if_pos (by omega), List.getElem?_set_self (by omega), Nat.sub_self]
      rfl
    · rw [List.getElem?_set_ne (by omega)]
      by_cases h2 : off + (k + 1) ≤ j ∧ j < off + (k + 1) + vs.length
      · rw [if_pos h2, if_pos (by omega), show j - (off + k) = (j - (off + (k + 1))) + 1 by omega, List.getElem?_cons_succ]
      · rw [if_neg h2, if_neg (by omega)]
theorem fill_of {place : Nat → Option (Nat × Nat)} {pl : List (Nat × Nat)} (hp : ∀ i p, pl[i]? = some p → place i = some p) : ∀ {ps : List (Nat × Value)} {cs cs' : List Value}, fillL pl cs ps = some cs' → Instr.fill place cs.toArray ps = some cs'.toArray
  | [], cs, cs', h => by simp only [fillL, Option.some.injEq] at h; subst h; rfl
  | (i, v) :: rest, cs, cs', h => by
    simp only [fillL] at h
    split at h
    · cases h
    · rename_i off sz hpl
      split at h
      · rename_i hc
        obtain ⟨h1, h2⟩ := Bool.and_eq_true_iff.1 hc
        have h1 : v.cells.toList.length = sz := Nat.eq_of_beq_eq_true h1
        have h2 : off + sz ≤ cs.length := Nat.le_of_ble_eq_true h2
        simp only [Instr.fill, hp i _ hpl]
        rw [Array.length_toList] at h1
        rw [if_neg (by simp [h1]; omega)]
        have hf := foldl_put off v.cells.toList 0 cs.toArray (by simp [h1]; omega)
        have e : (v.cells.zipIdx.foldl (fun cs (x : Value × Nat) => cs.setIfInBounds (off + x.2) x.1) cs.toArray) = (cs.take off ++ v.cells.toList ++ cs.drop (off + sz)).toArray := by
          apply Array.toList_inj.1
          rw [← Array.foldl_toList, Array.toList_zipIdx, hf]
          simp [h1]
        have := fill_of hp h
        rw [← e] at this
        exact this
      · cases h
/-- How a type is built: its parts' places, and its zero value's cells. -/
structure Pl (P : Program) (T : TypeId) (pl : List (Nat × Nat)) (z : List Value) : Prop where
  is : ∃ place : Nat → Option (Nat × Nat), (∀ ps, P.built T ps = Instr.fill place z.toArray ps) ∧ ∀ i p, pl[i]? = some p → place i = some p
theorem Pl.str {P : Program} {T : TypeId} {fs : Array Field} {pl : List (Nat × Nat)} {z : List Value} (hu : P.underlying T = some (.struct fs)) (hz : (P.info? T).bind (fun i => i.zero.map (·.cells)) = some z.toArray)
    (hp : fs.toList.mapM (fun f => (P.info? f.type).map fun i => (f.offset, i.size)) = some pl) : Pl P T pl z := ⟨⟨(pl.toArray[·]?), fun ps => by
  unfold Program.built
  cases hi : P.info? T with
  | none => simp [hi] at hz
  | some it =>
    simp only [hi, Option.bind_some] at hz
    cases hzz : it.zero with
    | none => simp [hzz] at hz
    | some v =>
      simp only [hzz, Option.map_some, Option.some.injEq] at hz
      simp only [hu, hzz, hp]
      rw [hz], fun i p h => by simpa using h⟩⟩
def plK (m : Nat) : Nat → Nat → List (Nat × Nat)
  | 0, _ => []
  | k + 1, i => (i * m, m) :: plK m k (i + 1)
theorem plK_get (m : Nat) : ∀ (k i j : Nat) (p : Nat × Nat), (plK m k i)[j]? = some p → p = ((i + j) * m, m)
  | 0, _, _, _, h => by cases h
  | k + 1, i, 0, p, h => by simp only [plK, List.getElem?_cons_zero, Option.some.injEq] at h; rw [← h]; rfl
  | k + 1, i, j + 1, p, h => by
    simp only [plK, List.getElem?_cons_succ] at h
    rw [plK_get m k (i + 1) j p h, show i + 1 + j = i + (j + 1) by omega]
theorem Pl.arr {P : Program} {T U : TypeId} {k m : Nat} {z : List Value} (hu : P.underlying T = some (.array k U)) (hz : (P.info? T).bind (fun i => i.zero.map (·.cells)) = some z.toArray) (hs : (P.info? U).map (·.size) = some m) : Pl P T (plK m k 0) z := ⟨⟨fun i => some (i * m, m), fun ps => by
  unfold Program.built
  cases hi : P.info? T with
  | none => simp [hi] at hz
  | some it =>
    simp only [hi, Option.bind_some] at hz
    cases hzz : it.zero with
    | none => simp [hzz] at hz
    | some v =>
      simp only [hzz, Option.map_some, Option.some.injEq] at hz
      cases hj : P.info? U with
      | none => simp [hj] at hs
      | some ie =>
        simp only [hj, Option.map_some, Option.some.injEq] at hs
        simp only [hu, hzz, hj]
        rw [hz, hs], fun i p h => by rw [plK_get m k 0 i p h, Nat.zero_add]⟩⟩
/-- A type of slices that are written out. -/
structure Bs (P : Program) (T E m : Nat) (z : List Value) : Prop where
  und : P.underlying T = some (.slice E)
  is : ∃ ie v, P.info? E = some ie ∧ ie.size = m ∧ ie.zero = some v ∧ v.cells = z.toArray
  len : z.length = m
theorem Bs.mk' {P : Program} {T E m : Nat} {z : List Value} (hu : P.underlying T = some (.slice E)) (hz : (P.info? E).bind (fun i => i.zero.map (·.cells)) = some z.toArray) (hs : (P.info? E).map (·.size) = some m) (hl : z.length = m) : Bs P T E m z := by
  refine ⟨hu, ?_, hl⟩
  cases hi : P.info? E with
  | none => simp [hi] at hz
  | some it =>
    simp only [hi, Option.bind_some] at hz
    simp only [hi, Option.map_some, Option.some.injEq] at hs
    cases hzz : it.zero with
    | none => simp [hzz] at hz
    | some v =>
      simp only [hzz, Option.map_some, Option.some.injEq] at hz
      exact ⟨it, v, rfl, hs, hzz, hz⟩
theorem El.mk' {P : Program} {E m by_ : Nat} {z : Value} (hs : (P.info? E).map (·.size) = some m) (hb : (P.info? E).map (·.bytes) = some by_) (hz : (P.info? E).bind (·.zero) = some z) (hc : z.cells.size = m) : El P E m by_ := by
  constructor
  cases hi : P.info? E with
  | none => simp [hi] at hz
  | some it =>
    simp only [hi, Option.bind_some] at hz
    simp only [hi, Option.map_some, Option.some.injEq] at hs hb
    exact ⟨it, z, rfl, hs, hb, hz, hc⟩
theorem Zr.mk' {P : Program} {α : Type} {r : Rep α} {E by_ : Nat} {y : α} {v : Value} (hs : (P.info? E).map (·.size) = some r.sz) (hb : (P.info? E).map (·.bytes) = some by_) (hz : (P.info? E).bind (·.zero) = some v) (hr : ∀ s, r.rd s v.cells.toList y) : Zr P r E by_ y := by
  constructor
  cases hi : P.info? E with
  | none => simp [hi] at hz
  | some it =>
    simp only [hi, Option.bind_some] at hz
    simp only [hi, Option.map_some, Option.some.injEq] at hs hb
    exact ⟨it, v, rfl, hs, hb, hz, hr⟩

def nz (j : Int) : Option Unit := if j = 0 then none else some ()
theorem nz_some {j : Int} {u : Unit} (h : nz j = some u) : j ≠ 0 := by
  unfold nz at h
  split at h
  · cases h
  · assumption
def ng (j : Int) : Option Unit := if j < 0 then none else some ()
theorem ng_some {j : Int} {u : Unit} (h : ng j = some u) : ¬ j < 0 := by
  unfold ng at h
  split at h
  · cases h
  · assumption

section
variable {P : Program} {Q : Exit → Act → World → Prop} {n : Nat} {e : List (Nat × Value)} {w : World} {s : Sig} {ops : Array Oper} {os : List Oper} {d : Nat} {ty : TypeId} {pos : String} {af : Array Edge} {g : Option (Nat × Bool)}
variable {α : Type} {r : Rep α} {t : Nat} {T T' U : TypeId} {a : Option Addr} {cap : Nat} {xs ys : List α}
theorem L.bu {pl : List (Nat × Nat)} {z cs : List Value} {xs : List (Nat × Operand)} {ps : List (Nat × Value)} (hP : Pl P T pl z) (hw : Wt ops e g) (hx : Env.evp e xs = some ps) (hf : fillL pl z ps = some cs) (hd : Nat.blt d n = true)
    (h : L P Q n ops os ((d, .agg cs.toArray) :: e) w) : L P Q n ops (⟨some d, .build T xs.toArray, ty, pos, af, g⟩ :: os) e w := by
  obtain ⟨place, h1, h2⟩ := hP.is
  exact L.bd hw hx (by rw [h1]; exact fill_of h2 hf) hd h
theorem range_rep {z : List Value} {m : Nat} (hl : z.length = m) : ∀ k, ((Array.range (k * m)).map (z.toArray[· % z.toArray.size]!)) = (List.replicate k z).flatten.toArray := by
  intro k
  have := made_flat (c := z.toArray) k
  apply Array.toList_inj.1
  simp only [List.size_toArray] at this ⊢
  rw [← hl, ← this]
  simp [madeCells]
theorem L.bsE {E m k : Nat} {z cs : List Value} {xs : List (Nat × Operand)} {ps : List (Nat × Value)} (t : Nat) (hB : Bs P T E m z) (hk : k * m ≤ 2 ^ 24) (hw : Wt ops e g) (hx : Env.evp e xs = some ps) (h0 : Nat.blt 0 (k * m) = true)
    (hf : fillL (plK m k 0) (List.replicate k z).flatten ps = some cs) (hd : Nat.blt d n = true)
    (h : ∀ b s', Mv No s s' → Bx s' t b cs.toArray E → L P Q n ops os ((d, .slice (some ⟨b, 0, none⟩) k k) :: e) s'.w) : L P Q n ops (⟨some d, .buildSlice T k xs.toArray, ty, pos, af, g⟩ :: os) e s.w := by
  obtain ⟨ie, v, h1, h2, h3, h4⟩ := hB.is
  have h0' : 0 < k * m := by simpa using h0
  refine L.bs (ie := ie) (z := v) t hB.und h1 h3 (by rw [h2]; omega) (by rw [h2]; omega) hw hx ?_ hd h
  rw [h4, h2, range_rep hB.len]
  exact fill_of (fun i p hp => by rw [plK_get m k 0 i p hp, Nat.zero_add]) hf
/-- A slice that is written out with no element. -/
theorem L.bs0 {E m : Nat} {z : List Value} (t : Nat) (hB : Bs P T E m z) (hm : m ≤ 2 ^ 24) (hw : Wt ops e g) (hd : Nat.blt d n = true)
    (h : ∀ b s', Mv No s s' → Bx s' t b #[] E → L P Q n ops os ((d, .slice (some ⟨b, 0, none⟩) 0 0) :: e) s'.w) : L P Q n ops (⟨some d, .buildSlice T 0 #[], ty, pos, af, g⟩ :: os) e s.w := by
  obtain ⟨ie, v, h1, h2, h3, h4⟩ := hB.is
  refine L.val hw hd (v := .slice (some ⟨s.w.heap.size, 0, none⟩) 0 0) (w' := s.w.alloc (.cells #[] E)) (fun ac ha => ?_) ?_
  · simp [execOp, Instr.buildSlice, run_underlying hB.und, sizeOf, typeInfo, h1, Instr.fill, newRow]
    have : (Array.range 0) = #[] := by simp [Array.range]
    simp [this]
  · refine h s.w.heap.size ⟨s.w.alloc (.cells #[] E), tagUp s.tag s.w.heap.size t⟩ ?_ ⟨heap_alloc_new s.w _, tagUp_at _ _ _⟩
    exact ⟨rfl, rfl, rfl, by simp, fun b hb _ => ⟨heap_alloc_old s.w _ hb, tagUp_lt hb⟩⟩
/-- An element of an array that is at hand as a value. -/
theorem L.in1 {x i : Operand} {k : IntKind} {j : Int} {vs : List Value} {v : Value} {m : Nat} (hT : ∀ w, (sizeOf U).run P w = .ok 1 w) (hN : ∀ w, (isAgg U).run P w = .ok false w) (hu : P.underlying T = some (.array m U))
    (hw : Wt ops e g) (hx : Env.ev e x = some (.agg vs.toArray)) (hi : Env.ev e i = some (.int k j)) (hl : vs.length = m) (hv : idx vs j = some v) (hd : Nat.blt d n = true) (h : L P Q n ops os ((d, v) :: e) w) : L P Q n ops (⟨some d, .index T x i, ty, pos, af, g⟩ :: os) e w := by
  obtain ⟨h0, hk, rfl⟩ := idx_some hv
  have hlt : j < (m : Int) := by omega
  refine L.val hw hd (fun ac ha => ?_) h
  simp [execOp, Instr.index, ha.ev hx, ha.ev hi, asIntOf, run_underlying hu, h0, hlt, part, hT, hN, hk]
end

theorem idx_map {α β : Type} {f : α → β} {xs : List α} {j : Int} {x : α} (h : idx xs j = some x) : idx (xs.map f) j = some (f x) := by
  unfold idx at h ⊢
  split at h
  · rename_i h0; rw [if_pos h0, List.getElem?_map, h]; rfl
  · cases h
/-- A function value of one argument that computes m, from now on. -/
def FV1 {α β : Type} (P : Program) (s : Sig) (v : Value) (arg : α → List Value) (res : β → Value) (m : α → Option β) : Prop :=
  ∃ f fst cap, v = .func (.func f) fst cap ∧ (∀ args w, (callFunc f args).run P w = .ok (.enter f args) w) ∧ ∀ x r, m x = some r → ∀ s', Le s s' → Calls P f (fst ++ (arg x).toArray ++ cap) s'.w (RetS No s' fun v' _ => v' = res r)
theorem FV1.mono {α β : Type} {P : Program} {s s' : Sig} {v : Value} {arg : α → List Value} {res : β → Value} {m : α → Option β} (h : FV1 P s v arg res m) (hl : Le s s') : FV1 P s' v arg res m := by
  obtain ⟨f, fst, cap, h1, h2, h3⟩ := h
  exact ⟨f, fst, cap, h1, h2, fun x r hm s'' hl' => h3 x r hm s'' (hl.trans hl')⟩
def FV2 {α β γ : Type} (P : Program) (s : Sig) (v : Value) (arg : α → β → List Value) (res : γ → Value) (m : α → β → Option γ) : Prop :=
  ∃ f fst cap, v = .func (.func f) fst cap ∧ (∀ args w, (callFunc f args).run P w = .ok (.enter f args) w) ∧ ∀ x y r, m x y = some r → ∀ s', Le s s' → Calls P f (fst ++ (arg x y).toArray ++ cap) s'.w (RetS No s' fun v' _ => v' = res r)
theorem FV2.mono {α β γ : Type} {P : Program} {s s' : Sig} {v : Value} {arg : α → β → List Value} {res : γ → Value} {m : α → β → Option γ} (h : FV2 P s v arg res m) (hl : Le s s') : FV2 P s' v arg res m := by
  obtain ⟨f, fst, cap, h1, h2, h3⟩ := h
  exact ⟨f, fst, cap, h1, h2, fun x y r hm s'' hl' => h3 x y r hm s'' (hl.trans hl')⟩
theorem Bx.le {s s' : Sig} {b : Nat} {cs : Array Value} {T : TypeId} (h : Bx s 0 b cs T) (hl : Le s s') : Bx s' 0 b cs T := by
  obtain ⟨g1, g2⟩ := hl.blk b h.lt h.htag
  exact ⟨g1.trans h.heap, g2⟩
theorem Bx.fz {s : Sig} {t b : Nat} {cs : Array Value} {T : TypeId} (h : Bx s t b cs T) (_h0 : t ≠ 0) : Bx (s.fz t) 0 b cs T := ⟨h.heap, by simp [Sig.fz, h.htag]⟩
section
variable {P : Program} {Q : Exit → Act → World → Prop} {n : Nat} {e : List (Nat × Value)} {s : Sig} {ops : Array Oper} {os : List Oper} {d : Nat} {ty : TypeId} {pos : String} {af : Array Edge} {g : Option (Nat × Bool)} {α β γ : Type}
theorem L.fvc {f : FuncId} {x : Operand} {fst cap : Array Value} {xs : List Operand} {vs : List Value} {c : Call} {S : Nat → Prop} {Post : Value → Sig → Prop} (hcf : ∀ args w, (callFunc f args).run P w = .ok (.enter f args) w) (hc : c.callee = .value x) (hca : c.args = xs.toArray) (hw : Wt ops e g)
    (hx : Env.ev e x = some (.func (.func f) fst cap)) (hxs : Env.evs e xs = some vs)
    (hcall : Calls P f (fst ++ vs.toArray ++ cap) s.w (RetS S s Post)) (hd : Nat.blt d n = true) (h : ∀ v s', Mv S s s' → Post v s' → L P Q n ops os ((d, v) :: e) s'.w) : L P Q n ops (⟨some d, .call c, ty, pos, af, g⟩ :: os) e s.w :=
  L.op hw fun ac ha K hK => by
    unfold Oper.wp
    have h2 : c.args.map ac.eval = vs.toArray := by rw [hca, List.map_toArray, ha.evs hxs]
    have hrun : (execOp ac.eval ⟨some d, .call c, ty, pos, af, g⟩).run P s.w = .ok (.enter f (fst ++ vs.toArray ++ cap)) s.w := by
      simp [execOp, resolve, hc, h2, Deferred.ofValue, ha.ev hx, invoke, hcf _ _]
    rw [hrun, Oper.upon_enter]
    refine hcall.mono fun en w' hh => ?_
    obtain ⟨v, s', rfl, rfl, h3, h4⟩ := hh
    exact hK _ _ _ (ha.put hd v) (h v s' h3 h4)
theorem L.fv1 {x : Operand} {v : Value} {arg : α → List Value} {res : β → Value} {m : α → Option β} {xs : List Operand} {y : α} {r : β} {c : Call} (hF : FV1 P s v arg res m) (hc : c.callee = .value x) (hca : c.args = xs.toArray) (hw : Wt ops e g)
    (hx : Env.ev e x = some v) (hxs : Env.evs e xs = some (arg y)) (hm : m y = some r) (hd : Nat.blt d n = true) (h : ∀ s', Mv No s s' → L P Q n ops os ((d, res r) :: e) s'.w) : L P Q n ops (⟨some d, .call c, ty, pos, af, g⟩ :: os) e s.w := by
  obtain ⟨f, fst, cap, rfl, h2, h3⟩ := hF
  exact L.fvc h2 hc hca hw hx hxs (h3 y r hm s (Le.refl _)) hd fun v s' m h' => by subst h'; exact h s' m
theorem L.fv2 {x : Operand} {v : Value} {arg : α → β → List Value} {res : γ → Value} {m : α → β → Option γ} {xs : List Operand} {y : α} {z : β} {r : γ} {c : Call} (hF : FV2 P s v arg res m) (hc : c.callee = .value x) (hca : c.args = xs.toArray) (hw : Wt ops e g)
    (hx : Env.ev e x = some v) (hxs : Env.evs e xs = some (arg y z)) (hm : m y z = some r) (hd : Nat.blt d n = true) (h : ∀ s', Mv No s s' → L P Q n ops os ((d, res r) :: e) s'.w) : L P Q n ops (⟨some d, .call c, ty, pos, af, g⟩ :: os) e s.w := by
  obtain ⟨f, fst, cap, rfl, h2, h3⟩ := hF
  exact L.fvc h2 hc hca hw hx hxs (h3 y z r hm s (Le.refl _)) hd fun v s' m h' => by subst h'; exact h s' m
end
theorem E.toR {P : Program} {Q : Exit → Act → World → Prop} {n : Nat} {c : Code} {e : List (Nat × Value)} {s s' : Sig} (hw : s'.w = s.w) (h : E P Q n c e s'.w) : E P Q n c e s.w := hw ▸ h
/-- A part of a list whose capacity is told. -/
def slc3 {α : Type} (xs : List α) (lo hi mx : Int) : Option (List α) := if 0 ≤ lo ∧ lo ≤ hi ∧ hi ≤ mx ∧ mx ≤ xs.length then some ((xs.take hi.toNat).drop lo.toNat) else none
theorem slc3_some {α : Type} {xs zs : List α} {lo hi mx : Int} (h : slc3 xs lo hi mx = some zs) : 0 ≤ lo ∧ lo ≤ hi ∧ hi ≤ mx ∧ mx ≤ xs.length ∧ zs = (xs.take hi.toNat).drop lo.toNat := by
  unfold slc3 at h
  split at h
  · rename_i g; exact ⟨g.1, g.2.1, g.2.2.1, g.2.2.2, by cases h; rfl⟩
  · cases h
section
variable {P : Program} {Q : Exit → Act → World → Prop} {n : Nat} {e : List (Nat × Value)} {s : Sig} {ops : Array Oper} {os : List Oper} {d : Nat} {ty : TypeId} {pos : String} {af : Array Edge} {g : Option (Nat × Bool)}
variable {α : Type} {r : Rep α} {T U : TypeId} {a : Option Addr} {cap : Nat} {xs : List α}
theorem RdL.shrink (h : RdL r s a cap xs) {c : Nat} (h1 : xs.length ≤ c) (h2 : c ≤ cap) : RdL r s a c xs := by
  obtain ⟨cs, g1, g2, g3⟩ := h
  exact ⟨cs, ⟨g1.hlen, h1, Nat.le_trans h2 g1.hmax, fun e => by have := g1.hnil e; omega, g1.spot, g1.cell⟩, g2, g3⟩
theorem RdL.part3 (h : RdL r s a cap xs) {lo hi mx : Nat} (h1 : lo ≤ hi) (h2 : hi ≤ mx) (h3 : mx ≤ xs.length) : RdL r s (if mx = lo then a else a.map (·.add (lo * r.sz))) (mx - lo) ((xs.take hi).drop lo) := by
  have hcap : xs.length ≤ cap := by obtain ⟨cs, g1, _⟩ := h; exact g1.hcap
  by_cases hm : mx = lo
  · have e : (xs.take hi).drop lo = [] := by apply List.eq_nil_of_length_eq_zero; rw [List.length_drop, List.length_take]; omega
    rw [if_pos hm, e, show mx - lo = 0 by omega]
    obtain ⟨cs, g1, _⟩ := h
    exact ⟨[], ⟨by simp, Nat.le_refl _, by simp [maxLen], fun _ => rfl, g1.spot, fun _ _ j hj => by simp at hj⟩, fun _ _ h0 => by simp at h0, rfl⟩
  · rw [if_neg hm]
    have := h.part h1 (show hi ≤ xs.length by omega)
    rw [if_neg (by omega)] at this
    exact this.shrink (by rw [List.length_drop, List.length_take]; omega) (by omega)
theorem L.s3 {x lo hi mx : Operand} {k k' k2 : IntKind} {i j m : Int} {zs : List α} (hS : Sl P T U r.sz) (hR : RdL r s a cap xs) (hw : Wt ops e g) (hx : Env.ev e x = some (.slice a xs.length cap)) (hi1 : Env.ev e lo = some (.int k i)) (hj : Env.ev e hi = some (.int k' j)) (hm : Env.ev e mx = some (.int k2 m)) (hz : slc3 xs i j m = some zs) (hd : Nat.blt d n = true)
    (h : ∀ a' cap', RdL r s a' cap' zs → L P Q n ops os ((d, .slice a' zs.length cap') :: e) s.w) : L P Q n ops (⟨some d, .slice T x (some lo) (some hi) (some mx), ty, pos, af, g⟩ :: os) e s.w := by
  obtain ⟨h0, h1, h2, h3, rfl⟩ := slc3_some hz
  have hl : ((xs.take j.toNat).drop i.toNat).length = j.toNat - i.toNat := by rw [List.length_drop, List.length_take]; omega
  have hp := hR.part3 (lo := i.toNat) (hi := j.toNat) (mx := m.toNat) (by omega) (by omega) (by omega)
  have hcap : xs.length ≤ cap := by obtain ⟨cs, g1, _⟩ := hR; exact g1.hcap
  refine L.val hw hd (fun ac ha => ?_) (h _ _ hp)
  have hr := run_slice_lhm (P := P) s.w T a xs.length cap (by rw [hS.elem]; exact hS.und) k k' k2 i j m h0 h1 h2 (by omega)
  rw [hS.elem] at hr
  simp only [execOp, ha.ev hx, ha.ev hi1, ha.ev hj, ha.ev hm, Option.map_some, Sem.run_bind, run_sliceAt_slice (P := P) s.w T _ _ _ _ (by rw [hS.elem]; exact hS.und), hr, hS.sz, Result.andThen_ok, sliced, Sem.run_pure, hl]
end
end Go.Proofs.Ytkkemchihllklaa
