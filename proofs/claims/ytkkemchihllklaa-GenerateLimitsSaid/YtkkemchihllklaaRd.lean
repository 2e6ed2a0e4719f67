/- A region that draws its order, walked operation by operation: what is known is a statement on the operations that have been carried out (D), the slots and memory. -/
import Derived.Test.YtkkemchihllklaaRs
namespace Go.Proofs.Ytkkemchihllklaa
open Go Go.RowKit

def AllT (D : Nat → Bool) : List Nat → Prop
  | [] => True
  | j :: js => D j = true ∧ AllT D js
def upD (D : Nat → Bool) (k : Nat) : Nat → Bool := fun j => Nat.beq j k || D j
theorem upD_mono {D : Nat → Bool} {k j : Nat} (h : D j = true) : upD D k j = true := by simp [upD, h]
theorem AllT.mem {D : Nat → Bool} : ∀ {l : List Nat}, AllT D l → ∀ j, j ∈ l → D j = true
  | _ :: _, h, _, .head _ => h.1
  | _ :: _, h, j, .tail _ hj => AllT.mem h.2 j hj
theorem AllT.of {D : Nat → Bool} : ∀ {l : List Nat}, (∀ j, j ∈ l → D j = true) → AllT D l
  | [], _ => trivial
  | _ :: _, h => ⟨h _ (.head _), AllT.of fun j hj => h j (.tail _ hj)⟩
/-- A holds for each operation some of those that it waits for, directly or not. -/
def chkA (ops : Array Oper) (A : List (List Nat)) : Bool :=
  (List.range ops.size).all fun k => match ops[k]? with
    | none => true
    | some o =>
      let dir := (o.after.toList.filter (Region.binds .any ·)).map (·.on)
      (A.getD k []).all fun x => dir.contains x || dir.any fun d => (A.getD d []).contains x
structure DI (A : List (List Nat)) (m : Nat) (I : (Nat → Bool) → List (Nat × Value) → Sig → Prop) (D : Nat → Bool) (e : List (Nat × Value)) (s : Sig) : Prop where
  clo : ∀ j, j < m → D j = true → AllT D (A.getD j [])
  i : I D e s
def DQ (Q : Exit → Act → World → Prop) (J : Act → World → Prop) : Exit → Act → World → Prop
  | .normal, a, w => J a w
  | x, a, w => Q x a w
def DJ (n : Nat) (I : (Nat → Bool) → List (Nat × Value) → Sig → Prop) (D : Nat → Bool) : Act → World → Prop := fun a w => ∃ e s, Fits n e a ∧ w = s.w ∧ I D e s

section
variable {P : Program} {Q : Exit → Act → World → Prop} {n : Nat} {e : List (Nat × Value)} {s : Sig} {ops : Array Oper}
theorem wpOp_of_DQ {J : Act → World → Prop} {i : Nat} {a : Act} {w : World} (h : wpOps P ops (DQ Q J) [i] a w) : wpOp P ops Q i J a w := by
  rw [wpOps_cons] at h
  unfold wpOp at h ⊢
  cases ho : ops[i]? with
  | none => rw [ho] at h; exact h
  | some o =>
    rw [ho] at h
    dsimp only at h ⊢
    by_cases hw : Region.wanted o (yielded ops a.tmps) = true
    · rw [if_pos hw] at h ⊢
      refine h.imp (fun h => ?_) (fun h => ⟨h.1, h.2⟩)
      unfold Oper.wp at h ⊢
      generalize (execOp a.eval o).run P w = r at h ⊢
      cases r with
      | ok nx w' =>
        cases nx with
        | enter f args =>
          rw [Oper.upon_enter] at h ⊢
          refine Calls.mono h fun en w'' hh => ?_
          cases en with
          | returned v => exact hh
          | panicked ch => exact hh
          | outgrown => exact hh
        | _ => exact h
      | halt st w' => cases st <;> exact h
    · rw [if_neg hw] at h ⊢
      exact h
/-- What operation k has to show. -/
def DStep (P : Program) (Q : Exit → Act → World → Prop) (n : Nat) (ops : Array Oper) (A : List (List Nat)) (I : (Nat → Bool) → List (Nat × Value) → Sig → Prop) (k : Nat) (o : Oper) : Prop :=
  ∀ D e s, I D e s → D k = false → (∀ j, j < ops.size → (A.getD j []).contains k = true → D j = false) → AllT D (A.getD k []) → L P (DQ Q (DJ n I (upD D k))) n ops [o] e s.w
def DSteps (P : Program) (Q : Exit → Act → World → Prop) (n : Nat) (ops : Array Oper) (A : List (List Nat)) (I : (Nat → Bool) → List (Nat × Value) → Sig → Prop) : Nat → List Oper → Prop
  | _, [] => True
  | k, o :: os => DStep P Q n ops A I k o ∧ DSteps P Q n ops A I (k + 1) os
theorem DSteps.at {A : List (List Nat)} {I : (Nat → Bool) → List (Nat × Value) → Sig → Prop} {l : List Oper} : ∀ {k : Nat}, DSteps P Q n ops A I k l → ∀ j o, l[j]? = some o → DStep P Q n ops A I (k + j) o := by
  induction l with
  | nil => intro k _ j o ho; cases ho
  | cons o os ih =>
    intro k h j o' ho
    obtain ⟨h1, h2⟩ := h
    cases j with
    | zero =>
      rw [List.getElem?_cons_zero, Option.some.injEq] at ho
      subst ho
      exact h1
    | succ j =>
      have := ih h2 j o' (by simpa using ho)
      rwa [show k + 1 + j = k + (j + 1) by omega] at this
theorem E.draw {id : Nat} {l : List Oper} (A : List (List Nat)) (I : (Nat → Bool) → List (Nat × Value) → Sig → Prop) (hm : P.follows .mixedOrders = true) (hB : afterC l.toArray = true) (hA : chkA l.toArray A = true)
    (h0 : ∀ s0, Mv No s s0 → I (fun _ => false) e s0) (hs : DSteps P Q n l.toArray A I 0 l)
    (hend : ∀ D e s1, (∀ j, Nat.blt j l.length = true → D j = true) → I D e s1 → X Q n .normal e s1.w) : E P Q n (.region id l.toArray true) e s.w := by
  intro a ha
  refine wp_region_any hm ?_
  have hmv : Mv No s ⟨{ s.w with drawn := s.w.drawn + 1 }, s.tag⟩ := ⟨rfl, rfl, rfl, Nat.le_refl _, fun _ _ _ => ⟨rfl, rfl⟩⟩
  refine wpAny_inv2 (I := fun listed a' w' => listed.size = l.length ∧ ∃ e s, Fits n e a' ∧ w' = s.w ∧ DI A l.length I (fun j => listed.getD j false) e s) hB ?_ ?_ _ _ _ _ (by simp) ?_
  · rintro i listed a' w' ⟨hsz, e', s', hf, rfl, hI⟩ hr
    obtain ⟨h1, o, ho, hafter⟩ := mem_ready.1 hr
    have hi : i < l.length := by simpa using (Array.getElem?_eq_some_iff.1 ho).1
    have hk : listed.getD i false = false := by
      rw [Array.getD_eq_getD_getElem?, Array.getElem?_eq_getElem (by omega)] at h1 ⊢
      exact h1
    have hall : AllT (fun j => listed.getD j false) (A.getD i []) := by
      refine AllT.of fun x hx => ?_
      have h2 := List.all_eq_true.1 hA i (List.mem_range.2 (by simpa using hi))
      simp only [ho] at h2
      have h3 := List.all_eq_true.1 h2 x hx
      have hdir : ∀ d, d ∈ (o.after.toList.filter (Region.binds .any ·)).map (·.on) → listed.getD d false = true := by
        intro d hd
        obtain ⟨ed, he, rfl⟩ := List.mem_map.1 hd
        obtain ⟨he1, he2⟩ := List.mem_filter.1 he
        exact hafter ed (by simpa using he1) he2
      rcases Bool.or_eq_true_iff.1 h3 with h4 | h4
      · exact hdir x (by simpa using h4)
      · obtain ⟨d, hd, hd2⟩ := List.any_eq_true.1 h4
        have hdt := hdir d hd
        have hdl : d < l.length := by
          rcases Nat.lt_or_ge d l.length with h | h
          · exact h
          · rw [Array.getD_eq_getD_getElem?, Array.getElem?_eq_none (by omega)] at hdt; cases hdt
        exact (hI.clo d hdl hdt).mem x (by simpa using hd2)
    have hst := hs.at i o (by simpa using ho)
    rw [Nat.zero_add] at hst
    have hup : (fun j => (listed.setIfInBounds i true).getD j false) = upD (fun j => listed.getD j false) i := by
      funext j
      rw [Array.getD_eq_getD_getElem?, Array.getElem?_setIfInBounds]
      by_cases hij : i = j
      · subst hij; simp [hsz, hi, upD]
      · have : Nat.beq j i = false := by cases hbb : Nat.beq j i with | false => rfl | true => exact absurd (Nat.eq_of_beq_eq_true hbb).symm hij
        rw [if_neg hij, upD, this, Bool.false_or, Array.getD_eq_getD_getElem?]
    have hfal : ∀ j, j < l.toArray.size → (A.getD j []).contains i = true → listed.getD j false = false := by
      intro j hj hc
      cases hd : listed.getD j false with
      | false => rfl
      | true =>
        have := (hI.clo j (by simpa using hj) hd).mem i (by simpa using hc)
        simp only [hk] at this
        cases this
    have hl := hst _ e' s' hI.i hk hfal hall [i] (by rw [List.map_cons, List.map_nil, ho]; rfl) a' hf
    have hw := wpOp_of_DQ hl
    refine wpOp_mono (fun a2 w2 hh => ?_) hw
    obtain ⟨e2, s2, hf2, rfl, hI2⟩ := hh
    refine ⟨by simp [hsz], e2, s2, hf2, rfl, ?_⟩
    rw [hup]
    refine ⟨fun j hj hd => AllT.of fun x hx => ?_, hI2⟩
    by_cases hji : j = i
    · subst hji; exact upD_mono (hall.mem x hx)
    · have : upD (fun j => listed.getD j false) i j = listed.getD j false := by
        have : Nat.beq j i = false := by cases hbb : Nat.beq j i with | false => rfl | true => exact absurd (Nat.eq_of_beq_eq_true hbb) hji
        rw [upD, this, Bool.false_or]
      rw [this] at hd
      exact upD_mono ((hI.clo j hj hd).mem x hx)
  · rintro listed a' w' ⟨hsz, e', s', hf, rfl, hI⟩ hall
    refine hend (fun j => listed.getD j false) e' s' (fun j hj => ?_) hI.i a' hf
    have hj' : j < l.length := by simpa using hj
    have := hall j (by simpa using hj')
    rw [Array.getD_eq_getD_getElem?, Array.getElem?_eq_getElem (by omega)] at this ⊢
    exact this
  · refine ⟨by simp, e, ⟨{ s.w with drawn := s.w.drawn + 1 }, s.tag⟩, ha, rfl, fun j hj hd => ?_, ?_⟩
    · rw [Array.getD_eq_getD_getElem?, Array.getElem?_replicate] at hd
      split at hd <;> cases hd
    · have h1 := h0 _ hmv
      have : (fun j => (Array.replicate l.toArray.size false).getD j false) = fun _ => false := by
        funext j
        rw [Array.getD_eq_getD_getElem?, Array.getElem?_replicate]
        split <;> rfl
      rw [this]
      exact h1

/-- The end of an operation of a region that draws. -/
theorem X.dr {I : (Nat → Bool) → List (Nat × Value) → Sig → Prop} {D : Nat → Bool} {e' : List (Nat × Value)} (hs : Sub e' e) (h : I D e' s) : X (DQ Q (DJ n I D)) n .normal e s.w := fun _ ha => ⟨e', s, ha.sub hs, rfl, h⟩
theorem Sub.trans {e1 e2 e3 : List (Nat × Value)} (h : Sub e1 e2) (h2 : Sub e2 e3) : Sub e1 e3 := fun d v hg => h2 d v (h d v hg)
/-- What is known already may be said once more. -/
theorem Sub.say {e e' : List (Nat × Value)} {d : Nat} {v : Value} (h : Env.get e' d = some v) (hs : Sub e e') (hd : Env.get e d = some v) : Sub e ((d, v) :: e') := fun d' v' hg => by
  simp only [Env.get]
  by_cases hb : Nat.beq d d' = true
  · have : d = d' := Nat.eq_of_beq_eq_true hb
    subst this
    rw [hb, cond_true, ← hd, hg]
  · have hb' : Nat.beq d d' = false := by cases h0 : Nat.beq d d' <;> simp_all
    rw [hb', cond_false]
    exact hs d' v' hg
theorem Sub.both {e e' : List (Nat × Value)} {d : Nat} {v : Value} (hs : Sub e e') : Sub ((d, v) :: e) ((d, v) :: e') := fun d' v' hg => by
  simp only [Env.get] at hg ⊢
  by_cases hb : Nat.beq d d' = true
  · rw [hb] at hg ⊢; exact hg
  · have hb' : Nat.beq d d' = false := by cases h0 : Nat.beq d d' <;> simp_all
    rw [hb', cond_false] at hg ⊢
    exact hs d' v' hg
theorem L.kn {os : List Oper} {w : World} {d : Nat} {v : Value} (h : Env.get e d = some v) (h2 : L P Q n ops os ((d, v) :: e) w) : L P Q n ops os e w := L.sub (Sub.cons h Sub.refl) h2
/-- The slots of a list of facts, put in front. -/
def Kn (e : List (Nat × Value)) : List (Nat × Value) → Prop
  | [] => True
  | p :: ps => Env.get e p.1 = some p.2 ∧ Kn e ps
theorem Kn.sub : ∀ {ps : List (Nat × Value)}, Kn e ps → Sub (ps ++ e) e
  | [], _ => Sub.refl
  | _ :: _, h => Sub.cons h.1 (Kn.sub h.2)
theorem Kn.sup : ∀ {ps : List (Nat × Value)}, Kn e ps → Sub e (ps ++ e)
  | [], _ => Sub.refl
  | (d, v) :: ps, h => fun d' v' hg => by
    show Env.get ((d, v) :: (ps ++ e)) d' = some v'
    simp only [Env.get]
    by_cases hb : Nat.beq d d' = true
    · have : d = d' := Nat.eq_of_beq_eq_true hb
      subst this
      rw [hb, cond_true, ← h.1, hg]
    · have hb' : Nat.beq d d' = false := by cases h0 : Nat.beq d d' <;> simp_all
      rw [hb', cond_false]
      exact Kn.sup h.2 d' v' hg
theorem L.kns {os : List Oper} {w : World} (ps : List (Nat × Value)) (h : Kn e ps) (h2 : L P Q n ops os (ps ++ e) w) : L P Q n ops os e w := L.sub h.sub h2
end
theorem slice_inj {a a' : Option Addr} {k k' c c' : Nat} (h : some (Value.slice a k c) = some (Value.slice a' k' c')) : a = a' ∧ c = c' := by cases h; exact ⟨rfl, rfl⟩
theorem ptr_inj {b b' o o' : Nat} (h : some (Value.pointer (some ⟨b, o, none⟩)) = some (Value.pointer (some ⟨b', o', none⟩))) : b = b' ∧ o = o' := by cases h; exact ⟨rfl, rfl⟩
theorem Sub.fresh {e e' : List (Nat × Value)} {d : Nat} {v : Value} (hs : Sub e' e) (h : Env.get e' d = none) : Sub e' ((d, v) :: e) := fun d' v' hg => by
  simp only [Env.get]
  by_cases hb : Nat.beq d d' = true
  · have : d = d' := Nat.eq_of_beq_eq_true hb
    subst this
    rw [h] at hg; cases hg
  · have hb' : Nat.beq d d' = false := by cases h0 : Nat.beq d d' <;> simp_all
    rw [hb', cond_false]
    exact hs d' v' hg
theorem upd_len {α : Type} {xs zs : List α} {i : Int} {y : α} (h : upd xs i y = some zs) : zs.length = xs.length := by
  obtain ⟨_, _, rfl⟩ := upd_some h
  exact List.length_set
theorem Env.reval {e : List (Nat × Value)} {d k k' c : Nat} {a : Option Addr} (h : Env.get e d = some (.slice a k c)) (hk : k' = k) : Env.get e d = some (.slice a k' c) := hk ▸ h
section
variable {P : Program} {Q : Exit → Act → World → Prop} {n : Nat} {e : List (Nat × Value)} {w : World} {s : Sig} {ops : Array Oper} {os : List Oper} {d : Nat} {ty : TypeId} {pos : String} {af : Array Edge} {g : Option (Nat × Bool)}
variable {α : Type} {r : Rep α} {t : Nat} {T T' U : TypeId} {a : Option Addr} {cap : Nat} {xs ys zs : List α}
/-- A slice's length said in another way. -/
theorem L.reval {d k k' c : Nat} (h : Env.get e d = some (.slice a k c)) (hk : k' = k) (h2 : L P Q n ops os ((d, .slice a k' c) :: e) w) : L P Q n ops os e w := L.kn (Env.reval h hk) h2
theorem X.reval {x : Exit} {d k k' c : Nat} (h : Env.get e d = some (.slice a k c)) (hk : k' = k) (h2 : X Q n x ((d, .slice a k' c) :: e) w) : X Q n x e w := X.sub h2 (Sub.cons (Env.reval h hk) Sub.refl)
/-- A store into a row of one's own, at an index. -/
theorem L.su {x y : Operand} {b o fo m : Nat} {j : Int} {v : Value} {c : List Value} {y0 z : α} (hR : RowT r s t T' a cap xs) (hsp : Spot a r.sz j.toNat b o) (hi : idx xs j = some y0) (hu : upd xs j z = some zs) (ht : Nat.blt 0 t = true) (hT : ∀ w, (sizeOf T).run P w = .ok m w)
    (hw : Wt ops e g) (hx : Env.ev e x = some (.pointer (some ⟨b, o + fo, none⟩))) (hy : Env.ev e y = some v) (hc : v.cells.toList = c) (hm : c.length = m) (hfo : Nat.ble (fo + m) r.sz = true) (h1' : c.all Value.oneCell' = true)
    (hz : ∀ c0, r.rd s c0 y0 → r.rd s (c0.take fo ++ c ++ c0.drop (fo + c.length)) z)
    (h : ∀ s', Mv (One t) s s' → RowT r s' t T' a cap zs → L P Q n ops os e s'.w) : L P Q n ops (⟨none, .store T x y, ty, pos, af, g⟩ :: os) e s.w := by
  obtain ⟨_, hk, rfl⟩ := upd_some hu
  obtain ⟨_, hk2, e0⟩ := idx_some hi
  exact L.sr hR hsp hk ht hT hw hx hy hc hm hfo (List.all_eq_true.1 h1') (fun c0 hc0 => hz c0 (e0 ▸ hc0)) (fun s' m h' => h s' m h')
end
end Go.Proofs.Ytkkemchihllklaa
