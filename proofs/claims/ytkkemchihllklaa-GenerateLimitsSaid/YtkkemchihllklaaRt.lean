/- Judgements for walking the code of a function: what is known of its slots is a list, what is known of memory are facts about a world with tags (0: nobody writes it any more). -/
import Derived.Test.YtkkemchihllklaaRow
namespace Go.Proofs.Ytkkemchihllklaa
open Go Go.RowKit

/-- What a loop comes to. -/
inductive Iter {S O : Type} (f : S → Option (S ⊕ O)) : S → O → Prop
  | next {s s' : S} {o : O} : f s = some (.inl s') → Iter f s' o → Iter f s o
  | out {s : S} {o : O} : f s = some (.inr o) → Iter f s o
/-- What a loop comes to, within n rounds. -/
def iterF {S O : Type} (f : S → Option (S ⊕ O)) (n : Nat) : S → Option O :=
  Nat.rec (motive := fun _ => S → Option O) (fun _ => none) (fun _ ih s => match f s with
    | none => none
    | some (.inl s') => ih s'
    | some (.inr o) => some o) n
/-- What a loop comes to (2 ^ 64 rounds stand for any number). -/
def iter {S O : Type} (f : S → Option (S ⊕ O)) (s : S) : Option O := iterF f 18446744073709551616 s
section
variable {S O : Type} {f : S → Option (S ⊕ O)} {s s' : S} {o : O}
theorem iterF_succ (n : Nat) (s : S) : iterF f (n + 1) s = match f s with
    | none => none
    | some (.inl s') => iterF f n s'
    | some (.inr o) => some o := rfl
theorem iterF_iter : ∀ {n : Nat} {s : S}, iterF f n s = some o → Iter f s o
  | 0, _, h => by cases h
  | n + 1, s, h => by
    rw [iterF_succ] at h
    split at h
    · cases h
    · rename_i h1; exact .next h1 (iterF_iter h)
    · rename_i h1; cases h; exact .out h1
theorem iter_some (h : iter f s = some o) : Iter f s o := iterF_iter h
theorem iterF_steps (st : Nat → S) : ∀ (n m k : Nat), (∀ i, k ≤ i → i < k + n → f (st i) = some (.inl (st (i + 1)))) → iterF f (n + m) (st k) = iterF f m (st (k + n))
  | 0, m, k, _ => by rw [Nat.zero_add]; rfl
  | n + 1, m, k, h => by
    rw [show n + 1 + m = (n + m) + 1 by omega, iterF_succ, h k (Nat.le_refl _) (by omega)]
    dsimp only
    rw [iterF_steps st n m (k + 1) (fun i h1 h2 => h i (by omega) (by omega))]
    congr 2; omega
/-- A loop that runs through known states, and then leaves. -/
theorem iter_run (st : Nat → S) (n : Nat) (hn : n < 18446744073709551616) (h : ∀ i, i < n → f (st i) = some (.inl (st (i + 1)))) (ho : f (st n) = some (.inr o)) : iter f (st 0) = some o := by
  unfold iter
  obtain ⟨m, hm⟩ : ∃ m, 18446744073709551616 = n + (m + 1) := ⟨18446744073709551616 - n - 1, by omega⟩
  rw [hm, iterF_steps st n (m + 1) 0 (fun i _ h2 => h i (by omega)), Nat.zero_add, iterF_succ, ho]
end

/-- What is known of slots. -/
abbrev Env := List (Nat × Value)
def Env.get : List (Nat × Value) → Nat → Option Value
  | [], _ => none
  | (i, v) :: e, d => cond (Nat.beq i d) (some v) (Env.get e d)
def Env.ev (e : List (Nat × Value)) : Operand → Option Value
  | .tmp t => Env.get e t
  | .const v => some v
  | .global g => some (.pointer (some ⟨g, 0, none⟩))
  | .func f => some (.func (.func f) #[] #[])
def Env.evs (e : List (Nat × Value)) : List Operand → Option (List Value)
  | [] => some []
  | x :: xs => match Env.ev e x, Env.evs e xs with
    | some v, some vs => some (v :: vs)
    | _, _ => none
def Env.evp (e : List (Nat × Value)) : List (Nat × Operand) → Option (List (Nat × Value))
  | [] => some []
  | (i, x) :: xs => match Env.ev e x, Env.evp e xs with
    | some v, some vs => some ((i, v) :: vs)
    | _, _ => none

structure Fits (n : Nat) (e : List (Nat × Value)) (a : Act) : Prop where
  size : a.tmps.size = n
  defers : a.defers = []
  has : ∀ d v, Env.get e d = some v → a.tmps[d]? = some v

section
variable {n : Nat} {e e' : List (Nat × Value)} {a : Act}
theorem Fits.ev (h : Fits n e a) {x : Operand} {v : Value} (hx : Env.ev e x = some v) : a.eval x = v := by
  cases x with
  | tmp t => simp only [Env.ev] at hx; simp [Act.eval, h.has t v hx]
  | const u => simp only [Env.ev, Option.some.injEq] at hx; simp [Act.eval, hx]
  | global g => simp only [Env.ev, Option.some.injEq] at hx; simp [Act.eval, hx]
  | func f => simp only [Env.ev, Option.some.injEq] at hx; simp [Act.eval, hx]
theorem Fits.evs (h : Fits n e a) : ∀ {xs : List Operand} {vs : List Value}, Env.evs e xs = some vs → xs.map a.eval = vs
  | [], vs, hx => by simp only [Env.evs, Option.some.injEq] at hx; simp [hx]
  | x :: xs, vs, hx => by
    simp only [Env.evs] at hx
    split at hx
    · rename_i v us h1 h2
      simp only [Option.some.injEq] at hx
      subst hx
      rw [List.map_cons, h.ev h1, h.evs h2]
    · cases hx
theorem Fits.evp (h : Fits n e a) : ∀ {xs : List (Nat × Operand)} {vs : List (Nat × Value)}, Env.evp e xs = some vs → xs.map (fun p => (p.1, a.eval p.2)) = vs
  | [], vs, hx => by simp only [Env.evp, Option.some.injEq] at hx; simp [hx]
  | (i, x) :: xs, vs, hx => by
    simp only [Env.evp] at hx
    split at hx
    · rename_i v us h1 h2
      simp only [Option.some.injEq] at hx
      subst hx
      rw [List.map_cons, h.ev h1, h.evp h2]
    · cases hx
theorem Fits.put (h : Fits n e a) {d : Nat} (hd : Nat.blt d n = true) (v : Value) : Fits n ((d, v) :: e) (a.put (some d) v) := by
  have hd' : d < n := by simpa using hd
  refine ⟨by simp [Act.put, h.size], h.defers, fun d' v' hg => ?_⟩
  simp only [Env.get] at hg
  by_cases hb : Nat.beq d d' = true
  · have : d = d' := Nat.eq_of_beq_eq_true hb
    subst this
    rw [hb, cond_true, Option.some.injEq] at hg
    subst hg
    simp [Act.put, h.size, hd']
  · have hb' : Nat.beq d d' = false := by cases h0 : Nat.beq d d' <;> simp_all
    rw [hb', cond_false] at hg
    have hne : d ≠ d' := fun e => by subst e; simp at hb
    simp only [Act.put]
    rw [Array.getElem?_setIfInBounds_ne hne]
    exact h.has d' v' hg
theorem Fits.none (h : Fits n e a) (v : Value) : Fits n e (a.put none v) := h
/-- Less is known. -/
def Sub (e' e : List (Nat × Value)) : Prop := ∀ d v, Env.get e' d = some v → Env.get e d = some v
theorem Sub.nil : Sub [] e := fun _ _ h => by cases h
theorem Sub.cons {d : Nat} {v : Value} (h : Env.get e d = some v) (hs : Sub e' e) : Sub ((d, v) :: e') e := fun d' v' hg => by
  simp only [Env.get] at hg
  by_cases hb : Nat.beq d d' = true
  · have : d = d' := Nat.eq_of_beq_eq_true hb
    subst this
    rw [hb, cond_true] at hg
    rw [h, hg]
  · have hb' : Nat.beq d d' = false := by cases h0 : Nat.beq d d' <;> simp_all
    rw [hb', cond_false] at hg
    exact hs d' v' hg
theorem Fits.sub (h : Fits n e a) (hs : Sub e' e) : Fits n e' a := ⟨h.size, h.defers, fun d v hg => h.has d v (hs d v hg)⟩
end

/-- A guard that lets the operation be carried out. -/
def Wt (ops : Array Oper) (e : List (Nat × Value)) : Option (Nat × Bool) → Prop
  | none => True
  | some (j, b) => ∃ s, (ops[j]?).bind (·.dst) = some s ∧ Env.get e s = some (.bool b)
theorem Wt.no {ops : Array Oper} {e : List (Nat × Value)} : Wt ops e none := trivial
theorem Wt.mk {ops : Array Oper} {e : List (Nat × Value)} {j s : Nat} {b : Bool} (h : (ops[j]?).bind (·.dst) = some s) (h2 : Env.get e s = some (.bool b)) : Wt ops e (some (j, b)) := ⟨s, h, h2⟩
theorem Wt.wanted {ops : Array Oper} {e : List (Nat × Value)} {o : Oper} {n : Nat} {a : Act} (hf : Fits n e a) (h : Wt ops e o.guard) : Region.wanted o (yielded ops a.tmps) = true := by
  unfold Region.wanted
  cases hg : o.guard with
  | none => rfl
  | some p =>
    obtain ⟨j, b⟩ := p
    rw [hg] at h
    obtain ⟨s, h1, h2⟩ := h
    simp [yielded, h1, hf.has s _ h2]
theorem Wt.unwanted {ops : Array Oper} {e : List (Nat × Value)} {o : Oper} {n : Nat} {a : Act} {j s : Nat} {b : Bool} (hf : Fits n e a) (hg : o.guard = some (j, b)) (h1 : (ops[j]?).bind (·.dst) = some s) (h2 : Env.get e s = some (.bool (!b))) : Region.wanted o (yielded ops a.tmps) = false := by
  unfold Region.wanted
  rw [hg]
  simp [yielded, h1, hf.has s _ h2]

section
variable {P : Program} {Q : Exit → Act → World → Prop} {n : Nat} {e : List (Nat × Value)} {w : World} {ops : Array Oper} {os : List Oper}
/-- Code, from slots of which e is known. -/
def E (P : Program) (Q : Exit → Act → World → Prop) (n : Nat) (c : Code) (e : List (Nat × Value)) (w : World) : Prop := ∀ a, Fits n e a → c.wp P Q a w
/-- A way out. -/
def X (Q : Exit → Act → World → Prop) (n : Nat) (x : Exit) (e : List (Nat × Value)) (w : World) : Prop := ∀ a, Fits n e a → Q x a w
/-- The operations of a region that are still to come. -/
def L (P : Program) (Q : Exit → Act → World → Prop) (n : Nat) (ops : Array Oper) (os : List Oper) (e : List (Nat × Value)) (w : World) : Prop :=
  ∀ is : List Nat, is.map (fun i => ops[i]?) = os.map some → ∀ a, Fits n e a → wpOps P ops Q is a w

theorem E.seq {x y : Code} (h : E P (Exit.then (y.wp P Q) Q) n x e w) : E P Q n (.seq x y) e w := fun a ha => wp_seq (h a ha)
theorem E.skip (h : X Q n .normal e w) : E P Q n .skip e w := fun a ha => wp_skip (h a ha)
theorem E.label {l : Nat} (h : X Q n .normal e w) : E P Q n (.label l) e w := fun a ha => wp_label (h a ha)
theorem E.block {id : Nat} {c : Code} (h : E P (Exit.inBlock id Q) n c e w) : E P Q n (.block id c) e w := fun a ha => wp_block (h a ha)
theorem E.exit {id : Nat} (h : X Q n (.exit id) e w) : E P Q n (.exit id) e w := fun a ha => wp_exit (h a ha)
theorem E.ret (h : X Q n .ret e w) : E P Q n .ret e w := fun a ha => wp_ret (h a ha)
theorem E.sub {c : Code} {e' : List (Nat × Value)} (hs : Sub e' e) (h : E P Q n c e' w) : E P Q n c e w := fun a ha => h a (ha.sub hs)
theorem E.cT {c : Operand} {x y : Code} {t : Bool} (hx : Env.ev e c = some (.bool t)) (ht : t = true) (h : E P Q n x e w) : E P Q n (.cond c x y) e w :=
  fun a ha => wp_cond_true (by rw [ha.ev hx, ht]) (h a ha)
theorem E.cF {c : Operand} {x y : Code} {t : Bool} (hx : Env.ev e c = some (.bool t)) (ht : t = false) (h : E P Q n y e w) : E P Q n (.cond c x y) e w :=
  fun a ha => wp_cond_false (by rw [ha.ev hx, ht]) (h a ha)
theorem E.reg {id : Nat} {l : List Oper} (h : L P Q n l.toArray l e w) : E P Q n (.region id l.toArray false) e w := fun a ha => by
  refine wp_region (h _ ?_ a ha)
  apply List.ext_getElem?
  intro i
  simp only [List.getElem?_map, List.size_toArray, List.getElem?_toArray]
  by_cases hi : i < l.length
  · rw [List.getElem?_range hi, List.getElem?_eq_getElem hi]; simp [hi]
  · rw [List.getElem?_eq_none (by simpa using hi), List.getElem?_eq_none (by omega)]; rfl
/-- A place where ways meet: J is what is known there. -/
theorem E.join {x y : Code} (J : List (Nat × Value) → World → Prop) (hy : ∀ e' w', J e' w' → E P Q n y e' w')
    (h : E P (Exit.then (fun a w => ∃ e', Fits n e' a ∧ J e' w) Q) n x e w) : E P Q n (.seq x y) e w :=
  fun a ha => wp_seq (wp_mono (h a ha) fun x a' w' hq => by
    cases x <;> first | exact hq | (obtain ⟨e', hf, hj⟩ := hq; exact hy e' w' hj a' hf))
theorem X.seqN {y : Code} (h : E P Q n y e w) : X (Exit.then (y.wp P Q) Q) n .normal e w := h
theorem X.joinN {J : List (Nat × Value) → World → Prop} {e' : List (Nat × Value)} (hs : Sub e' e) (h : J e' w) : X (Exit.then (fun a w => ∃ e', Fits n e' a ∧ J e' w) Q) n .normal e w := fun _ ha => ⟨e', ha.sub hs, h⟩
theorem X.seqX {K : Act → World → Prop} {id : Nat} (h : X Q n (.exit id) e w) : X (Exit.then K Q) n (.exit id) e w := h
theorem X.seqR {K : Act → World → Prop} (h : X Q n .ret e w) : X (Exit.then K Q) n .ret e w := h
theorem X.blkN {id : Nat} (h : X Q n .normal e w) : X (Exit.inBlock id Q) n .normal e w := h
theorem X.blkR {id : Nat} (h : X Q n .ret e w) : X (Exit.inBlock id Q) n .ret e w := h
theorem X.blkE {id : Nat} (h : X Q n .normal e w) : X (Exit.inBlock id Q) n (.exit id) e w := fun a ha => by
  show if id = id then _ else _
  rw [if_pos rfl]; exact h a ha
theorem X.blkX {id id' : Nat} (hne : Nat.beq id' id = false) (h : X Q n (.exit id') e w) : X (Exit.inBlock id Q) n (.exit id') e w := fun a ha => by
  show if id' = id then _ else _
  rw [if_neg (fun e => by subst e; simp at hne)]; exact h a ha

/-- Code at the head of a loop: the round is still to come. -/
def LW (P : Program) (Q : Exit → Act → World → Prop) (c : Code) (a : Act) (w : World) : Prop :=
  ∀ (b : Frame) (k : List Item) (cs : List Frame), ∃ x a' w', Q x a' w' ∧ Arrives P (lone (b.at a (.code c :: .inLoop c :: k)) cs w) b k cs x a' w'
def H (P : Program) (Q : Exit → Act → World → Prop) (n : Nat) (c : Code) (e : List (Nat × Value)) (w : World) : Prop := ∀ a, Fits n e a → LW P Q c a w
theorem E.loop {c : Code} (h : H P Q n c e w) : E P Q n (.loop c) e w := fun a ha b k cs =>
  let ⟨x, a', w', hq, harr⟩ := h a ha b k cs
  ⟨x, a', w', hq, .of_steps (.one step_loop) harr⟩
theorem H.sub {c : Code} {e' : List (Nat × Value)} (hs : Sub e' e) (h : H P Q n c e' w) : H P Q n c e w := fun a ha => h a (ha.sub hs)
/-- One round. -/
theorem H.round {c : Code} (h : E P (Exit.then (LW P Q c) Q) n c e w) : H P Q n c e w := by
  intro a ha b k cs
  obtain ⟨x, a₁, w₁, hq, harr⟩ := h a ha b (.inLoop c :: k) cs
  cases x with
  | normal =>
    obtain ⟨x₂, a₂, w₂, hq₂, harr₂⟩ := hq b k cs
    exact ⟨x₂, a₂, w₂, hq₂, .of_steps (Steps.trans harr (.one step_inLoop)) harr₂⟩
  | exit id => exact ⟨_, a₁, w₁, hq, .pass (x := .inLoop c) rfl (fun _ _ => .inl (by simp)) harr⟩
  | goto l => exact ⟨_, a₁, w₁, hq, .pass (x := .inLoop c) rfl (fun _ _ => .inl (by simp)) harr⟩
  | ret => exact ⟨_, a₁, w₁, hq, .pass (x := .inLoop c) rfl (fun _ _ => .inl (by simp)) harr⟩
  | panic ch => exact ⟨_, a₁, w₁, hq, .pass (x := .inLoop c) rfl (fun _ _ => .inl (by simp)) harr⟩
  | outgrown => exact ⟨_, a₁, w₁, hq, .pass (x := .inLoop c) rfl (fun _ _ => .inl (by simp)) harr⟩
theorem X.again {c : Code} (h : H P Q n c e w) : X (Exit.then (LW P Q c) Q) n .normal e w := h

theorem L.nil (h : X Q n .normal e w) : L P Q n ops [] e w := fun is his a ha => by
  have : is = [] := by simpa using his
  subst this
  exact h a ha
theorem L.sub {e' : List (Nat × Value)} (hs : Sub e' e) (h : L P Q n ops os e' w) : L P Q n ops os e w := fun is his a ha => h is his a (ha.sub hs)
/-- A place inside a region where ways meet. -/
theorem L.join (J : List (Nat × Value) → World → Prop) (hy : ∀ e' w', J e' w' → L P Q n ops os e' w')
    (h : (∀ e' w', J e' w' → L P Q n ops os e' w') → L P Q n ops os e w) : L P Q n ops os e w := h hy
theorem L.op {o : Oper} (hw : Wt ops e o.guard) (h : ∀ a, Fits n e a → ∀ K : Act → World → Prop, (∀ e' a' w', Fits n e' a' → L P Q n ops os e' w' → K a' w') → o.wp P a w K Q) : L P Q n ops (o :: os) e w := fun is his a ha => by
  cases is with
  | nil => cases his
  | cons i rest =>
    simp only [List.map_cons, List.cons.injEq] at his
    obtain ⟨h1, h2⟩ := his
    simp only [wpOps, h1]
    rw [if_pos (Wt.wanted ha hw)]
    exact .inl (h a ha _ fun e' a' w' hf hl => hl rest h2 a' hf)
theorem L.skip {d : Nat} {op : Op} {ty : TypeId} {pos : String} {af : Array Edge} {j s : Nat} {b b' : Bool} (h1 : (ops[j]?).bind (·.dst) = some s) (h2 : Env.get e s = some (.bool b')) (hb : b' = !b) (hd : Nat.blt d n = true)
    (h : L P Q n ops os ((d, undef) :: e) w) : L P Q n ops (⟨some d, op, ty, pos, af, some (j, b)⟩ :: os) e w := fun is his a ha => by
  cases is with
  | nil => cases his
  | cons i rest =>
    simp only [List.map_cons, List.cons.injEq] at his
    obtain ⟨g1, g2⟩ := his
    subst hb
    simp only [wpOps, g1]
    rw [if_neg (by rw [Wt.unwanted ha rfl h1 h2]; simp)]
    exact h rest g2 _ (ha.put hd undef)
theorem L.skip0 {op : Op} {ty : TypeId} {pos : String} {af : Array Edge} {j s : Nat} {b b' : Bool} (h1 : (ops[j]?).bind (·.dst) = some s) (h2 : Env.get e s = some (.bool b')) (hb : b' = !b)
    (h : L P Q n ops os e w) : L P Q n ops (⟨none, op, ty, pos, af, some (j, b)⟩ :: os) e w := fun is his a ha => by
  cases is with
  | nil => cases his
  | cons i rest =>
    simp only [List.map_cons, List.cons.injEq] at his
    obtain ⟨g1, g2⟩ := his
    subst hb
    simp only [wpOps, g1]
    rw [if_neg (by rw [Wt.unwanted ha rfl h1 h2]; simp)]
    exact h rest g2 _ ha
/-- An operation that gives a value. -/
theorem L.val {d : Nat} {op : Op} {ty : TypeId} {pos : String} {af : Array Edge} {g : Option (Nat × Bool)} {v : Value} {w' : World} (hw : Wt ops e g) (hd : Nat.blt d n = true)
    (hr : ∀ a, Fits n e a → (execOp a.eval ⟨some d, op, ty, pos, af, g⟩).run P w = .ok (.value v) w') (h : L P Q n ops os ((d, v) :: e) w') : L P Q n ops (⟨some d, op, ty, pos, af, g⟩ :: os) e w :=
  L.op hw fun a ha K hK => by
    unfold Oper.wp
    rw [hr a ha]
    exact hK _ _ _ (ha.put hd v) h
theorem L.unit {op : Op} {ty : TypeId} {pos : String} {af : Array Edge} {g : Option (Nat × Bool)} {w' : World} (hw : Wt ops e g)
    (hr : ∀ a, Fits n e a → (execOp a.eval ⟨none, op, ty, pos, af, g⟩).run P w = .ok .skip w') (h : L P Q n ops os e w') : L P Q n ops (⟨none, op, ty, pos, af, g⟩ :: os) e w :=
  L.op hw fun a ha K hK => by
    unfold Oper.wp
    rw [hr a ha]
    exact hK _ _ _ ha h
end
end Go.Proofs.Ytkkemchihllklaa
