/- Rules for places where ways meet, for loops by what they come to, for returns, and for regions that draw their order. -/
import Derived.Test.YtkkemchihllklaaRp
import Derived.Test.YtkkemchihllklaaRegTwo
namespace Go.Proofs.Ytkkemchihllklaa
open Go Go.RowKit

theorem bindS {α β : Type} {o : Option α} {f : α → Option β} {r : β} (h : o.bind f = some r) : ∃ x, o = some x ∧ f x = some r := Option.bind_eq_some_iff.1 h
theorem ifS {β : Type} {c : Bool} {x y : Option β} {r : β} (h : (if c = true then x else y) = some r) : (c = true ∧ x = some r) ∨ (c = false ∧ y = some r) := by
  cases c
  · exact .inr ⟨rfl, h⟩
  · exact .inl ⟨rfl, h⟩
theorem tgN {N i j : Nat} (h : Nat.beq i j = false) : ¬ One (N + i) (N + j) := fun e => by
  have : N + j = N + i := e
  have : i = j := by omega
  subst this
  simp at h
theorem tg0 {N i : Nat} (h : 0 < N) : ¬ One (N + i) 0 := fun e => by
  have : 0 = N + i := e
  omega
theorem tgp {N i : Nat} (h : 0 < N) : Nat.blt 0 (N + i) = true := by simp; omega
theorem tgn {N i : Nat} (h : 0 < N) : N + i ≠ 0 := by omega
abbrev Up (N : Nat) (S : Nat → Prop) : Nat → Prop := fun t => N ≤ t ∨ S t
theorem up {N i : Nat} {S : Nat → Prop} : Up N S (N + i) := .inl (Nat.le_add_right _ _)
theorem up0 {N : Nat} {S : Nat → Prop} (h : 0 < N) (h0 : ¬ S 0) : ¬ Up N S 0 := fun e => e.elim (fun e => by omega) h0

section
variable {P : Program} {Q : Exit → Act → World → Prop} {n : Nat} {e e' : List (Nat × Value)} {w : World}
theorem X.sub {x : Exit} (h : X Q n x e' w) (hs : Sub e' e) : X Q n x e w := fun a ha => h a (ha.sub hs)
/-- Two ways meet. -/
theorem E.seqJ {x y : Code} (J : List (Nat × Value) → World → Prop) (hy : ∀ e w, J e w → E P Q n y e w)
    (h : (∀ e w, J e w → X (Exit.then (y.wp P Q) Q) n .normal e w) → E P (Exit.then (y.wp P Q) Q) n x e w) : E P Q n (.seq x y) e w :=
  E.seq (h fun e w hj => X.seqN (hy e w hj))
theorem E.cut {x : Exit} {c : Code} (J : List (Nat × Value) → World → Prop) (hj : ∀ e w, J e w → X Q n x e w) (h : (∀ e w, J e w → X Q n x e w) → E P Q n c e w) : E P Q n c e w := h hj
theorem Iter.ind {S O : Type} {f : S → Option (S ⊕ O)} {o : O} {motive : S → Prop}
    (h : ∀ st res, f st = some res → (∀ st', res = .inl st' → motive st') → (∀ o', res = .inr o' → o' = o) → motive st) : ∀ {st}, Iter f st o → motive st := by
  intro st hi
  induction hi with
  | next h1 _ ih => exact h _ _ h1 (fun st' e => by cases e; exact ih (fun st res a b c => h st res a b c)) (fun o' e => by cases e)
  | out h1 => exact h _ _ h1 (fun st' e => by cases e) (fun o' e => by cases e; rfl)
theorem E.iter {S O : Type} {f : S → Option (S ⊕ O)} {o : O} {st0 : S} {c : Code} (I : S → List (Nat × Value) → World → Prop) (hi : iter f st0 = some o) (h0 : I st0 e' w) (hs : Sub e' e)
    (round : ∀ st res, f st = some res → (∀ st', res = .inl st' → ∀ e w, I st' e w → X (Exit.then (LW P Q c) Q) n .normal e w) → (∀ o', res = .inr o' → o' = o) → ∀ e w, I st e w → E P (Exit.then (LW P Q c) Q) n c e w) : E P Q n (.loop c) e w := by
  refine E.loop (H.sub hs ?_)
  exact Iter.ind (motive := fun st => ∀ e w, I st e w → H P Q n c e w) (fun st res h1 h2 h3 e w hI => H.round (round st res h1 (fun st' e' e w hI => X.again (h2 st' e' e w hI)) h3 e w hI)) (iter_some hi) _ _ h0
theorem L.toR {ops : Array Oper} {os : List Oper} {s s' : Sig} (hw : s'.w = s.w) (h : L P Q n ops os e s'.w) : L P Q n ops os e s.w := hw ▸ h
end

/-- What a call leaves, where the rows of one's own were lent. -/
theorem Calls.lend {P : Program} {f : FuncId} {args : Array Value} {s : Sig} {N : Nat} {Post : Value → Sig → Prop} {R : Value → Prop} (hc : Calls P f args (s.drop N).w (RetS No (s.drop N) Post)) (hr : ∀ v s', Post v s' → R v) :
    Calls P f args s.w (RetS No s fun v _ => R v) := by
  refine Calls.mono (w := s.w) hc fun en w' hh => ?_
  obtain ⟨v, s', rfl, rfl, hm, hp⟩ := hh
  refine ⟨v, ⟨s'.w, fun b => if b < s.w.heap.size then s.tag b else s'.tag b⟩, rfl, rfl, ⟨hm.os, hm.tape, hm.output, hm.size, fun b hb _ => ⟨(hm.blk b hb id).1, if_pos hb⟩⟩, hr v s' hp⟩
theorem Calls.weak {P : Program} {f : FuncId} {args : Array Value} {s : Sig} {S : Nat → Prop} {Post R : Value → Sig → Prop} (hc : Calls P f args s.w (RetS S s Post)) (hr : ∀ v s', Post v s' → R v s') : Calls P f args s.w (RetS S s R) :=
  Calls.mono hc fun _ _ ⟨v, s', h1, h2, h3, h4⟩ => ⟨v, s', h1, h2, h3, hr v s' h4⟩

/-- The values of a call's results. -/
inductive Rs (P : Program) (e : List (Nat × Value)) (s : Sig) : List ResultVar → List Value → Prop
  | nil : Rs P e s [] []
  | tmp {t : Nat} {v : Value} {rs : List ResultVar} {vs : List Value} : Env.get e t = some v → Rs P e s rs vs → Rs P e s (.tmp t :: rs) (v :: vs)
  | cell {a b t m : Nat} {cs : Array Value} {T T' : TypeId} {rs : List ResultVar} {vs : List Value} : Env.get e a = some (.pointer (some ⟨b, 0, none⟩)) → Bx s t b cs T' → Ag P T m → cs.size = m → Rs P e s rs vs → Rs P e s (.cell a T :: rs) (.agg cs :: vs)
  | one {a b t : Nat} {v : Value} {T T' : TypeId} {rs : List ResultVar} {vs : List Value} : Env.get e a = some (.pointer (some ⟨b, 0, none⟩)) → Bx s t b #[v] T' → NAg P T → Rs P e s rs vs → Rs P e s (.cell a T :: rs) (v :: vs)
theorem Rs.run {P : Program} {n : Nat} {e : List (Nat × Value)} {s : Sig} {a : Act} (ha : Fits n e a) : ∀ {rs : List ResultVar} {vs : List Value}, Rs P e s rs vs → (rs.mapM (Env.rv a)).run P s.w = .ok vs s.w := by
  intro rs vs h
  induction h with
  | nil => rfl
  | tmp h1 _ ih => simp [List.mapM_cons, Env.rv_run ha h1, ih]
  | @cell a0 b t m cs T T' rs vs h1 h2 h3 h4 _ ih =>
    have hl : (loadCells ⟨b, 0, none⟩ cs.toList.length).run P s.w = .ok cs.toList.toArray s.w := by
      refine run_loadCells_list (P := P) s.w ⟨b, 0, none⟩ _ fun i v hv => ?_
      rw [Addr.add_lit]
      have := h2.mem.cell i (List.getElem?_eq_some_iff.1 hv).1
      rw [this, (List.getElem?_eq_some_iff.1 hv).2]
    simp only [Array.length_toList, Array.toArray_toList, h4] at hl
    have : (Env.rv a (.cell a0 T)).run P s.w = .ok (.agg cs) s.w := by
      simp [Env.rv, Array.getD_eq_getD_getElem?, ha.has _ _ h1, asAddr, loadVar, h3.agg, h3.sz, hl]
    simp [List.mapM_cons, this, ih]
  | @one a0 b t v T T' rs vs h1 h2 h3 _ ih =>
    have hl := h2.mem.cell 0 (by simp)
    have : (Env.rv a (.cell a0 T)).run P s.w = .ok v s.w := by
      simp [Env.rv, Array.getD_eq_getD_getElem?, ha.has _ _ h1, asAddr, loadVar, h3.agg, load, Sem.run] at hl ⊢
      simp [hl]
    simp [List.mapM_cons, this, ih]
theorem X.rt {P : Program} {fn : Func} {R : Ending → World → Prop} {n : Nat} {e : List (Nat × Value)} {s : Sig} {rs : List ResultVar} {vs : List Value} {v : Value} {x : Exit} (hx : x = .ret ∨ x = .normal) (hr : fn.results = rs.toArray) (hv : Rs P e s rs vs)
    (hv2 : (if h : vs.toArray.size = 1 then vs.toArray[0] else .tuple vs.toArray) = v) (h : R (.returned v) s.w) : X (bodyPost P fn R) n x e s.w := fun a ha => by
  have h1 : (results fn a.tmps).run P s.w = .ok v s.w := by
    have h2 := hv.run (P := P) ha
    have h3 : results fn a.tmps = (do
      let vs ← rs.toArray.mapM (Env.rv a)
      pure (if h : vs.size = 1 then vs[0] else .tuple vs)) := by
      unfold results
      rw [hr]
      rfl
    rw [h3, List.mapM_toArray]
    simp [h2]
    exact hv2
  rcases hx with rfl | rfl
  · exact ⟨ha.defers, v, h1, h⟩
  · exact ⟨ha.defers, v, h1, h⟩
end Go.Proofs.Ytkkemchihllklaa
