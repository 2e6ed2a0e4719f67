/- More rules: guards, parts of lists, what the printed walks name. -/
import Derived.Test.YtkkemchihllklaaRq
namespace Go.Proofs.Ytkkemchihllklaa
open Go Go.RowKit

theorem orT {c t : Bool} (h : c = true) : true = (c || t) := by subst h; rfl
theorem orF {c t : Bool} (h : c = false) : t = (c || t) := by subst h; rfl
theorem andT {c t : Bool} (h : c = true) : t = (c && t) := by subst h; rfl
theorem andF {c t : Bool} (h : c = false) : false = (c && t) := by subst h; rfl
abbrev W (x : Int) : Int := IntKind.i64.wrap x
theorem Sub.refl {e : List (Nat × Value)} : Sub e e := fun _ _ h => h
theorem Sub.ev {e e' : List (Nat × Value)} (hs : Sub e e') {x : Operand} {v : Value} (h : Env.ev e x = some v) : Env.ev e' x = some v := by
  cases x with
  | tmp t => exact hs t v h
  | _ => exact h
theorem Sub.evs {e e' : List (Nat × Value)} (hs : Sub e e') : ∀ {xs : List Operand} {vs : List Value}, Env.evs e xs = some vs → Env.evs e' xs = some vs
  | [], _, h => h
  | x :: xs, vs, h => by
    simp only [Env.evs] at h ⊢
    split at h
    · rename_i v us h1 h2
      rw [hs.ev h1, hs.evs h2]; exact h
    · cases h
theorem Sub.evp {e e' : List (Nat × Value)} (hs : Sub e e') : ∀ {xs : List (Nat × Operand)} {vs : List (Nat × Value)}, Env.evp e xs = some vs → Env.evp e' xs = some vs
  | [], _, h => h
  | (i, x) :: xs, vs, h => by
    simp only [Env.evp] at h ⊢
    split at h
    · rename_i v us h1 h2
      rw [hs.ev h1, hs.evp h2]; exact h
    · cases h

section
variable {P : Program} {Q : Exit → Act → World → Prop} {n : Nat} {e : List (Nat × Value)} {w : World} {s : Sig} {ops : Array Oper} {os : List Oper} {d : Nat} {ty : TypeId} {pos : String} {af : Array Edge} {g : Option (Nat × Bool)}
variable {α : Type} {r : Rep α} {t : Nat} {T T' U : TypeId} {a : Option Addr} {cap : Nat} {xs ys : List α}
theorem L.know {d : Nat} {c b : Bool} (h : Env.get e d = some (.bool c)) (hc : c = b) (h2 : L P Q n ops os ((d, .bool b) :: e) w) : L P Q n ops os e w := by
  subst hc
  exact L.sub (Sub.cons h Sub.refl) h2
theorem L.cut (k : Nat) (J : List (Nat × Value) → World → Prop) (hj : ∀ e w, J e w → L P Q n ops (os.drop k) e w) (h : (∀ e w, J e w → L P Q n ops (os.drop k) e w) → L P Q n ops os e w) : L P Q n ops os e w := h hj
/-- A guard that is not known, for its own operation was not carried out. -/
theorem L.skipU {d : Nat} {op : Op} {ty : TypeId} {pos : String} {af : Array Edge} {j s : Nat} {b : Bool} (h1 : (ops[j]?).bind (·.dst) = some s) (h2 : Env.get e s = some undef) (hd : Nat.blt d n = true)
    (h : L P Q n ops os ((d, undef) :: e) w) : L P Q n ops (⟨some d, op, ty, pos, af, some (j, b)⟩ :: os) e w := fun is his a ha => by
  cases is with
  | nil => cases his
  | cons i rest =>
    simp only [List.map_cons, List.cons.injEq] at his
    obtain ⟨g1, g2⟩ := his
    simp only [wpOps, g1]
    rw [if_neg (by unfold Region.wanted; simp [yielded, h1, ha.has s _ h2, undef])]
    exact h rest g2 _ (ha.put hd undef)
theorem Sl.elem {m : Nat} (h : Sl P T U m) : P.elem T = U := by simp [Program.elem, h.und]
/-- A part of a list. -/
theorem RdL.part (h : RdL r s a cap xs) {lo hi : Nat} (h1 : lo ≤ hi) (h2 : hi ≤ xs.length) : RdL r s (if cap = lo then a else a.map (·.add (lo * r.sz))) (cap - lo) ((xs.take hi).drop lo) := by
  obtain ⟨cs, g1, g2, g3⟩ := h
  have hl : ((xs.take hi).drop lo).length = hi - lo := by rw [List.length_drop, List.length_take, Nat.min_eq_left h2]
  have e1 : xs = xs.take hi ++ xs.drop hi := (List.take_append_drop hi xs).symm
  rw [e1] at g3
  obtain ⟨k1, _⟩ := g3.split
  have e2 : xs.take hi = (xs.take hi).take lo ++ (xs.take hi).drop lo := (List.take_append_drop lo _).symm
  rw [e2] at k1
  obtain ⟨_, k2⟩ := k1.split
  rw [List.length_take, List.length_take, Nat.min_eq_left h2, Nat.min_eq_left h1] at k2
  rw [← e2, List.length_take, Nat.min_eq_left h2] at k2
  have hlen := k2.len
  have hcs := g1.hlen
  have m1 := Nat.mul_le_mul_right r.sz h1
  have m2 := Nat.mul_le_mul_right r.sz h2
  have hcap := g1.hcap
  refine ⟨_, ⟨hlen, by rw [hl]; omega, Nat.le_trans (Nat.sub_le _ _) g1.hmax, fun e => ?_, fun ad e => ?_, fun ad e j hj => ?_⟩, fun ad e h0 => ?_, k2⟩
  · split at e
    · omega
    · cases a with
      | none => have := g1.hnil rfl; omega
      | some ad => cases e
  · split at e
    · exact g1.spot ad e
    · cases a with
      | none => cases e
      | some ad0 => 
        simp only [Option.map_some, Option.some.injEq] at e
        obtain ⟨b, o, sp⟩ := ad0
        have := g1.spot _ rfl
        simp only at this
        subst this
        rw [Addr.add_lit] at e
        subst e
        rfl
  · have hj' : j < (hi - lo) * r.sz := by rw [hlen, hl] at hj; exact hj
    have hne : ¬ cap = lo := by
      intro hc
      have : hi - lo = 0 := by omega
      rw [this] at hj'; omega
    rw [if_neg hne] at e
    cases a with
    | none => cases e
    | some ad0 =>
      simp only [Option.map_some, Option.some.injEq] at e
      obtain ⟨b, o, sp⟩ := ad0
      have := g1.spot _ rfl
      simp only at this
      subst this
      rw [Addr.add_lit] at e
      subst e
      have hlt : lo * r.sz + j < cs.length := by rw [Nat.sub_mul] at hj'; omega
      have := g1.cell _ rfl (lo * r.sz + j) hlt
      simp only at this ⊢
      rw [Nat.add_assoc, this]
      simp
  · have hj' : 0 < (hi - lo) * r.sz := by rw [hlen, hl] at h0; exact h0
    have hne : ¬ cap = lo := by
      intro hc
      have : hi - lo = 0 := by omega
      rw [this] at hj'; omega
    rw [if_neg hne] at e
    cases a with
    | none => cases e
    | some ad0 =>
      simp only [Option.map_some, Option.some.injEq] at e
      obtain ⟨b, o, sp⟩ := ad0
      have := g1.spot _ rfl
      simp only at this
      subst this
      rw [Addr.add_lit] at e
      subst e
      refine g2 ⟨b, o, none⟩ rfl ?_
      rw [Nat.sub_mul] at hj'; omega
theorem L.sl {x lo hi : Operand} {k k' : IntKind} {i j : Int} {zs : List α} (hS : Sl P T U r.sz) (hR : RdL r s a cap xs) (hw : Wt ops e g) (hx : Env.ev e x = some (.slice a xs.length cap)) (hi1 : Env.ev e lo = some (.int k i)) (hj : Env.ev e hi = some (.int k' j)) (hz : slc xs i j = some zs) (hd : Nat.blt d n = true)
    (h : ∀ a' cap', RdL r s a' cap' zs → L P Q n ops os ((d, .slice a' zs.length cap') :: e) s.w) : L P Q n ops (⟨some d, .slice T x (some lo) (some hi) none, ty, pos, af, g⟩ :: os) e s.w := by
  obtain ⟨h0, h1, h2, rfl⟩ := slc_some hz
  have hl : ((xs.take j.toNat).drop i.toNat).length = j.toNat - i.toNat := by rw [List.length_drop, List.length_take]; omega
  have hp := hR.part (lo := i.toNat) (hi := j.toNat) (by omega) (by omega)
  have hcap : xs.length ≤ cap := by obtain ⟨cs, g1, _⟩ := hR; exact g1.hcap
  refine L.val hw hd (fun ac ha => ?_) (h _ _ hp)
  have hr := run_slice_lh (P := P) s.w T a xs.length cap (by rw [hS.elem]; exact hS.und) k k' i j h0 h1 (by omega)
  rw [hS.elem] at hr
  simp only [execOp, ha.ev hx, ha.ev hi1, ha.ev hj, Option.map_some, Option.map_none, Sem.run_bind, run_sliceAt_slice (P := P) s.w T _ _ _ _ (by rw [hS.elem]; exact hS.und), hr, hS.sz, Result.andThen_ok, sliced, Sem.run_pure, hl]
theorem L.sh {x hi : Operand} {k' : IntKind} {j : Int} {zs : List α} (hS : Sl P T U r.sz) (hR : RdL r s a cap xs) (hw : Wt ops e g) (hx : Env.ev e x = some (.slice a xs.length cap)) (hj : Env.ev e hi = some (.int k' j)) (hz : slc xs 0 j = some zs) (hd : Nat.blt d n = true)
    (h : ∀ a' cap', RdL r s a' cap' zs → L P Q n ops os ((d, .slice a' zs.length cap') :: e) s.w) : L P Q n ops (⟨some d, .slice T x none (some hi) none, ty, pos, af, g⟩ :: os) e s.w := by
  obtain ⟨h0, h1, h2, rfl⟩ := slc_some hz
  have hl : ((xs.take j.toNat).drop (0 : Int).toNat).length = j.toNat - 0 := by rw [List.length_drop, List.length_take]; simp; omega
  have hp := hR.part (lo := (0 : Int).toNat) (hi := j.toNat) (by simp) (by omega)
  have hcap : xs.length ≤ cap := by obtain ⟨cs, g1, _⟩ := hR; exact g1.hcap
  refine L.val hw hd (fun ac ha => ?_) (h _ _ hp)
  have hr := run_slice_h (P := P) s.w T a xs.length cap (by rw [hS.elem]; exact hS.und) k' j h1 (by omega)
  rw [hS.elem] at hr
  simp only [execOp, ha.ev hx, ha.ev hj, Option.map_some, Option.map_none, Sem.run_bind, run_sliceAt_slice (P := P) s.w T _ _ _ _ (by rw [hS.elem]; exact hS.und), hr, hS.sz, Result.andThen_ok, sliced, Sem.run_pure, hl]
  rfl
theorem L.sf {x lo : Operand} {k : IntKind} {i : Int} {zs : List α} (hS : Sl P T U r.sz) (hR : RdL r s a cap xs) (hw : Wt ops e g) (hx : Env.ev e x = some (.slice a xs.length cap)) (hi1 : Env.ev e lo = some (.int k i)) (hz : slc xs i xs.length = some zs) (hd : Nat.blt d n = true)
    (h : ∀ a' cap', RdL r s a' cap' zs → L P Q n ops os ((d, .slice a' zs.length cap') :: e) s.w) : L P Q n ops (⟨some d, .slice T x (some lo) none none, ty, pos, af, g⟩ :: os) e s.w := by
  obtain ⟨h0, h1, h2, rfl⟩ := slc_some hz
  have hl : ((xs.take (xs.length : Int).toNat).drop i.toNat).length = xs.length - i.toNat := by rw [List.length_drop, List.length_take]; omega
  have hp := hR.part (lo := i.toNat) (hi := (xs.length : Int).toNat) (by omega) (by omega)
  refine L.val hw hd (fun ac ha => ?_) (h _ _ hp)
  have hr := run_slice_l (P := P) s.w T a xs.length cap (by rw [hS.elem]; exact hS.und) k i h0 (by omega)
  rw [hS.elem] at hr
  simp only [execOp, ha.ev hx, ha.ev hi1, Option.map_some, Option.map_none, Sem.run_bind, run_sliceAt_slice (P := P) s.w T _ _ _ _ (by rw [hS.elem]; exact hS.und), hr, hS.sz, Result.andThen_ok, sliced, Sem.run_pure, hl]
end
end Go.Proofs.Ytkkemchihllklaa
