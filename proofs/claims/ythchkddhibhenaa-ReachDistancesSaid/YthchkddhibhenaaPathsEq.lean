/- Path and the reference's Path return the same word: a plain law. -/
import Derived.Test.YthchkddhibhenaaPathR
namespace Go.Proofs.Ythchkddhibhenaa

section
variable {es : List Ed} {p q : Ed → Bool}
theorem Leads.congr (h : ∀ x ∈ es, p x = q x) : ∀ {u : List Int} {s t : Int}, Leads es p s u t → Leads es q s u t
  | [], _, _, hl => hl
  | _ :: _, _, _, ⟨x, hx, h1, h2, h3, h4⟩ => ⟨x, hx, h1, h2, by rw [← h x hx]; exact h3, Leads.congr h h4⟩
theorem Least.congr {want : Int → Bool} {s : Int} {m : Nat} {w : List Int} (h : ∀ x ∈ es, p x = q x) (hl : Least es p want s m w) : Least es q want s m w := by
  obtain ⟨t, h1, h2⟩ := hl.leads
  exact ⟨hl.ev, hl.len, ⟨t, h1.congr h, h2⟩, fun u t hu ht hlen => hl.le u t (hu.congr fun x hx => (h x hx).symm) ht hlen⟩
theorem paths_eq {n : Nat} {tg wi al : List Int} (hso : Sorted es) (hes : ∀ x ∈ es, 0 ≤ x.t ∧ x.t < (n : Int)) (he : EvEs es) (hal : ∀ x ∈ es, hasB al x.e = true) (i : Nat) (hi : i < n) :
    (if hasB wi i = true then pathF n es (hasB tg) (fun x => hasB wi x.t) i else none) = pathR es wi al tg 0 i := by
  by_cases hw : hasB wi i = true
  · rw [if_pos hw]
    have h1 := pathF_says (perm := fun x => hasB wi x.t) (want := hasB tg) hso hes he hi
    have h2 := pathR_says (W := wi) (E := al) (T := tg) he hso 0 (by omega) hw
    have hc : ∀ x ∈ es, (fun x : Ed => hasB wi x.t) x = fPerm wi al x := fun x hx => by
      show _ = (hasB wi x.t && hasB al x.e)
      rw [hal x hx, Bool.and_true]
    have e0 : (((0 : Nat) : Int)) = 0 := rfl
    rw [e0] at h2
    cases hq : pathF n es (hasB tg) (fun x => hasB wi x.t) i with
    | some w =>
      rw [hq] at h1
      have h1' := h1.congr hc
      cases hr : pathR es wi al tg 0 i with
      | some w' =>
        rw [hr] at h2
        exact congrArg some (h1'.unique h2)
      | none =>
        rw [hr] at h2
        obtain ⟨t, g1, g2⟩ := h1'.leads
        rw [h2 w t g1 (Nat.zero_le _)] at g2; cases g2
    | none =>
      rw [hq] at h1
      cases hr : pathR es wi al tg 0 i with
      | some w' =>
        rw [hr] at h2
        obtain ⟨t, g1, g2⟩ := h2.leads
        rw [h1 w' t (g1.congr fun x hx => (hc x hx).symm)] at g2; cases g2
      | none => rfl
  · rw [if_neg hw, pathR, if_pos (by simpa using hw)]
end
end Go.Proofs.Ythchkddhibhenaa
