/- Parts of the proof, without what nothing here names. -/
import Derived.Test.YtfbapajcheammaaGreatDoorQcy5
namespace Go.Proofs.YtfbapajcheammaaGreatDoor

def edLt (x y : Ed) : Prop := x.f < y.f ∨ (x.f = y.f ∧ x.e < y.e)
def Sorted (es : List Ed) : Prop := es.Pairwise edLt
theorem drop_count : ∀ (es : List Ed), es.Pairwise (fun x y => x.f ≤ y.f) → ∀ s : Int, es.drop (es.countP fun x => decide (x.f < s)) = es.filter fun x => !decide (x.f < s)
 | [], _, _ => rfl
 | x :: l, h, s => by
  obtain ⟨h1, h2⟩ := List.pairwise_cons.1 h
  by_cases hx : x.f < s
  ·rw [List.countP_cons_of_pos (by simpa using hx), List.drop_succ_cons, drop_count l h2 s, List.filter_cons_of_neg (by simpa using hx)]
  ·have h3 : ∀ y ∈ l, ¬ y.f < s := fun y hy => by have := h1 y hy; omega
   have h4 : l.countP (fun x => decide (x.f < s)) = 0 := by
    rw [List.countP_eq_zero]; intro y hy; simpa using h3 y hy
   rw [List.countP_cons_of_neg (by simpa using hx), h4, List.drop_zero]
   symm
   rw [List.filter_eq_self]
   intro y hy
   rcases List.mem_cons.1 hy with rfl | hy
   ·simpa using hx
   ·simpa using h3 y hy
theorem take_count : ∀ (es : List Ed), es.Pairwise (fun x y => x.f ≤ y.f) → ∀ s : Int, es.take (es.countP fun x => decide (x.f < s)) = es.filter fun x => decide (x.f < s)
 | [], _, _ => rfl
 | x :: l, h, s => by
  obtain ⟨h1, h2⟩ := List.pairwise_cons.1 h
  by_cases hx : x.f < s
  ·rw [List.countP_cons_of_pos (by simpa using hx), List.take_succ_cons, take_count l h2 s, List.filter_cons_of_pos (by simpa using hx)]
  ·have h3 : ∀ y ∈ l, ¬ y.f < s := fun y hy => by have := h1 y hy; omega
   have h4 : l.countP (fun x => decide (x.f < s)) = 0 := by
    rw [List.countP_eq_zero]; intro y hy; simpa using h3 y hy
   rw [List.countP_cons_of_neg (by simpa using hx), h4, List.take_zero]
   symm
   rw [List.filter_eq_nil_iff]
   intro y hy
   rcases List.mem_cons.1 hy with rfl | hy
   ·simpa using hx
   ·simpa using h3 y hy
theorem Sorted.le {es : List Ed} (h : Sorted es) : es.Pairwise (fun x y => x.f ≤ y.f) := List.Pairwise.imp (fun {x y} (h : edLt x y) => by unfold edLt at h; omega) h
theorem subOf_eq {es : List Ed} (h : Sorted es) (s : Int) : subOf es s = es.filter fun x => decide (x.f = s) := by
 have h1 := take_count es h.le (s + 1)
 have h2 : (es.filter fun x => decide (x.f < s + 1)).Pairwise (fun x y => x.f ≤ y.f) := h.le.filter _
 have h3 := drop_count _ h2 s
 have h4 : (es.filter fun x => decide (x.f < s + 1)).countP (fun x => decide (x.f < s)) = es.countP fun x => decide (x.f < s) := by
  rw [List.countP_filter]
  apply List.countP_congr
  intro x _
  simp only [Bool.and_eq_true, decide_eq_true_eq]
  omega
 rw [h4, ← h1, List.drop_take] at h3
 rw [subOf, edSub, fstN, fstN, h3, h1, List.filter_filter]
 apply List.filter_congr
 intro x _
 rw [Bool.eq_iff_iff]
 simp only [Bool.and_eq_true, Bool.not_eq_true', decide_eq_true_eq, decide_eq_false_iff_not]
 omega

theorem back_push {steps : List St} {y : St} (hp : ∀ j (h : j < steps.length), -1 ≤ steps[j].p ∧ steps[j].p < j) : ∀ (f k : Nat), k < steps.length → back (steps ++ [y]) f k = back steps f k
 | 0, _, _ => rfl
 | f + 1, k, hk => by
  rw [back, back, Int.toNat_natCast, List.getElem?_append_left hk, List.getElem?_eq_getElem hk]
  dsimp only
  split
  ·rename_i h0
   have := hp k hk
   obtain ⟨p, hpe⟩ := Int.eq_ofNat_of_zero_le h0
   rw [hpe] at this ⊢
   rw [back_push hp f p (by omega)]
  ·rfl

structure PW (es : List Ed) (perm : Ed → Bool) (from_ n i : Nat) (seen : List Bool) (steps : List St) (L : List (List Int × Int)) (b : Int) : Prop where
 pok : POk n seen steps
 len : steps.length = L.length
 st : ∀ (k : Nat) (r : List Int × Int), L[k]? = some r → ∃ x, steps[k]? = some x ∧ x.s = r.2 ∧ ∀ f, k < f → back steps f k = r.1.reverse
 seen : ∀ t : Nat, t < n → seen[t]? = some true → ∃ (k : Nat) (r : List Int × Int), L[k]? = some r ∧ r.2 = t
 found : Found es perm from_ L b
 follow : Followed es perm L 0 i
 zero : L[0]? = some ([], (from_ : Int))
 lt : i ≤ L.length

theorem PW.fold {es : List Ed} {perm : Ed → Bool} {from_ n i : Nat} (hes : ∀ x ∈ es, 0 ≤ x.t ∧ x.t < (n : Int)) (he : EvEs es) (r : List Int × Int) : ∀ (l done : List Ed) {seen : List Bool} {steps : List St} {L : List (List Int × Int)} {b : Int},
  PW es perm from_ n i seen steps L b → L[i]? = some r → es.filter (fun x => decide (x.f = r.2)) = done ++ l → l.Pairwise (fun x y => x.e < y.e) → (∀ x ∈ l, b < 33 * wval r.1 + x.e + 1) → b ≤ 33 * wval r.1 + 32 →
  (∀ x ∈ done, perm x = true → ∃ (k : Nat) (r' : List Int × Int), L[k]? = some r' ∧ r'.2 = x.t ∧ wval r'.1 ≤ 33 * wval r.1 + x.e + 1) →
  ∃ L' b', PW es perm from_ n (i + 1) (l.foldl (pStep perm i) (seen, steps)).1 (l.foldl (pStep perm i) (seen, steps)).2 L' b' ∧ b' ≤ 33 * wval r.1 + 32 ∧ ∃ M, L' = L ++ M
 | [], done, seen, steps, L, b, h, hi, hf, hs, hb, hb2, hd => by
  refine ⟨L, b, ⟨h.pok, h.len, h.st, h.seen, h.found, fun j hj r' hr x hx hxf hp => ?_, h.zero, ?_⟩, hb2, [], (List.append_nil _).symm⟩
  ·by_cases hji : j < i
   ·exact h.follow j hji r' hr x hx hxf hp
   ·obtain rfl : j = i := by omega
    rw [hi] at hr
    cases hr
    have hmem : x ∈ done := by
     have : x ∈ es.filter (fun x => decide (x.f = r.2)) := List.mem_filter.2 ⟨hx, by simpa using hxf⟩
     rw [hf, List.append_nil] at this
     exact this
    obtain ⟨k, r', h1, h2, h3⟩ := hd x hmem hp
    exact ⟨k, Nat.zero_le _, r', h1, h2, h3⟩
  ·have := (List.getElem?_eq_some_iff.1 hi).1; omega
 | x :: l, done, seen, steps, L, b, h, hi, hf, hs, hb, hb2, hd => by
  obtain ⟨hs1, hs2⟩ := List.pairwise_cons.1 hs
  have hxm : x ∈ es.filter (fun x => decide (x.f = r.2)) := by rw [hf]; simp
  obtain ⟨hxe, hxf⟩ := List.mem_filter.1 hxm
  have hxf : x.f = r.2 := by simpa using hxf
  have hxt := hes x hxe
  have hxv := he x hxe
  have hxb := hb x (List.mem_cons_self ..)
  have hf' : es.filter (fun x => decide (x.f = r.2)) = (done ++ [x]) ++ l := by rw [hf]; simp
  have hil : i < L.length := (List.getElem?_eq_some_iff.1 hi).1
  rw [List.foldl_cons]
  have hlt : x.t.toNat < seen.length := by rw [h.pok.len]; omega
  have hsv : seen[x.t.toNat]? = some seen[x.t.toNat] := List.getElem?_eq_getElem hlt
  by_cases hc : seen[x.t.toNat]?.getD true = false ∧ perm x = true
  ·have hst : pStep perm i (seen, steps) x = (seen.set x.t.toNat true, steps ++ [⟨x.t, i, x.e⟩]) := by unfold pStep; rw [if_pos hc]
   have hsf : seen[x.t.toNat]? = some false := by
    have := hc.1; rw [hsv] at this ⊢; simpa using this
   have hpok := h.pok.push (i := i) (by rw [h.len]; exact hil) x.t x.e hxt.1 hxt.2 hsf
   have hlead : Leads es perm from_ r.1 r.2 := h.found.lead r (List.mem_of_getElem? hi)
   have hF := h.found.push (hlead.snoc hxe hxf hc.2) (by rw [wval_snoc]; omega)
   rw [wval_snoc] at hF
   rw [hst]
   have hnew : PW es perm from_ n i (seen.set x.t.toNat true) (steps ++ [⟨x.t, i, x.e⟩]) (L ++ [(r.1 ++ [x.e], x.t)]) (33 * wval r.1 + x.e + 1) := by
    refine ⟨hpok, by simp [h.len], ?_, ?_, hF, h.follow.append h.lt _, ?_, ?_⟩
    ·intro k r' hr'
     by_cases hk : k < L.length
     ·rw [List.getElem?_append_left hk] at hr'
      obtain ⟨y, h1, h2, h3⟩ := h.st k r' hr'
      refine ⟨y, by rw [List.getElem?_append_left (by rw [h.len]; exact hk)]; exact h1, h2, fun f hf => ?_⟩
      rw [back_push h.pok.parent f k (by rw [h.len]; exact hk)]
      exact h3 f hf
     ·have hkl : k = L.length := by
       have := (List.getElem?_eq_some_iff.1 hr').1; simp at this; omega
      subst hkl
      rw [List.getElem?_append_right (Nat.le_refl _), Nat.sub_self] at hr'
      simp only [List.getElem?_cons_zero, Option.some.injEq] at hr'
      subst hr'
      refine ⟨⟨x.t, i, x.e⟩, by rw [List.getElem?_append_right (by rw [h.len]; exact Nat.le_refl _), h.len, Nat.sub_self]; rfl, rfl, fun f hf => ?_⟩
      obtain ⟨f', rfl⟩ : ∃ f', f = f' + 1 := ⟨f - 1, by omega⟩
      obtain ⟨y, h1, h2, h3⟩ := h.st i r hi
      rw [back, Int.toNat_natCast, List.getElem?_append_right (by rw [h.len]; exact Nat.le_refl _), h.len, Nat.sub_self]
      simp only [List.getElem?_cons_zero]
      rw [if_pos (by omega), back_push h.pok.parent f' i (by rw [h.len]; exact hil), h3 f' (by omega)]
      simp
    ·intro t ht hseen
     by_cases htx : x.t.toNat = t
     ·exact ⟨L.length, (r.1 ++ [x.e], x.t), by simp, by dsimp only; omega⟩
     ·rw [List.getElem?_set_ne htx] at hseen
      obtain ⟨k, r', h1, h2⟩ := h.seen t ht hseen
      exact ⟨k, r', by rw [List.getElem?_append_left (List.getElem?_eq_some_iff.1 h1).1]; exact h1, h2⟩
    ·rw [List.getElem?_append_left (by omega)]; exact h.zero
    ·have := h.lt; simp; omega
   obtain ⟨L', b', g1, g2, M, g3⟩ := PW.fold hes he r l (done ++ [x]) hnew (by rw [List.getElem?_append_left hil]; exact hi) hf' hs2 (fun y hy => by have := hs1 y hy; omega) (by omega) (fun y hy hp => by
    rcases List.mem_append.1 hy with hy | hy
    ·obtain ⟨k, r', h1, h2, h3⟩ := hd y hy hp
     exact ⟨k, r', by rw [List.getElem?_append_left (List.getElem?_eq_some_iff.1 h1).1]; exact h1, h2, h3⟩
    ·rw [List.mem_singleton.1 hy]
     exact ⟨L.length, (r.1 ++ [x.e], x.t), by simp, rfl, by rw [wval_snoc]; exact Int.le_refl _⟩)
   exact ⟨L', b', g1, g2, [(r.1 ++ [x.e], x.t)] ++ M, by rw [g3, List.append_assoc]⟩
  ·have hst : pStep perm i (seen, steps) x = (seen, steps) := by unfold pStep; rw [if_neg hc]
   rw [hst]
   refine PW.fold hes he r l (done ++ [x]) h hi hf' hs2 (fun y hy => hb y (List.mem_cons_of_mem _ hy)) hb2 (fun y hy hp => ?_)
   rcases List.mem_append.1 hy with hy | hy
   ·exact hd y hy hp
   ·rw [List.mem_singleton.1 hy] at hp ⊢
    have hst : seen[x.t.toNat]? = some true := by
     rw [hsv] at hc ⊢
     simp only [Option.getD_some] at hc
     cases hb : seen[x.t.toNat] with
     | true => rfl
     | false => exact absurd ⟨hb, hp⟩ hc
    obtain ⟨k, r', h1, h2⟩ := h.seen x.t.toNat (by omega) hst
    refine ⟨k, r', h1, by omega, ?_⟩
    have := h.found.bd r' (List.mem_of_getElem? h1)
    omega

def BfsSays (es : List Ed) (perm : Ed → Bool) (want : Int → Bool) (from_ : Nat) : Option (List St × Nat) → Prop
 | some r => ∃ w, back r.1 (r.2 + 1) r.2 = w.reverse ∧ Least es perm want from_ 0 w
 | none => ∀ u t, Leads es perm from_ u t → want t = false
theorem PW.bfs {es : List Ed} {perm : Ed → Bool} {want : Int → Bool} {from_ n : Nat} (hso : Sorted es) (hes : ∀ x ∈ es, 0 ≤ x.t ∧ x.t < (n : Int)) (he : EvEs es) : ∀ (f i : Nat) {seen : List Bool} {steps : List St} {L : List (List Int × Int)} {b : Int},
  PW es perm from_ n i seen steps L b → n + 1 - i ≤ f → (∀ r, L[i]? = some r → b ≤ 33 * wval r.1) → (∀ j, j < i → ∀ r : List Int × Int, L[j]? = some r → want r.2 = false) →
  BfsSays es perm want from_ (Go.Proofs.YtfbapajcheammaaGreatDoor.bfs (subOf es) want perm f i seen steps)
 | 0, i, seen, steps, L, b, h, hf, _, _ => by
  have h1 := h.pok.le
  have h2 := h.len
  have h3 := h.lt
  omega
 | f + 1, i, seen, steps, L, b, h, hf, hb, hn => by
  by_cases hi : i < steps.length
  ·have hiL : i < L.length := by rw [← h.len]; exact hi
   have hr : L[i]? = some L[i] := List.getElem?_eq_getElem hiL
   obtain ⟨x, h1, h2, h3⟩ := h.st i L[i] hr
   rw [List.getElem?_eq_getElem hi] at h1
   cases h1
   cases hw : want steps[i].s with
   | true =>
    rw [bfs_found hi hw]
    exact ⟨L[i].1, h3 (i + 1) (by omega), h.found.least he h.follow h.zero hr (by rw [← h2]; exact hw) hn⟩
   | false =>
    rw [bfs_next hi hw, subOf_eq hso]
    have hpw : (es.filter fun x => decide (x.f = L[i].2)).Pairwise (fun x y => x.e < y.e) := by
     have h4 : (es.filter fun x => decide (x.f = L[i].2)).Pairwise edLt := List.Pairwise.filter _ hso
     refine List.Pairwise.imp_of_mem ?_ h4
     intro x y hx hy hxy
     have e1 := (List.mem_filter.1 hx).2
     have e2 := (List.mem_filter.1 hy).2
     simp only [decide_eq_true_eq] at e1 e2
     unfold edLt at hxy
     omega
    have hb1 := hb _ hr
    obtain ⟨L', b', g1, g2, M, rfl⟩ := PW.fold hes he L[i] (es.filter fun x => decide (x.f = L[i].2)) [] h hr (by simp) hpw (fun x hx => by have := he x (List.mem_filter.1 hx).1; omega) (by omega) (fun x hx => by cases hx)
    rw [h2]
    refine PW.bfs hso hes he f (i + 1) g1 (by omega) (fun r' hr' => ?_) (fun j hj r' hr' => ?_)
    ·have h5 := g1.found.sorted i (i + 1) (by omega) L[i] r' (by rw [List.getElem?_append_left hiL]; exact hr) hr'
     omega
    ·by_cases hji : j < i
     ·rw [List.getElem?_append_left (by omega)] at hr'
      exact hn j hji r' hr'
     ·obtain rfl : j = i := by omega
      rw [List.getElem?_append_left hiL, hr] at hr'
      cases hr'
      rw [← h2]; exact hw
  ·rw [bfs_end (by omega)]
   have hil : i = L.length := by have := h.lt; have := h.len; omega
   subst hil
   exact h.follow.none he h.zero (fun j r hr => hn j (List.getElem?_eq_some_iff.1 hr).1 r hr)
theorem pathF_says {es : List Ed} {perm : Ed → Bool} {want : Int → Bool} {from_ n : Nat} (hso : Sorted es) (hes : ∀ x ∈ es, 0 ≤ x.t ∧ x.t < (n : Int)) (he : EvEs es) (hf : from_ < n) :
  match pathF n es want perm from_ with
  | some w => Least es perm want from_ 0 w
  | none => ∀ u t, Leads es perm from_ u t → want t = false := by
 have h0 : PW es perm from_ n 0 ((List.replicate n false).set from_ true) [⟨from_, -1, -1⟩] [([], (from_ : Int))] 0 := by
  refine ⟨POk.start n from_ hf, rfl, ?_, ?_, ⟨?_, ?_, ?_⟩, fun j hj => absurd hj (by omega), rfl, Nat.zero_le _⟩
  ·intro k r hr
   cases k with
   | zero =>
    simp only [List.getElem?_cons_zero, Option.some.injEq] at hr
    subst hr
    refine ⟨_, rfl, rfl, fun f hf => ?_⟩
    obtain ⟨f', rfl⟩ : ∃ f', f = f' + 1 := ⟨f - 1, by omega⟩
    rfl
   | succ k => simp at hr
  ·intro t ht hs
   by_cases e : from_ = t
   ·subst e; exact ⟨0, _, rfl, rfl⟩
   ·rw [List.getElem?_set_ne e, List.getElem?_replicate, if_pos ht] at hs
    cases hs
  ·intro r hr
   rw [List.mem_singleton.1 hr]; rfl
  ·intro j k hjk r r' hj hk
   have := (List.getElem?_eq_some_iff.1 hk).1
   simp at this; omega
  ·intro r hr
   rw [List.mem_singleton.1 hr]; exact Int.le_refl 0
 have h1 := h0.bfs (want := want) hso hes he (n + 1) 0 (by omega) (fun r hr => by simp only [List.getElem?_cons_zero, Option.some.injEq] at hr; subst hr; exact Int.le_refl 0) (fun j hj => absurd hj (by omega))
 unfold pathF
 generalize Go.Proofs.YtfbapajcheammaaGreatDoor.bfs (subOf es) want perm (n + 1) 0 ((List.replicate n false).set from_ true) [⟨from_, -1, -1⟩] = r at h1
 cases r with
 | none => exact h1
 | some r =>
  obtain ⟨w, h2, h3⟩ := h1
  simp only [Option.map_some, h2, List.reverse_reverse]
  exact h3
end Go.Proofs.YtfbapajcheammaaGreatDoor

namespace Go.Proofs.YtfbapajcheammaaGreatDoor

def ReachIn (es : List Ed) (tg : List Int) : Nat → Int → Prop
 | 0, s => s ∈ tg
 | k + 1, s => ∃ x ∈ es, x.f = s ∧ ReachIn es tg k x.t
def IsDist (es : List Ed) (tg : List Int) (s d : Int) : Prop := (d = -1 ∧ ∀ k, ¬ ReachIn es tg k s) ∨ (∃ k : Nat, d = k ∧ ReachIn es tg k s ∧ ∀ j, j < k → ¬ ReachIn es tg j s)
structure BD (es : List Ed) (tg : List Int) (n : Nat) (ds q : List Int) (c : Int) : Prop where
 ok : BOk n ds q
 fit : ∀ i, i < n → 0 ≤ ds.getD i 0 → ∃ k : Nat, ds.getD i 0 = k ∧ ReachIn es tg k i
 top : ∀ i, i < n → ds.getD i 0 ≤ c + 1
 low : ∀ s ∈ q, c ≤ ds.getD s.toNat 0
 srt : q.Pairwise fun s t => ds.getD s.toNat 0 ≤ ds.getD t.toNat 0
 done : ∀ x ∈ es, 0 ≤ ds.getD x.t.toNat 0 → x.t ∈ q ∨ (0 ≤ ds.getD x.f.toNat 0 ∧ ds.getD x.f.toNat 0 ≤ ds.getD x.t.toNat 0 + 1)
 tgt : ∀ s ∈ tg, ds.getD s.toNat 0 = 0
 bnd : ∀ i, i < n → ds.getD i 0 ≤ n - negs ds

section
variable {es : List Ed} {tg : List Int} {n : Nat}
theorem getD_set_at {ds : List Int} {p : Nat} {d : Int} (h : p < ds.length) : (ds.set p d).getD p 0 = d := by
 rw [List.getD_eq_getElem?_getD, List.getElem?_set_self h]; rfl
structure BDs (es : List Ed) (tg : List Int) (n : Nat) (s : Nat) (c : Int) (ds q l : List Int) : Prop where
 ok : BOk n ds q
 at_ : ds.getD s 0 = c
 c0 : 0 ≤ c
 fit : ∀ i, i < n → 0 ≤ ds.getD i 0 → ∃ k : Nat, ds.getD i 0 = k ∧ ReachIn es tg k i
 top : ∀ i, i < n → ds.getD i 0 ≤ c + 1
 low : ∀ s ∈ q, c ≤ ds.getD s.toNat 0
 srt : q.Pairwise fun s t => ds.getD s.toNat 0 ≤ ds.getD t.toNat 0
 done : ∀ x ∈ es, 0 ≤ ds.getD x.t.toNat 0 → x.t ∈ q ∨ (x.t = s ∧ x.f ∈ l) ∨ (0 ≤ ds.getD x.f.toNat 0 ∧ ds.getD x.f.toNat 0 ≤ ds.getD x.t.toNat 0 + 1)
 tgt : ∀ s ∈ tg, ds.getD s.toNat 0 = 0
 bnd : ∀ i, i < n → ds.getD i 0 ≤ n - negs ds
theorem BDs.fold (hes : ∀ x ∈ es, 0 ≤ x.f ∧ x.f < (n : Int) ∧ 0 ≤ x.t ∧ x.t < (n : Int)) (htg : ∀ s ∈ tg, 0 ≤ s ∧ s < (n : Int)) {s : Nat} (hs : s < n) {c : Int} : ∀ (l : List Int) {ds q : List Int}, BDs es tg n s c ds q l → (∀ p ∈ l, ∃ x ∈ es, x.f = p ∧ x.t = s) →
  BDs es tg n s c (l.foldl (bStep s) (ds, q)).1 (l.foldl (bStep s) (ds, q)).2 []
 | [], _, _, h, _ => h
 | p :: l, ds, q, h, hp => by
  rw [List.foldl_cons]
  obtain ⟨x, hx, rfl, hxt⟩ := hp p (List.mem_cons_self ..)
  have hxr := hes x hx
  have hl := h.ok.len
  by_cases hneg : ds.getD x.f.toNat 0 < 0
  ·have hst : bStep s (ds, q) x.f = (ds.set x.f.toNat (ds.getD s 0 + 1), q ++ [x.f]) := by unfold bStep; rw [if_pos hneg]
   have hstep := h.ok.step hs (by rw [h.at_]; exact h.c0) x.f hxr.1 hxr.2.1
   rw [hst] at hstep ⊢
   rw [h.at_] at hstep ⊢
   have hne : x.f.toNat ≠ s := by
    intro e; rw [e, h.at_] at hneg; have := h.c0; omega
   have hfl : x.f.toNat < ds.length := by omega
   have hself : (ds.set x.f.toNat (c + 1)).getD x.f.toNat 0 = c + 1 := getD_set_at hfl
   have hother : ∀ i, i ≠ x.f.toNat → (ds.set x.f.toNat (c + 1)).getD i 0 = ds.getD i 0 := fun i hi => getD_set_ne (fun e => hi e.symm)
   have hc0 := h.c0
   obtain ⟨k, hk1, hk2⟩ := h.fit s hs (by rw [h.at_]; exact h.c0)
   rw [h.at_] at hk1
   have hq : ∀ t ∈ q, t.toNat ≠ x.f.toNat := by
    intro t ht e
    have := h.ok.nn t ht
    rw [e] at this; omega
   refine BDs.fold hes htg hs l ⟨hstep.1, by rw [hother s (Ne.symm hne)]; exact h.at_, h.c0, ?_, ?_, ?_, ?_, ?_, ?_, ?_⟩ (fun p hp' => hp p (List.mem_cons_of_mem _ hp'))
   ·intro i hi h0
    by_cases e : i = x.f.toNat
    ·subst e
     rw [hself]
     refine ⟨k + 1, by omega, x, hx, by omega, ?_⟩
     rw [hxt]; exact hk2
    ·rw [hother i e] at h0 ⊢; exact h.fit i hi h0
   ·intro i hi
    by_cases e : i = x.f.toNat
    ·subst e; rw [hself]; exact Int.le_refl _
    ·rw [hother i e]; exact h.top i hi
   ·intro t ht
    rcases List.mem_append.1 ht with ht | ht
    ·rw [hother _ (hq t ht)]; exact h.low t ht
    ·rw [List.mem_singleton.1 ht, hself]; omega
   ·rw [List.pairwise_append]
    refine ⟨List.Pairwise.imp_of_mem (fun {a b} ha hb hab => ?_) h.srt, List.pairwise_singleton _ _, fun a ha b hb => ?_⟩
    ·rw [hother _ (hq a ha), hother _ (hq b hb)]; exact hab
    ·rw [List.mem_singleton.1 hb, hself, hother _ (hq a ha)]
     have h1 := h.ok.qr a ha
     exact h.top a.toNat (by omega)
   ·intro y hy h0
    by_cases e : y.t.toNat = x.f.toNat
    ·have : y.t = x.f := by have := hes y hy; omega
     exact .inl (by rw [this]; simp)
    ·rw [hother _ e] at h0 ⊢
     rcases h.done y hy h0 with h1 | ⟨h1, h2⟩ | ⟨h1, h2⟩
     ·exact .inl (List.mem_append_left _ h1)
     ·rcases List.mem_cons.1 h2 with h2 | h2
      ·refine .inr (.inr ?_)
       rw [h2, hself, h1, Int.toNat_natCast, h.at_]; omega
      ·exact .inr (.inl ⟨h1, h2⟩)
     ·refine .inr (.inr ?_)
      by_cases e2 : y.f.toNat = x.f.toNat
      ·rw [e2] at h1; omega
      ·rw [hother _ e2]; exact ⟨h1, h2⟩
   ·intro t ht
    have := h.tgt t ht
    by_cases e : t.toNat = x.f.toNat
    ·rw [e] at this; omega
    ·rw [hother _ e]; exact this
   ·intro i hi
    have h9 : negs (ds.set x.f.toNat (c + 1)) + 1 = negs ds := negs_set hfl (by rw [List.getD_eq_getElem?_getD, List.getElem?_eq_getElem hfl] at hneg; exact hneg) (by omega)
    have h8 := h.bnd s hs
    rw [h.at_] at h8
    by_cases e : i = x.f.toNat
    ·subst e; rw [hself]; omega
    ·rw [hother i e]; have := h.bnd i hi; omega
  ·have hst : bStep s (ds, q) x.f = (ds, q) := by unfold bStep; rw [if_neg hneg]
   rw [hst]
   refine BDs.fold hes htg hs l ⟨h.ok, h.at_, h.c0, h.fit, h.top, h.low, h.srt, ?_, h.tgt, h.bnd⟩ (fun p hp' => hp p (List.mem_cons_of_mem _ hp'))
   intro y hy h0
   rcases h.done y hy h0 with h1 | ⟨h1, h2⟩ | h1
   ·exact .inl h1
   ·rcases List.mem_cons.1 h2 with h2 | h2
    ·refine .inr (.inr ?_)
     rw [h2, h1, Int.toNat_natCast, h.at_]
     exact ⟨by omega, h.top _ (by omega)⟩
    ·exact .inr (.inl ⟨h1, h2⟩)
   ·exact .inr (.inr h1)
theorem BD.bwd (hes : ∀ x ∈ es, 0 ≤ x.f ∧ x.f < (n : Int) ∧ 0 ≤ x.t ∧ x.t < (n : Int)) (htg : ∀ s ∈ tg, 0 ≤ s ∧ s < (n : Int)) : ∀ (f : Nat) {ds q : List Int} {c : Int}, BD es tg n ds q c → 2 * negs ds + q.length < f →
  ∃ c', BD es tg n (Go.Proofs.YtfbapajcheammaaGreatDoor.bwd (inL es) f ds q) [] c'
 | 0, _, _, _, _, hf => absurd hf (by omega)
 | f + 1, ds, [], c, h, _ => ⟨c, h⟩
 | f + 1, ds, s :: q, c, h, hf => by
  rw [Go.Proofs.YtfbapajcheammaaGreatDoor.bwd]
  have hs := h.ok.qr s (List.mem_cons_self ..)
  have h0 := h.ok.nn s (List.mem_cons_self ..)
  have hc := h.low s (List.mem_cons_self ..)
  obtain ⟨hs1, hs2⟩ := List.pairwise_cons.1 h.srt
  have h1 : BDs es tg n s.toNat (ds.getD s.toNat 0) ds q (inL es s.toNat) := by
   refine ⟨h.ok.pop, rfl, h0, h.fit, fun i hi => ?_, hs1, hs2, fun x hx hx0 => ?_, h.tgt, h.bnd⟩
   ·have := h.top i hi; omega
   ·rcases h.done x hx hx0 with h2 | h2
    ·rcases List.mem_cons.1 h2 with h2 | h2
     ·refine .inr (.inl ⟨by omega, ?_⟩)
      unfold inL
      exact List.mem_map.2 ⟨x, List.mem_filter.2 ⟨hx, by rw [h2]; simp; omega⟩, rfl⟩
     ·exact .inl h2
    ·exact .inr (.inr h2)
  have h2 := h1.fold hes htg (by omega) (inL es s.toNat) (fun p hp => inL_mem hp)
  have h3 := BOk.fold (show s.toNat < n by omega) (inL es s.toNat) h.ok.pop h0 (inL_range hes)
  refine BD.bwd hes htg f (c := ds.getD s.toNat 0) ⟨h2.ok, h2.fit, h2.top, h2.low, h2.srt, fun x hx hx0 => ?_, h2.tgt, h2.bnd⟩ ?_
  ·rcases h2.done x hx hx0 with h4 | ⟨_, h4⟩ | h4
   ·exact .inl h4
   ·cases h4
   ·exact .inr h4
  ·have := h3.2.2
   simp only [List.length_cons] at hf
   omega
theorem backward_bd (hn : n ≤ 1000000) (hes : ∀ x ∈ es, 0 ≤ x.f ∧ x.f < (n : Int) ∧ 0 ≤ x.t ∧ x.t < (n : Int)) (htg : ∀ s ∈ tg, 0 ≤ s ∧ s < (n : Int)) (i : Nat) (hi : i < n) : IsDist es tg i ((backward n es tg).getD i 0) ∧ (backward n es tg).getD i 0 ≤ n := by
 have hst := bStart_get n tg (fun s hs => (htg s hs).1)
 have h0 : BD es tg n (bStart n tg) tg 0 := by
  refine ⟨BOk.start n tg hn htg, ?_, ?_, ?_, ?_, ?_, ?_, ?_⟩
  ·intro i hi h0
   rw [hst i hi] at h0 ⊢
   by_cases hm : (i : Int) ∈ tg
   ·rw [if_pos hm]; exact ⟨0, rfl, hm⟩
   ·rw [if_neg hm] at h0; omega
  ·intro i hi
   rw [hst i hi]; split <;> omega
  ·intro s hs
   have h1 := htg s hs
   rw [hst s.toNat (by omega), if_pos (by rw [Int.toNat_of_nonneg h1.1]; exact hs)]; exact Int.le_refl _
  ·refine List.Pairwise.imp_of_mem (R := fun _ _ => True) (fun {a b} ha hb _ => ?_) (List.pairwise_of_forall (fun _ _ => trivial))
   have h1 := htg a ha
   have h2 := htg b hb
   rw [hst a.toNat (by omega), hst b.toNat (by omega), if_pos (by rw [Int.toNat_of_nonneg h1.1]; exact ha), if_pos (by rw [Int.toNat_of_nonneg h2.1]; exact hb)]; exact Int.le_refl _
  ·intro x hx h0
   have h1 := hes x hx
   rw [hst x.t.toNat (by omega)] at h0
   by_cases hm : ((x.t.toNat : Nat) : Int) ∈ tg
   ·exact .inl (by rwa [Int.toNat_of_nonneg h1.2.2.1] at hm)
   ·rw [if_neg hm] at h0; omega
  ·intro s hs
   have h1 := htg s hs
   rw [hst s.toNat (by omega), if_pos (by rw [Int.toNat_of_nonneg h1.1]; exact hs)]
  ·intro i hi
   have h1 := negs_le (bStart n tg)
   rw [bStart_length] at h1
   rw [hst i hi]; split <;> omega
 obtain ⟨c, h⟩ := h0.bwd hes htg (2 * negs (bStart n tg) + tg.length + 1) (by omega)
 have hE : Go.Proofs.YtfbapajcheammaaGreatDoor.bwd (inL es) (2 * negs (bStart n tg) + tg.length + 1) (bStart n tg) tg = backward n es tg := rfl
 rw [hE] at h
 generalize backward n es tg = D at h
 have key : ∀ (k : Nat) (s : Int), 0 ≤ s → s < n → ReachIn es tg k s → 0 ≤ D.getD s.toNat 0 ∧ D.getD s.toNat 0 ≤ k := by
  intro k
  induction k with
  | zero =>
   intro s h0 h1 hr
   rw [h.tgt s hr]; omega
  | succ k ih =>
   rintro s h0 h1 ⟨x, hx, rfl, hr⟩
   have hxr := hes x hx
   obtain ⟨g1, g2⟩ := ih x.t hxr.2.2.1 hxr.2.2.2 hr
   rcases h.done x hx g1 with h3 | ⟨h3, h4⟩
   ·cases h3
   ·omega
 refine ⟨?_, by have := h.bnd i hi; omega⟩
 by_cases hneg : 0 ≤ D.getD i 0
 ·obtain ⟨k, h1, h2⟩ := h.fit i hi hneg
  refine .inr ⟨k, h1, h2, fun j hj hr => ?_⟩
  have := key j i (by omega) (by omega) hr
  rw [Int.toNat_natCast] at this
  omega
 ·refine .inl ⟨?_, fun k hr => ?_⟩
  ·have hl := h.ok.len
   have h1 := h.ok.lo (D.getD i 0) (by rw [List.getD_eq_getElem?_getD, List.getElem?_eq_getElem (by omega)]; exact List.getElem_mem _)
   omega
  ·have := key k i (by omega) (by omega) hr
   rw [Int.toNat_natCast] at this
   omega
theorem backward_dist (hn : n ≤ 1000000) (hes : ∀ x ∈ es, 0 ≤ x.f ∧ x.f < (n : Int) ∧ 0 ≤ x.t ∧ x.t < (n : Int)) (htg : ∀ s ∈ tg, 0 ≤ s ∧ s < (n : Int)) (i : Nat) (hi : i < n) : IsDist es tg i ((backward n es tg).getD i 0) := (backward_bd hn hes htg i hi).1
end
end Go.Proofs.YtfbapajcheammaaGreatDoor

namespace Go.Proofs.YtfbapajcheammaaGreatDoor
open Go Go.RowKit
theorem W_of {x : Int} (h0 : -9223372036854775808 ≤ x) (h1 : x < 9223372036854775808) : W x = x := IntWalk.i64_in _ (by omega)
theorem W_nat {k : Nat} (h : k < 9223372036854775808) : W (k : Int) = k := W_of (by omega) (by omega)
theorem idx_at {α : Type} {xs : List α} {i : Nat} (h : i < xs.length) : idx xs (i : Int) = some xs[i] := by rw [idx_nat, List.getElem?_eq_getElem h]
theorem iter_of {S O : Type} {f : S → Option (S ⊕ O)} {s : S} {o : O} {n : Nat} (hn : n ≤ 18446744073709551616) (h : iterF f n s = some o) : iter f s = some o := by
 have mono : ∀ (n m : Nat) (s : S), n ≤ m → iterF f n s = some o → iterF f m s = some o := by
  intro n
  induction n with
  | zero => intro m s _ h; cases h
  | succ n ih =>
   intro m s hm h
   obtain ⟨k, rfl⟩ : ∃ k, m = k + 1 := ⟨m - 1, by omega⟩
   rw [iterF_succ] at h ⊢
   split at h
   ·cases h
   ·rename_i h1; exact ih k _ (by omega) h
   ·rename_i h1; exact h
 exact mono n _ s hn h

theorem iter_inv {S O : Type} {f : S → Option (S ⊕ O)} (P : Nat → S → Prop) (Q : O → Prop) : ∀ (n i : Nat), n < i + 18446744073709551616 → (∀ i s, i < n → P i s → (∃ s', f s = some (.inl s') ∧ P (i + 1) s') ∨ ∃ o, f s = some (.inr o) ∧ Q o) → (∀ s, P n s → ∃ o, f s = some (.inr o) ∧ Q o) → i ≤ n →
  ∀ s, P i s → ∃ o, iter f s = some o ∧ Q o := by
 have key : ∀ (n : Nat), (∀ i s, i < n → P i s → (∃ s', f s = some (.inl s') ∧ P (i + 1) s') ∨ ∃ o, f s = some (.inr o) ∧ Q o) → (∀ s, P n s → ∃ o, f s = some (.inr o) ∧ Q o) → ∀ (j i : Nat), i + j = n → ∀ s, P i s → ∃ o, iterF f (j + 1) s = some o ∧ Q o := by
  intro n step fin j
  induction j with
  | zero =>
   intro i hi s h
   obtain rfl : i = n := by omega
   obtain ⟨o, h1, h2⟩ := fin s h
   exact ⟨o, by rw [iterF_succ, h1], h2⟩
  | succ j ih =>
   intro i hi s h
   rcases step i s (by omega) h with ⟨s', h1, h2⟩ | ⟨o, h1, h2⟩
   ·obtain ⟨o, h3, h4⟩ := ih (i + 1) (by omega) s' h2
    exact ⟨o, by rw [iterF_succ, h1]; exact h3, h4⟩
   ·exact ⟨o, by rw [iterF_succ, h1], h2⟩
 intro n i hn step fin hi s h
 obtain ⟨o, h1, h2⟩ := key n step fin (n - i) i (by omega) s h
 exact ⟨o, iter_of (by omega) h1, h2⟩
theorem nxt {i : Nat} (h : i < 4611686018427387904) : W ((i : Int) + 1) = ((i + 1 : Nat) : Int) := by rw [show (i : Int) + 1 = ((i + 1 : Nat) : Int) by omega, W_nat (by omega)]
theorem ct_lt {i n : Nat} (h : i < n) : decide ((i : Int) < (n : Int)) = true := by simp; omega
theorem ct_ge {n : Nat} : ¬ decide ((n : Int) < (n : Int)) = true := by simp
def negL (p : List Int) (k : Nat) : List Int := ((List.range k).filter fun i => decide (p.getD i 0 < 0)).map fun (i : Nat) => (i : Int)
theorem negL_succ (p : List Int) (k : Nat) : negL p (k + 1) = if p.getD k 0 < 0 then negL p k ++ [(k : Int)] else negL p k := by
 unfold negL
 rw [List.range_succ, List.filter_append, List.map_append]
 by_cases h : p.getD k 0 < 0
 ·rw [if_pos h, List.filter_cons_of_pos (by simpa using h)]; rfl
 ·rw [if_neg h, List.filter_cons_of_neg (by simpa using h)]; simp
theorem negL_len (p : List Int) (k : Nat) : (negL p k).length ≤ k := by
 unfold negL
 rw [List.length_map]
 exact Nat.le_trans (List.length_filter_le _ _) (by simp)
theorem blocked_eq {p : List Int} (hl : p.length ≤ 1000000) : m_blocking_blocked p = some (negL p p.length) := by
 have h := iter_inv (f := m_blocking_blocked_l1 p) (fun i s => i ≤ p.length ∧ s = ((i : Int), negL p i)) (fun o => o = negL p p.length) p.length 0 (by omega) ?_ ?_ (Nat.zero_le _) (0, []) ⟨Nat.zero_le _, rfl⟩
 ·obtain ⟨o, h1, rfl⟩ := h
  simp [m_blocking_blocked, h1]
 ·rintro i s hi ⟨_, rfl⟩
  refine .inl ⟨_, ?_, by omega, rfl⟩
  have hn := negL_len p i
  rw [m_blocking_blocked_l1]
  simp only [if_pos (show decide ((i : Int) < (p.length : Int)) = true by simp; omega), idx_at hi, Option.bind_some]
  have hg : p.getD i 0 = p[i] := by rw [List.getD_eq_getElem?_getD, List.getElem?_eq_getElem hi]; rfl
  rw [negL_succ, hg]
  by_cases hx : p[i] < 0
  ·rw [if_pos (by simpa using hx), if_pos hx, app_eq (by simp; omega), Option.bind_some, m_blocking_blocked_j1, nxt (by omega)]
  ·rw [if_neg (by simpa using hx), if_neg hx, m_blocking_blocked_j1, nxt (by omega)]
 ·rintro s ⟨_, rfl⟩
  refine ⟨_, ?_, rfl⟩
  rw [m_blocking_blocked_l1]
  simp only [ct_ge, if_false]
  simp
def allL (n : Nat) : List Int := (List.range n).map fun (i : Nat) => (i : Int)
theorem allL_succ (n : Nat) : allL (n + 1) = allL n ++ [(n : Int)] := by simp [allL, List.range_succ]
theorem allL_len (n : Nat) : (allL n).length = n := by simp [allL]
def choL (p : List Int) (a b : Int) (k : Nat) : List Int := ((List.range k).filter fun i => decide (a ≤ p.getD i 0 ∧ p.getD i 0 ≤ b)).map fun (i : Nat) => (i : Int)
theorem choL_succ (p : List Int) (a b : Int) (k : Nat) : choL p a b (k + 1) = if a ≤ p.getD k 0 ∧ p.getD k 0 ≤ b then choL p a b k ++ [(k : Int)] else choL p a b k := by
 unfold choL
 rw [List.range_succ, List.filter_append, List.map_append]
 by_cases h : a ≤ p.getD k 0 ∧ p.getD k 0 ≤ b
 ·rw [if_pos h, List.filter_cons_of_pos (by simpa using h)]; rfl
 ·rw [if_neg h, List.filter_cons_of_neg (by simpa using h)]; simp
theorem choL_len (p : List Int) (a b : Int) (k : Nat) : (choL p a b k).length ≤ k := by
 unfold choL
 rw [List.length_map]
 exact Nat.le_trans (List.length_filter_le _ _) (by simp)
theorem upd_at {α : Type} {xs : List α} {i : Nat} {y : α} (h : i < xs.length) : upd xs (i : Int) y = some (xs.set i y) := by
 unfold upd
 rw [if_pos ⟨by omega, by omega⟩, Int.toNat_natCast]
theorem ball_eq {a : List Int} {n : Nat} {m : List Int} {es : List (Int × Int × Int)} (hn : n ≤ 1000000) : m_blocking_all (a, (n : Int), m, es) = some (allL n) := by
 have hm : mkL (n : Int) (0 : Int) = some (List.replicate n 0) := by unfold mkL; rw [if_pos ⟨by omega, by omega⟩, Int.toNat_natCast]
 have h := iter_inv (f := m_blocking_all_l1 (List.replicate n 0)) (fun i s => i ≤ n ∧ s = ((i : Int), allL i ++ List.replicate (n - i) 0)) (fun o => o = allL n) n 0 (by omega) ?_ ?_ (Nat.zero_le _) (0, List.replicate n 0) ⟨Nat.zero_le _, by simp [allL]⟩
 ·obtain ⟨o, h1, rfl⟩ := h
  simp only [m_blocking_all, hm, Option.bind_some, h1]
 ·rintro i s hi ⟨_, rfl⟩
  refine .inl ⟨_, ?_, by omega, rfl⟩
  have hlen : (allL i ++ List.replicate (n - i) (0 : Int)).length = n := by rw [List.length_append, allL_len, List.length_replicate]; omega
  have hset : (allL i ++ List.replicate (n - i) (0 : Int)).set i (i : Int) = allL (i + 1) ++ List.replicate (n - (i + 1)) 0 := by
   rw [allL_succ, List.set_append_right _ _ (by rw [allL_len]; exact Nat.le_refl _), allL_len, Nat.sub_self, show n - i = (n - (i + 1)) + 1 by omega, List.replicate_succ, List.set_cons_zero]
   simp
  rw [m_blocking_all_l1]
  simp only [List.length_replicate, ct_lt hi, if_true]
  rw [idx_at (by rw [hlen]; exact hi), Option.bind_some, upd_at (by rw [hlen]; exact hi), Option.bind_some, hset, nxt (by omega)]
 ·rintro s ⟨_, rfl⟩
  refine ⟨_, ?_, rfl⟩
  rw [m_blocking_all_l1]
  simp
theorem spread_fill {n : Nat} (hn : n ≤ 1000000) : iter (m_blocking_spread_l1 (List.replicate n 0)) (0, List.replicate n 0) = some (List.replicate n (-1)) := by
 have h := iter_inv (f := m_blocking_spread_l1 (List.replicate n 0)) (fun i s => i ≤ n ∧ s = ((i : Int), List.replicate i (-1) ++ List.replicate (n - i) 0)) (fun o => o = List.replicate n (-1)) n 0 (by omega) ?_ ?_ (Nat.zero_le _) (0, List.replicate n 0) ⟨Nat.zero_le _, by simp⟩
 ·obtain ⟨o, h1, rfl⟩ := h
  exact h1
 ·rintro i s hi ⟨_, rfl⟩
  refine .inl ⟨_, ?_, by omega, rfl⟩
  have hlen : (List.replicate i (-1) ++ List.replicate (n - i) (0 : Int)).length = n := by simp; omega
  have hset : (List.replicate i (-1) ++ List.replicate (n - i) (0 : Int)).set i (-1) = List.replicate (i + 1) (-1) ++ List.replicate (n - (i + 1)) 0 := by
   rw [List.set_append_right _ _ (by simp), List.length_replicate, Nat.sub_self, show n - i = (n - (i + 1)) + 1 by omega, List.replicate_succ, List.set_cons_zero, List.replicate_succ']
   simp
  rw [m_blocking_spread_l1]
  simp only [List.length_replicate, ct_lt hi, if_true]
  rw [idx_at (by rw [hlen]; exact hi), Option.bind_some, upd_at (by rw [hlen]; exact hi), Option.bind_some, hset, nxt (by omega)]
 ·rintro s ⟨_, rfl⟩
  refine ⟨_, ?_, rfl⟩
  rw [m_blocking_spread_l1]
  simp
theorem bStart_len (n : Nat) (tg : List Int) : (bStart n tg).length = n := by
 unfold bStart
 have : ∀ (l : List Int) (ds : List Int), (l.foldl (fun ds (s : Int) => ds.set s.toNat 0) ds).length = ds.length := by
  intro l
  induction l with
  | nil => intro ds; rfl
  | cons s l ih => intro ds; rw [List.foldl_cons, ih, List.length_set]
 rw [this, List.length_replicate]
theorem spread_starts {n : Nat} {tg : List Int} (ht : tg.length ≤ 1000000) (hr : ∀ s ∈ tg, 0 ≤ s ∧ s < (n : Int)) : iter (m_blocking_spread_l2 tg) (0, List.replicate n (-1)) = some (bStart n tg) := by
 have h := iter_inv (f := m_blocking_spread_l2 tg) (fun i s => i ≤ tg.length ∧ s = ((i : Int), bStart n (tg.take i))) (fun o => o = bStart n tg) tg.length 0 (by omega) ?_ ?_ (Nat.zero_le _) (0, List.replicate n (-1)) ⟨Nat.zero_le _, by simp [bStart]⟩
 ·obtain ⟨o, h1, rfl⟩ := h
  exact h1
 ·rintro i s hi ⟨_, rfl⟩
  refine .inl ⟨_, ?_, by omega, rfl⟩
  obtain ⟨h0, h1⟩ := hr _ (List.getElem_mem hi)
  obtain ⟨k, hk⟩ := Int.eq_ofNat_of_zero_le h0
  have hkn : k < (bStart n (tg.take i)).length := by rw [bStart_len]; omega
  have hset : bStart n (tg.take (i + 1)) = (bStart n (tg.take i)).set k 0 := by
   rw [take_snoc tg i hi, hk]
   simp [bStart, List.foldl_append]
  rw [m_blocking_spread_l2]
  simp only [ct_lt hi, if_true, idx_at hi, Option.bind_some, hk]
  rw [idx_at hkn, Option.bind_some, upd_at hkn, Option.bind_some, hset, nxt (by omega)]
 ·rintro s ⟨_, rfl⟩
  refine ⟨_, ?_, rfl⟩
  rw [m_blocking_spread_l2]
  simp
theorem spread_inner {n s i : Nat} {q0 ds0 ps : List Int} (z : List Int × List Int) (hps : ∀ p ∈ ps, 0 ≤ p ∧ p < (n : Int)) (hpl : ps.length ≤ 1000000) (hq : q0[i]? = some (s : Int)) (hs : s < n) (hB : BOk n ds0 q0) (hnn : 0 ≤ ds0.getD s 0) (hsz : 2 * negs ds0 + q0.length ≤ 4000000) :
  ∃ o, iter (m_blocking_spread_l4 ((i : Int), z) ps) (0, q0, ds0) = some o ∧ (o.2, o.1) = ps.foldl (bStep s) (ds0, q0) := by
 refine iter_inv (f := m_blocking_spread_l4 ((i : Int), z) ps) (fun k st => k ≤ ps.length ∧ ∃ ds q, st = ((k : Int), q, ds) ∧ (ds, q) = (ps.take k).foldl (bStep s) (ds0, q0) ∧ BOk n ds q ∧ 0 ≤ ds.getD s 0 ∧ q[i]? = some (s : Int) ∧ 2 * negs ds + q.length ≤ 4000000) (fun o => (o.2, o.1) = ps.foldl (bStep s) (ds0, q0)) ps.length 0 (by omega) ?_ ?_ (Nat.zero_le _) (0, q0, ds0) ⟨Nat.zero_le _, ds0, q0, rfl, by simp, hB, hnn, hq, hsz⟩
 ·rintro k st hk ⟨_, ds, q, rfl, hf, hB, hnn, hq, hsz⟩
  obtain ⟨h0, h1⟩ := hps _ (List.getElem_mem hk)
  have hstep := hB.step hs hnn ps[k] h0 h1
  have hfs : (ps.take (k + 1)).foldl (bStep s) (ds0, q0) = bStep s (ds, q) ps[k] := by rw [take_snoc ps k hk, List.foldl_append, ← hf]; rfl
  obtain ⟨p, hp⟩ := Int.eq_ofNat_of_zero_le h0
  have hpn : p < ds.length := by rw [hB.len]; omega
  have hsn : s < ds.length := by rw [hB.len]; omega
  obtain ⟨hil, hie⟩ := List.getElem?_eq_some_iff.1 hq
  have hgp : ds.getD p 0 = ds[p] := by rw [List.getD_eq_getElem?_getD, List.getElem?_eq_getElem hpn]; rfl
  have hgs : ds.getD s 0 = ds[s] := by rw [List.getD_eq_getElem?_getD, List.getElem?_eq_getElem hsn]; rfl
  have hlo := hB.lo _ (List.getElem_mem hsn)
  refine .inl ⟨((k + 1 : Nat), (bStep s (ds, q) ps[k]).2, (bStep s (ds, q) ps[k]).1), ?_, by omega, _, _, rfl, hfs.symm, hstep.1, hstep.2.1, ?_, by have := hstep.2.2; omega⟩
  ·rw [m_blocking_spread_l4]
   simp only [ct_lt hk, if_true, idx_at hk, Option.bind_some, hp, idx_at hpn, bStep, Int.toNat_natCast, hgp]
   by_cases hx : ds[p] < 0
   ·have happ := app_eq (xs := q) (ys := [(p : Int)]) (by simp; omega)
    simp only [hx, decide_true, if_true, idx_at hil, hie, Option.bind_some, idx_at hsn, upd_at hpn, happ, m_blocking_spread_j1, hgs, W_of (show -9223372036854775808 ≤ ds[s] + 1 by omega) (show ds[s] + 1 < 9223372036854775808 by omega), nxt (show k < 4611686018427387904 by omega)]
   ·simp only [hx, decide_false, if_false, m_blocking_spread_j1, nxt (show k < 4611686018427387904 by omega)]
    simp
  ·unfold bStep
   split
   ·dsimp only; rw [List.getElem?_append_left hil]; exact hq
   ·exact hq
 ·rintro st ⟨_, ds, q, rfl, hf, _⟩
  refine ⟨(q, ds), ?_, by rw [List.take_length] at hf; exact hf⟩
  rw [m_blocking_spread_l4]
  simp
theorem bStep_pre (s : Nat) : ∀ (l : List Int) (ds q1 q2 : List Int), l.foldl (bStep s) (ds, q1 ++ q2) = ((l.foldl (bStep s) (ds, q2)).1, q1 ++ (l.foldl (bStep s) (ds, q2)).2)
 | [], _, _, _ => rfl
 | p :: l, ds, q1, q2 => by
  have h : bStep s (ds, q1 ++ q2) p = ((bStep s (ds, q2) p).1, q1 ++ (bStep s (ds, q2) p).2) := by
   unfold bStep
   dsimp only
   split <;> simp
  rw [List.foldl_cons, h, bStep_pre s l, List.foldl_cons]
theorem spread_queue {n : Nat} {es : List Ed} {ds0 q0 : List Int} (hin : ∀ x ∈ es, 0 ≤ x.f ∧ x.f < n ∧ 0 ≤ x.t ∧ x.t < (n : Int)) (hl : es.length ≤ 1000000) (hB : BOk n ds0 q0) (hsz : 2 * negs ds0 + q0.length ≤ 4000000) :
  iter (m_blocking_spread_l3 ((List.range n).map (inL es))) (0, q0, ds0) = some (bwd (inL es) (2 * negs ds0 + q0.length + 1) ds0 q0) := by
 have h := iter_inv (f := m_blocking_spread_l3 ((List.range n).map (inL es))) (fun i st => ∃ ds q f, st = ((i : Int), q, ds) ∧ i ≤ q.length ∧ BOk n ds q ∧ 2 * negs ds + q.length ≤ 2 * negs ds0 + q0.length ∧ bwd (inL es) f ds (q.drop i) = bwd (inL es) (2 * negs ds0 + q0.length + 1) ds0 q0 ∧ 2 * negs ds + (q.length - i) + 1 ≤ f)
  (fun o => o = bwd (inL es) (2 * negs ds0 + q0.length + 1) ds0 q0) (2 * negs ds0 + q0.length) 0 (by omega) ?_ ?_ (Nat.zero_le _) (0, q0, ds0) ⟨ds0, q0, _, rfl, Nat.zero_le _, hB, Nat.le_refl _, rfl, by omega⟩
 ·obtain ⟨o, h1, rfl⟩ := h
  exact h1
 ·rintro i st _ ⟨ds, q, f, rfl, hi, hB, hm, hR, hf⟩
  by_cases hlt : i < q.length
  ·obtain ⟨g0, g1⟩ := hB.qr _ (List.getElem_mem hlt)
   have hnn := hB.nn _ (List.getElem_mem hlt)
   obtain ⟨s, hs⟩ := Int.eq_ofNat_of_zero_le g0
   have hsn : s < n := by omega
   rw [hs, Int.toNat_natCast] at hnn
   have hps := inL_range (s := s) hin
   have hil := inL_le es s
   obtain ⟨o, h1, h2⟩ := spread_inner (n := n) (s := s) (i := i) (q0 := q) (ds0 := ds) (ps := inL es s) (q, ds) hps (by omega) (by rw [List.getElem?_eq_getElem hlt, hs]) hsn hB hnn (by omega)
   have hfold := BOk.fold hsn (inL es s) hB hnn hps
   rw [← h2] at hfold
   obtain ⟨f, rfl⟩ : ∃ f', f = f' + 1 := ⟨f - 1, by omega⟩
   have hpre := bStep_pre s (inL es s) ds (q.take (i + 1)) (q.drop (i + 1))
   rw [List.take_append_drop, ← h2] at hpre
   have ho1 : o.1 = q.take (i + 1) ++ ((inL es s).foldl (bStep s) (ds, q.drop (i + 1))).2 := congrArg Prod.snd hpre
   have ho2 : o.2 = ((inL es s).foldl (bStep s) (ds, q.drop (i + 1))).1 := congrArg Prod.fst hpre
   have hol : i + 1 ≤ o.1.length := by rw [ho1, List.length_append, List.length_take]; omega
   have hdr : o.1.drop (i + 1) = ((inL es s).foldl (bStep s) (ds, q.drop (i + 1))).2 := by
    rw [ho1, List.drop_append_of_le_length (by rw [List.length_take]; omega), List.drop_eq_nil_of_le (by rw [List.length_take]; omega), List.nil_append]
   refine .inl ⟨((i + 1 : Nat), o.1, o.2), ?_, o.2, o.1, f, rfl, hol, hfold.1, by have := hfold.2.2; dsimp only at this; omega, ?_, by have := hfold.2.2; dsimp only at this; omega⟩
   ·rw [m_blocking_spread_l3]
    simp only [ct_lt hlt, if_true, idx_at hlt, Option.bind_some, hs]
    rw [idx_at (by simpa using hsn), Option.bind_some, List.getElem_map, List.getElem_range, h1, Option.bind_some, nxt (by omega)]
   ·rw [hdr, ho2, ← hR, List.drop_eq_getElem_cons hlt, bwd, hs, Int.toNat_natCast]
  ·have hi' : i = q.length := by omega
   refine .inr ⟨ds, ?_, ?_⟩
   ·subst hi'
    rw [m_blocking_spread_l3]
    simp
   ·obtain ⟨f, rfl⟩ : ∃ f', f = f' + 1 := ⟨f - 1, by omega⟩
    rw [← hR, hi', List.drop_length, bwd]
 ·rintro st ⟨ds, q, f, rfl, hi, hB, hm, hR, hf⟩
  have hi' : 2 * negs ds0 + q0.length = q.length := by omega
  refine ⟨ds, ?_, ?_⟩
  ·rw [m_blocking_spread_l3, hi']
   simp
  ·obtain ⟨f, rfl⟩ : ∃ f', f = f' + 1 := ⟨f - 1, by omega⟩
   rw [← hR, hi', List.drop_length, bwd]
theorem clone_eq {xs : List Int} (h : xs.length ≤ 4294967296) : m_slices_Clone_int xs = some xs := by
 rw [m_slices_Clone_int, app_eq (by simpa using h)]; rfl
theorem spread_eq {a : List Int} {n : Nat} {m : List Int} {es : List (Int × Int × Int)} {tg : List Int} (hn : n ≤ 1000000) (hl : es.length ≤ 1000000) (ht : tg.length ≤ 1000000) (hin : ∀ x ∈ es, 0 ≤ x.1 ∧ x.1 < (n : Int) ∧ 0 ≤ x.2.2 ∧ x.2.2 < (n : Int)) (hr : ∀ s ∈ tg, 0 ≤ s ∧ s < (n : Int)) :
  m_blocking_spread (a, (n : Int), m, es) tg = some (backward n (es.map toEd) tg) := by
 have hm : mkL (n : Int) (0 : Int) = some (List.replicate n 0) := by unfold mkL; rw [if_pos ⟨by omega, by omega⟩, Int.toNat_natCast]
 have hi : m_blocking_into (a, (n : Int), m, es) = some ((List.range n).map (inL (es.map toEd))) := by
  unfold m_blocking_into
  rw [if_pos ⟨hl, by dsimp only; omega, by dsimp only; omega, List.all_eq_true.2 fun x hx => by have := hin x hx; simp; omega⟩]
  simp
 have hB := BOk.start n tg hn hr
 have hq := spread_queue (n := n) (es := es.map toEd) (ds0 := bStart n tg) (q0 := tg) (fun x hx => by
  obtain ⟨y, hy, rfl⟩ := List.mem_map.1 hx
  exact hin y hy) (by simpa using hl) hB (by have := negs_le (bStart n tg); rw [bStart_length] at this; omega)
 simp only [m_blocking_spread, hi, Option.bind_some, hm, spread_fill hn, clone_eq (show tg.length ≤ 4294967296 by omega), spread_starts ht hr, hq, backward]
def errO (e : Int) : Unit ⊕ Int := if e = 0 then .inl () else .inr e
theorem checkSet_go {xs : List Int} {n : Int} (hl : xs.length < 4611686018427387904) : ∀ (j i : Nat), i + j = xs.length →
  iterF (m_automaton_checkSet_l1 xs n) (j + 1) (i : Int) = some (errO (setErr n (prevAt xs i) (xs.drop i))) := by
 intro j
 induction j with
 | zero =>
  intro i hi
  have e : xs.drop i = [] := List.drop_of_length_le (by omega)
  rw [iterF_succ, m_automaton_checkSet_l1, if_neg (by simp; omega), e]
  rfl
 | succ j ih =>
  intro i hi
  have hlt : i < xs.length := by omega
  rw [iterF_succ, m_automaton_checkSet_l1, if_pos (by simp; omega), idx_at hlt, Option.bind_some]
  by_cases h1 : xs[i] < 0 ∨ n ≤ xs[i]
  ·rw [if_pos (by simpa using h1), setErr_2 hlt h1]
   rfl
  ·rw [if_neg (by simpa using h1)]
   by_cases h0 : 0 < i
   ·rw [if_pos (by simp; omega), show (i : Int) - 1 = ((i - 1 : Nat) : Int) by omega, W_nat (by omega), idx_at (show i - 1 < xs.length by omega), Option.bind_some, Option.bind_some]
    by_cases h2 : xs[i] ≤ xs[i - 1]
    ·rw [if_pos (by simpa using h2), setErr_5 hlt h1 h0 h2]
     rfl
    ·rw [if_neg (by simpa using h2), show (i : Int) + 1 = ((i + 1 : Nat) : Int) by omega, W_nat (by omega), setErr_next hlt h1 (fun _ => by omega)]
     exact ih (i + 1) (by omega)
   ·rw [if_neg (by simp; omega), Option.bind_some, if_neg (by simp), show (i : Int) + 1 = ((i + 1 : Nat) : Int) by omega, W_nat (by omega), setErr_next hlt h1 (fun h => absurd h h0)]
    exact ih (i + 1) (by omega)
theorem checkSet_eq {xs : List Int} {n : Int} (hl : xs.length < 4611686018427387904) : m_automaton_checkSet xs n = some (setErr n none xs) := by
 have h : iter (m_automaton_checkSet_l1 xs n) 0 = some (errO (setErr n none xs)) := iter_of (by omega) (checkSet_go (n := n) hl xs.length 0 (by omega))
 rw [m_automaton_checkSet, h, Option.bind_some]
 by_cases h0 : setErr n none xs = 0
 ·rw [h0]; rfl
 ·rw [errO, if_neg h0]
theorem index_go {xs : List Int} {x : Int} (hl : xs.length < 4611686018427387904) : ∀ (j i : Nat), i + j = xs.length →
  ∃ o, iterF (m_slices_Index_int_l1 xs x) (j + 1) (i : Int) = some o ∧ ((o = .inl () ∧ x ∉ xs.drop i) ∨ ∃ k : Nat, i ≤ k ∧ o = .inr (k : Int) ∧ x ∈ xs.drop i) := by
 intro j
 induction j with
 | zero =>
  intro i hi
  have e : xs.drop i = [] := List.drop_of_length_le (by omega)
  refine ⟨.inl (), ?_, .inl ⟨rfl, by rw [e]; simp⟩⟩
  rw [iterF_succ, m_slices_Index_int_l1, if_neg (by simp; omega)]
 | succ j ih =>
  intro i hi
  have hlt : i < xs.length := by omega
  rw [iterF_succ, m_slices_Index_int_l1, if_pos (by simp; omega), idx_at hlt, Option.bind_some]
  by_cases h1 : x = xs[i]
  ·rw [if_pos (by simpa using h1)]
   exact ⟨_, rfl, .inr ⟨i, Nat.le_refl _, rfl, by rw [List.drop_eq_getElem_cons hlt, h1]; exact List.mem_cons_self⟩⟩
  ·rw [if_neg (by simpa using h1), show (i : Int) + 1 = ((i + 1 : Nat) : Int) by omega, W_nat (by omega)]
   obtain ⟨o, h2, h3⟩ := ih (i + 1) (by omega)
   refine ⟨o, h2, ?_⟩
   rw [List.drop_eq_getElem_cons hlt]
   rcases h3 with ⟨h4, h5⟩ | ⟨k, h4, h5, h6⟩
   ·exact .inl ⟨h4, fun hc => (List.mem_cons.1 hc).elim h1 h5⟩
   ·exact .inr ⟨k, by omega, h5, List.mem_cons_of_mem _ h6⟩
theorem contains_eq {xs : List Int} {x : Int} (hl : xs.length < 4611686018427387904) : m_slices_Contains_int xs x = some (hasB xs x) := by
 obtain ⟨o, h1, h2⟩ := index_go (x := x) hl xs.length 0 (by omega)
 have h : iter (m_slices_Index_int_l1 xs x) 0 = some o := iter_of (by omega) h1
 rw [m_slices_Contains_int, m_slices_Index_int, h, Option.bind_some]
 rcases h2 with ⟨rfl, h4⟩ | ⟨k, _, rfl, h4⟩
 ·rw [hasB_false.2 (by simpa using h4)]; rfl
 ·rw [hasB_true.2 (by simpa using h4)]
  show some (decide ((k : Int) ≥ 0)) = some true
  simp
def edP (x : Ed) : Int × Int × Int := (x.f, x.e, x.t)
def autP (a : Aut) : List Int × Int × List Int × List (Int × Int × Int) := (a.al, a.n, a.ms, a.es.map edP)
def prevE (es : List Ed) (k : Nat) : Option Ed := if k = 0 then none else es[k - 1]?
theorem edErr_dropP {al : List Int} {n : Int} {es : List Ed} {k : Nat} (hk : k < es.length) : edErr al n (prevE es k) (es.drop k) =
  if (es[k].f < 0 ∨ n ≤ es[k].f ∨ es[k].t < 0 ∨ n ≤ es[k].t) then 2 else if hasB al es[k].e = false then 9 else if (∃ q, prevE es k = some q ∧ (es[k].f < q.f ∨ (es[k].f = q.f ∧ es[k].e ≤ q.e))) then 5 else edErr al n (prevE es (k + 1)) (es.drop (k + 1)) := by
 rw [List.drop_eq_getElem_cons hk, edErr]
 congr 3
 simp [prevE, List.getElem?_eq_getElem hk]
theorem edges_go {a : Aut} (hl : a.es.length < 4611686018427387904) (hal : a.al.length < 4611686018427387904) : ∀ (j i : Nat), i + j = a.es.length →
  iterF (m_automaton_checkEdges_l1 (autP a)) (j + 1) (i : Int) = some (errO (edErr a.al a.n (prevE a.es i) (a.es.drop i))) := by
 have hlen : (autP a).2.2.2.length = a.es.length := by simp [autP]
 have hat : ∀ (i : Nat) (h : i < a.es.length), idx (autP a).2.2.2 (i : Int) = some (edP a.es[i]) := fun i h => by
  rw [idx_at (by rw [hlen]; exact h)]; simp [autP]
 intro j
 induction j with
 | zero =>
  intro i hi
  have e : a.es.drop i = [] := List.drop_of_length_le (by omega)
  rw [iterF_succ, m_automaton_checkEdges_l1, if_neg (by rw [hlen]; simp; omega), e]
  rfl
 | succ j ih =>
  intro i hi
  have hlt : i < a.es.length := by omega
  have hnext : m_automaton_checkEdges_j1 (i : Int) = some (.inl ((i + 1 : Nat) : Int)) := by
   rw [m_automaton_checkEdges_j1, show (i : Int) + 1 = ((i + 1 : Nat) : Int) by omega, W_nat (by omega)]
  rw [iterF_succ, m_automaton_checkEdges_l1, if_pos (by rw [hlen]; simp; omega), hat i hlt, Option.bind_some, edErr_dropP hlt]
  by_cases h1 : a.es[i].f < 0 ∨ a.n ≤ a.es[i].f ∨ a.es[i].t < 0 ∨ a.n ≤ a.es[i].t
  ·rw [if_pos (by simp only [Bool.or_eq_true, decide_eq_true_eq]; show ((a.es[i].f < 0 ∨ a.es[i].f ≥ a.n) ∨ a.es[i].t < 0) ∨ a.es[i].t ≥ a.n; omega), if_pos h1]
   rfl
  ·rw [if_neg (by simp only [Bool.or_eq_true, decide_eq_true_eq]; show ¬ (((a.es[i].f < 0 ∨ a.es[i].f ≥ a.n) ∨ a.es[i].t < 0) ∨ a.es[i].t ≥ a.n); omega), if_neg h1]
   rw [show m_slices_Contains_int (autP a).1 (edP a.es[i]).2.1 = some (hasB a.al a.es[i].e) from contains_eq hal, Option.bind_some]
   cases h2 : hasB a.al a.es[i].e with
   | false => rfl
   | true =>
    rw [if_neg (show ¬ (!true) = true by simp), if_neg (show ¬ (true = false) by simp)]
    by_cases h0 : i = 0
    ·subst h0
     rw [if_pos (by simp), hnext, if_neg (by rintro ⟨q, hq, _⟩; simp [prevE] at hq)]
     exact ih 1 (by omega)
    ·have hp : prevE a.es i = some a.es[i - 1] := by rw [prevE, if_neg h0, List.getElem?_eq_getElem (by omega)]
     rw [if_neg (by simp; omega), show (i : Int) - 1 = ((i - 1 : Nat) : Int) by omega, W_nat (by omega), hat (i - 1) (by omega), Option.bind_some]
     by_cases h3 : a.es[i].f < a.es[i - 1].f ∨ (a.es[i].f = a.es[i - 1].f ∧ a.es[i].e ≤ a.es[i - 1].e)
     ·rw [if_pos (by simp only [Bool.or_eq_true, Bool.and_eq_true, decide_eq_true_eq, beq_iff_eq]; exact h3), if_pos ⟨_, hp, h3⟩]
      rfl
     ·rw [if_neg (by simp only [Bool.or_eq_true, Bool.and_eq_true, decide_eq_true_eq, beq_iff_eq]; exact h3), hnext, if_neg (by rintro ⟨q, hq, h4⟩; rw [hp] at hq; cases hq; exact h3 h4)]
      exact ih (i + 1) (by omega)
theorem check_eq {a : Aut} (hl : a.es.length < 4611686018427387904) (hal : a.al.length < 4611686018427387904) (hms : a.ms.length < 4611686018427387904) : m_automaton_Check (autP a) = some a.err := by
 have h : iter (m_automaton_checkEdges_l1 (autP a)) 0 = some (errO (edErr a.al a.n none a.es)) := iter_of (by omega) (edges_go hl hal a.es.length 0 (by omega))
 have he : m_automaton_checkEdges (autP a) = some (edErr a.al a.n none a.es) := by
  rw [m_automaton_checkEdges, h, Option.bind_some]
  by_cases h0 : edErr a.al a.n none a.es = 0
  ·rw [h0]; rfl
  ·rw [errO, if_neg h0]
 rw [m_automaton_Check, show m_automaton_checkSet (autP a).1 32 = some (setErr 32 none a.al) from checkSet_eq hal, Option.bind_some, Aut.err]
 by_cases h1 : (setErr 32 none a.al != 0) = true
 ·rw [if_pos h1, if_pos h1]
 ·rw [if_neg h1, if_neg h1]
  by_cases h2 : a.n < 0
  ·rw [if_pos (show decide ((autP a).2.1 < 0) = true from decide_eq_true h2), if_pos h2]
  ·rw [if_neg (show ¬ decide ((autP a).2.1 < 0) = true from fun e => h2 (of_decide_eq_true e)), if_neg h2]
   by_cases h3 : 4096 < a.n
   ·rw [if_pos (show decide ((autP a).2.1 > 4096) = true from decide_eq_true h3), if_pos h3]
   ·rw [if_neg (show ¬ decide ((autP a).2.1 > 4096) = true from fun e => h3 (of_decide_eq_true e)), if_neg h3, show m_automaton_checkSet (autP a).2.2.1 (autP a).2.1 = some (setErr a.n none a.ms) from checkSet_eq hms, Option.bind_some]
    by_cases h4 : (setErr a.n none a.ms != 0) = true
    ·rw [if_pos h4, if_pos h4]
    ·rw [if_neg h4, if_neg h4, he]
     rfl
abbrev Inc (xs : List Int) : Prop := xs.Pairwise (· < ·)
theorem half_eq {i j : Nat} (h : i + j < 9223372036854775808) : W ((IntKind.u64.wrap (W ((i : Int) + (j : Int)))).fdiv (2 ^ (min (1 : Int).toNat 64))) = (((i + j) / 2 : Nat) : Int) := by
 rw [W_of (x := (i : Int) + j) (by omega) (by omega), IntWalk.u64_in _ (by omega), show (2 : Int) ^ (min (1 : Int).toNat 64) = 2 from rfl, Int.fdiv_eq_ediv_of_nonneg _ (by omega), W_of (by omega) (by omega)]
 omega
theorem less_eq (x y : Int) : m_cmp_Less_int x y = some (decide (x < y)) := by
 rw [m_cmp_Less_int, show m_cmp_isNaN_int x = some false by rw [m_cmp_isNaN_int]; simp, Option.bind_some, if_neg (by simp), Option.bind_some, Bool.false_or]
theorem bin_go {xs : List Int} {t : Int} (hl : xs.length < 4294967296) (hs : Inc xs) : ∀ (f i j : Nat), j ≤ i + f → i ≤ j → j ≤ xs.length → (∀ k (h : k < xs.length), k < i → xs[k] < t) → (∀ k (h : k < xs.length), j ≤ k → t ≤ xs[k]) →
  ∃ p : Nat, iterF (m_slices_BinarySearch_int_l1 xs t) (f + 1) ((j : Int), (i : Int)) = some (p : Int) ∧ p ≤ xs.length ∧ (∀ k (h : k < xs.length), k < p → xs[k] < t) ∧ (∀ k (h : k < xs.length), p ≤ k → t ≤ xs[k]) := by
 intro f
 induction f with
 | zero =>
  intro i j h1 h2 h3 h4 h5
  refine ⟨i, ?_, by omega, h4, fun k h hk => h5 k h (by omega)⟩
  rw [iterF_succ, m_slices_BinarySearch_int_l1, if_neg (by simp; omega)]
 | succ f ih =>
  intro i j h1 h2 h3 h4 h5
  rw [iterF_succ, m_slices_BinarySearch_int_l1]
  dsimp only
  by_cases hij : i < j
  ·have hm : (i + j) / 2 < xs.length := by omega
   rw [if_pos (by simp; omega), half_eq (by omega), idx_at hm, Option.bind_some, less_eq, Option.bind_some]
   have mono : ∀ (a b : Nat) (ha : a < xs.length) (hb : b < xs.length), a ≤ b → xs[a] ≤ xs[b] := fun a b ha hb hab => by
    rcases Nat.lt_or_ge a b with h | h
    ·exact Int.le_of_lt (List.pairwise_iff_getElem.1 hs a b ha hb h)
    ·have : a = b := by omega
     subst this
     exact Int.le_refl _
   by_cases hc : xs[(i + j) / 2] < t
   ·rw [if_pos (decide_eq_true hc), show (((i + j) / 2 : Nat) : Int) + 1 = (((i + j) / 2 + 1 : Nat) : Int) by omega, W_nat (by omega)]
    exact ih _ j (by omega) (by omega) h3 (fun k h hk => by have := mono k _ h hm (by omega); omega) h5
   ·rw [if_neg (by simpa using hc)]
    exact ih i _ (by omega) (by omega) (by omega) h4 (fun k h hk => by have := mono _ k hm h hk; omega)
  ·rw [if_neg (by simp; omega)]
   exact ⟨i, rfl, by omega, h4, fun k h hk => h5 k h (by omega)⟩
theorem containsA_eq {xs : List Int} {t : Int} (hl : xs.length < 4294967296) (hs : Inc xs) : m_alphabet_Contains xs t = some (hasB xs t) := by
 obtain ⟨p, hp, hle, hlo, hhi⟩ := bin_go (t := t) hl hs xs.length 0 xs.length (by omega) (by omega) (by omega) (fun k h hk => absurd hk (by omega)) (fun k h hk => absurd hk (by omega))
 have hi : iter (m_slices_BinarySearch_int_l1 xs t) ((xs.length : Int), 0) = some (p : Int) := iter_of (by omega) hp
 rw [m_alphabet_Contains, m_slices_BinarySearch_int, hi, Option.bind_some]
 by_cases hlt : p < xs.length
 ·rw [if_pos (by simpa using hlt), idx_at hlt, Option.bind_some]
  by_cases he : xs[p] = t
  ·rw [if_pos (by simpa using he)]
   show some true = _
   rw [hasB_true.2 (he ▸ List.getElem_mem hlt)]
  ·rw [if_neg (by simpa using he), Option.bind_some, show m_slices_isNaN_int xs[p] = some false by rw [m_slices_isNaN_int]; simp, Option.bind_some, if_neg (by simp)]
   show some false = _
   rw [hasB_false.2]
   intro hm
   obtain ⟨k, hk, hk2⟩ := List.getElem_of_mem hm
   rcases Nat.lt_trichotomy k p with h | h | h
   ·have := hlo k hk h; omega
   ·subst h; exact he hk2
   ·have := hhi p hlt (Nat.le_refl _)
    have := List.pairwise_iff_getElem.1 hs p k hlt hk h
    omega
 ·rw [if_neg (by simpa using hlt)]
  show some false = _
  rw [hasB_false.2]
  intro hm
  obtain ⟨k, hk, hk2⟩ := List.getElem_of_mem hm
  have := hlo k hk (by omega)
  omega
theorem setErr_ok {n : Int} : ∀ {p : Option Int} {xs : List Int}, xs.Pairwise (· < ·) → (∀ x ∈ xs, 0 ≤ x ∧ x < n) → (∀ q, p = some q → ∀ x ∈ xs, q < x) → setErr n p xs = 0
 | _, [], _, _, _ => rfl
 | p, x :: xs, h, hr, hp => by
  obtain ⟨h1, h2⟩ := List.pairwise_cons.1 h
  have h3 := hr x (List.mem_cons_self ..)
  rw [setErr, if_neg (by omega), if_neg ?_]
  ·exact setErr_ok h2 (fun y hy => hr y (List.mem_cons_of_mem _ hy)) (fun q hq y hy => by cases hq; exact h1 y hy)
  ·rintro ⟨q, hq, hle⟩
   have := hp q hq x (List.mem_cons_self ..)
   omega
theorem edErr_ok {al : List Int} {n : Int} : ∀ {p : Option Ed} {es : List Ed}, Sorted es → (∀ x ∈ es, 0 ≤ x.f ∧ x.f < n ∧ 0 ≤ x.t ∧ x.t < n ∧ hasB al x.e = true) → (∀ q, p = some q → ∀ x ∈ es, edLt q x) → edErr al n p es = 0
 | _, [], _, _, _ => rfl
 | p, x :: xs, h, hr, hp => by
  obtain ⟨h1, h2⟩ := List.pairwise_cons.1 h
  have h3 := hr x (List.mem_cons_self ..)
  rw [edErr, if_neg (by omega), if_neg (by rw [h3.2.2.2.2]; simp), if_neg ?_]
  ·exact edErr_ok h2 (fun y hy => hr y (List.mem_cons_of_mem _ hy)) (fun q hq y hy => by cases hq; exact h1 y hy)
  ·rintro ⟨q, hq, hle⟩
   have := hp q hq x (List.mem_cons_self ..)
   unfold edLt at this
   omega

theorem autP_toAut (a : AutT) : autP (toAut a) = a := by
 obtain ⟨x, y, z, es⟩ := a
 simp only [autP, toAut, List.map_map]
 rw [show (edP ∘ toEd) = id from rfl, List.map_id]
structure Right (a : AutT) (n : Nat) : Prop where
 nn : a.2.1 = (n : Int)
 nl : n ≤ 4096
 ali : Inc a.1
 alr : ∀ x ∈ a.1, 0 ≤ x ∧ x < 32
 msi : Inc a.2.2.1
 msr : ∀ x ∈ a.2.2.1, 0 ≤ x ∧ x < (n : Int)
 es : ∀ x ∈ a.2.2.2, 0 ≤ x.1 ∧ x.1 < (n : Int) ∧ 0 ≤ x.2.2 ∧ x.2.2 < (n : Int) ∧ x.2.1 ∈ a.1
 so : a.2.2.2.Pairwise fun x y => x.1 < y.1 ∨ (x.1 = y.1 ∧ x.2.1 < y.2.1)
 l1 : a.1.length ≤ 1000000
 l2 : a.2.2.1.length ≤ 1000000
 l3 : a.2.2.2.length ≤ 1000000
namespace Right
variable {a : AutT} {n : Nat}
theorem sorted (h : Right a n) : Sorted (a.2.2.2.map toEd) := by
 unfold Sorted
 rw [List.pairwise_map]
 exact h.so
theorem ein (h : Right a n) : ∀ x ∈ a.2.2.2.map toEd, 0 ≤ x.f ∧ x.f < (n : Int) ∧ 0 ≤ x.t ∧ x.t < (n : Int) := fun x hx => by
 obtain ⟨y, hy, rfl⟩ := List.mem_map.1 hx
 have := h.es y hy
 exact ⟨this.1, this.2.1, this.2.2.1, this.2.2.2.1⟩
theorem evs (h : Right a n) : EvEs (a.2.2.2.map toEd) := fun x hx => by
 obtain ⟨y, hy, rfl⟩ := List.mem_map.1 hx
 exact h.alr _ (h.es y hy).2.2.2.2
theorem err (h : Right a n) : (toAut a).err = 0 := by
 have h1 : setErr 32 none (toAut a).al = 0 := setErr_ok h.ali h.alr (fun q hq => by cases hq)
 have hn : (toAut a).n = n := h.nn
 have h2 : setErr (toAut a).n none (toAut a).ms = 0 := by rw [hn]; exact setErr_ok h.msi h.msr (fun q hq => by cases hq)
 have h3 : edErr (toAut a).al (toAut a).n none (toAut a).es = 0 := by
  rw [hn]
  refine edErr_ok h.sorted (fun x hx => ?_) (fun q hq => by cases hq)
  obtain ⟨y, hy, rfl⟩ := List.mem_map.1 hx
  have := h.es y hy
  exact ⟨this.1, this.2.1, this.2.2.1, this.2.2.2.1, hasB_true.2 this.2.2.2.2⟩
 have := h.nl
 unfold Aut.err
 rw [h1, if_neg (by decide), if_neg (by rw [hn]; omega), if_neg (by rw [hn]; omega), h2, if_neg (by decide), h3]
theorem check (h : Right a n) : m_automaton_Check a = some 0 := by
 have h1 := h.l1
 have h2 := h.l2
 have h3 := h.l3
 have := check_eq (a := toAut a) (by simp [toAut]; omega) (by simp [toAut]; omega) (by simp [toAut]; omega)
 rwa [autP_toAut, h.err] at this
end Right
theorem inc_len {n : Nat} : ∀ {xs : List Int} {lo : Int}, Inc xs → (∀ x ∈ xs, lo ≤ x ∧ x < (n : Int)) → 0 ≤ lo → xs.length ≤ n - lo.toNat
 | [], _, _, _, _ => Nat.zero_le _
 | x :: xs, lo, h, hr, h0 => by
  obtain ⟨h1, h2⟩ := List.pairwise_cons.1 h
  have hx := hr x (List.mem_cons_self ..)
  have := inc_len (n := n) (lo := x + 1) h2 (fun y hy => ⟨by have := h1 y hy; omega, (hr y (List.mem_cons_of_mem _ hy)).2⟩) (by omega)
  rw [List.length_cons]
  omega
theorem idx_hd {α : Type} (a : α) (us : List α) : idx (a :: us) 0 = some a := rfl
theorem slc_tl {α : Type} (a : α) (us : List α) : slc (a :: us) 1 ((a :: us).length : Int) = some us := by
 rw [slc, if_pos ⟨by omega, by simp; omega, by omega⟩]
 simp
structure Mrg (out us vs : List Int) : Prop where
 o : Inc out
 u : Inc us
 v : Inc vs
 ou : ∀ x ∈ out, ∀ y ∈ us, x < y
 ov : ∀ x ∈ out, ∀ y ∈ vs, x < y
 ro : ∀ x ∈ out, 0 ≤ x ∧ x < 32
 ru : ∀ x ∈ us, 0 ≤ x ∧ x < 32
 rv : ∀ x ∈ vs, 0 ≤ x ∧ x < 32
theorem Mrg.swap {out us vs : List Int} (h : Mrg out us vs) : Mrg out vs us := ⟨h.o, h.v, h.u, h.ov, h.ou, h.ro, h.rv, h.ru⟩
theorem Mrg.push {out us vs : List Int} {a : Int} (h : Mrg out (a :: us) vs) (hv : ∀ y ∈ vs, a < y) : Mrg (out ++ [a]) us vs := by
 obtain ⟨u1, u2⟩ := List.pairwise_cons.1 h.u
 refine ⟨?_, u2, h.v, ?_, ?_, ?_, fun x hx => h.ru x (List.mem_cons_of_mem _ hx), h.rv⟩
 ·unfold Inc; rw [List.pairwise_append]
  exact ⟨h.o, List.pairwise_singleton _ _, fun x hx y hy => by rw [List.mem_singleton.1 hy]; exact h.ou x hx a (List.mem_cons_self ..)⟩
 ·intro x hx y hy
  rcases List.mem_append.1 hx with hx | hx
  ·exact h.ou x hx y (List.mem_cons_of_mem _ hy)
  ·rw [List.mem_singleton.1 hx]; exact u1 y hy
 ·intro x hx y hy
  rcases List.mem_append.1 hx with hx | hx
  ·exact h.ov x hx y hy
  ·rw [List.mem_singleton.1 hx]; exact hv y hy
 ·intro x hx
  rcases List.mem_append.1 hx with hx | hx
  ·exact h.ro x hx
  ·rw [List.mem_singleton.1 hx]; exact h.ru a (List.mem_cons_self ..)
theorem Mrg.tailv {out us vs : List Int} {a : Int} (h : Mrg out us (a :: vs)) : Mrg out us vs :=
 ⟨h.o, h.u, (List.pairwise_cons.1 h.v).2, h.ou, fun x hx y hy => h.ov x hx y (List.mem_cons_of_mem _ hy), h.ro, h.ru, fun x hx => h.rv x (List.mem_cons_of_mem _ hx)⟩
theorem Mrg.len {out us vs : List Int} (h : Mrg out us vs) : out.length ≤ 32 := by
 have := inc_len (n := 32) (lo := 0) h.o h.ro (Int.le_refl _)
 simpa using this
theorem Mrg.lt {out us vs : List Int} {a b : Int} (h : Mrg out us (b :: vs)) (hab : a < b) : ∀ y ∈ b :: vs, a < y := fun y hy => by
 rcases List.mem_cons.1 hy with rfl | hy
 ·exact hab
 ·have := (List.pairwise_cons.1 h.v).1 y hy; omega
theorem union_step {out us vs : List Int} (h : Mrg out us vs) (hne : 0 < us.length + vs.length) :
  ∃ o u v, m_alphabet_merge_l1 m_alphabet_Union_1 (out, us, vs) = some (.inl (o, u, v)) ∧ Mrg o u v ∧ u.length + v.length + 1 ≤ us.length + vs.length := by
 have hl := h.len
 have ho : ∀ a : Int, app out ([a] : List Int) = some (out ++ [a]) := fun a => app_eq (by simp; omega)
 cases us with
 | nil =>
  cases vs with
  | nil => simp at hne
  | cons b vs =>
   refine ⟨out ++ [b], [], vs, ?_, (h.swap.push (fun y hy => by cases hy)).swap, by simp⟩
   rw [m_alphabet_merge_l1]
   dsimp only
   rw [if_pos (by simp), if_neg (by simp), m_alphabet_merge_j1]
   dsimp only
   rw [if_pos (by simp), if_pos (by simp), m_alphabet_merge_j2, if_neg (by simp), m_alphabet_merge_j3, if_pos rfl]
   dsimp only
   rw [idx_hd, Option.bind_some, slc_tl, Option.bind_some, m_alphabet_merge_j4, show m_alphabet_Union_1 false true = some true from rfl, Option.bind_some, if_pos rfl]
   dsimp only
   rw [ho, Option.bind_some]
 | cons a us =>
  cases vs with
  | nil =>
   refine ⟨out ++ [a], us, [], ?_, h.push (fun y hy => by cases hy), by simp⟩
   rw [m_alphabet_merge_l1]
   dsimp only
   rw [if_pos (by simp), if_pos (by simp), if_pos (by simp), m_alphabet_merge_j1]
   dsimp only
   rw [if_neg (by simp), m_alphabet_merge_j2, if_pos rfl]
   dsimp only
   rw [idx_hd, Option.bind_some, slc_tl, Option.bind_some, m_alphabet_merge_j3, if_neg (by simp), m_alphabet_merge_j4, show m_alphabet_Union_1 true false = some true from rfl, Option.bind_some, if_pos rfl]
   dsimp only
   rw [ho, Option.bind_some]
  | cons b vs =>
   have e0 : m_alphabet_merge_l1 m_alphabet_Union_1 (out, a :: us, b :: vs) = m_alphabet_merge_j2 m_alphabet_Union_1 (out, a :: us, b :: vs) (decide (a ≤ b)) (decide (b ≤ a)) := by
    rw [m_alphabet_merge_l1]
    dsimp only
    rw [if_pos (by simp), if_pos (by simp), if_neg (by simp; omega), idx_hd, Option.bind_some, idx_hd, Option.bind_some, m_alphabet_merge_j1]
    dsimp only
    rw [if_pos (by simp), if_neg (by simp; omega), idx_hd, Option.bind_some, idx_hd, Option.bind_some]
   rw [e0, m_alphabet_merge_j2]
   dsimp only
   by_cases h1 : a < b
   ·refine ⟨out ++ [a], us, b :: vs, ?_, h.push (h.lt h1), by simp; omega⟩
    rw [if_pos (show decide (a ≤ b) = true by simp; omega), idx_hd, Option.bind_some, slc_tl, Option.bind_some, m_alphabet_merge_j3, if_neg (by simp; omega), m_alphabet_merge_j4, show decide (a ≤ b) = true by simp; omega, show decide (b ≤ a) = false by simp; omega,
     show m_alphabet_Union_1 true false = some true from rfl, Option.bind_some, if_pos rfl]
    dsimp only
    rw [ho, Option.bind_some]
   ·by_cases h2 : b < a
    ·refine ⟨out ++ [b], a :: us, vs, ?_, (h.swap.push (h.swap.lt h2)).swap, by simp; omega⟩
     rw [if_neg (show ¬ decide (a ≤ b) = true by simp; omega), m_alphabet_merge_j3, if_pos (show decide (b ≤ a) = true by simp; omega)]
     dsimp only
     rw [idx_hd, Option.bind_some, slc_tl, Option.bind_some, m_alphabet_merge_j4, show decide (a ≤ b) = false by simp; omega, show decide (b ≤ a) = true by simp; omega,
      show m_alphabet_Union_1 false true = some true from rfl, Option.bind_some, if_pos rfl]
     dsimp only
     rw [ho, Option.bind_some]
    ·obtain rfl : a = b := by omega
     refine ⟨out ++ [a], us, vs, ?_, h.tailv.push ((List.pairwise_cons.1 h.v).1), by simp; omega⟩
     rw [if_pos (show decide (a ≤ a) = true by simp), idx_hd, Option.bind_some, slc_tl, Option.bind_some, m_alphabet_merge_j3, if_pos (show decide (a ≤ a) = true by simp)]
     dsimp only
     rw [idx_hd, Option.bind_some, slc_tl, Option.bind_some, m_alphabet_merge_j4, show decide (a ≤ a) = true by simp,
      show m_alphabet_Union_1 true true = some true from rfl, Option.bind_some, if_pos rfl]
     dsimp only
     rw [ho, Option.bind_some]
def Alp (xs : List Int) : Prop := Inc xs ∧ ∀ x ∈ xs, 0 ≤ x ∧ x < 32
theorem Alp.nil : Alp [] := ⟨List.Pairwise.nil, fun x hx => by cases hx⟩
theorem Alp.len {xs : List Int} (h : Alp xs) : xs.length ≤ 32 := by
 have := inc_len (n := 32) (lo := 0) h.1 h.2 (Int.le_refl _)
 simpa using this
theorem union_ex {us vs : List Int} (hu : Alp us) (hv : Alp vs) : ∃ o, m_alphabet_Union us vs = some o ∧ Alp o := by
 have h0 : Mrg [] us vs := ⟨List.Pairwise.nil, hu.1, hv.1, fun x hx => (by cases hx), fun x hx => (by cases hx), fun x hx => (by cases hx), hu.2, hv.2⟩
 have l1 := hu.len
 have l2 := hv.len
 obtain ⟨o, h1, h2⟩ := iter_inv (f := m_alphabet_merge_l1 m_alphabet_Union_1) (fun i s => Mrg s.1 s.2.1 s.2.2 ∧ s.2.1.length + s.2.2.length + i ≤ us.length + vs.length) (fun o => Alp o) (us.length + vs.length) 0 (by omega) (fun i s hi ⟨g1, g2⟩ => by
   obtain ⟨out, u, v⟩ := s
   dsimp only at g1 g2
   by_cases hne : 0 < u.length + v.length
   ·obtain ⟨o, u', v', e, g3, g4⟩ := union_step g1 hne
    exact .inl ⟨_, e, g3, by dsimp only; omega⟩
   ·have e1 : u = [] := List.eq_nil_of_length_eq_zero (by omega)
    have e2 : v = [] := List.eq_nil_of_length_eq_zero (by omega)
    subst e1; subst e2
    exact .inr ⟨out, rfl, g1.o, g1.ro⟩) (fun s ⟨g1, g2⟩ => by
   obtain ⟨out, u, v⟩ := s
   dsimp only at g1 g2
   have e1 : u = [] := List.eq_nil_of_length_eq_zero (by omega)
   have e2 : v = [] := List.eq_nil_of_length_eq_zero (by omega)
   subst e1; subst e2
   exact ⟨out, rfl, g1.o, g1.ro⟩) (Nat.zero_le _) ([], us, vs) ⟨h0, by dsimp only; omega⟩
 exact ⟨o, by rw [m_alphabet_Union, m_alphabet_merge, h1]; rfl, h2⟩
theorem events_ex {l : List AutT} (hl : l.length ≤ 1000) (h : ∀ a ∈ l, Alp a.1) : ∃ ev, m_product_events l = some ev ∧ Alp ev := by
 obtain ⟨o, h1, h2⟩ := iter_inv (f := m_product_events_l1 l) (fun i s => s.1 = (i : Int) ∧ Alp s.2) (fun o => Alp o) l.length 0 (by omega) (fun i s hi ⟨e1, g1⟩ => by
   obtain ⟨k, out⟩ := s
   dsimp only at e1 g1
   subst e1
   obtain ⟨o, e, g2⟩ := union_ex g1 (h _ (List.getElem_mem hi))
   refine .inl ⟨(((i + 1 : Nat) : Int), o), ?_, rfl, g2⟩
   rw [m_product_events_l1]
   dsimp only
   rw [if_pos (ct_lt hi), idx_at hi, Option.bind_some, e, Option.bind_some, nxt (by omega)]) (fun s ⟨e1, g1⟩ => by
   obtain ⟨k, out⟩ := s
   dsimp only at e1 g1
   subst e1
   refine ⟨out, ?_, g1⟩
   rw [m_product_events_l1]
   dsimp only
   rw [if_neg ct_ge]) (Nat.zero_le _) (0, []) ⟨rfl, Alp.nil⟩
 exact ⟨o, by rw [m_product_events, h1]; rfl, h2⟩
section
variable {κ β : Type} [BEq κ]
theorem kget_mem {m : List (κ × β)} {k : κ} {v : β} (h : kget m k = some v) : ∃ e ∈ m, e.2 = v := by
 unfold kget at h
 rw [Option.map_eq_some_iff] at h
 obtain ⟨e, h1, h2⟩ := h
 exact ⟨e, List.mem_of_find?_eq_some h1, h2⟩
theorem kput_mem {m : List (κ × β)} {k : κ} {v : β} {e : κ × β} (h : e ∈ kput m k v) : e ∈ m ∨ e = (k, v) := by
 unfold kput at h
 split at h
 ·exact List.mem_or_eq_of_mem_set h
 ·rcases List.mem_append.1 h with h | h
  ·exact .inl h
  ·exact .inr (List.mem_singleton.1 h)
theorem kget_isSome {m : List (κ × β)} {k : κ} : (kget m k).isSome = m.any fun p => k == p.1 := by
 unfold kget
 induction m with
 | nil => rfl
 | cons p m ih =>
  rw [List.any_cons]
  cases h : k == p.1 with
  | true => rw [List.find?_cons_of_pos (by simpa using h)]; rfl
  | false => rw [List.find?_cons_of_neg (by simp [h])]; simpa using ih
end
theorem beqB (k : ByteArray) : (k == k) = true := by rw [beq_toListBytes]; simp
theorem kput_self {β : Type} {m : List (ByteArray × β)} {k : ByteArray} {v : β} : (kget (kput m k v) k).isSome = true := by
 rw [kget_isSome, List.any_eq_true]
 refine ⟨(k, v), ?_, beqB k⟩
 unfold kput
 split
 ·rename_i h; exact List.mem_set h _
 ·exact List.mem_append_right _ (List.mem_singleton.2 rfl)
theorem kput_keep {β : Type} {m : List (ByteArray × β)} {k q : ByteArray} {v : β} (h : (kget m q).isSome = true) : (kget (kput m k v) q).isSome = true := by
 rw [kget_isSome, List.any_eq_true] at h ⊢
 obtain ⟨e, h1, h2⟩ := h
 have hq := eqS h2
 unfold kput
 split
 ·rename_i hlt
  obtain ⟨i, hi, rfl⟩ := List.getElem_of_mem h1
  by_cases e : kidx (m.map (·.1)) k = i
  ·refine ⟨(k, v), List.mem_set hlt _, ?_⟩
   have hk : (fun p => k == p) ((m.map (·.1))[kidx (m.map (·.1)) k]'(by rw [List.length_map]; exact hlt)) = true := List.findIdx_getElem (p := fun p => k == p) (w := by rw [List.length_map]; exact hlt)
   rw [List.getElem_map] at hk
   have hk := eqS hk
   subst e
   rw [hq, ← hk]
   exact beqB k
  ·refine ⟨m[i], ?_, h2⟩
   have := List.getElem_set_ne (l := m) e (a := (k, v)) (by rw [List.length_set]; exact hi)
   rw [← this]
   exact List.getElem_mem _
 ·exact ⟨e, List.mem_append_left _ h1, h2⟩

def InT (l : List AutT) (t : List Int) : Prop := t.length = l.length ∧ ∀ i (h : i < l.length) (h' : i < t.length), 0 ≤ t[i] ∧ t[i] < l[i].2.1
theorem InT.set {l : List AutT} {t : List Int} (h : InT l t) {i : Nat} (hi : i < l.length) {v : Int} (h0 : 0 ≤ v) (h1 : v < l[i].2.1) : InT l (t.set i v) := by
 refine ⟨by rw [List.length_set]; exact h.1, fun k hk hk' => ?_⟩
 rw [List.getElem_set]
 split
 ·rename_i e; subst e; exact ⟨h0, h1⟩
 ·exact h.2 k hk _
structure MOk (l : List AutT) (m : List AutT × List Int × List (List ((Int × Int) × Int))) : Prop where
 ml : m.1 = l
 ev : Alp m.2.1
 len : m.2.2.length = l.length
 edge : ∀ i (h : i < l.length) (h' : i < m.2.2.length), ∀ e ∈ m.2.2[i], 0 ≤ e.2 ∧ e.2 < l[i].2.1
theorem open_in {a : AutT} {n : Nat} (hr : Right a n) : ∃ o, iter (m_product_open_l2 a) (0, ([] : List ((Int × Int) × Int))) = some o ∧ ∀ e ∈ o, 0 ≤ e.2 ∧ e.2 < (n : Int) := by
 have hl := hr.l3
 refine iter_inv (f := m_product_open_l2 a) (fun i s => s.1 = (i : Int) ∧ ∀ e ∈ s.2, 0 ≤ e.2 ∧ e.2 < (n : Int)) (fun o => ∀ e ∈ o, 0 ≤ e.2 ∧ e.2 < (n : Int)) a.2.2.2.length 0 (by omega) (fun i s hi ⟨e1, g1⟩ => ?_) (fun s ⟨e1, g1⟩ => ?_) (Nat.zero_le _) _ ⟨rfl, fun e he => (by cases he)⟩
 ·obtain ⟨k, out⟩ := s
  dsimp only at e1 g1
  subst e1
  have hx := hr.es _ (List.getElem_mem hi)
  refine .inl ⟨(((i + 1 : Nat) : Int), kput out (a.2.2.2[i].1, a.2.2.2[i].2.1) a.2.2.2[i].2.2), ?_, rfl, fun e he => ?_⟩
  ·rw [m_product_open_l2]
   dsimp only
   rw [if_pos (ct_lt hi), idx_at hi, Option.bind_some, nxt (by omega)]
  ·rcases kput_mem he with he | he
   ·exact g1 e he
   ·rw [he]; exact ⟨hx.2.2.1, hx.2.2.2.1⟩
 ·obtain ⟨k, out⟩ := s
  dsimp only at e1 g1
  subst e1
  refine ⟨out, ?_, g1⟩
  rw [m_product_open_l2]
  dsimp only
  rw [if_neg ct_ge]
def keyK (t : List Int) : ByteArray := ⟨(keyB t).toArray⟩
theorem nodup_len : ∀ (N : Nat) (l : List Nat), l.Nodup → (∀ x ∈ l, x < N) → l.length ≤ N
 | 0, [], _, _ => Nat.le_refl _
 | 0, x :: l, _, h => absurd (h x (List.mem_cons_self ..)) (by omega)
 | N + 1, l, hn, h => by
  by_cases hm : N ∈ l
  ·have h1 := nodup_len N (l.erase N) (hn.erase N) (fun x hx => by
    have h2 := (hn.mem_erase_iff).1 hx
    have := h x h2.2
    omega)
   rw [List.length_erase_of_mem hm] at h1
   omega
  ·have h1 := nodup_len N l hn (fun x hx => by
    have := h x hx
    have : x ≠ N := fun e => hm (e ▸ hx)
    omega)
   omega
abbrev Kno := List (ByteArray × Int)
structure SI (l : List AutT) (ev : List Int) (i j : Nat) (kn : Kno) (T : List (List Int)) (E : List (Int × Int × Int)) : Prop where
 pos : 0 < T.length
 nd : T.Nodup
 inT : ∀ t ∈ T, InT l t
 key : ∀ t ∈ T, (kget kn (keyK t)).isSome = true
 val : ∀ e ∈ kn, 0 ≤ e.2 ∧ e.2 < (T.length : Int)
 er : ∀ x ∈ E, 0 ≤ x.1 ∧ x.1 ≤ (i : Int) ∧ 0 ≤ x.2.2 ∧ x.2.2 < (T.length : Int) ∧ x.2.1 ∈ ev
 es : ∀ x ∈ E, x.1 = (i : Int) → x.2.1 ∈ ev.take j
 so : E.Pairwise fun x y => x.1 < y.1 ∨ (x.1 = y.1 ∧ x.2.1 < y.2.1)
 el : E.length ≤ 32 * i + j
 lk : ∀ k : Nat, 0 < k → k < T.length → ∃ x ∈ E, x.2.2 = (k : Int) ∧ 0 ≤ x.1 ∧ x.1 < (k : Int)
section
variable {l : List AutT} {ev : List Int} {i j : Nat} {kn : Kno} {T : List (List Int)} {E : List (Int × Int × Int)}
theorem SI.skip (h : SI l ev i j kn T E) : SI l ev i (j + 1) kn T E :=
 ⟨h.pos, h.nd, h.inT, h.key, h.val, h.er, fun x hx e => (List.take_subset_take_left ev (Nat.le_succ j)) (h.es x hx e), h.so, by have := h.el; omega, h.lk⟩
theorem SI.next (h : SI l ev i j kn T E) (hj : j ≤ 32) : SI l ev (i + 1) 0 kn T E :=
 ⟨h.pos, h.nd, h.inT, h.key, h.val, fun x hx => by have := h.er x hx; exact ⟨this.1, by omega, this.2.2⟩, fun x hx e => by have := h.er x hx; omega, h.so, by have := h.el; omega, h.lk⟩
theorem take_lt (he : Inc ev) (hj : j < ev.length) : ∀ x ∈ ev.take j, x < ev[j] := fun x hx => by
 obtain ⟨k, hk, rfl⟩ := List.getElem_of_mem hx
 rw [List.length_take] at hk
 rw [List.getElem_take]
 exact List.pairwise_iff_getElem.1 he k j (by omega) hj (by omega)
theorem SI.edge (h : SI l ev i j kn T E) (he : Inc ev) (hi : i < T.length) (hj : j < ev.length) {q : Int} (h0 : 0 ≤ q) (h1 : q < T.length) : SI l ev i (j + 1) kn T (E ++ [((i : Int), ev[j], q)]) := by
 refine ⟨h.pos, h.nd, h.inT, h.key, h.val, fun x hx => ?_, fun x hx e => ?_, ?_, by have := h.el; rw [List.length_append, List.length_singleton]; omega, fun k h2 h3 => ?_⟩
 ·rcases List.mem_append.1 hx with hx | hx
  ·exact h.er x hx
  ·rw [List.mem_singleton.1 hx]; exact ⟨by dsimp only; omega, by dsimp only; omega, h0, h1, List.getElem_mem _⟩
 ·rcases List.mem_append.1 hx with hx | hx
  ·exact (List.take_subset_take_left ev (Nat.le_succ j)) (h.es x hx e)
  ·rw [List.mem_singleton.1 hx, take_snoc ev j hj]; exact List.mem_append_right _ (List.mem_singleton.2 rfl)
 ·rw [List.pairwise_append]
  refine ⟨h.so, List.pairwise_singleton _ _, fun a ha b hb => ?_⟩
  rw [List.mem_singleton.1 hb]
  have h2 := h.er a ha
  by_cases e : a.1 = (i : Int)
  ·exact .inr ⟨e, take_lt he hj _ (h.es a ha e)⟩
  ·exact .inl (by dsimp only; omega)
 ·obtain ⟨x, hx, h4⟩ := h.lk k h2 h3
  exact ⟨x, List.mem_append_left _ hx, h4⟩
theorem SI.new (h : SI l ev i j kn T E) (he : Inc ev) (hi : i < T.length) (hj : j < ev.length) {t : List Int} (ht : InT l t) (hk : (kget kn (keyK t)).isSome = false) : SI l ev i (j + 1) (kput kn (keyK t) (T.length : Int)) (T ++ [t]) (E ++ [((i : Int), ev[j], (T.length : Int))]) := by
 have hlen : (T ++ [t]).length = T.length + 1 := by simp
 have h0 : SI l ev i j (kput kn (keyK t) (T.length : Int)) T E ∨ True := .inr trivial
 refine ⟨by omega, ?_, fun s hs => ?_, fun s hs => ?_, fun e hx => ?_, fun x hx => ?_, fun x hx e => ?_, ?_, by have := h.el; rw [List.length_append, List.length_singleton]; omega, fun k h2 h3 => ?_⟩
 ·rw [List.nodup_append]
  refine ⟨h.nd, by simp, fun a ha b hb => ?_⟩
  rw [List.mem_singleton.1 hb]
  intro e
  subst e
  rw [h.key a ha] at hk
  cases hk
 ·rcases List.mem_append.1 hs with hs | hs
  ·exact h.inT s hs
  ·rw [List.mem_singleton.1 hs]; exact ht
 ·rcases List.mem_append.1 hs with hs | hs
  ·exact kput_keep (h.key s hs)
  ·rw [List.mem_singleton.1 hs]; exact kput_self
 ·rw [hlen]
  rcases kput_mem hx with hx | hx
  ·have := h.val e hx; omega
  ·rw [hx]; dsimp only; omega
 ·rw [hlen]
  rcases List.mem_append.1 hx with hx | hx
  ·have := h.er x hx; exact ⟨this.1, this.2.1, this.2.2.1, by omega, this.2.2.2.2⟩
  ·rw [List.mem_singleton.1 hx]; exact ⟨by dsimp only; omega, by dsimp only; omega, by dsimp only; omega, by dsimp only; omega, List.getElem_mem _⟩
 ·rcases List.mem_append.1 hx with hx | hx
  ·exact (List.take_subset_take_left ev (Nat.le_succ j)) (h.es x hx e)
  ·rw [List.mem_singleton.1 hx, take_snoc ev j hj]; exact List.mem_append_right _ (List.mem_singleton.2 rfl)
 ·rw [List.pairwise_append]
  refine ⟨h.so, List.pairwise_singleton _ _, fun a ha b hb => ?_⟩
  rw [List.mem_singleton.1 hb]
  have h2 := h.er a ha
  by_cases e : a.1 = (i : Int)
  ·exact .inr ⟨e, take_lt he hj _ (h.es a ha e)⟩
  ·exact .inl (by dsimp only; omega)
 ·by_cases h4 : k < T.length
  ·obtain ⟨x, hx, h5⟩ := h.lk k h2 h4
   exact ⟨x, List.mem_append_left _ hx, h5⟩
  ·have : k = T.length := by omega
   subst this
   exact ⟨_, List.mem_append_right _ (List.mem_singleton.2 rfl), rfl, by dsimp only; omega, by dsimp only; omega⟩
end
def Rch (es : List Ed) (x y : Int) : Prop := ∃ k, ReachIn es [y] k x
theorem reachIn_iff {es : List Ed} {tg : List Int} : ∀ {k : Nat} {x : Int}, ReachIn es tg k x ↔ ∃ y ∈ tg, ReachIn es [y] k x
 | 0, x => by simp [ReachIn]
 | k + 1, x => by
  constructor
  ·rintro ⟨e, he, h1, h2⟩
   obtain ⟨y, hy, h3⟩ := reachIn_iff.1 h2
   exact ⟨y, hy, e, he, h1, h3⟩
  ·rintro ⟨y, hy, e, he, h1, h2⟩
   exact ⟨e, he, h1, reachIn_iff.2 ⟨y, hy, h2⟩⟩
theorem Rch.refl (es : List Ed) (x : Int) : Rch es x x := ⟨0, List.mem_singleton.2 rfl⟩
theorem reachIn_closed {es : List Ed} {S : Int → Prop} (hS : ∀ e ∈ es, S e.f → S e.t) {y : Int} : ∀ {k : Nat} {x : Int}, S x → ReachIn es [y] k x → S y
 | 0, x, h, h1 => by rw [← List.mem_singleton.1 h1]; exact h
 | k + 1, x, h, ⟨e, he, h1, h2⟩ => reachIn_closed hS (hS e he (h1 ▸ h)) h2
theorem Rch.closed {es : List Ed} {S : Int → Prop} (hS : ∀ e ∈ es, S e.f → S e.t) {x y : Int} (h : S x) (hr : Rch es x y) : S y := by
 obtain ⟨k, hr⟩ := hr
 exact reachIn_closed hS h hr
theorem reachIn_trans {es : List Ed} {y z : Int} {j : Nat} (hz : ReachIn es [z] j y) : ∀ {k : Nat} {x : Int}, ReachIn es [y] k x → ReachIn es [z] (k + j) x
 | 0, x, h => by rw [List.mem_singleton.1 h, Nat.zero_add]; exact hz
 | k + 1, x, ⟨e, he, h1, h2⟩ => by
  rw [Nat.add_right_comm]
  exact ⟨e, he, h1, reachIn_trans hz h2⟩
theorem Rch.trans {es : List Ed} {x y z : Int} (h : Rch es x y) (h2 : Rch es y z) : Rch es x z := by
 obtain ⟨k, h⟩ := h
 obtain ⟨j, h2⟩ := h2
 exact ⟨_, reachIn_trans h2 h⟩
theorem leads_reach {es : List Ed} {perm : Ed → Bool} : ∀ {u : List Int} {s t : Int}, Leads es perm s u t → ReachIn es [t] u.length s
 | [], s, t, h => List.mem_singleton.2 h
 | e :: u, s, t, ⟨x, hx, h1, h2, h3, h4⟩ => ⟨x, hx, h1, leads_reach h4⟩
theorem reach_leads {es : List Ed} {perm : Ed → Bool} (hp : ∀ x ∈ es, perm x = true) {t : Int} : ∀ {k : Nat} {s : Int}, ReachIn es [t] k s → ∃ u : List Int, u.length = k ∧ Leads es perm s u t
 | 0, s, h => ⟨[], rfl, List.mem_singleton.1 h⟩
 | k + 1, s, ⟨x, hx, h1, h2⟩ => by
  obtain ⟨u, h3, h4⟩ := reach_leads hp h2
  exact ⟨x.e :: u, by rw [List.length_cons, h3], x, hx, h1, rfl, hp x hx, h4⟩
theorem allL_inc (n : Nat) : Inc (allL n) := by
 unfold allL Inc
 rw [List.pairwise_map]
 exact List.Pairwise.imp (fun {a b} h => by omega) List.pairwise_lt_range
theorem allL_in (n : Nat) : ∀ x ∈ allL n, 0 ≤ x ∧ x < (n : Int) := by
 intro x hx
 obtain ⟨i, hi, rfl⟩ := List.mem_map.1 hx
 have := List.mem_range.1 hi
 omega
theorem allL_has {n : Nat} {s : Int} (h0 : 0 ≤ s) (h1 : s < n) : hasB (allL n) s = true := by
 rw [hasB_true]
 exact List.mem_map.2 ⟨s.toNat, List.mem_range.2 (by omega), by omega⟩
structure PathSays (es : List Ed) (tg : List Int) (x : Int) (r : List Int × Bool × Int) : Prop where
 err : r.2.2 = 0
 no : r.2.1 = false → r.1 = [] ∧ ∀ k, ¬ ReachIn es tg k x
 yes : r.2.1 = true → ReachIn es tg r.1.length x ∧ ∀ j, j < r.1.length → ¬ ReachIn es tg j x
theorem path_ex {p : AutT} {n : Nat} (h : Right p n) {x : Int} (x0 : 0 ≤ x) (x1 : x < (n : Int)) {tg : List Int} (hi : Inc tg) (hr : ∀ y ∈ tg, 0 ≤ y ∧ y < (n : Int)) (hl : tg.length ≤ 1000000) :
  ∃ r, m_reach_Path p x tg (allL n) = some r ∧ PathSays (p.2.2.2.map toEd) tg x r := by
 have hn := h.nl
 have hN : (toAut p).n = n := h.nn
 have hpe : pathErr (toAut p) x tg (allL n) = 0 := by
  unfold pathErr
  rw [h.err, hN, if_neg (by omega), setErr_ok hi hr (fun q hq => by cases hq), setErr_ok (allL_inc n) (allL_in n) (fun q hq => by cases hq)]
  rfl
 have hall := allL_len n
 have hp : ∀ e ∈ (p.2.2.2.map toEd), (fun e : Ed => hasB (allL n) e.t) e = true := fun e he => by
  have := h.ein e he
  exact allL_has this.2.2.1 this.2.2.2
 have hpa : reachPath (toAut p) x tg (allL n) = pathF n (p.2.2.2.map toEd) (hasB tg) (fun e => hasB (allL n) e.t) x.toNat := by
  unfold reachPath
  rw [if_pos (allL_has x0 x1), hN, Int.toNat_natCast]
  rfl
 have hs := pathF_says (es := p.2.2.2.map toEd) (perm := fun e => hasB (allL n) e.t) (want := hasB tg) (from_ := x.toNat) (n := n) h.sorted (fun e he => (h.ein e he).2.2) h.evs (by omega)
 rw [Int.toNat_of_nonneg x0] at hs
 have hc : p.1.length ≤ 1000000 ∧ p.2.2.1.length ≤ 1000000 ∧ p.2.2.2.length ≤ 1000000 ∧ tg.length ≤ 1000000 ∧ (allL n).length ≤ 1000000 := ⟨h.l1, h.l2, h.l3, hl, by omega⟩
 rw [m_reach_Path, if_pos hc, if_pos hpe, hpa]
 generalize pathF n (p.2.2.2.map toEd) (hasB tg) (fun e => hasB (allL n) e.t) x.toNat = r at hs ⊢
 cases r with
 | none =>
  refine ⟨_, rfl, rfl, fun _ => ⟨rfl, fun k hk => ?_⟩, fun e => by cases e⟩
  obtain ⟨y, hy, h1⟩ := reachIn_iff.1 hk
  obtain ⟨u, _, h2⟩ := reach_leads hp h1
  have h3 := hs u y h2
  rw [hasB_true.2 hy] at h3
  cases h3
 | some w =>
  refine ⟨_, rfl, rfl, fun e => (by cases e), fun _ => ⟨?_, fun j hj hk => ?_⟩⟩
  ·obtain ⟨t, h1, h2⟩ := hs.leads
   exact reachIn_iff.2 ⟨t, hasB_true.1 h2, leads_reach h1⟩
  ·obtain ⟨y, hy, h1⟩ := reachIn_iff.1 hk
   obtain ⟨u, hu, h2⟩ := reach_leads hp h1
   have h3 := hs.le u y h2 (hasB_true.2 hy) (Nat.zero_le _)
   have h4 := wval_len hs.ev (h2.evs h.evs) h3
   dsimp only at hj
   omega

def DeadS (p : AutT) (x : Int) : Prop := ∀ e ∈ p.2.2.2, e.1 ≠ x
abbrev edsOf (p : AutT) : List Ed := p.2.2.2.map toEd
def NoM (p : AutT) (x : Int) : Prop := ∀ k, ¬ ReachIn (edsOf p) p.2.2.1 k x
def KindIs (p : AutT) (x k : Int) : Prop :=
 (k = 1 ∧ x ∈ p.2.2.1) ∨ (k = 2 ∧ x ∉ p.2.2.1 ∧ ¬ NoM p x) ∨ (k = 3 ∧ NoM p x ∧ DeadS p x) ∨
 (k = 5 ∧ NoM p x ∧ ¬ DeadS p x ∧ ∃ y, Rch (edsOf p) x y ∧ DeadS p y) ∨ (k = 4 ∧ NoM p x ∧ ¬ DeadS p x ∧ ∀ y, Rch (edsOf p) x y → ¬ DeadS p y)
theorem noM_iff {p : AutT} {x : Int} : NoM p x ↔ ∀ y ∈ p.2.2.1, ¬ Rch (edsOf p) x y := by
 constructor
 ·rintro h y hy ⟨k, hk⟩
  exact h k (reachIn_iff.2 ⟨y, hy, hk⟩)
 ·intro h k hk
  obtain ⟨y, hy, h1⟩ := reachIn_iff.1 hk
  exact h y hy ⟨k, h1⟩
theorem Right.rch {p : AutT} {n : Nat} (hR : Right p n) {x y : Int} (h0 : 0 ≤ x ∧ x < (n : Int)) (h : Rch (edsOf p) x y) : 0 ≤ y ∧ y < (n : Int) :=
 h.closed (S := fun z => 0 ≤ z ∧ z < (n : Int)) (fun e he _ => (hR.ein e he).2.2) h0
def KindsOf (p : AutT) (n : Nat) (ks : List Int) : Prop := ks.length = n ∧ ∀ i (h : i < ks.length), KindIs p (i : Int) ks[i]
theorem sprd {p : AutT} {n : Nat} (hR : Right p n) {tg : List Int} (hl : tg.length ≤ 1000000) (hr : ∀ s ∈ tg, 0 ≤ s ∧ s < (n : Int)) : m_blocking_spread p tg = some (backward n (edsOf p) tg) := by
 have hnl := hR.nl
 have := spread_eq (a := p.1) (n := n) (m := p.2.2.1) (es := p.2.2.2) (tg := tg) (by omega) hR.l3 hl (fun x hx => by have := hR.es x hx; exact ⟨this.1, this.2.1, this.2.2.1, this.2.2.2.1⟩) hr
 rw [← hR.nn] at this
 exact this
theorem bk_len {p : AutT} {n : Nat} (hR : Right p n) {tg : List Int} (hr : ∀ s ∈ tg, 0 ≤ s ∧ s < (n : Int)) : (backward n (edsOf p) tg).length = n := by
 have hnl := hR.nl
 have hB := BOk.start n tg (by omega) hr
 have h : ∀ (f : Nat) (ds q : List Int), BOk n ds q → (bwd (inL (edsOf p)) f ds q).length = n := by
  intro f
  induction f with
  | zero => intro ds q h; exact h.len
  | succ f ih =>
   intro ds q h
   cases q with
   | nil => exact h.len
   | cons s q =>
    rw [bwd]
    have hs := h.qr s (List.mem_cons_self ..)
    have h0 := h.nn s (List.mem_cons_self ..)
    exact ih _ _ (BOk.fold (show s.toNat < n by omega) (inL (edsOf p) s.toNat) h.pop h0 (inL_range hR.ein)).1
 exact h _ _ _ hB
theorem bk_dist {p : AutT} {n : Nat} (hR : Right p n) {tg : List Int} (hr : ∀ s ∈ tg, 0 ≤ s ∧ s < (n : Int)) {i : Nat} (hi : i < n) : IsDist (edsOf p) tg i ((backward n (edsOf p) tg).getD i 0) := by
 have hnl := hR.nl
 exact backward_dist (by omega) hR.ein hr i hi
theorem cast_inc (k : Nat) (p : Nat → Bool) : Inc (((List.range k).filter p).map fun (i : Nat) => (i : Int)) := by
 unfold Inc
 rw [List.pairwise_map]
 refine List.Pairwise.filter _ ?_
 exact List.Pairwise.imp (fun {a b} h => by omega) List.pairwise_lt_range
theorem cast_in (k : Nat) (p : Nat → Bool) : ∀ x ∈ ((List.range k).filter p).map fun (i : Nat) => (i : Int), 0 ≤ x ∧ x < (k : Int) := by
 intro x hx
 obtain ⟨i, hi, rfl⟩ := List.mem_map.1 hx
 have := List.mem_range.1 (List.mem_filter.1 hi).1
 omega
theorem bpath_eq {p : AutT} {n : Nat} (hR : Right p n) {x : Int} (hx : x < (n : Int)) {tg : List Int} {r : List Int × Bool × Int} (h : m_reach_Path p x tg (allL n) = some r) : m_blocking_path p x tg = some (r.1, r.2.1) := by
 have := hR.nl
 have hb := ball_eq (a := p.1) (n := n) (m := p.2.2.1) (es := p.2.2.2) (by omega)
 rw [← hR.nn] at hb
 rw [m_blocking_path, hR.nn, if_neg (by simp; omega), show m_blocking_all p = some (allL n) from hb, Option.bind_some, h]
 rfl
theorem busy_ex {p : AutT} {n : Nat} (hR : Right p n) : ∃ F : List Bool, iter (m_blocking_kinds_l1 p) (0, List.replicate n false) = some F ∧ F.length = n ∧ ∀ s : Nat, s < n → (F[s]? = some false ↔ DeadS p s) := by
 have hl3 := hR.l3
 obtain ⟨o, h1, h2, h3⟩ := iter_inv (f := m_blocking_kinds_l1 p) (fun i s => s.1 = (i : Int) ∧ s.2.length = n ∧ ∀ k : Nat, k < n → (s.2[k]? = some false ↔ ∀ e ∈ p.2.2.2.take i, e.1 ≠ (k : Int))) (fun F => F.length = n ∧ ∀ s : Nat, s < n → (F[s]? = some false ↔ DeadS p s)) p.2.2.2.length 0 (by omega) (fun i s hi ⟨e1, g1, g2⟩ => by
   obtain ⟨k, F⟩ := s
   dsimp only at e1 g1 g2
   subst e1
   have hx := hR.es _ (List.getElem_mem hi)
   obtain ⟨y, hy⟩ := Int.eq_ofNat_of_zero_le hx.1
   have hyn : y < n := by omega
   have hyF : y < F.length := by omega
   left
   rw [m_blocking_kinds_l1]
   dsimp only
   rw [if_pos (ct_lt hi), idx_at hi, Option.bind_some, hy, idx_at hyF, Option.bind_some, upd_at hyF, Option.bind_some, nxt (by omega)]
   refine ⟨_, rfl, rfl, by simp [g1], fun k hk => ?_⟩
   dsimp only
   rw [take_snoc _ i hi]
   by_cases e : y = k
   ·subst e
    rw [List.getElem?_set_self hyF]
    exact ⟨fun h => by simp at h, fun h => absurd hy (h _ (List.mem_append_right _ (List.mem_singleton.2 rfl)))⟩
   ·rw [List.getElem?_set_ne e, g2 k hk]
    constructor
    ·intro h x hx
     rcases List.mem_append.1 hx with hx | hx
     ·exact h x hx
     ·rw [List.mem_singleton.1 hx, hy]; omega
    ·exact fun h x hx => h x (List.mem_append_left _ hx)) (fun s ⟨e1, g1, g2⟩ => by
   obtain ⟨k, F⟩ := s
   dsimp only at e1 g1 g2
   subst e1
   refine ⟨F, ?_, g1, fun s hs => by rw [g2 s hs, List.take_length]; rfl⟩
   rw [m_blocking_kinds_l1]
   dsimp only
   rw [if_neg ct_ge]) (Nat.zero_le _) (0, List.replicate n false) ⟨rfl, by simp, fun k hk => by simp [hk]⟩
 exact ⟨o, h1, h2, h3⟩
theorem deads_ex {p : AutT} {n : Nat} (hR : Right p n) {R : List Int} {F : List Bool} (hRl : R.length = n) (hF : F.length = n) : ∃ D, iter (m_blocking_kinds_l2 R F) (0, ([] : List Int)) = some D ∧ Inc D ∧ (∀ s ∈ D, 0 ≤ s ∧ s < (n : Int)) ∧ ∀ s : Nat, s < n → ((s : Int) ∈ D ↔ R.getD s 0 < 0 ∧ F[s]? = some false) := by
 have hnl := hR.nl
 obtain ⟨o, h1, h2⟩ := iter_inv (f := m_blocking_kinds_l2 R F) (fun i s => s.1 = (i : Int) ∧ Inc s.2 ∧ (∀ x ∈ s.2, 0 ≤ x ∧ x < (i : Int)) ∧ ∀ k : Nat, k < i → ((k : Int) ∈ s.2 ↔ R.getD k 0 < 0 ∧ F[k]? = some false)) (fun D => Inc D ∧ (∀ s ∈ D, 0 ≤ s ∧ s < (n : Int)) ∧ ∀ s : Nat, s < n → ((s : Int) ∈ D ↔ R.getD s 0 < 0 ∧ F[s]? = some false)) n 0 (by omega) (fun i s hi ⟨e1, g1, g2, g3⟩ => by
   obtain ⟨k, D⟩ := s
   dsimp only at e1 g1 g2 g3
   subst e1
   have hiR : i < R.length := by omega
   have hiF : i < F.length := by omega
   have hDl := inc_len (n := i) (lo := 0) g1 g2 (Int.le_refl _)
   have hj : ∀ u, m_blocking_kinds_j1 ((i : Int), D) u = some (.inl (((i + 1 : Nat) : Int), u)) := fun u => by
    rw [m_blocking_kinds_j1]; dsimp only; rw [nxt (by omega)]
   have hb : (if decide (R[i] < 0) = true then (idx F (i : Int)).bind fun x => some (!x) else some false) = some (decide (R[i] < 0 ∧ F[i] = false)) := by
    by_cases h : R[i] < 0
    ·rw [if_pos (by simpa using h), idx_at hiF, Option.bind_some]; simp [h]
    ·rw [if_neg (by simpa using h)]; simp [h]
   have hnot : (i : Int) ∉ D := fun h => by have := g2 _ h; omega
   left
   rw [m_blocking_kinds_l2]
   dsimp only
   rw [hRl, if_pos (ct_lt hi), idx_at hiR, Option.bind_some, hb, Option.bind_some]
   have hg : R.getD i 0 = R[i] := by rw [List.getD_eq_getElem?_getD, List.getElem?_eq_getElem hiR]; rfl
   have hgF : F[i]? = some F[i] := List.getElem?_eq_getElem hiF
   by_cases hc : R[i] < 0 ∧ F[i] = false
   ·rw [if_pos (by simpa using hc), app_eq (by simp; omega), Option.bind_some, hj]
    refine ⟨_, rfl, rfl, ?_, fun x hx => ?_, fun k hk => ?_⟩
    ·dsimp only
     unfold Inc at g1 ⊢
     rw [List.pairwise_append]
     exact ⟨g1, List.pairwise_singleton _ _, fun a ha b hb => by rw [List.mem_singleton.1 hb]; exact (g2 a ha).2⟩
    ·dsimp only at hx
     rcases List.mem_append.1 hx with hx | hx
     ·have := g2 x hx; omega
     ·rw [List.mem_singleton.1 hx]; omega
    ·dsimp only
     rw [List.mem_append, List.mem_singleton]
     by_cases e : k < i
     ·rw [g3 k e]; exact ⟨fun h => h.resolve_right (by omega), .inl⟩
     ·obtain rfl : k = i := by omega
      rw [hg, hgF]
      exact ⟨fun _ => ⟨hc.1, by rw [hc.2]⟩, fun _ => .inr rfl⟩
   ·rw [if_neg (by simpa using hc), hj]
    refine ⟨_, rfl, rfl, g1, fun x hx => by have := g2 x hx; omega, fun k hk => ?_⟩
    dsimp only
    by_cases e : k < i
    ·exact g3 k e
    ·obtain rfl : k = i := by omega
     rw [hg, hgF]
     exact ⟨fun h => absurd h hnot, fun h => absurd ⟨h.1, Option.some.inj h.2⟩ hc⟩) (fun s ⟨e1, g1, g2, g3⟩ => by
   obtain ⟨k, D⟩ := s
   dsimp only at e1 g1 g2 g3
   subst e1
   refine ⟨D, ?_, g1, g2, g3⟩
   rw [m_blocking_kinds_l2]
   dsimp only
   rw [hRl, if_neg ct_ge]) (Nat.zero_le _) (0, []) ⟨rfl, List.Pairwise.nil, fun x hx => (by cases hx), fun k hk => absurd hk (by omega)⟩
 exact ⟨o, h1, h2⟩
noncomputable abbrev testsL (R E : List Int) : List (Int × (Option (Int → Option Bool))) := [(1, (some (m_blocking_kinds_1 R))), (2, (some (m_blocking_kinds_2 R))), (3, (some (m_blocking_kinds_3 E))), (5, (some (m_blocking_kinds_4 E))), (4, (some m_blocking_kinds_5))]
theorem tests_ex {R E : List Int} {s : Nat} (hR : s < R.length) (hE : s < E.length) : ∃ k x, m_slices_IndexFunc_blocking_test_blocking_test (testsL R E) (m_blocking_kinds_6 (s : Int)) = some k ∧ idx (testsL R E) k = some x ∧
  ((x.1 = 1 ∧ R[s] = 0) ∨ (x.1 = 2 ∧ 0 < R[s]) ∨ (x.1 = 3 ∧ R[s] < 0 ∧ E[s] = 0) ∨ (x.1 = 5 ∧ R[s] < 0 ∧ 0 < E[s]) ∨ (x.1 = 4 ∧ R[s] < 0 ∧ E[s] < 0)) := by
 have hP : ∀ (q : Int) (f : Int → Option Bool) (b : Bool), f (s : Int) = some b → m_blocking_kinds_6 (s : Int) (q, some f) = some b := fun q f b h => by
  rw [m_blocking_kinds_6]; dsimp only [Option.bind_some]; rw [h]; rfl
 have f1 := hP 1 (m_blocking_kinds_1 R) (R[s] == 0) (by rw [m_blocking_kinds_1, idx_at hR]; rfl)
 have f2 := hP 2 (m_blocking_kinds_2 R) (decide (R[s] > 0)) (by rw [m_blocking_kinds_2, idx_at hR]; rfl)
 have f3 := hP 3 (m_blocking_kinds_3 E) (E[s] == 0) (by rw [m_blocking_kinds_3, idx_at hE]; rfl)
 have f4 := hP 5 (m_blocking_kinds_4 E) (decide (E[s] > 0)) (by rw [m_blocking_kinds_4, idx_at hE]; rfl)
 have f5 := hP 4 m_blocking_kinds_5 true (by rw [m_blocking_kinds_5])
 have l0 : m_slices_IndexFunc_blocking_test_blocking_test_l1 (testsL R E) (m_blocking_kinds_6 (s : Int)) 0 = (m_blocking_kinds_6 (s : Int) (1, some (m_blocking_kinds_1 R))).bind fun r => if r then some (.inr (.inr 0)) else some (.inl 1) := rfl
 have l1 : m_slices_IndexFunc_blocking_test_blocking_test_l1 (testsL R E) (m_blocking_kinds_6 (s : Int)) 1 = (m_blocking_kinds_6 (s : Int) (2, some (m_blocking_kinds_2 R))).bind fun r => if r then some (.inr (.inr 1)) else some (.inl 2) := rfl
 have l2 : m_slices_IndexFunc_blocking_test_blocking_test_l1 (testsL R E) (m_blocking_kinds_6 (s : Int)) 2 = (m_blocking_kinds_6 (s : Int) (3, some (m_blocking_kinds_3 E))).bind fun r => if r then some (.inr (.inr 2)) else some (.inl 3) := rfl
 have l3 : m_slices_IndexFunc_blocking_test_blocking_test_l1 (testsL R E) (m_blocking_kinds_6 (s : Int)) 3 = (m_blocking_kinds_6 (s : Int) (5, some (m_blocking_kinds_4 E))).bind fun r => if r then some (.inr (.inr 3)) else some (.inl 4) := rfl
 have l4 : m_slices_IndexFunc_blocking_test_blocking_test_l1 (testsL R E) (m_blocking_kinds_6 (s : Int)) 4 = (m_blocking_kinds_6 (s : Int) (4, some m_blocking_kinds_5)).bind fun r => if r then some (.inr (.inr 4)) else some (.inl 5) := rfl
 rw [f1, Option.bind_some] at l0
 rw [f2, Option.bind_some] at l1
 rw [f3, Option.bind_some] at l2
 rw [f4, Option.bind_some] at l3
 rw [f5, Option.bind_some, if_pos rfl] at l4
 by_cases h1 : R[s] = 0
 ·rw [if_pos (by simpa using h1)] at l0
  have hi : iter (m_slices_IndexFunc_blocking_test_blocking_test_l1 (testsL R E) (m_blocking_kinds_6 (s : Int))) 0 = some (.inr 0) := iter_of (n := 1) (by omega) (by rw [iterF_succ, l0])
  exact ⟨0, _, by rw [m_slices_IndexFunc_blocking_test_blocking_test, hi]; rfl, rfl, .inl ⟨rfl, h1⟩⟩
 ·rw [if_neg (by simpa using h1)] at l0
  by_cases h2 : 0 < R[s]
  ·rw [if_pos (by simpa using h2)] at l1
   have hi : iter (m_slices_IndexFunc_blocking_test_blocking_test_l1 (testsL R E) (m_blocking_kinds_6 (s : Int))) 0 = some (.inr 1) := iter_of (n := 2) (by omega) (by rw [iterF_succ, l0]; dsimp only; rw [iterF_succ, l1])
   exact ⟨1, _, by rw [m_slices_IndexFunc_blocking_test_blocking_test, hi]; rfl, rfl, .inr (.inl ⟨rfl, h2⟩)⟩
  ·rw [if_neg (by simpa using h2)] at l1
   by_cases h3 : E[s] = 0
   ·rw [if_pos (by simpa using h3)] at l2
    have hi : iter (m_slices_IndexFunc_blocking_test_blocking_test_l1 (testsL R E) (m_blocking_kinds_6 (s : Int))) 0 = some (.inr 2) := iter_of (n := 3) (by omega) (by rw [iterF_succ, l0]; dsimp only; rw [iterF_succ, l1]; dsimp only; rw [iterF_succ, l2])
    exact ⟨2, _, by rw [m_slices_IndexFunc_blocking_test_blocking_test, hi]; rfl, rfl, .inr (.inr (.inl ⟨rfl, by omega, h3⟩))⟩
   ·rw [if_neg (by simpa using h3)] at l2
    by_cases h4 : 0 < E[s]
    ·rw [if_pos (by simpa using h4)] at l3
     have hi : iter (m_slices_IndexFunc_blocking_test_blocking_test_l1 (testsL R E) (m_blocking_kinds_6 (s : Int))) 0 = some (.inr 3) := iter_of (n := 4) (by omega) (by rw [iterF_succ, l0]; dsimp only; rw [iterF_succ, l1]; dsimp only; rw [iterF_succ, l2]; dsimp only; rw [iterF_succ, l3])
     exact ⟨3, _, by rw [m_slices_IndexFunc_blocking_test_blocking_test, hi]; rfl, rfl, .inr (.inr (.inr (.inl ⟨rfl, by omega, h4⟩)))⟩
    ·rw [if_neg (by simpa using h4)] at l3
     have hi : iter (m_slices_IndexFunc_blocking_test_blocking_test_l1 (testsL R E) (m_blocking_kinds_6 (s : Int))) 0 = some (.inr 4) := iter_of (n := 5) (by omega) (by rw [iterF_succ, l0]; dsimp only; rw [iterF_succ, l1]; dsimp only; rw [iterF_succ, l2]; dsimp only; rw [iterF_succ, l3]; dsimp only; rw [iterF_succ, l4])
     exact ⟨4, _, by rw [m_slices_IndexFunc_blocking_test_blocking_test, hi]; rfl, rfl, .inr (.inr (.inr (.inr ⟨rfl, by omega, by omega⟩)))⟩
theorem NoM.step {p : AutT} {x y : Int} (h : NoM p x) (hr : Rch (edsOf p) x y) : NoM p y := noM_iff.2 fun z hz h2 => noM_iff.1 h z hz (hr.trans h2)
theorem bkinds_ex {p : AutT} {n : Nat} (hR : Right p n) : ∃ ks, m_blocking_kinds p = some ks ∧ KindsOf p n ks := by
 have hnl := hR.nl
 obtain ⟨F, hF, hFl, hFd⟩ := busy_ex hR
 have hRl := bk_len hR hR.msr
 obtain ⟨D, hD, hDi, hDr, hDm⟩ := deads_ex hR hRl hFl
 have hDl := inc_len (n := n) (lo := 0) hDi hDr (Int.le_refl _)
 have hEl := bk_len hR hDr
 have hmf : mkL p.2.1 false = some (List.replicate n false) := by unfold mkL; rw [hR.nn, if_pos ⟨by omega, by omega⟩, Int.toNat_natCast]
 have hmz : mkL p.2.1 (0 : Int) = some (List.replicate n 0) := by unfold mkL; rw [hR.nn, if_pos ⟨by omega, by omega⟩, Int.toNat_natCast]
 have hkind : ∀ (s : Nat) (k : Int) (hs : s < n) (h1 : s < (backward n (edsOf p) p.2.2.1).length) (h2 : s < (backward n (edsOf p) D).length), ((k = 1 ∧ (backward n (edsOf p) p.2.2.1)[s] = 0) ∨ (k = 2 ∧ 0 < (backward n (edsOf p) p.2.2.1)[s]) ∨ (k = 3 ∧ (backward n (edsOf p) p.2.2.1)[s] < 0 ∧ (backward n (edsOf p) D)[s] = 0) ∨ (k = 5 ∧ (backward n (edsOf p) p.2.2.1)[s] < 0 ∧ 0 < (backward n (edsOf p) D)[s]) ∨ (k = 4 ∧ (backward n (edsOf p) p.2.2.1)[s] < 0 ∧ (backward n (edsOf p) D)[s] < 0)) → KindIs p s k := by
  intro s k hs h1 h2 h
  have d1 := bk_dist hR hR.msr hs
  have d2 := bk_dist hR hDr hs
  rw [List.getD_eq_getElem?_getD, List.getElem?_eq_getElem h1, Option.getD_some] at d1
  rw [List.getD_eq_getElem?_getD, List.getElem?_eq_getElem h2, Option.getD_some] at d2
  have hms := hDm s hs
  rw [List.getD_eq_getElem?_getD, List.getElem?_eq_getElem h1, Option.getD_some, hFd s hs] at hms
  have hrange : ∀ y, Rch (edsOf p) s y → 0 ≤ y ∧ y < (n : Int) := fun y => hR.rch ⟨by omega, by omega⟩
  have hall : ∀ y : Nat, y < n → ((y : Int) ∈ D ↔ NoM p y ∧ DeadS p y) := by
   intro y hy
   rw [hDm y hy, hFd y hy]
   have d3 := bk_dist hR hR.msr hy
   constructor
   ·rintro ⟨g1, g2⟩
    rcases d3 with ⟨_, h3⟩ | ⟨k, h3, _⟩
    ·exact ⟨h3, g2⟩
    ·omega
   ·rintro ⟨g1, g2⟩
    rcases d3 with ⟨h3, _⟩ | ⟨k, _, h3, _⟩
    ·exact ⟨by omega, g2⟩
    ·exact absurd h3 (g1 k)
  generalize (backward n (edsOf p) p.2.2.1)[s] = R at *
  generalize (backward n (edsOf p) D)[s] = E at *
  have hno : R < 0 → NoM p s := fun h0 => by
   rcases d1 with ⟨_, h3⟩ | ⟨k, h3, _⟩
   ·exact h3
   ·omega
  rcases h with ⟨rfl, rfl⟩ | ⟨rfl, g1⟩ | ⟨rfl, g1, rfl⟩ | ⟨rfl, g1, g2⟩ | ⟨rfl, g1, g2⟩
  ·rcases d1 with ⟨h3, _⟩ | ⟨k, h3, h4, _⟩
   ·omega
   ·obtain rfl : k = 0 := by omega
    exact .inl ⟨rfl, h4⟩
  ·rcases d1 with ⟨h3, _⟩ | ⟨k, h3, h4, h5⟩
   ·omega
   ·exact .inr (.inl ⟨rfl, fun h => h5 0 (by omega) h, fun h => h k h4⟩)
  ·rcases d2 with ⟨h3, _⟩ | ⟨k, h3, h4, _⟩
   ·omega
   ·obtain rfl : k = 0 := by omega
    exact .inr (.inr (.inl ⟨rfl, hno g1, ((hall s hs).1 h4).2⟩))
  ·have hnd : ¬ DeadS p s := fun hd => by
    have := (hall s hs).2 ⟨hno g1, hd⟩
    rcases d2 with ⟨h3, _⟩ | ⟨k, h3, h4, h5⟩
    ·omega
    ·exact h5 0 (by omega) this
   rcases d2 with ⟨h3, _⟩ | ⟨k, h3, h4, h5⟩
   ·omega
   ·obtain ⟨y, hy, h6⟩ := reachIn_iff.1 h4
    have hyr := hDr y hy
    have h7 := (hall y.toNat (by omega)).1 (by rw [Int.toNat_of_nonneg hyr.1]; exact hy)
    rw [Int.toNat_of_nonneg hyr.1] at h7
    exact .inr (.inr (.inr (.inl ⟨rfl, hno g1, hnd, y, ⟨k, h6⟩, h7.2⟩)))
  ·have hz : ∀ y, Rch (edsOf p) s y → ¬ DeadS p y := fun y hy hd => by
    have hyr := hrange y hy
    have h7 := (hall y.toNat (by omega)).2 (by rw [Int.toNat_of_nonneg hyr.1]; exact ⟨(hno g1).step hy, hd⟩)
    rw [Int.toNat_of_nonneg hyr.1] at h7
    obtain ⟨k, hk⟩ := hy
    rcases d2 with ⟨_, h3⟩ | ⟨k', h3, _⟩
    ·exact h3 k (reachIn_iff.2 ⟨y, h7, hk⟩)
    ·omega
   exact .inr (.inr (.inr (.inr ⟨rfl, hno g1, hz s (Rch.refl _ _), hz⟩)))
 obtain ⟨o, h1, h2⟩ := iter_inv (f := m_blocking_kinds_l3 (backward n (edsOf p) p.2.2.1) (backward n (edsOf p) D) (List.replicate n 0)) (fun i s => s.1 = (i : Int) ∧ s.2.length = n ∧ ∀ k (h : k < s.2.length), k < i → KindIs p (k : Int) s.2[k]) (fun o => KindsOf p n o) n 0 (by omega) (fun i s hi ⟨e1, g1, g2⟩ => by
   obtain ⟨k, O⟩ := s
   dsimp only at e1 g1 g2
   subst e1
   have hiO : i < O.length := by omega
   obtain ⟨k, x, t1, t2, t3⟩ := tests_ex (R := backward n (edsOf p) p.2.2.1) (E := backward n (edsOf p) D) (s := i) (by omega) (by omega)
   have hK := hkind i x.1 hi (by omega) (by omega) t3
   left
   rw [m_blocking_kinds_l3]
   dsimp only
   rw [List.length_replicate, if_pos (ct_lt hi), t1, Option.bind_some, t2, Option.bind_some, idx_at hiO, Option.bind_some, upd_at hiO, Option.bind_some, nxt (by omega)]
   refine ⟨_, rfl, rfl, by simp [g1], fun j hj hji => ?_⟩
   dsimp only
   rw [List.getElem_set]
   split
   ·rename_i e; subst e; exact hK
   ·exact g2 j (by simpa using hj) (by omega)) (fun s ⟨e1, g1, g2⟩ => by
   obtain ⟨k, O⟩ := s
   dsimp only at e1 g1 g2
   subst e1
   refine ⟨O, ?_, g1, fun i hi => g2 i hi (by omega)⟩
   rw [m_blocking_kinds_l3]
   dsimp only
   rw [List.length_replicate, if_neg ct_ge]) (Nat.zero_le _) (0, List.replicate n 0) ⟨rfl, by simp, fun k hk hk0 => absurd hk0 (by omega)⟩
 refine ⟨o, ?_, h2⟩
 rw [m_blocking_kinds, sprd hR hR.l2 hR.msr, Option.bind_some, hmf, Option.bind_some, hF, Option.bind_some, hD, Option.bind_some, sprd hR (by omega) hDr, Option.bind_some, hmz, Option.bind_some, h1]
 rfl
theorem escape_loop {ks : List Int} {k : Int} (hl : ks.length ≤ 1000000) : iter (m_blocking_Escape_l1 k ks) (0, ([] : List Int)) = some (choL ks k k ks.length) := by
 have h := iter_inv (f := m_blocking_Escape_l1 k ks) (fun i s => i ≤ ks.length ∧ s = ((i : Int), choL ks k k i)) (fun o => o = choL ks k k ks.length) ks.length 0 (by omega) ?_ ?_ (Nat.zero_le _) (0, []) ⟨Nat.zero_le _, rfl⟩
 ·obtain ⟨o, h1, rfl⟩ := h
  exact h1
 ·rintro i s hi ⟨_, rfl⟩
  refine .inl ⟨_, ?_, by omega, rfl⟩
  have hn := choL_len ks k k i
  rw [m_blocking_Escape_l1]
  dsimp only
  have hg : ks.getD i 0 = ks[i] := by rw [List.getD_eq_getElem?_getD, List.getElem?_eq_getElem hi]; rfl
  rw [if_pos (ct_lt hi), idx_at hi, Option.bind_some, choL_succ, hg]
  by_cases h1 : ks[i] = k
  ·rw [if_pos (by simpa using h1), if_pos (by omega), app_eq (by simp; omega), Option.bind_some, m_blocking_Escape_j1]
   dsimp only
   rw [nxt (by omega)]
  ·rw [if_neg (by simpa using h1), if_neg (by omega), m_blocking_Escape_j1]
   dsimp only
   rw [nxt (by omega)]
 ·rintro s ⟨_, rfl⟩
  refine ⟨_, ?_, rfl⟩
  rw [m_blocking_Escape_l1]
  dsimp only
  rw [if_neg ct_ge]
theorem union_nil {xs : List Int} (h : Alp xs) : m_alphabet_Union [] xs = some xs := by
 have hl := h.len
 obtain ⟨o, h1, rfl⟩ := iter_inv (f := m_alphabet_merge_l1 m_alphabet_Union_1) (fun j s => j ≤ xs.length ∧ s = (xs.take j, ([] : List Int), xs.drop j)) (fun o => o = xs) xs.length 0 (by omega) (fun j s hj ⟨_, e1⟩ => by
   subst e1
   refine .inl ⟨(xs.take (j + 1), [], xs.drop (j + 1)), ?_, hj, rfl⟩
   rw [List.drop_eq_getElem_cons hj, m_alphabet_merge_l1]
   dsimp only
   rw [if_pos (by simp; omega), if_neg (by simp), m_alphabet_merge_j1]
   dsimp only
   rw [if_pos (by simp; omega), if_pos (by simp), m_alphabet_merge_j2, if_neg (by simp), m_alphabet_merge_j3, if_pos rfl]
   dsimp only
   rw [idx_hd, Option.bind_some, slc_tl, Option.bind_some, m_alphabet_merge_j4, show m_alphabet_Union_1 false true = some true from rfl, Option.bind_some, if_pos rfl]
   dsimp only
   rw [app_eq (by simp; omega), Option.bind_some, take_snoc xs j hj]) (fun s ⟨_, e1⟩ => by
   subst e1
   refine ⟨xs, ?_, rfl⟩
   rw [List.drop_length, List.take_length, m_alphabet_merge_l1]
   rfl) (Nat.zero_le _) ([], [], xs) ⟨Nat.zero_le _, rfl⟩
 rw [m_alphabet_Union, m_alphabet_merge, h1]
 rfl
theorem events_one {b : AutT} (h : Alp b.1) : m_product_events [b] = some b.1 := by
 obtain ⟨o, h1, rfl⟩ := iter_inv (f := m_product_events_l1 [b]) (fun j s => j ≤ 1 ∧ s = ((j : Int), if j = 0 then [] else b.1)) (fun o => o = b.1) 1 0 (by omega) (fun j s hj ⟨_, e1⟩ => by
   have hj0 : j = 0 := by omega
   subst hj0
   subst e1
   refine .inl ⟨((1 : Nat), b.1), ?_, by omega, rfl⟩
   rw [m_product_events_l1]
   dsimp only
   rw [if_pos (by simp), show idx [b] ((0 : Nat) : Int) = some b from rfl, Option.bind_some, if_pos rfl, union_nil h, Option.bind_some]
   rfl) (fun s ⟨_, e1⟩ => by
   subst e1
   exact ⟨_, rfl, rfl⟩) (by omega) (0, []) ⟨by omega, rfl⟩
 rw [m_product_events, h1]
 rfl
section
variable {κ β : Type} [DecidableEq κ] [BEq κ] [LawfulBEq κ]
theorem kget_cons (p : κ × β) (m : List (κ × β)) (q : κ) : kget (p :: m) q = if q = p.1 then some p.2 else kget m q := by
 unfold kget
 by_cases h : q = p.1
 ·rw [if_pos h, List.find?_cons_of_pos (by simp [h])]; rfl
 ·rw [if_neg h, List.find?_cons_of_neg (by simp [h])]
omit [DecidableEq κ] [LawfulBEq κ] in
theorem kput_nil (k : κ) (v : β) : kput [] k v = [(k, v)] := by
 unfold kput; rw [if_neg (by simp)]; rfl
theorem kput_cons (p : κ × β) (m : List (κ × β)) (k : κ) (v : β) : kput (p :: m) k v = if k = p.1 then (k, v) :: m else p :: kput m k v := by
 unfold kput
 rw [List.map_cons, kidx_cons]
 by_cases h : k = p.1
 ·subst h; rw [if_pos (by simp), if_pos (by simp), if_pos rfl]; rfl
 ·have e : (if (k == p.1) = true then 0 else kidx (m.map (·.1)) k + 1) = kidx (m.map (·.1)) k + 1 := if_neg (by simp [h])
  rw [e, if_neg h]
  by_cases h2 : kidx (m.map (·.1)) k < m.length
  ·rw [if_pos h2, if_pos (by rw [List.length_cons]; omega), List.set_cons_succ]
  ·rw [if_neg h2, if_neg (by rw [List.length_cons]; omega)]; rfl
theorem kget_kput {k q : κ} {v : β} : ∀ (m : List (κ × β)), kget (kput m k v) q = if q = k then some v else kget m q
 | [] => by rw [kput_nil, kget_cons]
 | p :: m => by
  rw [kput_cons]
  by_cases h : k = p.1
  ·rw [if_pos h, kget_cons, kget_cons]
   by_cases h2 : q = k
   ·rw [if_pos h2, if_pos h2]
   ·rw [if_neg h2, if_neg h2, if_neg (by rw [← h]; exact h2)]
  ·rw [if_neg h, kget_cons, kget_cons, kget_kput m]
   by_cases h2 : q = p.1
   ·rw [if_pos h2, if_neg (by rw [h2]; exact fun e => h e.symm), if_pos h2]
   ·rw [if_neg h2, if_neg h2]
end
theorem open_one {b : AutT} {n : Nat} (hr : Right b n) : ∃ o, m_product_open [b] = some ([b], b.1, [o]) ∧ ∀ x ∈ b.2.2.2, kget o (x.1, x.2.1) = some x.2.2 := by
 have hl := hr.l3
 obtain ⟨o, h1, h2⟩ := iter_inv (f := m_product_open_l2 b) (fun i s => s.1 = (i : Int) ∧ ∀ k (h : k < b.2.2.2.length), k < i → kget s.2 (b.2.2.2[k].1, b.2.2.2[k].2.1) = some b.2.2.2[k].2.2) (fun o => ∀ x ∈ b.2.2.2, kget o (x.1, x.2.1) = some x.2.2) b.2.2.2.length 0 (by omega) (fun i s hi ⟨e1, g1⟩ => by
   obtain ⟨k, out⟩ := s
   dsimp only at e1 g1
   subst e1
   refine .inl ⟨(((i + 1 : Nat) : Int), kput out (b.2.2.2[i].1, b.2.2.2[i].2.1) b.2.2.2[i].2.2), ?_, rfl, fun k hk hki => ?_⟩
   ·rw [m_product_open_l2]
    dsimp only
    rw [if_pos (ct_lt hi), idx_at hi, Option.bind_some, nxt (by omega)]
   ·dsimp only
    rw [kget_kput]
    by_cases hk2 : k = i
    ·subst hk2; rw [if_pos rfl]
    ·rw [if_neg ?_, g1 k hk (by omega)]
     intro e
     have h3 := List.pairwise_iff_getElem.1 hr.so k i hk hi (by omega)
     simp only [Prod.mk.injEq] at e
     omega) (fun s ⟨e1, g1⟩ => by
   obtain ⟨k, out⟩ := s
   dsimp only at e1 g1
   subst e1
   refine ⟨out, ?_, fun x hx => ?_⟩
   ·rw [m_product_open_l2]
    dsimp only
    rw [if_neg ct_ge]
   ·obtain ⟨k, hk, rfl⟩ := List.getElem_of_mem hx
    exact g1 k hk hk) (Nat.zero_le _) (0, []) ⟨rfl, fun k hk h => by omega⟩
 obtain ⟨o', h3, rfl⟩ := iter_inv (f := m_product_open_l1 [b]) (fun j s => j ≤ 1 ∧ s = ((j : Int), if j = 0 then [] else [o])) (fun o' => o' = [o]) 1 0 (by omega) (fun j s hj ⟨_, e1⟩ => by
   have hj0 : j = 0 := by omega
   subst hj0
   subst e1
   refine .inl ⟨((1 : Nat), [o]), ?_, by omega, rfl⟩
   rw [m_product_open_l1]
   dsimp only
   rw [if_pos (by simp), show idx [b] ((0 : Nat) : Int) = some b from rfl, Option.bind_some, h1, Option.bind_some, if_pos rfl]
   rfl) (fun s ⟨_, e1⟩ => by
   subst e1
   exact ⟨_, rfl, rfl⟩) (by omega) (0, []) ⟨by omega, rfl⟩
 refine ⟨o, ?_, h2⟩
 rw [m_product_open, events_one ⟨hr.ali, hr.alr⟩, Option.bind_some, h3]
 rfl
def Gd (fl : List Bool) (s : Int) : Prop := fl.getD s.toNat false = true
theorem mid_filter {α : Type} (q : α → Bool) : ∀ (xs : List α) (i j : Nat), i ≤ j → j ≤ xs.length → (∀ k (h : k < xs.length), q xs[k] = decide (i ≤ k ∧ k < j)) → (xs.take j).drop i = xs.filter q := by
 intro xs i j hij hj h
 have e1 : xs = xs.take i ++ ((xs.take j).drop i ++ xs.drop j) := by
  have h1 : (xs.take j).take i = xs.take i := by rw [List.take_take, Nat.min_eq_left hij]
  rw [← List.append_assoc, ← h1, List.take_append_drop, List.take_append_drop]
 have f1 : (xs.take i).filter q = [] := by
  refine List.filter_eq_nil_iff.2 fun x hx => ?_
  obtain ⟨k, hk, rfl⟩ := List.mem_iff_getElem.1 hx
  rw [List.length_take] at hk
  rw [List.getElem_take, h k (by omega)]
  simp; omega
 have f2 : ((xs.take j).drop i).filter q = (xs.take j).drop i := by
  refine List.filter_eq_self.2 fun x hx => ?_
  obtain ⟨k, hk, rfl⟩ := List.mem_iff_getElem.1 hx
  rw [List.length_drop, List.length_take] at hk
  rw [List.getElem_drop, List.getElem_take, h (i + k) (by omega)]
  simp; omega
 have f3 : (xs.drop j).filter q = [] := by
  refine List.filter_eq_nil_iff.2 fun x hx => ?_
  obtain ⟨k, hk, rfl⟩ := List.mem_iff_getElem.1 hx
  rw [List.length_drop] at hk
  rw [List.getElem_drop, h (j + k) (by omega)]
  simp
 conv => rhs; rw [e1]
 rw [List.filter_append, List.filter_append, f1, f2, f3]
 simp

theorem down_lt {α : Type} (p : α → Bool) : ∀ (xs : List α), (xs.Pairwise fun x y => p y = true → p x = true) → ∀ k (h : k < xs.length), p xs[k] = decide (k < xs.countP p)
 | [], _, k, h => by simp at h
 | x :: xs, hp, k, h => by
  rw [List.pairwise_cons] at hp
  cases hx : p x with
  | true =>
   rw [List.countP_cons_of_pos hx]
   cases k with
   | zero => simp [hx]
   | succ k =>
    rw [List.getElem_cons_succ, down_lt p xs hp.2 k (by simpa using h)]
    simp
  | false =>
   have h0 : xs.countP p = 0 := List.countP_eq_zero.2 fun y hy hpy => by have := hp.1 y hy hpy; rw [hx] at this; cases this
   rw [List.countP_cons_of_neg (by simp [hx]), h0]
   cases k with
   | zero => simp [hx]
   | succ k =>
    rw [List.getElem_cons_succ, down_lt p xs hp.2 k (by simpa using h), h0]
    simp
theorem countP_lt (i : Int) : ∀ es : List (Int × Int × Int), (es.countP fun x => decide (x.1 + 1 = i + 1)) + (es.countP fun x => decide (x.1 < i)) = es.countP fun x => decide (x.1 < i + 1)
 | [] => rfl
 | x :: es => by
  have := countP_lt i es
  simp only [List.countP_cons, decide_eq_true_eq]
  rcases Int.lt_trichotomy x.1 i with h | h | h
  ·rw [if_neg (by omega), if_pos h, if_pos (by omega)]; omega
  ·rw [if_pos (by omega), if_neg (by omega), if_pos (by omega)]; omega
  ·rw [if_neg (by omega), if_neg (by omega), if_neg (by omega)]; omega
structure FsOk (a : AutT) (n : Nat) (fs : List Int) (F : Nat → Nat) : Prop where
 len : fs.length = n + 1
 val : ∀ s (h : s < fs.length), fs[s] = (F s : Int)
 mono : ∀ q, q < n → F q ≤ F (q + 1) ∧ F (q + 1) ≤ a.2.2.2.length
 out : ∀ q, q < n → (a.2.2.2.take (F (q + 1))).drop (F q) = a.2.2.2.filter fun x => x.1 == (q : Int)
theorem newGraph_full {a : AutT} {n : Nat} (hr : Right a n) : ∃ fs F, m_reach_newGraph a = some (a, fs) ∧ FsOk a n fs F := by
 have hn := hr.nl
 have hl := hr.l3
 have hnn := hr.nn
 have hW : ∀ i : Nat, i ≤ n → W ((i : Int) + 1) = ((i + 1 : Nat) : Int) := fun i hi => nxt (by omega)
 obtain ⟨o, h1, ho, hv⟩ := iter_inv (f := m_reach_newGraph_l1 a) (fun i s => s.1 = (i : Int) ∧ s.2.length = n + 1 ∧ ∀ u (_ : u < s.2.length), s.2[u] = (((a.2.2.2.take i).countP fun x => decide (x.1 + 1 = (u : Int)) : Nat) : Int)) (fun o => o.length = n + 1 ∧ ∀ u (_ : u < o.length), o[u] = ((a.2.2.2.countP fun x => decide (x.1 + 1 = (u : Int)) : Nat) : Int)) a.2.2.2.length 0 (by omega) (fun i s hi ⟨e1, g1, g2⟩ => by
   obtain ⟨k, fs⟩ := s
   dsimp only at e1 g1 g2
   subst e1
   have hx := hr.es _ (List.getElem_mem hi)
   obtain ⟨f, hf⟩ : ∃ f : Nat, a.2.2.2[i].1 = f := ⟨a.2.2.2[i].1.toNat, by omega⟩
   have hfn : f < n := by omega
   have hc : ((a.2.2.2.take i).countP fun x => decide (x.1 + 1 = ((f + 1 : Nat) : Int))) ≤ i := Nat.le_trans List.countP_le_length (by rw [List.length_take]; omega)
   refine .inl ⟨(((i + 1 : Nat) : Int), fs.set (f + 1) (W (fs[f + 1]'(by omega) + 1))), ?_, rfl, by simp [g1], fun u hu => ?_⟩
   ·rw [m_reach_newGraph_l1]
    dsimp only
    rw [if_pos (ct_lt hi), idx_at hi, Option.bind_some, hf, hW f (by omega), idx_at (by omega), Option.bind_some, Option.bind_some, upd_at (by omega), Option.bind_some, nxt (by omega)]
   ·have hu2 : u < fs.length := by simpa using hu
    rw [List.take_succ_eq_append_getElem hi, List.countP_append, List.countP_singleton, hf]
    dsimp only
    rw [List.getElem_set]
    by_cases h : f + 1 = u
    ·subst h
     rw [if_pos rfl, g2, nxt (by omega), if_pos (by simp)]
    ·rw [if_neg h, g2, if_neg (by simp; omega)]
     rfl) (fun s ⟨e1, g1, g2⟩ => by
   obtain ⟨k, fs⟩ := s
   dsimp only at e1 g1 g2
   subst e1
   refine ⟨fs, ?_, g1, by rw [List.take_length] at g2; exact g2⟩
   rw [m_reach_newGraph_l1]
   dsimp only
   rw [if_neg ct_ge]) (Nat.zero_le _) (0, List.replicate (n + 1) 0) ⟨rfl, by simp, fun u hu => by simp⟩
 have hle : ∀ p : Int × Int × Int → Bool, a.2.2.2.countP p ≤ 1000000 := fun p => Nat.le_trans List.countP_le_length hl
 obtain ⟨o2, h2, ho2, hv2⟩ := iter_inv (f := m_reach_newGraph_l2 a) (fun i s => s.1 = (i : Int) ∧ s.2.length = n + 1 ∧ ∀ u (_ : u < s.2.length), s.2[u] = if u ≤ i then ((a.2.2.2.countP fun x => decide (x.1 < (u : Int)) : Nat) : Int) else ((a.2.2.2.countP fun x => decide (x.1 + 1 = (u : Int)) : Nat) : Int)) (fun o => o.length = n + 1 ∧ ∀ u (_ : u < o.length), o[u] = ((a.2.2.2.countP fun x => decide (x.1 < (u : Int)) : Nat) : Int)) n 0 (by omega) (fun i s hi ⟨e1, g1, g2⟩ => by
   obtain ⟨k, fs⟩ := s
   dsimp only at e1 g1 g2
   subst e1
   refine .inl ⟨(((i + 1 : Nat) : Int), fs.set (i + 1) (W (fs[i + 1]'(by omega) + fs[i]'(by omega)))), ?_, rfl, by simp [g1], fun u hu => ?_⟩
   ·rw [m_reach_newGraph_l2]
    dsimp only
    rw [hnn, if_pos (by simp; omega), hW i (by omega), idx_at (by omega), Option.bind_some, idx_at (by omega), Option.bind_some, Option.bind_some, upd_at (by omega), Option.bind_some]
   ·have hu2 : u < fs.length := by simpa using hu
    dsimp only
    rw [List.getElem_set]
    by_cases h : i + 1 = u
    ·subst h
     have e3 := countP_lt (i : Int) a.2.2.2
     have e4 := hle fun x => decide (x.1 < (i : Int) + 1)
     rw [if_pos rfl, if_pos (Nat.le_refl _), g2, g2, if_neg (by omega), if_pos (Nat.le_refl _), show ((i + 1 : Nat) : Int) = (i : Int) + 1 from rfl, W_of (by omega) (by omega)]
     omega
    ·rw [if_neg h, g2]
     by_cases h3 : u ≤ i
     ·rw [if_pos h3, if_pos (by omega)]
     ·rw [if_neg h3, if_neg (by omega)]) (fun s ⟨e1, g1, g2⟩ => by
   obtain ⟨k, fs⟩ := s
   dsimp only at e1 g1 g2
   subst e1
   refine ⟨fs, ?_, g1, fun u hu => by rw [g2 u hu, if_pos (by omega)]⟩
   rw [m_reach_newGraph_l2]
   dsimp only
   rw [hnn, if_neg (by simp)]) (Nat.zero_le _) (0, o) ⟨rfl, ho, fun u hu => by
   rw [hv u hu]
   by_cases h : u ≤ 0
   ·rw [if_pos h]
    obtain rfl : u = 0 := by omega
    rw [List.countP_eq_zero.2 fun x hx => by have := hr.es x hx; simp; omega, List.countP_eq_zero.2 fun x hx => by have := hr.es x hx; simp; omega]
   ·rw [if_neg h]⟩
 have hmono : ∀ q : Nat, (a.2.2.2.countP fun x => decide (x.1 < (q : Int))) ≤ a.2.2.2.countP fun x => decide (x.1 < ((q + 1 : Nat) : Int)) := fun q => by
  have e3 := countP_lt (q : Int) a.2.2.2
  rw [show ((q + 1 : Nat) : Int) = (q : Int) + 1 from rfl]; omega
 refine ⟨o2, fun s => a.2.2.2.countP fun x => decide (x.1 < (s : Int)), ?_, ho2, hv2, fun q _ => ⟨hmono q, List.countP_le_length⟩, fun q hq => ?_⟩
 ·rw [m_reach_newGraph, hnn, hW n (Nat.le_refl _), mkL_eq (by omega) (by omega), Option.bind_some, Int.toNat_natCast, h1, Option.bind_some, h2]
  rfl
 ·have hdn : ∀ (u : Nat) k (h : k < a.2.2.2.length), decide (a.2.2.2[k].1 < (u : Int)) = decide (k < a.2.2.2.countP fun x => decide (x.1 < (u : Int))) := fun u k h => down_lt (fun x => decide (x.1 < (u : Int))) a.2.2.2 (hr.so.imp fun {x y} hxy hy => by simp at hy ⊢; omega) k h
  exact mid_filter (fun x : Int × Int × Int => x.1 == (q : Int)) a.2.2.2 (a.2.2.2.countP fun x => decide (x.1 < (q : Int))) (a.2.2.2.countP fun x => decide (x.1 < ((q + 1 : Nat) : Int))) (hmono q) List.countP_le_length (fun k h => by
   have d1 := hdn q k h
   have d2 := hdn (q + 1) k h
   rw [decide_eq_decide] at d1 d2
   rw [Bool.eq_iff_iff, beq_iff_eq, decide_eq_true_eq]
   omega)
theorem rng_inv {S : Type} {f : Nat → S → Option S} (P : Nat → S → Prop) {N : Nat} (hs : ∀ k s, k < N → P k s → ∃ s', f k s = some s' ∧ P (k + 1) s') : ∀ (m k : Nat) (s : S), k + m = N → P k s → ∃ o, rngF f m k s = some o ∧ P N o
 | 0, k, s, e, h => ⟨s, rfl, by rw [← e]; exact h⟩
 | m + 1, k, s, e, h => by
  obtain ⟨s', h1, h2⟩ := hs k s (by omega) h
  obtain ⟨o, h3, h4⟩ := rng_inv P hs m (k + 1) s' (by omega) h2
  exact ⟨o, by rw [rngF, h1]; exact h3, h4⟩
end Go.Proofs.YtfbapajcheammaaGreatDoor

namespace Go.Proofs.YtfbapajcheammaaGreatDoor
theorem int_nodup_len {n : Nat} {l : List Int} (hn : l.Nodup) (hr : ∀ x ∈ l, 0 ≤ x ∧ x < (n : Int)) : l.length ≤ n := by
 have h := nodup_len n (l.map Int.toNat) (by
  unfold List.Nodup
  rw [List.pairwise_map]
  refine List.Pairwise.imp_of_mem (fun {x y} hx hy hxy e => hxy ?_) hn
  have := hr x hx
  have := hr y hy
  omega) (fun x hx => by
  obtain ⟨y, hy, rfl⟩ := List.mem_map.1 hx
  have := hr y hy
  omega)
 simpa using h
theorem Gd_true {fl : List Bool} {k : Nat} {s : Int} (_h0 : 0 ≤ s) (hk : k < fl.length) : Gd (fl.set k true) s ↔ Gd fl s ∨ s.toNat = k := by
 unfold Gd
 by_cases e : k = s.toNat
 ·subst e
  rw [List.getD_eq_getElem?_getD, List.getElem?_set_self hk]
  exact ⟨fun _ => .inr rfl, fun _ => rfl⟩
 ·rw [List.getD_eq_getElem?_getD, List.getElem?_set_ne e, ← List.getD_eq_getElem?_getD]
  exact ⟨.inl, fun h => h.elim id (fun h => absurd h.symm e)⟩

inductive RchC (es : List Ed) : Int → Int → Prop
 | refl (s : Int) : RchC es s s
 | step {x : Ed} {t : Int} (hx : x ∈ es) (h : RchC es x.t t) : RchC es x.f t
theorem RchC.trans {es : List Ed} {a b c : Int} (h : RchC es a b) (h' : RchC es b c) : RchC es a c := by
 induction h with
 | refl s => exact h'
 | step hx _ ih => exact .step hx (ih h')
theorem RchC.edge {es : List Ed} {x : Ed} (hx : x ∈ es) : RchC es x.f x.t := .step hx (.refl _)
def Scc (es : List Ed) (a b : Int) : Prop := RchC es a b ∧ RchC es b a
theorem Scc.refl (es : List Ed) (a : Int) : Scc es a a := ⟨.refl _, .refl _⟩
theorem Scc.symm {es : List Ed} {a b : Int} (h : Scc es a b) : Scc es b a := ⟨h.2, h.1⟩
theorem Scc.trans {es : List Ed} {a b c : Int} (h : Scc es a b) (h' : Scc es b c) : Scc es a c := ⟨h.1.trans h'.1, h'.2.trans h.2⟩
structure FinOrd (es : List Ed) (L : List Int) : Prop where
 nd : L.Nodup
 good : ∀ (i : Nat) (hi : i < L.length), ∀ y ∈ L.take (i + 1), ∀ x ∈ es, x.f = y → x.t ∈ L.take (i + 1) ∨ (x.t ∈ L ∧ RchC es x.t L[i])
theorem RchC.leave {es : List Ed} {A : List Int} {a b : Int} (h : RchC es a b) (ha : a ∈ A) : b ∈ A ∨ ∃ x ∈ es, x.f ∈ A ∧ x.t ∉ A ∧ RchC es a x.f ∧ RchC es x.t b := by
 induction h with
 | refl s => exact .inl ha
 | @step x t hx h ih =>
  by_cases hm : x.t ∈ A
  ·rcases ih hm with h1 | ⟨y, hy, h2, h3, h4, h5⟩
   ·exact .inl h1
   ·exact .inr ⟨y, hy, h2, h3, .step hx h4, h5⟩
  ·exact .inr ⟨x, hx, ha, hm, .refl _, h⟩
theorem FinOrd.last {es : List Ed} {L : List Int} (h : FinOrd es L) : ∀ (d i : Nat) (hi : i < L.length), L.length - i ≤ d → ∀ v, RchC es L[i] v → ∃ (k : Nat) (hk : k < L.length), Scc es L[k] L[i] ∧ v ∈ L.take (k + 1)
 | 0, i, hi, hd, _, _ => by omega
 | d + 1, i, hi, hd, v, hv => by
  have hm : L[i] ∈ L.take (i + 1) := by
   rw [List.take_succ_eq_append_getElem hi]
   exact List.mem_append_right _ (List.mem_singleton.2 rfl)
  rcases hv.leave hm with h1 | ⟨x, hx, h2, h3, h4, h5⟩
  ·exact ⟨i, hi, Scc.refl _ _, h1⟩
  ·rcases h.good i hi x.f h2 x hx rfl with h6 | ⟨h6, h7⟩
   ·exact absurd h6 h3
   ·obtain ⟨j, hj, hje⟩ := List.mem_iff_getElem.1 h6
    have hji : i < j := by
     rcases Nat.lt_or_ge i j with h8 | h8
     ·exact h8
     ·exact absurd (by rw [← hje]; exact List.mem_iff_getElem.2 ⟨j, by rw [List.length_take]; omega, by rw [List.getElem_take]⟩) h3
    rw [← hje] at h5 h7
    obtain ⟨k, hk, h9, h10⟩ := h.last d j hj (by omega) v h5
    refine ⟨k, hk, h9.trans ⟨h7, ?_⟩, h10⟩
    rw [hje]
    exact h4.trans (RchC.edge hx)
theorem FinOrd.root {es : List Ed} {L : List Int} (h : FinOrd es L) {U : Int → Prop} (hU : ∀ a b, Scc es a b → U a → U b) {r : Nat} (hr : r < L.length) (hlast : ∀ (k : Nat) (hk : k < L.length), U L[k] → k ≤ r) {u : Int} (hu : U u) (huL : u ∈ L) (hur : RchC es u L[r]) : Scc es u L[r] := by
 obtain ⟨i, hi, rfl⟩ := List.mem_iff_getElem.1 huL
 obtain ⟨k, hk, h1, h2⟩ := h.last (L.length - i) i hi (Nat.le_refl _) _ hur
 have hkr := hlast k hk (hU _ _ h1.symm hu)
 obtain ⟨j, hj, hje⟩ := List.mem_iff_getElem.1 h2
 rw [List.length_take] at hj
 rw [List.getElem_take] at hje
 have hjr : j = r := by
  rcases Nat.lt_trichotomy j r with h3 | h3 | h3
  ·exact absurd hje (List.pairwise_iff_getElem.1 h.nd j r (by omega) hr h3)
  ·exact h3
  ·exact absurd hje.symm (List.pairwise_iff_getElem.1 h.nd r j hr (by omega) h3)
 have hkr2 : k = r := by omega
 subst hkr2
 exact h1.symm

abbrev Stk := List (Int × List Ed)
def outE (es : List Ed) (s : Int) : List Ed := es.filter fun x => decide (x.f = s)
abbrev held (st : Stk) (ord : List Int) : List Int := st.map (·.1) ++ ord
structure FIC (es : List Ed) (n : Nat) (st : Stk) (seen : List Bool) (ord : List Int) : Prop where
 len : seen.length = n
 rng : ∀ t ∈ held st ord, 0 ≤ t ∧ t < (n : Int)
 nd : (held st ord).Nodup
 seen : ∀ t, 0 ≤ t → t < (n : Int) → (Gd seen t ↔ t ∈ held st ord)
 fin : ∀ y ∈ ord, ∀ x ∈ es, x.f = y → x.t ∈ held st ord
 own : ∀ p ∈ st, ∀ x ∈ p.2, x ∈ es ∧ x.f = p.1
 stk : ∀ p ∈ st, ∀ x ∈ es, x.f = p.1 → x ∈ p.2 ∨ x.t ∈ held st ord
 path : (st.map (·.1)).Pairwise (fun a b => RchC es b a)
 good : ∀ (i : Nat) (hi : i < ord.length), ∀ y ∈ ord.take (i + 1), ∀ x ∈ es, x.f = y → x.t ∈ ord.take (i + 1) ∨ (x.t ∈ held st ord ∧ RchC es x.t ord[i])
theorem held_pop {s : Int} {r : List Ed} {st : Stk} {ord : List Int} (t : Int) : t ∈ held st (ord ++ [s]) ↔ t ∈ held ((s, r) :: st) ord := by
 simp only [held, List.map_cons, List.mem_append, List.mem_cons, List.not_mem_nil, or_false]
 constructor
 ·rintro (h | h | h)
  ·exact .inl (.inr h)
  ·exact .inr h
  ·exact .inl (.inl h)
 ·rintro ((h | h) | h)
  ·exact .inr (.inr h)
  ·exact .inl h
  ·exact .inr (.inl h)
section
variable {es : List Ed} {n : Nat} {st : Stk} {seen : List Bool} {ord : List Int}
theorem FIC.pop {s : Int} (h : FIC es n ((s, []) :: st) seen ord) : FIC es n st seen (ord ++ [s]) := by
 have hp := fun t => held_pop (s := s) (r := []) (st := st) (ord := ord) t
 have hnd := h.nd
 simp only [held, List.map_cons, List.cons_append, List.nodup_cons] at hnd
 have hpath := h.path
 rw [List.map_cons, List.pairwise_cons] at hpath
 have hs0 := h.stk (s, []) (List.mem_cons_self ..)
 refine ⟨h.len, fun t ht => h.rng t ((hp t).1 ht), ?_, fun t h0 h1 => (h.seen t h0 h1).trans (hp _).symm, fun y hy x hx hf => ?_, fun p hp' => h.own p (List.mem_cons_of_mem _ hp'), fun p hp' x hx hf => (h.stk p (List.mem_cons_of_mem _ hp') x hx hf).imp id (fun h2 => (hp _).2 h2), hpath.2, fun i hi y hy x hx hf => ?_⟩
 ·show (st.map (·.1) ++ (ord ++ [s])).Nodup
  rw [← List.append_assoc, List.nodup_append]
  refine ⟨hnd.2, by simp, fun a ha b hb e => ?_⟩
  rw [List.mem_singleton.1 hb] at e
  exact hnd.1 (e ▸ ha)
 ·rcases List.mem_append.1 hy with h1 | h1
  ·exact (hp _).2 (h.fin y h1 x hx hf)
  ·rw [List.mem_singleton.1 h1] at hf
   rcases hs0 x hx hf with h2 | h2
   ·cases h2
   ·exact (hp _).2 h2
 ·rcases Nat.lt_or_ge i ord.length with h1 | h1
  ·rw [List.take_append_of_le_length (by omega)] at hy ⊢
   rcases h.good i h1 y hy x hx hf with h2 | ⟨h2, h3⟩
   ·exact .inl h2
   ·refine .inr ⟨(hp _).2 h2, ?_⟩
    rw [List.getElem_append_left h1]
    exact h3
  ·have hil : i = ord.length := by rw [List.length_append, List.length_singleton] at hi; omega
   subst hil
   rw [List.take_of_length_le (by simp)] at hy ⊢
   have hx2 : x.t ∈ held ((s, []) :: st) ord := by
    rcases List.mem_append.1 hy with h2 | h2
    ·exact h.fin y h2 x hx hf
    ·rw [List.mem_singleton.1 h2] at hf
     rcases hs0 x hx hf with h3 | h3
     ·cases h3
     ·exact h3
   have hx3 := (hp _).2 hx2
   rcases List.mem_append.1 hx3 with h2 | h2
   ·right
    refine ⟨hx3, ?_⟩
    rw [List.getElem_append_right (by omega)]
    simp only [Nat.sub_self, List.getElem_cons_zero]
    exact hpath.1 _ h2
   ·exact .inl h2
theorem FIC.skip {s : Int} {x : Ed} {rem : List Ed} (h : FIC es n ((s, x :: rem) :: st) seen ord) (hx : x.t ∈ held ((s, x :: rem) :: st) ord) : FIC es n ((s, rem) :: st) seen ord := by
 refine ⟨h.len, h.rng, h.nd, h.seen, h.fin, fun p hp y hy => ?_, fun p hp y hy hf => ?_, h.path, h.good⟩
 ·rcases List.mem_cons.1 hp with rfl | hp
  ·exact h.own (s, x :: rem) (List.mem_cons_self ..) y (List.mem_cons_of_mem _ hy)
  ·exact h.own p (List.mem_cons_of_mem _ hp) y hy
 ·rcases List.mem_cons.1 hp with rfl | hp
  ·rcases h.stk (s, x :: rem) (List.mem_cons_self ..) y hy hf with h1 | h1
   ·rcases List.mem_cons.1 h1 with rfl | h1
    ·exact .inr hx
    ·exact .inl h1
   ·exact .inr h1
  ·exact h.stk p (List.mem_cons_of_mem _ hp) y hy hf
theorem FIC.enter {t : Int} (h : FIC es n st seen ord) (h0 : 0 ≤ t) (h1 : t < (n : Int)) (hn : t ∉ held st ord) (hr : ∀ s ∈ st.map (·.1), RchC es s t) : FIC es n ((t, outE es t) :: st) (seen.set t.toNat true) ord := by
 have hsub : ∀ u, u ∈ held st ord → u ∈ held ((t, outE es t) :: st) ord := fun u hu => List.mem_cons_of_mem _ hu
 refine ⟨by rw [List.length_set]; exact h.len, fun u hu => ?_, List.nodup_cons.2 ⟨hn, h.nd⟩, fun u hu0 hu1 => ?_, fun y hy x hx hf => hsub _ (h.fin y hy x hx hf), fun p hp x hx => ?_, fun p hp x hx hf => ?_, List.pairwise_cons.2 ⟨fun s hs => hr s hs, h.path⟩, fun i hi y hy x hx hf => (h.good i hi y hy x hx hf).imp id (fun ⟨a, b⟩ => ⟨hsub _ a, b⟩)⟩
 ·rcases List.mem_cons.1 hu with rfl | hu
  ·exact ⟨h0, h1⟩
  ·exact h.rng u hu
 ·rw [Gd_true hu0 (by rw [h.len]; omega), h.seen u hu0 hu1]
  constructor
  ·rintro (h2 | h2)
   ·exact hsub _ h2
   ·have : u = t := by omega
    rw [this]
    exact List.mem_cons_self ..
  ·intro h2
   rcases List.mem_cons.1 h2 with rfl | h2
   ·exact .inr rfl
   ·exact .inl h2
 ·rcases List.mem_cons.1 hp with rfl | hp
  ·have := List.mem_filter.1 hx
   exact ⟨this.1, by simpa using this.2⟩
  ·exact h.own p hp x hx
 ·rcases List.mem_cons.1 hp with rfl | hp
  ·exact .inl (List.mem_filter.2 ⟨hx, by simpa using hf⟩)
  ·exact (h.stk p hp x hx hf).imp id (hsub _)
theorem FIC.push {s : Int} {x : Ed} {rem : List Ed} (h : FIC es n ((s, x :: rem) :: st) seen ord) (h0 : 0 ≤ x.t) (h1 : x.t < (n : Int)) (hn : x.t ∉ held ((s, x :: rem) :: st) ord) : FIC es n ((x.t, outE es x.t) :: (s, rem) :: st) (seen.set x.t.toNat true) ord := by
 have hx := h.own (s, x :: rem) (List.mem_cons_self ..) x (List.mem_cons_self ..)
 have hpath := h.path
 rw [List.map_cons, List.pairwise_cons] at hpath
 have hst : ∀ u ∈ s :: st.map (·.1), RchC es u x.t := by
  intro u hu
  have he : RchC es s x.t := by have := RchC.edge hx.1; rwa [hx.2] at this
  rcases List.mem_cons.1 hu with rfl | hu
  ·exact he
  ·exact (hpath.1 u hu).trans he
 have he := h.enter h0 h1 hn hst
 refine ⟨he.len, he.rng, he.nd, he.seen, he.fin, fun p hp y hy => ?_, fun p hp y hy hf => ?_, he.path, he.good⟩
 ·rcases List.mem_cons.1 hp with rfl | hp
  ·exact he.own _ (List.mem_cons_self ..) y hy
  ·rcases List.mem_cons.1 hp with rfl | hp
   ·exact h.own (s, x :: rem) (List.mem_cons_self ..) y (List.mem_cons_of_mem _ hy)
   ·exact h.own p (List.mem_cons_of_mem _ hp) y hy
 ·rcases List.mem_cons.1 hp with rfl | hp
  ·exact he.stk _ (List.mem_cons_self ..) y hy hf
  ·rcases List.mem_cons.1 hp with rfl | hp
   ·rcases he.stk (s, x :: rem) (List.mem_cons_of_mem _ (List.mem_cons_self ..)) y hy hf with h3 | h3
    ·rcases List.mem_cons.1 h3 with rfl | h3
     ·exact .inr (List.mem_cons_self ..)
     ·exact .inl h3
    ·exact .inr h3
   ·exact he.stk p (List.mem_cons_of_mem _ (List.mem_cons_of_mem _ hp)) y hy hf
end
def dfsL (es : List Ed) : Nat → Stk → List Bool → List Int → List Bool × List Int
 | 0, _, seen, ord => (seen, ord)
 | _ + 1, [], seen, ord => (seen, ord)
 | f + 1, (s, []) :: st, seen, ord => dfsL es f st seen (ord ++ [s])
 | f + 1, (s, x :: rem) :: st, seen, ord => if seen.getD x.t.toNat false = true then dfsL es f ((s, rem) :: st) seen ord else dfsL es f ((x.t, outE es x.t) :: (s, rem) :: st) (seen.set x.t.toNat true) ord
def leftL (es : List Ed) (n : Nat) (st : Stk) (seen : List Bool) : Nat := (st.map fun p => p.2.length + 1).sum + ((List.range n).map fun t => if seen.getD t false = true then 0 else (outE es (t : Int)).length + 2).sum
theorem sum_set {n : Nat} {seen : List Bool} {g : Nat → Nat} (hl : seen.length = n) {t : Nat} (ht : t < n) (hs : seen.getD t false = false) : ∀ k, k ≤ n → ((List.range k).map fun i => if (seen.set t true).getD i false = true then 0 else g i).sum + (if t < k then g t else 0) = ((List.range k).map fun i => if seen.getD i false = true then 0 else g i).sum
 | 0, _ => by simp
 | k + 1, hk => by
  have ih := sum_set (g := g) hl ht hs k (by omega)
  rw [List.range_succ, List.map_append, List.map_append, List.sum_append, List.sum_append, ← ih]
  simp only [List.map_cons, List.map_nil, List.sum_cons, List.sum_nil, Nat.add_zero]
  by_cases e : t = k
  ·subst e
   rw [List.getD_eq_getElem?_getD, List.getElem?_set_self (by omega), hs]
   simp
  ·rw [show (seen.set t true).getD k false = seen.getD k false by rw [List.getD_eq_getElem?_getD, List.getElem?_set_ne e, ← List.getD_eq_getElem?_getD]]
   by_cases h1 : t < k
   ·have h2 : t < k + 1 := by omega
    simp only [h1, h2, if_true]
    omega
   ·have h2 : ¬ t < k + 1 := by omega
    simp only [h1, h2, if_false]
    omega
theorem leftL_enter {es : List Ed} {n : Nat} {st : Stk} {seen : List Bool} (hl : seen.length = n) {t : Int} (h0 : 0 ≤ t) (h1 : t < (n : Int)) (hs : seen.getD t.toNat false = false) : leftL es n ((t, outE es t) :: st) (seen.set t.toNat true) + 1 = leftL es n st seen := by
 have h := sum_set (g := fun t => (outE es (t : Int)).length + 2) hl (t := t.toNat) (by omega) hs n (Nat.le_refl _)
 rw [if_pos (by omega), Int.toNat_of_nonneg h0] at h
 unfold leftL
 rw [List.map_cons, List.sum_cons]
 dsimp only at h ⊢
 omega
theorem dfs_says {es : List Ed} {n : Nat} (hes : ∀ x ∈ es, 0 ≤ x.t ∧ x.t < (n : Int)) : ∀ (f : Nat) (st : Stk) (seen : List Bool) (ord : List Int), FIC es n st seen ord → leftL es n st seen ≤ f →
  FIC es n [] (dfsL es f st seen ord).1 (dfsL es f st seen ord).2 ∧ (∀ t ∈ held st ord, t ∈ (dfsL es f st seen ord).2)
 | 0, [], seen, ord, h, _ => ⟨h, fun t ht => ht⟩
 | 0, p :: st, seen, ord, _, hf => by
  unfold leftL at hf
  rw [List.map_cons, List.sum_cons] at hf
  omega
 | f + 1, [], seen, ord, h, _ => ⟨h, fun t ht => ht⟩
 | f + 1, (s, []) :: st, seen, ord, h, hf => by
  have hf2 : leftL es n st seen ≤ f := by
   unfold leftL at hf ⊢
   rw [List.map_cons, List.sum_cons] at hf
   dsimp only at hf
   simp only [List.length_nil] at hf
   omega
  obtain ⟨h1, h2⟩ := dfs_says hes f st seen (ord ++ [s]) h.pop hf2
  rw [dfsL]
  exact ⟨h1, fun t ht => h2 t ((held_pop t).2 ht)⟩
 | f + 1, (s, x :: rem) :: st, seen, ord, h, hf => by
  have hx := h.own (s, x :: rem) (List.mem_cons_self ..) x (List.mem_cons_self ..)
  have hr := hes x hx.1
  have hs := h.seen x.t hr.1 hr.2
  have hm : leftL es n ((s, x :: rem) :: st) seen = leftL es n ((s, rem) :: st) seen + 1 := by
   unfold leftL
   rw [List.map_cons, List.sum_cons, List.map_cons, List.sum_cons]
   dsimp only
   rw [List.length_cons]
   omega
  rw [dfsL]
  by_cases hg : seen.getD x.t.toNat false = true
  ·rw [if_pos hg]
   obtain ⟨h1, h2⟩ := dfs_says hes f ((s, rem) :: st) seen ord (h.skip (hs.1 hg)) (by omega)
   exact ⟨h1, h2⟩
  ·rw [if_neg hg]
   have hle := leftL_enter (es := es) (st := (s, rem) :: st) h.len hr.1 hr.2 (by simpa using hg)
   obtain ⟨h1, h2⟩ := dfs_says hes f ((x.t, outE es x.t) :: (s, rem) :: st) (seen.set x.t.toNat true) ord (h.push hr.1 hr.2 (fun e => hg (hs.2 e))) (by omega)
   exact ⟨h1, fun t ht => h2 t (List.mem_cons_of_mem _ ht)⟩
def ordStep (es : List Ed) (n : Nat) (S : List Bool × List Int) (s : Nat) : List Bool × List Int :=
 if S.1.getD s false = true then S else dfsL es (leftL es n [((s : Int), outE es (s : Int))] (S.1.set s true)) [((s : Int), outE es (s : Int))] (S.1.set s true) S.2
def orderF (es : List Ed) (n : Nat) : List Bool × List Int := (List.range n).foldl (ordStep es n) (List.replicate n false, [])
theorem order_fold {es : List Ed} {n : Nat} (hes : ∀ x ∈ es, 0 ≤ x.t ∧ x.t < (n : Int)) : ∀ (k : Nat), k ≤ n →
  FIC es n [] ((List.range k).foldl (ordStep es n) (List.replicate n false, [])).1 ((List.range k).foldl (ordStep es n) (List.replicate n false, [])).2 ∧ ∀ t, t < k → (t : Int) ∈ ((List.range k).foldl (ordStep es n) (List.replicate n false, [])).2
 | 0, _ => by
  refine ⟨⟨by simp, fun t ht => (by cases ht), List.nodup_nil, fun t h0 h1 => ?_, fun y hy => (by cases hy), fun p hp => (by cases hp), fun p hp => (by cases hp), List.Pairwise.nil, fun i hi => (by cases hi)⟩, fun t ht => absurd ht (Nat.not_lt_zero _)⟩
  unfold Gd
  have e : (List.replicate n false).getD t.toNat false = false := by
   rw [List.getD_eq_getElem?_getD, List.getElem?_replicate]
   split <;> rfl
  simp only [List.range_zero, List.foldl_nil]
  rw [e]
  simp [held]
 | k + 1, hk => by
  obtain ⟨h1, h2⟩ := order_fold hes k (by omega)
  rw [List.range_succ, List.foldl_append]
  simp only [List.foldl_cons, List.foldl_nil]
  generalize (List.range k).foldl (ordStep es n) (List.replicate n false, []) = S at *
  have hs := h1.seen (k : Int) (by omega) (by omega)
  unfold ordStep
  by_cases hg : S.1.getD k false = true
  ·rw [if_pos hg]
   refine ⟨h1, fun t ht => ?_⟩
   by_cases e : t = k
   ·subst e
    have := hs.1 (by unfold Gd; rw [Int.toNat_natCast]; exact hg)
    simpa [held] using this
   ·exact h2 t (by omega)
  ·rw [if_neg hg]
   have hn : (k : Int) ∉ held [] S.2 := fun e => hg (by have := hs.2 e; unfold Gd at this; rwa [Int.toNat_natCast] at this)
   have he := h1.enter (t := (k : Int)) (by omega) (by omega) hn (fun s hs => by cases hs)
   rw [Int.toNat_natCast] at he
   obtain ⟨h3, h4⟩ := dfs_says hes _ _ _ _ he (Nat.le_refl _)
   refine ⟨h3, fun t ht => ?_⟩
   by_cases e : t = k
   ·subst e
    exact h4 _ (List.mem_cons_self ..)
   ·exact h4 _ (List.mem_cons_of_mem _ (by simpa [held] using h2 t (by omega)))
theorem order_says {es : List Ed} {n : Nat} (hes : ∀ x ∈ es, 0 ≤ x.t ∧ x.t < (n : Int)) : FinOrd es (orderF es n).2 ∧ (∀ t ∈ (orderF es n).2, 0 ≤ t ∧ t < (n : Int)) ∧ ∀ t, t < n → (t : Int) ∈ (orderF es n).2 := by
 obtain ⟨h1, h2⟩ := order_fold hes n (Nat.le_refl _)
 have hheld : ∀ t, t ∈ held [] (orderF es n).2 ↔ t ∈ (orderF es n).2 := fun t => by simp [held]
 have hnd := h1.nd
 refine ⟨⟨hnd, fun i hi y hy x hx hf => ?_⟩, fun t ht => h1.rng t ((hheld t).2 ht), h2⟩
 exact (h1.good i hi y hy x hx hf).imp id (fun ⟨a, b⟩ => ⟨(hheld _).1 a, b⟩)

def grpStep (S : List Bool × List Int) (p : Int) : List Bool × List Int := if S.1.getD p.toNat false = true then S else (S.1.set p.toNat true, S.2 ++ [p])
def preds (es : List Ed) (t : Int) : List Int := (es.filter fun x => decide (x.t = t)).map Ed.f
def grpLoop (es : List Ed) : Nat → Nat → List Bool × List Int → List Bool × List Int
 | 0, _, S => S
 | f + 1, i, S => if i < S.2.length then grpLoop es f (i + 1) ((preds es (S.2.getD i 0)).foldl grpStep S) else S
def freeE (es : List Ed) (cls : List Bool) : List Ed := es.filter fun x => !cls.getD x.f.toNat false
structure GrpI (es : List Ed) (n : Nat) (cls0 : List Bool) (root : Int) (S : List Bool × List Int) : Prop where
 len : S.1.length = n
 rng : ∀ t ∈ S.2, 0 ≤ t ∧ t < (n : Int)
 nd : S.2.Nodup
 cls : ∀ t, 0 ≤ t → t < (n : Int) → (Gd S.1 t ↔ Gd cls0 t ∨ t ∈ S.2)
 new : ∀ t ∈ S.2, ¬ Gd cls0 t ∧ RchC (freeE es cls0) t root
 root : root ∈ S.2
theorem GrpI.step {es : List Ed} {n : Nat} {cls0 : List Bool} {root : Int} {S : List Bool × List Int} (h : GrpI es n cls0 root S) {x : Ed} (hx : x ∈ es) (ht : x.t ∈ S.2) (h0 : 0 ≤ x.f) (h1 : x.f < (n : Int)) :
  GrpI es n cls0 root (grpStep S x.f) ∧ Gd (grpStep S x.f).1 x.f ∧ (∃ l, (grpStep S x.f).2 = S.2 ++ l) ∧ ∀ t, Gd S.1 t → 0 ≤ t → Gd (grpStep S x.f).1 t := by
 unfold grpStep
 by_cases hg : S.1.getD x.f.toNat false = true
 ·rw [if_pos hg]
  exact ⟨h, hg, ⟨[], (List.append_nil _).symm⟩, fun t h _ => h⟩
 ·rw [if_neg hg]
  have hc := h.cls x.f h0 h1
  have hl : x.f.toNat < S.1.length := by rw [h.len]; omega
  have hfr : ¬ Gd cls0 x.f := fun e => hg (hc.2 (.inl e))
  have hnot : x.f ∉ S.2 := fun e => hg (hc.2 (.inr e))
  have hfe : x ∈ freeE es cls0 := List.mem_filter.2 ⟨hx, by unfold Gd at hfr; simpa using hfr⟩
  refine ⟨⟨by rw [List.length_set]; exact h.len, fun t ht' => ?_, ?_, fun t ha hb => ?_, fun t ht' => ?_, List.mem_append_left _ h.root⟩, (Gd_true h0 hl).2 (.inr rfl), ⟨_, rfl⟩, fun t ht' ha => (Gd_true ha hl).2 (.inl ht')⟩
  ·rcases List.mem_append.1 ht' with h2 | h2
   ·exact h.rng t h2
   ·rw [List.mem_singleton.1 h2]; exact ⟨h0, h1⟩
  ·rw [List.nodup_append]
   exact ⟨h.nd, by simp, fun a ha b hb e => by rw [List.mem_singleton.1 hb] at e; exact hnot (e ▸ ha)⟩
  ·rw [Gd_true ha hl, h.cls t ha hb, List.mem_append, List.mem_singleton]
   constructor
   ·rintro ((h2 | h2) | h2)
    ·exact .inl h2
    ·exact .inr (.inl h2)
    ·exact .inr (.inr (by omega))
   ·rintro (h2 | h2 | h2)
    ·exact .inl (.inl h2)
    ·exact .inl (.inr h2)
    ·exact .inr (by rw [h2])
  ·rcases List.mem_append.1 ht' with h2 | h2
   ·exact h.new t h2
   ·rw [List.mem_singleton.1 h2]
    exact ⟨hfr, .step hfe (h.new _ ht).2⟩
theorem grp_fold {es : List Ed} {n : Nat} {cls0 : List Bool} {root : Int} (hes : ∀ x ∈ es, 0 ≤ x.f ∧ x.f < (n : Int)) {t : Int} : ∀ (l : List Ed) (S : List Bool × List Int), GrpI es n cls0 root S → t ∈ S.2 → (∀ x ∈ l, x ∈ es ∧ x.t = t) →
  GrpI es n cls0 root ((l.map Ed.f).foldl grpStep S) ∧ (∀ x ∈ l, Gd ((l.map Ed.f).foldl grpStep S).1 x.f) ∧ (∃ r, ((l.map Ed.f).foldl grpStep S).2 = S.2 ++ r) ∧ ∀ u, Gd S.1 u → 0 ≤ u → Gd ((l.map Ed.f).foldl grpStep S).1 u
 | [], S, h, _, _ => ⟨h, fun x hx => (by cases hx), ⟨[], (List.append_nil _).symm⟩, fun u h _ => h⟩
 | x :: l, S, h, ht, hl => by
  have hx := hl x (List.mem_cons_self ..)
  have hr := hes x hx.1
  obtain ⟨h1, h2, ⟨r, h3⟩, h4⟩ := h.step hx.1 (by rw [hx.2]; exact ht) hr.1 hr.2
  obtain ⟨h5, h6, ⟨r2, h7⟩, h8⟩ := grp_fold hes l _ h1 (by rw [h3]; exact List.mem_append_left _ ht) (fun y hy => hl y (List.mem_cons_of_mem _ hy))
  rw [List.map_cons, List.foldl_cons]
  refine ⟨h5, fun y hy => ?_, ⟨r ++ r2, by rw [h7, h3, List.append_assoc]⟩, fun u hu h0 => h8 u (h4 u hu h0) h0⟩
  rcases List.mem_cons.1 hy with rfl | hy
  ·exact h8 _ h2 hr.1
  ·exact h6 y hy
theorem grp_loop {es : List Ed} {n : Nat} {cls0 : List Bool} {root : Int} (hes : ∀ x ∈ es, 0 ≤ x.f ∧ x.f < (n : Int)) : ∀ (f i : Nat) (S : List Bool × List Int), GrpI es n cls0 root S → (∀ k, k < i → k < S.2.length → ∀ x ∈ es, some x.t = S.2[k]? → Gd S.1 x.f) → n + 1 ≤ i + f →
  GrpI es n cls0 root (grpLoop es f i S) ∧ ∀ x ∈ es, x.t ∈ (grpLoop es f i S).2 → Gd (grpLoop es f i S).1 x.f
 | 0, i, S, h, hd, hf => by
  have := int_nodup_len h.nd h.rng
  rw [grpLoop]
  refine ⟨h, fun x hx ht => ?_⟩
  obtain ⟨k, hk, hke⟩ := List.mem_iff_getElem.1 ht
  exact hd k (by omega) hk x hx (by rw [List.getElem?_eq_getElem hk, hke])
 | f + 1, i, S, h, hd, hf => by
  rw [grpLoop]
  by_cases hi : i < S.2.length
  ·rw [if_pos hi]
   have hg : S.2.getD i 0 = S.2[i] := by rw [List.getD_eq_getElem?_getD, List.getElem?_eq_getElem hi]; rfl
   have hm : S.2.getD i 0 ∈ S.2 := by rw [hg]; exact List.getElem_mem hi
   obtain ⟨h1, h2, ⟨r, h3⟩, h4⟩ := grp_fold hes (es.filter fun x => decide (x.t = S.2.getD i 0)) S h hm (fun x hx => by
    have := List.mem_filter.1 hx
    exact ⟨this.1, by simpa using this.2⟩)
   refine grp_loop hes f (i + 1) _ h1 (fun k hk hkl x hx he => ?_) (by omega)
   have hkS : k < S.2.length := by omega
   show Gd ((preds es (S.2.getD i 0)).foldl grpStep S).1 x.f
   have he2 : some x.t = S.2[k]? := by
    rw [he]
    show ((preds es (S.2.getD i 0)).foldl grpStep S).2[k]? = _
    unfold preds
    rw [h3, List.getElem?_append_left hkS]
   by_cases e : k = i
   ·subst e
    rw [List.getElem?_eq_getElem hkS] at he2
    exact h2 x (List.mem_filter.2 ⟨hx, by rw [hg]; simpa using Option.some.inj he2⟩)
   ·exact h4 _ (hd k (by omega) hkS x hx he2) (hes x hx).1
  ·rw [if_neg hi]
   refine ⟨h, fun x hx ht => ?_⟩
   obtain ⟨k, hk, hke⟩ := List.mem_iff_getElem.1 ht
   exact hd k (by omega) hk x hx (by rw [List.getElem?_eq_getElem hk, hke])
theorem RchC.mono {es es' : List Ed} (h : ∀ x ∈ es, x ∈ es') {a b : Int} (hr : RchC es a b) : RchC es' a b := by
 induction hr with
 | refl s => exact .refl s
 | step hx _ ih => exact .step (h _ hx) ih
theorem grp_start {es : List Ed} {n : Nat} {cls0 : List Bool} {root : Int} (hes : ∀ x ∈ es, 0 ≤ x.f ∧ x.f < (n : Int)) (hl : cls0.length = n) (h0 : 0 ≤ root) (h1 : root < (n : Int)) (hr : ¬ Gd cls0 root) : GrpI es n cls0 root (cls0.set root.toNat true, [root]) := by
 refine ⟨by rw [List.length_set]; exact hl, fun t ht => ?_, by simp, fun t ha hb => ?_, fun t ht => ?_, List.mem_singleton.2 rfl⟩
 ·rw [List.mem_singleton.1 ht]; exact ⟨h0, h1⟩
 ·rw [Gd_true ha (by omega), List.mem_singleton]
  constructor
  ·rintro (h2 | h2)
   ·exact .inl h2
   ·exact .inr (by omega)
  ·rintro (h2 | h2)
   ·exact .inl h2
   ·exact .inr (by rw [h2])
 ·rw [List.mem_singleton.1 ht]; exact ⟨hr, .refl _⟩
theorem grp_says {es : List Ed} {n : Nat} {cls0 : List Bool} {root : Int} (hes : ∀ x ∈ es, 0 ≤ x.f ∧ x.f < (n : Int)) (hl : cls0.length = n) (h0 : 0 ≤ root) (h1 : root < (n : Int)) (hr : ¬ Gd cls0 root) :
  GrpI es n cls0 root (grpLoop es (n + 1) 0 (cls0.set root.toNat true, [root])) ∧ ∀ t, RchC (freeE es cls0) t root → t ∈ (grpLoop es (n + 1) 0 (cls0.set root.toNat true, [root])).2 := by
 have hs : GrpI es n cls0 root (cls0.set root.toNat true, [root]) := by
  refine ⟨by rw [List.length_set]; exact hl, fun t ht => ?_, by simp, fun t ha hb => ?_, fun t ht => ?_, List.mem_singleton.2 rfl⟩
  ·rw [List.mem_singleton.1 ht]; exact ⟨h0, h1⟩
  ·rw [Gd_true ha (by omega), List.mem_singleton]
   constructor
   ·rintro (h2 | h2)
    ·exact .inl h2
    ·exact .inr (by omega)
   ·rintro (h2 | h2)
    ·exact .inl h2
    ·exact .inr (by rw [h2])
  ·rw [List.mem_singleton.1 ht]; exact ⟨hr, .refl _⟩
 obtain ⟨h2, h3⟩ := grp_loop hes (n + 1) 0 _ hs (fun k hk => absurd hk (Nat.not_lt_zero _)) (by omega)
 refine ⟨h2, fun t ht => ?_⟩
 generalize grpLoop es (n + 1) 0 (cls0.set root.toNat true, [root]) = R at *
 have key : ∀ s u, RchC (freeE es cls0) s u → u = root → s ∈ R.2 := by
  intro s u hu
  induction hu with
  | refl s => intro e; rw [e]; exact h2.root
  | @step x u hx hu ih =>
   intro e
   have hm := List.mem_filter.1 hx
   have h4 := ih e
   have hx0 := hes x hm.1
   have h5 := h3 x hm.1 h4
   rcases (h2.cls x.f hx0.1 hx0.2).1 h5 with h6 | h6
   ·exfalso
    have h7 := hm.2
    unfold Gd at h6
    rw [h6] at h7
    cases h7
   ·exact h6
 exact key t root ht rfl

def cmpStep (es : List Ed) (n : Nat) (S : List Bool × List (List Int)) (root : Int) : List Bool × List (List Int) :=
 if S.1.getD root.toNat false = true then S else ((grpLoop es (n + 1) 0 (S.1.set root.toNat true, [root])).1, S.2 ++ [(grpLoop es (n + 1) 0 (S.1.set root.toNat true, [root])).2])
def compF (es : List Ed) (n : Nat) : List (List Int) := ((orderF es n).2.reverse.foldl (cmpStep es n) (List.replicate n false, [])).2
structure IsScc (es : List Ed) (n : Nat) (G : List Int) : Prop where
 nd : G.Nodup
 rng : ∀ t ∈ G, 0 ≤ t ∧ t < (n : Int)
 ex : ∃ r ∈ G, ∀ t, 0 ≤ t → t < (n : Int) → (t ∈ G ↔ Scc es t r)
structure CIC (es : List Ed) (n : Nat) (S : List Bool × List (List Int)) : Prop where
 len : S.1.length = n
 cls : ∀ t, 0 ≤ t → t < (n : Int) → (Gd S.1 t ↔ ∃ G ∈ S.2, t ∈ G)
 scc : ∀ G ∈ S.2, IsScc es n G
 dis : S.2.Pairwise (fun G H => ∀ t ∈ G, t ∉ H)
theorem RchC.rng {es : List Ed} {n : Nat} (hes : ∀ x ∈ es, 0 ≤ x.t ∧ x.t < (n : Int)) {a b : Int} (h : RchC es a b) (ha : 0 ≤ a ∧ a < (n : Int)) : 0 ≤ b ∧ b < (n : Int) := by
 induction h with
 | refl s => exact ha
 | step hx _ ih => exact ih (hes _ hx)
theorem RchC.free {es : List Ed} {cls : List Bool} {a b : Int} (h : RchC es a b) : (∀ q, RchC es a q → RchC es q b → ¬ Gd cls q) → RchC (freeE es cls) a b := by
 induction h with
 | refl s => intro _; exact .refl s
 | @step x t hx h ih =>
  intro hq
  have h1 := hq x.f (.refl _) (.step hx h)
  have hm : x ∈ freeE es cls := List.mem_filter.2 ⟨hx, by unfold Gd at h1; simpa using h1⟩
  exact .step hm (ih (fun q h2 h3 => hq q (.step hx h2) h3))
theorem CIC.step {es : List Ed} {n : Nat} {S : List Bool × List (List Int)} {L : List Int} (hes : ∀ x ∈ es, 0 ≤ x.f ∧ x.f < (n : Int) ∧ 0 ≤ x.t ∧ x.t < (n : Int)) (hL : FinOrd es L) (hLr : ∀ t ∈ L, 0 ≤ t ∧ t < (n : Int)) (hLa : ∀ t, 0 ≤ t → t < (n : Int) → t ∈ L)
  (h : CIC es n S) {m : Nat} (hm : m < L.length) (hlater : ∀ (j : Nat) (hj : j < L.length), m < j → Gd S.1 L[j]) : CIC es n (cmpStep es n S L[m]) ∧ (∀ (j : Nat) (hj : j < L.length), m ≤ j → Gd (cmpStep es n S L[m]).1 L[j]) := by
 have hr := hLr _ (List.getElem_mem hm)
 unfold cmpStep
 by_cases hg : S.1.getD L[m].toNat false = true
 ·rw [if_pos hg]
  refine ⟨h, fun j hj hmj => ?_⟩
  by_cases e : m = j
  ·subst e; exact hg
  ·exact hlater j hj (by omega)
 ·rw [if_neg hg]
  obtain ⟨h1, h2⟩ := grp_says (fun x hx => ⟨(hes x hx).1, (hes x hx).2.1⟩) h.len hr.1 hr.2 hg
  generalize grpLoop es (n + 1) 0 (S.1.set L[m].toNat true, [L[m]]) = R at *
  have hU : ∀ a b, Scc es a b → (0 ≤ a ∧ a < (n : Int) ∧ ¬ Gd S.1 a) → (0 ≤ b ∧ b < (n : Int) ∧ ¬ Gd S.1 b) := by
   rintro a b hab ⟨ha0, ha1, ha⟩
   have hb := hab.1.rng (fun x hx => (hes x hx).2.2) ⟨ha0, ha1⟩
   refine ⟨hb.1, hb.2, fun hgb => ha ?_⟩
   obtain ⟨G, hG, hbG⟩ := (h.cls b hb.1 hb.2).1 hgb
   obtain ⟨r, _, hr2⟩ := (h.scc G hG).ex
   exact (h.cls a ha0 ha1).2 ⟨G, hG, (hr2 a ha0 ha1).2 (hab.trans ((hr2 b hb.1 hb.2).1 hbG))⟩
  have hmem : ∀ t, 0 ≤ t → t < (n : Int) → (t ∈ R.2 ↔ Scc es t L[m]) := by
   intro t ht0 ht1
   constructor
   ·intro ht
    obtain ⟨h3, h4⟩ := h1.new t ht
    exact hL.root (U := fun a => 0 ≤ a ∧ a < (n : Int) ∧ ¬ Gd S.1 a) hU hm (fun k hk hku => by
     rcases Nat.lt_or_ge m k with h5 | h5
     ·exact absurd (hlater k hk h5) hku.2.2
     ·exact h5) ⟨ht0, ht1, h3⟩ (hLa t ht0 ht1) (h4.mono (fun x hx => (List.mem_filter.1 hx).1))
   ·intro hs
    refine h2 t (hs.1.free (fun q hq1 hq2 => ?_))
    exact (hU L[m] q ⟨hs.2.trans hq1, hq2⟩ ⟨hr.1, hr.2, hg⟩).2.2
  refine ⟨⟨h1.len, fun t ht0 ht1 => ?_, fun G hG => ?_, ?_⟩, fun j hj hmj => ?_⟩
  ·rw [h1.cls t ht0 ht1, h.cls t ht0 ht1]
   constructor
   ·rintro (⟨G, hG, ht⟩ | ht)
    ·exact ⟨G, List.mem_append_left _ hG, ht⟩
    ·exact ⟨R.2, List.mem_append_right _ (List.mem_singleton.2 rfl), ht⟩
   ·rintro ⟨G, hG, ht⟩
    rcases List.mem_append.1 hG with h3 | h3
    ·exact .inl ⟨G, h3, ht⟩
    ·rw [List.mem_singleton.1 h3] at ht; exact .inr ht
  ·rcases List.mem_append.1 hG with h3 | h3
   ·exact h.scc G h3
   ·rw [List.mem_singleton.1 h3]
    exact ⟨h1.nd, h1.rng, L[m], h1.root, hmem⟩
  ·rw [List.pairwise_append]
   refine ⟨h.dis, List.pairwise_singleton _ _, fun G hG H hH t ht => ?_⟩
   rw [List.mem_singleton.1 hH]
   intro htR
   have hrt := h1.rng t htR
   exact (h1.new t htR).1 ((h.cls t hrt.1 hrt.2).2 ⟨G, hG, ht⟩)
  ·have hjr := hLr _ (List.getElem_mem hj)
   refine (h1.cls _ hjr.1 hjr.2).2 ?_
   by_cases e : m = j
   ·subst e; exact .inr h1.root
   ·exact .inl (hlater j hj (by omega))
theorem comp_fold {es : List Ed} {n : Nat} {L : List Int} (hes : ∀ x ∈ es, 0 ≤ x.f ∧ x.f < (n : Int) ∧ 0 ≤ x.t ∧ x.t < (n : Int)) (hL : FinOrd es L) (hLr : ∀ t ∈ L, 0 ≤ t ∧ t < (n : Int)) (hLa : ∀ t, 0 ≤ t → t < (n : Int) → t ∈ L) : ∀ (d : Nat), d ≤ L.length →
  CIC es n ((L.drop (L.length - d)).reverse.foldl (cmpStep es n) (List.replicate n false, [])) ∧ ∀ (j : Nat) (hj : j < L.length), L.length - d ≤ j → Gd ((L.drop (L.length - d)).reverse.foldl (cmpStep es n) (List.replicate n false, [])).1 L[j]
 | 0, _ => by
  rw [Nat.sub_zero, List.drop_length]
  refine ⟨⟨by simp, fun t h0 h1 => ?_, fun G hG => (by cases hG), List.Pairwise.nil⟩, fun j hj h => by omega⟩
  have e : (List.replicate n false).getD t.toNat false = false := by
   rw [List.getD_eq_getElem?_getD, List.getElem?_replicate]
   split <;> rfl
  simp only [List.reverse_nil, List.foldl_nil]
  unfold Gd
  rw [e]
  simp
 | d + 1, hd => by
  obtain ⟨h1, h2⟩ := comp_fold hes hL hLr hLa d (by omega)
  have hm : L.length - (d + 1) < L.length := by omega
  have hdr : L.drop (L.length - (d + 1)) = L[L.length - (d + 1)] :: L.drop (L.length - d) := by
   rw [List.drop_eq_getElem_cons hm]
   congr 2
   omega
  rw [hdr, List.reverse_cons, List.foldl_append]
  simp only [List.foldl_cons, List.foldl_nil]
  exact h1.step hes hL hLr hLa hm (fun j hj hmj => h2 j hj (by omega))
theorem comp_says {es : List Ed} {n : Nat} (hes : ∀ x ∈ es, 0 ≤ x.f ∧ x.f < (n : Int) ∧ 0 ≤ x.t ∧ x.t < (n : Int)) : (∀ G ∈ compF es n, IsScc es n G) ∧ (compF es n).Pairwise (fun G H => ∀ t ∈ G, t ∉ H) ∧ ∀ t, 0 ≤ t → t < (n : Int) → ∃ G ∈ compF es n, t ∈ G := by
 obtain ⟨h1, h2, h3⟩ := order_says (fun x hx => (hes x hx).2.2)
 have hLa : ∀ t, 0 ≤ t → t < (n : Int) → t ∈ (orderF es n).2 := fun t h0 h4 => by
  have := h3 t.toNat (by omega)
  rwa [Int.toNat_of_nonneg h0] at this
 obtain ⟨h4, h5⟩ := comp_fold hes h1 h2 hLa (orderF es n).2.length (Nat.le_refl _)
 rw [Nat.sub_self, List.drop_zero] at h4 h5
 refine ⟨h4.scc, h4.dis, fun t h0 h6 => ?_⟩
 obtain ⟨j, hj, hje⟩ := List.mem_iff_getElem.1 (hLa t h0 h6)
 have := h5 j hj (Nat.zero_le _)
 rw [hje] at this
 exact (h4.cls t h0 h6).1 this

structure CompSpec (es : List Ed) (n : Nat) (Cs : List (List Int)) : Prop where
 inc : ∀ C ∈ Cs, Inc C
 scc : ∀ C ∈ Cs, IsScc es n C
 all : ∀ t, 0 ≤ t → t < (n : Int) → ∃ C ∈ Cs, t ∈ C
 ord : Cs.Pairwise (fun C D => C.headD 0 < D.headD 0)
theorem inc_head {C : List Int} (h : Inc C) {t : Int} (ht : t ∈ C) : C.headD 0 ∈ C ∧ C.headD 0 ≤ t := by
 cases C with
 | nil => cases ht
 | cons c C =>
  refine ⟨List.mem_cons_self .., ?_⟩
  show c ≤ t
  rcases List.mem_cons.1 ht with rfl | h1
  ·exact Int.le_refl _
  ·have := (List.pairwise_cons.1 h).1 t h1; omega
theorem IsScc.ne {es : List Ed} {n : Nat} {C : List Int} (h : IsScc es n C) : ∃ t, t ∈ C := by
 obtain ⟨r, hr, _⟩ := h.ex
 exact ⟨r, hr⟩
theorem compSpec_of {es : List Ed} {n : Nat} {Gs Cs : List (List Int)} (hG : ∀ G ∈ Gs, IsScc es n G) (hall : ∀ t, 0 ≤ t → t < (n : Int) → ∃ G ∈ Gs, t ∈ G)
  (h1 : ∀ C ∈ Cs, Inc C ∧ ∃ G ∈ Gs, ∀ t, t ∈ C ↔ t ∈ G) (h2 : ∀ G ∈ Gs, ∃ C ∈ Cs, ∀ t, t ∈ C ↔ t ∈ G) (h3 : Cs.Pairwise (fun C D => C.headD 0 < D.headD 0)) : CompSpec es n Cs := by
 refine ⟨fun C hC => (h1 C hC).1, fun C hC => ?_, fun t h0 h4 => ?_, h3⟩
 ·obtain ⟨hi, G, hGm, hGt⟩ := h1 C hC
  have hs := hG G hGm
  obtain ⟨r, hr, hr2⟩ := hs.ex
  exact ⟨List.Pairwise.imp (fun {a b} (h : a < b) => by omega) hi, fun t ht => hs.rng t ((hGt t).1 ht), r, (hGt r).2 hr, fun t h5 h6 => (hGt t).trans (hr2 t h5 h6)⟩
 ·obtain ⟨G, hGm, ht⟩ := hall t h0 h4
  obtain ⟨C, hC, hCt⟩ := h2 G hGm
  exact ⟨C, hC, (hCt t).2 ht⟩
end Go.Proofs.YtfbapajcheammaaGreatDoor

namespace Go.Proofs.YtfbapajcheammaaGreatDoor
open Go Go.RowKit
theorem outE_eq {a : AutT} (q : Nat) : (a.2.2.2.filter fun x => x.1 == (q : Int)).map toEd = outE (edsOf a) (q : Int) := by
 unfold outE edsOf
 rw [List.filter_map]
 congr 1
def stkOf (a : AutT) (F : Nat → Nat) (p : Int × Int) : Int × List Ed := (p.1, ((a.2.2.2.take (F (p.1.toNat + 1))).drop p.2.toNat).map toEd)
theorem finish_sim {a : AutT} {n : Nat} (hr : Right a n) {fs : List Int} {F : Nat → Nat} (hF : FsOk a n fs F) : ∀ (f : Nat) (st : Stk) (seen : List Bool) (ord : List Int) (T : List (Int × Int)), T.reverse.map (stkOf a F) = st → (∀ p ∈ T, 0 ≤ p.1 ∧ p.1 < (n : Int) ∧ (F p.1.toNat : Int) ≤ p.2 ∧ p.2 ≤ (F (p.1.toNat + 1) : Int)) → FIC (edsOf a) n st seen ord → leftL (edsOf a) n st seen ≤ f →
  iterF (m_reach_graph_finish_l1 (a, fs)) (f + 1) (seen, T, ord) = some ((dfsL (edsOf a) f st seen ord).2, (dfsL (edsOf a) f st seen ord).1) := by
 intro f
 induction f with
 | zero =>
  intro st seen ord T hT hp hI hf
  rcases List.eq_nil_or_concat T with rfl | ⟨T0, p, rfl⟩
  ·simp only [List.reverse_nil, List.map_nil] at hT
   subst hT
   rw [iterF_succ, m_reach_graph_finish_l1]
   rfl
  ·rw [List.concat_eq_append, List.reverse_append, List.map_append] at hT
   subst hT
   unfold leftL at hf
   simp at hf
 | succ f ih =>
  intro st seen ord T hT hp hI hf
  have hnl := hr.nl
  have hl3 := hr.l3
  rcases List.eq_nil_or_concat T with rfl | ⟨T0, p, rfl⟩
  ·simp only [List.reverse_nil, List.map_nil] at hT
   subst hT
   rw [iterF_succ, m_reach_graph_finish_l1]
   rfl
  ·rw [List.concat_eq_append] at hT hp ⊢
   obtain ⟨s', k'⟩ := p
   have hpp := hp (s', k') (by simp)
   dsimp only at hpp
   obtain ⟨i, rfl⟩ : ∃ i : Nat, s' = i := ⟨s'.toNat, by omega⟩
   obtain ⟨k, rfl⟩ : ∃ k : Nat, k' = k := ⟨k'.toNat, by omega⟩
   rw [Int.toNat_natCast] at hpp
   have hin : i < n := by omega
   have hmono := hF.mono i hin
   have hfl := hF.len
   rw [List.reverse_append, List.map_append] at hT
   have hT : (((i : Nat) : Int), ((a.2.2.2.take (F (i + 1))).drop k).map toEd) :: T0.reverse.map (stkOf a F) = st := hT
   have hlen := int_nodup_len hI.nd hI.rng
   rw [← hT] at hlen
   simp only [held, List.map_cons, List.length_append, List.length_cons, List.length_map, List.length_reverse] at hlen
   have hTl : ((T0 ++ [((i : Int), (k : Int))]).length : Int) - 1 = ((T0.length : Nat) : Int) := by simp
   have hidx : idx (T0 ++ [((i : Int), (k : Int))]) ((T0.length : Nat) : Int) = some ((i : Int), (k : Int)) := by
    rw [idx_at (by simp)]; simp
   have hp0 : ∀ p ∈ T0, 0 ≤ p.1 ∧ p.1 < (n : Int) ∧ (F p.1.toNat : Int) ≤ p.2 ∧ p.2 ≤ (F (p.1.toNat + 1) : Int) := fun p hp1 => hp p (List.mem_append_left _ hp1)
   rw [iterF_succ, m_reach_graph_finish_l1]
   dsimp only
   rw [if_pos (by simp), hTl, W_nat (by omega), hidx, Option.bind_some, nxt (by omega), idx_at (by omega), Option.bind_some, hF.val]
   by_cases hk : k = F (i + 1)
   ·subst hk
    rw [if_pos (by simp), app_eq (by simp; omega), Option.bind_some, slc, if_pos ⟨by omega, by omega, by simp; omega⟩, Option.bind_some, Int.toNat_natCast]
    have hrem : ((a.2.2.2.take (F (i + 1))).drop (F (i + 1))).map toEd = [] := by
     rw [List.drop_eq_nil_of_le (by rw [List.length_take]; omega)]; rfl
    rw [hrem] at hT
    subst hT
    have hf2 : leftL (edsOf a) n (T0.reverse.map (stkOf a F)) seen ≤ f := by
     unfold leftL at hf ⊢
     rw [List.map_cons, List.sum_cons] at hf
     dsimp only at hf
     simp only [List.length_nil] at hf
     omega
    have h := ih _ seen (ord ++ [(i : Int)]) T0 rfl hp0 hI.pop hf2
    rw [dfsL]
    dsimp only
    rw [show (T0 ++ [((i : Int), ((F (i + 1) : Nat) : Int))]).take T0.length = T0 by simp]
    exact h
   ·have hkl : k < F (i + 1) := by omega
    have hkL : k < a.2.2.2.length := by omega
    rw [if_neg (by simp; omega), idx_at hkL, Option.bind_some]
    obtain ⟨y, hy⟩ : ∃ y, a.2.2.2[k] = y := ⟨_, rfl⟩
    have hyr := hr.es y (hy ▸ List.getElem_mem hkL)
    obtain ⟨t, ht⟩ : ∃ t : Nat, y.2.2 = t := ⟨y.2.2.toNat, by omega⟩
    have htn : t < n := by omega
    have hrem : (a.2.2.2.take (F (i + 1))).drop k = y :: (a.2.2.2.take (F (i + 1))).drop (k + 1) := by
     rw [List.drop_eq_getElem_cons (by rw [List.length_take]; omega), List.getElem_take, hy]
    rw [hrem, List.map_cons] at hT
    subst hT
    have hsl := hI.len
    have hx := hI.own _ (List.mem_cons_self ..) (toEd y) (List.mem_cons_self ..)
    have hs := hI.seen (y.2.2) hyr.2.2.1 hyr.2.2.2.1
    have hm : leftL (edsOf a) n (((i : Int), toEd y :: ((a.2.2.2.take (F (i + 1))).drop (k + 1)).map toEd) :: T0.reverse.map (stkOf a F)) seen = leftL (edsOf a) n (((i : Int), ((a.2.2.2.take (F (i + 1))).drop (k + 1)).map toEd) :: T0.reverse.map (stkOf a F)) seen + 1 := by
     unfold leftL
     rw [List.map_cons, List.sum_cons, List.map_cons, List.sum_cons]
     dsimp only
     rw [List.length_cons]
     omega
    have hupd : upd (T0 ++ [((i : Int), (k : Int))]) ((T0.length : Nat) : Int) ((i : Int), ((k + 1 : Nat) : Int)) = some (T0 ++ [((i : Int), ((k + 1 : Nat) : Int))]) := by
     rw [upd_at (by simp), List.set_append_right _ _ (Nat.le_refl _), Nat.sub_self]; rfl
    have hp1 : ∀ p ∈ T0 ++ [((i : Int), ((k + 1 : Nat) : Int))], 0 ≤ p.1 ∧ p.1 < (n : Int) ∧ (F p.1.toNat : Int) ≤ p.2 ∧ p.2 ≤ (F (p.1.toNat + 1) : Int) := fun p hp2 => by
     rcases List.mem_append.1 hp2 with h | h
     ·exact hp0 p h
     ·rw [List.mem_singleton.1 h]
      dsimp only
      rw [Int.toNat_natCast]
      omega
    have hst : (T0 ++ [((i : Int), ((k + 1 : Nat) : Int))]).reverse.map (stkOf a F) = ((i : Int), ((a.2.2.2.take (F (i + 1))).drop (k + 1)).map toEd) :: T0.reverse.map (stkOf a F) := by
     rw [List.reverse_append, List.map_append]; rfl
    rw [hy, nxt (by omega), hupd, Option.bind_some, ht, idx_at (by omega), Option.bind_some, dfsL]
    have hgd : seen.getD (toEd y).t.toNat false = seen[t] := by
     show seen.getD y.2.2.toNat false = _
     rw [ht, Int.toNat_natCast, List.getD_eq_getElem?_getD, List.getElem?_eq_getElem (by omega)]; rfl
    rw [hgd]
    cases hb : seen[t] with
    | true =>
     have hg : Gd seen y.2.2 := by unfold Gd; rw [← hb, ← hgd]; rfl
     rw [if_neg (by simp), if_pos rfl]
     exact ih _ seen ord _ hst hp1 (hI.skip (hs.1 hg)) (by omega)
    | false =>
     have hg : ¬ Gd seen y.2.2 := by
      unfold Gd
      rw [show seen.getD y.2.2.toNat false = seen[t] from hgd, hb]; simp
     have hle := leftL_enter (es := edsOf a) (st := ((i : Int), ((a.2.2.2.take (F (i + 1))).drop (k + 1)).map toEd) :: T0.reverse.map (stkOf a F)) hI.len (t := y.2.2) hyr.2.2.1 hyr.2.2.2.1 (by have := hg; unfold Gd at this; simpa using this)
     have hmt := hF.mono t htn
     rw [if_pos (by simp), Option.bind_some, upd_at (by omega), Option.bind_some, idx_at (by omega), Option.bind_some, hF.val, app_eq (by simp; omega), Option.bind_some, if_neg (by simp)]
     have hst2 : (T0 ++ [((i : Int), ((k + 1 : Nat) : Int))] ++ [((t : Int), ((F t : Nat) : Int))]).reverse.map (stkOf a F) = ((toEd y).t, outE (edsOf a) (toEd y).t) :: ((i : Int), ((a.2.2.2.take (F (i + 1))).drop (k + 1)).map toEd) :: T0.reverse.map (stkOf a F) := by
      rw [List.reverse_append, List.map_append, hst]
      show stkOf a F ((t : Int), ((F t : Nat) : Int)) :: _ = _
      congr 1
      unfold stkOf
      dsimp only
      rw [Int.toNat_natCast, Int.toNat_natCast, hF.out t htn, outE_eq]
      show ((t : Int), outE (edsOf a) (t : Int)) = (y.2.2, outE (edsOf a) y.2.2)
      rw [ht]
     have hp2 : ∀ p ∈ T0 ++ [((i : Int), ((k + 1 : Nat) : Int))] ++ [((t : Int), ((F t : Nat) : Int))], 0 ≤ p.1 ∧ p.1 < (n : Int) ∧ (F p.1.toNat : Int) ≤ p.2 ∧ p.2 ≤ (F (p.1.toNat + 1) : Int) := fun p hp2 => by
      rcases List.mem_append.1 hp2 with h | h
      ·exact hp1 p h
      ·rw [List.mem_singleton.1 h]
       dsimp only
       rw [Int.toNat_natCast]
       omega
     have htt : (toEd y).t.toNat = t := by show y.2.2.toNat = t; omega
     have h := ih _ (seen.set t true) ord _ hst2 hp2 (by
      have := hI.push (x := toEd y) hyr.2.2.1 hyr.2.2.2.1 (fun e => hg (hs.2 e))
      rw [htt] at this
      exact this) (by
      rw [show (y.2.2).toNat = t by omega] at hle
      have : leftL (edsOf a) n (((toEd y).t, outE (edsOf a) (toEd y).t) :: ((i : Int), ((a.2.2.2.take (F (i + 1))).drop (k + 1)).map toEd) :: T0.reverse.map (stkOf a F)) (seen.set t true) + 1 = _ := hle
      omega)
     rw [htt]
     exact h
end Go.Proofs.YtfbapajcheammaaGreatDoor

namespace Go.Proofs.YtfbapajcheammaaGreatDoor
open Go Go.RowKit
theorem sum_le {g : Nat → Nat} {c : Nat} (hg : ∀ t, g t ≤ c) : ∀ n, ((List.range n).map g).sum ≤ n * c
 | 0 => by simp
 | n + 1 => by
  have := sum_le hg n
  have := hg n
  rw [List.range_succ, List.map_append, List.sum_append, Nat.succ_mul]
  simp
  omega
theorem leftL_le {es : List Ed} {n : Nat} {s : Int} {seen : List Bool} : leftL es n [(s, outE es s)] seen ≤ es.length + 1 + n * (es.length + 2) := by
 have h1 : ∀ u, (outE es u).length ≤ es.length := fun u => List.length_filter_le _ _
 have h2 := sum_le (g := fun t => if seen.getD t false = true then 0 else (outE es (t : Int)).length + 2) (c := es.length + 2) (fun t => by
  have := h1 (t : Int)
  split <;> omega) n
 have h3 := h1 s
 unfold leftL
 simp only [List.map_cons, List.map_nil, List.sum_cons, List.sum_nil]
 omega
theorem order_sim {a : AutT} {n : Nat} (hr : Right a n) {fs : List Int} {F : Nat → Nat} (hF : FsOk a n fs F) : iter (m_reach_Components_l1 a (a, fs)) (0, List.replicate n false, []) = some (orderF (edsOf a) n).2 := by
 have hnl := hr.nl
 have hl3 := hr.l3
 have hel : (edsOf a).length = a.2.2.2.length := List.length_map _
 have hes : ∀ x ∈ edsOf a, 0 ≤ x.t ∧ x.t < (n : Int) := fun x hx => (hr.ein x hx).2.2
 obtain ⟨o, h1, rfl⟩ := iter_inv (f := m_reach_Components_l1 a (a, fs)) (fun i s => i ≤ n ∧ s.1 = (i : Int) ∧ (s.2.1, s.2.2) = (List.range i).foldl (ordStep (edsOf a) n) (List.replicate n false, [])) (fun o => o = (orderF (edsOf a) n).2) n 0 (by omega) (fun i s hi ⟨_, e1, e2⟩ => by
   obtain ⟨k, seen, ord⟩ := s
   dsimp only at e1 e2
   subst e1
   obtain ⟨hI, _⟩ := order_fold hes i (by omega)
   rw [← e2] at hI
   dsimp only at hI
   have hsl := hI.len
   left
   have hfold : (List.range (i + 1)).foldl (ordStep (edsOf a) n) (List.replicate n false, []) = ordStep (edsOf a) n (seen, ord) i := by
    rw [List.range_succ, List.foldl_append, ← e2]; rfl
   have hgd : seen.getD i false = seen[i]'(by omega) := by rw [List.getD_eq_getElem?_getD, List.getElem?_eq_getElem (by omega)]; rfl
   rw [m_reach_Components_l1]
   dsimp only
   rw [hr.nn, if_pos (ct_lt hi), idx_at (by omega), Option.bind_some]
   cases hb : seen[i]'(by omega) with
   | true =>
    rw [if_neg (by simp), m_reach_Components_j2]
    refine ⟨_, rfl, by omega, by dsimp only; rw [nxt (by omega)], ?_⟩
    dsimp only
    rw [hfold, ordStep]
    dsimp only
    rw [hgd, hb, if_pos rfl]
   | false =>
    have hn : (i : Int) ∉ held [] ord := fun e => by
     have := (hI.seen (i : Int) (by omega) (by omega)).2 e
     unfold Gd at this
     rw [Int.toNat_natCast, hgd, hb] at this
     cases this
    have he := hI.enter (t := (i : Int)) (by omega) (by omega) hn (fun s hs => by cases hs)
    rw [Int.toNat_natCast] at he
    have hm := hF.mono i hi
    have hfl := hF.len
    have hst : [((i : Int), ((F i : Nat) : Int))].reverse.map (stkOf a F) = [((i : Int), outE (edsOf a) (i : Int))] := by
     show [stkOf a F ((i : Int), ((F i : Nat) : Int))] = _
     unfold stkOf
     dsimp only
     rw [Int.toNat_natCast, Int.toNat_natCast, hF.out i hi, outE_eq]
    have hle := leftL_le (es := edsOf a) (n := n) (s := (i : Int)) (seen := seen.set i true)
    have hmul := Nat.mul_le_mul hnl (show (edsOf a).length + 2 ≤ 1000002 by omega)
    have hsim := finish_sim hr hF _ _ (seen.set i true) ord [((i : Int), ((F i : Nat) : Int))] hst (fun p hp => by
     rw [List.mem_singleton.1 hp]
     dsimp only
     rw [Int.toNat_natCast]
     omega) he (Nat.le_refl _)
    have hit := iter_of (by omega) hsim
    obtain ⟨hE, _⟩ := dfs_says hes _ _ _ _ he (Nat.le_refl _)
    have hEl := hE.len
    have hfin : m_reach_graph_finish (a, fs) (i : Int) seen ord = some ((dfsL (edsOf a) (leftL (edsOf a) n [((i : Int), outE (edsOf a) (i : Int))] (seen.set i true)) [((i : Int), outE (edsOf a) (i : Int))] (seen.set i true) ord).2, (dfsL (edsOf a) (leftL (edsOf a) n [((i : Int), outE (edsOf a) (i : Int))] (seen.set i true)) [((i : Int), outE (edsOf a) (i : Int))] (seen.set i true) ord).1) := by
     rw [m_reach_graph_finish]
     dsimp only
     rw [idx_at (by omega), Option.bind_some, hF.val, idx_at (by omega), Option.bind_some, upd_at (by omega), Option.bind_some, hit]
     rfl
    rw [if_pos (by simp), hfin, Option.bind_some, lenEq]
    dsimp only
    rw [if_pos (by omega), Option.bind_some, m_reach_Components_j2]
    refine ⟨_, rfl, by omega, by dsimp only; rw [nxt (by omega)], ?_⟩
    dsimp only
    rw [hfold, ordStep]
    dsimp only
    rw [hgd, hb, if_neg (by simp)]) (fun s ⟨_, e1, e2⟩ => by
   obtain ⟨k, seen, ord⟩ := s
   dsimp only at e1 e2
   subst e1
   refine ⟨ord, ?_, ?_⟩
   ·rw [m_reach_Components_l1]
    dsimp only
    rw [hr.nn, if_neg ct_ge]
   ·unfold orderF
    rw [← e2]) (Nat.zero_le _) (0, List.replicate n false, []) ⟨Nat.zero_le _, rfl, rfl⟩
 exact h1
structure IntoOk (a : AutT) (n : Nat) (L : List (List Int)) : Prop where
 len : L.length = n
 val : ∀ t (h : t < L.length), L[t] = preds (edsOf a) (t : Int)
theorem into_sim {a : AutT} {n : Nat} (hr : Right a n) : ∃ L, iter (m_reach_Components_l2 a) (0, List.replicate n []) = some L ∧ IntoOk a n L := by
 have hnl := hr.nl
 have hl3 := hr.l3
 obtain ⟨o, h1, h2, h3⟩ := iter_inv (f := m_reach_Components_l2 a) (fun i s => s.1 = (i : Int) ∧ s.2.length = n ∧ ∀ t (_ : t < s.2.length), s.2[t] = (((a.2.2.2.take i).filter fun x => decide (x.2.2 = (t : Int))).map fun x => x.1)) (fun o => o.length = n ∧ ∀ t (_ : t < o.length), o[t] = ((a.2.2.2.filter fun x => decide (x.2.2 = (t : Int))).map fun x => x.1)) a.2.2.2.length 0 (by omega) (fun i s hi ⟨e1, g1, g2⟩ => by
   obtain ⟨k, L⟩ := s
   dsimp only at e1 g1 g2
   subst e1
   have hx := hr.es _ (List.getElem_mem hi)
   obtain ⟨t, ht⟩ : ∃ t : Nat, a.2.2.2[i].2.2 = t := ⟨a.2.2.2[i].2.2.toNat, by omega⟩
   have htn : t < L.length := by omega
   have hlen : (L[t]'htn).length ≤ i := by
    rw [g2, List.length_map]
    exact Nat.le_trans (List.length_filter_le _ _) (by rw [List.length_take]; omega)
   refine .inl ⟨(((i + 1 : Nat) : Int), L.set t (L[t] ++ [a.2.2.2[i].1])), ?_, rfl, by simp [g1], fun u hu => ?_⟩
   ·rw [m_reach_Components_l2]
    dsimp only
    rw [if_pos (ct_lt hi), idx_at hi, Option.bind_some, ht, idx_at htn, Option.bind_some, app_eq (by simp; omega), Option.bind_some, Option.bind_some, upd_at htn, Option.bind_some, nxt (by omega)]
   ·have hu2 : u < L.length := by simpa using hu
    dsimp only
    rw [List.getElem_set, List.take_succ_eq_append_getElem hi, List.filter_append, List.map_append]
    by_cases h : t = u
    ·subst h
     rw [if_pos rfl, g2, List.filter_cons_of_pos (by simp [ht])]
     rfl
    ·rw [if_neg h, g2, List.filter_cons_of_neg (by simp [ht]; omega)]
     simp) (fun s ⟨e1, g1, g2⟩ => by
   obtain ⟨k, L⟩ := s
   dsimp only at e1 g1 g2
   subst e1
   refine ⟨L, ?_, g1, by rw [List.take_length] at g2; exact g2⟩
   rw [m_reach_Components_l2]
   dsimp only
   rw [if_neg ct_ge]) (Nat.zero_le _) (0, List.replicate n []) ⟨rfl, by simp, fun t ht => by simp⟩
 refine ⟨o, h1, h2, fun t ht => ?_⟩
 rw [h3 t ht]
 unfold preds edsOf
 rw [List.filter_map, List.map_map]
 rfl
structure ClsR (n : Nat) (cls : List Bool) (cl : List Int) : Prop where
 l1 : cls.length = n
 l2 : cl.length = n
 val : ∀ t (h : t < cls.length) (h2 : t < cl.length), 0 ≤ cl[t] ∧ (cl[t] = 0 ↔ cls[t] = false)
theorem ClsR.set {n : Nat} {cls : List Bool} {cl : List Int} (h : ClsR n cls cl) {t : Nat} {v : Int} (hv : 0 < v) : ClsR n (cls.set t true) (cl.set t v) := by
 refine ⟨by rw [List.length_set]; exact h.l1, by rw [List.length_set]; exact h.l2, fun u hu hu2 => ?_⟩
 rw [List.getElem_set, List.getElem_set]
 by_cases e : t = u
 ·rw [if_pos e, if_pos e]; exact ⟨by omega, by simp; omega⟩
 ·rw [if_neg e, if_neg e]; exact h.val u _ _
theorem grp_inner {a : AutT} {n : Nat} (hr : Right a n) {z : List Int × List (List Int)} (hz : z.2.length ≤ 1000000) {cls0 : List Bool} {root t : Int} {cls : List Bool} {G : List Int} {cl : List Int} (hG : GrpI (edsOf a) n cls0 root (cls, G)) (ht : t ∈ G) (hC : ClsR n cls cl) :
  ∃ cl', iter (m_reach_Components_l5 z (preds (edsOf a) t)) (0, G, cl) = some (((preds (edsOf a) t).foldl grpStep (cls, G)).2, cl') ∧ ClsR n ((preds (edsOf a) t).foldl grpStep (cls, G)).1 cl' := by
 have hnl := hr.nl
 have hl3 := hr.l3
 have hef : ∀ x ∈ edsOf a, 0 ≤ x.f ∧ x.f < (n : Int) := fun x hx => ⟨(hr.ein x hx).1, (hr.ein x hx).2.1⟩
 obtain ⟨es, hes⟩ : ∃ es, es = (edsOf a).filter fun x => decide (x.t = t) := ⟨_, rfl⟩
 have hps : preds (edsOf a) t = es.map Ed.f := by rw [hes]; rfl
 have hmem : ∀ x ∈ es, x ∈ edsOf a ∧ x.t = t := fun x hx => by
  rw [hes] at hx
  have := List.mem_filter.1 hx
  exact ⟨this.1, by simpa using this.2⟩
 have hel : es.length ≤ 1000000 := by
  rw [hes]
  exact Nat.le_trans (List.length_filter_le _ _) (by unfold edsOf; rw [List.length_map]; exact hl3)
 rw [hps]
 obtain ⟨o, h1, h2, h3⟩ := iter_inv (f := m_reach_Components_l5 z (es.map Ed.f)) (fun j s => j ≤ es.length ∧ s.1 = (j : Int) ∧ s.2.1 = (((es.take j).map Ed.f).foldl grpStep (cls, G)).2 ∧ ClsR n (((es.take j).map Ed.f).foldl grpStep (cls, G)).1 s.2.2) (fun o => o.1 = ((es.map Ed.f).foldl grpStep (cls, G)).2 ∧ ClsR n ((es.map Ed.f).foldl grpStep (cls, G)).1 o.2) es.length 0 (by omega) (fun j s hj ⟨_, e1, e2, e3⟩ => by
   obtain ⟨k, g, c⟩ := s
   dsimp only at e1 e2 e3
   subst e1
   obtain ⟨hI, _⟩ := grp_fold hef (es.take j) (cls, G) hG ht (fun x hx => hmem x (List.mem_of_mem_take hx))
   rw [List.take_succ_eq_append_getElem hj, List.map_append, List.foldl_append]
   have hx := hef _ (hmem _ (List.getElem_mem hj)).1
   obtain ⟨u, hu⟩ : ∃ u : Nat, es[j].f = u := ⟨es[j].f.toNat, by omega⟩
   generalize ((es.take j).map Ed.f).foldl grpStep (cls, G) = S at e2 e3 hI ⊢
   obtain ⟨S1, S2⟩ := S
   dsimp only at e2 e3
   subst e2
   have hgl := int_nodup_len hI.nd hI.rng
   dsimp only at hgl
   have hc1 := e3.l1
   have hc2 := e3.l2
   have hval := e3.val u (by omega) (by omega)
   have hgd : S1.getD u false = S1[u]'(by omega) := by rw [List.getD_eq_getElem?_getD, List.getElem?_eq_getElem (by omega)]; rfl
   have hstep : List.foldl grpStep (S1, g) (List.map Ed.f [es[j]]) = if S1[u]'(by omega) = true then (S1, g) else (S1.set u true, g ++ [(u : Int)]) := by
    show grpStep (S1, g) es[j].f = _
    unfold grpStep
    rw [hu, Int.toNat_natCast, hgd]
   left
   rw [m_reach_Components_l5]
   dsimp only
   rw [if_pos (by simp; omega), idx_at (by simpa using hj), Option.bind_some, List.getElem_map, hu, idx_at (by omega), Option.bind_some, hstep]
   cases hb : S1[u]'(by omega) with
   | true =>
    rw [if_neg (by simp; intro e; have := hval.2.1 e; rw [hb] at this; cases this), m_reach_Components_j1, if_pos rfl]
    exact ⟨_, rfl, by omega, by dsimp only; rw [nxt (by omega)], rfl, e3⟩
   | false =>
    have hv : (z.2.length : Int) + 1 = ((z.2.length + 1 : Nat) : Int) := by omega
    rw [if_pos (by rw [hval.2.2 hb]; rfl), Option.bind_some, hv, W_nat (by omega), upd_at (by omega), Option.bind_some, app_eq (by simp; omega), Option.bind_some, m_reach_Components_j1, if_neg (by simp)]
    exact ⟨_, rfl, by omega, by dsimp only; rw [nxt (by omega)], rfl, e3.set (by omega)⟩) (fun s ⟨_, e1, e2, e3⟩ => by
   obtain ⟨k, g, c⟩ := s
   dsimp only at e1 e2 e3
   subst e1
   rw [List.take_length] at e2 e3
   refine ⟨(g, c), ?_, e2, e3⟩
   rw [m_reach_Components_l5]
   dsimp only
   rw [if_neg (by simp)]) (Nat.zero_le _) (0, G, cl) ⟨Nat.zero_le _, rfl, rfl, hC⟩
 obtain ⟨o1, o2⟩ := o
 dsimp only at h2 h3
 exact ⟨o2, by rw [h1, h2], h3⟩
theorem grp_sim {a : AutT} {n : Nat} (hr : Right a n) {L : List (List Int)} (hL : IntoOk a n L) {z : List Int × List (List Int)} (hz : z.2.length ≤ 1000000) {cls0 : List Bool} {root : Int} : ∀ (f i : Nat) (cls : List Bool) (G cl : List Int), GrpI (edsOf a) n cls0 root (cls, G) → ClsR n cls cl → n + 1 ≤ i + f → i ≤ n + 1 →
  ∃ cl', iterF (m_reach_Components_l4 L z) (f + 1) ((i : Int), G, cl) = some ((grpLoop (edsOf a) f i (cls, G)).2, cl') ∧ ClsR n (grpLoop (edsOf a) f i (cls, G)).1 cl' := by
 have hnl := hr.nl
 intro f
 induction f with
 | zero =>
  intro i cls G cl hG hC hf hi
  have hgl := int_nodup_len hG.nd hG.rng
  dsimp only at hgl
  refine ⟨cl, ?_, hC⟩
  rw [iterF_succ, m_reach_Components_l4]
  dsimp only
  rw [if_neg (by simp; omega)]
  rfl
 | succ f ih =>
  intro i cls G cl hG hC hf hi
  have hgl := int_nodup_len hG.nd hG.rng
  dsimp only at hgl
  rw [iterF_succ, m_reach_Components_l4, grpLoop]
  dsimp only
  by_cases hlt : i < G.length
  ·have hg : G.getD i 0 = G[i] := by rw [List.getD_eq_getElem?_getD, List.getElem?_eq_getElem hlt]; rfl
   have hm := hG.rng _ (List.getElem_mem hlt)
   obtain ⟨t, ht⟩ : ∃ t : Nat, G[i] = t := ⟨G[i].toNat, by omega⟩
   have hLl := hL.len
   obtain ⟨cl1, g1, g2⟩ := grp_inner hr hz (t := G[i]) hG (List.getElem_mem hlt) hC
   have hG1 : GrpI (edsOf a) n cls0 root ((preds (edsOf a) G[i]).foldl grpStep (cls, G)) := (grp_fold (fun x hx => ⟨(hr.ein x hx).1, (hr.ein x hx).2.1⟩) ((edsOf a).filter fun x => decide (x.t = G[i])) (cls, G) hG (List.getElem_mem hlt) (fun x hx => by
    have := List.mem_filter.1 hx
    exact ⟨this.1, by simpa using this.2⟩)).1
   rw [if_pos (ct_lt hlt), idx_at hlt, Option.bind_some, ht, idx_at (by omega), Option.bind_some, hL.val, ← ht, g1, Option.bind_some, if_pos hlt, hg]
   generalize (preds (edsOf a) G[i]).foldl grpStep (cls, G) = S at g2 hG1
   obtain ⟨S1, S2⟩ := S
   obtain ⟨cl2, g3, g4⟩ := ih (i + 1) S1 S2 cl1 hG1 g2 (by omega) (by omega)
   refine ⟨cl2, ?_, g4⟩
   dsimp only
   rw [nxt (by omega)]
   exact g3
  ·rw [if_neg (by simp; omega), if_neg hlt]
   exact ⟨cl, rfl, hC⟩
end Go.Proofs.YtfbapajcheammaaGreatDoor

namespace Go.Proofs.YtfbapajcheammaaGreatDoor
open Go Go.RowKit
def srt (l : List Int) : List Int := l.mergeSort fun x y => decide (x ≤ y)
theorem srt_mem {l : List Int} {x : Int} : x ∈ srt l ↔ x ∈ l := List.mem_mergeSort
theorem srt_inc {l : List Int} (h : l.Nodup) : Inc (srt l) := by
 have h1 : (srt l).Pairwise fun x y => decide (x ≤ y) = true := List.pairwise_mergeSort (fun a b c h1 h2 => by simp at *; omega) (fun a b => by simp; omega) l
 have h2 : (srt l).Nodup := (List.mergeSort_perm l _).nodup_iff.2 h
 exact (h1.and h2).imp fun {x y} h => by
  have h3 := h.1
  have h4 := h.2
  simp at h3
  omega
theorem range_sim {a : AutT} {n : Nat} (hr : Right a n) {L : List (List Int)} (hL : IntoOk a n L) {r : List (Int × Int)} (hrl : r.length = (orderF (edsOf a) n).2.length) (hrg : ∀ k, k < (orderF (edsOf a) n).2.length → (r.getD k (0, 0)).2 = (orderF (edsOf a) n).2.reverse.getD k 0) :
  ∃ cl, rngF (fun k => m_reach_Components_l3 L (r.getD k (0, 0))) r.length 0 (List.replicate n 0, []) = some (cl, (compF (edsOf a) n).map srt) := by
 have hnl := hr.nl
 have hes : ∀ x ∈ edsOf a, 0 ≤ x.f ∧ x.f < (n : Int) ∧ 0 ≤ x.t ∧ x.t < (n : Int) := hr.ein
 obtain ⟨ho1, ho2, ho3⟩ := order_says (fun x hx => (hes x hx).2.2)
 have hLa : ∀ t, 0 ≤ t → t < (n : Int) → t ∈ (orderF (edsOf a) n).2 := fun t h0 h4 => by
  have := ho3 t.toNat (by omega)
  rwa [Int.toNat_of_nonneg h0] at this
 have hOl := int_nodup_len ho1.nd ho2
 have hcf : compF (edsOf a) n = ((orderF (edsOf a) n).2.reverse.foldl (cmpStep (edsOf a) n) (List.replicate n false, [])).2 := rfl
 have hfold := comp_fold hes ho1 ho2 hLa
 rw [hcf]
 generalize (orderF (edsOf a) n).2 = O at *
 obtain ⟨o, h1, h2, h3, h4⟩ := rng_inv (f := fun k => m_reach_Components_l3 L (r.getD k (0, 0))) (fun k s => k ≤ O.length ∧ (ClsR n ((O.reverse.take k).foldl (cmpStep (edsOf a) n) (List.replicate n false, [])).1 s.1 ∧ s.2 = (((O.reverse.take k).foldl (cmpStep (edsOf a) n) (List.replicate n false, [])).2).map srt) ∧ s.2.length ≤ k) (N := r.length) (fun k s hk ⟨_, ⟨hC, hg⟩, hlen⟩ => by
   obtain ⟨cl, gs⟩ := s
   dsimp only at hC hg hlen ⊢
   have hk2 : k < O.length := by omega
   have hkr : k < O.reverse.length := by simpa using hk2
   obtain ⟨hI, _⟩ := hfold k (by omega)
   have hrt : (O.drop (O.length - k)).reverse = O.reverse.take k := by rw [List.take_reverse]
   rw [hrt] at hI
   have hO : O.reverse.getD k 0 = O.reverse[k] := by rw [List.getD_eq_getElem?_getD, List.getElem?_eq_getElem hkr]; rfl
   have hroot := ho2 (O.reverse[k]) (List.mem_reverse.1 (List.getElem_mem hkr))
   obtain ⟨u, hu⟩ : ∃ u : Nat, O.reverse[k] = u := ⟨(O.reverse[k]).toNat, by omega⟩
   have hru : (r.getD k (0, 0)).2 = (u : Int) := by rw [hrg k hk2, hO, hu]
   rw [List.take_succ_eq_append_getElem hkr, List.foldl_append, hu]
   generalize (O.reverse.take k).foldl (cmpStep (edsOf a) n) (List.replicate n false, []) = S at hC hg hI ⊢
   obtain ⟨cls, Gs⟩ := S
   dsimp only at hC hg
   have hc1 := hC.l1
   have hc2 := hC.l2
   have hval := hC.val u (by omega) (by omega)
   have hgd : cls.getD u false = cls[u]'(by omega) := by rw [List.getD_eq_getElem?_getD, List.getElem?_eq_getElem (by omega)]; rfl
   have hstep : List.foldl (cmpStep (edsOf a) n) (cls, Gs) [(u : Int)] = if cls[u]'(by omega) = true then (cls, Gs) else ((grpLoop (edsOf a) (n + 1) 0 (cls.set u true, [(u : Int)])).1, Gs ++ [(grpLoop (edsOf a) (n + 1) 0 (cls.set u true, [(u : Int)])).2]) := by
    show cmpStep (edsOf a) n (cls, Gs) (u : Int) = _
    unfold cmpStep
    dsimp only
    rw [Int.toNat_natCast, hgd]
   rw [m_reach_Components_l3]
   dsimp only
   rw [hru, idx_at (by omega), Option.bind_some, hstep]
   cases hb : cls[u]'(by omega) with
   | true =>
    have hne : ¬ cl[u]'(by omega) = 0 := fun e => by rw [hval.2.1 e] at hb; cases hb
    rw [if_pos (by simp; omega), if_pos rfl]
    exact ⟨_, rfl, by omega, ⟨hC, hg⟩, by dsimp only; omega⟩
   | false =>
    have hng : ¬ Gd cls (u : Int) := by unfold Gd; rw [Int.toNat_natCast, hgd, hb]; simp
    have h0 := grp_start (es := edsOf a) (fun x hx => ⟨(hes x hx).1, (hes x hx).2.1⟩) hI.len (root := (u : Int)) (by omega) (by omega) hng
    rw [Int.toNat_natCast] at h0
    have hv : (gs.length : Int) + 1 = ((gs.length + 1 : Nat) : Int) := by omega
    obtain ⟨cl2, g1, g2⟩ := grp_sim hr hL (z := (cl, gs)) (by dsimp only; omega) (n + 1) 0 (cls.set u true) [(u : Int)] (cl.set u ((gs.length + 1 : Nat) : Int)) h0 (hC.set (by omega)) (by omega) (by omega)
    have g1 := iter_of (by omega) g1
    obtain ⟨hE, _⟩ := grp_says (es := edsOf a) (fun x hx => ⟨(hes x hx).1, (hes x hx).2.1⟩) hI.len (root := (u : Int)) (by omega) (by omega) hng
    rw [Int.toNat_natCast] at hE
    dsimp only at hE
    have hgl := int_nodup_len hE.nd hE.rng
    rw [if_neg (by rw [hval.2.2 hb]; simp), Option.bind_some, hv, W_nat (by omega), upd_at (by omega), Option.bind_some]
    rw [show ((0 : Nat) : Int) = 0 from rfl] at g1
    rw [g1, Option.bind_some, m_slices_Sort_int]
    dsimp only
    rw [if_pos (by omega), Option.bind_some, lenEq, if_pos (by simp), Option.bind_some, app_eq (by simp; omega), Option.bind_some, if_neg (by simp)]
    exact ⟨_, rfl, by omega, ⟨g2, by dsimp only; rw [hg, List.map_append]; rfl⟩, by simp; omega⟩) r.length 0 (List.replicate n 0, []) (Nat.zero_add _) ⟨Nat.zero_le _, ⟨⟨by simp, by simp, fun t h h2 => by simp⟩, rfl⟩, Nat.le_refl _⟩
 obtain ⟨o1, o2⟩ := o
 rw [hrl, ← List.length_reverse, List.take_length] at h3
 dsimp only at h3
 exact ⟨o1, by rw [h1, h3.2]⟩
theorem map_get_finRange {α : Type} (l : List α) : (List.finRange l.length).map l.get = l := by
 apply List.ext_getElem
 ·simp
 ·intro i h1 h2
  simp
theorem comp_ex {a : AutT} {n : Nat} (hr : Right a n) : ∃ Cs, m_reach_Components a = some (Cs, 0) ∧ CompSpec (edsOf a) n Cs := by
 have hnl := hr.nl
 obtain ⟨fs, F, efs, hF⟩ := newGraph_full hr
 obtain ⟨L, eL, hL⟩ := into_sim hr
 have hes : ∀ x ∈ edsOf a, 0 ≤ x.f ∧ x.f < (n : Int) ∧ 0 ≤ x.t ∧ x.t < (n : Int) := hr.ein
 obtain ⟨ho1, ho2, ho3⟩ := order_says (fun x hx => (hes x hx).2.2)
 have hOl := int_nodup_len ho1.nd ho2
 obtain ⟨hs1, hs2, hs3⟩ := comp_says hes
 obtain ⟨r, er, hrl, hrg⟩ : ∃ r, m_slices_Backward_int (orderF (edsOf a) n).2 = some r ∧ r.length = (orderF (edsOf a) n).2.length ∧ ∀ k, k < (orderF (edsOf a) n).2.length → (r.getD k (0, 0)).2 = (orderF (edsOf a) n).2.reverse.getD k 0 := by
  refine ⟨_, if_pos (by omega), by simp, fun k hk => ?_⟩
  rw [List.getD_eq_getElem?_getD, List.getElem?_map, List.getElem?_range hk, List.getD_eq_getElem?_getD, List.getElem?_reverse hk]
  show (orderF (edsOf a) n).2.getD ((orderF (edsOf a) n).2.length - 1 - k) 0 = _
  rw [List.getD_eq_getElem?_getD]
 obtain ⟨cl, ecl⟩ := range_sim hr hL hrl hrg
 -- the groups before they are put in order
 have hne : ∀ G ∈ compF (edsOf a) n, srt G ≠ [] ∧ hd0 (srt G) ∈ G := fun G hG => by
  obtain ⟨t, ht⟩ := (hs1 G hG).ne
  have h1 : srt G ≠ [] := fun e => by have := srt_mem.2 ht; rw [e] at this; cases this
  refine ⟨h1, srt_mem.1 ?_⟩
  unfold hd0
  cases he : srt G with
  | nil => exact absurd he h1
  | cons x us => exact List.mem_cons_self
 have hlen : (compF (edsOf a) n).length ≤ n := by
  have h1 : ((compF (edsOf a) n).map fun G => hd0 (srt G)).Nodup := by
   unfold List.Nodup
   rw [List.pairwise_map]
   exact List.Pairwise.imp_of_mem (fun {G H} hG hH hd e => hd _ (hne G hG).2 (e ▸ (hne H hH).2)) hs2
  have := int_nodup_len (n := n) h1 (fun x hx => by
   obtain ⟨G, hG, rfl⟩ := List.mem_map.1 hx
   exact (hs1 G hG).rng _ (hne G hG).2)
  simpa using this
 obtain ⟨gs, hgs⟩ : ∃ gs, gs = (compF (edsOf a) n).map srt := ⟨_, rfl⟩
 rw [← hgs] at ecl
 have hgl : gs.length ≤ n := by rw [hgs, List.length_map]; exact hlen
 have hmem : ∀ g ∈ gs, ∃ G ∈ compF (edsOf a) n, g = srt G := fun g hg => by
  rw [hgs] at hg
  obtain ⟨G, hG, e⟩ := List.mem_map.1 hg
  exact ⟨G, hG, e.symm⟩
 have hnd : (gs.map hd0).Nodup := by
  rw [hgs, List.map_map]
  unfold List.Nodup
  rw [List.pairwise_map]
  exact List.Pairwise.imp_of_mem (fun {G H} hG hH hd e => hd _ (hne G hG).2 (by have e : hd0 (srt G) = hd0 (srt H) := e; exact e ▸ (hne H hH).2)) hs2
 obtain ⟨Cs, hCs⟩ : ∃ Cs, Cs = ((List.finRange gs.length).mergeSort fun x y => !decide (hd0 (gs.get y) - hd0 (gs.get x) < 0)).map gs.get := ⟨_, rfl⟩
 have hsort : m_slices_SortFunc_int gs = some Cs := by
  rw [hCs]
  refine if_pos ⟨fun g hg => ?_, hnd, by omega⟩
  obtain ⟨G, hG, rfl⟩ := hmem g hg
  have h1 := hne G hG
  have h2 := (hs1 G hG).rng _ h1.2
  exact ⟨h1.1, by omega, by omega⟩
 have hperm : Cs.Perm gs := by
  rw [hCs]
  have := (List.mergeSort_perm (List.finRange gs.length) fun x y => !decide (hd0 (gs.get y) - hd0 (gs.get x) < 0)).map gs.get
  rwa [map_get_finRange] at this
 have hord : Cs.Pairwise fun C D => C.headD 0 < D.headD 0 := by
  have h1 : Cs.Pairwise fun C D => hd0 C ≤ hd0 D := by
   rw [hCs, List.pairwise_map]
   refine (List.pairwise_mergeSort (fun a b c h1 h2 => ?_) (fun a b => ?_) (List.finRange gs.length)).imp fun {x y} h => ?_
   ·simp at *; omega
   ·simp; omega
   ·simp at h ⊢; omega
  have h2 : (Cs.map hd0).Nodup := (hperm.map hd0).nodup_iff.2 hnd
  unfold List.Nodup at h2
  rw [List.pairwise_map] at h2
  exact (h1.and h2).imp fun {C D} h => by
   have h3 := h.1
   have h4 := h.2
   unfold hd0 at h3 h4
   omega
 refine ⟨Cs, ?_, compSpec_of hs1 hs3 (fun C hC => ?_) (fun G hG => ?_) hord⟩
 ·rw [m_reach_Components, hr.check, Option.bind_some, if_neg (by simp), efs, Option.bind_some, hr.nn, mkL_eq (by omega) (by omega), Option.bind_some, Int.toNat_natCast, order_sim hr hF, Option.bind_some, mkL_eq (by omega) (by omega), Option.bind_some, Int.toNat_natCast, eL, Option.bind_some, mkL_eq (by omega) (by omega), Option.bind_some, Int.toNat_natCast, er, Option.bind_some, ecl, Option.bind_some, hsort, Option.bind_some]
  dsimp only
  rw [lenEq, if_pos hperm.length_eq]
  rfl
 ·obtain ⟨G, hG, rfl⟩ := hmem C (hperm.mem_iff.1 hC)
  exact ⟨srt_inc (hs1 G hG).nd, G, hG, fun t => srt_mem⟩
 ·exact ⟨srt G, hperm.mem_iff.2 (by rw [hgs]; exact List.mem_map_of_mem hG), fun t => srt_mem⟩
end Go.Proofs.YtfbapajcheammaaGreatDoor

namespace Go.Proofs.YtfbapajcheammaaGreatDoor
open Go Go.RowKit
def clB (es : List Ed) (C : List Int) : Bool := es.all fun x => !hasB C x.f || hasB C x.t
theorem IsScc.two {es : List Ed} {n : Nat} {C : List Int} (h : IsScc es n C) {x y : Int} (hx : x ∈ C) (hy : y ∈ C) : RchC es x y := by
 obtain ⟨r, hr, hs⟩ := h.ex
 have h1 := (hs x (h.rng x hx).1 (h.rng x hx).2).1 hx
 have h2 := (hs y (h.rng y hy).1 (h.rng y hy).2).1 hy
 exact h1.1.trans h2.2
theorem IsScc.back {es : List Ed} {n : Nat} {C : List Int} (h : IsScc es n C) {x y : Int} (hx : x ∈ C) (h0 : 0 ≤ y) (h1 : y < (n : Int)) (h2 : RchC es x y) (h3 : RchC es y x) : y ∈ C := by
 obtain ⟨r, hr, hs⟩ := h.ex
 have h4 := (hs x (h.rng x hx).1 (h.rng x hx).2).1 hx
 exact (hs y h0 h1).2 ⟨h3.trans h4.1, h4.2.trans h2⟩
def tStep (cl gd : List Int → Bool) (S : List (List Int) × List Int) (C : List Int) : List (List Int) × List Int :=
 if cl C = true then (S.1 ++ [C], if gd C = true then S.2 else S.2 ++ [(S.1.length : Int)]) else S
def tAll (cl gd : List Int → Bool) (Cs : List (List Int)) : List (List Int) × List Int := Cs.foldl (tStep cl gd) ([], [])
theorem tAll_snoc (cl gd : List Int → Bool) (Cs : List (List Int)) (C : List Int) : tAll cl gd (Cs ++ [C]) = tStep cl gd (tAll cl gd Cs) C := by
 unfold tAll
 rw [List.foldl_append]
 rfl
structure TInv (cl gd : List Int → Bool) (Cs : List (List Int)) (S : List (List Int) × List Int) : Prop where
 mem : ∀ C, C ∈ S.1 ↔ C ∈ Cs ∧ cl C = true
 bad : ∀ i (h : i < S.1.length), ((i : Int) ∈ S.2 ↔ gd S.1[i] = false)
 rng : ∀ b ∈ S.2, 0 ≤ b ∧ b < (S.1.length : Int)
 len : S.2.length ≤ S.1.length
 len2 : S.1.length ≤ Cs.length
theorem tAll_inv {cl gd : List Int → Bool} (Cs : List (List Int)) : ∀ k, k ≤ Cs.length → TInv cl gd (Cs.take k) (tAll cl gd (Cs.take k))
 | 0, _ => ⟨fun C => by simp [tAll], fun i h => by simp [tAll] at h, fun b hb => by simp [tAll] at hb, by simp [tAll], by simp [tAll]⟩
 | k + 1, hk => by
  have ih := tAll_inv (cl := cl) (gd := gd) Cs k (by omega)
  have hkl : k < Cs.length := hk
  rw [List.take_succ_eq_append_getElem hkl, tAll_snoc]
  generalize tAll cl gd (Cs.take k) = S at ih ⊢
  obtain ⟨T, B⟩ := S
  obtain ⟨m, b, r, l1, l2⟩ := ih
  dsimp only at m b r l1 l2
  generalize Cs[k] = C
  unfold tStep
  dsimp only
  cases hc : cl C with
  | false =>
   rw [if_neg (by simp)]
   refine ⟨fun D => ?_, b, r, l1, by simp; simp at l2; omega⟩
   dsimp only
   rw [m D, List.mem_append, List.mem_singleton]
   constructor
   ·exact fun h => ⟨.inl h.1, h.2⟩
   ·rintro ⟨h | rfl, h2⟩
    ·exact ⟨h, h2⟩
    ·rw [hc] at h2; cases h2
  | true =>
   rw [if_pos rfl]
   refine ⟨fun D => ?_, fun i hi => ?_, fun x hx => ?_, ?_, by simp; simp at l2; omega⟩
   ·dsimp only
    rw [List.mem_append, List.mem_append, m D, List.mem_singleton]
    constructor
    ·rintro (h | rfl)
     ·exact ⟨.inl h.1, h.2⟩
     ·exact ⟨.inr rfl, hc⟩
    ·rintro ⟨h | h, h2⟩
     ·exact .inl ⟨h, h2⟩
     ·exact .inr h
   ·dsimp only at hi ⊢
    rw [List.length_append, List.length_singleton] at hi
    by_cases h : i < T.length
    ·rw [List.getElem_append_left h, ← b i h]
     cases hg : gd C with
     | true => rw [if_pos rfl]
     | false =>
      rw [if_neg (by simp), List.mem_append, List.mem_singleton]
      constructor
      ·rintro (h2 | h2)
       ·exact h2
       ·omega
      ·exact .inl
    ·obtain rfl : i = T.length := by omega
     rw [List.getElem_append_right (by omega)]
     simp only [Nat.sub_self, List.getElem_cons_zero]
     cases hg : gd C with
     | true =>
      rw [if_pos rfl]
      constructor
      ·intro h2; have := r _ h2; omega
      ·intro h2; cases h2
     | false =>
      rw [if_neg (by simp)]
      exact ⟨fun _ => rfl, fun _ => List.mem_append_right _ (List.mem_singleton.2 rfl)⟩
   ·dsimp only at hx ⊢
    rw [List.length_append, List.length_singleton]
    cases hg : gd C with
    | true => rw [hg, if_pos rfl] at hx; have := r x hx; omega
    | false =>
     rw [hg, if_neg (by simp)] at hx
     rcases List.mem_append.1 hx with hx | hx
     ·have := r x hx; omega
     ·rw [List.mem_singleton.1 hx]; omega
   ·dsimp only
    rw [List.length_append, List.length_singleton]
    cases hg : gd C with
    | true => rw [if_pos rfl]; omega
    | false => rw [if_neg (by simp), List.length_append, List.length_singleton]; omega
end Go.Proofs.YtfbapajcheammaaGreatDoor

namespace Go.Proofs.YtfbapajcheammaaGreatDoor
open Go Go.RowKit
theorem comp_one {es : List Ed} {n : Nat} {Cs : List (List Int)} (hs : CompSpec es n Cs) {i j : Nat} (hi : i < Cs.length) (hj : j < Cs.length) {s : Int} (h1 : s ∈ Cs[i]) (h2 : s ∈ Cs[j]) : i = j := by
 have a1 := hs.scc _ (List.getElem_mem hi)
 have a2 := hs.scc _ (List.getElem_mem hj)
 have b1 := inc_head (hs.inc _ (List.getElem_mem hi)) h1
 have b2 := inc_head (hs.inc _ (List.getElem_mem hj)) h2
 have e : Cs[i].headD 0 = Cs[j].headD 0 := by
  have c1 : Cs[i].headD 0 ∈ Cs[j] := a2.back h2 (a1.rng _ b1.1).1 (a1.rng _ b1.1).2 (a1.two h1 b1.1) (a1.two b1.1 h1)
  have c2 : Cs[j].headD 0 ∈ Cs[i] := a1.back h1 (a2.rng _ b2.1).1 (a2.rng _ b2.1).2 (a2.two h2 b2.1) (a2.two b2.1 h2)
  have d1 := (inc_head (hs.inc _ (List.getElem_mem hi)) c2).2
  have d2 := (inc_head (hs.inc _ (List.getElem_mem hj)) c1).2
  omega
 rcases Nat.lt_trichotomy i j with h | h | h
 ·have := List.pairwise_iff_getElem.1 hs.ord i j hi hj h; omega
 ·exact h
 ·have := List.pairwise_iff_getElem.1 hs.ord j i hj hi h; omega
theorem comp_len {es : List Ed} {n : Nat} {Cs : List (List Int)} (hs : CompSpec es n Cs) : Cs.length ≤ n := by
 have h1 : (Cs.map fun C => C.headD 0).Nodup := by
  unfold List.Nodup
  rw [List.pairwise_map]
  exact hs.ord.imp fun h => by omega
 have := int_nodup_len (n := n) h1 (fun x hx => by
  obtain ⟨C, hC, rfl⟩ := List.mem_map.1 hx
  obtain ⟨t, ht⟩ := (hs.scc C hC).ne
  exact (hs.scc C hC).rng _ (inc_head (hs.inc C hC) ht).1)
 simpa using this
theorem comp_sz {es : List Ed} {n : Nat} {Cs : List (List Int)} (hs : CompSpec es n Cs) {C : List Int} (hC : C ∈ Cs) : C.length ≤ n := by
 have := inc_len (hs.inc C hC) ((hs.scc C hC).rng) (Int.le_refl _)
 omega
def ClsOk (Cs : List (List Int)) (n k : Nat) (cls : List Int) : Prop := cls.length = n ∧ ∀ j (h : j < Cs.length), j < k → ∀ s ∈ Cs[j], cls.getD s.toNat 0 = (j : Int)
theorem tget_set_self {xs : List Int} {i : Nat} {v : Int} (h : i < xs.length) : (xs.set i v).getD i 0 = v := by
 rw [List.getD_eq_getElem?_getD, List.getElem?_set_self h]; rfl
theorem tget_set_ne {xs : List Int} {i j : Nat} {v : Int} (h : i ≠ j) : (xs.set i v).getD j 0 = xs.getD j 0 := by
 rw [List.getD_eq_getElem?_getD, List.getElem?_set_ne h, List.getD_eq_getElem?_getD]
theorem class_ex {es : List Ed} {n : Nat} (hn : n ≤ 4096) {Cs : List (List Int)} (hs : CompSpec es n Cs) (e : Int) : ∃ cls, iter (m_blocking_Traps_l1 (Cs, e)) (0, List.replicate n 0) = some cls ∧ ClsOk Cs n Cs.length cls := by
 have hcl := comp_len hs
 refine iter_inv (f := m_blocking_Traps_l1 (Cs, e)) (fun i s => s.1 = (i : Int) ∧ ClsOk Cs n i s.2) (fun o => ClsOk Cs n Cs.length o) Cs.length 0 (by omega) (fun i s hi ⟨e1, g1, g2⟩ => ?_) (fun s ⟨e1, g1⟩ => ?_) (Nat.zero_le _) _ ⟨rfl, by simp, fun j _ h => absurd h (Nat.not_lt_zero _)⟩
 ·obtain ⟨k, cls⟩ := s
  dsimp only at e1 g1 g2
  subst e1
  have hCl := comp_sz hs (List.getElem_mem hi)
  obtain ⟨o, h1, h2, h3, h4⟩ := iter_inv (f := m_blocking_Traps_l5 ((i : Int), cls) Cs[i]) (fun t s => t ≤ Cs[i].length ∧ s.1 = (t : Int) ∧ s.2.length = n ∧ (∀ x ∈ Cs[i].take t, s.2.getD x.toNat 0 = (i : Int)) ∧ ∀ j (h : j < Cs.length), j < i → ∀ x ∈ Cs[j], s.2.getD x.toNat 0 = (j : Int)) (fun o => o.length = n ∧ (∀ x ∈ Cs[i], o.getD x.toNat 0 = (i : Int)) ∧ ∀ j (h : j < Cs.length), j < i → ∀ x ∈ Cs[j], o.getD x.toNat 0 = (j : Int)) Cs[i].length 0 (by omega) (fun t s ht ⟨_, e2, q1, q2, q3⟩ => by
    obtain ⟨k, c⟩ := s
    dsimp only at e2 q1 q2 q3
    subst e2
    have hr := (hs.scc _ (List.getElem_mem hi)).rng _ (List.getElem_mem ht)
    obtain ⟨u, hu⟩ : ∃ u : Nat, Cs[i][t] = (u : Int) := ⟨Cs[i][t].toNat, by omega⟩
    have hun : u < c.length := by omega
    left
    rw [m_blocking_Traps_l5]
    dsimp only
    rw [if_pos (ct_lt ht), idx_at ht, Option.bind_some, hu, idx_at hun, Option.bind_some, upd_at hun, Option.bind_some, nxt (by omega)]
    refine ⟨_, rfl, by omega, rfl, by simpa using q1, fun x hx => ?_, fun j hj hji x hx => ?_⟩
    ·dsimp only
     rw [List.take_succ_eq_append_getElem ht, List.mem_append, List.mem_singleton] at hx
     by_cases hxu : u = x.toNat
     ·rw [← hxu, tget_set_self hun]
     ·rw [tget_set_ne hxu]
      rcases hx with hx | hx
      ·exact q2 x hx
      ·rw [hx, hu] at hxu; simp at hxu
    ·dsimp only
     have hne : u ≠ x.toNat := by
      intro e3
      have hxr := (hs.scc _ (List.getElem_mem hj)).rng x hx
      have : x = Cs[i][t] := by omega
      have := comp_one hs hi hj (List.getElem_mem ht) (this ▸ hx)
      omega
     rw [tget_set_ne hne]
     exact q3 j hj hji x hx) (fun s ⟨_, e2, q1, q2, q3⟩ => by
    obtain ⟨k, c⟩ := s
    dsimp only at e2 q1 q2 q3
    subst e2
    rw [List.take_length] at q2
    refine ⟨c, ?_, q1, q2, q3⟩
    rw [m_blocking_Traps_l5]
    dsimp only
    rw [if_neg ct_ge]) (Nat.zero_le _) (0, cls) ⟨Nat.zero_le _, rfl, g1, fun x hx => by simp at hx, g2⟩
  refine .inl ⟨(((i + 1 : Nat) : Int), o), ?_, rfl, h2, fun j hj hji x hx => ?_⟩
  ·rw [m_blocking_Traps_l1]
   dsimp only
   rw [if_pos (ct_lt hi), idx_at hi, Option.bind_some, h1, Option.bind_some, nxt (by omega)]
  ·dsimp only
   by_cases e3 : j = i
   ·subst e3; exact h3 x hx
   ·exact h4 j hj (by omega) x hx
 ·obtain ⟨k, cls⟩ := s
  dsimp only at e1 g1
  subst e1
  refine ⟨cls, ?_, g1⟩
  rw [m_blocking_Traps_l1]
  dsimp only
  rw [if_neg ct_ge]
theorem cls_at {es : List Ed} {n : Nat} {Cs : List (List Int)} (hs : CompSpec es n Cs) {cls : List Int} (h : ClsOk Cs n Cs.length cls) {s : Int} (h0 : 0 ≤ s) (h1 : s < (n : Int)) : ∃ k, ∃ hk : k < Cs.length, s ∈ Cs[k] ∧ idx cls s = some (k : Int) := by
 obtain ⟨C, hC, hsC⟩ := hs.all s h0 h1
 obtain ⟨k, hk, rfl⟩ := List.getElem_of_mem hC
 refine ⟨k, hk, hsC, ?_⟩
 have h2 := h.2 k hk hk s hsC
 obtain ⟨u, rfl⟩ : ∃ u : Nat, s = (u : Int) := ⟨s.toNat, by omega⟩
 have hu : u < cls.length := by have := h.1; omega
 rw [idx_at hu]
 rw [Int.toNat_natCast, List.getD_eq_getElem?_getD, List.getElem?_eq_getElem hu] at h2
 exact congrArg some h2
theorem comp_mem_iff {es : List Ed} {n : Nat} {Cs : List (List Int)} (hs : CompSpec es n Cs) {k j : Nat} (hk : k < Cs.length) (hj : j < Cs.length) {s : Int} (h : s ∈ Cs[k]) : hasB Cs[j] s = decide (j = k) := by
 by_cases e : j = k
 ·subst e; rw [hasB_true.2 h]; simp
 ·cases hb : hasB Cs[j] s with
  | true => exact absurd (comp_one hs hj hk (hasB_true.1 hb) h) e
  | false => simp [e]
theorem open_loop {a : AutT} {n : Nat} (hR : Right a n) {Cs : List (List Int)} (hs : CompSpec (edsOf a) n Cs) {cls : List Int} (hc : ClsOk Cs n Cs.length cls) : ∃ o, iter (m_blocking_Traps_l2 a cls) (0, List.replicate Cs.length false) = some o ∧ o.length = Cs.length ∧ ∀ k (h : k < Cs.length) (h' : k < o.length), o[k] = !clB (edsOf a) Cs[k] := by
 have hl := hR.l3
 have hcl := comp_len hs
 have hnl := hR.nl
 have hel : (edsOf a).length = a.2.2.2.length := List.length_map _
 obtain ⟨o, h1, h2, h3⟩ := iter_inv (f := m_blocking_Traps_l2 a cls) (fun i s => i ≤ (edsOf a).length ∧ s.1 = (i : Int) ∧ s.2.length = Cs.length ∧ ∀ k (h : k < Cs.length) (h' : k < s.2.length), s.2[k] = ((edsOf a).take i).any fun x => hasB Cs[k] x.f && !hasB Cs[k] x.t) (fun o => o.length = Cs.length ∧ ∀ k (h : k < Cs.length) (h' : k < o.length), o[k] = (edsOf a).any fun x => hasB Cs[k] x.f && !hasB Cs[k] x.t) (edsOf a).length 0 (by omega) (fun i s hi ⟨_, e1, g1, g2⟩ => by
   obtain ⟨k, o⟩ := s
   dsimp only at e1 g1 g2
   subst e1
   have hi2 : i < a.2.2.2.length := by omega
   have hx := hR.es _ (List.getElem_mem hi2)
   have hxe : (edsOf a)[i] = toEd a.2.2.2[i] := by simp [edsOf]
   obtain ⟨k1, hk1, hm1, hi1⟩ := cls_at hs hc hx.1 hx.2.1
   obtain ⟨k2, hk2, hm2, hj2⟩ := cls_at hs hc hx.2.2.1 hx.2.2.2.1
   have hstep : ∀ k (h : k < Cs.length), (((edsOf a).take (i + 1)).any fun x => hasB Cs[k] x.f && !hasB Cs[k] x.t) = ((((edsOf a).take i).any fun x => hasB Cs[k] x.f && !hasB Cs[k] x.t) || (decide (k = k1) && !decide (k = k2))) := fun k h => by
    rw [List.take_succ_eq_append_getElem hi, List.any_append, hxe, List.any_cons, List.any_nil, Bool.or_false]
    rw [show (toEd a.2.2.2[i]).f = a.2.2.2[i].1 from rfl, show (toEd a.2.2.2[i]).t = a.2.2.2[i].2.2 from rfl, comp_mem_iff hs hk1 h hm1, comp_mem_iff hs hk2 h hm2]
   have hj3 : ∀ o', m_blocking_Traps_j3 ((i : Int), o) o' = some (.inl (((i + 1 : Nat) : Int), o')) := fun o' => by
    rw [m_blocking_Traps_j3]; dsimp only; rw [nxt (by omega)]
   have ho1 : k1 < o.length := by omega
   left
   rw [m_blocking_Traps_l2]
   dsimp only
   rw [if_pos (ct_lt hi2), idx_at hi2, Option.bind_some, hi1, Option.bind_some, hj2, Option.bind_some]
   by_cases e : k1 = k2
   ·rw [if_neg (by simp [e]), hj3]
    refine ⟨_, rfl, by omega, rfl, g1, fun k h h' => ?_⟩
    dsimp only
    rw [hstep k h, g2 k h h', e]
    cases decide (k = k2) <;> simp
   ·rw [if_pos (by simp; omega), Option.bind_some, idx_at ho1, Option.bind_some, upd_at ho1, Option.bind_some, hj3]
    refine ⟨_, rfl, by omega, rfl, by simpa using g1, fun k h h' => ?_⟩
    dsimp only
    rw [hstep k h, List.getElem_set]
    by_cases e2 : k1 = k
    ·subst e2
     rw [if_pos rfl]
     simp [e]
    ·rw [if_neg e2, g2 k h (by omega)]
     simp [Ne.symm e2]) (fun s ⟨_, e1, g1, g2⟩ => by
   obtain ⟨k, o⟩ := s
   dsimp only at e1 g1 g2
   subst e1
   rw [List.take_length] at g2
   refine ⟨o, ?_, g1, g2⟩
   rw [m_blocking_Traps_l2]
   dsimp only
   rw [hel, if_neg ct_ge]) (Nat.zero_le _) (0, List.replicate Cs.length false) ⟨Nat.zero_le _, rfl, by simp, fun k h h' => by simp⟩
 refine ⟨o, h1, h2, fun k h h' => ?_⟩
 rw [h3 k h h']
 unfold clB
 rw [List.not_all_eq_any_not]
 congr 1
 funext x
 cases hasB Cs[k] x.f <;> cases hasB Cs[k] x.t <;> rfl
theorem good_loop {a : AutT} {n : Nat} (hR : Right a n) {Cs : List (List Int)} (hs : CompSpec (edsOf a) n Cs) {cls : List Int} (hc : ClsOk Cs n Cs.length cls) : ∃ o, iter (m_blocking_Traps_l3 a cls) (0, List.replicate Cs.length false) = some o ∧ o.length = Cs.length ∧ ∀ k (h : k < Cs.length) (h' : k < o.length), o[k] = a.2.2.1.any (hasB Cs[k]) := by
 have hl := hR.l2
 have hcl := comp_len hs
 have hnl := hR.nl
 obtain ⟨o, h1, h2, h3⟩ := iter_inv (f := m_blocking_Traps_l3 a cls) (fun i s => i ≤ a.2.2.1.length ∧ s.1 = (i : Int) ∧ s.2.length = Cs.length ∧ ∀ k (h : k < Cs.length) (h' : k < s.2.length), s.2[k] = (a.2.2.1.take i).any (hasB Cs[k])) (fun o => o.length = Cs.length ∧ ∀ k (h : k < Cs.length) (h' : k < o.length), o[k] = a.2.2.1.any (hasB Cs[k])) a.2.2.1.length 0 (by omega) (fun i s hi ⟨_, e1, g1, g2⟩ => by
   obtain ⟨k, o⟩ := s
   dsimp only at e1 g1 g2
   subst e1
   have hx := hR.msr _ (List.getElem_mem hi)
   obtain ⟨k1, hk1, hm1, hi1⟩ := cls_at hs hc hx.1 hx.2
   have hstep : ∀ k (h : k < Cs.length), (a.2.2.1.take (i + 1)).any (hasB Cs[k]) = ((a.2.2.1.take i).any (hasB Cs[k]) || decide (k = k1)) := fun k h => by
    rw [List.take_succ_eq_append_getElem hi, List.any_append, List.any_cons, List.any_nil, Bool.or_false, comp_mem_iff hs hk1 h hm1]
   have ho1 : k1 < o.length := by omega
   left
   rw [m_blocking_Traps_l3]
   dsimp only
   rw [if_pos (ct_lt hi), idx_at hi, Option.bind_some, hi1, Option.bind_some, idx_at ho1, Option.bind_some, upd_at ho1, Option.bind_some, nxt (by omega)]
   refine ⟨_, rfl, by omega, rfl, by simpa using g1, fun k h h' => ?_⟩
   dsimp only
   rw [hstep k h, List.getElem_set]
   by_cases e2 : k1 = k
   ·subst e2
    rw [if_pos rfl]
    simp
   ·rw [if_neg e2, g2 k h (by omega)]
    simp [Ne.symm e2]) (fun s ⟨_, e1, g1, g2⟩ => by
   obtain ⟨k, o⟩ := s
   dsimp only at e1 g1 g2
   subst e1
   rw [List.take_length] at g2
   refine ⟨o, ?_, g1, g2⟩
   rw [m_blocking_Traps_l3]
   dsimp only
   rw [if_neg ct_ge]) (Nat.zero_le _) (0, List.replicate Cs.length false) ⟨Nat.zero_le _, rfl, by simp, fun k h h' => by simp⟩
 exact ⟨o, h1, h2, h3⟩
def gdB (ms : List Int) (C : List Int) : Bool := ms.any (hasB C)
theorem traps_ex {a : AutT} {n : Nat} (hR : Right a n) : ∃ Cs, m_reach_Components a = some (Cs, 0) ∧ CompSpec (edsOf a) n Cs ∧ m_blocking_Traps a = some ((tAll (clB (edsOf a)) (gdB a.2.2.1) Cs).1, (tAll (clB (edsOf a)) (gdB a.2.2.1) Cs).2, 0) := by
 obtain ⟨Cs, hC, hs⟩ := comp_ex hR
 have hnl := hR.nl
 have hcl := comp_len hs
 obtain ⟨cls, c1, c2⟩ := class_ex hnl hs 0
 obtain ⟨op, o1, o2, o3⟩ := open_loop hR hs c2
 obtain ⟨gd, g1, g2, g3⟩ := good_loop hR hs c2
 refine ⟨Cs, hC, hs, ?_⟩
 obtain ⟨o, h1, rfl⟩ := iter_inv (f := m_blocking_Traps_l4 (Cs, 0) op gd) (fun i s => i ≤ Cs.length ∧ s.1 = (i : Int) ∧ s.2 = ((tAll (clB (edsOf a)) (gdB a.2.2.1) (Cs.take i)).2, (tAll (clB (edsOf a)) (gdB a.2.2.1) (Cs.take i)).1)) (fun o => o = ((tAll (clB (edsOf a)) (gdB a.2.2.1) Cs).2, (tAll (clB (edsOf a)) (gdB a.2.2.1) Cs).1)) Cs.length 0 (by omega) (fun i s hi ⟨_, e1, e2⟩ => by
   obtain ⟨k, B0, T0⟩ := s
   dsimp only at e1 e2
   subst e1
   have hI := tAll_inv (cl := clB (edsOf a)) (gd := gdB a.2.2.1) Cs i (by omega)
   have hsn : tAll (clB (edsOf a)) (gdB a.2.2.1) (Cs.take (i + 1)) = tStep (clB (edsOf a)) (gdB a.2.2.1) (tAll (clB (edsOf a)) (gdB a.2.2.1) (Cs.take i)) Cs[i] := by rw [List.take_succ_eq_append_getElem hi, tAll_snoc]
   rw [hsn]
   generalize tAll (clB (edsOf a)) (gdB a.2.2.1) (Cs.take i) = S at e2 hI ⊢
   obtain ⟨T, B⟩ := S
   cases e2
   have hTl : T.length ≤ i := by have := hI.len2; simp at this; omega
   have hBl : B.length ≤ T.length := hI.len
   have hop := o3 i hi (by omega)
   have hgd := g3 i hi (by omega)
   have hj1 : ∀ b t, m_blocking_Traps_j1 ((i : Int), B, T) b t = some (.inl (((i + 1 : Nat) : Int), b, t)) := fun b t => by
    rw [m_blocking_Traps_j1]; dsimp only; rw [nxt (by omega)]
   have hj2 : ∀ x b, m_blocking_Traps_j2 ((i : Int), B, T) x b = some (.inl (((i + 1 : Nat) : Int), b, T ++ [x])) := fun x b => by
    rw [m_blocking_Traps_j2]; dsimp only; rw [app_eq (by simp; omega), Option.bind_some, hj1]
   left
   rw [m_blocking_Traps_l4]
   dsimp only
   rw [if_pos (ct_lt hi), idx_at hi, Option.bind_some, idx_at (by omega), Option.bind_some, hop]
   unfold tStep
   dsimp only
   cases hc : clB (edsOf a) Cs[i] with
   | false => rw [if_pos (by simp), if_neg (by simp), hj1]; exact ⟨_, rfl, by omega, rfl, rfl⟩
   | true =>
    rw [if_neg (by simp), if_pos rfl, idx_at (by omega), Option.bind_some, hgd]
    have hg2 : gdB a.2.2.1 Cs[i] = a.2.2.1.any (hasB Cs[i]) := rfl
    rw [hg2]
    cases a.2.2.1.any (hasB Cs[i]) with
    | true => rw [if_neg (by simp), if_pos rfl, hj2]; exact ⟨_, rfl, by omega, rfl, rfl⟩
    | false => rw [if_pos (by simp), if_neg (by simp), app_eq (by simp; omega), Option.bind_some, hj2]; exact ⟨_, rfl, by omega, rfl, rfl⟩) (fun s ⟨_, e1, e2⟩ => by
   obtain ⟨k, B, T⟩ := s
   dsimp only at e1 e2
   subst e1
   rw [List.take_length] at e2
   refine ⟨(B, T), ?_, e2⟩
   rw [m_blocking_Traps_l4]
   dsimp only
   rw [if_neg ct_ge]) (Nat.zero_le _) (0, [], []) ⟨Nat.zero_le _, rfl, rfl⟩
 rw [m_blocking_Traps, hC, Option.bind_some, if_neg (by simp), hR.nn, mkL_eq (by omega) (by omega), Option.bind_some, Int.toNat_natCast, c1, Option.bind_some]
 dsimp only
 rw [mkL_eq (by omega) (by omega), Option.bind_some, Option.bind_some, Int.toNat_natCast, o1, Option.bind_some, g1, Option.bind_some, h1]
 rfl
end Go.Proofs.YtfbapajcheammaaGreatDoor

namespace Go.Proofs.YtfbapajcheammaaGreatDoor
open Go Go.RowKit
structure LOkB (B : Nat) (l : List AutT) : Prop where
 len : l.length ≤ 3
 right : ∀ a ∈ l, ∃ n : Nat, 1 ≤ n ∧ n ≤ B ∧ Right a n
 b99 : B ≤ 99
 pw : B ^ l.length ≤ 4000
theorem pcheck_eqB {l : List AutT} {B : Nat} (h : LOkB B l) : m_product_Check l = some 0 := by
 have hl := h.len
 have hb99 := h.b99
 obtain ⟨o, h1, rfl⟩ := iter_inv (f := m_product_Check_l1 l) (fun i s => s = (i : Int)) (fun o => o = .inl ()) l.length 0 (by omega) (fun i s hi e1 => by
   subst e1
   obtain ⟨n, _, _, hr⟩ := h.right _ (List.getElem_mem hi)
   refine .inl ⟨((i + 1 : Nat) : Int), ?_, rfl⟩
   rw [m_product_Check_l1, if_pos (ct_lt hi), idx_at hi, Option.bind_some, hr.check, Option.bind_some, if_neg (by simp), nxt (by omega)]) (fun s e1 => by
   subst e1
   exact ⟨_, by rw [m_product_Check_l1, if_neg ct_ge], rfl⟩) (Nat.zero_le _) 0 rfl
 rw [m_product_Check, if_neg (by simp; omega), h1]
 rfl
theorem open_exB {l : List AutT} {B : Nat} (h : LOkB B l) : ∃ m, m_product_open l = some m ∧ MOk l m := by
 have hl := h.len
 have hb99 := h.b99
 obtain ⟨ev, he, hev⟩ := events_ex (l := l) (by omega) (fun a ha => by
  obtain ⟨n, _, _, hr⟩ := h.right a ha
  exact ⟨hr.ali, hr.alr⟩)
 obtain ⟨o, h1, h2⟩ := iter_inv (f := m_product_open_l1 l) (fun i s => i ≤ l.length ∧ s.1 = (i : Int) ∧ s.2.length = i ∧ ∀ k (h : k < l.length) (h' : k < s.2.length), ∀ e ∈ s.2[k], 0 ≤ e.2 ∧ e.2 < l[k].2.1) (fun o => o.length = l.length ∧ ∀ k (h : k < l.length) (h' : k < o.length), ∀ e ∈ o[k], 0 ≤ e.2 ∧ e.2 < l[k].2.1) l.length 0 (by omega) (fun i s hi ⟨_, e1, g1, g2⟩ => by
   obtain ⟨k, out⟩ := s
   dsimp only at e1 g1 g2
   subst e1
   obtain ⟨n, _, _, hr⟩ := h.right _ (List.getElem_mem hi)
   obtain ⟨o, e, g3⟩ := open_in hr
   refine .inl ⟨(((i + 1 : Nat) : Int), out ++ [o]), ?_, by omega, rfl, by simp [g1], fun k hk hk' x hx => ?_⟩
   ·rw [m_product_open_l1]
    dsimp only
    rw [if_pos (ct_lt hi), idx_at hi, Option.bind_some, e, Option.bind_some, app_eq (by simp; omega), Option.bind_some, nxt (by omega)]
   ·dsimp only at hx
    by_cases hki : k < out.length
    ·rw [List.getElem_append_left hki] at hx; exact g2 k hk hki x hx
    ·have hk2 : k = i := by simp at hk'; omega
     subst hk2
     rw [List.getElem_append_right (by omega)] at hx
     simp only [g1, Nat.sub_self, List.getElem_cons_zero] at hx
     rw [hr.nn]
     exact g3 x hx) (fun s ⟨_, e1, g1, g2⟩ => by
   obtain ⟨k, out⟩ := s
   dsimp only at e1 g1 g2
   subst e1
   refine ⟨out, ?_, g1, g2⟩
   rw [m_product_open_l1]
   dsimp only
   rw [if_neg ct_ge]) (Nat.zero_le _) (0, []) ⟨Nat.zero_le _, rfl, rfl, fun k hk hk' => (by simp at hk')⟩
 exact ⟨(l, ev, o), by rw [m_product_open, he, Option.bind_some, h1]; rfl, rfl, hev, h2.1, h2.2⟩
theorem initial_eqB {l : List AutT} {B : Nat} (h : LOkB B l) {m : List AutT × List Int × List (List ((Int × Int) × Int))} (hm : MOk l m) : ∃ t, m_product_machine_initial m = some (t, true) ∧ InT l t := by
 have hl := h.len
 have hb99 := h.b99
 obtain ⟨m1, m2, m3⟩ := m
 obtain ⟨rfl, hev, hlen, _⟩ := hm
 dsimp only at *
 obtain ⟨o, h1, rfl⟩ := iter_inv (f := m_product_machine_initial_l1 (m1, m2, m3)) (fun i s => s = (i : Int)) (fun o => o = .inl ()) m1.length 0 (by omega) (fun i s hi e1 => by
   subst e1
   obtain ⟨n, hn, _, hr⟩ := h.right _ (List.getElem_mem hi)
   refine .inl ⟨((i + 1 : Nat) : Int), ?_, rfl⟩
   rw [m_product_machine_initial_l1]
   dsimp only
   rw [if_pos (ct_lt hi), idx_at hi, Option.bind_some, hr.nn, if_neg (by simp; omega), nxt (by omega)]) (fun s e1 => by
   subst e1
   refine ⟨_, ?_, rfl⟩
   rw [m_product_machine_initial_l1]
   dsimp only
   rw [if_neg ct_ge]) (Nat.zero_le _) 0 rfl
 have hmk : mkL (m1.length : Int) (0 : Int) = some (List.replicate m1.length 0) := by unfold mkL; rw [if_pos ⟨by omega, by omega⟩, Int.toNat_natCast]
 refine ⟨List.replicate m1.length 0, ?_, by simp, fun i hi hi' => ?_⟩
 ·rw [m_product_machine_initial, h1, Option.bind_some]
  dsimp only
  rw [hmk, Option.bind_some]
 ·obtain ⟨n, hn, _, hr⟩ := h.right _ (List.getElem_mem hi)
  rw [List.getElem_replicate, hr.nn]
  omega
theorem step_exB {l : List AutT} {B : Nat} (h : LOkB B l) {m : List AutT × List Int × List (List ((Int × Int) × Int))} (hm : MOk l m) {t : List Int} (ht : InT l t) (e : Int) : ∃ r, m_product_machine_step m t e = some r ∧ (r.2 = true → InT l r.1) := by
 have hl := h.len
 have hb99 := h.b99
 obtain ⟨m1, m2, m3⟩ := m
 obtain ⟨rfl, hev, hlen, hed⟩ := hm
 dsimp only at *
 obtain ⟨o, h1, h2⟩ := iter_inv (f := m_product_machine_step_l1 (m1, m2, m3) t e) (fun i s => s.1 = (i : Int) ∧ InT m1 s.2) (fun o => ∀ u, o = .inl u → InT m1 u) m1.length 0 (by omega) (fun i s hi ⟨e1, g1⟩ => by
   obtain ⟨k, out⟩ := s
   dsimp only at e1 g1
   subst e1
   obtain ⟨n, hn, _, hr⟩ := h.right _ (List.getElem_mem hi)
   have ha : m1[i].1.length < 4294967296 := by have := hr.l1; omega
   have hj : ∀ u : List Int, m_product_machine_step_j1 ((i : Int), out) u = some (.inl (((i + 1 : Nat) : Int), u)) := fun u => by
    rw [m_product_machine_step_j1]; dsimp only; rw [nxt (by omega)]
   rw [m_product_machine_step_l1]
   dsimp only
   rw [if_pos (ct_lt hi), idx_at hi, Option.bind_some, containsA_eq ha hr.ali, Option.bind_some]
   cases hb : hasB m1[i].1 e with
   | false =>
    rw [if_pos (by simp), hj]
    exact .inl ⟨_, rfl, rfl, g1⟩
   | true =>
    rw [if_neg (by simp), idx_at (by omega), Option.bind_some, idx_at (by have := ht.1; omega), Option.bind_some]
    cases hg : kget m3[i] (t[i]'(by have := ht.1; omega), e) with
    | none =>
     rw [if_pos (by simp)]
     exact .inr ⟨_, rfl, fun u hu => by cases hu⟩
    | some v =>
     obtain ⟨x, hx, rfl⟩ := kget_mem hg
     have hv := hed i hi (by omega) x hx
     rw [if_neg (by simp), idx_at (by have := g1.1; omega), Option.bind_some, upd_at (by have := g1.1; omega), Option.bind_some, hj]
     exact .inl ⟨_, rfl, rfl, g1.set hi hv.1 hv.2⟩) (fun s ⟨e1, g1⟩ => by
   obtain ⟨k, out⟩ := s
   dsimp only at e1 g1
   subst e1
   refine ⟨.inl out, ?_, fun u hu => by cases hu; exact g1⟩
   rw [m_product_machine_step_l1]
   dsimp only
   rw [if_neg ct_ge]) (Nat.zero_le _) (0, t) ⟨rfl, ht⟩
 rw [m_product_machine_step, clone_eq (by have := ht.1; omega), Option.bind_some, h1, Option.bind_some]
 cases o with
 | inl u => exact ⟨_, rfl, fun _ => h2 u rfl⟩
 | inr u => exact ⟨_, rfl, fun hb => by cases hb⟩
theorem marked_exB {l : List AutT} {B : Nat} (h : LOkB B l) {m : List AutT × List Int × List (List ((Int × Int) × Int))} (hm : MOk l m) {t : List Int} (ht : InT l t) : ∃ b, m_product_machine_marked m t = some b := by
 have hl := h.len
 have hb99 := h.b99
 obtain ⟨m1, m2, m3⟩ := m
 obtain ⟨rfl, hev, hlen, hed⟩ := hm
 dsimp only at *
 obtain ⟨o, h1, h2⟩ := iter_inv (f := m_product_machine_marked_l1 (m1, m2, m3) t) (fun i s => s = (i : Int)) (fun _ => True) m1.length 0 (by omega) (fun i s hi e1 => by
   subst e1
   obtain ⟨n, hn, _, hr⟩ := h.right _ (List.getElem_mem hi)
   have ha : m1[i].2.2.1.length < 4294967296 := by have := hr.l2; omega
   rw [m_product_machine_marked_l1]
   dsimp only
   rw [if_pos (ct_lt hi), idx_at hi, Option.bind_some, idx_at (by have := ht.1; omega), Option.bind_some, containsA_eq ha hr.msi, Option.bind_some]
   cases hb : hasB m1[i].2.2.1 (t[i]'(by have := ht.1; omega)) with
   | false => rw [if_pos (by simp)]; exact .inr ⟨_, rfl, trivial⟩
   | true => rw [if_neg (by simp), nxt (by omega)]; exact .inl ⟨_, rfl, rfl⟩) (fun s e1 => by
   subst e1
   refine ⟨.inl (), ?_, trivial⟩
   rw [m_product_machine_marked_l1]
   dsimp only
   rw [if_neg ct_ge]) (Nat.zero_le _) 0 rfl
 rw [m_product_machine_marked, h1, Option.bind_some]
 cases o with
 | inl u => exact ⟨_, rfl⟩
 | inr u => exact ⟨_, rfl⟩
theorem key_eqB {l : List AutT} {B : Nat} (h : LOkB B l) {t : List Int} (ht : InT l t) : m_product_key t = some (keyK t) := by
 have hl := h.len
 have hb99 := h.b99
 have hc : (t.all fun x => decide (0 ≤ x ∧ x < 100)) = true := by
  rw [List.all_eq_true]
  intro x hx
  obtain ⟨i, hi, rfl⟩ := List.getElem_of_mem hx
  have hi' : i < l.length := by have := ht.1; omega
  obtain ⟨n, hn, hn6, hr⟩ := h.right _ (List.getElem_mem hi')
  have := ht.2 i hi' hi
  rw [hr.nn] at this
  simp; omega
 rw [m_product_key, if_pos ⟨hc, by have := ht.1; omega⟩]
 rfl
def tcodeB (B : Nat) : List Int → Nat
 | [] => 0
 | x :: t => x.toNat + B * tcodeB B t
theorem tcode_injB {B : Nat} : ∀ {s t : List Int}, s.length = t.length → (∀ x ∈ s, 0 ≤ x ∧ x < B) → (∀ x ∈ t, 0 ≤ x ∧ x < B) → tcodeB B s = tcodeB B t → s = t
 | [], [], _, _, _, _ => rfl
 | [], _ :: _, h, _, _, _ => by simp at h
 | _ :: _, [], h, _, _, _ => by simp at h
 | x :: s, y :: t, h, hs, ht, e => by
  have h1 := hs x (List.mem_cons_self ..)
  have h2 := ht y (List.mem_cons_self ..)
  simp only [tcodeB] at e
  have e2 : x.toNat = y.toNat := by
   have h3 := congrArg (· % B) e
   simp only [Nat.add_mul_mod_self_left] at h3
   rwa [Nat.mod_eq_of_lt (by omega), Nat.mod_eq_of_lt (by omega)] at h3
  have hxy : x = y := by omega
  subst hxy
  have e3 : B * tcodeB B s = B * tcodeB B t := by omega
  rw [tcode_injB (s := s) (t := t) (by simpa using h) (fun z hz => hs z (List.mem_cons_of_mem _ hz)) (fun z hz => ht z (List.mem_cons_of_mem _ hz)) (Nat.eq_of_mul_eq_mul_left (by omega) e3)]
theorem tcode_ltB {B : Nat} : ∀ {t : List Int}, (∀ x ∈ t, 0 ≤ x ∧ x < B) → tcodeB B t < B ^ t.length
 | [], _ => by simp [tcodeB]
 | x :: t, h => by
  have h1 := h x (List.mem_cons_self ..)
  have h2 := tcode_ltB (t := t) (fun z hz => h z (List.mem_cons_of_mem _ hz))
  rw [List.length_cons, Nat.pow_succ, tcodeB]
  have h3 : B * (tcodeB B t + 1) ≤ B * B ^ t.length := Nat.mul_le_mul_left B h2
  rw [Nat.mul_add, Nat.mul_one] at h3
  rw [Nat.mul_comm (B ^ t.length) B]
  omega
theorem InT.smallB {l : List AutT} {B : Nat} (h : LOkB B l) {t : List Int} (ht : InT l t) : ∀ x ∈ t, 0 ≤ x ∧ x < B := by
 intro x hx
 obtain ⟨i, hi, rfl⟩ := List.getElem_of_mem hx
 have hi' : i < l.length := by have := ht.1; omega
 obtain ⟨n, hn, hn6, hr⟩ := h.right _ (List.getElem_mem hi')
 have := ht.2 i hi' hi
 rw [hr.nn] at this
 omega
theorem tuples_lenB {l : List AutT} {B : Nat} (h : LOkB B l) {T : List (List Int)} (hn : T.Nodup) (hT : ∀ t ∈ T, InT l t) : T.length ≤ 4000 := by
 have h1 := nodup_len (B ^ l.length) (T.map (tcodeB B)) ?_ ?_
 ·rw [List.length_map] at h1
  have h2 := h.pw
  omega
 ·rw [List.Nodup, List.pairwise_map]
  refine List.Pairwise.imp_of_mem (fun {a b} ha hb hab e => hab ?_) hn
  exact tcode_injB ((hT a ha).1.trans (hT b hb).1.symm) ((hT a ha).smallB h) ((hT b hb).smallB h) e
 ·intro x hx
  obtain ⟨t, ht, rfl⟩ := List.mem_map.1 hx
  rw [← (hT t ht).1]
  exact tcode_ltB ((hT t ht).smallB h)
theorem sync_innerB {l : List AutT} {B : Nat} (h : LOkB B l) {m : List AutT × List Int × List (List ((Int × Int) × Int))} (hm : MOk l m) {i : Nat} {kn : Kno} {T : List (List Int)} {E : List (Int × Int × Int)} (z : Kno × List (List Int) × List Int × List (Int × Int × Int)) (hS : SI l m.2.1 i 0 kn T E) (hi : i < T.length) :
  ∃ kn' T' E', iter (m_product_Synchronous_l2 m ((i : Int), z)) (0, kn, T, E) = some (.inl (kn', T', E')) ∧ SI l m.2.1 (i + 1) 0 kn' T' E' ∧ i < T'.length := by
 have hal := hm.ev.len
 obtain ⟨o, h1, h2⟩ := iter_inv (f := m_product_Synchronous_l2 m ((i : Int), z)) (fun j s => s.1 = (j : Int) ∧ j ≤ m.2.1.length ∧ SI l m.2.1 i j s.2.1 s.2.2.1 s.2.2.2 ∧ i < s.2.2.1.length) (fun o => ∃ kn' T' E', o = .inl (kn', T', E') ∧ SI l m.2.1 (i + 1) 0 kn' T' E' ∧ i < T'.length) m.2.1.length 0 (by omega) (fun j s hj ⟨e1, _, hS, hi⟩ => by
   obtain ⟨k, kn, T, E⟩ := s
   dsimp only at e1 hS hi
   subst e1
   have hTl := tuples_lenB h hS.nd hS.inT
   have hj2 : ∀ a b c, m_product_Synchronous_j2 ((j : Int), kn, T, E) a b c = some (.inl (((j + 1 : Nat) : Int), a, b, c)) := fun a b c => by
    rw [m_product_Synchronous_j2]; dsimp only; rw [nxt (by omega)]
   have hj3 : ∀ x b n c, m_product_Synchronous_j3 ((i : Int), z) ((j : Int), kn, T, E) x b n c = some (.inl (((j + 1 : Nat) : Int), c, b, E ++ [((i : Int), x, n)])) := fun x b n c => by
    have he := hS.el
    have hi' : i < 4000 := by omega
    rw [m_product_Synchronous_j3]; dsimp only; rw [app_eq (by simp; omega), Option.bind_some, hj2]
   obtain ⟨r, hr, hrT⟩ := step_exB h hm (hS.inT _ (List.getElem_mem hi)) m.2.1[j]
   left
   rw [m_product_Synchronous_l2]
   dsimp only
   rw [if_pos (ct_lt hj), idx_at hj, Option.bind_some, idx_at hi, Option.bind_some, hr, Option.bind_some]
   cases hb : r.2 with
   | false =>
    rw [if_pos (by simp), hj2]
    exact ⟨_, rfl, rfl, by omega, hS.skip, hi⟩
   | true =>
    have ht := hrT hb
    rw [if_neg (by simp), key_eqB h ht, Option.bind_some]
    cases hg : kget kn (keyK r.1) with
    | none =>
     rw [if_pos (by simp), if_neg (by simp; omega), Option.bind_some, app_eq (by simp; omega), Option.bind_some, hj3]
     exact ⟨_, rfl, rfl, by omega, hS.new hm.ev.1 hi hj ht (by rw [hg]; rfl), by simp; omega⟩
    | some v =>
     obtain ⟨x, hx, rfl⟩ := kget_mem hg
     have hv := hS.val x hx
     rw [if_neg (by simp), hj3]
     exact ⟨_, rfl, rfl, by omega, hS.edge hm.ev.1 hi hj hv.1 hv.2, hi⟩) (fun s ⟨e1, _, hS, hi⟩ => by
   obtain ⟨k, kn, T, E⟩ := s
   dsimp only at e1 hS hi
   subst e1
   refine ⟨.inl (kn, T, E), ?_, kn, T, E, rfl, hS.next hal, hi⟩
   rw [m_product_Synchronous_l2]
   dsimp only
   rw [if_neg ct_ge]) (Nat.zero_le _) (0, kn, T, E) ⟨rfl, Nat.zero_le _, hS, hi⟩
 obtain ⟨kn', T', E', rfl, h3, h4⟩ := h2
 exact ⟨kn', T', E', h1, h3, h4⟩
structure PrdB (p : AutT) (n : Nat) : Prop where
 right : Right p n
 pos : 1 ≤ n
 le : n ≤ 4000
 lk : ∀ k : Nat, 0 < k → k < n → ∃ x ∈ p.2.2.2, x.2.2 = (k : Int) ∧ 0 ≤ x.1 ∧ x.1 < (k : Int)
theorem sync_exB {l : List AutT} {B : Nat} (h : LOkB B l) : ∃ p T n, m_product_Synchronous l = some (p, T, 0) ∧ PrdB p n := by
 obtain ⟨m, hm, hM⟩ := open_exB h
 obtain ⟨t0, ht0, hT0⟩ := initial_eqB h hM
 have hal := hM.ev.len
 have hS0 : SI l m.2.1 0 0 (kput ([] : Kno) (keyK t0) 0) [t0] [] := by
  refine ⟨by simp, by simp, fun t ht => ?_, fun t ht => ?_, fun e he => ?_, fun x hx => (by cases hx), fun x hx => (by cases hx), List.Pairwise.nil, by simp, fun k h0 h1 => ?_⟩
  ·rw [List.mem_singleton.1 ht]; exact hT0
  ·rw [List.mem_singleton.1 ht]; exact kput_self
  ·rcases kput_mem he with he | he
   ·cases he
   ·rw [he]; simp
  ·simp at h1; omega
 obtain ⟨o, h1, h2⟩ := iter_inv (f := m_product_Synchronous_l1 m) (fun i s => s.1 = (i : Int) ∧ i ≤ s.2.2.1.length ∧ SI l m.2.1 i 0 s.2.1 s.2.2.1 s.2.2.2.2 ∧ Inc s.2.2.2.1 ∧ ∀ x ∈ s.2.2.2.1, 0 ≤ x ∧ x < (i : Int)) (fun o => ∃ T M E, o = .inl (T, M, E) ∧ ∃ kn, SI l m.2.1 T.length 0 kn T E ∧ Inc M ∧ ∀ x ∈ M, 0 ≤ x ∧ x < (T.length : Int)) 4000 0 (by omega) (fun i s _ ⟨e1, hle, hS, hi1, hi2⟩ => by
   obtain ⟨k, kn, T, M, E⟩ := s
   dsimp only at e1 hle hS hi1 hi2
   subst e1
   have hTl := tuples_lenB h hS.nd hS.inT
   by_cases hi : i < T.length
   ·left
    obtain ⟨b, hb⟩ := marked_exB h hM (hS.inT _ (List.getElem_mem hi))
    obtain ⟨kn', T', E', g1, g2, g3⟩ := sync_innerB h hM (kn, T, M, E) hS hi
    have hj : ∀ M', m_product_Synchronous_j1 m ((i : Int), kn, T, M, E) M' = some (.inl (((i + 1 : Nat) : Int), kn', T', M', E')) := fun M' => by
     rw [m_product_Synchronous_j1]; dsimp only; rw [g1, Option.bind_some]; dsimp only; rw [nxt (by omega)]
    rw [m_product_Synchronous_l1]
    dsimp only
    rw [if_pos (ct_lt hi), idx_at hi, Option.bind_some, hb, Option.bind_some]
    cases b with
    | false =>
     rw [if_neg (by simp), hj]
     exact ⟨_, rfl, rfl, by dsimp only; omega, g2, hi1, fun x hx => by have := hi2 x hx; omega⟩
    | true =>
     have hMl := inc_len (n := i) (lo := 0) hi1 hi2 (Int.le_refl _)
     rw [if_pos rfl, app_eq (by simp; omega), Option.bind_some, hj]
     refine ⟨_, rfl, rfl, by dsimp only; omega, g2, ?_, fun x hx => ?_⟩
     ·dsimp only
      unfold Inc at hi1 ⊢
      rw [List.pairwise_append]
      exact ⟨hi1, List.pairwise_singleton _ _, fun a ha b hb => by rw [List.mem_singleton.1 hb]; exact (hi2 a ha).2⟩
     ·dsimp only at hx
      rcases List.mem_append.1 hx with hx | hx
      ·have := hi2 x hx; omega
      ·rw [List.mem_singleton.1 hx]; omega
   ·right
    obtain rfl : i = T.length := by omega
    refine ⟨.inl (T, M, E), ?_, T, M, E, rfl, kn, hS, hi1, hi2⟩
    rw [m_product_Synchronous_l1]
    dsimp only
    rw [if_neg ct_ge]) (fun s ⟨e1, hle, hS, hi1, hi2⟩ => by
   obtain ⟨k, kn, T, M, E⟩ := s
   dsimp only at e1 hle hS hi1 hi2
   subst e1
   have hTl := tuples_lenB h hS.nd hS.inT
   have hT : 4000 = T.length := by omega
   refine ⟨.inl (T, M, E), ?_, T, M, E, rfl, kn, by rw [← hT]; exact hS, hi1, by rw [← hT]; exact hi2⟩
   rw [m_product_Synchronous_l1]
   dsimp only
   rw [hT, if_neg ct_ge]) (Nat.zero_le _) (0, kput ([] : Kno) (keyK t0) 0, [t0], [], []) ⟨rfl, by simp, hS0, List.Pairwise.nil, fun x hx => (by cases hx)⟩
 obtain ⟨T, M, E, rfl, kn, hS, hi1, hi2⟩ := h2
 have hTl := tuples_lenB h hS.nd hS.inT
 refine ⟨(m.2.1, (T.length : Int), M, E), T, T.length, ?_, ⟨rfl, by omega, hM.ev.1, hM.ev.2, hi1, hi2, fun x hx => ?_, hS.so, by dsimp only; omega, ?_, ?_⟩, hS.pos, hTl, hS.lk⟩
 ·rw [m_product_Synchronous, pcheck_eqB h, Option.bind_some, if_neg (by simp), hm, Option.bind_some, ht0, Option.bind_some, if_neg (by simp)]
  dsimp only
  rw [key_eqB h hT0, Option.bind_some, h1]
  rfl
 ·have := hS.er x hx
  have h3 := hS.es x hx
  refine ⟨this.1, ?_, this.2.2⟩
  rcases Int.lt_or_le x.1 (T.length : Int) with h4 | h4
  ·exact h4
  ·exact absurd (h3 (by omega)) (by simp)
 ·have := inc_len (n := T.length) (lo := 0) hi1 hi2 (Int.le_refl _)
  dsimp only
  omega
 ·have := hS.el
  dsimp only
  omega

end Go.Proofs.YtfbapajcheammaaGreatDoor

namespace Go.Proofs.YtfbapajcheammaaGreatDoor
open Go Go.RowKit
theorem setErr_incR {n : Int} {xs : List Int} (h : setErr n none xs = 0) : Inc xs ∧ ∀ x ∈ xs, 0 ≤ x ∧ x < n := by
 have key : ∀ (xs : List Int) (p : Option Int), setErr n p xs = 0 → Inc xs ∧ (∀ x ∈ xs, 0 ≤ x ∧ x < n) ∧ ∀ q, p = some q → ∀ x ∈ xs, q < x := by
  intro xs
  induction xs with
  | nil => intro p _; exact ⟨List.Pairwise.nil, fun x hx => (by cases hx), fun q _ x hx => (by cases hx)⟩
  | cons y xs ih =>
   intro p h
   rw [setErr] at h
   split at h
   ·cases h
   ·rename_i h1
    split at h
    ·cases h
    ·rename_i h2
     obtain ⟨g1, g2, g3⟩ := ih _ h
     refine ⟨List.pairwise_cons.2 ⟨fun z hz => g3 y rfl z hz, g1⟩, fun x hx => ?_, fun q hq x hx => ?_⟩
     ·rcases List.mem_cons.1 hx with rfl | hx
      ·omega
      ·exact g2 x hx
     ·have hqy : q < y := by
       have : ¬ y ≤ q := fun hc => h2 ⟨q, hq, hc⟩
       omega
      rcases List.mem_cons.1 hx with rfl | hx
      ·exact hqy
      ·have := g3 y rfl x hx
       omega
 exact ⟨(key xs none h).1, (key xs none h).2.1⟩
theorem err_partsR {a : Aut} (h : a.err = 0) : setErr 32 none a.al = 0 ∧ 0 ≤ a.n ∧ a.n ≤ 4096 ∧ setErr a.n none a.ms = 0 ∧ edErr a.al a.n none a.es = 0 := by
 unfold Aut.err at h
 split at h
 ·rename_i h1; rw [h] at h1; exact absurd h1 (by decide)
 ·rename_i h1
  split at h
  ·cases h
  ·split at h
   ·cases h
   ·split at h
    ·rename_i h4; rw [h] at h4; exact absurd h4 (by decide)
    ·rename_i h2 h3 h4
     exact ⟨by simpa using h1, by omega, by omega, by simpa using h4, h⟩
theorem edErr_R {al : List Int} {n : Int} : ∀ (es : List Ed) (p : Option Ed), edErr al n p es = 0 → Sorted es ∧ (∀ q, p = some q → ∀ x ∈ es, edLt q x) ∧ ∀ x ∈ es, x.e ∈ al
 | [], _, _ => ⟨List.Pairwise.nil, fun _ _ x hx => (by cases hx), fun x hx => (by cases hx)⟩
 | y :: es, p, h => by
  rw [edErr] at h
  split at h
  ·cases h
  ·split at h
   ·cases h
   ·rename_i h2
    split at h
    ·cases h
    ·rename_i h3
     obtain ⟨g1, g2, g4⟩ := edErr_R es _ h
     have g3 := g2 y rfl
     refine ⟨List.pairwise_cons.2 ⟨g3, g1⟩, fun q hq x hx => ?_, fun x hx => ?_⟩
     ·have hqy : edLt q y := by
       have h4 : ¬ (y.f < q.f ∨ (y.f = q.f ∧ y.e ≤ q.e)) := fun hc => h3 ⟨q, hq, hc⟩
       unfold edLt; omega
      rcases List.mem_cons.1 hx with rfl | hx
      ·exact hqy
      ·have h5 := g3 x hx
       unfold edLt at hqy h5 ⊢; omega
     ·rcases List.mem_cons.1 hx with rfl | hx
      ·exact hasB_true.1 (by simpa using h2)
      ·exact g4 x hx
theorem right_ofR {a : AutT} (h : (toAut a).err = 0) (h1 : a.1.length ≤ 1000000) (h2 : a.2.2.1.length ≤ 1000000) (h3 : a.2.2.2.length ≤ 1000000) : Right a a.2.1.toNat := by
 obtain ⟨g1, g2, g3, g4, g5⟩ := err_partsR h
 have hok := Aut.ok_of h
 obtain ⟨e1, _, e3⟩ := edErr_R _ _ g5
 obtain ⟨al1, al2⟩ := setErr_incR g1
 obtain ⟨ms1, ms2⟩ := setErr_incR g4
 have hn : (toAut a).n = a.2.1 := rfl
 rw [hn] at g2 g3
 have hnn : ((a.2.1.toNat : Nat) : Int) = a.2.1 := Int.toNat_of_nonneg g2
 refine ⟨hnn.symm, by omega, al1, al2, ms1, fun x hx => by rw [hnn]; exact ms2 x hx, fun x hx => ?_, ?_, h1, h2, h3⟩
 ·have := hok.es (toEd x) (List.mem_map_of_mem hx)
  have h4 := e3 (toEd x) (List.mem_map_of_mem hx)
  rw [hnn]
  exact ⟨this.1, this.2.1, this.2.2.1, this.2.2.2, h4⟩
 ·have e1 : (a.2.2.2.map toEd).Pairwise edLt := e1
  rw [List.pairwise_map] at e1
  exact e1
theorem check_toAut {a : AutT} (h1 : a.1.length ≤ 1000000) (h2 : a.2.2.1.length ≤ 1000000) (h3 : a.2.2.2.length ≤ 1000000) : m_automaton_Check a = some (toAut a).err := by
 have := check_eq (a := toAut a) (by simp [toAut]; omega) (by simp [toAut]; omega) (by simp [toAut]; omega)
 rwa [autP_toAut] at this
end Go.Proofs.YtfbapajcheammaaGreatDoor

