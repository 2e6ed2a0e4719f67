/- Maps from ints: what they hold is a list of pairs; a map whose elements are rows of one's own, each with a tag of its own. -/
import Derived.Test.YtkkemchihllklaaRf
import Derived.MapKept
namespace Go.Proofs.Ytkkemchihllklaa
open Go Go.RowKit

section
variable {β : Type}
/-- The place of a key (the length if there is none). -/
def mix : List (Int × β) → Int → Nat
  | [], _ => 0
  | p :: m, k => if p.1 == k then 0 else mix m k + 1
def mhas : List (Int × β) → Int → Bool
  | [], _ => false
  | p :: m, k => p.1 == k || mhas m k
def mgetD (d : β) : List (Int × β) → Int → β
  | [], _ => d
  | p :: m, k => if p.1 == k then p.2 else mgetD d m k
def mput : List (Int × β) → Int → β → List (Int × β)
  | [], k, v => [(k, v)]
  | p :: m, k, v => if p.1 == k then (p.1, v) :: m else p :: mput m k v
theorem mix_le : ∀ (m : List (Int × β)) (k : Int), mix m k ≤ m.length
  | [], _ => Nat.le_refl _
  | p :: m, k => by
    unfold mix
    split
    · exact Nat.zero_le _
    · exact Nat.succ_le_succ (mix_le m k)
theorem mix_lt : ∀ (m : List (Int × β)) (k : Int), mix m k < m.length ↔ mhas m k = true
  | [], _ => by simp [mix, mhas]
  | p :: m, k => by
    simp only [mix, mhas]
    by_cases h : (p.1 == k) = true
    · simp [h]
    · have := mix_lt m k
      simp [h, this]
theorem mix_key : ∀ (m : List (Int × β)) (k : Int) (h : mix m k < m.length), m[mix m k].1 = k
  | [], _, h => by simp at h
  | p :: m, k, h => by
    by_cases hp : (p.1 == k) = true
    · simp only [mix, hp, if_true, List.getElem_cons_zero]; simpa using hp
    · have e : mix (p :: m) k = mix m k + 1 := by rw [mix, if_neg hp]
      have h' : mix m k < m.length := by rw [e] at h; simpa using h
      simp only [e, List.getElem_cons_succ]
      exact mix_key m k h'
theorem mgetD_at (d : β) : ∀ (m : List (Int × β)) (k : Int) (h : mix m k < m.length), m[mix m k].2 = mgetD d m k
  | [], _, h => by simp at h
  | p :: m, k, h => by
    by_cases hp : (p.1 == k) = true
    · simp only [mix, mgetD, hp, if_true, List.getElem_cons_zero]
    · have e : mix (p :: m) k = mix m k + 1 := by rw [mix, if_neg hp]
      have h' : mix m k < m.length := by rw [e] at h; simpa using h
      simp only [e, List.getElem_cons_succ, mgetD, if_neg hp]
      exact mgetD_at d m k h'
theorem mgetD_no (d : β) : ∀ (m : List (Int × β)) (k : Int), mhas m k = false → mgetD d m k = d
  | [], _, _ => rfl
  | p :: m, k, h => by
    simp only [mhas, Bool.or_eq_false_iff] at h
    rw [mgetD, if_neg (by rw [h.1]; simp)]
    exact mgetD_no d m k h.2
theorem mput_has : ∀ (m : List (Int × β)) (k : Int) (v : β), mhas m k = true → mput m k v = m.set (mix m k) (k, v)
  | [], _, _, h => by simp [mhas] at h
  | p :: m, k, v, h => by
    by_cases hp : (p.1 == k) = true
    · have : p.1 = k := by simpa using hp
      subst this
      simp [mput, mix]
    · have h' : mhas m k = true := by simpa [mhas, hp] using h
      simp only [mput, mix, if_neg hp, List.set_cons_succ, mput_has m k v h']
theorem mput_no : ∀ (m : List (Int × β)) (k : Int) (v : β), mhas m k = false → mput m k v = m ++ [(k, v)]
  | [], _, _, _ => rfl
  | p :: m, k, v, h => by
    simp only [mhas, Bool.or_eq_false_iff] at h
    rw [mput, if_neg (by rw [h.1]; simp), mput_no m k v h.2]
    rfl
theorem mhas_mem : ∀ (m : List (Int × β)) (k : Int), mhas m k = true ↔ k ∈ m.map (·.1)
  | [], k => by simp [mhas]
  | p :: m, k => by
    simp only [mhas, List.map_cons, List.mem_cons, Bool.or_eq_true, mhas_mem m k]
    constructor
    · rintro (h | h)
      · exact .inl (by simpa using (beq_iff_eq.1 h).symm)
      · exact .inr h
    · rintro (h | h)
      · exact .inl (beq_iff_eq.2 h.symm)
      · exact .inr h
end
/-- The keys of a map's entries. -/
def Keys : List MapEntry → List Int → Prop
  | [], [] => True
  | e :: es, k :: ks => e.key = .int .i64 k ∧ Keys es ks
  | _, _ => False
theorem Keys.len : ∀ {es : List MapEntry} {ks : List Int}, Keys es ks → es.length = ks.length
  | [], [], _ => rfl
  | _ :: _, _ :: _, h => by rw [List.length_cons, List.length_cons, Keys.len h.2]
theorem Keys.find {β : Type} {kd : IntKind} (k : Int) : ∀ {es : List MapEntry} {m : List (Int × β)} (i0 : Nat), Keys es (m.map (·.1)) →
    Instr.findNow (.int kd) (.int .i64 k) es i0 = some ((es[mix m k]?).map fun e => (i0 + mix m k, e.val))
  | [], [], i0, _ => rfl
  | e :: es, p :: m, i0, h => by
    obtain ⟨h1, h2⟩ := h
    simp only [Instr.findNow, h1, Instr.sameNow, if_true]
    by_cases hp : (p.1 == k) = true
    · have : (k == p.1) = true := by rw [beq_iff_eq] at hp ⊢; exact hp.symm
      rw [this]
      simp only [mix, hp, if_true, List.getElem?_cons_zero, Option.map_some, Nat.add_zero]
    · have : (k == p.1) = false := by
        cases hb : (k == p.1) with
        | false => rfl
        | true => exact absurd (by rw [beq_iff_eq] at hb ⊢; exact hb.symm) hp
      rw [this]
      dsimp only
      rw [Keys.find k (i0 + 1) h2]
      simp only [mix, if_neg hp, List.getElem?_cons_succ]
      cases es[mix m k]? with
      | none => rfl
      | some e => simp only [Option.map_some]; rw [show i0 + 1 + mix m k = i0 + (mix m k + 1) by omega]
  | [], _ :: _, _, h => h.elim
  | _ :: _, [], _, h => h.elim
theorem Keys.set : ∀ {es : List MapEntry} {ks : List Int} {i : Nat} {e : MapEntry} {k : Int}, Keys es ks → ks[i]? = some k → e.key = .int .i64 k → Keys (es.set i e) ks
  | _ :: _, _ :: _, 0, e, k, h, hi, he => by
    simp only [List.getElem?_cons_zero, Option.some.injEq] at hi
    subst hi
    exact ⟨he, h.2⟩
  | _ :: _, _ :: _, i + 1, e, k, h, hi, he => ⟨h.1, Keys.set h.2 (by simpa using hi) he⟩
  | [], [], i, _, _, _, hi, _ => by simp at hi
theorem Keys.push : ∀ {es : List MapEntry} {ks : List Int} {e : MapEntry} {k : Int}, Keys es ks → e.key = .int .i64 k → Keys (es ++ [e]) (ks ++ [k])
  | [], [], _, _, _, he => ⟨he, trivial⟩
  | _ :: _, _ :: _, _, _, h, he => ⟨h.1, Keys.push h.2 he⟩

/-- The tag of the row at place i of the map with the number q. -/
def fam (N q i : Nat) : Nat := N + (1000 + (q + 10 * i))
theorem fam_ne {N q i j : Nat} (h : i ≠ j) : ¬ One (fam N q i) (fam N q j) := fun e => by
  have : fam N q j = fam N q i := e
  unfold fam at this
  omega
theorem fm0 {N q i : Nat} (h : 0 < N) : ¬ One (fam N q i) 0 := fun e => by
  have : 0 = fam N q i := e
  unfold fam at this; omega
theorem fmN {N q i k : Nat} (h : Nat.blt k 1000 = true) : ¬ One (fam N q i) (N + k) := fun e => by
  have h' : k < 1000 := by simpa using h
  have : N + k = fam N q i := e
  unfold fam at this; omega
theorem fmM {N q i k : Nat} (h : Nat.blt k 1000 = true) : ¬ One (N + k) (fam N q i) := fun e => by
  have h' : k < 1000 := by simpa using h
  have : fam N q i = N + k := e
  unfold fam at this; omega
theorem fmV {N q i t : Nat} (h : t < N) : ¬ One (fam N q i) t := fun e => by
  have : t = fam N q i := e
  unfold fam at this; omega
theorem fmW {N q i t : Nat} (h : t < N) : ¬ One t (fam N q i) := fun e => by
  have : fam N q i = t := e
  unfold fam at this; omega
theorem fmQ {N q q' i j : Nat} (h : (Nat.blt q 10 && Nat.blt q' 10 && !Nat.beq q q') = true) : ¬ One (fam N q i) (fam N q' j) := fun e => by
  have : fam N q' j = fam N q i := e
  obtain ⟨h12, h3⟩ := Bool.and_eq_true_iff.1 h
  obtain ⟨h1, h2⟩ := Bool.and_eq_true_iff.1 h12
  have h1' : q < 10 := by simpa using h1
  have h2' : q' < 10 := by simpa using h2
  have h3' : q ≠ q' := fun e => by subst e; simp at h3
  unfold fam at this; omega
theorem fam_neN {N q i k : Nat} (h : Nat.blt k 1000 = true) : fam N q i ≠ N + k := fun e => by
  have h' : k < 1000 := by simpa using h
  unfold fam at e; omega
theorem upF {N q i : Nat} {S : Nat → Prop} : Up N S (fam N q i) := .inl (by unfold fam; omega)
theorem tgpF {N q i : Nat} (h : 0 < N) : Nat.blt 0 (fam N q i) = true := by unfold fam; simp; omega
def pF (N : Nat) (ks : List Nat) (t : Nat) : Bool := ks.any (fun k => Nat.beq t (N + k)) || Nat.ble (N + 1000) t
theorem pF_0 {N : Nat} {ks : List Nat} (h : 0 < N) : pF N ks 0 = false := by
  unfold pF
  rw [Bool.or_eq_false_iff]
  refine ⟨?_, by cases hb : Nat.ble (N + 1000) 0 with | false => rfl | true => have := Nat.le_of_ble_eq_true hb; omega⟩
  rw [List.any_eq_false]
  intro k _ e
  have := Nat.eq_of_beq_eq_true e
  omega
theorem pF_k {N k : Nat} {ks : List Nat} (h : ks.contains k = true) : pF N ks (N + k) = true := by
  unfold pF
  rw [Bool.or_eq_true]
  exact .inl (List.any_eq_true.2 ⟨k, by simpa using h, by simp⟩)
theorem pF_f {N q i : Nat} {ks : List Nat} : pF N ks (fam N q i) = true := by
  unfold pF
  rw [Bool.or_eq_true]
  exact .inr (Nat.ble_eq_true_of_le (by unfold fam; omega))
theorem pF_no {N j : Nat} {ks : List Nat} (h : (Nat.blt j 1000 && !ks.contains j) = true) : ¬ pF N ks (N + j) = true := by
  obtain ⟨h1, h2⟩ := Bool.and_eq_true_iff.1 h
  have h1' : j < 1000 := by simpa using h1
  unfold pF
  rw [Bool.or_eq_true]
  rintro (e | e)
  · obtain ⟨k, hk, e2⟩ := List.any_eq_true.1 e
    have : N + j = N + k := Nat.eq_of_beq_eq_true e2
    have : j = k := by omega
    subst this
    rw [List.contains_iff_mem.2 hk] at h2
    cases h2
  · have := Nat.le_of_ble_eq_true e; omega
theorem pF_V {N t : Nat} {ks : List Nat} (h : t < N) : ¬ pF N ks t = true := by
  unfold pF
  rw [Bool.or_eq_true]
  rintro (e | e)
  · obtain ⟨k, hk, e2⟩ := List.any_eq_true.1 e
    have : t = N + k := Nat.eq_of_beq_eq_true e2
    omega
  · have := Nat.le_of_ble_eq_true e; omega
theorem pF_n0 {N : Nat} {ks : List Nat} (h : 0 < N) : ¬ pF N ks 0 = true := by rw [pF_0 h]; simp
theorem pF_up {N t : Nat} {ks : List Nat} {S : Nat → Prop} (h : pF N ks t = true) : Up N S t := by
  unfold pF at h
  rw [Bool.or_eq_true] at h
  refine .inl ?_
  rcases h with e | e
  · obtain ⟨k, hk, e2⟩ := List.any_eq_true.1 e
    have : t = N + k := Nat.eq_of_beq_eq_true e2
    omega
  · have := Nat.le_of_ble_eq_true e; omega
section
variable {α : Type}
/-- A map's entries: the pairs of m; each element but the one that is out is a row of its own tag. -/
structure Ents (r : Rep α) (s : Sig) (N q : Nat) (U : TypeId) (es : List MapEntry) (clock : Nat) (m : List (Int × List α)) (out : Option Int) : Prop where
  keys : Keys es (m.map (·.1))
  born : ∀ (i : Nat) (e : MapEntry), es[i]? = some e → e.born < clock
  inj : ∀ (i j : Nat) (e f : MapEntry), es[i]? = some e → es[j]? = some f → e.born = f.born → i = j
  rows : ∀ (i : Nat) (e : MapEntry) (p : Int × List α), es[i]? = some e → m[i]? = some p → out = some p.1 ∨ ∃ a cap, e.val = .slice a p.2.length cap ∧ RowT r s (fam N q i) U a cap p.2
  nodup : (m.map (·.1)).Nodup
structure MapW (r : Rep α) (s : Sig) (N q t : Nat) (U : TypeId) (b : Nat) (m : List (Int × List α)) (out : Option Int) : Prop where
  is : ∃ (es : List MapEntry) (clock : Nat), s.w.heap[b]? = some (.map es.toArray clock) ∧ s.tag b = t ∧ Ents r s N q U es clock m out
variable {r : Rep α} {s s' : Sig} {N q t b clock k0 : Nat} {U : TypeId} {m : List (Int × List α)} {out : Option Int} {S : Nat → Prop} {es : List MapEntry} {k : Int} {zs : List α} {a : Option Addr} {cap : Nat}
theorem Ents.len (h : Ents r s N q U es clock m out) : es.length = m.length := by rw [h.keys.len, List.length_map]
theorem Ents.mv (h : Ents r s N q U es clock m out) (mv : Mv S s s') (h0 : ¬ S 0) (hr : ∀ i, (∀ k, out = some k → i ≠ mix m k) → ¬ S (fam N q i)) : Ents r s' N q U es clock m out :=
  ⟨h.keys, h.born, h.inj, fun i e p he hp => by
    rcases h.rows i e p he hp with h | ⟨a, cap, h7, h8⟩
    · exact .inl h
    · by_cases ho : out = some p.1
      · exact .inl ho
      · refine .inr ⟨a, cap, h7, h8.mv mv (hr i fun k hk e0 => ?_) h0⟩
        subst e0
        obtain ⟨hlt, e1⟩ := List.getElem?_eq_some_iff.1 hp
        have := mix_key m k hlt
        rw [e1] at this
        exact ho (by rw [hk, this]), h.nodup⟩
theorem Ents.lend (h : Ents r s N q U es clock m none) (k : Int) : Ents r s N q U es clock m (some k) :=
  ⟨h.keys, h.born, h.inj, fun i e p he hp => .inr ((h.rows i e p he hp).resolve_left (by simp)), h.nodup⟩
theorem Ents.no (h : Ents r s N q U es clock m (some k)) (hk : mhas m k = false) : Ents r s N q U es clock m none :=
  ⟨h.keys, h.born, h.inj, fun i e p he hp => by
    rcases h.rows i e p he hp with h1 | h1
    · exfalso
      have hm : p.1 ∈ m.map (·.1) := List.mem_map.2 ⟨p, List.mem_of_getElem? hp, rfl⟩
      cases h1
      rw [(mhas_mem m p.1).2 hm] at hk
      cases hk
    · exact .inr h1, h.nodup⟩
theorem Ents.set (h : Ents r s N q U es clock m (some k)) (hk : mhas m k = true) {e e' : MapEntry} (he : es[mix m k]? = some e) (h1 : e'.key = .int .i64 k) (h2 : e'.born = e.born) (h3 : e'.val = .slice a zs.length cap) (h4 : RowT r s (fam N q (mix m k)) U a cap zs) :
    Ents r s N q U (es.set (mix m k) e') clock (m.set (mix m k) (k, zs)) none := by
  have hlt := (mix_lt m k).2 hk
  have hkey := mix_key m k hlt
  have hmap : (m.set (mix m k) (k, zs)).map (·.1) = m.map (·.1) := by
    rw [List.map_set]
    apply List.ext_getElem?
    intro i
    by_cases hi : mix m k = i
    · subst hi
      rw [List.getElem?_set_self (by simpa using hlt), List.getElem?_map, List.getElem?_eq_getElem hlt, Option.map_some, hkey]
    · rw [List.getElem?_set_ne hi]
  have hel : mix m k < es.length := by rw [h.len]; exact hlt
  refine ⟨?_, fun i f hf => ?_, fun i j f f' hf hf' hb => ?_, fun i f p hf hp => ?_, by rw [hmap]; exact h.nodup⟩
  · rw [hmap]
    exact h.keys.set (k := k) (by rw [List.getElem?_map, List.getElem?_eq_getElem hlt, Option.map_some, hkey]) h1
  · by_cases hi : mix m k = i
    · subst hi
      rw [List.getElem?_set_self hel, Option.some.injEq] at hf
      subst hf
      rw [h2]; exact h.born _ e he
    · rw [List.getElem?_set_ne hi] at hf
      exact h.born i f hf
  · have hg : ∀ (i : Nat) (f : MapEntry), (es.set (mix m k) e')[i]? = some f → ∃ f0 : MapEntry, es[i]? = some f0 ∧ f0.born = f.born := fun i f hf => by
      by_cases hi : mix m k = i
      · subst hi
        rw [List.getElem?_set_self hel, Option.some.injEq] at hf
        subst hf
        exact ⟨e, he, h2.symm⟩
      · rw [List.getElem?_set_ne hi] at hf
        exact ⟨f, hf, rfl⟩
    obtain ⟨f0, g1, g2⟩ := hg i f hf
    obtain ⟨f1, g3, g4⟩ := hg j f' hf'
    exact h.inj i j f0 f1 g1 g3 (by rw [g2, g4, hb])
  · by_cases hi : mix m k = i
    · subst hi
      rw [List.getElem?_set_self hel, Option.some.injEq] at hf
      rw [List.getElem?_set_self hlt, Option.some.injEq] at hp
      subst hf
      subst hp
      exact .inr ⟨a, cap, h3, h4⟩
    · rw [List.getElem?_set_ne hi] at hf hp
      rcases h.rows i f p hf hp with h5 | h5
      · exfalso
        obtain ⟨hi', ep⟩ := List.getElem?_eq_some_iff.1 hp
        have e5 : k = p.1 := by simpa using h5
        have h6 := (List.getElem?_inj (i := mix m k) (j := i) (l := m.map (·.1)) (by simpa using hlt) h.nodup).1 (by rw [List.getElem?_map, List.getElem?_map, hp, List.getElem?_eq_getElem hlt, Option.map_some, Option.map_some, hkey, e5])
        exact hi h6
      · exact .inr h5
theorem Ents.push (h : Ents r s N q U es clock m out) (hk : mhas m k = false) {e' : MapEntry} (h1 : e'.key = .int .i64 k) (h2 : e'.born = clock) (h3 : out = some k ∨ (out = none ∧ ∃ a cap, e'.val = .slice a zs.length cap ∧ RowT r s (fam N q m.length) U a cap zs)) :
    Ents r s N q U (es ++ [e']) (clock + 1) (m ++ [(k, zs)]) out := by
  have hl := h.len
  have hg : ∀ (i : Nat) (f : MapEntry), (es ++ [e'])[i]? = some f → (es[i]? = some f ∧ i < es.length) ∨ (i = es.length ∧ f = e') := fun i f hf => by
    by_cases hi : i < es.length
    · rw [List.getElem?_append_left hi] at hf; exact .inl ⟨hf, hi⟩
    · rw [List.getElem?_append_right (by omega)] at hf
      by_cases h0 : i - es.length = 0
      · rw [h0] at hf
        simp only [List.getElem?_cons_zero, Option.some.injEq] at hf
        exact .inr ⟨by omega, hf.symm⟩
      · rw [List.getElem?_eq_none (by simp; omega)] at hf; cases hf
  refine ⟨?_, fun i f hf => ?_, fun i j f f' hf hf' hb => ?_, fun i f p hf hp => ?_, ?_⟩
  · rw [List.map_append]; exact h.keys.push h1
  · rcases hg i f hf with ⟨g, _⟩ | ⟨_, rfl⟩
    · exact Nat.lt_succ_of_lt (h.born i f g)
    · rw [h2]; exact Nat.lt_succ_self _
  · rcases hg i f hf with ⟨g, _⟩ | ⟨g, rfl⟩ <;> rcases hg j f' hf' with ⟨g', _⟩ | ⟨g', rfl⟩
    · exact h.inj i j f f' g g' hb
    · have := h.born i f g; omega
    · have := h.born j f' g'; omega
    · omega
  · rcases hg i f hf with ⟨g, hi⟩ | ⟨g, rfl⟩
    · rw [List.getElem?_append_left (by omega)] at hp
      exact h.rows i f p g hp
    · rw [List.getElem?_append_right (by omega), g, hl, Nat.sub_self] at hp
      simp only [List.getElem?_cons_zero, Option.some.injEq] at hp
      subst hp
      rcases h3 with h3 | ⟨_, h3⟩
      · exact .inl h3
      · refine .inr ?_
        rw [g, hl]; exact h3
  · rw [List.map_append, List.nodup_append]
    refine ⟨h.nodup, by simp, fun x hx y hy e => ?_⟩
    simp only [List.map_cons, List.map_nil, List.mem_singleton] at hy
    subst hy
    subst e
    rw [(mhas_mem m x).2 hx] at hk
    cases hk
theorem MapW.lt (h : MapW r s N q t U b m out) : b < s.w.heap.size := by
  obtain ⟨es, clock, h1, _⟩ := h.is
  exact (Array.getElem?_eq_some_iff.1 h1).1
/-- It stays where neither the map nor a row that is not out turns. -/
theorem MapW.mv (h : MapW r s N q t U b m out) (mv : Mv S s s') (ht : ¬ S t) (h0 : ¬ S 0) (hr : ∀ i, (∀ k, out = some k → i ≠ mix m k) → ¬ S (fam N q i)) : MapW r s' N q t U b m out := by
  obtain ⟨es, clock, h1, h2, h3⟩ := h.is
  obtain ⟨g1, g2⟩ := mv.blk b h.lt (by rw [h2]; exact ht)
  exact ⟨es, clock, g1.trans h1, g2.trans h2, h3.mv mv h0 hr⟩
theorem MapW.lend (h : MapW r s N q t U b m none) (k : Int) : MapW r s N q t U b m (some k) := by
  obtain ⟨es, clock, h1, h2, h3⟩ := h.is
  exact ⟨es, clock, h1, h2, h3.lend k⟩
/-- A map that nobody writes any more. -/
structure MapR {V : Type} (r : Rep V) (s : Sig) (b : Nat) (m : List (Int × V)) : Prop where
  is : ∃ (es : List MapEntry) (clock : Nat), s.w.heap[b]? = some (.map es.toArray clock) ∧ s.tag b = 0 ∧ Keys es (m.map (·.1)) ∧ ∀ (i : Nat) (e : MapEntry) (p : Int × V), es[i]? = some e → m[i]? = some p → r.rd s [e.val] p.2
theorem MapR.mono {V : Type} {r : Rep V} {m : List (Int × V)} (h : MapR r s b m) (hl : Le s s') : MapR r s' b m := by
  obtain ⟨es, clock, h1, h2, h3, h4⟩ := h.is
  obtain ⟨g1, g2⟩ := hl.blk b (Array.getElem?_eq_some_iff.1 h1).1 h2
  exact ⟨es, clock, g1.trans h1, g2, h3, fun i e p he hp => r.mono hl (h4 i e p he hp)⟩
/-- Some tags are given up. -/
def Sig.fzP (p : Nat → Bool) (s : Sig) : Sig := ⟨s.w, fun b => if p (s.tag b) then 0 else s.tag b⟩
theorem Sig.fzP_mv (p : Nat → Bool) (s : Sig) : Mv (fun t => p t = true) s (s.fzP p) := ⟨rfl, rfl, rfl, Nat.le_refl _, fun b _ hn => ⟨rfl, if_neg hn⟩⟩
theorem MapW.fz {p : Nat → Bool} (h : MapW r s N q t U b m none) (h0 : p 0 = false) (ht : p t = true) (hr : ∀ i, p (fam N q i) = true) : MapR (rL r) (s.fzP p) b m := by
  obtain ⟨es, clock, h1, h2, h3⟩ := h.is
  have hle : Le s (s.fzP p) := (Sig.fzP_mv p s).le (by show ¬ p 0 = true; rw [h0]; simp)
  refine ⟨es, clock, h1, by simp [Sig.fzP, h2, ht], h3.keys, fun i e p' he hp => ?_⟩
  obtain ⟨a, cap, h7, h8⟩ := (h3.rows i e p' he hp).resolve_left (by simp)
  exact ⟨a, cap, by rw [h7], h8.rd hle rfl fun b' hb => by simp [Sig.fzP, hb, hr i]⟩
end
section
variable {P : Program} {Q : Exit → Act → World → Prop} {n : Nat} {e : List (Nat × Value)} {s : Sig} {ops : Array Oper} {os : List Oper} {d : Nat} {ty : TypeId} {pos : String} {af : Array Edge} {g : Option (Nat × Bool)}
variable {α : Type} {r : Rep α} {N q t b : Nat} {T U kt et : TypeId} {kd : IntKind} {m : List (Int × List α)} {k : Int} {zs : List α} {a : Option Addr} {cap : Nat}
/-- A type of maps from ints. -/
structure Mp (P : Program) (T kt et : TypeId) (kd : IntKind) (z : Value) : Prop where
  und : P.underlying T = some (.map kt et)
  key : P.underlying kt = some (.int kd)
  zero : ∀ w, (zeroValue et).run P w = .ok z w
theorem Mp.mk' {z : Value} (h1 : P.underlying T = some (.map kt et)) (h2 : P.underlying kt = some (.int kd)) (h3 : (P.info? et).bind (·.zero) = some z) : Mp P T kt et kd z := ⟨h1, h2, fun w => by
  cases hi : P.info? et with
  | none => simp [hi] at h3
  | some i => simp [hi] at h3; simp [zeroValue, typeInfo, hi, h3]⟩
theorem Mp.check {z : Value} (h : Mp P T kt et kd z) (em : Bool) (k : Int) (w : World) : (Instr.checkKey em 10000 kt (.int .i64 k)).run P w = .ok () w := by
  unfold Instr.checkKey
  simp only [Sem.run_bind, run_underlying h.key, Result.andThen]
  rfl
theorem Mp.find {β : Type} {z : Value} (h : Mp P T kt et kd z) {es : List MapEntry} {m : List (Int × β)} (hk : Keys es (m.map (·.1))) (k : Int) (w : World) :
    (Instr.findKey kt (.int .i64 k) es).run P w = .ok ((es[mix m k]?).map fun e => (mix m k, e.val)) w := by
  have := Keys.find (kd := kd) k 0 hk
  simp only [Nat.zero_add] at this
  simp [Instr.findKey, run_underlying h.key, this]
theorem gobj {w : World} {b clock : Nat} {es : List MapEntry} (h1 : w.heap[b]? = some (.map es.toArray clock)) : (getObj b).run P w = .ok (.map es.toArray clock) w := by simp [getObj, Sem.run, h1]
theorem L.mm (t : Nat) (hd : Nat.blt d n = true) (hw : Wt ops e g)
    (h : ∀ b s', Mv No s s' → MapW r s' N q t U b [] none → L P Q n ops os ((d, .map (some b)) :: e) s'.w) : L P Q n ops (⟨some d, .makeMap T none, ty, pos, af, g⟩ :: os) e s.w := by
  refine L.val hw hd (v := .map (some s.w.heap.size)) (w' := s.w.alloc (.map #[] 0)) (fun ac ha => by simp [execOp, run_makeMap]) ?_
  refine h s.w.heap.size ⟨s.w.alloc (.map #[] 0), tagUp s.tag s.w.heap.size t⟩ ?_ ⟨[], 0, heap_alloc_new s.w _, tagUp_at _ _ _, ⟨trivial, fun i e he => by simp at he, fun i j e f he => by simp at he, fun i e p he => by simp at he, by simp⟩⟩
  exact ⟨rfl, rfl, rfl, by simp, fun b hb _ => ⟨heap_alloc_old s.w _ hb, tagUp_lt hb⟩⟩
/-- A lookup in a map of rows: the row is handed out. -/
theorem L.mlw {x y : Operand} (hT : Mp P T kt et kd (.slice none 0 0)) (hM : MapW r s N q t U b m none) (hw : Wt ops e g) (hx : Env.ev e x = some (.map (some b))) (hy : Env.ev e y = some (.int .i64 k)) (hd : Nat.blt d n = true)
    (h : ∀ a cap, RowT r s (fam N q (mix m k)) U a cap (mgetD [] m k) → MapW r s N q t U b m (some k) → L P Q n ops os ((d, .slice a (mgetD [] m k).length cap) :: e) s.w) : L P Q n ops (⟨some d, .lookup T x y false, ty, pos, af, g⟩ :: os) e s.w := by
  obtain ⟨es, clock, h1, h2, h3⟩ := hM.is
  have hf := hT.find h3.keys k s.w
  cases hh : mhas m k with
  | true =>
    have hlt := (mix_lt m k).2 hh
    have hel : mix m k < es.length := by rw [h3.len]; exact hlt
    obtain ⟨a, cap, h7, h8⟩ := (h3.rows (mix m k) es[mix m k] m[mix m k] (List.getElem?_eq_getElem hel) (List.getElem?_eq_getElem hlt)).resolve_left (by simp)
    have hg : m[mix m k].2 = mgetD [] m k := mgetD_at [] m k hlt
    rw [hg] at h7 h8
    rw [List.getElem?_eq_getElem hel, Option.map_some, h7] at hf
    refine L.val hw hd (fun ac ha => ?_) (h a cap h8 (hM.lend k))
    simp [execOp, ha.ev hx, ha.ev hy, Instr.lookup, run_underlying hT.und, gobj h1, hT.check, hf]
  | false =>
    have hge : ¬ mix m k < m.length := fun h => by rw [(mix_lt m k).1 h] at hh; cases hh
    rw [List.getElem?_eq_none (by rw [h3.len]; omega), Option.map_none] at hf
    have hg : mgetD [] m k = [] := mgetD_no [] m k hh
    rw [hg] at h
    refine L.val hw hd (fun ac ha => ?_) (h none 0 RowT.nil (hM.lend k))
    simp [execOp, ha.ev hx, ha.ev hy, Instr.lookup, run_underlying hT.und, gobj h1, hT.check, hf, hT.zero]
/-- A lookup in a map that nobody writes. -/
theorem L.mlr {x y : Operand} (hT : Mp P T kt et kd (.slice none 0 0)) (hM : MapR (rL r) s b m) (hw : Wt ops e g) (hx : Env.ev e x = some (.map (some b))) (hy : Env.ev e y = some (.int .i64 k)) (hd : Nat.blt d n = true)
    (h : ∀ a cap, RdL r s a cap (mgetD [] m k) → L P Q n ops os ((d, .slice a (mgetD [] m k).length cap) :: e) s.w) : L P Q n ops (⟨some d, .lookup T x y false, ty, pos, af, g⟩ :: os) e s.w := by
  obtain ⟨es, clock, h1, h2, h3, h4⟩ := hM.is
  have hf := hT.find h3 k s.w
  have hlen : es.length = m.length := by rw [h3.len, List.length_map]
  cases hh : mhas m k with
  | true =>
    have hlt := (mix_lt m k).2 hh
    have hel : mix m k < es.length := by rw [hlen]; exact hlt
    obtain ⟨a, cap, h7, h8⟩ := h4 (mix m k) es[mix m k] m[mix m k] (List.getElem?_eq_getElem hel) (List.getElem?_eq_getElem hlt)
    have hg : m[mix m k].2 = mgetD [] m k := mgetD_at [] m k hlt
    rw [hg] at h7 h8
    have h7' : es[mix m k].val = .slice a (mgetD [] m k).length cap := by simpa using h7
    rw [List.getElem?_eq_getElem hel, Option.map_some, h7'] at hf
    refine L.val hw hd (fun ac ha => ?_) (h a cap h8)
    simp [execOp, ha.ev hx, ha.ev hy, Instr.lookup, run_underlying hT.und, gobj h1, hT.check, hf]
  | false =>
    have hge : ¬ mix m k < m.length := fun h => by rw [(mix_lt m k).1 h] at hh; cases hh
    rw [List.getElem?_eq_none (by rw [hlen]; omega), Option.map_none] at hf
    have hg : mgetD [] m k = [] := mgetD_no [] m k hh
    rw [hg] at h
    refine L.val hw hd (fun ac ha => ?_) (h none 0 RdL.nil)
    simp [execOp, ha.ev hx, ha.ev hy, Instr.lookup, run_underlying hT.und, gobj h1, hT.check, hf, hT.zero]
theorem same_int (k : Int) : Instr.sameBits 10000 (.int .i64 k) (.int .i64 k) = true := by simp [Instr.sameBits]
theorem stays_int (k : Int) (w : World) : (Instr.keyThatStays (.int .i64 k) (.int .i64 k)).run P w = .ok (.int .i64 k) w := by simp [Instr.keyThatStays, same_int]
/-- The world with a map's block changed. -/
theorem setMap_mv {es es' : List MapEntry} {clock clock' : Nat} (h1 : s.w.heap[b]? = some (.map es.toArray clock)) (ht : s.tag b = t) :
    Mv (One t) s ⟨{ s.w with heap := s.w.heap.setIfInBounds b (.map es'.toArray clock') }, s.tag⟩ ∧ ({ s.w with heap := s.w.heap.setIfInBounds b (.map es'.toArray clock') } : World).heap[b]? = some (.map es'.toArray clock') := by
  have hb : b < s.w.heap.size := (Array.getElem?_eq_some_iff.1 h1).1
  refine ⟨⟨rfl, rfl, rfl, by simp, fun b' hb' hn => ⟨?_, rfl⟩⟩, by simp [hb]⟩
  have : b ≠ b' := fun e => hn (by show s.tag b' = t; rw [← e, ht])
  simp [Array.getElem?_setIfInBounds, this]
theorem sobj {w : World} {b clock : Nat} {es : List MapEntry} (o : Obj) (h1 : w.heap[b]? = some (.map es.toArray clock)) : (setObj b o).run P w = .ok () { w with heap := w.heap.setIfInBounds b o } := by simp [setObj, Sem.run, h1]
theorem lmod {es : List MapEntry} {i : Nat} {e : MapEntry} (f : MapEntry → MapEntry) (h : es[i]? = some e) : es.modify i f = es.set i (f e) := by
  obtain ⟨hi, rfl⟩ := List.getElem?_eq_some_iff.1 h
  apply List.ext_getElem?
  intro j
  by_cases hj : i = j
  · subst hj
    simp [List.getElem?_modify, hi]
  · rw [List.getElem?_set_ne hj, List.getElem?_modify]
    simp [hj]
theorem Keys.at : ∀ {es : List MapEntry} {ks : List Int} (_ : Keys es ks) (i : Nat) (h : i < es.length) (h' : i < ks.length), es[i].key = .int .i64 ks[i]
  | [], _, _, i, h, _ => by simp at h
  | _ :: _, [], hk, _, _, _ => hk.elim
  | _ :: _, _ :: _, hk, 0, _, _ => hk.1
  | _ :: _, _ :: _, hk, i + 1, h, h' => Keys.at hk.2 i (by simpa using h) (by simpa using h')
/-- m[k] = a row. -/
theorem L.mup {x y z : Operand} {zv : Value} (hT : Mp P T kt et kd zv) (hM : MapW r s N q t U b m (some k)) (hR : RowT r s (fam N q (mix m k)) U a cap zs) (htf : ∀ i, fam N q i ≠ t) (ht0 : 0 < t) (hw : Wt ops e g) (hx : Env.ev e x = some (.map (some b))) (hy : Env.ev e y = some (.int .i64 k)) (hz : Env.ev e z = some (.slice a zs.length cap))
    (h : ∀ s', Mv (One t) s s' → MapW r s' N q t U b (mput m k zs) none → L P Q n ops os e s'.w) : L P Q n ops (⟨none, .mapUpdate T x y z, ty, pos, af, g⟩ :: os) e s.w := by
  obtain ⟨es, clock, h1, h2, h3⟩ := hM.is
  have hf := hT.find h3.keys k s.w
  cases hh : mhas m k with
  | true =>
    have hlt := (mix_lt m k).2 hh
    have hel : mix m k < es.length := by rw [h3.len]; exact hlt
    have hkey : es[mix m k].key = .int .i64 k := by
      rw [h3.keys.at (mix m k) hel (by simpa using hlt), List.getElem_map, mix_key m k hlt]
    rw [List.getElem?_eq_getElem hel, Option.map_some] at hf
    have hset := setMap_mv (s := s) (t := t) (es' := es.set (mix m k) { es[mix m k] with key := .int .i64 k, val := .slice a zs.length cap }) (clock' := clock) h1 h2
    refine L.unit hw (w' := { s.w with heap := s.w.heap.setIfInBounds b (.map (es.set (mix m k) { es[mix m k] with key := .int .i64 k, val := .slice a zs.length cap }).toArray clock) }) (fun ac ha => ?_) (h _ hset.1 ?_)
    · simp [execOp, ha.ev hx, ha.ev hy, ha.ev hz, Instr.mapUpdate, run_underlying hT.und, gobj h1, hT.check, hf, hkey, hel, stays_int, sobj _ h1]
      rw [lmod _ (List.getElem?_eq_getElem hel)]
    · rw [mput_has m k zs hh]
      have hent := h3.set hh (List.getElem?_eq_getElem hel) (e' := { es[mix m k] with key := .int .i64 k, val := .slice a zs.length cap }) rfl rfl rfl hR
      exact ⟨_, _, hset.2, h2, hent.mv hset.1 (fun e0 => by have : 0 = t := e0; omega) fun i _ e0 => htf i e0⟩
  | false =>
    have hge : ¬ mix m k < m.length := fun h => by rw [(mix_lt m k).1 h] at hh; cases hh
    have hixl : mix m k = m.length := by have := mix_le m k; omega
    rw [List.getElem?_eq_none (by rw [h3.len]; omega), Option.map_none] at hf
    have hset := setMap_mv (s := s) (t := t) (es' := es ++ [(⟨.int .i64 k, .slice a zs.length cap, clock⟩ : MapEntry)]) (clock' := clock + 1) h1 h2
    refine L.unit hw (w' := { s.w with heap := s.w.heap.setIfInBounds b (.map (es ++ [(⟨.int .i64 k, .slice a zs.length cap, clock⟩ : MapEntry)]).toArray (clock + 1)) }) (fun ac ha => ?_) (h _ hset.1 ?_)
    · simp [execOp, ha.ev hx, ha.ev hy, ha.ev hz, Instr.mapUpdate, run_underlying hT.und, gobj h1, hT.check, hf, sobj _ h1]
    · rw [mput_no m k zs hh]
      rw [hixl] at hR
      have hent := (h3.no hh).push hh (zs := zs) (e' := { key := .int .i64 k, val := .slice a zs.length cap, born := clock }) rfl rfl (.inr ⟨rfl, a, cap, rfl, hR⟩)
      exact ⟨_, _, hset.2, h2, hent.mv hset.1 (fun e0 => by have : 0 = t := e0; omega) fun i _ e0 => htf i e0⟩
/-- The entry that an assignment finds or makes: its stamp. -/
def ment {β : Type} (d : β) (m : List (Int × β)) (k : Int) : List (Int × β) := if mhas m k = true then m else m ++ [(k, d)]
theorem ment_mix {β : Type} (d : β) (m : List (Int × β)) (k : Int) : mix (ment d m k) k = mix m k ∧ mhas (ment d m k) k = true := by
  unfold ment
  split
  · rename_i h; exact ⟨rfl, h⟩
  · rename_i h
    have h' : mhas m k = false := by simpa using h
    clear h
    induction m with
    | nil => simp [mix, mhas]
    | cons p m ih =>
      simp only [mhas, Bool.or_eq_false_iff] at h'
      have hp : ¬ (p.1 == k) = true := by rw [h'.1]; simp
      obtain ⟨i1, i2⟩ := ih h'.2
      simp only [List.cons_append, mix, mhas, if_neg hp, i1, i2, Bool.or_true, and_self]
theorem ment_put {β : Type} (d : β) (m : List (Int × β)) (k : Int) (v : β) : (ment d m k).set (mix m k) (k, v) = mput m k v := by
  unfold ment
  split
  · rename_i h; exact (mput_has m k v h).symm
  · rename_i h
    have h' : mhas m k = false := by simpa using h
    have hl : mix m k = m.length := by
      have h1 := mix_le m k
      have h2 : ¬ mix m k < m.length := fun h3 => by rw [(mix_lt m k).1 h3] at h'; cases h'
      omega
    rw [mput_no m k v h', hl, List.set_append_right _ _ (Nat.le_refl _), Nat.sub_self]
    rfl
structure MapE (r : Rep α) (s : Sig) (N q t : Nat) (U : TypeId) (b : Nat) (m : List (Int × List α)) (k : Int) (st : Int) : Prop where
  is : ∃ (es : List MapEntry) (clock : Nat), s.w.heap[b]? = some (.map es.toArray clock) ∧ s.tag b = t ∧ Ents r s N q U es clock (ment [] m k) (some k) ∧ ∃ e, es[mix m k]? = some e ∧ (e.born : Int) = st ∧ e.key = .int .i64 k
theorem MapE.mv {S : Nat → Prop} {s' : Sig} {st : Int} (h : MapE r s N q t U b m k st) (mv : Mv S s s') (ht : ¬ S t) (h0 : ¬ S 0) (hr : ∀ i, i ≠ mix m k → ¬ S (fam N q i)) : MapE r s' N q t U b m k st := by
  obtain ⟨es, clock, h1, h2, h3, h4⟩ := h.is
  obtain ⟨g1, g2⟩ := mv.blk b (Array.getElem?_eq_some_iff.1 h1).1 (by rw [h2]; exact ht)
  exact ⟨es, clock, g1.trans h1, g2.trans h2, h3.mv mv h0 fun i hi => hr i (by have := hi k rfl; rw [(ment_mix [] m k).1] at this; exact this), h4⟩
theorem L.men {x y : Operand} (hT : Mp P T kt et kd (.slice none 0 0)) (hM : MapW r s N q t U b m (some k)) (htf : ∀ i, fam N q i ≠ t) (ht0 : 0 < t) (hw : Wt ops e g) (hx : Env.ev e x = some (.map (some b))) (hy : Env.ev e y = some (.int .i64 k)) (hd : Nat.blt d n = true)
    (h : ∀ v (st : Int) s', Mv (One t) s s' → MapE r s' N q t U b m k st → L P Q n ops os ((d, .tuple #[v, .int .i64 st]) :: e) s'.w) : L P Q n ops (⟨some d, .mapEntry T x y, ty, pos, af, g⟩ :: os) e s.w := by
  obtain ⟨es, clock, h1, h2, h3⟩ := hM.is
  have hf := hT.find h3.keys k s.w
  cases hh : mhas m k with
  | true =>
    have hlt := (mix_lt m k).2 hh
    have hel : mix m k < es.length := by rw [h3.len]; exact hlt
    have hkey : es[mix m k].key = .int .i64 k := by
      rw [h3.keys.at (mix m k) hel (by simpa using hlt), List.getElem_map, mix_key m k hlt]
    rw [List.getElem?_eq_getElem hel, Option.map_some] at hf
    have hsame : es.set (mix m k) { es[mix m k] with key := .int .i64 k } = es := by
      apply List.ext_getElem?
      intro j
      by_cases hj : mix m k = j
      · subst hj
        rw [List.getElem?_set_self hel, List.getElem?_eq_getElem hel, ← hkey]
      · rw [List.getElem?_set_ne hj]
    have hset := setMap_mv (s := s) (t := t) (es' := es) (clock' := clock) h1 h2
    refine L.val hw hd (v := .tuple #[es[mix m k].val, .int .i64 (es[mix m k].born : Int)]) (w' := { s.w with heap := s.w.heap.setIfInBounds b (.map es.toArray clock) }) (fun ac ha => ?_) (h _ _ _ hset.1 ?_)
    · simp [execOp, ha.ev hx, ha.ev hy, Instr.mapEntry, run_underlying hT.und, gobj h1, hT.check, hf, hkey, hel, stays_int, sobj _ h1, goInt]
      rw [lmod _ (List.getElem?_eq_getElem hel), hsame]
    · have hm : ment [] m k = m := if_pos hh
      refine ⟨es, clock, hset.2, h2, ?_, _, List.getElem?_eq_getElem hel, rfl, hkey⟩
      rw [hm]
      exact h3.mv hset.1 (fun e0 => by have : 0 = t := e0; omega) fun i _ e0 => htf i e0
  | false =>
    have hge : ¬ mix m k < m.length := fun h => by rw [(mix_lt m k).1 h] at hh; cases hh
    have hixl : mix m k = m.length := by have := mix_le m k; omega
    rw [List.getElem?_eq_none (by rw [h3.len]; omega), Option.map_none] at hf
    have hset := setMap_mv (s := s) (t := t) (es' := es ++ [(⟨.int .i64 k, .slice none 0 0, clock⟩ : MapEntry)]) (clock' := clock + 1) h1 h2
    refine L.val hw hd (v := .tuple #[.slice none 0 0, .int .i64 (clock : Int)]) (w' := { s.w with heap := s.w.heap.setIfInBounds b (.map (es ++ [(⟨.int .i64 k, .slice none 0 0, clock⟩ : MapEntry)]).toArray (clock + 1)) }) (fun ac ha => ?_) (h _ _ _ hset.1 ?_)
    · simp [execOp, ha.ev hx, ha.ev hy, Instr.mapEntry, run_underlying hT.und, gobj h1, hT.check, hf, hT.zero, sobj _ h1, goInt]
    · have hm : ment [] m k = m ++ [(k, [])] := if_neg (by rw [hh]; simp)
      refine ⟨_, clock + 1, hset.2, h2, ?_, ⟨.int .i64 k, .slice none 0 0, clock⟩, ?_, rfl, rfl⟩
      · rw [hm]
        have hent := h3.push hh (zs := []) (e' := ⟨.int .i64 k, .slice none 0 0, clock⟩) rfl rfl (.inl rfl)
        exact hent.mv hset.1 (fun e0 => by have : 0 = t := e0; omega) fun i _ e0 => htf i e0
      · rw [hixl, ← h3.len, List.getElem?_append_right (Nat.le_refl _), Nat.sub_self]
        rfl
theorem L.mes {x y z : Operand} {st : Int} (hM : MapE r s N q t U b m k st) (hR : RowT r s (fam N q (mix m k)) U a cap zs) (htf : ∀ i, fam N q i ≠ t) (ht0 : 0 < t) (hw : Wt ops e g) (hx : Env.ev e x = some (.map (some b))) (hy : Env.ev e y = some (.int .i64 st)) (hz : Env.ev e z = some (.slice a zs.length cap))
    (h : ∀ s', Mv (One t) s s' → MapW r s' N q t U b (mput m k zs) none → L P Q n ops os e s'.w) : L P Q n ops (⟨none, .entryStore T x y z, ty, pos, af, g⟩ :: os) e s.w := by
  obtain ⟨es, clock, h1, h2, h3, e0, h4, h5, h6⟩ := hM.is
  obtain ⟨hi, he⟩ := List.getElem?_eq_some_iff.1 h4
  have hfind : es.toArray.findIdx? (fun e => (e.born : Int) == st) = some (mix m k) := by
    rw [List.findIdx?_toArray, List.findIdx?_eq_some_iff_getElem]
    refine ⟨hi, by rw [he, h5]; simp, fun j hj hc => ?_⟩
    have hjl : j < es.length := by omega
    have : (es[j].born : Int) = e0.born := by rw [h5]; simpa using hc
    have := h3.inj j (mix m k) es[j] e0 (List.getElem?_eq_getElem hjl) h4 (by omega)
    omega
  have hset := setMap_mv (s := s) (t := t) (es' := es.set (mix m k) { e0 with val := .slice a zs.length cap }) (clock' := clock) h1 h2
  refine L.unit hw (w' := { s.w with heap := s.w.heap.setIfInBounds b (.map (es.set (mix m k) { e0 with val := .slice a zs.length cap }).toArray clock) }) (fun ac ha => ?_) (h _ hset.1 ?_)
  · simp [execOp, ha.ev hx, ha.ev hy, ha.ev hz, Instr.entryStore, gobj h1, hfind, sobj _ h1, asInt, asIntOf]
    rw [lmod _ h4]
  · obtain ⟨g1, g2⟩ := ment_mix ([] : List α) m k
    have hent := h3.set (zs := zs) (a := a) (cap := cap) g2 (e := e0) (e' := { e0 with val := .slice a zs.length cap }) (by rw [g1]; exact h4) h6 rfl rfl (by rw [g1]; exact hR)
    rw [g1, ment_put] at hent
    exact ⟨_, _, hset.2, h2, hent.mv hset.1 (fun e0 => by have : 0 = t := e0; omega) fun i _ e0 => htf i e0⟩
end
end Go.Proofs.Ytkkemchihllklaa
