/- GenerateMakes returns true for all arguments, and leaves its arguments as they were. No conditions. -/
import Derived.Test.YtkkemchihllklaaProg
import Derived.Test.YtkkemchihllklaaQMak5
namespace Go.Proofs.Ytkkemchihllklaa
open Go Go.RowKit

/-- A loop with an invariant. -/
theorem iter_inv {S O : Type} {f : S → Option (S ⊕ O)} (P : Nat → S → Prop) (Q : O → Prop) : ∀ (n i : Nat), n < i + 18446744073709551616 → (∀ i s, i < n → P i s → (∃ s', f s = some (.inl s') ∧ P (i + 1) s') ∨ ∃ o, f s = some (.inr o) ∧ Q o) → (∀ s, P n s → ∃ o, f s = some (.inr o) ∧ Q o) → i ≤ n →
    ∀ s, P i s → ∃ o, iter f s = some o ∧ Q o := by
  have key : ∀ (n : Nat), (∀ i s, i < n → P i s → (∃ s', f s = some (.inl s') ∧ P (i + 1) s') ∨ ∃ o, f s = some (.inr o) ∧ Q o) → (∀ s, P n s → ∃ o, f s = some (.inr o) ∧ Q o) → ∀ (j i : Nat), i + j = n → ∀ s, P i s → ∃ o, iterF f (j + 1) s = some o ∧ Q o := by
    intro n step fin j
    induction j with
    | zero =>
      intro i hi s h
      obtain rfl : i = n := by omega
      obtain ⟨o, h1, h2⟩ := fin s h
      exact ⟨o, by rw [iterF_succ, h1], h2⟩
    | succ j ih =>
      intro i hi s h
      rcases step i s (by omega) h with ⟨s', h1, h2⟩ | ⟨o, h1, h2⟩
      · obtain ⟨o, h3, h4⟩ := ih (i + 1) (by omega) s' h2
        exact ⟨o, by rw [iterF_succ, h1]; exact h3, h4⟩
      · exact ⟨o, by rw [iterF_succ, h1], h2⟩
  intro n i hn step fin hi s h
  obtain ⟨o, h1, h2⟩ := key n step fin (n - i) i (by omega) s h
  exact ⟨o, iter_of (by omega) h1, h2⟩
/-- A loop over a list that may stop ahead of its end. -/
def scanL {α S O : Type} (g : Nat → S → α → S ⊕ O) (fin : S → O) : Nat → List α → S → O
  | _, [], s => fin s
  | i, x :: xs, s => match g i s x with
    | .inl s' => scanL g fin (i + 1) xs s'
    | .inr o => o
theorem iter_scan {α S T O : Type} {xs : List α} {f : T → Option (T ⊕ O)} (mk : Nat → S → T) (g : Nat → S → α → S ⊕ O) (fin : S → O) (P : Nat → S → Prop) (hl : xs.length < 18446744073709551615)
    (step : ∀ i (h : i < xs.length) s, P i s → (∀ s', g i s xs[i] = .inl s' → f (mk i s) = some (.inl (mk (i + 1) s')) ∧ P (i + 1) s') ∧ ∀ o, g i s xs[i] = .inr o → f (mk i s) = some (.inr o))
    (last : ∀ s, P xs.length s → f (mk xs.length s) = some (.inr (fin s))) {s : S} (h0 : P 0 s) : iter f (mk 0 s) = some (scanL g fin 0 xs s) := by
  have key : ∀ (j i : Nat), i + j = xs.length → ∀ s, P i s → iterF f (j + 1) (mk i s) = some (scanL g fin i (xs.drop i) s) := by
    intro j
    induction j with
    | zero =>
      intro i hi s h
      obtain rfl : i = xs.length := by omega
      rw [iterF_succ, last s h, List.drop_length]
      rfl
    | succ j ih =>
      intro i hi s h
      have hlt : i < xs.length := by omega
      rw [List.drop_eq_getElem_cons hlt, scanL, iterF_succ]
      cases hg : g i s xs[i] with
      | inl s' =>
        obtain ⟨h1, h2⟩ := (step i hlt s h).1 s' hg
        rw [h1]
        exact ih (i + 1) (by omega) s' h2
      | inr o => rw [(step i hlt s h).2 o hg]
  have := key xs.length 0 (by omega) s h0
  rw [List.drop_zero] at this
  exact iter_of (by omega) this
/-- A loop over a list that folds it. -/
theorem iter_foldl {α S T O : Type} {xs : List α} {f : T → Option (T ⊕ O)} (mk : Nat → S → T) (g : S → α → S) (fin : S → O) (P : Nat → S → Prop) (hl : xs.length < 18446744073709551615)
    (step : ∀ i (h : i < xs.length) s, P i s → f (mk i s) = some (.inl (mk (i + 1) (g s xs[i]))) ∧ P (i + 1) (g s xs[i]))
    (last : ∀ s, P xs.length s → f (mk xs.length s) = some (.inr (fin s))) {s : S} (h0 : P 0 s) : iter f (mk 0 s) = some (fin (xs.foldl g s)) ∧ P xs.length (xs.foldl g s) := by
  have e : ∀ (xs : List α) (i : Nat) (s : S), scanL (fun _ s x => (Sum.inl (g s x) : S ⊕ O)) fin i xs s = fin (xs.foldl g s) := by
    intro xs
    induction xs with
    | nil => intro i s; rfl
    | cons x xs ih => intro i s; rw [scanL, List.foldl_cons]; exact ih _ _
  refine ⟨?_, ?_⟩
  · rw [iter_scan (O := O) (xs := xs) (f := f) mk (fun _ s x => .inl (g s x)) fin P hl (fun i h s hp => ⟨fun s' he => by cases he; exact step i h s hp, fun o he => by cases he⟩) last h0, e]
  · have key : ∀ (j i : Nat), i + j = xs.length → ∀ s, P i s → P xs.length ((xs.drop i).foldl g s) := by
      intro j
      induction j with
      | zero =>
        intro i hi s h
        obtain rfl : i = xs.length := by omega
        rw [List.drop_length]; exact h
      | succ j ih =>
        intro i hi s h
        have hlt : i < xs.length := by omega
        rw [List.drop_eq_getElem_cons hlt, List.foldl_cons]
        exact ih (i + 1) (by omega) _ (step i hlt s h).2
    exact key xs.length 0 (by omega) s h0
theorem nxt {i : Nat} (h : i < 4611686018427387904) : W ((i : Int) + 1) = ((i + 1 : Nat) : Int) := by rw [show (i : Int) + 1 = ((i + 1 : Nat) : Int) by omega, W_nat (by omega)]
theorem ct_lt {i n : Nat} (h : i < n) : decide ((i : Int) < (n : Int)) = true := by simp; omega
theorem ct_ge {n : Nat} : ¬ decide ((n : Int) < (n : Int)) = true := by simp

/-- The events of a set. -/
theorem events_ex (p : Int) : ∃ ev, m_overseerlaw03_Set_Events p = some ev ∧ Inc ev ∧ (∀ x ∈ ev, 0 ≤ x ∧ x < 5) ∧ ev.length ≤ 5 := by
  obtain ⟨o, h1, h2⟩ := iter_inv (f := m_overseerlaw03_Set_Events_l1 p) (fun i s => s.1 = (i : Int) ∧ Inc s.2 ∧ (∀ x ∈ s.2, 0 ≤ x ∧ x < (i : Int)) ∧ s.2.length ≤ i) (fun o => Inc o ∧ (∀ x ∈ o, 0 ≤ x ∧ x < 5) ∧ o.length ≤ 5) 5 0 (by omega) (fun i s hi ⟨e1, e2, e3, e4⟩ => by
      obtain ⟨s1, s2⟩ := s
      dsimp only at e1 e2 e3 e4
      subst e1
      have hj : ∀ l : List Int, m_overseerlaw03_Set_Events_j1 ((i : Int), s2) l = some (.inl (((i + 1 : Nat) : Int), l)) := fun l => by
        rw [m_overseerlaw03_Set_Events_j1]; dsimp only; rw [nxt (by omega)]
      left
      rw [m_overseerlaw03_Set_Events_l1]
      dsimp only
      rw [if_pos (by simp; omega), show ng (i : Int) = some () from if_neg (by omega), Option.bind_some]
      split
      · rw [app_eq (by simp; omega), Option.bind_some, hj]
        refine ⟨_, rfl, rfl, ?_, fun x hx => ?_, by simp; omega⟩
        · unfold Inc at e2 ⊢
          rw [List.pairwise_append]
          exact ⟨e2, List.pairwise_singleton .., fun a ha b hb => by rw [List.mem_singleton.1 hb]; exact (e3 a ha).2⟩
        · dsimp only at hx
          rcases List.mem_append.1 hx with h | h
          · have := e3 x h; omega
          · rw [List.mem_singleton.1 h]; omega
      · rw [hj]
        exact ⟨_, rfl, rfl, e2, fun x hx => by have := e3 x hx; omega, by dsimp only; omega⟩) (fun s ⟨e1, e2, e3, e4⟩ => by
      obtain ⟨s1, s2⟩ := s
      dsimp only at e1 e2 e3 e4
      subst e1
      refine ⟨s2, ?_, e2, e3, e4⟩
      rw [m_overseerlaw03_Set_Events_l1]
      dsimp only
      rw [if_neg (by simp)]) (by omega) (0, []) ⟨rfl, List.Pairwise.nil, fun x hx => (by cases hx), by simp⟩
  exact ⟨o, by rw [m_overseerlaw03_Set_Events, h1]; rfl, h2⟩

theorem rempty_eq {xs : List Int} (h : xs.length ≤ 1000000) : m_overseerref03_Empty xs = some (xs, 0, [], []) := by
  rw [m_overseerref03_Empty, app_eq (by simp; omega)]; rfl
theorem rstep_eq {a : Aut} {s : Nat} {e : Int} (hl : a.es.length < 4611686018427387904) (ht : ∀ x ∈ a.es, 0 ≤ x.t) : m_overseerref03_Step (autP a) (s : Int) e = some (stF a.es s e) := by
  rw [← step_eq hl ht]
  have hb : m_overseerref03_Step_l1 (autP a) (s : Int) e = m_overseerlaw53_step_l1 (autP a) (s : Int) e := by
    funext st
    rw [m_overseerref03_Step_l1, m_overseerlaw53_step_l1]
    split
    · cases hx : idx (autP a).2.2.2 st with
      | none => rfl
      | some x =>
        rw [Option.bind_some, Option.bind_some, Option.bind_some, Option.bind_some]
        cases h1 : x.1 == (s : Int) <;> cases h2 : x.2.1 == e <;> simp
    · rfl
  rw [m_overseerref03_Step, m_overseerlaw53_step, hb]
theorem rhas_eq {xs : List Int} {x : Int} (hl : xs.length < 4611686018427387904) : m_overseerref03_has xs x = some (hasB xs x) := by
  have h := iter_scan (f := m_overseerref03_has_l1 xs x) (xs := xs) (fun i (_ : Unit) => (i : Int)) (fun _ _ y => if y == x then .inr (.inr ()) else .inl ()) (fun _ => .inl ()) (fun _ _ => True) (by omega) (fun i h _ _ => by
      rw [m_overseerref03_has_l1, if_pos (ct_lt h), idx_at h, Option.bind_some, nxt (by omega)]
      refine ⟨fun s' e => ?_, fun o e => ?_⟩
      · split at e
        · cases e
        · rename_i h1; rw [if_neg h1]; exact ⟨rfl, trivial⟩
      · split at e
        · rename_i h1; rw [if_pos h1]; cases e; rfl
        · cases e) (fun _ _ => by rw [m_overseerref03_has_l1, if_neg ct_ge]) (s := ()) trivial
  have key : ∀ (ys : List Int) (i : Nat), scanL (O := Unit ⊕ Unit) (fun _ (_ : Unit) y => if y == x then .inr (.inr ()) else .inl ()) (fun _ => .inl ()) i ys () = if hasB ys x = true then .inr () else .inl () := by
    intro ys
    induction ys with
    | nil => intro i; rfl
    | cons y ys ih =>
      intro i
      rw [scanL]
      by_cases hy : y = x
      · subst hy
        rw [if_pos (show (y == y) = true by simp), if_pos (hasB_true.2 List.mem_cons_self)]
      · rw [if_neg (show ¬ (y == x) = true by simpa using hy)]
        dsimp only
        rw [ih]
        have : hasB (y :: ys) x = hasB ys x := by
          rw [Bool.eq_iff_iff, hasB_true, hasB_true, List.mem_cons]
          exact ⟨fun h => h.resolve_left (fun e => hy e.symm), .inr⟩
        rw [this]
  rw [m_overseerref03_has, show iter (m_overseerref03_has_l1 xs x) 0 = _ from h, Option.bind_some, key]
  cases hasB xs x <;> rfl
theorem rindex_eq {xs : List Int} {x : Int} (hl : xs.length < 4611686018427387904) : m_overseerref03_index xs x = some (idxI xs x) := by
  have h := iter_scan (f := m_overseerref03_index_l1 xs x) (xs := xs) (fun i (_ : Unit) => (i : Int)) (fun i _ y => if y == x then .inr (.inr (i : Int)) else .inl ()) (fun _ => .inl ()) (fun _ _ => True) (by omega) (fun i h _ _ => by
      rw [m_overseerref03_index_l1, if_pos (ct_lt h), idx_at h, Option.bind_some, nxt (by omega)]
      refine ⟨fun s' e => ?_, fun o e => ?_⟩
      · split at e
        · cases e
        · rename_i h1; rw [if_neg h1]; exact ⟨rfl, trivial⟩
      · split at e
        · rename_i h1; rw [if_pos h1]; cases e; rfl
        · cases e) (fun _ _ => by rw [m_overseerref03_index_l1, if_neg ct_ge]) (s := ()) trivial
  have key : ∀ (ys : List Int) (i : Nat), scanL (O := Unit ⊕ Int) (fun i (_ : Unit) y => if y == x then .inr (.inr (i : Int)) else .inl ()) (fun _ => .inl ()) i ys () = if x ∈ ys then .inr (i + ys.idxOf x : Nat) else .inl () := by
    intro ys
    induction ys with
    | nil => intro i; rfl
    | cons y ys ih =>
      intro i
      rw [scanL]
      by_cases hy : y = x
      · subst hy
        rw [if_pos (show (y == y) = true by simp), if_pos List.mem_cons_self]
        simp
      · rw [if_neg (show ¬ (y == x) = true by simpa using hy)]
        dsimp only
        rw [ih]
        have hi : (y :: ys).idxOf x = ys.idxOf x + 1 := by
          rw [List.idxOf_cons, show (y == x) = false by simpa using hy]; rfl
        by_cases hm : x ∈ ys
        · rw [if_pos hm, if_pos (List.mem_cons_of_mem _ hm), hi]
          congr 2; omega
        · rw [if_neg hm, if_neg (fun h => (List.mem_cons.1 h).elim (fun e => hy e.symm) hm)]
  rw [m_overseerref03_index, show iter (m_overseerref03_index_l1 xs x) 0 = _ from h, Option.bind_some, key, idxI]
  by_cases hm : x ∈ xs
  · rw [if_pos hm, if_pos hm]; simp
  · rw [if_neg hm, if_neg hm]
end Go.Proofs.Ytkkemchihllklaa

namespace Go.Proofs.Ytkkemchihllklaa
open Go Go.RowKit
theorem cf60 : Cf Try.prog 60 := Cf.mk Try.func60 (by kernel_rfl) (by kernel_rfl)
theorem zz3 : (Try.prog.info? 3).bind (·.zero) = some (.int .i64 0) := by kernel_rfl
noncomputable def m_slices_DeleteFunc_int_j1 (st26 : Int × Int × List Int) (n38 : Int) (l39 : List Int) : Option ((Int × Int × List Int) ⊕ (Int × List Int)) :=
  some (.inl (W (st26.1 + 1), n38, l39))
noncomputable def m_slices_DeleteFunc_int_l1 (p1 : Int → Option Bool) (st26 : Int × Int × List Int) : Option ((Int × Int × List Int) ⊕ (Int × List Int)) :=
  if decide (st26.1 < (st26.2.2.length : Int)) then
    (idx st26.2.2 st26.1).bind fun x42 =>
    (p1 x42).bind fun r44 =>
    if (!r44) then
      (idx st26.2.2 st26.2.1).bind fun x47 =>
      (upd st26.2.2 st26.2.1 x42).bind fun x49 =>
      m_slices_DeleteFunc_int_j1 st26 (W (st26.2.1 + 1)) x49
    else
      m_slices_DeleteFunc_int_j1 st26 st26.2.1 st26.2.2
  else
    some (.inr st26.2)
/-- What slices.DeleteFunc<<>int,int> computes. -/
noncomputable def m_slices_DeleteFunc_int (p0 : List Int) (p1 : Int → Option Bool) : Option (List Int × List Int) :=
  (m_slices_IndexFunc_int p0 p1).bind fun r3 =>
  if (r3 == (-1)) then
    some (p0, p0)
  else
    (iter (m_slices_DeleteFunc_int_l1 p1) ((W (r3 + 1)), r3, p0)).bind fun o26 =>
    (slc o26.2 o26.1 (o26.2.length : Int)).bind fun x31 =>
    (clrG o26.2 o26.1 (0 : Int)).bind fun x34 =>
    (slc (o26.2.take o26.1.toNat ++ List.replicate (o26.2.length - o26.1.toNat) (0 : Int)) 0 o26.1).bind fun x35 =>
    some (x35, (o26.2.take o26.1.toNat ++ List.replicate (o26.2.length - o26.1.toNat) (0 : Int)))
set_option maxRecDepth 100000 in
set_option maxHeartbeats 8000000 in
theorem m_slices_DeleteFunc_int_c {s : Sig} {p0 : List Int} {p1 : Int → Option Bool} {t0 : Nat} {a1 : Option Addr} {c1 : Nat} {vp1 : Value} {r : List Int × List Int} (zt0 : 0 < t0) (h1 : RowT (rK .i64) s t0 3 a1 c1 p0) (hp1 : FV1 Try.prog s vp1 (fun (x0 : Int) => [.int .i64 x0]) (fun (r : Bool) => .bool r) p1) (hm : m_slices_DeleteFunc_int p0 p1 = some r) :
    Calls Try.prog 48 #[.slice a1 p0.length c1, vp1] s.w (RetS (One t0) s fun v s' => ∃ (a2 : Option Addr) (c2 : Nat), v = .slice a2 r.1.length c2 ∧ RowT (rK .i64) s' t0 3 a2 c2 r.1 ∧ RowT (rK .i64) s' t0 3 a1 c1 r.2) := by
 unfold m_slices_DeleteFunc_int at hm
 obtain ⟨N, hN, hNb, lt0, -⟩ := s.freshL [t0]
 have m0 : Mv (Up N (One t0)) s s := Mv.refl _ _
 refine E.entry Try.func48 rfl Try.ntmps48 rfl rfl (E.seq (E.reg (L.as Wt.no rfl rfl (L.nil (X.seqN (E.seq (E.reg (L.mv Wt.no rfl rfl (L.mv Wt.no rfl rfl ?_)))))))))
 obtain ⟨r3, er3, hm⟩ := bindS hm
 refine L.ca cf60 rfl rfl Wt.no rfl (Calls.lendG (s0 := (Sig.fz t0 (Sig.drop N s))) (s := s) rfl (m_slices_IndexFunc_int_c (s := (Sig.fz t0 (Sig.drop N s))) (p0 := p0) (p1 := p1) ((h1.dropV lt0).fz (Ne.symm (tne0V zt0))) (hp1.mono ((Sig.drop_le N _).trans ((Sig.fz_mv t0 _).le (tgz zt0)))) er3) (fun v s' h => h)) rfl ?_
 rintro _ s4 m5 rfl
 replace m0 := m0.trans m5.no
 replace h1 := h1.mv m5 no_No no_No
 replace hp1 := hp1.mono (m5.le no_No)
 refine L.as Wt.no rfl rfl (L.nil (X.seqN (E.seq (E.seq (E.reg (L.mv Wt.no rfl rfl (L.bi Wt.no rfl rfl rfl rfl (L.nil (X.seqN ?_)))))))))
 rcases ifS hm with ⟨hc, hm⟩ | ⟨hc, hm⟩
 ·refine E.cT rfl hc (E.seq (E.reg (L.mv Wt.no rfl rfl (L.as Wt.no rfl rfl (L.nil (X.seqN (E.ret (X.seqR ?_))))))))
  obtain rfl := Option.some.inj hm
  exact X.rt (.inl rfl) Try.results48 (Rs.tmp rfl Rs.nil) rfl ⟨_, (s4).ren N (fun _ => 0), rfl, rfl, m0.ren hNb, ⟨a1, c1, rfl, (h1.renV hN lt0), (h1.renV hN lt0)⟩⟩
 ·refine E.cF rfl hc (E.skip (X.seqN (E.seq (E.seq (E.reg (L.mv Wt.no rfl rfl (L.bi Wt.no rfl rfl rfl rfl (L.as Wt.no rfl rfl (L.nil (X.seqN (E.block ?_)))))))))))
  obtain ⟨o26, eo26, hm⟩ := bindS hm
  refine E.cut (x := .exit 0) (fun e w => ∃ (s30 : Sig), Mv (Up N (One t0)) s s30 ∧ RowT (rK .i64) s30 t0 3 a1 c1 o26.2 ∧ e = [(5, .int .i64 o26.1), (0, .slice a1 o26.2.length c1)] ∧ w = s30.w) ?_ ?_
  ·rintro _ _ ⟨s30, m0, h1, rfl, rfl⟩
   refine X.blkE (X.seqN (E.seq (E.reg (L.mv Wt.no rfl rfl (L.mv Wt.no rfl rfl ?_)))))
   obtain ⟨x31, ex31, hm⟩ := bindS hm
   refine L.slo (r := (rK .i64)) sl23 h1 Wt.no rfl rfl ex31 rfl ?_
   obtain ⟨x34, ex34, hm⟩ := bindS hm
   obtain ⟨kx34, rfl⟩ := clr_some ex34
   refine L.clr (r := (rK .i64)) (lo := o26.1.toNat) (z0 := (0 : Int)) sl23 zz3 rfl rfl (fun _ => rfl) kx34 h1 (tgpV zt0) Wt.no rfl fun s32 m33 h1 => ?_
   have elx34 : (o26.2.take o26.1.toNat ++ List.replicate (o26.2.length - o26.1.toNat) (0 : Int)).length = o26.2.length := clr_len kx34
   replace m0 := m0.trans (m33.one (.inr rfl))
   refine L.reval (d := 0) rfl elx34 (L.nil (X.seqN (E.seq (E.reg (L.mv Wt.no rfl rfl (L.mv Wt.no rfl rfl ?_))))))
   obtain ⟨x35, ex35, hm⟩ := bindS hm
   refine L.sho (r := (rK .i64)) sl23 h1 Wt.no rfl rfl ex35 rfl fun a36 c36 h36 => L.as Wt.no rfl rfl (L.nil (X.seqN (E.ret ?_)))
   obtain rfl := Option.some.inj hm
   exact X.rt (.inl rfl) Try.results48 (Rs.tmp rfl Rs.nil) rfl ⟨_, (s32).ren N (fun _ => 0), rfl, rfl, m0.ren hNb, ⟨a36, c36, rfl, (h36.renV hN lt0), (h1.renV hN lt0)⟩⟩
  intro K37
  refine E.iter (fun (st26 : Int × Int × List Int) (e : List (Nat × Value)) (w : World) => ∃ (s29 : Sig), Mv (Up N (One t0)) s s29 ∧ RowT (rK .i64) s29 t0 3 a1 c1 st26.2.2 ∧ FV1 Try.prog s29 vp1 (fun (x0 : Int) => [.int .i64 x0]) (fun (r : Bool) => .bool r) p1 ∧ e = [(6, .int .i64 st26.1), (5, .int .i64 st26.2.1), (0, .slice a1 st26.2.2.length c1), (1, vp1)] ∧ w = s29.w) eo26 ⟨s4, m0, h1, hp1, rfl, rfl⟩ (Sub.rf rfl) ?_
  rintro st26 res26 hm ih26 ho26 _ _ ⟨s29, m0, h1, hp1, rfl, rfl⟩
  unfold m_slices_DeleteFunc_int_l1 at hm
  refine E.seq (E.seq (E.reg (L.mv Wt.no rfl rfl (L.mv Wt.no rfl rfl (L.len sl23 Wt.no rfl rfl (L.bi Wt.no rfl rfl rfl rfl (L.nil (X.seqN ?_))))))))
  rcases ifS hm with ⟨hc, hm⟩ | ⟨hc, hm⟩
  ·refine E.cT rfl hc (E.skip (X.seqN (E.seqJ (fun e w => ∃ (s40 : Sig) (n38 : Int) (l39 : List Int), m_slices_DeleteFunc_int_j1 st26 n38 l39 = some res26 ∧ Mv (Up N (One t0)) s s40 ∧ RowT (rK .i64) s40 t0 3 a1 c1 l39 ∧ FV1 Try.prog s40 vp1 (fun (x0 : Int) => [.int .i64 x0]) (fun (r : Bool) => .bool r) p1 ∧ e = [(5, .int .i64 n38), (0, .slice a1 l39.length c1), (6, .int .i64 st26.1), (1, vp1)] ∧ w = s40.w) ?_ ?_)))
   ·rintro _ _ ⟨s40, n38, l39, hm, m0, h1, hp1, rfl, rfl⟩
    unfold m_slices_DeleteFunc_int_j1 at hm
    exact E.reg (L.mv Wt.no rfl rfl (L.bi Wt.no rfl rfl rfl rfl (L.as Wt.no rfl rfl (L.nil (X.sub (ih26 _ (Option.some.inj hm).symm _ _ ⟨s40, m0, h1, hp1, rfl, rfl⟩) (Sub.rf rfl))))))
   ·intro Jj41
    refine E.block (E.seq (E.reg (L.mv Wt.no rfl rfl (L.mv Wt.no rfl rfl ?_))))
    obtain ⟨x42, ex42, hm⟩ := bindS hm
    refine L.ir (r := (rK .i64)) sl23 h1 Wt.no rfl rfl ex42 rfl fun b43 o43 cc43 me43 rd43 sp43 => ?_
    obtain rfl := rd43
    refine L.ld (j := 0) me43 nag3 Wt.no rfl rfl rfl rfl (L.as Wt.no rfl rfl (L.nil (X.seqN (E.seq (E.reg (L.mv Wt.no rfl rfl (L.mv Wt.no rfl rfl ?_)))))))
    obtain ⟨r44, er44, hm⟩ := bindS hm
    refine L.fv1 (y := x42) hp1 rfl rfl Wt.no rfl rfl er44 rfl fun s45 m46 => ?_
    replace m0 := m0.trans m46.no
    replace h1 := h1.mv m46 no_No no_No
    replace hp1 := hp1.mono (m46.le no_No)
    refine L.not Wt.no rfl rfl (L.nil (X.seqN ?_))
    rcases ifS hm with ⟨hc, hm⟩ | ⟨hc, hm⟩
    ·refine E.cT rfl hc (E.seq (E.reg (L.mv Wt.no rfl rfl (L.mv Wt.no rfl rfl (L.mv Wt.no rfl rfl ?_)))))
     obtain ⟨x47, ex47, hm⟩ := bindS hm
     refine L.ir (r := (rK .i64)) sl23 h1 Wt.no rfl rfl ex47 rfl fun b48 o48 cc48 me48 rd48 sp48 => ?_
     obtain rfl := rd48
     obtain ⟨x49, ex49, hm⟩ := bindS hm
     have elx49 := upd_len ex49
     refine L.su (fo := 0) (c := [.int .i64 x42]) (z := x42) h1 sp48 ex47 ex49 (tgpV zt0) nag3.sz Wt.no rfl rfl rfl rfl rfl rfl (fun c0 hc0 => by obtain rfl := hc0; exact rfl) fun s50 m51 h1 => ?_
     replace m0 := m0.trans (m51.one (.inr rfl))
     replace hp1 := hp1.mono (m51.le (tgz zt0))
     exact L.reval (d := 0) rfl elx49 (L.nil (X.seqN (E.reg (L.mv Wt.no rfl rfl (L.bi Wt.no rfl rfl rfl rfl (L.as Wt.no rfl rfl (L.nil (X.blkN (X.sub (Jj41 _ _ ⟨s50, (W (st26.2.1 + 1)), x49, hm, m0, h1, hp1, rfl, rfl⟩) (Sub.rf rfl))))))))))
    ·exact E.cF rfl hc (E.skip (X.blkN (X.sub (Jj41 _ _ ⟨s45, st26.2.1, st26.2.2, hm, m0, h1, hp1, rfl, rfl⟩) (Sub.rf rfl))))
  ·refine E.cF rfl hc (E.exit (X.seqX (X.seqX ?_)))
   have hx := ho26 _ (Option.some.inj hm).symm
   subst hx
   exact X.sub (K37 _ _ ⟨s29, m0, h1, rfl, rfl⟩) (Sub.rf rfl)

theorem ag49 : Ag Try.prog 49 27 := Ag.mk' Try.underlying49 rfl (by kernel_rfl)
theorem cf46 : Cf Try.prog 46 := Cf.mk Try.func46 (by kernel_rfl) (by kernel_rfl)
theorem cf47 : Cf Try.prog 47 := Cf.mk Try.func47 (by kernel_rfl) (by kernel_rfl)
theorem cf48 : Cf Try.prog 48 := Cf.mk Try.func48 (by kernel_rfl) (by kernel_rfl)
theorem cf49 : Cf Try.prog 49 := Cf.mk Try.func49 (by kernel_rfl) (by kernel_rfl)
theorem fa51_0 : FA Try.prog 51 0 0 := FA.mk Try.underlying51 rfl rfl ⟨1, by decide, by kernel_rfl⟩
theorem fa51_1 : FA Try.prog 51 1 1 := FA.mk Try.underlying51 rfl rfl ⟨27, by decide, by kernel_rfl⟩
theorem fa51_2 : FA Try.prog 51 2 28 := FA.mk Try.underlying51 rfl rfl ⟨1, by decide, by kernel_rfl⟩
theorem nag45 : NAg Try.prog 45 := NAg.mk' Try.underlying45 rfl (by kernel_rfl)
/-- What overseerlaw53.Make computes. -/
noncomputable def m_overseerlaw53_Make (p0 : Int × (Int × Int × ((Int × Int × Int × Int × Int) × (Int × Int × Int × Int × Int) × (Int × Int × Int × Int × Int) × (Int × Int × Int × Int × Int) × (Int × Int × Int × Int × Int))) × Int) : Option ((List Int × Int × List Int × (List (Int × Int × Int))) × List Int) :=
  (m_overseerlaw03_Set_Events p0.1).bind fun r16 =>
  (m_overseerlaw03_Make r16 ((p0.2.1.1.tmod 5), p0.2.1.2)).bind fun r23 =>
  (m_overseerlaw03_Set_Events p0.2.2).bind fun r45 =>
  (m_slices_DeleteFunc_int r45 (m_overseerlaw53_Make_1 r23)).bind fun r52 =>
  (lenEq r52.2 r45).bind fun _ =>
  some (r23, r52.1)
set_option maxRecDepth 100000 in
set_option maxHeartbeats 8000000 in
theorem m_overseerlaw53_Make_c {s : Sig} {p0 : Int × (Int × Int × ((Int × Int × Int × Int × Int) × (Int × Int × Int × Int × Int) × (Int × Int × Int × Int × Int) × (Int × Int × Int × Int × Int) × (Int × Int × Int × Int × Int))) × Int} {u3 : Nat} {r : (List Int × Int × List Int × (List (Int × Int × Int))) × List Int} (hm : m_overseerlaw53_Make p0 = some r) :
    Calls Try.prog 16 #[.agg #[.int .u8 p0.1, .int .u8 p0.2.1.1, .int .u8 p0.2.1.2.1, .int .u8 p0.2.1.2.2.1.1, .int .u8 p0.2.1.2.2.1.2.1, .int .u8 p0.2.1.2.2.1.2.2.1, .int .u8 p0.2.1.2.2.1.2.2.2.1, .int .u8 p0.2.1.2.2.1.2.2.2.2, .int .u8 p0.2.1.2.2.2.1.1, .int .u8 p0.2.1.2.2.2.1.2.1, .int .u8 p0.2.1.2.2.2.1.2.2.1, .int .u8 p0.2.1.2.2.2.1.2.2.2.1, .int .u8 p0.2.1.2.2.2.1.2.2.2.2, .int .u8 p0.2.1.2.2.2.2.1.1, .int .u8 p0.2.1.2.2.2.2.1.2.1, .int .u8 p0.2.1.2.2.2.2.1.2.2.1, .int .u8 p0.2.1.2.2.2.2.1.2.2.2.1, .int .u8 p0.2.1.2.2.2.2.1.2.2.2.2, .int .u8 p0.2.1.2.2.2.2.2.1.1, .int .u8 p0.2.1.2.2.2.2.2.1.2.1, .int .u8 p0.2.1.2.2.2.2.2.1.2.2.1, .int .u8 p0.2.1.2.2.2.2.2.1.2.2.2.1, .int .u8 p0.2.1.2.2.2.2.2.1.2.2.2.2, .int .u8 p0.2.1.2.2.2.2.2.2.1, .int .u8 p0.2.1.2.2.2.2.2.2.2.1, .int .u8 p0.2.1.2.2.2.2.2.2.2.2.1, .int .u8 p0.2.1.2.2.2.2.2.2.2.2.2.1, .int .u8 p0.2.1.2.2.2.2.2.2.2.2.2.2, .int .u8 p0.2.2]] s.w (RetS No s fun v s' => ∃ (a1 : Option Addr) (c1 : Nat) (a2 : Option Addr) (c2 : Nat) (a3 : Option Addr) (c3 : Nat) (a4 : Option Addr) (c4 : Nat), v = .tuple #[.agg #[.slice a1 r.1.1.length c1, .int .i64 r.1.2.1, .slice a2 r.1.2.2.1.length c2, .slice a3 r.1.2.2.2.length c3], .slice a4 r.2.length c4] ∧ RdL (rK .i64) s' a1 c1 r.1.1 ∧ RdL (rK .i64) s' a2 c2 r.1.2.2.1 ∧ RdL (rP (rK .i64) (rP (rK .i64) (rK .i64))) s' a3 c3 r.1.2.2.2 ∧ RowT (rK .i64) s' u3 3 a4 c4 r.2) := by
 unfold m_overseerlaw53_Make at hm
 obtain ⟨N, hN, hNb⟩ := s.fresh
 have m0 : Mv (Up N No) s s := Mv.refl _ _
 refine E.entry Try.func16 rfl Try.ntmps16 rfl rfl (E.seq (E.reg (L.box (N + 0) Wt.no rfl rfl rfl fun b5 s6 m7 bx5 => ?_)))
 replace m0 := m0.trans m7.no
 refine L.al (N + 1) zz26 rfl Wt.no rfl fun b8 s9 m10 bx8 => ?_
 replace m0 := m0.trans m10.no
 replace bx5 := bx5.mv m10 no_No
 refine L.as Wt.no rfl rfl (L.nil (X.seqN (E.seq (E.reg (L.fa fa51_1 Wt.no rfl rfl (L.fa fa49_0 Wt.no rfl rfl (L.ld (j := 1) bx5.mem nag5 Wt.no rfl rfl rfl rfl (L.rem Wt.no rfl rfl (by decide) rfl (L.fa fa51_1 Wt.no rfl rfl (L.fa fa49_0 Wt.no rfl rfl (L.st (c := [.int .u8 (p0.2.1.1.tmod 5)]) (cs' := #[.int .u8 p0.1, .int .u8 (p0.2.1.1.tmod 5), .int .u8 p0.2.1.2.1, .int .u8 p0.2.1.2.2.1.1, .int .u8 p0.2.1.2.2.1.2.1, .int .u8 p0.2.1.2.2.1.2.2.1, .int .u8 p0.2.1.2.2.1.2.2.2.1, .int .u8 p0.2.1.2.2.1.2.2.2.2, .int .u8 p0.2.1.2.2.2.1.1, .int .u8 p0.2.1.2.2.2.1.2.1, .int .u8 p0.2.1.2.2.2.1.2.2.1, .int .u8 p0.2.1.2.2.2.1.2.2.2.1, .int .u8 p0.2.1.2.2.2.1.2.2.2.2, .int .u8 p0.2.1.2.2.2.2.1.1, .int .u8 p0.2.1.2.2.2.2.1.2.1, .int .u8 p0.2.1.2.2.2.2.1.2.2.1, .int .u8 p0.2.1.2.2.2.2.1.2.2.2.1, .int .u8 p0.2.1.2.2.2.2.1.2.2.2.2, .int .u8 p0.2.1.2.2.2.2.2.1.1, .int .u8 p0.2.1.2.2.2.2.2.1.2.1, .int .u8 p0.2.1.2.2.2.2.2.1.2.2.1, .int .u8 p0.2.1.2.2.2.2.2.1.2.2.2.1, .int .u8 p0.2.1.2.2.2.2.2.1.2.2.2.2, .int .u8 p0.2.1.2.2.2.2.2.2.1, .int .u8 p0.2.1.2.2.2.2.2.2.2.1, .int .u8 p0.2.1.2.2.2.2.2.2.2.2.1, .int .u8 p0.2.1.2.2.2.2.2.2.2.2.2.1, .int .u8 p0.2.1.2.2.2.2.2.2.2.2.2.2, .int .u8 p0.2.2]) bx5 nag5.sz Wt.no rfl rfl rfl rfl rfl (Nat.le_of_ble_eq_true rfl) rfl fun s11 m12 bx5 => ?_)))))))))))
 replace m0 := m0.trans (m12.one up)
 replace bx8 := bx8.mv m12 (tgN (by decide))
 refine L.nil (X.seqN (E.seq ?_))
 obtain ⟨r16, er16, hm⟩ := bindS hm
 obtain ⟨r23, er23, hm⟩ := bindS hm
 refine E.draw [[], [0], [0, 1], [], [3], [0, 1, 2, 3, 4], [], [0, 1, 2, 3, 4, 5, 6]] (fun D e sx => Mv (One (N + 2)) s11 sx ∧ Sub [(2, .pointer (some ⟨b8, 0, none⟩)), (1, .pointer (some ⟨b5, 0, none⟩))] e ∧ (D 0 = true → (Env.get e 11 = some (.pointer (some ⟨b5, 0, none⟩)))) ∧ (D 1 = true → (Env.get e 12 = some (.int .u8 p0.1))) ∧ (D 2 = true → (∃ (a19 : Option Addr) (c19 : Nat), Env.get e 13 = some (.slice a19 r16.length c19) ∧ RdL (rK .i64) sx a19 c19 r16)) ∧ (D 3 = true → (Env.get e 14 = some (.pointer (some ⟨b5, 1, none⟩)))) ∧ (D 4 = true → (Env.get e 15 = some (.agg #[.int .u8 (p0.2.1.1.tmod 5), .int .u8 p0.2.1.2.1, .int .u8 p0.2.1.2.2.1.1, .int .u8 p0.2.1.2.2.1.2.1, .int .u8 p0.2.1.2.2.1.2.2.1, .int .u8 p0.2.1.2.2.1.2.2.2.1, .int .u8 p0.2.1.2.2.1.2.2.2.2, .int .u8 p0.2.1.2.2.2.1.1, .int .u8 p0.2.1.2.2.2.1.2.1, .int .u8 p0.2.1.2.2.2.1.2.2.1, .int .u8 p0.2.1.2.2.2.1.2.2.2.1, .int .u8 p0.2.1.2.2.2.1.2.2.2.2, .int .u8 p0.2.1.2.2.2.2.1.1, .int .u8 p0.2.1.2.2.2.2.1.2.1, .int .u8 p0.2.1.2.2.2.2.1.2.2.1, .int .u8 p0.2.1.2.2.2.2.1.2.2.2.1, .int .u8 p0.2.1.2.2.2.2.1.2.2.2.2, .int .u8 p0.2.1.2.2.2.2.2.1.1, .int .u8 p0.2.1.2.2.2.2.2.1.2.1, .int .u8 p0.2.1.2.2.2.2.2.1.2.2.1, .int .u8 p0.2.1.2.2.2.2.2.1.2.2.2.1, .int .u8 p0.2.1.2.2.2.2.2.1.2.2.2.2, .int .u8 p0.2.1.2.2.2.2.2.2.1, .int .u8 p0.2.1.2.2.2.2.2.2.2.1, .int .u8 p0.2.1.2.2.2.2.2.2.2.2.1, .int .u8 p0.2.1.2.2.2.2.2.2.2.2.2.1, .int .u8 p0.2.1.2.2.2.2.2.2.2.2.2.2]))) ∧ (D 5 = true → (∃ (a26 : Option Addr) (c26 : Nat) (a27 : Option Addr) (c27 : Nat) (a28 : Option Addr) (c28 : Nat), Env.get e 16 = some (.agg #[.slice a26 r23.1.length c26, .int .i64 r23.2.1, .slice a27 r23.2.2.1.length c27, .slice a28 r23.2.2.2.length c28]) ∧ RowT (rK .i64) sx (N + 4) 3 a26 c26 r23.1 ∧ RowT (rK .i64) sx (N + 5) 3 a27 c27 r23.2.2.1 ∧ RowT (rP (rK .i64) (rP (rK .i64) (rK .i64))) sx (N + 6) 28 a28 c28 r23.2.2.2)) ∧ (D 6 = true → (∃ (b30 : Nat), Env.get e 4 = some (.pointer (some ⟨b30, 0, none⟩)))) ∧ (D 6 = true → D 7 = false → ∀ (b30 : Nat), Env.get e 4 = some (.pointer (some ⟨b30, 0, none⟩)) → Bx sx (N + 2) b30 #[.slice none 0 0, .int .i64 0, .slice none 0 0, .slice none 0 0] 26) ∧ (D 7 = true → ∀ (a26 : Option Addr) (c26 : Nat) (a27 : Option Addr) (c27 : Nat) (a28 : Option Addr) (c28 : Nat) (b30 : Nat), Env.get e 16 = some (.agg #[.slice a26 r23.1.length c26, .int .i64 r23.2.1, .slice a27 r23.2.2.1.length c27, .slice a28 r23.2.2.2.length c28]) → Env.get e 4 = some (.pointer (some ⟨b30, 0, none⟩)) → Bx sx (N + 2) b30 #[.slice a26 r23.1.length c26, .int .i64 r23.2.1, .slice a27 r23.2.2.1.length c27, .slice a28 r23.2.2.2.length c28] 26)) (by kernel_rfl) (by kernel_rfl) (by kernel_rfl) ?_ ?_ ?_
 ·intro sz mz
  exact ⟨mz.no, (Sub.rf rfl), nofun, nofun, nofun, nofun, nofun, nofun, nofun, nofun, nofun⟩
 ·refine ⟨?_, ?_, ?_, ?_, ?_, ?_, ?_, ?_, trivial⟩
  ·rintro D e s13 ⟨im, ib, i0, t_⟩ hk hf ha
   have kn : Kn e [(1, .pointer (some ⟨b5, 0, none⟩))] := ⟨(ib 1 _ rfl), trivial⟩
   exact L.kns _ kn (L.fa fa51_0 Wt.no rfl rfl (L.nil (X.dk kn ⟨im, Sub.fresh ib rfl, fun _ => rfl, t_⟩)))
  ·rintro D e s14 ⟨im, ib, i0, i1, t_⟩ hk hf ha
   obtain ⟨d0, -⟩ := ha
   have g0_ := i0 d0
   have bx5 := bx5.mv im (tgN (by decide))
   have kn : Kn e [(11, .pointer (some ⟨b5, 0, none⟩))] := ⟨g0_, trivial⟩
   exact L.kns _ kn (L.ld (j := 0) bx5.mem nag45 Wt.no rfl rfl rfl rfl (L.nil (X.dk kn ⟨im, Sub.fresh ib rfl, i0, fun _ => rfl, t_⟩)))
  ·rintro D e s15 ⟨im, ib, i0, i1, i2, i3, i4, i5, i6, i7, i8⟩ hk hf ha
   obtain ⟨d0, d1, -⟩ := ha
   have g1_ := i1 d1
   have kn : Kn e [(12, .int .u8 p0.1)] := ⟨g1_, trivial⟩
   refine L.kns _ kn (L.ca cf47 rfl rfl Wt.no rfl (m_overseerlaw03_Set_Events_c (s := s15) (p0 := p0.1) (u0 := 0) er16) rfl ?_)
   rintro _ s17 m18 ⟨a19, c19, rfl, h19⟩
   replace h19 := h19.p
   exact L.nil (X.dk kn ⟨im.trans m18.no, Sub.fresh ib rfl, i0, i1, fun _ => ⟨a19, c19, rfl, h19⟩, i3, i4, fun z => let ⟨a26, c26, a27, c27, a28, c28, q, h26, h27, h28⟩ := i5 z; ⟨a26, c26, a27, c27, a28, c28, q, (h26.mv m18 no_No no_No), (h27.mv m18 no_No no_No), (h28.mv m18 no_No no_No)⟩, i6, fun z z2 b30 q6 => ((i7 z z2 b30 q6).mv m18 no_No), fun z a26 c26 a27 c27 a28 c28 b30 q5 q6 => ((i8 z a26 c26 a27 c27 a28 c28 b30 q5 q6).mv m18 no_No)⟩)
  ·rintro D e s20 ⟨im, ib, i0, i1, i2, i3, t_⟩ hk hf ha
   have kn : Kn e [(1, .pointer (some ⟨b5, 0, none⟩))] := ⟨(ib 1 _ rfl), trivial⟩
   exact L.kns _ kn (L.fa fa51_1 Wt.no rfl rfl (L.nil (X.dk kn ⟨im, Sub.fresh ib rfl, i0, i1, i2, fun _ => rfl, t_⟩)))
  ·rintro D e s21 ⟨im, ib, i0, i1, i2, i3, i4, t_⟩ hk hf ha
   obtain ⟨d3, -⟩ := ha
   have g3_ := i3 d3
   have bx5 := bx5.mv im (tgN (by decide))
   have kn : Kn e [(14, .pointer (some ⟨b5, 1, none⟩))] := ⟨g3_, trivial⟩
   exact L.kns _ kn (L.lg (j := 1) (cs := [.int .u8 (p0.2.1.1.tmod 5), .int .u8 p0.2.1.2.1, .int .u8 p0.2.1.2.2.1.1, .int .u8 p0.2.1.2.2.1.2.1, .int .u8 p0.2.1.2.2.1.2.2.1, .int .u8 p0.2.1.2.2.1.2.2.2.1, .int .u8 p0.2.1.2.2.1.2.2.2.2, .int .u8 p0.2.1.2.2.2.1.1, .int .u8 p0.2.1.2.2.2.1.2.1, .int .u8 p0.2.1.2.2.2.1.2.2.1, .int .u8 p0.2.1.2.2.2.1.2.2.2.1, .int .u8 p0.2.1.2.2.2.1.2.2.2.2, .int .u8 p0.2.1.2.2.2.2.1.1, .int .u8 p0.2.1.2.2.2.2.1.2.1, .int .u8 p0.2.1.2.2.2.2.1.2.2.1, .int .u8 p0.2.1.2.2.2.2.1.2.2.2.1, .int .u8 p0.2.1.2.2.2.2.1.2.2.2.2, .int .u8 p0.2.1.2.2.2.2.2.1.1, .int .u8 p0.2.1.2.2.2.2.2.1.2.1, .int .u8 p0.2.1.2.2.2.2.2.1.2.2.1, .int .u8 p0.2.1.2.2.2.2.2.1.2.2.2.1, .int .u8 p0.2.1.2.2.2.2.2.1.2.2.2.2, .int .u8 p0.2.1.2.2.2.2.2.2.1, .int .u8 p0.2.1.2.2.2.2.2.2.2.1, .int .u8 p0.2.1.2.2.2.2.2.2.2.2.1, .int .u8 p0.2.1.2.2.2.2.2.2.2.2.2.1, .int .u8 p0.2.1.2.2.2.2.2.2.2.2.2.2]) bx5.mem ag49 Wt.no rfl rfl rfl rfl rfl (L.nil (X.dk kn ⟨im, Sub.fresh ib rfl, i0, i1, i2, i3, fun _ => rfl, t_⟩)))
  ·rintro D e s22 ⟨im, ib, i0, i1, i2, i3, i4, i5, i6, i7, i8⟩ hk hf ha
   obtain ⟨d0, d1, d2, d3, d4, -⟩ := ha
   obtain ⟨a19, c19, g2_, h19⟩ := i2 d2
   have g4_ := i4 d4
   have kn : Kn e [(13, .slice a19 r16.length c19), (15, .agg #[.int .u8 (p0.2.1.1.tmod 5), .int .u8 p0.2.1.2.1, .int .u8 p0.2.1.2.2.1.1, .int .u8 p0.2.1.2.2.1.2.1, .int .u8 p0.2.1.2.2.1.2.2.1, .int .u8 p0.2.1.2.2.1.2.2.2.1, .int .u8 p0.2.1.2.2.1.2.2.2.2, .int .u8 p0.2.1.2.2.2.1.1, .int .u8 p0.2.1.2.2.2.1.2.1, .int .u8 p0.2.1.2.2.2.1.2.2.1, .int .u8 p0.2.1.2.2.2.1.2.2.2.1, .int .u8 p0.2.1.2.2.2.1.2.2.2.2, .int .u8 p0.2.1.2.2.2.2.1.1, .int .u8 p0.2.1.2.2.2.2.1.2.1, .int .u8 p0.2.1.2.2.2.2.1.2.2.1, .int .u8 p0.2.1.2.2.2.2.1.2.2.2.1, .int .u8 p0.2.1.2.2.2.2.1.2.2.2.2, .int .u8 p0.2.1.2.2.2.2.2.1.1, .int .u8 p0.2.1.2.2.2.2.2.1.2.1, .int .u8 p0.2.1.2.2.2.2.2.1.2.2.1, .int .u8 p0.2.1.2.2.2.2.2.1.2.2.2.1, .int .u8 p0.2.1.2.2.2.2.2.1.2.2.2.2, .int .u8 p0.2.1.2.2.2.2.2.2.1, .int .u8 p0.2.1.2.2.2.2.2.2.2.1, .int .u8 p0.2.1.2.2.2.2.2.2.2.2.1, .int .u8 p0.2.1.2.2.2.2.2.2.2.2.2.1, .int .u8 p0.2.1.2.2.2.2.2.2.2.2.2.2])] := ⟨g2_, g4_, trivial⟩
   refine L.kns _ kn (L.ca cf46 rfl rfl Wt.no rfl (m_overseerlaw03_Make_c (s := s22) (p0 := r16) (p1 := ((p0.2.1.1.tmod 5), p0.2.1.2)) (u0 := (N + 4)) (u1 := (N + 5)) (u2 := (N + 6)) h19 er23) rfl ?_)
   rintro _ s24 m25 ⟨a26, c26, a27, c27, a28, c28, rfl, h26, h27, h28⟩
   exact L.nil (X.dk kn ⟨im.trans m25.no, Sub.fresh ib rfl, i0, i1, fun z => let ⟨a19, c19, q, h19⟩ := i2 z; ⟨a19, c19, q, (h19.mono (m25.le no_No))⟩, i3, i4, fun _ => ⟨a26, c26, a27, c27, a28, c28, rfl, h26, h27, h28⟩, i6, fun z z2 b30 q6 => ((i7 z z2 b30 q6).mv m25 no_No), fun z => Bool.noConfusion ((hf 7 (Nat.le_of_ble_eq_true rfl) rfl).symm.trans z)⟩)
  ·rintro D e s29 ⟨im, ib, i0, i1, i2, i3, i4, i5, i6, i7, i8⟩ hk hf ha
   exact L.al (N + 2) zz26 rfl Wt.no rfl fun b30 s31 m32 bx30 => L.nil (X.dr (s := s31) (e' := (4, .pointer (some ⟨b30, 0, none⟩)) :: e) (Sub.both (Sub.refl)) ⟨im.trans m32.no, Sub.fresh ib rfl, i0, i1, fun z => let ⟨a19, c19, q, h19⟩ := i2 z; ⟨a19, c19, q, (h19.mono (m32.le no_No))⟩, i3, i4, fun z => let ⟨a26, c26, a27, c27, a28, c28, q, h26, h27, h28⟩ := i5 z; ⟨a26, c26, a27, c27, a28, c28, q, (h26.mv m32 no_No no_No), (h27.mv m32 no_No no_No), (h28.mv m32 no_No no_No)⟩, fun _ => ⟨b30, rfl⟩, fun _ _ _ q6 => by cases (show some (.pointer (some ⟨b30, 0, none⟩) : Value) = some _ from q6); exact bx30, fun z => Bool.noConfusion ((hf 7 (Nat.le_of_ble_eq_true rfl) rfl).symm.trans z)⟩)
  ·rintro D e s33 ⟨im, ib, i0, i1, i2, i3, i4, i5, i6, i7, i8⟩ hk hf ha
   obtain ⟨d0, d1, d2, d3, d4, d5, d6, -⟩ := ha
   obtain ⟨a26, c26, a27, c27, a28, c28, g5_, h26, h27, h28⟩ := i5 d5
   obtain ⟨b30, g6_⟩ := i6 d6
   obtain bx30 := i7 d6 hk b30 g6_
   have kn : Kn e [(4, .pointer (some ⟨b30, 0, none⟩)), (16, .agg #[.slice a26 r23.1.length c26, .int .i64 r23.2.1, .slice a27 r23.2.2.1.length c27, .slice a28 r23.2.2.2.length c28])] := ⟨g6_, g5_, trivial⟩
   exact L.kns _ kn (L.st (c := [.slice a26 r23.1.length c26, .int .i64 r23.2.1, .slice a27 r23.2.2.1.length c27, .slice a28 r23.2.2.2.length c28]) (cs' := #[.slice a26 r23.1.length c26, .int .i64 r23.2.1, .slice a27 r23.2.2.1.length c27, .slice a28 r23.2.2.2.length c28]) bx30 ag26.sz Wt.no rfl rfl rfl rfl rfl (Nat.le_of_ble_eq_true rfl) rfl fun s34 m35 bx30 => L.nil (X.dn kn ⟨im.trans (m35.one rfl), ib, i0, i1, fun z => let ⟨a19, c19, q, h19⟩ := i2 z; ⟨a19, c19, q, (h19.mono (m35.le (tg0 hN)))⟩, i3, i4, fun z => let ⟨a26, c26, a27, c27, a28, c28, q, h26, h27, h28⟩ := i5 z; ⟨a26, c26, a27, c27, a28, c28, q, (h26.mv m35 (tgN (by decide)) (tg0 hN)), (h27.mv m35 (tgN (by decide)) (tg0 hN)), (h28.mv m35 (tgN (by decide)) (tg0 hN))⟩, i6, fun _ z => Bool.noConfusion (show true = false from z), fun _ _ _ _ _ _ _ _ q5 q6 => by cases g5_.symm.trans q5; cases g6_.symm.trans q6; exact bx30⟩))
 ·rintro D e s36 hD ⟨im, ib, i0, i1, i2, i3, i4, i5, i6, i7, i8⟩
  obtain ⟨a26, c26, a27, c27, a28, c28, g5_, h26, h27, h28⟩ := i5 (hD 5 rfl)
  obtain ⟨b30, g6_⟩ := i6 (hD 6 rfl)
  obtain bx30 := i8 (hD 7 rfl) a26 c26 a27 c27 a28 c28 b30 g5_ g6_
  have bx8 := bx8.mv im (tgN (by decide))
  have bx5 := bx5.mv im (tgN (by decide))
  have m0 := m0.trans (im.one up)
  refine X.sub (e' := [(4, .pointer (some ⟨b30, 0, none⟩)), (2, .pointer (some ⟨b8, 0, none⟩)), (1, .pointer (some ⟨b5, 0, none⟩))]) ?_ (Sub.cons g6_ (Sub.cons (ib 2 _ rfl) (Sub.cons (ib 1 _ rfl) Sub.nil)))
  refine X.seqN (E.seq ?_)
  have m37 := Sig.fz_mv (N + 2) s36
  replace bx30 := bx30.fz (tgn hN)
  replace m0 := m0.trans (m37.one up)
  replace h26 := h26.mv m37 (tgN (by decide)) (tg0 hN)
  replace h27 := h27.mv m37 (tgN (by decide)) (tg0 hN)
  replace h28 := h28.mv m37 (tgN (by decide)) (tg0 hN)
  replace bx8 := bx8.mv m37 (tgN (by decide))
  replace bx5 := bx5.mv m37 (tgN (by decide))
  refine E.toR (s' := (Sig.fz (N + 2) s36)) rfl ?_
  have m38 := Sig.fz_mv (N + 4) (Sig.fz (N + 2) s36)
  replace h26 := h26.fz (tgn hN)
  replace m0 := m0.trans (m38.one up)
  replace bx30 := bx30.mv m38 (tg0 hN)
  replace h27 := h27.mv m38 (tgN (by decide)) (tg0 hN)
  replace h28 := h28.mv m38 (tgN (by decide)) (tg0 hN)
  replace bx8 := bx8.mv m38 (tgN (by decide))
  replace bx5 := bx5.mv m38 (tgN (by decide))
  refine E.toR (s' := (Sig.fz (N + 4) (Sig.fz (N + 2) s36))) rfl ?_
  have m39 := Sig.fz_mv (N + 5) (Sig.fz (N + 4) (Sig.fz (N + 2) s36))
  replace h27 := h27.fz (tgn hN)
  replace m0 := m0.trans (m39.one up)
  replace bx30 := bx30.mv m39 (tg0 hN)
  replace h26 := h26.mono (m39.le (tg0 hN))
  replace h28 := h28.mv m39 (tgN (by decide)) (tg0 hN)
  replace bx8 := bx8.mv m39 (tgN (by decide))
  replace bx5 := bx5.mv m39 (tgN (by decide))
  refine E.toR (s' := (Sig.fz (N + 5) (Sig.fz (N + 4) (Sig.fz (N + 2) s36)))) rfl ?_
  have m40 := Sig.fz_mv (N + 6) (Sig.fz (N + 5) (Sig.fz (N + 4) (Sig.fz (N + 2) s36)))
  replace h28 := h28.fz (tgn hN)
  replace m0 := m0.trans (m40.one up)
  replace bx30 := bx30.mv m40 (tg0 hN)
  replace h26 := h26.mono (m40.le (tg0 hN))
  replace h27 := h27.mono (m40.le (tg0 hN))
  replace bx8 := bx8.mv m40 (tgN (by decide))
  replace bx5 := bx5.mv m40 (tgN (by decide))
  refine E.toR (s' := (Sig.fz (N + 6) (Sig.fz (N + 5) (Sig.fz (N + 4) (Sig.fz (N + 2) s36))))) rfl ?_
  obtain ⟨r45, er45, hm⟩ := bindS hm
  obtain ⟨r52, er52, hm⟩ := bindS hm
  obtain ⟨_, qz56, hm⟩ := bindS hm
  have elz56 := len_some qz56
  refine E.draw [[], [], [1], [1, 2], [], [1, 2, 3, 4], [0, 1, 2, 3, 4, 5], [0, 1, 2, 3, 4, 5, 6]] (fun D e sx => Mv (fun t => t = (N + 1) ∨ t = (N + 3)) (Sig.fz (N + 6) (Sig.fz (N + 5) (Sig.fz (N + 4) (Sig.fz (N + 2) s36)))) sx ∧ Sub [(4, .pointer (some ⟨b30, 0, none⟩)), (2, .pointer (some ⟨b8, 0, none⟩)), (1, .pointer (some ⟨b5, 0, none⟩))] e ∧ (D 0 = true → (Env.get e 17 = some (.agg #[.slice a26 r23.1.length c26, .int .i64 r23.2.1, .slice a27 r23.2.2.1.length c27, .slice a28 r23.2.2.2.length c28]))) ∧ (D 1 = true → (Env.get e 18 = some (.pointer (some ⟨b5, 28, none⟩)))) ∧ (D 2 = true → (Env.get e 19 = some (.int .u8 p0.2.2))) ∧ (D 3 = true → (∃ (a48 : Option Addr) (c48 : Nat), Env.get e 20 = some (.slice a48 r45.length c48))) ∧ (D 4 = true → (Env.get e 21 = some (.func (.func 49) #[] #[.pointer (some ⟨b30, 0, none⟩)]) ∧ FV1 Try.prog sx (.func (.func 49) #[] #[.pointer (some ⟨b30, 0, none⟩)]) (fun (x0 : Int) => [.int .i64 x0]) (fun (r : Bool) => .bool r) (m_overseerlaw53_Make_1 r23))) ∧ (D 5 = true → (∃ (a55 : Option Addr) (c55 : Nat), Env.get e 22 = some (.slice a55 r52.1.length c55))) ∧ (D 7 = true → ∀ (a55 : Option Addr) (c55 : Nat), Env.get e 22 = some (.slice a55 r52.1.length c55) → (Env.get e 3 = some (.slice a55 r52.1.length c55))) ∧ (D 6 = false → Bx sx (N + 1) b8 #[.slice none 0 0, .int .i64 0, .slice none 0 0, .slice none 0 0] 26) ∧ (D 6 = true → Bx sx (N + 1) b8 #[.slice a26 r23.1.length c26, .int .i64 r23.2.1, .slice a27 r23.2.2.1.length c27, .slice a28 r23.2.2.2.length c28] 26) ∧ (D 3 = true → D 5 = false → ∀ (a48 : Option Addr) (c48 : Nat), Env.get e 20 = some (.slice a48 r45.length c48) → RowT (rK .i64) sx (N + 3) 3 a48 c48 r45) ∧ (D 5 = true → ∀ (a48 : Option Addr) (c48 : Nat) (a55 : Option Addr) (c55 : Nat), Env.get e 20 = some (.slice a48 r45.length c48) → Env.get e 22 = some (.slice a55 r52.1.length c55) → RowT (rK .i64) sx (N + 3) 3 a55 c55 r52.1 ∧ RowT (rK .i64) sx (N + 3) 3 a48 c48 r52.2)) (by kernel_rfl) (by kernel_rfl) (by kernel_rfl) ?_ ?_ ?_
  ·intro sz mz
   exact ⟨mz.no, (Sub.rf rfl), nofun, nofun, nofun, nofun, nofun, nofun, nofun, fun _ => bx8.mv mz no_No, nofun, nofun, nofun⟩
  ·refine ⟨?_, ?_, ?_, ?_, ?_, ?_, ?_, ?_, trivial⟩
   ·rintro D e s41 ⟨im, ib, i0, t_⟩ hk hf ha
    have bx30 := bx30.mv im (nor (tg0 hN) (tg0 hN))
    have kn : Kn e [(4, .pointer (some ⟨b30, 0, none⟩))] := ⟨(ib 4 _ rfl), trivial⟩
    exact L.kns _ kn (L.lg (j := 0) (cs := [.slice a26 r23.1.length c26, .int .i64 r23.2.1, .slice a27 r23.2.2.1.length c27, .slice a28 r23.2.2.2.length c28]) bx30.mem ag26 Wt.no rfl rfl rfl rfl rfl (L.nil (X.dk kn ⟨im, Sub.fresh ib rfl, fun _ => rfl, t_⟩)))
   ·rintro D e s42 ⟨im, ib, i0, i1, t_⟩ hk hf ha
    have kn : Kn e [(1, .pointer (some ⟨b5, 0, none⟩))] := ⟨(ib 1 _ rfl), trivial⟩
    exact L.kns _ kn (L.fa fa51_2 Wt.no rfl rfl (L.nil (X.dk kn ⟨im, Sub.fresh ib rfl, i0, fun _ => rfl, t_⟩)))
   ·rintro D e s43 ⟨im, ib, i0, i1, i2, t_⟩ hk hf ha
    obtain ⟨d1, -⟩ := ha
    have g1_ := i1 d1
    have bx5 := bx5.mv im (nor (tgN (by decide)) (tgN (by decide)))
    have kn : Kn e [(18, .pointer (some ⟨b5, 28, none⟩))] := ⟨g1_, trivial⟩
    exact L.kns _ kn (L.ld (j := 28) bx5.mem nag45 Wt.no rfl rfl rfl rfl (L.nil (X.dk kn ⟨im, Sub.fresh ib rfl, i0, i1, fun _ => rfl, t_⟩)))
   ·rintro D e s44 ⟨im, ib, i0, i1, i2, i3, i4, i5, i6, i7, i8, i9, i10⟩ hk hf ha
    obtain ⟨d1, d2, -⟩ := ha
    have g2_ := i2 d2
    have kn : Kn e [(19, .int .u8 p0.2.2)] := ⟨g2_, trivial⟩
    refine L.kns _ kn (L.ca cf47 rfl rfl Wt.no rfl (m_overseerlaw03_Set_Events_c (s := s44) (p0 := p0.2.2) (u0 := (N + 3)) er45) rfl ?_)
    rintro _ s46 m47 ⟨a48, c48, rfl, h48⟩
    exact L.nil (X.dk kn ⟨im.trans m47.no, Sub.fresh ib rfl, i0, i1, i2, fun _ => ⟨a48, c48, rfl⟩, fun z => let ⟨q, h50⟩ := i4 z; ⟨q, (h50.mono (m47.le no_No))⟩, i5, i6, fun z2 => ((i7 z2).mv m47 no_No), fun z => ((i8 z).mv m47 no_No), fun _ _ _ _ q3 => by cases (show some (.slice a48 r45.length c48 : Value) = some _ from q3); exact h48, fun z => Bool.noConfusion ((hf 5 (Nat.le_of_ble_eq_true rfl) rfl).symm.trans z)⟩)
   ·rintro D e s49 ⟨im, ib, i0, i1, i2, i3, i4, t_⟩ hk hf ha
    have bx30 := bx30.mv im (nor (tg0 hN) (tg0 hN))
    have h26 := h26.mono (im.le (nor (tg0 hN) (tg0 hN)))
    have h27 := h27.mono (im.le (nor (tg0 hN) (tg0 hN)))
    have h28 := h28.mono (im.le (nor (tg0 hN) (tg0 hN)))
    have kn : Kn e [(4, .pointer (some ⟨b30, 0, none⟩))] := ⟨(ib 4 _ rfl), trivial⟩
    refine L.kns _ kn ?_
    have h50 : FV1 Try.prog s49 (.func (.func 49) #[] #[.pointer (some ⟨b30, 0, none⟩)]) (fun (x0 : Int) => [.int .i64 x0]) (fun (r : Bool) => .bool r) (m_overseerlaw53_Make_1 r23) := ⟨49, #[], #[.pointer (some ⟨b30, 0, none⟩)], rfl, cf49, fun x0 r hm s' hl => by have hh := m_overseerlaw53_Make_1_c (s := s') (h26.mono hl) (h27.mono hl) (h28.mono hl) (bx30.le hl) hm; simpa using hh⟩
    exact L.mf Wt.no rfl rfl rfl (L.nil (X.dk kn ⟨im, Sub.fresh ib rfl, i0, i1, i2, i3, fun _ => ⟨rfl, h50⟩, t_⟩))
   ·rintro D e s51 ⟨im, ib, i0, i1, i2, i3, i4, i5, i6, i7, i8, i9, i10⟩ hk hf ha
    obtain ⟨d1, d2, d3, d4, -⟩ := ha
    obtain ⟨a48, c48, g3_⟩ := i3 d3
    obtain ⟨g4_, h50⟩ := i4 d4
    obtain h48 := i9 d3 hk a48 c48 g3_
    have kn : Kn e [(20, .slice a48 r45.length c48), (21, (.func (.func 49) #[] #[.pointer (some ⟨b30, 0, none⟩)]))] := ⟨g3_, g4_, trivial⟩
    refine L.kns _ kn (L.ca cf48 rfl rfl Wt.no rfl (m_slices_DeleteFunc_int_c (s := s51) (p0 := r45) (p1 := (m_overseerlaw53_Make_1 r23)) (t0 := (N + 3)) (tpos hN) h48 h50 er52) rfl ?_)
    rintro _ s53 m54 ⟨a55, c55, rfl, h55, h48⟩
    exact L.nil (X.dk kn ⟨im.trans (m54.one (.inr rfl)), Sub.fresh ib rfl, i0, i1, i2, i3, fun z => let ⟨q, h50⟩ := i4 z; ⟨q, (h50.mono (m54.le (tg0 hN)))⟩, fun _ => ⟨a55, c55, rfl⟩, fun z => Bool.noConfusion ((hf 7 (Nat.le_of_ble_eq_true rfl) rfl).symm.trans z), fun z2 => ((i7 z2).mv m54 (tgN (by decide))), fun z => ((i8 z).mv m54 (tgN (by decide))), fun _ z => Bool.noConfusion (show true = false from z), fun _ _ _ _ _ q3 q5 => by cases g3_.symm.trans q3; cases (show some (.slice a55 r52.1.length c55 : Value) = some _ from q5); exact ⟨h55, h48⟩⟩)
   ·rintro D e s57 ⟨im, ib, i0, i1, i2, i3, i4, i5, i6, i7, i8, i9, i10⟩ hk hf ha
    obtain ⟨d0, d1, d2, d3, d4, d5, -⟩ := ha
    have g0_ := i0 d0
    obtain bx8 := i7 hk
    have kn : Kn e [(2, .pointer (some ⟨b8, 0, none⟩)), (17, .agg #[.slice a26 r23.1.length c26, .int .i64 r23.2.1, .slice a27 r23.2.2.1.length c27, .slice a28 r23.2.2.2.length c28])] := ⟨(ib 2 _ rfl), g0_, trivial⟩
    exact L.kns _ kn (L.st (c := [.slice a26 r23.1.length c26, .int .i64 r23.2.1, .slice a27 r23.2.2.1.length c27, .slice a28 r23.2.2.2.length c28]) (cs' := #[.slice a26 r23.1.length c26, .int .i64 r23.2.1, .slice a27 r23.2.2.1.length c27, .slice a28 r23.2.2.2.length c28]) bx8 ag26.sz Wt.no rfl rfl rfl rfl rfl (Nat.le_of_ble_eq_true rfl) rfl fun s58 m59 bx8 => L.nil (X.dn kn ⟨im.trans (m59.one (.inl rfl)), ib, i0, i1, i2, i3, fun z => let ⟨q, h50⟩ := i4 z; ⟨q, (h50.mono (m59.le (tg0 hN)))⟩, i5, i6, fun z => Bool.noConfusion (show true = false from z), fun _ => by exact bx8, fun z z2 a48 c48 q3 => ((i9 z z2 a48 c48 q3).mv m59 (tgN (by decide)) (tg0 hN)), fun z a48 c48 a55 c55 q3 q5 => let ⟨h55, h48⟩ := i10 z a48 c48 a55 c55 q3 q5; ⟨(h55.mv m59 (tgN (by decide)) (tg0 hN)), (h48.mv m59 (tgN (by decide)) (tg0 hN))⟩⟩))
   ·rintro D e s60 ⟨im, ib, i0, i1, i2, i3, i4, i5, i6, t_⟩ hk hf ha
    obtain ⟨d0, d1, d2, d3, d4, d5, d6, -⟩ := ha
    obtain ⟨a55, c55, g5_⟩ := i5 d5
    have kn : Kn e [(22, .slice a55 r52.1.length c55)] := ⟨g5_, trivial⟩
    exact L.kns _ kn (L.as Wt.no rfl rfl (L.nil (X.dk kn ⟨im, Sub.fresh ib rfl, i0, i1, i2, i3, i4, i5, fun _ _ _ q5 => by cases g5_.symm.trans q5; exact rfl, t_⟩)))
  ·rintro D e s61 hD ⟨im, ib, i0, i1, i2, i3, i4, i5, i6, i7, i8, i9, i10⟩
   obtain ⟨a55, c55, g5_⟩ := i5 (hD 5 rfl)
   have g7_ := i6 (hD 7 rfl) a55 c55 g5_
   obtain bx8 := i8 (hD 6 rfl)
   obtain ⟨a48, c48, g3_⟩ := i3 (hD 3 rfl)
   obtain ⟨h55, h48⟩ := i10 (hD 5 rfl) a48 c48 a55 c55 g3_ g5_
   have h26 := h26.mono (im.le (nor (tg0 hN) (tg0 hN)))
   have h27 := h27.mono (im.le (nor (tg0 hN) (tg0 hN)))
   have h28 := h28.mono (im.le (nor (tg0 hN) (tg0 hN)))
   have m0 := m0.trans (im.weak fun _ e => by rcases e with e | e; (rw [e]; exact up); (rw [e]; exact up))
   refine X.sub (e' := [(3, .slice a55 r52.1.length c55), (2, .pointer (some ⟨b8, 0, none⟩))]) ?_ (Sub.cons g7_ (Sub.cons (ib 2 _ rfl) Sub.nil))
   refine X.seqN (E.ret ?_)
   obtain rfl := Option.some.inj hm
   exact X.rt (.inl rfl) Try.results16 (Rs.cell rfl bx8 ag26 rfl (Rs.tmp rfl Rs.nil)) rfl ⟨_, (s61).ren N (fun k => cond (Nat.beq k 3) u3 (0)), rfl, rfl, m0.ren hNb, ⟨a26, c26, a27, c27, a28, c28, a55, c55, rfl, (h26.ren hN), (h27.ren hN), (h28.ren hN), (h55.ren hN)⟩⟩

theorem ag51 : Ag Try.prog 51 29 := Ag.mk' Try.underlying51 rfl (by kernel_rfl)
theorem cf16 : Cf Try.prog 16 := Cf.mk Try.func16 (by kernel_rfl) (by kernel_rfl)
end Go.Proofs.Ytkkemchihllklaa

namespace Go.Proofs.Ytkkemchihllklaa
open Go Go.RowKit

theorem getD_at {xs : List Int} {i : Nat} (h : i < xs.length) : xs.getD i 0 = xs[i] := by
  rw [List.getD_eq_getElem?_getD, List.getElem?_eq_getElem h]; rfl
/-- What the walks of chapter 3 ask of an automaton. -/
structure A3 (a : Aut) (n : Nat) : Prop where
  n1 : n ≤ 4096
  es : ∀ x ∈ a.es, 0 ≤ x.t ∧ x.t < (n : Int)
  el : a.es.length ≤ 1000000
  al : a.al.length ≤ 32
  ml : a.ms.length ≤ 1000000
section
variable {a : Aut} {n : Nat}
theorem found_row (h : A3 a n) {i : Nat} {out y : List Int} (hq : QOk n out) (hi : i < out.length) : iter (m_overseerref03_Found_l2 (autP a) ((i : Int), y)) (0, out) = some (a.al.foldl (c3In a.es (out.getD i 0)) out) := by
  have hel := h.el; have hal := h.al; have hn1 := h.n1
  refine (iter_foldl (f := m_overseerref03_Found_l2 (autP a) ((i : Int), y)) (xs := a.al) (fun k s => ((k : Int), s)) (c3In a.es (out.getD i 0)) (fun s => s) (fun _ s => QOk n s ∧ ∃ r, s = out ++ r) (by omega) (fun k hk s hp => ?_) (fun s hp => ?_) ⟨hq, [], (List.append_nil _).symm⟩).1
  · obtain ⟨hs, r, rfl⟩ := hp
    obtain ⟨h1, ⟨r1, h2⟩, -⟩ := c3In_fold h.es (s := out.getD i 0) [a.al[k]] _ hs
    rw [List.foldl_cons, List.foldl_nil] at h1 h2
    refine ⟨?_, h1, r ++ r1, by rw [h2, List.append_assoc]⟩
    have hlen := hs.len
    have hil : i < (out ++ r).length := by rw [List.length_append]; omega
    have hr := hq.rng out[i] (List.getElem_mem hi)
    have hj : ∀ l : List Int, m_overseerref03_Found_j2 ((k : Int), out ++ r) l = some (.inl (((k + 1 : Nat) : Int), l)) := fun l => by
      rw [m_overseerref03_Found_j2]; dsimp only; rw [nxt (by omega)]
    rw [m_overseerref03_Found_l2]
    dsimp only
    rw [if_pos (show decide ((k : Int) < ((autP a).1.length : Int)) = true from ct_lt hk), idx_at hil, Option.bind_some, show idx (autP a).1 (k : Int) = some a.al[k] from idx_at hk, Option.bind_some, List.getElem_append_left hi,
      show out[i] = ((out[i].toNat : Nat) : Int) by omega, rstep_eq (by omega) (fun x hx => (h.es x hx).1), Option.bind_some]
    rw [c3In, getD_at hi, stF]
    cases hst : stepF a.es out[i].toNat a.al[k] with
    | none => exact hj _
    | some t =>
      dsimp only
      rw [if_pos (by simp), rhas_eq (by omega), Option.bind_some, Option.bind_some]
      cases hb : hasB (out ++ r) (t : Int) with
      | true => rw [if_neg (by simp), if_pos rfl, hj]
      | false => rw [if_pos (by simp), if_neg (by simp), app_eq (by rw [List.length_cons, List.length_nil]; omega), Option.bind_some, hj]
  · rw [m_overseerref03_Found_l2]
    dsimp only
    rw [if_neg (show ¬ decide ((a.al.length : Int) < ((autP a).1.length : Int)) = true from ct_ge)]
theorem found_go (h : A3 a n) : ∀ (f i : Nat) (out : List Int), QOk n out → n + 1 ≤ i + f → iterF (m_overseerref03_Found_l1 (autP a)) (f + 1) ((i : Int), out) = some (c3Loop a.es a.al f i out)
  | 0, i, out, hq, hf => by
    have := hq.len
    rw [iterF_succ, m_overseerref03_Found_l1]
    dsimp only
    rw [if_neg (by simp; omega)]
    rfl
  | f + 1, i, out, hq, hf => by
    have hl := hq.len
    have hn1 := h.n1
    rw [iterF_succ, m_overseerref03_Found_l1, c3Loop]
    dsimp only
    by_cases hi : i < out.length
    · rw [if_pos (by simpa using hi), if_pos hi, found_row h hq hi, Option.bind_some, nxt (by omega)]
      exact found_go h f (i + 1) _ (c3In_fold h.es a.al out hq).1 (by omega)
    · rw [if_neg (by simpa using hi), if_neg hi]
theorem found_eq (h : A3 a n) (hn : a.n = n) (h0 : 0 < n) : m_overseerref03_Found (autP a) = some (foundL a) ∧ QOk n (foundL a) := by
  have hn1 := h.n1
  have hq0 : QOk n [0] := ⟨by simp, fun s hs => by rw [List.mem_singleton.1 hs]; omega⟩
  have hg := found_go h (n + 1) 0 [0] hq0 (by omega)
  have hfd : foundL a = c3Loop a.es a.al (n + 1) 0 [0] := by rw [foundL, if_neg (by omega), hn, Int.toNat_natCast]
  refine ⟨?_, ?_⟩
  · rw [m_overseerref03_Found, if_pos (show decide ((autP a).2.1 > 0) = true from decide_eq_true (show a.n > 0 by omega)), app_eq (by simp), Option.bind_some, m_overseerref03_Found_j1, show iter (m_overseerref03_Found_l1 (autP a)) (0, ([] : List Int) ++ [0]) = _ from iter_of (by omega) hg, hfd]
    rfl
  · rw [hfd]
    exact (c3_loop h.es (n + 1) 0 [0] hq0 (fun k hk => absurd hk (Nat.not_lt_zero _)) (by omega)).1
def c3Put (a : Aut) (q : List Int) (i : Nat) (out : List (Int × Int × Int)) (e : Int) : List (Int × Int × Int) := match stepF a.es (q.getD i 0).toNat e with
  | some t => out ++ [((i : Int), e, idxI q (t : Int))]
  | none => out
theorem c3Put_fold (q : List Int) (i : Nat) : ∀ (al : List Int) (out : List (Int × Int × Int)), al.foldl (c3Put a q i) out = out ++ (c3Row ⟨al, a.n, a.ms, a.es⟩ q i).map edP
  | [], out => by simp [c3Row]
  | e :: al, out => by
    rw [List.foldl_cons, c3Put_fold q i al, c3Put, c3Row, c3Row]
    dsimp only
    rw [List.filterMap_cons]
    generalize stepF a.es (q.getD i 0).toNat e = r
    cases r <;> simp [edP]
theorem c3Row_len (q : List Int) (i : Nat) : (c3Row a q i).length ≤ a.al.length := List.length_filterMap_le _ _
theorem rows_len (q : List Int) : ∀ m, ((List.range m).flatMap (c3Row a q)).length ≤ m * a.al.length
  | 0 => by simp
  | m + 1 => by
    have h1 := rows_len q m
    have h2 := c3Row_len (a := a) q m
    rw [List.range_succ, List.flatMap_append, List.length_append, Nat.succ_mul]
    simp only [List.flatMap_cons, List.flatMap_nil, List.append_nil]
    omega
theorem canon_row (h : A3 a n) {q : List Int} (hq : QOk n q) {i : Nat} (hi : i < q.length) {ms : List Int} {x y : List (Int × Int × Int)} (hx : x.length ≤ 4000000) : iter (m_overseerref03_Canonical_l2 (autP a) q ((i : Int), ms, y)) (0, x) = some (x ++ (c3Row a q i).map edP) := by
  have hel := h.el; have hal := h.al; have hn1 := h.n1; have hql := hq.len
  have hr := hq.rng q[i] (List.getElem_mem hi)
  refine ((iter_foldl (f := m_overseerref03_Canonical_l2 (autP a) q ((i : Int), ms, y)) (xs := a.al) (fun k s => ((k : Int), s)) (c3Put a q i) (fun s => s) (fun k s => s.length ≤ x.length + k) (by omega) (fun k hk s hp => ?_) (fun s hp => ?_) (Nat.le_refl _)).1).trans (by rw [c3Put_fold])
  · have hj : ∀ l : List (Int × Int × Int), m_overseerref03_Canonical_j2 ((k : Int), s) l = some (.inl (((k + 1 : Nat) : Int), l)) := fun l => by
      rw [m_overseerref03_Canonical_j2]; dsimp only; rw [nxt (by omega)]
    rw [m_overseerref03_Canonical_l2, c3Put, getD_at hi]
    dsimp only
    rw [if_pos (show decide ((k : Int) < ((autP a).1.length : Int)) = true from ct_lt hk), idx_at hi, Option.bind_some, show idx (autP a).1 (k : Int) = some a.al[k] from idx_at hk, Option.bind_some,
      show q[i] = ((q[i].toNat : Nat) : Int) by omega, rstep_eq (by omega) (fun x hx => (h.es x hx).1), Option.bind_some, stF, Int.toNat_natCast]
    cases hst : stepF a.es q[i].toNat a.al[k] with
    | none => exact ⟨hj _, by dsimp only; omega⟩
    | some t =>
      dsimp only
      rw [if_pos (by simp), Option.bind_some, rindex_eq (by omega), Option.bind_some, app_eq (by rw [List.length_cons, List.length_nil]; omega), Option.bind_some, hj]
      exact ⟨rfl, by rw [List.length_append, List.length_cons, List.length_nil]; omega⟩
  · rw [m_overseerref03_Canonical_l2]
    dsimp only
    rw [if_neg (show ¬ decide ((a.al.length : Int) < ((autP a).1.length : Int)) = true from ct_ge)]
/-- The canonical form. -/
theorem canon_eq (h : A3 a n) (hn : a.n = n) (h0 : 0 < n) : m_overseerref03_Canonical (autP a) = some (autP (canon3 a)) := by
  have hel := h.el; have hal := h.al; have hn1 := h.n1; have hml := h.ml
  obtain ⟨hf, hq⟩ := found_eq h hn h0
  have hql := hq.len
  generalize hqq : foundL a = q at hf hq hql
  have hi := iter_run (f := m_overseerref03_Canonical_l1 (autP a) q) (fun i => ((i : Int), (((List.range i).filter fun i => hasB a.ms (q.getD i 0)).map fun (i : Nat) => (i : Int)), ((List.range i).flatMap (c3Row a q)).map edP)) q.length (by omega) (o := (rrMs a.ms q, ((List.range q.length).flatMap (c3Row a q)).map edP)) (fun i hi => by
    have hrl := rows_len (a := a) q i
    have hmul : i * a.al.length ≤ 4096 * 32 := Nat.mul_le_mul (by omega) hal
    have hfl : ((List.range i).filter fun i => hasB a.ms (q.getD i 0)).length ≤ i := Nat.le_trans (List.length_filter_le ..) (by simp)
    have hr := hq.rng q[i] (List.getElem_mem hi)
    have hj : ∀ (m1 : List Int), m_overseerref03_Canonical_j1 (autP a) q ((i : Int), (((List.range i).filter fun i => hasB a.ms (q.getD i 0)).map fun (i : Nat) => (i : Int)), ((List.range i).flatMap (c3Row a q)).map edP) m1 = some (.inl (((i + 1 : Nat) : Int), m1, ((List.range (i + 1)).flatMap (c3Row a q)).map edP)) := fun m1 => by
      rw [m_overseerref03_Canonical_j1]
      dsimp only
      rw [canon_row h hq hi (by rw [List.length_map]; omega), Option.bind_some, nxt (by omega), List.range_succ, List.flatMap_append, List.map_append]
      simp only [List.flatMap_cons, List.flatMap_nil, List.append_nil]
    rw [m_overseerref03_Canonical_l1]
    dsimp only
    rw [if_pos (ct_lt hi), idx_at hi, Option.bind_some, show m_overseerref03_has (autP a).2.2.1 q[i] = some (hasB a.ms q[i]) from rhas_eq (xs := a.ms) (by omega), Option.bind_some]
    cases hb : hasB a.ms q[i] with
    | true =>
      rw [if_pos rfl, app_eq (by rw [List.length_map, List.length_cons, List.length_nil]; omega), Option.bind_some, hj, List.range_succ, List.filter_append, List.filter_cons_of_pos (by rw [getD_at hi, hb]), List.map_append]
      rfl
    | false =>
      rw [if_neg (by simp), hj, List.range_succ, List.filter_append, List.filter_cons_of_neg (by rw [getD_at hi, hb]; simp), List.filter_nil, List.append_nil]) (by
    rw [m_overseerref03_Canonical_l1]
    dsimp only
    rw [if_neg ct_ge]
    rfl)
  rw [m_overseerref03_Canonical, hf, Option.bind_some, show m_overseerref03_Empty (autP a).1 = some (a.al, 0, [], []) from rempty_eq (xs := a.al) (by omega), Option.bind_some, show iter (m_overseerref03_Canonical_l1 (autP a) q) (0, (a.al, (0 : Int), ([] : List Int), ([] : List (Int × Int × Int))).2.2) = _ from hi, Option.bind_some]
  rw [canon3, autP, hqq]
end
/-- The 25 cells of a graph. -/
def cells25 (g : (Int × Int × Int × Int × Int) × (Int × Int × Int × Int × Int) × (Int × Int × Int × Int × Int) × (Int × Int × Int × Int × Int) × (Int × Int × Int × Int × Int)) : List Int :=
  [g.1.1, g.1.2.1, g.1.2.2.1, g.1.2.2.2.1, g.1.2.2.2.2, g.2.1.1, g.2.1.2.1, g.2.1.2.2.1, g.2.1.2.2.2.1, g.2.1.2.2.2.2, g.2.2.1.1, g.2.2.1.2.1, g.2.2.1.2.2.1, g.2.2.1.2.2.2.1, g.2.2.1.2.2.2.2, g.2.2.2.1.1, g.2.2.2.1.2.1, g.2.2.2.1.2.2.1, g.2.2.2.1.2.2.2.1, g.2.2.2.1.2.2.2.2, g.2.2.2.2.1, g.2.2.2.2.2.1, g.2.2.2.2.2.2.1, g.2.2.2.2.2.2.2.1, g.2.2.2.2.2.2.2.2]
/-- The automaton of a graph is right. -/
theorem make3_ex {ev : List Int} (ie : Inc ev) (he : ∀ x ∈ ev, 0 ≤ x ∧ x < 32) (hel : ev.length ≤ 5) {s m : Int} {g : (Int × Int × Int × Int × Int) × (Int × Int × Int × Int × Int) × (Int × Int × Int × Int × Int) × (Int × Int × Int × Int × Int) × (Int × Int × Int × Int × Int)} (hs : 0 ≤ s ∧ s < 250) (hg : ∀ y ∈ cells25 g, 0 ≤ y ∧ y < 256) :
    ∃ a : Aut, m_overseerlaw03_Make ev (s, m, g) = some (autP a) ∧ a.err = 0 ∧ 1 ≤ a.n ∧ a.n ≤ 5 ∧ Sorted a.es ∧ a.al = ev ∧ a.es.length ≤ 25 ∧ a.ms.length ≤ 5 := by
  obtain ⟨n, hn0, hn5, hn⟩ : ∃ n : Nat, 0 < n ∧ n ≤ 5 ∧ W (1 + W (s.tmod 5)) = (n : Int) := by
    refine ⟨(1 + s % 5).toNat, by omega, by omega, ?_⟩
    rw [Int.tmod_eq_emod_of_nonneg hs.1, W_of (x := s % 5) (by omega) (by omega), W_of (by omega) (by omega)]
    omega
  have hn2 : W ((n : Int) + 2) = ((n + 2 : Nat) : Int) := by rw [show (n : Int) + 2 = ((n + 2 : Nat) : Int) by omega, W_nat (by omega)]
  have key : ∃ o : List Int × List (Int × Int × Int), iter (m_overseerlaw03_Make_l1 ev (s, m, g)) (0, ([] : List Int), ([] : List (Int × Int × Int))) = some o ∧ o.1.length ≤ 5 ∧ ∃ es : List Ed, o.2 = es.map edP ∧ es.length ≤ 25 ∧ ∀ x ∈ es, 0 ≤ x.t ∧ x.t < (n : Int) := by
    refine iter_inv (f := m_overseerlaw03_Make_l1 ev (s, m, g)) (fun i t => t.1 = (i : Int) ∧ t.2.1.length ≤ i ∧ ∃ es : List Ed, t.2.2 = es.map edP ∧ es.length ≤ 5 * i ∧ ∀ x ∈ es, 0 ≤ x.t ∧ x.t < (n : Int)) _ n 0 (by omega) (fun i t hi ⟨e1, e2, es, e3, e4, e5⟩ => ?_) (fun t ⟨e1, e2, es, e3, e4, e5⟩ => ?_) (by omega) _ ⟨rfl, by simp, [], rfl, by simp, fun x hx => by cases hx⟩
    · obtain ⟨t1, t2, t3⟩ := t
      dsimp only at e1 e2 e3 e4
      subst e1; subst e3
      have hj : ∀ l : List Int, l.length ≤ i + 1 → ∃ s', m_overseerlaw03_Make_j1 ev (s, m, g) ((i : Int), t2, es.map edP) l = some (.inl s') ∧ s'.1 = ((i + 1 : Nat) : Int) ∧ s'.2.1.length ≤ i + 1 ∧ ∃ es : List Ed, s'.2.2 = es.map edP ∧ es.length ≤ 5 * (i + 1) ∧ ∀ x ∈ es, 0 ≤ x.t ∧ x.t < (n : Int) := by
        intro l hl
        obtain ⟨o, h1, h2⟩ := iter_inv (f := m_overseerlaw03_Make_l2 ev (s, m, g) ((i : Int), t2, es.map edP)) (fun k t => t.1 = (k : Int) ∧ ∃ es' : List Ed, t.2 = es'.map edP ∧ es'.length ≤ es.length + k ∧ ∀ x ∈ es', 0 ≤ x.t ∧ x.t < (n : Int)) (fun o => ∃ es' : List Ed, o = es'.map edP ∧ es'.length ≤ es.length + 5 ∧ ∀ x ∈ es', 0 ≤ x.t ∧ x.t < (n : Int)) ev.length 0 (by omega) (fun k t hk ⟨g1, es', g3, g4, g5⟩ => by
            obtain ⟨u1, u2⟩ := t
            dsimp only at g1 g3
            subst g1; subst g3
            have hj2 : ∀ l : List (Int × Int × Int), m_overseerlaw03_Make_j2 ((k : Int), es'.map edP) l = some (.inl (((k + 1 : Nat) : Int), l)) := fun l => by
              rw [m_overseerlaw03_Make_j2]; dsimp only; rw [nxt (by omega)]
            left
            have hlt : i * 5 + k * 1 < (cells25 g).length := by show _ < 25; omega
            obtain ⟨v, hcell, hv⟩ : ∃ v, (cells25 g)[i * 5 + k * 1]? = some v ∧ 0 ≤ v ∧ v < 256 := ⟨_, List.getElem?_eq_getElem hlt, hg _ (List.getElem_mem hlt)⟩
            rw [cells25] at hcell
            rw [m_overseerlaw03_Make_l2]
            dsimp only
            rw [if_pos (by simp; omega), show rng (i : Int) 5 = some () from if_pos (by simp; omega), Option.bind_some, show rng (k : Int) 5 = some () from if_pos (by simp; omega), Option.bind_some, Int.toNat_natCast, Int.toNat_natCast, hcell, Option.bind_some, hn, hn2, show nz ((n + 2 : Nat) : Int) = some () from if_neg (by omega), Option.bind_some, W_of (x := v) (by omega) (by omega), Int.tmod_eq_emod_of_nonneg hv.1]
            have hm0 := Int.emod_nonneg v (show ((n + 2 : Nat) : Int) ≠ 0 by omega)
            by_cases hlt2 : v % ((n + 2 : Nat) : Int) < (n : Int)
            · rw [if_pos (decide_eq_true hlt2), idx_at hk, Option.bind_some, app_eq (by rw [List.length_map, List.length_cons, List.length_nil]; omega), Option.bind_some, hj2]
              refine ⟨_, rfl, rfl, es' ++ [⟨(i : Int), ev[k], v % ((n + 2 : Nat) : Int)⟩], by simp [edP], by simp; omega, fun x hx => ?_⟩
              rcases List.mem_append.1 hx with h | h
              · exact g5 x h
              · rw [List.mem_singleton.1 h]; exact ⟨hm0, hlt2⟩
            · rw [if_neg (by simpa using hlt2), hj2]
              exact ⟨_, rfl, rfl, es', rfl, by omega, g5⟩) (fun t ⟨g1, es', g3, g4, g5⟩ => by
            obtain ⟨u1, u2⟩ := t
            dsimp only at g1 g3
            subst g1; subst g3
            rw [m_overseerlaw03_Make_l2]
            dsimp only
            rw [if_neg (by simp)]
            exact ⟨_, rfl, es', rfl, by omega, g5⟩) (by omega) (0, es.map edP) ⟨rfl, es, rfl, by omega, e5⟩
        obtain ⟨es', g1, g2, g3⟩ := h2
        rw [m_overseerlaw03_Make_j1]
        dsimp only
        rw [h1, Option.bind_some, nxt (by omega)]
        exact ⟨_, rfl, rfl, hl, es', g1, by omega, g3⟩
      left
      rw [m_overseerlaw03_Make_l1]
      dsimp only
      rw [hn, if_pos (by simp; omega), show ng (i : Int) = some () from if_neg (by omega), Option.bind_some]
      split
      · rw [app_eq (by simp; omega), Option.bind_some]
        exact hj _ (by simp; omega)
      · exact hj _ (by omega)
    · obtain ⟨t1, t2, t3⟩ := t
      dsimp only at e1 e2 e3 e4
      subst e1; subst e3
      rw [m_overseerlaw03_Make_l1]
      dsimp only
      rw [hn, if_neg (by simp)]
      exact ⟨_, rfl, by dsimp only; omega, es, rfl, by omega, e5⟩
  obtain ⟨o, h1, h2, es, h3, h4, h5⟩ := key
  have hA : A3 ⟨ev, n, o.1, es⟩ n := ⟨by omega, h5, by show es.length ≤ _; omega, by show ev.length ≤ _; omega, by show o.1.length ≤ _; omega⟩
  have hal : setErr 32 none ev = 0 := setErr_ok ie he (fun q hq => by cases hq)
  obtain ⟨r1, r2, r3, r4, r5⟩ := canon3_right (a := ⟨ev, n, o.1, es⟩) (n := n) rfl hn0 h5 ie hal (by omega)
  refine ⟨canon3 ⟨ev, n, o.1, es⟩, ?_, r1, r2, by omega, r4, r5, ?_, ?_⟩
  · rw [m_overseerlaw03_Make]
    dsimp only
    rw [if_neg (by simp; omega), rempty_eq (by omega), Option.bind_some]
    dsimp only
    rw [h1, Option.bind_some, hn]
    obtain ⟨o1, o2⟩ := o
    dsimp only at h3
    subst h3
    rw [show m_overseerref03_Canonical (ev, (n : Int), o1, es.map edP) = _ from canon_eq (a := ⟨ev, n, o1, es⟩) hA rfl hn0]
    rfl
  · have h6 := rows_len (a := ⟨ev, n, o.1, es⟩) (foundL ⟨ev, n, o.1, es⟩) (foundL ⟨ev, n, o.1, es⟩).length
    have h7 : ((foundL ⟨ev, n, o.1, es⟩).length : Int) ≤ n := r3
    have h8 : (foundL ⟨ev, n, o.1, es⟩).length * ev.length ≤ 5 * 5 := Nat.mul_le_mul (by omega) hel
    exact Nat.le_trans h6 h8
  · have h7 : ((foundL ⟨ev, n, o.1, es⟩).length : Int) ≤ n := r3
    show (rrMs _ _).length ≤ 5
    rw [rrMs, List.length_map]
    exact Nat.le_trans (List.length_filter_le ..) (by rw [List.length_range]; omega)
end Go.Proofs.Ytkkemchihllklaa

namespace Go.Proofs.Ytkkemchihllklaa
open Go Go.RowKit

/-- The first place whose element has a property. -/
theorem indexF_eq {xs : List Int} {p : Int → Option Bool} {q : Int → Bool} (hl : xs.length < 4611686018427387904) (hp : ∀ x ∈ xs, p x = some (q x)) : m_slices_IndexFunc_int xs p = some (if xs.any q = true then ((xs.findIdx q : Nat) : Int) else -1) := by
  have h := iter_scan (f := m_slices_IndexFunc_int_l1 xs p) (xs := xs) (fun i (_ : Unit) => (i : Int)) (fun i _ y => if q y then .inr (.inr (i : Int)) else .inl ()) (fun _ => .inl ()) (fun _ _ => True) (by omega) (fun i h _ _ => by
      rw [m_slices_IndexFunc_int_l1, if_pos (ct_lt h), idx_at h, Option.bind_some, hp _ (List.getElem_mem h), Option.bind_some, nxt (by omega)]
      refine ⟨fun s' e => ?_, fun o e => ?_⟩
      · split at e
        · cases e
        · rename_i h1; rw [if_neg h1]; exact ⟨rfl, trivial⟩
      · split at e
        · rename_i h1; rw [if_pos h1]; cases e; rfl
        · cases e) (fun _ _ => by rw [m_slices_IndexFunc_int_l1, if_neg ct_ge]) (s := ()) trivial
  have key : ∀ (ys : List Int) (i : Nat), scanL (O := Unit ⊕ Int) (fun i (_ : Unit) y => if q y then .inr (.inr (i : Int)) else .inl ()) (fun _ => .inl ()) i ys () = if ys.any q = true then .inr ((i + ys.findIdx q : Nat) : Int) else .inl () := by
    intro ys
    induction ys with
    | nil => intro i; rfl
    | cons y ys ih =>
      intro i
      rw [scanL, List.any_cons, List.findIdx_cons]
      cases hy : q y with
      | true => rfl
      | false =>
        rw [if_neg (by simp)]
        dsimp only
        rw [ih, Bool.false_or, cond_false]
        split
        · congr 2; omega
        · rfl
  rw [m_slices_IndexFunc_int, show iter (m_slices_IndexFunc_int_l1 xs p) 0 = _ from h, Option.bind_some, key]
  by_cases hm : xs.any q = true
  · rw [if_pos hm, if_pos hm]; simp
  · rw [if_neg hm, if_neg hm]
theorem set_app {xs ys : List Int} {v : Int} {n : Nat} (h : xs.length = n) (hy : 0 < ys.length) : (xs ++ ys).set n v = xs ++ [v] ++ ys.drop 1 := by
  subst h
  rw [List.set_append_right _ _ (Nat.le_refl _), Nat.sub_self]
  cases ys with
  | nil => cases hy
  | cons y ys => simp
/-- What is left of a list. -/
theorem deleteF_eq {xs : List Int} {p : Int → Option Bool} {q : Int → Bool} (hl : xs.length < 4611686018427387904) (hp : ∀ x ∈ xs, p x = some (q x)) : ∃ ys, m_slices_DeleteFunc_int xs p = some (xs.filter (fun x => !q x), ys) ∧ ys.length = xs.length := by
  rw [m_slices_DeleteFunc_int, indexF_eq hl hp, Option.bind_some]
  by_cases hm : xs.any q = true
  · rw [if_pos hm]
    have hlt : xs.findIdx q < xs.length := List.findIdx_lt_length_of_exists (by simpa [List.any_eq_true] using hm)
    have hpre : (xs.take (xs.findIdx q)).filter (fun x => !q x) = xs.take (xs.findIdx q) := by
      refine List.filter_eq_self.2 fun x hx => ?_
      obtain ⟨k, hk, rfl⟩ := List.mem_iff_getElem.1 hx
      rw [List.length_take] at hk
      rw [List.getElem_take]
      have := List.not_of_lt_findIdx (p := q) (xs := xs) (i := k) (by omega)
      simpa using this
    generalize hj0 : xs.findIdx q = j0 at hlt hpre
    have hq0 : q xs[j0] = true := by
      have := List.findIdx_getElem (xs := xs) (p := q) (w := by rw [hj0]; exact hlt)
      simpa [hj0] using this
    rw [if_neg (by simp), show W ((j0 : Int) + 1) = ((j0 + 1 : Nat) : Int) from nxt (by omega)]
    have hi := iter_inv (f := m_slices_DeleteFunc_int_l1 p) (fun j t => j0 + 1 + j ≤ xs.length ∧ t.1 = ((j0 + 1 + j : Nat) : Int) ∧ ∃ r : List Int, t.2.1 = ((((xs.take (j0 + 1 + j)).filter fun x => !q x).length : Nat) : Int) ∧ t.2.2 = (xs.take (j0 + 1 + j)).filter (fun x => !q x) ++ r ++ xs.drop (j0 + 1 + j) ∧ ((xs.take (j0 + 1 + j)).filter fun x => !q x).length + r.length = j0 + 1 + j ∧ 0 < r.length)
        (fun o => ∃ r : List Int, o.1 = (((xs.filter fun x => !q x).length : Nat) : Int) ∧ o.2 = xs.filter (fun x => !q x) ++ r ∧ (xs.filter fun x => !q x).length + r.length = xs.length)
        (xs.length - (j0 + 1)) 0 (by omega) (fun j t hj ⟨e0, e1, r, e2, e3, e4, e5⟩ => by
          obtain ⟨t1, t2, t3⟩ := t
          dsimp only at e1 e2 e3
          subst e1; subst e2; subst e3
          left
          have hlt2 : j0 + 1 + j < xs.length := by omega
          generalize hF : (xs.take (j0 + 1 + j)).filter (fun x => !q x) = F at e4
          have hlen : (F ++ r ++ xs.drop (j0 + 1 + j)).length = xs.length := by rw [List.length_append, List.length_append, List.length_drop]; omega
          have hat : (F ++ r ++ xs.drop (j0 + 1 + j))[j0 + 1 + j]'(by omega) = xs[j0 + 1 + j] := by
            rw [List.getElem_append_right (by rw [List.length_append]; omega), List.getElem_drop]
            congr 1; rw [List.length_append, e4, Nat.sub_self]; rfl
          have htk : (xs.take (j0 + 1 + (j + 1))).filter (fun x => !q x) = F ++ (if q xs[j0 + 1 + j] then [] else [xs[j0 + 1 + j]]) := by
            rw [show j0 + 1 + (j + 1) = j0 + 1 + j + 1 by omega, List.take_succ_eq_append_getElem hlt2, List.filter_append, hF]
            cases h : q xs[j0 + 1 + j] <;> simp [h]
          have hdr : xs.drop (j0 + 1 + j) = xs[j0 + 1 + j] :: xs.drop (j0 + 1 + (j + 1)) := by rw [List.drop_eq_getElem_cons hlt2]; rfl
          rw [m_slices_DeleteFunc_int_l1]
          dsimp only
          rw [if_pos (by rw [hlen]; exact ct_lt hlt2), idx_at (by omega), Option.bind_some, hat, hp _ (List.getElem_mem hlt2), Option.bind_some]
          cases hc : q xs[j0 + 1 + j] with
          | true =>
            rw [if_neg (by simp), m_slices_DeleteFunc_int_j1]
            dsimp only
            rw [nxt (by omega)]
            rw [hc, if_pos rfl, List.append_nil] at htk
            refine ⟨_, rfl, by omega, rfl, r ++ [xs[j0 + 1 + j]], ?_, ?_, ?_, ?_⟩
            · rw [htk]
            · rw [htk, hdr]; simp
            · rw [htk, List.length_append, List.length_cons, List.length_nil]; omega
            · rw [List.length_append]; omega
          | false =>
            rw [if_pos (by simp), idx_at (show F.length < _ by omega), Option.bind_some, upd, if_pos ⟨by omega, by omega⟩, Option.bind_some, m_slices_DeleteFunc_int_j1]
            dsimp only
            rw [nxt (by omega), nxt (by omega), Int.toNat_natCast]
            rw [hc, if_neg (by simp)] at htk
            refine ⟨_, rfl, by omega, rfl, r.drop 1 ++ [xs[j0 + 1 + j]], ?_, ?_, ?_, ?_⟩
            · rw [htk, List.length_append]; rfl
            · rw [htk]
              dsimp only
              rw [List.append_assoc F r, set_app rfl (by rw [List.length_append]; omega), hdr, List.drop_append_of_le_length (by omega)]
              simp
            · rw [htk, List.length_append, List.length_append, List.length_drop, List.length_cons, List.length_nil]; omega
            · rw [List.length_append, List.length_cons]; omega) (fun t ⟨e0, e1, r, e2, e3, e4, e5⟩ => by
          obtain ⟨t1, t2, t3⟩ := t
          dsimp only at e1 e2 e3
          subst e1; subst e2; subst e3
          have he : j0 + 1 + (xs.length - (j0 + 1)) = xs.length := by omega
          rw [he] at e4 ⊢
          rw [List.take_length] at e4 ⊢
          rw [List.drop_length, List.append_nil, m_slices_DeleteFunc_int_l1]
          dsimp only
          rw [if_neg (by rw [List.length_append, e4]; exact ct_ge)]
          exact ⟨_, rfl, r, rfl, rfl, e4⟩) (by omega) (((j0 + 1 : Nat) : Int), (j0 : Int), xs) ⟨by omega, rfl, [xs[j0]], by
            rw [show j0 + 1 + 0 = j0 + 1 by omega, List.take_succ_eq_append_getElem hlt, List.filter_append, hpre, List.filter_cons_of_neg (by simpa using hq0), List.filter_nil, List.append_nil, List.length_take]
            dsimp only; omega, by
            rw [show j0 + 1 + 0 = j0 + 1 by omega, List.take_succ_eq_append_getElem hlt, List.filter_append, hpre, List.filter_cons_of_neg (by simpa using hq0), List.filter_nil, List.append_nil, ← List.take_succ_eq_append_getElem hlt, List.take_append_drop], by
            rw [show j0 + 1 + 0 = j0 + 1 by omega, List.take_succ_eq_append_getElem hlt, List.filter_append, hpre, List.filter_cons_of_neg (by simpa using hq0), List.filter_nil, List.append_nil, List.length_take, List.length_cons, List.length_nil]
            omega, by simp⟩
    obtain ⟨o, h1, r, h2, h3, h4⟩ := hi
    obtain ⟨o1, o2⟩ := o
    dsimp only at h2 h3
    subst h2; subst h3
    generalize xs.filter (fun x => !q x) = F at h1 h4
    rw [h1, Option.bind_some]
    dsimp only
    rw [slc, if_pos ⟨by omega, by rw [List.length_append]; omega, by omega⟩, Option.bind_some, clrG, if_pos (by rw [List.length_append]; omega), Option.bind_some, Int.toNat_natCast, List.take_left' rfl, slc, if_pos ⟨by omega, by omega, by rw [List.length_append]; omega⟩, Option.bind_some]
    refine ⟨F ++ List.replicate ((F ++ r).length - F.length) 0, ?_, ?_⟩
    · rw [Int.toNat_natCast, List.take_left' rfl]; rfl
    · rw [List.length_append, List.length_replicate, List.length_append]; omega
  · rw [if_neg hm, if_pos (by simp)]
    have hn : xs.filter (fun x => !q x) = xs := by
      refine List.filter_eq_self.2 fun x hx => ?_
      have h2 : xs.any q = false := by simpa using hm
      have := List.any_eq_false.1 h2 x hx
      simpa using this
    rw [hn]
    exact ⟨_, rfl, rfl⟩
theorem subB_of {xs ys : List Int} (h : ∀ x ∈ xs, x ∈ ys) : subB xs ys = true := List.all_eq_true.2 fun x hx => hasB_true.2 (h x hx)
/-- A sketch's cells are bytes. -/
abbrev Sketch : Type := Int × (Int × Int × ((Int × Int × Int × Int × Int) × (Int × Int × Int × Int × Int) × (Int × Int × Int × Int × Int) × (Int × Int × Int × Int × Int) × (Int × Int × Int × Int × Int))) × Int
structure SkOk (x : Sketch) : Prop where
  s : 0 ≤ x.2.1.1 ∧ x.2.1.1 < 256
  g : ∀ y ∈ cells25 x.2.1.2.2, 0 ≤ y ∧ y < 256
/-- What a sketch is. -/
structure SkIn (a : Aut) (l : List Int) (n : Nat) : Prop where
  gen : GenIn a l n
  ia : Inc a.al
  ic : Inc l
  al : ∀ x ∈ a.al, 0 ≤ x ∧ x < 5
  sub : ∀ x ∈ l, x ∈ a.al
  err : a.err = 0
  so : Sorted a.es
  ms : a.ms.length ≤ 5
  n5 : n ≤ 5
theorem err_ed {a : Aut} (h : a.err = 0) : ∀ x ∈ a.es, 0 ≤ x.f ∧ x.f < a.n ∧ 0 ≤ x.t ∧ x.t < a.n ∧ x.e ∈ a.al := by
  have he : edErr a.al a.n none a.es = 0 := by
    unfold Aut.err at h
    split at h
    · rename_i h1; rw [h] at h1; exact absurd h1 (by decide)
    · split at h
      · cases h
      · split at h
        · cases h
        · split at h
          · rename_i h1; rw [h] at h1; exact absurd h1 (by decide)
          · exact h
  have key : ∀ (es : List Ed) (p : Option Ed), edErr a.al a.n p es = 0 → ∀ x ∈ es, 0 ≤ x.f ∧ x.f < a.n ∧ 0 ≤ x.t ∧ x.t < a.n ∧ x.e ∈ a.al := by
    intro es
    induction es with
    | nil => intro p _ x hx; cases hx
    | cons y es ih =>
      intro p h x hx
      rw [edErr] at h
      split at h
      · cases h
      · rename_i h1
        split at h
        · cases h
        · rename_i h2
          split at h
          · cases h
          · rcases List.mem_cons.1 hx with rfl | hx
            · have h3 : hasB a.al x.e = true := by simpa using h2
              have h4 := hasB_true.1 h3
              exact ⟨by omega, by omega, by omega, by omega, h4⟩
            · exact ih _ h x hx
  exact key a.es none he
theorem make53_ex {x : Sketch} (h : SkOk x) : ∃ (a : Aut) (l : List Int) (n : Nat), m_overseerlaw53_Make x = some (autP a, l) ∧ SkIn a l n := by
  obtain ⟨ev, h1, h2, h3, h4⟩ := events_ex x.1
  have hs : 0 ≤ x.2.1.1.tmod 5 ∧ x.2.1.1.tmod 5 < 250 := by
    rw [Int.tmod_eq_emod_of_nonneg h.s.1]; omega
  obtain ⟨a, g1, g2, g3, g4, g5, g6, g7, g8⟩ := make3_ex h2 (fun y hy => by have := h3 y hy; omega) h4 (s := x.2.1.1.tmod 5) (m := x.2.1.2.1) (g := x.2.1.2.2) hs h.g
  obtain ⟨ev2, k1, k2, k3, k4⟩ := events_ex x.2.2
  obtain ⟨ys, d1, d2⟩ := deleteF_eq (xs := ev2) (p := m_overseerlaw53_Make_1 (autP a)) (q := fun y => !hasB a.al y) (by omega) (fun y hy => by
    rw [m_overseerlaw53_Make_1, show m_slices_Contains_int (autP a).1 y = some (hasB a.al y) from contains_eq (xs := a.al) (by rw [g6]; omega)]; rfl)
  refine ⟨a, ev2.filter (fun y => !!hasB a.al y), a.n.toNat, ?_, ⟨⟨by omega, by omega, by omega, by omega, by rw [g6]; omega, ?_, ?_⟩, by rw [g6]; exact h2, ?_, by rw [g6]; exact h3, ?_, g2, g5, g8, by omega⟩⟩
  · rw [m_overseerlaw53_Make, h1, Option.bind_some, show m_overseerlaw03_Make ev ((x.2.1.1.tmod 5), x.2.1.2) = _ from g1, Option.bind_some, k1, Option.bind_some, d1, Option.bind_some, lenEq, if_pos d2]
    rfl
  · exact Nat.le_trans (List.length_filter_le ..) (by omega)
  · intro y hy
    have := err_ed g2 y hy
    omega
  · exact List.Pairwise.filter _ k2
  · intro y hy
    have := (List.mem_filter.1 hy).2
    rw [Bool.not_not] at this
    exact hasB_true.1 this
section
variable {a : Aut} {l : List Int} {n : Nat}
theorem SkIn.set32 (h : SkIn a l n) {xs : List Int} (ix : Inc xs) (hx : ∀ x ∈ xs, x ∈ a.al) : setErr 32 none xs = 0 := setErr_ok ix (fun x hm => by have := h.al x (hx x hm); omega) (fun q hq => by cases hq)
theorem SkIn.code (h : SkIn a l n) : m_generate_Generate (autP a) l = some (codeP a l n, 0) :=
  generate_eq h.gen (by have := h.ms; omega) h.err (h.set32 h.ic h.sub) (by rw [subset_eq (by have := h.gen.ct; omega) (by have := h.gen.al; omega) h.ic h.ia, subB_of h.sub])
theorem SkIn.start (h : SkIn a l n) : m_instruction_Start (codeP a l n).1 = some ((List.replicate (l.length + 1) false, true :: List.replicate n false), 0) := gstart_eq h.gen h.ia h.ic
theorem Shows.alarm (h : SkIn a l n) {st : List Bool × List Bool} {s : Nat} {al : Bool} (hv : Shows a l n s al st) : m_generate_Alarmed (codeP a l n) st = some (al, 0) := by
  rw [alarmed_eq (out := st.1) (mem := st.2) h.gen hv.ho hv.hm, hv.ha]
end
end Go.Proofs.Ytkkemchihllklaa

namespace Go.Proofs.Ytkkemchihllklaa
open Go Go.RowKit Go.ChangeShapes Go.WideShapes Go.ChangeAt Go.Deep

section
variable {H : Type} {enc : TypeId × Value → H} {w : World} {base : Nat} {v : Value} {d : DataW H} {ps : List MemPlace}
/-- The types of a sketch's cells. -/
def skT : List TypeId := [45] ++ List.replicate 27 5 ++ [45]
theorem sk_types : Try.prog.cellTypes Try.prog.depth 51 = some skT := by kernel_rfl
theorem sk_cells : Try.prog.cellsOf 51 = skT.length := by kernel_rfl
set_option maxRecDepth 100000 in
/-- A sketch. -/
theorem arg_sketch (hok : Value.okWide Try.prog w .any base 51 v) : ∃ p0 : Sketch, SkOk p0 ∧ v = .agg #[.int .u8 p0.1, .int .u8 p0.2.1.1, .int .u8 p0.2.1.2.1, .int .u8 p0.2.1.2.2.1.1, .int .u8 p0.2.1.2.2.1.2.1, .int .u8 p0.2.1.2.2.1.2.2.1, .int .u8 p0.2.1.2.2.1.2.2.2.1, .int .u8 p0.2.1.2.2.1.2.2.2.2, .int .u8 p0.2.1.2.2.2.1.1, .int .u8 p0.2.1.2.2.2.1.2.1, .int .u8 p0.2.1.2.2.2.1.2.2.1, .int .u8 p0.2.1.2.2.2.1.2.2.2.1, .int .u8 p0.2.1.2.2.2.1.2.2.2.2, .int .u8 p0.2.1.2.2.2.2.1.1, .int .u8 p0.2.1.2.2.2.2.1.2.1, .int .u8 p0.2.1.2.2.2.2.1.2.2.1, .int .u8 p0.2.1.2.2.2.2.1.2.2.2.1, .int .u8 p0.2.1.2.2.2.2.1.2.2.2.2, .int .u8 p0.2.1.2.2.2.2.2.1.1, .int .u8 p0.2.1.2.2.2.2.2.1.2.1, .int .u8 p0.2.1.2.2.2.2.2.1.2.2.1, .int .u8 p0.2.1.2.2.2.2.2.1.2.2.2.1, .int .u8 p0.2.1.2.2.2.2.2.1.2.2.2.2, .int .u8 p0.2.1.2.2.2.2.2.2.1, .int .u8 p0.2.1.2.2.2.2.2.2.2.1, .int .u8 p0.2.1.2.2.2.2.2.2.2.2.1, .int .u8 p0.2.1.2.2.2.2.2.2.2.2.2.1, .int .u8 p0.2.1.2.2.2.2.2.2.2.2.2.2, .int .u8 p0.2.2] := by
  obtain ⟨cs, rfl, h1, h2⟩ := op_agg Try.underlying51 sk_types sk_cells hok
  have h1' : cs.size = 29 := h1
  obtain ⟨f, hf⟩ := choose_lt (α := Int) (n := 29) (p := fun i n => cs[i]? = some (.int .u8 n) ∧ 0 ≤ n ∧ n < 256) (fun i hi => by
    obtain ⟨u, hu, hu2⟩ : ∃ u, skT[i]? = some u ∧ (u = 45 ∨ u = 5) := by
      refine ⟨skT[i]'hi, List.getElem?_eq_getElem (l := skT) hi, ?_⟩
      have := List.getElem_mem (l := skT) hi
      generalize skT[i]'hi = u at this
      simp only [skT, List.mem_append, List.mem_singleton, List.mem_replicate] at this
      rcases this with (h | h) | h
      · exact .inl h
      · exact .inr h.2
      · exact .inl h
    obtain ⟨c, g1, g2⟩ := h2 i u hu
    have g2' : Cell.okWide Try.prog w .any base 5 c := by
      rcases hu2 with rfl | rfl
      · simp only [Cell.okWide, Cell.ok, Try.underlying45, Try.underlying5] at g2 ⊢
        exact g2
      · exact g2
    obtain ⟨n, rfl, g3⟩ := cell_u8 g2'
    exact ⟨n, g1, g3⟩)
  have hcs : cs = ((List.range 29).map fun i => Value.int .u8 (f i)).toArray := by
    apply Array.ext_getElem?
    intro i
    by_cases hi : i < 29
    · rw [(hf i hi).1]; simp [hi]
    · rw [Array.getElem?_eq_none (by omega), Array.getElem?_eq_none (by simp; omega)]
  refine ⟨(f 0, (f 1, f 2, ((f 3, f 4, f 5, f 6, f 7), (f 8, f 9, f 10, f 11, f 12), (f 13, f 14, f 15, f 16, f 17), (f 18, f 19, f 20, f 21, f 22), (f 23, f 24, f 25, f 26, f 27))), f 28), ⟨(hf 1 (by omega)).2, fun y hy => ?_⟩, by rw [hcs]; rfl⟩
  have hy2 : y ∈ (List.range 25).map fun i => f (i + 3) := hy
  obtain ⟨i, hi, rfl⟩ := List.mem_map.1 hy2
  have := List.mem_range.1 hi
  exact (hf (i + 3) (by omega)).2
end
end Go.Proofs.Ytkkemchihllklaa

namespace Go.Proofs.Ytkkemchihllklaa
open Go Go.RowKit
noncomputable def m_slices_Equal_Edge_l1 (p0 : List (Int × Int × Int)) (p1 : List (Int × Int × Int)) (st19 : Int) : Option (Int ⊕ (Unit ⊕ Unit)) :=
  if decide (st19 < (p0.length : Int)) then
    (idx p0 st19).bind fun x30 =>
    (idx p1 st19).bind fun x36 =>
    if (!(x30.1 == x36.1 && (x30.2.1 == x36.2.1 && (x30.2.2 == x36.2.2 && true)))) then
      some (.inr (.inr (())))
    else
      some (.inl (W (st19 + 1)))
  else
    some (.inr (.inl ()))
/-- What api.Edge> computes. -/
noncomputable def m_slices_Equal_Edge (p0 : List (Int × Int × Int)) (p1 : List (Int × Int × Int)) : Option Bool :=
  if ((p0.length : Int) != (p1.length : Int)) then
    some false
  else
    (iter (m_slices_Equal_Edge_l1 p0 p1) 0).bind fun o19 =>
    match o19 with
    | .inl u21 =>
      some true
    | .inr (u24) =>
      some false
set_option maxRecDepth 100000 in
set_option maxHeartbeats 8000000 in
theorem m_slices_Equal_Edge_c {s : Sig} {p0 : List (Int × Int × Int)} {p1 : List (Int × Int × Int)} {a1 : Option Addr} {c1 : Nat} {a2 : Option Addr} {c2 : Nat} {r : Bool} (h1 : RdL (rP (rK .i64) (rP (rK .i64) (rK .i64))) s a1 c1 p0) (h2 : RdL (rP (rK .i64) (rP (rK .i64) (rK .i64))) s a2 c2 p1) (hm : m_slices_Equal_Edge p0 p1 = some r) :
    Calls Try.prog 59 #[.slice a1 p0.length c1, .slice a2 p1.length c2] s.w (RetS No s fun v s' => v = .bool r) := by
 unfold m_slices_Equal_Edge at hm
 obtain ⟨N, hN, hNb⟩ := s.fresh
 have m0 : Mv (Up N No) s s := Mv.refl _ _
 refine E.entry Try.func59 rfl Try.ntmps59 rfl rfl (E.seq (E.reg (L.as Wt.no rfl rfl (L.nil (X.seqN (E.seq (E.seq (E.reg (L.mv Wt.no rfl rfl (L.len sl24 Wt.no rfl rfl (L.mv Wt.no rfl rfl (L.len sl24 Wt.no rfl rfl (L.bi Wt.no rfl rfl rfl rfl (L.nil (X.seqN ?_)))))))))))))))
 rcases ifS hm with ⟨hc, hm⟩ | ⟨hc, hm⟩
 ·refine E.cT rfl hc (E.seq (E.reg (L.as Wt.no rfl rfl (L.nil (X.seqN (E.ret (X.seqR ?_)))))))
  obtain rfl := Option.some.inj hm
  exact X.rt (.inl rfl) Try.results59 (Rs.tmp rfl Rs.nil) rfl ⟨_, (s).ren N (fun _ => 0), rfl, rfl, m0.ren hNb, rfl⟩
 ·refine E.cF rfl hc (E.skip (X.seqN (E.seq (E.seq (E.reg (L.mv Wt.no rfl rfl (L.len sl24 Wt.no rfl rfl (L.mv Wt.no rfl rfl (L.nil (X.seqN (E.block ?_)))))))))))
  obtain ⟨o19, eo19, hm⟩ := bindS hm
  refine E.cut (x := .exit 0) (fun e w => ∃ (s22 : Sig) (u21 : Unit), o19 = .inl u21 ∧ Mv (Up N No) s s22 ∧ e = [] ∧ w = s22.w) ?_ ?_
  ·rintro _ _ ⟨s22, u21, rfl, m0, rfl, rfl⟩
   dsimp only at hm
   refine X.blkE (X.seqN (E.seq (E.reg (L.as Wt.no rfl rfl (L.nil (X.seqN (E.ret ?_)))))))
   obtain rfl := Option.some.inj hm
   exact X.rt (.inl rfl) Try.results59 (Rs.tmp rfl Rs.nil) rfl ⟨_, (s22).ren N (fun _ => 0), rfl, rfl, m0.ren hNb, rfl⟩
  intro K23
  refine E.cut (x := .ret) (fun e w => ∃ (s25 : Sig) (u24 : Unit), o19 = .inr (u24) ∧ Mv (Up N No) s s25 ∧ e = [(4, .bool false)] ∧ w = s25.w) ?_ ?_
  ·rintro _ _ ⟨s25, u24, rfl, m0, rfl, rfl⟩
   dsimp only at hm
   refine X.blkR (X.seqR ?_)
   obtain rfl := Option.some.inj hm
   exact X.rt (.inl rfl) Try.results59 (Rs.tmp rfl Rs.nil) rfl ⟨_, (s25).ren N (fun _ => 0), rfl, rfl, m0.ren hNb, rfl⟩
  intro K26
  refine E.iter (fun (st19 : Int) (e : List (Nat × Value)) (w : World) => ∃ (s20 : Sig), Mv (Up N No) s s20 ∧ RdL (rP (rK .i64) (rP (rK .i64) (rK .i64))) s20 a1 c1 p0 ∧ RdL (rP (rK .i64) (rP (rK .i64) (rK .i64))) s20 a2 c2 p1 ∧ e = [(13, .int .i64 st19), (12, .int .i64 (p0.length : Int)), (0, .slice a1 p0.length c1), (1, .slice a2 p1.length c2)] ∧ w = s20.w) eo19 ⟨s, m0, h1, h2, rfl, rfl⟩ (Sub.rf rfl) ?_
  rintro st19 res19 hm ih19 ho19 _ _ ⟨s20, m0, h1, h2, rfl, rfl⟩
  unfold m_slices_Equal_Edge_l1 at hm
  refine E.seq (E.reg (L.bi Wt.no rfl rfl rfl rfl (L.nil (X.seqN (E.seq ?_)))))
  rcases ifS hm with ⟨hc, hm⟩ | ⟨hc, hm⟩
  ·refine E.cT rfl hc (E.skip (X.seqN (E.seq (E.block (E.seq (E.reg (L.mv Wt.no rfl rfl (L.as Wt.no rfl rfl (L.nil (X.seqN (E.seq ?_)))))))))))
   obtain ⟨x30, ex30, hm⟩ := bindS hm
   obtain ⟨x36, ex36, hm⟩ := bindS hm
   refine E.draw [[], [], [0, 1], [0, 1, 2], [], [], [4, 5], [4, 5, 6], [0, 1, 2, 3, 4, 5, 6, 7]] (fun D e sx => Mv No s20 sx ∧ Sub [(5, .int .i64 st19), (13, .int .i64 st19), (12, .int .i64 (p0.length : Int)), (0, .slice a1 p0.length c1), (1, .slice a2 p1.length c2)] e ∧ (D 0 = true → (Env.get e 16 = some (.slice a1 p0.length c1))) ∧ (D 1 = true → (Env.get e 17 = some (.int .i64 st19))) ∧ (D 2 = true → (∃ (b31 : Nat) (o31 : Nat), Env.get e 18 = some (.pointer (some ⟨b31, o31, none⟩)) ∧ Mem sx 0 b31 o31 [.int .i64 x30.1, .int .i64 x30.2.1, .int .i64 x30.2.2])) ∧ (D 3 = true → (Env.get e 19 = some (.agg #[.int .i64 x30.1, .int .i64 x30.2.1, .int .i64 x30.2.2]))) ∧ (D 4 = true → (Env.get e 20 = some (.slice a2 p1.length c2))) ∧ (D 5 = true → (Env.get e 21 = some (.int .i64 st19))) ∧ (D 6 = true → (∃ (b37 : Nat) (o37 : Nat), Env.get e 22 = some (.pointer (some ⟨b37, o37, none⟩)) ∧ Mem sx 0 b37 o37 [.int .i64 x36.1, .int .i64 x36.2.1, .int .i64 x36.2.2])) ∧ (D 7 = true → (Env.get e 23 = some (.agg #[.int .i64 x36.1, .int .i64 x36.2.1, .int .i64 x36.2.2]))) ∧ (D 8 = true → (Env.get e 24 = some (.bool (!(x30.1 == x36.1 && (x30.2.1 == x36.2.1 && (x30.2.2 == x36.2.2 && true)))))))) (by kernel_rfl) (by kernel_rfl) (by kernel_rfl) ?_ ?_ ?_
   ·intro sz mz
    exact ⟨mz, (Sub.rf rfl), nofun, nofun, nofun, nofun, nofun, nofun, nofun, nofun, nofun⟩
   ·refine ⟨?_, ?_, ?_, ?_, ?_, ?_, ?_, ?_, ?_, trivial⟩
    ·rintro D e s27 ⟨im, ib, i0, t_⟩ hk hf ha
     have kn : Kn e [(0, .slice a1 p0.length c1)] := ⟨(ib 0 _ rfl), trivial⟩
     exact L.kns _ kn (L.mv Wt.no rfl rfl (L.nil (X.dk kn ⟨im, Sub.fresh ib rfl, fun _ => rfl, t_⟩)))
    ·rintro D e s28 ⟨im, ib, i0, i1, t_⟩ hk hf ha
     have kn : Kn e [(5, .int .i64 st19)] := ⟨(ib 5 _ rfl), trivial⟩
     exact L.kns _ kn (L.mv Wt.no rfl rfl (L.nil (X.dk kn ⟨im, Sub.fresh ib rfl, i0, fun _ => rfl, t_⟩)))
    ·rintro D e s29 ⟨im, ib, i0, i1, i2, t_⟩ hk hf ha
     obtain ⟨d0, d1, -⟩ := ha
     have g0_ := i0 d0
     have g1_ := i1 d1
     have h1 := h1.mono (im.le no_No)
     have kn : Kn e [(16, .slice a1 p0.length c1), (17, .int .i64 st19)] := ⟨g0_, g1_, trivial⟩
     refine L.kns _ kn (L.ix (r := (rP (rK .i64) (rP (rK .i64) (rK .i64)))) sl24 h1 Wt.no rfl rfl ex30 rfl fun b31 o31 cc31 me31 rd31 => ?_)
     obtain ⟨_, _, rfl, rfl, ⟨_, _, rfl, rfl, rfl⟩⟩ := rd31
     exact L.nil (X.dk kn ⟨im, Sub.fresh ib rfl, i0, i1, fun _ => ⟨b31, o31, rfl, me31⟩, t_⟩)
    ·rintro D e s32 ⟨im, ib, i0, i1, i2, i3, t_⟩ hk hf ha
     obtain ⟨d0, d1, d2, -⟩ := ha
     obtain ⟨b31, o31, g2_, me31⟩ := i2 d2
     have kn : Kn e [(18, .pointer (some ⟨b31, o31, none⟩))] := ⟨g2_, trivial⟩
     exact L.kns _ kn (L.lg (j := 0) (cs := [.int .i64 x30.1, .int .i64 x30.2.1, .int .i64 x30.2.2]) me31 ag28 Wt.no rfl rfl rfl rfl rfl (L.nil (X.dk kn ⟨im, Sub.fresh ib rfl, i0, i1, i2, fun _ => rfl, t_⟩)))
    ·rintro D e s33 ⟨im, ib, i0, i1, i2, i3, i4, t_⟩ hk hf ha
     have kn : Kn e [(1, .slice a2 p1.length c2)] := ⟨(ib 1 _ rfl), trivial⟩
     exact L.kns _ kn (L.mv Wt.no rfl rfl (L.nil (X.dk kn ⟨im, Sub.fresh ib rfl, i0, i1, i2, i3, fun _ => rfl, t_⟩)))
    ·rintro D e s34 ⟨im, ib, i0, i1, i2, i3, i4, i5, t_⟩ hk hf ha
     have kn : Kn e [(5, .int .i64 st19)] := ⟨(ib 5 _ rfl), trivial⟩
     exact L.kns _ kn (L.mv Wt.no rfl rfl (L.nil (X.dk kn ⟨im, Sub.fresh ib rfl, i0, i1, i2, i3, i4, fun _ => rfl, t_⟩)))
    ·rintro D e s35 ⟨im, ib, i0, i1, i2, i3, i4, i5, i6, t_⟩ hk hf ha
     obtain ⟨d4, d5, -⟩ := ha
     have g4_ := i4 d4
     have g5_ := i5 d5
     have h2 := h2.mono (im.le no_No)
     have kn : Kn e [(20, .slice a2 p1.length c2), (21, .int .i64 st19)] := ⟨g4_, g5_, trivial⟩
     refine L.kns _ kn (L.ix (r := (rP (rK .i64) (rP (rK .i64) (rK .i64)))) sl24 h2 Wt.no rfl rfl ex36 rfl fun b37 o37 cc37 me37 rd37 => ?_)
     obtain ⟨_, _, rfl, rfl, ⟨_, _, rfl, rfl, rfl⟩⟩ := rd37
     exact L.nil (X.dk kn ⟨im, Sub.fresh ib rfl, i0, i1, i2, i3, i4, i5, fun _ => ⟨b37, o37, rfl, me37⟩, t_⟩)
    ·rintro D e s38 ⟨im, ib, i0, i1, i2, i3, i4, i5, i6, i7, i8⟩ hk hf ha
     obtain ⟨d4, d5, d6, -⟩ := ha
     obtain ⟨b37, o37, g6_, me37⟩ := i6 d6
     have kn : Kn e [(22, .pointer (some ⟨b37, o37, none⟩))] := ⟨g6_, trivial⟩
     exact L.kns _ kn (L.lg (j := 0) (cs := [.int .i64 x36.1, .int .i64 x36.2.1, .int .i64 x36.2.2]) me37 ag28 Wt.no rfl rfl rfl rfl rfl (L.nil (X.dk kn ⟨im, Sub.fresh ib rfl, i0, i1, i2, i3, i4, i5, i6, fun _ => rfl, i8⟩)))
    ·rintro D e s39 ⟨im, ib, i0, i1, i2, i3, i4, i5, i6, i7, i8⟩ hk hf ha
     obtain ⟨d0, d1, d2, d3, d4, d5, d6, d7, -⟩ := ha
     have g3_ := i3 d3
     have g7_ := i7 d7
     have kn : Kn e [(19, .agg #[.int .i64 x30.1, .int .i64 x30.2.1, .int .i64 x30.2.2]), (23, .agg #[.int .i64 x36.1, .int .i64 x36.2.1, .int .i64 x36.2.2])] := ⟨g3_, g7_, trivial⟩
     exact L.kns _ kn (L.nes (us := [.int .i64 x30.1, .int .i64 x30.2.1, .int .i64 x30.2.2]) (vs := [.int .i64 x36.1, .int .i64 x36.2.1, .int .i64 x36.2.2]) (b := (x30.1 == x36.1 && (x30.2.1 == x36.2.1 && (x30.2.2 == x36.2.2 && true)))) (Eqs.mk Try.underlying28 (by kernel_rfl) fun w => (eqField_cons rfl nag3.agg nag3.sz rfl rfl (run_equalIn_int _ _ _ _ _ _ _ Try.underlying3) (eqField_cons rfl nag3.agg nag3.sz rfl rfl (run_equalIn_int _ _ _ _ _ _ _ Try.underlying3) (eqField_cons rfl nag3.agg nag3.sz rfl rfl (run_equalIn_int _ _ _ _ _ _ _ Try.underlying3) rfl)))) (by kernel_rfl) Wt.no rfl rfl rfl (L.nil (X.dk kn ⟨im, Sub.fresh ib rfl, i0, i1, i2, i3, i4, i5, i6, i7, fun _ => rfl⟩)))
   ·rintro D e s40 hD ⟨im, ib, i0, i1, i2, i3, i4, i5, i6, i7, i8⟩
    have g8_ := i8 (hD 8 rfl)
    have h1 := h1.mono (im.le no_No)
    have h2 := h2.mono (im.le no_No)
    have m0 := m0.trans im.no
    refine X.sub (e' := [(24, .bool (!(x30.1 == x36.1 && (x30.2.1 == x36.2.1 && (x30.2.2 == x36.2.2 && true))))), (13, .int .i64 st19), (12, .int .i64 (p0.length : Int)), (0, .slice a1 p0.length c1), (1, .slice a2 p1.length c2)]) ?_ (Sub.cons g8_ (Sub.cons (ib 13 _ rfl) (Sub.cons (ib 12 _ rfl) (Sub.cons (ib 0 _ rfl) (Sub.cons (ib 1 _ rfl) Sub.nil)))))
    refine X.seqN ?_
    rcases ifS hm with ⟨hc, hm⟩ | ⟨hc, hm⟩
    ·refine E.cT rfl hc (E.seq (E.reg (L.as Wt.no rfl rfl (L.nil (X.seqN (E.ret (X.blkR (X.seqR (X.seqR ?_)))))))))
     have hx := ho19 _ (Option.some.inj hm).symm
     exact X.sub (K26 _ _ ⟨s40, (), hx.symm, m0, rfl, rfl⟩) (Sub.rf rfl)
    ·exact E.cF rfl hc (E.skip (X.blkN (X.seqN (E.reg (L.bi Wt.no rfl rfl rfl rfl (L.mv Wt.no rfl rfl (L.nil (X.sub (ih19 _ (Option.some.inj hm).symm _ _ ⟨s40, m0, h1, h2, rfl, rfl⟩) (Sub.rf rfl)))))))))
  ·refine E.cF rfl hc (E.exit (X.seqX (X.seqX ?_)))
   have hx := ho19 _ (Option.some.inj hm).symm
   exact X.sub (K23 _ _ ⟨s20, (), hx.symm, m0, rfl, rfl⟩) Sub.nil

theorem cf59 : Cf Try.prog 59 := Cf.mk Try.func59 (by kernel_rfl) (by kernel_rfl)
/-- What automaton.Equal computes. -/
noncomputable def m_automaton_Equal (p0 : List Int × Int × List Int × (List (Int × Int × Int))) (p1 : List Int × Int × List Int × (List (Int × Int × Int))) : Option Bool :=
  (if (p0.2.1 == p1.2.1) then
    (m_slices_Equal_int p0.1 p1.1).bind fun r31 =>
    some r31
  else
    some false).bind fun b13 =>
  (if b13 then
    (m_slices_Equal_int p0.2.2.1 p1.2.2.1).bind fun r27 =>
    some r27
  else
    some false).bind fun b16 =>
  (if b16 then
    (m_slices_Equal_Edge p0.2.2.2 p1.2.2.2).bind fun r23 =>
    some r23
  else
    some false).bind fun b19 =>
  some b19
set_option maxRecDepth 100000 in
set_option maxHeartbeats 8000000 in
theorem m_automaton_Equal_c {s : Sig} {p0 : List Int × Int × List Int × (List (Int × Int × Int))} {p1 : List Int × Int × List Int × (List (Int × Int × Int))} {a1 : Option Addr} {c1 : Nat} {a2 : Option Addr} {c2 : Nat} {a3 : Option Addr} {c3 : Nat} {a4 : Option Addr} {c4 : Nat} {a5 : Option Addr} {c5 : Nat} {a6 : Option Addr} {c6 : Nat} {r : Bool} (h1 : RdL (rK .i64) s a1 c1 p0.1) (h2 : RdL (rK .i64) s a2 c2 p0.2.2.1) (h3 : RdL (rP (rK .i64) (rP (rK .i64) (rK .i64))) s a3 c3 p0.2.2.2) (h4 : RdL (rK .i64) s a4 c4 p1.1) (h5 : RdL (rK .i64) s a5 c5 p1.2.2.1) (h6 : RdL (rP (rK .i64) (rP (rK .i64) (rK .i64))) s a6 c6 p1.2.2.2) (hm : m_automaton_Equal p0 p1 = some r) :
    Calls Try.prog 27 #[.agg #[.slice a1 p0.1.length c1, .int .i64 p0.2.1, .slice a2 p0.2.2.1.length c2, .slice a3 p0.2.2.2.length c3], .agg #[.slice a4 p1.1.length c4, .int .i64 p1.2.1, .slice a5 p1.2.2.1.length c5, .slice a6 p1.2.2.2.length c6]] s.w (RetS No s fun v s' => v = .bool r) := by
 unfold m_automaton_Equal at hm
 obtain ⟨N, hN, hNb⟩ := s.fresh
 have m0 : Mv (Up N No) s s := Mv.refl _ _
 refine E.entry Try.func27 rfl Try.ntmps27 rfl rfl (E.seq (E.reg (L.box (N + 0) Wt.no rfl rfl rfl fun b7 s8 m9 bx7 => ?_)))
 replace m0 := m0.trans m9.no
 replace h4 := h4.mono (m9.le no_No)
 replace h5 := h5.mono (m9.le no_No)
 replace h6 := h6.mono (m9.le no_No)
 replace h1 := h1.mono (m9.le no_No)
 replace h2 := h2.mono (m9.le no_No)
 replace h3 := h3.mono (m9.le no_No)
 refine L.box (N + 1) Wt.no rfl rfl rfl fun b10 s11 m12 bx10 => ?_
 replace m0 := m0.trans m12.no
 replace bx7 := bx7.mv m12 no_No
 replace h1 := h1.mono (m12.le no_No)
 replace h2 := h2.mono (m12.le no_No)
 replace h3 := h3.mono (m12.le no_No)
 replace h4 := h4.mono (m12.le no_No)
 replace h5 := h5.mono (m12.le no_No)
 replace h6 := h6.mono (m12.le no_No)
 refine L.as Wt.no rfl rfl (L.nil (X.seqN (E.seq (E.reg (L.fa fa26_1 Wt.no rfl rfl (L.ld (j := 1) bx7.mem nag3 Wt.no rfl rfl rfl rfl (L.fa fa26_1 Wt.no rfl rfl (L.ld (j := 1) bx10.mem nag3 Wt.no rfl rfl rfl rfl (L.bi Wt.no rfl rfl rfl rfl (L.mv Wt.no rfl rfl ?_))))))))))
 obtain ⟨b13, eb13, hm⟩ := bindS hm
 refine L.cut 6 (fun e w => ∃ (s15 : Sig) (v14 : Bool), b13 = v14 ∧ Mv (Up N No) s s15 ∧ RdL (rK .i64) s15 a1 c1 p0.1 ∧ RdL (rK .i64) s15 a2 c2 p0.2.2.1 ∧ RdL (rP (rK .i64) (rP (rK .i64) (rK .i64))) s15 a3 c3 p0.2.2.2 ∧ RdL (rK .i64) s15 a4 c4 p1.1 ∧ RdL (rK .i64) s15 a5 c5 p1.2.2.1 ∧ RdL (rP (rK .i64) (rP (rK .i64) (rK .i64))) s15 a6 c6 p1.2.2.2 ∧ Bx s15 (N + 0) b7 #[.slice a1 p0.1.length c1, .int .i64 p0.2.1, .slice a2 p0.2.2.1.length c2, .slice a3 p0.2.2.2.length c3] 26 ∧ Bx s15 (N + 1) b10 #[.slice a4 p1.1.length c4, .int .i64 p1.2.1, .slice a5 p1.2.2.1.length c5, .slice a6 p1.2.2.2.length c6] 26 ∧ e = (16, .bool v14) :: [(3, .pointer (some ⟨b10, 0, none⟩)), (2, .pointer (some ⟨b7, 0, none⟩))] ∧ w = s15.w) ?_ ?_
 ·rintro _ _ ⟨s15, v14, rfl, m0, h1, h2, h3, h4, h5, h6, bx7, bx10, rfl, rfl⟩
  refine L.mv Wt.no rfl rfl ?_
  obtain ⟨b16, eb16, hm⟩ := bindS hm
  refine L.cut 6 (fun e w => ∃ (s18 : Sig) (v17 : Bool), b16 = v17 ∧ Mv (Up N No) s s18 ∧ RdL (rK .i64) s18 a1 c1 p0.1 ∧ RdL (rK .i64) s18 a2 c2 p0.2.2.1 ∧ RdL (rP (rK .i64) (rP (rK .i64) (rK .i64))) s18 a3 c3 p0.2.2.2 ∧ RdL (rK .i64) s18 a4 c4 p1.1 ∧ RdL (rK .i64) s18 a5 c5 p1.2.2.1 ∧ RdL (rP (rK .i64) (rP (rK .i64) (rK .i64))) s18 a6 c6 p1.2.2.2 ∧ Bx s18 (N + 0) b7 #[.slice a1 p0.1.length c1, .int .i64 p0.2.1, .slice a2 p0.2.2.1.length c2, .slice a3 p0.2.2.2.length c3] 26 ∧ Bx s18 (N + 1) b10 #[.slice a4 p1.1.length c4, .int .i64 p1.2.1, .slice a5 p1.2.2.1.length c5, .slice a6 p1.2.2.2.length c6] 26 ∧ e = (23, .bool v17) :: [(3, .pointer (some ⟨b10, 0, none⟩)), (2, .pointer (some ⟨b7, 0, none⟩))] ∧ w = s18.w) ?_ ?_
  ·rintro _ _ ⟨s18, v17, rfl, m0, h1, h2, h3, h4, h5, h6, bx7, bx10, rfl, rfl⟩
   refine L.mv Wt.no rfl rfl ?_
   obtain ⟨b19, eb19, hm⟩ := bindS hm
   refine L.cut 6 (fun e w => ∃ (s21 : Sig) (v20 : Bool), b19 = v20 ∧ Mv (Up N No) s s21 ∧ e = (30, .bool v20) :: [] ∧ w = s21.w) ?_ ?_
   ·rintro _ _ ⟨s21, v20, rfl, m0, rfl, rfl⟩
    refine L.as Wt.no rfl rfl (L.nil (X.seqN (E.ret ?_)))
    obtain rfl := Option.some.inj hm
    exact X.rt (.inl rfl) Try.results27 (Rs.tmp rfl Rs.nil) rfl ⟨_, (s21).ren N (fun _ => 0), rfl, rfl, m0.ren hNb, rfl⟩
   ·intro J22
    rcases ifS eb19 with ⟨hc, hm⟩ | ⟨hc, hm⟩
    ·refine L.know (d := 24) rfl hc (L.fa fa26_3 (Wt.mk rfl rfl) rfl rfl (L.ld (j := 3) bx7.mem nag24 (Wt.mk rfl rfl) rfl rfl rfl rfl (L.fa fa26_3 (Wt.mk rfl rfl) rfl rfl (L.ld (j := 3) bx10.mem nag24 (Wt.mk rfl rfl) rfl rfl rfl rfl ?_))))
     obtain ⟨r23, er23, hm⟩ := bindS hm
     refine L.ca cf59 rfl rfl (Wt.mk rfl rfl) rfl (m_slices_Equal_Edge_c (s := s18) (p0 := p0.2.2.2) (p1 := p1.2.2.2) h3 h6 er23) rfl ?_
     rintro _ s24 m25 rfl
     replace m0 := m0.trans m25.no
     exact L.pkT Wt.no rfl rfl rfl rfl (L.sb (J22 _ _ ⟨s24, r23, (Option.some.inj hm).symm, m0, rfl, rfl⟩) rfl)
    ·exact L.know (d := 24) rfl hc (L.skip rfl rfl rfl rfl (L.skip rfl rfl rfl rfl (L.skip rfl rfl rfl rfl (L.skip rfl rfl rfl rfl (L.skip rfl rfl rfl rfl (L.pkF Wt.no rfl rfl rfl rfl (L.sb (J22 _ _ ⟨s18, false, (Option.some.inj hm).symm, m0, rfl, rfl⟩) rfl)))))))
  ·intro J26
   rcases ifS eb16 with ⟨hc, hm⟩ | ⟨hc, hm⟩
   ·refine L.know (d := 17) rfl hc (L.fa fa26_2 (Wt.mk rfl rfl) rfl rfl (L.ld (j := 2) bx7.mem nag23 (Wt.mk rfl rfl) rfl rfl rfl rfl (L.fa fa26_2 (Wt.mk rfl rfl) rfl rfl (L.ld (j := 2) bx10.mem nag23 (Wt.mk rfl rfl) rfl rfl rfl rfl ?_))))
    obtain ⟨r27, er27, hm⟩ := bindS hm
    refine L.ca cf20 rfl rfl (Wt.mk rfl rfl) rfl (m_slices_Equal_int_c (s := s15) (p0 := p0.2.2.1) (p1 := p1.2.2.1) h2 h5 er27) rfl ?_
    rintro _ s28 m29 rfl
    replace m0 := m0.trans m29.no
    replace bx7 := bx7.mv m29 no_No
    replace h1 := h1.mono (m29.le no_No)
    replace h2 := h2.mono (m29.le no_No)
    replace h3 := h3.mono (m29.le no_No)
    replace bx10 := bx10.mv m29 no_No
    replace h4 := h4.mono (m29.le no_No)
    replace h5 := h5.mono (m29.le no_No)
    replace h6 := h6.mono (m29.le no_No)
    exact L.pkT Wt.no rfl rfl rfl rfl (L.sb (J26 _ _ ⟨s28, r27, (Option.some.inj hm).symm, m0, h1, h2, h3, h4, h5, h6, bx7, bx10, rfl, rfl⟩) rfl)
   ·exact L.know (d := 17) rfl hc (L.skip rfl rfl rfl rfl (L.skip rfl rfl rfl rfl (L.skip rfl rfl rfl rfl (L.skip rfl rfl rfl rfl (L.skip rfl rfl rfl rfl (L.pkF Wt.no rfl rfl rfl rfl (L.sb (J26 _ _ ⟨s15, false, (Option.some.inj hm).symm, m0, h1, h2, h3, h4, h5, h6, bx7, bx10, rfl, rfl⟩) rfl)))))))
 ·intro J30
  rcases ifS eb13 with ⟨hc, hm⟩ | ⟨hc, hm⟩
  ·refine L.know (d := 10) rfl hc (L.fa fa26_0 (Wt.mk rfl rfl) rfl rfl (L.ld (j := 0) bx7.mem nag23 (Wt.mk rfl rfl) rfl rfl rfl rfl (L.fa fa26_0 (Wt.mk rfl rfl) rfl rfl (L.ld (j := 0) bx10.mem nag23 (Wt.mk rfl rfl) rfl rfl rfl rfl ?_))))
   obtain ⟨r31, er31, hm⟩ := bindS hm
   refine L.ca cf20 rfl rfl (Wt.mk rfl rfl) rfl (m_slices_Equal_int_c (s := s11) (p0 := p0.1) (p1 := p1.1) h1 h4 er31) rfl ?_
   rintro _ s32 m33 rfl
   replace m0 := m0.trans m33.no
   replace bx7 := bx7.mv m33 no_No
   replace h1 := h1.mono (m33.le no_No)
   replace h2 := h2.mono (m33.le no_No)
   replace h3 := h3.mono (m33.le no_No)
   replace bx10 := bx10.mv m33 no_No
   replace h4 := h4.mono (m33.le no_No)
   replace h5 := h5.mono (m33.le no_No)
   replace h6 := h6.mono (m33.le no_No)
   exact L.pkT Wt.no rfl rfl rfl rfl (L.sb (J30 _ _ ⟨s32, r31, (Option.some.inj hm).symm, m0, h1, h2, h3, h4, h5, h6, bx7, bx10, rfl, rfl⟩) rfl)
  ·exact L.know (d := 10) rfl hc (L.skip rfl rfl rfl rfl (L.skip rfl rfl rfl rfl (L.skip rfl rfl rfl rfl (L.skip rfl rfl rfl rfl (L.skip rfl rfl rfl rfl (L.pkF Wt.no rfl rfl rfl rfl (L.sb (J30 _ _ ⟨s11, false, (Option.some.inj hm).symm, m0, h1, h2, h3, h4, h5, h6, bx7, bx10, rfl, rfl⟩) rfl)))))))

theorem cf27 : Cf Try.prog 27 := Cf.mk Try.func27 (by kernel_rfl) (by kernel_rfl)
/-- What overseerlaw53.GenerateMakes computes. -/
noncomputable def m_overseerlaw53_GenerateMakes (p0 : Int × (Int × Int × ((Int × Int × Int × Int × Int) × (Int × Int × Int × Int × Int) × (Int × Int × Int × Int × Int) × (Int × Int × Int × Int × Int) × (Int × Int × Int × Int × Int))) × Int) : Option Bool :=
  (m_overseerlaw53_known).bind fun r4 =>
  if (!r4) then
    some false
  else
    (m_overseerlaw53_Make p0).bind fun r7 =>
    (m_generate_Generate r7.1 r7.2).bind fun r19 =>
    (if (r19.2 != 0) then
      some true
    else
      (m_instruction_Check r19.1.1).bind fun r93 =>
      some (r93 != 0)).bind fun b31 =>
    (if ((((b31 || (r19.1.1.1 != (r7.1.1.length : Int))) || (r19.1.1.2.1 != (W ((r7.2.length : Int) + 1)))) || (decide (r19.1.1.2.2.1 < r7.1.2.1))) || (r19.1.2.2.2 != r7.1.2.1)) then
      some true
    else
      (m_slices_Equal_int r19.1.2.1 r7.1.1).bind fun r85 =>
      some (!r85)).bind fun b38 =>
    (if b38 then
      some true
    else
      (m_slices_Equal_int r19.1.2.2.1 r7.2).bind fun r81 =>
      some (!r81)).bind fun b41 =>
    if b41 then
      some false
    else
      (m_instruction_Start r19.1.1).bind fun r44 =>
      (m_overseerlaw53_Make p0).bind fun r54 =>
      (if (r44.2 == 0) then
        (m_overseerlaw53_shows r7.1 r7.2 r19.1 r44.1 0 false false).bind fun r77 =>
        some r77
      else
        some false).bind fun b66 =>
      (if b66 then
        (m_automaton_Equal r7.1 r54.1).bind fun r73 =>
        some r73
      else
        some false).bind fun b69 =>
      some b69
set_option maxRecDepth 100000 in
set_option maxHeartbeats 8000000 in
theorem m_overseerlaw53_GenerateMakes_c {s : Sig} {p0 : Int × (Int × Int × ((Int × Int × Int × Int × Int) × (Int × Int × Int × Int × Int) × (Int × Int × Int × Int × Int) × (Int × Int × Int × Int × Int) × (Int × Int × Int × Int × Int))) × Int} {r : Bool} (hm : m_overseerlaw53_GenerateMakes p0 = some r) :
    Calls Try.prog 6 #[.agg #[.int .u8 p0.1, .int .u8 p0.2.1.1, .int .u8 p0.2.1.2.1, .int .u8 p0.2.1.2.2.1.1, .int .u8 p0.2.1.2.2.1.2.1, .int .u8 p0.2.1.2.2.1.2.2.1, .int .u8 p0.2.1.2.2.1.2.2.2.1, .int .u8 p0.2.1.2.2.1.2.2.2.2, .int .u8 p0.2.1.2.2.2.1.1, .int .u8 p0.2.1.2.2.2.1.2.1, .int .u8 p0.2.1.2.2.2.1.2.2.1, .int .u8 p0.2.1.2.2.2.1.2.2.2.1, .int .u8 p0.2.1.2.2.2.1.2.2.2.2, .int .u8 p0.2.1.2.2.2.2.1.1, .int .u8 p0.2.1.2.2.2.2.1.2.1, .int .u8 p0.2.1.2.2.2.2.1.2.2.1, .int .u8 p0.2.1.2.2.2.2.1.2.2.2.1, .int .u8 p0.2.1.2.2.2.2.1.2.2.2.2, .int .u8 p0.2.1.2.2.2.2.2.1.1, .int .u8 p0.2.1.2.2.2.2.2.1.2.1, .int .u8 p0.2.1.2.2.2.2.2.1.2.2.1, .int .u8 p0.2.1.2.2.2.2.2.1.2.2.2.1, .int .u8 p0.2.1.2.2.2.2.2.1.2.2.2.2, .int .u8 p0.2.1.2.2.2.2.2.2.1, .int .u8 p0.2.1.2.2.2.2.2.2.2.1, .int .u8 p0.2.1.2.2.2.2.2.2.2.2.1, .int .u8 p0.2.1.2.2.2.2.2.2.2.2.2.1, .int .u8 p0.2.1.2.2.2.2.2.2.2.2.2.2, .int .u8 p0.2.2]] s.w (RetS No s fun v s' => v = .bool r) := by
 unfold m_overseerlaw53_GenerateMakes at hm
 obtain ⟨N, hN, hNb⟩ := s.fresh
 have m0 : Mv (Up N No) s s := Mv.refl _ _
 refine E.entry Try.func6 rfl Try.ntmps6 rfl rfl (E.seq (E.reg (L.box (N + 0) Wt.no rfl rfl rfl fun b1 s2 m3 bx1 => ?_)))
 replace m0 := m0.trans m3.no
 refine L.as Wt.no rfl rfl (L.nil (X.seqN (E.seq (E.seq (E.reg ?_)))))
 obtain ⟨r4, er4, hm⟩ := bindS hm
 refine L.ca cf11 rfl rfl Wt.no rfl (m_overseerlaw53_known_c (s := s2) er4) rfl ?_
 rintro _ s5 m6 rfl
 replace m0 := m0.trans m6.no
 replace bx1 := bx1.mv m6 no_No
 refine L.not Wt.no rfl rfl (L.nil (X.seqN ?_))
 rcases ifS hm with ⟨hc, hm⟩ | ⟨hc, hm⟩
 ·refine E.cT rfl hc (E.seq (E.reg (L.as Wt.no rfl rfl (L.nil (X.seqN (E.ret (X.seqR ?_)))))))
  obtain rfl := Option.some.inj hm
  exact X.rt (.inl rfl) Try.results6 (Rs.tmp rfl Rs.nil) rfl ⟨_, (s5).ren N (fun _ => 0), rfl, rfl, m0.ren hNb, rfl⟩
 ·refine E.cF rfl hc (E.skip (X.seqN (E.seq (E.reg (L.lg (j := 0) (cs := [.int .u8 p0.1, .int .u8 p0.2.1.1, .int .u8 p0.2.1.2.1, .int .u8 p0.2.1.2.2.1.1, .int .u8 p0.2.1.2.2.1.2.1, .int .u8 p0.2.1.2.2.1.2.2.1, .int .u8 p0.2.1.2.2.1.2.2.2.1, .int .u8 p0.2.1.2.2.1.2.2.2.2, .int .u8 p0.2.1.2.2.2.1.1, .int .u8 p0.2.1.2.2.2.1.2.1, .int .u8 p0.2.1.2.2.2.1.2.2.1, .int .u8 p0.2.1.2.2.2.1.2.2.2.1, .int .u8 p0.2.1.2.2.2.1.2.2.2.2, .int .u8 p0.2.1.2.2.2.2.1.1, .int .u8 p0.2.1.2.2.2.2.1.2.1, .int .u8 p0.2.1.2.2.2.2.1.2.2.1, .int .u8 p0.2.1.2.2.2.2.1.2.2.2.1, .int .u8 p0.2.1.2.2.2.2.1.2.2.2.2, .int .u8 p0.2.1.2.2.2.2.2.1.1, .int .u8 p0.2.1.2.2.2.2.2.1.2.1, .int .u8 p0.2.1.2.2.2.2.2.1.2.2.1, .int .u8 p0.2.1.2.2.2.2.2.1.2.2.2.1, .int .u8 p0.2.1.2.2.2.2.2.1.2.2.2.2, .int .u8 p0.2.1.2.2.2.2.2.2.1, .int .u8 p0.2.1.2.2.2.2.2.2.2.1, .int .u8 p0.2.1.2.2.2.2.2.2.2.2.1, .int .u8 p0.2.1.2.2.2.2.2.2.2.2.2.1, .int .u8 p0.2.1.2.2.2.2.2.2.2.2.2.2, .int .u8 p0.2.2]) bx1.mem ag51 Wt.no rfl rfl rfl rfl rfl ?_)))))
  obtain ⟨r7, er7, hm⟩ := bindS hm
  refine L.ca cf16 rfl rfl Wt.no rfl (m_overseerlaw53_Make_c (s := s5) (p0 := p0) (u3 := 0) er7) rfl ?_
  rintro _ s8 m9 ⟨a10, c10, a11, c11, a12, c12, a13, c13, rfl, h10, h11, h12, h13⟩
  replace h13 := h13.p
  replace m0 := m0.trans m9.no
  replace bx1 := bx1.mv m9 no_No
  refine L.mv Wt.no rfl rfl (L.ex Wt.no rfl rfl rfl (L.ex Wt.no rfl rfl rfl (L.al (N + 1) zz26 rfl Wt.no rfl fun b14 s15 m16 bx14 => ?_)))
  replace m0 := m0.trans m16.no
  replace h10 := h10.mono (m16.le no_No)
  replace h11 := h11.mono (m16.le no_No)
  replace h12 := h12.mono (m16.le no_No)
  replace h13 := h13.mono (m16.le no_No)
  replace bx1 := bx1.mv m16 no_No
  refine L.st (c := [.slice a10 r7.1.1.length c10, .int .i64 r7.1.2.1, .slice a11 r7.1.2.2.1.length c11, .slice a12 r7.1.2.2.2.length c12]) (cs' := #[.slice a10 r7.1.1.length c10, .int .i64 r7.1.2.1, .slice a11 r7.1.2.2.1.length c11, .slice a12 r7.1.2.2.2.length c12]) bx14 ag26.sz Wt.no rfl rfl rfl rfl rfl (Nat.le_of_ble_eq_true rfl) rfl fun s17 m18 bx14 => ?_
  replace m0 := m0.trans (m18.one up)
  replace h13 := h13.mono (m18.le (tg0 hN))
  replace bx1 := bx1.mv m18 (tgN (by decide))
  replace h10 := h10.mono (m18.le (tg0 hN))
  replace h11 := h11.mono (m18.le (tg0 hN))
  replace h12 := h12.mono (m18.le (tg0 hN))
  refine L.as Wt.no rfl rfl (L.nil (X.seqN (E.seq (E.reg (L.lg (j := 0) (cs := [.slice a10 r7.1.1.length c10, .int .i64 r7.1.2.1, .slice a11 r7.1.2.2.1.length c11, .slice a12 r7.1.2.2.2.length c12]) bx14.mem ag26 Wt.no rfl rfl rfl rfl rfl (L.mv Wt.no rfl rfl ?_))))))
  obtain ⟨r19, er19, hm⟩ := bindS hm
  refine L.ca cf12 rfl rfl Wt.no rfl (m_generate_Generate_c (s := s17) (p0 := r7.1) (p1 := r7.2) (u0 := 0) (u1 := 0) (u2 := 0) (u3 := 0) h10 h11 h12 h13 er19) rfl ?_
  rintro _ s20 m21 ⟨a22, c22, a23, c23, a24, c24, a25, c25, rfl, h22, h23, h24, h25⟩
  replace h22 := h22.p
  replace h23 := h23.p
  replace h24 := h24.p
  replace h25 := h25.p
  replace m0 := m0.trans m21.no
  replace h13 := h13.mono (m21.le no_No)
  replace bx1 := bx1.mv m21 no_No
  replace bx14 := bx14.mv m21 no_No
  replace h10 := h10.mono (m21.le no_No)
  replace h11 := h11.mono (m21.le no_No)
  replace h12 := h12.mono (m21.le no_No)
  refine L.mv Wt.no rfl rfl (L.ex Wt.no rfl rfl rfl (L.ex Wt.no rfl rfl rfl (L.al (N + 2) zz34 rfl Wt.no rfl fun b26 s27 m28 bx26 => ?_)))
  replace m0 := m0.trans m28.no
  replace h13 := h13.mono (m28.le no_No)
  replace h22 := h22.mono (m28.le no_No)
  replace h23 := h23.mono (m28.le no_No)
  replace h24 := h24.mono (m28.le no_No)
  replace h25 := h25.mono (m28.le no_No)
  replace bx1 := bx1.mv m28 no_No
  replace bx14 := bx14.mv m28 no_No
  replace h10 := h10.mono (m28.le no_No)
  replace h11 := h11.mono (m28.le no_No)
  replace h12 := h12.mono (m28.le no_No)
  refine L.st (c := [.int .i64 r19.1.1.1, .int .i64 r19.1.1.2.1, .int .i64 r19.1.1.2.2.1, .slice a22 r19.1.1.2.2.2.1.length c22, .slice a23 r19.1.1.2.2.2.2.length c23, .slice a24 r19.1.2.1.length c24, .slice a25 r19.1.2.2.1.length c25, .int .i64 r19.1.2.2.2]) (cs' := #[.int .i64 r19.1.1.1, .int .i64 r19.1.1.2.1, .int .i64 r19.1.1.2.2.1, .slice a22 r19.1.1.2.2.2.1.length c22, .slice a23 r19.1.1.2.2.2.2.length c23, .slice a24 r19.1.2.1.length c24, .slice a25 r19.1.2.2.1.length c25, .int .i64 r19.1.2.2.2]) bx26 ag34.sz Wt.no rfl rfl rfl rfl rfl (Nat.le_of_ble_eq_true rfl) rfl fun s29 m30 bx26 => ?_
  replace m0 := m0.trans (m30.one up)
  replace h13 := h13.mono (m30.le (tg0 hN))
  replace bx1 := bx1.mv m30 (tgN (by decide))
  replace bx14 := bx14.mv m30 (tgN (by decide))
  replace h10 := h10.mono (m30.le (tg0 hN))
  replace h11 := h11.mono (m30.le (tg0 hN))
  replace h12 := h12.mono (m30.le (tg0 hN))
  replace h22 := h22.mono (m30.le (tg0 hN))
  replace h23 := h23.mono (m30.le (tg0 hN))
  replace h24 := h24.mono (m30.le (tg0 hN))
  replace h25 := h25.mono (m30.le (tg0 hN))
  refine L.as Wt.no rfl rfl (L.nil (X.seqN (E.seq (E.seq (E.reg (L.mv Wt.no rfl rfl (L.bi Wt.no rfl rfl rfl rfl (L.mv Wt.no rfl rfl ?_))))))))
  obtain ⟨b31, eb31, hm⟩ := bindS hm
  refine L.cut 5 (fun e w => ∃ (s33 : Sig) (v32 : Bool), b31 = v32 ∧ Mv (Up N No) s s33 ∧ RdL (rK .i64) s33 a13 c13 r7.2 ∧ RdL (rK .i64) s33 a10 c10 r7.1.1 ∧ RdL (rK .i64) s33 a11 c11 r7.1.2.2.1 ∧ RdL (rP (rK .i64) (rP (rK .i64) (rK .i64))) s33 a12 c12 r7.1.2.2.2 ∧ RdL rB s33 a22 c22 r19.1.1.2.2.2.1 ∧ RdL (rP (rK .i64) (rK .i64)) s33 a23 c23 r19.1.1.2.2.2.2 ∧ RdL (rK .i64) s33 a24 c24 r19.1.2.1 ∧ RdL (rK .i64) s33 a25 c25 r19.1.2.2.1 ∧ Bx s33 (N + 0) b1 #[.int .u8 p0.1, .int .u8 p0.2.1.1, .int .u8 p0.2.1.2.1, .int .u8 p0.2.1.2.2.1.1, .int .u8 p0.2.1.2.2.1.2.1, .int .u8 p0.2.1.2.2.1.2.2.1, .int .u8 p0.2.1.2.2.1.2.2.2.1, .int .u8 p0.2.1.2.2.1.2.2.2.2, .int .u8 p0.2.1.2.2.2.1.1, .int .u8 p0.2.1.2.2.2.1.2.1, .int .u8 p0.2.1.2.2.2.1.2.2.1, .int .u8 p0.2.1.2.2.2.1.2.2.2.1, .int .u8 p0.2.1.2.2.2.1.2.2.2.2, .int .u8 p0.2.1.2.2.2.2.1.1, .int .u8 p0.2.1.2.2.2.2.1.2.1, .int .u8 p0.2.1.2.2.2.2.1.2.2.1, .int .u8 p0.2.1.2.2.2.2.1.2.2.2.1, .int .u8 p0.2.1.2.2.2.2.1.2.2.2.2, .int .u8 p0.2.1.2.2.2.2.2.1.1, .int .u8 p0.2.1.2.2.2.2.2.1.2.1, .int .u8 p0.2.1.2.2.2.2.2.1.2.2.1, .int .u8 p0.2.1.2.2.2.2.2.1.2.2.2.1, .int .u8 p0.2.1.2.2.2.2.2.1.2.2.2.2, .int .u8 p0.2.1.2.2.2.2.2.2.1, .int .u8 p0.2.1.2.2.2.2.2.2.2.1, .int .u8 p0.2.1.2.2.2.2.2.2.2.2.1, .int .u8 p0.2.1.2.2.2.2.2.2.2.2.2.1, .int .u8 p0.2.1.2.2.2.2.2.2.2.2.2.2, .int .u8 p0.2.2] 51 ∧ Bx s33 (N + 1) b14 #[.slice a10 r7.1.1.length c10, .int .i64 r7.1.2.1, .slice a11 r7.1.2.2.1.length c11, .slice a12 r7.1.2.2.2.length c12] 26 ∧ Bx s33 (N + 2) b26 #[.int .i64 r19.1.1.1, .int .i64 r19.1.1.2.1, .int .i64 r19.1.1.2.2.1, .slice a22 r19.1.1.2.2.2.1.length c22, .slice a23 r19.1.1.2.2.2.2.length c23, .slice a24 r19.1.2.1.length c24, .slice a25 r19.1.2.2.1.length c25, .int .i64 r19.1.2.2.2] 34 ∧ e = (31, .bool v32) :: [(5, .pointer (some ⟨b26, 0, none⟩)), (4, .slice a13 r7.2.length c13), (3, .pointer (some ⟨b14, 0, none⟩)), (1, .pointer (some ⟨b1, 0, none⟩))] ∧ w = s33.w) ?_ ?_
  ·rintro _ _ ⟨s33, v32, rfl, m0, h13, h10, h11, h12, h22, h23, h24, h25, bx1, bx14, bx26, rfl, rfl⟩
   refine L.mv Wt.no rfl rfl (L.cut 8 (fun e w => ∃ (v34 : Bool), (b31 || (r19.1.1.1 != (r7.1.1.length : Int))) = v34 ∧ e = (40, .bool v34) :: [(5, .pointer (some ⟨b26, 0, none⟩)), (4, .slice a13 r7.2.length c13), (3, .pointer (some ⟨b14, 0, none⟩)), (1, .pointer (some ⟨b1, 0, none⟩))] ∧ w = s33.w) ?_ ?_)
   ·rintro _ _ ⟨v34, rfl, rfl, rfl⟩
    refine L.mv Wt.no rfl rfl (L.cut 8 (fun e w => ∃ (v35 : Bool), ((b31 || (r19.1.1.1 != (r7.1.1.length : Int))) || (r19.1.1.2.1 != (W ((r7.2.length : Int) + 1)))) = v35 ∧ e = (49, .bool v35) :: [(5, .pointer (some ⟨b26, 0, none⟩)), (4, .slice a13 r7.2.length c13), (3, .pointer (some ⟨b14, 0, none⟩)), (1, .pointer (some ⟨b1, 0, none⟩))] ∧ w = s33.w) ?_ ?_)
    ·rintro _ _ ⟨v35, rfl, rfl, rfl⟩
     refine L.mv Wt.no rfl rfl (L.cut 7 (fun e w => ∃ (v36 : Bool), (((b31 || (r19.1.1.1 != (r7.1.1.length : Int))) || (r19.1.1.2.1 != (W ((r7.2.length : Int) + 1)))) || (decide (r19.1.1.2.2.1 < r7.1.2.1))) = v36 ∧ e = (57, .bool v36) :: [(5, .pointer (some ⟨b26, 0, none⟩)), (4, .slice a13 r7.2.length c13), (3, .pointer (some ⟨b14, 0, none⟩)), (1, .pointer (some ⟨b1, 0, none⟩))] ∧ w = s33.w) ?_ ?_)
     ·rintro _ _ ⟨v36, rfl, rfl, rfl⟩
      refine L.mv Wt.no rfl rfl (L.cut 6 (fun e w => ∃ (v37 : Bool), ((((b31 || (r19.1.1.1 != (r7.1.1.length : Int))) || (r19.1.1.2.1 != (W ((r7.2.length : Int) + 1)))) || (decide (r19.1.1.2.2.1 < r7.1.2.1))) || (r19.1.2.2.2 != r7.1.2.1)) = v37 ∧ e = (64, .bool v37) :: [(5, .pointer (some ⟨b26, 0, none⟩)), (4, .slice a13 r7.2.length c13), (3, .pointer (some ⟨b14, 0, none⟩)), (1, .pointer (some ⟨b1, 0, none⟩))] ∧ w = s33.w) ?_ ?_)
      ·rintro _ _ ⟨v37, rfl, rfl, rfl⟩
       refine L.mv Wt.no rfl rfl ?_
       obtain ⟨b38, eb38, hm⟩ := bindS hm
       refine L.cut 7 (fun e w => ∃ (s40 : Sig) (v39 : Bool), b38 = v39 ∧ Mv (Up N No) s s40 ∧ RdL (rK .i64) s40 a13 c13 r7.2 ∧ RdL (rK .i64) s40 a10 c10 r7.1.1 ∧ RdL (rK .i64) s40 a11 c11 r7.1.2.2.1 ∧ RdL (rP (rK .i64) (rP (rK .i64) (rK .i64))) s40 a12 c12 r7.1.2.2.2 ∧ RdL rB s40 a22 c22 r19.1.1.2.2.2.1 ∧ RdL (rP (rK .i64) (rK .i64)) s40 a23 c23 r19.1.1.2.2.2.2 ∧ RdL (rK .i64) s40 a24 c24 r19.1.2.1 ∧ RdL (rK .i64) s40 a25 c25 r19.1.2.2.1 ∧ Bx s40 (N + 0) b1 #[.int .u8 p0.1, .int .u8 p0.2.1.1, .int .u8 p0.2.1.2.1, .int .u8 p0.2.1.2.2.1.1, .int .u8 p0.2.1.2.2.1.2.1, .int .u8 p0.2.1.2.2.1.2.2.1, .int .u8 p0.2.1.2.2.1.2.2.2.1, .int .u8 p0.2.1.2.2.1.2.2.2.2, .int .u8 p0.2.1.2.2.2.1.1, .int .u8 p0.2.1.2.2.2.1.2.1, .int .u8 p0.2.1.2.2.2.1.2.2.1, .int .u8 p0.2.1.2.2.2.1.2.2.2.1, .int .u8 p0.2.1.2.2.2.1.2.2.2.2, .int .u8 p0.2.1.2.2.2.2.1.1, .int .u8 p0.2.1.2.2.2.2.1.2.1, .int .u8 p0.2.1.2.2.2.2.1.2.2.1, .int .u8 p0.2.1.2.2.2.2.1.2.2.2.1, .int .u8 p0.2.1.2.2.2.2.1.2.2.2.2, .int .u8 p0.2.1.2.2.2.2.2.1.1, .int .u8 p0.2.1.2.2.2.2.2.1.2.1, .int .u8 p0.2.1.2.2.2.2.2.1.2.2.1, .int .u8 p0.2.1.2.2.2.2.2.1.2.2.2.1, .int .u8 p0.2.1.2.2.2.2.2.1.2.2.2.2, .int .u8 p0.2.1.2.2.2.2.2.2.1, .int .u8 p0.2.1.2.2.2.2.2.2.2.1, .int .u8 p0.2.1.2.2.2.2.2.2.2.2.1, .int .u8 p0.2.1.2.2.2.2.2.2.2.2.2.1, .int .u8 p0.2.1.2.2.2.2.2.2.2.2.2.2, .int .u8 p0.2.2] 51 ∧ Bx s40 (N + 1) b14 #[.slice a10 r7.1.1.length c10, .int .i64 r7.1.2.1, .slice a11 r7.1.2.2.1.length c11, .slice a12 r7.1.2.2.2.length c12] 26 ∧ Bx s40 (N + 2) b26 #[.int .i64 r19.1.1.1, .int .i64 r19.1.1.2.1, .int .i64 r19.1.1.2.2.1, .slice a22 r19.1.1.2.2.2.1.length c22, .slice a23 r19.1.1.2.2.2.2.length c23, .slice a24 r19.1.2.1.length c24, .slice a25 r19.1.2.2.1.length c25, .int .i64 r19.1.2.2.2] 34 ∧ e = (72, .bool v39) :: [(5, .pointer (some ⟨b26, 0, none⟩)), (4, .slice a13 r7.2.length c13), (3, .pointer (some ⟨b14, 0, none⟩)), (1, .pointer (some ⟨b1, 0, none⟩))] ∧ w = s40.w) ?_ ?_
       ·rintro _ _ ⟨s40, v39, rfl, m0, h13, h10, h11, h12, h22, h23, h24, h25, bx1, bx14, bx26, rfl, rfl⟩
        refine L.mv Wt.no rfl rfl ?_
        obtain ⟨b41, eb41, hm⟩ := bindS hm
        refine L.cut 6 (fun e w => ∃ (s43 : Sig) (v42 : Bool), b41 = v42 ∧ Mv (Up N No) s s43 ∧ RdL (rK .i64) s43 a13 c13 r7.2 ∧ RdL (rK .i64) s43 a10 c10 r7.1.1 ∧ RdL (rK .i64) s43 a11 c11 r7.1.2.2.1 ∧ RdL (rP (rK .i64) (rP (rK .i64) (rK .i64))) s43 a12 c12 r7.1.2.2.2 ∧ RdL rB s43 a22 c22 r19.1.1.2.2.2.1 ∧ RdL (rP (rK .i64) (rK .i64)) s43 a23 c23 r19.1.1.2.2.2.2 ∧ RdL (rK .i64) s43 a24 c24 r19.1.2.1 ∧ RdL (rK .i64) s43 a25 c25 r19.1.2.2.1 ∧ Bx s43 (N + 0) b1 #[.int .u8 p0.1, .int .u8 p0.2.1.1, .int .u8 p0.2.1.2.1, .int .u8 p0.2.1.2.2.1.1, .int .u8 p0.2.1.2.2.1.2.1, .int .u8 p0.2.1.2.2.1.2.2.1, .int .u8 p0.2.1.2.2.1.2.2.2.1, .int .u8 p0.2.1.2.2.1.2.2.2.2, .int .u8 p0.2.1.2.2.2.1.1, .int .u8 p0.2.1.2.2.2.1.2.1, .int .u8 p0.2.1.2.2.2.1.2.2.1, .int .u8 p0.2.1.2.2.2.1.2.2.2.1, .int .u8 p0.2.1.2.2.2.1.2.2.2.2, .int .u8 p0.2.1.2.2.2.2.1.1, .int .u8 p0.2.1.2.2.2.2.1.2.1, .int .u8 p0.2.1.2.2.2.2.1.2.2.1, .int .u8 p0.2.1.2.2.2.2.1.2.2.2.1, .int .u8 p0.2.1.2.2.2.2.1.2.2.2.2, .int .u8 p0.2.1.2.2.2.2.2.1.1, .int .u8 p0.2.1.2.2.2.2.2.1.2.1, .int .u8 p0.2.1.2.2.2.2.2.1.2.2.1, .int .u8 p0.2.1.2.2.2.2.2.1.2.2.2.1, .int .u8 p0.2.1.2.2.2.2.2.1.2.2.2.2, .int .u8 p0.2.1.2.2.2.2.2.2.1, .int .u8 p0.2.1.2.2.2.2.2.2.2.1, .int .u8 p0.2.1.2.2.2.2.2.2.2.2.1, .int .u8 p0.2.1.2.2.2.2.2.2.2.2.2.1, .int .u8 p0.2.1.2.2.2.2.2.2.2.2.2.2, .int .u8 p0.2.2] 51 ∧ Bx s43 (N + 1) b14 #[.slice a10 r7.1.1.length c10, .int .i64 r7.1.2.1, .slice a11 r7.1.2.2.1.length c11, .slice a12 r7.1.2.2.2.length c12] 26 ∧ Bx s43 (N + 2) b26 #[.int .i64 r19.1.1.1, .int .i64 r19.1.1.2.1, .int .i64 r19.1.1.2.2.1, .slice a22 r19.1.1.2.2.2.1.length c22, .slice a23 r19.1.1.2.2.2.2.length c23, .slice a24 r19.1.2.1.length c24, .slice a25 r19.1.2.2.1.length c25, .int .i64 r19.1.2.2.2] 34 ∧ e = (79, .bool v42) :: [(5, .pointer (some ⟨b26, 0, none⟩)), (4, .slice a13 r7.2.length c13), (3, .pointer (some ⟨b14, 0, none⟩)), (1, .pointer (some ⟨b1, 0, none⟩))] ∧ w = s43.w) ?_ ?_
        ·rintro _ _ ⟨s43, v42, rfl, m0, h13, h10, h11, h12, h22, h23, h24, h25, bx1, bx14, bx26, rfl, rfl⟩
         refine L.nil (X.seqN ?_)
         rcases ifS hm with ⟨hc, hm⟩ | ⟨hc, hm⟩
         ·refine E.cT rfl hc (E.seq (E.reg (L.as Wt.no rfl rfl (L.nil (X.seqN (E.ret (X.seqR ?_)))))))
          obtain rfl := Option.some.inj hm
          exact X.rt (.inl rfl) Try.results6 (Rs.tmp rfl Rs.nil) rfl ⟨_, (s43).ren N (fun _ => 0), rfl, rfl, m0.ren hNb, rfl⟩
         ·refine E.cF rfl hc (E.skip (X.seqN (E.seq (E.reg (L.fa fa34_0 Wt.no rfl rfl (L.lg (j := 0) (cs := [.int .i64 r19.1.1.1, .int .i64 r19.1.1.2.1, .int .i64 r19.1.1.2.2.1, .slice a22 r19.1.1.2.2.2.1.length c22, .slice a23 r19.1.1.2.2.2.2.length c23]) bx26.mem ag32 Wt.no rfl rfl rfl rfl rfl ?_))))))
          obtain ⟨r44, er44, hm⟩ := bindS hm
          refine L.ca cf13 rfl rfl Wt.no rfl (m_instruction_Start_c (s := s43) (p0 := r19.1.1) (u0 := 0) (u1 := 0) h22 h23 er44) rfl ?_
          rintro _ s45 m46 ⟨a47, c47, a48, c48, rfl, h47, h48⟩
          replace h47 := h47.p
          replace h48 := h48.p
          replace m0 := m0.trans m46.no
          replace h13 := h13.mono (m46.le no_No)
          replace bx1 := bx1.mv m46 no_No
          replace bx14 := bx14.mv m46 no_No
          replace h10 := h10.mono (m46.le no_No)
          replace h11 := h11.mono (m46.le no_No)
          replace h12 := h12.mono (m46.le no_No)
          replace bx26 := bx26.mv m46 no_No
          replace h22 := h22.mono (m46.le no_No)
          replace h23 := h23.mono (m46.le no_No)
          replace h24 := h24.mono (m46.le no_No)
          replace h25 := h25.mono (m46.le no_No)
          refine L.mv Wt.no rfl rfl (L.ex Wt.no rfl rfl rfl (L.ex Wt.no rfl rfl rfl (L.al (N + 3) zz39 rfl Wt.no rfl fun b49 s50 m51 bx49 => ?_)))
          replace m0 := m0.trans m51.no
          replace h13 := h13.mono (m51.le no_No)
          replace h47 := h47.mono (m51.le no_No)
          replace h48 := h48.mono (m51.le no_No)
          replace bx1 := bx1.mv m51 no_No
          replace bx14 := bx14.mv m51 no_No
          replace h10 := h10.mono (m51.le no_No)
          replace h11 := h11.mono (m51.le no_No)
          replace h12 := h12.mono (m51.le no_No)
          replace bx26 := bx26.mv m51 no_No
          replace h22 := h22.mono (m51.le no_No)
          replace h23 := h23.mono (m51.le no_No)
          replace h24 := h24.mono (m51.le no_No)
          replace h25 := h25.mono (m51.le no_No)
          refine L.st (c := [.slice a47 r44.1.1.length c47, .slice a48 r44.1.2.length c48]) (cs' := #[.slice a47 r44.1.1.length c47, .slice a48 r44.1.2.length c48]) bx49 ag39.sz Wt.no rfl rfl rfl rfl rfl (Nat.le_of_ble_eq_true rfl) rfl fun s52 m53 bx49 => ?_
          replace m0 := m0.trans (m53.one up)
          replace h13 := h13.mono (m53.le (tg0 hN))
          replace bx1 := bx1.mv m53 (tgN (by decide))
          replace bx14 := bx14.mv m53 (tgN (by decide))
          replace h10 := h10.mono (m53.le (tg0 hN))
          replace h11 := h11.mono (m53.le (tg0 hN))
          replace h12 := h12.mono (m53.le (tg0 hN))
          replace bx26 := bx26.mv m53 (tgN (by decide))
          replace h22 := h22.mono (m53.le (tg0 hN))
          replace h23 := h23.mono (m53.le (tg0 hN))
          replace h24 := h24.mono (m53.le (tg0 hN))
          replace h25 := h25.mono (m53.le (tg0 hN))
          replace h47 := h47.mono (m53.le (tg0 hN))
          replace h48 := h48.mono (m53.le (tg0 hN))
          refine L.as Wt.no rfl rfl (L.nil (X.seqN (E.seq (E.reg (L.lg (j := 0) (cs := [.int .u8 p0.1, .int .u8 p0.2.1.1, .int .u8 p0.2.1.2.1, .int .u8 p0.2.1.2.2.1.1, .int .u8 p0.2.1.2.2.1.2.1, .int .u8 p0.2.1.2.2.1.2.2.1, .int .u8 p0.2.1.2.2.1.2.2.2.1, .int .u8 p0.2.1.2.2.1.2.2.2.2, .int .u8 p0.2.1.2.2.2.1.1, .int .u8 p0.2.1.2.2.2.1.2.1, .int .u8 p0.2.1.2.2.2.1.2.2.1, .int .u8 p0.2.1.2.2.2.1.2.2.2.1, .int .u8 p0.2.1.2.2.2.1.2.2.2.2, .int .u8 p0.2.1.2.2.2.2.1.1, .int .u8 p0.2.1.2.2.2.2.1.2.1, .int .u8 p0.2.1.2.2.2.2.1.2.2.1, .int .u8 p0.2.1.2.2.2.2.1.2.2.2.1, .int .u8 p0.2.1.2.2.2.2.1.2.2.2.2, .int .u8 p0.2.1.2.2.2.2.2.1.1, .int .u8 p0.2.1.2.2.2.2.2.1.2.1, .int .u8 p0.2.1.2.2.2.2.2.1.2.2.1, .int .u8 p0.2.1.2.2.2.2.2.1.2.2.2.1, .int .u8 p0.2.1.2.2.2.2.2.1.2.2.2.2, .int .u8 p0.2.1.2.2.2.2.2.2.1, .int .u8 p0.2.1.2.2.2.2.2.2.2.1, .int .u8 p0.2.1.2.2.2.2.2.2.2.2.1, .int .u8 p0.2.1.2.2.2.2.2.2.2.2.2.1, .int .u8 p0.2.1.2.2.2.2.2.2.2.2.2.2, .int .u8 p0.2.2]) bx1.mem ag51 Wt.no rfl rfl rfl rfl rfl ?_)))))
          obtain ⟨r54, er54, hm⟩ := bindS hm
          refine L.ca cf16 rfl rfl Wt.no rfl (m_overseerlaw53_Make_c (s := s52) (p0 := p0) (u3 := 0) er54) rfl ?_
          rintro _ s55 m56 ⟨a57, c57, a58, c58, a59, c59, a60, c60, rfl, h57, h58, h59, h60⟩
          replace h60 := h60.p
          replace m0 := m0.trans m56.no
          replace h13 := h13.mono (m56.le no_No)
          replace bx14 := bx14.mv m56 no_No
          replace h10 := h10.mono (m56.le no_No)
          replace h11 := h11.mono (m56.le no_No)
          replace h12 := h12.mono (m56.le no_No)
          replace bx26 := bx26.mv m56 no_No
          replace h22 := h22.mono (m56.le no_No)
          replace h23 := h23.mono (m56.le no_No)
          replace h24 := h24.mono (m56.le no_No)
          replace h25 := h25.mono (m56.le no_No)
          replace bx49 := bx49.mv m56 no_No
          replace h47 := h47.mono (m56.le no_No)
          replace h48 := h48.mono (m56.le no_No)
          refine L.mv Wt.no rfl rfl (L.ex Wt.no rfl rfl rfl (L.ex Wt.no rfl rfl rfl (L.al (N + 4) zz26 rfl Wt.no rfl fun b61 s62 m63 bx61 => ?_)))
          replace m0 := m0.trans m63.no
          replace h13 := h13.mono (m63.le no_No)
          replace h57 := h57.mono (m63.le no_No)
          replace h58 := h58.mono (m63.le no_No)
          replace h59 := h59.mono (m63.le no_No)
          replace bx14 := bx14.mv m63 no_No
          replace h10 := h10.mono (m63.le no_No)
          replace h11 := h11.mono (m63.le no_No)
          replace h12 := h12.mono (m63.le no_No)
          replace bx26 := bx26.mv m63 no_No
          replace h22 := h22.mono (m63.le no_No)
          replace h23 := h23.mono (m63.le no_No)
          replace h24 := h24.mono (m63.le no_No)
          replace h25 := h25.mono (m63.le no_No)
          replace bx49 := bx49.mv m63 no_No
          replace h47 := h47.mono (m63.le no_No)
          replace h48 := h48.mono (m63.le no_No)
          refine L.st (c := [.slice a57 r54.1.1.length c57, .int .i64 r54.1.2.1, .slice a58 r54.1.2.2.1.length c58, .slice a59 r54.1.2.2.2.length c59]) (cs' := #[.slice a57 r54.1.1.length c57, .int .i64 r54.1.2.1, .slice a58 r54.1.2.2.1.length c58, .slice a59 r54.1.2.2.2.length c59]) bx61 ag26.sz Wt.no rfl rfl rfl rfl rfl (Nat.le_of_ble_eq_true rfl) rfl fun s64 m65 bx61 => ?_
          replace m0 := m0.trans (m65.one up)
          replace h13 := h13.mono (m65.le (tg0 hN))
          replace bx14 := bx14.mv m65 (tgN (by decide))
          replace h10 := h10.mono (m65.le (tg0 hN))
          replace h11 := h11.mono (m65.le (tg0 hN))
          replace h12 := h12.mono (m65.le (tg0 hN))
          replace bx26 := bx26.mv m65 (tgN (by decide))
          replace h22 := h22.mono (m65.le (tg0 hN))
          replace h23 := h23.mono (m65.le (tg0 hN))
          replace h24 := h24.mono (m65.le (tg0 hN))
          replace h25 := h25.mono (m65.le (tg0 hN))
          replace bx49 := bx49.mv m65 (tgN (by decide))
          replace h47 := h47.mono (m65.le (tg0 hN))
          replace h48 := h48.mono (m65.le (tg0 hN))
          replace h57 := h57.mono (m65.le (tg0 hN))
          replace h58 := h58.mono (m65.le (tg0 hN))
          replace h59 := h59.mono (m65.le (tg0 hN))
          refine L.as Wt.no rfl rfl (L.nil (X.seqN (E.seq (E.reg (L.mv Wt.no rfl rfl (L.bi Wt.no rfl rfl rfl rfl (L.mv Wt.no rfl rfl ?_)))))))
          obtain ⟨b66, eb66, hm⟩ := bindS hm
          refine L.cut 6 (fun e w => ∃ (s68 : Sig) (v67 : Bool), b66 = v67 ∧ Mv (Up N No) s s68 ∧ RdL (rK .i64) s68 a10 c10 r7.1.1 ∧ RdL (rK .i64) s68 a11 c11 r7.1.2.2.1 ∧ RdL (rP (rK .i64) (rP (rK .i64) (rK .i64))) s68 a12 c12 r7.1.2.2.2 ∧ RdL (rK .i64) s68 a57 c57 r54.1.1 ∧ RdL (rK .i64) s68 a58 c58 r54.1.2.2.1 ∧ RdL (rP (rK .i64) (rP (rK .i64) (rK .i64))) s68 a59 c59 r54.1.2.2.2 ∧ Bx s68 (N + 1) b14 #[.slice a10 r7.1.1.length c10, .int .i64 r7.1.2.1, .slice a11 r7.1.2.2.1.length c11, .slice a12 r7.1.2.2.2.length c12] 26 ∧ Bx s68 (N + 4) b61 #[.slice a57 r54.1.1.length c57, .int .i64 r54.1.2.1, .slice a58 r54.1.2.2.1.length c58, .slice a59 r54.1.2.2.2.length c59] 26 ∧ e = (99, .bool v67) :: [(9, .pointer (some ⟨b61, 0, none⟩)), (3, .pointer (some ⟨b14, 0, none⟩))] ∧ w = s68.w) ?_ ?_
          ·rintro _ _ ⟨s68, v67, rfl, m0, h10, h11, h12, h57, h58, h59, bx14, bx61, rfl, rfl⟩
           refine L.mv Wt.no rfl rfl ?_
           obtain ⟨b69, eb69, hm⟩ := bindS hm
           refine L.cut 4 (fun e w => ∃ (s71 : Sig) (v70 : Bool), b69 = v70 ∧ Mv (Up N No) s s71 ∧ e = (104, .bool v70) :: [] ∧ w = s71.w) ?_ ?_
           ·rintro _ _ ⟨s71, v70, rfl, m0, rfl, rfl⟩
            refine L.as Wt.no rfl rfl (L.nil (X.seqN (E.ret ?_)))
            obtain rfl := Option.some.inj hm
            exact X.rt (.inl rfl) Try.results6 (Rs.tmp rfl Rs.nil) rfl ⟨_, (s71).ren N (fun _ => 0), rfl, rfl, m0.ren hNb, rfl⟩
           ·intro J72
            rcases ifS eb69 with ⟨hc, hm⟩ | ⟨hc, hm⟩
            ·refine L.know (d := 100) rfl hc (L.lg (j := 0) (cs := [.slice a10 r7.1.1.length c10, .int .i64 r7.1.2.1, .slice a11 r7.1.2.2.1.length c11, .slice a12 r7.1.2.2.2.length c12]) bx14.mem ag26 (Wt.mk rfl rfl) rfl rfl rfl rfl rfl (L.lg (j := 0) (cs := [.slice a57 r54.1.1.length c57, .int .i64 r54.1.2.1, .slice a58 r54.1.2.2.1.length c58, .slice a59 r54.1.2.2.2.length c59]) bx61.mem ag26 (Wt.mk rfl rfl) rfl rfl rfl rfl rfl ?_))
             obtain ⟨r73, er73, hm⟩ := bindS hm
             refine L.ca cf27 rfl rfl (Wt.mk rfl rfl) rfl (m_automaton_Equal_c (s := s68) (p0 := r7.1) (p1 := r54.1) h10 h11 h12 h57 h58 h59 er73) rfl ?_
             rintro _ s74 m75 rfl
             replace m0 := m0.trans m75.no
             exact L.pkT Wt.no rfl rfl rfl rfl (L.sb (J72 _ _ ⟨s74, r73, (Option.some.inj hm).symm, m0, rfl, rfl⟩) rfl)
            ·exact L.know (d := 100) rfl hc (L.skip rfl rfl rfl rfl (L.skip rfl rfl rfl rfl (L.skip rfl rfl rfl rfl (L.pkF Wt.no rfl rfl rfl rfl (L.sb (J72 _ _ ⟨s68, false, (Option.some.inj hm).symm, m0, rfl, rfl⟩) rfl)))))
          ·intro J76
           rcases ifS eb66 with ⟨hc, hm⟩ | ⟨hc, hm⟩
           ·refine L.know (d := 93) rfl hc (L.lg (j := 0) (cs := [.slice a10 r7.1.1.length c10, .int .i64 r7.1.2.1, .slice a11 r7.1.2.2.1.length c11, .slice a12 r7.1.2.2.2.length c12]) bx14.mem ag26 (Wt.mk rfl rfl) rfl rfl rfl rfl rfl (L.mv (Wt.mk rfl rfl) rfl rfl (L.lg (j := 0) (cs := [.int .i64 r19.1.1.1, .int .i64 r19.1.1.2.1, .int .i64 r19.1.1.2.2.1, .slice a22 r19.1.1.2.2.2.1.length c22, .slice a23 r19.1.1.2.2.2.2.length c23, .slice a24 r19.1.2.1.length c24, .slice a25 r19.1.2.2.1.length c25, .int .i64 r19.1.2.2.2]) bx26.mem ag34 (Wt.mk rfl rfl) rfl rfl rfl rfl rfl (L.lg (j := 0) (cs := [.slice a47 r44.1.1.length c47, .slice a48 r44.1.2.length c48]) bx49.mem ag39 (Wt.mk rfl rfl) rfl rfl rfl rfl rfl ?_))))
            obtain ⟨r77, er77, hm⟩ := bindS hm
            refine L.ca cf15 rfl rfl (Wt.mk rfl rfl) rfl (m_overseerlaw53_shows_c (s := s64) (p0 := r7.1) (p1 := r7.2) (p2 := r19.1) (p3 := r44.1) (p4 := 0) (p5 := false) (p6 := false) h10 h11 h12 h13 h22 h23 h24 h25 h47 h48 er77) rfl ?_
            rintro _ s78 m79 rfl
            replace m0 := m0.trans m79.no
            replace bx61 := bx61.mv m79 no_No
            replace h57 := h57.mono (m79.le no_No)
            replace h58 := h58.mono (m79.le no_No)
            replace h59 := h59.mono (m79.le no_No)
            replace bx14 := bx14.mv m79 no_No
            replace h10 := h10.mono (m79.le no_No)
            replace h11 := h11.mono (m79.le no_No)
            replace h12 := h12.mono (m79.le no_No)
            exact L.pkT Wt.no rfl rfl rfl rfl (L.sb (J76 _ _ ⟨s78, r77, (Option.some.inj hm).symm, m0, h10, h11, h12, h57, h58, h59, bx14, bx61, rfl, rfl⟩) rfl)
           ·exact L.know (d := 93) rfl hc (L.skip rfl rfl rfl rfl (L.skip rfl rfl rfl rfl (L.skip rfl rfl rfl rfl (L.skip rfl rfl rfl rfl (L.skip rfl rfl rfl rfl (L.pkF Wt.no rfl rfl rfl rfl (L.sb (J76 _ _ ⟨s64, false, (Option.some.inj hm).symm, m0, h10, h11, h12, h57, h58, h59, bx14, bx61, rfl, rfl⟩) rfl)))))))
        ·intro J80
         rcases ifS eb41 with ⟨hc, hm⟩ | ⟨hc, hm⟩
         ·exact L.know (d := 73) rfl hc (L.skip rfl rfl rfl rfl (L.skip rfl rfl rfl rfl (L.skip rfl rfl rfl rfl (L.skip rfl rfl rfl rfl (L.skip rfl rfl rfl rfl (L.pkT Wt.no rfl rfl rfl rfl (L.sb (J80 _ _ ⟨s40, true, (Option.some.inj hm).symm, m0, h13, h10, h11, h12, h22, h23, h24, h25, bx1, bx14, bx26, rfl, rfl⟩) rfl)))))))
         ·refine L.know (d := 73) rfl hc (L.fa fa34_2 (Wt.mk rfl rfl) rfl rfl (L.ld (j := 6) bx26.mem nag23 (Wt.mk rfl rfl) rfl rfl rfl rfl (L.mv (Wt.mk rfl rfl) rfl rfl ?_)))
          obtain ⟨r81, er81, hm⟩ := bindS hm
          refine L.ca cf20 rfl rfl (Wt.mk rfl rfl) rfl (m_slices_Equal_int_c (s := s40) (p0 := r19.1.2.2.1) (p1 := r7.2) h25 h13 er81) rfl ?_
          rintro _ s82 m83 rfl
          replace m0 := m0.trans m83.no
          replace h13 := h13.mono (m83.le no_No)
          replace bx1 := bx1.mv m83 no_No
          replace bx14 := bx14.mv m83 no_No
          replace h10 := h10.mono (m83.le no_No)
          replace h11 := h11.mono (m83.le no_No)
          replace h12 := h12.mono (m83.le no_No)
          replace bx26 := bx26.mv m83 no_No
          replace h22 := h22.mono (m83.le no_No)
          replace h23 := h23.mono (m83.le no_No)
          replace h24 := h24.mono (m83.le no_No)
          replace h25 := h25.mono (m83.le no_No)
          exact L.not (Wt.mk rfl rfl) rfl rfl (L.pkF Wt.no rfl rfl rfl rfl (L.sb (J80 _ _ ⟨s82, (!r81), (Option.some.inj hm).symm, m0, h13, h10, h11, h12, h22, h23, h24, h25, bx1, bx14, bx26, rfl, rfl⟩) rfl))
       ·intro J84
        rcases ifS eb38 with ⟨hc, hm⟩ | ⟨hc, hm⟩
        ·exact L.know (d := 65) rfl hc (L.skip rfl rfl rfl rfl (L.skip rfl rfl rfl rfl (L.skip rfl rfl rfl rfl (L.skip rfl rfl rfl rfl (L.skip rfl rfl rfl rfl (L.skip rfl rfl rfl rfl (L.pkT Wt.no rfl rfl rfl rfl (L.sb (J84 _ _ ⟨s33, true, (Option.some.inj hm).symm, m0, h13, h10, h11, h12, h22, h23, h24, h25, bx1, bx14, bx26, rfl, rfl⟩) rfl))))))))
        ·refine L.know (d := 65) rfl hc (L.fa fa34_1 (Wt.mk rfl rfl) rfl rfl (L.ld (j := 5) bx26.mem nag23 (Wt.mk rfl rfl) rfl rfl rfl rfl (L.fa fa26_0 (Wt.mk rfl rfl) rfl rfl (L.ld (j := 0) bx14.mem nag23 (Wt.mk rfl rfl) rfl rfl rfl rfl ?_))))
         obtain ⟨r85, er85, hm⟩ := bindS hm
         refine L.ca cf20 rfl rfl (Wt.mk rfl rfl) rfl (m_slices_Equal_int_c (s := s33) (p0 := r19.1.2.1) (p1 := r7.1.1) h24 h10 er85) rfl ?_
         rintro _ s86 m87 rfl
         replace m0 := m0.trans m87.no
         replace h13 := h13.mono (m87.le no_No)
         replace bx1 := bx1.mv m87 no_No
         replace bx14 := bx14.mv m87 no_No
         replace h10 := h10.mono (m87.le no_No)
         replace h11 := h11.mono (m87.le no_No)
         replace h12 := h12.mono (m87.le no_No)
         replace bx26 := bx26.mv m87 no_No
         replace h22 := h22.mono (m87.le no_No)
         replace h23 := h23.mono (m87.le no_No)
         replace h24 := h24.mono (m87.le no_No)
         replace h25 := h25.mono (m87.le no_No)
         exact L.not (Wt.mk rfl rfl) rfl rfl (L.pkF Wt.no rfl rfl rfl rfl (L.sb (J84 _ _ ⟨s86, (!r85), (Option.some.inj hm).symm, m0, h13, h10, h11, h12, h22, h23, h24, h25, bx1, bx14, bx26, rfl, rfl⟩) rfl))
      ·intro J88
       rcases Bool.eq_false_or_eq_true (((b31 || (r19.1.1.1 != (r7.1.1.length : Int))) || (r19.1.1.2.1 != (W ((r7.2.length : Int) + 1)))) || (decide (r19.1.1.2.2.1 < r7.1.2.1))) with hc | hc
       ·exact L.know (d := 58) rfl hc (L.skip rfl rfl rfl rfl (L.skip rfl rfl rfl rfl (L.skip rfl rfl rfl rfl (L.skip rfl rfl rfl rfl (L.skip rfl rfl rfl rfl (L.pkT Wt.no rfl rfl rfl rfl (L.sb (J88 _ _ ⟨true, (orT hc).symm, rfl, rfl⟩) rfl)))))))
       ·exact L.know (d := 58) rfl hc (L.fa fa34_3 (Wt.mk rfl rfl) rfl rfl (L.ld (j := 7) bx26.mem nag3 (Wt.mk rfl rfl) rfl rfl rfl rfl (L.fa fa26_1 (Wt.mk rfl rfl) rfl rfl (L.ld (j := 1) bx14.mem nag3 (Wt.mk rfl rfl) rfl rfl rfl rfl (L.bi (Wt.mk rfl rfl) rfl rfl rfl rfl (L.pkF Wt.no rfl rfl rfl rfl (L.sb (J88 _ _ ⟨(r19.1.2.2.2 != r7.1.2.1), (orF hc).symm, rfl, rfl⟩) rfl)))))))
     ·intro J89
      rcases Bool.eq_false_or_eq_true ((b31 || (r19.1.1.1 != (r7.1.1.length : Int))) || (r19.1.1.2.1 != (W ((r7.2.length : Int) + 1)))) with hc | hc
      ·exact L.know (d := 50) rfl hc (L.skip rfl rfl rfl rfl (L.skip rfl rfl rfl rfl (L.skip rfl rfl rfl rfl (L.skip rfl rfl rfl rfl (L.skip rfl rfl rfl rfl (L.skip rfl rfl rfl rfl (L.pkT Wt.no rfl rfl rfl rfl (L.sb (J89 _ _ ⟨true, (orT hc).symm, rfl, rfl⟩) rfl))))))))
      ·exact L.know (d := 50) rfl hc (L.fa fa34_0 (Wt.mk rfl rfl) rfl rfl (L.fa fa32_2 (Wt.mk rfl rfl) rfl rfl (L.ld (j := 2) bx26.mem nag3 (Wt.mk rfl rfl) rfl rfl rfl rfl (L.fa fa26_1 (Wt.mk rfl rfl) rfl rfl (L.ld (j := 1) bx14.mem nag3 (Wt.mk rfl rfl) rfl rfl rfl rfl (L.bi (Wt.mk rfl rfl) rfl rfl rfl rfl (L.pkF Wt.no rfl rfl rfl rfl (L.sb (J89 _ _ ⟨(decide (r19.1.1.2.2.1 < r7.1.2.1)), (orF hc).symm, rfl, rfl⟩) rfl))))))))
    ·intro J90
     rcases Bool.eq_false_or_eq_true (b31 || (r19.1.1.1 != (r7.1.1.length : Int))) with hc | hc
     ·exact L.know (d := 41) rfl hc (L.skip rfl rfl rfl rfl (L.skip rfl rfl rfl rfl (L.skip rfl rfl rfl rfl (L.skip rfl rfl rfl rfl (L.skip rfl rfl rfl rfl (L.skip rfl rfl rfl rfl (L.skip rfl rfl rfl rfl (L.pkT Wt.no rfl rfl rfl rfl (L.sb (J90 _ _ ⟨true, (orT hc).symm, rfl, rfl⟩) rfl)))))))))
     ·exact L.know (d := 41) rfl hc (L.fa fa34_0 (Wt.mk rfl rfl) rfl rfl (L.fa fa32_1 (Wt.mk rfl rfl) rfl rfl (L.ld (j := 1) bx26.mem nag3 (Wt.mk rfl rfl) rfl rfl rfl rfl (L.mv (Wt.mk rfl rfl) rfl rfl (L.len sl23 (Wt.mk rfl rfl) rfl rfl (L.bi (Wt.mk rfl rfl) rfl rfl rfl rfl (L.bi (Wt.mk rfl rfl) rfl rfl rfl rfl (L.pkF Wt.no rfl rfl rfl rfl (L.sb (J90 _ _ ⟨(r19.1.1.2.1 != (W ((r7.2.length : Int) + 1))), (orF hc).symm, rfl, rfl⟩) rfl)))))))))
   ·intro J91
    rcases Bool.eq_false_or_eq_true b31 with hc | hc
    ·exact L.know (d := 32) rfl hc (L.skip rfl rfl rfl rfl (L.skip rfl rfl rfl rfl (L.skip rfl rfl rfl rfl (L.skip rfl rfl rfl rfl (L.skip rfl rfl rfl rfl (L.skip rfl rfl rfl rfl (L.skip rfl rfl rfl rfl (L.pkT Wt.no rfl rfl rfl rfl (L.sb (J91 _ _ ⟨true, (orT hc).symm, rfl, rfl⟩) rfl)))))))))
    ·exact L.know (d := 32) rfl hc (L.fa fa34_0 (Wt.mk rfl rfl) rfl rfl (L.fa fa32_0 (Wt.mk rfl rfl) rfl rfl (L.ld (j := 0) bx26.mem nag3 (Wt.mk rfl rfl) rfl rfl rfl rfl (L.fa fa26_0 (Wt.mk rfl rfl) rfl rfl (L.ld (j := 0) bx14.mem nag23 (Wt.mk rfl rfl) rfl rfl rfl rfl (L.len sl23 (Wt.mk rfl rfl) rfl rfl (L.bi (Wt.mk rfl rfl) rfl rfl rfl rfl (L.pkF Wt.no rfl rfl rfl rfl (L.sb (J91 _ _ ⟨(r19.1.1.1 != (r7.1.1.length : Int)), (orF hc).symm, rfl, rfl⟩) rfl)))))))))
  ·intro J92
   rcases ifS eb31 with ⟨hc, hm⟩ | ⟨hc, hm⟩
   ·exact L.know (d := 26) rfl hc (L.skip rfl rfl rfl rfl (L.skip rfl rfl rfl rfl (L.skip rfl rfl rfl rfl (L.skip rfl rfl rfl rfl (L.pkT Wt.no rfl rfl rfl rfl (L.sb (J92 _ _ ⟨s29, true, (Option.some.inj hm).symm, m0, h13, h10, h11, h12, h22, h23, h24, h25, bx1, bx14, bx26, rfl, rfl⟩) rfl))))))
   ·refine L.know (d := 26) rfl hc (L.fa fa34_0 (Wt.mk rfl rfl) rfl rfl (L.lg (j := 0) (cs := [.int .i64 r19.1.1.1, .int .i64 r19.1.1.2.1, .int .i64 r19.1.1.2.2.1, .slice a22 r19.1.1.2.2.2.1.length c22, .slice a23 r19.1.1.2.2.2.2.length c23]) bx26.mem ag32 (Wt.mk rfl rfl) rfl rfl rfl rfl rfl ?_))
    obtain ⟨r93, er93, hm⟩ := bindS hm
    refine L.ca cf26 rfl rfl (Wt.mk rfl rfl) rfl (m_instruction_Check_c (s := s29) (p0 := r19.1.1) h22 h23 er93) rfl ?_
    rintro _ s94 m95 rfl
    replace m0 := m0.trans m95.no
    replace h13 := h13.mono (m95.le no_No)
    replace bx1 := bx1.mv m95 no_No
    replace bx14 := bx14.mv m95 no_No
    replace h10 := h10.mono (m95.le no_No)
    replace h11 := h11.mono (m95.le no_No)
    replace h12 := h12.mono (m95.le no_No)
    replace bx26 := bx26.mv m95 no_No
    replace h22 := h22.mono (m95.le no_No)
    replace h23 := h23.mono (m95.le no_No)
    replace h24 := h24.mono (m95.le no_No)
    replace h25 := h25.mono (m95.le no_No)
    exact L.bi (Wt.mk rfl rfl) rfl rfl rfl rfl (L.pkF Wt.no rfl rfl rfl rfl (L.sb (J92 _ _ ⟨s94, (r93 != 0), (Option.some.inj hm).symm, m0, h13, h10, h11, h12, h22, h23, h24, h25, bx1, bx14, bx26, rfl, rfl⟩) rfl))

end Go.Proofs.Ytkkemchihllklaa

namespace Go.Proofs.Ytkkemchihllklaa
open Go Go.RowKit

theorem equalE_self {xs : List (Int × Int × Int)} (hl : xs.length < 4611686018427387904) : m_slices_Equal_Edge xs xs = some true := by
  have hi : iter (m_slices_Equal_Edge_l1 xs xs) 0 = some (.inl ()) := by
    refine iter_run (f := m_slices_Equal_Edge_l1 xs xs) (fun k => (k : Int)) xs.length (by omega) (fun k hk => ?_) ?_
    · rw [m_slices_Equal_Edge_l1, if_pos (ct_lt hk), idx_at hk, Option.bind_some, Option.bind_some, if_neg (by simp), nxt (by omega)]
    · rw [m_slices_Equal_Edge_l1, if_neg ct_ge]
  rw [m_slices_Equal_Edge, if_neg (by simp), hi]
  rfl
theorem equalA_self {a : Aut} (h1 : a.al.length ≤ 1000000) (h2 : a.ms.length ≤ 1000000) (h3 : a.es.length ≤ 1000000) : m_automaton_Equal (autP a) (autP a) = some true := by
  rw [m_automaton_Equal, if_pos (by simp), show m_slices_Equal_int (autP a).1 (autP a).1 = some true from equal_self (by show a.al.length < _; omega), Option.bind_some, Option.bind_some, if_pos rfl, show m_slices_Equal_int (autP a).2.2.1 (autP a).2.2.1 = some true from equal_self (by show a.ms.length < _; omega), Option.bind_some, Option.bind_some, if_pos rfl,
    show m_slices_Equal_Edge (autP a).2.2.2 (autP a).2.2.2 = some true from equalE_self (by show (a.es.map edP).length < _; rw [List.length_map]; omega)]
  rfl
theorem makes_eq {x : Sketch} (hx : SkOk x) : m_overseerlaw53_GenerateMakes x = some true := by
  rw [m_overseerlaw53_GenerateMakes, known53, Option.bind_some, if_neg (by simp)]
  obtain ⟨a, l, n, h1, h⟩ := make53_ex hx
  have hc := h.code
  have hct := h.gen.ct
  have hal := h.gen.al
  have hes := h.gen.es
  have hms := h.ms
  have hn1 := h.gen.n1
  have hn := h.gen.hn
  rw [h1, Option.bind_some]
  dsimp only
  rw [hc, Option.bind_some]
  dsimp only
  rw [if_neg (by simp), show m_instruction_Check (codeP a l n).1 = some 0 from pcheck_eq (genP_in h.gen h.ia h.ic), Option.bind_some, Option.bind_some]
  have e1 : (codeP a l n).1.1 = (a.al.length : Int) := rfl
  have e2 : (codeP a l n).1.2.1 = ((l.length + 1 : Nat) : Int) := rfl
  have e3 : (codeP a l n).1.2.2.1 = ((n + 1 : Nat) : Int) := rfl
  have e4 : (codeP a l n).2.2.2 = (n : Int) := rfl
  have e5 : (codeP a l n).2.1 = a.al := rfl
  have e6 : (codeP a l n).2.2.1 = l := rfl
  have e7 : (autP a).1 = a.al := rfl
  have e8 : (autP a).2.1 = (n : Int) := hn
  rw [e1, e2, e3, e4, e5, e6, e7, e8, nxt (by omega), if_neg (by simp; omega), equal_self (by omega), Option.bind_some, Option.bind_some, if_neg (by simp), equal_self (by omega), Option.bind_some, Option.bind_some, if_neg (by simp), h.start, Option.bind_some, Option.bind_some]
  dsimp only
  rw [if_pos (by simp), show m_overseerlaw53_shows (autP a) l (codeP a l n) (List.replicate (l.length + 1) false, true :: List.replicate n false) 0 false false = some true from (Shows.start h.gen.n0 (a := a) (ctrl := l)).says h.gen (p6 := false) (fun k hk => by
    show (List.replicate (l.length + 1) false).getD k false = _
    rw [List.getD_eq_getElem?_getD, List.getElem?_replicate]
    split <;> rfl), Option.bind_some, Option.bind_some, if_pos rfl, equalA_self (by omega) (by omega) (by omega)]
  rfl
end Go.Proofs.Ytkkemchihllklaa

namespace Go.Proofs.Ytkkemchihllklaa
open Go Go.ChangeShapes Go.WideShapes Go.ChangeAt Go.RowKit

set_option maxRecDepth 100000 in
theorem generateMakes_lifted (os : Os) (started : os.Started) (H : Type) (enc : TypeId × Value → H) :
    ReturnsInHanded {} Try.checked os 6 .any (Rows.generateMakesSpec.pre6 enc Try.prog Try.f6 Rows.generateMakesRow.domain false) (Rows.generateMakesSpec.post enc Try.prog Try.f6 false true false false) := by
  refine returnsInHanded_of_change (C := Try.checked) Try.own started (by kernel_rfl) Try.func6
    (ChangeSpec.witness6 (enc := enc) (C := Try.checked) false ⟨#[], #[.agg #[.int .u8 0, .int .u8 0, .int .u8 0, .int .u8 0, .int .u8 0, .int .u8 0, .int .u8 0, .int .u8 0, .int .u8 0, .int .u8 0, .int .u8 0, .int .u8 0, .int .u8 0, .int .u8 0, .int .u8 0, .int .u8 0, .int .u8 0, .int .u8 0, .int .u8 0, .int .u8 0, .int .u8 0, .int .u8 0, .int .u8 0, .int .u8 0, .int .u8 0, .int .u8 0, .int .u8 0, .int .u8 0, .int .u8 0]], []⟩ 8 (by kernel_rfl) (by kernel_rfl) (by kernel_rfl) (by kernel_rfl)) ?_
  intro W base args ds gs before hval0 hW hcnd _
  have hval : ∀ (j : Nat) t v, Try.f6.params[j]? = some t → args[j]? = some v → Value.okWide Try.prog W .any base t v := hval0
  have hW' := hW
  obtain ⟨p, q, hA0, hV, rfl, hfz, hnd⟩ := hW
  have hA : DataW.TrodAll enc Try.prog W 0 (fun _ => true) true Try.f6.params.toList args.toList ds p := hA0
  rw [Try.params6] at hA hval
  obtain ⟨v0, d0, rfl, rfl, h0⟩ := trodAll_one hA
  obtain ⟨x, hx, rfl⟩ := arg_sketch (hval 0 51 v0 rfl rfl)
  obtain ⟨rfl, rfl⟩ := trodVars_none hV
  clear hA0 hval0
  refine (m_overseerlaw53_GenerateMakes_c (s := ⟨W, fun _ => 0⟩)  (makes_eq hx)).mono fun e W' ⟨v, s', hw, he, hm, hv⟩ => ?_
  subst hw
  subst he
  subst hv
  have hbl := hm.below
  exact ⟨_, rfl, law_post Try.laidOut hW' rfl (by kernel_rfl) (by kernel_rfl) Try.underlying4 rfl rfl rfl hbl⟩

/-- The statement. -/
theorem generateMakes_holds : Rows.GenerateMakesSaid :=
  OpenClaim.holds_of_wide 6 Try.f6 rfl rfl rfl rfl rfl rfl rfl ⟨rfl, rfl, rfl, rfl, rfl⟩ rfl rfl rfl rfl rfl (by kernel_rfl) Try.func6 (by kernel_rfl)
    (of_decide_eq_true (by kernel_rfl)) (by unfold Func.isWrapper; first | (rw [if_pos (by decide +kernel)]; kernel_rfl) | (rw [if_neg (by decide +kernel)]; exact ⟨rfl, rfl⟩))
    (fun os started H enc _ => generateMakes_lifted os started H enc)
end Go.Proofs.Ytkkemchihllklaa
