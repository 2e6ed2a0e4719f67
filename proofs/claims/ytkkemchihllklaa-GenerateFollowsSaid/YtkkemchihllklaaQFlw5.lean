/- Parts of the proof, without what nothing here names. -/
import Derived.Test.YtkkemchihllklaaProg
import Derived.Test.YtkkemchihllklaaRows
import Derived.ProofKit
import Derived.Deep.Slices
import Derived.ChangeSame
import Derived.Test.YtkkemchihllklaaQFlw4
namespace Go.Proofs.Ytkkemchihllklaa
open Go Go.RowKit

theorem idx_hd {α : Type} (a : α) (us : List α) : idx (a :: us) 0 = some a := rfl
theorem slc_tl {α : Type} (a : α) (us : List α) : slc (a :: us) 1 ((a :: us).length : Int) = some us := by
  rw [slc, if_pos ⟨by omega, by simp; omega, by omega⟩]
  simp
theorem merge_go : ∀ (f : Nat) (us vs out : List Int), us.length + vs.length ≤ f → out.length + us.length ≤ 4294967296 → iterF (m_alphabet_merge_l1 m_alphabet_Minus_1) (f + 1) (out, us, vs) = some (minusL f us vs out) := by
  intro f
  induction f with
  | zero =>
    intro us vs out h _
    have h1 : us = [] := List.eq_nil_of_length_eq_zero (by omega)
    have h2 : vs = [] := List.eq_nil_of_length_eq_zero (by omega)
    subst h1; subst h2
    rfl
  | succ f ih =>
    intro us vs out h ho
    rw [iterF_succ]
    cases us with
    | nil =>
      cases vs with
      | nil => rfl
      | cons b vs =>
        have e : m_alphabet_merge_l1 m_alphabet_Minus_1 (out, [], b :: vs) = some (.inl (out, [], vs)) := by
          rw [m_alphabet_merge_l1]
          dsimp only
          rw [if_pos (by simp), if_neg (by simp), m_alphabet_merge_j1]
          dsimp only
          rw [if_pos (by simp), if_pos (by simp), m_alphabet_merge_j2, if_neg (by simp), m_alphabet_merge_j3, if_pos rfl]
          dsimp only
          rw [idx_hd, Option.bind_some, slc_tl, Option.bind_some]
          rfl
        rw [e]
        exact ih [] vs out (by simp at h ⊢; omega) ho
    | cons a us =>
      rw [List.length_cons] at h ho
      have ho' : app out ([a] : List Int) = some (out ++ [a]) := app_eq (by simp; omega)
      cases vs with
      | nil =>
        have e : m_alphabet_merge_l1 m_alphabet_Minus_1 (out, a :: us, []) = some (.inl (out ++ [a], us, [])) := by
          rw [m_alphabet_merge_l1]
          dsimp only
          rw [if_pos (by simp), if_pos (by simp), if_pos (by simp), m_alphabet_merge_j1]
          dsimp only
          rw [if_neg (by simp), m_alphabet_merge_j2, if_pos rfl]
          dsimp only
          rw [idx_hd, Option.bind_some, slc_tl, Option.bind_some, m_alphabet_merge_j3, if_neg (by simp), m_alphabet_merge_j4, show m_alphabet_Minus_1 true false = some true from rfl, Option.bind_some, if_pos rfl]
          dsimp only
          rw [ho', Option.bind_some]
        rw [e]
        exact ih us [] (out ++ [a]) (by simp at h ⊢; omega) (by simp; omega)
      | cons b vs =>
        rw [List.length_cons] at h
        have e0 : m_alphabet_merge_l1 m_alphabet_Minus_1 (out, a :: us, b :: vs) = m_alphabet_merge_j2 m_alphabet_Minus_1 (out, a :: us, b :: vs) (decide (a ≤ b)) (decide (b ≤ a)) := by
          rw [m_alphabet_merge_l1]
          dsimp only
          rw [if_pos (by simp), if_pos (by simp), if_neg (by simp; omega), idx_hd, Option.bind_some, idx_hd, Option.bind_some, m_alphabet_merge_j1]
          dsimp only
          rw [if_pos (by simp), if_neg (by simp; omega), idx_hd, Option.bind_some, idx_hd, Option.bind_some]
        rw [e0, minusL, m_alphabet_merge_j2]
        dsimp only
        by_cases h1 : a < b
        · rw [if_pos (show decide (a ≤ b) = true by simp; omega), idx_hd, Option.bind_some, slc_tl, Option.bind_some, m_alphabet_merge_j3, if_neg (by simp; omega), m_alphabet_merge_j4, show decide (a ≤ b) = true by simp; omega, show decide (b ≤ a) = false by simp; omega,
            show m_alphabet_Minus_1 true false = some true from rfl, Option.bind_some, if_pos rfl, if_pos h1]
          dsimp only
          rw [ho', Option.bind_some]
          exact ih us (b :: vs) (out ++ [a]) (by simp; omega) (by simp; omega)
        · rw [if_neg h1]
          by_cases h2 : b < a
          · rw [if_neg (show ¬ decide (a ≤ b) = true by simp; omega), m_alphabet_merge_j3, if_pos (show decide (b ≤ a) = true by simp; omega)]
            dsimp only
            rw [idx_hd, Option.bind_some, slc_tl, Option.bind_some, m_alphabet_merge_j4, show decide (a ≤ b) = false by simp; omega, show decide (b ≤ a) = true by simp; omega,
              show m_alphabet_Minus_1 false true = some false from rfl, Option.bind_some, if_neg (by simp), if_pos h2]
            exact ih (a :: us) vs out (by simp; omega) (by simp; omega)
          · rw [if_pos (show decide (a ≤ b) = true by simp; omega), idx_hd, Option.bind_some, slc_tl, Option.bind_some, m_alphabet_merge_j3, if_pos (show decide (b ≤ a) = true by simp; omega)]
            dsimp only
            rw [idx_hd, Option.bind_some, slc_tl, Option.bind_some, m_alphabet_merge_j4, show decide (a ≤ b) = true by simp; omega, show decide (b ≤ a) = true by simp; omega,
              show m_alphabet_Minus_1 true true = some false from rfl, Option.bind_some, if_neg (by simp), if_neg h2]
            exact ih us vs out (by omega) (by omega)
/-- What a set has and another has not. -/
theorem minus_eq {us vs : List Int} (hu : us.length ≤ 4294967296) (hv : vs.length ≤ 4294967296) : m_alphabet_Minus us vs = some (minusL (us.length + vs.length) us vs []) := by
  have h : iter (m_alphabet_merge_l1 m_alphabet_Minus_1) (([] : List Int), us, vs) = some (minusL (us.length + vs.length) us vs []) := iter_of (by omega) (merge_go _ us vs [] (Nat.le_refl _) (by simpa using hu))
  rw [m_alphabet_Minus, m_alphabet_merge, h]
  rfl
theorem subset_eq {us vs : List Int} (hu : us.length ≤ 4294967296) (hv : vs.length ≤ 4294967296) (iu : Inc us) (iv : Inc vs) : m_alphabet_Subset us vs = some (subB us vs) := by
  rw [m_alphabet_Subset, minus_eq hu hv, Option.bind_some]
  have h := minus_nil iu iv
  cases hb : subB us vs with
  | true => rw [h.2 hb]; rfl
  | false =>
    have hn : minusL (us.length + vs.length) us vs [] ≠ [] := fun e => by rw [h.1 e] at hb; cases hb
    have : (minusL (us.length + vs.length) us vs []).length ≠ 0 := fun e => hn (List.eq_nil_of_length_eq_zero e)
    rw [show (((minusL (us.length + vs.length) us vs []).length : Int) == 0) = false from by simpa using hn]
theorem half_eq {i j : Nat} (h : i + j < 9223372036854775808) : W ((IntKind.u64.wrap (W ((i : Int) + (j : Int)))).fdiv (2 ^ (min (1 : Int).toNat 64))) = (((i + j) / 2 : Nat) : Int) := by
  rw [W_of (x := (i : Int) + j) (by omega) (by omega), IntWalk.u64_in _ (by omega), show (2 : Int) ^ (min (1 : Int).toNat 64) = 2 from rfl, Int.fdiv_eq_ediv_of_nonneg _ (by omega), W_of (by omega) (by omega)]
  omega
end Go.Proofs.Ytkkemchihllklaa

namespace Go.Proofs.Ytkkemchihllklaa
open Go Go.RowKit
noncomputable def m_overseerlaw53_step_l1 (p0 : List Int × Int × List Int × (List (Int × Int × Int))) (p1 : Int) (p2 : Int) (st18 : Int) : Option (Int ⊕ (Unit ⊕ Int)) :=
  if decide (st18 < (p0.2.2.2.length : Int)) then
    (idx p0.2.2.2 st18).bind fun x27 =>
    if ((x27.1 == p1) && (x27.2.1 == p2)) then
      some (.inr (.inr (x27.2.2)))
    else
      some (.inl (W (st18 + 1)))
  else
    some (.inr (.inl ()))
/-- What overseerlaw53.step computes. -/
noncomputable def m_overseerlaw53_step (p0 : List Int × Int × List Int × (List (Int × Int × Int))) (p1 : Int) (p2 : Int) : Option Int :=
  (iter (m_overseerlaw53_step_l1 p0 p1 p2) 0).bind fun o18 =>
  match o18 with
  | .inl u21 =>
    some (-1)
  | .inr (u24) =>
    some u24
set_option maxRecDepth 100000 in
set_option maxHeartbeats 8000000 in
theorem m_overseerlaw53_step_c {s : Sig} {p0 : List Int × Int × List Int × (List (Int × Int × Int))} {p1 : Int} {p2 : Int} {a1 : Option Addr} {c1 : Nat} {a2 : Option Addr} {c2 : Nat} {a3 : Option Addr} {c3 : Nat} {r : Int} (h1 : RdL (rK .i64) s a1 c1 p0.1) (h2 : RdL (rK .i64) s a2 c2 p0.2.2.1) (h3 : RdL (rP (rK .i64) (rP (rK .i64) (rK .i64))) s a3 c3 p0.2.2.2) (hm : m_overseerlaw53_step p0 p1 p2 = some r) :
    Calls Try.prog 45 #[.agg #[.slice a1 p0.1.length c1, .int .i64 p0.2.1, .slice a2 p0.2.2.1.length c2, .slice a3 p0.2.2.2.length c3], .int .i64 p1, .int .i64 p2] s.w (RetS No s fun v s' => v = .int .i64 r) := by
 unfold m_overseerlaw53_step at hm
 obtain ⟨N, hN, hNb⟩ := s.fresh
 have m0 : Mv (Up N No) s s := Mv.refl _ _
 refine E.entry Try.func45 rfl Try.ntmps45 rfl rfl (E.seq (E.reg (L.box (N + 0) Wt.no rfl rfl rfl fun b4 s5 m6 bx4 => ?_)))
 replace m0 := m0.trans m6.no
 replace h3 := h3.mono (m6.le no_No)
 refine L.as Wt.no rfl rfl (L.nil (X.seqN (E.seq (E.seq (E.reg (L.fa fa26_3 Wt.no rfl rfl (L.ld (j := 3) bx4.mem nag24 Wt.no rfl rfl rfl rfl (L.len sl24 Wt.no rfl rfl (L.mv Wt.no rfl rfl (L.nil (X.seqN (E.block ?_))))))))))))
 obtain ⟨o18, eo18, hm⟩ := bindS hm
 refine E.cut (x := .exit 0) (fun e w => ∃ (s22 : Sig) (u21 : Unit), o18 = .inl u21 ∧ Mv (Up N No) s s22 ∧ e = [] ∧ w = s22.w) ?_ ?_
 ·rintro _ _ ⟨s22, u21, rfl, m0, rfl, rfl⟩
  dsimp only at hm
  refine X.blkE (X.seqN (E.seq (E.reg (L.as Wt.no rfl rfl (L.nil (X.seqN (E.ret ?_)))))))
  obtain rfl := Option.some.inj hm
  exact X.rt (.inl rfl) Try.results45 (Rs.tmp rfl Rs.nil) rfl ⟨_, (s22).ren N (fun _ => 0), rfl, rfl, m0.ren hNb, rfl⟩
 intro K23
 refine E.cut (x := .ret) (fun e w => ∃ (s25 : Sig) (u24 : Int), o18 = .inr (u24) ∧ Mv (Up N No) s s25 ∧ e = [(6, .int .i64 u24)] ∧ w = s25.w) ?_ ?_
 ·rintro _ _ ⟨s25, u24, rfl, m0, rfl, rfl⟩
  dsimp only at hm
  refine X.blkR (X.seqR ?_)
  obtain rfl := Option.some.inj hm
  exact X.rt (.inl rfl) Try.results45 (Rs.tmp rfl Rs.nil) rfl ⟨_, (s25).ren N (fun _ => 0), rfl, rfl, m0.ren hNb, rfl⟩
 intro K26
 refine E.iter (fun (st18 : Int) (e : List (Nat × Value)) (w : World) => ∃ (s20 : Sig), Mv (Up N No) s s20 ∧ RdL (rP (rK .i64) (rP (rK .i64) (rK .i64))) s20 a3 c3 p0.2.2.2 ∧ e = [(12, .int .i64 st18), (11, .int .i64 (p0.2.2.2.length : Int)), (10, .slice a3 p0.2.2.2.length c3), (1, .int .i64 p1), (2, .int .i64 p2)] ∧ w = s20.w) eo18 ⟨s5, m0, h3, rfl, rfl⟩ (Sub.rf rfl) ?_
 rintro st18 res18 hm ih18 ho18 _ _ ⟨s20, m0, h3, rfl, rfl⟩
 unfold m_overseerlaw53_step_l1 at hm
 refine E.seq (E.reg (L.bi Wt.no rfl rfl rfl rfl (L.nil (X.seqN (E.seq ?_)))))
 rcases ifS hm with ⟨hc, hm⟩ | ⟨hc, hm⟩
 ·refine E.cT rfl hc (E.skip (X.seqN (E.seq (E.block (E.seq (E.reg ?_))))))
  obtain ⟨x27, ex27, hm⟩ := bindS hm
  refine L.ix (r := (rP (rK .i64) (rP (rK .i64) (rK .i64)))) sl24 h3 Wt.no rfl rfl ex27 rfl fun b28 o28 cc28 me28 rd28 => ?_
  obtain ⟨_, _, rfl, rfl, ⟨_, _, rfl, rfl, rfl⟩⟩ := rd28
  refine L.lg (j := 0) (cs := [.int .i64 x27.1, .int .i64 x27.2.1, .int .i64 x27.2.2]) me28 ag28 Wt.no rfl rfl rfl rfl rfl (L.al (N + 1) zz28 rfl Wt.no rfl fun b29 s30 m31 bx29 => ?_)
  replace m0 := m0.trans m31.no
  replace h3 := h3.mono (m31.le no_No)
  refine L.st (c := [.int .i64 x27.1, .int .i64 x27.2.1, .int .i64 x27.2.2]) (cs' := #[.int .i64 x27.1, .int .i64 x27.2.1, .int .i64 x27.2.2]) bx29 ag28.sz Wt.no rfl rfl rfl rfl rfl (Nat.le_of_ble_eq_true rfl) rfl fun s32 m33 bx29 => ?_
  replace m0 := m0.trans (m33.one up)
  replace h3 := h3.mono (m33.le (tg0 hN))
  refine L.nil (X.seqN (E.seq (E.reg (L.fa fa28_0 Wt.no rfl rfl (L.ld (j := 0) bx29.mem nag3 Wt.no rfl rfl rfl rfl (L.mv Wt.no rfl rfl (L.bi Wt.no rfl rfl rfl rfl (L.mv Wt.no rfl rfl (L.cut 5 (fun e w => ∃ (v34 : Bool), ((x27.1 == p1) && (x27.2.1 == p2)) = v34 ∧ e = (25, .bool v34) :: [(8, .pointer (some ⟨b29, 0, none⟩)), (12, .int .i64 st18), (11, .int .i64 (p0.2.2.2.length : Int)), (10, .slice a3 p0.2.2.2.length c3), (1, .int .i64 p1), (2, .int .i64 p2)] ∧ w = s32.w) ?_ ?_)))))))))
  ·rintro _ _ ⟨v34, rfl, rfl, rfl⟩
   refine L.nil (X.seqN ?_)
   rcases ifS hm with ⟨hc, hm⟩ | ⟨hc, hm⟩
   ·refine E.cT rfl hc (E.seq (E.reg (L.fa fa28_2 Wt.no rfl rfl (L.ld (j := 2) bx29.mem nag3 Wt.no rfl rfl rfl rfl (L.as Wt.no rfl rfl (L.nil (X.seqN (E.ret (X.blkR (X.seqR (X.seqR ?_)))))))))))
    have hx := ho18 _ (Option.some.inj hm).symm
    exact X.sub (K26 _ _ ⟨s32, x27.2.2, hx.symm, m0, rfl, rfl⟩) (Sub.rf rfl)
   ·exact E.cF rfl hc (E.skip (X.blkN (X.seqN (E.reg (L.bi Wt.no rfl rfl rfl rfl (L.mv Wt.no rfl rfl (L.nil (X.sub (ih18 _ (Option.some.inj hm).symm _ _ ⟨s32, m0, h3, rfl, rfl⟩) (Sub.rf rfl)))))))))
  ·intro J35
   rcases Bool.eq_false_or_eq_true (x27.1 == p1) with hc | hc
   ·exact L.know (d := 20) rfl hc (L.fa fa28_1 (Wt.mk rfl rfl) rfl rfl (L.ld (j := 1) bx29.mem nag3 (Wt.mk rfl rfl) rfl rfl rfl rfl (L.mv (Wt.mk rfl rfl) rfl rfl (L.bi (Wt.mk rfl rfl) rfl rfl rfl rfl (L.pkT Wt.no rfl rfl rfl rfl (L.sb (J35 _ _ ⟨(x27.2.1 == p2), (andT hc).symm, rfl, rfl⟩) rfl))))))
   ·exact L.know (d := 20) rfl hc (L.skip rfl rfl rfl rfl (L.skip rfl rfl rfl rfl (L.skip rfl rfl rfl rfl (L.skip rfl rfl rfl rfl (L.pkF Wt.no rfl rfl rfl rfl (L.sb (J35 _ _ ⟨false, (andF hc).symm, rfl, rfl⟩) rfl))))))
 ·refine E.cF rfl hc (E.exit (X.seqX (X.seqX ?_)))
  have hx := ho18 _ (Option.some.inj hm).symm
  exact X.sub (K23 _ _ ⟨s20, (), hx.symm, m0, rfl, rfl⟩) Sub.nil

/-- What generate.Alarmed computes. -/
noncomputable def m_generate_Alarmed (p0 : (Int × Int × Int × List Bool × (List (Int × Int))) × List Int × List Int × Int) (p1 : List Bool × List Bool) : Option (Bool × Int) :=
  (m_generate_fits p0 p1).bind fun r13 =>
  if (r13 != 0) then
    some (false, r13)
  else
    (idx p1.1 (p0.2.2.1.length : Int)).bind fun x16 =>
    some (x16, 0)
theorem cf45 : Cf Try.prog 45 := Cf.mk Try.func45 (by kernel_rfl) (by kernel_rfl)
noncomputable def m_overseerlaw53_shows_j1 (st57 : Int × List Int) (l97 : List Int) : Option ((Int × List Int) ⊕ ((List Int) ⊕ Unit)) :=
  some (.inl (W (st57.1 + 1), l97))
noncomputable def m_overseerlaw53_shows_l2 (p0 : List Int × Int × List Int × (List (Int × Int × Int))) (p1 : List Int) (p3 : List Bool × List Bool) (p4 : Int) (p6 : Bool) (st57 : Int × List Int) : Option ((Int × List Int) ⊕ ((List Int) ⊕ Unit)) :=
  if decide (st57.1 < (p1.length : Int)) then
    (idx p1 st57.1).bind fun x101 =>
    (if p6 then
      (m_overseerlaw53_step p0 p4 x101).bind fun r116 =>
      some (decide (r116 ≥ 0))
    else
      some false).bind fun b103 =>
    (idx p3.1 st57.1).bind fun x106 =>
    if (x106 != b103) then
      some (.inr (.inr (())))
    else
      if b103 then
        (app st57.2 ([x101] : List Int)).bind fun x111 =>
        m_overseerlaw53_shows_j1 st57 x111
      else
        m_overseerlaw53_shows_j1 st57 st57.2
  else
    some (.inr (.inl st57.2))
noncomputable def m_overseerlaw53_shows_l1 (p0 : List Int × Int × List Int × (List (Int × Int × Int))) (p3 : List Bool × List Bool) (p4 : Int) (st25 : Int) : Option (Int ⊕ (Unit ⊕ Unit)) :=
  if decide (st25 < p0.2.1) then
    (idx p3.2 st25).bind fun x123 =>
    if (x123 != (st25 == p4)) then
      some (.inr (.inr (())))
    else
      some (.inl (W (st25 + 1)))
  else
    some (.inr (.inl ()))
/-- What overseerlaw53.shows computes. -/
noncomputable def m_overseerlaw53_shows (p0 : List Int × Int × List Int × (List (Int × Int × Int))) (p1 : List Int) (p2 : (Int × Int × Int × List Bool × (List (Int × Int))) × List Int × List Int × Int) (p3 : List Bool × List Bool) (p4 : Int) (p5 : Bool) (p6 : Bool) : Option Bool :=
  if (((p3.1.length : Int) != (W ((p1.length : Int) + 1))) || (decide ((p3.2.length : Int) < p0.2.1))) then
    some false
  else
    (iter (m_overseerlaw53_shows_l1 p0 p3 p4) 0).bind fun o25 =>
    match o25 with
    | .inl u27 =>
      (iter (m_overseerlaw53_shows_l2 p0 p1 p3 p4 p6) (0, ([] : List Int))).bind fun o57 =>
      match o57 with
      | .inl u61 =>
        (m_generate_State p2 p3).bind fun r63 =>
        (m_generate_Enabled p2 p3).bind fun r66 =>
        (m_generate_Alarmed p2 p3).bind fun r70 =>
        (if ((((r63.2 == 0) && (r66.2 == 0)) && (r70.2 == 0)) && (r63.1 == p4)) then
          (m_slices_Equal_int r66.1 u61).bind fun r87 =>
          some r87
        else
          some false).bind fun b76 =>
        (if (b76 && (r70.1 == p5)) then
          (idx p3.1 (p1.length : Int)).bind fun x83 =>
          some (x83 == p5)
        else
          some false).bind fun b80 =>
        some b80
      | .inr (u94) =>
        some false
    | .inr (u120) =>
      some false
theorem cf11 : Cf Try.prog 11 := Cf.mk Try.func11 (by kernel_rfl) (by kernel_rfl)
noncomputable def m_overseerlaw03_Set_Events_j1 (st20 : Int × List Int) (l26 : List Int) : Option ((Int × List Int) ⊕ (List Int)) :=
  some (.inl (W (st20.1 + 1), l26))
noncomputable def m_overseerlaw03_Set_Events_l1 (p0 : Int) (st20 : Int × List Int) : Option ((Int × List Int) ⊕ (List Int)) :=
  if decide (st20.1 < 5) then
    (ng st20.1).bind fun _ =>
    if ((IntKind.u8.wrap (((BitVec.ofInt 8 (p0.fdiv (2 ^ (min st20.1.toNat 8))) &&& BitVec.ofInt 8 1).toNat : Int))) == 1) then
      (app st20.2 ([st20.1] : List Int)).bind fun x34 =>
      m_overseerlaw03_Set_Events_j1 st20 x34
    else
      m_overseerlaw03_Set_Events_j1 st20 st20.2
  else
    some (.inr st20.2)
/-- What overseerlaw03.Set).Events computes. -/
noncomputable def m_overseerlaw03_Set_Events (p0 : Int) : Option (List Int) :=
  (iter (m_overseerlaw03_Set_Events_l1 p0) (0, ([] : List Int))).bind fun o20 =>
  some o20
set_option maxRecDepth 100000 in
set_option maxHeartbeats 8000000 in
theorem m_overseerlaw03_Set_Events_c {s : Sig} {p0 : Int} {u0 : Nat} {r : List Int} (hm : m_overseerlaw03_Set_Events p0 = some r) :
    Calls Try.prog 47 #[.int .u8 p0] s.w (RetS No s fun v s' => ∃ (a1 : Option Addr) (c1 : Nat), v = .slice a1 r.length c1 ∧ RowT (rK .i64) s' u0 3 a1 c1 r) := by
 unfold m_overseerlaw03_Set_Events at hm
 obtain ⟨N, hN, hNb⟩ := s.fresh
 have m0 : Mv (Up N No) s s := Mv.refl _ _
 refine E.entry Try.func47 rfl Try.ntmps47 rfl rfl (E.seq (E.reg (L.as Wt.no rfl rfl (L.nil (X.seqN (E.seq (E.reg (L.as Wt.no rfl rfl (L.nil (X.seqN (E.seq (E.seq (E.reg (L.as Wt.no rfl rfl (L.nil (X.seqN (E.block ?_)))))))))))))))))
 obtain ⟨o20, eo20, hm⟩ := bindS hm
 refine E.cut (x := .exit 0) (fun e w => ∃ (s24 : Sig) (a22 : Option Addr) (c22 : Nat), Mv (Up N No) s s24 ∧ RowT (rK .i64) s24 (N + 0) 3 a22 c22 o20 ∧ e = [(3, .slice a22 o20.length c22)] ∧ w = s24.w) ?_ ?_
 ·rintro _ _ ⟨s24, a22, c22, m0, h22, rfl, rfl⟩
  refine X.blkE (X.seqN (E.seq (E.reg (L.mv Wt.no rfl rfl (L.as Wt.no rfl rfl (L.nil (X.seqN (E.ret ?_))))))))
  obtain rfl := Option.some.inj hm
  exact X.rt (.inl rfl) Try.results47 (Rs.tmp rfl Rs.nil) rfl ⟨_, (s24).ren N (fun k => cond (Nat.beq k 0) u0 (0)), rfl, rfl, m0.ren hNb, ⟨a22, c22, rfl, (h22.ren hN)⟩⟩
 intro K25
 refine E.iter (fun (st20 : Int × List Int) (e : List (Nat × Value)) (w : World) => ∃ (s23 : Sig) (a4 : Option Addr) (c4 : Nat), Mv (Up N No) s s23 ∧ RowT (rK .i64) s23 (N + 0) 3 a4 c4 st20.2 ∧ e = [(4, .int .i64 st20.1), (3, .slice a4 st20.2.length c4), (0, .int .u8 p0)] ∧ w = s23.w) eo20 ⟨s, none, 0, m0, RowT.nil, rfl, rfl⟩ (Sub.rf rfl) ?_
 rintro st20 res20 hm ih20 ho20 _ _ ⟨s23, a4, c4, m0, h4, rfl, rfl⟩
 unfold m_overseerlaw03_Set_Events_l1 at hm
 refine E.seq (E.seq (E.reg (L.mv Wt.no rfl rfl (L.bi Wt.no rfl rfl rfl rfl (L.nil (X.seqN ?_))))))
 rcases ifS hm with ⟨hc, hm⟩ | ⟨hc, hm⟩
 ·refine E.cT rfl hc (E.skip (X.seqN (E.seqJ (fun e w => ∃ (s28 : Sig) (l26 : List Int) (a27 : Option Addr) (c27 : Nat), m_overseerlaw03_Set_Events_j1 st20 l26 = some res20 ∧ Mv (Up N No) s s28 ∧ RowT (rK .i64) s28 (N + 0) 3 a27 c27 l26 ∧ e = [(3, .slice a27 l26.length c27), (4, .int .i64 st20.1), (0, .int .u8 p0)] ∧ w = s28.w) ?_ ?_)))
  ·rintro _ _ ⟨s28, l26, a27, c27, hm, m0, h27, rfl, rfl⟩
   unfold m_overseerlaw03_Set_Events_j1 at hm
   exact E.reg (L.mv Wt.no rfl rfl (L.bi Wt.no rfl rfl rfl rfl (L.as Wt.no rfl rfl (L.nil (X.sub (ih20 _ (Option.some.inj hm).symm _ _ ⟨s28, a27, c27, m0, h27, rfl, rfl⟩) (Sub.rf rfl))))))
  ·intro Jj29
   refine E.block (E.seq (E.reg (L.mv Wt.no rfl rfl (L.mv Wt.no rfl rfl ?_))))
   obtain ⟨_, z30, hm⟩ := bindS hm
   refine L.shr Wt.no rfl rfl (ng_some z30) rfl (L.bi Wt.no rfl rfl rfl rfl (L.bi Wt.no rfl rfl rfl rfl (L.nil (X.seqN ?_))))
   rcases ifS hm with ⟨hc, hm⟩ | ⟨hc, hm⟩
   ·refine E.cT rfl hc (E.reg (L.mv Wt.no rfl rfl (L.mv Wt.no rfl rfl (L.bsE (k := 1) (cs := [.int .i64 st20.1]) 0 bs23 (Nat.le_of_ble_eq_true rfl) Wt.no rfl rfl rfl rfl fun b31 s32 m33 bx31 => ?_))))
    replace m0 := m0.trans m33.no
    replace h4 := h4.mv m33 no_No no_No
    have h31 := Bx.rdL (r := (rK .i64)) (xs := ([st20.1] : List Int)) bx31 ⟨[.int .i64 st20.1], _, rfl, rfl, rfl⟩ (Nat.le_of_ble_eq_true rfl)
    obtain ⟨x34, ex34, hm⟩ := bindS hm
    refine L.ap (r := (rK .i64)) Try.underlying23 el3 rfl (tgp hN) h4 h31.wk Wt.no rfl rfl ex34 rfl fun a35 c35 s36 m37 h35 => ?_
    replace m0 := m0.trans (m37.one up)
    exact L.as Wt.no rfl rfl (L.nil (X.blkN (X.sub (Jj29 _ _ ⟨s36, x34, a35, c35, hm, m0, h35, rfl, rfl⟩) (Sub.rf rfl))))
   ·exact E.cF rfl hc (E.skip (X.blkN (X.sub (Jj29 _ _ ⟨s23, st20.2, a4, c4, hm, m0, h4, rfl, rfl⟩) (Sub.rf rfl))))
 ·refine E.cF rfl hc (E.exit (X.seqX (X.seqX ?_)))
  have hx := ho20 _ (Option.some.inj hm).symm
  subst hx
  exact X.sub (K25 _ _ ⟨s23, a4, c4, m0, h4, rfl, rfl⟩) (Sub.rf rfl)

/-- What overseerref03.Empty computes. -/
noncomputable def m_overseerref03_Empty (p0 : List Int) : Option (List Int × Int × List Int × (List (Int × Int × Int))) :=
  (app ([] : List Int) p0).bind fun x11 =>
  some (x11, 0, ([] : List Int), ([] : List (Int × Int × Int)))
set_option maxRecDepth 100000 in
set_option maxHeartbeats 8000000 in
theorem m_overseerref03_Empty_c {s : Sig} {p0 : List Int} {a1 : Option Addr} {c1 : Nat} {u0 : Nat} {u1 : Nat} {u2 : Nat} {r : (List Int × Int × List Int × (List (Int × Int × Int)))} (h1 : RdL (rK .i64) s a1 c1 p0) (hm : m_overseerref03_Empty p0 = some r) :
    Calls Try.prog 70 #[.slice a1 p0.length c1] s.w (RetS No s fun v s' => ∃ (a2 : Option Addr) (c2 : Nat) (a3 : Option Addr) (c3 : Nat) (a4 : Option Addr) (c4 : Nat), v = .agg #[.slice a2 r.1.length c2, .int .i64 r.2.1, .slice a3 r.2.2.1.length c3, .slice a4 r.2.2.2.length c4] ∧ RowT (rK .i64) s' u0 3 a2 c2 r.1 ∧ RowT (rK .i64) s' u1 3 a3 c3 r.2.2.1 ∧ RowT (rP (rK .i64) (rP (rK .i64) (rK .i64))) s' u2 28 a4 c4 r.2.2.2) := by
 unfold m_overseerref03_Empty at hm
 obtain ⟨N, hN, hNb⟩ := s.fresh
 have m0 : Mv (Up N No) s s := Mv.refl _ _
 refine E.entry Try.func70 rfl Try.ntmps70 rfl rfl (E.seq (E.reg (L.al (N + 0) zz26 rfl Wt.no rfl fun b5 s6 m7 bx5 => ?_)))
 replace m0 := m0.trans m7.no
 replace h1 := h1.mono (m7.le no_No)
 refine L.nil (X.seqN (E.seq (E.reg (L.bs0 (N + 1) bs23 (Nat.le_of_ble_eq_true rfl) Wt.no rfl fun b8 s9 m10 bx8 => ?_))))
 replace m0 := m0.trans m10.no
 replace h1 := h1.mono (m10.le no_No)
 replace bx5 := bx5.mv m10 no_No
 have h8 := Bx.row (r := (rK .i64)) (xs := ([] : List Int)) bx8 rfl (Nat.le_of_ble_eq_true rfl)
 refine L.mv Wt.no rfl rfl ?_
 obtain ⟨x11, ex11, hm⟩ := bindS hm
 refine L.ap (r := (rK .i64)) Try.underlying23 el3 rfl (tgp hN) h8 h1.wk Wt.no rfl rfl ex11 rfl fun a12 c12 s13 m14 h12 => ?_
 replace m0 := m0.trans (m14.one up)
 replace bx5 := bx5.mv m14 (tgN (by decide))
 refine L.bu (cs := [.slice a12 x11.length c12, .int .i64 0, .slice none 0 0, .slice none 0 0]) pl26 Wt.no rfl rfl rfl (L.st (c := [.slice a12 x11.length c12, .int .i64 0, .slice none 0 0, .slice none 0 0]) (cs' := #[.slice a12 x11.length c12, .int .i64 0, .slice none 0 0, .slice none 0 0]) bx5 ag26.sz Wt.no rfl rfl rfl rfl rfl (Nat.le_of_ble_eq_true rfl) rfl fun s15 m16 bx5 => ?_)
 replace m0 := m0.trans (m16.one up)
 replace h12 := h12.mv m16 (tgN (by decide)) (tg0 hN)
 refine L.nil (X.seqN (E.ret ?_))
 obtain rfl := Option.some.inj hm
 exact X.rt (.inl rfl) Try.results70 (Rs.cell rfl bx5 ag26 rfl Rs.nil) rfl ⟨_, (s15).ren N (fun k => cond (Nat.beq k 1) u0 (0)), rfl, rfl, m0.ren hNb, ⟨a12, c12, none, 0, none, 0, rfl, (h12.ren hN), RowT.nil, RowT.nil⟩⟩

noncomputable def m_overseerref03_Step_l1 (p0 : List Int × Int × List Int × (List (Int × Int × Int))) (p1 : Int) (p2 : Int) (st18 : Int) : Option (Int ⊕ (Unit ⊕ Int)) :=
  if decide (st18 < (p0.2.2.2.length : Int)) then
    (idx p0.2.2.2 st18).bind fun x27 =>
    (if (x27.1 == p1) then
      (idx p0.2.2.2 st18).bind fun x34 =>
      some (x34.2.1 == p2)
    else
      some false).bind fun b29 =>
    if b29 then
      (idx p0.2.2.2 st18).bind fun x31 =>
      some (.inr (.inr (x31.2.2)))
    else
      some (.inl (W (st18 + 1)))
  else
    some (.inr (.inl ()))
/-- What overseerref03.Step computes. -/
noncomputable def m_overseerref03_Step (p0 : List Int × Int × List Int × (List (Int × Int × Int))) (p1 : Int) (p2 : Int) : Option Int :=
  (iter (m_overseerref03_Step_l1 p0 p1 p2) 0).bind fun o18 =>
  match o18 with
  | .inl u21 =>
    some (-1)
  | .inr (u24) =>
    some u24
set_option maxRecDepth 100000 in
set_option maxHeartbeats 8000000 in
theorem m_overseerref03_Step_c {s : Sig} {p0 : List Int × Int × List Int × (List (Int × Int × Int))} {p1 : Int} {p2 : Int} {a1 : Option Addr} {c1 : Nat} {a2 : Option Addr} {c2 : Nat} {a3 : Option Addr} {c3 : Nat} {r : Int} (h1 : RdL (rK .i64) s a1 c1 p0.1) (h2 : RdL (rK .i64) s a2 c2 p0.2.2.1) (h3 : RdL (rP (rK .i64) (rP (rK .i64) (rK .i64))) s a3 c3 p0.2.2.2) (hm : m_overseerref03_Step p0 p1 p2 = some r) :
    Calls Try.prog 82 #[.agg #[.slice a1 p0.1.length c1, .int .i64 p0.2.1, .slice a2 p0.2.2.1.length c2, .slice a3 p0.2.2.2.length c3], .int .i64 p1, .int .i64 p2] s.w (RetS No s fun v s' => v = .int .i64 r) := by
 unfold m_overseerref03_Step at hm
 obtain ⟨N, hN, hNb⟩ := s.fresh
 have m0 : Mv (Up N No) s s := Mv.refl _ _
 refine E.entry Try.func82 rfl Try.ntmps82 rfl rfl (E.seq (E.reg (L.box (N + 0) Wt.no rfl rfl rfl fun b4 s5 m6 bx4 => ?_)))
 replace m0 := m0.trans m6.no
 replace h1 := h1.mono (m6.le no_No)
 replace h2 := h2.mono (m6.le no_No)
 replace h3 := h3.mono (m6.le no_No)
 refine L.as Wt.no rfl rfl (L.nil (X.seqN (E.seq (E.seq (E.reg (L.as Wt.no rfl rfl (L.nil (X.seqN (E.block ?_)))))))))
 obtain ⟨o18, eo18, hm⟩ := bindS hm
 refine E.cut (x := .exit 0) (fun e w => ∃ (s22 : Sig) (u21 : Unit), o18 = .inl u21 ∧ Mv (Up N No) s s22 ∧ e = [] ∧ w = s22.w) ?_ ?_
 ·rintro _ _ ⟨s22, u21, rfl, m0, rfl, rfl⟩
  dsimp only at hm
  refine X.blkE (X.seqN (E.seq (E.reg (L.as Wt.no rfl rfl (L.nil (X.seqN (E.ret ?_)))))))
  obtain rfl := Option.some.inj hm
  exact X.rt (.inl rfl) Try.results82 (Rs.tmp rfl Rs.nil) rfl ⟨_, (s22).ren N (fun _ => 0), rfl, rfl, m0.ren hNb, rfl⟩
 intro K23
 refine E.cut (x := .ret) (fun e w => ∃ (s25 : Sig) (u24 : Int), o18 = .inr (u24) ∧ Mv (Up N No) s s25 ∧ e = [(6, .int .i64 u24)] ∧ w = s25.w) ?_ ?_
 ·rintro _ _ ⟨s25, u24, rfl, m0, rfl, rfl⟩
  dsimp only at hm
  refine X.blkR (X.seqR ?_)
  obtain rfl := Option.some.inj hm
  exact X.rt (.inl rfl) Try.results82 (Rs.tmp rfl Rs.nil) rfl ⟨_, (s25).ren N (fun _ => 0), rfl, rfl, m0.ren hNb, rfl⟩
 intro K26
 refine E.iter (fun (st18 : Int) (e : List (Nat × Value)) (w : World) => ∃ (s20 : Sig), Mv (Up N No) s s20 ∧ RdL (rK .i64) s20 a1 c1 p0.1 ∧ RdL (rK .i64) s20 a2 c2 p0.2.2.1 ∧ RdL (rP (rK .i64) (rP (rK .i64) (rK .i64))) s20 a3 c3 p0.2.2.2 ∧ Bx s20 (N + 0) b4 #[.slice a1 p0.1.length c1, .int .i64 p0.2.1, .slice a2 p0.2.2.1.length c2, .slice a3 p0.2.2.2.length c3] 26 ∧ e = [(7, .int .i64 st18), (3, .pointer (some ⟨b4, 0, none⟩)), (1, .int .i64 p1), (2, .int .i64 p2)] ∧ w = s20.w) eo18 ⟨s5, m0, h1, h2, h3, bx4, rfl, rfl⟩ (Sub.rf rfl) ?_
 rintro st18 res18 hm ih18 ho18 _ _ ⟨s20, m0, h1, h2, h3, bx4, rfl, rfl⟩
 unfold m_overseerref03_Step_l1 at hm
 refine E.seq (E.seq (E.reg (L.mv Wt.no rfl rfl (L.fa fa26_3 Wt.no rfl rfl (L.ld (j := 3) bx4.mem nag24 Wt.no rfl rfl rfl rfl (L.len sl24 Wt.no rfl rfl (L.bi Wt.no rfl rfl rfl rfl (L.nil (X.seqN ?_)))))))))
 rcases ifS hm with ⟨hc, hm⟩ | ⟨hc, hm⟩
 ·refine E.cT rfl hc (E.skip (X.seqN (E.seq (E.block (E.seq (E.reg (L.fa fa26_3 Wt.no rfl rfl (L.ld (j := 3) bx4.mem nag24 Wt.no rfl rfl rfl rfl (L.mv Wt.no rfl rfl ?_)))))))))
  obtain ⟨x27, ex27, hm⟩ := bindS hm
  refine L.ix (r := (rP (rK .i64) (rP (rK .i64) (rK .i64)))) sl24 h3 Wt.no rfl rfl ex27 rfl fun b28 o28 cc28 me28 rd28 => ?_
  obtain ⟨_, _, rfl, rfl, ⟨_, _, rfl, rfl, rfl⟩⟩ := rd28
  refine L.fa fa28_0 Wt.no rfl rfl (L.ld (j := 0) me28 nag3 Wt.no rfl rfl rfl rfl (L.mv Wt.no rfl rfl (L.bi Wt.no rfl rfl rfl rfl (L.mv Wt.no rfl rfl ?_))))
  obtain ⟨b29, eb29, hm⟩ := bindS hm
  refine L.cut 9 (fun e w => ∃ (v30 : Bool), b29 = v30 ∧ e = (32, .bool v30) :: [(7, .int .i64 st18), (3, .pointer (some ⟨b4, 0, none⟩)), (1, .int .i64 p1), (2, .int .i64 p2)] ∧ w = s20.w) ?_ ?_
  ·rintro _ _ ⟨v30, rfl, rfl, rfl⟩
   refine L.nil (X.seqN ?_)
   rcases ifS hm with ⟨hc, hm⟩ | ⟨hc, hm⟩
   ·refine E.cT rfl hc (E.seq (E.reg (L.fa fa26_3 Wt.no rfl rfl (L.ld (j := 3) bx4.mem nag24 Wt.no rfl rfl rfl rfl (L.mv Wt.no rfl rfl ?_)))))
    obtain ⟨x31, ex31, hm⟩ := bindS hm
    refine L.ix (r := (rP (rK .i64) (rP (rK .i64) (rK .i64)))) sl24 h3 Wt.no rfl rfl ex31 rfl fun b32 o32 cc32 me32 rd32 => ?_
    obtain ⟨_, _, rfl, rfl, ⟨_, _, rfl, rfl, rfl⟩⟩ := rd32
    refine L.fa fa28_2 Wt.no rfl rfl (L.ld (j := 2) me32 nag3 Wt.no rfl rfl rfl rfl (L.as Wt.no rfl rfl (L.nil (X.seqN (E.ret (X.blkR (X.seqR (X.seqR ?_))))))))
    have hx := ho18 _ (Option.some.inj hm).symm
    exact X.sub (K26 _ _ ⟨s20, x31.2.2, hx.symm, m0, rfl, rfl⟩) (Sub.rf rfl)
   ·exact E.cF rfl hc (E.skip (X.blkN (X.seqN (E.reg (L.mv Wt.no rfl rfl (L.bi Wt.no rfl rfl rfl rfl (L.as Wt.no rfl rfl (L.nil (X.sub (ih18 _ (Option.some.inj hm).symm _ _ ⟨s20, m0, h1, h2, h3, bx4, rfl, rfl⟩) (Sub.rf rfl))))))))))
  ·intro J33
   rcases ifS eb29 with ⟨hc, hm⟩ | ⟨hc, hm⟩
   ·refine L.know (d := 23) rfl hc (L.fa fa26_3 (Wt.mk rfl rfl) rfl rfl (L.ld (j := 3) bx4.mem nag24 (Wt.mk rfl rfl) rfl rfl rfl rfl (L.mv (Wt.mk rfl rfl) rfl rfl ?_)))
    obtain ⟨x34, ex34, hm⟩ := bindS hm
    refine L.ix (r := (rP (rK .i64) (rP (rK .i64) (rK .i64)))) sl24 h3 (Wt.mk rfl rfl) rfl rfl ex34 rfl fun b35 o35 cc35 me35 rd35 => ?_
    obtain ⟨_, _, rfl, rfl, ⟨_, _, rfl, rfl, rfl⟩⟩ := rd35
    exact L.fa fa28_1 (Wt.mk rfl rfl) rfl rfl (L.ld (j := 1) me35 nag3 (Wt.mk rfl rfl) rfl rfl rfl rfl (L.mv (Wt.mk rfl rfl) rfl rfl (L.bi (Wt.mk rfl rfl) rfl rfl rfl rfl (L.pkT Wt.no rfl rfl rfl rfl (L.sb (J33 _ _ ⟨(x34.2.1 == p2), (Option.some.inj hm).symm, rfl, rfl⟩) rfl)))))
   ·exact L.know (d := 23) rfl hc (L.skip rfl rfl rfl rfl (L.skip rfl rfl rfl rfl (L.skip rfl rfl rfl rfl (L.skip rfl rfl rfl rfl (L.skip rfl rfl rfl rfl (L.skip rfl rfl rfl rfl (L.skip rfl rfl rfl rfl (L.skip rfl rfl rfl rfl (L.pkF Wt.no rfl rfl rfl rfl (L.sb (J33 _ _ ⟨false, (Option.some.inj hm).symm, rfl, rfl⟩) rfl))))))))))
 ·refine E.cF rfl hc (E.exit (X.seqX (X.seqX ?_)))
  have hx := ho18 _ (Option.some.inj hm).symm
  exact X.sub (K23 _ _ ⟨s20, (), hx.symm, m0, rfl, rfl⟩) Sub.nil

end Go.Proofs.Ytkkemchihllklaa

namespace Go.Proofs.Ytkkemchihllklaa
open Go Go.RowKit

section
variable {a : Aut} {ctrl : List Int} {n : Nat}
/-- The generated program is valid. -/
theorem genP_in (h : GenIn a ctrl n) (ia : Inc a.al) (ic : Inc ctrl) : PrgIn a.al.length (ctrl.length + 1) (n + 1) (true :: List.replicate n false) (genP a ctrl) := by
  have h0 := h.n0; have h1 := h.n1; have h2 := h.es; have h3 := h.al; have h4 := h.ct; have h5 := h.hn
  have h6 := genP_len ia ic (a := a)
  exact ⟨by omega, by omega, by omega, by simp, by omega, genP_ok h5 h.ed⟩
theorem fits_eq {out mem : List Bool} (ho : out.length = ctrl.length + 1) (hm : mem.length = n + 1) : m_generate_fits (codeP a ctrl n) (out, mem) = some 0 := by
  rw [m_generate_fits, if_neg (by simp [codeP, ho, hm])]
theorem alarmed_eq (h : GenIn a ctrl n) {out mem : List Bool} (ho : out.length = ctrl.length + 1) (hm : mem.length = n + 1) : m_generate_Alarmed (codeP a ctrl n) (out, mem) = some (out.getD ctrl.length false, 0) := by
  rw [m_generate_Alarmed, fits_eq ho hm, Option.bind_some, if_neg (by simp), show idx (out, mem).1 ((codeP a ctrl n).2.2.1.length : Int) = some (out[ctrl.length]'(by omega)) from idx_at (xs := out) (i := ctrl.length) (by omega), Option.bind_some, List.getD_eq_getElem?_getD, List.getElem?_eq_getElem (by omega)]
  rfl
theorem enabled_eq (h : GenIn a ctrl n) {out mem : List Bool} (ho : out.length = ctrl.length + 1) (hm : mem.length = n + 1) {q : Int → Bool} (hq : ∀ k, k < ctrl.length → out.getD k false = q (ctrl.getD k 0)) :
    m_generate_Enabled (codeP a ctrl n) (out, mem) = some (ctrl.filter q, 0) := by
  have h4 := h.ct
  have hi : iter (m_generate_Enabled_l1 (codeP a ctrl n) (out, mem)) (0, ([] : List Int)) = some (ctrl.filter q) := by
    have e0 : ((0 : Int), ([] : List Int)) = (fun k : Nat => ((k : Int), (ctrl.take k).filter q)) 0 := by simp
    refine Eq.trans (congrArg _ e0) (iter_run (f := m_generate_Enabled_l1 (codeP a ctrl n) (out, mem)) (fun k : Nat => ((k : Int), (ctrl.take k).filter q)) ctrl.length (by omega) (fun k hk => ?_) ?_)
    · rw [m_generate_Enabled_l1]
      dsimp only
      have ht : (ctrl.take (k + 1)).filter q = (ctrl.take k).filter q ++ (if q ctrl[k] then [ctrl[k]] else []) := by
        rw [List.take_succ_eq_append_getElem hk, List.filter_append]
        cases hc : q ctrl[k] <;> simp [hc]
      have hk3 : out[k]'(by omega) = q ctrl[k] := by
        have := hq k hk
        rwa [List.getD_eq_getElem?_getD, List.getElem?_eq_getElem (by omega), List.getD_eq_getElem?_getD, List.getElem?_eq_getElem hk] at this
      have hlen : ((ctrl.take k).filter q).length ≤ 32 := Nat.le_trans (List.length_filter_le ..) (by simp; omega)
      rw [if_pos (show decide ((k : Int) < ((codeP a ctrl n).2.2.1.length : Int)) = true from decide_eq_true (show (k : Int) < (ctrl.length : Int) by omega)), show idx (codeP a ctrl n).2.2.1 (k : Int) = some ctrl[k] from idx_at hk, Option.bind_some, idx_at (by omega), Option.bind_some, hk3, ht]
      cases hc : q ctrl[k] with
      | true =>
        rw [if_pos rfl, app_eq (by simp; omega), Option.bind_some, m_generate_Enabled_j1, show (k : Int) + 1 = ((k + 1 : Nat) : Int) by omega, W_nat (by omega)]
        rfl
      | false =>
        rw [if_neg (by simp), m_generate_Enabled_j1, show (k : Int) + 1 = ((k + 1 : Nat) : Int) by omega, W_nat (by omega), if_neg (by simp), List.append_nil]
    · rw [m_generate_Enabled_l1]
      dsimp only
      rw [if_neg (show ¬ decide ((ctrl.length : Int) < ((codeP a ctrl n).2.2.1.length : Int)) = true from by rw [decide_eq_true_eq]; show ¬ (ctrl.length : Int) < (ctrl.length : Int); omega), List.take_of_length_le (Nat.le_refl _)]
  rw [m_generate_Enabled, fits_eq ho hm, Option.bind_some, if_neg (by simp), hi]
  rfl
theorem gstate_eq (h : GenIn a ctrl n) {out mem : List Bool} (ho : out.length = ctrl.length + 1) (hm : mem.length = n + 1) {s : Nat} (hs : s < n) (hq : ∀ k, k < n → mem.getD k false = decide (k = s)) :
    m_generate_State (codeP a ctrl n) (out, mem) = some ((s : Int), 0) := by
  have h1 := h.n1
  have hl : (mem.take n).length = n := by simp; omega
  have hi : iter (m_generate_State_l1 (mem.take n)) (0, 0, 0) = some (1, (s : Int)) := by
    have e0 : ((0 : Int), (0 : Int), (0 : Int)) = (fun k : Nat => ((k : Int), (if s < k then 1 else 0 : Int), (if s < k then (s : Int) else 0))) 0 := by simp
    refine Eq.trans (congrArg _ e0) (iter_run (f := m_generate_State_l1 (mem.take n)) (fun k : Nat => ((k : Int), (if s < k then 1 else 0 : Int), (if s < k then (s : Int) else 0))) n (by omega) (fun k hk => ?_) ?_)
    · rw [m_generate_State_l1]
      dsimp only
      have hk3 : (mem.take n)[k]'(by omega) = decide (k = s) := by
        have := hq k hk
        rw [List.getElem_take]
        rwa [List.getD_eq_getElem?_getD, List.getElem?_eq_getElem (by omega)] at this
      rw [if_pos (by rw [hl]; simp; omega), idx_at (by omega), Option.bind_some, hk3]
      by_cases hks : k = s
      · subst hks
        rw [if_pos (by simp), if_neg (by omega), if_neg (by omega), if_pos (by omega), if_pos (by omega), m_generate_State_j1, show (k : Int) + 1 = ((k + 1 : Nat) : Int) by omega, W_nat (by omega)]
        rfl
      · rw [if_neg (by simpa using hks), m_generate_State_j1, show (k : Int) + 1 = ((k + 1 : Nat) : Int) by omega, W_nat (by omega)]
        by_cases hsk : s < k
        · rw [if_pos hsk, if_pos hsk, if_pos (by omega), if_pos (by omega)]
        · rw [if_neg hsk, if_neg hsk, if_neg (by omega), if_neg (by omega)]
    · rw [m_generate_State_l1]
      dsimp only
      rw [if_neg (by rw [hl]; simp), if_pos hs, if_pos hs]
  rw [m_generate_State, fits_eq ho hm, Option.bind_some, if_neg (by simp), show slc (out, mem).2 0 (codeP a ctrl n).2.2.2 = some (mem.take n) from by
    show slc mem 0 (n : Int) = _
    rw [slc, if_pos ⟨by omega, by omega, by omega⟩]; simp, Option.bind_some, hi, Option.bind_some, if_neg (by simp)]
end
end Go.Proofs.Ytkkemchihllklaa

namespace Go.Proofs.Ytkkemchihllklaa
open Go Go.RowKit

/-- The state behind an event, or -1. -/
def stF (es : List Ed) (s : Nat) (e : Int) : Int := match stepF es s e with
  | some t => (t : Int)
  | none => -1
theorem stF_ge {es : List Ed} {s : Nat} {e : Int} : decide (stF es s e ≥ 0) = (stepF es s e).isSome := by
  unfold stF
  cases stepF es s e with
  | none => rfl
  | some t => simp
theorem step_go {a : Aut} {s e : Int} (hl : a.es.length < 4611686018427387904) : ∀ (j i : Nat), i + j = a.es.length →
    iterF (m_overseerlaw53_step_l1 (autP a) s e) (j + 1) (i : Int) = some (match (a.es.drop i).find? (fun x => x.f == s && x.e == e) with | some x => .inr x.t | none => .inl ()) := by
  have hlen : (autP a).2.2.2.length = a.es.length := by simp [autP]
  intro j
  induction j with
  | zero =>
    intro i hi
    rw [iterF_succ, m_overseerlaw53_step_l1, if_neg (by rw [hlen]; simp; omega), List.drop_of_length_le (by omega)]
    rfl
  | succ j ih =>
    intro i hi
    have hlt : i < a.es.length := by omega
    have hat : idx (autP a).2.2.2 (i : Int) = some (edP a.es[i]) := by
      rw [idx_at (by rw [hlen]; exact hlt)]; simp [autP]
    rw [iterF_succ, m_overseerlaw53_step_l1, if_pos (by rw [hlen]; simp; omega), hat, Option.bind_some, List.drop_eq_getElem_cons hlt]
    by_cases hc : (a.es[i].f == s && a.es[i].e == e) = true
    · rw [if_pos (show ((edP a.es[i]).1 == s && (edP a.es[i]).2.1 == e) = true from hc), List.find?_cons_of_pos (p := fun x : Ed => x.f == s && x.e == e) hc]
      rfl
    · rw [if_neg (show ¬ ((edP a.es[i]).1 == s && (edP a.es[i]).2.1 == e) = true from hc), List.find?_cons_of_neg (p := fun x : Ed => x.f == s && x.e == e) hc, show (i : Int) + 1 = ((i + 1 : Nat) : Int) by omega, W_nat (by omega)]
      exact ih (i + 1) (by omega)
theorem step_eq {a : Aut} {s : Nat} {e : Int} (hl : a.es.length < 4611686018427387904) (ht : ∀ x ∈ a.es, 0 ≤ x.t) : m_overseerlaw53_step (autP a) (s : Int) e = some (stF a.es s e) := by
  rw [m_overseerlaw53_step, show iter (m_overseerlaw53_step_l1 (autP a) (s : Int) e) 0 = _ from iter_of (by omega) (step_go hl a.es.length 0 (by omega)), Option.bind_some, List.drop_zero, stF, stepF]
  cases hf : a.es.find? (fun x => x.f == (s : Int) && x.e == e) with
  | none => rfl
  | some x =>
    have := ht x (List.mem_of_find?_eq_some hf)
    show some x.t = some ((x.t.toNat : Nat) : Int)
    rw [show ((x.t.toNat : Nat) : Int) = x.t by omega]
theorem equal_self {xs : List Int} (hl : xs.length < 4611686018427387904) : m_slices_Equal_int xs xs = some true := by
  have hi : iter (m_slices_Equal_int_l1 xs xs) 0 = some (.inl ()) := by
    refine iter_run (f := m_slices_Equal_int_l1 xs xs) (fun k => (k : Int)) xs.length (by omega) (fun k hk => ?_) ?_
    · rw [m_slices_Equal_int_l1, if_pos (by simp; omega), idx_at hk, Option.bind_some, Option.bind_some, if_neg (by simp), show (k : Int) + 1 = ((k + 1 : Nat) : Int) by omega, W_nat (by omega)]
    · rw [m_slices_Equal_int_l1, if_neg (by simp)]
  rw [m_slices_Equal_int, if_neg (by simp), hi]
  rfl
theorem shows_eq {a : Aut} {ctrl : List Int} {n : Nat} (h : GenIn a ctrl n) {out mem : List Bool} (ho : out.length = ctrl.length + 1) (hm : mem.length = n + 1) {s : Nat} (hs : s < n) (hq : ∀ k, k < n → mem.getD k false = decide (k = s)) {al p6 : Bool} (ha : out.getD ctrl.length false = al)
    (hc : ∀ k, k < ctrl.length → out.getD k false = (p6 && (stepF a.es s (ctrl.getD k 0)).isSome)) : m_overseerlaw53_shows (autP a) ctrl (codeP a ctrl n) (out, mem) (s : Int) al p6 = some true := by
  have h1 := h.n1; have h2 := h.es; have h4 := h.ct; have h5 := h.hn
  have en := enabled_eq h ho hm (q := fun e => p6 && (stepF a.es s e).isSome) hc
  have hi1 : iter (m_overseerlaw53_shows_l1 (autP a) (out, mem) (s : Int)) 0 = some (.inl ()) := by
    refine iter_run (f := m_overseerlaw53_shows_l1 (autP a) (out, mem) (s : Int)) (fun k => (k : Int)) n (by omega) (fun k hk => ?_) ?_
    · have hk3 : mem[k]'(by omega) = decide (k = s) := by
        have := hq k hk
        rwa [List.getD_eq_getElem?_getD, List.getElem?_eq_getElem (by omega)] at this
      have hd : ((k : Int) == (s : Int)) = decide (k = s) := by
        rw [Bool.eq_iff_iff]; simp; omega
      rw [m_overseerlaw53_shows_l1, if_pos (show decide ((k : Int) < (autP a).2.1) = true from decide_eq_true (show (k : Int) < a.n by omega)), show idx (out, mem).2 (k : Int) = some (mem[k]'(by omega)) from idx_at (xs := mem) (by omega), Option.bind_some, hk3, hd, if_neg (by simp), show (k : Int) + 1 = ((k + 1 : Nat) : Int) by omega, W_nat (by omega)]
    · rw [m_overseerlaw53_shows_l1, if_neg (show ¬ decide ((n : Int) < (autP a).2.1) = true from fun e => by have e2 : (n : Int) < a.n := of_decide_eq_true e; omega)]
  have hi2 : iter (m_overseerlaw53_shows_l2 (autP a) ctrl (out, mem) (s : Int) p6) (0, ([] : List Int)) = some (.inl (ctrl.filter fun e => p6 && (stepF a.es s e).isSome)) := by
    have e0 : ((0 : Int), ([] : List Int)) = (fun k : Nat => ((k : Int), (ctrl.take k).filter fun e => p6 && (stepF a.es s e).isSome)) 0 := by simp
    refine Eq.trans (congrArg _ e0) (iter_run (f := m_overseerlaw53_shows_l2 (autP a) ctrl (out, mem) (s : Int) p6) (fun k : Nat => ((k : Int), (ctrl.take k).filter fun e => p6 && (stepF a.es s e).isSome)) ctrl.length (by omega) (fun k hk => ?_) ?_)
    · generalize hqq : (fun e => p6 && (stepF a.es s e).isSome) = q
      have hb : (if p6 = true then (m_overseerlaw53_step (autP a) (s : Int) ctrl[k]).bind fun r116 => some (decide (r116 ≥ 0)) else some false) = some (q ctrl[k]) := by
        rw [← hqq]
        cases p6 with
        | false => rfl
        | true => rw [if_pos rfl, step_eq (by omega) (fun x hx => (h.ed x hx).2.2.1), Option.bind_some, stF_ge]; rfl
      have ht : (ctrl.take (k + 1)).filter q = (ctrl.take k).filter q ++ (if q ctrl[k] then [ctrl[k]] else []) := by
        rw [List.take_succ_eq_append_getElem hk, List.filter_append]
        cases hc : q ctrl[k] <;> simp [hc]
      have hk3 : out[k]'(by omega) = q ctrl[k] := by
        have := hc k hk
        rw [← hqq]
        rwa [List.getD_eq_getElem?_getD, List.getElem?_eq_getElem (by omega), List.getD_eq_getElem?_getD, List.getElem?_eq_getElem hk] at this
      have hlen : ((ctrl.take k).filter q).length ≤ 32 := Nat.le_trans (List.length_filter_le ..) (by simp; omega)
      rw [m_overseerlaw53_shows_l2]
      dsimp only
      rw [if_pos (by simp; omega), idx_at hk, Option.bind_some, hb, Option.bind_some, idx_at (show k < out.length by omega), Option.bind_some, hk3, if_neg (by simp), ht]
      cases hc : q ctrl[k] with
      | true =>
        rw [if_pos rfl, app_eq (by simp; omega), Option.bind_some, m_overseerlaw53_shows_j1, show (k : Int) + 1 = ((k + 1 : Nat) : Int) by omega, W_nat (by omega)]
        rfl
      | false =>
        rw [if_neg (by simp), m_overseerlaw53_shows_j1, show (k : Int) + 1 = ((k + 1 : Nat) : Int) by omega, W_nat (by omega), if_neg (by simp), List.append_nil]
    · rw [m_overseerlaw53_shows_l2]
      dsimp only
      rw [if_neg (by simp), List.take_of_length_le (Nat.le_refl _)]
  have hf : (ctrl.filter fun e => p6 && (stepF a.es s e).isSome).length ≤ 32 := Nat.le_trans (List.length_filter_le ..) h4
  have ho2 : out[ctrl.length]'(by omega) = al := by
    rwa [List.getD_eq_getElem?_getD, List.getElem?_eq_getElem (by omega)] at ha
  have hw : W ((ctrl.length : Int) + 1) = ((ctrl.length + 1 : Nat) : Int) := by rw [show (ctrl.length : Int) + 1 = ((ctrl.length + 1 : Nat) : Int) by omega, W_nat (by omega)]
  rw [m_overseerlaw53_shows, hw, if_neg (by
      rw [Bool.or_eq_true, not_or]
      refine ⟨by simp [ho], ?_⟩
      show ¬ decide ((mem.length : Int) < a.n) = true
      simp; omega), hi1, Option.bind_some]
  dsimp only
  rw [hi2, Option.bind_some]
  dsimp only
  rw [gstate_eq h ho hm hs hq, Option.bind_some, en, Option.bind_some, alarmed_eq h ho hm, Option.bind_some, ha]
  dsimp only
  rw [if_pos (by simp), equal_self (by omega), Option.bind_some, Option.bind_some, if_pos (by simp), idx_at (show ctrl.length < out.length by omega), Option.bind_some, ho2]
  simp
end Go.Proofs.Ytkkemchihllklaa

namespace Go.Proofs.Ytkkemchihllklaa
open Go Go.RowKit

/-- What a state shows of state s, alarm al. -/
structure Shows (a : Aut) (ctrl : List Int) (n : Nat) (s : Nat) (al : Bool) (st : List Bool × List Bool) : Prop where
  ho : st.1.length = ctrl.length + 1
  hm : st.2.length = n + 1
  hs : s < n
  hq : ∀ k, k < n → st.2.getD k false = decide (k = s)
  ha : st.1.getD ctrl.length false = al
theorem subB_mem {us vs : List Int} (h : subB us vs = true) : ∀ x ∈ us, x ∈ vs := fun x hx => hasB_true.1 (List.all_eq_true.1 h x hx)
theorem Shows.start {a : Aut} {ctrl : List Int} {n : Nat} (h0 : 0 < n) : Shows a ctrl n 0 false (List.replicate (ctrl.length + 1) false, true :: List.replicate n false) := by
  refine ⟨by simp, by simp, h0, fun k hk => ?_, ?_⟩
  · cases k with
    | zero => rfl
    | succ k =>
      show (true :: List.replicate n false).getD (k + 1) false = _
      rw [List.getD_cons_succ, List.getD_eq_getElem?_getD, List.getElem?_replicate]
      split <;> simp
  · show (List.replicate (ctrl.length + 1) false).getD ctrl.length false = _
    rw [List.getD_eq_getElem?_getD, List.getElem?_replicate]
    split <;> rfl
theorem Shows.says {a : Aut} {ctrl : List Int} {n : Nat} (h : GenIn a ctrl n) {s : Nat} {al p6 : Bool} {st : List Bool × List Bool} (hv : Shows a ctrl n s al st) (hc : ∀ k, k < ctrl.length → st.1.getD k false = (p6 && (stepF a.es s (ctrl.getD k 0)).isSome)) :
    m_overseerlaw53_shows (autP a) ctrl (codeP a ctrl n) st (s : Int) al p6 = some true := shows_eq (out := st.1) (mem := st.2) h hv.ho hv.hm hv.hs hv.hq hv.ha hc
theorem gstart_eq {a : Aut} {ctrl : List Int} {n : Nat} (h : GenIn a ctrl n) (ia : Inc a.al) (ic : Inc ctrl) : m_instruction_Start (codeP a ctrl n).1 = some ((List.replicate (ctrl.length + 1) false, true :: List.replicate n false), 0) := start_eq (genP_in h ia ic)
end Go.Proofs.Ytkkemchihllklaa

namespace Go.Proofs.Ytkkemchihllklaa
open Go Go.RowKit
set_option maxRecDepth 1000000 in
theorem known53 : m_overseerlaw53_known = some true := by kernel_rfl
end Go.Proofs.Ytkkemchihllklaa

namespace Go.Proofs.Ytkkemchihllklaa
open Go.ChangeShapes Go.WideShapes Go.ChangeAt Go.RowKit

theorem Try.own : ownKnob Try.prog.godebug = none := by kernel_rfl
theorem Try.laidOut : laidOutB Try.prog = true := by kernel_rfl

section
variable {H : Type} {enc : TypeId × Value → H}
/-- Types whose values may be carried. -/
def carryB (P : Program) (ts : List TypeId) : Bool := ts.all fun t => P.readableRec t && decide (t < P.types.size)
/-- All arguments read as they did. -/
theorem trodAll_carry {P : Program} (hl : laidOutB P = true) {W W' : World} (hb : Below W.heap.size W W') {sp : Nat → Bool} : ∀ {ts : List TypeId} {vs : List Value} {ds : List (DataW H)} {ps : List MemPlace}, carryB P ts = true →
    DataW.TrodAll enc P W 0 (fun _ => true) true ts vs ds ps → (∀ x ∈ ps, x.block < W.heap.size) → (∀ x ∈ ps, sp x.block = true) → DataW.TrodAll enc P W' 0 sp true ts vs ds ps
  | [], [], [], _, _, h, _, _ => h
  | [], _ :: _, _, _, _, h, _, _ => h.elim
  | [], [], _ :: _, _, _, h, _, _ => h.elim
  | t :: ts, [], _, _, _, h, _, _ => h.elim
  | t :: ts, _ :: _, [], _, _, h, _, _ => h.elim
  | t :: ts, v :: vs, d :: ds, ps, hc, ⟨p, q, h1, h2, e⟩, hlt, hsp => by
    subst e
    unfold carryB at hc
    rw [List.all_cons, Bool.and_eq_true, Bool.and_eq_true] at hc
    exact ⟨p, q, WideElems.Trod_stays hl hc.1.1 (of_decide_eq_true hc.1.2) h1 (fun x hx => hb.same (hlt x (List.mem_append_left _ hx))) (fun x hx => hsp x (List.mem_append_left _ hx)),
      trodAll_carry hl hb hc.2 h2 (fun x hx => hlt x (List.mem_append_right _ hx)) (fun x hx => hsp x (List.mem_append_right _ hx)), rfl⟩

/-- A law's end: it has returned a bool, and nothing that was there has turned. -/
theorem law_post {P : Program} (hl : laidOutB P = true) {f : Func} {s : ChangeSpec} {apart fresh handsOn again : Bool} {W W' : World} {args : Array Value} {ds : List (DataW H)} {before : List MemPlace} {tb : TypeId} {b : Bool}
    (hW : DataW.Whole enc P f.params.toList s.vars apart W args.toList ds [] before) (hv : s.vars = []) (hc : carryB P f.params.toList = true) (hrt : f.resultTypes = #[tb]) (ht : P.underlying tb = some .bool)
    (hr : (s.fn H (ds ++ [])).results = [.lit (.bool b)]) (ha : (s.fn H (ds ++ [])).args = ds) (hvn : (s.fn H (ds ++ [])).vars = []) (hb : Below W.heap.size W W') :
    s.post enc P f apart fresh handsOn again W args (.bool b) W' := by
  have hlt : ∀ p ∈ before, p.block < W.heap.size := fun p hp => hW.lt p hp
  have hWc := hW
  obtain ⟨p, q, hA, hV, rfl, hz, hn⟩ := hWc
  rw [hv] at hV
  obtain ⟨-, rfl⟩ := trodVars_none hV
  rw [List.append_nil] at hlt hz hn
  have hargs : ∀ sp : Nat → Bool, (∀ x ∈ p, sp x.block = true) → DataW.TrodAll enc P W' 0 sp true f.params.toList args.toList (s.fn H (ds ++ [])).args p := fun sp hsp => by
    rw [ha]; exact trodAll_carry hl hb hc hA hlt hsp
  have hres : ∀ (b0 : Nat) (sp : Nat → Bool) (hd : Bool), DataW.TrodAll enc P W' b0 sp hd f.resultTypes.toList ((Value.bool b).resultList f.resultTypes.size) (s.fn H (ds ++ [])).results [] := fun _ _ _ => by
    rw [hr, hrt]; exact trodAll_mk1 (shut_bool ht b)
  have hvars : ∀ sp : Nat → Bool, DataW.TrodVars enc P W' sp s.vars (s.fn H (ds ++ [])).vars [] := fun sp => by rw [hv, hvn]; rfl
  have hold : ∀ x ∈ p, (fun b => decide (b < W.heap.size)) x.block = true := fun x hx => by simpa using hlt x hx
  refine ⟨ds, [], p ++ [], [], p, [], hW, hres _ _ _, hargs _ hold, hvars _, World.keptBut_mono (fun x hx => ?_) (hb.frame (· ∈ p)), fun _ => ?_⟩
  · exact ⟨by rwa [List.append_nil], Or.inr (.inl hx)⟩
  · have hok := ok_one (f := f) (W' := W') (by rw [hrt]) rfl (okWide_bool_mk (W' := W') ht b)
    refine ⟨hok, _, _, ([] ++ p) ++ [], ⟨[] ++ p, [], trodAll_append (hargs _ (fun _ _ => rfl)) (hres _ _ _), hvars _, rfl, ?_, ?_⟩, ?_⟩
    · intro b0 off hp
      have hin : MemPlace.cell b0 off ∈ p := by simpa using hp
      rw [hb.frozen (hlt _ hin)]
      exact hz b0 off hin
    · intro hap
      simpa using hn hap
    · intro x hx _
      simpa using hx
end

set_option maxRecDepth 100000 in
/-- A cell of a byte. -/
theorem cell_u8 {w : World} {r : Reach} {base : Nat} {v : Value} (h : Cell.okWide Try.prog w r base 5 v) : ∃ n : Int, v = .int .u8 n ∧ 0 ≤ n ∧ n < 256 := by
  simp only [Cell.okWide, Try.underlying5] at h
  cases v <;> simp_all [Cell.ok]
  rename_i k n
  obtain ⟨rfl, h2⟩ := h
  simp [IntKind.has, IntKind.min, IntKind.max, IntKind.signed, IntKind.bits] at h2
  omega
end Go.Proofs.Ytkkemchihllklaa

namespace Go.Proofs.Ytkkemchihllklaa
open Go Go.RowKit Go.ChangeShapes Go.WideShapes Go.Deep

/-- Data of a type, wherever they are read, lie so in cells. -/
def Op (P : Program) {α : Type} (r : Rep α) (Q : α → Prop) (t : TypeId) : Prop :=
  ∀ (H : Type) (enc : TypeId × Value → H) (w : World) (fuel : Nat) (cs : List Value) (x : DataW H × List MemPlace), DataW.trod enc P w 0 (fun _ => true) true fuel t cs = some x → ∃ y : α, r.rd ⟨w, fun _ => 0⟩ cs y ∧ Q y
section
variable {P : Program} {α β : Type} {r : Rep α} {q : Rep β} {Q : α → Prop} {R : β → Prop} {t e : TypeId}
theorem Op.int {k : IntKind} (ht : P.underlying t = some (.int k)) : Op P (rK k) (fun n => k.min ≤ n ∧ n ≤ k.max) t := by
  intro H enc w fuel cs x h
  obtain ⟨n, h1, h2, h3⟩ := DataW.trod_int ht h
  refine ⟨n, h1, ?_⟩
  simpa [Lit.wf] using h3
theorem Op.bool (ht : P.underlying t = some .bool) : Op P rB (fun _ => True) t := by
  intro H enc w fuel cs x h
  obtain ⟨b, h1, h2⟩ := DataW.trod_bool ht h
  exact ⟨b, h1, trivial⟩
/-- A slice that is an argument, or lies in one. -/
theorem op_slice {H : Type} {enc : TypeId × Value → H} {w : World} {base fuel : Nat} {v : Value} {x : DataW H × List MemPlace} (ht : P.underlying t = some (.slice e)) (hc : P.cellsOf e = r.sz) (ho : Op P r Q e) (hok : Cell.okWide P w .any base t v)
    (h : DataW.trod enc P w 0 (fun _ => true) true fuel t [v] = some x) : ∃ (a : Option Addr) (c : Nat) (xs : List α), v = .slice a xs.length c ∧ RdL r ⟨w, fun _ => 0⟩ a c xs ∧ ∀ y ∈ xs, Q y := by
  rcases open_slice ht h with ⟨h1, -⟩ | ⟨a, len, cap, m, n, D, Pl, h1, -, h3, h4, h5, -, h7⟩
  · rw [List.cons.injEq] at h1
    refine ⟨none, 0, [], h1.1, ⟨[], ⟨by simp, by simp, by simp, fun _ => rfl, fun ad e => (by cases e), fun ad e => (by cases e)⟩, fun ad e => (by cases e), rfl⟩, fun y hy => (by cases hy)⟩
  · rw [List.cons.injEq] at h1
    have hv := h1.1
    subst hv
    rw [if_pos rfl] at h5
    subst h5
    have hsp : a.spot = none := by
      simp only [Cell.okWide, ht, Cell.ok] at hok
      exact hok.2.2.2.1
    have hadd : ∀ k, a.add k = ⟨a.block, a.off + k, none⟩ := fun k => by
      obtain ⟨b, o, sp⟩ := a
      dsimp only at hsp
      subst hsp
      unfold Addr.add
      split
      · rename_i hk; subst hk; rfl
      · rfl
    have key : ∀ k, k ≤ len → ∃ (xs : List α) (cs : List Value), xs.length = k ∧ Cells r ⟨w, fun _ => 0⟩ cs xs ∧ (∀ y ∈ xs, Q y) ∧ ∀ j (hj : j < cs.length), w.cell? ⟨a.block, a.off + j, none⟩ = some cs[j] := by
      intro k
      induction k with
      | zero => intro _; exact ⟨[], [], rfl, rfl, fun y hy => (by cases hy), fun j hj => absurd hj (Nat.not_lt_zero _)⟩
      | succ k ih =>
        intro hk
        obtain ⟨xs, cs, g1, g2, g3, g4⟩ := ih (by omega)
        obtain ⟨cs', k1, k2⟩ := h7 k (by omega)
        obtain ⟨y, k3, k4⟩ := ho H enc w n cs' _ k2
        obtain ⟨-, k5, k6⟩ := World.cells?_some k1
        have hl := g2.len
        rw [g1] at hl
        rw [hc] at k5 k6
        refine ⟨xs ++ [y], cs ++ cs', by simp [g1], g2.append ⟨cs', [], by simp, k3, rfl⟩, fun z hz => ?_, fun j hj => ?_⟩
        · rcases List.mem_append.1 hz with hz | hz
          · exact g3 z hz
          · rw [List.mem_singleton.1 hz]; exact k4
        · by_cases hlt : j < cs.length
          · rw [List.getElem_append_left hlt]; exact g4 j hlt
          · have hj2 : j - cs.length < cs'.length := by rw [List.length_append] at hj; omega
            rw [List.getElem_append_right (by omega)]
            have := k6 (j - cs.length) (by omega)
            rw [add_add, hadd, List.getElem?_eq_getElem hj2] at this
            rw [← this]
            congr 2
            omega
    obtain ⟨xs, cs, g1, g2, g3, g4⟩ := key len (Nat.le_refl _)
    subst g1
    refine ⟨some a, m, xs, rfl, ⟨cs, ⟨g2.len, h3, h4, fun e => (by cases e), fun ad e => (by cases e; exact hsp), fun ad e j hj => (by cases e; exact g4 j hj)⟩, fun _ _ _ => rfl, g2⟩, g3⟩
/-- The cells of a struct, one type each. -/
theorem op_agg {w : World} {base : Nat} {v : Value} {fs : Array Field} {ts : List TypeId} (ht : P.underlying t = some (.struct fs)) (hts : P.cellTypes P.depth t = some ts) (hsz : P.cellsOf t = ts.length) (hok : Value.okWide P w .any base t v) :
    ∃ cs, v = .agg cs ∧ cs.size = ts.length ∧ ∀ (i : Nat) (u : TypeId), ts[i]? = some u → ∃ c : Value, cs[i]? = some c ∧ Cell.okWide P w .any base u c := by
  simp only [Value.okWide, ht] at hok
  obtain ⟨cs, rfl, h1, ts', h2, h3, h4⟩ := hok
  rw [hts] at h2
  cases h2
  refine ⟨cs, rfl, by omega, fun i u hu => ?_⟩
  have hlt : i < ts.length := (List.getElem?_eq_some_iff.1 hu).1
  obtain ⟨u', g1, g2⟩ := h4 i cs[i] (Array.getElem?_eq_getElem (by omega))
  rw [Nat.mod_eq_of_lt hlt, hu] at g1
  cases g1
  exact ⟨_, Array.getElem?_eq_getElem (by omega), g2⟩
end
end Go.Proofs.Ytkkemchihllklaa

namespace Go.Proofs.Ytkkemchihllklaa
open Go.RowKit

/-- The place of a number in a list, or -1. -/
def idxI (xs : List Int) (n : Int) : Int := if n ∈ xs then (xs.idxOf n : Int) else -1
end Go.Proofs.Ytkkemchihllklaa

namespace Go.Proofs.Ytkkemchihllklaa

theorem idxI_in {q : List Int} {t : Int} (h : t ∈ q) : 0 ≤ idxI q t ∧ idxI q t < (q.length : Int) := by
  rw [idxI, if_pos h]
  have := List.idxOf_lt_length_of_mem h
  omega
def rrMs (ms q : List Int) : List Int := ((List.range q.length).filter fun i => hasB ms (q.getD i 0)).map fun (i : Nat) => (i : Int)
end Go.Proofs.Ytkkemchihllklaa

namespace Go.Proofs.Ytkkemchihllklaa

theorem rrMs_in (ms q : List Int) : ∀ x ∈ rrMs ms q, 0 ≤ x ∧ x < (q.length : Int) := range_in _ _
theorem rrMs_pairwise (ms q : List Int) : (rrMs ms q).Pairwise (· < ·) := range_pairwise _ _
end Go.Proofs.Ytkkemchihllklaa

namespace Go.Proofs.Ytkkemchihllklaa
open Go Go.RowKit

/-- The queue holds states below n, each once; so it is short. -/
structure QOk (n : Nat) (q : List Int) : Prop where
  nd : q.Nodup
  rng : ∀ s ∈ q, 0 ≤ s ∧ s < (n : Int)
theorem QOk.len : ∀ {n : Nat} {q : List Int}, QOk n q → q.length ≤ n
  | 0, [], _ => Nat.le_refl _
  | 0, x :: q, h => by have := h.rng x (List.mem_cons_self ..); omega
  | n + 1, q, h => by
    by_cases hm : (n : Int) ∈ q
    · have h1 : QOk n (q.erase (n : Int)) := ⟨h.nd.erase _, fun s hs => by
        have h2 := (h.nd.mem_erase_iff).1 hs
        have h3 := h.rng s h2.2
        have := h2.1
        omega⟩
      have h2 := h1.len
      rw [List.length_erase_of_mem hm] at h2
      omega
    · have h1 : QOk n q := ⟨h.nd, fun s hs => by
        have h3 := h.rng s hs
        have : s ≠ n := fun e => hm (e ▸ hs)
        omega⟩
      have := h1.len
      omega
end Go.Proofs.Ytkkemchihllklaa

namespace Go.Proofs.Ytkkemchihllklaa

/-- A state that an event leads to is found. -/
def c3In (es : List Ed) (s : Int) (out : List Int) (e : Int) : List Int := match stepF es s.toNat e with
  | some t => if hasB out (t : Int) = true then out else out ++ [(t : Int)]
  | none => out
def c3Loop (es : List Ed) (al : List Int) : Nat → Nat → List Int → List Int
  | 0, _, out => out
  | f + 1, i, out => if i < out.length then c3Loop es al f (i + 1) (al.foldl (c3In es (out.getD i 0)) out) else out
def foundL (a : Aut) : List Int := if a.n = 0 then [] else c3Loop a.es a.al (a.n.toNat + 1) 0 [0]
/-- The edges of the i-th state that was found. -/
def c3Row (a : Aut) (q : List Int) (i : Nat) : List Ed := a.al.filterMap fun e => (stepF a.es (q.getD i 0).toNat e).map fun t => ⟨(i : Int), e, idxI q (t : Int)⟩
def canon3 (a : Aut) : Aut := ⟨a.al, ((foundL a).length : Int), rrMs a.ms (foundL a), (List.range (foundL a).length).flatMap (c3Row a (foundL a))⟩
theorem stepF_in {es : List Ed} {s t : Nat} {e : Int} (h : stepF es s e = some t) : ∃ x ∈ es, x.f = s ∧ x.e = e ∧ x.t.toNat = t := by
  unfold stepF at h
  cases hf : es.find? (fun x => x.f == (s : Int) && x.e == e) with
  | none => rw [hf] at h; cases h
  | some x =>
    rw [hf] at h
    have h1 := List.find?_some hf
    rw [Bool.and_eq_true] at h1
    exact ⟨x, List.mem_of_find?_eq_some hf, by simpa using h1.1, by simpa using h1.2, by simpa using h⟩
theorem c3In_fold {es : List Ed} {n : Nat} (hes : ∀ x ∈ es, 0 ≤ x.t ∧ x.t < (n : Int)) {s : Int} : ∀ (al out : List Int), QOk n out →
    QOk n (al.foldl (c3In es s) out) ∧ (∃ r, al.foldl (c3In es s) out = out ++ r) ∧ ∀ e ∈ al, ∀ t, stepF es s.toNat e = some t → (t : Int) ∈ al.foldl (c3In es s) out
  | [], out, h => ⟨h, ⟨[], (List.append_nil _).symm⟩, fun e he => (by cases he)⟩
  | e :: al, out, h => by
    have h1 : QOk n (c3In es s out e) ∧ (∃ r, c3In es s out e = out ++ r) ∧ ∀ t, stepF es s.toNat e = some t → (t : Int) ∈ c3In es s out e := by
      unfold c3In
      cases hs : stepF es s.toNat e with
      | none => exact ⟨h, ⟨[], (List.append_nil _).symm⟩, fun t ht => (by cases ht)⟩
      | some t =>
        dsimp only
        obtain ⟨x, hx, _, _, hxt⟩ := stepF_in hs
        have hr := hes x hx
        by_cases hb : hasB out (t : Int) = true
        · rw [if_pos hb]
          exact ⟨h, ⟨[], (List.append_nil _).symm⟩, fun t' ht => by cases ht; exact hasB_true.1 hb⟩
        · rw [if_neg hb]
          refine ⟨⟨?_, fun u hu => ?_⟩, ⟨_, rfl⟩, fun t' ht => by cases ht; exact List.mem_append_right _ (List.mem_singleton.2 rfl)⟩
          · rw [List.nodup_append]
            exact ⟨h.nd, by simp, fun a ha b hb' e' => by rw [List.mem_singleton.1 hb'] at e'; exact hb (hasB_true.2 (e' ▸ ha))⟩
          · rcases List.mem_append.1 hu with h2 | h2
            · exact h.rng u h2
            · rw [List.mem_singleton.1 h2]; omega
    obtain ⟨h2, ⟨r, h3⟩, h4⟩ := h1
    obtain ⟨h5, ⟨r2, h6⟩, h7⟩ := c3In_fold hes al _ h2
    rw [List.foldl_cons]
    refine ⟨h5, ⟨r ++ r2, by rw [h6, h3, List.append_assoc]⟩, fun e' he t ht => ?_⟩
    rcases List.mem_cons.1 he with rfl | he
    · rw [h6]; exact List.mem_append_left _ (h4 t ht)
    · exact h7 e' he t ht
theorem c3_loop {es : List Ed} {al : List Int} {n : Nat} (hes : ∀ x ∈ es, 0 ≤ x.t ∧ x.t < (n : Int)) : ∀ (f i : Nat) (out : List Int), QOk n out → (∀ k, k < i → k < out.length → ∀ e ∈ al, ∀ t, stepF es (out.getD k 0).toNat e = some t → (t : Int) ∈ out) → n + 1 ≤ i + f →
    QOk n (c3Loop es al f i out) ∧ (∃ r, c3Loop es al f i out = out ++ r) ∧ ∀ k, k < (c3Loop es al f i out).length → ∀ e ∈ al, ∀ t, stepF es ((c3Loop es al f i out).getD k 0).toNat e = some t → (t : Int) ∈ c3Loop es al f i out
  | 0, i, out, h, hd, hf => by
    have := h.len
    rw [c3Loop]
    exact ⟨h, ⟨[], (List.append_nil _).symm⟩, fun k hk => hd k (by omega) hk⟩
  | f + 1, i, out, h, hd, hf => by
    rw [c3Loop]
    by_cases hi : i < out.length
    · rw [if_pos hi]
      obtain ⟨h1, ⟨r, h2⟩, h3⟩ := c3In_fold (s := out.getD i 0) hes al out h
      obtain ⟨h4, ⟨r2, h5⟩, h6⟩ := c3_loop (al := al) hes f (i + 1) _ h1 (fun k hk hkl e he t ht => by
        have hkS : k < out.length := by omega
        have hg : (al.foldl (c3In es (out.getD i 0)) out).getD k 0 = out.getD k 0 := by
          rw [h2, List.getD_eq_getElem?_getD, List.getElem?_append_left hkS, ← List.getD_eq_getElem?_getD]
        rw [hg] at ht
        by_cases e1 : k = i
        · subst e1; exact h3 e he t ht
        · rw [h2]; exact List.mem_append_left _ (hd k (by omega) hkS e he t ht)) (by omega)
      exact ⟨h4, ⟨r ++ r2, by rw [h5, h2, List.append_assoc]⟩, h6⟩
    · rw [if_neg hi]
      exact ⟨h, ⟨[], (List.append_nil _).symm⟩, fun k hk => hd k (by omega) hk⟩
theorem c3Row_mem {a : Aut} {q : List Int} {i : Nat} {x : Ed} (h : x ∈ c3Row a q i) : x.f = i ∧ x.e ∈ a.al ∧ ∃ t, stepF a.es (q.getD i 0).toNat x.e = some t ∧ x.t = idxI q (t : Int) := by
  obtain ⟨e, he, hx⟩ := List.mem_filterMap.1 h
  cases hs : stepF a.es (q.getD i 0).toNat e with
  | none => rw [hs] at hx; cases hx
  | some t =>
    rw [hs] at hx
    cases hx
    exact ⟨rfl, he, t, hs, rfl⟩
theorem c3Row_sorted {a : Aut} (ha : Inc a.al) (q : List Int) (i : Nat) : Sorted (c3Row a q i) := by
  unfold c3Row Sorted
  rw [List.pairwise_filterMap]
  refine List.Pairwise.imp (fun {x y} (h : x < y) => ?_) ha
  intro b hb c hc
  cases h1 : stepF a.es (q.getD i 0).toNat x with
  | none => rw [h1] at hb; cases hb
  | some t =>
    rw [h1] at hb
    cases h2 : stepF a.es (q.getD i 0).toNat y with
    | none => rw [h2] at hc; cases hc
    | some u =>
      rw [h2] at hc
      cases hb; cases hc
      exact .inr ⟨rfl, h⟩
theorem rows_sorted {f : Nat → List Ed} (h : ∀ i, Sorted (f i)) (hf : ∀ i, ∀ x ∈ f i, x.f = i) : ∀ m, Sorted ((List.range m).flatMap f)
  | 0 => List.Pairwise.nil
  | m + 1 => by
    rw [List.range_succ, List.flatMap_append]
    simp only [List.flatMap_cons, List.flatMap_nil, List.append_nil]
    unfold Sorted
    rw [List.pairwise_append]
    refine ⟨rows_sorted h hf m, h m, fun x hx y hy => ?_⟩
    obtain ⟨i, hi, hx2⟩ := List.mem_flatMap.1 hx
    have h1 := hf i x hx2
    have h2 := hf m y hy
    have := List.mem_range.1 hi
    left; omega
/-- The canonical form is right. -/
theorem canon3_right {a : Aut} {n : Nat} (hn : a.n = n) (hn0 : 0 < n) (hes : ∀ x ∈ a.es, 0 ≤ x.t ∧ x.t < (n : Int)) (ha : Inc a.al) (hal : setErr 32 none a.al = 0) (hn1 : n ≤ 4096) :
    (canon3 a).err = 0 ∧ 1 ≤ (canon3 a).n ∧ (canon3 a).n ≤ n ∧ Sorted (canon3 a).es ∧ (canon3 a).al = a.al := by
  have hfd : foundL a = c3Loop a.es a.al (n + 1) 0 [0] := by rw [foundL, if_neg (by omega), hn, Int.toNat_natCast]
  have hq0 : QOk n [0] := ⟨by simp, fun s hs => by rw [List.mem_singleton.1 hs]; omega⟩
  obtain ⟨h1, ⟨r, h2⟩, h3⟩ := c3_loop (al := a.al) hes (n + 1) 0 [0] hq0 (fun k hk => absurd hk (Nat.not_lt_zero _)) (by omega)
  rw [← hfd] at h1 h2 h3
  have hlen : 1 ≤ (foundL a).length := by rw [h2]; simp
  have hle := h1.len
  have hso : Sorted (canon3 a).es := rows_sorted (fun i => c3Row_sorted ha _ i) (fun i x hx => (c3Row_mem hx).1) _
  have hok : ∀ x ∈ (canon3 a).es, 0 ≤ x.f ∧ x.f < (canon3 a).n ∧ 0 ≤ x.t ∧ x.t < (canon3 a).n ∧ hasB a.al x.e = true := by
    intro x hx
    obtain ⟨i, hi, hx2⟩ := List.mem_flatMap.1 hx
    have hi2 := List.mem_range.1 hi
    obtain ⟨g1, g2, t, g3, g4⟩ := c3Row_mem hx2
    have hm := h3 i hi2 x.e g2 t g3
    have hid := idxI_in hm
    rw [g1, g4]
    refine ⟨by omega, by show ((i : Nat) : Int) < ((foundL a).length : Int); omega, hid.1, hid.2, hasB_true.2 g2⟩
  refine ⟨?_, by show (1 : Int) ≤ ((foundL a).length : Int); omega, by show ((foundL a).length : Int) ≤ n; omega, hso, rfl⟩
  unfold Aut.err
  have e1 : (canon3 a).al = a.al := rfl
  have e2 : setErr (canon3 a).n none (canon3 a).ms = 0 := setErr_ok (rrMs_pairwise _ _) (rrMs_in _ _) (fun q hq => by cases hq)
  rw [e1, hal, if_neg (by decide), if_neg (by show ¬ ((foundL a).length : Int) < 0; omega), if_neg (by show ¬ (4096 : Int) < ((foundL a).length : Int); omega), e2, if_neg (by decide)]
  exact edErr_ok hso hok (fun q hq => by cases hq)
end Go.Proofs.Ytkkemchihllklaa

namespace Go.Proofs.Ytkkemchihllklaa
open Go Go.RowKit
noncomputable def m_overseerref03_has_l1 (p0 : List Int) (p1 : Int) (st6 : Int) : Option (Int ⊕ (Unit ⊕ Unit)) :=
  if decide (st6 < (p0.length : Int)) then
    (idx p0 st6).bind fun x14 =>
    if (x14 == p1) then
      some (.inr (.inr (())))
    else
      some (.inl (W (st6 + 1)))
  else
    some (.inr (.inl ()))
/-- What overseerref03.has computes. -/
noncomputable def m_overseerref03_has (p0 : List Int) (p1 : Int) : Option Bool :=
  (iter (m_overseerref03_has_l1 p0 p1) 0).bind fun o6 =>
  match o6 with
  | .inl u8 =>
    some false
  | .inr (u11) =>
    some true
set_option maxRecDepth 100000 in
set_option maxHeartbeats 8000000 in
theorem m_overseerref03_has_c {s : Sig} {p0 : List Int} {p1 : Int} {a1 : Option Addr} {c1 : Nat} {r : Bool} (h1 : RdL (rK .i64) s a1 c1 p0) (hm : m_overseerref03_has p0 p1 = some r) :
    Calls Try.prog 81 #[.slice a1 p0.length c1, .int .i64 p1] s.w (RetS No s fun v s' => v = .bool r) := by
 unfold m_overseerref03_has at hm
 obtain ⟨N, hN, hNb⟩ := s.fresh
 have m0 : Mv (Up N No) s s := Mv.refl _ _
 refine E.entry Try.func81 rfl Try.ntmps81 rfl rfl (E.seq (E.reg (L.as Wt.no rfl rfl (L.nil (X.seqN (E.seq (E.seq (E.reg (L.as Wt.no rfl rfl (L.nil (X.seqN (E.block ?_))))))))))))
 obtain ⟨o6, eo6, hm⟩ := bindS hm
 refine E.cut (x := .exit 0) (fun e w => ∃ (s9 : Sig) (u8 : Unit), o6 = .inl u8 ∧ Mv (Up N No) s s9 ∧ e = [] ∧ w = s9.w) ?_ ?_
 ·rintro _ _ ⟨s9, u8, rfl, m0, rfl, rfl⟩
  dsimp only at hm
  refine X.blkE (X.seqN (E.seq (E.reg (L.as Wt.no rfl rfl (L.nil (X.seqN (E.ret ?_)))))))
  obtain rfl := Option.some.inj hm
  exact X.rt (.inl rfl) Try.results81 (Rs.tmp rfl Rs.nil) rfl ⟨_, (s9).ren N (fun _ => 0), rfl, rfl, m0.ren hNb, rfl⟩
 intro K10
 refine E.cut (x := .ret) (fun e w => ∃ (s12 : Sig) (u11 : Unit), o6 = .inr (u11) ∧ Mv (Up N No) s s12 ∧ e = [(4, .bool true)] ∧ w = s12.w) ?_ ?_
 ·rintro _ _ ⟨s12, u11, rfl, m0, rfl, rfl⟩
  dsimp only at hm
  refine X.blkR (X.seqR ?_)
  obtain rfl := Option.some.inj hm
  exact X.rt (.inl rfl) Try.results81 (Rs.tmp rfl Rs.nil) rfl ⟨_, (s12).ren N (fun _ => 0), rfl, rfl, m0.ren hNb, rfl⟩
 intro K13
 refine E.iter (fun (st6 : Int) (e : List (Nat × Value)) (w : World) => ∃ (s7 : Sig), Mv (Up N No) s s7 ∧ RdL (rK .i64) s7 a1 c1 p0 ∧ e = [(5, .int .i64 st6), (0, .slice a1 p0.length c1), (1, .int .i64 p1)] ∧ w = s7.w) eo6 ⟨s, m0, h1, rfl, rfl⟩ (Sub.rf rfl) ?_
 rintro st6 res6 hm ih6 ho6 _ _ ⟨s7, m0, h1, rfl, rfl⟩
 unfold m_overseerref03_has_l1 at hm
 refine E.seq (E.seq (E.reg (L.mv Wt.no rfl rfl (L.mv Wt.no rfl rfl (L.len sl23 Wt.no rfl rfl (L.bi Wt.no rfl rfl rfl rfl (L.nil (X.seqN ?_))))))))
 rcases ifS hm with ⟨hc, hm⟩ | ⟨hc, hm⟩
 ·refine E.cT rfl hc (E.skip (X.seqN (E.seq (E.block (E.seq (E.reg (L.mv Wt.no rfl rfl (L.mv Wt.no rfl rfl ?_))))))))
  obtain ⟨x14, ex14, hm⟩ := bindS hm
  refine L.ix (r := (rK .i64)) sl23 h1 Wt.no rfl rfl ex14 rfl fun b15 o15 cc15 me15 rd15 => ?_
  obtain rfl := rd15
  refine L.ld (j := 0) me15 nag3 Wt.no rfl rfl rfl rfl (L.mv Wt.no rfl rfl (L.bi Wt.no rfl rfl rfl rfl (L.nil (X.seqN ?_))))
  rcases ifS hm with ⟨hc, hm⟩ | ⟨hc, hm⟩
  ·refine E.cT rfl hc (E.seq (E.reg (L.as Wt.no rfl rfl (L.nil (X.seqN (E.ret (X.blkR (X.seqR (X.seqR ?_)))))))))
   have hx := ho6 _ (Option.some.inj hm).symm
   exact X.sub (K13 _ _ ⟨s7, (), hx.symm, m0, rfl, rfl⟩) (Sub.rf rfl)
  ·exact E.cF rfl hc (E.skip (X.blkN (X.seqN (E.reg (L.mv Wt.no rfl rfl (L.bi Wt.no rfl rfl rfl rfl (L.as Wt.no rfl rfl (L.nil (X.sub (ih6 _ (Option.some.inj hm).symm _ _ ⟨s7, m0, h1, rfl, rfl⟩) (Sub.rf rfl))))))))))
 ·refine E.cF rfl hc (E.exit (X.seqX (X.seqX ?_)))
  have hx := ho6 _ (Option.some.inj hm).symm
  exact X.sub (K10 _ _ ⟨s7, (), hx.symm, m0, rfl, rfl⟩) Sub.nil

theorem cf81 : Cf Try.prog 81 := Cf.mk Try.func81 (by kernel_rfl) (by kernel_rfl)
theorem cf82 : Cf Try.prog 82 := Cf.mk Try.func82 (by kernel_rfl) (by kernel_rfl)
noncomputable def m_overseerref03_Found_j2 (st156 : Int × List Int) (l162 : List Int) : Option ((Int × List Int) ⊕ (List Int)) :=
  some (.inl (W (st156.1 + 1), l162))
noncomputable def m_overseerref03_Found_l2 (p0 : List Int × Int × List Int × (List (Int × Int × Int))) (st106 : Int × List Int) (st156 : Int × List Int) : Option ((Int × List Int) ⊕ (List Int)) :=
  if decide (st156.1 < (p0.1.length : Int)) then
    (idx st156.2 st106.1).bind fun x170 =>
    (idx p0.1 st156.1).bind fun x177 =>
    (m_overseerref03_Step p0 x170 x177).bind fun r181 =>
    (if decide (r181 ≥ 0) then
      (m_overseerref03_has st156.2 r181).bind fun r197 =>
      some (!r197)
    else
      some false).bind fun b186 =>
    if b186 then
      (app st156.2 ([r181] : List Int)).bind fun x192 =>
      m_overseerref03_Found_j2 st156 x192
    else
      m_overseerref03_Found_j2 st156 st156.2
  else
    some (.inr st156.2)
noncomputable def m_overseerref03_Found_l1 (p0 : List Int × Int × List Int × (List (Int × Int × Int))) (st106 : Int × List Int) : Option ((Int × List Int) ⊕ (List Int)) :=
  if decide (st106.1 < (st106.2.length : Int)) then
    (iter (m_overseerref03_Found_l2 p0 st106) (0, st106.2)).bind fun o156 =>
    some (.inl (W (st106.1 + 1), o156))
  else
    some (.inr st106.2)
noncomputable def m_overseerref03_Found_j1 (p0 : List Int × Int × List Int × (List (Int × Int × Int))) (l8 : List Int) : Option (List Int) :=
  (iter (m_overseerref03_Found_l1 p0) (0, l8)).bind fun o106 =>
  some o106
/-- What overseerref03.Found computes. -/
noncomputable def m_overseerref03_Found (p0 : List Int × Int × List Int × (List (Int × Int × Int))) : Option (List Int) :=
  if decide (p0.2.1 > 0) then
    (app ([] : List Int) ([0] : List Int)).bind fun x203 =>
    m_overseerref03_Found_j1 p0 x203
  else
    m_overseerref03_Found_j1 p0 ([] : List Int)
set_option maxRecDepth 100000 in
set_option maxHeartbeats 8000000 in
theorem m_overseerref03_Found_c {s : Sig} {p0 : List Int × Int × List Int × (List (Int × Int × Int))} {a1 : Option Addr} {c1 : Nat} {a2 : Option Addr} {c2 : Nat} {a3 : Option Addr} {c3 : Nat} {u0 : Nat} {r : List Int} (h1 : RdL (rK .i64) s a1 c1 p0.1) (h2 : RdL (rK .i64) s a2 c2 p0.2.2.1) (h3 : RdL (rP (rK .i64) (rP (rK .i64) (rK .i64))) s a3 c3 p0.2.2.2) (hm : m_overseerref03_Found p0 = some r) :
    Calls Try.prog 80 #[.agg #[.slice a1 p0.1.length c1, .int .i64 p0.2.1, .slice a2 p0.2.2.1.length c2, .slice a3 p0.2.2.2.length c3]] s.w (RetS No s fun v s' => ∃ (a4 : Option Addr) (c4 : Nat), v = .slice a4 r.length c4 ∧ RowT (rK .i64) s' u0 3 a4 c4 r) := by
 unfold m_overseerref03_Found at hm
 obtain ⟨N, hN, hNb⟩ := s.fresh
 have m0 : Mv (Up N No) s s := Mv.refl _ _
 refine E.entry Try.func80 rfl Try.ntmps80 rfl rfl (E.seq (E.reg (L.box (N + 0) Wt.no rfl rfl rfl fun b5 s6 m7 bx5 => ?_)))
 replace m0 := m0.trans m7.no
 replace h1 := h1.mono (m7.le no_No)
 replace h2 := h2.mono (m7.le no_No)
 replace h3 := h3.mono (m7.le no_No)
 refine L.as Wt.no rfl rfl (L.nil (X.seqN (E.seq (E.reg (L.as Wt.no rfl rfl (L.nil (X.seqN (E.seqJ (fun e w => ∃ (s10 : Sig) (l8 : List Int) (a9 : Option Addr) (c9 : Nat), m_overseerref03_Found_j1 p0 l8 = some r ∧ Mv (Up N No) s s10 ∧ RowT (rK .i64) s10 (N + 1) 3 a9 c9 l8 ∧ RdL (rK .i64) s10 a1 c1 p0.1 ∧ RdL (rK .i64) s10 a2 c2 p0.2.2.1 ∧ RdL (rP (rK .i64) (rP (rK .i64) (rK .i64))) s10 a3 c3 p0.2.2.2 ∧ Bx s10 (N + 0) b5 #[.slice a1 p0.1.length c1, .int .i64 p0.2.1, .slice a2 p0.2.2.1.length c2, .slice a3 p0.2.2.2.length c3] 26 ∧ e = [(3, .slice a9 l8.length c9), (1, .pointer (some ⟨b5, 0, none⟩))] ∧ w = s10.w) ?_ ?_))))))))
 ·rintro _ _ ⟨s10, l8, a9, c9, hm, m0, h9, h1, h2, h3, bx5, rfl, rfl⟩
  unfold m_overseerref03_Found_j1 at hm
  refine E.seq (E.seq (E.reg (L.as Wt.no rfl rfl (L.nil (X.seqN (E.block ?_))))))
  obtain ⟨o106, eo106, hm⟩ := bindS hm
  refine E.cut (x := .exit 0) (fun e w => ∃ (s110 : Sig) (a108 : Option Addr) (c108 : Nat), Mv (Up N No) s s110 ∧ RowT (rK .i64) s110 (N + 1) 3 a108 c108 o106 ∧ e = [(3, .slice a108 o106.length c108)] ∧ w = s110.w) ?_ ?_
  ·rintro _ _ ⟨s110, a108, c108, m0, h108, rfl, rfl⟩
   refine X.blkE (X.seqN (E.seq (E.reg (L.mv Wt.no rfl rfl (L.as Wt.no rfl rfl (L.nil (X.seqN (E.ret ?_))))))))
   obtain rfl := Option.some.inj hm
   exact X.rt (.inl rfl) Try.results80 (Rs.tmp rfl Rs.nil) rfl ⟨_, (s110).ren N (fun k => cond (Nat.beq k 1) u0 (0)), rfl, rfl, m0.ren hNb, ⟨a108, c108, rfl, (h108.ren hN)⟩⟩
  intro K111
  refine E.iter (fun (st106 : Int × List Int) (e : List (Nat × Value)) (w : World) => ∃ (s109 : Sig) (a14 : Option Addr) (c14 : Nat), Mv (Up N No) s s109 ∧ RowT (rK .i64) s109 (N + 1) 3 a14 c14 st106.2 ∧ RdL (rK .i64) s109 a1 c1 p0.1 ∧ RdL (rK .i64) s109 a2 c2 p0.2.2.1 ∧ RdL (rP (rK .i64) (rP (rK .i64) (rK .i64))) s109 a3 c3 p0.2.2.2 ∧ Bx s109 (N + 0) b5 #[.slice a1 p0.1.length c1, .int .i64 p0.2.1, .slice a2 p0.2.2.1.length c2, .slice a3 p0.2.2.2.length c3] 26 ∧ e = [(4, .int .i64 st106.1), (3, .slice a14 st106.2.length c14), (1, .pointer (some ⟨b5, 0, none⟩))] ∧ w = s109.w) eo106 ⟨s10, a9, c9, m0, h9, h1, h2, h3, bx5, rfl, rfl⟩ (Sub.rf rfl) ?_
  rintro st106 res106 hm ih106 ho106 _ _ ⟨s109, a14, c14, m0, h14, h1, h2, h3, bx5, rfl, rfl⟩
  unfold m_overseerref03_Found_l1 at hm
  refine E.seq (E.seq (E.reg (L.mv Wt.no rfl rfl (L.mv Wt.no rfl rfl (L.len sl23 Wt.no rfl rfl (L.bi Wt.no rfl rfl rfl rfl (L.nil (X.seqN ?_))))))))
  rcases ifS hm with ⟨hc, hm⟩ | ⟨hc, hm⟩
  ·refine E.cT rfl hc (E.skip (X.seqN (E.seq (E.block (E.seq (E.reg (L.as Wt.no rfl rfl (L.nil (X.seqN (E.block ?_))))))))))
   obtain ⟨o156, eo156, hm⟩ := bindS hm
   refine E.cut (x := .exit 2) (fun e w => ∃ (s160 : Sig) (a158 : Option Addr) (c158 : Nat), Mv (Up N No) s s160 ∧ RowT (rK .i64) s160 (N + 1) 3 a158 c158 o156 ∧ RdL (rK .i64) s160 a1 c1 p0.1 ∧ RdL (rK .i64) s160 a2 c2 p0.2.2.1 ∧ RdL (rP (rK .i64) (rP (rK .i64) (rK .i64))) s160 a3 c3 p0.2.2.2 ∧ Bx s160 (N + 0) b5 #[.slice a1 p0.1.length c1, .int .i64 p0.2.1, .slice a2 p0.2.2.1.length c2, .slice a3 p0.2.2.2.length c3] 26 ∧ e = [(4, .int .i64 st106.1), (3, .slice a158 o156.length c158), (1, .pointer (some ⟨b5, 0, none⟩))] ∧ w = s160.w) ?_ ?_
   ·rintro _ _ ⟨s160, a158, c158, m0, h158, h1, h2, h3, bx5, rfl, rfl⟩
    exact X.blkE (X.blkN (X.seqN (E.reg (L.mv Wt.no rfl rfl (L.bi Wt.no rfl rfl rfl rfl (L.as Wt.no rfl rfl (L.nil (X.sub (ih106 _ (Option.some.inj hm).symm _ _ ⟨s160, a158, c158, m0, h158, h1, h2, h3, bx5, rfl, rfl⟩) (Sub.rf rfl)))))))))
   intro K161
   refine E.iter (fun (st156 : Int × List Int) (e : List (Nat × Value)) (w : World) => ∃ (s159 : Sig) (a114 : Option Addr) (c114 : Nat), Mv (Up N No) s s159 ∧ RowT (rK .i64) s159 (N + 1) 3 a114 c114 st156.2 ∧ RdL (rK .i64) s159 a1 c1 p0.1 ∧ RdL (rK .i64) s159 a2 c2 p0.2.2.1 ∧ RdL (rP (rK .i64) (rP (rK .i64) (rK .i64))) s159 a3 c3 p0.2.2.2 ∧ Bx s159 (N + 0) b5 #[.slice a1 p0.1.length c1, .int .i64 p0.2.1, .slice a2 p0.2.2.1.length c2, .slice a3 p0.2.2.2.length c3] 26 ∧ e = [(5, .int .i64 st156.1), (4, .int .i64 st106.1), (3, .slice a114 st156.2.length c114), (1, .pointer (some ⟨b5, 0, none⟩))] ∧ w = s159.w) eo156 ⟨s109, a14, c14, m0, h14, h1, h2, h3, bx5, rfl, rfl⟩ (Sub.rf rfl) ?_
   rintro st156 res156 hm ih156 ho156 _ _ ⟨s159, a114, c114, m0, h114, h1, h2, h3, bx5, rfl, rfl⟩
   unfold m_overseerref03_Found_l2 at hm
   refine E.seq (E.seq (E.reg (L.mv Wt.no rfl rfl (L.fa fa26_0 Wt.no rfl rfl (L.ld (j := 0) bx5.mem nag23 Wt.no rfl rfl rfl rfl (L.len sl23 Wt.no rfl rfl (L.bi Wt.no rfl rfl rfl rfl (L.nil (X.seqN ?_)))))))))
   rcases ifS hm with ⟨hc, hm⟩ | ⟨hc, hm⟩
   ·refine E.cT rfl hc (E.skip (X.seqN (E.seqJ (fun e w => ∃ (s164 : Sig) (l162 : List Int) (a163 : Option Addr) (c163 : Nat), m_overseerref03_Found_j2 st156 l162 = some res156 ∧ Mv (Up N No) s s164 ∧ RowT (rK .i64) s164 (N + 1) 3 a163 c163 l162 ∧ RdL (rK .i64) s164 a1 c1 p0.1 ∧ RdL (rK .i64) s164 a2 c2 p0.2.2.1 ∧ RdL (rP (rK .i64) (rP (rK .i64) (rK .i64))) s164 a3 c3 p0.2.2.2 ∧ Bx s164 (N + 0) b5 #[.slice a1 p0.1.length c1, .int .i64 p0.2.1, .slice a2 p0.2.2.1.length c2, .slice a3 p0.2.2.2.length c3] 26 ∧ e = [(3, .slice a163 l162.length c163), (5, .int .i64 st156.1), (4, .int .i64 st106.1), (1, .pointer (some ⟨b5, 0, none⟩))] ∧ w = s164.w) ?_ ?_)))
    ·rintro _ _ ⟨s164, l162, a163, c163, hm, m0, h163, h1, h2, h3, bx5, rfl, rfl⟩
     unfold m_overseerref03_Found_j2 at hm
     exact E.reg (L.mv Wt.no rfl rfl (L.bi Wt.no rfl rfl rfl rfl (L.as Wt.no rfl rfl (L.nil (X.sub (ih156 _ (Option.some.inj hm).symm _ _ ⟨s164, a163, c163, m0, h163, h1, h2, h3, bx5, rfl, rfl⟩) (Sub.rf rfl))))))
    ·intro Jj165
     refine E.block (E.seq ?_)
     obtain ⟨x170, ex170, hm⟩ := bindS hm
     obtain ⟨x177, ex177, hm⟩ := bindS hm
     obtain ⟨r181, er181, hm⟩ := bindS hm
     refine E.draw [[], [], [], [1, 2], [1, 2, 3], [], [5], [], [5, 6, 7], [5, 6, 7, 8], [0, 1, 2, 3, 4, 5, 6, 7, 8, 9], [0, 1, 2, 3, 4, 5, 6, 7, 8, 9, 10]] (fun D e sx => Mv No s159 sx ∧ Sub [(5, .int .i64 st156.1), (4, .int .i64 st106.1), (3, .slice a114 st156.2.length c114), (1, .pointer (some ⟨b5, 0, none⟩))] e ∧ (D 0 = true → (Env.get e 26 = some (.agg #[.slice a1 p0.1.length c1, .int .i64 p0.2.1, .slice a2 p0.2.2.1.length c2, .slice a3 p0.2.2.2.length c3]))) ∧ (D 1 = true → (Env.get e 27 = some (.slice a114 st156.2.length c114))) ∧ (D 2 = true → (Env.get e 28 = some (.int .i64 st106.1))) ∧ (D 3 = true → (∃ (b171 : Nat) (o171 : Nat), Env.get e 29 = some (.pointer (some ⟨b171, o171, none⟩)) ∧ Mem sx (N + 1) b171 o171 [.int .i64 x170] ∧ Spot a114 (rK .i64).sz (st106.1).toNat b171 o171)) ∧ (D 4 = true → (Env.get e 30 = some (.int .i64 x170))) ∧ (D 5 = true → (Env.get e 31 = some (.pointer (some ⟨b5, 0, none⟩)))) ∧ (D 6 = true → (Env.get e 32 = some (.slice a1 p0.1.length c1))) ∧ (D 7 = true → (Env.get e 33 = some (.int .i64 st156.1))) ∧ (D 8 = true → (∃ (b178 : Nat) (o178 : Nat), Env.get e 34 = some (.pointer (some ⟨b178, o178, none⟩)) ∧ Mem sx 0 b178 o178 [.int .i64 x177])) ∧ (D 9 = true → (Env.get e 35 = some (.int .i64 x177))) ∧ (D 10 = true → (Env.get e 36 = some (.int .i64 r181))) ∧ (D 11 = true → (Env.get e 6 = some (.int .i64 r181)))) (by kernel_rfl) (by kernel_rfl) (by kernel_rfl) ?_ ?_ ?_
     ·intro sz mz
      exact ⟨mz, (Sub.rf rfl), nofun, nofun, nofun, nofun, nofun, nofun, nofun, nofun, nofun, nofun, nofun, nofun⟩
     ·refine ⟨?_, ?_, ?_, ?_, ?_, ?_, ?_, ?_, ?_, ?_, ?_, ?_, trivial⟩
      ·rintro D e s166 ⟨im, ib, i0, t_⟩ hk hf ha
       have bx5 := bx5.mv im no_No
       have kn : Kn e [(1, .pointer (some ⟨b5, 0, none⟩))] := ⟨(ib 1 _ rfl), trivial⟩
       exact L.kns _ kn (L.lg (j := 0) (cs := [.slice a1 p0.1.length c1, .int .i64 p0.2.1, .slice a2 p0.2.2.1.length c2, .slice a3 p0.2.2.2.length c3]) bx5.mem ag26 Wt.no rfl rfl rfl rfl rfl (L.nil (X.dk kn ⟨im, Sub.fresh ib rfl, fun _ => rfl, t_⟩)))
      ·rintro D e s167 ⟨im, ib, i0, i1, t_⟩ hk hf ha
       have kn : Kn e [(3, .slice a114 st156.2.length c114)] := ⟨(ib 3 _ rfl), trivial⟩
       exact L.kns _ kn (L.mv Wt.no rfl rfl (L.nil (X.dk kn ⟨im, Sub.fresh ib rfl, i0, fun _ => rfl, t_⟩)))
      ·rintro D e s168 ⟨im, ib, i0, i1, i2, t_⟩ hk hf ha
       have kn : Kn e [(4, .int .i64 st106.1)] := ⟨(ib 4 _ rfl), trivial⟩
       exact L.kns _ kn (L.mv Wt.no rfl rfl (L.nil (X.dk kn ⟨im, Sub.fresh ib rfl, i0, i1, fun _ => rfl, t_⟩)))
      ·rintro D e s169 ⟨im, ib, i0, i1, i2, i3, t_⟩ hk hf ha
       obtain ⟨d1, d2, -⟩ := ha
       have g1_ := i1 d1
       have g2_ := i2 d2
       have h114 := h114.mv im no_No no_No
       have kn : Kn e [(27, .slice a114 st156.2.length c114), (28, .int .i64 st106.1)] := ⟨g1_, g2_, trivial⟩
       refine L.kns _ kn (L.ir (r := (rK .i64)) sl23 h114 Wt.no rfl rfl ex170 rfl fun b171 o171 cc171 me171 rd171 sp171 => ?_)
       obtain rfl := rd171
       exact L.nil (X.dk kn ⟨im, Sub.fresh ib rfl, i0, i1, i2, fun _ => ⟨b171, o171, rfl, me171, sp171⟩, t_⟩)
      ·rintro D e s172 ⟨im, ib, i0, i1, i2, i3, i4, t_⟩ hk hf ha
       obtain ⟨d1, d2, d3, -⟩ := ha
       obtain ⟨b171, o171, g3_, me171, sp171⟩ := i3 d3
       have kn : Kn e [(29, .pointer (some ⟨b171, o171, none⟩))] := ⟨g3_, trivial⟩
       exact L.kns _ kn (L.ld (j := 0) me171 nag3 Wt.no rfl rfl rfl rfl (L.nil (X.dk kn ⟨im, Sub.fresh ib rfl, i0, i1, i2, i3, fun _ => rfl, t_⟩)))
      ·rintro D e s173 ⟨im, ib, i0, i1, i2, i3, i4, i5, t_⟩ hk hf ha
       have kn : Kn e [(1, .pointer (some ⟨b5, 0, none⟩))] := ⟨(ib 1 _ rfl), trivial⟩
       exact L.kns _ kn (L.fa fa26_0 Wt.no rfl rfl (L.nil (X.dk kn ⟨im, Sub.fresh ib rfl, i0, i1, i2, i3, i4, fun _ => rfl, t_⟩)))
      ·rintro D e s174 ⟨im, ib, i0, i1, i2, i3, i4, i5, i6, t_⟩ hk hf ha
       obtain ⟨d5, -⟩ := ha
       have g5_ := i5 d5
       have bx5 := bx5.mv im no_No
       have kn : Kn e [(31, .pointer (some ⟨b5, 0, none⟩))] := ⟨g5_, trivial⟩
       exact L.kns _ kn (L.ld (j := 0) bx5.mem nag23 Wt.no rfl rfl rfl rfl (L.nil (X.dk kn ⟨im, Sub.fresh ib rfl, i0, i1, i2, i3, i4, i5, fun _ => rfl, t_⟩)))
      ·rintro D e s175 ⟨im, ib, i0, i1, i2, i3, i4, i5, i6, i7, t_⟩ hk hf ha
       have kn : Kn e [(5, .int .i64 st156.1)] := ⟨(ib 5 _ rfl), trivial⟩
       exact L.kns _ kn (L.mv Wt.no rfl rfl (L.nil (X.dk kn ⟨im, Sub.fresh ib rfl, i0, i1, i2, i3, i4, i5, i6, fun _ => rfl, t_⟩)))
      ·rintro D e s176 ⟨im, ib, i0, i1, i2, i3, i4, i5, i6, i7, i8, t_⟩ hk hf ha
       obtain ⟨d5, d6, d7, -⟩ := ha
       have g6_ := i6 d6
       have g7_ := i7 d7
       have h1 := h1.mono (im.le no_No)
       have kn : Kn e [(32, .slice a1 p0.1.length c1), (33, .int .i64 st156.1)] := ⟨g6_, g7_, trivial⟩
       refine L.kns _ kn (L.ix (r := (rK .i64)) sl23 h1 Wt.no rfl rfl ex177 rfl fun b178 o178 cc178 me178 rd178 => ?_)
       obtain rfl := rd178
       exact L.nil (X.dk kn ⟨im, Sub.fresh ib rfl, i0, i1, i2, i3, i4, i5, i6, i7, fun _ => ⟨b178, o178, rfl, me178⟩, t_⟩)
      ·rintro D e s179 ⟨im, ib, i0, i1, i2, i3, i4, i5, i6, i7, i8, i9, t_⟩ hk hf ha
       obtain ⟨d5, d6, d7, d8, -⟩ := ha
       obtain ⟨b178, o178, g8_, me178⟩ := i8 d8
       have kn : Kn e [(34, .pointer (some ⟨b178, o178, none⟩))] := ⟨g8_, trivial⟩
       exact L.kns _ kn (L.ld (j := 0) me178 nag3 Wt.no rfl rfl rfl rfl (L.nil (X.dk kn ⟨im, Sub.fresh ib rfl, i0, i1, i2, i3, i4, i5, i6, i7, i8, fun _ => rfl, t_⟩)))
      ·rintro D e s180 ⟨im, ib, i0, i1, i2, i3, i4, i5, i6, i7, i8, i9, i10, i11⟩ hk hf ha
       obtain ⟨d0, d1, d2, d3, d4, d5, d6, d7, d8, d9, -⟩ := ha
       have g0_ := i0 d0
       have g4_ := i4 d4
       have g9_ := i9 d9
       have h1 := h1.mono (im.le no_No)
       have h2 := h2.mono (im.le no_No)
       have h3 := h3.mono (im.le no_No)
       have kn : Kn e [(26, .agg #[.slice a1 p0.1.length c1, .int .i64 p0.2.1, .slice a2 p0.2.2.1.length c2, .slice a3 p0.2.2.2.length c3]), (30, .int .i64 x170), (35, .int .i64 x177)] := ⟨g0_, g4_, g9_, trivial⟩
       refine L.kns _ kn (L.ca cf82 rfl rfl Wt.no rfl (m_overseerref03_Step_c (s := s180) (p0 := p0) (p1 := x170) (p2 := x177) h1 h2 h3 er181) rfl ?_)
       rintro _ s182 m183 rfl
       exact L.nil (X.dk kn ⟨im.trans m183.no, Sub.fresh ib rfl, i0, i1, i2, fun z => let ⟨b171, o171, q, me171, sp171⟩ := i3 z; ⟨b171, o171, q, (me171.mv m183 no_No), sp171⟩, i4, i5, i6, i7, fun z => let ⟨b178, o178, q, me178⟩ := i8 z; ⟨b178, o178, q, (me178.mv m183 no_No)⟩, i9, fun _ => rfl, i11⟩)
      ·rintro D e s184 ⟨im, ib, i0, i1, i2, i3, i4, i5, i6, i7, i8, i9, i10, i11⟩ hk hf ha
       obtain ⟨d0, d1, d2, d3, d4, d5, d6, d7, d8, d9, d10, -⟩ := ha
       have g10_ := i10 d10
       have kn : Kn e [(36, .int .i64 r181)] := ⟨g10_, trivial⟩
       exact L.kns _ kn (L.as Wt.no rfl rfl (L.nil (X.dk kn ⟨im, Sub.fresh ib rfl, i0, i1, i2, i3, i4, i5, i6, i7, i8, i9, i10, fun _ => rfl⟩)))
     ·rintro D e s185 hD ⟨im, ib, i0, i1, i2, i3, i4, i5, i6, i7, i8, i9, i10, i11⟩
      have g11_ := i11 (hD 11 rfl)
      have h114 := h114.mv im no_No no_No
      have bx5 := bx5.mv im no_No
      have h1 := h1.mono (im.le no_No)
      have h2 := h2.mono (im.le no_No)
      have h3 := h3.mono (im.le no_No)
      have m0 := m0.trans im.no
      refine X.sub (e' := [(6, .int .i64 r181), (5, .int .i64 st156.1), (4, .int .i64 st106.1), (3, .slice a114 st156.2.length c114), (1, .pointer (some ⟨b5, 0, none⟩))]) ?_ (Sub.cons g11_ (Sub.cons (ib 5 _ rfl) (Sub.cons (ib 4 _ rfl) (Sub.cons (ib 3 _ rfl) (Sub.cons (ib 1 _ rfl) Sub.nil)))))
      refine X.seqN (E.seq (E.reg (L.mv Wt.no rfl rfl (L.bi Wt.no rfl rfl rfl rfl (L.mv Wt.no rfl rfl ?_)))))
      obtain ⟨b186, eb186, hm⟩ := bindS hm
      refine L.cut 5 (fun e w => ∃ (s188 : Sig) (v187 : Bool), b186 = v187 ∧ Mv (Up N No) s s188 ∧ RowT (rK .i64) s188 (N + 1) 3 a114 c114 st156.2 ∧ RdL (rK .i64) s188 a1 c1 p0.1 ∧ RdL (rK .i64) s188 a2 c2 p0.2.2.1 ∧ RdL (rP (rK .i64) (rP (rK .i64) (rK .i64))) s188 a3 c3 p0.2.2.2 ∧ Bx s188 (N + 0) b5 #[.slice a1 p0.1.length c1, .int .i64 p0.2.1, .slice a2 p0.2.2.1.length c2, .slice a3 p0.2.2.2.length c3] 26 ∧ e = (44, .bool v187) :: [(6, .int .i64 r181), (5, .int .i64 st156.1), (4, .int .i64 st106.1), (3, .slice a114 st156.2.length c114), (1, .pointer (some ⟨b5, 0, none⟩))] ∧ w = s188.w) ?_ ?_
      ·rintro _ _ ⟨s188, v187, rfl, m0, h114, h1, h2, h3, bx5, rfl, rfl⟩
       refine L.nil (X.seqN ?_)
       rcases ifS hm with ⟨hc, hm⟩ | ⟨hc, hm⟩
       ·refine E.cT rfl hc (E.reg (L.mv Wt.no rfl rfl (L.mv Wt.no rfl rfl (L.bsE (k := 1) (cs := [.int .i64 r181]) 0 bs23 (Nat.le_of_ble_eq_true rfl) Wt.no rfl rfl rfl rfl fun b189 s190 m191 bx189 => ?_))))
        replace m0 := m0.trans m191.no
        replace h114 := h114.mv m191 no_No no_No
        replace bx5 := bx5.mv m191 no_No
        replace h1 := h1.mono (m191.le no_No)
        replace h2 := h2.mono (m191.le no_No)
        replace h3 := h3.mono (m191.le no_No)
        have h189 := Bx.rdL (r := (rK .i64)) (xs := ([r181] : List Int)) bx189 ⟨[.int .i64 r181], _, rfl, rfl, rfl⟩ (Nat.le_of_ble_eq_true rfl)
        obtain ⟨x192, ex192, hm⟩ := bindS hm
        refine L.ap (r := (rK .i64)) Try.underlying23 el3 rfl (tgp hN) h114 h189.wk Wt.no rfl rfl ex192 rfl fun a193 c193 s194 m195 h193 => ?_
        replace m0 := m0.trans (m195.one up)
        replace bx5 := bx5.mv m195 (tgN (by decide))
        replace h1 := h1.mono (m195.le (tg0 hN))
        replace h2 := h2.mono (m195.le (tg0 hN))
        replace h3 := h3.mono (m195.le (tg0 hN))
        exact L.as Wt.no rfl rfl (L.nil (X.blkN (X.sub (Jj165 _ _ ⟨s194, x192, a193, c193, hm, m0, h193, h1, h2, h3, bx5, rfl, rfl⟩) (Sub.rf rfl))))
       ·exact E.cF rfl hc (E.skip (X.blkN (X.sub (Jj165 _ _ ⟨s188, st156.2, a114, c114, hm, m0, h114, h1, h2, h3, bx5, rfl, rfl⟩) (Sub.rf rfl))))
      ·intro J196
       rcases ifS eb186 with ⟨hc, hm⟩ | ⟨hc, hm⟩
       ·refine L.know (d := 39) rfl hc (L.mv (Wt.mk rfl rfl) rfl rfl (L.mv (Wt.mk rfl rfl) rfl rfl ?_))
        obtain ⟨r197, er197, hm⟩ := bindS hm
        refine L.ca cf81 rfl rfl (Wt.mk rfl rfl) rfl (Calls.lendG (s0 := (Sig.drop N s185)) (s := s185) rfl (m_overseerref03_has_c (s := (Sig.drop N s185)) (p0 := st156.2) (p1 := r181) (h114.drop (Nat.le_add_right _ _)) er197) (fun v s' h => h)) rfl ?_
        rintro _ s198 m199 rfl
        replace m0 := m0.trans m199.no
        replace h114 := h114.mv m199 no_No no_No
        replace bx5 := bx5.mv m199 no_No
        replace h1 := h1.mono (m199.le no_No)
        replace h2 := h2.mono (m199.le no_No)
        replace h3 := h3.mono (m199.le no_No)
        exact L.not (Wt.mk rfl rfl) rfl rfl (L.pkT Wt.no rfl rfl rfl rfl (L.sb (J196 _ _ ⟨s198, (!r197), (Option.some.inj hm).symm, m0, h114, h1, h2, h3, bx5, rfl, rfl⟩) rfl))
       ·exact L.know (d := 39) rfl hc (L.skip rfl rfl rfl rfl (L.skip rfl rfl rfl rfl (L.skip rfl rfl rfl rfl (L.skip rfl rfl rfl rfl (L.pkF Wt.no rfl rfl rfl rfl (L.sb (J196 _ _ ⟨s185, false, (Option.some.inj hm).symm, m0, h114, h1, h2, h3, bx5, rfl, rfl⟩) rfl))))))
   ·refine E.cF rfl hc (E.exit (X.seqX (X.seqX ?_)))
    have hx := ho156 _ (Option.some.inj hm).symm
    subst hx
    exact X.sub (K161 _ _ ⟨s159, a114, c114, m0, h114, h1, h2, h3, bx5, rfl, rfl⟩) (Sub.rf rfl)
  ·refine E.cF rfl hc (E.exit (X.seqX (X.seqX ?_)))
   have hx := ho106 _ (Option.some.inj hm).symm
   subst hx
   exact X.sub (K111 _ _ ⟨s109, a14, c14, m0, h14, rfl, rfl⟩) (Sub.rf rfl)
 ·intro Jj11
  refine E.seq (E.reg (L.fa fa26_1 Wt.no rfl rfl (L.ld (j := 1) bx5.mem nag3 Wt.no rfl rfl rfl rfl (L.bi Wt.no rfl rfl rfl rfl (L.nil (X.seqN ?_))))))
  rcases ifS hm with ⟨hc, hm⟩ | ⟨hc, hm⟩
  ·refine E.cT rfl hc (E.reg (L.mv Wt.no rfl rfl (L.bsE (k := 1) (cs := [.int .i64 0]) 0 bs23 (Nat.le_of_ble_eq_true rfl) Wt.no rfl rfl rfl rfl fun b200 s201 m202 bx200 => ?_)))
   replace m0 := m0.trans m202.no
   replace bx5 := bx5.mv m202 no_No
   replace h1 := h1.mono (m202.le no_No)
   replace h2 := h2.mono (m202.le no_No)
   replace h3 := h3.mono (m202.le no_No)
   have h200 := Bx.rdL (r := (rK .i64)) (xs := ([0] : List Int)) bx200 ⟨[.int .i64 0], _, rfl, rfl, rfl⟩ (Nat.le_of_ble_eq_true rfl)
   obtain ⟨x203, ex203, hm⟩ := bindS hm
   refine L.ap (r := (rK .i64)) Try.underlying23 el3 rfl (tgp hN) (RowT.nil (r := (rK .i64)) (s := s201) (t := (N + 1)) (T := 3)) h200.wk Wt.no rfl rfl ex203 rfl fun a204 c204 s205 m206 h204 => ?_
   replace m0 := m0.trans (m206.one up)
   replace bx5 := bx5.mv m206 (tgN (by decide))
   replace h1 := h1.mono (m206.le (tg0 hN))
   replace h2 := h2.mono (m206.le (tg0 hN))
   replace h3 := h3.mono (m206.le (tg0 hN))
   exact L.as Wt.no rfl rfl (L.nil (X.sub (Jj11 _ _ ⟨s205, x203, a204, c204, hm, m0, h204, h1, h2, h3, bx5, rfl, rfl⟩) (Sub.rf rfl)))
  ·exact E.cF rfl hc (E.skip (X.sub (Jj11 _ _ ⟨s6, ([] : List Int), none, 0, hm, m0, RowT.nil, h1, h2, h3, bx5, rfl, rfl⟩) (Sub.rf rfl)))

noncomputable def m_overseerref03_index_l1 (p0 : List Int) (p1 : Int) (st6 : Int) : Option (Int ⊕ (Unit ⊕ Int)) :=
  if decide (st6 < (p0.length : Int)) then
    (idx p0 st6).bind fun x15 =>
    if (x15 == p1) then
      some (.inr (.inr (st6)))
    else
      some (.inl (W (st6 + 1)))
  else
    some (.inr (.inl ()))
/-- What overseerref03.index computes. -/
noncomputable def m_overseerref03_index (p0 : List Int) (p1 : Int) : Option Int :=
  (iter (m_overseerref03_index_l1 p0 p1) 0).bind fun o6 =>
  match o6 with
  | .inl u9 =>
    some (-1)
  | .inr (u12) =>
    some u12
set_option maxRecDepth 100000 in
set_option maxHeartbeats 8000000 in
theorem m_overseerref03_index_c {s : Sig} {p0 : List Int} {p1 : Int} {a1 : Option Addr} {c1 : Nat} {r : Int} (h1 : RdL (rK .i64) s a1 c1 p0) (hm : m_overseerref03_index p0 p1 = some r) :
    Calls Try.prog 83 #[.slice a1 p0.length c1, .int .i64 p1] s.w (RetS No s fun v s' => v = .int .i64 r) := by
 unfold m_overseerref03_index at hm
 obtain ⟨N, hN, hNb⟩ := s.fresh
 have m0 : Mv (Up N No) s s := Mv.refl _ _
 refine E.entry Try.func83 rfl Try.ntmps83 rfl rfl (E.seq (E.reg (L.as Wt.no rfl rfl (L.nil (X.seqN (E.seq (E.seq (E.reg (L.as Wt.no rfl rfl (L.nil (X.seqN (E.block ?_))))))))))))
 obtain ⟨o6, eo6, hm⟩ := bindS hm
 refine E.cut (x := .exit 0) (fun e w => ∃ (s10 : Sig) (u9 : Unit), o6 = .inl u9 ∧ Mv (Up N No) s s10 ∧ e = [] ∧ w = s10.w) ?_ ?_
 ·rintro _ _ ⟨s10, u9, rfl, m0, rfl, rfl⟩
  dsimp only at hm
  refine X.blkE (X.seqN (E.seq (E.reg (L.as Wt.no rfl rfl (L.nil (X.seqN (E.ret ?_)))))))
  obtain rfl := Option.some.inj hm
  exact X.rt (.inl rfl) Try.results83 (Rs.tmp rfl Rs.nil) rfl ⟨_, (s10).ren N (fun _ => 0), rfl, rfl, m0.ren hNb, rfl⟩
 intro K11
 refine E.cut (x := .ret) (fun e w => ∃ (s13 : Sig) (u12 : Int), o6 = .inr (u12) ∧ Mv (Up N No) s s13 ∧ e = [(4, .int .i64 u12)] ∧ w = s13.w) ?_ ?_
 ·rintro _ _ ⟨s13, u12, rfl, m0, rfl, rfl⟩
  dsimp only at hm
  refine X.blkR (X.seqR ?_)
  obtain rfl := Option.some.inj hm
  exact X.rt (.inl rfl) Try.results83 (Rs.tmp rfl Rs.nil) rfl ⟨_, (s13).ren N (fun _ => 0), rfl, rfl, m0.ren hNb, rfl⟩
 intro K14
 refine E.iter (fun (st6 : Int) (e : List (Nat × Value)) (w : World) => ∃ (s8 : Sig), Mv (Up N No) s s8 ∧ RdL (rK .i64) s8 a1 c1 p0 ∧ e = [(5, .int .i64 st6), (0, .slice a1 p0.length c1), (1, .int .i64 p1)] ∧ w = s8.w) eo6 ⟨s, m0, h1, rfl, rfl⟩ (Sub.rf rfl) ?_
 rintro st6 res6 hm ih6 ho6 _ _ ⟨s8, m0, h1, rfl, rfl⟩
 unfold m_overseerref03_index_l1 at hm
 refine E.seq (E.seq (E.reg (L.mv Wt.no rfl rfl (L.mv Wt.no rfl rfl (L.len sl23 Wt.no rfl rfl (L.bi Wt.no rfl rfl rfl rfl (L.nil (X.seqN ?_))))))))
 rcases ifS hm with ⟨hc, hm⟩ | ⟨hc, hm⟩
 ·refine E.cT rfl hc (E.skip (X.seqN (E.seq (E.block (E.seq (E.reg (L.mv Wt.no rfl rfl (L.mv Wt.no rfl rfl ?_))))))))
  obtain ⟨x15, ex15, hm⟩ := bindS hm
  refine L.ix (r := (rK .i64)) sl23 h1 Wt.no rfl rfl ex15 rfl fun b16 o16 cc16 me16 rd16 => ?_
  obtain rfl := rd16
  refine L.ld (j := 0) me16 nag3 Wt.no rfl rfl rfl rfl (L.mv Wt.no rfl rfl (L.bi Wt.no rfl rfl rfl rfl (L.nil (X.seqN ?_))))
  rcases ifS hm with ⟨hc, hm⟩ | ⟨hc, hm⟩
  ·refine E.cT rfl hc (E.seq (E.reg (L.mv Wt.no rfl rfl (L.as Wt.no rfl rfl (L.nil (X.seqN (E.ret (X.blkR (X.seqR (X.seqR ?_))))))))))
   have hx := ho6 _ (Option.some.inj hm).symm
   exact X.sub (K14 _ _ ⟨s8, st6, hx.symm, m0, rfl, rfl⟩) (Sub.rf rfl)
  ·exact E.cF rfl hc (E.skip (X.blkN (X.seqN (E.reg (L.mv Wt.no rfl rfl (L.bi Wt.no rfl rfl rfl rfl (L.as Wt.no rfl rfl (L.nil (X.sub (ih6 _ (Option.some.inj hm).symm _ _ ⟨s8, m0, h1, rfl, rfl⟩) (Sub.rf rfl))))))))))
 ·refine E.cF rfl hc (E.exit (X.seqX (X.seqX ?_)))
  have hx := ho6 _ (Option.some.inj hm).symm
  exact X.sub (K11 _ _ ⟨s8, (), hx.symm, m0, rfl, rfl⟩) Sub.nil

theorem cf70 : Cf Try.prog 70 := Cf.mk Try.func70 (by kernel_rfl) (by kernel_rfl)
theorem cf80 : Cf Try.prog 80 := Cf.mk Try.func80 (by kernel_rfl) (by kernel_rfl)
theorem cf83 : Cf Try.prog 83 := Cf.mk Try.func83 (by kernel_rfl) (by kernel_rfl)
noncomputable def m_overseerref03_Canonical_j2 (st263 : Int × (List (Int × Int × Int))) (l269 : List (Int × Int × Int)) : Option ((Int × (List (Int × Int × Int))) ⊕ (List (Int × Int × Int))) :=
  some (.inl (W (st263.1 + 1), l269))
noncomputable def m_overseerref03_Canonical_l2 (p0 : List Int × Int × List Int × (List (Int × Int × Int))) (r13 : List Int) (st188 : Int × List Int × (List (Int × Int × Int))) (st263 : Int × (List (Int × Int × Int))) : Option ((Int × (List (Int × Int × Int))) ⊕ (List (Int × Int × Int))) :=
  if decide (st263.1 < (p0.1.length : Int)) then
    (idx r13 st188.1).bind fun x277 =>
    (idx p0.1 st263.1).bind fun x284 =>
    (m_overseerref03_Step p0 x277 x284).bind fun r288 =>
    if decide (r288 ≥ 0) then
      (idx p0.1 st263.1).bind fun x300 =>
      (m_overseerref03_index r13 r288).bind fun r306 =>
      (app st263.2 ([(st188.1, x300, r306)] : List (Int × Int × Int))).bind fun x315 =>
      m_overseerref03_Canonical_j2 st263 x315
    else
      m_overseerref03_Canonical_j2 st263 st263.2
  else
    some (.inr st263.2)
noncomputable def m_overseerref03_Canonical_j1 (p0 : List Int × Int × List Int × (List (Int × Int × Int))) (r13 : List Int) (st188 : Int × List Int × (List (Int × Int × Int))) (l198 : List Int) : Option ((Int × List Int × (List (Int × Int × Int))) ⊕ (List Int × (List (Int × Int × Int)))) :=
  (iter (m_overseerref03_Canonical_l2 p0 r13 st188) (0, st188.2.2)).bind fun o263 =>
  some (.inl (W (st188.1 + 1), l198, o263))
noncomputable def m_overseerref03_Canonical_l1 (p0 : List Int × Int × List Int × (List (Int × Int × Int))) (r13 : List Int) (st188 : Int × List Int × (List (Int × Int × Int))) : Option ((Int × List Int × (List (Int × Int × Int))) ⊕ (List Int × (List (Int × Int × Int)))) :=
  if decide (st188.1 < (r13.length : Int)) then
    (idx r13 st188.1).bind fun x329 =>
    (m_overseerref03_has p0.2.2.1 x329).bind fun r333 =>
    if r333 then
      (app st188.2.1 ([st188.1] : List Int)).bind fun x340 =>
      m_overseerref03_Canonical_j1 p0 r13 st188 x340
    else
      m_overseerref03_Canonical_j1 p0 r13 st188 st188.2.1
  else
    some (.inr st188.2)
/-- What overseerref03.Canonical computes. -/
noncomputable def m_overseerref03_Canonical (p0 : List Int × Int × List Int × (List (Int × Int × Int))) : Option (List Int × Int × List Int × (List (Int × Int × Int))) :=
  (m_overseerref03_Found p0).bind fun r13 =>
  (m_overseerref03_Empty p0.1).bind fun r17 =>
  (iter (m_overseerref03_Canonical_l1 p0 r13) (0, r17.2.2)).bind fun o188 =>
  some (r17.1, (r13.length : Int), o188)
set_option maxRecDepth 100000 in
set_option maxHeartbeats 8000000 in
theorem m_overseerref03_Canonical_c {s : Sig} {p0 : List Int × Int × List Int × (List (Int × Int × Int))} {a1 : Option Addr} {c1 : Nat} {a2 : Option Addr} {c2 : Nat} {a3 : Option Addr} {c3 : Nat} {u0 : Nat} {u1 : Nat} {u2 : Nat} {r : (List Int × Int × List Int × (List (Int × Int × Int)))} (h1 : RdL (rK .i64) s a1 c1 p0.1) (h2 : RdL (rK .i64) s a2 c2 p0.2.2.1) (h3 : RdL (rP (rK .i64) (rP (rK .i64) (rK .i64))) s a3 c3 p0.2.2.2) (hm : m_overseerref03_Canonical p0 = some r) :
    Calls Try.prog 71 #[.agg #[.slice a1 p0.1.length c1, .int .i64 p0.2.1, .slice a2 p0.2.2.1.length c2, .slice a3 p0.2.2.2.length c3]] s.w (RetS No s fun v s' => ∃ (a4 : Option Addr) (c4 : Nat) (a5 : Option Addr) (c5 : Nat) (a6 : Option Addr) (c6 : Nat), v = .agg #[.slice a4 r.1.length c4, .int .i64 r.2.1, .slice a5 r.2.2.1.length c5, .slice a6 r.2.2.2.length c6] ∧ RowT (rK .i64) s' u0 3 a4 c4 r.1 ∧ RowT (rK .i64) s' u1 3 a5 c5 r.2.2.1 ∧ RowT (rP (rK .i64) (rP (rK .i64) (rK .i64))) s' u2 28 a6 c6 r.2.2.2) := by
 unfold m_overseerref03_Canonical at hm
 obtain ⟨N, hN, hNb⟩ := s.fresh
 have m0 : Mv (Up N No) s s := Mv.refl _ _
 refine E.entry Try.func71 rfl Try.ntmps71 rfl rfl (E.seq (E.reg (L.box (N + 0) Wt.no rfl rfl rfl fun b7 s8 m9 bx7 => ?_)))
 replace m0 := m0.trans m9.no
 replace h1 := h1.mono (m9.le no_No)
 replace h2 := h2.mono (m9.le no_No)
 replace h3 := h3.mono (m9.le no_No)
 refine L.al (N + 1) zz26 rfl Wt.no rfl fun b10 s11 m12 bx10 => ?_
 replace m0 := m0.trans m12.no
 replace bx7 := bx7.mv m12 no_No
 replace h1 := h1.mono (m12.le no_No)
 replace h2 := h2.mono (m12.le no_No)
 replace h3 := h3.mono (m12.le no_No)
 refine L.nil (X.seqN (E.seq (E.reg (L.lg (j := 0) (cs := [.slice a1 p0.1.length c1, .int .i64 p0.2.1, .slice a2 p0.2.2.1.length c2, .slice a3 p0.2.2.2.length c3]) bx7.mem ag26 Wt.no rfl rfl rfl rfl rfl ?_))))
 obtain ⟨r13, er13, hm⟩ := bindS hm
 refine L.ca cf80 rfl rfl Wt.no rfl (m_overseerref03_Found_c (s := s11) (p0 := p0) (u0 := 0) h1 h2 h3 er13) rfl ?_
 rintro _ s14 m15 ⟨a16, c16, rfl, h16⟩
 replace h16 := h16.p
 replace m0 := m0.trans m15.no
 replace bx7 := bx7.mv m15 no_No
 replace h1 := h1.mono (m15.le no_No)
 replace h2 := h2.mono (m15.le no_No)
 replace h3 := h3.mono (m15.le no_No)
 replace bx10 := bx10.mv m15 no_No
 refine L.as Wt.no rfl rfl (L.nil (X.seqN (E.seq (E.reg (L.fa fa26_0 Wt.no rfl rfl (L.ld (j := 0) bx7.mem nag23 Wt.no rfl rfl rfl rfl ?_))))))
 obtain ⟨r17, er17, hm⟩ := bindS hm
 refine L.ca cf70 rfl rfl Wt.no rfl (m_overseerref03_Empty_c (s := s14) (p0 := p0.1) (u0 := (N + 5)) (u1 := (N + 3)) (u2 := (N + 4)) h1 er17) rfl ?_
 rintro _ s18 m19 ⟨a20, c20, a21, c21, a22, c22, rfl, h20, h21, h22⟩
 replace m0 := m0.trans m19.no
 replace h16 := h16.mono (m19.le no_No)
 replace bx7 := bx7.mv m19 no_No
 replace h1 := h1.mono (m19.le no_No)
 replace h2 := h2.mono (m19.le no_No)
 replace h3 := h3.mono (m19.le no_No)
 replace bx10 := bx10.mv m19 no_No
 refine L.al (N + 2) zz26 rfl Wt.no rfl fun b23 s24 m25 bx23 => ?_
 replace m0 := m0.trans m25.no
 replace h16 := h16.mono (m25.le no_No)
 replace h20 := h20.mv m25 no_No no_No
 replace h21 := h21.mv m25 no_No no_No
 replace h22 := h22.mv m25 no_No no_No
 replace bx7 := bx7.mv m25 no_No
 replace h1 := h1.mono (m25.le no_No)
 replace h2 := h2.mono (m25.le no_No)
 replace h3 := h3.mono (m25.le no_No)
 replace bx10 := bx10.mv m25 no_No
 refine L.st (c := [.slice a20 r17.1.length c20, .int .i64 r17.2.1, .slice a21 r17.2.2.1.length c21, .slice a22 r17.2.2.2.length c22]) (cs' := #[.slice a20 r17.1.length c20, .int .i64 r17.2.1, .slice a21 r17.2.2.1.length c21, .slice a22 r17.2.2.2.length c22]) bx23 ag26.sz Wt.no rfl rfl rfl rfl rfl (Nat.le_of_ble_eq_true rfl) rfl fun s26 m27 bx23 => ?_
 replace m0 := m0.trans (m27.one up)
 replace h16 := h16.mono (m27.le (tg0 hN))
 replace bx7 := bx7.mv m27 (tgN (by decide))
 replace h1 := h1.mono (m27.le (tg0 hN))
 replace h2 := h2.mono (m27.le (tg0 hN))
 replace h3 := h3.mono (m27.le (tg0 hN))
 replace bx10 := bx10.mv m27 (tgN (by decide))
 replace h20 := h20.mv m27 (tgN (by decide)) (tg0 hN)
 replace h21 := h21.mv m27 (tgN (by decide)) (tg0 hN)
 replace h22 := h22.mv m27 (tgN (by decide)) (tg0 hN)
 refine L.nil (X.seqN (E.seq (E.reg (L.mv Wt.no rfl rfl (L.len sl23 Wt.no rfl rfl (L.fa fa26_1 Wt.no rfl rfl (L.st (c := [.int .i64 (r13.length : Int)]) (cs' := #[.slice a20 r17.1.length c20, .int .i64 (r13.length : Int), .slice a21 r17.2.2.1.length c21, .slice a22 r17.2.2.2.length c22]) bx23 nag3.sz Wt.no rfl rfl rfl rfl rfl (Nat.le_of_ble_eq_true rfl) rfl fun s28 m29 bx23 => ?_)))))))
 replace m0 := m0.trans (m29.one up)
 replace h16 := h16.mono (m29.le (tg0 hN))
 replace bx7 := bx7.mv m29 (tgN (by decide))
 replace h1 := h1.mono (m29.le (tg0 hN))
 replace h2 := h2.mono (m29.le (tg0 hN))
 replace h3 := h3.mono (m29.le (tg0 hN))
 replace bx10 := bx10.mv m29 (tgN (by decide))
 replace h20 := h20.mv m29 (tgN (by decide)) (tg0 hN)
 replace h21 := h21.mv m29 (tgN (by decide)) (tg0 hN)
 replace h22 := h22.mv m29 (tgN (by decide)) (tg0 hN)
 refine L.nil (X.seqN (E.seq (E.seq (E.reg (L.as Wt.no rfl rfl (L.nil (X.seqN (E.block ?_))))))))
 obtain ⟨o188, eo188, hm⟩ := bindS hm
 refine E.cut (x := .exit 0) (fun e w => ∃ (s194 : Sig) (a190 : Option Addr) (c190 : Nat) (a192 : Option Addr) (c192 : Nat), Mv (Up N No) s s194 ∧ RowT (rK .i64) s194 (N + 5) 3 a20 c20 r17.1 ∧ RowT (rK .i64) s194 (N + 3) 3 a190 c190 o188.1 ∧ RowT (rP (rK .i64) (rP (rK .i64) (rK .i64))) s194 (N + 4) 28 a192 c192 o188.2 ∧ Bx s194 (N + 1) b10 #[.slice none 0 0, .int .i64 0, .slice none 0 0, .slice none 0 0] 26 ∧ Bx s194 (N + 2) b23 #[.slice a20 r17.1.length c20, .int .i64 (r13.length : Int), .slice a190 o188.1.length c190, .slice a192 o188.2.length c192] 26 ∧ e = [(4, .pointer (some ⟨b23, 0, none⟩)), (2, .pointer (some ⟨b10, 0, none⟩))] ∧ w = s194.w) ?_ ?_
 ·rintro _ _ ⟨s194, a190, c190, a192, c192, m0, h20, h190, h192, bx10, bx23, rfl, rfl⟩
  refine X.blkE (X.seqN (E.seq (E.reg (L.lg (j := 0) (cs := [.slice a20 r17.1.length c20, .int .i64 (r13.length : Int), .slice a190 o188.1.length c190, .slice a192 o188.2.length c192]) bx23.mem ag26 Wt.no rfl rfl rfl rfl rfl (L.st (c := [.slice a20 r17.1.length c20, .int .i64 (r13.length : Int), .slice a190 o188.1.length c190, .slice a192 o188.2.length c192]) (cs' := #[.slice a20 r17.1.length c20, .int .i64 (r13.length : Int), .slice a190 o188.1.length c190, .slice a192 o188.2.length c192]) bx10 ag26.sz Wt.no rfl rfl rfl rfl rfl (Nat.le_of_ble_eq_true rfl) rfl fun s195 m196 bx10 => ?_)))))
  replace m0 := m0.trans (m196.one up)
  replace h20 := h20.mv m196 (tgN (by decide)) (tg0 hN)
  replace h190 := h190.mv m196 (tgN (by decide)) (tg0 hN)
  replace h192 := h192.mv m196 (tgN (by decide)) (tg0 hN)
  refine L.nil (X.seqN (E.ret ?_))
  obtain rfl := Option.some.inj hm
  exact X.rt (.inl rfl) Try.results71 (Rs.cell rfl bx10 ag26 rfl Rs.nil) rfl ⟨_, (s195).ren N (fun k => cond (Nat.beq k 5) u0 (cond (Nat.beq k 4) u2 (cond (Nat.beq k 3) u1 (0)))), rfl, rfl, m0.ren hNb, ⟨a20, c20, a190, c190, a192, c192, rfl, (h20.ren hN), (h190.ren hN), (h192.ren hN)⟩⟩
 intro K197
 refine E.iter (fun (st188 : Int × List Int × (List (Int × Int × Int))) (e : List (Nat × Value)) (w : World) => ∃ (s193 : Sig) (a32 : Option Addr) (c32 : Nat) (a34 : Option Addr) (c34 : Nat), Mv (Up N No) s s193 ∧ RdL (rK .i64) s193 a16 c16 r13 ∧ RdL (rK .i64) s193 a1 c1 p0.1 ∧ RdL (rK .i64) s193 a2 c2 p0.2.2.1 ∧ RdL (rP (rK .i64) (rP (rK .i64) (rK .i64))) s193 a3 c3 p0.2.2.2 ∧ RowT (rK .i64) s193 (N + 5) 3 a20 c20 r17.1 ∧ RowT (rK .i64) s193 (N + 3) 3 a32 c32 st188.2.1 ∧ RowT (rP (rK .i64) (rP (rK .i64) (rK .i64))) s193 (N + 4) 28 a34 c34 st188.2.2 ∧ Bx s193 (N + 0) b7 #[.slice a1 p0.1.length c1, .int .i64 p0.2.1, .slice a2 p0.2.2.1.length c2, .slice a3 p0.2.2.2.length c3] 26 ∧ Bx s193 (N + 1) b10 #[.slice none 0 0, .int .i64 0, .slice none 0 0, .slice none 0 0] 26 ∧ Bx s193 (N + 2) b23 #[.slice a20 r17.1.length c20, .int .i64 (r13.length : Int), .slice a32 st188.2.1.length c32, .slice a34 st188.2.2.length c34] 26 ∧ e = [(5, .int .i64 st188.1), (4, .pointer (some ⟨b23, 0, none⟩)), (3, .slice a16 r13.length c16), (2, .pointer (some ⟨b10, 0, none⟩)), (1, .pointer (some ⟨b7, 0, none⟩))] ∧ w = s193.w) eo188 ⟨s28, a21, c21, a22, c22, m0, h16, h1, h2, h3, h20, h21, h22, bx7, bx10, bx23, rfl, rfl⟩ (Sub.rf rfl) ?_
 rintro st188 res188 hm ih188 ho188 _ _ ⟨s193, a32, c32, a34, c34, m0, h16, h1, h2, h3, h20, h32, h34, bx7, bx10, bx23, rfl, rfl⟩
 unfold m_overseerref03_Canonical_l1 at hm
 refine E.seq (E.seq (E.reg (L.mv Wt.no rfl rfl (L.mv Wt.no rfl rfl (L.len sl23 Wt.no rfl rfl (L.bi Wt.no rfl rfl rfl rfl (L.nil (X.seqN ?_))))))))
 rcases ifS hm with ⟨hc, hm⟩ | ⟨hc, hm⟩
 ·refine E.cT rfl hc (E.skip (X.seqN (E.seq (E.block (E.seqJ (fun e w => ∃ (s200 : Sig) (l198 : List Int) (a199 : Option Addr) (c199 : Nat), m_overseerref03_Canonical_j1 p0 r13 st188 l198 = some res188 ∧ Mv (Up N No) s s200 ∧ RdL (rK .i64) s200 a16 c16 r13 ∧ RdL (rK .i64) s200 a1 c1 p0.1 ∧ RdL (rK .i64) s200 a2 c2 p0.2.2.1 ∧ RdL (rP (rK .i64) (rP (rK .i64) (rK .i64))) s200 a3 c3 p0.2.2.2 ∧ RowT (rK .i64) s200 (N + 5) 3 a20 c20 r17.1 ∧ RowT (rK .i64) s200 (N + 3) 3 a199 c199 l198 ∧ RowT (rP (rK .i64) (rP (rK .i64) (rK .i64))) s200 (N + 4) 28 a34 c34 st188.2.2 ∧ Bx s200 (N + 0) b7 #[.slice a1 p0.1.length c1, .int .i64 p0.2.1, .slice a2 p0.2.2.1.length c2, .slice a3 p0.2.2.2.length c3] 26 ∧ Bx s200 (N + 1) b10 #[.slice none 0 0, .int .i64 0, .slice none 0 0, .slice none 0 0] 26 ∧ Bx s200 (N + 2) b23 #[.slice a20 r17.1.length c20, .int .i64 (r13.length : Int), .slice a199 l198.length c199, .slice a34 st188.2.2.length c34] 26 ∧ e = [(5, .int .i64 st188.1), (4, .pointer (some ⟨b23, 0, none⟩)), (3, .slice a16 r13.length c16), (2, .pointer (some ⟨b10, 0, none⟩)), (1, .pointer (some ⟨b7, 0, none⟩))] ∧ w = s200.w) ?_ ?_)))))
  ·rintro _ _ ⟨s200, l198, a199, c199, hm, m0, h16, h1, h2, h3, h20, h199, h34, bx7, bx10, bx23, rfl, rfl⟩
   unfold m_overseerref03_Canonical_j1 at hm
   refine E.seq (E.reg (L.as Wt.no rfl rfl (L.nil (X.seqN (E.block ?_)))))
   obtain ⟨o263, eo263, hm⟩ := bindS hm
   refine E.cut (x := .exit 2) (fun e w => ∃ (s267 : Sig) (a265 : Option Addr) (c265 : Nat), Mv (Up N No) s s267 ∧ RdL (rK .i64) s267 a16 c16 r13 ∧ RdL (rK .i64) s267 a1 c1 p0.1 ∧ RdL (rK .i64) s267 a2 c2 p0.2.2.1 ∧ RdL (rP (rK .i64) (rP (rK .i64) (rK .i64))) s267 a3 c3 p0.2.2.2 ∧ RowT (rK .i64) s267 (N + 5) 3 a20 c20 r17.1 ∧ RowT (rK .i64) s267 (N + 3) 3 a199 c199 l198 ∧ RowT (rP (rK .i64) (rP (rK .i64) (rK .i64))) s267 (N + 4) 28 a265 c265 o263 ∧ Bx s267 (N + 0) b7 #[.slice a1 p0.1.length c1, .int .i64 p0.2.1, .slice a2 p0.2.2.1.length c2, .slice a3 p0.2.2.2.length c3] 26 ∧ Bx s267 (N + 1) b10 #[.slice none 0 0, .int .i64 0, .slice none 0 0, .slice none 0 0] 26 ∧ Bx s267 (N + 2) b23 #[.slice a20 r17.1.length c20, .int .i64 (r13.length : Int), .slice a199 l198.length c199, .slice a265 o263.length c265] 26 ∧ e = [(5, .int .i64 st188.1), (4, .pointer (some ⟨b23, 0, none⟩)), (3, .slice a16 r13.length c16), (2, .pointer (some ⟨b10, 0, none⟩)), (1, .pointer (some ⟨b7, 0, none⟩))] ∧ w = s267.w) ?_ ?_
   ·rintro _ _ ⟨s267, a265, c265, m0, h16, h1, h2, h3, h20, h199, h265, bx7, bx10, bx23, rfl, rfl⟩
    exact X.blkE (X.blkN (X.seqN (E.reg (L.mv Wt.no rfl rfl (L.bi Wt.no rfl rfl rfl rfl (L.as Wt.no rfl rfl (L.nil (X.sub (ih188 _ (Option.some.inj hm).symm _ _ ⟨s267, a199, c199, a265, c265, m0, h16, h1, h2, h3, h20, h199, h265, bx7, bx10, bx23, rfl, rfl⟩) (Sub.rf rfl)))))))))
   intro K268
   refine E.iter (fun (st263 : Int × (List (Int × Int × Int))) (e : List (Nat × Value)) (w : World) => ∃ (s266 : Sig) (a204 : Option Addr) (c204 : Nat), Mv (Up N No) s s266 ∧ RdL (rK .i64) s266 a16 c16 r13 ∧ RdL (rK .i64) s266 a1 c1 p0.1 ∧ RdL (rK .i64) s266 a2 c2 p0.2.2.1 ∧ RdL (rP (rK .i64) (rP (rK .i64) (rK .i64))) s266 a3 c3 p0.2.2.2 ∧ RowT (rK .i64) s266 (N + 5) 3 a20 c20 r17.1 ∧ RowT (rK .i64) s266 (N + 3) 3 a199 c199 l198 ∧ RowT (rP (rK .i64) (rP (rK .i64) (rK .i64))) s266 (N + 4) 28 a204 c204 st263.2 ∧ Bx s266 (N + 0) b7 #[.slice a1 p0.1.length c1, .int .i64 p0.2.1, .slice a2 p0.2.2.1.length c2, .slice a3 p0.2.2.2.length c3] 26 ∧ Bx s266 (N + 1) b10 #[.slice none 0 0, .int .i64 0, .slice none 0 0, .slice none 0 0] 26 ∧ Bx s266 (N + 2) b23 #[.slice a20 r17.1.length c20, .int .i64 (r13.length : Int), .slice a199 l198.length c199, .slice a204 st263.2.length c204] 26 ∧ e = [(6, .int .i64 st263.1), (5, .int .i64 st188.1), (4, .pointer (some ⟨b23, 0, none⟩)), (3, .slice a16 r13.length c16), (2, .pointer (some ⟨b10, 0, none⟩)), (1, .pointer (some ⟨b7, 0, none⟩))] ∧ w = s266.w) eo263 ⟨s200, a34, c34, m0, h16, h1, h2, h3, h20, h199, h34, bx7, bx10, bx23, rfl, rfl⟩ (Sub.rf rfl) ?_
   rintro st263 res263 hm ih263 ho263 _ _ ⟨s266, a204, c204, m0, h16, h1, h2, h3, h20, h199, h204, bx7, bx10, bx23, rfl, rfl⟩
   unfold m_overseerref03_Canonical_l2 at hm
   refine E.seq (E.seq (E.reg (L.mv Wt.no rfl rfl (L.fa fa26_0 Wt.no rfl rfl (L.ld (j := 0) bx7.mem nag23 Wt.no rfl rfl rfl rfl (L.len sl23 Wt.no rfl rfl (L.bi Wt.no rfl rfl rfl rfl (L.nil (X.seqN ?_)))))))))
   rcases ifS hm with ⟨hc, hm⟩ | ⟨hc, hm⟩
   ·refine E.cT rfl hc (E.skip (X.seqN (E.seqJ (fun e w => ∃ (s271 : Sig) (l269 : List (Int × Int × Int)) (a270 : Option Addr) (c270 : Nat), m_overseerref03_Canonical_j2 st263 l269 = some res263 ∧ Mv (Up N No) s s271 ∧ RdL (rK .i64) s271 a16 c16 r13 ∧ RdL (rK .i64) s271 a1 c1 p0.1 ∧ RdL (rK .i64) s271 a2 c2 p0.2.2.1 ∧ RdL (rP (rK .i64) (rP (rK .i64) (rK .i64))) s271 a3 c3 p0.2.2.2 ∧ RowT (rK .i64) s271 (N + 5) 3 a20 c20 r17.1 ∧ RowT (rK .i64) s271 (N + 3) 3 a199 c199 l198 ∧ RowT (rP (rK .i64) (rP (rK .i64) (rK .i64))) s271 (N + 4) 28 a270 c270 l269 ∧ Bx s271 (N + 0) b7 #[.slice a1 p0.1.length c1, .int .i64 p0.2.1, .slice a2 p0.2.2.1.length c2, .slice a3 p0.2.2.2.length c3] 26 ∧ Bx s271 (N + 1) b10 #[.slice none 0 0, .int .i64 0, .slice none 0 0, .slice none 0 0] 26 ∧ Bx s271 (N + 2) b23 #[.slice a20 r17.1.length c20, .int .i64 (r13.length : Int), .slice a199 l198.length c199, .slice a270 l269.length c270] 26 ∧ e = [(6, .int .i64 st263.1), (5, .int .i64 st188.1), (4, .pointer (some ⟨b23, 0, none⟩)), (3, .slice a16 r13.length c16), (2, .pointer (some ⟨b10, 0, none⟩)), (1, .pointer (some ⟨b7, 0, none⟩))] ∧ w = s271.w) ?_ ?_)))
    ·rintro _ _ ⟨s271, l269, a270, c270, hm, m0, h16, h1, h2, h3, h20, h199, h270, bx7, bx10, bx23, rfl, rfl⟩
     unfold m_overseerref03_Canonical_j2 at hm
     exact E.reg (L.mv Wt.no rfl rfl (L.bi Wt.no rfl rfl rfl rfl (L.as Wt.no rfl rfl (L.nil (X.sub (ih263 _ (Option.some.inj hm).symm _ _ ⟨s271, a270, c270, m0, h16, h1, h2, h3, h20, h199, h270, bx7, bx10, bx23, rfl, rfl⟩) (Sub.rf rfl))))))
    ·intro Jj272
     refine E.block (E.seq ?_)
     obtain ⟨x277, ex277, hm⟩ := bindS hm
     obtain ⟨x284, ex284, hm⟩ := bindS hm
     obtain ⟨r288, er288, hm⟩ := bindS hm
     refine E.draw [[], [], [], [1, 2], [1, 2, 3], [], [5], [], [5, 6, 7], [5, 6, 7, 8], [0, 1, 2, 3, 4, 5, 6, 7, 8, 9], [0, 1, 2, 3, 4, 5, 6, 7, 8, 9, 10]] (fun D e sx => Mv No s266 sx ∧ Sub [(6, .int .i64 st263.1), (5, .int .i64 st188.1), (4, .pointer (some ⟨b23, 0, none⟩)), (3, .slice a16 r13.length c16), (2, .pointer (some ⟨b10, 0, none⟩)), (1, .pointer (some ⟨b7, 0, none⟩))] e ∧ (D 0 = true → (Env.get e 42 = some (.agg #[.slice a1 p0.1.length c1, .int .i64 p0.2.1, .slice a2 p0.2.2.1.length c2, .slice a3 p0.2.2.2.length c3]))) ∧ (D 1 = true → (Env.get e 43 = some (.slice a16 r13.length c16))) ∧ (D 2 = true → (Env.get e 44 = some (.int .i64 st188.1))) ∧ (D 3 = true → (∃ (b278 : Nat) (o278 : Nat), Env.get e 45 = some (.pointer (some ⟨b278, o278, none⟩)) ∧ Mem sx 0 b278 o278 [.int .i64 x277])) ∧ (D 4 = true → (Env.get e 46 = some (.int .i64 x277))) ∧ (D 5 = true → (Env.get e 47 = some (.pointer (some ⟨b7, 0, none⟩)))) ∧ (D 6 = true → (Env.get e 48 = some (.slice a1 p0.1.length c1))) ∧ (D 7 = true → (Env.get e 49 = some (.int .i64 st263.1))) ∧ (D 8 = true → (∃ (b285 : Nat) (o285 : Nat), Env.get e 50 = some (.pointer (some ⟨b285, o285, none⟩)) ∧ Mem sx 0 b285 o285 [.int .i64 x284])) ∧ (D 9 = true → (Env.get e 51 = some (.int .i64 x284))) ∧ (D 10 = true → (Env.get e 52 = some (.int .i64 r288))) ∧ (D 11 = true → (Env.get e 7 = some (.int .i64 r288)))) (by kernel_rfl) (by kernel_rfl) (by kernel_rfl) ?_ ?_ ?_
     ·intro sz mz
      exact ⟨mz, (Sub.rf rfl), nofun, nofun, nofun, nofun, nofun, nofun, nofun, nofun, nofun, nofun, nofun, nofun⟩
     ·refine ⟨?_, ?_, ?_, ?_, ?_, ?_, ?_, ?_, ?_, ?_, ?_, ?_, trivial⟩
      ·rintro D e s273 ⟨im, ib, i0, t_⟩ hk hf ha
       have bx7 := bx7.mv im no_No
       have kn : Kn e [(1, .pointer (some ⟨b7, 0, none⟩))] := ⟨(ib 1 _ rfl), trivial⟩
       exact L.kns _ kn (L.lg (j := 0) (cs := [.slice a1 p0.1.length c1, .int .i64 p0.2.1, .slice a2 p0.2.2.1.length c2, .slice a3 p0.2.2.2.length c3]) bx7.mem ag26 Wt.no rfl rfl rfl rfl rfl (L.nil (X.dk kn ⟨im, Sub.fresh ib rfl, fun _ => rfl, t_⟩)))
      ·rintro D e s274 ⟨im, ib, i0, i1, t_⟩ hk hf ha
       have kn : Kn e [(3, .slice a16 r13.length c16)] := ⟨(ib 3 _ rfl), trivial⟩
       exact L.kns _ kn (L.mv Wt.no rfl rfl (L.nil (X.dk kn ⟨im, Sub.fresh ib rfl, i0, fun _ => rfl, t_⟩)))
      ·rintro D e s275 ⟨im, ib, i0, i1, i2, t_⟩ hk hf ha
       have kn : Kn e [(5, .int .i64 st188.1)] := ⟨(ib 5 _ rfl), trivial⟩
       exact L.kns _ kn (L.mv Wt.no rfl rfl (L.nil (X.dk kn ⟨im, Sub.fresh ib rfl, i0, i1, fun _ => rfl, t_⟩)))
      ·rintro D e s276 ⟨im, ib, i0, i1, i2, i3, t_⟩ hk hf ha
       obtain ⟨d1, d2, -⟩ := ha
       have g1_ := i1 d1
       have g2_ := i2 d2
       have h16 := h16.mono (im.le no_No)
       have kn : Kn e [(43, .slice a16 r13.length c16), (44, .int .i64 st188.1)] := ⟨g1_, g2_, trivial⟩
       refine L.kns _ kn (L.ix (r := (rK .i64)) sl23 h16 Wt.no rfl rfl ex277 rfl fun b278 o278 cc278 me278 rd278 => ?_)
       obtain rfl := rd278
       exact L.nil (X.dk kn ⟨im, Sub.fresh ib rfl, i0, i1, i2, fun _ => ⟨b278, o278, rfl, me278⟩, t_⟩)
      ·rintro D e s279 ⟨im, ib, i0, i1, i2, i3, i4, t_⟩ hk hf ha
       obtain ⟨d1, d2, d3, -⟩ := ha
       obtain ⟨b278, o278, g3_, me278⟩ := i3 d3
       have kn : Kn e [(45, .pointer (some ⟨b278, o278, none⟩))] := ⟨g3_, trivial⟩
       exact L.kns _ kn (L.ld (j := 0) me278 nag3 Wt.no rfl rfl rfl rfl (L.nil (X.dk kn ⟨im, Sub.fresh ib rfl, i0, i1, i2, i3, fun _ => rfl, t_⟩)))
      ·rintro D e s280 ⟨im, ib, i0, i1, i2, i3, i4, i5, t_⟩ hk hf ha
       have kn : Kn e [(1, .pointer (some ⟨b7, 0, none⟩))] := ⟨(ib 1 _ rfl), trivial⟩
       exact L.kns _ kn (L.fa fa26_0 Wt.no rfl rfl (L.nil (X.dk kn ⟨im, Sub.fresh ib rfl, i0, i1, i2, i3, i4, fun _ => rfl, t_⟩)))
      ·rintro D e s281 ⟨im, ib, i0, i1, i2, i3, i4, i5, i6, t_⟩ hk hf ha
       obtain ⟨d5, -⟩ := ha
       have g5_ := i5 d5
       have bx7 := bx7.mv im no_No
       have kn : Kn e [(47, .pointer (some ⟨b7, 0, none⟩))] := ⟨g5_, trivial⟩
       exact L.kns _ kn (L.ld (j := 0) bx7.mem nag23 Wt.no rfl rfl rfl rfl (L.nil (X.dk kn ⟨im, Sub.fresh ib rfl, i0, i1, i2, i3, i4, i5, fun _ => rfl, t_⟩)))
      ·rintro D e s282 ⟨im, ib, i0, i1, i2, i3, i4, i5, i6, i7, t_⟩ hk hf ha
       have kn : Kn e [(6, .int .i64 st263.1)] := ⟨(ib 6 _ rfl), trivial⟩
       exact L.kns _ kn (L.mv Wt.no rfl rfl (L.nil (X.dk kn ⟨im, Sub.fresh ib rfl, i0, i1, i2, i3, i4, i5, i6, fun _ => rfl, t_⟩)))
      ·rintro D e s283 ⟨im, ib, i0, i1, i2, i3, i4, i5, i6, i7, i8, t_⟩ hk hf ha
       obtain ⟨d5, d6, d7, -⟩ := ha
       have g6_ := i6 d6
       have g7_ := i7 d7
       have h1 := h1.mono (im.le no_No)
       have kn : Kn e [(48, .slice a1 p0.1.length c1), (49, .int .i64 st263.1)] := ⟨g6_, g7_, trivial⟩
       refine L.kns _ kn (L.ix (r := (rK .i64)) sl23 h1 Wt.no rfl rfl ex284 rfl fun b285 o285 cc285 me285 rd285 => ?_)
       obtain rfl := rd285
       exact L.nil (X.dk kn ⟨im, Sub.fresh ib rfl, i0, i1, i2, i3, i4, i5, i6, i7, fun _ => ⟨b285, o285, rfl, me285⟩, t_⟩)
      ·rintro D e s286 ⟨im, ib, i0, i1, i2, i3, i4, i5, i6, i7, i8, i9, t_⟩ hk hf ha
       obtain ⟨d5, d6, d7, d8, -⟩ := ha
       obtain ⟨b285, o285, g8_, me285⟩ := i8 d8
       have kn : Kn e [(50, .pointer (some ⟨b285, o285, none⟩))] := ⟨g8_, trivial⟩
       exact L.kns _ kn (L.ld (j := 0) me285 nag3 Wt.no rfl rfl rfl rfl (L.nil (X.dk kn ⟨im, Sub.fresh ib rfl, i0, i1, i2, i3, i4, i5, i6, i7, i8, fun _ => rfl, t_⟩)))
      ·rintro D e s287 ⟨im, ib, i0, i1, i2, i3, i4, i5, i6, i7, i8, i9, i10, i11⟩ hk hf ha
       obtain ⟨d0, d1, d2, d3, d4, d5, d6, d7, d8, d9, -⟩ := ha
       have g0_ := i0 d0
       have g4_ := i4 d4
       have g9_ := i9 d9
       have h1 := h1.mono (im.le no_No)
       have h2 := h2.mono (im.le no_No)
       have h3 := h3.mono (im.le no_No)
       have kn : Kn e [(42, .agg #[.slice a1 p0.1.length c1, .int .i64 p0.2.1, .slice a2 p0.2.2.1.length c2, .slice a3 p0.2.2.2.length c3]), (46, .int .i64 x277), (51, .int .i64 x284)] := ⟨g0_, g4_, g9_, trivial⟩
       refine L.kns _ kn (L.ca cf82 rfl rfl Wt.no rfl (m_overseerref03_Step_c (s := s287) (p0 := p0) (p1 := x277) (p2 := x284) h1 h2 h3 er288) rfl ?_)
       rintro _ s289 m290 rfl
       exact L.nil (X.dk kn ⟨im.trans m290.no, Sub.fresh ib rfl, i0, i1, i2, fun z => let ⟨b278, o278, q, me278⟩ := i3 z; ⟨b278, o278, q, (me278.mv m290 no_No)⟩, i4, i5, i6, i7, fun z => let ⟨b285, o285, q, me285⟩ := i8 z; ⟨b285, o285, q, (me285.mv m290 no_No)⟩, i9, fun _ => rfl, i11⟩)
      ·rintro D e s291 ⟨im, ib, i0, i1, i2, i3, i4, i5, i6, i7, i8, i9, i10, i11⟩ hk hf ha
       obtain ⟨d0, d1, d2, d3, d4, d5, d6, d7, d8, d9, d10, -⟩ := ha
       have g10_ := i10 d10
       have kn : Kn e [(52, .int .i64 r288)] := ⟨g10_, trivial⟩
       exact L.kns _ kn (L.as Wt.no rfl rfl (L.nil (X.dk kn ⟨im, Sub.fresh ib rfl, i0, i1, i2, i3, i4, i5, i6, i7, i8, i9, i10, fun _ => rfl⟩)))
     ·rintro D e s292 hD ⟨im, ib, i0, i1, i2, i3, i4, i5, i6, i7, i8, i9, i10, i11⟩
      have g11_ := i11 (hD 11 rfl)
      have bx23 := bx23.mv im no_No
      have h20 := h20.mv im no_No no_No
      have h199 := h199.mv im no_No no_No
      have h204 := h204.mv im no_No no_No
      have h16 := h16.mono (im.le no_No)
      have bx10 := bx10.mv im no_No
      have bx7 := bx7.mv im no_No
      have h1 := h1.mono (im.le no_No)
      have h2 := h2.mono (im.le no_No)
      have h3 := h3.mono (im.le no_No)
      have m0 := m0.trans im.no
      refine X.sub (e' := [(7, .int .i64 r288), (6, .int .i64 st263.1), (5, .int .i64 st188.1), (4, .pointer (some ⟨b23, 0, none⟩)), (3, .slice a16 r13.length c16), (2, .pointer (some ⟨b10, 0, none⟩)), (1, .pointer (some ⟨b7, 0, none⟩))]) ?_ (Sub.cons g11_ (Sub.cons (ib 6 _ rfl) (Sub.cons (ib 5 _ rfl) (Sub.cons (ib 4 _ rfl) (Sub.cons (ib 3 _ rfl) (Sub.cons (ib 2 _ rfl) (Sub.cons (ib 1 _ rfl) Sub.nil)))))))
      refine X.seqN (E.seq (E.reg (L.mv Wt.no rfl rfl (L.bi Wt.no rfl rfl rfl rfl (L.nil (X.seqN ?_))))))
      rcases ifS hm with ⟨hc, hm⟩ | ⟨hc, hm⟩
      ·refine E.cT rfl hc ?_
       obtain ⟨x300, ex300, hm⟩ := bindS hm
       obtain ⟨r306, er306, hm⟩ := bindS hm
       obtain ⟨x315, ex315, hm⟩ := bindS hm
       refine E.draw [[], [0], [], [], [3], [], [3, 4, 5], [3, 4, 5, 6], [], [], [8, 9], [2, 3, 4, 5, 6, 7, 8, 9, 10], [2, 3, 4, 5, 6, 7, 8, 9, 10, 11], [0, 1, 2, 3, 4, 5, 6, 7, 8, 9, 10, 11, 12], [0, 1, 2, 3, 4, 5, 6, 7, 8, 9, 10, 11, 12, 13], [0, 1, 2, 3, 4, 5, 6, 7, 8, 9, 10, 11, 12, 13, 14]] (fun D e sx => Mv (fun t => t = (N + 2) ∨ t = (N + 4)) s292 sx ∧ Sub [(7, .int .i64 r288), (6, .int .i64 st263.1), (5, .int .i64 st188.1), (4, .pointer (some ⟨b23, 0, none⟩)), (3, .slice a16 r13.length c16), (2, .pointer (some ⟨b10, 0, none⟩)), (1, .pointer (some ⟨b7, 0, none⟩))] e ∧ (D 0 = true → (Env.get e 55 = some (.pointer (some ⟨b23, 3, none⟩)))) ∧ (D 1 = true → (Env.get e 56 = some (.slice a204 st263.2.length c204))) ∧ (D 2 = true → (Env.get e 57 = some (.int .i64 st188.1))) ∧ (D 3 = true → (Env.get e 58 = some (.pointer (some ⟨b7, 0, none⟩)))) ∧ (D 4 = true → (Env.get e 59 = some (.slice a1 p0.1.length c1))) ∧ (D 5 = true → (Env.get e 60 = some (.int .i64 st263.1))) ∧ (D 6 = true → (∃ (b301 : Nat) (o301 : Nat), Env.get e 61 = some (.pointer (some ⟨b301, o301, none⟩)) ∧ Mem sx 0 b301 o301 [.int .i64 x300])) ∧ (D 7 = true → (Env.get e 62 = some (.int .i64 x300))) ∧ (D 8 = true → (Env.get e 63 = some (.slice a16 r13.length c16))) ∧ (D 9 = true → (Env.get e 64 = some (.int .i64 r288))) ∧ (D 10 = true → (Env.get e 65 = some (.int .i64 r306))) ∧ (D 11 = true → (Env.get e 66 = some (.agg #[.int .i64 st188.1, .int .i64 x300, .int .i64 r306]))) ∧ (D 12 = true → (∃ (b311 : Nat), Env.get e 67 = some (.slice (some ⟨b311, 0, none⟩) ([(st188.1, x300, r306)] : List (Int × Int × Int)).length (([(st188.1, x300, r306)] : List (Int × Int × Int)).length)) ∧ RdL (rP (rK .i64) (rP (rK .i64) (rK .i64))) sx (some ⟨b311, 0, none⟩) (([(st188.1, x300, r306)] : List (Int × Int × Int)).length) ([(st188.1, x300, r306)] : List (Int × Int × Int)))) ∧ (D 13 = true → (∃ (a316 : Option Addr) (c316 : Nat), Env.get e 68 = some (.slice a316 x315.length c316))) ∧ (D 14 = true → (Env.get e 69 = some (.pointer (some ⟨b23, 3, none⟩)))) ∧ (D 15 = false → Bx sx (N + 2) b23 #[.slice a20 r17.1.length c20, .int .i64 (r13.length : Int), .slice a199 l198.length c199, .slice a204 st263.2.length c204] 26) ∧ (D 15 = true → ∀ (a316 : Option Addr) (c316 : Nat), Env.get e 68 = some (.slice a316 x315.length c316) → Bx sx (N + 2) b23 #[.slice a20 r17.1.length c20, .int .i64 (r13.length : Int), .slice a199 l198.length c199, .slice a316 x315.length c316] 26) ∧ (D 13 = false → RowT (rP (rK .i64) (rP (rK .i64) (rK .i64))) sx (N + 4) 28 a204 c204 st263.2) ∧ (D 13 = true → ∀ (a316 : Option Addr) (c316 : Nat), Env.get e 68 = some (.slice a316 x315.length c316) → RowT (rP (rK .i64) (rP (rK .i64) (rK .i64))) sx (N + 4) 28 a316 c316 x315)) (by kernel_rfl) (by kernel_rfl) (by kernel_rfl) ?_ ?_ ?_
       ·intro sz mz
        exact ⟨mz.no, (Sub.rf rfl), nofun, nofun, nofun, nofun, nofun, nofun, nofun, nofun, nofun, nofun, nofun, nofun, nofun, nofun, nofun, fun _ => bx23.mv mz no_No, nofun, fun _ => h204.mv mz no_No no_No, nofun⟩
       ·refine ⟨?_, ?_, ?_, ?_, ?_, ?_, ?_, ?_, ?_, ?_, ?_, ?_, ?_, ?_, ?_, ?_, trivial⟩
        ·rintro D e s293 ⟨im, ib, i0, t_⟩ hk hf ha
         have kn : Kn e [(4, .pointer (some ⟨b23, 0, none⟩))] := ⟨(ib 4 _ rfl), trivial⟩
         exact L.kns _ kn (L.fa fa26_3 Wt.no rfl rfl (L.nil (X.dk kn ⟨im, Sub.fresh ib rfl, fun _ => rfl, t_⟩)))
        ·rintro D e s294 ⟨im, ib, i0, i1, i2, i3, i4, i5, i6, i7, i8, i9, i10, i11, i12, i13, i14, i15, t_⟩ hk hf ha
         obtain ⟨d0, -⟩ := ha
         have g0_ := i0 d0
         obtain bx23 := i15 (hf 15 (Nat.le_of_ble_eq_true rfl) rfl)
         have kn : Kn e [(55, .pointer (some ⟨b23, 3, none⟩))] := ⟨g0_, trivial⟩
         exact L.kns _ kn (L.ld (j := 3) bx23.mem nag24 Wt.no rfl rfl rfl rfl (L.nil (X.dk kn ⟨im, Sub.fresh ib rfl, i0, fun _ => rfl, i2, i3, i4, i5, i6, i7, i8, i9, i10, i11, i12, i13, i14, i15, t_⟩)))
        ·rintro D e s295 ⟨im, ib, i0, i1, i2, t_⟩ hk hf ha
         have kn : Kn e [(5, .int .i64 st188.1)] := ⟨(ib 5 _ rfl), trivial⟩
         exact L.kns _ kn (L.mv Wt.no rfl rfl (L.nil (X.dk kn ⟨im, Sub.fresh ib rfl, i0, i1, fun _ => rfl, t_⟩)))
        ·rintro D e s296 ⟨im, ib, i0, i1, i2, i3, t_⟩ hk hf ha
         have kn : Kn e [(1, .pointer (some ⟨b7, 0, none⟩))] := ⟨(ib 1 _ rfl), trivial⟩
         exact L.kns _ kn (L.fa fa26_0 Wt.no rfl rfl (L.nil (X.dk kn ⟨im, Sub.fresh ib rfl, i0, i1, i2, fun _ => rfl, t_⟩)))
        ·rintro D e s297 ⟨im, ib, i0, i1, i2, i3, i4, t_⟩ hk hf ha
         obtain ⟨d3, -⟩ := ha
         have g3_ := i3 d3
         have bx7 := bx7.mv im (nor (tgN (by decide)) (tgN (by decide)))
         have kn : Kn e [(58, .pointer (some ⟨b7, 0, none⟩))] := ⟨g3_, trivial⟩
         exact L.kns _ kn (L.ld (j := 0) bx7.mem nag23 Wt.no rfl rfl rfl rfl (L.nil (X.dk kn ⟨im, Sub.fresh ib rfl, i0, i1, i2, i3, fun _ => rfl, t_⟩)))
        ·rintro D e s298 ⟨im, ib, i0, i1, i2, i3, i4, i5, t_⟩ hk hf ha
         have kn : Kn e [(6, .int .i64 st263.1)] := ⟨(ib 6 _ rfl), trivial⟩
         exact L.kns _ kn (L.mv Wt.no rfl rfl (L.nil (X.dk kn ⟨im, Sub.fresh ib rfl, i0, i1, i2, i3, i4, fun _ => rfl, t_⟩)))
        ·rintro D e s299 ⟨im, ib, i0, i1, i2, i3, i4, i5, i6, t_⟩ hk hf ha
         obtain ⟨d3, d4, d5, -⟩ := ha
         have g4_ := i4 d4
         have g5_ := i5 d5
         have h1 := h1.mono (im.le (nor (tg0 hN) (tg0 hN)))
         have kn : Kn e [(59, .slice a1 p0.1.length c1), (60, .int .i64 st263.1)] := ⟨g4_, g5_, trivial⟩
         refine L.kns _ kn (L.ix (r := (rK .i64)) sl23 h1 Wt.no rfl rfl ex300 rfl fun b301 o301 cc301 me301 rd301 => ?_)
         obtain rfl := rd301
         exact L.nil (X.dk kn ⟨im, Sub.fresh ib rfl, i0, i1, i2, i3, i4, i5, fun _ => ⟨b301, o301, rfl, me301⟩, t_⟩)
        ·rintro D e s302 ⟨im, ib, i0, i1, i2, i3, i4, i5, i6, i7, t_⟩ hk hf ha
         obtain ⟨d3, d4, d5, d6, -⟩ := ha
         obtain ⟨b301, o301, g6_, me301⟩ := i6 d6
         have kn : Kn e [(61, .pointer (some ⟨b301, o301, none⟩))] := ⟨g6_, trivial⟩
         exact L.kns _ kn (L.ld (j := 0) me301 nag3 Wt.no rfl rfl rfl rfl (L.nil (X.dk kn ⟨im, Sub.fresh ib rfl, i0, i1, i2, i3, i4, i5, i6, fun _ => rfl, t_⟩)))
        ·rintro D e s303 ⟨im, ib, i0, i1, i2, i3, i4, i5, i6, i7, i8, t_⟩ hk hf ha
         have kn : Kn e [(3, .slice a16 r13.length c16)] := ⟨(ib 3 _ rfl), trivial⟩
         exact L.kns _ kn (L.mv Wt.no rfl rfl (L.nil (X.dk kn ⟨im, Sub.fresh ib rfl, i0, i1, i2, i3, i4, i5, i6, i7, fun _ => rfl, t_⟩)))
        ·rintro D e s304 ⟨im, ib, i0, i1, i2, i3, i4, i5, i6, i7, i8, i9, t_⟩ hk hf ha
         have kn : Kn e [(7, .int .i64 r288)] := ⟨(ib 7 _ rfl), trivial⟩
         exact L.kns _ kn (L.mv Wt.no rfl rfl (L.nil (X.dk kn ⟨im, Sub.fresh ib rfl, i0, i1, i2, i3, i4, i5, i6, i7, i8, fun _ => rfl, t_⟩)))
        ·rintro D e s305 ⟨im, ib, i0, i1, i2, i3, i4, i5, i6, i7, i8, i9, i10, i11, i12, i13, i14, i15, i16, i17, i18⟩ hk hf ha
         obtain ⟨d8, d9, -⟩ := ha
         have g8_ := i8 d8
         have g9_ := i9 d9
         have h16 := h16.mono (im.le (nor (tg0 hN) (tg0 hN)))
         have kn : Kn e [(63, .slice a16 r13.length c16), (64, .int .i64 r288)] := ⟨g8_, g9_, trivial⟩
         refine L.kns _ kn (L.ca cf83 rfl rfl Wt.no rfl (m_overseerref03_index_c (s := s305) (p0 := r13) (p1 := r288) h16 er306) rfl ?_)
         rintro _ s307 m308 rfl
         exact L.nil (X.dk kn ⟨im.trans m308.no, Sub.fresh ib rfl, i0, i1, i2, i3, i4, i5, fun z => let ⟨b301, o301, q, me301⟩ := i6 z; ⟨b301, o301, q, (me301.mv m308 no_No)⟩, i7, i8, i9, fun _ => rfl, i11, fun z => let ⟨b311, q, h311⟩ := i12 z; ⟨b311, q, (h311.mono (m308.le no_No))⟩, i13, i14, fun z2 => ((i15 z2).mv m308 no_No), fun z a316 c316 q13 => ((i16 z a316 c316 q13).mv m308 no_No), fun z2 => ((i17 z2).mv m308 no_No no_No), fun z a316 c316 q13 => ((i18 z a316 c316 q13).mv m308 no_No no_No)⟩)
        ·rintro D e s309 ⟨im, ib, i0, i1, i2, i3, i4, i5, i6, i7, i8, i9, i10, i11, t_⟩ hk hf ha
         obtain ⟨d2, d3, d4, d5, d6, d7, d8, d9, d10, -⟩ := ha
         have g2_ := i2 d2
         have g7_ := i7 d7
         have g10_ := i10 d10
         have kn : Kn e [(57, .int .i64 st188.1), (62, .int .i64 x300), (65, .int .i64 r306)] := ⟨g2_, g7_, g10_, trivial⟩
         exact L.kns _ kn (L.bu (cs := [.int .i64 st188.1, .int .i64 x300, .int .i64 r306]) pl28 Wt.no rfl rfl rfl (L.nil (X.dk kn ⟨im, Sub.fresh ib rfl, i0, i1, i2, i3, i4, i5, i6, i7, i8, i9, i10, fun _ => rfl, t_⟩)))
        ·rintro D e s310 ⟨im, ib, i0, i1, i2, i3, i4, i5, i6, i7, i8, i9, i10, i11, i12, i13, i14, i15, i16, i17, i18⟩ hk hf ha
         obtain ⟨d2, d3, d4, d5, d6, d7, d8, d9, d10, d11, -⟩ := ha
         have g11_ := i11 d11
         have kn : Kn e [(66, .agg #[.int .i64 st188.1, .int .i64 x300, .int .i64 r306])] := ⟨g11_, trivial⟩
         refine L.kns _ kn (L.bsE (k := 1) (cs := [.int .i64 st188.1, .int .i64 x300, .int .i64 r306]) 0 bs24 (Nat.le_of_ble_eq_true rfl) Wt.no rfl rfl rfl rfl fun b311 s312 m313 bx311 => ?_)
         have h311 := Bx.rdL (r := (rP (rK .i64) (rP (rK .i64) (rK .i64)))) (xs := ([(st188.1, x300, r306)] : List (Int × Int × Int))) bx311 ⟨[.int .i64 st188.1, .int .i64 x300, .int .i64 r306], _, rfl, ⟨[.int .i64 st188.1], [.int .i64 x300, .int .i64 r306], rfl, rfl, ⟨[.int .i64 x300], [.int .i64 r306], rfl, rfl, rfl⟩⟩, rfl⟩ (Nat.le_of_ble_eq_true rfl)
         exact L.nil (X.dk kn ⟨im.trans m313.no, Sub.fresh ib rfl, i0, i1, i2, i3, i4, i5, fun z => let ⟨b301, o301, q, me301⟩ := i6 z; ⟨b301, o301, q, (me301.mv m313 no_No)⟩, i7, i8, i9, i10, i11, fun _ => ⟨b311, rfl, h311⟩, i13, i14, fun z2 => ((i15 z2).mv m313 no_No), fun z a316 c316 q13 => ((i16 z a316 c316 q13).mv m313 no_No), fun z2 => ((i17 z2).mv m313 no_No no_No), fun z a316 c316 q13 => ((i18 z a316 c316 q13).mv m313 no_No no_No)⟩)
        ·rintro D e s314 ⟨im, ib, i0, i1, i2, i3, i4, i5, i6, i7, i8, i9, i10, i11, i12, i13, i14, i15, i16, i17, i18⟩ hk hf ha
         obtain ⟨d0, d1, d2, d3, d4, d5, d6, d7, d8, d9, d10, d11, d12, -⟩ := ha
         have g1_ := i1 d1
         obtain ⟨b311, g12_, h311⟩ := i12 d12
         obtain h204 := i17 hk
         have kn : Kn e [(56, .slice a204 st263.2.length c204), (67, .slice (some ⟨b311, 0, none⟩) ([(st188.1, x300, r306)] : List (Int × Int × Int)).length (([(st188.1, x300, r306)] : List (Int × Int × Int)).length))] := ⟨g1_, g12_, trivial⟩
         exact L.kns _ kn (L.ap (r := (rP (rK .i64) (rP (rK .i64) (rK .i64)))) Try.underlying24 el28 rfl (tgp hN) h204 h311.wk Wt.no rfl rfl ex315 rfl fun a316 c316 s317 m318 h316 => L.nil (X.dk kn ⟨im.trans (m318.one (.inr rfl)), Sub.fresh ib rfl, i0, i1, i2, i3, i4, i5, fun z => let ⟨b301, o301, q, me301⟩ := i6 z; ⟨b301, o301, q, (me301.mv m318 (tg0 hN))⟩, i7, i8, i9, i10, i11, fun z => let ⟨b311, q, h311⟩ := i12 z; ⟨b311, q, (h311.mono (m318.le (tg0 hN)))⟩, fun _ => ⟨a316, c316, rfl⟩, i14, fun z2 => ((i15 z2).mv m318 (tgN (by decide))), fun z => Bool.noConfusion ((hf 15 (Nat.le_of_ble_eq_true rfl) rfl).symm.trans z), fun z => Bool.noConfusion (show true = false from z), fun _ _ _ q13 => by cases (show some (.slice a316 x315.length c316 : Value) = some _ from q13); exact h316⟩))
        ·rintro D e s319 ⟨im, ib, i0, i1, i2, i3, i4, i5, i6, i7, i8, i9, i10, i11, i12, i13, i14, t_⟩ hk hf ha
         obtain ⟨d0, d1, d2, d3, d4, d5, d6, d7, d8, d9, d10, d11, d12, d13, -⟩ := ha
         have kn : Kn e [(4, .pointer (some ⟨b23, 0, none⟩))] := ⟨(ib 4 _ rfl), trivial⟩
         exact L.kns _ kn (L.fa fa26_3 Wt.no rfl rfl (L.nil (X.dk kn ⟨im, Sub.fresh ib rfl, i0, i1, i2, i3, i4, i5, i6, i7, i8, i9, i10, i11, i12, i13, fun _ => rfl, t_⟩)))
        ·rintro D e s320 ⟨im, ib, i0, i1, i2, i3, i4, i5, i6, i7, i8, i9, i10, i11, i12, i13, i14, i15, i16, i17, i18⟩ hk hf ha
         obtain ⟨d0, d1, d2, d3, d4, d5, d6, d7, d8, d9, d10, d11, d12, d13, d14, -⟩ := ha
         obtain ⟨a316, c316, g13_⟩ := i13 d13
         have g14_ := i14 d14
         obtain bx23 := i15 hk
         have kn : Kn e [(69, .pointer (some ⟨b23, 3, none⟩)), (68, .slice a316 x315.length c316)] := ⟨g14_, g13_, trivial⟩
         exact L.kns _ kn (L.st (c := [.slice a316 x315.length c316]) (cs' := #[.slice a20 r17.1.length c20, .int .i64 (r13.length : Int), .slice a199 l198.length c199, .slice a316 x315.length c316]) bx23 nag24.sz Wt.no rfl rfl rfl rfl rfl (Nat.le_of_ble_eq_true rfl) rfl fun s321 m322 bx23 => L.nil (X.dn kn ⟨im.trans (m322.one (.inl rfl)), ib, i0, i1, i2, i3, i4, i5, fun z => let ⟨b301, o301, q, me301⟩ := i6 z; ⟨b301, o301, q, (me301.mv m322 (tg0 hN))⟩, i7, i8, i9, i10, i11, fun z => let ⟨b311, q, h311⟩ := i12 z; ⟨b311, q, (h311.mono (m322.le (tg0 hN)))⟩, i13, i14, fun z => Bool.noConfusion (show true = false from z), fun _ _ _ q13 => by cases g13_.symm.trans q13; exact bx23, fun z2 => ((i17 z2).mv m322 (tgN (by decide)) (tg0 hN)), fun z a316 c316 q13 => ((i18 z a316 c316 q13).mv m322 (tgN (by decide)) (tg0 hN))⟩))
       ·rintro D e s323 hD ⟨im, ib, i0, i1, i2, i3, i4, i5, i6, i7, i8, i9, i10, i11, i12, i13, i14, i15, i16, i17, i18⟩
        obtain ⟨a316, c316, g13_⟩ := i13 (hD 13 rfl)
        obtain bx23 := i16 (hD 15 rfl) a316 c316 g13_
        obtain h316 := i18 (hD 13 rfl) a316 c316 g13_
        have h20 := h20.mv im (nor (tgN (by decide)) (tgN (by decide))) (nor (tg0 hN) (tg0 hN))
        have h199 := h199.mv im (nor (tgN (by decide)) (tgN (by decide))) (nor (tg0 hN) (tg0 hN))
        have h16 := h16.mono (im.le (nor (tg0 hN) (tg0 hN)))
        have bx10 := bx10.mv im (nor (tgN (by decide)) (tgN (by decide)))
        have bx7 := bx7.mv im (nor (tgN (by decide)) (tgN (by decide)))
        have h1 := h1.mono (im.le (nor (tg0 hN) (tg0 hN)))
        have h2 := h2.mono (im.le (nor (tg0 hN) (tg0 hN)))
        have h3 := h3.mono (im.le (nor (tg0 hN) (tg0 hN)))
        have m0 := m0.trans (im.weak fun _ e => by rcases e with e | e; (rw [e]; exact up); (rw [e]; exact up))
        refine X.sub (e' := [(6, .int .i64 st263.1), (5, .int .i64 st188.1), (4, .pointer (some ⟨b23, 0, none⟩)), (3, .slice a16 r13.length c16), (2, .pointer (some ⟨b10, 0, none⟩)), (1, .pointer (some ⟨b7, 0, none⟩))]) ?_ (Sub.cons (ib 6 _ rfl) (Sub.cons (ib 5 _ rfl) (Sub.cons (ib 4 _ rfl) (Sub.cons (ib 3 _ rfl) (Sub.cons (ib 2 _ rfl) (Sub.cons (ib 1 _ rfl) Sub.nil))))))
        exact X.blkN (X.sub (Jj272 _ _ ⟨s323, x315, a316, c316, hm, m0, h16, h1, h2, h3, h20, h199, h316, bx7, bx10, bx23, rfl, rfl⟩) (Sub.rf rfl))
      ·exact E.cF rfl hc (E.skip (X.blkN (X.sub (Jj272 _ _ ⟨s292, st263.2, a204, c204, hm, m0, h16, h1, h2, h3, h20, h199, h204, bx7, bx10, bx23, rfl, rfl⟩) (Sub.rf rfl))))
   ·refine E.cF rfl hc (E.exit (X.seqX (X.seqX ?_)))
    have hx := ho263 _ (Option.some.inj hm).symm
    subst hx
    exact X.sub (K268 _ _ ⟨s266, a204, c204, m0, h16, h1, h2, h3, h20, h199, h204, bx7, bx10, bx23, rfl, rfl⟩) (Sub.rf rfl)
  ·intro Jj201
   refine E.seq ?_
   obtain ⟨x329, ex329, hm⟩ := bindS hm
   obtain ⟨r333, er333, hm⟩ := bindS hm
   refine E.draw [[], [0], [], [], [2, 3], [2, 3, 4], [0, 1, 2, 3, 4, 5]] (fun D e sx => Mv No s193 sx ∧ Sub [(5, .int .i64 st188.1), (4, .pointer (some ⟨b23, 0, none⟩)), (3, .slice a16 r13.length c16), (2, .pointer (some ⟨b10, 0, none⟩)), (1, .pointer (some ⟨b7, 0, none⟩))] e ∧ (D 0 = true → (Env.get e 22 = some (.pointer (some ⟨b7, 2, none⟩)))) ∧ (D 1 = true → (Env.get e 23 = some (.slice a2 p0.2.2.1.length c2))) ∧ (D 2 = true → (Env.get e 24 = some (.slice a16 r13.length c16))) ∧ (D 3 = true → (Env.get e 25 = some (.int .i64 st188.1))) ∧ (D 4 = true → (∃ (b330 : Nat) (o330 : Nat), Env.get e 26 = some (.pointer (some ⟨b330, o330, none⟩)) ∧ Mem sx 0 b330 o330 [.int .i64 x329])) ∧ (D 5 = true → (Env.get e 27 = some (.int .i64 x329))) ∧ (D 6 = true → (Env.get e 28 = some (.bool r333)))) (by kernel_rfl) (by kernel_rfl) (by kernel_rfl) ?_ ?_ ?_
   ·intro sz mz
    exact ⟨mz, (Sub.rf rfl), nofun, nofun, nofun, nofun, nofun, nofun, nofun⟩
   ·refine ⟨?_, ?_, ?_, ?_, ?_, ?_, ?_, trivial⟩
    ·rintro D e s324 ⟨im, ib, i0, t_⟩ hk hf ha
     have kn : Kn e [(1, .pointer (some ⟨b7, 0, none⟩))] := ⟨(ib 1 _ rfl), trivial⟩
     exact L.kns _ kn (L.fa fa26_2 Wt.no rfl rfl (L.nil (X.dk kn ⟨im, Sub.fresh ib rfl, fun _ => rfl, t_⟩)))
    ·rintro D e s325 ⟨im, ib, i0, i1, t_⟩ hk hf ha
     obtain ⟨d0, -⟩ := ha
     have g0_ := i0 d0
     have bx7 := bx7.mv im no_No
     have kn : Kn e [(22, .pointer (some ⟨b7, 2, none⟩))] := ⟨g0_, trivial⟩
     exact L.kns _ kn (L.ld (j := 2) bx7.mem nag23 Wt.no rfl rfl rfl rfl (L.nil (X.dk kn ⟨im, Sub.fresh ib rfl, i0, fun _ => rfl, t_⟩)))
    ·rintro D e s326 ⟨im, ib, i0, i1, i2, t_⟩ hk hf ha
     have kn : Kn e [(3, .slice a16 r13.length c16)] := ⟨(ib 3 _ rfl), trivial⟩
     exact L.kns _ kn (L.mv Wt.no rfl rfl (L.nil (X.dk kn ⟨im, Sub.fresh ib rfl, i0, i1, fun _ => rfl, t_⟩)))
    ·rintro D e s327 ⟨im, ib, i0, i1, i2, i3, t_⟩ hk hf ha
     have kn : Kn e [(5, .int .i64 st188.1)] := ⟨(ib 5 _ rfl), trivial⟩
     exact L.kns _ kn (L.mv Wt.no rfl rfl (L.nil (X.dk kn ⟨im, Sub.fresh ib rfl, i0, i1, i2, fun _ => rfl, t_⟩)))
    ·rintro D e s328 ⟨im, ib, i0, i1, i2, i3, i4, t_⟩ hk hf ha
     obtain ⟨d2, d3, -⟩ := ha
     have g2_ := i2 d2
     have g3_ := i3 d3
     have h16 := h16.mono (im.le no_No)
     have kn : Kn e [(24, .slice a16 r13.length c16), (25, .int .i64 st188.1)] := ⟨g2_, g3_, trivial⟩
     refine L.kns _ kn (L.ix (r := (rK .i64)) sl23 h16 Wt.no rfl rfl ex329 rfl fun b330 o330 cc330 me330 rd330 => ?_)
     obtain rfl := rd330
     exact L.nil (X.dk kn ⟨im, Sub.fresh ib rfl, i0, i1, i2, i3, fun _ => ⟨b330, o330, rfl, me330⟩, t_⟩)
    ·rintro D e s331 ⟨im, ib, i0, i1, i2, i3, i4, i5, i6⟩ hk hf ha
     obtain ⟨d2, d3, d4, -⟩ := ha
     obtain ⟨b330, o330, g4_, me330⟩ := i4 d4
     have kn : Kn e [(26, .pointer (some ⟨b330, o330, none⟩))] := ⟨g4_, trivial⟩
     exact L.kns _ kn (L.ld (j := 0) me330 nag3 Wt.no rfl rfl rfl rfl (L.nil (X.dk kn ⟨im, Sub.fresh ib rfl, i0, i1, i2, i3, i4, fun _ => rfl, i6⟩)))
    ·rintro D e s332 ⟨im, ib, i0, i1, i2, i3, i4, i5, i6⟩ hk hf ha
     obtain ⟨d0, d1, d2, d3, d4, d5, -⟩ := ha
     have g1_ := i1 d1
     have g5_ := i5 d5
     have h2 := h2.mono (im.le no_No)
     have kn : Kn e [(23, .slice a2 p0.2.2.1.length c2), (27, .int .i64 x329)] := ⟨g1_, g5_, trivial⟩
     refine L.kns _ kn (L.ca cf81 rfl rfl Wt.no rfl (m_overseerref03_has_c (s := s332) (p0 := p0.2.2.1) (p1 := x329) h2 er333) rfl ?_)
     rintro _ s334 m335 rfl
     exact L.nil (X.dk kn ⟨im.trans m335.no, Sub.fresh ib rfl, i0, i1, i2, i3, fun z => let ⟨b330, o330, q, me330⟩ := i4 z; ⟨b330, o330, q, (me330.mv m335 no_No)⟩, i5, fun _ => rfl⟩)
   ·rintro D e s336 hD ⟨im, ib, i0, i1, i2, i3, i4, i5, i6⟩
    have g6_ := i6 (hD 6 rfl)
    have bx23 := bx23.mv im no_No
    have h20 := h20.mv im no_No no_No
    have h32 := h32.mv im no_No no_No
    have h34 := h34.mv im no_No no_No
    have h16 := h16.mono (im.le no_No)
    have bx10 := bx10.mv im no_No
    have bx7 := bx7.mv im no_No
    have h1 := h1.mono (im.le no_No)
    have h2 := h2.mono (im.le no_No)
    have h3 := h3.mono (im.le no_No)
    have m0 := m0.trans im.no
    refine X.sub (e' := [(28, .bool r333), (5, .int .i64 st188.1), (4, .pointer (some ⟨b23, 0, none⟩)), (3, .slice a16 r13.length c16), (2, .pointer (some ⟨b10, 0, none⟩)), (1, .pointer (some ⟨b7, 0, none⟩))]) ?_ (Sub.cons g6_ (Sub.cons (ib 5 _ rfl) (Sub.cons (ib 4 _ rfl) (Sub.cons (ib 3 _ rfl) (Sub.cons (ib 2 _ rfl) (Sub.cons (ib 1 _ rfl) Sub.nil))))))
    refine X.seqN ?_
    rcases ifS hm with ⟨hc, hm⟩ | ⟨hc, hm⟩
    ·refine E.cT rfl hc (E.reg (L.fa fa26_2 Wt.no rfl rfl (L.ld (j := 2) bx23.mem nag23 Wt.no rfl rfl rfl rfl (L.mv Wt.no rfl rfl (L.bsE (k := 1) (cs := [.int .i64 st188.1]) 0 bs23 (Nat.le_of_ble_eq_true rfl) Wt.no rfl rfl rfl rfl fun b337 s338 m339 bx337 => ?_)))))
     replace m0 := m0.trans m339.no
     replace h16 := h16.mono (m339.le no_No)
     replace h32 := h32.mv m339 no_No no_No
     replace bx7 := bx7.mv m339 no_No
     replace h1 := h1.mono (m339.le no_No)
     replace h2 := h2.mono (m339.le no_No)
     replace h3 := h3.mono (m339.le no_No)
     replace bx10 := bx10.mv m339 no_No
     replace bx23 := bx23.mv m339 no_No
     replace h20 := h20.mv m339 no_No no_No
     replace h34 := h34.mv m339 no_No no_No
     have h337 := Bx.rdL (r := (rK .i64)) (xs := ([st188.1] : List Int)) bx337 ⟨[.int .i64 st188.1], _, rfl, rfl, rfl⟩ (Nat.le_of_ble_eq_true rfl)
     obtain ⟨x340, ex340, hm⟩ := bindS hm
     refine L.ap (r := (rK .i64)) Try.underlying23 el3 rfl (tgp hN) h32 h337.wk Wt.no rfl rfl ex340 rfl fun a341 c341 s342 m343 h341 => ?_
     replace m0 := m0.trans (m343.one up)
     replace h16 := h16.mono (m343.le (tg0 hN))
     replace bx7 := bx7.mv m343 (tgN (by decide))
     replace h1 := h1.mono (m343.le (tg0 hN))
     replace h2 := h2.mono (m343.le (tg0 hN))
     replace h3 := h3.mono (m343.le (tg0 hN))
     replace bx10 := bx10.mv m343 (tgN (by decide))
     replace bx23 := bx23.mv m343 (tgN (by decide))
     replace h20 := h20.mv m343 (tgN (by decide)) (tg0 hN)
     replace h34 := h34.mv m343 (tgN (by decide)) (tg0 hN)
     refine L.fa fa26_2 Wt.no rfl rfl (L.st (c := [.slice a341 x340.length c341]) (cs' := #[.slice a20 r17.1.length c20, .int .i64 (r13.length : Int), .slice a341 x340.length c341, .slice a34 st188.2.2.length c34]) bx23 nag23.sz Wt.no rfl rfl rfl rfl rfl (Nat.le_of_ble_eq_true rfl) rfl fun s344 m345 bx23 => ?_)
     replace m0 := m0.trans (m345.one up)
     replace h16 := h16.mono (m345.le (tg0 hN))
     replace bx7 := bx7.mv m345 (tgN (by decide))
     replace h1 := h1.mono (m345.le (tg0 hN))
     replace h2 := h2.mono (m345.le (tg0 hN))
     replace h3 := h3.mono (m345.le (tg0 hN))
     replace bx10 := bx10.mv m345 (tgN (by decide))
     replace h20 := h20.mv m345 (tgN (by decide)) (tg0 hN)
     replace h341 := h341.mv m345 (tgN (by decide)) (tg0 hN)
     replace h34 := h34.mv m345 (tgN (by decide)) (tg0 hN)
     exact L.nil (X.sub (Jj201 _ _ ⟨s344, x340, a341, c341, hm, m0, h16, h1, h2, h3, h20, h341, h34, bx7, bx10, bx23, rfl, rfl⟩) (Sub.rf rfl))
    ·exact E.cF rfl hc (E.skip (X.sub (Jj201 _ _ ⟨s336, st188.2.1, a32, c32, hm, m0, h16, h1, h2, h3, h20, h32, h34, bx7, bx10, bx23, rfl, rfl⟩) (Sub.rf rfl)))
 ·refine E.cF rfl hc (E.exit (X.seqX (X.seqX ?_)))
  have hx := ho188 _ (Option.some.inj hm).symm
  subst hx
  exact X.sub (K197 _ _ ⟨s193, a32, c32, a34, c34, m0, h20, h32, h34, bx10, bx23, rfl, rfl⟩) (Sub.rf rfl)

theorem cf71 : Cf Try.prog 71 := Cf.mk Try.func71 (by kernel_rfl) (by kernel_rfl)
theorem fa49_0 : FA Try.prog 49 0 0 := FA.mk Try.underlying49 rfl rfl ⟨1, by decide, by kernel_rfl⟩
theorem fa49_1 : FA Try.prog 49 1 1 := FA.mk Try.underlying49 rfl rfl ⟨1, by decide, by kernel_rfl⟩
theorem fa49_2 : FA Try.prog 49 2 2 := FA.mk Try.underlying49 rfl rfl ⟨25, by decide, by kernel_rfl⟩
theorem ia46 : IA Try.prog 46 5 1 := IA.mk Try.underlying46 (by kernel_rfl)
theorem ia47 : IA Try.prog 47 5 5 := IA.mk Try.underlying47 (by kernel_rfl)
theorem nag5 : NAg Try.prog 5 := NAg.mk' Try.underlying5 rfl (by kernel_rfl)
noncomputable def m_overseerlaw03_Make_j2 (st240 : Int × (List (Int × Int × Int))) (l247 : List (Int × Int × Int)) : Option ((Int × (List (Int × Int × Int))) ⊕ (List (Int × Int × Int))) :=
  some (.inl (W (st240.1 + 1), l247))
noncomputable def m_overseerlaw03_Make_l2 (p0 : List Int) (p1 : Int × Int × ((Int × Int × Int × Int × Int) × (Int × Int × Int × Int × Int) × (Int × Int × Int × Int × Int) × (Int × Int × Int × Int × Int) × (Int × Int × Int × Int × Int))) (st164 : Int × List Int × (List (Int × Int × Int))) (st240 : Int × (List (Int × Int × Int))) : Option ((Int × (List (Int × Int × Int))) ⊕ (List (Int × Int × Int))) :=
  if ((decide (st240.1 < (p0.length : Int))) && (decide (st240.1 < 5))) then
    (rng st164.1 5).bind fun _ =>
    (rng st240.1 5).bind fun _ =>
    (([p1.2.2.1.1, p1.2.2.1.2.1, p1.2.2.1.2.2.1, p1.2.2.1.2.2.2.1, p1.2.2.1.2.2.2.2, p1.2.2.2.1.1, p1.2.2.2.1.2.1, p1.2.2.2.1.2.2.1, p1.2.2.2.1.2.2.2.1, p1.2.2.2.1.2.2.2.2, p1.2.2.2.2.1.1, p1.2.2.2.2.1.2.1, p1.2.2.2.2.1.2.2.1, p1.2.2.2.2.1.2.2.2.1, p1.2.2.2.2.1.2.2.2.2, p1.2.2.2.2.2.1.1, p1.2.2.2.2.2.1.2.1, p1.2.2.2.2.2.1.2.2.1, p1.2.2.2.2.2.1.2.2.2.1, p1.2.2.2.2.2.1.2.2.2.2, p1.2.2.2.2.2.2.1, p1.2.2.2.2.2.2.2.1, p1.2.2.2.2.2.2.2.2.1, p1.2.2.2.2.2.2.2.2.2.1, p1.2.2.2.2.2.2.2.2.2.2] : List Int)[st164.1.toNat * 5 + st240.1.toNat * 1]?).bind fun x259 =>
    (nz (W ((W (1 + (W (p1.1.tmod 5)))) + 2))).bind fun _ =>
    if decide (((W x259).tmod (W ((W (1 + (W (p1.1.tmod 5)))) + 2))) < (W (1 + (W (p1.1.tmod 5))))) then
      (idx p0 st240.1).bind fun x274 =>
      (app st240.2 ([(st164.1, x274, ((W x259).tmod (W ((W (1 + (W (p1.1.tmod 5)))) + 2))))] : List (Int × Int × Int))).bind fun x284 =>
      m_overseerlaw03_Make_j2 st240 x284
    else
      m_overseerlaw03_Make_j2 st240 st240.2
  else
    some (.inr st240.2)
noncomputable def m_overseerlaw03_Make_j1 (p0 : List Int) (p1 : Int × Int × ((Int × Int × Int × Int × Int) × (Int × Int × Int × Int × Int) × (Int × Int × Int × Int × Int) × (Int × Int × Int × Int × Int) × (Int × Int × Int × Int × Int))) (st164 : Int × List Int × (List (Int × Int × Int))) (l182 : List Int) : Option ((Int × List Int × (List (Int × Int × Int))) ⊕ (List Int × (List (Int × Int × Int)))) :=
  (iter (m_overseerlaw03_Make_l2 p0 p1 st164) (0, st164.2.2)).bind fun o240 =>
  some (.inl (W (st164.1 + 1), l182, o240))
noncomputable def m_overseerlaw03_Make_l1 (p0 : List Int) (p1 : Int × Int × ((Int × Int × Int × Int × Int) × (Int × Int × Int × Int × Int) × (Int × Int × Int × Int × Int) × (Int × Int × Int × Int × Int) × (Int × Int × Int × Int × Int))) (st164 : Int × List Int × (List (Int × Int × Int))) : Option ((Int × List Int × (List (Int × Int × Int))) ⊕ (List Int × (List (Int × Int × Int)))) :=
  if decide (st164.1 < (W (1 + (W (p1.1.tmod 5))))) then
    (ng st164.1).bind fun _ =>
    if ((IntKind.u8.wrap (((BitVec.ofInt 8 (p1.2.1.fdiv (2 ^ (min st164.1.toNat 8))) &&& BitVec.ofInt 8 1).toNat : Int))) == 1) then
      (app st164.2.1 ([st164.1] : List Int)).bind fun x298 =>
      m_overseerlaw03_Make_j1 p0 p1 st164 x298
    else
      m_overseerlaw03_Make_j1 p0 p1 st164 st164.2.1
  else
    some (.inr st164.2)
/-- What overseerlaw03.Make computes. -/
noncomputable def m_overseerlaw03_Make (p0 : List Int) (p1 : Int × Int × ((Int × Int × Int × Int × Int) × (Int × Int × Int × Int × Int) × (Int × Int × Int × Int × Int) × (Int × Int × Int × Int × Int) × (Int × Int × Int × Int × Int))) : Option (List Int × Int × List Int × (List (Int × Int × Int))) :=
  if decide (p1.1 ≥ 250) then
    (m_overseerref03_Empty p0).bind fun r11 =>
    some r11
  else
    (m_overseerref03_Empty p0).bind fun r19 =>
    (iter (m_overseerlaw03_Make_l1 p0 p1) (0, r19.2.2)).bind fun o164 =>
    (m_overseerref03_Canonical (r19.1, W (1 + (W (p1.1.tmod 5))), o164)).bind fun r173 =>
    some r173
set_option maxRecDepth 100000 in
set_option maxHeartbeats 8000000 in
theorem m_overseerlaw03_Make_c {s : Sig} {p0 : List Int} {p1 : Int × Int × ((Int × Int × Int × Int × Int) × (Int × Int × Int × Int × Int) × (Int × Int × Int × Int × Int) × (Int × Int × Int × Int × Int) × (Int × Int × Int × Int × Int))} {a1 : Option Addr} {c1 : Nat} {u0 : Nat} {u1 : Nat} {u2 : Nat} {r : (List Int × Int × List Int × (List (Int × Int × Int)))} (h1 : RdL (rK .i64) s a1 c1 p0) (hm : m_overseerlaw03_Make p0 p1 = some r) :
    Calls Try.prog 46 #[.slice a1 p0.length c1, .agg #[.int .u8 p1.1, .int .u8 p1.2.1, .int .u8 p1.2.2.1.1, .int .u8 p1.2.2.1.2.1, .int .u8 p1.2.2.1.2.2.1, .int .u8 p1.2.2.1.2.2.2.1, .int .u8 p1.2.2.1.2.2.2.2, .int .u8 p1.2.2.2.1.1, .int .u8 p1.2.2.2.1.2.1, .int .u8 p1.2.2.2.1.2.2.1, .int .u8 p1.2.2.2.1.2.2.2.1, .int .u8 p1.2.2.2.1.2.2.2.2, .int .u8 p1.2.2.2.2.1.1, .int .u8 p1.2.2.2.2.1.2.1, .int .u8 p1.2.2.2.2.1.2.2.1, .int .u8 p1.2.2.2.2.1.2.2.2.1, .int .u8 p1.2.2.2.2.1.2.2.2.2, .int .u8 p1.2.2.2.2.2.1.1, .int .u8 p1.2.2.2.2.2.1.2.1, .int .u8 p1.2.2.2.2.2.1.2.2.1, .int .u8 p1.2.2.2.2.2.1.2.2.2.1, .int .u8 p1.2.2.2.2.2.1.2.2.2.2, .int .u8 p1.2.2.2.2.2.2.1, .int .u8 p1.2.2.2.2.2.2.2.1, .int .u8 p1.2.2.2.2.2.2.2.2.1, .int .u8 p1.2.2.2.2.2.2.2.2.2.1, .int .u8 p1.2.2.2.2.2.2.2.2.2.2]] s.w (RetS No s fun v s' => ∃ (a2 : Option Addr) (c2 : Nat) (a3 : Option Addr) (c3 : Nat) (a4 : Option Addr) (c4 : Nat), v = .agg #[.slice a2 r.1.length c2, .int .i64 r.2.1, .slice a3 r.2.2.1.length c3, .slice a4 r.2.2.2.length c4] ∧ RowT (rK .i64) s' u0 3 a2 c2 r.1 ∧ RowT (rK .i64) s' u1 3 a3 c3 r.2.2.1 ∧ RowT (rP (rK .i64) (rP (rK .i64) (rK .i64))) s' u2 28 a4 c4 r.2.2.2) := by
 unfold m_overseerlaw03_Make at hm
 obtain ⟨N, hN, hNb⟩ := s.fresh
 have m0 : Mv (Up N No) s s := Mv.refl _ _
 refine E.entry Try.func46 rfl Try.ntmps46 rfl rfl (E.seq (E.reg (L.box (N + 0) Wt.no rfl rfl rfl fun b5 s6 m7 bx5 => ?_)))
 replace m0 := m0.trans m7.no
 replace h1 := h1.mono (m7.le no_No)
 refine L.al (N + 1) zz26 rfl Wt.no rfl fun b8 s9 m10 bx8 => ?_
 replace m0 := m0.trans m10.no
 replace h1 := h1.mono (m10.le no_No)
 replace bx5 := bx5.mv m10 no_No
 refine L.nil (X.seqN (E.seq (E.seq (E.reg (L.fa fa49_0 Wt.no rfl rfl (L.ld (j := 0) bx5.mem nag5 Wt.no rfl rfl rfl rfl (L.bi Wt.no rfl rfl rfl rfl (L.nil (X.seqN ?_)))))))))
 rcases ifS hm with ⟨hc, hm⟩ | ⟨hc, hm⟩
 ·refine E.cT rfl hc (E.seq (E.reg (L.mv Wt.no rfl rfl ?_)))
  obtain ⟨r11, er11, hm⟩ := bindS hm
  refine L.ca cf70 rfl rfl Wt.no rfl (m_overseerref03_Empty_c (s := s9) (p0 := p0) (u0 := (N + 2)) (u1 := (N + 3)) (u2 := (N + 4)) h1 er11) rfl ?_
  rintro _ s12 m13 ⟨a14, c14, a15, c15, a16, c16, rfl, h14, h15, h16⟩
  replace m0 := m0.trans m13.no
  replace bx8 := bx8.mv m13 no_No
  refine L.st (c := [.slice a14 r11.1.length c14, .int .i64 r11.2.1, .slice a15 r11.2.2.1.length c15, .slice a16 r11.2.2.2.length c16]) (cs' := #[.slice a14 r11.1.length c14, .int .i64 r11.2.1, .slice a15 r11.2.2.1.length c15, .slice a16 r11.2.2.2.length c16]) bx8 ag26.sz Wt.no rfl rfl rfl rfl rfl (Nat.le_of_ble_eq_true rfl) rfl fun s17 m18 bx8 => ?_
  replace m0 := m0.trans (m18.one up)
  replace h14 := h14.mv m18 (tgN (by decide)) (tg0 hN)
  replace h15 := h15.mv m18 (tgN (by decide)) (tg0 hN)
  replace h16 := h16.mv m18 (tgN (by decide)) (tg0 hN)
  refine L.nil (X.seqN (E.ret (X.seqR ?_)))
  obtain rfl := Option.some.inj hm
  exact X.rt (.inl rfl) Try.results46 (Rs.cell rfl bx8 ag26 rfl Rs.nil) rfl ⟨_, (s17).ren N (fun k => cond (Nat.beq k 4) u2 (cond (Nat.beq k 3) u1 (cond (Nat.beq k 2) u0 (0)))), rfl, rfl, m0.ren hNb, ⟨a14, c14, a15, c15, a16, c16, rfl, (h14.ren hN), (h15.ren hN), (h16.ren hN)⟩⟩
 ·refine E.cF rfl hc (E.skip (X.seqN (E.seq (E.reg (L.mv Wt.no rfl rfl ?_)))))
  obtain ⟨r19, er19, hm⟩ := bindS hm
  refine L.ca cf70 rfl rfl Wt.no rfl (m_overseerref03_Empty_c (s := s9) (p0 := p0) (u0 := 0) (u1 := (N + 6)) (u2 := (N + 7)) h1 er19) rfl ?_
  rintro _ s20 m21 ⟨a22, c22, a23, c23, a24, c24, rfl, h22, h23, h24⟩
  replace h22 := h22.p
  replace m0 := m0.trans m21.no
  replace h1 := h1.mono (m21.le no_No)
  replace bx5 := bx5.mv m21 no_No
  replace bx8 := bx8.mv m21 no_No
  refine L.al (N + 5) zz26 rfl Wt.no rfl fun b25 s26 m27 bx25 => ?_
  replace m0 := m0.trans m27.no
  replace h1 := h1.mono (m27.le no_No)
  replace h22 := h22.mono (m27.le no_No)
  replace h23 := h23.mv m27 no_No no_No
  replace h24 := h24.mv m27 no_No no_No
  replace bx5 := bx5.mv m27 no_No
  replace bx8 := bx8.mv m27 no_No
  refine L.st (c := [.slice a22 r19.1.length c22, .int .i64 r19.2.1, .slice a23 r19.2.2.1.length c23, .slice a24 r19.2.2.2.length c24]) (cs' := #[.slice a22 r19.1.length c22, .int .i64 r19.2.1, .slice a23 r19.2.2.1.length c23, .slice a24 r19.2.2.2.length c24]) bx25 ag26.sz Wt.no rfl rfl rfl rfl rfl (Nat.le_of_ble_eq_true rfl) rfl fun s28 m29 bx25 => ?_
  replace m0 := m0.trans (m29.one up)
  replace h1 := h1.mono (m29.le (tg0 hN))
  replace bx5 := bx5.mv m29 (tgN (by decide))
  replace bx8 := bx8.mv m29 (tgN (by decide))
  replace h22 := h22.mono (m29.le (tg0 hN))
  replace h23 := h23.mv m29 (tgN (by decide)) (tg0 hN)
  replace h24 := h24.mv m29 (tgN (by decide)) (tg0 hN)
  refine L.nil (X.seqN (E.seq (E.reg (L.fa fa49_0 Wt.no rfl rfl (L.ld (j := 0) bx5.mem nag5 Wt.no rfl rfl rfl rfl (L.rem Wt.no rfl rfl (by decide) rfl (L.cv Try.underlying5 Try.underlying3 Wt.no rfl rfl (L.bi Wt.no rfl rfl rfl rfl (L.fa fa26_1 Wt.no rfl rfl (L.st (c := [.int .i64 (W (1 + (W (p1.1.tmod 5))))]) (cs' := #[.slice a22 r19.1.length c22, .int .i64 (W (1 + (W (p1.1.tmod 5)))), .slice a23 r19.2.2.1.length c23, .slice a24 r19.2.2.2.length c24]) bx25 nag3.sz Wt.no rfl rfl rfl rfl rfl (Nat.le_of_ble_eq_true rfl) rfl fun s30 m31 bx25 => ?_))))))))))
  replace m0 := m0.trans (m31.one up)
  replace h1 := h1.mono (m31.le (tg0 hN))
  replace bx5 := bx5.mv m31 (tgN (by decide))
  replace bx8 := bx8.mv m31 (tgN (by decide))
  replace h22 := h22.mono (m31.le (tg0 hN))
  replace h23 := h23.mv m31 (tgN (by decide)) (tg0 hN)
  replace h24 := h24.mv m31 (tgN (by decide)) (tg0 hN)
  refine L.nil (X.seqN (E.seq (E.seq (E.reg (L.as Wt.no rfl rfl (L.nil (X.seqN (E.block ?_))))))))
  obtain ⟨o164, eo164, hm⟩ := bindS hm
  refine E.cut (x := .exit 0) (fun e w => ∃ (s170 : Sig) (a166 : Option Addr) (c166 : Nat) (a168 : Option Addr) (c168 : Nat), Mv (Up N No) s s170 ∧ RdL (rK .i64) s170 a22 c22 r19.1 ∧ RowT (rK .i64) s170 (N + 6) 3 a166 c166 o164.1 ∧ RowT (rP (rK .i64) (rP (rK .i64) (rK .i64))) s170 (N + 7) 28 a168 c168 o164.2 ∧ Bx s170 (N + 1) b8 #[.slice none 0 0, .int .i64 0, .slice none 0 0, .slice none 0 0] 26 ∧ Bx s170 (N + 5) b25 #[.slice a22 r19.1.length c22, .int .i64 (W (1 + (W (p1.1.tmod 5)))), .slice a166 o164.1.length c166, .slice a168 o164.2.length c168] 26 ∧ e = [(5, .pointer (some ⟨b25, 0, none⟩)), (4, .pointer (some ⟨b8, 0, none⟩))] ∧ w = s170.w) ?_ ?_
  ·rintro _ _ ⟨s170, a166, c166, a168, c168, m0, h22, h166, h168, bx8, bx25, rfl, rfl⟩
   refine X.blkE (X.seqN (E.seq (E.reg (L.lg (j := 0) (cs := [.slice a22 r19.1.length c22, .int .i64 (W (1 + (W (p1.1.tmod 5)))), .slice a166 o164.1.length c166, .slice a168 o164.2.length c168]) bx25.mem ag26 Wt.no rfl rfl rfl rfl rfl ?_))))
   have m171 := Sig.fz_mv (N + 6) s170
   replace h166 := h166.fz (tgn hN)
   replace m0 := m0.trans (m171.one up)
   replace h22 := h22.mono (m171.le (tg0 hN))
   replace h168 := h168.mv m171 (tgN (by decide)) (tg0 hN)
   replace bx8 := bx8.mv m171 (tgN (by decide))
   refine L.toR (s' := (Sig.fz (N + 6) s170)) rfl ?_
   have m172 := Sig.fz_mv (N + 7) (Sig.fz (N + 6) s170)
   replace h168 := h168.fz (tgn hN)
   replace m0 := m0.trans (m172.one up)
   replace h22 := h22.mono (m172.le (tg0 hN))
   replace h166 := h166.mono (m172.le (tg0 hN))
   replace bx8 := bx8.mv m172 (tgN (by decide))
   refine L.toR (s' := (Sig.fz (N + 7) (Sig.fz (N + 6) s170))) rfl ?_
   obtain ⟨r173, er173, hm⟩ := bindS hm
   refine L.ca cf71 rfl rfl Wt.no rfl (m_overseerref03_Canonical_c (s := (Sig.fz (N + 7) (Sig.fz (N + 6) s170))) (p0 := (r19.1, W (1 + (W (p1.1.tmod 5))), o164)) (u0 := (N + 8)) (u1 := (N + 9)) (u2 := (N + 10)) h22 h166 h168 er173) rfl ?_
   rintro _ s174 m175 ⟨a176, c176, a177, c177, a178, c178, rfl, h176, h177, h178⟩
   replace m0 := m0.trans m175.no
   replace bx8 := bx8.mv m175 no_No
   refine L.st (c := [.slice a176 r173.1.length c176, .int .i64 r173.2.1, .slice a177 r173.2.2.1.length c177, .slice a178 r173.2.2.2.length c178]) (cs' := #[.slice a176 r173.1.length c176, .int .i64 r173.2.1, .slice a177 r173.2.2.1.length c177, .slice a178 r173.2.2.2.length c178]) bx8 ag26.sz Wt.no rfl rfl rfl rfl rfl (Nat.le_of_ble_eq_true rfl) rfl fun s179 m180 bx8 => ?_
   replace m0 := m0.trans (m180.one up)
   replace h176 := h176.mv m180 (tgN (by decide)) (tg0 hN)
   replace h177 := h177.mv m180 (tgN (by decide)) (tg0 hN)
   replace h178 := h178.mv m180 (tgN (by decide)) (tg0 hN)
   refine L.nil (X.seqN (E.ret ?_))
   obtain rfl := Option.some.inj hm
   exact X.rt (.inl rfl) Try.results46 (Rs.cell rfl bx8 ag26 rfl Rs.nil) rfl ⟨_, (s179).ren N (fun k => cond (Nat.beq k 10) u2 (cond (Nat.beq k 9) u1 (cond (Nat.beq k 8) u0 (0)))), rfl, rfl, m0.ren hNb, ⟨a176, c176, a177, c177, a178, c178, rfl, (h176.ren hN), (h177.ren hN), (h178.ren hN)⟩⟩
  intro K181
  refine E.iter (fun (st164 : Int × List Int × (List (Int × Int × Int))) (e : List (Nat × Value)) (w : World) => ∃ (s169 : Sig) (a34 : Option Addr) (c34 : Nat) (a36 : Option Addr) (c36 : Nat), Mv (Up N No) s s169 ∧ RdL (rK .i64) s169 a1 c1 p0 ∧ RdL (rK .i64) s169 a22 c22 r19.1 ∧ RowT (rK .i64) s169 (N + 6) 3 a34 c34 st164.2.1 ∧ RowT (rP (rK .i64) (rP (rK .i64) (rK .i64))) s169 (N + 7) 28 a36 c36 st164.2.2 ∧ Bx s169 (N + 0) b5 #[.int .u8 p1.1, .int .u8 p1.2.1, .int .u8 p1.2.2.1.1, .int .u8 p1.2.2.1.2.1, .int .u8 p1.2.2.1.2.2.1, .int .u8 p1.2.2.1.2.2.2.1, .int .u8 p1.2.2.1.2.2.2.2, .int .u8 p1.2.2.2.1.1, .int .u8 p1.2.2.2.1.2.1, .int .u8 p1.2.2.2.1.2.2.1, .int .u8 p1.2.2.2.1.2.2.2.1, .int .u8 p1.2.2.2.1.2.2.2.2, .int .u8 p1.2.2.2.2.1.1, .int .u8 p1.2.2.2.2.1.2.1, .int .u8 p1.2.2.2.2.1.2.2.1, .int .u8 p1.2.2.2.2.1.2.2.2.1, .int .u8 p1.2.2.2.2.1.2.2.2.2, .int .u8 p1.2.2.2.2.2.1.1, .int .u8 p1.2.2.2.2.2.1.2.1, .int .u8 p1.2.2.2.2.2.1.2.2.1, .int .u8 p1.2.2.2.2.2.1.2.2.2.1, .int .u8 p1.2.2.2.2.2.1.2.2.2.2, .int .u8 p1.2.2.2.2.2.2.1, .int .u8 p1.2.2.2.2.2.2.2.1, .int .u8 p1.2.2.2.2.2.2.2.2.1, .int .u8 p1.2.2.2.2.2.2.2.2.2.1, .int .u8 p1.2.2.2.2.2.2.2.2.2.2] 49 ∧ Bx s169 (N + 1) b8 #[.slice none 0 0, .int .i64 0, .slice none 0 0, .slice none 0 0] 26 ∧ Bx s169 (N + 5) b25 #[.slice a22 r19.1.length c22, .int .i64 (W (1 + (W (p1.1.tmod 5)))), .slice a34 st164.2.1.length c34, .slice a36 st164.2.2.length c36] 26 ∧ e = [(6, .int .i64 st164.1), (5, .pointer (some ⟨b25, 0, none⟩)), (4, .pointer (some ⟨b8, 0, none⟩)), (3, .pointer (some ⟨b5, 0, none⟩)), (0, .slice a1 p0.length c1)] ∧ w = s169.w) eo164 ⟨s30, a23, c23, a24, c24, m0, h1, h22, h23, h24, bx5, bx8, bx25, rfl, rfl⟩ (Sub.rf rfl) ?_
  rintro st164 res164 hm ih164 ho164 _ _ ⟨s169, a34, c34, a36, c36, m0, h1, h22, h34, h36, bx5, bx8, bx25, rfl, rfl⟩
  unfold m_overseerlaw03_Make_l1 at hm
  refine E.seq (E.seq (E.reg (L.mv Wt.no rfl rfl (L.fa fa26_1 Wt.no rfl rfl (L.ld (j := 1) bx25.mem nag3 Wt.no rfl rfl rfl rfl (L.bi Wt.no rfl rfl rfl rfl (L.nil (X.seqN ?_))))))))
  rcases ifS hm with ⟨hc, hm⟩ | ⟨hc, hm⟩
  ·refine E.cT rfl hc (E.skip (X.seqN (E.seq (E.block (E.seqJ (fun e w => ∃ (s184 : Sig) (l182 : List Int) (a183 : Option Addr) (c183 : Nat), m_overseerlaw03_Make_j1 p0 p1 st164 l182 = some res164 ∧ Mv (Up N No) s s184 ∧ RdL (rK .i64) s184 a1 c1 p0 ∧ RdL (rK .i64) s184 a22 c22 r19.1 ∧ RowT (rK .i64) s184 (N + 6) 3 a183 c183 l182 ∧ RowT (rP (rK .i64) (rP (rK .i64) (rK .i64))) s184 (N + 7) 28 a36 c36 st164.2.2 ∧ Bx s184 (N + 0) b5 #[.int .u8 p1.1, .int .u8 p1.2.1, .int .u8 p1.2.2.1.1, .int .u8 p1.2.2.1.2.1, .int .u8 p1.2.2.1.2.2.1, .int .u8 p1.2.2.1.2.2.2.1, .int .u8 p1.2.2.1.2.2.2.2, .int .u8 p1.2.2.2.1.1, .int .u8 p1.2.2.2.1.2.1, .int .u8 p1.2.2.2.1.2.2.1, .int .u8 p1.2.2.2.1.2.2.2.1, .int .u8 p1.2.2.2.1.2.2.2.2, .int .u8 p1.2.2.2.2.1.1, .int .u8 p1.2.2.2.2.1.2.1, .int .u8 p1.2.2.2.2.1.2.2.1, .int .u8 p1.2.2.2.2.1.2.2.2.1, .int .u8 p1.2.2.2.2.1.2.2.2.2, .int .u8 p1.2.2.2.2.2.1.1, .int .u8 p1.2.2.2.2.2.1.2.1, .int .u8 p1.2.2.2.2.2.1.2.2.1, .int .u8 p1.2.2.2.2.2.1.2.2.2.1, .int .u8 p1.2.2.2.2.2.1.2.2.2.2, .int .u8 p1.2.2.2.2.2.2.1, .int .u8 p1.2.2.2.2.2.2.2.1, .int .u8 p1.2.2.2.2.2.2.2.2.1, .int .u8 p1.2.2.2.2.2.2.2.2.2.1, .int .u8 p1.2.2.2.2.2.2.2.2.2.2] 49 ∧ Bx s184 (N + 1) b8 #[.slice none 0 0, .int .i64 0, .slice none 0 0, .slice none 0 0] 26 ∧ Bx s184 (N + 5) b25 #[.slice a22 r19.1.length c22, .int .i64 (W (1 + (W (p1.1.tmod 5)))), .slice a183 l182.length c183, .slice a36 st164.2.2.length c36] 26 ∧ e = [(6, .int .i64 st164.1), (5, .pointer (some ⟨b25, 0, none⟩)), (4, .pointer (some ⟨b8, 0, none⟩)), (3, .pointer (some ⟨b5, 0, none⟩)), (0, .slice a1 p0.length c1)] ∧ w = s184.w) ?_ ?_)))))
   ·rintro _ _ ⟨s184, l182, a183, c183, hm, m0, h1, h22, h183, h36, bx5, bx8, bx25, rfl, rfl⟩
    unfold m_overseerlaw03_Make_j1 at hm
    refine E.seq (E.reg (L.as Wt.no rfl rfl (L.nil (X.seqN (E.block ?_)))))
    obtain ⟨o240, eo240, hm⟩ := bindS hm
    refine E.cut (x := .exit 2) (fun e w => ∃ (s244 : Sig) (a242 : Option Addr) (c242 : Nat), Mv (Up N No) s s244 ∧ RdL (rK .i64) s244 a1 c1 p0 ∧ RdL (rK .i64) s244 a22 c22 r19.1 ∧ RowT (rK .i64) s244 (N + 6) 3 a183 c183 l182 ∧ RowT (rP (rK .i64) (rP (rK .i64) (rK .i64))) s244 (N + 7) 28 a242 c242 o240 ∧ Bx s244 (N + 0) b5 #[.int .u8 p1.1, .int .u8 p1.2.1, .int .u8 p1.2.2.1.1, .int .u8 p1.2.2.1.2.1, .int .u8 p1.2.2.1.2.2.1, .int .u8 p1.2.2.1.2.2.2.1, .int .u8 p1.2.2.1.2.2.2.2, .int .u8 p1.2.2.2.1.1, .int .u8 p1.2.2.2.1.2.1, .int .u8 p1.2.2.2.1.2.2.1, .int .u8 p1.2.2.2.1.2.2.2.1, .int .u8 p1.2.2.2.1.2.2.2.2, .int .u8 p1.2.2.2.2.1.1, .int .u8 p1.2.2.2.2.1.2.1, .int .u8 p1.2.2.2.2.1.2.2.1, .int .u8 p1.2.2.2.2.1.2.2.2.1, .int .u8 p1.2.2.2.2.1.2.2.2.2, .int .u8 p1.2.2.2.2.2.1.1, .int .u8 p1.2.2.2.2.2.1.2.1, .int .u8 p1.2.2.2.2.2.1.2.2.1, .int .u8 p1.2.2.2.2.2.1.2.2.2.1, .int .u8 p1.2.2.2.2.2.1.2.2.2.2, .int .u8 p1.2.2.2.2.2.2.1, .int .u8 p1.2.2.2.2.2.2.2.1, .int .u8 p1.2.2.2.2.2.2.2.2.1, .int .u8 p1.2.2.2.2.2.2.2.2.2.1, .int .u8 p1.2.2.2.2.2.2.2.2.2.2] 49 ∧ Bx s244 (N + 1) b8 #[.slice none 0 0, .int .i64 0, .slice none 0 0, .slice none 0 0] 26 ∧ Bx s244 (N + 5) b25 #[.slice a22 r19.1.length c22, .int .i64 (W (1 + (W (p1.1.tmod 5)))), .slice a183 l182.length c183, .slice a242 o240.length c242] 26 ∧ e = [(6, .int .i64 st164.1), (5, .pointer (some ⟨b25, 0, none⟩)), (4, .pointer (some ⟨b8, 0, none⟩)), (3, .pointer (some ⟨b5, 0, none⟩)), (0, .slice a1 p0.length c1)] ∧ w = s244.w) ?_ ?_
    ·rintro _ _ ⟨s244, a242, c242, m0, h1, h22, h183, h242, bx5, bx8, bx25, rfl, rfl⟩
     exact X.blkE (X.blkN (X.seqN (E.reg (L.mv Wt.no rfl rfl (L.bi Wt.no rfl rfl rfl rfl (L.as Wt.no rfl rfl (L.nil (X.sub (ih164 _ (Option.some.inj hm).symm _ _ ⟨s244, a183, c183, a242, c242, m0, h1, h22, h183, h242, bx5, bx8, bx25, rfl, rfl⟩) (Sub.rf rfl)))))))))
    intro K245
    refine E.iter (fun (st240 : Int × (List (Int × Int × Int))) (e : List (Nat × Value)) (w : World) => ∃ (s243 : Sig) (a188 : Option Addr) (c188 : Nat), Mv (Up N No) s s243 ∧ RdL (rK .i64) s243 a1 c1 p0 ∧ RdL (rK .i64) s243 a22 c22 r19.1 ∧ RowT (rK .i64) s243 (N + 6) 3 a183 c183 l182 ∧ RowT (rP (rK .i64) (rP (rK .i64) (rK .i64))) s243 (N + 7) 28 a188 c188 st240.2 ∧ Bx s243 (N + 0) b5 #[.int .u8 p1.1, .int .u8 p1.2.1, .int .u8 p1.2.2.1.1, .int .u8 p1.2.2.1.2.1, .int .u8 p1.2.2.1.2.2.1, .int .u8 p1.2.2.1.2.2.2.1, .int .u8 p1.2.2.1.2.2.2.2, .int .u8 p1.2.2.2.1.1, .int .u8 p1.2.2.2.1.2.1, .int .u8 p1.2.2.2.1.2.2.1, .int .u8 p1.2.2.2.1.2.2.2.1, .int .u8 p1.2.2.2.1.2.2.2.2, .int .u8 p1.2.2.2.2.1.1, .int .u8 p1.2.2.2.2.1.2.1, .int .u8 p1.2.2.2.2.1.2.2.1, .int .u8 p1.2.2.2.2.1.2.2.2.1, .int .u8 p1.2.2.2.2.1.2.2.2.2, .int .u8 p1.2.2.2.2.2.1.1, .int .u8 p1.2.2.2.2.2.1.2.1, .int .u8 p1.2.2.2.2.2.1.2.2.1, .int .u8 p1.2.2.2.2.2.1.2.2.2.1, .int .u8 p1.2.2.2.2.2.1.2.2.2.2, .int .u8 p1.2.2.2.2.2.2.1, .int .u8 p1.2.2.2.2.2.2.2.1, .int .u8 p1.2.2.2.2.2.2.2.2.1, .int .u8 p1.2.2.2.2.2.2.2.2.2.1, .int .u8 p1.2.2.2.2.2.2.2.2.2.2] 49 ∧ Bx s243 (N + 1) b8 #[.slice none 0 0, .int .i64 0, .slice none 0 0, .slice none 0 0] 26 ∧ Bx s243 (N + 5) b25 #[.slice a22 r19.1.length c22, .int .i64 (W (1 + (W (p1.1.tmod 5)))), .slice a183 l182.length c183, .slice a188 st240.2.length c188] 26 ∧ e = [(7, .int .i64 st240.1), (6, .int .i64 st164.1), (5, .pointer (some ⟨b25, 0, none⟩)), (4, .pointer (some ⟨b8, 0, none⟩)), (3, .pointer (some ⟨b5, 0, none⟩)), (0, .slice a1 p0.length c1)] ∧ w = s243.w) eo240 ⟨s184, a36, c36, m0, h1, h22, h183, h36, bx5, bx8, bx25, rfl, rfl⟩ (Sub.rf rfl) ?_
    rintro st240 res240 hm ih240 ho240 _ _ ⟨s243, a188, c188, m0, h1, h22, h183, h188, bx5, bx8, bx25, rfl, rfl⟩
    unfold m_overseerlaw03_Make_l2 at hm
    refine E.seq (E.seq (E.reg (L.mv Wt.no rfl rfl (L.mv Wt.no rfl rfl (L.len sl23 Wt.no rfl rfl (L.bi Wt.no rfl rfl rfl rfl (L.mv Wt.no rfl rfl (L.cut 3 (fun e w => ∃ (v246 : Bool), ((decide (st240.1 < (p0.length : Int))) && (decide (st240.1 < 5))) = v246 ∧ e = (47, .bool v246) :: [(7, .int .i64 st240.1), (6, .int .i64 st164.1), (5, .pointer (some ⟨b25, 0, none⟩)), (4, .pointer (some ⟨b8, 0, none⟩)), (3, .pointer (some ⟨b5, 0, none⟩)), (0, .slice a1 p0.length c1)] ∧ w = s243.w) ?_ ?_))))))))
    ·rintro _ _ ⟨v246, rfl, rfl, rfl⟩
     refine L.nil (X.seqN ?_)
     rcases ifS hm with ⟨hc, hm⟩ | ⟨hc, hm⟩
     ·refine E.cT rfl hc (E.skip (X.seqN (E.seqJ (fun e w => ∃ (s249 : Sig) (l247 : List (Int × Int × Int)) (a248 : Option Addr) (c248 : Nat), m_overseerlaw03_Make_j2 st240 l247 = some res240 ∧ Mv (Up N No) s s249 ∧ RdL (rK .i64) s249 a1 c1 p0 ∧ RdL (rK .i64) s249 a22 c22 r19.1 ∧ RowT (rK .i64) s249 (N + 6) 3 a183 c183 l182 ∧ RowT (rP (rK .i64) (rP (rK .i64) (rK .i64))) s249 (N + 7) 28 a248 c248 l247 ∧ Bx s249 (N + 0) b5 #[.int .u8 p1.1, .int .u8 p1.2.1, .int .u8 p1.2.2.1.1, .int .u8 p1.2.2.1.2.1, .int .u8 p1.2.2.1.2.2.1, .int .u8 p1.2.2.1.2.2.2.1, .int .u8 p1.2.2.1.2.2.2.2, .int .u8 p1.2.2.2.1.1, .int .u8 p1.2.2.2.1.2.1, .int .u8 p1.2.2.2.1.2.2.1, .int .u8 p1.2.2.2.1.2.2.2.1, .int .u8 p1.2.2.2.1.2.2.2.2, .int .u8 p1.2.2.2.2.1.1, .int .u8 p1.2.2.2.2.1.2.1, .int .u8 p1.2.2.2.2.1.2.2.1, .int .u8 p1.2.2.2.2.1.2.2.2.1, .int .u8 p1.2.2.2.2.1.2.2.2.2, .int .u8 p1.2.2.2.2.2.1.1, .int .u8 p1.2.2.2.2.2.1.2.1, .int .u8 p1.2.2.2.2.2.1.2.2.1, .int .u8 p1.2.2.2.2.2.1.2.2.2.1, .int .u8 p1.2.2.2.2.2.1.2.2.2.2, .int .u8 p1.2.2.2.2.2.2.1, .int .u8 p1.2.2.2.2.2.2.2.1, .int .u8 p1.2.2.2.2.2.2.2.2.1, .int .u8 p1.2.2.2.2.2.2.2.2.2.1, .int .u8 p1.2.2.2.2.2.2.2.2.2.2] 49 ∧ Bx s249 (N + 1) b8 #[.slice none 0 0, .int .i64 0, .slice none 0 0, .slice none 0 0] 26 ∧ Bx s249 (N + 5) b25 #[.slice a22 r19.1.length c22, .int .i64 (W (1 + (W (p1.1.tmod 5)))), .slice a183 l182.length c183, .slice a248 l247.length c248] 26 ∧ e = [(7, .int .i64 st240.1), (6, .int .i64 st164.1), (5, .pointer (some ⟨b25, 0, none⟩)), (4, .pointer (some ⟨b8, 0, none⟩)), (3, .pointer (some ⟨b5, 0, none⟩)), (0, .slice a1 p0.length c1)] ∧ w = s249.w) ?_ ?_)))
      ·rintro _ _ ⟨s249, l247, a248, c248, hm, m0, h1, h22, h183, h248, bx5, bx8, bx25, rfl, rfl⟩
       unfold m_overseerlaw03_Make_j2 at hm
       exact E.reg (L.mv Wt.no rfl rfl (L.bi Wt.no rfl rfl rfl rfl (L.as Wt.no rfl rfl (L.nil (X.sub (ih240 _ (Option.some.inj hm).symm _ _ ⟨s249, a248, c248, m0, h1, h22, h183, h248, bx5, bx8, bx25, rfl, rfl⟩) (Sub.rf rfl))))))
      ·intro Jj250
       refine E.block (E.seq ?_)
       obtain ⟨_, z255, hm⟩ := bindS hm
       obtain ⟨_, z257, hm⟩ := bindS hm
       obtain ⟨x259, ex259, hm⟩ := bindS hm
       obtain ⟨_, z265, hm⟩ := bindS hm
       refine E.draw [[], [], [], [0, 2], [0, 1, 2, 3], [0, 1, 2, 3, 4], [0, 1, 2, 3, 4, 5], [], [7], [7, 8], [0, 1, 2, 3, 4, 5, 6, 7, 8, 9], [0, 1, 2, 3, 4, 5, 6, 7, 8, 9, 10]] (fun D e sx => Mv No s243 sx ∧ Sub [(7, .int .i64 st240.1), (6, .int .i64 st164.1), (5, .pointer (some ⟨b25, 0, none⟩)), (4, .pointer (some ⟨b8, 0, none⟩)), (3, .pointer (some ⟨b5, 0, none⟩)), (0, .slice a1 p0.length c1)] e ∧ (D 0 = true → (Env.get e 50 = some (.int .i64 st164.1))) ∧ (D 1 = true → (Env.get e 51 = some (.int .i64 st240.1))) ∧ (D 2 = true → (Env.get e 52 = some (.pointer (some ⟨b5, 2, none⟩)))) ∧ (D 3 = true → (Env.get e 53 = some (.pointer (some ⟨b5, 2 + st164.1.toNat * 5, none⟩)))) ∧ (D 4 = true → (Env.get e 54 = some (.pointer (some ⟨b5, 2 + st164.1.toNat * 5 + st240.1.toNat * 1, none⟩)))) ∧ (D 5 = true → (Env.get e 55 = some (.int .u8 x259))) ∧ (D 6 = true → (Env.get e 56 = some (.int .i64 (W x259)))) ∧ (D 7 = true → (Env.get e 57 = some (.pointer (some ⟨b25, 1, none⟩)))) ∧ (D 8 = true → (Env.get e 58 = some (.int .i64 (W (1 + (W (p1.1.tmod 5))))))) ∧ (D 9 = true → (Env.get e 59 = some (.int .i64 (W ((W (1 + (W (p1.1.tmod 5)))) + 2))))) ∧ (D 10 = true → (Env.get e 60 = some (.int .i64 ((W x259).tmod (W ((W (1 + (W (p1.1.tmod 5)))) + 2)))))) ∧ (D 11 = true → (Env.get e 8 = some (.int .i64 ((W x259).tmod (W ((W (1 + (W (p1.1.tmod 5)))) + 2))))))) (by kernel_rfl) (by kernel_rfl) (by kernel_rfl) ?_ ?_ ?_
       ·intro sz mz
        exact ⟨mz, (Sub.rf rfl), nofun, nofun, nofun, nofun, nofun, nofun, nofun, nofun, nofun, nofun, nofun, nofun⟩
       ·refine ⟨?_, ?_, ?_, ?_, ?_, ?_, ?_, ?_, ?_, ?_, ?_, ?_, trivial⟩
        ·rintro D e s251 ⟨im, ib, i0, t_⟩ hk hf ha
         have kn : Kn e [(6, .int .i64 st164.1)] := ⟨(ib 6 _ rfl), trivial⟩
         exact L.kns _ kn (L.mv Wt.no rfl rfl (L.nil (X.dk kn ⟨im, Sub.fresh ib rfl, fun _ => rfl, t_⟩)))
        ·rintro D e s252 ⟨im, ib, i0, i1, t_⟩ hk hf ha
         have kn : Kn e [(7, .int .i64 st240.1)] := ⟨(ib 7 _ rfl), trivial⟩
         exact L.kns _ kn (L.mv Wt.no rfl rfl (L.nil (X.dk kn ⟨im, Sub.fresh ib rfl, i0, fun _ => rfl, t_⟩)))
        ·rintro D e s253 ⟨im, ib, i0, i1, i2, t_⟩ hk hf ha
         have kn : Kn e [(3, .pointer (some ⟨b5, 0, none⟩))] := ⟨(ib 3 _ rfl), trivial⟩
         exact L.kns _ kn (L.fa fa49_2 Wt.no rfl rfl (L.nil (X.dk kn ⟨im, Sub.fresh ib rfl, i0, i1, fun _ => rfl, t_⟩)))
        ·rintro D e s254 ⟨im, ib, i0, i1, i2, i3, t_⟩ hk hf ha
         obtain ⟨d0, d2, -⟩ := ha
         have g0_ := i0 d0
         have g2_ := i2 d2
         have kn : Kn e [(52, .pointer (some ⟨b5, 2, none⟩)), (50, .int .i64 st164.1)] := ⟨g2_, g0_, trivial⟩
         exact L.kns _ kn (L.ia ia47 Wt.no rfl rfl (rng_some z255) rfl (L.nil (X.dk kn ⟨im, Sub.fresh ib rfl, i0, i1, i2, fun _ => rfl, t_⟩)))
        ·rintro D e s256 ⟨im, ib, i0, i1, i2, i3, i4, t_⟩ hk hf ha
         obtain ⟨d0, d1, d2, d3, -⟩ := ha
         have g1_ := i1 d1
         have g3_ := i3 d3
         have kn : Kn e [(53, .pointer (some ⟨b5, 2 + st164.1.toNat * 5, none⟩)), (51, .int .i64 st240.1)] := ⟨g3_, g1_, trivial⟩
         exact L.kns _ kn (L.ia ia46 Wt.no rfl rfl (rng_some z257) rfl (L.nil (X.dk kn ⟨im, Sub.fresh ib rfl, i0, i1, i2, i3, fun _ => rfl, t_⟩)))
        ·rintro D e s258 ⟨im, ib, i0, i1, i2, i3, i4, i5, t_⟩ hk hf ha
         obtain ⟨d0, d1, d2, d3, d4, -⟩ := ha
         have g4_ := i4 d4
         have bx5 := bx5.mv im no_No
         have kn : Kn e [(54, .pointer (some ⟨b5, 2 + st164.1.toNat * 5 + st240.1.toNat * 1, none⟩))] := ⟨g4_, trivial⟩
         exact L.kns _ kn (L.ld (j := st164.1.toNat * 5 + st240.1.toNat * 1) (c := [.int .u8 p1.2.2.1.1, .int .u8 p1.2.2.1.2.1, .int .u8 p1.2.2.1.2.2.1, .int .u8 p1.2.2.1.2.2.2.1, .int .u8 p1.2.2.1.2.2.2.2, .int .u8 p1.2.2.2.1.1, .int .u8 p1.2.2.2.1.2.1, .int .u8 p1.2.2.2.1.2.2.1, .int .u8 p1.2.2.2.1.2.2.2.1, .int .u8 p1.2.2.2.1.2.2.2.2, .int .u8 p1.2.2.2.2.1.1, .int .u8 p1.2.2.2.2.1.2.1, .int .u8 p1.2.2.2.2.1.2.2.1, .int .u8 p1.2.2.2.2.1.2.2.2.1, .int .u8 p1.2.2.2.2.1.2.2.2.2, .int .u8 p1.2.2.2.2.2.1.1, .int .u8 p1.2.2.2.2.2.1.2.1, .int .u8 p1.2.2.2.2.2.1.2.2.1, .int .u8 p1.2.2.2.2.2.1.2.2.2.1, .int .u8 p1.2.2.2.2.2.1.2.2.2.2, .int .u8 p1.2.2.2.2.2.2.1, .int .u8 p1.2.2.2.2.2.2.2.1, .int .u8 p1.2.2.2.2.2.2.2.2.1, .int .u8 p1.2.2.2.2.2.2.2.2.2.1, .int .u8 p1.2.2.2.2.2.2.2.2.2.2]) (v := Value.int .u8 x259) (Mem.sub bx5.mem 2 25 (Nat.le_of_ble_eq_true rfl)) nag5 Wt.no rfl (by omega) (show [Value.int .u8 p1.2.2.1.1, Value.int .u8 p1.2.2.1.2.1, Value.int .u8 p1.2.2.1.2.2.1, Value.int .u8 p1.2.2.1.2.2.2.1, Value.int .u8 p1.2.2.1.2.2.2.2, Value.int .u8 p1.2.2.2.1.1, Value.int .u8 p1.2.2.2.1.2.1, Value.int .u8 p1.2.2.2.1.2.2.1, Value.int .u8 p1.2.2.2.1.2.2.2.1, Value.int .u8 p1.2.2.2.1.2.2.2.2, Value.int .u8 p1.2.2.2.2.1.1, Value.int .u8 p1.2.2.2.2.1.2.1, Value.int .u8 p1.2.2.2.2.1.2.2.1, Value.int .u8 p1.2.2.2.2.1.2.2.2.1, Value.int .u8 p1.2.2.2.2.1.2.2.2.2, Value.int .u8 p1.2.2.2.2.2.1.1, Value.int .u8 p1.2.2.2.2.2.1.2.1, Value.int .u8 p1.2.2.2.2.2.1.2.2.1, Value.int .u8 p1.2.2.2.2.2.1.2.2.2.1, Value.int .u8 p1.2.2.2.2.2.1.2.2.2.2, Value.int .u8 p1.2.2.2.2.2.2.1, Value.int .u8 p1.2.2.2.2.2.2.2.1, Value.int .u8 p1.2.2.2.2.2.2.2.2.1, Value.int .u8 p1.2.2.2.2.2.2.2.2.2.1, Value.int .u8 p1.2.2.2.2.2.2.2.2.2.2][st164.1.toNat * 5 + st240.1.toNat * 1]? = some (Value.int .u8 x259) from getMap (f := fun z => Value.int .u8 z) ex259) rfl (L.nil (X.dk kn ⟨im, Sub.fresh ib rfl, i0, i1, i2, i3, i4, fun _ => rfl, t_⟩)))
        ·rintro D e s260 ⟨im, ib, i0, i1, i2, i3, i4, i5, i6, t_⟩ hk hf ha
         obtain ⟨d0, d1, d2, d3, d4, d5, -⟩ := ha
         have g5_ := i5 d5
         have kn : Kn e [(55, .int .u8 x259)] := ⟨g5_, trivial⟩
         exact L.kns _ kn (L.cv Try.underlying5 Try.underlying3 Wt.no rfl rfl (L.nil (X.dk kn ⟨im, Sub.fresh ib rfl, i0, i1, i2, i3, i4, i5, fun _ => rfl, t_⟩)))
        ·rintro D e s261 ⟨im, ib, i0, i1, i2, i3, i4, i5, i6, i7, t_⟩ hk hf ha
         have kn : Kn e [(5, .pointer (some ⟨b25, 0, none⟩))] := ⟨(ib 5 _ rfl), trivial⟩
         exact L.kns _ kn (L.fa fa26_1 Wt.no rfl rfl (L.nil (X.dk kn ⟨im, Sub.fresh ib rfl, i0, i1, i2, i3, i4, i5, i6, fun _ => rfl, t_⟩)))
        ·rintro D e s262 ⟨im, ib, i0, i1, i2, i3, i4, i5, i6, i7, i8, t_⟩ hk hf ha
         obtain ⟨d7, -⟩ := ha
         have g7_ := i7 d7
         have bx25 := bx25.mv im no_No
         have kn : Kn e [(57, .pointer (some ⟨b25, 1, none⟩))] := ⟨g7_, trivial⟩
         exact L.kns _ kn (L.ld (j := 1) bx25.mem nag3 Wt.no rfl rfl rfl rfl (L.nil (X.dk kn ⟨im, Sub.fresh ib rfl, i0, i1, i2, i3, i4, i5, i6, i7, fun _ => rfl, t_⟩)))
        ·rintro D e s263 ⟨im, ib, i0, i1, i2, i3, i4, i5, i6, i7, i8, i9, t_⟩ hk hf ha
         obtain ⟨d7, d8, -⟩ := ha
         have g8_ := i8 d8
         have kn : Kn e [(58, .int .i64 (W (1 + (W (p1.1.tmod 5)))))] := ⟨g8_, trivial⟩
         exact L.kns _ kn (L.bi Wt.no rfl rfl rfl rfl (L.nil (X.dk kn ⟨im, Sub.fresh ib rfl, i0, i1, i2, i3, i4, i5, i6, i7, i8, fun _ => rfl, t_⟩)))
        ·rintro D e s264 ⟨im, ib, i0, i1, i2, i3, i4, i5, i6, i7, i8, i9, i10, i11⟩ hk hf ha
         obtain ⟨d0, d1, d2, d3, d4, d5, d6, d7, d8, d9, -⟩ := ha
         have g6_ := i6 d6
         have g9_ := i9 d9
         have kn : Kn e [(56, .int .i64 (W x259)), (59, .int .i64 (W ((W (1 + (W (p1.1.tmod 5)))) + 2)))] := ⟨g6_, g9_, trivial⟩
         exact L.kns _ kn (L.rem Wt.no rfl rfl (nz_some z265) rfl (L.nil (X.dk kn ⟨im, Sub.fresh ib rfl, i0, i1, i2, i3, i4, i5, i6, i7, i8, i9, fun _ => rfl, i11⟩)))
        ·rintro D e s266 ⟨im, ib, i0, i1, i2, i3, i4, i5, i6, i7, i8, i9, i10, i11⟩ hk hf ha
         obtain ⟨d0, d1, d2, d3, d4, d5, d6, d7, d8, d9, d10, -⟩ := ha
         have g10_ := i10 d10
         have kn : Kn e [(60, .int .i64 ((W x259).tmod (W ((W (1 + (W (p1.1.tmod 5)))) + 2))))] := ⟨g10_, trivial⟩
         exact L.kns _ kn (L.as Wt.no rfl rfl (L.nil (X.dk kn ⟨im, Sub.fresh ib rfl, i0, i1, i2, i3, i4, i5, i6, i7, i8, i9, i10, fun _ => rfl⟩)))
       ·rintro D e s267 hD ⟨im, ib, i0, i1, i2, i3, i4, i5, i6, i7, i8, i9, i10, i11⟩
        have g11_ := i11 (hD 11 rfl)
        have bx25 := bx25.mv im no_No
        have h22 := h22.mono (im.le no_No)
        have h183 := h183.mv im no_No no_No
        have h188 := h188.mv im no_No no_No
        have bx8 := bx8.mv im no_No
        have bx5 := bx5.mv im no_No
        have h1 := h1.mono (im.le no_No)
        have m0 := m0.trans im.no
        refine X.sub (e' := [(8, .int .i64 ((W x259).tmod (W ((W (1 + (W (p1.1.tmod 5)))) + 2)))), (7, .int .i64 st240.1), (6, .int .i64 st164.1), (5, .pointer (some ⟨b25, 0, none⟩)), (4, .pointer (some ⟨b8, 0, none⟩)), (3, .pointer (some ⟨b5, 0, none⟩)), (0, .slice a1 p0.length c1)]) ?_ (Sub.cons g11_ (Sub.cons (ib 7 _ rfl) (Sub.cons (ib 6 _ rfl) (Sub.cons (ib 5 _ rfl) (Sub.cons (ib 4 _ rfl) (Sub.cons (ib 3 _ rfl) (Sub.cons (ib 0 _ rfl) Sub.nil)))))))
        refine X.seqN (E.seq (E.reg (L.mv Wt.no rfl rfl (L.fa fa26_1 Wt.no rfl rfl (L.ld (j := 1) bx25.mem nag3 Wt.no rfl rfl rfl rfl (L.bi Wt.no rfl rfl rfl rfl (L.nil (X.seqN ?_))))))))
        rcases ifS hm with ⟨hc, hm⟩ | ⟨hc, hm⟩
        ·refine E.cT rfl hc ?_
         obtain ⟨x274, ex274, hm⟩ := bindS hm
         obtain ⟨x284, ex284, hm⟩ := bindS hm
         refine E.draw [[], [0], [], [], [], [3, 4], [3, 4, 5], [], [2, 3, 4, 5, 6, 7], [2, 3, 4, 5, 6, 7, 8], [0, 1, 2, 3, 4, 5, 6, 7, 8, 9], [0, 1, 2, 3, 4, 5, 6, 7, 8, 9, 10], [0, 1, 2, 3, 4, 5, 6, 7, 8, 9, 10, 11]] (fun D e sx => Mv (fun t => t = (N + 5) ∨ t = (N + 7)) s267 sx ∧ Sub [(8, .int .i64 ((W x259).tmod (W ((W (1 + (W (p1.1.tmod 5)))) + 2)))), (7, .int .i64 st240.1), (6, .int .i64 st164.1), (5, .pointer (some ⟨b25, 0, none⟩)), (4, .pointer (some ⟨b8, 0, none⟩)), (3, .pointer (some ⟨b5, 0, none⟩)), (0, .slice a1 p0.length c1)] e ∧ (D 0 = true → (Env.get e 65 = some (.pointer (some ⟨b25, 3, none⟩)))) ∧ (D 1 = true → (Env.get e 66 = some (.slice a188 st240.2.length c188))) ∧ (D 2 = true → (Env.get e 67 = some (.int .i64 st164.1))) ∧ (D 3 = true → (Env.get e 68 = some (.slice a1 p0.length c1))) ∧ (D 4 = true → (Env.get e 69 = some (.int .i64 st240.1))) ∧ (D 5 = true → (∃ (b275 : Nat) (o275 : Nat), Env.get e 70 = some (.pointer (some ⟨b275, o275, none⟩)) ∧ Mem sx 0 b275 o275 [.int .i64 x274])) ∧ (D 6 = true → (Env.get e 71 = some (.int .i64 x274))) ∧ (D 7 = true → (Env.get e 72 = some (.int .i64 ((W x259).tmod (W ((W (1 + (W (p1.1.tmod 5)))) + 2)))))) ∧ (D 8 = true → (Env.get e 73 = some (.agg #[.int .i64 st164.1, .int .i64 x274, .int .i64 ((W x259).tmod (W ((W (1 + (W (p1.1.tmod 5)))) + 2)))]))) ∧ (D 9 = true → (∃ (b280 : Nat), Env.get e 74 = some (.slice (some ⟨b280, 0, none⟩) ([(st164.1, x274, ((W x259).tmod (W ((W (1 + (W (p1.1.tmod 5)))) + 2))))] : List (Int × Int × Int)).length (([(st164.1, x274, ((W x259).tmod (W ((W (1 + (W (p1.1.tmod 5)))) + 2))))] : List (Int × Int × Int)).length)) ∧ RdL (rP (rK .i64) (rP (rK .i64) (rK .i64))) sx (some ⟨b280, 0, none⟩) (([(st164.1, x274, ((W x259).tmod (W ((W (1 + (W (p1.1.tmod 5)))) + 2))))] : List (Int × Int × Int)).length) ([(st164.1, x274, ((W x259).tmod (W ((W (1 + (W (p1.1.tmod 5)))) + 2))))] : List (Int × Int × Int)))) ∧ (D 10 = true → (∃ (a285 : Option Addr) (c285 : Nat), Env.get e 75 = some (.slice a285 x284.length c285))) ∧ (D 11 = true → (Env.get e 76 = some (.pointer (some ⟨b25, 3, none⟩)))) ∧ (D 12 = false → Bx sx (N + 5) b25 #[.slice a22 r19.1.length c22, .int .i64 (W (1 + (W (p1.1.tmod 5)))), .slice a183 l182.length c183, .slice a188 st240.2.length c188] 26) ∧ (D 12 = true → ∀ (a285 : Option Addr) (c285 : Nat), Env.get e 75 = some (.slice a285 x284.length c285) → Bx sx (N + 5) b25 #[.slice a22 r19.1.length c22, .int .i64 (W (1 + (W (p1.1.tmod 5)))), .slice a183 l182.length c183, .slice a285 x284.length c285] 26) ∧ (D 10 = false → RowT (rP (rK .i64) (rP (rK .i64) (rK .i64))) sx (N + 7) 28 a188 c188 st240.2) ∧ (D 10 = true → ∀ (a285 : Option Addr) (c285 : Nat), Env.get e 75 = some (.slice a285 x284.length c285) → RowT (rP (rK .i64) (rP (rK .i64) (rK .i64))) sx (N + 7) 28 a285 c285 x284)) (by kernel_rfl) (by kernel_rfl) (by kernel_rfl) ?_ ?_ ?_
         ·intro sz mz
          exact ⟨mz.no, (Sub.rf rfl), nofun, nofun, nofun, nofun, nofun, nofun, nofun, nofun, nofun, nofun, nofun, nofun, fun _ => bx25.mv mz no_No, nofun, fun _ => h188.mv mz no_No no_No, nofun⟩
         ·refine ⟨?_, ?_, ?_, ?_, ?_, ?_, ?_, ?_, ?_, ?_, ?_, ?_, ?_, trivial⟩
          ·rintro D e s268 ⟨im, ib, i0, t_⟩ hk hf ha
           have kn : Kn e [(5, .pointer (some ⟨b25, 0, none⟩))] := ⟨(ib 5 _ rfl), trivial⟩
           exact L.kns _ kn (L.fa fa26_3 Wt.no rfl rfl (L.nil (X.dk kn ⟨im, Sub.fresh ib rfl, fun _ => rfl, t_⟩)))
          ·rintro D e s269 ⟨im, ib, i0, i1, i2, i3, i4, i5, i6, i7, i8, i9, i10, i11, i12, t_⟩ hk hf ha
           obtain ⟨d0, -⟩ := ha
           have g0_ := i0 d0
           obtain bx25 := i12 (hf 12 (Nat.le_of_ble_eq_true rfl) rfl)
           have kn : Kn e [(65, .pointer (some ⟨b25, 3, none⟩))] := ⟨g0_, trivial⟩
           exact L.kns _ kn (L.ld (j := 3) bx25.mem nag24 Wt.no rfl rfl rfl rfl (L.nil (X.dk kn ⟨im, Sub.fresh ib rfl, i0, fun _ => rfl, i2, i3, i4, i5, i6, i7, i8, i9, i10, i11, i12, t_⟩)))
          ·rintro D e s270 ⟨im, ib, i0, i1, i2, t_⟩ hk hf ha
           have kn : Kn e [(6, .int .i64 st164.1)] := ⟨(ib 6 _ rfl), trivial⟩
           exact L.kns _ kn (L.mv Wt.no rfl rfl (L.nil (X.dk kn ⟨im, Sub.fresh ib rfl, i0, i1, fun _ => rfl, t_⟩)))
          ·rintro D e s271 ⟨im, ib, i0, i1, i2, i3, t_⟩ hk hf ha
           have kn : Kn e [(0, .slice a1 p0.length c1)] := ⟨(ib 0 _ rfl), trivial⟩
           exact L.kns _ kn (L.mv Wt.no rfl rfl (L.nil (X.dk kn ⟨im, Sub.fresh ib rfl, i0, i1, i2, fun _ => rfl, t_⟩)))
          ·rintro D e s272 ⟨im, ib, i0, i1, i2, i3, i4, t_⟩ hk hf ha
           have kn : Kn e [(7, .int .i64 st240.1)] := ⟨(ib 7 _ rfl), trivial⟩
           exact L.kns _ kn (L.mv Wt.no rfl rfl (L.nil (X.dk kn ⟨im, Sub.fresh ib rfl, i0, i1, i2, i3, fun _ => rfl, t_⟩)))
          ·rintro D e s273 ⟨im, ib, i0, i1, i2, i3, i4, i5, t_⟩ hk hf ha
           obtain ⟨d3, d4, -⟩ := ha
           have g3_ := i3 d3
           have g4_ := i4 d4
           have h1 := h1.mono (im.le (nor (tg0 hN) (tg0 hN)))
           have kn : Kn e [(68, .slice a1 p0.length c1), (69, .int .i64 st240.1)] := ⟨g3_, g4_, trivial⟩
           refine L.kns _ kn (L.ix (r := (rK .i64)) sl23 h1 Wt.no rfl rfl ex274 rfl fun b275 o275 cc275 me275 rd275 => ?_)
           obtain rfl := rd275
           exact L.nil (X.dk kn ⟨im, Sub.fresh ib rfl, i0, i1, i2, i3, i4, fun _ => ⟨b275, o275, rfl, me275⟩, t_⟩)
          ·rintro D e s276 ⟨im, ib, i0, i1, i2, i3, i4, i5, i6, t_⟩ hk hf ha
           obtain ⟨d3, d4, d5, -⟩ := ha
           obtain ⟨b275, o275, g5_, me275⟩ := i5 d5
           have kn : Kn e [(70, .pointer (some ⟨b275, o275, none⟩))] := ⟨g5_, trivial⟩
           exact L.kns _ kn (L.ld (j := 0) me275 nag3 Wt.no rfl rfl rfl rfl (L.nil (X.dk kn ⟨im, Sub.fresh ib rfl, i0, i1, i2, i3, i4, i5, fun _ => rfl, t_⟩)))
          ·rintro D e s277 ⟨im, ib, i0, i1, i2, i3, i4, i5, i6, i7, t_⟩ hk hf ha
           have kn : Kn e [(8, .int .i64 ((W x259).tmod (W ((W (1 + (W (p1.1.tmod 5)))) + 2))))] := ⟨(ib 8 _ rfl), trivial⟩
           exact L.kns _ kn (L.mv Wt.no rfl rfl (L.nil (X.dk kn ⟨im, Sub.fresh ib rfl, i0, i1, i2, i3, i4, i5, i6, fun _ => rfl, t_⟩)))
          ·rintro D e s278 ⟨im, ib, i0, i1, i2, i3, i4, i5, i6, i7, i8, t_⟩ hk hf ha
           obtain ⟨d2, d3, d4, d5, d6, d7, -⟩ := ha
           have g2_ := i2 d2
           have g6_ := i6 d6
           have g7_ := i7 d7
           have kn : Kn e [(67, .int .i64 st164.1), (71, .int .i64 x274), (72, .int .i64 ((W x259).tmod (W ((W (1 + (W (p1.1.tmod 5)))) + 2))))] := ⟨g2_, g6_, g7_, trivial⟩
           exact L.kns _ kn (L.bu (cs := [.int .i64 st164.1, .int .i64 x274, .int .i64 ((W x259).tmod (W ((W (1 + (W (p1.1.tmod 5)))) + 2)))]) pl28 Wt.no rfl rfl rfl (L.nil (X.dk kn ⟨im, Sub.fresh ib rfl, i0, i1, i2, i3, i4, i5, i6, i7, fun _ => rfl, t_⟩)))
          ·rintro D e s279 ⟨im, ib, i0, i1, i2, i3, i4, i5, i6, i7, i8, i9, i10, i11, i12, i13, i14, i15⟩ hk hf ha
           obtain ⟨d2, d3, d4, d5, d6, d7, d8, -⟩ := ha
           have g8_ := i8 d8
           have kn : Kn e [(73, .agg #[.int .i64 st164.1, .int .i64 x274, .int .i64 ((W x259).tmod (W ((W (1 + (W (p1.1.tmod 5)))) + 2)))])] := ⟨g8_, trivial⟩
           refine L.kns _ kn (L.bsE (k := 1) (cs := [.int .i64 st164.1, .int .i64 x274, .int .i64 ((W x259).tmod (W ((W (1 + (W (p1.1.tmod 5)))) + 2)))]) 0 bs24 (Nat.le_of_ble_eq_true rfl) Wt.no rfl rfl rfl rfl fun b280 s281 m282 bx280 => ?_)
           have h280 := Bx.rdL (r := (rP (rK .i64) (rP (rK .i64) (rK .i64)))) (xs := ([(st164.1, x274, ((W x259).tmod (W ((W (1 + (W (p1.1.tmod 5)))) + 2))))] : List (Int × Int × Int))) bx280 ⟨[.int .i64 st164.1, .int .i64 x274, .int .i64 ((W x259).tmod (W ((W (1 + (W (p1.1.tmod 5)))) + 2)))], _, rfl, ⟨[.int .i64 st164.1], [.int .i64 x274, .int .i64 ((W x259).tmod (W ((W (1 + (W (p1.1.tmod 5)))) + 2)))], rfl, rfl, ⟨[.int .i64 x274], [.int .i64 ((W x259).tmod (W ((W (1 + (W (p1.1.tmod 5)))) + 2)))], rfl, rfl, rfl⟩⟩, rfl⟩ (Nat.le_of_ble_eq_true rfl)
           exact L.nil (X.dk kn ⟨im.trans m282.no, Sub.fresh ib rfl, i0, i1, i2, i3, i4, fun z => let ⟨b275, o275, q, me275⟩ := i5 z; ⟨b275, o275, q, (me275.mv m282 no_No)⟩, i6, i7, i8, fun _ => ⟨b280, rfl, h280⟩, i10, i11, fun z2 => ((i12 z2).mv m282 no_No), fun z a285 c285 q10 => ((i13 z a285 c285 q10).mv m282 no_No), fun z2 => ((i14 z2).mv m282 no_No no_No), fun z a285 c285 q10 => ((i15 z a285 c285 q10).mv m282 no_No no_No)⟩)
          ·rintro D e s283 ⟨im, ib, i0, i1, i2, i3, i4, i5, i6, i7, i8, i9, i10, i11, i12, i13, i14, i15⟩ hk hf ha
           obtain ⟨d0, d1, d2, d3, d4, d5, d6, d7, d8, d9, -⟩ := ha
           have g1_ := i1 d1
           obtain ⟨b280, g9_, h280⟩ := i9 d9
           obtain h188 := i14 hk
           have kn : Kn e [(66, .slice a188 st240.2.length c188), (74, .slice (some ⟨b280, 0, none⟩) ([(st164.1, x274, ((W x259).tmod (W ((W (1 + (W (p1.1.tmod 5)))) + 2))))] : List (Int × Int × Int)).length (([(st164.1, x274, ((W x259).tmod (W ((W (1 + (W (p1.1.tmod 5)))) + 2))))] : List (Int × Int × Int)).length))] := ⟨g1_, g9_, trivial⟩
           exact L.kns _ kn (L.ap (r := (rP (rK .i64) (rP (rK .i64) (rK .i64)))) Try.underlying24 el28 rfl (tgp hN) h188 h280.wk Wt.no rfl rfl ex284 rfl fun a285 c285 s286 m287 h285 => L.nil (X.dk kn ⟨im.trans (m287.one (.inr rfl)), Sub.fresh ib rfl, i0, i1, i2, i3, i4, fun z => let ⟨b275, o275, q, me275⟩ := i5 z; ⟨b275, o275, q, (me275.mv m287 (tg0 hN))⟩, i6, i7, i8, fun z => let ⟨b280, q, h280⟩ := i9 z; ⟨b280, q, (h280.mono (m287.le (tg0 hN)))⟩, fun _ => ⟨a285, c285, rfl⟩, i11, fun z2 => ((i12 z2).mv m287 (tgN (by decide))), fun z => Bool.noConfusion ((hf 12 (Nat.le_of_ble_eq_true rfl) rfl).symm.trans z), fun z => Bool.noConfusion (show true = false from z), fun _ _ _ q10 => by cases (show some (.slice a285 x284.length c285 : Value) = some _ from q10); exact h285⟩))
          ·rintro D e s288 ⟨im, ib, i0, i1, i2, i3, i4, i5, i6, i7, i8, i9, i10, i11, t_⟩ hk hf ha
           obtain ⟨d0, d1, d2, d3, d4, d5, d6, d7, d8, d9, d10, -⟩ := ha
           have kn : Kn e [(5, .pointer (some ⟨b25, 0, none⟩))] := ⟨(ib 5 _ rfl), trivial⟩
           exact L.kns _ kn (L.fa fa26_3 Wt.no rfl rfl (L.nil (X.dk kn ⟨im, Sub.fresh ib rfl, i0, i1, i2, i3, i4, i5, i6, i7, i8, i9, i10, fun _ => rfl, t_⟩)))
          ·rintro D e s289 ⟨im, ib, i0, i1, i2, i3, i4, i5, i6, i7, i8, i9, i10, i11, i12, i13, i14, i15⟩ hk hf ha
           obtain ⟨d0, d1, d2, d3, d4, d5, d6, d7, d8, d9, d10, d11, -⟩ := ha
           obtain ⟨a285, c285, g10_⟩ := i10 d10
           have g11_ := i11 d11
           obtain bx25 := i12 hk
           have kn : Kn e [(76, .pointer (some ⟨b25, 3, none⟩)), (75, .slice a285 x284.length c285)] := ⟨g11_, g10_, trivial⟩
           exact L.kns _ kn (L.st (c := [.slice a285 x284.length c285]) (cs' := #[.slice a22 r19.1.length c22, .int .i64 (W (1 + (W (p1.1.tmod 5)))), .slice a183 l182.length c183, .slice a285 x284.length c285]) bx25 nag24.sz Wt.no rfl rfl rfl rfl rfl (Nat.le_of_ble_eq_true rfl) rfl fun s290 m291 bx25 => L.nil (X.dn kn ⟨im.trans (m291.one (.inl rfl)), ib, i0, i1, i2, i3, i4, fun z => let ⟨b275, o275, q, me275⟩ := i5 z; ⟨b275, o275, q, (me275.mv m291 (tg0 hN))⟩, i6, i7, i8, fun z => let ⟨b280, q, h280⟩ := i9 z; ⟨b280, q, (h280.mono (m291.le (tg0 hN)))⟩, i10, i11, fun z => Bool.noConfusion (show true = false from z), fun _ _ _ q10 => by cases g10_.symm.trans q10; exact bx25, fun z2 => ((i14 z2).mv m291 (tgN (by decide)) (tg0 hN)), fun z a285 c285 q10 => ((i15 z a285 c285 q10).mv m291 (tgN (by decide)) (tg0 hN))⟩))
         ·rintro D e s292 hD ⟨im, ib, i0, i1, i2, i3, i4, i5, i6, i7, i8, i9, i10, i11, i12, i13, i14, i15⟩
          obtain ⟨a285, c285, g10_⟩ := i10 (hD 10 rfl)
          obtain bx25 := i13 (hD 12 rfl) a285 c285 g10_
          obtain h285 := i15 (hD 10 rfl) a285 c285 g10_
          have h22 := h22.mono (im.le (nor (tg0 hN) (tg0 hN)))
          have h183 := h183.mv im (nor (tgN (by decide)) (tgN (by decide))) (nor (tg0 hN) (tg0 hN))
          have bx8 := bx8.mv im (nor (tgN (by decide)) (tgN (by decide)))
          have bx5 := bx5.mv im (nor (tgN (by decide)) (tgN (by decide)))
          have h1 := h1.mono (im.le (nor (tg0 hN) (tg0 hN)))
          have m0 := m0.trans (im.weak fun _ e => by rcases e with e | e; (rw [e]; exact up); (rw [e]; exact up))
          refine X.sub (e' := [(7, .int .i64 st240.1), (6, .int .i64 st164.1), (5, .pointer (some ⟨b25, 0, none⟩)), (4, .pointer (some ⟨b8, 0, none⟩)), (3, .pointer (some ⟨b5, 0, none⟩)), (0, .slice a1 p0.length c1)]) ?_ (Sub.cons (ib 7 _ rfl) (Sub.cons (ib 6 _ rfl) (Sub.cons (ib 5 _ rfl) (Sub.cons (ib 4 _ rfl) (Sub.cons (ib 3 _ rfl) (Sub.cons (ib 0 _ rfl) Sub.nil))))))
          exact X.blkN (X.sub (Jj250 _ _ ⟨s292, x284, a285, c285, hm, m0, h1, h22, h183, h285, bx5, bx8, bx25, rfl, rfl⟩) (Sub.rf rfl))
        ·exact E.cF rfl hc (E.skip (X.blkN (X.sub (Jj250 _ _ ⟨s267, st240.2, a188, c188, hm, m0, h1, h22, h183, h188, bx5, bx8, bx25, rfl, rfl⟩) (Sub.rf rfl))))
     ·refine E.cF rfl hc (E.exit (X.seqX (X.seqX ?_)))
      have hx := ho240 _ (Option.some.inj hm).symm
      subst hx
      exact X.sub (K245 _ _ ⟨s243, a188, c188, m0, h1, h22, h183, h188, bx5, bx8, bx25, rfl, rfl⟩) (Sub.rf rfl)
    ·intro J293
     rcases Bool.eq_false_or_eq_true (decide (st240.1 < (p0.length : Int))) with hc | hc
     ·exact L.know (d := 44) rfl hc (L.mv (Wt.mk rfl rfl) rfl rfl (L.bi (Wt.mk rfl rfl) rfl rfl rfl rfl (L.pkT Wt.no rfl rfl rfl rfl (L.sb (J293 _ _ ⟨(decide (st240.1 < 5)), (andT hc).symm, rfl, rfl⟩) rfl))))
     ·exact L.know (d := 44) rfl hc (L.skip rfl rfl rfl rfl (L.skip rfl rfl rfl rfl (L.pkF Wt.no rfl rfl rfl rfl (L.sb (J293 _ _ ⟨false, (andF hc).symm, rfl, rfl⟩) rfl))))
   ·intro Jj185
    refine E.seq (E.reg (L.fa fa49_1 Wt.no rfl rfl (L.ld (j := 1) bx5.mem nag5 Wt.no rfl rfl rfl rfl (L.mv Wt.no rfl rfl ?_))))
    obtain ⟨_, z294, hm⟩ := bindS hm
    refine L.shr Wt.no rfl rfl (ng_some z294) rfl (L.bi Wt.no rfl rfl rfl rfl (L.bi Wt.no rfl rfl rfl rfl (L.nil (X.seqN ?_))))
    rcases ifS hm with ⟨hc, hm⟩ | ⟨hc, hm⟩
    ·refine E.cT rfl hc (E.reg (L.fa fa26_2 Wt.no rfl rfl (L.ld (j := 2) bx25.mem nag23 Wt.no rfl rfl rfl rfl (L.mv Wt.no rfl rfl (L.bsE (k := 1) (cs := [.int .i64 st164.1]) 0 bs23 (Nat.le_of_ble_eq_true rfl) Wt.no rfl rfl rfl rfl fun b295 s296 m297 bx295 => ?_)))))
     replace m0 := m0.trans m297.no
     replace h1 := h1.mono (m297.le no_No)
     replace h34 := h34.mv m297 no_No no_No
     replace bx5 := bx5.mv m297 no_No
     replace bx8 := bx8.mv m297 no_No
     replace bx25 := bx25.mv m297 no_No
     replace h22 := h22.mono (m297.le no_No)
     replace h36 := h36.mv m297 no_No no_No
     have h295 := Bx.rdL (r := (rK .i64)) (xs := ([st164.1] : List Int)) bx295 ⟨[.int .i64 st164.1], _, rfl, rfl, rfl⟩ (Nat.le_of_ble_eq_true rfl)
     obtain ⟨x298, ex298, hm⟩ := bindS hm
     refine L.ap (r := (rK .i64)) Try.underlying23 el3 rfl (tgp hN) h34 h295.wk Wt.no rfl rfl ex298 rfl fun a299 c299 s300 m301 h299 => ?_
     replace m0 := m0.trans (m301.one up)
     replace h1 := h1.mono (m301.le (tg0 hN))
     replace bx5 := bx5.mv m301 (tgN (by decide))
     replace bx8 := bx8.mv m301 (tgN (by decide))
     replace bx25 := bx25.mv m301 (tgN (by decide))
     replace h22 := h22.mono (m301.le (tg0 hN))
     replace h36 := h36.mv m301 (tgN (by decide)) (tg0 hN)
     refine L.fa fa26_2 Wt.no rfl rfl (L.st (c := [.slice a299 x298.length c299]) (cs' := #[.slice a22 r19.1.length c22, .int .i64 (W (1 + (W (p1.1.tmod 5)))), .slice a299 x298.length c299, .slice a36 st164.2.2.length c36]) bx25 nag23.sz Wt.no rfl rfl rfl rfl rfl (Nat.le_of_ble_eq_true rfl) rfl fun s302 m303 bx25 => ?_)
     replace m0 := m0.trans (m303.one up)
     replace h1 := h1.mono (m303.le (tg0 hN))
     replace bx5 := bx5.mv m303 (tgN (by decide))
     replace bx8 := bx8.mv m303 (tgN (by decide))
     replace h22 := h22.mono (m303.le (tg0 hN))
     replace h299 := h299.mv m303 (tgN (by decide)) (tg0 hN)
     replace h36 := h36.mv m303 (tgN (by decide)) (tg0 hN)
     exact L.nil (X.sub (Jj185 _ _ ⟨s302, x298, a299, c299, hm, m0, h1, h22, h299, h36, bx5, bx8, bx25, rfl, rfl⟩) (Sub.rf rfl))
    ·exact E.cF rfl hc (E.skip (X.sub (Jj185 _ _ ⟨s169, st164.2.1, a34, c34, hm, m0, h1, h22, h34, h36, bx5, bx8, bx25, rfl, rfl⟩) (Sub.rf rfl)))
  ·refine E.cF rfl hc (E.exit (X.seqX (X.seqX ?_)))
   have hx := ho164 _ (Option.some.inj hm).symm
   subst hx
   exact X.sub (K181 _ _ ⟨s169, a34, c34, a36, c36, m0, h22, h34, h36, bx8, bx25, rfl, rfl⟩) (Sub.rf rfl)

/-- What overseerlaw53.Make$1 computes. -/
noncomputable def m_overseerlaw53_Make_1 (q0 : List Int × Int × List Int × (List (Int × Int × Int))) (p0 : Int) : Option Bool :=
  (m_slices_Contains_int q0.1 p0).bind fun r5 =>
  some (!r5)
set_option maxRecDepth 100000 in
set_option maxHeartbeats 8000000 in
theorem m_overseerlaw53_Make_1_c {s : Sig} {q0 : List Int × Int × List Int × (List (Int × Int × Int))} {p0 : Int} {a1 : Option Addr} {c1 : Nat} {a2 : Option Addr} {c2 : Nat} {a3 : Option Addr} {c3 : Nat} {b4 : Nat} {r : Bool} (h1 : RdL (rK .i64) s a1 c1 q0.1) (h2 : RdL (rK .i64) s a2 c2 q0.2.2.1) (h3 : RdL (rP (rK .i64) (rP (rK .i64) (rK .i64))) s a3 c3 q0.2.2.2) (bx4 : Bx s 0 b4 #[.slice a1 q0.1.length c1, .int .i64 q0.2.1, .slice a2 q0.2.2.1.length c2, .slice a3 q0.2.2.2.length c3] 26) (hm : m_overseerlaw53_Make_1 q0 p0 = some r) :
    Calls Try.prog 49 #[.int .i64 p0, .pointer (some ⟨b4, 0, none⟩)] s.w (RetS No s fun v s' => v = .bool r) := by
 unfold m_overseerlaw53_Make_1 at hm
 obtain ⟨N, hN, hNb⟩ := s.fresh
 have m0 : Mv (Up N No) s s := Mv.refl _ _
 refine E.entry Try.func49 rfl Try.ntmps49 rfl rfl (E.seq (E.reg (L.as Wt.no rfl rfl (L.nil (X.seqN (E.seq (E.reg (L.fa fa26_0 Wt.no rfl rfl (L.ld (j := 0) bx4.mem nag23 Wt.no rfl rfl rfl rfl (L.mv Wt.no rfl rfl ?_))))))))))
 obtain ⟨r5, er5, hm⟩ := bindS hm
 refine L.ca cf23 rfl rfl Wt.no rfl (m_slices_Contains_int_c (s := s) (p0 := q0.1) (p1 := p0) h1 er5) rfl ?_
 rintro _ s6 m7 rfl
 replace m0 := m0.trans m7.no
 refine L.not Wt.no rfl rfl (L.as Wt.no rfl rfl (L.nil (X.seqN (E.ret ?_))))
 obtain rfl := Option.some.inj hm
 exact X.rt (.inl rfl) Try.results49 (Rs.tmp rfl Rs.nil) rfl ⟨_, (s6).ren N (fun _ => 0), rfl, rfl, m0.ren hNb, rfl⟩

noncomputable def m_slices_IndexFunc_int_l1 (p0 : List Int) (p1 : Int → Option Bool) (st9 : Int) : Option (Int ⊕ (Unit ⊕ Int)) :=
  if decide (st9 < (p0.length : Int)) then
    (idx p0 st9).bind fun x18 =>
    (p1 x18).bind fun r20 =>
    if r20 then
      some (.inr (.inr (st9)))
    else
      some (.inl (W (st9 + 1)))
  else
    some (.inr (.inl ()))
/-- What slices.IndexFunc<<>int,int> computes. -/
noncomputable def m_slices_IndexFunc_int (p0 : List Int) (p1 : Int → Option Bool) : Option Int :=
  (iter (m_slices_IndexFunc_int_l1 p0 p1) 0).bind fun o9 =>
  match o9 with
  | .inl u12 =>
    some (-1)
  | .inr (u15) =>
    some u15
set_option maxRecDepth 100000 in
set_option maxHeartbeats 8000000 in
theorem m_slices_IndexFunc_int_c {s : Sig} {p0 : List Int} {p1 : Int → Option Bool} {a1 : Option Addr} {c1 : Nat} {vp1 : Value} {r : Int} (h1 : RdL (rK .i64) s a1 c1 p0) (hp1 : FV1 Try.prog s vp1 (fun (x0 : Int) => [.int .i64 x0]) (fun (r : Bool) => .bool r) p1) (hm : m_slices_IndexFunc_int p0 p1 = some r) :
    Calls Try.prog 60 #[.slice a1 p0.length c1, vp1] s.w (RetS No s fun v s' => v = .int .i64 r) := by
 unfold m_slices_IndexFunc_int at hm
 obtain ⟨N, hN, hNb⟩ := s.fresh
 have m0 : Mv (Up N No) s s := Mv.refl _ _
 refine E.entry Try.func60 rfl Try.ntmps60 rfl rfl (E.seq (E.reg (L.as Wt.no rfl rfl (L.nil (X.seqN (E.seq (E.seq (E.reg (L.mv Wt.no rfl rfl (L.len sl23 Wt.no rfl rfl (L.mv Wt.no rfl rfl (L.nil (X.seqN (E.block ?_))))))))))))))
 obtain ⟨o9, eo9, hm⟩ := bindS hm
 refine E.cut (x := .exit 0) (fun e w => ∃ (s13 : Sig) (u12 : Unit), o9 = .inl u12 ∧ Mv (Up N No) s s13 ∧ e = [] ∧ w = s13.w) ?_ ?_
 ·rintro _ _ ⟨s13, u12, rfl, m0, rfl, rfl⟩
  dsimp only at hm
  refine X.blkE (X.seqN (E.seq (E.reg (L.as Wt.no rfl rfl (L.nil (X.seqN (E.ret ?_)))))))
  obtain rfl := Option.some.inj hm
  exact X.rt (.inl rfl) Try.results60 (Rs.tmp rfl Rs.nil) rfl ⟨_, (s13).ren N (fun _ => 0), rfl, rfl, m0.ren hNb, rfl⟩
 intro K14
 refine E.cut (x := .ret) (fun e w => ∃ (s16 : Sig) (u15 : Int), o9 = .inr (u15) ∧ Mv (Up N No) s s16 ∧ e = [(4, .int .i64 u15)] ∧ w = s16.w) ?_ ?_
 ·rintro _ _ ⟨s16, u15, rfl, m0, rfl, rfl⟩
  dsimp only at hm
  refine X.blkR (X.seqR ?_)
  obtain rfl := Option.some.inj hm
  exact X.rt (.inl rfl) Try.results60 (Rs.tmp rfl Rs.nil) rfl ⟨_, (s16).ren N (fun _ => 0), rfl, rfl, m0.ren hNb, rfl⟩
 intro K17
 refine E.iter (fun (st9 : Int) (e : List (Nat × Value)) (w : World) => ∃ (s11 : Sig), Mv (Up N No) s s11 ∧ RdL (rK .i64) s11 a1 c1 p0 ∧ FV1 Try.prog s11 vp1 (fun (x0 : Int) => [.int .i64 x0]) (fun (r : Bool) => .bool r) p1 ∧ e = [(8, .int .i64 st9), (7, .int .i64 (p0.length : Int)), (0, .slice a1 p0.length c1), (1, vp1)] ∧ w = s11.w) eo9 ⟨s, m0, h1, hp1, rfl, rfl⟩ (Sub.rf rfl) ?_
 rintro st9 res9 hm ih9 ho9 _ _ ⟨s11, m0, h1, hp1, rfl, rfl⟩
 unfold m_slices_IndexFunc_int_l1 at hm
 refine E.seq (E.reg (L.bi Wt.no rfl rfl rfl rfl (L.nil (X.seqN (E.seq ?_)))))
 rcases ifS hm with ⟨hc, hm⟩ | ⟨hc, hm⟩
 ·refine E.cT rfl hc (E.skip (X.seqN (E.seq (E.block (E.seq (E.reg (L.mv Wt.no rfl rfl (L.as Wt.no rfl rfl (L.nil (X.seqN (E.seq (E.reg (L.mv Wt.no rfl rfl (L.mv Wt.no rfl rfl (L.mv Wt.no rfl rfl ?_)))))))))))))))
  obtain ⟨x18, ex18, hm⟩ := bindS hm
  refine L.ix (r := (rK .i64)) sl23 h1 Wt.no rfl rfl ex18 rfl fun b19 o19 cc19 me19 rd19 => ?_
  obtain rfl := rd19
  refine L.ld (j := 0) me19 nag3 Wt.no rfl rfl rfl rfl ?_
  obtain ⟨r20, er20, hm⟩ := bindS hm
  refine L.fv1 (y := x18) hp1 rfl rfl Wt.no rfl rfl er20 rfl fun s21 m22 => ?_
  replace m0 := m0.trans m22.no
  replace h1 := h1.mono (m22.le no_No)
  replace hp1 := hp1.mono (m22.le no_No)
  refine L.nil (X.seqN ?_)
  rcases ifS hm with ⟨hc, hm⟩ | ⟨hc, hm⟩
  ·refine E.cT rfl hc (E.seq (E.reg (L.mv Wt.no rfl rfl (L.as Wt.no rfl rfl (L.nil (X.seqN (E.ret (X.blkR (X.seqR (X.seqR ?_))))))))))
   have hx := ho9 _ (Option.some.inj hm).symm
   exact X.sub (K17 _ _ ⟨s21, st9, hx.symm, m0, rfl, rfl⟩) (Sub.rf rfl)
  ·exact E.cF rfl hc (E.skip (X.blkN (X.seqN (E.reg (L.bi Wt.no rfl rfl rfl rfl (L.mv Wt.no rfl rfl (L.nil (X.sub (ih9 _ (Option.some.inj hm).symm _ _ ⟨s21, m0, h1, hp1, rfl, rfl⟩) (Sub.rf rfl)))))))))
 ·refine E.cF rfl hc (E.exit (X.seqX (X.seqX ?_)))
  have hx := ho9 _ (Option.some.inj hm).symm
  exact X.sub (K14 _ _ ⟨s11, (), hx.symm, m0, rfl, rfl⟩) Sub.nil

end Go.Proofs.Ytkkemchihllklaa

namespace Go.Proofs.Ytkkemchihllklaa
open Go Go.RowKit

/-- A loop with an invariant. -/
theorem iter_inv {S O : Type} {f : S → Option (S ⊕ O)} (P : Nat → S → Prop) (Q : O → Prop) : ∀ (n i : Nat), n < i + 18446744073709551616 → (∀ i s, i < n → P i s → (∃ s', f s = some (.inl s') ∧ P (i + 1) s') ∨ ∃ o, f s = some (.inr o) ∧ Q o) → (∀ s, P n s → ∃ o, f s = some (.inr o) ∧ Q o) → i ≤ n →
    ∀ s, P i s → ∃ o, iter f s = some o ∧ Q o := by
  have key : ∀ (n : Nat), (∀ i s, i < n → P i s → (∃ s', f s = some (.inl s') ∧ P (i + 1) s') ∨ ∃ o, f s = some (.inr o) ∧ Q o) → (∀ s, P n s → ∃ o, f s = some (.inr o) ∧ Q o) → ∀ (j i : Nat), i + j = n → ∀ s, P i s → ∃ o, iterF f (j + 1) s = some o ∧ Q o := by
    intro n step fin j
    induction j with
    | zero =>
      intro i hi s h
      obtain rfl : i = n := by omega
      obtain ⟨o, h1, h2⟩ := fin s h
      exact ⟨o, by rw [iterF_succ, h1], h2⟩
    | succ j ih =>
      intro i hi s h
      rcases step i s (by omega) h with ⟨s', h1, h2⟩ | ⟨o, h1, h2⟩
      · obtain ⟨o, h3, h4⟩ := ih (i + 1) (by omega) s' h2
        exact ⟨o, by rw [iterF_succ, h1]; exact h3, h4⟩
      · exact ⟨o, by rw [iterF_succ, h1], h2⟩
  intro n i hn step fin hi s h
  obtain ⟨o, h1, h2⟩ := key n step fin (n - i) i (by omega) s h
  exact ⟨o, iter_of (by omega) h1, h2⟩
/-- A loop over a list that may stop ahead of its end. -/
def scanL {α S O : Type} (g : Nat → S → α → S ⊕ O) (fin : S → O) : Nat → List α → S → O
  | _, [], s => fin s
  | i, x :: xs, s => match g i s x with
    | .inl s' => scanL g fin (i + 1) xs s'
    | .inr o => o
theorem iter_scan {α S T O : Type} {xs : List α} {f : T → Option (T ⊕ O)} (mk : Nat → S → T) (g : Nat → S → α → S ⊕ O) (fin : S → O) (P : Nat → S → Prop) (hl : xs.length < 18446744073709551615)
    (step : ∀ i (h : i < xs.length) s, P i s → (∀ s', g i s xs[i] = .inl s' → f (mk i s) = some (.inl (mk (i + 1) s')) ∧ P (i + 1) s') ∧ ∀ o, g i s xs[i] = .inr o → f (mk i s) = some (.inr o))
    (last : ∀ s, P xs.length s → f (mk xs.length s) = some (.inr (fin s))) {s : S} (h0 : P 0 s) : iter f (mk 0 s) = some (scanL g fin 0 xs s) := by
  have key : ∀ (j i : Nat), i + j = xs.length → ∀ s, P i s → iterF f (j + 1) (mk i s) = some (scanL g fin i (xs.drop i) s) := by
    intro j
    induction j with
    | zero =>
      intro i hi s h
      obtain rfl : i = xs.length := by omega
      rw [iterF_succ, last s h, List.drop_length]
      rfl
    | succ j ih =>
      intro i hi s h
      have hlt : i < xs.length := by omega
      rw [List.drop_eq_getElem_cons hlt, scanL, iterF_succ]
      cases hg : g i s xs[i] with
      | inl s' =>
        obtain ⟨h1, h2⟩ := (step i hlt s h).1 s' hg
        rw [h1]
        exact ih (i + 1) (by omega) s' h2
      | inr o => rw [(step i hlt s h).2 o hg]
  have := key xs.length 0 (by omega) s h0
  rw [List.drop_zero] at this
  exact iter_of (by omega) this
/-- A loop over a list that folds it. -/
theorem iter_foldl {α S T O : Type} {xs : List α} {f : T → Option (T ⊕ O)} (mk : Nat → S → T) (g : S → α → S) (fin : S → O) (P : Nat → S → Prop) (hl : xs.length < 18446744073709551615)
    (step : ∀ i (h : i < xs.length) s, P i s → f (mk i s) = some (.inl (mk (i + 1) (g s xs[i]))) ∧ P (i + 1) (g s xs[i]))
    (last : ∀ s, P xs.length s → f (mk xs.length s) = some (.inr (fin s))) {s : S} (h0 : P 0 s) : iter f (mk 0 s) = some (fin (xs.foldl g s)) ∧ P xs.length (xs.foldl g s) := by
  have e : ∀ (xs : List α) (i : Nat) (s : S), scanL (fun _ s x => (Sum.inl (g s x) : S ⊕ O)) fin i xs s = fin (xs.foldl g s) := by
    intro xs
    induction xs with
    | nil => intro i s; rfl
    | cons x xs ih => intro i s; rw [scanL, List.foldl_cons]; exact ih _ _
  refine ⟨?_, ?_⟩
  · rw [iter_scan (O := O) (xs := xs) (f := f) mk (fun _ s x => .inl (g s x)) fin P hl (fun i h s hp => ⟨fun s' he => by cases he; exact step i h s hp, fun o he => by cases he⟩) last h0, e]
  · have key : ∀ (j i : Nat), i + j = xs.length → ∀ s, P i s → P xs.length ((xs.drop i).foldl g s) := by
      intro j
      induction j with
      | zero =>
        intro i hi s h
        obtain rfl : i = xs.length := by omega
        rw [List.drop_length]; exact h
      | succ j ih =>
        intro i hi s h
        have hlt : i < xs.length := by omega
        rw [List.drop_eq_getElem_cons hlt, List.foldl_cons]
        exact ih (i + 1) (by omega) _ (step i hlt s h).2
    exact key xs.length 0 (by omega) s h0
theorem nxt {i : Nat} (h : i < 4611686018427387904) : W ((i : Int) + 1) = ((i + 1 : Nat) : Int) := by rw [show (i : Int) + 1 = ((i + 1 : Nat) : Int) by omega, W_nat (by omega)]
theorem ct_lt {i n : Nat} (h : i < n) : decide ((i : Int) < (n : Int)) = true := by simp; omega
theorem ct_ge {n : Nat} : ¬ decide ((n : Int) < (n : Int)) = true := by simp

/-- The events of a set. -/
theorem events_ex (p : Int) : ∃ ev, m_overseerlaw03_Set_Events p = some ev ∧ Inc ev ∧ (∀ x ∈ ev, 0 ≤ x ∧ x < 5) ∧ ev.length ≤ 5 := by
  obtain ⟨o, h1, h2⟩ := iter_inv (f := m_overseerlaw03_Set_Events_l1 p) (fun i s => s.1 = (i : Int) ∧ Inc s.2 ∧ (∀ x ∈ s.2, 0 ≤ x ∧ x < (i : Int)) ∧ s.2.length ≤ i) (fun o => Inc o ∧ (∀ x ∈ o, 0 ≤ x ∧ x < 5) ∧ o.length ≤ 5) 5 0 (by omega) (fun i s hi ⟨e1, e2, e3, e4⟩ => by
      obtain ⟨s1, s2⟩ := s
      dsimp only at e1 e2 e3 e4
      subst e1
      have hj : ∀ l : List Int, m_overseerlaw03_Set_Events_j1 ((i : Int), s2) l = some (.inl (((i + 1 : Nat) : Int), l)) := fun l => by
        rw [m_overseerlaw03_Set_Events_j1]; dsimp only; rw [nxt (by omega)]
      left
      rw [m_overseerlaw03_Set_Events_l1]
      dsimp only
      rw [if_pos (by simp; omega), show ng (i : Int) = some () from if_neg (by omega), Option.bind_some]
      split
      · rw [app_eq (by simp; omega), Option.bind_some, hj]
        refine ⟨_, rfl, rfl, ?_, fun x hx => ?_, by simp; omega⟩
        · unfold Inc at e2 ⊢
          rw [List.pairwise_append]
          exact ⟨e2, List.pairwise_singleton .., fun a ha b hb => by rw [List.mem_singleton.1 hb]; exact (e3 a ha).2⟩
        · dsimp only at hx
          rcases List.mem_append.1 hx with h | h
          · have := e3 x h; omega
          · rw [List.mem_singleton.1 h]; omega
      · rw [hj]
        exact ⟨_, rfl, rfl, e2, fun x hx => by have := e3 x hx; omega, by dsimp only; omega⟩) (fun s ⟨e1, e2, e3, e4⟩ => by
      obtain ⟨s1, s2⟩ := s
      dsimp only at e1 e2 e3 e4
      subst e1
      refine ⟨s2, ?_, e2, e3, e4⟩
      rw [m_overseerlaw03_Set_Events_l1]
      dsimp only
      rw [if_neg (by simp)]) (by omega) (0, []) ⟨rfl, List.Pairwise.nil, fun x hx => (by cases hx), by simp⟩
  exact ⟨o, by rw [m_overseerlaw03_Set_Events, h1]; rfl, h2⟩

theorem rempty_eq {xs : List Int} (h : xs.length ≤ 1000000) : m_overseerref03_Empty xs = some (xs, 0, [], []) := by
  rw [m_overseerref03_Empty, app_eq (by simp; omega)]; rfl
theorem rstep_eq {a : Aut} {s : Nat} {e : Int} (hl : a.es.length < 4611686018427387904) (ht : ∀ x ∈ a.es, 0 ≤ x.t) : m_overseerref03_Step (autP a) (s : Int) e = some (stF a.es s e) := by
  rw [← step_eq hl ht]
  have hb : m_overseerref03_Step_l1 (autP a) (s : Int) e = m_overseerlaw53_step_l1 (autP a) (s : Int) e := by
    funext st
    rw [m_overseerref03_Step_l1, m_overseerlaw53_step_l1]
    split
    · cases hx : idx (autP a).2.2.2 st with
      | none => rfl
      | some x =>
        rw [Option.bind_some, Option.bind_some, Option.bind_some, Option.bind_some]
        cases h1 : x.1 == (s : Int) <;> cases h2 : x.2.1 == e <;> simp
    · rfl
  rw [m_overseerref03_Step, m_overseerlaw53_step, hb]
theorem rhas_eq {xs : List Int} {x : Int} (hl : xs.length < 4611686018427387904) : m_overseerref03_has xs x = some (hasB xs x) := by
  have h := iter_scan (f := m_overseerref03_has_l1 xs x) (xs := xs) (fun i (_ : Unit) => (i : Int)) (fun _ _ y => if y == x then .inr (.inr ()) else .inl ()) (fun _ => .inl ()) (fun _ _ => True) (by omega) (fun i h _ _ => by
      rw [m_overseerref03_has_l1, if_pos (ct_lt h), idx_at h, Option.bind_some, nxt (by omega)]
      refine ⟨fun s' e => ?_, fun o e => ?_⟩
      · split at e
        · cases e
        · rename_i h1; rw [if_neg h1]; exact ⟨rfl, trivial⟩
      · split at e
        · rename_i h1; rw [if_pos h1]; cases e; rfl
        · cases e) (fun _ _ => by rw [m_overseerref03_has_l1, if_neg ct_ge]) (s := ()) trivial
  have key : ∀ (ys : List Int) (i : Nat), scanL (O := Unit ⊕ Unit) (fun _ (_ : Unit) y => if y == x then .inr (.inr ()) else .inl ()) (fun _ => .inl ()) i ys () = if hasB ys x = true then .inr () else .inl () := by
    intro ys
    induction ys with
    | nil => intro i; rfl
    | cons y ys ih =>
      intro i
      rw [scanL]
      by_cases hy : y = x
      · subst hy
        rw [if_pos (show (y == y) = true by simp), if_pos (hasB_true.2 List.mem_cons_self)]
      · rw [if_neg (show ¬ (y == x) = true by simpa using hy)]
        dsimp only
        rw [ih]
        have : hasB (y :: ys) x = hasB ys x := by
          rw [Bool.eq_iff_iff, hasB_true, hasB_true, List.mem_cons]
          exact ⟨fun h => h.resolve_left (fun e => hy e.symm), .inr⟩
        rw [this]
  rw [m_overseerref03_has, show iter (m_overseerref03_has_l1 xs x) 0 = _ from h, Option.bind_some, key]
  cases hasB xs x <;> rfl
theorem rindex_eq {xs : List Int} {x : Int} (hl : xs.length < 4611686018427387904) : m_overseerref03_index xs x = some (idxI xs x) := by
  have h := iter_scan (f := m_overseerref03_index_l1 xs x) (xs := xs) (fun i (_ : Unit) => (i : Int)) (fun i _ y => if y == x then .inr (.inr (i : Int)) else .inl ()) (fun _ => .inl ()) (fun _ _ => True) (by omega) (fun i h _ _ => by
      rw [m_overseerref03_index_l1, if_pos (ct_lt h), idx_at h, Option.bind_some, nxt (by omega)]
      refine ⟨fun s' e => ?_, fun o e => ?_⟩
      · split at e
        · cases e
        · rename_i h1; rw [if_neg h1]; exact ⟨rfl, trivial⟩
      · split at e
        · rename_i h1; rw [if_pos h1]; cases e; rfl
        · cases e) (fun _ _ => by rw [m_overseerref03_index_l1, if_neg ct_ge]) (s := ()) trivial
  have key : ∀ (ys : List Int) (i : Nat), scanL (O := Unit ⊕ Int) (fun i (_ : Unit) y => if y == x then .inr (.inr (i : Int)) else .inl ()) (fun _ => .inl ()) i ys () = if x ∈ ys then .inr (i + ys.idxOf x : Nat) else .inl () := by
    intro ys
    induction ys with
    | nil => intro i; rfl
    | cons y ys ih =>
      intro i
      rw [scanL]
      by_cases hy : y = x
      · subst hy
        rw [if_pos (show (y == y) = true by simp), if_pos List.mem_cons_self]
        simp
      · rw [if_neg (show ¬ (y == x) = true by simpa using hy)]
        dsimp only
        rw [ih]
        have hi : (y :: ys).idxOf x = ys.idxOf x + 1 := by
          rw [List.idxOf_cons, show (y == x) = false by simpa using hy]; rfl
        by_cases hm : x ∈ ys
        · rw [if_pos hm, if_pos (List.mem_cons_of_mem _ hm), hi]
          congr 2; omega
        · rw [if_neg hm, if_neg (fun h => (List.mem_cons.1 h).elim (fun e => hy e.symm) hm)]
  rw [m_overseerref03_index, show iter (m_overseerref03_index_l1 xs x) 0 = _ from h, Option.bind_some, key, idxI]
  by_cases hm : x ∈ xs
  · rw [if_pos hm, if_pos hm]; simp
  · rw [if_neg hm, if_neg hm]
end Go.Proofs.Ytkkemchihllklaa

