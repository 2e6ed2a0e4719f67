/- BlockingRefuses returns true for all arguments, and leaves its arguments as they were. The condition: three tables of Go's library (math/bits, internal/strconv) hold what their source text lays, and the card ties this to the text. -/
import Derived.Test.YtfbapajcheammaaGreatDoorQcy6
set_option maxRecDepth 100000
namespace Go.Proofs.YtfbapajcheammaaGreatDoor
open Go Go.RowKit
theorem known24R : m_overseerlaw24_known = some true := by kernel_rfl
theorem bpath_ex {p : AutT} {n : Nat} (hR : Right p n) {x : Int} (x0 : 0 ≤ x) {tg : List Int} (hi : Inc tg) (hr : ∀ y ∈ tg, 0 ≤ y ∧ y < (n : Int)) (hl : tg.length ≤ 1000000) : ∃ r, m_blocking_path p x tg = some r := by
 by_cases h : x < (n : Int)
 ·obtain ⟨r, h1, _⟩ := path_ex hR x0 h hi hr hl
  exact ⟨_, bpath_eq hR h h1⟩
 ·exact ⟨_, by rw [m_blocking_path, hR.nn, if_pos (by simp; omega)]⟩
theorem negL_inc (p : List Int) (k : Nat) : Inc (negL p k) := cast_inc k _
theorem negL_in (p : List Int) (k : Nat) : ∀ x ∈ negL p k, 0 ≤ x ∧ x < (k : Int) := cast_in k _
theorem nbl_ex {p : AutT} {n : Nat} (hR : Right p n) : ∃ rk, m_blocking_spread p p.2.2.1 = some rk ∧ ∃ bl, m_blocking_blocked rk = some bl ∧ ∃ r, m_blocking_path p 0 bl = some r := by
 have hnl := hR.nl
 have hl := bk_len hR hR.msr
 refine ⟨_, sprd hR hR.l2 hR.msr, _, blocked_eq (by omega), ?_⟩
 have h1 := negL_len (backward n (edsOf p) p.2.2.1) (backward n (edsOf p) p.2.2.1).length
 exact bpath_ex hR (Int.le_refl _) (negL_inc _ _) (fun y hy => by have := negL_in _ _ y hy; omega) (by omega)
theorem check_one {a : AutT} {e : Int} (h : m_automaton_Check a = some e) : m_product_Check [a] = some e := by
 obtain ⟨o, h1, h2⟩ := iter_inv (f := m_product_Check_l1 [a]) (fun i s => i ≤ 1 ∧ s = (i : Int) ∧ (i = 1 → e = 0)) (fun o => (match o with
   | .inl _ => 0
   | .inr u => u) = e) 1 0 (by omega) (fun i s hi ⟨_, e1, _⟩ => by
   obtain rfl : i = 0 := by omega
   subst e1
   rw [m_product_Check_l1, if_pos (by simp), show idx [a] ((0 : Nat) : Int) = some a from rfl, Option.bind_some, h, Option.bind_some]
   by_cases he : e = 0
   ·left
    rw [if_neg (by simpa using he)]
    exact ⟨_, rfl, by omega, rfl, fun _ => he⟩
   ·right
    rw [if_pos (by simpa using he)]
    exact ⟨_, rfl, rfl⟩) (fun s ⟨_, e1, e2⟩ => by
   subst e1
   rw [m_product_Check_l1, if_neg (by simp)]
   exact ⟨_, rfl, (e2 rfl).symm⟩) (Nat.zero_le _) 0 ⟨by omega, rfl, fun h => by omega⟩
 rw [m_product_Check, if_neg (by simp), h1, Option.bind_some]
 cases o with
 | inl u => rw [← h2]
 | inr u => rw [← h2]
theorem sync_r {a : AutT} {n : Nat} (hR : Right a n) (h8 : n ≤ 8) : ∃ p T N, m_product_Synchronous [a] = some (p, T, 0) ∧ Right p N := by
 by_cases h0 : n = 0
 ·subst h0
  obtain ⟨o, h1, _⟩ := open_one hR
  have hi : m_product_machine_initial ([a], a.1, [o]) = some ([], false) := by
   have h2 : iter (m_product_machine_initial_l1 ([a], a.1, [o])) 0 = some (.inr ()) := by
    refine iter_of (n := 1) (by omega) ?_
    rw [iterF_succ, m_product_machine_initial_l1]
    dsimp only
    rw [if_pos (by simp), show idx [a] 0 = some a from rfl, Option.bind_some, hR.nn, if_pos (by simp)]
   rw [m_product_machine_initial, h2]
   rfl
  refine ⟨(a.1, 0, [], []), [], 0, ?_, ⟨rfl, by omega, hR.ali, hR.alr, List.Pairwise.nil, fun x hx => (by cases hx), fun x hx => (by cases hx), List.Pairwise.nil, hR.l1, by simp, by simp⟩⟩
  rw [m_product_Synchronous, check_one hR.check, Option.bind_some, if_neg (by simp), h1, Option.bind_some, hi, Option.bind_some, if_pos (by simp)]
 ·obtain ⟨p, T, N, h1, h2⟩ := sync_exB (B := 8) (l := [a]) ⟨by simp, fun b hb => by
   rw [List.mem_singleton.1 hb]
   exact ⟨n, by omega, h8, hR⟩, by omega, by simp⟩
  exact ⟨p, T, N, h1, h2.right⟩
theorem refuses_jj {x k e : Int} {r64 r68 : List Int × Bool × Int} {n : Int} (w1 : Int) (hw1 : w1 = if (e == 0) && (decide (x < 0) || decide (x ≥ n)) then 2 else e) (w2 : Int) (hw2 : w2 = if (e == 0) && (decide (k < 1) || decide (k > 5)) then 11 else e)
  (h1 : r64.2.2 = w1 ∧ (w1 ≠ 0 → r64.1 = [] ∧ r64.2.1 = false)) (h2 : r68.2.2 = w2 ∧ (w2 ≠ 0 → r68.1 = [] ∧ r68.2.1 = false)) :
  (if ((e == 0) && (decide (x < 0) || decide (x ≥ n))) = true then m_overseerlaw24_BlockingRefuses_j1 k e r64 r68 2 else m_overseerlaw24_BlockingRefuses_j1 k e r64 r68 e) = some true := by
 have hj2 : ∀ w, w = w2 → m_overseerlaw24_BlockingRefuses_j2 r68 w = some true := fun w hw => by
  subst hw
  rw [m_overseerlaw24_BlockingRefuses_j2, h2.1]
  by_cases hz : w = 0
  ·simp [hz]
  ·rw [(h2.2 hz).1, (h2.2 hz).2]
   simp
 have hj1 : m_overseerlaw24_BlockingRefuses_j1 k e r64 r68 w1 = some true := by
  rw [m_overseerlaw24_BlockingRefuses_j1, h1.1]
  have hg : ((w1 != w1) || ((w1 != 0) && (decide ((r64.1.length : Int) > 0) || r64.2.1))) = false := by
   by_cases hz : w1 = 0
   ·simp [hz]
   ·rw [(h1.2 hz).1, (h1.2 hz).2]
    simp
  rw [hg, if_neg (by simp)]
  by_cases hk : ((e == 0) && (decide (k < 1) || decide (k > 5))) = true
  ·rw [if_pos hk]
   exact hj2 _ (by rw [hw2, if_pos hk])
  ·rw [if_neg hk]
   exact hj2 _ (by rw [hw2, if_neg hk])
 by_cases hx : ((e == 0) && (decide (x < 0) || decide (x ≥ n))) = true
 ·rw [if_pos hx]
  rw [hw1, if_pos hx] at hj1
  exact hj1
 ·rw [if_neg hx]
  rw [hw1, if_neg hx] at hj1
  exact hj1
theorem brefuses_law (p : AutT) (x k : Int) : m_overseerlaw24_BlockingRefuses p x k = some true := by
 rw [m_overseerlaw24_BlockingRefuses, known24R, Option.bind_some, if_neg (by simp), m_overseerlaw24_few, Option.bind_some, Option.bind_some]
 split
 ·rfl
 ·rename_i hf
  have hf2 : p.1.length ≤ 6 ∧ p.2.2.1.length ≤ 8 ∧ p.2.2.2.length ≤ 12 ∧ (p.2.1 ≤ 8 ∨ p.2.1 > 4096) := by
   simp at hf
   omega
  obtain ⟨h1, h2, h3, h4⟩ := hf2
  have hck := check_toAut (a := p) (by omega) (by omega) (by omega)
  rw [hck, Option.bind_some]
  by_cases he : (toAut p).err = 0
  ·have hR := right_ofR he (by omega) (by omega) (by omega)
   have hnl := hR.nl
   have hnn := hR.nn
   obtain ⟨n, hn⟩ : ∃ n, n = p.2.1.toNat := ⟨_, rfl⟩
   rw [← hn] at hR hnl hnn
   have h8 : n ≤ 8 := by omega
   rw [he] at hck ⊢
   obtain ⟨ks, k1, k2⟩ := bkinds_ex hR
   obtain ⟨Cs, _, _, t1⟩ := traps_ex hR
   obtain ⟨rk, r1, bl, r2, _⟩ := nbl_ex hR
   obtain ⟨q, T, N, s1, s2⟩ := sync_r hR h8
   obtain ⟨rk', q1, bl', q2, w', q3⟩ := nbl_ex s2
   have hKinds : m_blocking_Kinds p = some (ks, 0) := by rw [m_blocking_Kinds, hck, Option.bind_some, if_neg (by simp), k1]; rfl
   have hRanks : m_blocking_Ranks p = some (rk, 0) := by rw [m_blocking_Ranks, hck, Option.bind_some, if_neg (by simp), r1]; rfl
   have hBlocked : m_blocking_Blocked p = some (bl, 0) := by rw [m_blocking_Blocked, hRanks, Option.bind_some, if_neg (by simp), r2]; rfl
   have hNb : m_blocking_Nonblocking [p] = some (w'.1, !w'.2, 0) := by rw [m_blocking_Nonblocking, s1, Option.bind_some, if_neg (by simp), q1, Option.bind_some, q2, Option.bind_some, q3]; rfl
   have hSh : ∃ r, m_blocking_Shortest p x = some r ∧ r.2.2 = (if ((0 : Int) == 0) && (decide (x < 0) || decide (x ≥ p.2.1)) then 2 else 0) ∧ ((if ((0 : Int) == 0) && (decide (x < 0) || decide (x ≥ p.2.1)) then (2 : Int) else 0) ≠ 0 → r.1 = [] ∧ r.2.1 = false) := by
    rw [m_blocking_Shortest, hck, Option.bind_some, if_neg (by simp)]
    by_cases hx : (decide (x < 0) || decide (x ≥ p.2.1)) = true
    ·rw [if_pos hx, hx]
     exact ⟨_, rfl, rfl, fun _ => ⟨rfl, rfl⟩⟩
    ·have hx2 : (decide (x < 0) || decide (x ≥ p.2.1)) = false := by simpa using hx
     obtain ⟨r, hr⟩ := bpath_ex hR (x := x) (by simp at hx; omega) hR.msi hR.msr hR.l2
     rw [if_neg hx, hr, Option.bind_some, hx2]
     exact ⟨_, rfl, rfl, fun h => absurd rfl h⟩
   have hEs : ∃ r, m_blocking_Escape p k = some r ∧ r.2.2 = (if ((0 : Int) == 0) && (decide (k < 1) || decide (k > 5)) then 11 else 0) ∧ ((if ((0 : Int) == 0) && (decide (k < 1) || decide (k > 5)) then (11 : Int) else 0) ≠ 0 → r.1 = [] ∧ r.2.1 = false) := by
    rw [m_blocking_Escape, hck, Option.bind_some, if_neg (by simp)]
    by_cases hx : (decide (k < 1) || decide (k > 5)) = true
    ·rw [if_pos hx, hx]
     exact ⟨_, rfl, rfl, fun _ => ⟨rfl, rfl⟩⟩
    ·have hx2 : (decide (k < 1) || decide (k > 5)) = false := by simpa using hx
     have hkl := k2.1
     obtain ⟨r, hr⟩ := bpath_ex hR (x := 0) (Int.le_refl _) (tg := choL ks k k ks.length) (cast_inc _ _) (fun y hy => by have := cast_in _ _ y hy; omega) (by have := choL_len ks k k ks.length; omega)
     rw [if_neg hx, k1, Option.bind_some, escape_loop (by omega), Option.bind_some, hr, Option.bind_some, hx2]
     exact ⟨_, rfl, rfl, fun h => absurd rfl h⟩
   obtain ⟨r64, g1, g2⟩ := hSh
   obtain ⟨r68, g3, g4⟩ := hEs
   rw [hKinds, Option.bind_some, hRanks, Option.bind_some, hBlocked, Option.bind_some, t1, Option.bind_some, if_neg (by simp), s1, Option.bind_some, hNb, Option.bind_some, if_neg (by simp), if_neg (by simp), Option.bind_some, Option.bind_some, if_neg (by simp), g1, Option.bind_some, g3, Option.bind_some]
   exact refuses_jj _ rfl _ rfl g2 g4
  ·generalize hE : (toAut p).err = e at hck he
   have hz : (e == 0) = false := by simpa using he
   have hnz : (e != 0) = true := by simpa using he
   have hC : m_reach_Components p = some ([], e) := by rw [m_reach_Components, hck, Option.bind_some, if_pos hnz]
   have hKinds : m_blocking_Kinds p = some ([], e) := by rw [m_blocking_Kinds, hck, Option.bind_some, if_pos hnz]
   have hRanks : m_blocking_Ranks p = some ([], e) := by rw [m_blocking_Ranks, hck, Option.bind_some, if_pos hnz]
   have hBlocked : m_blocking_Blocked p = some ([], e) := by rw [m_blocking_Blocked, hRanks, Option.bind_some, if_pos hnz]
   have hTr : m_blocking_Traps p = some ([], [], e) := by rw [m_blocking_Traps, hC, Option.bind_some, if_pos hnz]
   have hS : m_product_Synchronous [p] = some (([], 0, [], []), [], e) := by rw [m_product_Synchronous, check_one hck, Option.bind_some, if_pos hnz]
   have hNb : m_blocking_Nonblocking [p] = some ([], false, e) := by rw [m_blocking_Nonblocking, hS, Option.bind_some, if_pos hnz]
   have hV : m_blocking_Verify [p] [] = some e := by rw [m_blocking_Verify, hS, Option.bind_some, if_pos hnz]
   have hSh : m_blocking_Shortest p x = some ([], false, e) := by rw [m_blocking_Shortest, hck, Option.bind_some, if_pos hnz]
   have hEs : m_blocking_Escape p k = some ([], false, e) := by rw [m_blocking_Escape, hck, Option.bind_some, if_pos hnz]
   rw [hKinds, Option.bind_some, hRanks, Option.bind_some, hBlocked, Option.bind_some, hTr, Option.bind_some, if_neg (by simp), hS, Option.bind_some, hNb, Option.bind_some, if_neg (by simp), if_pos hnz, hV, Option.bind_some, Option.bind_some, Option.bind_some, if_neg (by simp), hSh, Option.bind_some, hEs, Option.bind_some]
   exact refuses_jj e (by rw [hz]; rfl) e (by rw [hz]; rfl) ⟨rfl, fun _ => ⟨rfl, rfl⟩⟩ ⟨rfl, fun _ => ⟨rfl, rfl⟩⟩
end Go.Proofs.YtfbapajcheammaaGreatDoor

namespace Go.Proofs.YtfbapajcheammaaGreatDoor
open Go Go.ChangeShapes Go.WideShapes Go.ChangeAt Go.RowKit

theorem blockingRefuses_lifted (os : Os) (started : os.Started) (H : Type) (enc : TypeId × Value → H) :
  ReturnsInHanded {} Tryz.checked os 4 .any (fun w args => (Rows.blockingRefusesSpec.pre enc Tryz.prog Tryz.f4 [] false w args ∧ laidMetH Tryz.prog lay24 w) ∧ sizedMet enc Tryz.prog Tryz.f4 (OpenSpec.ofChange Rows.blockingRefusesSpec) false w args) (Rows.blockingRefusesSpec.post enc Tryz.prog Tryz.f4 false true false false) := by
 refine returnsInHanded_of_change_and (C := Tryz.checked) (X := fun w _ => laidMetH Tryz.prog lay24 w) (fun _ _ _ hh h => h.of_heap hh) Tryz.own started (by kernel_rfl) Tryz.func4
  (ChangeSpec.witness_shaped (enc := enc) (C := Tryz.checked) (os := os) (X := fun w _ => laidMetH Tryz.prog lay24 w) false (World.laidAll Tryz.prog os lay24) #[.agg #[.slice none 0 0, .int .i64 0, .slice none 0 0, .slice none 0 0], .int .i64 0, .int .i64 0] 8 (World.laidAll_os _ _ _) (World.shaped_of_ZipB (by kernel_rfl) (by kernel_rfl)) (by kernel_rfl) (by kernel_rfl) (by kernel_rfl) (lay24_met os _)) ?_
 intro W base args ds gs before hval0 hW _ _ _ _
 have hval : ∀ (j : Nat) t v, Tryz.f4.params[j]? = some t → args[j]? = some v → Value.okWide Tryz.prog W .any base t v := hval0
 have hW' := hW
 obtain ⟨p, q, hA0, hV, rfl, hfz, hnd⟩ := hW
 have hA : DataW.TrodAll enc Tryz.prog W 0 (fun _ => true) true Tryz.f4.params.toList args.toList ds p := hA0
 rw [Tryz.params4] at hA hval
 obtain ⟨v0, v1, v2, d0, d1, d2, p0, p1, p2, rfl, rfl, rfl, h0, h1, h2⟩ := trodAll_three hA
 obtain ⟨p, a0, c0, b0, e0, f0, g0, rfl, r0, s0, q0⟩ := arg_aut (hval 0 30 v0 rfl rfl) h0
 obtain ⟨x, rfl, rfl, rfl, wx⟩ := open_int Tryz.underlying3 (hval 1 3 v1 rfl rfl) h1
 obtain ⟨k, rfl, rfl, rfl, wk⟩ := open_int Tryz.underlying3 (hval 2 3 v2 rfl rfl) h2
 obtain ⟨rfl, rfl⟩ := trodVars_none hV
 clear hA0 hval0
 refine (m_overseerlaw24_BlockingRefuses_c (s := ⟨W, fun _ => 0⟩) r0 s0 q0 (brefuses_law p x k)).mono fun e W' ⟨v, s', hw, he, hm, hv⟩ => ?_
 subst hw
 subst he
 subst hv
 have hbl := hm.below
 exact ⟨_, rfl, law_post Tryz.laidOut hW' rfl (by kernel_rfl) (by kernel_rfl) Tryz.underlying4 rfl rfl rfl hbl⟩

theorem blockingRefuses_holds : Rows.BlockingRefusesSaid :=
 OpenClaim.holds_of_wide 4 Tryz.f4 rfl rfl rfl rfl rfl rfl rfl ⟨rfl, rfl, rfl, rfl, rfl⟩ rfl rfl rfl rfl rfl (by kernel_rfl) Tryz.func4 (by kernel_rfl)
  (of_decide_eq_true (by kernel_rfl)) (by unfold Func.isWrapper; first | (rw [if_pos (by decide +kernel)]; kernel_rfl) | (rw [if_neg (by decide +kernel)]; exact ⟨rfl, rfl⟩))
  (fun os started H enc _ => blockingRefuses_lifted os started H enc)
theorem blockingRefuses_card_holds : Rows.BlockingRefusesCardSaid :=
 Claim7.holds_tied_plain_at .later [] [.data, .data, .data] true _ false
  blockingRefuses_holds (fun _ h => by cases h) (by kernel_rfl) (fun _ h => by cases h) blockingRefuses_row_tie rfl ⟨rfl, rfl⟩ (by kernel_rfl) rfl
  (fun f fn hf hfn => by
   obtain rfl : f = 4 := Option.some.inj ((show Tryz.prog.funcNamed "overseer/overseerlaw24.BlockingRefuses" = some 4 by kernel_rfl).symm.trans hf) |>.symm
   obtain rfl : fn = Tryz.f4 := (Option.some.inj (Tryz.func4.symm.trans hfn)).symm
   exact ⟨by kernel_rfl, fun j t ht => by
    have hm : t ∈ Tryz.f4.params := Array.mem_of_getElem? ht
    have hall : (Tryz.f4.params.toList.all fun u => !(Tryz.prog.wantsStandIn u)) = true := by kernel_rfl
    exact (show Tryz.prog.wantsStandIn t = false by simpa using List.all_eq_true.1 hall t (Array.mem_toList_iff.2 hm))⟩)
  (by kernel_rfl)
end Go.Proofs.YtfbapajcheammaaGreatDoor
