/- ReachCloses returns true. -/
import Derived.Test.YthchkddhibhenaaLawKit
import Derived.Test.YthchkddhibhenaaIntL
namespace Go.Proofs.Ythchkddhibhenaa
open Go.RowKit

theorem mk_set (xs : List Int) (set evs : List Int) (h1 : setErr (mkN xs) none set = 0) (h2 : setErr 32 none evs = 0) : err2 (mkA xs).err (err2 (setErr (mkA xs).n none set) (setErr 32 none evs)) = 0 := by
  rw [err2, if_pos (mkA_err xs), err2, if_pos (show setErr (mkA xs).n none set = 0 from h1)]; exact h2
theorem bits8_err (b : Int) : setErr 32 none (bitsL b 8) = 0 := setErr_ok (bitsL_pairwise b 8) (fun x hx => by have := bitsL_in b 8 x hx; omega) (fun q hq => by cases hq)

set_option maxRecDepth 100000 in
set_option maxHeartbeats 2400000 in
theorem reachCloses_any (xs : List Int) (hd : Desc xs) (b c : Int) (hb0 : 0 ≤ b) (hb1 : b < 256) (hc0 : 0 ≤ c) (hc1 : c < 256) (w : World) :
    Calls Try.prog 5 #[.agg (bytes8 xs), .int .u8 b, .int .u8 c] w (Ret w fun u _ => u = .bool true) := by
  have Hsz := Lib.hid hd.size
  have hmake := fun w => make_any xs w hd
  have Hmake := Lib.hid hmake
  clear hd hmake
  generalize bytes8 xs = cs at *
  have hN := mkN_le xs
  have hLle : (bitsL b (mkN xs)).length ≤ 1000000 := by have := bitsL_le b (mkN xs); omega
  have hEle : (bitsL c 8).length ≤ 1000000 := by have := bitsL_le c 8; omega
  have hsm := mkA_small xs
  have hes4 : (mkA xs).es.length ≤ 100000 := by
    have := mkEs_le xs (mkN xs)
    show (mkEs xs (mkN xs)).length ≤ 100000
    omega
  have hE := mk_set xs _ _ (bitsL_err b (mkN xs)) (bits8_err c)
  obtain ⟨hI1, hI2, hI3, hI4⟩ := interior_says (evs := bitsL c 8) (mkA_es xs) (bitsL_in b (mkN xs)) (bitsL_pairwise b (mkN xs))
  have hE2 := mk_set xs _ _ hI3 (bits8_err c)
  have HclosedA := Lib.hid (fun (W : World) (v vs vv : Value) (h0 : RdA W v (mkA xs)) (h1 : RdI W vs (bitsL b (mkN xs))) (h2 : RdI W vv (bitsL c 8)) => closed_any v vs vv (mkA xs) (bitsL b (mkN xs)) (bitsL c 8) W h0 hsm h1 h2 hLle hEle)
  have HintA := Lib.hid (fun (W : World) (v vs vv : Value) (h0 : RdA W v (mkA xs)) (h1 : RdI W vs (bitsL b (mkN xs))) (h2 : RdI W vv (bitsL c 8)) => interior_any v vs vv (mkA xs) (bitsL b (mkN xs)) (bitsL c 8) W h0 hsm h1 h2 hLle hEle)
  have HclosedR := Lib.hid (fun (W : World) (v vs vv : Value) (h0 : RdA W v (mkA xs)) (h1 : RdI W vs (bitsL b (mkN xs))) (h2 : RdI W vv (bitsL c 8)) => rclosed_any v vs vv (mkA xs) (bitsL b (mkN xs)) (bitsL c 8) W h0 hsm h1 h2 hLle hEle)
  have HintR := Lib.hid (fun (W : World) (v vs vv : Value) (h0 : RdA W v (mkA xs)) (h1 : RdI W vs (bitsL b (mkN xs))) (h2 : RdI W vv (bitsL c 8)) => rinterior_any v vs vv (mkA xs).al (mkA xs).ms (bitsL b (mkN xs)) (bitsL c 8) (mkN xs) (mkA xs).es W h0 hsm h1 h2 hLle hEle hes4 (by omega))
  have HclosedB := Lib.hid (fun (W : World) (v vs vv : Value) (h0 : RdA W v (mkA xs)) (h1 : RdI W vs (interior (mkN xs) (mkA xs).es (bitsL b (mkN xs)) (bitsL c 8))) (h2 : RdI W vv (bitsL c 8)) => closed_any v vs vv (mkA xs) (interior (mkN xs) (mkA xs).es (bitsL b (mkN xs)) (bitsL c 8)) (bitsL c 8) W h0 hsm h1 h2 (by omega) hEle)
  have HE := Lib.hid hE
  have HE2 := Lib.hid hE2
  have HI1 := Lib.hid hI1
  have HI2 := Lib.hid hI2
  have HI4 := Lib.hid hI4
  clear hsm hes4 hE hE2 hI1 hI2 hI3 hI4
  go_enter Try.func5, Try.ntmps5
  go_wp2_with fail
  refine (known_any _).mono ?_
  rintro e w1 ⟨_, rfl, rfl, hbk⟩
  have hW1 := ((Below.refl w.heap.size w).alloc (Nat.le_refl _) (.cells cs 25)).trans (hbk.mono (by simp))
  have hx1 : w1.heap[w.heap.size]? = some (.cells cs 25 (0, 0)) := (hbk.block _ (by simp)).trans (heap_at rfl)
  have Hx1 := Lib.hid hx1
  clear hbk hx1
  go_wp2_with (first | (with_reducible refine wpList_load_row rfl 25 (.tmp 3) rfl w.heap.size rfl 25 cs (0, 0) _ (Hx1.out) Try.underlying25 rfl Hsz.out ?_) | (go_at_call 13; refine (Hmake.out _).mono ?_; rintro e w2 ⟨v2, rfl, ha2, hb2⟩; have hW2 := hW1.trans (hb2.mono hW1.size); have Ha2 := Lib.hid ha2; obtain ⟨aa, ca, am, cm, ae, ce, rfl⟩ := mkA_val ha2; clear ha2 hb2))
  refine (bits_any b (mkN xs) _ hb0 hb1 (by omega)).mono ?_
  rintro e w3 ⟨v3, rfl, hown3, hb3⟩
  have hW3 : Below w.heap.size w w3 := (hW2.alloc hW2.size _).trans (hb3.mono (Nat.le_trans hW2.size (by simp)))
  have HL3 := Lib.hid (RdI.of_own hown3)
  obtain ⟨a3, c3, rfl, hr3⟩ := RdS.of_own hown3
  have hbx := box4 hb3
  have Ha3 := Lib.hid ((Ha2.out.mono (bel_alloc _ (.cells #[.slice aa 4 ca, .int .i64 (mkN xs : Nat), .slice am (mkA xs).ms.length cm, .slice ae (mkA xs).es.length ce] 31))).mono hb3)
  clear hown3 hr3 hb3 Ha2
  go_wp2_with fail
  refine (bits_any c 8 _ hc0 hc1 (by omega)).mono ?_
  rintro e w4 ⟨v4, rfl, hown4, hb4⟩
  have hW4 := hW3.trans (hb4.mono hW3.size)
  have HL4 := Lib.hid (HL3.out.mono hb4)
  have Ha4 := Lib.hid (Ha3.out.mono hb4)
  have HV4 := Lib.hid (RdI.of_own hown4)
  obtain ⟨a4, c4, rfl, hr4⟩ := RdS.of_own hown4
  have hbx4 := box4' hbx hb4
  clear hown4 hr4 hb4 hbx HL3 Ha3
  obtain ⟨y0, y1, y2, y3, y4⟩ := hbx4
  have hbx4 := Lib.hid (And.intro y0 (And.intro y1 (And.intro y2 (And.intro y3 y4))))
  go_wp2_with fail
  refine (HclosedA.out _ _ _ _ Ha4.out HL4.out HV4.out).mono ?_
  rintro e w5 ⟨v5, rfl, hp5, hb5⟩
  have hW5 := hW4.trans (hb5.mono hW4.size)
  have HL5 := Lib.hid (HL4.out.mono hb5)
  have Ha5 := Lib.hid (Ha4.out.mono hb5)
  have HV5 := Lib.hid (HV4.out.mono hb5)
  rw [CPost, if_pos HE.out] at hp5
  subst hp5
  obtain ⟨z0, z1, z2, z3, z4⟩ := box4' hbx4.out hb5
  have hbx5 := Lib.hid (And.intro z0 (And.intro z1 (And.intro z2 (And.intro z3 z4))))
  clear y0 y1 y2 y3 y4 hb5 Ha4 HL4 HV4
  generalize hcl : closedL (mkA xs).es (bitsL b (mkN xs)) (bitsL c 8) = cl at *
  have Hcl := Lib.hid hcl
  clear hcl
  go_wp2_with fail
  refine (HintA.out _ _ _ _ Ha5.out HL5.out HV5.out).mono ?_
  rintro e w6 ⟨v6, rfl, hp6, hb6⟩
  have hW6 := hW5.trans (hb6.mono hW5.size)
  have HL6 := Lib.hid (HL5.out.mono hb6)
  have Ha6 := Lib.hid (Ha5.out.mono hb6)
  have HV6 := Lib.hid (HV5.out.mono hb6)
  rw [ListPost, if_pos HE.out] at hp6
  have hp6' : ∃ v, v6 = .tuple #[v, .int .i64 0] ∧ RdI w6 v (interior (mkN xs) (mkA xs).es (bitsL b (mkN xs)) (bitsL c 8)) := hp6
  clear hp6
  obtain ⟨u0, u1, u2, u3, u4⟩ := box4' hbx5.out hb6
  have hbx6 := Lib.hid (And.intro u0 (And.intro u1 (And.intro u2 (And.intro u3 u4))))
  clear z0 z1 z2 z3 z4 hb6 Ha5 HL5 HV5
  generalize interior (mkN xs) (mkA xs).es (bitsL b (mkN xs)) (bitsL c 8) = IN at *
  have hIN : IN.length ≤ 1000000 := by have := HI4.out; omega
  obtain ⟨v7, rfl, hr7⟩ := hp6'
  have HR7 := Lib.hid hr7
  obtain ⟨a7, c7, rfl, hr7'⟩ := hr7
  clear hr7'
  go_wp2_with fail
  refine (HclosedR.out _ _ _ _ Ha6.out HL6.out HV6.out).mono ?_
  rintro e w8 ⟨_, rfl, rfl, hb8⟩
  have hW8 := hW6.trans (hb8.mono hW6.size)
  have HL8 := Lib.hid (HL6.out.mono hb8)
  have Ha8 := Lib.hid (Ha6.out.mono hb8)
  have HV8 := Lib.hid (HV6.out.mono hb8)
  have HR8 := Lib.hid (HR7.out.mono hb8)
  obtain ⟨s0, s1, s2, s3, s4⟩ := box4' hbx6.out hb8
  have hbx8 := Lib.hid (And.intro s0 (And.intro s1 (And.intro s2 (And.intro s3 s4))))
  clear u0 u1 u2 u3 u4 hb8 Ha6 HL6 HV6 HR7
  have hclq : (cl != cl) = false := by simp
  go_wp2_with fail
  refine (HintR.out _ _ _ _ Ha8.out HL8.out HV8.out).mono ?_
  rintro e w9 ⟨v9, rfl, hr9, hb9⟩
  rw [← HI1.out] at hr9
  have hW9 := hW8.trans (hb9.mono hW8.size)
  have Ha9 := Lib.hid (Ha8.out.mono hb9)
  have HV9 := Lib.hid (HV8.out.mono hb9)
  have HR9 := Lib.hid (HR8.out.mono hb9)
  obtain ⟨t0, t1, t2, t3, t4⟩ := box4' hbx8.out hb9
  have hbx9 := Lib.hid (And.intro t0 (And.intro t1 (And.intro t2 (And.intro t3 t4))))
  clear s0 s1 s2 s3 s4 hb9 Ha8 HL8 HV8 HR8
  have Hr9 := Lib.hid hr9
  obtain ⟨a9, c9, rfl, hr9'⟩ := hr9
  clear hr9'
  go_wp2_with fail
  refine (same_any _ _ IN IN _ HR9.out Hr9.out hIN hIN).mono ?_
  rintro e w10 ⟨_, rfl, rfl, hb10⟩
  rw [sameB_true.2 (rfl : IN = IN)]
  have hW10 := hW9.trans (hb10.mono hW9.size)
  have Ha10 := Lib.hid (Ha9.out.mono hb10)
  have HV10 := Lib.hid (HV9.out.mono hb10)
  have HR10 := Lib.hid (HR9.out.mono hb10)
  obtain ⟨r0, r1, r2, r3, r4⟩ := box4' hbx9.out hb10
  clear t0 t1 t2 t3 t4 hb10 Ha9 HV9 HR9
  go_wp2_with fail
  refine (HclosedB.out _ _ _ _ Ha10.out HR10.out HV10.out).mono ?_
  rintro e w11 ⟨v11, rfl, hp11, hb11⟩
  rw [CPost, if_pos HE2.out, HI2.out] at hp11
  subst hp11
  have hW11 := hW10.trans (hb11.mono hW10.size)
  go_wp2_with fail
  go_ret
  exact ⟨_, rfl, rfl, hW11⟩
end Go.Proofs.Ythchkddhibhenaa
