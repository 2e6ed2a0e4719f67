/- ReachStates returns true. -/
import Derived.Test.YthchkddhibhenaaLawKit
import Derived.Test.YthchkddhibhenaaFwdL
import Derived.Test.YthchkddhibhenaaReachable
import Derived.Test.YthchkddhibhenaaDead
namespace Go.Proofs.Ythchkddhibhenaa
open Go.RowKit

theorem ListPost.zero {e : Int} {xs : List Int} {u : Value} {w' : World} (h0 : e = 0) (h : ListPost e xs u w') : ∃ v, u = .tuple #[v, .int .i64 0] ∧ RdI w' v xs := by
  rwa [ListPost, if_pos h0] at h

set_option maxRecDepth 100000 in
set_option maxHeartbeats 2400000 in
theorem reachStates_any (xs : List Int) (hd : Desc xs) (w : World) :
    Calls Try.prog 6 #[.agg (bytes8 xs)] w (Ret w fun u _ => u = .bool true) := by
  have Hsz := Lib.hid hd.size
  have hmake := fun w => make_any xs w hd
  have Hmake := Lib.hid hmake
  clear hd hmake
  generalize bytes8 xs = cs at *
  have hN := mkN_le xs
  have hsm := mkA_small xs
  have herr := mkA_err xs
  have hes := mkA_es xs
  have hes4 : (mkA xs).es.length ≤ 100000 := by
    have := mkEs_le xs (mkN xs)
    show (mkEs xs (mkN xs)).length ≤ 100000
    omega
  have hms4 : (mkA xs).ms.length ≤ 100000 := by
    have := bitsL_le (xs.getD 1 0) (mkN xs)
    show (bitsL (xs.getD 1 0) (mkN xs)).length ≤ 100000
    omega
  have hinc : Inc (mkA xs).ms := bitsL_pairwise _ _
  have hmsr : ∀ s ∈ (mkA xs).ms, 0 ≤ s ∧ s < (mkN xs : Int) := bitsL_in _ _
  have hal : ∀ x ∈ (mkA xs).es, hasB (mkA xs).al x.e = true := by
    intro x hx
    have h := mkEs_mem hx
    rw [hasB_true]
    show x.e ∈ [0, 1, 2, 3]
    have : x.e = 0 ∨ x.e = 1 ∨ x.e = 2 ∨ x.e = 3 := by omega
    rcases this with h | h | h | h <;> rw [h] <;> decide
  have hR : listL (reachF (mkN xs) (mkA xs).es) = rreachL (mkA xs).es (mkN xs) (mkA xs).al := by
    rw [reachF, if_neg (by omega)]
    exact reach_says (mkA_sorted xs) hes hal (by omega)
  have hC : corea (mkA xs) = coreaR (mkA xs).es (mkA xs).ms := corea_says (mkA xs) (mkN xs) rfl (by omega) hes hmsr hinc
  have h1 := fun (W : World) (v : Value) (h0 : RdA W v (mkA xs)) => (reachables_any v (mkA xs) W h0 hsm).mono (R' := Ret W fun u w' => ∃ v, u = .tuple #[v, .int .i64 0] ∧ RdI w' v (rreachL (mkA xs).es (mkN xs) (mkA xs).al)) (fun e w' ⟨u, he, hu, hb⟩ => ⟨u, he, by have := ListPost.zero herr hu; rwa [show listL (reachF (mkA xs).n.toNat (mkA xs).es) = _ from hR] at this, hb⟩)
  have h2 := fun (W : World) (v : Value) (h0 : RdA W v (mkA xs)) => (corea_any v (mkA xs) W h0 hsm).mono (R' := Ret W fun u w' => ∃ v, u = .tuple #[v, .int .i64 0] ∧ RdI w' v (coreaR (mkA xs).es (mkA xs).ms)) (fun e w' ⟨u, he, hu, hb⟩ => ⟨u, he, by have := ListPost.zero herr hu; rwa [hC] at this, hb⟩)
  have h3 := fun (W : World) (v : Value) (h0 : RdA W v (mkA xs)) => (dead_any v (mkA xs) W h0 hsm).mono (R' := Ret W fun u w' => ∃ v, u = .tuple #[v, .int .i64 0] ∧ RdI w' v (selL (deadB (mkA xs).es) (mkN xs))) (fun e w' ⟨u, he, hu, hb⟩ => ⟨u, he, ListPost.zero herr hu, hb⟩)
  have r1 := fun (W : World) (v : Value) (h0 : RdA W v (mkA xs)) => rreach_any v (mkA xs).al (mkA xs).ms (mkN xs) (mkA xs).es W h0 hsm hes4 (by omega)
  have r2 := fun (W : World) (v : Value) (h0 : RdA W v (mkA xs)) => rcorea_any v (mkA xs) W h0 hinc (by omega)
  have r3 := fun (W : World) (v : Value) (h0 : RdA W v (mkA xs)) => rdead_any v (mkA xs).al (mkA xs).ms (mkN xs) (mkA xs).es W h0 (by omega) (by omega)
  have l1 : (rreachL (mkA xs).es (mkN xs) (mkA xs).al).length ≤ 1000000 := by
    rw [← hR]
    have := listK_le (reachF (mkN xs) (mkA xs).es) (reachF (mkN xs) (mkA xs).es).length
    have h5 : (reachF (mkN xs) (mkA xs).es).length = mkN xs := by
      rw [reachF, if_neg (by omega)]
      exact forwardF_length (mkN xs) (mkA xs).es [0] (fun x hx => (hes x hx).2.2) (fun s hs => by rw [List.mem_singleton.1 hs]; omega)
    unfold listL
    omega
  have l2 : (coreaR (mkA xs).es (mkA xs).ms).length ≤ 1000000 := by
    have h5 := fLoop_len (es := (mkA xs).es.map flipE) (within := (mkA xs).es.map Ed.f) (evs := (mkA xs).es.map Ed.e) ((mkA xs).es.length + 1) hinc
    have h6 := news_le ((mkA xs).es.map flipE) (mkA xs).ms
    simp only [List.length_map] at h6
    unfold coreaR
    omega
  have l3 : (selL (deadB (mkA xs).es) (mkN xs)).length ≤ 1000000 := by
    have := selL_le (deadB (mkA xs).es) (mkN xs)
    omega
  clear hsm herr hes hes4 hms4 hinc hmsr hal hR hC
  generalize rreachL (mkA xs).es (mkN xs) (mkA xs).al = L1 at *
  generalize coreaR (mkA xs).es (mkA xs).ms = L2 at *
  generalize selL (deadB (mkA xs).es) (mkN xs) = L3 at *
  have H1 := Lib.hid h1
  have H2 := Lib.hid h2
  have H3 := Lib.hid h3
  have R1 := Lib.hid r1
  have R2 := Lib.hid r2
  have R3 := Lib.hid r3
  clear h1 h2 h3 r1 r2 r3
  go_enter Try.func6, Try.ntmps6
  go_wp2_with fail
  refine (known_any _).mono ?_
  rintro e w1 ⟨_, rfl, rfl, hbk⟩
  have hW1 := ((Below.refl w.heap.size w).alloc (Nat.le_refl _) (.cells cs 25)).trans (hbk.mono (by simp))
  have hx1 : w1.heap[w.heap.size]? = some (.cells cs 25 (0, 0)) := (hbk.block _ (by simp)).trans (heap_at rfl)
  have Hx1 := Lib.hid hx1
  clear hbk hx1
  go_wp2_with (first | (with_reducible refine wpList_load_row rfl 25 (.tmp 1) rfl w.heap.size rfl 25 cs (0, 0) _ (Hx1.out) Try.underlying25 rfl Hsz.out ?_) | (go_at_call 13; refine (Hmake.out _).mono ?_; rintro e w2 ⟨v2, rfl, ha2, hb2⟩; have hW2 := hW1.trans (hb2.mono hW1.size); have Ha2 := Lib.hid ha2; obtain ⟨aa, ca, am, cm, ae, ce, rfl⟩ := mkA_val ha2; clear ha2 hb2))
  have hAl := bel_alloc w2 (.cells #[.slice aa 4 ca, .int .i64 (mkN xs : Nat), .slice am (mkA xs).ms.length cm, .slice ae (mkA xs).es.length ce] 31)
  have Ha3 := Lib.hid (Ha2.out.mono hAl)
  have hW3 := hW2.trans (hAl.mono hW2.size)
  clear hAl
  refine (H1.out _ _ Ha3.out).mono ?_
  rintro e w4 ⟨_, rfl, ⟨v4, rfl, hr4⟩, hb4⟩
  have hW4 := hW3.trans (hb4.mono hW3.size)
  have Ha4 := Lib.hid (Ha3.out.mono hb4)
  have Rd4 := Lib.hid hr4
  obtain ⟨a4, c4, rfl, hx4⟩ := hr4
  clear hx4
  obtain ⟨p40, p41, p42, p43, p44⟩ := box4 hb4
  have Hx4 := Lib.hid (And.intro p40 (And.intro p41 (And.intro p42 (And.intro p43 p44))))
  clear hb4
  go_wp2_with fail
  refine (H2.out _ _ Ha4.out).mono ?_
  rintro e w5 ⟨_, rfl, ⟨v5, rfl, hr5⟩, hb5⟩
  have hW5 := hW4.trans (hb5.mono hW4.size)
  have Ha5 := Lib.hid (Ha4.out.mono hb5)
  have Rd4 := Lib.hid (Rd4.out.mono hb5)
  have Rd5 := Lib.hid hr5
  obtain ⟨a5, c5, rfl, hx5⟩ := hr5
  clear hx5
  obtain ⟨p50, p51, p52, p53, p54⟩ := box4' Hx4.out hb5
  have Hx5 := Lib.hid (And.intro p50 (And.intro p51 (And.intro p52 (And.intro p53 p54))))
  clear p40 p41 p42 p43 p44
  clear hb5
  go_wp2_with fail
  refine (H3.out _ _ Ha5.out).mono ?_
  rintro e w6 ⟨_, rfl, ⟨v6, rfl, hr6⟩, hb6⟩
  have hW6 := hW5.trans (hb6.mono hW5.size)
  have Ha6 := Lib.hid (Ha5.out.mono hb6)
  have Rd4 := Lib.hid (Rd4.out.mono hb6)
  have Rd5 := Lib.hid (Rd5.out.mono hb6)
  have Rd6 := Lib.hid hr6
  obtain ⟨a6, c6, rfl, hx6⟩ := hr6
  clear hx6
  obtain ⟨p60, p61, p62, p63, p64⟩ := box4' Hx5.out hb6
  have Hx6 := Lib.hid (And.intro p60 (And.intro p61 (And.intro p62 (And.intro p63 p64))))
  clear p50 p51 p52 p53 p54
  clear hb6
  go_wp2_with fail
  refine (R1.out _ _ Ha6.out).mono ?_
  rintro e w7 ⟨v7, rfl, hr7, hb7⟩
  have hW7 := hW6.trans (hb7.mono hW6.size)
  have Ha7 := Lib.hid (Ha6.out.mono hb7)
  have Rd4 := Lib.hid (Rd4.out.mono hb7)
  have Rd5 := Lib.hid (Rd5.out.mono hb7)
  have Rd6 := Lib.hid (Rd6.out.mono hb7)
  have Rd7 := Lib.hid hr7
  obtain ⟨a7, c7, rfl, hx7⟩ := hr7
  clear hx7
  obtain ⟨p70, p71, p72, p73, p74⟩ := box4' Hx6.out hb7
  have Hx7 := Lib.hid (And.intro p70 (And.intro p71 (And.intro p72 (And.intro p73 p74))))
  clear p60 p61 p62 p63 p64
  clear hb7
  go_wp2_with fail
  refine (same_any _ _ L1 L1 _ Rd4.out Rd7.out l1 l1).mono ?_
  rintro e w8 ⟨_, rfl, rfl, hb8⟩
  rw [sameB_true.2 (rfl : L1 = L1)]
  have hW8 := hW7.trans (hb8.mono hW7.size)
  have Ha8 := Lib.hid (Ha7.out.mono hb8)
  have Rd5 := Lib.hid (Rd5.out.mono hb8)
  have Rd6 := Lib.hid (Rd6.out.mono hb8)
  obtain ⟨p80, p81, p82, p83, p84⟩ := box4' Hx7.out hb8
  have Hx8 := Lib.hid (And.intro p80 (And.intro p81 (And.intro p82 (And.intro p83 p84))))
  clear p70 p71 p72 p73 p74
  clear hb8
  go_wp2_with fail
  refine (R2.out _ _ Ha8.out).mono ?_
  rintro e w9 ⟨v9, rfl, hr9, hb9⟩
  have hW9 := hW8.trans (hb9.mono hW8.size)
  have Ha9 := Lib.hid (Ha8.out.mono hb9)
  have Rd5 := Lib.hid (Rd5.out.mono hb9)
  have Rd6 := Lib.hid (Rd6.out.mono hb9)
  have Rd9 := Lib.hid hr9
  obtain ⟨a9, c9, rfl, hx9⟩ := hr9
  clear hx9
  obtain ⟨p90, p91, p92, p93, p94⟩ := box4' Hx8.out hb9
  have Hx9 := Lib.hid (And.intro p90 (And.intro p91 (And.intro p92 (And.intro p93 p94))))
  clear p80 p81 p82 p83 p84
  clear hb9
  go_wp2_with fail
  refine (same_any _ _ L2 L2 _ Rd5.out Rd9.out l2 l2).mono ?_
  rintro e w10 ⟨_, rfl, rfl, hb10⟩
  rw [sameB_true.2 (rfl : L2 = L2)]
  have hW10 := hW9.trans (hb10.mono hW9.size)
  have Ha10 := Lib.hid (Ha9.out.mono hb10)
  have Rd6 := Lib.hid (Rd6.out.mono hb10)
  obtain ⟨p100, p101, p102, p103, p104⟩ := box4' Hx9.out hb10
  have Hx10 := Lib.hid (And.intro p100 (And.intro p101 (And.intro p102 (And.intro p103 p104))))
  clear p90 p91 p92 p93 p94
  clear hb10
  go_wp2_with fail
  refine (R3.out _ _ Ha10.out).mono ?_
  rintro e w11 ⟨v11, rfl, hr11, hb11⟩
  have hW11 := hW10.trans (hb11.mono hW10.size)
  have Ha11 := Lib.hid (Ha10.out.mono hb11)
  have Rd6 := Lib.hid (Rd6.out.mono hb11)
  have Rd11 := Lib.hid hr11
  obtain ⟨a11, c11, rfl, hx11⟩ := hr11
  clear hx11
  obtain ⟨p110, p111, p112, p113, p114⟩ := box4' Hx10.out hb11
  have Hx11 := Lib.hid (And.intro p110 (And.intro p111 (And.intro p112 (And.intro p113 p114))))
  clear p100 p101 p102 p103 p104
  clear hb11
  go_wp2_with fail
  refine (same_any _ _ L3 L3 _ Rd6.out Rd11.out l3 l3).mono ?_
  rintro e w12 ⟨_, rfl, rfl, hb12⟩
  rw [sameB_true.2 (rfl : L3 = L3)]
  have hW12 := hW11.trans (hb12.mono hW11.size)
  clear hb12
  go_wp2_with fail
  go_ret
  exact ⟨_, rfl, rfl, hW12⟩
end Go.Proofs.Ythchkddhibhenaa
