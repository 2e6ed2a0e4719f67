/- ReachRestricts returns true. -/
import Derived.Test.YthchkddhibhenaaRS9
import Derived.Test.YthchkddhibhenaaRS10
import Derived.Test.YthchkddhibhenaaRS14
import Derived.Test.YthchkddhibhenaaRS15
import Derived.Test.YthchkddhibhenaaRS18
namespace Go.Proofs.Ythchkddhibhenaa
open Go Go.RowKit

/-- What holds of the slots of a region. -/
def RL7 (Av : Value) (Rv : Value) (Tv : Value) (vL : Value) (R : Aut) (T : Aut) (C : List Int) : Nat → Value → World → Prop
  | 0, v, _ => v = .int .i64 0
  | 1, v, _ => v = .bool true
  | 2, v, _ => v = .bool true
  | 3, v, _ => v = .int .i64 0
  | 4, v, _ => v = .bool true
  | 5, v, _ => v = .bool true
  | 6, v, _ => v = .bool true
  | 7, v, _ => v = Rv
  | 8, v, _ => v = Av
  | 9, v, _ => v = vL
  | 10, v, W => RdA W v R ∧ ∃ v1 v2 v3 n, v = .agg #[v1, .int .i64 n, v2, v3]
  | 11, v, _ => v = .bool true
  | 12, v, _ => v = .bool true
  | 13, v, _ => v = .bool true
  | 14, v, _ => v = Tv
  | 15, v, _ => v = Av
  | 16, v, _ => v = Av
  | 17, v, W => ∃ a c, v = .slice a (C).length c ∧ RdI W v (C)
  | 18, v, W => RdA W v T ∧ ∃ v1 v2 v3 n, v = .agg #[v1, .int .i64 n, v2, v3]
  | 19, v, _ => v = .bool true
  | 20, v, _ => v = .bool true
  | 21, v, _ => v = .bool true
  | 22, v, _ => v = Rv
  | 23, v, _ => v = .bool true
  | 24, v, _ => v = .bool true
  | 25, v, _ => v = .bool true
  | 26, v, _ => v = Tv
  | 27, v, _ => v = .bool true
  | 28, v, _ => v = .bool true
  | 29, v, _ => v = .bool true
  | _ + 30, _, _ => False
theorem RL7_mono {Av : Value} {Rv : Value} {Tv : Value} {vL : Value} {R : Aut} {T : Aut} {C : List Int} : ∀ j v W W', Below W.heap.size W W' → RL7 Av Rv Tv vL R T C j v W → RL7 Av Rv Tv vL R T C j v W'
  | 0, _, _, _, _, h => h
  | 1, _, _, _, _, h => h
  | 2, _, _, _, _, h => h
  | 3, _, _, _, _, h => h
  | 4, _, _, _, _, h => h
  | 5, _, _, _, _, h => h
  | 6, _, _, _, _, h => h
  | 7, _, _, _, _, h => h
  | 8, _, _, _, _, h => h
  | 9, _, _, _, _, h => h
  | 10, _, _, _, hb, h => ⟨h.1.mono hb, h.2⟩
  | 11, _, _, _, _, h => h
  | 12, _, _, _, _, h => h
  | 13, _, _, _, _, h => h
  | 14, _, _, _, _, h => h
  | 15, _, _, _, _, h => h
  | 16, _, _, _, _, h => h
  | 17, _, _, _, hb, ⟨a, c, h1, h2⟩ => ⟨a, c, h1, h2.mono hb⟩
  | 18, _, _, _, hb, h => ⟨h.1.mono hb, h.2⟩
  | 19, _, _, _, _, h => h
  | 20, _, _, _, _, h => h
  | 21, _, _, _, _, h => h
  | 22, _, _, _, _, h => h
  | 23, _, _, _, _, h => h
  | 24, _, _, _, _, h => h
  | 25, _, _, _, _, h => h
  | 26, _, _, _, _, h => h
  | 27, _, _, _, _, h => h
  | 28, _, _, _, _, h => h
  | 29, _, _, _, _, h => h
  | _ + 30, _, _, _, _, h => h.elim
theorem list_RL7 {us : List Value} (h : us.length = 30) : ∃ u0 u1 u2 u3 u4 u5 u6 u7 u8 u9 u10 u11 u12 u13 u14 u15 u16 u17 u18 u19 u20 u21 u22 u23 u24 u25 u26 u27 u28 u29, us = [u0, u1, u2, u3, u4, u5, u6, u7, u8, u9, u10, u11, u12, u13, u14, u15, u16, u17, u18, u19, u20, u21, u22, u23, u24, u25, u26, u27, u28, u29] := by
  match us, h with
  | [u0, u1, u2, u3, u4, u5, u6, u7, u8, u9, u10, u11, u12, u13, u14, u15, u16, u17, u18, u19, u20, u21, u22, u23, u24, u25, u26, u27, u28, u29], _ => exact ⟨_, _, _, _, _, _, _, _, _, _, _, _, _, _, _, _, _, _, _, _, _, _, _, _, _, _, _, _, _, _, rfl⟩
/-- The kinds of answers. -/
def AggP (r : Aut) (u : Value) (w' : World) : Prop := ∃ (a1 a2 a3 : Option Addr) (c1 c2 c3 : Nat), u = .tuple #[.agg #[.slice a1 r.al.length c1, .int .i64 r.n, .slice a2 r.ms.length c2, .slice a3 r.es.length c3], .int .i64 0] ∧ RdA w' (.agg #[.slice a1 r.al.length c1, .int .i64 r.n, .slice a2 r.ms.length c2, .slice a3 r.es.length c3]) r
theorem RestPost.agg {B : Nat} {r : Aut} {u : Value} {w' : World} (h : RestPost B 0 r u w') : AggP r u w' := by
  rw [RestPost, if_pos rfl] at h
  obtain ⟨v, rfl, ⟨va, vm, ve, rfl, ⟨a1, c1, rfl, h1⟩, ⟨a2, c2, rfl, h2⟩, ⟨a3, c3, rfl, h3⟩⟩, _⟩ := h
  exact ⟨a1, a2, a3, c1, c2, c3, rfl, _, _, _, rfl, ⟨a1, c1, rfl, h1⟩, ⟨a2, c2, rfl, h2⟩, ⟨a3, c3, rfl, h3⟩⟩

set_option maxRecDepth 100000 in
set_option maxHeartbeats 6000000 in
theorem reachRestricts_any (xs : List Int) (hd : Desc xs) (b : Int) (hb0 : 0 ≤ b) (hb1 : b < 256) (w : World) :
    Calls Try.prog 9 #[.agg (bytes8 xs), .int .u8 b] w (Ret w fun u _ => u = .bool true) := by
  have Hsz := Lib.hid hd.size
  have hmake := fun w => make_any xs w hd
  have Hmake := Lib.hid hmake
  clear hd hmake
  generalize bytes8 xs = cs at *
  have hN := mkN_le xs
  have hle := mkEs_le xs (mkN xs)
  have hsm := mkA_small xs
  have herr := mkA_err xs
  have hok := Aut.ok_of herr
  have hes4 : (mkA xs).es.length ≤ 100000 := by show (mkEs xs (mkN xs)).length ≤ 100000; omega
  have hms4 : (mkA xs).ms.length ≤ 100000 := by
    have := bitsL_le (xs.getD 1 0) (mkN xs)
    show (bitsL (xs.getD 1 0) (mkN xs)).length ≤ 100000
    omega
  have hinc : Inc (mkA xs).ms := bitsL_pairwise _ _
  have hmsr : ∀ s ∈ (mkA xs).ms, 0 ≤ s ∧ s < (mkN xs : Int) := bitsL_in _ _
  have hM1 := make_rest xs (bitsL b (mkN xs)) (bitsL_pairwise _ _) (bitsL_in _ _)
  have hM2 := make_trim xs
  have hC : corea (mkA xs) = coreaR (mkA xs).es (mkA xs).ms := corea_says (mkA xs) (mkN xs) rfl (by omega) (mkA_es xs) hmsr hinc
  have hcl : (corea (mkA xs)).length ≤ 1000000 := by
    have := corea_len (mkA xs)
    have h3 : (mkA xs).n.toNat = mkN xs := rfl
    omega
  have hLl := bitsL_le b (mkN xs)
  have h1 : ∀ (W : World) (v vk : Value), RdA W v (mkA xs) → RdI W vk (bitsL b (mkN xs)) → Calls Try.prog 37 #[v, vk] W (Ret W (AggP (restrictF (mkA xs).al (mkA xs).ms (mkA xs).n.toNat (mkA xs).es (bitsL b (mkN xs))))) := by
    intro W v vk h0 hk
    have h := restrict_any v vk (mkA xs) (bitsL b (mkN xs)) W h0 hsm hk (by omega)
    rw [show err2 (mkA xs).err (setErr (mkA xs).n none (bitsL b (mkN xs))) = 0 by rw [err2, if_pos herr]; exact bitsL_err b (mkN xs)] at h
    exact h.mono (fun e w' ⟨u, he, hu, hb⟩ => ⟨u, he, hu.agg, hb⟩)
  have h2 : ∀ (W : World) (v : Value), RdA W v (mkA xs) → Calls Try.prog 34 #[v] W (Ret W (AggP (trimF (mkA xs)))) := by
    intro W v h0
    have h := trim_any v (mkA xs) W h0 hsm
    rw [herr] at h
    exact h.mono (fun e w' ⟨u, he, hu, hb⟩ => ⟨u, he, hu.agg, hb⟩)
  have r1 : ∀ (W : World) (v vk : Value), RdA W v (mkA xs) → RdI W vk (bitsL b (mkN xs)) → Calls Try.prog 38 #[v, vk] W (Ret W fun u w' => RdA w' u (restrictF (mkA xs).al (mkA xs).ms (mkA xs).n.toNat (mkA xs).es (bitsL b (mkN xs)))) := by
    intro W v vk h0 hk
    have h := rrest_any v vk (mkA xs) (bitsL b (mkN xs)) W h0 hsm hok hk (by omega)
    rwa [hM1.ref] at h
  have r2 : ∀ (W : World) (v vk : Value), RdA W v (mkA xs) → RdI W vk (corea (mkA xs)) → Calls Try.prog 38 #[v, vk] W (Ret W fun u w' => RdA w' u (trimF (mkA xs))) := by
    intro W v vk h0 hk
    have h := rrest_any v vk (mkA xs) (corea (mkA xs)) W h0 hsm hok hk hcl
    rwa [hM2.ref] at h
  have r3 : ∀ (W : World) (v : Value), RdA W v (mkA xs) → Calls Try.prog 30 #[v] W (Ret W fun u w' => RdI w' u (corea (mkA xs))) := by
    intro W v h0
    rw [hC]
    exact rcorea_any v (mkA xs) W h0 hinc (by omega)
  have s1 := hM1.small
  have i1 := fun (W : World) (v : Value) (h0 : RdA W v _) => isCanon_any v _ W h0 hM1.small hM1.err hM1.right.ms hM1.right.so hM1.canon
  have s2 := hM2.small
  have i2 := fun (W : World) (v : Value) (h0 : RdA W v _) => isCanon_any v _ W h0 hM2.small hM2.err hM2.right.ms hM2.right.so hM2.canon
  clear hM1 hM2 hC hok herr hinc hmsr hes4 hms4 hle hsm
  generalize restrictF (mkA xs).al (mkA xs).ms (mkA xs).n.toNat (mkA xs).es (bitsL b (mkN xs)) = R at *
  generalize trimF (mkA xs) = T at *
  generalize corea (mkA xs) = C at *
  have H1 := Lib.hid h1
  have H2 := Lib.hid h2
  have R1 := Lib.hid r1
  have R2 := Lib.hid r2
  have R3 := Lib.hid r3
  have S1 := Lib.hid s1
  have S2 := Lib.hid s2
  have I1 := Lib.hid i1
  have I2 := Lib.hid i2
  clear h1 h2 r1 r2 r3 s1 s2 i1 i2
  go_enter Try.func9, Try.ntmps9
  go_wp2_with fail
  refine (known_any _).mono ?_
  rintro e w1 ⟨_, rfl, rfl, hbk⟩
  have hW1 := ((Below.refl w.heap.size w).alloc (Nat.le_refl _) (.cells cs 25)).trans (hbk.mono (by simp))
  have hx1 : w1.heap[w.heap.size]? = some (.cells cs 25 (0, 0)) := (hbk.block _ (by simp)).trans (heap_at rfl)
  have Hx1 := Lib.hid hx1
  clear hbk hx1
  go_wp2_with (first | (with_reducible refine wpList_load_row rfl 25 (.tmp 2) rfl w.heap.size rfl 25 cs (0, 0) _ (Hx1.out) Try.underlying25 rfl Hsz.out ?_) | (go_at_call 13; refine (Hmake.out _).mono ?_; rintro e w2 ⟨v2, rfl, ha2, hb2⟩; have hW2 := hW1.trans (hb2.mono hW1.size); have Ha2 := Lib.hid ha2; obtain ⟨aa, ca, am, cm, ae, ce, rfl⟩ := mkA_val ha2; clear ha2))
  have hAl := bel_alloc w2 (.cells #[.slice aa 4 ca, .int .i64 (mkN xs : Nat), .slice am (mkA xs).ms.length cm, .slice ae (mkA xs).es.length ce] 31)
  have Ha3 := Lib.hid (Ha2.out.mono hAl)
  have hW3 := hW2.trans (hAl.mono hW2.size)
  have hzA : w2.heap.size < (w2.alloc (.cells #[.slice aa 4 ca, .int .i64 (mkN xs : Nat), .slice am (mkA xs).ms.length cm, .slice ae (mkA xs).es.length ce] 31)).heap.size := by simp
  have zA0 : (w2.alloc (.cells #[.slice aa 4 ca, .int .i64 (mkN xs : Nat), .slice am (mkA xs).ms.length cm, .slice ae (mkA xs).es.length ce] 31)).cell? ⟨w2.heap.size, 0, none⟩ = some (.slice aa 4 ca) := by simp [go_sem]
  have zA1 : (w2.alloc (.cells #[.slice aa 4 ca, .int .i64 (mkN xs : Nat), .slice am (mkA xs).ms.length cm, .slice ae (mkA xs).es.length ce] 31)).cell? ⟨w2.heap.size, 1, none⟩ = some (.int .i64 (mkN xs : Nat)) := by simp [go_sem]
  have zA2 : (w2.alloc (.cells #[.slice aa 4 ca, .int .i64 (mkN xs : Nat), .slice am (mkA xs).ms.length cm, .slice ae (mkA xs).es.length ce] 31)).cell? ⟨w2.heap.size, 2, none⟩ = some (.slice am (mkA xs).ms.length cm) := by simp [go_sem]
  have zA3 : (w2.alloc (.cells #[.slice aa 4 ca, .int .i64 (mkN xs : Nat), .slice am (mkA xs).ms.length cm, .slice ae (mkA xs).es.length ce] 31)).cell? ⟨w2.heap.size, 3, none⟩ = some (.slice ae (mkA xs).es.length ce) := by simp [go_sem]
  clear hAl hb2 Ha2
  generalize hwA : w2.alloc (.cells #[.slice aa 4 ca, .int .i64 (mkN xs : Nat), .slice am (mkA xs).ms.length cm, .slice ae (mkA xs).es.length ce] 31) = wA at *
  clear hwA
  refine (bits_any b (mkN xs) _ hb0 hb1 (by omega)).mono ?_
  rintro e w3 ⟨v3, rfl, hown3, hb3⟩
  have HL3 := Lib.hid (RdI.of_own hown3)
  obtain ⟨al, cl, rfl, hr3⟩ := RdS.of_own hown3
  have hW4 := hW3.trans (hb3.mono hW3.size)
  have HA4 := Lib.hid (Ha3.out.mono hb3)
  replace zA0 := keep0 hb3 zA0
  replace zA1 := keep0 hb3 zA1
  replace zA2 := keep0 hb3 zA2
  replace zA3 := keep0 hb3 zA3
  have hzA : w2.heap.size < w3.heap.size := World.block_lt_of_cell? _ _ zA0
  clear hr3 hown3 hb3 Ha3
  go_wp2_with fail
  refine (H1.out w3 _ _ HA4.out HL3.out).mono ?_
  rintro e w4 ⟨u4, rfl, ⟨r1, r2, r3, k1, k2, k3, rfl, hr4⟩, hb4⟩
  have hW5 := hW4.trans (hb4.mono hW4.size)
  have hAl := bel_alloc w4 (.cells #[.slice r1 R.al.length k1, .int .i64 R.n, .slice r2 R.ms.length k2, .slice r3 R.es.length k3] 31)
  have hW6 := hW5.trans (hAl.mono hW5.size)
  have HA5 := Lib.hid ((HA4.out.mono hb4).mono hAl)
  have HL5 := Lib.hid ((HL3.out.mono hb4).mono hAl)
  have HR5 := Lib.hid (hr4.mono hAl)
  replace zA0 := keep0 hAl (keep0 hb4 zA0)
  replace zA1 := keep0 hAl (keep0 hb4 zA1)
  replace zA2 := keep0 hAl (keep0 hb4 zA2)
  replace zA3 := keep0 hAl (keep0 hb4 zA3)
  have zR0 : (w4.alloc (.cells #[.slice r1 R.al.length k1, .int .i64 R.n, .slice r2 R.ms.length k2, .slice r3 R.es.length k3] 31)).cell? ⟨w4.heap.size, 0, none⟩ = some (.slice r1 R.al.length k1) := by simp [go_sem]
  have zR1 : (w4.alloc (.cells #[.slice r1 R.al.length k1, .int .i64 R.n, .slice r2 R.ms.length k2, .slice r3 R.es.length k3] 31)).cell? ⟨w4.heap.size, 1, none⟩ = some (.int .i64 R.n) := by simp [go_sem]
  have zR2 : (w4.alloc (.cells #[.slice r1 R.al.length k1, .int .i64 R.n, .slice r2 R.ms.length k2, .slice r3 R.es.length k3] 31)).cell? ⟨w4.heap.size, 2, none⟩ = some (.slice r2 R.ms.length k2) := by simp [go_sem]
  have zR3 : (w4.alloc (.cells #[.slice r1 R.al.length k1, .int .i64 R.n, .slice r2 R.ms.length k2, .slice r3 R.es.length k3] 31)).cell? ⟨w4.heap.size, 3, none⟩ = some (.slice r3 R.es.length k3) := by simp [go_sem]
  clear hr4 hb4 hAl HA4 HL3
  go_upto_region 6 with fail
  generalize hwR : w4.alloc (.cells #[.slice r1 R.al.length k1, .int .i64 R.n, .slice r2 R.ms.length k2, .slice r3 R.es.length k3] 31) = wR at *
  have hzA : w2.heap.size < wR.heap.size := World.block_lt_of_cell? _ _ zA0
  have hzR : w4.heap.size < wR.heap.size := World.block_lt_of_cell? _ _ zR0
  clear hwR
  go_wp2_with fail
  refine (H2.out wR _ HA5.out).mono ?_
  rintro e w5 ⟨u5, rfl, ⟨t1, t2, t3, l1, l2, l3, rfl, hr5⟩, hb5⟩
  have hW7 := hW6.trans (hb5.mono hW6.size)
  have hAl := bel_alloc w5 (.cells #[.slice t1 T.al.length l1, .int .i64 T.n, .slice t2 T.ms.length l2, .slice t3 T.es.length l3] 31)
  have hW8 := hW7.trans (hAl.mono hW7.size)
  have HA := Lib.hid ((HA5.out.mono hb5).mono hAl)
  have HL := Lib.hid ((HL5.out.mono hb5).mono hAl)
  have HR := Lib.hid ((HR5.out.mono hb5).mono hAl)
  have HT := Lib.hid (hr5.mono hAl)
  replace zA0 := keep0 hAl (keep0 hb5 zA0)
  replace zA1 := keep0 hAl (keep0 hb5 zA1)
  replace zA2 := keep0 hAl (keep0 hb5 zA2)
  replace zA3 := keep0 hAl (keep0 hb5 zA3)
  replace zR0 := keep0 hAl (keep0 hb5 zR0)
  replace zR1 := keep0 hAl (keep0 hb5 zR1)
  replace zR2 := keep0 hAl (keep0 hb5 zR2)
  replace zR3 := keep0 hAl (keep0 hb5 zR3)
  have zT0 : (w5.alloc (.cells #[.slice t1 T.al.length l1, .int .i64 T.n, .slice t2 T.ms.length l2, .slice t3 T.es.length l3] 31)).cell? ⟨w5.heap.size, 0, none⟩ = some (.slice t1 T.al.length l1) := by simp [go_sem]
  have zT1 : (w5.alloc (.cells #[.slice t1 T.al.length l1, .int .i64 T.n, .slice t2 T.ms.length l2, .slice t3 T.es.length l3] 31)).cell? ⟨w5.heap.size, 1, none⟩ = some (.int .i64 T.n) := by simp [go_sem]
  have zT2 : (w5.alloc (.cells #[.slice t1 T.al.length l1, .int .i64 T.n, .slice t2 T.ms.length l2, .slice t3 T.es.length l3] 31)).cell? ⟨w5.heap.size, 2, none⟩ = some (.slice t2 T.ms.length l2) := by simp [go_sem]
  have zT3 : (w5.alloc (.cells #[.slice t1 T.al.length l1, .int .i64 T.n, .slice t2 T.ms.length l2, .slice t3 T.es.length l3] 31)).cell? ⟨w5.heap.size, 3, none⟩ = some (.slice t3 T.es.length l3) := by simp [go_sem]
  clear hr5 hb5 hAl HA5 HL5 HR5
  go_upto_region 7 with fail
  generalize hwT : w5.alloc (.cells #[.slice t1 T.al.length l1, .int .i64 T.n, .slice t2 T.ms.length l2, .slice t3 T.es.length l3] 31) = wT at *
  have hzA : w2.heap.size < wT.heap.size := World.block_lt_of_cell? _ _ zA0
  have hzR : w4.heap.size < wT.heap.size := World.block_lt_of_cell? _ _ zR0
  have hzT : w5.heap.size < wT.heap.size := World.block_lt_of_cell? _ _ zT0
  have hWd := hW8.drew
  clear hwT
  refine wp_region_mono2 (RL7 (.agg #[.slice aa 4 ca, .int .i64 (mkN xs : Nat), .slice am (mkA xs).ms.length cm, .slice ae (mkA xs).es.length ce]) (.agg #[.slice r1 R.al.length k1, .int .i64 R.n, .slice r2 R.ms.length k2, .slice r3 R.es.length k3]) (.agg #[.slice t1 T.al.length l1, .int .i64 T.n, .slice t2 T.ms.length l2, .slice t3 T.es.length l3]) (.slice al (bitsL b (mkN xs)).length cl) (R) (T) (C)) [30, 31, 32, 33, 34, 35, 36, 37, 38, 39, 40, 41, 42, 43, 44, 45, 46, 47, 48, 49, 50, 51, 52, 53, 54, 55, 56, 57, 58, 4] RL7_mono rfl (by kernel_rfl) (by kernel_rfl) ?_ ?_
  · skip
    refine Steps.cons rfl ?_ ?_
    · intro l us W hl hI hd hn K' hK
      have hHas := hI.has
      have hbel := hI.bel
      have hlen := hI.len
      obtain ⟨u0, u1, u2, u3, u4, u5, u6, u7, u8, u9, u10, u11, u12, u13, u14, u15, u16, u17, u18, u19, u20, u21, u22, u23, u24, u25, u26, u27, u28, u29, rfl⟩ := list_RL7 hlen
      have HK : Hid (∀ v W', Below W.heap.size W W' → RL7 (.agg #[.slice aa 4 ca, .int .i64 (mkN xs : Nat), .slice am (mkA xs).ms.length cm, .slice ae (mkA xs).es.length ce]) (.agg #[.slice r1 R.al.length k1, .int .i64 R.n, .slice r2 R.ms.length k2, .slice r3 R.es.length k3]) (.agg #[.slice t1 T.al.length l1, .int .i64 T.n, .slice t2 T.ms.length l2, .slice t3 T.es.length l3]) (.slice al (bitsL b (mkN xs)).length cl) (R) (T) (C) 0 v W' → ∀ a', puts _ _ [v, u1, u2, u3, u4, u5, u6, u7, u8, u9, u10, u11, u12, u13, u14, u15, u16, u17, u18, u19, u20, u21, u22, u23, u24, u25, u26, u27, u28, u29] = a' → K' a' W') := fun v W' hb hv a' e => hK _ a' W' e (hI.step RL7_mono hl hb hv)
      have hWW := hWd.trans (hbel.mono hWd.size)
      clear hl hI hd hn hK hHas hlen 
      refine StepG.mk ?_
      simp only [puts, Act.put]
      go_simp
      exact HK.out (.int .i64 0) _ (Below.refl _ _) rfl _ (by simp [puts, Act.put])
    refine Steps.cons rfl ?_ ?_
    · intro l us W hl hI hd hn K' hK
      have hHas := hI.has
      have hbel := hI.bel
      have hlen := hI.len
      obtain ⟨u0, u1, u2, u3, u4, u5, u6, u7, u8, u9, u10, u11, u12, u13, u14, u15, u16, u17, u18, u19, u20, u21, u22, u23, u24, u25, u26, u27, u28, u29, rfl⟩ := list_RL7 hlen
      have HK : Hid (∀ v W', Below W.heap.size W W' → RL7 (.agg #[.slice aa 4 ca, .int .i64 (mkN xs : Nat), .slice am (mkA xs).ms.length cm, .slice ae (mkA xs).es.length ce]) (.agg #[.slice r1 R.al.length k1, .int .i64 R.n, .slice r2 R.ms.length k2, .slice r3 R.es.length k3]) (.agg #[.slice t1 T.al.length l1, .int .i64 T.n, .slice t2 T.ms.length l2, .slice t3 T.es.length l3]) (.slice al (bitsL b (mkN xs)).length cl) (R) (T) (C) 1 v W' → ∀ a', puts _ _ [u0, v, u2, u3, u4, u5, u6, u7, u8, u9, u10, u11, u12, u13, u14, u15, u16, u17, u18, u19, u20, u21, u22, u23, u24, u25, u26, u27, u28, u29] = a' → K' a' W') := fun v W' hb hv a' e => hK _ a' W' e (hI.step RL7_mono hl hb hv)
      have hWW := hWd.trans (hbel.mono hWd.size)
      have d0 : l.getD 0 false = true := by
        simp [Region.binds] at hd
        simp [hd]
      obtain rfl : u0 = _ := hHas 0 (by decide) d0
      clear hl hI hd hn hK hHas hlen d0
      refine StepG.mk ?_
      simp only [puts, Act.put]
      go_simp
      exact HK.out (.bool true) _ (Below.refl _ _) rfl _ (by simp [puts, Act.put])
    refine Steps.cons rfl ?_ ?_
    · intro l us W hl hI hd hn K' hK
      have hHas := hI.has
      have hbel := hI.bel
      have hlen := hI.len
      obtain ⟨u0, u1, u2, u3, u4, u5, u6, u7, u8, u9, u10, u11, u12, u13, u14, u15, u16, u17, u18, u19, u20, u21, u22, u23, u24, u25, u26, u27, u28, u29, rfl⟩ := list_RL7 hlen
      have HK : Hid (∀ v W', Below W.heap.size W W' → RL7 (.agg #[.slice aa 4 ca, .int .i64 (mkN xs : Nat), .slice am (mkA xs).ms.length cm, .slice ae (mkA xs).es.length ce]) (.agg #[.slice r1 R.al.length k1, .int .i64 R.n, .slice r2 R.ms.length k2, .slice r3 R.es.length k3]) (.agg #[.slice t1 T.al.length l1, .int .i64 T.n, .slice t2 T.ms.length l2, .slice t3 T.es.length l3]) (.slice al (bitsL b (mkN xs)).length cl) (R) (T) (C) 2 v W' → ∀ a', puts _ _ [u0, u1, v, u3, u4, u5, u6, u7, u8, u9, u10, u11, u12, u13, u14, u15, u16, u17, u18, u19, u20, u21, u22, u23, u24, u25, u26, u27, u28, u29] = a' → K' a' W') := fun v W' hb hv a' e => hK _ a' W' e (hI.step RL7_mono hl hb hv)
      have hWW := hWd.trans (hbel.mono hWd.size)
      have d1 : l.getD 1 false = true := by
        simp [Region.binds] at hd
        simp [hd]
      obtain rfl : u1 = _ := hHas 1 (by decide) d1
      clear hl hI hd hn hK hHas hlen d1
      refine StepG.mk ?_
      simp only [puts, Act.put]
      go_simp
      exact HK.out (.bool true) _ (Below.refl _ _) rfl _ (by simp [puts, Act.put])
    refine Steps.cons rfl ?_ ?_
    · intro l us W hl hI hd hn K' hK
      have hHas := hI.has
      have hbel := hI.bel
      have hlen := hI.len
      obtain ⟨u0, u1, u2, u3, u4, u5, u6, u7, u8, u9, u10, u11, u12, u13, u14, u15, u16, u17, u18, u19, u20, u21, u22, u23, u24, u25, u26, u27, u28, u29, rfl⟩ := list_RL7 hlen
      have HK : Hid (∀ v W', Below W.heap.size W W' → RL7 (.agg #[.slice aa 4 ca, .int .i64 (mkN xs : Nat), .slice am (mkA xs).ms.length cm, .slice ae (mkA xs).es.length ce]) (.agg #[.slice r1 R.al.length k1, .int .i64 R.n, .slice r2 R.ms.length k2, .slice r3 R.es.length k3]) (.agg #[.slice t1 T.al.length l1, .int .i64 T.n, .slice t2 T.ms.length l2, .slice t3 T.es.length l3]) (.slice al (bitsL b (mkN xs)).length cl) (R) (T) (C) 3 v W' → ∀ a', puts _ _ [u0, u1, u2, v, u4, u5, u6, u7, u8, u9, u10, u11, u12, u13, u14, u15, u16, u17, u18, u19, u20, u21, u22, u23, u24, u25, u26, u27, u28, u29] = a' → K' a' W') := fun v W' hb hv a' e => hK _ a' W' e (hI.step RL7_mono hl hb hv)
      have hWW := hWd.trans (hbel.mono hWd.size)
      have d2 : l.getD 2 false = true := by
        simp [Region.binds] at hd
        simp [hd]
      obtain rfl : u2 = _ := hHas 2 (by decide) d2
      clear hl hI hd hn hK hHas hlen d2
      refine StepG.mk ?_
      simp only [puts, Act.put]
      go_simp
      exact HK.out (.int .i64 0) _ (Below.refl _ _) rfl _ (by simp [puts, Act.put])
    refine Steps.cons rfl ?_ ?_
    · intro l us W hl hI hd hn K' hK
      have hHas := hI.has
      have hbel := hI.bel
      have hlen := hI.len
      obtain ⟨u0, u1, u2, u3, u4, u5, u6, u7, u8, u9, u10, u11, u12, u13, u14, u15, u16, u17, u18, u19, u20, u21, u22, u23, u24, u25, u26, u27, u28, u29, rfl⟩ := list_RL7 hlen
      have HK : Hid (∀ v W', Below W.heap.size W W' → RL7 (.agg #[.slice aa 4 ca, .int .i64 (mkN xs : Nat), .slice am (mkA xs).ms.length cm, .slice ae (mkA xs).es.length ce]) (.agg #[.slice r1 R.al.length k1, .int .i64 R.n, .slice r2 R.ms.length k2, .slice r3 R.es.length k3]) (.agg #[.slice t1 T.al.length l1, .int .i64 T.n, .slice t2 T.ms.length l2, .slice t3 T.es.length l3]) (.slice al (bitsL b (mkN xs)).length cl) (R) (T) (C) 4 v W' → ∀ a', puts _ _ [u0, u1, u2, u3, v, u5, u6, u7, u8, u9, u10, u11, u12, u13, u14, u15, u16, u17, u18, u19, u20, u21, u22, u23, u24, u25, u26, u27, u28, u29] = a' → K' a' W') := fun v W' hb hv a' e => hK _ a' W' e (hI.step RL7_mono hl hb hv)
      have hWW := hWd.trans (hbel.mono hWd.size)
      have d2 : l.getD 2 false = true := by
        simp [Region.binds] at hd
        simp [hd]
      have d3 : l.getD 3 false = true := by
        simp [Region.binds] at hd
        simp [hd]
      obtain rfl : u2 = _ := hHas 2 (by decide) d2
      obtain rfl : u3 = _ := hHas 3 (by decide) d3
      clear hl hI hd hn hK hHas hlen d2 d3
      refine StepG.mk ?_
      simp only [puts, Act.put]
      go_simp
      exact HK.out (.bool true) _ (Below.refl _ _) rfl _ (by simp [puts, Act.put])
    refine Steps.cons rfl ?_ ?_
    · intro l us W hl hI hd hn K' hK
      have hHas := hI.has
      have hbel := hI.bel
      have hlen := hI.len
      obtain ⟨u0, u1, u2, u3, u4, u5, u6, u7, u8, u9, u10, u11, u12, u13, u14, u15, u16, u17, u18, u19, u20, u21, u22, u23, u24, u25, u26, u27, u28, u29, rfl⟩ := list_RL7 hlen
      have HK : Hid (∀ v W', Below W.heap.size W W' → RL7 (.agg #[.slice aa 4 ca, .int .i64 (mkN xs : Nat), .slice am (mkA xs).ms.length cm, .slice ae (mkA xs).es.length ce]) (.agg #[.slice r1 R.al.length k1, .int .i64 R.n, .slice r2 R.ms.length k2, .slice r3 R.es.length k3]) (.agg #[.slice t1 T.al.length l1, .int .i64 T.n, .slice t2 T.ms.length l2, .slice t3 T.es.length l3]) (.slice al (bitsL b (mkN xs)).length cl) (R) (T) (C) 5 v W' → ∀ a', puts _ _ [u0, u1, u2, u3, u4, v, u6, u7, u8, u9, u10, u11, u12, u13, u14, u15, u16, u17, u18, u19, u20, u21, u22, u23, u24, u25, u26, u27, u28, u29] = a' → K' a' W') := fun v W' hb hv a' e => hK _ a' W' e (hI.step RL7_mono hl hb hv)
      have hWW := hWd.trans (hbel.mono hWd.size)
      have d2 : l.getD 2 false = true := by
        simp [Region.binds] at hd
        simp [hd]
      have d4 : l.getD 4 false = true := by
        simp [Region.binds] at hd
        simp [hd]
      obtain rfl : u2 = _ := hHas 2 (by decide) d2
      obtain rfl : u4 = _ := hHas 4 (by decide) d4
      clear hl hI hd hn hK hHas hlen d2 d4
      refine StepG.mk ?_
      simp only [puts, Act.put]
      go_simp
      exact HK.out (.bool true) _ (Below.refl _ _) rfl _ (by simp [puts, Act.put])
    refine Steps.cons rfl ?_ ?_
    · intro l us W hl hI hd hn K' hK
      have hHas := hI.has
      have hbel := hI.bel
      have hlen := hI.len
      obtain ⟨u0, u1, u2, u3, u4, u5, u6, u7, u8, u9, u10, u11, u12, u13, u14, u15, u16, u17, u18, u19, u20, u21, u22, u23, u24, u25, u26, u27, u28, u29, rfl⟩ := list_RL7 hlen
      have HK : Hid (∀ v W', Below W.heap.size W W' → RL7 (.agg #[.slice aa 4 ca, .int .i64 (mkN xs : Nat), .slice am (mkA xs).ms.length cm, .slice ae (mkA xs).es.length ce]) (.agg #[.slice r1 R.al.length k1, .int .i64 R.n, .slice r2 R.ms.length k2, .slice r3 R.es.length k3]) (.agg #[.slice t1 T.al.length l1, .int .i64 T.n, .slice t2 T.ms.length l2, .slice t3 T.es.length l3]) (.slice al (bitsL b (mkN xs)).length cl) (R) (T) (C) 6 v W' → ∀ a', puts _ _ [u0, u1, u2, u3, u4, u5, v, u7, u8, u9, u10, u11, u12, u13, u14, u15, u16, u17, u18, u19, u20, u21, u22, u23, u24, u25, u26, u27, u28, u29] = a' → K' a' W') := fun v W' hb hv a' e => hK _ a' W' e (hI.step RL7_mono hl hb hv)
      have hWW := hWd.trans (hbel.mono hWd.size)
      have d5 : l.getD 5 false = true := by
        simp [Region.binds] at hd
        simp [hd]
      obtain rfl : u5 = _ := hHas 5 (by decide) d5
      clear hl hI hd hn hK hHas hlen d5
      refine StepG.mk ?_
      simp only [puts, Act.put]
      go_simp
      exact HK.out (.bool true) _ (Below.refl _ _) rfl _ (by simp [puts, Act.put])
    refine Steps.cons rfl ?_ ?_
    · intro l us W hl hI hd hn K' hK
      have hHas := hI.has
      have hbel := hI.bel
      have hlen := hI.len
      obtain ⟨u0, u1, u2, u3, u4, u5, u6, u7, u8, u9, u10, u11, u12, u13, u14, u15, u16, u17, u18, u19, u20, u21, u22, u23, u24, u25, u26, u27, u28, u29, rfl⟩ := list_RL7 hlen
      have HK : Hid (∀ v W', Below W.heap.size W W' → RL7 (.agg #[.slice aa 4 ca, .int .i64 (mkN xs : Nat), .slice am (mkA xs).ms.length cm, .slice ae (mkA xs).es.length ce]) (.agg #[.slice r1 R.al.length k1, .int .i64 R.n, .slice r2 R.ms.length k2, .slice r3 R.es.length k3]) (.agg #[.slice t1 T.al.length l1, .int .i64 T.n, .slice t2 T.ms.length l2, .slice t3 T.es.length l3]) (.slice al (bitsL b (mkN xs)).length cl) (R) (T) (C) 7 v W' → ∀ a', puts _ _ [u0, u1, u2, u3, u4, u5, u6, v, u8, u9, u10, u11, u12, u13, u14, u15, u16, u17, u18, u19, u20, u21, u22, u23, u24, u25, u26, u27, u28, u29] = a' → K' a' W') := fun v W' hb hv a' e => hK _ a' W' e (hI.step RL7_mono hl hb hv)
      have hWW := hWd.trans (hbel.mono hWd.size)
      have y0 := keep hbel zR0 hzR
      have y1 := keep hbel zR1 hzR
      have y2 := keep hbel zR2 hzR
      have y3 := keep hbel zR3 hzR
      have d6 : l.getD 6 false = true := by
        simp [Region.binds] at hd
        simp [hd]
      obtain rfl : u6 = _ := hHas 6 (by decide) d6
      clear hl hI hd hn hK hHas hlen d6
      refine StepG.mk ?_
      simp only [puts, Act.put]
      go_simp
      exact HK.out ((.agg #[.slice r1 R.al.length k1, .int .i64 R.n, .slice r2 R.ms.length k2, .slice r3 R.es.length k3])) _ (Below.refl _ _) rfl _ (by simp [puts, Act.put])
    refine Steps.cons rfl ?_ ?_
    · intro l us W hl hI hd hn K' hK
      have hHas := hI.has
      have hbel := hI.bel
      have hlen := hI.len
      obtain ⟨u0, u1, u2, u3, u4, u5, u6, u7, u8, u9, u10, u11, u12, u13, u14, u15, u16, u17, u18, u19, u20, u21, u22, u23, u24, u25, u26, u27, u28, u29, rfl⟩ := list_RL7 hlen
      have HK : Hid (∀ v W', Below W.heap.size W W' → RL7 (.agg #[.slice aa 4 ca, .int .i64 (mkN xs : Nat), .slice am (mkA xs).ms.length cm, .slice ae (mkA xs).es.length ce]) (.agg #[.slice r1 R.al.length k1, .int .i64 R.n, .slice r2 R.ms.length k2, .slice r3 R.es.length k3]) (.agg #[.slice t1 T.al.length l1, .int .i64 T.n, .slice t2 T.ms.length l2, .slice t3 T.es.length l3]) (.slice al (bitsL b (mkN xs)).length cl) (R) (T) (C) 8 v W' → ∀ a', puts _ _ [u0, u1, u2, u3, u4, u5, u6, u7, v, u9, u10, u11, u12, u13, u14, u15, u16, u17, u18, u19, u20, u21, u22, u23, u24, u25, u26, u27, u28, u29] = a' → K' a' W') := fun v W' hb hv a' e => hK _ a' W' e (hI.step RL7_mono hl hb hv)
      have hWW := hWd.trans (hbel.mono hWd.size)
      have y0 := keep hbel zA0 hzA
      have y1 := keep hbel zA1 hzA
      have y2 := keep hbel zA2 hzA
      have y3 := keep hbel zA3 hzA
      have d6 : l.getD 6 false = true := by
        simp [Region.binds] at hd
        simp [hd]
      obtain rfl : u6 = _ := hHas 6 (by decide) d6
      clear hl hI hd hn hK hHas hlen d6
      refine StepG.mk ?_
      simp only [puts, Act.put]
      go_simp
      exact HK.out ((.agg #[.slice aa 4 ca, .int .i64 (mkN xs : Nat), .slice am (mkA xs).ms.length cm, .slice ae (mkA xs).es.length ce])) _ (Below.refl _ _) rfl _ (by simp [puts, Act.put])
    refine Steps.cons rfl ?_ ?_
    · intro l us W hl hI hd hn K' hK
      have hHas := hI.has
      have hbel := hI.bel
      have hlen := hI.len
      obtain ⟨u0, u1, u2, u3, u4, u5, u6, u7, u8, u9, u10, u11, u12, u13, u14, u15, u16, u17, u18, u19, u20, u21, u22, u23, u24, u25, u26, u27, u28, u29, rfl⟩ := list_RL7 hlen
      have HK : Hid (∀ v W', Below W.heap.size W W' → RL7 (.agg #[.slice aa 4 ca, .int .i64 (mkN xs : Nat), .slice am (mkA xs).ms.length cm, .slice ae (mkA xs).es.length ce]) (.agg #[.slice r1 R.al.length k1, .int .i64 R.n, .slice r2 R.ms.length k2, .slice r3 R.es.length k3]) (.agg #[.slice t1 T.al.length l1, .int .i64 T.n, .slice t2 T.ms.length l2, .slice t3 T.es.length l3]) (.slice al (bitsL b (mkN xs)).length cl) (R) (T) (C) 9 v W' → ∀ a', puts _ _ [u0, u1, u2, u3, u4, u5, u6, u7, u8, v, u10, u11, u12, u13, u14, u15, u16, u17, u18, u19, u20, u21, u22, u23, u24, u25, u26, u27, u28, u29] = a' → K' a' W') := fun v W' hb hv a' e => hK _ a' W' e (hI.step RL7_mono hl hb hv)
      have hWW := hWd.trans (hbel.mono hWd.size)
      have d6 : l.getD 6 false = true := by
        simp [Region.binds] at hd
        simp [hd]
      obtain rfl : u6 = _ := hHas 6 (by decide) d6
      clear hl hI hd hn hK hHas hlen d6
      refine StepG.mk ?_
      simp only [puts, Act.put]
      go_simp
      exact HK.out ((.slice al (bitsL b (mkN xs)).length cl)) _ (Below.refl _ _) rfl _ (by simp [puts, Act.put])
    refine Steps.cons rfl ?_ ?_
    · intro l us W hl hI hd hn K' hK
      have hHas := hI.has
      have hbel := hI.bel
      have hlen := hI.len
      obtain ⟨u0, u1, u2, u3, u4, u5, u6, u7, u8, u9, u10, u11, u12, u13, u14, u15, u16, u17, u18, u19, u20, u21, u22, u23, u24, u25, u26, u27, u28, u29, rfl⟩ := list_RL7 hlen
      have HK : Hid (∀ v W', Below W.heap.size W W' → RL7 (.agg #[.slice aa 4 ca, .int .i64 (mkN xs : Nat), .slice am (mkA xs).ms.length cm, .slice ae (mkA xs).es.length ce]) (.agg #[.slice r1 R.al.length k1, .int .i64 R.n, .slice r2 R.ms.length k2, .slice r3 R.es.length k3]) (.agg #[.slice t1 T.al.length l1, .int .i64 T.n, .slice t2 T.ms.length l2, .slice t3 T.es.length l3]) (.slice al (bitsL b (mkN xs)).length cl) (R) (T) (C) 10 v W' → ∀ a', puts _ _ [u0, u1, u2, u3, u4, u5, u6, u7, u8, u9, v, u11, u12, u13, u14, u15, u16, u17, u18, u19, u20, u21, u22, u23, u24, u25, u26, u27, u28, u29] = a' → K' a' W') := fun v W' hb hv a' e => hK _ a' W' e (hI.step RL7_mono hl hb hv)
      have hWW := hWd.trans (hbel.mono hWd.size)
      have d6 : l.getD 6 false = true := by
        simp [Region.binds] at hd
        simp [hd]
      have d8 : l.getD 8 false = true := by
        simp [Region.binds] at hd
        simp [hd]
      have d9 : l.getD 9 false = true := by
        simp [Region.binds] at hd
        simp [hd]
      obtain rfl : u6 = _ := hHas 6 (by decide) d6
      obtain rfl : u8 = _ := hHas 8 (by decide) d8
      obtain rfl : u9 = _ := hHas 9 (by decide) d9
      clear hl hI hd hn hK hHas hlen d6 d8 d9
      refine StepG.mk ?_
      simp only [puts, Act.put]
      go_simp
      refine (R1.out W _ _ ((HA.out.mono (bel_drew _)).mono hbel) ((HL.out.mono (bel_drew _)).mono hbel)).mono ?_
      rintro e w9 ⟨u9, rfl, h9, hb9⟩
      have H9 := Lib.hid h9
      obtain ⟨v91, v92, v93, rfl, _⟩ := h9
      go_simp
      exact HK.out _ _ hb9 ⟨H9.out, _, _, _, _, rfl⟩ _ (by simp [puts, Act.put])
    refine Steps.cons rfl ?_ ?_
    · intro l us W hl hI hd hn K' hK
      have hHas := hI.has
      have hbel := hI.bel
      have hlen := hI.len
      obtain ⟨u0, u1, u2, u3, u4, u5, u6, u7, u8, u9, u10, u11, u12, u13, u14, u15, u16, u17, u18, u19, u20, u21, u22, u23, u24, u25, u26, u27, u28, u29, rfl⟩ := list_RL7 hlen
      have HK : Hid (∀ v W', Below W.heap.size W W' → RL7 (.agg #[.slice aa 4 ca, .int .i64 (mkN xs : Nat), .slice am (mkA xs).ms.length cm, .slice ae (mkA xs).es.length ce]) (.agg #[.slice r1 R.al.length k1, .int .i64 R.n, .slice r2 R.ms.length k2, .slice r3 R.es.length k3]) (.agg #[.slice t1 T.al.length l1, .int .i64 T.n, .slice t2 T.ms.length l2, .slice t3 T.es.length l3]) (.slice al (bitsL b (mkN xs)).length cl) (R) (T) (C) 11 v W' → ∀ a', puts _ _ [u0, u1, u2, u3, u4, u5, u6, u7, u8, u9, u10, v, u12, u13, u14, u15, u16, u17, u18, u19, u20, u21, u22, u23, u24, u25, u26, u27, u28, u29] = a' → K' a' W') := fun v W' hb hv a' e => hK _ a' W' e (hI.step RL7_mono hl hb hv)
      have hWW := hWd.trans (hbel.mono hWd.size)
      have hr10 : RdA W u10 R ∧ ∃ v1 v2 v3 n, u10 = .agg #[v1, .int .i64 n, v2, v3] := hHas 10 (by decide) (by simp [Region.binds] at hd; simp [hd])
      obtain ⟨hr10, v101, v102, v103, n10, rfl⟩ := hr10
      have Hr10 := Lib.hid hr10
      clear hr10
      have d6 : l.getD 6 false = true := by
        simp [Region.binds] at hd
        simp [hd]
      have d7 : l.getD 7 false = true := by
        simp [Region.binds] at hd
        simp [hd]
      have d10 : l.getD 10 false = true := by
        simp [Region.binds] at hd
        simp [hd]
      obtain rfl : u6 = _ := hHas 6 (by decide) d6
      obtain rfl : u7 = _ := hHas 7 (by decide) d7
      clear hl hI hd hn hK hHas hlen d6 d7 d10
      refine StepG.mk ?_
      simp only [puts, Act.put]
      go_simp
      refine (equalL_any _ _ R W ((HR.out.mono (bel_drew _)).mono hbel) Hr10.out S1.out).mono ?_
      rintro e w9 ⟨_, rfl, rfl, hb9⟩
      go_simp
      exact HK.out _ _ hb9 rfl _ (by simp [puts, Act.put])
    refine Steps.cons rfl ?_ ?_
    · intro l us W hl hI hd hn K' hK
      have hHas := hI.has
      have hbel := hI.bel
      have hlen := hI.len
      obtain ⟨u0, u1, u2, u3, u4, u5, u6, u7, u8, u9, u10, u11, u12, u13, u14, u15, u16, u17, u18, u19, u20, u21, u22, u23, u24, u25, u26, u27, u28, u29, rfl⟩ := list_RL7 hlen
      have HK : Hid (∀ v W', Below W.heap.size W W' → RL7 (.agg #[.slice aa 4 ca, .int .i64 (mkN xs : Nat), .slice am (mkA xs).ms.length cm, .slice ae (mkA xs).es.length ce]) (.agg #[.slice r1 R.al.length k1, .int .i64 R.n, .slice r2 R.ms.length k2, .slice r3 R.es.length k3]) (.agg #[.slice t1 T.al.length l1, .int .i64 T.n, .slice t2 T.ms.length l2, .slice t3 T.es.length l3]) (.slice al (bitsL b (mkN xs)).length cl) (R) (T) (C) 12 v W' → ∀ a', puts _ _ [u0, u1, u2, u3, u4, u5, u6, u7, u8, u9, u10, u11, v, u13, u14, u15, u16, u17, u18, u19, u20, u21, u22, u23, u24, u25, u26, u27, u28, u29] = a' → K' a' W') := fun v W' hb hv a' e => hK _ a' W' e (hI.step RL7_mono hl hb hv)
      have hWW := hWd.trans (hbel.mono hWd.size)
      have d6 : l.getD 6 false = true := by
        simp [Region.binds] at hd
        simp [hd]
      have d11 : l.getD 11 false = true := by
        simp [Region.binds] at hd
        simp [hd]
      obtain rfl : u6 = _ := hHas 6 (by decide) d6
      obtain rfl : u11 = _ := hHas 11 (by decide) d11
      clear hl hI hd hn hK hHas hlen d6 d11
      refine StepG.mk ?_
      simp only [puts, Act.put]
      go_simp
      exact HK.out (.bool true) _ (Below.refl _ _) rfl _ (by simp [puts, Act.put])
    refine Steps.cons rfl ?_ ?_
    · intro l us W hl hI hd hn K' hK
      have hHas := hI.has
      have hbel := hI.bel
      have hlen := hI.len
      obtain ⟨u0, u1, u2, u3, u4, u5, u6, u7, u8, u9, u10, u11, u12, u13, u14, u15, u16, u17, u18, u19, u20, u21, u22, u23, u24, u25, u26, u27, u28, u29, rfl⟩ := list_RL7 hlen
      have HK : Hid (∀ v W', Below W.heap.size W W' → RL7 (.agg #[.slice aa 4 ca, .int .i64 (mkN xs : Nat), .slice am (mkA xs).ms.length cm, .slice ae (mkA xs).es.length ce]) (.agg #[.slice r1 R.al.length k1, .int .i64 R.n, .slice r2 R.ms.length k2, .slice r3 R.es.length k3]) (.agg #[.slice t1 T.al.length l1, .int .i64 T.n, .slice t2 T.ms.length l2, .slice t3 T.es.length l3]) (.slice al (bitsL b (mkN xs)).length cl) (R) (T) (C) 13 v W' → ∀ a', puts _ _ [u0, u1, u2, u3, u4, u5, u6, u7, u8, u9, u10, u11, u12, v, u14, u15, u16, u17, u18, u19, u20, u21, u22, u23, u24, u25, u26, u27, u28, u29] = a' → K' a' W') := fun v W' hb hv a' e => hK _ a' W' e (hI.step RL7_mono hl hb hv)
      have hWW := hWd.trans (hbel.mono hWd.size)
      have d12 : l.getD 12 false = true := by
        simp [Region.binds] at hd
        simp [hd]
      obtain rfl : u12 = _ := hHas 12 (by decide) d12
      clear hl hI hd hn hK hHas hlen d12
      refine StepG.mk ?_
      simp only [puts, Act.put]
      go_simp
      exact HK.out (.bool true) _ (Below.refl _ _) rfl _ (by simp [puts, Act.put])
    refine Steps.cons rfl ?_ ?_
    · intro l us W hl hI hd hn K' hK
      have hHas := hI.has
      have hbel := hI.bel
      have hlen := hI.len
      obtain ⟨u0, u1, u2, u3, u4, u5, u6, u7, u8, u9, u10, u11, u12, u13, u14, u15, u16, u17, u18, u19, u20, u21, u22, u23, u24, u25, u26, u27, u28, u29, rfl⟩ := list_RL7 hlen
      have HK : Hid (∀ v W', Below W.heap.size W W' → RL7 (.agg #[.slice aa 4 ca, .int .i64 (mkN xs : Nat), .slice am (mkA xs).ms.length cm, .slice ae (mkA xs).es.length ce]) (.agg #[.slice r1 R.al.length k1, .int .i64 R.n, .slice r2 R.ms.length k2, .slice r3 R.es.length k3]) (.agg #[.slice t1 T.al.length l1, .int .i64 T.n, .slice t2 T.ms.length l2, .slice t3 T.es.length l3]) (.slice al (bitsL b (mkN xs)).length cl) (R) (T) (C) 14 v W' → ∀ a', puts _ _ [u0, u1, u2, u3, u4, u5, u6, u7, u8, u9, u10, u11, u12, u13, v, u15, u16, u17, u18, u19, u20, u21, u22, u23, u24, u25, u26, u27, u28, u29] = a' → K' a' W') := fun v W' hb hv a' e => hK _ a' W' e (hI.step RL7_mono hl hb hv)
      have hWW := hWd.trans (hbel.mono hWd.size)
      have y0 := keep hbel zT0 hzT
      have y1 := keep hbel zT1 hzT
      have y2 := keep hbel zT2 hzT
      have y3 := keep hbel zT3 hzT
      have d13 : l.getD 13 false = true := by
        simp [Region.binds] at hd
        simp [hd]
      obtain rfl : u13 = _ := hHas 13 (by decide) d13
      clear hl hI hd hn hK hHas hlen d13
      refine StepG.mk ?_
      simp only [puts, Act.put]
      go_simp
      exact HK.out ((.agg #[.slice t1 T.al.length l1, .int .i64 T.n, .slice t2 T.ms.length l2, .slice t3 T.es.length l3])) _ (Below.refl _ _) rfl _ (by simp [puts, Act.put])
    refine Steps.cons rfl ?_ ?_
    · intro l us W hl hI hd hn K' hK
      have hHas := hI.has
      have hbel := hI.bel
      have hlen := hI.len
      obtain ⟨u0, u1, u2, u3, u4, u5, u6, u7, u8, u9, u10, u11, u12, u13, u14, u15, u16, u17, u18, u19, u20, u21, u22, u23, u24, u25, u26, u27, u28, u29, rfl⟩ := list_RL7 hlen
      have HK : Hid (∀ v W', Below W.heap.size W W' → RL7 (.agg #[.slice aa 4 ca, .int .i64 (mkN xs : Nat), .slice am (mkA xs).ms.length cm, .slice ae (mkA xs).es.length ce]) (.agg #[.slice r1 R.al.length k1, .int .i64 R.n, .slice r2 R.ms.length k2, .slice r3 R.es.length k3]) (.agg #[.slice t1 T.al.length l1, .int .i64 T.n, .slice t2 T.ms.length l2, .slice t3 T.es.length l3]) (.slice al (bitsL b (mkN xs)).length cl) (R) (T) (C) 15 v W' → ∀ a', puts _ _ [u0, u1, u2, u3, u4, u5, u6, u7, u8, u9, u10, u11, u12, u13, u14, v, u16, u17, u18, u19, u20, u21, u22, u23, u24, u25, u26, u27, u28, u29] = a' → K' a' W') := fun v W' hb hv a' e => hK _ a' W' e (hI.step RL7_mono hl hb hv)
      have hWW := hWd.trans (hbel.mono hWd.size)
      have y0 := keep hbel zA0 hzA
      have y1 := keep hbel zA1 hzA
      have y2 := keep hbel zA2 hzA
      have y3 := keep hbel zA3 hzA
      have d13 : l.getD 13 false = true := by
        simp [Region.binds] at hd
        simp [hd]
      obtain rfl : u13 = _ := hHas 13 (by decide) d13
      clear hl hI hd hn hK hHas hlen d13
      refine StepG.mk ?_
      simp only [puts, Act.put]
      go_simp
      exact HK.out ((.agg #[.slice aa 4 ca, .int .i64 (mkN xs : Nat), .slice am (mkA xs).ms.length cm, .slice ae (mkA xs).es.length ce])) _ (Below.refl _ _) rfl _ (by simp [puts, Act.put])
    refine Steps.cons rfl ?_ ?_
    · intro l us W hl hI hd hn K' hK
      have hHas := hI.has
      have hbel := hI.bel
      have hlen := hI.len
      obtain ⟨u0, u1, u2, u3, u4, u5, u6, u7, u8, u9, u10, u11, u12, u13, u14, u15, u16, u17, u18, u19, u20, u21, u22, u23, u24, u25, u26, u27, u28, u29, rfl⟩ := list_RL7 hlen
      have HK : Hid (∀ v W', Below W.heap.size W W' → RL7 (.agg #[.slice aa 4 ca, .int .i64 (mkN xs : Nat), .slice am (mkA xs).ms.length cm, .slice ae (mkA xs).es.length ce]) (.agg #[.slice r1 R.al.length k1, .int .i64 R.n, .slice r2 R.ms.length k2, .slice r3 R.es.length k3]) (.agg #[.slice t1 T.al.length l1, .int .i64 T.n, .slice t2 T.ms.length l2, .slice t3 T.es.length l3]) (.slice al (bitsL b (mkN xs)).length cl) (R) (T) (C) 16 v W' → ∀ a', puts _ _ [u0, u1, u2, u3, u4, u5, u6, u7, u8, u9, u10, u11, u12, u13, u14, u15, v, u17, u18, u19, u20, u21, u22, u23, u24, u25, u26, u27, u28, u29] = a' → K' a' W') := fun v W' hb hv a' e => hK _ a' W' e (hI.step RL7_mono hl hb hv)
      have hWW := hWd.trans (hbel.mono hWd.size)
      have y0 := keep hbel zA0 hzA
      have y1 := keep hbel zA1 hzA
      have y2 := keep hbel zA2 hzA
      have y3 := keep hbel zA3 hzA
      have d13 : l.getD 13 false = true := by
        simp [Region.binds] at hd
        simp [hd]
      obtain rfl : u13 = _ := hHas 13 (by decide) d13
      clear hl hI hd hn hK hHas hlen d13
      refine StepG.mk ?_
      simp only [puts, Act.put]
      go_simp
      exact HK.out ((.agg #[.slice aa 4 ca, .int .i64 (mkN xs : Nat), .slice am (mkA xs).ms.length cm, .slice ae (mkA xs).es.length ce])) _ (Below.refl _ _) rfl _ (by simp [puts, Act.put])
    refine Steps.cons rfl ?_ ?_
    · intro l us W hl hI hd hn K' hK
      have hHas := hI.has
      have hbel := hI.bel
      have hlen := hI.len
      obtain ⟨u0, u1, u2, u3, u4, u5, u6, u7, u8, u9, u10, u11, u12, u13, u14, u15, u16, u17, u18, u19, u20, u21, u22, u23, u24, u25, u26, u27, u28, u29, rfl⟩ := list_RL7 hlen
      have HK : Hid (∀ v W', Below W.heap.size W W' → RL7 (.agg #[.slice aa 4 ca, .int .i64 (mkN xs : Nat), .slice am (mkA xs).ms.length cm, .slice ae (mkA xs).es.length ce]) (.agg #[.slice r1 R.al.length k1, .int .i64 R.n, .slice r2 R.ms.length k2, .slice r3 R.es.length k3]) (.agg #[.slice t1 T.al.length l1, .int .i64 T.n, .slice t2 T.ms.length l2, .slice t3 T.es.length l3]) (.slice al (bitsL b (mkN xs)).length cl) (R) (T) (C) 17 v W' → ∀ a', puts _ _ [u0, u1, u2, u3, u4, u5, u6, u7, u8, u9, u10, u11, u12, u13, u14, u15, u16, v, u18, u19, u20, u21, u22, u23, u24, u25, u26, u27, u28, u29] = a' → K' a' W') := fun v W' hb hv a' e => hK _ a' W' e (hI.step RL7_mono hl hb hv)
      have hWW := hWd.trans (hbel.mono hWd.size)
      have d13 : l.getD 13 false = true := by
        simp [Region.binds] at hd
        simp [hd]
      have d16 : l.getD 16 false = true := by
        simp [Region.binds] at hd
        simp [hd]
      obtain rfl : u13 = _ := hHas 13 (by decide) d13
      obtain rfl : u16 = _ := hHas 16 (by decide) d16
      clear hl hI hd hn hK hHas hlen d13 d16
      refine StepG.mk ?_
      simp only [puts, Act.put]
      go_simp
      refine (R3.out W _ ((HA.out.mono (bel_drew _)).mono hbel)).mono ?_
      rintro e w9 ⟨u9, rfl, h9, hb9⟩
      have H9 := Lib.hid h9
      obtain ⟨a9, c9, rfl, _⟩ := h9
      go_simp
      exact HK.out _ _ hb9 ⟨_, _, rfl, H9.out⟩ _ (by simp [puts, Act.put])
    refine Steps.cons rfl ?_ ?_
    · intro l us W hl hI hd hn K' hK
      have hHas := hI.has
      have hbel := hI.bel
      have hlen := hI.len
      obtain ⟨u0, u1, u2, u3, u4, u5, u6, u7, u8, u9, u10, u11, u12, u13, u14, u15, u16, u17, u18, u19, u20, u21, u22, u23, u24, u25, u26, u27, u28, u29, rfl⟩ := list_RL7 hlen
      have HK : Hid (∀ v W', Below W.heap.size W W' → RL7 (.agg #[.slice aa 4 ca, .int .i64 (mkN xs : Nat), .slice am (mkA xs).ms.length cm, .slice ae (mkA xs).es.length ce]) (.agg #[.slice r1 R.al.length k1, .int .i64 R.n, .slice r2 R.ms.length k2, .slice r3 R.es.length k3]) (.agg #[.slice t1 T.al.length l1, .int .i64 T.n, .slice t2 T.ms.length l2, .slice t3 T.es.length l3]) (.slice al (bitsL b (mkN xs)).length cl) (R) (T) (C) 18 v W' → ∀ a', puts _ _ [u0, u1, u2, u3, u4, u5, u6, u7, u8, u9, u10, u11, u12, u13, u14, u15, u16, u17, v, u19, u20, u21, u22, u23, u24, u25, u26, u27, u28, u29] = a' → K' a' W') := fun v W' hb hv a' e => hK _ a' W' e (hI.step RL7_mono hl hb hv)
      have hWW := hWd.trans (hbel.mono hWd.size)
      have d13 : l.getD 13 false = true := by
        simp [Region.binds] at hd
        simp [hd]
      have d15 : l.getD 15 false = true := by
        simp [Region.binds] at hd
        simp [hd]
      have d17 : l.getD 17 false = true := by
        simp [Region.binds] at hd
        simp [hd]
      obtain rfl : u13 = _ := hHas 13 (by decide) d13
      obtain rfl : u15 = _ := hHas 15 (by decide) d15
      obtain ⟨a17, c17, e17, hr17⟩ : ∃ a c, u17 = .slice a (C).length c ∧ RdI W u17 (C) := hHas 17 (by decide) d17
      subst e17
      have Hr17 := Lib.hid hr17
      clear hr17
      clear hl hI hd hn hK hHas hlen d13 d15 d17
      refine StepG.mk ?_
      simp only [puts, Act.put]
      go_simp
      refine (R2.out W _ _ ((HA.out.mono (bel_drew _)).mono hbel) Hr17.out).mono ?_
      rintro e w9 ⟨u9, rfl, h9, hb9⟩
      have H9 := Lib.hid h9
      obtain ⟨v91, v92, v93, rfl, _⟩ := h9
      go_simp
      exact HK.out _ _ hb9 ⟨H9.out, _, _, _, _, rfl⟩ _ (by simp [puts, Act.put])
    refine Steps.cons rfl ?_ ?_
    · intro l us W hl hI hd hn K' hK
      have hHas := hI.has
      have hbel := hI.bel
      have hlen := hI.len
      obtain ⟨u0, u1, u2, u3, u4, u5, u6, u7, u8, u9, u10, u11, u12, u13, u14, u15, u16, u17, u18, u19, u20, u21, u22, u23, u24, u25, u26, u27, u28, u29, rfl⟩ := list_RL7 hlen
      have HK : Hid (∀ v W', Below W.heap.size W W' → RL7 (.agg #[.slice aa 4 ca, .int .i64 (mkN xs : Nat), .slice am (mkA xs).ms.length cm, .slice ae (mkA xs).es.length ce]) (.agg #[.slice r1 R.al.length k1, .int .i64 R.n, .slice r2 R.ms.length k2, .slice r3 R.es.length k3]) (.agg #[.slice t1 T.al.length l1, .int .i64 T.n, .slice t2 T.ms.length l2, .slice t3 T.es.length l3]) (.slice al (bitsL b (mkN xs)).length cl) (R) (T) (C) 19 v W' → ∀ a', puts _ _ [u0, u1, u2, u3, u4, u5, u6, u7, u8, u9, u10, u11, u12, u13, u14, u15, u16, u17, u18, v, u20, u21, u22, u23, u24, u25, u26, u27, u28, u29] = a' → K' a' W') := fun v W' hb hv a' e => hK _ a' W' e (hI.step RL7_mono hl hb hv)
      have hWW := hWd.trans (hbel.mono hWd.size)
      have hr18 : RdA W u18 T ∧ ∃ v1 v2 v3 n, u18 = .agg #[v1, .int .i64 n, v2, v3] := hHas 18 (by decide) (by simp [Region.binds] at hd; simp [hd])
      obtain ⟨hr18, v181, v182, v183, n18, rfl⟩ := hr18
      have Hr18 := Lib.hid hr18
      clear hr18
      have d13 : l.getD 13 false = true := by
        simp [Region.binds] at hd
        simp [hd]
      have d14 : l.getD 14 false = true := by
        simp [Region.binds] at hd
        simp [hd]
      have d18 : l.getD 18 false = true := by
        simp [Region.binds] at hd
        simp [hd]
      obtain rfl : u13 = _ := hHas 13 (by decide) d13
      obtain rfl : u14 = _ := hHas 14 (by decide) d14
      clear hl hI hd hn hK hHas hlen d13 d14 d18
      refine StepG.mk ?_
      simp only [puts, Act.put]
      go_simp
      refine (equalL_any _ _ T W ((HT.out.mono (bel_drew _)).mono hbel) Hr18.out S2.out).mono ?_
      rintro e w9 ⟨_, rfl, rfl, hb9⟩
      go_simp
      exact HK.out _ _ hb9 rfl _ (by simp [puts, Act.put])
    refine Steps.cons rfl ?_ ?_
    · intro l us W hl hI hd hn K' hK
      have hHas := hI.has
      have hbel := hI.bel
      have hlen := hI.len
      obtain ⟨u0, u1, u2, u3, u4, u5, u6, u7, u8, u9, u10, u11, u12, u13, u14, u15, u16, u17, u18, u19, u20, u21, u22, u23, u24, u25, u26, u27, u28, u29, rfl⟩ := list_RL7 hlen
      have HK : Hid (∀ v W', Below W.heap.size W W' → RL7 (.agg #[.slice aa 4 ca, .int .i64 (mkN xs : Nat), .slice am (mkA xs).ms.length cm, .slice ae (mkA xs).es.length ce]) (.agg #[.slice r1 R.al.length k1, .int .i64 R.n, .slice r2 R.ms.length k2, .slice r3 R.es.length k3]) (.agg #[.slice t1 T.al.length l1, .int .i64 T.n, .slice t2 T.ms.length l2, .slice t3 T.es.length l3]) (.slice al (bitsL b (mkN xs)).length cl) (R) (T) (C) 20 v W' → ∀ a', puts _ _ [u0, u1, u2, u3, u4, u5, u6, u7, u8, u9, u10, u11, u12, u13, u14, u15, u16, u17, u18, u19, v, u21, u22, u23, u24, u25, u26, u27, u28, u29] = a' → K' a' W') := fun v W' hb hv a' e => hK _ a' W' e (hI.step RL7_mono hl hb hv)
      have hWW := hWd.trans (hbel.mono hWd.size)
      have d13 : l.getD 13 false = true := by
        simp [Region.binds] at hd
        simp [hd]
      have d19 : l.getD 19 false = true := by
        simp [Region.binds] at hd
        simp [hd]
      obtain rfl : u13 = _ := hHas 13 (by decide) d13
      obtain rfl : u19 = _ := hHas 19 (by decide) d19
      clear hl hI hd hn hK hHas hlen d13 d19
      refine StepG.mk ?_
      simp only [puts, Act.put]
      go_simp
      exact HK.out (.bool true) _ (Below.refl _ _) rfl _ (by simp [puts, Act.put])
    refine Steps.cons rfl ?_ ?_
    · intro l us W hl hI hd hn K' hK
      have hHas := hI.has
      have hbel := hI.bel
      have hlen := hI.len
      obtain ⟨u0, u1, u2, u3, u4, u5, u6, u7, u8, u9, u10, u11, u12, u13, u14, u15, u16, u17, u18, u19, u20, u21, u22, u23, u24, u25, u26, u27, u28, u29, rfl⟩ := list_RL7 hlen
      have HK : Hid (∀ v W', Below W.heap.size W W' → RL7 (.agg #[.slice aa 4 ca, .int .i64 (mkN xs : Nat), .slice am (mkA xs).ms.length cm, .slice ae (mkA xs).es.length ce]) (.agg #[.slice r1 R.al.length k1, .int .i64 R.n, .slice r2 R.ms.length k2, .slice r3 R.es.length k3]) (.agg #[.slice t1 T.al.length l1, .int .i64 T.n, .slice t2 T.ms.length l2, .slice t3 T.es.length l3]) (.slice al (bitsL b (mkN xs)).length cl) (R) (T) (C) 21 v W' → ∀ a', puts _ _ [u0, u1, u2, u3, u4, u5, u6, u7, u8, u9, u10, u11, u12, u13, u14, u15, u16, u17, u18, u19, u20, v, u22, u23, u24, u25, u26, u27, u28, u29] = a' → K' a' W') := fun v W' hb hv a' e => hK _ a' W' e (hI.step RL7_mono hl hb hv)
      have hWW := hWd.trans (hbel.mono hWd.size)
      have d20 : l.getD 20 false = true := by
        simp [Region.binds] at hd
        simp [hd]
      obtain rfl : u20 = _ := hHas 20 (by decide) d20
      clear hl hI hd hn hK hHas hlen d20
      refine StepG.mk ?_
      simp only [puts, Act.put]
      go_simp
      exact HK.out (.bool true) _ (Below.refl _ _) rfl _ (by simp [puts, Act.put])
    refine Steps.cons rfl ?_ ?_
    · intro l us W hl hI hd hn K' hK
      have hHas := hI.has
      have hbel := hI.bel
      have hlen := hI.len
      obtain ⟨u0, u1, u2, u3, u4, u5, u6, u7, u8, u9, u10, u11, u12, u13, u14, u15, u16, u17, u18, u19, u20, u21, u22, u23, u24, u25, u26, u27, u28, u29, rfl⟩ := list_RL7 hlen
      have HK : Hid (∀ v W', Below W.heap.size W W' → RL7 (.agg #[.slice aa 4 ca, .int .i64 (mkN xs : Nat), .slice am (mkA xs).ms.length cm, .slice ae (mkA xs).es.length ce]) (.agg #[.slice r1 R.al.length k1, .int .i64 R.n, .slice r2 R.ms.length k2, .slice r3 R.es.length k3]) (.agg #[.slice t1 T.al.length l1, .int .i64 T.n, .slice t2 T.ms.length l2, .slice t3 T.es.length l3]) (.slice al (bitsL b (mkN xs)).length cl) (R) (T) (C) 22 v W' → ∀ a', puts _ _ [u0, u1, u2, u3, u4, u5, u6, u7, u8, u9, u10, u11, u12, u13, u14, u15, u16, u17, u18, u19, u20, u21, v, u23, u24, u25, u26, u27, u28, u29] = a' → K' a' W') := fun v W' hb hv a' e => hK _ a' W' e (hI.step RL7_mono hl hb hv)
      have hWW := hWd.trans (hbel.mono hWd.size)
      have y0 := keep hbel zR0 hzR
      have y1 := keep hbel zR1 hzR
      have y2 := keep hbel zR2 hzR
      have y3 := keep hbel zR3 hzR
      have d21 : l.getD 21 false = true := by
        simp [Region.binds] at hd
        simp [hd]
      obtain rfl : u21 = _ := hHas 21 (by decide) d21
      clear hl hI hd hn hK hHas hlen d21
      refine StepG.mk ?_
      simp only [puts, Act.put]
      go_simp
      exact HK.out ((.agg #[.slice r1 R.al.length k1, .int .i64 R.n, .slice r2 R.ms.length k2, .slice r3 R.es.length k3])) _ (Below.refl _ _) rfl _ (by simp [puts, Act.put])
    refine Steps.cons rfl ?_ ?_
    · intro l us W hl hI hd hn K' hK
      have hHas := hI.has
      have hbel := hI.bel
      have hlen := hI.len
      obtain ⟨u0, u1, u2, u3, u4, u5, u6, u7, u8, u9, u10, u11, u12, u13, u14, u15, u16, u17, u18, u19, u20, u21, u22, u23, u24, u25, u26, u27, u28, u29, rfl⟩ := list_RL7 hlen
      have HK : Hid (∀ v W', Below W.heap.size W W' → RL7 (.agg #[.slice aa 4 ca, .int .i64 (mkN xs : Nat), .slice am (mkA xs).ms.length cm, .slice ae (mkA xs).es.length ce]) (.agg #[.slice r1 R.al.length k1, .int .i64 R.n, .slice r2 R.ms.length k2, .slice r3 R.es.length k3]) (.agg #[.slice t1 T.al.length l1, .int .i64 T.n, .slice t2 T.ms.length l2, .slice t3 T.es.length l3]) (.slice al (bitsL b (mkN xs)).length cl) (R) (T) (C) 23 v W' → ∀ a', puts _ _ [u0, u1, u2, u3, u4, u5, u6, u7, u8, u9, u10, u11, u12, u13, u14, u15, u16, u17, u18, u19, u20, u21, u22, v, u24, u25, u26, u27, u28, u29] = a' → K' a' W') := fun v W' hb hv a' e => hK _ a' W' e (hI.step RL7_mono hl hb hv)
      have hWW := hWd.trans (hbel.mono hWd.size)
      have d21 : l.getD 21 false = true := by
        simp [Region.binds] at hd
        simp [hd]
      have d22 : l.getD 22 false = true := by
        simp [Region.binds] at hd
        simp [hd]
      obtain rfl : u21 = _ := hHas 21 (by decide) d21
      obtain rfl : u22 = _ := hHas 22 (by decide) d22
      clear hl hI hd hn hK hHas hlen d21 d22
      refine StepG.mk ?_
      simp only [puts, Act.put]
      go_simp
      refine (I1.out W _ ((HR.out.mono (bel_drew _)).mono hbel)).mono ?_
      rintro e w9 ⟨_, rfl, rfl, hb9⟩
      go_simp
      exact HK.out _ _ hb9 rfl _ (by simp [puts, Act.put])
    refine Steps.cons rfl ?_ ?_
    · intro l us W hl hI hd hn K' hK
      have hHas := hI.has
      have hbel := hI.bel
      have hlen := hI.len
      obtain ⟨u0, u1, u2, u3, u4, u5, u6, u7, u8, u9, u10, u11, u12, u13, u14, u15, u16, u17, u18, u19, u20, u21, u22, u23, u24, u25, u26, u27, u28, u29, rfl⟩ := list_RL7 hlen
      have HK : Hid (∀ v W', Below W.heap.size W W' → RL7 (.agg #[.slice aa 4 ca, .int .i64 (mkN xs : Nat), .slice am (mkA xs).ms.length cm, .slice ae (mkA xs).es.length ce]) (.agg #[.slice r1 R.al.length k1, .int .i64 R.n, .slice r2 R.ms.length k2, .slice r3 R.es.length k3]) (.agg #[.slice t1 T.al.length l1, .int .i64 T.n, .slice t2 T.ms.length l2, .slice t3 T.es.length l3]) (.slice al (bitsL b (mkN xs)).length cl) (R) (T) (C) 24 v W' → ∀ a', puts _ _ [u0, u1, u2, u3, u4, u5, u6, u7, u8, u9, u10, u11, u12, u13, u14, u15, u16, u17, u18, u19, u20, u21, u22, u23, v, u25, u26, u27, u28, u29] = a' → K' a' W') := fun v W' hb hv a' e => hK _ a' W' e (hI.step RL7_mono hl hb hv)
      have hWW := hWd.trans (hbel.mono hWd.size)
      have d21 : l.getD 21 false = true := by
        simp [Region.binds] at hd
        simp [hd]
      have d23 : l.getD 23 false = true := by
        simp [Region.binds] at hd
        simp [hd]
      obtain rfl : u21 = _ := hHas 21 (by decide) d21
      obtain rfl : u23 = _ := hHas 23 (by decide) d23
      clear hl hI hd hn hK hHas hlen d21 d23
      refine StepG.mk ?_
      simp only [puts, Act.put]
      go_simp
      exact HK.out (.bool true) _ (Below.refl _ _) rfl _ (by simp [puts, Act.put])
    refine Steps.cons rfl ?_ ?_
    · intro l us W hl hI hd hn K' hK
      have hHas := hI.has
      have hbel := hI.bel
      have hlen := hI.len
      obtain ⟨u0, u1, u2, u3, u4, u5, u6, u7, u8, u9, u10, u11, u12, u13, u14, u15, u16, u17, u18, u19, u20, u21, u22, u23, u24, u25, u26, u27, u28, u29, rfl⟩ := list_RL7 hlen
      have HK : Hid (∀ v W', Below W.heap.size W W' → RL7 (.agg #[.slice aa 4 ca, .int .i64 (mkN xs : Nat), .slice am (mkA xs).ms.length cm, .slice ae (mkA xs).es.length ce]) (.agg #[.slice r1 R.al.length k1, .int .i64 R.n, .slice r2 R.ms.length k2, .slice r3 R.es.length k3]) (.agg #[.slice t1 T.al.length l1, .int .i64 T.n, .slice t2 T.ms.length l2, .slice t3 T.es.length l3]) (.slice al (bitsL b (mkN xs)).length cl) (R) (T) (C) 25 v W' → ∀ a', puts _ _ [u0, u1, u2, u3, u4, u5, u6, u7, u8, u9, u10, u11, u12, u13, u14, u15, u16, u17, u18, u19, u20, u21, u22, u23, u24, v, u26, u27, u28, u29] = a' → K' a' W') := fun v W' hb hv a' e => hK _ a' W' e (hI.step RL7_mono hl hb hv)
      have hWW := hWd.trans (hbel.mono hWd.size)
      have d24 : l.getD 24 false = true := by
        simp [Region.binds] at hd
        simp [hd]
      obtain rfl : u24 = _ := hHas 24 (by decide) d24
      clear hl hI hd hn hK hHas hlen d24
      refine StepG.mk ?_
      simp only [puts, Act.put]
      go_simp
      exact HK.out (.bool true) _ (Below.refl _ _) rfl _ (by simp [puts, Act.put])
    refine Steps.cons rfl ?_ ?_
    · intro l us W hl hI hd hn K' hK
      have hHas := hI.has
      have hbel := hI.bel
      have hlen := hI.len
      obtain ⟨u0, u1, u2, u3, u4, u5, u6, u7, u8, u9, u10, u11, u12, u13, u14, u15, u16, u17, u18, u19, u20, u21, u22, u23, u24, u25, u26, u27, u28, u29, rfl⟩ := list_RL7 hlen
      have HK : Hid (∀ v W', Below W.heap.size W W' → RL7 (.agg #[.slice aa 4 ca, .int .i64 (mkN xs : Nat), .slice am (mkA xs).ms.length cm, .slice ae (mkA xs).es.length ce]) (.agg #[.slice r1 R.al.length k1, .int .i64 R.n, .slice r2 R.ms.length k2, .slice r3 R.es.length k3]) (.agg #[.slice t1 T.al.length l1, .int .i64 T.n, .slice t2 T.ms.length l2, .slice t3 T.es.length l3]) (.slice al (bitsL b (mkN xs)).length cl) (R) (T) (C) 26 v W' → ∀ a', puts _ _ [u0, u1, u2, u3, u4, u5, u6, u7, u8, u9, u10, u11, u12, u13, u14, u15, u16, u17, u18, u19, u20, u21, u22, u23, u24, u25, v, u27, u28, u29] = a' → K' a' W') := fun v W' hb hv a' e => hK _ a' W' e (hI.step RL7_mono hl hb hv)
      have hWW := hWd.trans (hbel.mono hWd.size)
      have y0 := keep hbel zT0 hzT
      have y1 := keep hbel zT1 hzT
      have y2 := keep hbel zT2 hzT
      have y3 := keep hbel zT3 hzT
      have d25 : l.getD 25 false = true := by
        simp [Region.binds] at hd
        simp [hd]
      obtain rfl : u25 = _ := hHas 25 (by decide) d25
      clear hl hI hd hn hK hHas hlen d25
      refine StepG.mk ?_
      simp only [puts, Act.put]
      go_simp
      exact HK.out ((.agg #[.slice t1 T.al.length l1, .int .i64 T.n, .slice t2 T.ms.length l2, .slice t3 T.es.length l3])) _ (Below.refl _ _) rfl _ (by simp [puts, Act.put])
    refine Steps.cons rfl ?_ ?_
    · intro l us W hl hI hd hn K' hK
      have hHas := hI.has
      have hbel := hI.bel
      have hlen := hI.len
      obtain ⟨u0, u1, u2, u3, u4, u5, u6, u7, u8, u9, u10, u11, u12, u13, u14, u15, u16, u17, u18, u19, u20, u21, u22, u23, u24, u25, u26, u27, u28, u29, rfl⟩ := list_RL7 hlen
      have HK : Hid (∀ v W', Below W.heap.size W W' → RL7 (.agg #[.slice aa 4 ca, .int .i64 (mkN xs : Nat), .slice am (mkA xs).ms.length cm, .slice ae (mkA xs).es.length ce]) (.agg #[.slice r1 R.al.length k1, .int .i64 R.n, .slice r2 R.ms.length k2, .slice r3 R.es.length k3]) (.agg #[.slice t1 T.al.length l1, .int .i64 T.n, .slice t2 T.ms.length l2, .slice t3 T.es.length l3]) (.slice al (bitsL b (mkN xs)).length cl) (R) (T) (C) 27 v W' → ∀ a', puts _ _ [u0, u1, u2, u3, u4, u5, u6, u7, u8, u9, u10, u11, u12, u13, u14, u15, u16, u17, u18, u19, u20, u21, u22, u23, u24, u25, u26, v, u28, u29] = a' → K' a' W') := fun v W' hb hv a' e => hK _ a' W' e (hI.step RL7_mono hl hb hv)
      have hWW := hWd.trans (hbel.mono hWd.size)
      have d25 : l.getD 25 false = true := by
        simp [Region.binds] at hd
        simp [hd]
      have d26 : l.getD 26 false = true := by
        simp [Region.binds] at hd
        simp [hd]
      obtain rfl : u25 = _ := hHas 25 (by decide) d25
      obtain rfl : u26 = _ := hHas 26 (by decide) d26
      clear hl hI hd hn hK hHas hlen d25 d26
      refine StepG.mk ?_
      simp only [puts, Act.put]
      go_simp
      refine (I2.out W _ ((HT.out.mono (bel_drew _)).mono hbel)).mono ?_
      rintro e w9 ⟨_, rfl, rfl, hb9⟩
      go_simp
      exact HK.out _ _ hb9 rfl _ (by simp [puts, Act.put])
    refine Steps.cons rfl ?_ ?_
    · intro l us W hl hI hd hn K' hK
      have hHas := hI.has
      have hbel := hI.bel
      have hlen := hI.len
      obtain ⟨u0, u1, u2, u3, u4, u5, u6, u7, u8, u9, u10, u11, u12, u13, u14, u15, u16, u17, u18, u19, u20, u21, u22, u23, u24, u25, u26, u27, u28, u29, rfl⟩ := list_RL7 hlen
      have HK : Hid (∀ v W', Below W.heap.size W W' → RL7 (.agg #[.slice aa 4 ca, .int .i64 (mkN xs : Nat), .slice am (mkA xs).ms.length cm, .slice ae (mkA xs).es.length ce]) (.agg #[.slice r1 R.al.length k1, .int .i64 R.n, .slice r2 R.ms.length k2, .slice r3 R.es.length k3]) (.agg #[.slice t1 T.al.length l1, .int .i64 T.n, .slice t2 T.ms.length l2, .slice t3 T.es.length l3]) (.slice al (bitsL b (mkN xs)).length cl) (R) (T) (C) 28 v W' → ∀ a', puts _ _ [u0, u1, u2, u3, u4, u5, u6, u7, u8, u9, u10, u11, u12, u13, u14, u15, u16, u17, u18, u19, u20, u21, u22, u23, u24, u25, u26, u27, v, u29] = a' → K' a' W') := fun v W' hb hv a' e => hK _ a' W' e (hI.step RL7_mono hl hb hv)
      have hWW := hWd.trans (hbel.mono hWd.size)
      have d25 : l.getD 25 false = true := by
        simp [Region.binds] at hd
        simp [hd]
      have d27 : l.getD 27 false = true := by
        simp [Region.binds] at hd
        simp [hd]
      obtain rfl : u25 = _ := hHas 25 (by decide) d25
      obtain rfl : u27 = _ := hHas 27 (by decide) d27
      clear hl hI hd hn hK hHas hlen d25 d27
      refine StepG.mk ?_
      simp only [puts, Act.put]
      go_simp
      exact HK.out (.bool true) _ (Below.refl _ _) rfl _ (by simp [puts, Act.put])
    refine Steps.cons rfl ?_ ?_
    · intro l us W hl hI hd hn K' hK
      have hHas := hI.has
      have hbel := hI.bel
      have hlen := hI.len
      obtain ⟨u0, u1, u2, u3, u4, u5, u6, u7, u8, u9, u10, u11, u12, u13, u14, u15, u16, u17, u18, u19, u20, u21, u22, u23, u24, u25, u26, u27, u28, u29, rfl⟩ := list_RL7 hlen
      have HK : Hid (∀ v W', Below W.heap.size W W' → RL7 (.agg #[.slice aa 4 ca, .int .i64 (mkN xs : Nat), .slice am (mkA xs).ms.length cm, .slice ae (mkA xs).es.length ce]) (.agg #[.slice r1 R.al.length k1, .int .i64 R.n, .slice r2 R.ms.length k2, .slice r3 R.es.length k3]) (.agg #[.slice t1 T.al.length l1, .int .i64 T.n, .slice t2 T.ms.length l2, .slice t3 T.es.length l3]) (.slice al (bitsL b (mkN xs)).length cl) (R) (T) (C) 29 v W' → ∀ a', puts _ _ [u0, u1, u2, u3, u4, u5, u6, u7, u8, u9, u10, u11, u12, u13, u14, u15, u16, u17, u18, u19, u20, u21, u22, u23, u24, u25, u26, u27, u28, v] = a' → K' a' W') := fun v W' hb hv a' e => hK _ a' W' e (hI.step RL7_mono hl hb hv)
      have hWW := hWd.trans (hbel.mono hWd.size)
      have d28 : l.getD 28 false = true := by
        simp [Region.binds] at hd
        simp [hd]
      obtain rfl : u28 = _ := hHas 28 (by decide) d28
      clear hl hI hd hn hK hHas hlen d28
      refine StepG.mk ?_
      simp only [puts, Act.put]
      go_simp
      exact HK.out (.bool true) _ (Below.refl _ _) rfl _ (by simp [puts, Act.put])
    exact Steps.nil (Nat.le_refl _)
  · intro us W4 hlen hbel hall
    obtain ⟨u0, u1, u2, u3, u4, u5, u6, u7, u8, u9, u10, u11, u12, u13, u14, u15, u16, u17, u18, u19, u20, u21, u22, u23, u24, u25, u26, u27, u28, u29, rfl⟩ := list_RL7 hlen
    obtain rfl : u29 = _ := hall 29 (by decide)
    have HF := Lib.hid (hWd.trans (hbel.mono hWd.size))
    clear hall hlen hbel hWd zA0 zA1 zA2 zA3 zR0 zR1 zR2 zR3 zT0 zT1 zT2 zT3
    simp only [puts, Act.put, List.setIfInBounds_toArray, List.set_cons_succ, List.set_cons_zero]
    go_wp2_with fail
    go_ret
    exact ⟨_, rfl, rfl, HF.out⟩
end Go.Proofs.Ythchkddhibhenaa
