/- ReachDistances returns true. -/
import Derived.Test.YthchkddhibhenaaLawKit
import Derived.Test.YthchkddhibhenaaRDistL
import Derived.Test.YthchkddhibhenaaPathsEq
import Derived.Test.YthchkddhibhenaaRegMono
import Derived.Test.YthchkddhibhenaaSmall
import Derived.Test.YthchkddhibhenaaRPath
namespace Go.Proofs.Ythchkddhibhenaa
open Go Go.RowKit

/-- What holds of the slots of a region. -/
def RD4 (L1 : List Int) (L2 : List Int) (n : Nat) (B1 : Nat) (B2 : Nat) (b0 : Int) (b1 : Int) : Nat → Value → World → Prop
  | 0, v, _ => v = .pointer (some ⟨B1, 0, none⟩)
  | 1, v, _ => v = .int .u8 b0
  | 2, v, _ => v = .pointer (some ⟨B2, 1, none⟩)
  | 3, v, _ => v = .int .i64 n
  | 4, v, W => ∃ a c, v = .slice a (L1).length c ∧ RdI W v (L1)
  | 5, v, _ => v = .pointer (some ⟨B1, 1, none⟩)
  | 6, v, _ => v = .int .u8 b1
  | 7, v, _ => v = .pointer (some ⟨B2, 1, none⟩)
  | 8, v, _ => v = .int .i64 n
  | 9, v, W => ∃ a c, v = .slice a (L2).length c ∧ RdI W v (L2)
  | 10, v, W => ∃ a c, v = .slice a (L1).length c ∧ RdI W v (L1)
  | 11, v, W => ∃ a c, v = .slice a (L2).length c ∧ RdI W v (L2)
  | _ + 12, _, _ => False
theorem RD4_mono {L1 : List Int} {L2 : List Int} {n : Nat} {B1 : Nat} {B2 : Nat} {b0 : Int} {b1 : Int} : ∀ j v W W', Below W.heap.size W W' → RD4 L1 L2 n B1 B2 b0 b1 j v W → RD4 L1 L2 n B1 B2 b0 b1 j v W'
  | 0, _, _, _, _, h => h
  | 1, _, _, _, _, h => h
  | 2, _, _, _, _, h => h
  | 3, _, _, _, _, h => h
  | 4, _, _, _, hb, ⟨a, c, h1, h2⟩ => ⟨a, c, h1, h2.mono hb⟩
  | 5, _, _, _, _, h => h
  | 6, _, _, _, _, h => h
  | 7, _, _, _, _, h => h
  | 8, _, _, _, _, h => h
  | 9, _, _, _, hb, ⟨a, c, h1, h2⟩ => ⟨a, c, h1, h2.mono hb⟩
  | 10, _, _, _, hb, ⟨a, c, h1, h2⟩ => ⟨a, c, h1, h2.mono hb⟩
  | 11, _, _, _, hb, ⟨a, c, h1, h2⟩ => ⟨a, c, h1, h2.mono hb⟩
  | _ + 12, _, _, _, _, h => h.elim
theorem list_RD4 {us : List Value} (h : us.length = 12) : ∃ u0 u1 u2 u3 u4 u5 u6 u7 u8 u9 u10 u11, us = [u0, u1, u2, u3, u4, u5, u6, u7, u8, u9, u10, u11] := by
  match us, h with
  | [u0, u1, u2, u3, u4, u5, u6, u7, u8, u9, u10, u11], _ => exact ⟨_, _, _, _, _, _, _, _, _, _, _, _, rfl⟩
/-- What holds of the slots of a region. -/
def RD12 (vl : Value) (A : Value) (vt : Value) (k : Nat) (bb : Nat) (oo : Nat) (d : Int) : Nat → Value → World → Prop
  | 0, v, _ => v = vl
  | 1, v, _ => v = .int .i64 k
  | 2, v, _ => v = .pointer (some ⟨bb, oo + k, none⟩)
  | 3, v, _ => v = .int .i64 d
  | 4, v, _ => v = A
  | 5, v, _ => v = .int .i64 k
  | 6, v, _ => v = vt
  | 7, v, _ => v = .int .i64 d
  | 8, v, _ => v = .bool false
  | _ + 9, _, _ => False
theorem RD12_mono {vl : Value} {A : Value} {vt : Value} {k : Nat} {bb : Nat} {oo : Nat} {d : Int} : ∀ j v W W', Below W.heap.size W W' → RD12 vl A vt k bb oo d j v W → RD12 vl A vt k bb oo d j v W'
  | 0, _, _, _, _, h => h
  | 1, _, _, _, _, h => h
  | 2, _, _, _, _, h => h
  | 3, _, _, _, _, h => h
  | 4, _, _, _, _, h => h
  | 5, _, _, _, _, h => h
  | 6, _, _, _, _, h => h
  | 7, _, _, _, _, h => h
  | 8, _, _, _, _, h => h
  | _ + 9, _, _, _, _, h => h.elim
theorem list_RD12 {us : List Value} (h : us.length = 9) : ∃ u0 u1 u2 u3 u4 u5 u6 u7 u8, us = [u0, u1, u2, u3, u4, u5, u6, u7, u8] := by
  match us, h with
  | [u0, u1, u2, u3, u4, u5, u6, u7, u8], _ => exact ⟨_, _, _, _, _, _, _, _, _, rfl⟩
section
variable {es : List Ed} {W E T : List Int} {s : Int}
theorem eLoop_wlen {d : Nat} {r : List Int × Int} (hr : r.1.length ≤ d) : ∀ (l : List Ed) {S : List Int} {nx : Runs}, (∀ m ∈ nx, m.1.length ≤ d + 1) → (∀ w, eLoop W E T r l S nx = .inl w → w.length ≤ d + 1) ∧ (∀ p, eLoop W E T r l S nx = .inr p → ∀ m ∈ p.2, m.1.length ≤ d + 1)
  | [], S, nx, h => ⟨fun w e => by simp [eLoop] at e, fun p e => by simp only [eLoop, Sum.inr.injEq] at e; subst e; exact h⟩
  | x :: l, S, nx, h => by
    rw [eLoop]
    split
    · split
      · exact ⟨fun w e => by simp only [Sum.inl.injEq] at e; subst e; simp; omega, fun p e => by cases e⟩
      · refine eLoop_wlen hr l ?_
        intro m hm
        rcases List.mem_append.1 hm with hm | hm
        · exact h m hm
        · rw [List.mem_singleton.1 hm]; simp; omega
    · exact eLoop_wlen hr l h
theorem rLoop_wlen {d : Nat} : ∀ (L : Runs) {S : List Int} {nx : Runs}, (∀ m ∈ L, m.1.length ≤ d) → (∀ m ∈ nx, m.1.length ≤ d + 1) → (∀ w, rLoop es W E T L S nx = .inl w → w.length ≤ d + 1) ∧ (∀ p, rLoop es W E T L S nx = .inr p → ∀ m ∈ p.2, m.1.length ≤ d + 1)
  | [], S, nx, _, h => ⟨fun w e => by simp [rLoop] at e, fun p e => by simp only [rLoop, Sum.inr.injEq] at e; subst e; exact h⟩
  | r :: L, S, nx, hL, h => by
    have h1 := eLoop_wlen (W := W) (E := E) (T := T) (hL r (List.mem_cons_self ..)) es (S := S) h
    cases he : eLoop W E T r es S nx with
    | inl w => rw [rLoop_inl he]; exact ⟨fun w' e => by cases e; exact h1.1 w he, fun p e => by cases e⟩
    | inr p => rw [rLoop_inr he]; exact rLoop_wlen L (fun m hm => hL m (List.mem_cons_of_mem _ hm)) (h1.2 p he)
theorem lLoop_wlen : ∀ (f d : Nat) (L : Runs) (S : List Int), (∀ m ∈ L, m.1.length ≤ d) → ∀ w, lLoop es W E T f L S = some w → w.length ≤ d + f
  | 0, _, _, _, _, w, h => by cases h
  | f + 1, d, L, S, hL, w, h => by
    by_cases h0 : L = []
    · rw [lLoop, if_pos h0] at h; cases h
    · have h1 := rLoop_wlen (es := es) (W := W) (E := E) (T := T) L (S := S) (nx := []) hL (fun m hm => by cases hm)
      cases he : rLoop es W E T L S [] with
      | inl w' => rw [lLoop_inl h0 he] at h; cases h; have := h1.1 w he; omega
      | inr p => rw [lLoop_inr h0 he] at h; have := lLoop_wlen f (d + 1) p.2 p.1 (h1.2 p he) w h; omega
theorem pathR_wlen {least : Int} {w : List Int} (h : pathR es W E T least s = some w) : w.length ≤ es.length + 2 := by
  rw [pathR] at h
  split at h
  · cases h
  · split at h
    · cases h; simp
    · have := lLoop_wlen (es := es) (W := W) (E := E) (T := T) (es.length + 2) 0 [([], s)] [] (fun m hm => by rw [List.mem_singleton.1 hm]; simp) w h
      omega
end
theorem RdA.al0 {w : World} {va vn vm ve : Value} {a : Aut} (h : RdA w (.agg #[va, vn, vm, ve]) a) : RdI w va a.al := by
  obtain ⟨va', vm', ve', e, h1, _, _⟩ := h
  simp at e
  rw [e.1]; exact h1
theorem mkA_als (xs : List Int) : ∀ x ∈ (mkA xs).es, hasB (mkA xs).al x.e = true := by
  intro x hx
  have h := mkEs_mem hx
  rw [hasB_true]
  show x.e ∈ [0, 1, 2, 3]
  have : x.e = 0 ∨ x.e = 1 ∨ x.e = 2 ∨ x.e = 3 := by omega
  rcases this with h | h | h | h <;> rw [h] <;> decide
theorem PPost.some0 {xs : List Int} {u : Value} {w' : World} (h : PPost 0 (some xs) u w') : ∃ v, u = .tuple #[v, .bool true, .int .i64 0] ∧ RdI w' v xs := by
  unfold PPost at h; rwa [if_pos rfl] at h
theorem PPost.none0 {u : Value} {w' : World} (h : PPost 0 none u w') : u = .tuple #[.slice none 0 0, .bool false, .int .i64 0] := by
  unfold PPost at h; rwa [if_pos rfl] at h
theorem mk_dist0 (xs : List Int) (b : Int) : err2 (mkA xs).err (setErr (mkA xs).n none (bitsL b (mkN xs))) = 0 := by
  rw [err2, if_pos (mkA_err xs)]; exact bitsL_err b _
theorem mk_path0 (xs : List Int) (b0 b1 : Int) (i : Nat) (hi : i < mkN xs) : pathErr (mkA xs) i (bitsL b0 (mkN xs)) (bitsL b1 (mkN xs)) = 0 := by
  rw [pathErr, err2, if_pos (mkA_err xs), if_neg (by rw [show (mkA xs).n = (mkN xs : Int) from rfl]; omega), err2, if_pos (show setErr (mkA xs).n none (bitsL b0 (mkN xs)) = 0 from bitsL_err b0 _)]
  exact bitsL_err b1 _

set_option maxRecDepth 100000 in
set_option maxHeartbeats 6000000 in
theorem reachDistances_any (xs : List Int) (hd : Desc xs) (x b0 b1 : Int) (hx0 : 0 ≤ x) (hx1 : x < 256) (hb00 : 0 ≤ b0) (hb01 : b0 < 256) (hb10 : 0 ≤ b1) (hb11 : b1 < 256) (w : World) :
    Calls Try.prog 3 #[.agg (bytes8 xs), .int .u8 x, .agg #[.int .u8 b0, .int .u8 b1]] w (Ret w fun u _ => u = .bool true) := by
  have Hsz := Lib.hid hd.size
  have hmake := fun w => make_any xs w hd
  have Hmake := Lib.hid hmake
  clear hd hmake
  generalize bytes8 xs = cs at *
  have hN := mkN_le xs
  go_enter Try.func3, Try.ntmps3
  go_wp2_with fail
  refine (known_any _).mono ?_
  rintro e w1 ⟨_, rfl, rfl, hbk⟩
  have hW1 := (((Below.refl w.heap.size w).alloc (Nat.le_refl _) (.cells cs 25)).alloc (by simp) (.cells #[.int .u8 b0, .int .u8 b1] 26)).trans (hbk.mono (by simp; omega))
  have hx1 : w1.heap[w.heap.size]? = some (.cells cs 25 (0, 0)) := (hbk.block _ (by simp; omega)).trans (heap_past (by simp) (heap_at rfl))
  have hq1 : w1.heap[w.heap.size + 1]? = some (.cells #[.int .u8 b0, .int .u8 b1] 26 (0, 0)) := (hbk.block _ (by simp)).trans (heap_at (by simp))
  have hs1 : w.heap.size + 2 ≤ w1.heap.size := by have := hbk.size; simp at this; omega
  have Hx1 := Lib.hid hx1
  have Hq1 := Lib.hid hq1
  clear hbk hx1 hq1
  go_wp2_with (first | (with_reducible refine wpList_load_row rfl 25 (.tmp 3) rfl w.heap.size rfl 25 cs (0, 0) _ (Hx1.out) Try.underlying25 rfl Hsz.out ?_) | (go_at_call 13; refine (Hmake.out _).mono ?_; rintro e w2 ⟨v2, rfl, ha2, hb2⟩; have hW2 := hW1.trans (hb2.mono hW1.size); have Ha2 := Lib.hid ha2; obtain ⟨aa, ca, am, cm, ae, ce, rfl⟩ := mkA_val ha2; clear ha2))
  have hAl := bel_alloc w2 (.cells #[.slice aa 4 ca, .int .i64 (mkN xs : Nat), .slice am (mkA xs).ms.length cm, .slice ae (mkA xs).es.length ce] 31)
  have Ha3 := Lib.hid (Ha2.out.mono hAl)
  have hW3 := hW2.trans (hAl.mono hW2.size)
  have hq2 : w2.heap[w.heap.size + 1]? = some (.cells #[.int .u8 b0, .int .u8 b1] 26 (0, 0)) := (hb2.block _ (by omega)).trans Hq1.out
  have hs2 : w.heap.size + 2 ≤ w2.heap.size := Nat.le_trans hs1 hb2.size
  have hz : w2.heap.size < (w2.alloc (.cells #[.slice aa 4 ca, .int .i64 (mkN xs : Nat), .slice am (mkA xs).ms.length cm, .slice ae (mkA xs).es.length ce] 31)).heap.size := by simp
  have hq : w.heap.size + 1 < (w2.alloc (.cells #[.slice aa 4 ca, .int .i64 (mkN xs : Nat), .slice am (mkA xs).ms.length cm, .slice ae (mkA xs).es.length ce] 31)).heap.size := by simp; omega
  have z0 : (w2.alloc (.cells #[.slice aa 4 ca, .int .i64 (mkN xs : Nat), .slice am (mkA xs).ms.length cm, .slice ae (mkA xs).es.length ce] 31)).cell? ⟨w2.heap.size, 0, none⟩ = some (.slice aa 4 ca) := by simp [go_sem]
  have z1 : (w2.alloc (.cells #[.slice aa 4 ca, .int .i64 (mkN xs : Nat), .slice am (mkA xs).ms.length cm, .slice ae (mkA xs).es.length ce] 31)).cell? ⟨w2.heap.size, 1, none⟩ = some (.int .i64 (mkN xs : Nat)) := by simp [go_sem]
  have z2 : (w2.alloc (.cells #[.slice aa 4 ca, .int .i64 (mkN xs : Nat), .slice am (mkA xs).ms.length cm, .slice ae (mkA xs).es.length ce] 31)).cell? ⟨w2.heap.size, 2, none⟩ = some (.slice am (mkA xs).ms.length cm) := by simp [go_sem]
  have z3 : (w2.alloc (.cells #[.slice aa 4 ca, .int .i64 (mkN xs : Nat), .slice am (mkA xs).ms.length cm, .slice ae (mkA xs).es.length ce] 31)).cell? ⟨w2.heap.size, 3, none⟩ = some (.slice ae (mkA xs).es.length ce) := by simp [go_sem]
  have q0 : (w2.alloc (.cells #[.slice aa 4 ca, .int .i64 (mkN xs : Nat), .slice am (mkA xs).ms.length cm, .slice ae (mkA xs).es.length ce] 31)).cell? ⟨w.heap.size + 1, 0, none⟩ = some (.int .u8 b0) := hAl.cell (p := ⟨w.heap.size + 1, 0, none⟩) (by simp; omega) ▸ (by simp [World.cell?, hq2])
  have q1 : (w2.alloc (.cells #[.slice aa 4 ca, .int .i64 (mkN xs : Nat), .slice am (mkA xs).ms.length cm, .slice ae (mkA xs).es.length ce] 31)).cell? ⟨w.heap.size + 1, 1, none⟩ = some (.int .u8 b1) := hAl.cell (p := ⟨w.heap.size + 1, 1, none⟩) (by simp; omega) ▸ (by simp [World.cell?, hq2])
  clear hAl hq2 hb2
  generalize hwr : w2.alloc (.cells #[.slice aa 4 ca, .int .i64 (mkN xs : Nat), .slice am (mkA xs).ms.length cm, .slice ae (mkA xs).es.length ce] 31) = wr at *
  clear hwr
  have hW3d := hW3.drew
  refine wp_region_mono (RD4 (bitsL b0 (mkN xs)) (bitsL b1 (mkN xs)) (mkN xs) (w.heap.size + 1) (w2.heap.size) (b0) (b1)) [23, 24, 25, 26, 27, 28, 29, 30, 31, 32, 8, 9] RD4_mono rfl (by kernel_rfl) (by kernel_rfl) ?_ ?_
  · skip
    refine Steps.cons rfl ?_ ?_
    · intro l us W hl hI hd hn K' hK
      have hHas := hI.has
      have hbel := hI.bel
      have hlen := hI.len
      obtain ⟨u0, u1, u2, u3, u4, u5, u6, u7, u8, u9, u10, u11, rfl⟩ := list_RD4 hlen
      have HK : Hid (∀ v W', Below W.heap.size W W' → RD4 (bitsL b0 (mkN xs)) (bitsL b1 (mkN xs)) (mkN xs) (w.heap.size + 1) (w2.heap.size) (b0) (b1) 0 v W' → ∀ a', puts _ _ [v, u1, u2, u3, u4, u5, u6, u7, u8, u9, u10, u11] = a' → K' a' W') := fun v W' hb hv a' e => hK _ a' W' e (hI.step RD4_mono hl hb hv)
      have hWW := hW3d.trans (hbel.mono hW3d.size)
      clear hl hI hd hn hK hHas hlen 
      refine StepG.mk ?_
      simp only [puts, Act.put]
      go_simp
      exact HK.out (.pointer (some ⟨(w.heap.size + 1), 0, none⟩)) _ (Below.refl _ _) rfl _ (by simp [puts, Act.put])
    refine Steps.cons rfl ?_ ?_
    · intro l us W hl hI hd hn K' hK
      have hHas := hI.has
      have hbel := hI.bel
      have hlen := hI.len
      obtain ⟨u0, u1, u2, u3, u4, u5, u6, u7, u8, u9, u10, u11, rfl⟩ := list_RD4 hlen
      have HK : Hid (∀ v W', Below W.heap.size W W' → RD4 (bitsL b0 (mkN xs)) (bitsL b1 (mkN xs)) (mkN xs) (w.heap.size + 1) (w2.heap.size) (b0) (b1) 1 v W' → ∀ a', puts _ _ [u0, v, u2, u3, u4, u5, u6, u7, u8, u9, u10, u11] = a' → K' a' W') := fun v W' hb hv a' e => hK _ a' W' e (hI.step RD4_mono hl hb hv)
      have hWW := hW3d.trans (hbel.mono hW3d.size)
      have y := keep hbel q0 hq
      have d0 : l.getD 0 false = true := by
        simp [Region.binds] at hd
        simp [hd]
      obtain rfl : u0 = _ := hHas 0 (by decide) d0
      clear hl hI hd hn hK hHas hlen d0
      refine StepG.mk ?_
      simp only [puts, Act.put]
      go_simp
      exact HK.out (.int .u8 b0) _ (Below.refl _ _) rfl _ (by simp [puts, Act.put])
    refine Steps.cons rfl ?_ ?_
    · intro l us W hl hI hd hn K' hK
      have hHas := hI.has
      have hbel := hI.bel
      have hlen := hI.len
      obtain ⟨u0, u1, u2, u3, u4, u5, u6, u7, u8, u9, u10, u11, rfl⟩ := list_RD4 hlen
      have HK : Hid (∀ v W', Below W.heap.size W W' → RD4 (bitsL b0 (mkN xs)) (bitsL b1 (mkN xs)) (mkN xs) (w.heap.size + 1) (w2.heap.size) (b0) (b1) 2 v W' → ∀ a', puts _ _ [u0, u1, v, u3, u4, u5, u6, u7, u8, u9, u10, u11] = a' → K' a' W') := fun v W' hb hv a' e => hK _ a' W' e (hI.step RD4_mono hl hb hv)
      have hWW := hW3d.trans (hbel.mono hW3d.size)
      clear hl hI hd hn hK hHas hlen 
      refine StepG.mk ?_
      simp only [puts, Act.put]
      go_simp
      exact HK.out (.pointer (some ⟨w2.heap.size, 1, none⟩)) _ (Below.refl _ _) rfl _ (by simp [puts, Act.put])
    refine Steps.cons rfl ?_ ?_
    · intro l us W hl hI hd hn K' hK
      have hHas := hI.has
      have hbel := hI.bel
      have hlen := hI.len
      obtain ⟨u0, u1, u2, u3, u4, u5, u6, u7, u8, u9, u10, u11, rfl⟩ := list_RD4 hlen
      have HK : Hid (∀ v W', Below W.heap.size W W' → RD4 (bitsL b0 (mkN xs)) (bitsL b1 (mkN xs)) (mkN xs) (w.heap.size + 1) (w2.heap.size) (b0) (b1) 3 v W' → ∀ a', puts _ _ [u0, u1, u2, v, u4, u5, u6, u7, u8, u9, u10, u11] = a' → K' a' W') := fun v W' hb hv a' e => hK _ a' W' e (hI.step RD4_mono hl hb hv)
      have hWW := hW3d.trans (hbel.mono hW3d.size)
      have y := keep hbel z1 hz
      have d2 : l.getD 2 false = true := by
        simp [Region.binds] at hd
        simp [hd]
      obtain rfl : u2 = _ := hHas 2 (by decide) d2
      clear hl hI hd hn hK hHas hlen d2
      refine StepG.mk ?_
      simp only [puts, Act.put]
      go_simp
      exact HK.out (.int .i64 (mkN xs)) _ (Below.refl _ _) rfl _ (by simp [puts, Act.put])
    refine Steps.cons rfl ?_ ?_
    · intro l us W hl hI hd hn K' hK
      have hHas := hI.has
      have hbel := hI.bel
      have hlen := hI.len
      obtain ⟨u0, u1, u2, u3, u4, u5, u6, u7, u8, u9, u10, u11, rfl⟩ := list_RD4 hlen
      have HK : Hid (∀ v W', Below W.heap.size W W' → RD4 (bitsL b0 (mkN xs)) (bitsL b1 (mkN xs)) (mkN xs) (w.heap.size + 1) (w2.heap.size) (b0) (b1) 4 v W' → ∀ a', puts _ _ [u0, u1, u2, u3, v, u5, u6, u7, u8, u9, u10, u11] = a' → K' a' W') := fun v W' hb hv a' e => hK _ a' W' e (hI.step RD4_mono hl hb hv)
      have hWW := hW3d.trans (hbel.mono hW3d.size)
      have d1 : l.getD 1 false = true := by
        simp [Region.binds] at hd
        simp [hd]
      have d3 : l.getD 3 false = true := by
        simp [Region.binds] at hd
        simp [hd]
      obtain rfl : u1 = _ := hHas 1 (by decide) d1
      obtain rfl : u3 = _ := hHas 3 (by decide) d3
      clear hl hI hd hn hK hHas hlen d1 d3
      refine StepG.mk ?_
      simp only [puts, Act.put]
      go_simp
      refine (bits_any b0 (mkN xs) _ hb00 hb01 (by omega)).mono ?_
      rintro e w9 ⟨v9, rfl, hown9, hb9⟩
      have HL9 := Lib.hid (RdI.of_own hown9)
      obtain ⟨a9, c9, rfl, hr9⟩ := RdS.of_own hown9
      clear hr9 hown9
      go_simp
      exact HK.out _ _ hb9 ⟨_, _, rfl, HL9.out⟩ _ (by simp [puts, Act.put])
    refine Steps.cons rfl ?_ ?_
    · intro l us W hl hI hd hn K' hK
      have hHas := hI.has
      have hbel := hI.bel
      have hlen := hI.len
      obtain ⟨u0, u1, u2, u3, u4, u5, u6, u7, u8, u9, u10, u11, rfl⟩ := list_RD4 hlen
      have HK : Hid (∀ v W', Below W.heap.size W W' → RD4 (bitsL b0 (mkN xs)) (bitsL b1 (mkN xs)) (mkN xs) (w.heap.size + 1) (w2.heap.size) (b0) (b1) 5 v W' → ∀ a', puts _ _ [u0, u1, u2, u3, u4, v, u6, u7, u8, u9, u10, u11] = a' → K' a' W') := fun v W' hb hv a' e => hK _ a' W' e (hI.step RD4_mono hl hb hv)
      have hWW := hW3d.trans (hbel.mono hW3d.size)
      clear hl hI hd hn hK hHas hlen 
      refine StepG.mk ?_
      simp only [puts, Act.put]
      go_simp
      exact HK.out (.pointer (some ⟨(w.heap.size + 1), 1, none⟩)) _ (Below.refl _ _) rfl _ (by simp [puts, Act.put])
    refine Steps.cons rfl ?_ ?_
    · intro l us W hl hI hd hn K' hK
      have hHas := hI.has
      have hbel := hI.bel
      have hlen := hI.len
      obtain ⟨u0, u1, u2, u3, u4, u5, u6, u7, u8, u9, u10, u11, rfl⟩ := list_RD4 hlen
      have HK : Hid (∀ v W', Below W.heap.size W W' → RD4 (bitsL b0 (mkN xs)) (bitsL b1 (mkN xs)) (mkN xs) (w.heap.size + 1) (w2.heap.size) (b0) (b1) 6 v W' → ∀ a', puts _ _ [u0, u1, u2, u3, u4, u5, v, u7, u8, u9, u10, u11] = a' → K' a' W') := fun v W' hb hv a' e => hK _ a' W' e (hI.step RD4_mono hl hb hv)
      have hWW := hW3d.trans (hbel.mono hW3d.size)
      have y := keep hbel q1 hq
      have d5 : l.getD 5 false = true := by
        simp [Region.binds] at hd
        simp [hd]
      obtain rfl : u5 = _ := hHas 5 (by decide) d5
      clear hl hI hd hn hK hHas hlen d5
      refine StepG.mk ?_
      simp only [puts, Act.put]
      go_simp
      exact HK.out (.int .u8 b1) _ (Below.refl _ _) rfl _ (by simp [puts, Act.put])
    refine Steps.cons rfl ?_ ?_
    · intro l us W hl hI hd hn K' hK
      have hHas := hI.has
      have hbel := hI.bel
      have hlen := hI.len
      obtain ⟨u0, u1, u2, u3, u4, u5, u6, u7, u8, u9, u10, u11, rfl⟩ := list_RD4 hlen
      have HK : Hid (∀ v W', Below W.heap.size W W' → RD4 (bitsL b0 (mkN xs)) (bitsL b1 (mkN xs)) (mkN xs) (w.heap.size + 1) (w2.heap.size) (b0) (b1) 7 v W' → ∀ a', puts _ _ [u0, u1, u2, u3, u4, u5, u6, v, u8, u9, u10, u11] = a' → K' a' W') := fun v W' hb hv a' e => hK _ a' W' e (hI.step RD4_mono hl hb hv)
      have hWW := hW3d.trans (hbel.mono hW3d.size)
      clear hl hI hd hn hK hHas hlen 
      refine StepG.mk ?_
      simp only [puts, Act.put]
      go_simp
      exact HK.out (.pointer (some ⟨w2.heap.size, 1, none⟩)) _ (Below.refl _ _) rfl _ (by simp [puts, Act.put])
    refine Steps.cons rfl ?_ ?_
    · intro l us W hl hI hd hn K' hK
      have hHas := hI.has
      have hbel := hI.bel
      have hlen := hI.len
      obtain ⟨u0, u1, u2, u3, u4, u5, u6, u7, u8, u9, u10, u11, rfl⟩ := list_RD4 hlen
      have HK : Hid (∀ v W', Below W.heap.size W W' → RD4 (bitsL b0 (mkN xs)) (bitsL b1 (mkN xs)) (mkN xs) (w.heap.size + 1) (w2.heap.size) (b0) (b1) 8 v W' → ∀ a', puts _ _ [u0, u1, u2, u3, u4, u5, u6, u7, v, u9, u10, u11] = a' → K' a' W') := fun v W' hb hv a' e => hK _ a' W' e (hI.step RD4_mono hl hb hv)
      have hWW := hW3d.trans (hbel.mono hW3d.size)
      have y := keep hbel z1 hz
      have d7 : l.getD 7 false = true := by
        simp [Region.binds] at hd
        simp [hd]
      obtain rfl : u7 = _ := hHas 7 (by decide) d7
      clear hl hI hd hn hK hHas hlen d7
      refine StepG.mk ?_
      simp only [puts, Act.put]
      go_simp
      exact HK.out (.int .i64 (mkN xs)) _ (Below.refl _ _) rfl _ (by simp [puts, Act.put])
    refine Steps.cons rfl ?_ ?_
    · intro l us W hl hI hd hn K' hK
      have hHas := hI.has
      have hbel := hI.bel
      have hlen := hI.len
      obtain ⟨u0, u1, u2, u3, u4, u5, u6, u7, u8, u9, u10, u11, rfl⟩ := list_RD4 hlen
      have HK : Hid (∀ v W', Below W.heap.size W W' → RD4 (bitsL b0 (mkN xs)) (bitsL b1 (mkN xs)) (mkN xs) (w.heap.size + 1) (w2.heap.size) (b0) (b1) 9 v W' → ∀ a', puts _ _ [u0, u1, u2, u3, u4, u5, u6, u7, u8, v, u10, u11] = a' → K' a' W') := fun v W' hb hv a' e => hK _ a' W' e (hI.step RD4_mono hl hb hv)
      have hWW := hW3d.trans (hbel.mono hW3d.size)
      have d6 : l.getD 6 false = true := by
        simp [Region.binds] at hd
        simp [hd]
      have d8 : l.getD 8 false = true := by
        simp [Region.binds] at hd
        simp [hd]
      obtain rfl : u6 = _ := hHas 6 (by decide) d6
      obtain rfl : u8 = _ := hHas 8 (by decide) d8
      clear hl hI hd hn hK hHas hlen d6 d8
      refine StepG.mk ?_
      simp only [puts, Act.put]
      go_simp
      refine (bits_any b1 (mkN xs) _ hb10 hb11 (by omega)).mono ?_
      rintro e w9 ⟨v9, rfl, hown9, hb9⟩
      have HL9 := Lib.hid (RdI.of_own hown9)
      obtain ⟨a9, c9, rfl, hr9⟩ := RdS.of_own hown9
      clear hr9 hown9
      go_simp
      exact HK.out _ _ hb9 ⟨_, _, rfl, HL9.out⟩ _ (by simp [puts, Act.put])
    refine Steps.cons rfl ?_ ?_
    · intro l us W hl hI hd hn K' hK
      have hHas := hI.has
      have hbel := hI.bel
      have hlen := hI.len
      obtain ⟨u0, u1, u2, u3, u4, u5, u6, u7, u8, u9, u10, u11, rfl⟩ := list_RD4 hlen
      have HK : Hid (∀ v W', Below W.heap.size W W' → RD4 (bitsL b0 (mkN xs)) (bitsL b1 (mkN xs)) (mkN xs) (w.heap.size + 1) (w2.heap.size) (b0) (b1) 10 v W' → ∀ a', puts _ _ [u0, u1, u2, u3, u4, u5, u6, u7, u8, u9, v, u11] = a' → K' a' W') := fun v W' hb hv a' e => hK _ a' W' e (hI.step RD4_mono hl hb hv)
      have hWW := hW3d.trans (hbel.mono hW3d.size)
      have d4 : l.getD 4 false = true := by
        simp [Region.binds] at hd
        simp [hd]
      obtain ⟨a4, c4, e4, hr4⟩ : ∃ a c, u4 = .slice a ((bitsL b0 (mkN xs))).length c ∧ RdI W u4 ((bitsL b0 (mkN xs))) := hHas 4 (by decide) d4
      subst e4
      have Hr4 := Lib.hid hr4
      clear hr4
      clear hl hI hd hn hK hHas hlen d4
      refine StepG.mk ?_
      simp only [puts, Act.put]
      go_simp
      exact HK.out _ _ (Below.refl _ _) ⟨_, _, rfl, Hr4.out⟩ _ (by simp [puts, Act.put])
    refine Steps.cons rfl ?_ ?_
    · intro l us W hl hI hd hn K' hK
      have hHas := hI.has
      have hbel := hI.bel
      have hlen := hI.len
      obtain ⟨u0, u1, u2, u3, u4, u5, u6, u7, u8, u9, u10, u11, rfl⟩ := list_RD4 hlen
      have HK : Hid (∀ v W', Below W.heap.size W W' → RD4 (bitsL b0 (mkN xs)) (bitsL b1 (mkN xs)) (mkN xs) (w.heap.size + 1) (w2.heap.size) (b0) (b1) 11 v W' → ∀ a', puts _ _ [u0, u1, u2, u3, u4, u5, u6, u7, u8, u9, u10, v] = a' → K' a' W') := fun v W' hb hv a' e => hK _ a' W' e (hI.step RD4_mono hl hb hv)
      have hWW := hW3d.trans (hbel.mono hW3d.size)
      have d9 : l.getD 9 false = true := by
        simp [Region.binds] at hd
        simp [hd]
      obtain ⟨a9, c9, e9, hr9⟩ : ∃ a c, u9 = .slice a ((bitsL b1 (mkN xs))).length c ∧ RdI W u9 ((bitsL b1 (mkN xs))) := hHas 9 (by decide) d9
      subst e9
      have Hr9 := Lib.hid hr9
      clear hr9
      clear hl hI hd hn hK hHas hlen d9
      refine StepG.mk ?_
      simp only [puts, Act.put]
      go_simp
      exact HK.out _ _ (Below.refl _ _) ⟨_, _, rfl, Hr9.out⟩ _ (by simp [puts, Act.put])
    exact Steps.nil (Nat.le_refl _)
  · intro us W hlen hbel hall
    obtain ⟨u0, u1, u2, u3, u4, u5, u6, u7, u8, u9, u10, u11, rfl⟩ := list_RD4 hlen
    obtain ⟨a8, c8, e8, hr8⟩ : ∃ a c, u10 = .slice a (bitsL b0 (mkN xs)).length c ∧ RdI W u10 (bitsL b0 (mkN xs)) := hall 10 (by decide)
    obtain ⟨a9, c9, e9, hr9⟩ : ∃ a c, u11 = .slice a (bitsL b1 (mkN xs)).length c ∧ RdI W u11 (bitsL b1 (mkN xs)) := hall 11 (by decide)
    subst e8
    subst e9
    have Hr8 := Lib.hid hr8
    have Hr9 := Lib.hid hr9
    have hl8 := bitsL_le b0 (mkN xs)
    have hl9 := bitsL_le b1 (mkN xs)
    have y0 := keep hbel z0 hz
    have y1 := keep hbel z1 hz
    have y2 := keep hbel z2 hz
    have y3 := keep hbel z3 hz
    have hzW : w2.heap.size < W.heap.size := Nat.lt_of_lt_of_le hz hbel.size
    have Ha4 := Lib.hid ((Ha3.out.mono (bel_drew _)).mono hbel)
    have hW4 := hW3d.trans (hbel.mono hW3d.size)
    clear hall hlen hr8 hr9 z0 z1 z2 z3 q0 q1 hz hq hW3 hW3d hbel Ha3 Ha2
    simp only [puts, Act.put, List.setIfInBounds_toArray, List.set_cons_succ, List.set_cons_zero]
    have hn0 : (mkN xs : Int) ≠ 0 := by omega
    obtain ⟨i, hi⟩ : ∃ i : Nat, x % (mkN xs : Int) = i := Int.eq_ofNat_of_zero_le (Int.emod_nonneg x hn0)
    have hiN : i < mkN xs := by have := Int.emod_lt_of_pos x (show (0 : Int) < mkN xs by omega); omega
    have hD0 : (backward (mkN xs) (mkA xs).es (bitsL b0 (mkN xs))).length = mkN xs := backward_length _ _ _
    have hdist : ∀ (W : World) (k : Nat) (va vt : Value), k < mkN xs → RdA W va (mkA xs) → RdI W vt (bitsL b0 (mkN xs)) → Calls Try.prog 16 #[va, .int .i64 k, vt] W (Ret W fun u _ => u = .int .i64 ((backward (mkN xs) (mkA xs).es (bitsL b0 (mkN xs))).getD k 0)) := by
      intro W k va vt hk h1 h2
      have hl := mkEs_le xs (mkN xs)
      have h := rdistance_any va vt (mkA xs).al (mkA xs).ms (mkN xs) (mkA xs).es k (bitsL b0 (mkN xs)) W h1 (by show (mkEs xs (mkN xs)).length ≤ 100000; omega) (by omega) h2 (by omega)
      rwa [distance_says (by omega) (mkA_es xs) (bitsL_in b0 _) k hk] at h
    have hR : reachPath (mkA xs) i (bitsL b0 (mkN xs)) (bitsL b1 (mkN xs)) = pathR (mkA xs).es (bitsL b1 (mkN xs)) (mkA xs).al (bitsL b0 (mkN xs)) 0 i := by
      rw [reachPath]
      exact paths_eq (n := mkN xs) (tg := bitsL b0 (mkN xs)) (wi := bitsL b1 (mkN xs)) (mkA_sorted xs) (fun x hx => (mkA_es xs x hx).2.2) (mkA_ev xs) (mkA_als xs) i hiN
    have hp1 : ∀ (W : World) (va vt vw : Value), RdA W va (mkA xs) → RdI W vt (bitsL b0 (mkN xs)) → RdI W vw (bitsL b1 (mkN xs)) → Calls Try.prog 17 #[va, .int .i64 i, vt, vw] W (Ret W (PPost 0 (pathR (mkA xs).es (bitsL b1 (mkN xs)) (mkA xs).al (bitsL b0 (mkN xs)) 0 i))) := by
      intro W va vt vw h1 h2 h3
      have h := rpath_any va vt vw (mkA xs) i (bitsL b0 (mkN xs)) (bitsL b1 (mkN xs)) W h1 (mkA_small xs) h2 h3 (by omega) (by omega)
      rwa [mk_path0 xs b0 b1 i hiN, hR] at h
    have hp2 : ∀ (W : World) (va vt vw vv : Value), RdA W va (mkA xs) → RdI W vt (bitsL b0 (mkN xs)) → RdI W vw (bitsL b1 (mkN xs)) → RdI W vv (mkA xs).al → Calls Try.prog 18 #[va, .int .i64 i, vt, vw, vv, .int .i64 0] W (Ret W (QPost (pathR (mkA xs).es (bitsL b1 (mkN xs)) (mkA xs).al (bitsL b0 (mkN xs)) 0 i))) := by
      intro W va vt vw vv h1 h2 h3 h4
      have hl := mkEs_le xs (mkN xs)
      exact refpath_any va vt vw vv (mkA xs).al (mkA xs).ms (mkN xs) (mkA xs).es i (bitsL b0 (mkN xs)) (bitsL b1 (mkN xs)) (mkA xs).al 0 W h1 (by show (mkEs xs (mkN xs)).length ≤ 100000; omega) h2 h3 h4 (by omega) (by omega) (by show 4 ≤ 1000000; decide)
    have hwl : ∀ wd, pathR (mkA xs).es (bitsL b1 (mkN xs)) (mkA xs).al (bitsL b0 (mkN xs)) 0 i = some wd → wd.length ≤ 1000000 := by
      intro wd h
      have h1 := pathR_wlen h
      have hl := mkEs_le xs (mkN xs)
      have : (mkA xs).es.length ≤ 100000 := by show (mkEs xs (mkN xs)).length ≤ 100000; omega
      omega
    have hd1 : ∀ (W : World) (va vt : Value), RdA W va (mkA xs) → RdI W vt (bitsL b0 (mkN xs)) → Calls Try.prog 15 #[va, vt] W (Ret W fun u w' => ∃ v, u = .tuple #[v, .int .i64 0] ∧ RdI w' v (backward (mkN xs) (mkA xs).es (bitsL b0 (mkN xs)))) := by
      intro W va vt h1 h2
      refine (distances_any va vt (mkA xs) (bitsL b0 (mkN xs)) W h1 (mkA_small xs) h2 (by omega)).mono ?_
      rintro e w' ⟨u, rfl, hp, hb⟩
      rw [ListPost, if_pos (mk_dist0 xs b0)] at hp
      exact ⟨u, rfl, hp, hb⟩
    generalize backward (mkN xs) (mkA xs).es (bitsL b0 (mkN xs)) = D at *
    generalize pathR (mkA xs).es (bitsL b1 (mkN xs)) (mkA xs).al (bitsL b0 (mkN xs)) 0 i = R at *
    have HDist := Lib.hid hdist
    have HP1 := Lib.hid hp1
    have HP2 := Lib.hid hp2
    have HD1 := Lib.hid hd1
    have Hwl := Lib.hid hwl
    have HlenD := Lib.hid hD0
    clear hR hdist hp1 hp2 hd1 hwl hD0
    go_wp2_with fail
    refine (HD1.out _ _ _ Ha4.out Hr8.out).mono ?_
    rintro e w5 ⟨_, rfl, ⟨v5, rfl, a4, c4, rfl, hr5⟩, hb5⟩
    rw [HlenD.out] at hr5
    have hcell : ∀ k : Nat, k < mkN xs → ∃ bb oo, a4 = some ⟨bb, oo, none⟩ ∧ w5.cell? ⟨bb, oo + k, none⟩ = some (.int .i64 (D.getD k 0)) := by
      intro k hk
      rw [← HlenD.out] at hr5
      obtain ⟨bb, oo, e, h9⟩ := hr5.at_int k (by have := HlenD.out; omega)
      refine ⟨bb, oo, e, ?_⟩
      rw [h9, List.getD_eq_getElem?_getD, List.getElem?_eq_getElem (by have := HlenD.out; omega)]; rfl
    have Hcell := Lib.hid hcell
    have Ha5 := Lib.hid (Ha4.out.mono hb5)
    have Hr8 := Lib.hid (Hr8.out.mono hb5)
    have Hr9 := Lib.hid (Hr9.out.mono hb5)
    have hW5 := hW4.trans (hb5.mono hW4.size)
    have z0 := keep hb5 y0 hzW
    have z1 := keep hb5 y1 hzW
    have z2 := keep hb5 y2 hzW
    have z3 := keep hb5 y3 hzW
    have hz5 : w2.heap.size < w5.heap.size := Nat.lt_of_lt_of_le hzW hb5.size
    clear y0 y1 y2 y3 hzW hb5 hcell hr5
    rw [HlenD.out]
    go_wp2_with fail
    go_loopw [13] (fun i wr => ∃ k : Nat, i = .int .i64 k ∧ k ≤ mkN xs ∧ Below w5.heap.size w5 wr) (fun i _ => mkN xs - (intOf i).toNat)
    case atStart => exact ⟨0, rfl, Nat.zero_le _, Below.refl _ _⟩
    case round =>
      obtain ⟨k, rfl, hk, hB⟩ := hrel
      replace z0 := keep hB z0 hz5
      replace z1 := keep hB z1 hz5
      replace z2 := keep hB z2 hz5
      replace z3 := keep hB z3 hz5
      have hz := Nat.lt_of_lt_of_le hz5 hB.size
      have Ha6 := Lib.hid (Ha5.out.mono hB)
      have Hr8b := Lib.hid (Hr8.out.mono hB)
      have Hr9b := Lib.hid (Hr9.out.mono hB)
      have hB5d := (hW5.trans (hB.mono hW5.size)).drew
      have hBd := hB.drew
      by_cases hlt : k < mkN xs
      · have hltI : (k : Int) < (mkN xs : Int) := by omega
        obtain ⟨bb, oo, rfl, hck0⟩ := Hcell.out k hlt
        have hck := keep0 hB hck0
        have hbb := World.block_lt_of_cell? _ _ hck
        dsimp only at hbb
        have HDc := Lib.hid (fun W va vt => HDist.out W k va vt hlt)
        clear hck0
        generalize D.getD k 0 = d at *
        go_wp2_with fail
        refine wp_region_mono (RD12 (.slice (some ⟨bb, oo, none⟩) (mkN xs) c4) (.agg #[.slice aa 4 ca, .int .i64 (mkN xs : Nat), .slice am (mkA xs).ms.length cm, .slice ae (mkA xs).es.length ce]) (.slice a8 (bitsL b0 (mkN xs)).length c8) (k) (bb) (oo) (d)) [59, 60, 61, 62, 63, 64, 65, 66, 67] RD12_mono rfl (by kernel_rfl) (by kernel_rfl) ?_ ?_
        · skip
          refine Steps.cons rfl ?_ ?_
          · intro l us W hl hI hd hn K' hK
            have hHas := hI.has
            have hbel := hI.bel
            have hlen := hI.len
            obtain ⟨u0, u1, u2, u3, u4, u5, u6, u7, u8, rfl⟩ := list_RD12 hlen
            have HK : Hid (∀ v W', Below W.heap.size W W' → RD12 (.slice (some ⟨bb, oo, none⟩) (mkN xs) c4) (.agg #[.slice aa 4 ca, .int .i64 (mkN xs : Nat), .slice am (mkA xs).ms.length cm, .slice ae (mkA xs).es.length ce]) (.slice a8 (bitsL b0 (mkN xs)).length c8) (k) (bb) (oo) (d) 0 v W' → ∀ a', puts _ _ [v, u1, u2, u3, u4, u5, u6, u7, u8] = a' → K' a' W') := fun v W' hb hv a' e => hK _ a' W' e (hI.step RD12_mono hl hb hv)
            have hWW := hB5d.trans (hbel.mono hB5d.size)
            clear hl hI hd hn hK hHas hlen 
            refine StepG.mk ?_
            simp only [puts, Act.put]
            go_simp
            exact HK.out ((.slice (some ⟨bb, oo, none⟩) (mkN xs) c4)) _ (Below.refl _ _) rfl _ (by simp [puts, Act.put])
          refine Steps.cons rfl ?_ ?_
          · intro l us W hl hI hd hn K' hK
            have hHas := hI.has
            have hbel := hI.bel
            have hlen := hI.len
            obtain ⟨u0, u1, u2, u3, u4, u5, u6, u7, u8, rfl⟩ := list_RD12 hlen
            have HK : Hid (∀ v W', Below W.heap.size W W' → RD12 (.slice (some ⟨bb, oo, none⟩) (mkN xs) c4) (.agg #[.slice aa 4 ca, .int .i64 (mkN xs : Nat), .slice am (mkA xs).ms.length cm, .slice ae (mkA xs).es.length ce]) (.slice a8 (bitsL b0 (mkN xs)).length c8) (k) (bb) (oo) (d) 1 v W' → ∀ a', puts _ _ [u0, v, u2, u3, u4, u5, u6, u7, u8] = a' → K' a' W') := fun v W' hb hv a' e => hK _ a' W' e (hI.step RD12_mono hl hb hv)
            have hWW := hB5d.trans (hbel.mono hB5d.size)
            clear hl hI hd hn hK hHas hlen 
            refine StepG.mk ?_
            simp only [puts, Act.put]
            go_simp
            exact HK.out (.int .i64 k) _ (Below.refl _ _) rfl _ (by simp [puts, Act.put])
          refine Steps.cons rfl ?_ ?_
          · intro l us W hl hI hd hn K' hK
            have hHas := hI.has
            have hbel := hI.bel
            have hlen := hI.len
            obtain ⟨u0, u1, u2, u3, u4, u5, u6, u7, u8, rfl⟩ := list_RD12 hlen
            have HK : Hid (∀ v W', Below W.heap.size W W' → RD12 (.slice (some ⟨bb, oo, none⟩) (mkN xs) c4) (.agg #[.slice aa 4 ca, .int .i64 (mkN xs : Nat), .slice am (mkA xs).ms.length cm, .slice ae (mkA xs).es.length ce]) (.slice a8 (bitsL b0 (mkN xs)).length c8) (k) (bb) (oo) (d) 2 v W' → ∀ a', puts _ _ [u0, u1, v, u3, u4, u5, u6, u7, u8] = a' → K' a' W') := fun v W' hb hv a' e => hK _ a' W' e (hI.step RD12_mono hl hb hv)
            have hWW := hB5d.trans (hbel.mono hB5d.size)
            have d0 : l.getD 0 false = true := by
              simp [Region.binds] at hd
              simp [hd]
            have d1 : l.getD 1 false = true := by
              simp [Region.binds] at hd
              simp [hd]
            obtain rfl : u0 = _ := hHas 0 (by decide) d0
            obtain rfl : u1 = _ := hHas 1 (by decide) d1
            clear hl hI hd hn hK hHas hlen d0 d1
            refine StepG.mk ?_
            simp only [puts, Act.put]
            go_simp
            exact HK.out (.pointer (some ⟨bb, oo + k, none⟩)) _ (Below.refl _ _) rfl _ (by simp [puts, Act.put])
          refine Steps.cons rfl ?_ ?_
          · intro l us W hl hI hd hn K' hK
            have hHas := hI.has
            have hbel := hI.bel
            have hlen := hI.len
            obtain ⟨u0, u1, u2, u3, u4, u5, u6, u7, u8, rfl⟩ := list_RD12 hlen
            have HK : Hid (∀ v W', Below W.heap.size W W' → RD12 (.slice (some ⟨bb, oo, none⟩) (mkN xs) c4) (.agg #[.slice aa 4 ca, .int .i64 (mkN xs : Nat), .slice am (mkA xs).ms.length cm, .slice ae (mkA xs).es.length ce]) (.slice a8 (bitsL b0 (mkN xs)).length c8) (k) (bb) (oo) (d) 3 v W' → ∀ a', puts _ _ [u0, u1, u2, v, u4, u5, u6, u7, u8] = a' → K' a' W') := fun v W' hb hv a' e => hK _ a' W' e (hI.step RD12_mono hl hb hv)
            have hWW := hB5d.trans (hbel.mono hB5d.size)
            have y := keep hbel hck hbb
            have d2 : l.getD 2 false = true := by
              simp [Region.binds] at hd
              simp [hd]
            obtain rfl : u2 = _ := hHas 2 (by decide) d2
            clear hl hI hd hn hK hHas hlen d2
            refine StepG.mk ?_
            simp only [puts, Act.put]
            go_simp
            exact HK.out (.int .i64 d) _ (Below.refl _ _) rfl _ (by simp [puts, Act.put])
          refine Steps.cons rfl ?_ ?_
          · intro l us W hl hI hd hn K' hK
            have hHas := hI.has
            have hbel := hI.bel
            have hlen := hI.len
            obtain ⟨u0, u1, u2, u3, u4, u5, u6, u7, u8, rfl⟩ := list_RD12 hlen
            have HK : Hid (∀ v W', Below W.heap.size W W' → RD12 (.slice (some ⟨bb, oo, none⟩) (mkN xs) c4) (.agg #[.slice aa 4 ca, .int .i64 (mkN xs : Nat), .slice am (mkA xs).ms.length cm, .slice ae (mkA xs).es.length ce]) (.slice a8 (bitsL b0 (mkN xs)).length c8) (k) (bb) (oo) (d) 4 v W' → ∀ a', puts _ _ [u0, u1, u2, u3, v, u5, u6, u7, u8] = a' → K' a' W') := fun v W' hb hv a' e => hK _ a' W' e (hI.step RD12_mono hl hb hv)
            have hWW := hB5d.trans (hbel.mono hB5d.size)
            have y0 := keep hbel z0 hz
            have y1 := keep hbel z1 hz
            have y2 := keep hbel z2 hz
            have y3 := keep hbel z3 hz
            clear hl hI hd hn hK hHas hlen 
            refine StepG.mk ?_
            simp only [puts, Act.put]
            go_simp
            exact HK.out ((.agg #[.slice aa 4 ca, .int .i64 (mkN xs : Nat), .slice am (mkA xs).ms.length cm, .slice ae (mkA xs).es.length ce])) _ (Below.refl _ _) rfl _ (by simp [puts, Act.put])
          refine Steps.cons rfl ?_ ?_
          · intro l us W hl hI hd hn K' hK
            have hHas := hI.has
            have hbel := hI.bel
            have hlen := hI.len
            obtain ⟨u0, u1, u2, u3, u4, u5, u6, u7, u8, rfl⟩ := list_RD12 hlen
            have HK : Hid (∀ v W', Below W.heap.size W W' → RD12 (.slice (some ⟨bb, oo, none⟩) (mkN xs) c4) (.agg #[.slice aa 4 ca, .int .i64 (mkN xs : Nat), .slice am (mkA xs).ms.length cm, .slice ae (mkA xs).es.length ce]) (.slice a8 (bitsL b0 (mkN xs)).length c8) (k) (bb) (oo) (d) 5 v W' → ∀ a', puts _ _ [u0, u1, u2, u3, u4, v, u6, u7, u8] = a' → K' a' W') := fun v W' hb hv a' e => hK _ a' W' e (hI.step RD12_mono hl hb hv)
            have hWW := hB5d.trans (hbel.mono hB5d.size)
            clear hl hI hd hn hK hHas hlen 
            refine StepG.mk ?_
            simp only [puts, Act.put]
            go_simp
            exact HK.out (.int .i64 k) _ (Below.refl _ _) rfl _ (by simp [puts, Act.put])
          refine Steps.cons rfl ?_ ?_
          · intro l us W hl hI hd hn K' hK
            have hHas := hI.has
            have hbel := hI.bel
            have hlen := hI.len
            obtain ⟨u0, u1, u2, u3, u4, u5, u6, u7, u8, rfl⟩ := list_RD12 hlen
            have HK : Hid (∀ v W', Below W.heap.size W W' → RD12 (.slice (some ⟨bb, oo, none⟩) (mkN xs) c4) (.agg #[.slice aa 4 ca, .int .i64 (mkN xs : Nat), .slice am (mkA xs).ms.length cm, .slice ae (mkA xs).es.length ce]) (.slice a8 (bitsL b0 (mkN xs)).length c8) (k) (bb) (oo) (d) 6 v W' → ∀ a', puts _ _ [u0, u1, u2, u3, u4, u5, v, u7, u8] = a' → K' a' W') := fun v W' hb hv a' e => hK _ a' W' e (hI.step RD12_mono hl hb hv)
            have hWW := hB5d.trans (hbel.mono hB5d.size)
            clear hl hI hd hn hK hHas hlen 
            refine StepG.mk ?_
            simp only [puts, Act.put]
            go_simp
            exact HK.out ((.slice a8 (bitsL b0 (mkN xs)).length c8)) _ (Below.refl _ _) rfl _ (by simp [puts, Act.put])
          refine Steps.cons rfl ?_ ?_
          · intro l us W hl hI hd hn K' hK
            have hHas := hI.has
            have hbel := hI.bel
            have hlen := hI.len
            obtain ⟨u0, u1, u2, u3, u4, u5, u6, u7, u8, rfl⟩ := list_RD12 hlen
            have HK : Hid (∀ v W', Below W.heap.size W W' → RD12 (.slice (some ⟨bb, oo, none⟩) (mkN xs) c4) (.agg #[.slice aa 4 ca, .int .i64 (mkN xs : Nat), .slice am (mkA xs).ms.length cm, .slice ae (mkA xs).es.length ce]) (.slice a8 (bitsL b0 (mkN xs)).length c8) (k) (bb) (oo) (d) 7 v W' → ∀ a', puts _ _ [u0, u1, u2, u3, u4, u5, u6, v, u8] = a' → K' a' W') := fun v W' hb hv a' e => hK _ a' W' e (hI.step RD12_mono hl hb hv)
            have hWW := hB5d.trans (hbel.mono hB5d.size)
            have d4 : l.getD 4 false = true := by
              simp [Region.binds] at hd
              simp [hd]
            have d5 : l.getD 5 false = true := by
              simp [Region.binds] at hd
              simp [hd]
            have d6 : l.getD 6 false = true := by
              simp [Region.binds] at hd
              simp [hd]
            obtain rfl : u4 = _ := hHas 4 (by decide) d4
            obtain rfl : u5 = _ := hHas 5 (by decide) d5
            obtain rfl : u6 = _ := hHas 6 (by decide) d6
            clear hl hI hd hn hK hHas hlen d4 d5 d6
            refine StepG.mk ?_
            simp only [puts, Act.put]
            go_simp
            refine (HDc.out _ _ _ ((Ha6.out.mono (bel_drew _)).mono hbel) ((Hr8b.out.mono (bel_drew _)).mono hbel)).mono ?_
            rintro e w9 ⟨_, rfl, rfl, hb9⟩
            go_simp
            exact HK.out (.int .i64 d) _ hb9 rfl _ (by simp [puts, Act.put])
          refine Steps.cons rfl ?_ ?_
          · intro l us W hl hI hd hn K' hK
            have hHas := hI.has
            have hbel := hI.bel
            have hlen := hI.len
            obtain ⟨u0, u1, u2, u3, u4, u5, u6, u7, u8, rfl⟩ := list_RD12 hlen
            have HK : Hid (∀ v W', Below W.heap.size W W' → RD12 (.slice (some ⟨bb, oo, none⟩) (mkN xs) c4) (.agg #[.slice aa 4 ca, .int .i64 (mkN xs : Nat), .slice am (mkA xs).ms.length cm, .slice ae (mkA xs).es.length ce]) (.slice a8 (bitsL b0 (mkN xs)).length c8) (k) (bb) (oo) (d) 8 v W' → ∀ a', puts _ _ [u0, u1, u2, u3, u4, u5, u6, u7, v] = a' → K' a' W') := fun v W' hb hv a' e => hK _ a' W' e (hI.step RD12_mono hl hb hv)
            have hWW := hB5d.trans (hbel.mono hB5d.size)
            have d3 : l.getD 3 false = true := by
              simp [Region.binds] at hd
              simp [hd]
            have d7 : l.getD 7 false = true := by
              simp [Region.binds] at hd
              simp [hd]
            obtain rfl : u3 = _ := hHas 3 (by decide) d3
            obtain rfl : u7 = _ := hHas 7 (by decide) d7
            clear hl hI hd hn hK hHas hlen d3 d7
            refine StepG.mk ?_
            simp only [puts, Act.put]
            go_simp
            exact HK.out (.bool false) _ (Below.refl _ _) rfl _ (by simp [puts, Act.put])
          exact Steps.nil (Nat.le_refl _)
        · intro us W6 hlen hbel hall
          obtain ⟨u0, u1, u2, u3, u4, u5, u6, u7, u8, rfl⟩ := list_RD12 hlen
          obtain rfl : u8 = _ := hall 8 (by decide)
          have hB6 := hBd.trans (hbel.mono hBd.size)
          clear hall hlen hbel z0 z1 z2 z3 hck hbb
          simp only [puts, Act.put, List.setIfInBounds_toArray, List.set_cons_succ, List.set_cons_zero]
          go_wp2_with fail
          go_roundw
          case rel => exact ⟨k + 1, by go_num, by omega, hB6⟩
          case measure => simp [intOf]; omega
      · have hnl : ¬ (k : Int) < (mkN xs : Int) := by omega
        have hW6 := hW5.trans (hB.mono hW5.size)
        cases hRc : R with
        | none =>
          subst hRc
          go_wp2_with fail
          refine (HP1.out _ _ _ _ Ha6.out Hr8b.out Hr9b.out).mono ?_
          rintro e w7 ⟨u7, rfl, hp7, hb7⟩
          obtain rfl := hp7.none0
          have hW7 := hW6.trans (hb7.mono hW6.size)
          have Ha7 := Lib.hid (Ha6.out.mono hb7)
          have Hr8c := Lib.hid (Hr8b.out.mono hb7)
          have Hr9c := Lib.hid (Hr9b.out.mono hb7)
          replace z0 := keep hb7 z0 hz
          replace z1 := keep hb7 z1 hz
          replace z2 := keep hb7 z2 hz
          replace z3 := keep hb7 z3 hz
          clear hp7 hb7
          go_wp2_with fail
          refine (HP2.out _ _ _ _ _ Ha7.out Hr8c.out Hr9c.out (RdA.al0 Ha7.out)).mono ?_
          rintro e w8 ⟨u8, rfl, hp8, hb8⟩
          obtain rfl : u8 = _ := hp8
          have hW8 := hW7.trans (hb8.mono hW7.size)
          clear hb8
          go_wp2_with fail
          refine (same_any _ _ [] [] _ (RdI.nil0 _) (RdI.nil0 _) (by decide) (by decide)).mono ?_
          rintro e w9 ⟨_, rfl, rfl, hb9⟩
          rw [sameB_true.2 (rfl : ([] : List Int) = [])]
          have hW9 := hW8.trans (hb9.mono hW8.size)
          clear hb9
          go_wp2_with fail
          go_ret
          exact ⟨_, rfl, rfl, hW9⟩
        | some wd =>
          subst hRc
          have hwd := Hwl.out wd rfl
          go_wp2_with fail
          refine (HP1.out _ _ _ _ Ha6.out Hr8b.out Hr9b.out).mono ?_
          rintro e w7 ⟨u7, rfl, hp7, hb7⟩
          obtain ⟨v7, rfl, hr7⟩ := hp7.some0
          have Hr7 := Lib.hid hr7
          have hW7 := hW6.trans (hb7.mono hW6.size)
          have Ha7 := Lib.hid (Ha6.out.mono hb7)
          have Hr8c := Lib.hid (Hr8b.out.mono hb7)
          have Hr9c := Lib.hid (Hr9b.out.mono hb7)
          replace z0 := keep hb7 z0 hz
          replace z1 := keep hb7 z1 hz
          replace z2 := keep hb7 z2 hz
          replace z3 := keep hb7 z3 hz
          obtain ⟨a7, c7, rfl, hr7'⟩ := hr7
          clear hp7 hb7 hr7'
          go_wp2_with fail
          refine (HP2.out _ _ _ _ _ Ha7.out Hr8c.out Hr9c.out (RdA.al0 Ha7.out)).mono ?_
          rintro e w8 ⟨u8, rfl, hp8, hb8⟩
          obtain ⟨v8, rfl, hr8⟩ := hp8
          have Hr8d := Lib.hid hr8
          have Hr7b := Lib.hid (Hr7.out.mono hb8)
          have hW8 := hW7.trans (hb8.mono hW7.size)
          obtain ⟨a10, c10, rfl, hr8'⟩ := hr8
          clear hb8 hr8'
          go_wp2_with fail
          refine (same_any _ _ wd wd _ Hr7b.out Hr8d.out hwd hwd).mono ?_
          rintro e w9 ⟨_, rfl, rfl, hb9⟩
          rw [sameB_true.2 (rfl : wd = wd)]
          have hW9 := hW8.trans (hb9.mono hW8.size)
          clear hb9
          go_wp2_with fail
          go_ret
          exact ⟨_, rfl, rfl, hW9⟩
end Go.Proofs.Ythchkddhibhenaa
