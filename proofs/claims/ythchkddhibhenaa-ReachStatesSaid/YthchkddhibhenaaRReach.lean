/- The contract of the reference's Reachable. -/
import Derived.Test.YthchkddhibhenaaFrom
import Derived.Test.YthchkddhibhenaaRegMono
import Derived.Test.YthchkddhibhenaaSmall
import Derived.Deep.DeepCutAuto
namespace Go.Proofs.Ythchkddhibhenaa
open Go Go.RowKit

/-- What holds of the slots of the call of From. -/
def RR (A av : Value) (n B : Nat) (F : List Int) : Nat → Value → World → Prop
  | 0, v, _ => v = A
  | 1, v, W => ∃ b, v = .slice (some ⟨b, 0, none⟩) 1 1 ∧ RdI W v [0]
  | 2, v, _ => v = .pointer (some ⟨B, 1, none⟩)
  | 3, v, _ => v = .int .i64 n
  | 4, v, W => ∃ a c, v = .slice a (allL n).length c ∧ RdI W v (allL n)
  | 5, v, _ => v = .pointer (some ⟨B, 0, none⟩)
  | 6, v, _ => v = av
  | 7, v, W => ∃ a c, v = .slice a F.length c ∧ RdI W v F
  | 8, v, W => ∃ a c, v = .slice a F.length c ∧ RdI W v F
  | _, _, _ => False
theorem RR_mono {A av : Value} {n B : Nat} {F : List Int} : ∀ j v W W', Below W.heap.size W W' → RR A av n B F j v W → RR A av n B F j v W'
  | 0, _, _, _, _, h => h
  | 1, _, _, _, hb, ⟨b, h1, h2⟩ => ⟨b, h1, h2.mono hb⟩
  | 2, _, _, _, _, h => h
  | 3, _, _, _, _, h => h
  | 4, _, _, _, hb, ⟨a, c, h1, h2⟩ => ⟨a, c, h1, h2.mono hb⟩
  | 5, _, _, _, _, h => h
  | 6, _, _, _, _, h => h
  | 7, _, _, _, hb, ⟨a, c, h1, h2⟩ => ⟨a, c, h1, h2.mono hb⟩
  | 8, _, _, _, hb, ⟨a, c, h1, h2⟩ => ⟨a, c, h1, h2.mono hb⟩
  | _ + 9, _, _, _, _, h => h.elim
theorem list9 {us : List Value} (h : us.length = 9) : ∃ u0 u1 u2 u3 u4 u5 u6 u7 u8, us = [u0, u1, u2, u3, u4, u5, u6, u7, u8] := by
  match us, h with
  | [u0, u1, u2, u3, u4, u5, u6, u7, u8], _ => exact ⟨_, _, _, _, _, _, _, _, _, rfl⟩

/-- What the reference's Reachable returns. -/
def rreachL (es : List Ed) (n : Nat) (al : List Int) : List Int := if n = 0 then [] else fromL es [0] (allL n) al

set_option maxRecDepth 100000 in
set_option maxHeartbeats 2400000 in
theorem rreach_any (v : Value) (al ms : List Int) (n : Nat) (es : List Ed) (w : World) (ha : RdA w v ⟨al, n, ms, es⟩) (hs : (⟨al, n, ms, es⟩ : Aut).small) (hes : es.length ≤ 100000) (hn : n ≤ 100000) :
    Calls Try.prog 29 #[v] w (Ret w fun u w' => RdI w' u (rreachL es n al)) := by
  have Ha := Lib.hid ha
  obtain ⟨va, vm, ve, rfl, ⟨aa, ca, rfl, hra⟩, ⟨am, cm, rfl, hrm⟩, ⟨ae, ce, rfl, hre⟩⟩ := ha
  dsimp only at *
  have Hs := Lib.hid hs
  have hl1 : al.length ≤ 1000000 := hs.al
  clear hs hrm hre
  have HR : Hid (rreachL es n al = if n = 0 then [] else fromL es [0] (allL n) al) := rfl
  generalize rreachL es n al = R at *
  generalize hF : fromL es [0] (allL n) al = F at *
  have HF := Lib.hid hF
  clear hF
  go_enter Try.func29, Try.ntmps29
  by_cases h0 : n = 0
  · subst h0
    go_wp2_with fail
    go_ret
    exact ⟨_, rfl, by rw [HR.out, if_pos (by trivial)]; exact RdI.nil0 _, (Below.refl _ _).alloc (Nat.le_refl _) _⟩
  · have hn0 : ((n : Int) == 0) = false := by simp; omega
    have HR2 : Hid (R = F) := by show _ = _; rw [HR.out, if_neg h0]
    clear h0 HR
    go_wp2_with fail
    generalize hwr : w.alloc (.cells #[.slice aa al.length ca, .int .i64 n, .slice am ms.length cm, .slice ae es.length ce] 31) = wr
    have hB0 : Below w.heap.size w wr := by rw [← hwr]; exact (Below.refl _ _).alloc (Nat.le_refl _) _
    have hzw : w.heap.size < wr.heap.size := by rw [← hwr]; simp
    have z0 : wr.cell? ⟨w.heap.size, 0, none⟩ = some (.slice aa al.length ca) := by rw [← hwr]; simp [go_sem]
    have z1 : wr.cell? ⟨w.heap.size, 1, none⟩ = some (.int .i64 n) := by rw [← hwr]; simp [go_sem]
    have z2 : wr.cell? ⟨w.heap.size, 2, none⟩ = some (.slice am ms.length cm) := by rw [← hwr]; simp [go_sem]
    have z3 : wr.cell? ⟨w.heap.size, 3, none⟩ = some (.slice ae es.length ce) := by rw [← hwr]; simp [go_sem]
    have hW1d := hB0.drew
    clear hwr
    refine wp_region_mono (RR (.agg #[.slice aa al.length ca, .int .i64 n, .slice am ms.length cm, .slice ae es.length ce]) (.slice aa al.length ca) n w.heap.size F) [6, 7, 8, 9, 10, 11, 12, 13, 2] RR_mono rfl (by kernel_rfl) (by kernel_rfl) ?_ ?_
    · skip
      refine Steps.cons rfl ?_ ?_
      · intro l us W hl hI hd hn K' hK
        have hHas := hI.has
        have hbel := hI.bel
        have hlen := hI.len
        obtain ⟨u0, u1, u2, u3, u4, u5, u6, u7, u8, rfl⟩ := list9 hlen
        have HK : Hid (∀ v W', Below W.heap.size W W' → RR (.agg #[.slice aa al.length ca, .int .i64 n, .slice am ms.length cm, .slice ae es.length ce]) (.slice aa al.length ca) n w.heap.size F 0 v W' → ∀ a', puts _ _ [v, u1, u2, u3, u4, u5, u6, u7, u8] = a' → K' a' W') := fun v W' hb hv a' e => hK _ a' W' e (hI.step RR_mono hl hb hv)
        have hWW := hW1d.trans (hbel.mono hW1d.size)
        have y0 := keep hbel z0 hzw
        have y1 := keep hbel z1 hzw
        have y2 := keep hbel z2 hzw
        have y3 := keep hbel z3 hzw
        clear hl hI hd hn hK hHas hbel hlen
        refine StepG.mk ?_
        simp only [puts, Act.put]
        go_simp
        exact HK.out (.agg #[.slice aa al.length ca, .int .i64 n, .slice am ms.length cm, .slice ae es.length ce]) _ (Below.refl _ _) rfl _ (by simp [puts, Act.put])
      refine Steps.cons rfl ?_ ?_
      · intro l us W hl hI hd hn K' hK
        have hHas := hI.has
        have hbel := hI.bel
        have hlen := hI.len
        obtain ⟨u0, u1, u2, u3, u4, u5, u6, u7, u8, rfl⟩ := list9 hlen
        have HK : Hid (∀ v W', Below W.heap.size W W' → RR (.agg #[.slice aa al.length ca, .int .i64 n, .slice am ms.length cm, .slice ae es.length ce]) (.slice aa al.length ca) n w.heap.size F 1 v W' → ∀ a', puts _ _ [u0, v, u2, u3, u4, u5, u6, u7, u8] = a' → K' a' W') := fun v W' hb hv a' e => hK _ a' W' e (hI.step RR_mono hl hb hv)
        have hWW := hW1d.trans (hbel.mono hW1d.size)
        clear hl hI hd hn hK hHas hbel hlen
        refine StepG.mk ?_
        simp only [puts, Act.put]
        go_simp
        exact HK.out (.slice (some ⟨W.heap.size, 0, none⟩) 1 1) _ (bel_alloc _ _) ⟨W.heap.size, rfl, ⟨_, 1, rfl, RdS.lit (cs := #[.int .i64 0]) (heap_at rfl) rfl (by show 1 ≤ 1000000; decide)⟩⟩ _ (by simp [puts, Act.put])
      refine Steps.cons rfl ?_ ?_
      · intro l us W hl hI hd hn K' hK
        have hHas := hI.has
        have hbel := hI.bel
        have hlen := hI.len
        obtain ⟨u0, u1, u2, u3, u4, u5, u6, u7, u8, rfl⟩ := list9 hlen
        have HK : Hid (∀ v W', Below W.heap.size W W' → RR (.agg #[.slice aa al.length ca, .int .i64 n, .slice am ms.length cm, .slice ae es.length ce]) (.slice aa al.length ca) n w.heap.size F 2 v W' → ∀ a', puts _ _ [u0, u1, v, u3, u4, u5, u6, u7, u8] = a' → K' a' W') := fun v W' hb hv a' e => hK _ a' W' e (hI.step RR_mono hl hb hv)
        have hWW := hW1d.trans (hbel.mono hW1d.size)
        clear hl hI hd hn hK hHas hbel hlen
        refine StepG.mk ?_
        simp only [puts, Act.put]
        go_simp
        exact HK.out (.pointer (some ⟨w.heap.size, 1, none⟩)) _ (Below.refl _ _) rfl _ (by simp [puts, Act.put])
      refine Steps.cons rfl ?_ ?_
      · intro l us W hl hI hd hn K' hK
        have hHas := hI.has
        have hbel := hI.bel
        have hlen := hI.len
        obtain ⟨u0, u1, u2, u3, u4, u5, u6, u7, u8, rfl⟩ := list9 hlen
        have HK : Hid (∀ v W', Below W.heap.size W W' → RR (.agg #[.slice aa al.length ca, .int .i64 n, .slice am ms.length cm, .slice ae es.length ce]) (.slice aa al.length ca) n w.heap.size F 3 v W' → ∀ a', puts _ _ [u0, u1, u2, v, u4, u5, u6, u7, u8] = a' → K' a' W') := fun v W' hb hv a' e => hK _ a' W' e (hI.step RR_mono hl hb hv)
        have hWW := hW1d.trans (hbel.mono hW1d.size)
        have d : l.getD 2 false = true := by
          simp [Region.binds] at hd
          simp [hd]
        have e2 : u2 = _ := hHas 2 (by decide) d
        subst e2
        have y1 := keep hbel z1 hzw
        clear d
        clear hl hI hd hn hK hHas hbel hlen
        refine StepG.mk ?_
        simp only [puts, Act.put]
        go_simp
        exact HK.out (.int .i64 n) _ (Below.refl _ _) rfl _ (by simp [puts, Act.put])
      refine Steps.cons rfl ?_ ?_
      · intro l us W hl hI hd hn K' hK
        have hHas := hI.has
        have hbel := hI.bel
        have hlen := hI.len
        obtain ⟨u0, u1, u2, u3, u4, u5, u6, u7, u8, rfl⟩ := list9 hlen
        have HK : Hid (∀ v W', Below W.heap.size W W' → RR (.agg #[.slice aa al.length ca, .int .i64 n, .slice am ms.length cm, .slice ae es.length ce]) (.slice aa al.length ca) n w.heap.size F 4 v W' → ∀ a', puts _ _ [u0, u1, u2, u3, v, u5, u6, u7, u8] = a' → K' a' W') := fun v W' hb hv a' e => hK _ a' W' e (hI.step RR_mono hl hb hv)
        have hWW := hW1d.trans (hbel.mono hW1d.size)
        have d : l.getD 3 false = true := by
          simp [Region.binds] at hd
          simp [hd]
        have e3 : u3 = _ := hHas 3 (by decide) d
        subst e3
        clear d
        clear hl hI hd hn hK hHas hbel hlen
        refine StepG.mk ?_
        simp only [puts, Act.put]
        go_simp
        refine (all_any n _ (by omega)).mono ?_
        rintro e w5 ⟨v5, rfl, hown5, hb5⟩
        have HA5 := RdI.of_own hown5
        obtain ⟨a5, c5, rfl, hr5⟩ := RdS.of_own hown5
        go_simp
        exact HK.out (.slice a5 (allL n).length c5) _ hb5 ⟨a5, c5, rfl, HA5⟩ _ (by simp [puts, Act.put])
      refine Steps.cons rfl ?_ ?_
      · intro l us W hl hI hd hn K' hK
        have hHas := hI.has
        have hbel := hI.bel
        have hlen := hI.len
        obtain ⟨u0, u1, u2, u3, u4, u5, u6, u7, u8, rfl⟩ := list9 hlen
        have HK : Hid (∀ v W', Below W.heap.size W W' → RR (.agg #[.slice aa al.length ca, .int .i64 n, .slice am ms.length cm, .slice ae es.length ce]) (.slice aa al.length ca) n w.heap.size F 5 v W' → ∀ a', puts _ _ [u0, u1, u2, u3, u4, v, u6, u7, u8] = a' → K' a' W') := fun v W' hb hv a' e => hK _ a' W' e (hI.step RR_mono hl hb hv)
        have hWW := hW1d.trans (hbel.mono hW1d.size)
        clear hl hI hd hn hK hHas hbel hlen
        refine StepG.mk ?_
        simp only [puts, Act.put]
        go_simp
        exact HK.out (.pointer (some ⟨w.heap.size, 0, none⟩)) _ (Below.refl _ _) rfl _ (by simp [puts, Act.put])
      refine Steps.cons rfl ?_ ?_
      · intro l us W hl hI hd hn K' hK
        have hHas := hI.has
        have hbel := hI.bel
        have hlen := hI.len
        obtain ⟨u0, u1, u2, u3, u4, u5, u6, u7, u8, rfl⟩ := list9 hlen
        have HK : Hid (∀ v W', Below W.heap.size W W' → RR (.agg #[.slice aa al.length ca, .int .i64 n, .slice am ms.length cm, .slice ae es.length ce]) (.slice aa al.length ca) n w.heap.size F 6 v W' → ∀ a', puts _ _ [u0, u1, u2, u3, u4, u5, v, u7, u8] = a' → K' a' W') := fun v W' hb hv a' e => hK _ a' W' e (hI.step RR_mono hl hb hv)
        have hWW := hW1d.trans (hbel.mono hW1d.size)
        have d : l.getD 5 false = true := by
          simp [Region.binds] at hd
          simp [hd]
        have e5 : u5 = _ := hHas 5 (by decide) d
        subst e5
        have y0 := keep hbel z0 hzw
        clear d
        clear hl hI hd hn hK hHas hbel hlen
        refine StepG.mk ?_
        simp only [puts, Act.put]
        go_simp
        exact HK.out (.slice aa al.length ca) _ (Below.refl _ _) rfl _ (by simp [puts, Act.put])
      refine Steps.cons rfl ?_ ?_
      · intro l us W hl hI hd hn K' hK
        have hHas := hI.has
        have hbel := hI.bel
        have hlen := hI.len
        obtain ⟨u0, u1, u2, u3, u4, u5, u6, u7, u8, rfl⟩ := list9 hlen
        have HK : Hid (∀ v W', Below W.heap.size W W' → RR (.agg #[.slice aa al.length ca, .int .i64 n, .slice am ms.length cm, .slice ae es.length ce]) (.slice aa al.length ca) n w.heap.size F 7 v W' → ∀ a', puts _ _ [u0, u1, u2, u3, u4, u5, u6, v, u8] = a' → K' a' W') := fun v W' hb hv a' e => hK _ a' W' e (hI.step RR_mono hl hb hv)
        have hWW := hW1d.trans (hbel.mono hW1d.size)
        have d : l.getD 0 false = true ∧ l.getD 1 false = true ∧ l.getD 4 false = true ∧ l.getD 6 false = true := by
          simp [Region.binds] at hd
          exact ⟨by simp [hd], by simp [hd], by simp [hd], by simp [hd]⟩
        have e0 : u0 = _ := hHas 0 (by decide) d.1
        have e6 : u6 = _ := hHas 6 (by decide) d.2.2.2
        subst e0
        subst e6
        obtain ⟨b5, e5, hr5⟩ : ∃ b, u1 = .slice (some ⟨b, 0, none⟩) 1 1 ∧ RdI W u1 [0] := hHas 1 (by decide) d.2.1
        obtain ⟨a8, c8, e8, hr8⟩ : ∃ a c, u4 = .slice a (allL n).length c ∧ RdI W u4 (allL n) := hHas 4 (by decide) d.2.2.1
        subst e5
        subst e8
        have Hr5 := Lib.hid hr5
        have Hr8 := Lib.hid hr8
        clear d hr5 hr8
        clear hl hI hd hn hK hHas hbel hlen
        refine StepG.mk ?_
        simp only [puts, Act.put]
        go_simp
        refine (from_any _ _ _ _ ⟨al, n, ms, es⟩ [0] (allL n) al W (Ha.out.mono hWW) Hs.out Hr5.out Hr8.out (RdI.mono ⟨aa, ca, rfl, hra⟩ hWW) (by simp; omega) (by rw [allL_length]; omega) hl1).mono ?_
        rintro e w6 ⟨v6, rfl, hr6, hb6⟩
        rw [show fromL (⟨al, n, ms, es⟩ : Aut).es [0] (allL n) al = F from HF.out] at hr6
        have Hr6 := Lib.hid hr6
        obtain ⟨a6, c6, rfl, hr6'⟩ := hr6
        clear hr6'
        go_simp
        exact HK.out (.slice a6 F.length c6) _ hb6 ⟨a6, c6, rfl, Hr6.out⟩ _ (by simp [puts, Act.put])
      refine Steps.cons rfl ?_ ?_
      · intro l us W hl hI hd hn K' hK
        have hHas := hI.has
        have hbel := hI.bel
        have hlen := hI.len
        obtain ⟨u0, u1, u2, u3, u4, u5, u6, u7, u8, rfl⟩ := list9 hlen
        have HK : Hid (∀ v W', Below W.heap.size W W' → RR (.agg #[.slice aa al.length ca, .int .i64 n, .slice am ms.length cm, .slice ae es.length ce]) (.slice aa al.length ca) n w.heap.size F 8 v W' → ∀ a', puts _ _ [u0, u1, u2, u3, u4, u5, u6, u7, v] = a' → K' a' W') := fun v W' hb hv a' e => hK _ a' W' e (hI.step RR_mono hl hb hv)
        have hWW := hW1d.trans (hbel.mono hW1d.size)
        have d : l.getD 7 false = true := by
          simp [Region.binds] at hd
          simp [hd]
        obtain ⟨a10, c10, e10, hr10⟩ : ∃ a c, u7 = .slice a F.length c ∧ RdI W u7 F := hHas 7 (by decide) d
        subst e10
        have Hr10 := Lib.hid hr10
        clear d hr10
        clear hl hI hd hn hK hHas hbel hlen
        refine StepG.mk ?_
        simp only [puts, Act.put]
        go_simp
        exact HK.out (.slice a10 F.length c10) _ (Below.refl _ _) ⟨a10, c10, rfl, Hr10.out⟩ _ (by simp [puts, Act.put])
      exact Steps.nil (Nat.le_refl _)
    · intro us W hlen hbel hall
      obtain ⟨u0, u1, u2, u3, u4, u5, u6, u7, u8, rfl⟩ := list9 hlen
      obtain ⟨a11, c11, e11, hr11⟩ : ∃ a c, u8 = .slice a F.length c ∧ RdI W u8 F := hall 8 (by decide)
      subst e11
      have Hr11 := Lib.hid hr11
      have hWW := hW1d.trans (hbel.mono hW1d.size)
      clear hall hlen hr11
      simp only [puts, Act.put, List.setIfInBounds_toArray, List.set_cons_succ, List.set_cons_zero]
      go_wp2_with fail
      go_ret
      exact ⟨_, rfl, by rw [HR2.out]; exact Hr11.out, hWW⟩
end Go.Proofs.Ythchkddhibhenaa
