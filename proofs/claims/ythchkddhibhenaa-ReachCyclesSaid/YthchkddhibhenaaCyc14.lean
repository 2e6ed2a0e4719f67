/- Texts joined: RReach, RegTwo. Each is introduced by its own sentence. -/
import Derived.Deep.DeepCutAuto
import Derived.Test.YthchkddhibhenaaCyc6
import Derived.Test.YthchkddhibhenaaCyc11
import Derived.Test.YthchkddhibhenaaCyc12
/- The contract of the reference's Reachable. -/
namespace Go.Proofs.Ythchkddhibhenaa
open Go Go.RowKit

/-- What holds of the slots of the call of From. -/
def RR (A av : Value) (n B : Nat) (F : List Int) : Nat → Value → World → Prop
  | 0, v, _ => v = A
  | 1, v, W => ∃ b, v = .slice (some ⟨b, 0, none⟩) 1 1 ∧ RdI W v [0]
  | 2, v, _ => v = .pointer (some ⟨B, 1, none⟩)
  | 3, v, _ => v = .int .i64 n
  | 4, v, W => ∃ a c, v = .slice a (allL n).length c ∧ RdI W v (allL n)
  | 5, v, _ => v = .pointer (some ⟨B, 0, none⟩)
  | 6, v, _ => v = av
  | 7, v, W => ∃ a c, v = .slice a F.length c ∧ RdI W v F
  | 8, v, W => ∃ a c, v = .slice a F.length c ∧ RdI W v F
  | _, _, _ => False
theorem RR_mono {A av : Value} {n B : Nat} {F : List Int} : ∀ j v W W', Below W.heap.size W W' → RR A av n B F j v W → RR A av n B F j v W'
  | 0, _, _, _, _, h => h
  | 1, _, _, _, hb, ⟨b, h1, h2⟩ => ⟨b, h1, h2.mono hb⟩
  | 2, _, _, _, _, h => h
  | 3, _, _, _, _, h => h
  | 4, _, _, _, hb, ⟨a, c, h1, h2⟩ => ⟨a, c, h1, h2.mono hb⟩
  | 5, _, _, _, _, h => h
  | 6, _, _, _, _, h => h
  | 7, _, _, _, hb, ⟨a, c, h1, h2⟩ => ⟨a, c, h1, h2.mono hb⟩
  | 8, _, _, _, hb, ⟨a, c, h1, h2⟩ => ⟨a, c, h1, h2.mono hb⟩
  | _ + 9, _, _, _, _, h => h.elim
theorem list9 {us : List Value} (h : us.length = 9) : ∃ u0 u1 u2 u3 u4 u5 u6 u7 u8, us = [u0, u1, u2, u3, u4, u5, u6, u7, u8] := by
  match us, h with
  | [u0, u1, u2, u3, u4, u5, u6, u7, u8], _ => exact ⟨_, _, _, _, _, _, _, _, _, rfl⟩

/-- What the reference's Reachable returns. -/
def rreachL (es : List Ed) (n : Nat) (al : List Int) : List Int := if n = 0 then [] else fromL es [0] (allL n) al

set_option maxRecDepth 100000 in
set_option maxHeartbeats 2400000 in
theorem rreach_any (v : Value) (al ms : List Int) (n : Nat) (es : List Ed) (w : World) (ha : RdA w v ⟨al, n, ms, es⟩) (hs : (⟨al, n, ms, es⟩ : Aut).small) (hes : es.length ≤ 100000) (hn : n ≤ 100000) :
    Calls Try.prog 29 #[v] w (Ret w fun u w' => RdI w' u (rreachL es n al)) := by
  have Ha := Lib.hid ha
  obtain ⟨va, vm, ve, rfl, ⟨aa, ca, rfl, hra⟩, ⟨am, cm, rfl, hrm⟩, ⟨ae, ce, rfl, hre⟩⟩ := ha
  dsimp only at *
  have Hs := Lib.hid hs
  have hl1 : al.length ≤ 1000000 := hs.al
  clear hs hrm hre
  have HR : Hid (rreachL es n al = if n = 0 then [] else fromL es [0] (allL n) al) := rfl
  generalize rreachL es n al = R at *
  generalize hF : fromL es [0] (allL n) al = F at *
  have HF := Lib.hid hF
  clear hF
  go_enter Try.func29, Try.ntmps29
  by_cases h0 : n = 0
  · subst h0
    go_wp2_with fail
    go_ret
    exact ⟨_, rfl, by rw [HR.out, if_pos (by trivial)]; exact RdI.nil0 _, (Below.refl _ _).alloc (Nat.le_refl _) _⟩
  · have hn0 : ((n : Int) == 0) = false := by simp; omega
    have HR2 : Hid (R = F) := by show _ = _; rw [HR.out, if_neg h0]
    clear h0 HR
    go_wp2_with fail
    generalize hwr : w.alloc (.cells #[.slice aa al.length ca, .int .i64 n, .slice am ms.length cm, .slice ae es.length ce] 31) = wr
    have hB0 : Below w.heap.size w wr := by rw [← hwr]; exact (Below.refl _ _).alloc (Nat.le_refl _) _
    have hzw : w.heap.size < wr.heap.size := by rw [← hwr]; simp
    have z0 : wr.cell? ⟨w.heap.size, 0, none⟩ = some (.slice aa al.length ca) := by rw [← hwr]; simp [go_sem]
    have z1 : wr.cell? ⟨w.heap.size, 1, none⟩ = some (.int .i64 n) := by rw [← hwr]; simp [go_sem]
    have z2 : wr.cell? ⟨w.heap.size, 2, none⟩ = some (.slice am ms.length cm) := by rw [← hwr]; simp [go_sem]
    have z3 : wr.cell? ⟨w.heap.size, 3, none⟩ = some (.slice ae es.length ce) := by rw [← hwr]; simp [go_sem]
    have hW1d := hB0.drew
    clear hwr
    refine wp_region_mono (RR (.agg #[.slice aa al.length ca, .int .i64 n, .slice am ms.length cm, .slice ae es.length ce]) (.slice aa al.length ca) n w.heap.size F) [6, 7, 8, 9, 10, 11, 12, 13, 2] RR_mono rfl (by kernel_rfl) (by kernel_rfl) ?_ ?_
    · skip
      refine Steps.cons rfl ?_ ?_
      · intro l us W hl hI hd hn K' hK
        have hHas := hI.has
        have hbel := hI.bel
        have hlen := hI.len
        obtain ⟨u0, u1, u2, u3, u4, u5, u6, u7, u8, rfl⟩ := list9 hlen
        have HK : Hid (∀ v W', Below W.heap.size W W' → RR (.agg #[.slice aa al.length ca, .int .i64 n, .slice am ms.length cm, .slice ae es.length ce]) (.slice aa al.length ca) n w.heap.size F 0 v W' → ∀ a', puts _ _ [v, u1, u2, u3, u4, u5, u6, u7, u8] = a' → K' a' W') := fun v W' hb hv a' e => hK _ a' W' e (hI.step RR_mono hl hb hv)
        have hWW := hW1d.trans (hbel.mono hW1d.size)
        have y0 := keep hbel z0 hzw
        have y1 := keep hbel z1 hzw
        have y2 := keep hbel z2 hzw
        have y3 := keep hbel z3 hzw
        clear hl hI hd hn hK hHas hbel hlen
        refine StepG.mk ?_
        simp only [puts, Act.put]
        go_simp
        exact HK.out (.agg #[.slice aa al.length ca, .int .i64 n, .slice am ms.length cm, .slice ae es.length ce]) _ (Below.refl _ _) rfl _ (by simp [puts, Act.put])
      refine Steps.cons rfl ?_ ?_
      · intro l us W hl hI hd hn K' hK
        have hHas := hI.has
        have hbel := hI.bel
        have hlen := hI.len
        obtain ⟨u0, u1, u2, u3, u4, u5, u6, u7, u8, rfl⟩ := list9 hlen
        have HK : Hid (∀ v W', Below W.heap.size W W' → RR (.agg #[.slice aa al.length ca, .int .i64 n, .slice am ms.length cm, .slice ae es.length ce]) (.slice aa al.length ca) n w.heap.size F 1 v W' → ∀ a', puts _ _ [u0, v, u2, u3, u4, u5, u6, u7, u8] = a' → K' a' W') := fun v W' hb hv a' e => hK _ a' W' e (hI.step RR_mono hl hb hv)
        have hWW := hW1d.trans (hbel.mono hW1d.size)
        clear hl hI hd hn hK hHas hbel hlen
        refine StepG.mk ?_
        simp only [puts, Act.put]
        go_simp
        exact HK.out (.slice (some ⟨W.heap.size, 0, none⟩) 1 1) _ (bel_alloc _ _) ⟨W.heap.size, rfl, ⟨_, 1, rfl, RdS.lit (cs := #[.int .i64 0]) (heap_at rfl) rfl (by show 1 ≤ 1000000; decide)⟩⟩ _ (by simp [puts, Act.put])
      refine Steps.cons rfl ?_ ?_
      · intro l us W hl hI hd hn K' hK
        have hHas := hI.has
        have hbel := hI.bel
        have hlen := hI.len
        obtain ⟨u0, u1, u2, u3, u4, u5, u6, u7, u8, rfl⟩ := list9 hlen
        have HK : Hid (∀ v W', Below W.heap.size W W' → RR (.agg #[.slice aa al.length ca, .int .i64 n, .slice am ms.length cm, .slice ae es.length ce]) (.slice aa al.length ca) n w.heap.size F 2 v W' → ∀ a', puts _ _ [u0, u1, v, u3, u4, u5, u6, u7, u8] = a' → K' a' W') := fun v W' hb hv a' e => hK _ a' W' e (hI.step RR_mono hl hb hv)
        have hWW := hW1d.trans (hbel.mono hW1d.size)
        clear hl hI hd hn hK hHas hbel hlen
        refine StepG.mk ?_
        simp only [puts, Act.put]
        go_simp
        exact HK.out (.pointer (some ⟨w.heap.size, 1, none⟩)) _ (Below.refl _ _) rfl _ (by simp [puts, Act.put])
      refine Steps.cons rfl ?_ ?_
      · intro l us W hl hI hd hn K' hK
        have hHas := hI.has
        have hbel := hI.bel
        have hlen := hI.len
        obtain ⟨u0, u1, u2, u3, u4, u5, u6, u7, u8, rfl⟩ := list9 hlen
        have HK : Hid (∀ v W', Below W.heap.size W W' → RR (.agg #[.slice aa al.length ca, .int .i64 n, .slice am ms.length cm, .slice ae es.length ce]) (.slice aa al.length ca) n w.heap.size F 3 v W' → ∀ a', puts _ _ [u0, u1, u2, v, u4, u5, u6, u7, u8] = a' → K' a' W') := fun v W' hb hv a' e => hK _ a' W' e (hI.step RR_mono hl hb hv)
        have hWW := hW1d.trans (hbel.mono hW1d.size)
        have d : l.getD 2 false = true := by
          simp [Region.binds] at hd
          simp [hd]
        have e2 : u2 = _ := hHas 2 (by decide) d
        subst e2
        have y1 := keep hbel z1 hzw
        clear d
        clear hl hI hd hn hK hHas hbel hlen
        refine StepG.mk ?_
        simp only [puts, Act.put]
        go_simp
        exact HK.out (.int .i64 n) _ (Below.refl _ _) rfl _ (by simp [puts, Act.put])
      refine Steps.cons rfl ?_ ?_
      · intro l us W hl hI hd hn K' hK
        have hHas := hI.has
        have hbel := hI.bel
        have hlen := hI.len
        obtain ⟨u0, u1, u2, u3, u4, u5, u6, u7, u8, rfl⟩ := list9 hlen
        have HK : Hid (∀ v W', Below W.heap.size W W' → RR (.agg #[.slice aa al.length ca, .int .i64 n, .slice am ms.length cm, .slice ae es.length ce]) (.slice aa al.length ca) n w.heap.size F 4 v W' → ∀ a', puts _ _ [u0, u1, u2, u3, v, u5, u6, u7, u8] = a' → K' a' W') := fun v W' hb hv a' e => hK _ a' W' e (hI.step RR_mono hl hb hv)
        have hWW := hW1d.trans (hbel.mono hW1d.size)
        have d : l.getD 3 false = true := by
          simp [Region.binds] at hd
          simp [hd]
        have e3 : u3 = _ := hHas 3 (by decide) d
        subst e3
        clear d
        clear hl hI hd hn hK hHas hbel hlen
        refine StepG.mk ?_
        simp only [puts, Act.put]
        go_simp
        refine (all_any n _ (by omega)).mono ?_
        rintro e w5 ⟨v5, rfl, hown5, hb5⟩
        have HA5 := RdI.of_own hown5
        obtain ⟨a5, c5, rfl, hr5⟩ := RdS.of_own hown5
        go_simp
        exact HK.out (.slice a5 (allL n).length c5) _ hb5 ⟨a5, c5, rfl, HA5⟩ _ (by simp [puts, Act.put])
      refine Steps.cons rfl ?_ ?_
      · intro l us W hl hI hd hn K' hK
        have hHas := hI.has
        have hbel := hI.bel
        have hlen := hI.len
        obtain ⟨u0, u1, u2, u3, u4, u5, u6, u7, u8, rfl⟩ := list9 hlen
        have HK : Hid (∀ v W', Below W.heap.size W W' → RR (.agg #[.slice aa al.length ca, .int .i64 n, .slice am ms.length cm, .slice ae es.length ce]) (.slice aa al.length ca) n w.heap.size F 5 v W' → ∀ a', puts _ _ [u0, u1, u2, u3, u4, v, u6, u7, u8] = a' → K' a' W') := fun v W' hb hv a' e => hK _ a' W' e (hI.step RR_mono hl hb hv)
        have hWW := hW1d.trans (hbel.mono hW1d.size)
        clear hl hI hd hn hK hHas hbel hlen
        refine StepG.mk ?_
        simp only [puts, Act.put]
        go_simp
        exact HK.out (.pointer (some ⟨w.heap.size, 0, none⟩)) _ (Below.refl _ _) rfl _ (by simp [puts, Act.put])
      refine Steps.cons rfl ?_ ?_
      · intro l us W hl hI hd hn K' hK
        have hHas := hI.has
        have hbel := hI.bel
        have hlen := hI.len
        obtain ⟨u0, u1, u2, u3, u4, u5, u6, u7, u8, rfl⟩ := list9 hlen
        have HK : Hid (∀ v W', Below W.heap.size W W' → RR (.agg #[.slice aa al.length ca, .int .i64 n, .slice am ms.length cm, .slice ae es.length ce]) (.slice aa al.length ca) n w.heap.size F 6 v W' → ∀ a', puts _ _ [u0, u1, u2, u3, u4, u5, v, u7, u8] = a' → K' a' W') := fun v W' hb hv a' e => hK _ a' W' e (hI.step RR_mono hl hb hv)
        have hWW := hW1d.trans (hbel.mono hW1d.size)
        have d : l.getD 5 false = true := by
          simp [Region.binds] at hd
          simp [hd]
        have e5 : u5 = _ := hHas 5 (by decide) d
        subst e5
        have y0 := keep hbel z0 hzw
        clear d
        clear hl hI hd hn hK hHas hbel hlen
        refine StepG.mk ?_
        simp only [puts, Act.put]
        go_simp
        exact HK.out (.slice aa al.length ca) _ (Below.refl _ _) rfl _ (by simp [puts, Act.put])
      refine Steps.cons rfl ?_ ?_
      · intro l us W hl hI hd hn K' hK
        have hHas := hI.has
        have hbel := hI.bel
        have hlen := hI.len
        obtain ⟨u0, u1, u2, u3, u4, u5, u6, u7, u8, rfl⟩ := list9 hlen
        have HK : Hid (∀ v W', Below W.heap.size W W' → RR (.agg #[.slice aa al.length ca, .int .i64 n, .slice am ms.length cm, .slice ae es.length ce]) (.slice aa al.length ca) n w.heap.size F 7 v W' → ∀ a', puts _ _ [u0, u1, u2, u3, u4, u5, u6, v, u8] = a' → K' a' W') := fun v W' hb hv a' e => hK _ a' W' e (hI.step RR_mono hl hb hv)
        have hWW := hW1d.trans (hbel.mono hW1d.size)
        have d : l.getD 0 false = true ∧ l.getD 1 false = true ∧ l.getD 4 false = true ∧ l.getD 6 false = true := by
          simp [Region.binds] at hd
          exact ⟨by simp [hd], by simp [hd], by simp [hd], by simp [hd]⟩
        have e0 : u0 = _ := hHas 0 (by decide) d.1
        have e6 : u6 = _ := hHas 6 (by decide) d.2.2.2
        subst e0
        subst e6
        obtain ⟨b5, e5, hr5⟩ : ∃ b, u1 = .slice (some ⟨b, 0, none⟩) 1 1 ∧ RdI W u1 [0] := hHas 1 (by decide) d.2.1
        obtain ⟨a8, c8, e8, hr8⟩ : ∃ a c, u4 = .slice a (allL n).length c ∧ RdI W u4 (allL n) := hHas 4 (by decide) d.2.2.1
        subst e5
        subst e8
        have Hr5 := Lib.hid hr5
        have Hr8 := Lib.hid hr8
        clear d hr5 hr8
        clear hl hI hd hn hK hHas hbel hlen
        refine StepG.mk ?_
        simp only [puts, Act.put]
        go_simp
        refine (from_any _ _ _ _ ⟨al, n, ms, es⟩ [0] (allL n) al W (Ha.out.mono hWW) Hs.out Hr5.out Hr8.out (RdI.mono ⟨aa, ca, rfl, hra⟩ hWW) (by simp; omega) (by rw [allL_length]; omega) hl1).mono ?_
        rintro e w6 ⟨v6, rfl, hr6, hb6⟩
        rw [show fromL (⟨al, n, ms, es⟩ : Aut).es [0] (allL n) al = F from HF.out] at hr6
        have Hr6 := Lib.hid hr6
        obtain ⟨a6, c6, rfl, hr6'⟩ := hr6
        clear hr6'
        go_simp
        exact HK.out (.slice a6 F.length c6) _ hb6 ⟨a6, c6, rfl, Hr6.out⟩ _ (by simp [puts, Act.put])
      refine Steps.cons rfl ?_ ?_
      · intro l us W hl hI hd hn K' hK
        have hHas := hI.has
        have hbel := hI.bel
        have hlen := hI.len
        obtain ⟨u0, u1, u2, u3, u4, u5, u6, u7, u8, rfl⟩ := list9 hlen
        have HK : Hid (∀ v W', Below W.heap.size W W' → RR (.agg #[.slice aa al.length ca, .int .i64 n, .slice am ms.length cm, .slice ae es.length ce]) (.slice aa al.length ca) n w.heap.size F 8 v W' → ∀ a', puts _ _ [u0, u1, u2, u3, u4, u5, u6, u7, v] = a' → K' a' W') := fun v W' hb hv a' e => hK _ a' W' e (hI.step RR_mono hl hb hv)
        have hWW := hW1d.trans (hbel.mono hW1d.size)
        have d : l.getD 7 false = true := by
          simp [Region.binds] at hd
          simp [hd]
        obtain ⟨a10, c10, e10, hr10⟩ : ∃ a c, u7 = .slice a F.length c ∧ RdI W u7 F := hHas 7 (by decide) d
        subst e10
        have Hr10 := Lib.hid hr10
        clear d hr10
        clear hl hI hd hn hK hHas hbel hlen
        refine StepG.mk ?_
        simp only [puts, Act.put]
        go_simp
        exact HK.out (.slice a10 F.length c10) _ (Below.refl _ _) ⟨a10, c10, rfl, Hr10.out⟩ _ (by simp [puts, Act.put])
      exact Steps.nil (Nat.le_refl _)
    · intro us W hlen hbel hall
      obtain ⟨u0, u1, u2, u3, u4, u5, u6, u7, u8, rfl⟩ := list9 hlen
      obtain ⟨a11, c11, e11, hr11⟩ : ∃ a c, u8 = .slice a F.length c ∧ RdI W u8 F := hall 8 (by decide)
      subst e11
      have Hr11 := Lib.hid hr11
      have hWW := hW1d.trans (hbel.mono hW1d.size)
      clear hall hlen hr11
      simp only [puts, Act.put, List.setIfInBounds_toArray, List.set_cons_succ, List.set_cons_zero]
      go_wp2_with fail
      go_ret
      exact ⟨_, rfl, by rw [HR2.out]; exact Hr11.out, hWW⟩
end Go.Proofs.Ythchkddhibhenaa

/- The laws for a region that draws, where an operation may wait for a later one in one compiler's order. -/
namespace Go.Proofs.Ythchkddhibhenaa
open Go Go.RowKit

/-- Each operation waits for earlier ones alone, where the wait binds. -/
def afterC (ops : Array Oper) : Bool := (List.range ops.size).all fun j => ((ops[j]?).map fun o => o.after.all fun e => !Region.binds .any e || decide (e.on < j)).getD true

section
variable {P : Program} {ops : Array Oper} {Q : Exit → Act → World → Prop}

theorem all_of_ready2 (hB : afterC ops = true) {listed : Array Bool} (hr : Region.ready .any ops listed = []) : ∀ j, j < ops.size → listed.getD j true = true := by
  intro j
  induction j using Nat.strongRecOn with
  | _ j ih =>
    intro hj
    by_cases h : listed.getD j true = true
    · exact h
    · exfalso
      have hf : listed.getD j true = false := by simpa using h
      have : j ∈ Region.ready .any ops listed := by
        refine mem_ready.2 ⟨hf, ops[j], Array.getElem?_eq_getElem hj, fun e he hbd => ?_⟩
        have h1 := List.all_eq_true.1 hB j (List.mem_range.2 hj)
        rw [Array.getElem?_eq_getElem hj] at h1
        simp only [Option.map_some, Option.getD_some] at h1
        have h2 := Array.all_eq_true_iff_forall_mem.1 h1 e he
        simp only [hbd, Bool.not_true, Bool.false_or, decide_eq_true_eq] at h2
        have h3 := ih e.on h2 (by omega)
        have hlt : e.on < listed.size := by
          have hjs : j < listed.size := by
            rcases Nat.lt_or_ge j listed.size with h' | h'
            · exact h'
            · rw [Array.getD_eq_getD_getElem?, Array.getElem?_eq_none h'] at hf; cases hf
          omega
        rw [Array.getD_eq_getD_getElem?, Array.getElem?_eq_getElem hlt] at h3 ⊢
        exact h3
      rw [hr] at this
      cases this

theorem wpAny_inv2 {I : Array Bool → Act → World → Prop} (hB : afterC ops = true)
    (hstep : ∀ i listed a w, I listed a w → i ∈ Region.ready .any ops listed → wpOp P ops Q i (I (listed.setIfInBounds i true)) a w)
    (hend : ∀ listed a w, I listed a w → (∀ j, j < ops.size → listed.getD j true = true) → Q .normal a w) :
    ∀ (fuel : Nat) (listed : Array Bool) (a : Act) (w : World), listed.toList.count false ≤ fuel → I listed a w → wpAny P .any ops Q fuel listed a w := by
  intro fuel
  induction fuel with
  | zero =>
    intro listed a w hc hI
    have hr : Region.ready .any ops listed = [] := by
      rw [List.eq_nil_iff_forall_not_mem]
      intro i hi
      have h1 := (mem_ready.1 hi).1
      have h2 : false ∈ listed.toList := by
        rcases Nat.lt_or_ge i listed.size with h' | h'
        · rw [Array.getD_eq_getD_getElem?, Array.getElem?_eq_getElem h'] at h1
          simp only [Option.getD_some] at h1
          rw [← h1, ← Array.getElem_toList]; exact List.getElem_mem _
        · rw [Array.getD_eq_getD_getElem?, Array.getElem?_eq_none h'] at h1; cases h1
      have := List.count_pos_iff.2 h2
      omega
    exact ⟨hr, hend _ _ _ hI (all_of_ready2 hB hr)⟩
  | succ fuel ih =>
    intro listed a w hc hI
    refine ⟨fun hr => hend _ _ _ hI (all_of_ready2 hB hr), fun i hi => wpOp_mono (fun a' w' h => ih _ a' w' ?_ h) (hstep i listed a w hI hi)⟩
    have h1 := (mem_ready.1 hi).1
    have hlt : i < listed.toList.length := by
      rcases Nat.lt_or_ge i listed.size with h' | h'
      · simpa using h'
      · rw [Array.getD_eq_getD_getElem?, Array.getElem?_eq_none h'] at h1; cases h1
    have h2 := count_falses hlt (by rw [List.getD_eq_getElem?_getD, Array.getElem?_toList, ← Array.getD_eq_getD_getElem?]; exact h1)
    rw [Array.toList_setIfInBounds]
    omega

theorem wp_region_inv2 {id : Nat} {a : Act} {w : World} (I : Array Bool → List Value → World → Prop) (ds : List Nat) (hm : P.follows .mixedOrders = true) (hB : afterC ops = true)
    (hI : I (Array.replicate ops.size false) (ds.map fun d => a.tmps.getD d undef) w.drew)
    (hs : Steps P ops Q .any I a ds 0)
    (hend : ∀ listed us w, I listed us w → (∀ j, j < ops.size → listed.getD j false = true) → Q .normal (puts a ds us) w) : (Code.region id ops true).wp P Q a w := by
  refine wp_region_any hm ?_
  refine wpAny_inv2 (I := fun listed a' w' => listed.size = ops.size ∧ ∃ us, puts a ds us = a' ∧ I listed us w') hB ?_ ?_ _ _ _ _ (by simp) ⟨by simp, _, puts_self a ds, hI⟩
  · rintro i listed a' w' ⟨hsz, us, rfl, hI⟩ hr
    have hi : i < ops.size := by
      obtain ⟨_, o, ho, _⟩ := mem_ready.1 hr
      exact (Array.getElem?_eq_some_iff.1 ho).1
    exact wpOp_mono (fun a w h => ⟨by simp [hsz], h⟩) (hs i (Nat.zero_le _) hi listed us w' hsz hI hr)
  · rintro listed a' w' ⟨hsz, us, rfl, hI⟩ hall
    refine hend listed us w' hI (fun j hj => ?_)
    have := hall j hj
    rw [Array.getD_eq_getD_getElem?, Array.getElem?_eq_getElem (by omega)] at this ⊢
    exact this
theorem wp_region_mono2 {id : Nat} {a : Act} {w : World} (R : Nat → Value → World → Prop) (ds : List Nat) (hmono : ∀ j v W W', Below W.heap.size W W' → R j v W → R j v W') (hn : ds.length = ops.size) (hm : P.follows .mixedOrders = true) (hB : afterC ops = true)
    (hs : Steps P ops Q .any (MonoI R ops.size w.drew) a ds 0)
    (hend : ∀ us W, us.length = ops.size → Below w.drew.heap.size w.drew W → (∀ j, j < ops.size → R j (us.getD j undef) W) → Q .normal (puts a ds us) W) : (Code.region id ops true).wp P Q a w := by
  refine wp_region_inv2 (MonoI R ops.size w.drew) ds hm hB ⟨by simp [hn], Below.refl _ _, fun j hj h => ?_⟩ hs (fun l us W h hall => hend us W h.len h.bel (fun j hj => h.has j hj (hall j hj)))
  rw [Array.getD_eq_getD_getElem?, Array.getElem?_replicate] at h
  split at h <;> cases h
end
end Go.Proofs.Ythchkddhibhenaa
