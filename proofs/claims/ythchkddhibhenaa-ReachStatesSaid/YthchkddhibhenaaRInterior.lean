/- The contract of the reference's Interior. -/
import Derived.Test.YthchkddhibhenaaFrom
import Derived.Test.YthchkddhibhenaaRegMono
import Derived.Test.YthchkddhibhenaaSmall
import Derived.Deep.DeepCutAuto
namespace Go.Proofs.Ythchkddhibhenaa
open Go Go.RowKit

/-- What holds of the slots of the call of From. -/
def IR (A sv vv : Value) (n k : Nat) (s : Int) (bs os B : Nat) (F : List Int) : Nat → Value → World → Prop
  | 0, v, _ => v = A
  | 1, v, _ => v = sv
  | 2, v, _ => v = .int .i64 k
  | 3, v, _ => v = .pointer (some ⟨bs, os + k, none⟩)
  | 4, v, _ => v = .int .i64 s
  | 5, v, W => ∃ b, v = .slice (some ⟨b, 0, none⟩) 1 1 ∧ RdI W v [s]
  | 6, v, _ => v = .pointer (some ⟨B, 1, none⟩)
  | 7, v, _ => v = .int .i64 n
  | 8, v, W => ∃ a c, v = .slice a (allL n).length c ∧ RdI W v (allL n)
  | 9, v, _ => v = vv
  | 10, v, W => ∃ a c, v = .slice a F.length c ∧ RdI W v F
  | 11, v, W => ∃ a c, v = .slice a F.length c ∧ RdI W v F
  | _, _, _ => False
theorem IR_mono {A sv vv : Value} {n k : Nat} {s : Int} {bs os B : Nat} {F : List Int} : ∀ j v W W', Below W.heap.size W W' → IR A sv vv n k s bs os B F j v W → IR A sv vv n k s bs os B F j v W'
  | 0, _, _, _, _, h => h
  | 1, _, _, _, _, h => h
  | 2, _, _, _, _, h => h
  | 3, _, _, _, _, h => h
  | 4, _, _, _, _, h => h
  | 5, _, _, _, hb, ⟨b, h1, h2⟩ => ⟨b, h1, h2.mono hb⟩
  | 6, _, _, _, _, h => h
  | 7, _, _, _, _, h => h
  | 8, _, _, _, hb, ⟨a, c, h1, h2⟩ => ⟨a, c, h1, h2.mono hb⟩
  | 9, _, _, _, _, h => h
  | 10, _, _, _, hb, ⟨a, c, h1, h2⟩ => ⟨a, c, h1, h2.mono hb⟩
  | 11, _, _, _, hb, ⟨a, c, h1, h2⟩ => ⟨a, c, h1, h2.mono hb⟩
  | _ + 12, _, _, _, _, h => h.elim
theorem list12 {us : List Value} (h : us.length = 12) : ∃ u0 u1 u2 u3 u4 u5 u6 u7 u8 u9 u10 u11, us = [u0, u1, u2, u3, u4, u5, u6, u7, u8, u9, u10, u11] := by
  match us, h with
  | [u0, u1, u2, u3, u4, u5, u6, u7, u8, u9, u10, u11], _ => exact ⟨_, _, _, _, _, _, _, _, _, _, _, _, rfl⟩

/-- Whether no word of some events leads out of a set. -/
def stays (es : List Ed) (n : Nat) (set evs : List Int) (s : Int) : Bool := (fromL es [s] (allL n) evs).all (hasB set)
/-- What the reference's Interior returns. -/
def rintL (es : List Ed) (n : Nat) (set evs : List Int) : List Int := set.filter (stays es n set evs)

set_option maxRecDepth 100000 in
set_option maxHeartbeats 2400000 in
theorem rinterior_any (v vs vv : Value) (al ms set evs : List Int) (n : Nat) (es : List Ed) (w : World) (ha : RdA w v ⟨al, n, ms, es⟩) (hs : (⟨al, n, ms, es⟩ : Aut).small) (h1 : RdI w vs set) (h2 : RdI w vv evs) (hl1 : set.length ≤ 1000000) (hl2 : evs.length ≤ 1000000) (hes : es.length ≤ 100000) (hn : n ≤ 100000) :
    Calls Try.prog 25 #[v, vs, vv] w (Ret w fun u w' => RdI w' u (rintL es n set evs)) := by
  have Ha := Lib.hid ha
  obtain ⟨va, vm, ve, rfl, ⟨aa, ca, rfl, hra⟩, ⟨am, cm, rfl, hrm⟩, ⟨ae, ce, rfl, hre⟩⟩ := ha
  dsimp only at *
  have Hs := Lib.hid hs
  have H1 := Lib.hid h1
  have H2 := Lib.hid h2
  obtain ⟨a0, c0, rfl, hrs⟩ := h1
  obtain ⟨i0, hi, hz0, hz1, hz2⟩ := info_parts Try.info_int
  clear hs hra hrm h2 hre
  go_enter Try.func25, Try.ntmps25
  go_wp2_with fail
  go_loopw [7, 8] (fun o i wr => ∃ k : Nat, k ≤ set.length ∧ i = .int .i64 k ∧ Below (w.heap.size + 1) (w.alloc (.cells #[.slice aa al.length ca, .int .i64 n, .slice am ms.length cm, .slice ae es.length ce] 31)) wr ∧
    ∃ tag, Row wr (w.heap.size + 1) tag 1 3 1 o ((set.take k).filter (stays es n set evs)).length (ints ((set.take k).filter (stays es n set evs)))) (fun _ i _ => set.length - (intOf i).toNat)
  case atStart => exact ⟨0, Nat.zero_le _, rfl, Below.refl _ _, fun _ => 1, Row.nil _ _ _ _ _ _⟩
  case round =>
    obtain ⟨k, hk, rfl, hB, tag, hrow⟩ := hrel
    have hB0 : Below w.heap.size w wr := ((Below.refl _ _).alloc (Nat.le_refl _) _).trans (hB.mono (Nat.le_succ _))
    have hsz := hB.size
    simp only [World.size_alloc] at hsz
    have hle : ((set.take k).filter (stays es n set evs)).length ≤ k := Nat.le_trans (List.length_filter_le _ _) (List.length_take_le _ _)
    by_cases hlt : k < set.length
    · obtain ⟨bs, os, rfl, hc0⟩ := hrs.at_int k hlt
      have hc := keep0 hB0 hc0
      have hbsw := World.block_lt_of_cell? _ _ hc
      have Hts : Hid ((set.take (k + 1)).filter (stays es n set evs) = if stays es n set evs set[k] = true then (set.take k).filter (stays es n set evs) ++ [set[k]] else (set.take k).filter (stays es n set evs)) := by
        show _ = _
        rw [take_snoc set k hlt, List.filter_append]
        by_cases h : stays es n set evs set[k] = true
        · rw [if_pos h, List.filter_cons_of_pos h]; rfl
        · rw [if_neg h, List.filter_cons_of_neg h, List.filter_nil, List.append_nil]
      dsimp only at hbsw
      generalize set[k] = s at *
      generalize (set.take k).filter (stays es n set evs) = O at *
      have HF0 : Hid (stays es n set evs s = (fromL es [s] (allL n) evs).all (hasB set)) := rfl
      generalize hF : fromL es [s] (allL n) evs = F at *
      have HF := Lib.hid hF
      clear hF
      have hzw : w.heap.size < wr.heap.size := by omega
      have z0 : wr.cell? ⟨w.heap.size, 0, none⟩ = some (.slice aa al.length ca) := (hB.cell (p := ⟨w.heap.size, 0, none⟩) (by simp)).trans (by simp [go_sem])
      have z1 : wr.cell? ⟨w.heap.size, 1, none⟩ = some (.int .i64 n) := (hB.cell (p := ⟨w.heap.size, 1, none⟩) (by simp)).trans (by simp [go_sem])
      have z2 : wr.cell? ⟨w.heap.size, 2, none⟩ = some (.slice am ms.length cm) := (hB.cell (p := ⟨w.heap.size, 2, none⟩) (by simp)).trans (by simp [go_sem])
      have z3 : wr.cell? ⟨w.heap.size, 3, none⟩ = some (.slice ae es.length ce) := (hB.cell (p := ⟨w.heap.size, 3, none⟩) (by simp)).trans (by simp [go_sem])
      have hW1d := hB0.drew
      obtain ⟨ao, co, rfl⟩ := hrow.val
      have hlti : (k : Int) < set.length := by omega
      go_upto_region 5 with fail
      go_cut [9] (fun s9 wx => ∃ a c, s9 = .slice a F.length c ∧ RdI wx s9 F ∧ Below wr.heap.size wr wx)
      case first =>
        refine wp_region_mono (IR (.agg #[.slice aa al.length ca, .int .i64 n, .slice am ms.length cm, .slice ae es.length ce]) (.slice (some ⟨bs, os, none⟩) set.length c0) vv n k s bs os w.heap.size F) [18, 19, 20, 21, 22, 23, 24, 25, 26, 27, 28, 9] IR_mono rfl (by kernel_rfl) (by kernel_rfl) ?_ ?_
        · skip
          refine Steps.cons rfl ?_ ?_
          · intro l us W hl hI hd hn K' hK
            have hHas := hI.has
            have hbel := hI.bel
            have hlen := hI.len
            obtain ⟨u0, u1, u2, u3, u4, u5, u6, u7, u8, u9, u10, u11, rfl⟩ := list12 hlen
            have HK : Hid (∀ v W', Below W.heap.size W W' → IR (.agg #[.slice aa al.length ca, .int .i64 n, .slice am ms.length cm, .slice ae es.length ce]) (.slice (some ⟨bs, os, none⟩) set.length c0) vv n k s bs os w.heap.size F 0 v W' → ∀ a', puts _ _ [v, u1, u2, u3, u4, u5, u6, u7, u8, u9, u10, u11] = a' → K' a' W') := fun v W' hb hv a' e => hK _ a' W' e (hI.step IR_mono hl hb hv)
            have hWW := hW1d.trans (hbel.mono hW1d.size)
            have y0 := keep hbel z0 hzw
            have y1 := keep hbel z1 hzw
            have y2 := keep hbel z2 hzw
            have y3 := keep hbel z3 hzw
            clear hl hI hd hn hK hHas hbel hlen
            refine StepG.mk ?_
            simp only [puts, Act.put]
            go_simp
            exact HK.out (.agg #[.slice aa al.length ca, .int .i64 n, .slice am ms.length cm, .slice ae es.length ce]) _ (Below.refl _ _) rfl _ (by simp [puts, Act.put])
          refine Steps.cons rfl ?_ ?_
          · intro l us W hl hI hd hn K' hK
            have hHas := hI.has
            have hbel := hI.bel
            have hlen := hI.len
            obtain ⟨u0, u1, u2, u3, u4, u5, u6, u7, u8, u9, u10, u11, rfl⟩ := list12 hlen
            have HK : Hid (∀ v W', Below W.heap.size W W' → IR (.agg #[.slice aa al.length ca, .int .i64 n, .slice am ms.length cm, .slice ae es.length ce]) (.slice (some ⟨bs, os, none⟩) set.length c0) vv n k s bs os w.heap.size F 1 v W' → ∀ a', puts _ _ [u0, v, u2, u3, u4, u5, u6, u7, u8, u9, u10, u11] = a' → K' a' W') := fun v W' hb hv a' e => hK _ a' W' e (hI.step IR_mono hl hb hv)
            have hWW := hW1d.trans (hbel.mono hW1d.size)
            clear hl hI hd hn hK hHas hbel hlen
            refine StepG.mk ?_
            simp only [puts, Act.put]
            go_simp
            exact HK.out (.slice (some ⟨bs, os, none⟩) set.length c0) _ (Below.refl _ _) rfl _ (by simp [puts, Act.put])
          refine Steps.cons rfl ?_ ?_
          · intro l us W hl hI hd hn K' hK
            have hHas := hI.has
            have hbel := hI.bel
            have hlen := hI.len
            obtain ⟨u0, u1, u2, u3, u4, u5, u6, u7, u8, u9, u10, u11, rfl⟩ := list12 hlen
            have HK : Hid (∀ v W', Below W.heap.size W W' → IR (.agg #[.slice aa al.length ca, .int .i64 n, .slice am ms.length cm, .slice ae es.length ce]) (.slice (some ⟨bs, os, none⟩) set.length c0) vv n k s bs os w.heap.size F 2 v W' → ∀ a', puts _ _ [u0, u1, v, u3, u4, u5, u6, u7, u8, u9, u10, u11] = a' → K' a' W') := fun v W' hb hv a' e => hK _ a' W' e (hI.step IR_mono hl hb hv)
            have hWW := hW1d.trans (hbel.mono hW1d.size)
            clear hl hI hd hn hK hHas hbel hlen
            refine StepG.mk ?_
            simp only [puts, Act.put]
            go_simp
            exact HK.out (.int .i64 k) _ (Below.refl _ _) rfl _ (by simp [puts, Act.put])
          refine Steps.cons rfl ?_ ?_
          · intro l us W hl hI hd hn K' hK
            have hHas := hI.has
            have hbel := hI.bel
            have hlen := hI.len
            obtain ⟨u0, u1, u2, u3, u4, u5, u6, u7, u8, u9, u10, u11, rfl⟩ := list12 hlen
            have HK : Hid (∀ v W', Below W.heap.size W W' → IR (.agg #[.slice aa al.length ca, .int .i64 n, .slice am ms.length cm, .slice ae es.length ce]) (.slice (some ⟨bs, os, none⟩) set.length c0) vv n k s bs os w.heap.size F 3 v W' → ∀ a', puts _ _ [u0, u1, u2, v, u4, u5, u6, u7, u8, u9, u10, u11] = a' → K' a' W') := fun v W' hb hv a' e => hK _ a' W' e (hI.step IR_mono hl hb hv)
            have hWW := hW1d.trans (hbel.mono hW1d.size)
            have d : l.getD 1 false = true ∧ l.getD 2 false = true := by
              simp [Region.binds] at hd
              exact ⟨by simp [hd], by simp [hd]⟩
            have e1 : u1 = _ := hHas 1 (by decide) d.1
            have e2 : u2 = _ := hHas 2 (by decide) d.2
            subst e1
            subst e2
            clear d
            clear hl hI hd hn hK hHas hbel hlen
            refine StepG.mk ?_
            simp only [puts, Act.put]
            go_simp
            exact HK.out (.pointer (some ⟨bs, os + k, none⟩)) _ (Below.refl _ _) rfl _ (by simp [puts, Act.put])
          refine Steps.cons rfl ?_ ?_
          · intro l us W hl hI hd hn K' hK
            have hHas := hI.has
            have hbel := hI.bel
            have hlen := hI.len
            obtain ⟨u0, u1, u2, u3, u4, u5, u6, u7, u8, u9, u10, u11, rfl⟩ := list12 hlen
            have HK : Hid (∀ v W', Below W.heap.size W W' → IR (.agg #[.slice aa al.length ca, .int .i64 n, .slice am ms.length cm, .slice ae es.length ce]) (.slice (some ⟨bs, os, none⟩) set.length c0) vv n k s bs os w.heap.size F 4 v W' → ∀ a', puts _ _ [u0, u1, u2, u3, v, u5, u6, u7, u8, u9, u10, u11] = a' → K' a' W') := fun v W' hb hv a' e => hK _ a' W' e (hI.step IR_mono hl hb hv)
            have hWW := hW1d.trans (hbel.mono hW1d.size)
            have d : l.getD 3 false = true := by simpa [Region.binds] using hd
            have e3 : u3 = _ := hHas 3 (by decide) d
            subst e3
            have hcs := keep hbel hc hbsw
            clear d
            clear hl hI hd hn hK hHas hbel hlen
            refine StepG.mk ?_
            simp only [puts, Act.put]
            go_simp
            exact HK.out (.int .i64 s) _ (Below.refl _ _) rfl _ (by simp [puts, Act.put])
          refine Steps.cons rfl ?_ ?_
          · intro l us W hl hI hd hn K' hK
            have hHas := hI.has
            have hbel := hI.bel
            have hlen := hI.len
            obtain ⟨u0, u1, u2, u3, u4, u5, u6, u7, u8, u9, u10, u11, rfl⟩ := list12 hlen
            have HK : Hid (∀ v W', Below W.heap.size W W' → IR (.agg #[.slice aa al.length ca, .int .i64 n, .slice am ms.length cm, .slice ae es.length ce]) (.slice (some ⟨bs, os, none⟩) set.length c0) vv n k s bs os w.heap.size F 5 v W' → ∀ a', puts _ _ [u0, u1, u2, u3, u4, v, u6, u7, u8, u9, u10, u11] = a' → K' a' W') := fun v W' hb hv a' e => hK _ a' W' e (hI.step IR_mono hl hb hv)
            have hWW := hW1d.trans (hbel.mono hW1d.size)
            have d : l.getD 4 false = true := by simpa [Region.binds] using hd
            have e4 : u4 = _ := hHas 4 (by decide) d
            subst e4
            clear d
            clear hl hI hd hn hK hHas hbel hlen
            refine StepG.mk ?_
            simp only [puts, Act.put]
            go_simp
            exact HK.out (.slice (some ⟨W.heap.size, 0, none⟩) 1 1) _ (bel_alloc _ _) ⟨W.heap.size, rfl, ⟨_, 1, rfl, RdS.lit (cs := #[.int .i64 s]) (heap_at rfl) rfl (by show 1 ≤ 1000000; decide)⟩⟩ _ (by simp [puts, Act.put])
          refine Steps.cons rfl ?_ ?_
          · intro l us W hl hI hd hn K' hK
            have hHas := hI.has
            have hbel := hI.bel
            have hlen := hI.len
            obtain ⟨u0, u1, u2, u3, u4, u5, u6, u7, u8, u9, u10, u11, rfl⟩ := list12 hlen
            have HK : Hid (∀ v W', Below W.heap.size W W' → IR (.agg #[.slice aa al.length ca, .int .i64 n, .slice am ms.length cm, .slice ae es.length ce]) (.slice (some ⟨bs, os, none⟩) set.length c0) vv n k s bs os w.heap.size F 6 v W' → ∀ a', puts _ _ [u0, u1, u2, u3, u4, u5, v, u7, u8, u9, u10, u11] = a' → K' a' W') := fun v W' hb hv a' e => hK _ a' W' e (hI.step IR_mono hl hb hv)
            have hWW := hW1d.trans (hbel.mono hW1d.size)
            clear hl hI hd hn hK hHas hbel hlen
            refine StepG.mk ?_
            simp only [puts, Act.put]
            go_simp
            exact HK.out (.pointer (some ⟨w.heap.size, 1, none⟩)) _ (Below.refl _ _) rfl _ (by simp [puts, Act.put])
          refine Steps.cons rfl ?_ ?_
          · intro l us W hl hI hd hn K' hK
            have hHas := hI.has
            have hbel := hI.bel
            have hlen := hI.len
            obtain ⟨u0, u1, u2, u3, u4, u5, u6, u7, u8, u9, u10, u11, rfl⟩ := list12 hlen
            have HK : Hid (∀ v W', Below W.heap.size W W' → IR (.agg #[.slice aa al.length ca, .int .i64 n, .slice am ms.length cm, .slice ae es.length ce]) (.slice (some ⟨bs, os, none⟩) set.length c0) vv n k s bs os w.heap.size F 7 v W' → ∀ a', puts _ _ [u0, u1, u2, u3, u4, u5, u6, v, u8, u9, u10, u11] = a' → K' a' W') := fun v W' hb hv a' e => hK _ a' W' e (hI.step IR_mono hl hb hv)
            have hWW := hW1d.trans (hbel.mono hW1d.size)
            have d : l.getD 6 false = true := by simpa [Region.binds] using hd
            have e6 : u6 = _ := hHas 6 (by decide) d
            subst e6
            have y1 := keep hbel z1 hzw
            clear d
            clear hl hI hd hn hK hHas hbel hlen
            refine StepG.mk ?_
            simp only [puts, Act.put]
            go_simp
            exact HK.out (.int .i64 n) _ (Below.refl _ _) rfl _ (by simp [puts, Act.put])
          refine Steps.cons rfl ?_ ?_
          · intro l us W hl hI hd hn K' hK
            have hHas := hI.has
            have hbel := hI.bel
            have hlen := hI.len
            obtain ⟨u0, u1, u2, u3, u4, u5, u6, u7, u8, u9, u10, u11, rfl⟩ := list12 hlen
            have HK : Hid (∀ v W', Below W.heap.size W W' → IR (.agg #[.slice aa al.length ca, .int .i64 n, .slice am ms.length cm, .slice ae es.length ce]) (.slice (some ⟨bs, os, none⟩) set.length c0) vv n k s bs os w.heap.size F 8 v W' → ∀ a', puts _ _ [u0, u1, u2, u3, u4, u5, u6, u7, v, u9, u10, u11] = a' → K' a' W') := fun v W' hb hv a' e => hK _ a' W' e (hI.step IR_mono hl hb hv)
            have hWW := hW1d.trans (hbel.mono hW1d.size)
            have d : l.getD 7 false = true := by simpa [Region.binds] using hd
            have e7 : u7 = _ := hHas 7 (by decide) d
            subst e7
            clear d
            clear hl hI hd hn hK hHas hbel hlen
            refine StepG.mk ?_
            simp only [puts, Act.put]
            go_simp
            refine (all_any n _ (by omega)).mono ?_
            rintro e w5 ⟨v5, rfl, hown5, hb5⟩
            have HA5 := RdI.of_own hown5
            obtain ⟨a5, c5, rfl, hr5⟩ := RdS.of_own hown5
            go_simp
            exact HK.out (.slice a5 (allL n).length c5) _ hb5 ⟨a5, c5, rfl, HA5⟩ _ (by simp [puts, Act.put])
          refine Steps.cons rfl ?_ ?_
          · intro l us W hl hI hd hn K' hK
            have hHas := hI.has
            have hbel := hI.bel
            have hlen := hI.len
            obtain ⟨u0, u1, u2, u3, u4, u5, u6, u7, u8, u9, u10, u11, rfl⟩ := list12 hlen
            have HK : Hid (∀ v W', Below W.heap.size W W' → IR (.agg #[.slice aa al.length ca, .int .i64 n, .slice am ms.length cm, .slice ae es.length ce]) (.slice (some ⟨bs, os, none⟩) set.length c0) vv n k s bs os w.heap.size F 9 v W' → ∀ a', puts _ _ [u0, u1, u2, u3, u4, u5, u6, u7, u8, v, u10, u11] = a' → K' a' W') := fun v W' hb hv a' e => hK _ a' W' e (hI.step IR_mono hl hb hv)
            have hWW := hW1d.trans (hbel.mono hW1d.size)
            clear hl hI hd hn hK hHas hbel hlen
            refine StepG.mk ?_
            simp only [puts, Act.put]
            go_simp
            exact HK.out (vv) _ (Below.refl _ _) rfl _ (by simp [puts, Act.put])
          refine Steps.cons rfl ?_ ?_
          · intro l us W hl hI hd hn K' hK
            have hHas := hI.has
            have hbel := hI.bel
            have hlen := hI.len
            obtain ⟨u0, u1, u2, u3, u4, u5, u6, u7, u8, u9, u10, u11, rfl⟩ := list12 hlen
            have HK : Hid (∀ v W', Below W.heap.size W W' → IR (.agg #[.slice aa al.length ca, .int .i64 n, .slice am ms.length cm, .slice ae es.length ce]) (.slice (some ⟨bs, os, none⟩) set.length c0) vv n k s bs os w.heap.size F 10 v W' → ∀ a', puts _ _ [u0, u1, u2, u3, u4, u5, u6, u7, u8, u9, v, u11] = a' → K' a' W') := fun v W' hb hv a' e => hK _ a' W' e (hI.step IR_mono hl hb hv)
            have hWW := hW1d.trans (hbel.mono hW1d.size)
            have d : l.getD 0 false = true ∧ l.getD 5 false = true ∧ l.getD 8 false = true ∧ l.getD 9 false = true := by
              simp [Region.binds] at hd
              exact ⟨by simp [hd], by simp [hd], by simp [hd], by simp [hd]⟩
            have e0 : u0 = _ := hHas 0 (by decide) d.1
            have e9 : u9 = _ := hHas 9 (by decide) d.2.2.2
            subst e0
            subst e9
            obtain ⟨b5, e5, hr5⟩ : ∃ b, u5 = .slice (some ⟨b, 0, none⟩) 1 1 ∧ RdI W u5 [s] := hHas 5 (by decide) d.2.1
            obtain ⟨a8, c8, e8, hr8⟩ : ∃ a c, u8 = .slice a (allL n).length c ∧ RdI W u8 (allL n) := hHas 8 (by decide) d.2.2.1
            subst e5
            subst e8
            have Hr5 := Lib.hid hr5
            have Hr8 := Lib.hid hr8
            clear d hr5 hr8
            clear hl hI hd hn hK hHas hbel hlen
            refine StepG.mk ?_
            simp only [puts, Act.put]
            go_simp
            refine (from_any _ _ _ _ ⟨al, n, ms, es⟩ [s] (allL n) evs W (Ha.out.mono hWW) Hs.out Hr5.out Hr8.out (H2.out.mono hWW) (by simp; omega) (by rw [allL_length]; omega) hl2).mono ?_
            rintro e w6 ⟨v6, rfl, hr6, hb6⟩
            rw [show fromL (⟨al, n, ms, es⟩ : Aut).es [s] (allL n) evs = F from HF.out] at hr6
            have Hr6 := Lib.hid hr6
            obtain ⟨a6, c6, rfl, hr6'⟩ := hr6
            clear hr6'
            go_simp
            exact HK.out (.slice a6 F.length c6) _ hb6 ⟨a6, c6, rfl, Hr6.out⟩ _ (by simp [puts, Act.put])
          refine Steps.cons rfl ?_ ?_
          · intro l us W hl hI hd hn K' hK
            have hHas := hI.has
            have hbel := hI.bel
            have hlen := hI.len
            obtain ⟨u0, u1, u2, u3, u4, u5, u6, u7, u8, u9, u10, u11, rfl⟩ := list12 hlen
            have HK : Hid (∀ v W', Below W.heap.size W W' → IR (.agg #[.slice aa al.length ca, .int .i64 n, .slice am ms.length cm, .slice ae es.length ce]) (.slice (some ⟨bs, os, none⟩) set.length c0) vv n k s bs os w.heap.size F 11 v W' → ∀ a', puts _ _ [u0, u1, u2, u3, u4, u5, u6, u7, u8, u9, u10, v] = a' → K' a' W') := fun v W' hb hv a' e => hK _ a' W' e (hI.step IR_mono hl hb hv)
            have hWW := hW1d.trans (hbel.mono hW1d.size)
            have d : l.getD 10 false = true := by
              simp [Region.binds] at hd
              simp [hd]
            obtain ⟨a10, c10, e10, hr10⟩ : ∃ a c, u10 = .slice a F.length c ∧ RdI W u10 F := hHas 10 (by decide) d
            subst e10
            have Hr10 := Lib.hid hr10
            clear d hr10
            clear hl hI hd hn hK hHas hbel hlen
            refine StepG.mk ?_
            simp only [puts, Act.put]
            go_simp
            exact HK.out (.slice a10 F.length c10) _ (Below.refl _ _) ⟨a10, c10, rfl, Hr10.out⟩ _ (by simp [puts, Act.put])
          exact Steps.nil (Nat.le_refl _)
        · intro us W hlen hbel hall
          obtain ⟨u0, u1, u2, u3, u4, u5, u6, u7, u8, u9, u10, u11, rfl⟩ := list12 hlen
          obtain ⟨a11, c11, e11, hr11⟩ : ∃ a c, u11 = .slice a F.length c ∧ RdI W u11 F := hall 11 (by decide)
          subst e11
          have Hr11 := Lib.hid hr11
          clear hall hlen hr11
          simp only [puts, Act.put, List.setIfInBounds_toArray, List.set_cons_succ, List.set_cons_zero]
          go_wp2_with fail
          go_meet
          exact ⟨a11, c11, rfl, Hr11.out, (bel_drew wr).trans hbel⟩
      case rest =>
        obtain ⟨a9, c9, rfl, hr9, hb9⟩ := hcut
        have hrow9 := hrow.below hb9
        have hB9 := hB.trans (hb9.mono (by omega))
        have hB90 := hB0.trans (hb9.mono hB0.size)
        have hs9 := hb9.size
        have Hr9 := Lib.hid hr9
        obtain ⟨a9', c9', e9, hrd9⟩ := hr9
        cases e9
        have hFl : F.length ≤ 100001 := by
          rw [← HF.out]
          have := fromL_len es [s] (allL n) evs
          simp at this; omega
        go_wp2_with fail
        go_loop [10, 11] (fun ins j => ∃ (m : Nat) (b : Bool), ins = .bool b ∧ j = .int .i64 m ∧ m ≤ F.length ∧ Hid (b = (F.take m).all (hasB set))) (fun _ j => F.length - (intOf j).toNat)
        case atStart => exact ⟨0, true, rfl, rfl, Nat.zero_le _, rfl⟩
        case round =>
          obtain ⟨m, b, rfl, rfl, hm, hb⟩ := hrel
          by_cases hltm : m < F.length
          · obtain ⟨bf, of, rfl, hcf⟩ := hrd9.at_int m hltm
            have Hts2 : Hid ((F.take (m + 1)).all (hasB set) = ((F.take m).all (hasB set) && hasB set F[m])) := by
              show _ = _
              rw [take_snoc F m hltm, List.all_append]; simp
            generalize F[m] = y at *
            have hltmi : (m : Int) < F.length := by omega
            cases b with
            | false =>
              have Hb : Hid (false = (F.take (m + 1)).all (hasB set)) := by show _ = _; rw [Hts2.out, ← hb.out]; rfl
              clear hb
              go_wp2_with fail
              go_round
              case rel => exact ⟨m + 1, false, rfl, by go_num, by omega, Hb.out⟩
              case measure => simp [intOf]; omega
            | true =>
              have Hb : Hid (hasB set y = (F.take (m + 1)).all (hasB set)) := by show _ = _; rw [Hts2.out, ← hb.out]; rfl
              clear hb
              go_wp2_with fail
              refine (has_any _ set y _ (H1.out.mono hB90) hl1).mono ?_
              rintro e w1 ⟨rfl, rfl⟩
              have Hgen : Hid (∃ bb, hasB set y = bb) := ⟨_, rfl⟩
              go_wp2_with fail
              go_round
              case rel => exact ⟨m + 1, hasB set y, rfl, by go_num, by omega, Hb.out⟩
              case measure => simp [intOf]; omega
          · have Hst : Hid (stays es n set evs s = b) := by
              show _ = _
              rw [HF0.out, hb.out, List.take_of_length_le (by omega)]
            clear hb
            cases b with
            | false =>
              have HO : Hid ((set.take (k + 1)).filter (stays es n set evs) = O) := by show _ = _; rw [Hts.out, if_neg (by rw [Hst.out]; simp)]
              go_wp2_with fail
              go_roundw
              case rel => exact ⟨k + 1, by omega, by go_num, hB9, tag, by rw [HO.out]; exact hrow9⟩
              case measure => simp [intOf]; omega
            | true =>
              have HO : Hid ((set.take (k + 1)).filter (stays es n set evs) = O ++ [s]) := by show _ = _; rw [Hts.out, if_pos Hst.out]
              have hcs := keep0 hb9 hc
              have hrow10 := hrow9.below (bel_alloc wc (.cells #[.int .i64 s] 3))
              have hszc : w.heap.size + 1 ≤ wc.heap.size := by omega
              go_wp2_with (at_builtin; refine wpList_append_row rfl _ _ 28 rfl 3 i0 (.int .i64 0) 8 Try.underlying28 hi hz0 hz1 hz2 rfl rfl hrow10 (some ⟨_, 0, none⟩) 1 1 [.int .i64 s] rfl (by simp) (fun e => by cases e) (fun ad e => by cases e; exact new_cells_at _ _ rfl) (by simp [Value.oneCell']) (by unfold maxLen; omega) (by omega) (by simp; omega) ?_; intro v6 w6 tag6 hr6 ht6; obtain ⟨a6, c6, rfl⟩ := hr6.val)
              go_roundw
              case rel =>
                refine ⟨k + 1, by omega, by go_num, belTurn (hB9.alloc (by omega) _) ht6 (by simp; omega), tag6, ?_⟩
                rw [HO.out, List.length_append]
                have := hr6
                simpa [ints] using this
              case measure => simp [intOf]; omega
    · have e : set.take k = set := List.take_of_length_le (by omega)
      rw [e] at hrow
      obtain ⟨ao, co, rfl⟩ := hrow.val
      have Hrow := Lib.hid hrow
      have HR : Hid (rintL es n set evs = set.filter (stays es n set evs)) := rfl
      generalize set.filter (stays es n set evs) = O at *
      have hge : (set.length : Int) ≤ k := by omega
      clear e hrow
      go_wp2_with fail
      go_ret
      exact ⟨_, rfl, by rw [HR.out]; exact Hrow.out.rdI, hB0⟩
end Go.Proofs.Ythchkddhibhenaa
