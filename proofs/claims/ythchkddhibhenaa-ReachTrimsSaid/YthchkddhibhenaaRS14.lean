/- Texts joined: RInterior, Closed, IntL, RCorea, RReach, FwdL, Trim, RestFacts, RestApp2, SliceEq. Each is introduced by its own sentence. -/
import Derived.Deep.DeepCutAuto
import Derived.Deep.LoopGhost
import Derived.Test.YthchkddhibhenaaRS1
import Derived.Test.YthchkddhibhenaaRS6
import Derived.Test.YthchkddhibhenaaRS9
import Derived.Test.YthchkddhibhenaaRS10
import Derived.Test.YthchkddhibhenaaRS11
import Derived.Test.YthchkddhibhenaaRS12
import Derived.Test.YthchkddhibhenaaRS13
/- The contract of the reference's Interior. -/
namespace Go.Proofs.Ythchkddhibhenaa
open Go Go.RowKit

/-- What holds of the slots of the call of From. -/
def IR (A sv vv : Value) (n k : Nat) (s : Int) (bs os B : Nat) (F : List Int) : Nat → Value → World → Prop
  | 0, v, _ => v = A
  | 1, v, _ => v = sv
  | 2, v, _ => v = .int .i64 k
  | 3, v, _ => v = .pointer (some ⟨bs, os + k, none⟩)
  | 4, v, _ => v = .int .i64 s
  | 5, v, W => ∃ b, v = .slice (some ⟨b, 0, none⟩) 1 1 ∧ RdI W v [s]
  | 6, v, _ => v = .pointer (some ⟨B, 1, none⟩)
  | 7, v, _ => v = .int .i64 n
  | 8, v, W => ∃ a c, v = .slice a (allL n).length c ∧ RdI W v (allL n)
  | 9, v, _ => v = vv
  | 10, v, W => ∃ a c, v = .slice a F.length c ∧ RdI W v F
  | 11, v, W => ∃ a c, v = .slice a F.length c ∧ RdI W v F
  | _, _, _ => False
theorem IR_mono {A sv vv : Value} {n k : Nat} {s : Int} {bs os B : Nat} {F : List Int} : ∀ j v W W', Below W.heap.size W W' → IR A sv vv n k s bs os B F j v W → IR A sv vv n k s bs os B F j v W'
  | 0, _, _, _, _, h => h
  | 1, _, _, _, _, h => h
  | 2, _, _, _, _, h => h
  | 3, _, _, _, _, h => h
  | 4, _, _, _, _, h => h
  | 5, _, _, _, hb, ⟨b, h1, h2⟩ => ⟨b, h1, h2.mono hb⟩
  | 6, _, _, _, _, h => h
  | 7, _, _, _, _, h => h
  | 8, _, _, _, hb, ⟨a, c, h1, h2⟩ => ⟨a, c, h1, h2.mono hb⟩
  | 9, _, _, _, _, h => h
  | 10, _, _, _, hb, ⟨a, c, h1, h2⟩ => ⟨a, c, h1, h2.mono hb⟩
  | 11, _, _, _, hb, ⟨a, c, h1, h2⟩ => ⟨a, c, h1, h2.mono hb⟩
  | _ + 12, _, _, _, _, h => h.elim
theorem list12 {us : List Value} (h : us.length = 12) : ∃ u0 u1 u2 u3 u4 u5 u6 u7 u8 u9 u10 u11, us = [u0, u1, u2, u3, u4, u5, u6, u7, u8, u9, u10, u11] := by
  match us, h with
  | [u0, u1, u2, u3, u4, u5, u6, u7, u8, u9, u10, u11], _ => exact ⟨_, _, _, _, _, _, _, _, _, _, _, _, rfl⟩

/-- Whether no word of some events leads out of a set. -/
def stays (es : List Ed) (n : Nat) (set evs : List Int) (s : Int) : Bool := (fromL es [s] (allL n) evs).all (hasB set)
/-- What the reference's Interior returns. -/
def rintL (es : List Ed) (n : Nat) (set evs : List Int) : List Int := set.filter (stays es n set evs)

set_option maxRecDepth 100000 in
set_option maxHeartbeats 2400000 in
theorem rinterior_any (v vs vv : Value) (al ms set evs : List Int) (n : Nat) (es : List Ed) (w : World) (ha : RdA w v ⟨al, n, ms, es⟩) (hs : (⟨al, n, ms, es⟩ : Aut).small) (h1 : RdI w vs set) (h2 : RdI w vv evs) (hl1 : set.length ≤ 1000000) (hl2 : evs.length ≤ 1000000) (hes : es.length ≤ 100000) (hn : n ≤ 100000) :
    Calls Try.prog 25 #[v, vs, vv] w (Ret w fun u w' => RdI w' u (rintL es n set evs)) := by
  have Ha := Lib.hid ha
  obtain ⟨va, vm, ve, rfl, ⟨aa, ca, rfl, hra⟩, ⟨am, cm, rfl, hrm⟩, ⟨ae, ce, rfl, hre⟩⟩ := ha
  dsimp only at *
  have Hs := Lib.hid hs
  have H1 := Lib.hid h1
  have H2 := Lib.hid h2
  obtain ⟨a0, c0, rfl, hrs⟩ := h1
  obtain ⟨i0, hi, hz0, hz1, hz2⟩ := info_parts Try.info_int
  clear hs hra hrm h2 hre
  go_enter Try.func25, Try.ntmps25
  go_wp2_with fail
  go_loopw [7, 8] (fun o i wr => ∃ k : Nat, k ≤ set.length ∧ i = .int .i64 k ∧ Below (w.heap.size + 1) (w.alloc (.cells #[.slice aa al.length ca, .int .i64 n, .slice am ms.length cm, .slice ae es.length ce] 31)) wr ∧
    ∃ tag, Row wr (w.heap.size + 1) tag 1 3 1 o ((set.take k).filter (stays es n set evs)).length (ints ((set.take k).filter (stays es n set evs)))) (fun _ i _ => set.length - (intOf i).toNat)
  case atStart => exact ⟨0, Nat.zero_le _, rfl, Below.refl _ _, fun _ => 1, Row.nil _ _ _ _ _ _⟩
  case round =>
    obtain ⟨k, hk, rfl, hB, tag, hrow⟩ := hrel
    have hB0 : Below w.heap.size w wr := ((Below.refl _ _).alloc (Nat.le_refl _) _).trans (hB.mono (Nat.le_succ _))
    have hsz := hB.size
    simp only [World.size_alloc] at hsz
    have hle : ((set.take k).filter (stays es n set evs)).length ≤ k := Nat.le_trans (List.length_filter_le _ _) (List.length_take_le _ _)
    by_cases hlt : k < set.length
    · obtain ⟨bs, os, rfl, hc0⟩ := hrs.at_int k hlt
      have hc := keep0 hB0 hc0
      have hbsw := World.block_lt_of_cell? _ _ hc
      have Hts : Hid ((set.take (k + 1)).filter (stays es n set evs) = if stays es n set evs set[k] = true then (set.take k).filter (stays es n set evs) ++ [set[k]] else (set.take k).filter (stays es n set evs)) := by
        show _ = _
        rw [take_snoc set k hlt, List.filter_append]
        by_cases h : stays es n set evs set[k] = true
        · rw [if_pos h, List.filter_cons_of_pos h]; rfl
        · rw [if_neg h, List.filter_cons_of_neg h, List.filter_nil, List.append_nil]
      dsimp only at hbsw
      generalize set[k] = s at *
      generalize (set.take k).filter (stays es n set evs) = O at *
      have HF0 : Hid (stays es n set evs s = (fromL es [s] (allL n) evs).all (hasB set)) := rfl
      generalize hF : fromL es [s] (allL n) evs = F at *
      have HF := Lib.hid hF
      clear hF
      have hzw : w.heap.size < wr.heap.size := by omega
      have z0 : wr.cell? ⟨w.heap.size, 0, none⟩ = some (.slice aa al.length ca) := (hB.cell (p := ⟨w.heap.size, 0, none⟩) (by simp)).trans (by simp [go_sem])
      have z1 : wr.cell? ⟨w.heap.size, 1, none⟩ = some (.int .i64 n) := (hB.cell (p := ⟨w.heap.size, 1, none⟩) (by simp)).trans (by simp [go_sem])
      have z2 : wr.cell? ⟨w.heap.size, 2, none⟩ = some (.slice am ms.length cm) := (hB.cell (p := ⟨w.heap.size, 2, none⟩) (by simp)).trans (by simp [go_sem])
      have z3 : wr.cell? ⟨w.heap.size, 3, none⟩ = some (.slice ae es.length ce) := (hB.cell (p := ⟨w.heap.size, 3, none⟩) (by simp)).trans (by simp [go_sem])
      have hW1d := hB0.drew
      obtain ⟨ao, co, rfl⟩ := hrow.val
      have hlti : (k : Int) < set.length := by omega
      go_upto_region 5 with fail
      go_cut [9] (fun s9 wx => ∃ a c, s9 = .slice a F.length c ∧ RdI wx s9 F ∧ Below wr.heap.size wr wx)
      case first =>
        refine wp_region_mono (IR (.agg #[.slice aa al.length ca, .int .i64 n, .slice am ms.length cm, .slice ae es.length ce]) (.slice (some ⟨bs, os, none⟩) set.length c0) vv n k s bs os w.heap.size F) [18, 19, 20, 21, 22, 23, 24, 25, 26, 27, 28, 9] IR_mono rfl (by kernel_rfl) (by kernel_rfl) ?_ ?_
        · skip
          refine Steps.cons rfl ?_ ?_
          · intro l us W hl hI hd hn K' hK
            have hHas := hI.has
            have hbel := hI.bel
            have hlen := hI.len
            obtain ⟨u0, u1, u2, u3, u4, u5, u6, u7, u8, u9, u10, u11, rfl⟩ := list12 hlen
            have HK : Hid (∀ v W', Below W.heap.size W W' → IR (.agg #[.slice aa al.length ca, .int .i64 n, .slice am ms.length cm, .slice ae es.length ce]) (.slice (some ⟨bs, os, none⟩) set.length c0) vv n k s bs os w.heap.size F 0 v W' → ∀ a', puts _ _ [v, u1, u2, u3, u4, u5, u6, u7, u8, u9, u10, u11] = a' → K' a' W') := fun v W' hb hv a' e => hK _ a' W' e (hI.step IR_mono hl hb hv)
            have hWW := hW1d.trans (hbel.mono hW1d.size)
            have y0 := keep hbel z0 hzw
            have y1 := keep hbel z1 hzw
            have y2 := keep hbel z2 hzw
            have y3 := keep hbel z3 hzw
            clear hl hI hd hn hK hHas hbel hlen
            refine StepG.mk ?_
            simp only [puts, Act.put]
            go_simp
            exact HK.out (.agg #[.slice aa al.length ca, .int .i64 n, .slice am ms.length cm, .slice ae es.length ce]) _ (Below.refl _ _) rfl _ (by simp [puts, Act.put])
          refine Steps.cons rfl ?_ ?_
          · intro l us W hl hI hd hn K' hK
            have hHas := hI.has
            have hbel := hI.bel
            have hlen := hI.len
            obtain ⟨u0, u1, u2, u3, u4, u5, u6, u7, u8, u9, u10, u11, rfl⟩ := list12 hlen
            have HK : Hid (∀ v W', Below W.heap.size W W' → IR (.agg #[.slice aa al.length ca, .int .i64 n, .slice am ms.length cm, .slice ae es.length ce]) (.slice (some ⟨bs, os, none⟩) set.length c0) vv n k s bs os w.heap.size F 1 v W' → ∀ a', puts _ _ [u0, v, u2, u3, u4, u5, u6, u7, u8, u9, u10, u11] = a' → K' a' W') := fun v W' hb hv a' e => hK _ a' W' e (hI.step IR_mono hl hb hv)
            have hWW := hW1d.trans (hbel.mono hW1d.size)
            clear hl hI hd hn hK hHas hbel hlen
            refine StepG.mk ?_
            simp only [puts, Act.put]
            go_simp
            exact HK.out (.slice (some ⟨bs, os, none⟩) set.length c0) _ (Below.refl _ _) rfl _ (by simp [puts, Act.put])
          refine Steps.cons rfl ?_ ?_
          · intro l us W hl hI hd hn K' hK
            have hHas := hI.has
            have hbel := hI.bel
            have hlen := hI.len
            obtain ⟨u0, u1, u2, u3, u4, u5, u6, u7, u8, u9, u10, u11, rfl⟩ := list12 hlen
            have HK : Hid (∀ v W', Below W.heap.size W W' → IR (.agg #[.slice aa al.length ca, .int .i64 n, .slice am ms.length cm, .slice ae es.length ce]) (.slice (some ⟨bs, os, none⟩) set.length c0) vv n k s bs os w.heap.size F 2 v W' → ∀ a', puts _ _ [u0, u1, v, u3, u4, u5, u6, u7, u8, u9, u10, u11] = a' → K' a' W') := fun v W' hb hv a' e => hK _ a' W' e (hI.step IR_mono hl hb hv)
            have hWW := hW1d.trans (hbel.mono hW1d.size)
            clear hl hI hd hn hK hHas hbel hlen
            refine StepG.mk ?_
            simp only [puts, Act.put]
            go_simp
            exact HK.out (.int .i64 k) _ (Below.refl _ _) rfl _ (by simp [puts, Act.put])
          refine Steps.cons rfl ?_ ?_
          · intro l us W hl hI hd hn K' hK
            have hHas := hI.has
            have hbel := hI.bel
            have hlen := hI.len
            obtain ⟨u0, u1, u2, u3, u4, u5, u6, u7, u8, u9, u10, u11, rfl⟩ := list12 hlen
            have HK : Hid (∀ v W', Below W.heap.size W W' → IR (.agg #[.slice aa al.length ca, .int .i64 n, .slice am ms.length cm, .slice ae es.length ce]) (.slice (some ⟨bs, os, none⟩) set.length c0) vv n k s bs os w.heap.size F 3 v W' → ∀ a', puts _ _ [u0, u1, u2, v, u4, u5, u6, u7, u8, u9, u10, u11] = a' → K' a' W') := fun v W' hb hv a' e => hK _ a' W' e (hI.step IR_mono hl hb hv)
            have hWW := hW1d.trans (hbel.mono hW1d.size)
            have d : l.getD 1 false = true ∧ l.getD 2 false = true := by
              simp [Region.binds] at hd
              exact ⟨by simp [hd], by simp [hd]⟩
            have e1 : u1 = _ := hHas 1 (by decide) d.1
            have e2 : u2 = _ := hHas 2 (by decide) d.2
            subst e1
            subst e2
            clear d
            clear hl hI hd hn hK hHas hbel hlen
            refine StepG.mk ?_
            simp only [puts, Act.put]
            go_simp
            exact HK.out (.pointer (some ⟨bs, os + k, none⟩)) _ (Below.refl _ _) rfl _ (by simp [puts, Act.put])
          refine Steps.cons rfl ?_ ?_
          · intro l us W hl hI hd hn K' hK
            have hHas := hI.has
            have hbel := hI.bel
            have hlen := hI.len
            obtain ⟨u0, u1, u2, u3, u4, u5, u6, u7, u8, u9, u10, u11, rfl⟩ := list12 hlen
            have HK : Hid (∀ v W', Below W.heap.size W W' → IR (.agg #[.slice aa al.length ca, .int .i64 n, .slice am ms.length cm, .slice ae es.length ce]) (.slice (some ⟨bs, os, none⟩) set.length c0) vv n k s bs os w.heap.size F 4 v W' → ∀ a', puts _ _ [u0, u1, u2, u3, v, u5, u6, u7, u8, u9, u10, u11] = a' → K' a' W') := fun v W' hb hv a' e => hK _ a' W' e (hI.step IR_mono hl hb hv)
            have hWW := hW1d.trans (hbel.mono hW1d.size)
            have d : l.getD 3 false = true := by simpa [Region.binds] using hd
            have e3 : u3 = _ := hHas 3 (by decide) d
            subst e3
            have hcs := keep hbel hc hbsw
            clear d
            clear hl hI hd hn hK hHas hbel hlen
            refine StepG.mk ?_
            simp only [puts, Act.put]
            go_simp
            exact HK.out (.int .i64 s) _ (Below.refl _ _) rfl _ (by simp [puts, Act.put])
          refine Steps.cons rfl ?_ ?_
          · intro l us W hl hI hd hn K' hK
            have hHas := hI.has
            have hbel := hI.bel
            have hlen := hI.len
            obtain ⟨u0, u1, u2, u3, u4, u5, u6, u7, u8, u9, u10, u11, rfl⟩ := list12 hlen
            have HK : Hid (∀ v W', Below W.heap.size W W' → IR (.agg #[.slice aa al.length ca, .int .i64 n, .slice am ms.length cm, .slice ae es.length ce]) (.slice (some ⟨bs, os, none⟩) set.length c0) vv n k s bs os w.heap.size F 5 v W' → ∀ a', puts _ _ [u0, u1, u2, u3, u4, v, u6, u7, u8, u9, u10, u11] = a' → K' a' W') := fun v W' hb hv a' e => hK _ a' W' e (hI.step IR_mono hl hb hv)
            have hWW := hW1d.trans (hbel.mono hW1d.size)
            have d : l.getD 4 false = true := by simpa [Region.binds] using hd
            have e4 : u4 = _ := hHas 4 (by decide) d
            subst e4
            clear d
            clear hl hI hd hn hK hHas hbel hlen
            refine StepG.mk ?_
            simp only [puts, Act.put]
            go_simp
            exact HK.out (.slice (some ⟨W.heap.size, 0, none⟩) 1 1) _ (bel_alloc _ _) ⟨W.heap.size, rfl, ⟨_, 1, rfl, RdS.lit (cs := #[.int .i64 s]) (heap_at rfl) rfl (by show 1 ≤ 1000000; decide)⟩⟩ _ (by simp [puts, Act.put])
          refine Steps.cons rfl ?_ ?_
          · intro l us W hl hI hd hn K' hK
            have hHas := hI.has
            have hbel := hI.bel
            have hlen := hI.len
            obtain ⟨u0, u1, u2, u3, u4, u5, u6, u7, u8, u9, u10, u11, rfl⟩ := list12 hlen
            have HK : Hid (∀ v W', Below W.heap.size W W' → IR (.agg #[.slice aa al.length ca, .int .i64 n, .slice am ms.length cm, .slice ae es.length ce]) (.slice (some ⟨bs, os, none⟩) set.length c0) vv n k s bs os w.heap.size F 6 v W' → ∀ a', puts _ _ [u0, u1, u2, u3, u4, u5, v, u7, u8, u9, u10, u11] = a' → K' a' W') := fun v W' hb hv a' e => hK _ a' W' e (hI.step IR_mono hl hb hv)
            have hWW := hW1d.trans (hbel.mono hW1d.size)
            clear hl hI hd hn hK hHas hbel hlen
            refine StepG.mk ?_
            simp only [puts, Act.put]
            go_simp
            exact HK.out (.pointer (some ⟨w.heap.size, 1, none⟩)) _ (Below.refl _ _) rfl _ (by simp [puts, Act.put])
          refine Steps.cons rfl ?_ ?_
          · intro l us W hl hI hd hn K' hK
            have hHas := hI.has
            have hbel := hI.bel
            have hlen := hI.len
            obtain ⟨u0, u1, u2, u3, u4, u5, u6, u7, u8, u9, u10, u11, rfl⟩ := list12 hlen
            have HK : Hid (∀ v W', Below W.heap.size W W' → IR (.agg #[.slice aa al.length ca, .int .i64 n, .slice am ms.length cm, .slice ae es.length ce]) (.slice (some ⟨bs, os, none⟩) set.length c0) vv n k s bs os w.heap.size F 7 v W' → ∀ a', puts _ _ [u0, u1, u2, u3, u4, u5, u6, v, u8, u9, u10, u11] = a' → K' a' W') := fun v W' hb hv a' e => hK _ a' W' e (hI.step IR_mono hl hb hv)
            have hWW := hW1d.trans (hbel.mono hW1d.size)
            have d : l.getD 6 false = true := by simpa [Region.binds] using hd
            have e6 : u6 = _ := hHas 6 (by decide) d
            subst e6
            have y1 := keep hbel z1 hzw
            clear d
            clear hl hI hd hn hK hHas hbel hlen
            refine StepG.mk ?_
            simp only [puts, Act.put]
            go_simp
            exact HK.out (.int .i64 n) _ (Below.refl _ _) rfl _ (by simp [puts, Act.put])
          refine Steps.cons rfl ?_ ?_
          · intro l us W hl hI hd hn K' hK
            have hHas := hI.has
            have hbel := hI.bel
            have hlen := hI.len
            obtain ⟨u0, u1, u2, u3, u4, u5, u6, u7, u8, u9, u10, u11, rfl⟩ := list12 hlen
            have HK : Hid (∀ v W', Below W.heap.size W W' → IR (.agg #[.slice aa al.length ca, .int .i64 n, .slice am ms.length cm, .slice ae es.length ce]) (.slice (some ⟨bs, os, none⟩) set.length c0) vv n k s bs os w.heap.size F 8 v W' → ∀ a', puts _ _ [u0, u1, u2, u3, u4, u5, u6, u7, v, u9, u10, u11] = a' → K' a' W') := fun v W' hb hv a' e => hK _ a' W' e (hI.step IR_mono hl hb hv)
            have hWW := hW1d.trans (hbel.mono hW1d.size)
            have d : l.getD 7 false = true := by simpa [Region.binds] using hd
            have e7 : u7 = _ := hHas 7 (by decide) d
            subst e7
            clear d
            clear hl hI hd hn hK hHas hbel hlen
            refine StepG.mk ?_
            simp only [puts, Act.put]
            go_simp
            refine (all_any n _ (by omega)).mono ?_
            rintro e w5 ⟨v5, rfl, hown5, hb5⟩
            have HA5 := RdI.of_own hown5
            obtain ⟨a5, c5, rfl, hr5⟩ := RdS.of_own hown5
            go_simp
            exact HK.out (.slice a5 (allL n).length c5) _ hb5 ⟨a5, c5, rfl, HA5⟩ _ (by simp [puts, Act.put])
          refine Steps.cons rfl ?_ ?_
          · intro l us W hl hI hd hn K' hK
            have hHas := hI.has
            have hbel := hI.bel
            have hlen := hI.len
            obtain ⟨u0, u1, u2, u3, u4, u5, u6, u7, u8, u9, u10, u11, rfl⟩ := list12 hlen
            have HK : Hid (∀ v W', Below W.heap.size W W' → IR (.agg #[.slice aa al.length ca, .int .i64 n, .slice am ms.length cm, .slice ae es.length ce]) (.slice (some ⟨bs, os, none⟩) set.length c0) vv n k s bs os w.heap.size F 9 v W' → ∀ a', puts _ _ [u0, u1, u2, u3, u4, u5, u6, u7, u8, v, u10, u11] = a' → K' a' W') := fun v W' hb hv a' e => hK _ a' W' e (hI.step IR_mono hl hb hv)
            have hWW := hW1d.trans (hbel.mono hW1d.size)
            clear hl hI hd hn hK hHas hbel hlen
            refine StepG.mk ?_
            simp only [puts, Act.put]
            go_simp
            exact HK.out (vv) _ (Below.refl _ _) rfl _ (by simp [puts, Act.put])
          refine Steps.cons rfl ?_ ?_
          · intro l us W hl hI hd hn K' hK
            have hHas := hI.has
            have hbel := hI.bel
            have hlen := hI.len
            obtain ⟨u0, u1, u2, u3, u4, u5, u6, u7, u8, u9, u10, u11, rfl⟩ := list12 hlen
            have HK : Hid (∀ v W', Below W.heap.size W W' → IR (.agg #[.slice aa al.length ca, .int .i64 n, .slice am ms.length cm, .slice ae es.length ce]) (.slice (some ⟨bs, os, none⟩) set.length c0) vv n k s bs os w.heap.size F 10 v W' → ∀ a', puts _ _ [u0, u1, u2, u3, u4, u5, u6, u7, u8, u9, v, u11] = a' → K' a' W') := fun v W' hb hv a' e => hK _ a' W' e (hI.step IR_mono hl hb hv)
            have hWW := hW1d.trans (hbel.mono hW1d.size)
            have d : l.getD 0 false = true ∧ l.getD 5 false = true ∧ l.getD 8 false = true ∧ l.getD 9 false = true := by
              simp [Region.binds] at hd
              exact ⟨by simp [hd], by simp [hd], by simp [hd], by simp [hd]⟩
            have e0 : u0 = _ := hHas 0 (by decide) d.1
            have e9 : u9 = _ := hHas 9 (by decide) d.2.2.2
            subst e0
            subst e9
            obtain ⟨b5, e5, hr5⟩ : ∃ b, u5 = .slice (some ⟨b, 0, none⟩) 1 1 ∧ RdI W u5 [s] := hHas 5 (by decide) d.2.1
            obtain ⟨a8, c8, e8, hr8⟩ : ∃ a c, u8 = .slice a (allL n).length c ∧ RdI W u8 (allL n) := hHas 8 (by decide) d.2.2.1
            subst e5
            subst e8
            have Hr5 := Lib.hid hr5
            have Hr8 := Lib.hid hr8
            clear d hr5 hr8
            clear hl hI hd hn hK hHas hbel hlen
            refine StepG.mk ?_
            simp only [puts, Act.put]
            go_simp
            refine (from_any _ _ _ _ ⟨al, n, ms, es⟩ [s] (allL n) evs W (Ha.out.mono hWW) Hs.out Hr5.out Hr8.out (H2.out.mono hWW) (by simp; omega) (by rw [allL_length]; omega) hl2).mono ?_
            rintro e w6 ⟨v6, rfl, hr6, hb6⟩
            rw [show fromL (⟨al, n, ms, es⟩ : Aut).es [s] (allL n) evs = F from HF.out] at hr6
            have Hr6 := Lib.hid hr6
            obtain ⟨a6, c6, rfl, hr6'⟩ := hr6
            clear hr6'
            go_simp
            exact HK.out (.slice a6 F.length c6) _ hb6 ⟨a6, c6, rfl, Hr6.out⟩ _ (by simp [puts, Act.put])
          refine Steps.cons rfl ?_ ?_
          · intro l us W hl hI hd hn K' hK
            have hHas := hI.has
            have hbel := hI.bel
            have hlen := hI.len
            obtain ⟨u0, u1, u2, u3, u4, u5, u6, u7, u8, u9, u10, u11, rfl⟩ := list12 hlen
            have HK : Hid (∀ v W', Below W.heap.size W W' → IR (.agg #[.slice aa al.length ca, .int .i64 n, .slice am ms.length cm, .slice ae es.length ce]) (.slice (some ⟨bs, os, none⟩) set.length c0) vv n k s bs os w.heap.size F 11 v W' → ∀ a', puts _ _ [u0, u1, u2, u3, u4, u5, u6, u7, u8, u9, u10, v] = a' → K' a' W') := fun v W' hb hv a' e => hK _ a' W' e (hI.step IR_mono hl hb hv)
            have hWW := hW1d.trans (hbel.mono hW1d.size)
            have d : l.getD 10 false = true := by
              simp [Region.binds] at hd
              simp [hd]
            obtain ⟨a10, c10, e10, hr10⟩ : ∃ a c, u10 = .slice a F.length c ∧ RdI W u10 F := hHas 10 (by decide) d
            subst e10
            have Hr10 := Lib.hid hr10
            clear d hr10
            clear hl hI hd hn hK hHas hbel hlen
            refine StepG.mk ?_
            simp only [puts, Act.put]
            go_simp
            exact HK.out (.slice a10 F.length c10) _ (Below.refl _ _) ⟨a10, c10, rfl, Hr10.out⟩ _ (by simp [puts, Act.put])
          exact Steps.nil (Nat.le_refl _)
        · intro us W hlen hbel hall
          obtain ⟨u0, u1, u2, u3, u4, u5, u6, u7, u8, u9, u10, u11, rfl⟩ := list12 hlen
          obtain ⟨a11, c11, e11, hr11⟩ : ∃ a c, u11 = .slice a F.length c ∧ RdI W u11 F := hall 11 (by decide)
          subst e11
          have Hr11 := Lib.hid hr11
          clear hall hlen hr11
          simp only [puts, Act.put, List.setIfInBounds_toArray, List.set_cons_succ, List.set_cons_zero]
          go_wp2_with fail
          go_meet
          exact ⟨a11, c11, rfl, Hr11.out, (bel_drew wr).trans hbel⟩
      case rest =>
        obtain ⟨a9, c9, rfl, hr9, hb9⟩ := hcut
        have hrow9 := hrow.below hb9
        have hB9 := hB.trans (hb9.mono (by omega))
        have hB90 := hB0.trans (hb9.mono hB0.size)
        have hs9 := hb9.size
        have Hr9 := Lib.hid hr9
        obtain ⟨a9', c9', e9, hrd9⟩ := hr9
        cases e9
        have hFl : F.length ≤ 100001 := by
          rw [← HF.out]
          have := fromL_len es [s] (allL n) evs
          simp at this; omega
        go_wp2_with fail
        go_loop [10, 11] (fun ins j => ∃ (m : Nat) (b : Bool), ins = .bool b ∧ j = .int .i64 m ∧ m ≤ F.length ∧ Hid (b = (F.take m).all (hasB set))) (fun _ j => F.length - (intOf j).toNat)
        case atStart => exact ⟨0, true, rfl, rfl, Nat.zero_le _, rfl⟩
        case round =>
          obtain ⟨m, b, rfl, rfl, hm, hb⟩ := hrel
          by_cases hltm : m < F.length
          · obtain ⟨bf, of, rfl, hcf⟩ := hrd9.at_int m hltm
            have Hts2 : Hid ((F.take (m + 1)).all (hasB set) = ((F.take m).all (hasB set) && hasB set F[m])) := by
              show _ = _
              rw [take_snoc F m hltm, List.all_append]; simp
            generalize F[m] = y at *
            have hltmi : (m : Int) < F.length := by omega
            cases b with
            | false =>
              have Hb : Hid (false = (F.take (m + 1)).all (hasB set)) := by show _ = _; rw [Hts2.out, ← hb.out]; rfl
              clear hb
              go_wp2_with fail
              go_round
              case rel => exact ⟨m + 1, false, rfl, by go_num, by omega, Hb.out⟩
              case measure => simp [intOf]; omega
            | true =>
              have Hb : Hid (hasB set y = (F.take (m + 1)).all (hasB set)) := by show _ = _; rw [Hts2.out, ← hb.out]; rfl
              clear hb
              go_wp2_with fail
              refine (has_any _ set y _ (H1.out.mono hB90) hl1).mono ?_
              rintro e w1 ⟨rfl, rfl⟩
              have Hgen : Hid (∃ bb, hasB set y = bb) := ⟨_, rfl⟩
              go_wp2_with fail
              go_round
              case rel => exact ⟨m + 1, hasB set y, rfl, by go_num, by omega, Hb.out⟩
              case measure => simp [intOf]; omega
          · have Hst : Hid (stays es n set evs s = b) := by
              show _ = _
              rw [HF0.out, hb.out, List.take_of_length_le (by omega)]
            clear hb
            cases b with
            | false =>
              have HO : Hid ((set.take (k + 1)).filter (stays es n set evs) = O) := by show _ = _; rw [Hts.out, if_neg (by rw [Hst.out]; simp)]
              go_wp2_with fail
              go_roundw
              case rel => exact ⟨k + 1, by omega, by go_num, hB9, tag, by rw [HO.out]; exact hrow9⟩
              case measure => simp [intOf]; omega
            | true =>
              have HO : Hid ((set.take (k + 1)).filter (stays es n set evs) = O ++ [s]) := by show _ = _; rw [Hts.out, if_pos Hst.out]
              have hcs := keep0 hb9 hc
              have hrow10 := hrow9.below (bel_alloc wc (.cells #[.int .i64 s] 3))
              have hszc : w.heap.size + 1 ≤ wc.heap.size := by omega
              go_wp2_with (at_builtin; refine wpList_append_row rfl _ _ 28 rfl 3 i0 (.int .i64 0) 8 Try.underlying28 hi hz0 hz1 hz2 rfl rfl hrow10 (some ⟨_, 0, none⟩) 1 1 [.int .i64 s] rfl (by simp) (fun e => by cases e) (fun ad e => by cases e; exact new_cells_at _ _ rfl) (by simp [Value.oneCell']) (by unfold maxLen; omega) (by omega) (by simp; omega) ?_; intro v6 w6 tag6 hr6 ht6; obtain ⟨a6, c6, rfl⟩ := hr6.val)
              go_roundw
              case rel =>
                refine ⟨k + 1, by omega, by go_num, belTurn (hB9.alloc (by omega) _) ht6 (by simp; omega), tag6, ?_⟩
                rw [HO.out, List.length_append]
                have := hr6
                simpa [ints] using this
              case measure => simp [intOf]; omega
    · have e : set.take k = set := List.take_of_length_le (by omega)
      rw [e] at hrow
      obtain ⟨ao, co, rfl⟩ := hrow.val
      have Hrow := Lib.hid hrow
      have HR : Hid (rintL es n set evs = set.filter (stays es n set evs)) := rfl
      generalize set.filter (stays es n set evs) = O at *
      have hge : (set.length : Int) ≤ k := by omega
      clear e hrow
      go_wp2_with fail
      go_ret
      exact ⟨_, rfl, by rw [HR.out]; exact Hrow.out.rdI, hB0⟩
end Go.Proofs.Ythchkddhibhenaa

/- The contracts of Closed, and of the reference's Closed. -/
namespace Go.Proofs.Ythchkddhibhenaa
open Go.RowKit

/-- Whether no edge by some events leads out of a set. -/
def closedL (es : List Ed) (set evs : List Int) : Bool := es.all fun x => !(hasB set x.f && !hasB set x.t && hasB evs x.e)
/-- What Closed returns. -/
def CPost (e : Int) (b : Bool) (u : Value) (_ : World) : Prop := u = if e = 0 then .tuple #[.bool b, .int .i64 0] else .tuple #[.bool false, .int .i64 e]

set_option maxRecDepth 100000 in
set_option maxHeartbeats 1600000 in
theorem closed_any (v vs vv : Value) (a : Aut) (set evs : List Int) (w : World) (ha : RdA w v a) (hs : a.small) (h1 : RdI w vs set) (h2 : RdI w vv evs) (hl1 : set.length ≤ 1000000) (hl2 : evs.length ≤ 1000000) :
    Calls Try.prog 22 #[v, vs, vv] w (Ret w (CPost (err2 a.err (err2 (setErr a.n none set) (setErr 32 none evs))) (closedL a.es set evs))) := by
  have ha0 := ha
  obtain ⟨va, vm, ve, rfl, ⟨aa, ca, rfl, hra⟩, ⟨am, cm, rfl, hrm⟩, ⟨ae, ce, rfl, hre⟩⟩ := ha
  have Ha0 := Lib.hid ha0
  have Hs := Lib.hid hs
  have Hr1 := Lib.hid h1
  have Hr2 := Lib.hid h2
  clear ha0 hs h1 h2
  go_enter Try.func22, Try.ntmps22
  go_wp2_with fail
  refine (closure_any _ vs vv a set evs _ (Ha0.out.mono (by (repeat (first | with_reducible exact Below.refl _ _ | with_reducible exact Ha0 | (with_reducible refine belCall ?_ Ha0 (by first | omega | (simp; done) | (simp; omega) | (simp at *; omega))) | (with_reducible refine Below.alloc ?_ (by first | omega | (simp; done) | (simp; omega) | (simp at *; omega)) _) | (with_reducible refine Below.drew ?_) | (with_reducible refine Below.setCell ?_ (by first | omega | (simp; done) | (simp; omega) | (simp at *; omega)) _))))) Hs.out (Hr1.out.mono (by (repeat (first | with_reducible exact Below.refl _ _ | with_reducible exact Ha0 | (with_reducible refine belCall ?_ Ha0 (by first | omega | (simp; done) | (simp; omega) | (simp at *; omega))) | (with_reducible refine Below.alloc ?_ (by first | omega | (simp; done) | (simp; omega) | (simp at *; omega)) _) | (with_reducible refine Below.drew ?_) | (with_reducible refine Below.setCell ?_ (by first | omega | (simp; done) | (simp; omega) | (simp at *; omega)) _))))) (Hr2.out.mono (by (repeat (first | with_reducible exact Below.refl _ _ | with_reducible exact Ha0 | (with_reducible refine belCall ?_ Ha0 (by first | omega | (simp; done) | (simp; omega) | (simp at *; omega))) | (with_reducible refine Below.alloc ?_ (by first | omega | (simp; done) | (simp; omega) | (simp at *; omega)) _) | (with_reducible refine Below.drew ?_) | (with_reducible refine Below.setCell ?_ (by first | omega | (simp; done) | (simp; omega) | (simp at *; omega)) _))))) hl1 hl2).mono ?_
  rintro e w1 ⟨_, rfl, rfl, hb1⟩
  have hW1 : Below w.heap.size w w1 := ((Below.refl _ _).alloc (Nat.le_refl _) _).trans (hb1.mono (by simp))
  have hbx := box4 hb1
  clear hb1
  by_cases h1 : err2 a.err (err2 (setErr a.n none set) (setErr 32 none evs)) = 0
  · have herr : a.err = 0 ∧ setErr a.n none set = 0 ∧ setErr 32 none evs = 0 := by
      unfold err2 at h1
      split at h1
      · rename_i g1
        split at h1
        · rename_i g2; exact ⟨g1, g2, h1⟩
        · rename_i g2; exact absurd h1 g2
      · rename_i g1; exact absurd h1 g1
    have hok := Aut.ok_of herr.1
    have hin := setErr_zero herr.2.1
    have H1 := Lib.hid h1
    rw [h1]
    clear h1 herr
    have hn0 := hok.n0
    have hn1 := hok.n1
    have Hes := Lib.hid hok.es
    have Hin := Lib.hid hin
    have hae := Hs.out.es
    clear hok hin
    generalize hn : a.n = an at *
    obtain ⟨n, rfl⟩ := Int.eq_ofNat_of_zero_le hn0
    have hn' : n ≤ 4096 := by omega
    have Hn := Lib.hid hn
    clear hn hn0 hn1
    obtain ⟨x0, x1, x2, x3, x4⟩ := hbx
    have Hbx := Lib.hid (And.intro x0 (And.intro x1 (And.intro x2 (And.intro x3 x4))))
    go_wp2_with fail
    refine (flags_any _ _ _ vs n set _ (Hr1.out.mono hW1) hl1 (by omega) Hin.out).mono ?_
    rintro e w2 ⟨_, rfl, hown, hb2⟩
    have hrow : Row w2 w1.heap.size (fun _ => 1) 1 4 1 _ n (bools (flagL n set)) := Row.of_own hown (Nat.le_refl _) (fun _ _ _ => rfl)
    have hfl := flagL_length n set
    have hlen : a.es.length ≤ 1000000 := hae
    clear hown
    obtain ⟨af, cf, rfl⟩ := hrow.val
    have c3 := keep0 hb2 x3
    go_wp2_with fail
    clear x0 x1 x2 x3
    go_loopw [25] (fun i wr => ∃ kk : Nat, i = .int .i64 kk ∧ kk ≤ a.es.length ∧ Below w2.heap.size w2 wr ∧ Hid (closedL a.es set evs = closedL (a.es.drop kk) set evs)) (fun i _ => a.es.length - (intOf i).toNat)
    case atStart => exact ⟨0, rfl, Nat.zero_le _, Below.refl _ _, rfl⟩
    case round =>
      obtain ⟨kk, rfl, hkk, hB, hfold⟩ := hrel
      have hsz := hB.size
      have hbz2 := hb2.size
      have hrow' : Row wr w1.heap.size (fun _ => 1) 1 4 1 (.slice af n cf) n (bools (flagL n set)) := hrow.below hB
      by_cases hlt : kk < a.es.length
      · obtain ⟨b, off, rfl, d0, d1, d2⟩ := hre.at_edge kk hlt
        have hx := Hes.out a.es[kk] (List.getElem_mem hlt)
        have Hdrop : Hid (closedL (a.es.drop kk) set evs = (!(hasB set a.es[kk].f && !hasB set a.es[kk].t && hasB evs a.es[kk].e) && closedL (a.es.drop (kk + 1)) set evs)) := by
          show _ = _
          rw [List.drop_eq_getElem_cons hlt]; rfl
        have hbz := World.block_lt_of_cell? _ _ d0
        dsimp only at hbz
        have hwz := hW1.size
        have hW2 := hW1.trans (hb2.mono hW1.size)
        have hW2r := hW2.trans (hB.mono hW2.size)
        replace d0 := keep0 hW2r d0
        replace d1 := keep0 hW2r d1
        replace d2 := keep0 hW2r d2
        generalize a.es[kk] = x at *
        obtain ⟨hx0, hx1, hx2, hx3⟩ := hx
        obtain ⟨f0, e0, t0⟩ := x
        dsimp only at *
        obtain ⟨xf, rfl⟩ := Int.eq_ofNat_of_zero_le hx0
        obtain ⟨xt, rfl⟩ := Int.eq_ofNat_of_zero_le hx2
        have hxf : xf < n := by omega
        have hxt : xt < n := by omega
        obtain ⟨gB, gO, gC, e1, hgl, hgb, _⟩ := hrow'.addr (by omega)
        cases e1
        have Hget : Hid (∀ j : Nat, j < n → wr.cell? ⟨gB, gO + j, none⟩ = some (.bool (hasB set j))) := by
          intro j hj
          rw [hrow'.cellAt j (by omega), List.getElem?_map, List.getElem?_eq_getElem (by rw [flagL_length]; exact hj)]
          simp [flagL]
        have g1 := Hget.out xf hxf
        have g2 := Hget.out xt hxt
        clear hx0 hx1 hx2 hx3 Hget hrow hrow'
        cases q1 : hasB set xf with
        | false =>
          have Q : Hid (closedL a.es set evs = closedL (a.es.drop (kk + 1)) set evs) := by
            show _ = _
            rw [hfold.out, Hdrop.out, q1]; simp
          rw [q1] at g1
          clear q1 Hdrop hfold
          go_wp2
          go_roundw
          case rel => exact ⟨kk + 1, by go_num, by omega, (by (repeat (first | with_reducible exact Below.refl _ _ | with_reducible exact hB | (with_reducible refine belCall ?_ hB (by first | omega | (simp; done) | (simp; omega) | (simp at *; omega))) | (with_reducible refine Below.alloc ?_ (by first | omega | (simp; done) | (simp; omega) | (simp at *; omega)) _) | (with_reducible refine Below.drew ?_) | (with_reducible refine Below.setCell ?_ (by first | omega | (simp; done) | (simp; omega) | (simp at *; omega)) _)))), Q.out⟩
          case measure => simp [intOf]; omega
        | true =>
          cases q2 : hasB set xt with
          | true =>
            have Q : Hid (closedL a.es set evs = closedL (a.es.drop (kk + 1)) set evs) := by
              show _ = _
              rw [hfold.out, Hdrop.out, q1, q2]; simp
            rw [q1] at g1
            rw [q2] at g2
            clear q1 q2 Hdrop hfold
            go_wp2
            go_roundw
            case rel => exact ⟨kk + 1, by go_num, by omega, (by (repeat (first | with_reducible exact Below.refl _ _ | with_reducible exact hB | (with_reducible refine belCall ?_ hB (by first | omega | (simp; done) | (simp; omega) | (simp at *; omega))) | (with_reducible refine Below.alloc ?_ (by first | omega | (simp; done) | (simp; omega) | (simp at *; omega)) _) | (with_reducible refine Below.drew ?_) | (with_reducible refine Below.setCell ?_ (by first | omega | (simp; done) | (simp; omega) | (simp at *; omega)) _)))), Q.out⟩
            case measure => simp [intOf]; omega
          | false =>
            cases q3 : hasB evs e0 with
            | false =>
              have Q : Hid (closedL a.es set evs = closedL (a.es.drop (kk + 1)) set evs) := by
                show _ = _
                rw [hfold.out, Hdrop.out, q3]; simp
              have Q3 := Lib.hid q3
              rw [q1] at g1
              rw [q2] at g2
              clear q1 q2 q3 Hdrop hfold
              go_wp2_with (go_at_call 57; ((with_reducible refine (contains_any vv evs e0 _ (Hr2.out.mono (by (repeat (first | with_reducible exact Below.refl _ _ | with_reducible exact hW2r | (with_reducible refine belCall ?_ hW2r (by first | omega | (simp; done) | (simp; omega) | (simp at *; omega))) | (with_reducible refine Below.alloc ?_ (by first | omega | (simp; done) | (simp; omega) | (simp at *; omega)) _) | (with_reducible refine Below.drew ?_) | (with_reducible refine Below.setCell ?_ (by first | omega | (simp; done) | (simp; omega) | (simp at *; omega)) _))))) hl2).mono ?_); rintro e w1 ⟨rfl, rfl⟩; rw [Q3.out]))
              go_roundw
              case rel => exact ⟨kk + 1, by go_num, by omega, (by (repeat (first | with_reducible exact Below.refl _ _ | with_reducible exact hB | (with_reducible refine belCall ?_ hB (by first | omega | (simp; done) | (simp; omega) | (simp at *; omega))) | (with_reducible refine Below.alloc ?_ (by first | omega | (simp; done) | (simp; omega) | (simp at *; omega)) _) | (with_reducible refine Below.drew ?_) | (with_reducible refine Below.setCell ?_ (by first | omega | (simp; done) | (simp; omega) | (simp at *; omega)) _)))), Q.out⟩
              case measure => simp [intOf]; omega
            | true =>
              have Q : Hid (closedL a.es set evs = false) := by
                show _ = _
                rw [hfold.out, Hdrop.out, q1, q2, q3]; simp
              have Q3 := Lib.hid q3
              rw [q1] at g1
              rw [q2] at g2
              clear q1 q2 q3 Hdrop hfold
              go_wp2_with (go_at_call 57; ((with_reducible refine (contains_any vv evs e0 _ (Hr2.out.mono (by (repeat (first | with_reducible exact Below.refl _ _ | with_reducible exact hW2r | (with_reducible refine belCall ?_ hW2r (by first | omega | (simp; done) | (simp; omega) | (simp at *; omega))) | (with_reducible refine Below.alloc ?_ (by first | omega | (simp; done) | (simp; omega) | (simp at *; omega)) _) | (with_reducible refine Below.drew ?_) | (with_reducible refine Below.setCell ?_ (by first | omega | (simp; done) | (simp; omega) | (simp at *; omega)) _))))) hl2).mono ?_); rintro e w1 ⟨rfl, rfl⟩; rw [Q3.out]))
              go_ret2
              refine ⟨_, rfl, ?_, (by (repeat (first | with_reducible exact Below.refl _ _ | with_reducible exact hW2r | (with_reducible refine belCall ?_ hW2r (by first | omega | (simp; done) | (simp; omega) | (simp at *; omega))) | (with_reducible refine Below.alloc ?_ (by first | omega | (simp; done) | (simp; omega) | (simp at *; omega)) _) | (with_reducible refine Below.drew ?_) | (with_reducible refine Below.setCell ?_ (by first | omega | (simp; done) | (simp; omega) | (simp at *; omega)) _))))⟩
              rw [CPost, if_pos H1.out, Q.out]
              rfl
      · have Q : Hid (closedL a.es set evs = true) := by
          show _ = _
          rw [hfold.out, List.drop_of_length_le (by omega)]; rfl
        have hW2 := hW1.trans (hb2.mono hW1.size)
        have hW2r := hW2.trans (hB.mono hW2.size)
        clear hfold
        go_wp2
        go_ret2
        refine ⟨_, rfl, ?_, hW2r⟩
        rw [CPost, if_pos H1.out, Q.out]
        rfl
  · have H1 := Lib.hid h1
    have h1' : (err2 a.err (err2 (setErr a.n none set) (setErr 32 none evs)) != 0) = true := by simpa using h1
    clear h1
    go_wp2_with fail
    go_ret2
    refine ⟨_, rfl, ?_, hW1⟩
    rw [CPost, if_neg H1.out]
    rfl

set_option maxRecDepth 100000 in
set_option maxHeartbeats 1600000 in
theorem rclosed_any (v vs vv : Value) (a : Aut) (set evs : List Int) (w : World) (ha : RdA w v a) (hs : a.small) (h1 : RdI w vs set) (h2 : RdI w vv evs) (hl1 : set.length ≤ 1000000) (hl2 : evs.length ≤ 1000000) :
    Calls Try.prog 24 #[v, vs, vv] w (Ret w fun u _ => u = .bool (closedL a.es set evs)) := by
  obtain ⟨va, vm, ve, rfl, ⟨aa, ca, rfl, hra⟩, ⟨am, cm, rfl, hrm⟩, ⟨ae, ce, rfl, hre⟩⟩ := ha
  have hae := hs.es
  obtain ⟨al, n, ms, es⟩ := a
  dsimp only at *
  have H1 := Lib.hid h1
  have H2 := Lib.hid h2
  clear hs hra hrm h1 h2
  go_enter Try.func24, Try.ntmps24
  go_wp2_with fail
  go_loopw [7] (fun i wr => ∃ kk : Nat, i = .int .i64 kk ∧ kk ≤ es.length ∧ Below (w.heap.size + 1) (w.alloc (.cells #[.slice aa al.length ca, .int .i64 n, .slice am ms.length cm, .slice ae es.length ce] 31)) wr ∧ Hid (closedL es set evs = closedL (es.drop kk) set evs)) (fun i _ => es.length - (intOf i).toNat)
  case atStart => exact ⟨0, rfl, Nat.zero_le _, Below.refl _ _, rfl⟩
  case round =>
    obtain ⟨kk, rfl, hkk, hB, hfold⟩ := hrel
    have hB0 : Below w.heap.size w wr := ((Below.refl _ _).alloc (Nat.le_refl _) _).trans (hB.mono (Nat.le_succ _))
    have hsz := hB.size
    simp only [World.size_alloc] at hsz
    have c3 : wr.cell? ⟨w.heap.size, 3, none⟩ = some (.slice ae es.length ce) := (hB.cell (p := ⟨w.heap.size, 3, none⟩) (by simp)).trans (by simp [go_sem])
    by_cases hlt : kk < es.length
    · obtain ⟨b, off, rfl, d0, d1, d2⟩ := hre.at_edge kk hlt
      have Hdrop : Hid (closedL (es.drop kk) set evs = (!(hasB set es[kk].f && !hasB set es[kk].t && hasB evs es[kk].e) && closedL (es.drop (kk + 1)) set evs)) := by
        show _ = _
        rw [List.drop_eq_getElem_cons hlt]; rfl
      replace d0 := keep0 hB0 d0
      replace d1 := keep0 hB0 d1
      replace d2 := keep0 hB0 d2
      have hbz := World.block_lt_of_cell? _ _ d0
      dsimp only at hbz
      generalize es[kk] = x at *
      obtain ⟨xf, xe, xt⟩ := x
      dsimp only at *
      cases q1 : hasB set xf with
      | false =>
        have Q : Hid (closedL es set evs = closedL (es.drop (kk + 1)) set evs) := by
          show _ = _
          rw [hfold.out, Hdrop.out, q1]; simp
        have Q1 := Lib.hid q1
        clear q1 Hdrop hfold
        go_wp2_with fail
        refine (has_any _ set xf _ (H1.out.mono (by (repeat (first | with_reducible exact Below.refl _ _ | with_reducible exact hB0 | (with_reducible refine belCall ?_ hB0 (by first | omega | (simp; done) | (simp; omega) | (simp at *; omega))) | (with_reducible refine Below.alloc ?_ (by first | omega | (simp; done) | (simp; omega) | (simp at *; omega)) _) | (with_reducible refine Below.drew ?_) | (with_reducible refine Below.setCell ?_ (by first | omega | (simp; done) | (simp; omega) | (simp at *; omega)) _))))) hl1).mono ?_
        rintro e w1 ⟨rfl, rfl⟩
        rw [Q1.out]
        go_wp2_with fail
        go_roundw
        case rel => exact ⟨kk + 1, by go_num, by omega, (by (repeat (first | with_reducible exact Below.refl _ _ | with_reducible exact hB | (with_reducible refine belCall ?_ hB (by first | omega | (simp; done) | (simp; omega) | (simp at *; omega))) | (with_reducible refine Below.alloc ?_ (by first | omega | (simp; done) | (simp; omega) | (simp at *; omega)) _) | (with_reducible refine Below.drew ?_) | (with_reducible refine Below.setCell ?_ (by first | omega | (simp; done) | (simp; omega) | (simp at *; omega)) _)))), Q.out⟩
        case measure => simp [intOf]; omega
      | true =>
        have Q1 := Lib.hid q1
        cases q3 : hasB evs xe with
        | false =>
          have Q : Hid (closedL es set evs = closedL (es.drop (kk + 1)) set evs) := by
            show _ = _
            rw [hfold.out, Hdrop.out, q3]; simp
          have Q3 := Lib.hid q3
          clear q1 q3 Hdrop hfold
          go_wp2_with fail
          refine (has_any _ set xf _ (H1.out.mono (by (repeat (first | with_reducible exact Below.refl _ _ | with_reducible exact hB0 | (with_reducible refine belCall ?_ hB0 (by first | omega | (simp; done) | (simp; omega) | (simp at *; omega))) | (with_reducible refine Below.alloc ?_ (by first | omega | (simp; done) | (simp; omega) | (simp at *; omega)) _) | (with_reducible refine Below.drew ?_) | (with_reducible refine Below.setCell ?_ (by first | omega | (simp; done) | (simp; omega) | (simp at *; omega)) _))))) hl1).mono ?_
          rintro e w1 ⟨rfl, rfl⟩
          rw [Q1.out]
          go_wp2_with fail
          refine (has_any _ evs xe _ (H2.out.mono (by (repeat (first | with_reducible exact Below.refl _ _ | with_reducible exact hB0 | (with_reducible refine belCall ?_ hB0 (by first | omega | (simp; done) | (simp; omega) | (simp at *; omega))) | (with_reducible refine Below.alloc ?_ (by first | omega | (simp; done) | (simp; omega) | (simp at *; omega)) _) | (with_reducible refine Below.drew ?_) | (with_reducible refine Below.setCell ?_ (by first | omega | (simp; done) | (simp; omega) | (simp at *; omega)) _))))) hl2).mono ?_
          rintro e w1 ⟨rfl, rfl⟩
          rw [Q3.out]
          go_wp2_with fail
          go_roundw
          case rel => exact ⟨kk + 1, by go_num, by omega, (by (repeat (first | with_reducible exact Below.refl _ _ | with_reducible exact hB | (with_reducible refine belCall ?_ hB (by first | omega | (simp; done) | (simp; omega) | (simp at *; omega))) | (with_reducible refine Below.alloc ?_ (by first | omega | (simp; done) | (simp; omega) | (simp at *; omega)) _) | (with_reducible refine Below.drew ?_) | (with_reducible refine Below.setCell ?_ (by first | omega | (simp; done) | (simp; omega) | (simp at *; omega)) _)))), Q.out⟩
          case measure => simp [intOf]; omega
        | true =>
          have Q3 := Lib.hid q3
          cases q2 : hasB set xt with
          | true =>
            have Q : Hid (closedL es set evs = closedL (es.drop (kk + 1)) set evs) := by
              show _ = _
              rw [hfold.out, Hdrop.out, q2]; simp
            have Q2 := Lib.hid q2
            clear q1 q2 q3 Hdrop hfold
            go_wp2_with fail
            refine (has_any _ set xf _ (H1.out.mono (by (repeat (first | with_reducible exact Below.refl _ _ | with_reducible exact hB0 | (with_reducible refine belCall ?_ hB0 (by first | omega | (simp; done) | (simp; omega) | (simp at *; omega))) | (with_reducible refine Below.alloc ?_ (by first | omega | (simp; done) | (simp; omega) | (simp at *; omega)) _) | (with_reducible refine Below.drew ?_) | (with_reducible refine Below.setCell ?_ (by first | omega | (simp; done) | (simp; omega) | (simp at *; omega)) _))))) hl1).mono ?_
            rintro e w1 ⟨rfl, rfl⟩
            rw [Q1.out]
            go_wp2_with fail
            refine (has_any _ evs xe _ (H2.out.mono (by (repeat (first | with_reducible exact Below.refl _ _ | with_reducible exact hB0 | (with_reducible refine belCall ?_ hB0 (by first | omega | (simp; done) | (simp; omega) | (simp at *; omega))) | (with_reducible refine Below.alloc ?_ (by first | omega | (simp; done) | (simp; omega) | (simp at *; omega)) _) | (with_reducible refine Below.drew ?_) | (with_reducible refine Below.setCell ?_ (by first | omega | (simp; done) | (simp; omega) | (simp at *; omega)) _))))) hl2).mono ?_
            rintro e w1 ⟨rfl, rfl⟩
            rw [Q3.out]
            go_wp2_with fail
            refine (has_any _ set xt _ (H1.out.mono (by (repeat (first | with_reducible exact Below.refl _ _ | with_reducible exact hB0 | (with_reducible refine belCall ?_ hB0 (by first | omega | (simp; done) | (simp; omega) | (simp at *; omega))) | (with_reducible refine Below.alloc ?_ (by first | omega | (simp; done) | (simp; omega) | (simp at *; omega)) _) | (with_reducible refine Below.drew ?_) | (with_reducible refine Below.setCell ?_ (by first | omega | (simp; done) | (simp; omega) | (simp at *; omega)) _))))) hl1).mono ?_
            rintro e w1 ⟨rfl, rfl⟩
            rw [Q2.out]
            go_wp2_with fail
            go_roundw
            case rel => exact ⟨kk + 1, by go_num, by omega, (by (repeat (first | with_reducible exact Below.refl _ _ | with_reducible exact hB | (with_reducible refine belCall ?_ hB (by first | omega | (simp; done) | (simp; omega) | (simp at *; omega))) | (with_reducible refine Below.alloc ?_ (by first | omega | (simp; done) | (simp; omega) | (simp at *; omega)) _) | (with_reducible refine Below.drew ?_) | (with_reducible refine Below.setCell ?_ (by first | omega | (simp; done) | (simp; omega) | (simp at *; omega)) _)))), Q.out⟩
            case measure => simp [intOf]; omega
          | false =>
            have Q : Hid (closedL es set evs = false) := by
              show _ = _
              rw [hfold.out, Hdrop.out, q1, q2, q3]; simp
            have Q2 := Lib.hid q2
            clear q1 q2 q3 Hdrop hfold
            go_wp2_with fail
            refine (has_any _ set xf _ (H1.out.mono (by (repeat (first | with_reducible exact Below.refl _ _ | with_reducible exact hB0 | (with_reducible refine belCall ?_ hB0 (by first | omega | (simp; done) | (simp; omega) | (simp at *; omega))) | (with_reducible refine Below.alloc ?_ (by first | omega | (simp; done) | (simp; omega) | (simp at *; omega)) _) | (with_reducible refine Below.drew ?_) | (with_reducible refine Below.setCell ?_ (by first | omega | (simp; done) | (simp; omega) | (simp at *; omega)) _))))) hl1).mono ?_
            rintro e w1 ⟨rfl, rfl⟩
            rw [Q1.out]
            go_wp2_with fail
            refine (has_any _ evs xe _ (H2.out.mono (by (repeat (first | with_reducible exact Below.refl _ _ | with_reducible exact hB0 | (with_reducible refine belCall ?_ hB0 (by first | omega | (simp; done) | (simp; omega) | (simp at *; omega))) | (with_reducible refine Below.alloc ?_ (by first | omega | (simp; done) | (simp; omega) | (simp at *; omega)) _) | (with_reducible refine Below.drew ?_) | (with_reducible refine Below.setCell ?_ (by first | omega | (simp; done) | (simp; omega) | (simp at *; omega)) _))))) hl2).mono ?_
            rintro e w1 ⟨rfl, rfl⟩
            rw [Q3.out]
            go_wp2_with fail
            refine (has_any _ set xt _ (H1.out.mono (by (repeat (first | with_reducible exact Below.refl _ _ | with_reducible exact hB0 | (with_reducible refine belCall ?_ hB0 (by first | omega | (simp; done) | (simp; omega) | (simp at *; omega))) | (with_reducible refine Below.alloc ?_ (by first | omega | (simp; done) | (simp; omega) | (simp at *; omega)) _) | (with_reducible refine Below.drew ?_) | (with_reducible refine Below.setCell ?_ (by first | omega | (simp; done) | (simp; omega) | (simp at *; omega)) _))))) hl1).mono ?_
            rintro e w1 ⟨rfl, rfl⟩
            rw [Q2.out]
            go_wp2_with fail
            go_ret
            exact ⟨_, rfl, by rw [Q.out]; rfl, (by (repeat (first | with_reducible exact Below.refl _ _ | with_reducible exact hB0 | (with_reducible refine belCall ?_ hB0 (by first | omega | (simp; done) | (simp; omega) | (simp at *; omega))) | (with_reducible refine Below.alloc ?_ (by first | omega | (simp; done) | (simp; omega) | (simp at *; omega)) _) | (with_reducible refine Below.drew ?_) | (with_reducible refine Below.setCell ?_ (by first | omega | (simp; done) | (simp; omega) | (simp at *; omega)) _))))⟩
    · have Q : Hid (closedL es set evs = true) := by
        show _ = _
        rw [hfold.out, List.drop_of_length_le (by omega)]; rfl
      clear hfold
      go_wp2_with fail
      go_ret
      exact ⟨_, rfl, by rw [Q.out]; rfl, hB0⟩
end Go.Proofs.Ythchkddhibhenaa

/- Interior is the greatest part of a set that some events do not leave: plain laws. -/
namespace Go.Proofs.Ythchkddhibhenaa

/-- A state whose flag is set. -/
def Gd (fl : List Bool) (s : Int) : Prop := fl.getD s.toNat false = true
theorem Gd_set {fl : List Bool} {k : Nat} {s : Int} : Gd (fl.set k false) s → Gd fl s ∧ s.toNat ≠ k := by
  unfold Gd
  intro h
  by_cases e : k = s.toNat
  · subst e
    rw [List.getD_eq_getElem?_getD] at h
    by_cases hl : s.toNat < fl.length
    · rw [List.getElem?_set_self hl] at h; cases h
    · rw [List.getElem?_eq_none (by simp; omega)] at h; cases h
  · rw [List.getD_eq_getElem?_getD, List.getElem?_set_ne e, ← List.getD_eq_getElem?_getD] at h
    exact ⟨h, fun e2 => e e2.symm⟩
theorem Gd_set_ne {fl : List Bool} {k : Nat} {s : Int} (h : Gd fl s) (e : k ≠ s.toNat) : Gd (fl.set k false) s := by
  unfold Gd at h ⊢
  rw [List.getD_eq_getElem?_getD, List.getElem?_set_ne e, ← List.getD_eq_getElem?_getD]; exact h
/-- What is kept by all steps. -/
structure KeepI (R : Int → Prop) (set : List Int) (fl : List Bool) : Prop where
  sub : ∀ s, 0 ≤ s → Gd fl s → s ∈ set
  all : ∀ s, R s → Gd fl s
theorem iStep_keepI {R : Int → Prop} {set evs : List Int} {fl : List Bool} {b : Bool} {x : Ed} (h0 : 0 ≤ x.f) (hR0 : ∀ s, R s → 0 ≤ s) (hR : R x.f → hasB evs x.e = true → R x.t) (h : KeepI R set fl) : KeepI R set (iStep evs (fl, b) x).1 := by
  unfold iStep
  split
  · rename_i hc
    dsimp only at hc ⊢
    have hn : ¬ R x.f := fun hr => by
      have := h.all _ (hR hr hc.2.2)
      unfold Gd at this
      rw [hc.2.1] at this; cases this
    refine ⟨fun s hs hg => h.sub s hs (Gd_set hg).1, fun s hs => Gd_set_ne (h.all s hs) (fun e => hn ?_)⟩
    have := hR0 s hs
    have : x.f = s := by omega
    rw [this]; exact hs
  · exact h
theorem iFold_keepI {R : Int → Prop} {set evs : List Int} (hR0 : ∀ s, R s → 0 ≤ s) : ∀ (l : List Ed) {fl : List Bool} {b : Bool}, (∀ x ∈ l, 0 ≤ x.f ∧ (R x.f → hasB evs x.e = true → R x.t)) → KeepI R set fl → KeepI R set (l.foldl (iStep evs) (fl, b)).1
  | [], _, _, _, h => h
  | x :: l, fl, b, hl, h => by
    rw [List.foldl_cons]
    have h1 := iStep_keepI (b := b) (hl x (List.mem_cons_self ..)).1 hR0 (hl x (List.mem_cons_self ..)).2 h
    generalize hr : iStep evs (fl, b) x = r at h1 ⊢
    obtain ⟨r1, r2⟩ := r
    exact iFold_keepI hR0 l (fun y hy => hl y (List.mem_cons_of_mem _ hy)) h1
/-- A round without a change. -/
theorem iFold_same {evs : List Int} : ∀ (l : List Ed) {fl : List Bool} {b : Bool}, (l.foldl (iStep evs) (fl, b)).2 = false → (l.foldl (iStep evs) (fl, b)).1 = fl ∧ b = false ∧ ∀ x ∈ l, Gd fl x.f → hasB evs x.e = true → Gd fl x.t
  | [], _, _, h => ⟨rfl, h, fun x hx => by cases hx⟩
  | x :: l, fl, b, h => by
    rw [List.foldl_cons] at h ⊢
    by_cases hc : fl.getD x.f.toNat false = true ∧ fl.getD x.t.toNat false = false ∧ hasB evs x.e = true
    · have hs : iStep evs (fl, b) x = (fl.set x.f.toNat false, true) := by unfold iStep; rw [if_pos hc]
      rw [hs] at h
      have := (iFold_same l h).2.1
      cases this
    · have hs : iStep evs (fl, b) x = (fl, b) := by unfold iStep; rw [if_neg hc]
      rw [hs] at h ⊢
      obtain ⟨h1, h2, h3⟩ := iFold_same l h
      refine ⟨h1, h2, fun y hy => ?_⟩
      rcases List.mem_cons.1 hy with rfl | hy
      · intro hf he
        unfold Gd at hf ⊢
        cases ht : fl.getD y.t.toNat false with
        | true => rfl
        | false => exact absurd ⟨hf, ht, he⟩ hc
      · exact h3 y hy
/-- What the rounds leave. -/
theorem iLoop_says {R : Int → Prop} {es : List Ed} {set evs : List Int} (hR0 : ∀ s, R s → 0 ≤ s) (hes : ∀ x ∈ es, 0 ≤ x.f ∧ (R x.f → hasB evs x.e = true → R x.t)) : ∀ (f : Nat) {fl : List Bool}, fl.count true < f → KeepI R set fl →
    KeepI R set (iLoop es evs f fl) ∧ (iLoop es evs f fl).length = fl.length ∧ ∀ x ∈ es, Gd (iLoop es evs f fl) x.f → hasB evs x.e = true → Gd (iLoop es evs f fl) x.t
  | 0, _, h, _ => absurd h (by omega)
  | f + 1, fl, hf, h => by
    have h1 := iFold_keepI (b := false) hR0 es hes h
    have h2 := iFold_count evs es (fl, false)
    have h3 := iFold_length evs es (fl, false)
    rw [iLoop]
    split
    · rename_i hr
      have h4 := (h2.2 hr).resolve_left (by simp)
      obtain ⟨g1, g2, g3⟩ := iLoop_says hR0 hes f (by dsimp only at h4; omega) h1
      exact ⟨g1, g2.trans h3, g3⟩
    · rename_i hr
      obtain ⟨g1, _, g3⟩ := iFold_same es (by simpa using hr)
      refine ⟨h1, h3, ?_⟩
      rw [g1]; exact g3

section
variable {es : List Ed} {n : Nat} {set evs : List Int}
theorem stays_iff (hset : ∀ s ∈ set, 0 ≤ s ∧ s < (n : Int)) (s : Int) (hs : 0 ≤ s ∧ s < (n : Int)) : stays es n set evs s = true ↔ ∀ u t, Leads es (fPerm (allL n) evs) s u t → t ∈ set := by
  unfold stays
  rw [List.all_eq_true]
  constructor
  · intro h u t hl
    exact hasB_true.1 (h t (((fromL_says es [s] (allL n) evs).2 t).2 ⟨s, List.mem_singleton.2 rfl, allL_mem hs.1 hs.2, u, hl⟩))
  · intro h t ht
    obtain ⟨s0, h1, _, u, hu⟩ := ((fromL_says es [s] (allL n) evs).2 t).1 ht
    rw [List.mem_singleton.1 h1] at hu
    exact hasB_true.2 (h u t hu)
theorem listL_mem {fl : List Bool} {s : Int} (hs : 0 ≤ s) : s ∈ listL fl ↔ Gd fl s := by
  unfold listL listK Gd
  rw [List.mem_map]
  constructor
  · rintro ⟨i, hi, rfl⟩
    exact (List.mem_filter.1 hi).2
  · intro h
    refine ⟨s.toNat, List.mem_filter.2 ⟨List.mem_range.2 ?_, h⟩, by omega⟩
    by_cases hl : s.toNat < fl.length
    · exact hl
    · rw [List.getD_eq_getElem?_getD, List.getElem?_eq_none (by omega)] at h; cases h
theorem listL_inc (fl : List Bool) : Inc (listL fl) := range_pairwise _ _
theorem listL_in (fl : List Bool) : ∀ s ∈ listL fl, 0 ≤ s ∧ s < (fl.length : Int) := range_in _ _
/-- The program's Interior is the reference's, and closed. -/
theorem interior_says (hes : ∀ x ∈ es, 0 ≤ x.f ∧ x.f < (n : Int) ∧ 0 ≤ x.t ∧ x.t < (n : Int)) (hset : ∀ s ∈ set, 0 ≤ s ∧ s < (n : Int)) (hinc : Inc set) :
    interior n es set evs = rintL es n set evs ∧ closedL es (interior n es set evs) evs = true ∧ setErr n none (interior n es set evs) = 0 ∧ (interior n es set evs).length ≤ n := by
  have hR0 : ∀ s, (s ∈ set ∧ stays es n set evs s = true) → 0 ≤ s := fun s h => (hset s h.1).1
  have hstep : ∀ x ∈ es, 0 ≤ x.f ∧ ((x.f ∈ set ∧ stays es n set evs x.f = true) → hasB evs x.e = true → (x.t ∈ set ∧ stays es n set evs x.t = true)) := by
    intro x hx
    have h := hes x hx
    refine ⟨h.1, fun hr he => ?_⟩
    have h1 := (stays_iff (es := es) (evs := evs) hset x.f ⟨h.1, h.2.1⟩).1 hr.2
    have hp : fPerm (allL n) evs x = true := fPerm_true.2 ⟨allL_mem h.2.2.1 h.2.2.2, he⟩
    refine ⟨h1 [x.e] x.t ⟨x, hx, rfl, rfl, hp, rfl⟩, (stays_iff hset x.t ⟨h.2.2.1, h.2.2.2⟩).2 (fun u t hu => ?_)⟩
    exact h1 (x.e :: u) t ⟨x, hx, rfl, rfl, hp, hu⟩
  have hstart : KeepI (fun s => s ∈ set ∧ stays es n set evs s = true) set (flagL n set) := by
    refine ⟨fun s hs hg => ?_, fun s hs => ?_⟩
    · unfold Gd at hg
      by_cases hl : s < n
      · rw [flagL_getD hs hl] at hg; exact hasB_true.1 hg
      · rw [List.getD_eq_getElem?_getD, List.getElem?_eq_none (by rw [flagL_length]; omega)] at hg; cases hg
    · have := hset s hs.1
      unfold Gd
      rw [flagL_getD this.1 this.2]; exact hasB_true.2 hs.1
  obtain ⟨h1, h2, h3⟩ := iLoop_says (R := fun s => s ∈ set ∧ stays es n set evs s = true) hR0 hstep ((flagL n set).count true + 1) (by omega) hstart
  have hI : interior n es set evs = listL (iLoop es evs ((flagL n set).count true + 1) (flagL n set)) := rfl
  rw [hI]
  generalize iLoop es evs ((flagL n set).count true + 1) (flagL n set) = fl at h1 h2 h3
  rw [flagL_length] at h2
  have hin := listL_in fl
  rw [h2] at hin
  refine ⟨?_, ?_, setErr_ok (listL_inc fl) hin (fun q hq => by cases hq), ?_⟩
  · refine inc_ext (listL_inc fl) (hinc.filter _) (fun s => ?_)
    unfold rintL
    rw [List.mem_filter]
    constructor
    · intro hs
      have hs0 := hin s hs
      have hg := (listL_mem hs0.1).1 hs
      refine ⟨h1.sub s hs0.1 hg, (stays_iff hset s hs0).2 ?_⟩
      have key : ∀ (u : List Int) (a t : Int), 0 ≤ a → Gd fl a → Leads es (fPerm (allL n) evs) a u t → t ∈ set := by
        intro u
        induction u with
        | nil => intro a t ha hga h; rw [← show a = t from h]; exact h1.sub a ha hga
        | cons e u ih =>
          rintro a t ha hga ⟨x, hx, hf, _, hp, h⟩
          exact ih x.t t (hes x hx).2.2.1 (h3 x hx (by rw [hf]; exact hga) (fPerm_true.1 hp).2) h
      exact fun u t hl => key u s t hs0.1 hg hl
    · intro hs
      exact (listL_mem (hset s hs.1).1).2 (h1.all s hs)
  · unfold closedL
    rw [List.all_eq_true]
    intro x hx
    have h := hes x hx
    cases hf : hasB (listL fl) x.f with
    | false => simp
    | true =>
      cases he : hasB evs x.e with
      | false => simp
      | true =>
        have := h3 x hx ((listL_mem h.1).1 (hasB_true.1 hf)) he
        rw [hasB_true.2 ((listL_mem h.2.2.1).2 this)]
        rfl
  · have := listK_le fl fl.length
    unfold listL
    omega
end
end Go.Proofs.Ythchkddhibhenaa

/- The contract of the reference's Coreachable. -/
namespace Go.Proofs.Ythchkddhibhenaa
open Go.RowKit

/-- An edge the other way round. -/
def flipE (x : Ed) : Ed := ⟨x.t, x.e, x.f⟩
/-- What the reference's Coreachable returns. -/
def coreaR (es : List Ed) (ms : List Int) : List Int := fLoop (es.map flipE) (es.map Ed.f) (es.map Ed.e) (es.length + 1) ms

set_option maxRecDepth 100000 in
set_option maxHeartbeats 1600000 in
theorem rcorea_any (v : Value) (a : Aut) (w : World) (ha : RdA w v a) (hinc : Inc a.ms) (hl1 : a.ms.length + a.es.length ≤ 1000000) :
    Calls Try.prog 30 #[v] w (Ret w fun u w' => RdI w' u (coreaR a.es a.ms)) := by
  obtain ⟨va, vm, ve, rfl, ⟨aa, ca, rfl, hra⟩, ⟨am, cm, rfl, hrm⟩, ⟨ae, ce, rfl, hre⟩⟩ := ha
  obtain ⟨al, n, ms, es⟩ := a
  dsimp only at *
  obtain ⟨i0, hi, hz0, hz1, hz2⟩ := info_parts Try.info_int
  have HRM := Lib.hid (show RdI w (.slice am ms.length cm) ms from ⟨am, cm, rfl, hrm⟩)
  have HW : Hid (∀ x ∈ es, hasB (es.map Ed.f) x.f = true ∧ hasB (es.map Ed.e) x.e = true) := fun x hx => ⟨hasB_true.2 (List.mem_map_of_mem hx), hasB_true.2 (List.mem_map_of_mem hx)⟩
  have Hres : Hid (coreaR es ms = fLoop (es.map flipE) (es.map Ed.f) (es.map Ed.e) (es.length + 1) ms) := rfl
  generalize coreaR es ms = R at *
  generalize es.map Ed.f = W at *
  generalize es.map Ed.e = V at *
  have hfl : (es.map flipE).length = es.length := by simp
  generalize hfs : es.map flipE = fs at *
  have Hfs := Lib.hid hfs
  have Hinc0 := Lib.hid hinc
  clear hra hfs hinc
  have hsrc : ∀ ad, am = some ad → ∀ j u, (ints ms)[j]? = some u → w.cell? (ad.add j) = some u := by
    intro ad e j u hu
    subst e
    obtain ⟨b, off, sp⟩ := ad
    obtain rfl : sp = none := hrm.spot _ rfl
    exact own_src hrm j u hu
  have Hsrc := Lib.hid hsrc
  have Hnil := Lib.hid hrm.hnil
  have hcap := hrm.hcap
  clear hsrc hrm
  go_enter Try.func30, Try.ntmps30
  have hrow : ∀ W1 : World, W1.heap.size = w.heap.size + 1 → Row (W1.alloc (.cells #[] 3)) (w.heap.size + 1) (fun _ => 1) 1 3 1 (.slice (some ⟨w.heap.size + 1, 0, none⟩) 0 0) 0 [] := by
    intro W1 h1
    have h2 := Own.new W1 (w.heap.size + 1) (fun _ => 1) 1 #[] 3 (by omega) rfl
    rw [h1] at h2
    exact ⟨by simp, .inr ⟨_, 0, 0, _, rfl, h2, Nat.le_refl _, by simp [maxLen], by simp, by simp⟩⟩
  have Hrow := Lib.hid hrow
  clear hrow
  go_wp2_with (at_builtin; refine wpList_append_row rfl _ _ 28 rfl 3 i0 (.int .i64 0) 8 Try.underlying28 hi hz0 hz1 hz2 rfl rfl (Hrow.out _ (by simp)) am ms.length cm (ints ms) rfl (by simp) (fun e => ⟨by have := Hnil.out e; omega, Hnil.out e⟩) (fun ad e j u hu => keep0 ((bel_alloc w _).trans ((bel_alloc _ _).mono (by simp))) (Hsrc.out ad e j u hu)) (ints_oneCell .i64 _) (by unfold maxLen; omega) (by omega) (by simp) ?_; intro v1 w1 tag1 hr1 ht1; simp only [Nat.zero_add, List.nil_append] at hr1; have HO := Lib.hid hr1.rdI; have hB := belTurn (((Below.refl (w.heap.size + 1) (w.alloc (.cells #[.slice aa al.length ca, .int .i64 n, .slice am ms.length cm, .slice ae es.length ce] 31))).alloc (by simp) (.cells #[] 3))) ht1 (by simp); obtain ⟨a1, c1, rfl⟩ := hr1.val; clear hr1 ht1)
  go_wp2_with fail
  go_loopg [3, 4] (news fs ms + 1) (fun gk o nn wr => ∃ (P : List Int) (m : Int) (f : Nat), nn = .int .i64 m ∧ Below (w.heap.size + 1) (w.alloc (.cells #[.slice aa al.length ca, .int .i64 n, .slice am ms.length cm, .slice ae es.length ce] 31)) wr ∧ RdI wr o P ∧ Inc P ∧ P.length + news fs P ≤ ms.length + fs.length ∧
    Hid (R = if m = (P.length : Int) then P else fLoop fs W V f P) ∧ news fs P < f ∧ -1 ≤ m ∧ m ≤ 1000000 ∧ gk = if m = (P.length : Int) then 0 else news fs P + 1)
  case atStart =>
    have := news_le fs ms
    exact ⟨ms, -1, _, rfl, hB, HO.out, Hinc0.out, by omega, by show _ = _; rw [Hres.out, if_neg (by omega)], by omega, by omega, by omega, by rw [if_neg (by omega)]⟩
  case round =>
    clear hB HO
    obtain ⟨P, m, f, rfl, hB, hO, hinc, hPl, hR, hnf, hm0, hm1, hgk⟩ := hrel
    have hB0 : Below w.heap.size w wr := ((Below.refl _ _).alloc (Nat.le_refl _) _).trans (hB.mono (Nat.le_succ _))
    have HO := Lib.hid hO
    have Hinc := Lib.hid hinc
    have Hgk := Lib.hid hgk
    obtain ⟨ao', co', rfl, hO'⟩ := hO
    clear hO' hinc hgk
    by_cases hm : m = (P.length : Int)
    · have HR2 : Hid (R = P) := by show _ = _; rw [hR.out, if_pos hm]
      subst hm
      clear hR
      go_wp2_with fail
      go_ret
      exact ⟨_, rfl, by rw [HR2.out]; exact HO.out, hB0⟩
    · have q : (m != (P.length : Int)) = true := by simpa using hm
      have HR2 : Hid (R = fLoop fs W V f P) := by show _ = _; rw [hR.out, if_neg hm]
      have Hgk2 : Hid (gk = news fs P + 1) := by show _ = _; rw [Hgk.out, if_neg hm]
      clear hR Hgk hm
      have hfold : Hid (fs.foldl (fStep W V) P = fs.foldl (fStep W V) P) := rfl
      go_wp2_with fail
      go_loopw [3, 5] (fun o i wr' => ∃ (k : Nat) (Q : List Int), k ≤ es.length ∧ i = .int .i64 k ∧ Below (w.heap.size + 1) (w.alloc (.cells #[.slice aa al.length ca, .int .i64 n, .slice am ms.length cm, .slice ae es.length ce] 31)) wr' ∧ RdI wr' o Q ∧ Inc Q ∧ Q.length + news fs Q ≤ ms.length + fs.length ∧ Hid (fs.foldl (fStep W V) P = (fs.drop k).foldl (fStep W V) Q)) (fun _ i _ => es.length - (intOf i).toNat)
      case atStart => exact ⟨0, P, Nat.zero_le _, rfl, hB, HO.out, Hinc.out, hPl, rfl⟩
      case round =>
        clear hB hB0
        obtain ⟨j, Q, hj, rfl, hB, hO2, hinc2, hQl, hf⟩ := hrel
        have hB0 : Below w.heap.size w wr := ((Below.refl _ _).alloc (Nat.le_refl _) _).trans (hB.mono (Nat.le_succ _))
        have hsz := hB.size
        simp only [World.size_alloc] at hsz
        have c3 : wr.cell? ⟨w.heap.size, 3, none⟩ = some (.slice ae es.length ce) := (hB.cell (p := ⟨w.heap.size, 3, none⟩) (by simp)).trans (by simp [go_sem])
        have HQ := Lib.hid hO2
        have Hinc2 := Lib.hid hinc2
        obtain ⟨aq, cq, rfl, hO'⟩ := hO2
        clear hO' hinc2
        by_cases hltj : j < es.length
        · obtain ⟨b, off, rfl, d0, d1, d2⟩ := hre.at_edge j hltj
          have hfj : fs[j]'(by omega) = flipE es[j] := by
            have := Hfs.out
            subst this
            simp
          have Hd : Hid ((fs.drop j).foldl (fStep W V) Q = (fs.drop (j + 1)).foldl (fStep W V) (fStep W V Q (flipE es[j]))) := by
            show _ = _
            rw [List.drop_eq_getElem_cons (show j < fs.length by omega), List.foldl_cons, hfj]
          replace d0 := keep0 hB0 d0
          replace d1 := keep0 hB0 d1
          replace d2 := keep0 hB0 d2
          have Hok := Lib.hid (fStep_ok (es := fs) (within := W) (evs := V) Hinc2.out (flipE es[j]) (by rw [← hfj]; exact List.getElem_mem _))
          have Hsx : Hid (fStep W V Q (flipE es[j]) = if hasB Q es[j].t = true then addL Q es[j].f else Q) := by
            show _ = _
            have h1 := HW.out es[j] (List.getElem_mem hltj)
            unfold fStep flipE
            dsimp only
            rw [h1.1, h1.2]
            simp
          clear hfj
          generalize es[j] = x at *
          obtain ⟨xf, xe, xt⟩ := x
          dsimp only at *
          have HN : Hid (∀ Z, fStep W V Q (flipE ⟨xf, xe, xt⟩) = Z → fs.foldl (fStep W V) P = (fs.drop (j + 1)).foldl (fStep W V) Z) := by
            intro Z hZ
            rw [hf.out, Hd.out, hZ]
          clear hf Hd
          have hnq : Q.length ≤ 1000000 := by omega
          cases h1 : hasB Q xt with
          | false =>
            have E1 := Lib.hid h1
            have HZ := Lib.hid (HN.out Q (by rw [Hsx.out, h1]; rfl))
            clear h1
            go_wp2_with (go_at_call 50; refine (has_any _ Q xt _ HQ.out hnq).mono ?_; rintro e w1 ⟨rfl, rfl⟩; rw [E1.out])
            go_roundw
            case rel => exact ⟨j + 1, Q, by omega, by go_num, hB, HQ.out, Hinc2.out, hQl, HZ.out⟩
            case measure => simp [intOf]; omega
          | true =>
            have E1 := Lib.hid h1
            have HE : Hid (fStep W V Q (flipE ⟨xf, xe, xt⟩) = addL Q xf) := by
              show _ = _
              rw [Hsx.out, h1]; rfl
            have HZ := Lib.hid (HN.out (addL Q xf) HE.out)
            have hok := Hok.out
            rw [HE.out] at hok
            have hql2 : (addL Q xf).length + news fs (addL Q xf) ≤ ms.length + fs.length := Nat.le_trans hok.2.1 hQl
            clear h1 hok
            go_wp2_with fail
            refine (has_any _ Q xt _ HQ.out hnq).mono ?_
            rintro e w1 ⟨rfl, rfl⟩
            rw [E1.out]
            go_wp2_with fail
            refine (add_any _ Q xf _ HQ.out hnq).mono ?_
            rintro e w1 ⟨v1, rfl, hr1, hb1⟩
            have Hr1 := Lib.hid hr1
            obtain ⟨a1, c1, rfl, hr1'⟩ := hr1
            have hB1 : Below (w.heap.size + 1) (w.alloc (.cells #[.slice aa al.length ca, .int .i64 n, .slice am ms.length cm, .slice (some ⟨b, off, none⟩) es.length ce] 31)) w1 := hB.trans (hb1.mono (by omega))
            clear hr1' hb1
            go_wp2_with fail
            go_roundw
            case rel => exact ⟨j + 1, addL Q xf, by omega, by go_num, hB1, Hr1.out, addL_inc Hinc2.out _, hql2, HZ.out⟩
            case measure => simp [intOf]; omega
        · have HF : Hid (fs.foldl (fStep W V) P = Q) := by
            show _ = _
            rw [hf.out, show j = fs.length by omega, List.drop_length]; rfl
          have Hok := Lib.hid (fFold_ok (es := fs) (within := W) (evs := V) fs Hinc.out (fun _ h => h))
          clear hf
          go_wp2_with fail
          go_roundg (if (P.length : Int) = (Q.length : Int) then 0 else news fs Q + 1)
          case measure =>
            rw [Hgk2.out]
            have h5 := Hok.out
            rw [HF.out] at h5
            split <;> omega
          case rel =>
            have h5 := Hok.out
            rw [HF.out] at h5
            obtain ⟨f', rfl⟩ : ∃ f', f = f' + 1 := ⟨f - 1, by omega⟩
            refine ⟨Q, P.length, if (P.length : Int) = (Q.length : Int) then news fs Q + 1 else f', rfl, hB, HQ.out, Hinc2.out, hQl, ?_, ?_, by omega, by omega, rfl⟩
            · show _ = _
              rw [HR2.out, fLoop, HF.out]
              by_cases e : P.length = Q.length
              · rw [if_pos e.symm, if_pos (by omega)]
              · rw [if_neg (fun h => e h.symm), if_neg (by omega), if_neg (by omega)]
            · split <;> omega
end Go.Proofs.Ythchkddhibhenaa

/- The contract of the reference's Reachable. -/
namespace Go.Proofs.Ythchkddhibhenaa
open Go Go.RowKit

/-- What holds of the slots of the call of From. -/
def RR (A av : Value) (n B : Nat) (F : List Int) : Nat → Value → World → Prop
  | 0, v, _ => v = A
  | 1, v, W => ∃ b, v = .slice (some ⟨b, 0, none⟩) 1 1 ∧ RdI W v [0]
  | 2, v, _ => v = .pointer (some ⟨B, 1, none⟩)
  | 3, v, _ => v = .int .i64 n
  | 4, v, W => ∃ a c, v = .slice a (allL n).length c ∧ RdI W v (allL n)
  | 5, v, _ => v = .pointer (some ⟨B, 0, none⟩)
  | 6, v, _ => v = av
  | 7, v, W => ∃ a c, v = .slice a F.length c ∧ RdI W v F
  | 8, v, W => ∃ a c, v = .slice a F.length c ∧ RdI W v F
  | _, _, _ => False
theorem RR_mono {A av : Value} {n B : Nat} {F : List Int} : ∀ j v W W', Below W.heap.size W W' → RR A av n B F j v W → RR A av n B F j v W'
  | 0, _, _, _, _, h => h
  | 1, _, _, _, hb, ⟨b, h1, h2⟩ => ⟨b, h1, h2.mono hb⟩
  | 2, _, _, _, _, h => h
  | 3, _, _, _, _, h => h
  | 4, _, _, _, hb, ⟨a, c, h1, h2⟩ => ⟨a, c, h1, h2.mono hb⟩
  | 5, _, _, _, _, h => h
  | 6, _, _, _, _, h => h
  | 7, _, _, _, hb, ⟨a, c, h1, h2⟩ => ⟨a, c, h1, h2.mono hb⟩
  | 8, _, _, _, hb, ⟨a, c, h1, h2⟩ => ⟨a, c, h1, h2.mono hb⟩
  | _ + 9, _, _, _, _, h => h.elim
theorem list9 {us : List Value} (h : us.length = 9) : ∃ u0 u1 u2 u3 u4 u5 u6 u7 u8, us = [u0, u1, u2, u3, u4, u5, u6, u7, u8] := by
  match us, h with
  | [u0, u1, u2, u3, u4, u5, u6, u7, u8], _ => exact ⟨_, _, _, _, _, _, _, _, _, rfl⟩

/-- What the reference's Reachable returns. -/
def rreachL (es : List Ed) (n : Nat) (al : List Int) : List Int := if n = 0 then [] else fromL es [0] (allL n) al

set_option maxRecDepth 100000 in
set_option maxHeartbeats 2400000 in
theorem rreach_any (v : Value) (al ms : List Int) (n : Nat) (es : List Ed) (w : World) (ha : RdA w v ⟨al, n, ms, es⟩) (hs : (⟨al, n, ms, es⟩ : Aut).small) (hes : es.length ≤ 100000) (hn : n ≤ 100000) :
    Calls Try.prog 29 #[v] w (Ret w fun u w' => RdI w' u (rreachL es n al)) := by
  have Ha := Lib.hid ha
  obtain ⟨va, vm, ve, rfl, ⟨aa, ca, rfl, hra⟩, ⟨am, cm, rfl, hrm⟩, ⟨ae, ce, rfl, hre⟩⟩ := ha
  dsimp only at *
  have Hs := Lib.hid hs
  have hl1 : al.length ≤ 1000000 := hs.al
  clear hs hrm hre
  have HR : Hid (rreachL es n al = if n = 0 then [] else fromL es [0] (allL n) al) := rfl
  generalize rreachL es n al = R at *
  generalize hF : fromL es [0] (allL n) al = F at *
  have HF := Lib.hid hF
  clear hF
  go_enter Try.func29, Try.ntmps29
  by_cases h0 : n = 0
  · subst h0
    go_wp2_with fail
    go_ret
    exact ⟨_, rfl, by rw [HR.out, if_pos (by trivial)]; exact RdI.nil0 _, (Below.refl _ _).alloc (Nat.le_refl _) _⟩
  · have hn0 : ((n : Int) == 0) = false := by simp; omega
    have HR2 : Hid (R = F) := by show _ = _; rw [HR.out, if_neg h0]
    clear h0 HR
    go_wp2_with fail
    generalize hwr : w.alloc (.cells #[.slice aa al.length ca, .int .i64 n, .slice am ms.length cm, .slice ae es.length ce] 31) = wr
    have hB0 : Below w.heap.size w wr := by rw [← hwr]; exact (Below.refl _ _).alloc (Nat.le_refl _) _
    have hzw : w.heap.size < wr.heap.size := by rw [← hwr]; simp
    have z0 : wr.cell? ⟨w.heap.size, 0, none⟩ = some (.slice aa al.length ca) := by rw [← hwr]; simp [go_sem]
    have z1 : wr.cell? ⟨w.heap.size, 1, none⟩ = some (.int .i64 n) := by rw [← hwr]; simp [go_sem]
    have z2 : wr.cell? ⟨w.heap.size, 2, none⟩ = some (.slice am ms.length cm) := by rw [← hwr]; simp [go_sem]
    have z3 : wr.cell? ⟨w.heap.size, 3, none⟩ = some (.slice ae es.length ce) := by rw [← hwr]; simp [go_sem]
    have hW1d := hB0.drew
    clear hwr
    refine wp_region_mono (RR (.agg #[.slice aa al.length ca, .int .i64 n, .slice am ms.length cm, .slice ae es.length ce]) (.slice aa al.length ca) n w.heap.size F) [6, 7, 8, 9, 10, 11, 12, 13, 2] RR_mono rfl (by kernel_rfl) (by kernel_rfl) ?_ ?_
    · skip
      refine Steps.cons rfl ?_ ?_
      · intro l us W hl hI hd hn K' hK
        have hHas := hI.has
        have hbel := hI.bel
        have hlen := hI.len
        obtain ⟨u0, u1, u2, u3, u4, u5, u6, u7, u8, rfl⟩ := list9 hlen
        have HK : Hid (∀ v W', Below W.heap.size W W' → RR (.agg #[.slice aa al.length ca, .int .i64 n, .slice am ms.length cm, .slice ae es.length ce]) (.slice aa al.length ca) n w.heap.size F 0 v W' → ∀ a', puts _ _ [v, u1, u2, u3, u4, u5, u6, u7, u8] = a' → K' a' W') := fun v W' hb hv a' e => hK _ a' W' e (hI.step RR_mono hl hb hv)
        have hWW := hW1d.trans (hbel.mono hW1d.size)
        have y0 := keep hbel z0 hzw
        have y1 := keep hbel z1 hzw
        have y2 := keep hbel z2 hzw
        have y3 := keep hbel z3 hzw
        clear hl hI hd hn hK hHas hbel hlen
        refine StepG.mk ?_
        simp only [puts, Act.put]
        go_simp
        exact HK.out (.agg #[.slice aa al.length ca, .int .i64 n, .slice am ms.length cm, .slice ae es.length ce]) _ (Below.refl _ _) rfl _ (by simp [puts, Act.put])
      refine Steps.cons rfl ?_ ?_
      · intro l us W hl hI hd hn K' hK
        have hHas := hI.has
        have hbel := hI.bel
        have hlen := hI.len
        obtain ⟨u0, u1, u2, u3, u4, u5, u6, u7, u8, rfl⟩ := list9 hlen
        have HK : Hid (∀ v W', Below W.heap.size W W' → RR (.agg #[.slice aa al.length ca, .int .i64 n, .slice am ms.length cm, .slice ae es.length ce]) (.slice aa al.length ca) n w.heap.size F 1 v W' → ∀ a', puts _ _ [u0, v, u2, u3, u4, u5, u6, u7, u8] = a' → K' a' W') := fun v W' hb hv a' e => hK _ a' W' e (hI.step RR_mono hl hb hv)
        have hWW := hW1d.trans (hbel.mono hW1d.size)
        clear hl hI hd hn hK hHas hbel hlen
        refine StepG.mk ?_
        simp only [puts, Act.put]
        go_simp
        exact HK.out (.slice (some ⟨W.heap.size, 0, none⟩) 1 1) _ (bel_alloc _ _) ⟨W.heap.size, rfl, ⟨_, 1, rfl, RdS.lit (cs := #[.int .i64 0]) (heap_at rfl) rfl (by show 1 ≤ 1000000; decide)⟩⟩ _ (by simp [puts, Act.put])
      refine Steps.cons rfl ?_ ?_
      · intro l us W hl hI hd hn K' hK
        have hHas := hI.has
        have hbel := hI.bel
        have hlen := hI.len
        obtain ⟨u0, u1, u2, u3, u4, u5, u6, u7, u8, rfl⟩ := list9 hlen
        have HK : Hid (∀ v W', Below W.heap.size W W' → RR (.agg #[.slice aa al.length ca, .int .i64 n, .slice am ms.length cm, .slice ae es.length ce]) (.slice aa al.length ca) n w.heap.size F 2 v W' → ∀ a', puts _ _ [u0, u1, v, u3, u4, u5, u6, u7, u8] = a' → K' a' W') := fun v W' hb hv a' e => hK _ a' W' e (hI.step RR_mono hl hb hv)
        have hWW := hW1d.trans (hbel.mono hW1d.size)
        clear hl hI hd hn hK hHas hbel hlen
        refine StepG.mk ?_
        simp only [puts, Act.put]
        go_simp
        exact HK.out (.pointer (some ⟨w.heap.size, 1, none⟩)) _ (Below.refl _ _) rfl _ (by simp [puts, Act.put])
      refine Steps.cons rfl ?_ ?_
      · intro l us W hl hI hd hn K' hK
        have hHas := hI.has
        have hbel := hI.bel
        have hlen := hI.len
        obtain ⟨u0, u1, u2, u3, u4, u5, u6, u7, u8, rfl⟩ := list9 hlen
        have HK : Hid (∀ v W', Below W.heap.size W W' → RR (.agg #[.slice aa al.length ca, .int .i64 n, .slice am ms.length cm, .slice ae es.length ce]) (.slice aa al.length ca) n w.heap.size F 3 v W' → ∀ a', puts _ _ [u0, u1, u2, v, u4, u5, u6, u7, u8] = a' → K' a' W') := fun v W' hb hv a' e => hK _ a' W' e (hI.step RR_mono hl hb hv)
        have hWW := hW1d.trans (hbel.mono hW1d.size)
        have d : l.getD 2 false = true := by
          simp [Region.binds] at hd
          simp [hd]
        have e2 : u2 = _ := hHas 2 (by decide) d
        subst e2
        have y1 := keep hbel z1 hzw
        clear d
        clear hl hI hd hn hK hHas hbel hlen
        refine StepG.mk ?_
        simp only [puts, Act.put]
        go_simp
        exact HK.out (.int .i64 n) _ (Below.refl _ _) rfl _ (by simp [puts, Act.put])
      refine Steps.cons rfl ?_ ?_
      · intro l us W hl hI hd hn K' hK
        have hHas := hI.has
        have hbel := hI.bel
        have hlen := hI.len
        obtain ⟨u0, u1, u2, u3, u4, u5, u6, u7, u8, rfl⟩ := list9 hlen
        have HK : Hid (∀ v W', Below W.heap.size W W' → RR (.agg #[.slice aa al.length ca, .int .i64 n, .slice am ms.length cm, .slice ae es.length ce]) (.slice aa al.length ca) n w.heap.size F 4 v W' → ∀ a', puts _ _ [u0, u1, u2, u3, v, u5, u6, u7, u8] = a' → K' a' W') := fun v W' hb hv a' e => hK _ a' W' e (hI.step RR_mono hl hb hv)
        have hWW := hW1d.trans (hbel.mono hW1d.size)
        have d : l.getD 3 false = true := by
          simp [Region.binds] at hd
          simp [hd]
        have e3 : u3 = _ := hHas 3 (by decide) d
        subst e3
        clear d
        clear hl hI hd hn hK hHas hbel hlen
        refine StepG.mk ?_
        simp only [puts, Act.put]
        go_simp
        refine (all_any n _ (by omega)).mono ?_
        rintro e w5 ⟨v5, rfl, hown5, hb5⟩
        have HA5 := RdI.of_own hown5
        obtain ⟨a5, c5, rfl, hr5⟩ := RdS.of_own hown5
        go_simp
        exact HK.out (.slice a5 (allL n).length c5) _ hb5 ⟨a5, c5, rfl, HA5⟩ _ (by simp [puts, Act.put])
      refine Steps.cons rfl ?_ ?_
      · intro l us W hl hI hd hn K' hK
        have hHas := hI.has
        have hbel := hI.bel
        have hlen := hI.len
        obtain ⟨u0, u1, u2, u3, u4, u5, u6, u7, u8, rfl⟩ := list9 hlen
        have HK : Hid (∀ v W', Below W.heap.size W W' → RR (.agg #[.slice aa al.length ca, .int .i64 n, .slice am ms.length cm, .slice ae es.length ce]) (.slice aa al.length ca) n w.heap.size F 5 v W' → ∀ a', puts _ _ [u0, u1, u2, u3, u4, v, u6, u7, u8] = a' → K' a' W') := fun v W' hb hv a' e => hK _ a' W' e (hI.step RR_mono hl hb hv)
        have hWW := hW1d.trans (hbel.mono hW1d.size)
        clear hl hI hd hn hK hHas hbel hlen
        refine StepG.mk ?_
        simp only [puts, Act.put]
        go_simp
        exact HK.out (.pointer (some ⟨w.heap.size, 0, none⟩)) _ (Below.refl _ _) rfl _ (by simp [puts, Act.put])
      refine Steps.cons rfl ?_ ?_
      · intro l us W hl hI hd hn K' hK
        have hHas := hI.has
        have hbel := hI.bel
        have hlen := hI.len
        obtain ⟨u0, u1, u2, u3, u4, u5, u6, u7, u8, rfl⟩ := list9 hlen
        have HK : Hid (∀ v W', Below W.heap.size W W' → RR (.agg #[.slice aa al.length ca, .int .i64 n, .slice am ms.length cm, .slice ae es.length ce]) (.slice aa al.length ca) n w.heap.size F 6 v W' → ∀ a', puts _ _ [u0, u1, u2, u3, u4, u5, v, u7, u8] = a' → K' a' W') := fun v W' hb hv a' e => hK _ a' W' e (hI.step RR_mono hl hb hv)
        have hWW := hW1d.trans (hbel.mono hW1d.size)
        have d : l.getD 5 false = true := by
          simp [Region.binds] at hd
          simp [hd]
        have e5 : u5 = _ := hHas 5 (by decide) d
        subst e5
        have y0 := keep hbel z0 hzw
        clear d
        clear hl hI hd hn hK hHas hbel hlen
        refine StepG.mk ?_
        simp only [puts, Act.put]
        go_simp
        exact HK.out (.slice aa al.length ca) _ (Below.refl _ _) rfl _ (by simp [puts, Act.put])
      refine Steps.cons rfl ?_ ?_
      · intro l us W hl hI hd hn K' hK
        have hHas := hI.has
        have hbel := hI.bel
        have hlen := hI.len
        obtain ⟨u0, u1, u2, u3, u4, u5, u6, u7, u8, rfl⟩ := list9 hlen
        have HK : Hid (∀ v W', Below W.heap.size W W' → RR (.agg #[.slice aa al.length ca, .int .i64 n, .slice am ms.length cm, .slice ae es.length ce]) (.slice aa al.length ca) n w.heap.size F 7 v W' → ∀ a', puts _ _ [u0, u1, u2, u3, u4, u5, u6, v, u8] = a' → K' a' W') := fun v W' hb hv a' e => hK _ a' W' e (hI.step RR_mono hl hb hv)
        have hWW := hW1d.trans (hbel.mono hW1d.size)
        have d : l.getD 0 false = true ∧ l.getD 1 false = true ∧ l.getD 4 false = true ∧ l.getD 6 false = true := by
          simp [Region.binds] at hd
          exact ⟨by simp [hd], by simp [hd], by simp [hd], by simp [hd]⟩
        have e0 : u0 = _ := hHas 0 (by decide) d.1
        have e6 : u6 = _ := hHas 6 (by decide) d.2.2.2
        subst e0
        subst e6
        obtain ⟨b5, e5, hr5⟩ : ∃ b, u1 = .slice (some ⟨b, 0, none⟩) 1 1 ∧ RdI W u1 [0] := hHas 1 (by decide) d.2.1
        obtain ⟨a8, c8, e8, hr8⟩ : ∃ a c, u4 = .slice a (allL n).length c ∧ RdI W u4 (allL n) := hHas 4 (by decide) d.2.2.1
        subst e5
        subst e8
        have Hr5 := Lib.hid hr5
        have Hr8 := Lib.hid hr8
        clear d hr5 hr8
        clear hl hI hd hn hK hHas hbel hlen
        refine StepG.mk ?_
        simp only [puts, Act.put]
        go_simp
        refine (from_any _ _ _ _ ⟨al, n, ms, es⟩ [0] (allL n) al W (Ha.out.mono hWW) Hs.out Hr5.out Hr8.out (RdI.mono ⟨aa, ca, rfl, hra⟩ hWW) (by simp; omega) (by rw [allL_length]; omega) hl1).mono ?_
        rintro e w6 ⟨v6, rfl, hr6, hb6⟩
        rw [show fromL (⟨al, n, ms, es⟩ : Aut).es [0] (allL n) al = F from HF.out] at hr6
        have Hr6 := Lib.hid hr6
        obtain ⟨a6, c6, rfl, hr6'⟩ := hr6
        clear hr6'
        go_simp
        exact HK.out (.slice a6 F.length c6) _ hb6 ⟨a6, c6, rfl, Hr6.out⟩ _ (by simp [puts, Act.put])
      refine Steps.cons rfl ?_ ?_
      · intro l us W hl hI hd hn K' hK
        have hHas := hI.has
        have hbel := hI.bel
        have hlen := hI.len
        obtain ⟨u0, u1, u2, u3, u4, u5, u6, u7, u8, rfl⟩ := list9 hlen
        have HK : Hid (∀ v W', Below W.heap.size W W' → RR (.agg #[.slice aa al.length ca, .int .i64 n, .slice am ms.length cm, .slice ae es.length ce]) (.slice aa al.length ca) n w.heap.size F 8 v W' → ∀ a', puts _ _ [u0, u1, u2, u3, u4, u5, u6, u7, v] = a' → K' a' W') := fun v W' hb hv a' e => hK _ a' W' e (hI.step RR_mono hl hb hv)
        have hWW := hW1d.trans (hbel.mono hW1d.size)
        have d : l.getD 7 false = true := by
          simp [Region.binds] at hd
          simp [hd]
        obtain ⟨a10, c10, e10, hr10⟩ : ∃ a c, u7 = .slice a F.length c ∧ RdI W u7 F := hHas 7 (by decide) d
        subst e10
        have Hr10 := Lib.hid hr10
        clear d hr10
        clear hl hI hd hn hK hHas hbel hlen
        refine StepG.mk ?_
        simp only [puts, Act.put]
        go_simp
        exact HK.out (.slice a10 F.length c10) _ (Below.refl _ _) ⟨a10, c10, rfl, Hr10.out⟩ _ (by simp [puts, Act.put])
      exact Steps.nil (Nat.le_refl _)
    · intro us W hlen hbel hall
      obtain ⟨u0, u1, u2, u3, u4, u5, u6, u7, u8, rfl⟩ := list9 hlen
      obtain ⟨a11, c11, e11, hr11⟩ : ∃ a c, u8 = .slice a F.length c ∧ RdI W u8 F := hall 8 (by decide)
      subst e11
      have Hr11 := Lib.hid hr11
      have hWW := hW1d.trans (hbel.mono hW1d.size)
      clear hall hlen hr11
      simp only [puts, Act.put, List.setIfInBounds_toArray, List.set_cons_succ, List.set_cons_zero]
      go_wp2_with fail
      go_ret
      exact ⟨_, rfl, by rw [HR2.out]; exact Hr11.out, hWW⟩
end Go.Proofs.Ythchkddhibhenaa

/- What forward, Reachable and Coreachable find: plain laws. -/
namespace Go.Proofs.Ythchkddhibhenaa

theorem Gd_true {fl : List Bool} {k : Nat} {s : Int} (h0 : 0 ≤ s) (hk : k < fl.length) : Gd (fl.set k true) s ↔ Gd fl s ∨ s.toNat = k := by
  unfold Gd
  by_cases e : k = s.toNat
  · subst e
    rw [List.getD_eq_getElem?_getD, List.getElem?_set_self hk]
    exact ⟨fun _ => .inr rfl, fun _ => rfl⟩
  · rw [List.getD_eq_getElem?_getD, List.getElem?_set_ne e, ← List.getD_eq_getElem?_getD]
    exact ⟨.inl, fun h => h.elim id (fun h => absurd h.symm e)⟩
theorem Leads.congr {es : List Ed} {p p' : Ed → Bool} (h : ∀ x ∈ es, p x = true → p' x = true) : ∀ {u : List Int} {s t : Int}, Leads es p s u t → Leads es p' s u t
  | [], _, _, hl => hl
  | _ :: _, _, _, ⟨x, hx, h1, h2, h3, h4⟩ => ⟨x, hx, h1, h2, h x hx h3, h4.congr h⟩

section
variable {es : List Ed} {perm : Ed → Bool} {start : List Int} {n : Nat}
def Led (es : List Ed) (perm : Ed → Bool) (start : List Int) (s : Int) : Prop := ∃ s0 ∈ start, ∃ u, Leads es perm s0 u s
/-- What holds while forward searches; the edges of s in l have not been followed yet. -/
structure FW (es : List Ed) (perm : Ed → Bool) (start : List Int) (n : Nat) (s : Int) (l : List Ed) (seen : List Bool) (q : List Int) : Prop where
  len : seen.length = n
  led : ∀ t, 0 ≤ t → t < (n : Int) → Gd seen t → Led es perm start t
  que : ∀ t ∈ q, 0 ≤ t ∧ t < (n : Int) ∧ Gd seen t
  cls : ∀ x ∈ es, Gd seen x.f → x.f ∉ q → (x.f = s ∧ x ∈ l) ∨ (perm x = true → Gd seen x.t)
  sta : ∀ t ∈ start, Gd seen t
theorem FW.fold (hes : ∀ x ∈ es, 0 ≤ x.f ∧ x.f < (n : Int) ∧ 0 ≤ x.t ∧ x.t < (n : Int)) {s : Int} (hst : ∀ t ∈ start, 0 ≤ t) (hs : 0 ≤ s) (hsn : s < (n : Int)) : ∀ (l : List Ed) {seen : List Bool} {q : List Int}, FW es perm start n s l seen q → Gd seen s → (∀ x ∈ l, x ∈ es ∧ x.f = s) →
    FW es perm start n s [] (l.foldl (fwStep perm) (seen, q)).1 (l.foldl (fwStep perm) (seen, q)).2
  | [], _, _, h, _, _ => h
  | x :: l, seen, q, h, hg, hl => by
    rw [List.foldl_cons]
    obtain ⟨hx, hxf⟩ := hl x (List.mem_cons_self ..)
    have hxr := hes x hx
    have hlt : x.t.toNat < seen.length := by rw [h.len]; omega
    by_cases hc : seen[x.t.toNat]?.getD true = false ∧ perm x = true
    · have hst2 : fwStep perm (seen, q) x = (seen.set x.t.toNat true, q ++ [x.t]) := by unfold fwStep; rw [if_pos hc]
      rw [hst2]
      have hG : ∀ t, 0 ≤ t → (Gd (seen.set x.t.toNat true) t ↔ Gd seen t ∨ t.toNat = x.t.toNat) := fun t ht => Gd_true ht hlt
      refine FW.fold hes hst hs hsn l ⟨by rw [List.length_set]; exact h.len, fun t h0 h1 hgt => ?_, fun t ht => ?_, fun y hy hgy hnq => ?_, fun t ht => (hG t (hst t ht)).2 (.inl (h.sta t ht))⟩ ((hG s hs).2 (.inl hg)) (fun y hy => hl y (List.mem_cons_of_mem _ hy))
      · rcases (hG t h0).1 hgt with h2 | h2
        · exact h.led t h0 h1 h2
        · have e : t = x.t := by omega
          obtain ⟨s0, h3, u, h4⟩ := h.led s hs hsn hg
          exact ⟨s0, h3, u ++ [x.e], by rw [e]; exact h4.snoc hx hxf hc.2⟩
      · rcases List.mem_append.1 ht with h2 | h2
        · have := h.que t h2
          exact ⟨this.1, this.2.1, (hG t this.1).2 (.inl this.2.2)⟩
        · rw [List.mem_singleton.1 h2]
          exact ⟨hxr.2.2.1, hxr.2.2.2, (hG x.t hxr.2.2.1).2 (.inr rfl)⟩
      · have hyr := hes y hy
        have hnq2 : y.f ∉ q := fun hh => hnq (List.mem_append_left _ hh)
        have hne : y.f ≠ x.t := fun e => hnq (by rw [e]; simp)
        have hgy2 : Gd seen y.f := by
          rcases (hG y.f hyr.1).1 hgy with h2 | h2
          · exact h2
          · exact absurd (by omega) hne
        rcases h.cls y hy hgy2 hnq2 with ⟨h2, h3⟩ | h2
        · rcases List.mem_cons.1 h3 with rfl | h3
          · exact .inr (fun _ => (hG _ hxr.2.2.1).2 (.inr rfl))
          · exact .inl ⟨h2, h3⟩
        · exact .inr (fun hp => (hG y.t hyr.2.2.1).2 (.inl (h2 hp)))
    · have hst2 : fwStep perm (seen, q) x = (seen, q) := by unfold fwStep; rw [if_neg hc]
      rw [hst2]
      refine FW.fold hes hst hs hsn l ⟨h.len, h.led, h.que, fun y hy hgy hnq => ?_, h.sta⟩ hg (fun y hy => hl y (List.mem_cons_of_mem _ hy))
      rcases h.cls y hy hgy hnq with ⟨h2, h3⟩ | h2
      · rcases List.mem_cons.1 h3 with rfl | h3
        · refine .inr (fun hp => ?_)
          unfold Gd
          rw [List.getD_eq_getElem?_getD]
          rw [List.getElem?_eq_getElem hlt] at hc ⊢
          simp only [Option.getD_some] at hc ⊢
          cases hb : seen[y.t.toNat] with
          | true => rfl
          | false => exact absurd ⟨hb, hp⟩ hc
        · exact .inl ⟨h2, h3⟩
      · exact .inr h2
theorem FW.fwd (hso : Sorted es) (hes : ∀ x ∈ es, 0 ≤ x.f ∧ x.f < (n : Int) ∧ 0 ≤ x.t ∧ x.t < (n : Int)) (hst : ∀ t ∈ start, 0 ≤ t) : ∀ (f : Nat) {seen : List Bool} {q : List Int} {s0 : Int}, FW es perm start n s0 [] seen q → seen.count false + q.length < f →
    FW es perm start n s0 [] (Go.Proofs.Ythchkddhibhenaa.fwd (subOf es) perm f seen q) []
  | 0, _, _, _, _, hf => absurd hf (by omega)
  | f + 1, seen, [], s0, h, _ => h
  | f + 1, seen, s :: q, s0, h, hf => by
    rw [Go.Proofs.Ythchkddhibhenaa.fwd]
    obtain ⟨h0, h1, hg⟩ := h.que s (List.mem_cons_self ..)
    have hmem : ∀ x ∈ subOf es s, x ∈ es ∧ x.f = s := by
      intro x hx
      rw [subOf_eq hso] at hx
      have := List.mem_filter.1 hx
      exact ⟨this.1, by simpa using this.2⟩
    have h2 : FW es perm start n s (subOf es s) seen q := by
      refine ⟨h.len, h.led, fun t ht => h.que t (List.mem_cons_of_mem _ ht), fun x hx hgx hnq => ?_, h.sta⟩
      by_cases e : x.f = s
      · exact .inl ⟨e, by rw [subOf_eq hso]; exact List.mem_filter.2 ⟨hx, by simpa using e⟩⟩
      · rcases h.cls x hx hgx (fun hh => by rcases List.mem_cons.1 hh with h3 | h3; exact e h3; exact hnq h3) with ⟨_, h3⟩ | h3
        · cases h3
        · exact .inr h3
    have h3 := h2.fold hes hst h0 h1 (subOf es s) hg hmem
    have hok : FOk n (seen.count false + q.length) seen q := ⟨h.len, fun t ht => ⟨(h.que t (List.mem_cons_of_mem _ ht)).1, (h.que t (List.mem_cons_of_mem _ ht)).2.1⟩, Nat.le_refl _⟩
    have h4 := FOk.fold (perm := perm) (subOf es s) hok (fun x hx => (hes x (hmem x hx).1).2.2)
    have h5 := h4.sum
    simp only [List.length_cons] at hf
    have h6 : FW es perm start n s0 [] ((subOf es s).foldl (fwStep perm) (seen, q)).1 ((subOf es s).foldl (fwStep perm) (seen, q)).2 :=
      ⟨h3.len, h3.led, h3.que, fun x hx a b => by
        rcases h3.cls x hx a b with ⟨_, h7⟩ | h7
        · cases h7
        · exact .inr h7, h3.sta⟩
    exact FW.fwd hso hes hst f h6 (by omega)
/-- The flags that forward returns: what is led to. -/
theorem forward_says (hso : Sorted es) (hes : ∀ x ∈ es, 0 ≤ x.f ∧ x.f < (n : Int) ∧ 0 ≤ x.t ∧ x.t < (n : Int)) (hst : ∀ t ∈ start, 0 ≤ t ∧ t < (n : Int)) :
    (forwardF n es perm start).length = n ∧ ∀ t, 0 ≤ t → t < (n : Int) → (Gd (forwardF n es perm start) t ↔ Led es perm start t) := by
  have hflag : ∀ t, 0 ≤ t → t < (n : Int) → (Gd (flagL n start) t ↔ t ∈ start) := fun t h0 h1 => by
    unfold Gd; rw [flagL_getD h0 h1, hasB_true]
  have h0 : FW es perm start n (-1) [] (flagL n start) start := by
    refine ⟨flagL_length n start, fun t a b hg => ⟨t, (hflag t a b).1 hg, [], rfl⟩, fun t ht => ⟨(hst t ht).1, (hst t ht).2, (hflag t (hst t ht).1 (hst t ht).2).2 ht⟩, fun x hx hg hnq => ?_, fun t ht => (hflag t (hst t ht).1 (hst t ht).2).2 ht⟩
    have h := hes x hx
    exact absurd ((hflag x.f h.1 h.2.1).1 hg) hnq
  have h := h0.fwd hso hes (fun t ht => (hst t ht).1) ((flagL n start).count false + start.length + 1) (by omega)
  have hE : Go.Proofs.Ythchkddhibhenaa.fwd (subOf es) perm ((flagL n start).count false + start.length + 1) (flagL n start) start = forwardF n es perm start := rfl
  rw [hE] at h
  refine ⟨h.len, fun t a b => ⟨h.led t a b, ?_⟩⟩
  rintro ⟨s0, hs0, u, hu⟩
  have key : ∀ (u : List Int) (c d : Int), 0 ≤ c → Gd (forwardF n es perm start) c → Leads es perm c u d → Gd (forwardF n es perm start) d := by
    intro u
    induction u with
    | nil => intro c d _ hg hl; rw [← show c = d from hl]; exact hg
    | cons e u ih =>
      rintro c d hc hg ⟨x, hx, hf, _, hp, hl⟩
      refine ih x.t d (hes x hx).2.2.1 ?_ hl
      rcases h.cls x hx (by rw [hf]; exact hg) (by simp) with ⟨_, h7⟩ | h7
      · cases h7
      · exact h7 hp
  exact key u s0 t (hst s0 hs0).1 (h.sta s0 hs0) hu
end

/-- The program's Reachable is the reference's. -/
theorem reach_says {es : List Ed} {n : Nat} {al : List Int} (hso : Sorted es) (hes : ∀ x ∈ es, 0 ≤ x.f ∧ x.f < (n : Int) ∧ 0 ≤ x.t ∧ x.t < (n : Int)) (hal : ∀ x ∈ es, hasB al x.e = true) (hn : 0 < n) :
    listL (forwardF n es (fun _ => true) [0]) = rreachL es n al := by
  have h := forward_says (perm := fun _ => true) (start := [0]) hso hes (fun t ht => by rw [List.mem_singleton.1 ht]; omega)
  obtain ⟨h1, h2⟩ := h
  rw [rreachL, if_neg (by omega)]
  obtain ⟨g1, g2⟩ := fromL_says es [0] (allL n) al
  have hin := listL_in (forwardF n es (fun _ => true) [0])
  rw [h1] at hin
  refine inc_ext (listL_inc _) g1 (fun s => ?_)
  rw [g2]
  constructor
  · intro hs
    have hs0 := hin s hs
    obtain ⟨s0, h3, u, h4⟩ := (h2 s hs0.1 hs0.2).1 ((listL_mem hs0.1).1 hs)
    refine ⟨s0, h3, ?_, u, h4.congr (fun x hx _ => fPerm_true.2 ⟨allL_mem (hes x hx).2.2.1 (hes x hx).2.2.2, hal x hx⟩)⟩
    rw [List.mem_singleton.1 h3]; exact allL_mem (by omega) (by omega)
  · rintro ⟨s0, h3, _, u, h4⟩
    have hr : 0 ≤ s ∧ s < (n : Int) := by
      induction u using snoc_ind with
      | h0 => rw [← show s0 = s from h4, List.mem_singleton.1 h3]; omega
      | h1 u e ih =>
        obtain ⟨x, hx, _, _, rfl, _⟩ := h4.of_snoc
        exact ⟨(hes x hx).2.2.1, (hes x hx).2.2.2⟩
    exact (listL_mem hr.1).2 ((h2 s hr.1 hr.2).2 ⟨s0, h3, u, h4.congr (fun _ _ _ => rfl)⟩)

theorem fold_congr {W V W' V' : List Int} : ∀ (l : List Ed) (o : List Int), (∀ x ∈ l, fPerm W V x = fPerm W' V' x) → l.foldl (fStep W V) o = l.foldl (fStep W' V') o
  | [], _, _ => rfl
  | x :: l, o, h => by
    rw [List.foldl_cons, List.foldl_cons]
    have hs : fStep W V o x = fStep W' V' o x := by
      have := h x (List.mem_cons_self ..)
      unfold fStep
      by_cases hc : fPerm W V x = true
      · have hc' := hc
        rw [this] at hc'
        have e1 := fPerm_true.1 hc
        have e2 := fPerm_true.1 hc'
        simp [e1, e2]
      · have hc' := hc
        rw [this] at hc'
        rw [if_neg (fun h => hc (fPerm_true.2 h.2)), if_neg (fun h => hc' (fPerm_true.2 h.2))]
    rw [hs]
    exact fold_congr l _ (fun y hy => h y (List.mem_cons_of_mem _ hy))
theorem fLoop_congr {fs : List Ed} {W V W' V' : List Int} (h : ∀ x ∈ fs, fPerm W V x = fPerm W' V' x) : ∀ (f : Nat) (o : List Int), fLoop fs W V f o = fLoop fs W' V' f o
  | 0, _ => rfl
  | f + 1, o => by rw [fLoop, fLoop, fold_congr fs o h, fLoop_congr h f]
/-- The program's Coreachable is the reference's. -/
theorem corea_says (a : Aut) (n : Nat) (hn : a.n = n) (hn1 : n ≤ 1000000) (hes : ∀ x ∈ a.es, 0 ≤ x.f ∧ x.f < (n : Int) ∧ 0 ≤ x.t ∧ x.t < (n : Int)) (hms : ∀ s ∈ a.ms, 0 ≤ s ∧ s < (n : Int)) (hinc : Inc a.ms) :
    corea a = coreaR a.es a.ms := by
  have hD : ∀ i : Nat, i < n → IsDist a.es a.ms i ((backward n a.es a.ms).getD i 0) := fun i hi => backward_dist hn1 hes hms i hi
  have hlen := backward_length n a.es a.ms
  have hco : corea a = listL ((backward n a.es a.ms).map fun d => decide (0 ≤ d)) := by rw [corea, hn]; rfl
  rw [hco]
  generalize backward n a.es a.ms = D at *
  have hV : coreaR a.es a.ms = fLoop (a.es.map flipE) (allL n) (a.es.map Ed.e) (a.es.length + 1) a.ms := by
    unfold coreaR
    refine fLoop_congr (fun x hx => ?_) _ _
    obtain ⟨y, hy, rfl⟩ := List.mem_map.1 hx
    have h := hes y hy
    have e1 : fPerm (a.es.map Ed.f) (a.es.map Ed.e) (flipE y) = true := fPerm_true.2 ⟨show hasB (a.es.map Ed.f) y.f = true from hasB_true.2 (List.mem_map_of_mem hy), show hasB (a.es.map Ed.e) y.e = true from hasB_true.2 (List.mem_map_of_mem hy)⟩
    have e2 : fPerm (allL n) (a.es.map Ed.e) (flipE y) = true := fPerm_true.2 ⟨allL_mem h.1 h.2.1, show hasB (a.es.map Ed.e) y.e = true from hasB_true.2 (List.mem_map_of_mem hy)⟩
    rw [e1, e2]
  rw [hV]
  obtain ⟨g1, g2⟩ := fLoop_says (es := a.es.map flipE) (start := a.ms) (within := allL n) (evs := a.es.map Ed.e) (a.es.length + 1) hinc (by have := news_le (a.es.map flipE) a.ms; simp at this; omega) (fun s hs => ⟨s, hs, allL_mem (hms s hs).1 (hms s hs).2, [], rfl⟩) (fun s hs _ => hs)
  refine inc_ext (listL_inc _) g1 (fun s => ?_)
  rw [g2]
  have hin := listL_in (D.map fun d => decide (0 ≤ d))
  rw [List.length_map, hlen] at hin
  have hG : ∀ s : Int, 0 ≤ s → s < (n : Int) → (Gd (D.map fun d => decide (0 ≤ d)) s ↔ ∃ k, ReachIn a.es a.ms k s) := by
    intro s h0 h1
    have hd := hD s.toNat (by omega)
    rw [Int.toNat_of_nonneg h0] at hd
    have e : (D.map fun d => decide (0 ≤ d)).getD s.toNat false = decide (0 ≤ D.getD s.toNat 0) := by
      rw [List.getD_eq_getElem?_getD, List.getElem?_map, List.getD_eq_getElem?_getD, List.getElem?_eq_getElem (by omega)]; rfl
    unfold Gd
    rw [e, decide_eq_true_iff]
    rcases hd with ⟨h2, h3⟩ | ⟨k, h2, h3, _⟩
    · exact ⟨fun h => by omega, fun ⟨k, h⟩ => absurd h (h3 k)⟩
    · exact ⟨fun _ => ⟨k, h3⟩, fun _ => by omega⟩
  have hback : ∀ (k : Nat) (t : Int), ReachIn a.es a.ms k t → LedTo (a.es.map flipE) a.ms (allL n) (a.es.map Ed.e) t := by
    intro k
    induction k with
    | zero => intro t ht; exact ⟨t, ht, allL_mem (hms t ht).1 (hms t ht).2, [], rfl⟩
    | succ k ih =>
      rintro t ⟨x, hx, rfl, hr⟩
      obtain ⟨s0, h1, h2, u, h3⟩ := ih x.t hr
      have h := hes x hx
      exact ⟨s0, h1, h2, u ++ [(flipE x).e], h3.snoc (List.mem_map_of_mem hx) rfl (fPerm_true.2 ⟨allL_mem h.1 h.2.1, show hasB (a.es.map Ed.e) x.e = true from hasB_true.2 (List.mem_map_of_mem hx)⟩)⟩
  constructor
  · intro hs
    have hs0 := hin s hs
    obtain ⟨k, hk⟩ := (hG s hs0.1 hs0.2).1 ((listL_mem hs0.1).1 hs)
    exact hback k s hk
  · rintro ⟨s0, h1, _, u, h3⟩
    have hr : (0 ≤ s ∧ s < (n : Int)) ∧ ∃ k, ReachIn a.es a.ms k s := by
      clear g1 g2
      induction u using snoc_ind generalizing s with
      | h0 => rw [← show s0 = s from h3]; exact ⟨hms s0 h1, 0, h1⟩
      | h1 u e ih =>
        obtain ⟨x, hx, h4, _, rfl, _⟩ := h3.of_snoc
        obtain ⟨y, hy, rfl⟩ := List.mem_map.1 hx
        obtain ⟨_, k, hk⟩ := ih _ h4
        have h := hes y hy
        exact ⟨⟨h.1, h.2.1⟩, k + 1, y, hy, rfl, hk⟩
    exact (listL_mem hr.1.1).2 ((hG s hr.1.1 hr.1.2).2 hr.2)
end Go.Proofs.Ythchkddhibhenaa

/- The contract of reach.Trim. -/
namespace Go.Proofs.Ythchkddhibhenaa
open Go Go.RowKit Go.Shelf
attribute [local go_sem] Oper.semAt_some

/-- What Trim returns. -/
def trimF (a : Aut) : Aut := restrictF a.al a.ms a.n.toNat a.es (corea a)
theorem corea_err {a : Aut} (h : a.err = 0) : setErr a.n none (corea a) = 0 := by
  have hok := Aut.ok_of h
  have hn0 := hok.n0
  have hin := listL_in ((backward a.n.toNat a.es a.ms).map fun d => decide (0 ≤ d))
  rw [List.length_map, backward_length] at hin
  have hn : ((a.n.toNat : Nat) : Int) = a.n := Int.toNat_of_nonneg hn0
  rw [hn] at hin
  exact setErr_ok (listL_inc _) hin (fun q hq => by cases hq)
theorem listL_len (fl : List Bool) : (listL fl).length ≤ fl.length := by
  have := listK_le fl fl.length
  unfold listL
  omega
theorem corea_len (a : Aut) : (corea a).length ≤ a.n.toNat := by
  have h := listL_len ((backward a.n.toNat a.es a.ms).map fun d => decide (0 ≤ d))
  rw [List.length_map, backward_length] at h
  exact h
set_option maxRecDepth 100000 in
set_option maxHeartbeats 1600000 in
theorem trim_any (v : Value) (a : Aut) (w : World) (ha : RdA w v a) (hs : a.small) :
    Calls Try.prog 34 #[v] w (Ret w (RestPost w.heap.size a.err (trimF a))) := by
  have Ha := Lib.hid ha
  have Hs := Lib.hid hs
  obtain ⟨va, vm, ve, rfl, ⟨aa, ca, rfl, hra⟩, ⟨am, cm, rfl, hrm⟩, ⟨ae, ce, rfl, hre⟩⟩ := ha
  clear hs
  go_enter Try.func34, Try.ntmps34
  go_wp2_with fail
  have hB0 : Below w.heap.size w ((w.alloc (.cells #[.slice aa a.al.length ca, .int .i64 a.n, .slice am a.ms.length cm, .slice ae a.es.length ce] 31)).alloc (.cells #[.slice none 0 0, .int .i64 0, .slice none 0 0, .slice none 0 0] 31)) := by (repeat (first | with_reducible exact Below.refl _ _ | with_reducible exact Ha | (with_reducible refine belCall ?_ Ha (by first | omega | (simp; done) | (simp; omega) | (simp at *; omega))) | (with_reducible refine Below.alloc ?_ (by first | omega | (simp; done) | (simp; omega) | (simp at *; omega)) _) | (with_reducible refine Below.drew ?_) | (with_reducible refine Below.setCell ?_ (by first | omega | (simp; done) | (simp; omega) | (simp at *; omega)) _)))
  refine (corea_any _ a _ (Ha.out.mono hB0) Hs.out).mono ?_
  rintro e w1 ⟨u, rfl, hpost, hb1⟩
  have hW1 := hB0.trans (hb1.mono hB0.size)
  have ho1 : Own w1 w.heap.size (fun _ => 0) 0 w.heap.size #[.slice aa a.al.length ca, .int .i64 a.n, .slice am a.ms.length cm, .slice ae a.es.length ce] 31 := ⟨(hb1.block _ (by simp; omega)).trans (by repeat (first | with_reducible assumption | (with_reducible refine heap_at ?_; (first | (simp; done) | (simp; omega))) | (with_reducible refine heap_past ?_ ?_; (next => first | omega | (simp; done) | (simp; omega))))), rfl, Nat.le_refl _⟩
  have ho4 : Own w1 w.heap.size (fun _ => 0) 0 (w.heap.size + 1) #[.slice none 0 0, .int .i64 0, .slice none 0 0, .slice none 0 0] 31 := ⟨(hb1.block _ (by simp)).trans (by repeat (first | with_reducible assumption | (with_reducible refine heap_at ?_; (first | (simp; done) | (simp; omega))) | (with_reducible refine heap_past ?_ ?_; (next => first | omega | (simp; done) | (simp; omega))))), rfl, by omega⟩
  clear hb1
  have x0 : w1.cell? ⟨w.heap.size, 0, none⟩ = some (.slice aa a.al.length ca) := ho1.cell 0
  have x1 : w1.cell? ⟨w.heap.size, 1, none⟩ = some (.int .i64 a.n) := ho1.cell 1
  have x2 : w1.cell? ⟨w.heap.size, 2, none⟩ = some (.slice am a.ms.length cm) := ho1.cell 2
  have x3 : w1.cell? ⟨w.heap.size, 3, none⟩ = some (.slice ae a.es.length ce) := ho1.cell 3
  by_cases h1 : a.err = 0
  · rw [ListPost, if_pos h1] at hpost
    obtain ⟨vc, rfl, hvc⟩ := hpost
    have Hvc := Lib.hid hvc
    obtain ⟨ac, cc, rfl, _⟩ := hvc
    have Hce := Lib.hid (corea_err h1)
    have hcl := corea_len a
    have hn1 := (Aut.ok_of h1).n1
    have hcl2 : (corea a).length ≤ 1000000 := by omega
    have H1 := Lib.hid h1
    have HTR : Hid (trimF a = restrictF a.al a.ms a.n.toNat a.es (corea a)) := rfl
    clear h1 hcl hn1
    generalize hco : corea a = co at *
    generalize trimF a = R at *
    go_wp2_with fail
    refine (restrict_any _ _ a co _ (Ha.out.mono hW1) Hs.out Hvc.out hcl2).mono ?_
    rintro e w2 ⟨u, rfl, hpost, hb2⟩
    have hW2 := hW1.trans (hb2.mono hW1.size)
    rw [err2, if_pos H1.out, Hce.out, RestPost, if_pos rfl] at hpost
    obtain ⟨vr, rfl, hvr, hfr⟩ := hpost
    have hq4 := ho4.below hb2
    have hbb : w.heap.size + 1 < w1.heap.size := ho4.lt
    have hvr2 := ((hvr.setCell hfr hbb 0 (.slice none 0 0)))
    obtain ⟨a1, a2, a3, l1, c1, l2, c2, l3, c3, n, rfl, hf1, hf2, hf3⟩ := hfr
    have hfr : FreshA w1.heap.size (.agg #[.slice a1 l1 c1, .int .i64 n, .slice a2 l2 c2, .slice a3 l3 c3]) := ⟨a1, a2, a3, l1, c1, l2, c2, l3, c3, n, rfl, hf1, hf2, hf3⟩
    have Hvr := Lib.hid ((((hvr.setCell hfr hbb 0 (.slice a1 l1 c1)).setCell hfr hbb 1 (.int .i64 n)).setCell hfr hbb 2 (.slice a2 l2 c2)).setCell hfr hbb 3 (.slice a3 l3 c3))
    have Hfr := Lib.hid (hfr.mono (B' := w.heap.size) hW1.size)
    have Hs5 := Lib.hid (hq4.store4 (.slice a1 l1 c1) (.int .i64 n) (.slice a2 l2 c2) (.slice a3 l3 c3))
    have q0 : w2.cell? ⟨w.heap.size + 1, 0, none⟩ = some (.slice none 0 0) := hq4.cell 0
    have q1 : w2.cell? ⟨w.heap.size + 1, 1, none⟩ = some (.int .i64 0) := hq4.cell 1
    have q2 : w2.cell? ⟨w.heap.size + 1, 2, none⟩ = some (.slice none 0 0) := hq4.cell 2
    have q3 : w2.cell? ⟨w.heap.size + 1, 3, none⟩ = some (.slice none 0 0) := hq4.cell 3
    have f0 := hq4.frozen 0
    have f1 := hq4.frozen 1
    have f2 := hq4.frozen 2
    have f3 := hq4.frozen 3
    clear hvr hfr hf1 hf2 hf3 ho1 ho4 hvr2 x0 x1 x2 x3 hq4
    go_wp2_with fail
    have d0 := Hs5.out.1.cell 0
    have d1 := Hs5.out.1.cell 1
    have d2 := Hs5.out.1.cell 2
    have d3 := Hs5.out.1.cell 3
    refine bodyPost_ret (v := .tuple #[.agg #[.slice a1 l1 c1, .int .i64 n, .slice a2 l2 c2, .slice a3 l3 c3], .int .i64 0]) (by simp [results, Try.results34, go_sem, d0, d1, d2, d3]) rfl ⟨_, rfl, ?_, belTurn hW2 Hs5.out.2 hW2.size⟩
    rw [H1.out, HTR.out]
    exact RestPost.ok rfl Hvr.out Hfr.out
  · rw [ListPost, if_neg h1] at hpost
    subst hpost
    have h1' : (a.err != 0) = true := by simpa using h1
    have H1 := Lib.hid h1
    clear h1
    have q0 : w1.cell? ⟨w.heap.size + 1, 0, none⟩ = some (.slice none 0 0) := ho4.cell 0
    have q1 : w1.cell? ⟨w.heap.size + 1, 1, none⟩ = some (.int .i64 0) := ho4.cell 1
    have q2 : w1.cell? ⟨w.heap.size + 1, 2, none⟩ = some (.slice none 0 0) := ho4.cell 2
    have q3 : w1.cell? ⟨w.heap.size + 1, 3, none⟩ = some (.slice none 0 0) := ho4.cell 3
    have f0 := ho4.frozen 0
    have f1 := ho4.frozen 1
    have f2 := ho4.frozen 2
    have f3 := ho4.frozen 3
    have hl4 := ho4.lt
    have Hs5 := Lib.hid (ho4.store4 (.slice none 0 0) (.int .i64 0) (.slice none 0 0) (.slice none 0 0))
    clear ho1 ho4 x0 x1 x2 x3
    go_wp2_with fail
    have d0 := Hs5.out.1.cell 0
    have d1 := Hs5.out.1.cell 1
    have d2 := Hs5.out.1.cell 2
    have d3 := Hs5.out.1.cell 3
    refine bodyPost_ret (v := .tuple #[.agg #[.slice none 0 0, .int .i64 0, .slice none 0 0, .slice none 0 0], .int .i64 a.err]) (by simp [results, Try.results34, go_sem, d0, d1, d2, d3]) rfl ⟨_, rfl, ?_, belTurn hW1 Hs5.out.2 hW1.size⟩
    exact RestPost.err H1.out
end Go.Proofs.Ythchkddhibhenaa

/- Plain facts on Restrict and Trim of an automaton that Make makes. -/
namespace Go.Proofs.Ythchkddhibhenaa

theorem rrFold_El {kp : List Int} {s : Int} {i : Nat} : ∀ (l : List Ed) (S : List Int × List Ed), (l.foldl (rrStep kp s i) S).2.length ≤ S.2.length + l.length
  | [], _ => Nat.le_refl _
  | x :: l, S => by
    rw [List.foldl_cons, List.length_cons]
    have h := rrFold_El (kp := kp) (s := s) (i := i) l (rrStep kp s i S x)
    have h2 : (rrStep kp s i S x).2.length ≤ S.2.length + 1 := by
      unfold rrStep
      split
      · simp
      · omega
    omega
theorem rrLoop_El {es : List Ed} {kp : List Int} : ∀ (f i : Nat) (S : List Int × List Ed), (rrLoop es kp f i S).2.length ≤ S.2.length + f * es.length
  | 0, _, _ => by rw [rrLoop]; omega
  | f + 1, i, S => by
    rw [rrLoop, Nat.succ_mul]
    split
    · have h := rrLoop_El (es := es) (kp := kp) f (i + 1) (es.foldl (rrStep kp (S.1.getD i 0) i) S)
      have h2 := rrFold_El (kp := kp) (s := S.1.getD i 0) (i := i) es S
      omega
    · omega
theorem RRight.canon {a : Aut} {n : Nat} {r : Aut} (h : RRight a n r) : canonF r = r := by
  have h0 := h.n0
  have hn : ((r.n.toNat : Nat) : Int) = r.n := Int.toNat_of_nonneg h0
  unfold canonF
  rw [restrict_eq (n := r.n.toNat) hn.symm h.so (fun x hx => by have := h.ok x hx; omega) (by rw [allL_eq]; exact range_pairwise _ _) (by rw [allL_eq]; exact range_in _ _)]
  exact h.idem
theorem RRight.small {a : Aut} {n : Nat} {r : Aut} (h : RRight a n r) (ha : a.al.length ≤ 1000000) (hE : r.es.length ≤ 1000000) (hn : n ≤ 1000000) : r.small := by
  have h0 := h.n0
  have h1 := h.n1
  refine ⟨by rw [h.al]; exact ha, ?_, hE⟩
  have hq : QOk r.n.toNat r.ms := ⟨List.Pairwise.imp (fun {a b} (h : a < b) => by omega) h.ms, fun s hs => by have := h.mr s hs; omega⟩
  have := hq.len
  omega
/-- What is known of Restrict's answer for an automaton that Make makes. -/
structure MRest (xs kp : List Int) (r : Aut) : Prop where
  right : RRight (mkA xs) (mkN xs) r
  small : r.small
  err : r.err = 0
  canon : canonF r = r
  ref : rrestrictF (mkA xs) kp = r
theorem mkA_al (xs : List Int) : ∀ x ∈ (mkA xs).es, hasB (mkA xs).al x.e = true := by
  intro x hx
  have h := mkEs_mem hx
  rw [hasB_true]
  show x.e ∈ [0, 1, 2, 3]
  have : x.e = 0 ∨ x.e = 1 ∨ x.e = 2 ∨ x.e = 3 := by omega
  rcases this with h | h | h | h <;> rw [h] <;> decide
theorem make_rest (xs kp : List Int) (hk : kp.Pairwise (· < ·)) (hkr : ∀ x ∈ kp, 0 ≤ x ∧ x < (mkN xs : Int)) : MRest xs kp (restrictF (mkA xs).al (mkA xs).ms (mkA xs).n.toNat (mkA xs).es kp) := by
  have hN := mkN_le xs
  have hle := mkEs_le xs (mkN xs)
  have he : (mkA xs).es.length ≤ 24 := by show (mkEs xs (mkN xs)).length ≤ 24; omega
  have hes : ∀ x ∈ (mkA xs).es, 0 ≤ x.t ∧ x.t < (mkN xs : Int) := fun x hx => (mkA_es xs x hx).2.2
  have heq := restrict_eq (a := mkA xs) (n := mkN xs) (kp := kp) rfl (mkA_sorted xs) hes hk hkr
  rw [heq]
  have hR := rrestrict_right (a := mkA xs) (n := mkN xs) (kp := kp) rfl (mkA_sorted xs) hes (mkA_al xs)
  have hE : (rrestrictF (mkA xs) kp).es.length ≤ 1000000 := by
    unfold rrestrictF
    split
    · simp
    · have h := rrLoop_El (es := (mkA xs).es) (kp := kp) ((mkA xs).n.toNat + 1) 0 ([0], [])
      have h3 : (mkA xs).n.toNat = mkN xs := rfl
      rw [h3] at h ⊢
      have h4 : (mkN xs + 1) * (mkA xs).es.length ≤ 7 * 24 := Nat.mul_le_mul (by omega) he
      show (rrLoop (mkA xs).es kp (mkN xs + 1) 0 ([0], [])).2.length ≤ 1000000
      have h5 : (([0], []) : List Int × List Ed).2.length = 0 := rfl
      omega
  exact ⟨hR, hR.small (by show 4 ≤ 1000000; decide) hE (by omega), hR.err (by show setErr 32 none [0, 1, 2, 3] = 0; decide) (by omega), hR.canon, rfl⟩
/-- Trim's answer. -/
theorem make_trim (xs : List Int) : MRest xs (corea (mkA xs)) (trimF (mkA xs)) := by
  have hin := listL_in ((backward (mkA xs).n.toNat (mkA xs).es (mkA xs).ms).map fun d => decide (0 ≤ d))
  rw [List.length_map, backward_length] at hin
  exact make_rest xs (corea (mkA xs)) (listL_inc _) hin
end Go.Proofs.Ythchkddhibhenaa

/- What holds while an edge is appended to the edges of the reference, in whatever order. -/
namespace Go.Proofs.Ythchkddhibhenaa
open Go Go.RowKit

/-- Φ c: the rest, where the edges' cell holds c; PR: the slots that hold no memory of the edges. -/
structure RZ (Φ : Value → (Nat → Nat) → World → Prop) (PR : Nat → Value → Prop) (B : Nat) (E : List Ed) (y : Ed) (ve : Value) (l : Array Bool) (us : List Value) (tag : Nat → Nat) (W : World) : Prop where
  len : us.length = 13
  size : B ≤ W.heap.size
  phi : Φ (if l.getD 13 false = true then us.getD 11 undef else ve) tag W
  pure : ∀ j, j < 13 → l.getD j false = true → PR j (us.getD j undef)
  s1 : l.getD 11 false = false → Row W B tag 8 45 3 ve E.length (edCells E)
  s10 : l.getD 10 false = true → l.getD 11 false = false → Row W B tag 11 45 3 (us.getD 10 undef) 1 y.cells
  s11 : l.getD 11 false = true → Row W B tag 8 45 3 (us.getD 11 undef) (E.length + 1) (edCells (E ++ [y]))
  o11 : l.getD 11 false = true → l.getD 10 false = true ∧ l.getD 1 false = true
  o13 : l.getD 13 false = true → l.getD 11 false = true

section
variable {Φ : Value → (Nat → Nat) → World → Prop} {PR : Nat → Value → Prop} {B : Nat} {E : List Ed} {y : Ed} {ve : Value} {l : Array Bool} {us : List Value} {tag tag' : Nat → Nat} {W W' : World} {k : Nat} {v : Value}
theorem RZ.start (hlen : us.length = 13) (hs : B ≤ W.heap.size) (hphi : Φ ve tag W) (h1 : Row W B tag 8 45 3 ve E.length (edCells E)) : RZ Φ PR B E y ve (Array.replicate 14 false) us tag W := by
  have h : ∀ j, (Array.replicate 14 false).getD j false = true → False := by
    intro j
    rw [Array.getD_eq_getD_getElem?, Array.getElem?_replicate]
    split <;> simp
  refine ⟨hlen, hs, ?_, fun j _ e => (h _ e).elim, fun _ => h1, fun e => (h _ e).elim, fun e => (h _ e).elim, fun e => (h _ e).elim, fun e => (h _ e).elim⟩
  rw [if_neg (fun e => h _ e)]
  exact hphi
theorem RZ.pureStep (h : RZ Φ PR B E y ve l us tag W) (hl : ∀ j, j < 14 → (l.setIfInBounds k true).getD j false = (j == k || l.getD j false)) (hk : k < 10 ∨ k = 12) (hv : PR k v) : RZ Φ PR B E y ve (l.setIfInBounds k true) (us.set k v) tag W := by
  have ex10 := hl 10 (by decide)
  have ex11 := hl 11 (by decide)
  have ex13 := hl 13 (by decide)
  rw [show ((10 : Nat) == k) = false by simp; omega, Bool.false_or] at ex10
  rw [show ((11 : Nat) == k) = false by simp; omega, Bool.false_or] at ex11
  rw [show ((13 : Nat) == k) = false by simp; omega, Bool.false_or] at ex13
  refine ⟨by rw [List.length_set]; exact h.len, h.size, ?_, pure_nextC hl (by decide) (by rw [h.len]; decide) h.pure hv, ?_, ?_, ?_, ?_, ?_⟩
  · rw [ex13, set_ne (by omega)]; exact h.phi
  · rw [ex11]; exact h.s1
  · rw [ex10, ex11, set_ne (by omega)]; exact h.s10
  · rw [ex11, set_ne (by omega)]; exact h.s11
  · rw [ex10, ex11]
    intro e
    refine ⟨(h.o11 e).1, ?_⟩
    rw [hl 1 (by decide), (h.o11 e).2, Bool.or_true]
  · rw [ex13, ex11]; exact h.o13
/-- The edge's own list. -/
theorem RZ.op10 (h : RZ Φ PR B E y ve l us tag W) (hl : ∀ j, j < 14 → (l.setIfInBounds 10 true).getD j false = (j == 10 || l.getD j false)) (hphi : ∀ c, Φ c tag W → Φ c (tagUp tag W.heap.size 11) (W.alloc (.cells y.cells.toArray 45))) (hn : l.getD 10 false = false) (hv : ∀ v, PR 10 v) :
    RZ Φ PR B E y ve (l.setIfInBounds 10 true) (us.set 10 (.slice (some ⟨W.heap.size, 0, none⟩) 1 1)) (tagUp tag W.heap.size 11) (W.alloc (.cells y.cells.toArray 45)) := by
  have hx11 : l.getD 11 false = false := by
    cases hx11 : l.getD 11 false with
    | false => rfl
    | true => rw [(h.o11 hx11).1] at hn; cases hn
  have hx13 : l.getD 13 false = false := by
    cases hx13 : l.getD 13 false with
    | false => rfl
    | true => rw [h.o13 hx13] at hx11; cases hx11
  have hp := h.phi
  rw [hx13] at hp
  refine ⟨by rw [List.length_set]; exact h.len, by have := h.size; simp; omega, ?_, pure_nextC hl (by decide) (by rw [h.len]; decide) h.pure (hv _), ?_, ?_, ?_, ?_, ?_⟩
  · rw [hl 13 (by decide), show ((13 : Nat) == 10) = false from rfl, Bool.false_or, hx13]
    exact hphi _ hp
  · rw [hl 11 (by decide), show ((11 : Nat) == 10) = false from rfl, Bool.false_or]
    exact fun e => (h.s1 e).up _ _
  · intro _ _
    rw [set_self h.len (by decide)]
    refine ⟨by simp [Ed.cells], .inr ⟨W.heap.size, 0, 1, y.cells.toArray, rfl, Own.new W B _ 11 _ _ h.size (tagUp_at _ _ _), Nat.le_refl _, by show 1 ≤ maxLen; decide, by simp [Ed.cells], by simp [Ed.cells]⟩⟩
  · rw [hl 11 (by decide), show ((11 : Nat) == 10) = false from rfl, Bool.false_or, hx11]; intro e; cases e
  · rw [hl 11 (by decide), show ((11 : Nat) == 10) = false from rfl, Bool.false_or, hx11]; intro e; cases e
  · rw [hl 13 (by decide), hl 11 (by decide)]; exact h.o13
/-- The append. -/
theorem RZ.op11 (h : RZ Φ PR B E y ve l us tag W) (hl : ∀ j, j < 14 → (l.setIfInBounds 11 true).getD j false = (j == 11 || l.getD j false)) (hphi : ∀ c, Φ c tag W → Φ c tag' W') (hn : l.getD 11 false = false) (hx10 : l.getD 10 false = true) (h1 : l.getD 1 false = true) (hv : ∀ v, PR 11 v)
    (ht : Turn B tag tag' 8 W W') (hr : Row W' B tag' 8 45 3 v (E.length + 1) (edCells E ++ y.cells)) :
    RZ Φ PR B E y ve (l.setIfInBounds 11 true) (us.set 11 v) tag' W' := by
  have hx13 : l.getD 13 false = false := by
    cases hx13 : l.getD 13 false with
    | false => rfl
    | true => rw [h.o13 hx13] at hn; cases hn
  have hp := h.phi
  rw [hx13] at hp
  refine ⟨by rw [List.length_set]; exact h.len, Nat.le_trans h.size ht.size, ?_, pure_nextC hl (by decide) (by rw [h.len]; decide) h.pure (hv _), ?_, ?_, ?_, ?_, ?_⟩
  · rw [hl 13 (by decide), show ((13 : Nat) == 11) = false from rfl, Bool.false_or, hx13]
    exact hphi _ hp
  · rw [hl 11 (by decide)]; intro e; cases e
  · rw [hl 11 (by decide)]; intro _ e; cases e
  · intro _
    rw [set_self h.len (by decide), edCells_snoc]
    exact hr
  · intro _; rw [hl 10 (by decide), hx10, hl 1 (by decide), h1]; exact ⟨rfl, rfl⟩
  · intro _; rw [hl 11 (by decide)]; rfl
/-- The store of the edges. -/
theorem RZ.op13 {b8 : Nat} (h : RZ Φ PR B E y ve l us tag W) (hl : ∀ j, j < 14 → (l.setIfInBounds 13 true).getD j false = (j == 13 || l.getD j false)) (hphi : ∀ c c', Φ c tag W → Φ c' tag (W.setCell ⟨b8, 3, none⟩ c') ∧ Turn B tag tag 6 W (W.setCell ⟨b8, 3, none⟩ c')) (hn : l.getD 13 false = false) (hx11 : l.getD 11 false = true) :
    RZ Φ PR B E y ve (l.setIfInBounds 13 true) us tag (W.setCell ⟨b8, 3, none⟩ (us.getD 11 undef)) := by
  have hp := h.phi
  rw [hn] at hp
  obtain ⟨p1, p2⟩ := hphi _ (us.getD 11 undef) hp
  refine ⟨h.len, Nat.le_trans h.size p2.size, ?_, ?_, ?_, ?_, ?_, ?_, ?_⟩
  · rw [hl 13 (by decide)]; exact p1
  · intro j hj; rw [hl j (by omega), show (j == 13) = false by simp; omega, Bool.false_or]; exact h.pure j hj
  · rw [hl 11 (by decide), hx11]; intro e; cases e
  · rw [hl 11 (by decide), hx11]; intro _ e; cases e
  · rw [hl 11 (by decide), show ((11 : Nat) == 13) = false from rfl, Bool.false_or]; exact fun e => (h.s11 e).turn p2 (by decide)
  · rw [hl 11 (by decide), hl 10 (by decide), hl 1 (by decide)]; exact h.o11
  · intro _; rw [hl 11 (by decide), hx11]; rfl
end
theorem list13 {us : List Value} (h : us.length = 13) : ∃ u0 u1 u2 u3 u4 u5 u6 u7 u8 u9 u10 u11 u12, us = [u0, u1, u2, u3, u4, u5, u6, u7, u8, u9, u10, u11, u12] := by
  match us, h with
  | [u0, u1, u2, u3, u4, u5, u6, u7, u8, u9, u10, u11, u12], _ => exact ⟨_, _, _, _, _, _, _, _, _, _, _, _, _, rfl⟩
end Go.Proofs.Ythchkddhibhenaa

/- slices.Equal and the laws' equal of lists that are the same; the reference's index. -/
namespace Go.Proofs.Ythchkddhibhenaa
open Go.RowKit

theorem rindex_any (v : Value) (xs : List Int) (n : Int) (w : World) (hr : RdI w v xs) (hl : xs.length ≤ 1000000) :
    Calls Try.prog 69 #[v, .int .i64 n] w fun e w' => e = .returned (.int .i64 (idxI xs n)) ∧ w = w' := by
  obtain ⟨a, cap, rfl, hr⟩ := hr
  go_enter Try.func69, Try.ntmps69
  go_wp2
  go_loop [5] (fun i => ∃ k : Nat, k ≤ xs.length ∧ i = .int .i64 k ∧ Hid (n ∉ xs.take k)) (fun i => xs.length - (intOf i).toNat)
  case atStart => exact ⟨0, Nat.zero_le _, rfl, by simp [Hid]⟩
  case round =>
    obtain ⟨k, hk, rfl, hn⟩ := hrel
    by_cases hlt : k < xs.length
    · obtain ⟨b, off, rfl, hc⟩ := hr.at_int k hlt
      go_wp2
      · have hx : (xs[k] == n) = true := by assumption
        go_ret
        exact ⟨ret_int (idxI_at hlt hn (by rw [eq_of_beq hx]; exact beq_self_eq_true _)).symm, rfl⟩
      · have hx : (xs[k] == n) = false := by assumption
        go_round
        case rel => exact ⟨k + 1, by omega, by go_num, notin_snoc hlt hn hx⟩
        case measure => simp [intOf]; omega
    · go_wp2
      go_ret
      exact ⟨ret_int (idxI_none (notin_all hk hlt hn)).symm, rfl⟩

theorem sliceEqI_any (v1 v2 : Value) (xs : List Int) (w : World) (h1 : RdI w v1 xs) (h2 : RdI w v2 xs) (hl1 : xs.length ≤ 1000000) :
    Calls Try.prog 85 #[v1, v2] w (Ret w fun u _ => u = .bool true) := by
  obtain ⟨a, cap, rfl, hr1⟩ := h1
  obtain ⟨a2, cap2, rfl, hr2⟩ := h2
  go_enter Try.func85, Try.ntmps85
  have hb : ((xs.length : Int) != xs.length) = false := by simp
  go_wp2_with fail
  go_loopw [13] (fun i wr => ∃ k : Nat, k ≤ xs.length ∧ i = .int .i64 k ∧ Below w.heap.size w wr) (fun i _ => xs.length - (intOf i).toNat)
  case atStart => exact ⟨0, Nat.zero_le _, rfl, Below.refl _ _⟩
  case round =>
    obtain ⟨k, hk, rfl, hB⟩ := hrel
    by_cases hlt : k < xs.length
    · obtain ⟨b, off, rfl, hc⟩ := hr1.at_int k hlt
      obtain ⟨b2, off2, rfl, hc2⟩ := hr2.at_int k hlt
      replace hc := keep0 hB hc
      replace hc2 := keep0 hB hc2
      generalize xs[k] = x at *
      have hx : (x != x) = false := by simp
      go_wp2_with fail
      go_region
      go_wp2
      go_roundw
      case rel => exact ⟨k + 1, by omega, by go_num, hB.drew⟩
      case measure => simp [intOf]; omega
    · go_wp2
      go_ret
      exact ⟨_, rfl, rfl, hB⟩

theorem sliceEqE_any (v1 v2 : Value) (xs : List Ed) (w : World) (h1 : RdE w v1 xs) (h2 : RdE w v2 xs) (hl1 : xs.length ≤ 1000000) :
    Calls Try.prog 86 #[v1, v2] w (Ret w fun u _ => u = .bool true) := by
  obtain ⟨a, cap, rfl, hr1⟩ := h1
  obtain ⟨a2, cap2, rfl, hr2⟩ := h2
  go_enter Try.func86, Try.ntmps86
  have hb : ((xs.length : Int) != xs.length) = false := by simp
  go_wp2_with fail
  go_loopw [13] (fun i wr => ∃ k : Nat, k ≤ xs.length ∧ i = .int .i64 k ∧ Below w.heap.size w wr) (fun i _ => xs.length - (intOf i).toNat)
  case atStart => exact ⟨0, Nat.zero_le _, rfl, Below.refl _ _⟩
  case round =>
    obtain ⟨k, hk, rfl, hB⟩ := hrel
    by_cases hlt : k < xs.length
    · obtain ⟨b, off, rfl, c0, c1, c2⟩ := hr1.at_edge k hlt
      obtain ⟨b2, off2, rfl, d0, d1, d2⟩ := hr2.at_edge k hlt
      replace c0 := keep0 hB c0
      replace c1 := keep0 hB c1
      replace c2 := keep0 hB c2
      replace d0 := keep0 hB d0
      replace d1 := keep0 hB d1
      replace d2 := keep0 hB d2
      generalize xs[k] = x at *
      obtain ⟨x0, x1, x2⟩ := x
      dsimp only at c0 c1 c2 d0 d1 d2
      have hx0 : (x0 == x0) = true := by simp
      have hx1 : (x1 == x1) = true := by simp
      have hx2 : (x2 == x2) = true := by simp
      go_wp2_with fail
      go_region
      go_wp2
      go_roundw
      case rel => exact ⟨k + 1, by omega, by go_num, hB.drew⟩
      case measure => simp [intOf]; omega
    · go_wp2
      go_ret
      exact ⟨_, rfl, rfl, hB⟩
end Go.Proofs.Ythchkddhibhenaa
