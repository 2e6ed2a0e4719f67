/- Texts joined: EqualA, IsCanon. Each is introduced by its own sentence. -/
import Derived.Test.YthchkddhibhenaaRS1
import Derived.Test.YthchkddhibhenaaRS14
import Derived.Test.YthchkddhibhenaaRS17
/- automaton.Equal of automata that are the same. -/
namespace Go.Proofs.Ythchkddhibhenaa
open Go Go.RowKit

set_option maxRecDepth 100000 in
theorem equal_any (v1 v2 : Value) (a : Aut) (w : World) (h1 : RdA w v1 a) (h2 : RdA w v2 a) (hs : a.small) :
    Calls Try.prog 70 #[v1, v2] w (Ret w fun u _ => u = .bool true) := by
  obtain ⟨va1, vm1, ve1, rfl, ha1, hm1, he1⟩ := h1
  obtain ⟨va2, vm2, ve2, rfl, ha2, hm2, he2⟩ := h2
  have hb : (a.n == a.n) = true := by simp
  have HA1 := Lib.hid ha1
  have HM1 := Lib.hid hm1
  have HE1 := Lib.hid he1
  have HA2 := Lib.hid ha2
  have HM2 := Lib.hid hm2
  have HE2 := Lib.hid he2
  obtain ⟨a1, c1, rfl, _⟩ := ha1
  obtain ⟨a2, c2, rfl, _⟩ := hm1
  obtain ⟨a3, c3, rfl, _⟩ := he1
  obtain ⟨a4, c4, rfl, _⟩ := ha2
  obtain ⟨a5, c5, rfl, _⟩ := hm2
  obtain ⟨a6, c6, rfl, _⟩ := he2
  have h1 := hs.al
  have h2 := hs.ms
  have h3 := hs.es
  go_enter Try.func70, Try.ntmps70
  have hB0 : Below w.heap.size w ((w.alloc (.cells #[.slice a1 a.al.length c1, .int .i64 a.n, .slice a2 a.ms.length c2, .slice a3 a.es.length c3] 31)).alloc (.cells #[.slice a4 a.al.length c4, .int .i64 a.n, .slice a5 a.ms.length c5, .slice a6 a.es.length c6] 31)) := by (repeat (first | with_reducible exact Below.refl _ _ | with_reducible exact HA1 | (with_reducible refine belCall ?_ HA1 (by first | omega | (simp; done) | (simp; omega) | (simp at *; omega))) | (with_reducible refine Below.alloc ?_ (by first | omega | (simp; done) | (simp; omega) | (simp at *; omega)) _) | (with_reducible refine Below.drew ?_) | (with_reducible refine Below.setCell ?_ (by first | omega | (simp; done) | (simp; omega) | (simp at *; omega)) _)))
  go_wp2_with fail
  refine (sliceEqI_any _ _ a.al _ (HA1.out.mono hB0) (HA2.out.mono hB0) h1).mono ?_
  rintro e w1 ⟨_, rfl, rfl, hb1⟩
  have hW1 := hB0.trans (hb1.mono hB0.size)
  have x1 : w1.heap[w.heap.size]? = some (.cells #[.slice a1 a.al.length c1, .int .i64 a.n, .slice a2 a.ms.length c2, .slice a3 a.es.length c3] 31 (0, 0)) := (hb1.block _ (by simp; omega)).trans (by repeat (first | with_reducible assumption | (with_reducible refine heap_at ?_; (first | (simp; done) | (simp; omega))) | (with_reducible refine heap_past ?_ ?_; (next => first | omega | (simp; done) | (simp; omega)))))
  have x2 : w1.heap[w.heap.size + 1]? = some (.cells #[.slice a4 a.al.length c4, .int .i64 a.n, .slice a5 a.ms.length c5, .slice a6 a.es.length c6] 31 (0, 0)) := (hb1.block _ (by simp)).trans (by repeat (first | with_reducible assumption | (with_reducible refine heap_at ?_; (first | (simp; done) | (simp; omega))) | (with_reducible refine heap_past ?_ ?_; (next => first | omega | (simp; done) | (simp; omega)))))
  have y12 : w1.cell? ⟨w.heap.size, 2, none⟩ = some (.slice a2 a.ms.length c2) := by simp [World.cell?, x1]
  have y13 : w1.cell? ⟨w.heap.size, 3, none⟩ = some (.slice a3 a.es.length c3) := by simp [World.cell?, x1]
  have y22 : w1.cell? ⟨w.heap.size + 1, 2, none⟩ = some (.slice a5 a.ms.length c5) := by simp [World.cell?, x2]
  have y23 : w1.cell? ⟨w.heap.size + 1, 3, none⟩ = some (.slice a6 a.es.length c6) := by simp [World.cell?, x2]
  clear x1 x2 hb1
  go_wp2_with fail
  refine (sliceEqI_any _ _ a.ms _ (HM1.out.mono hW1) (HM2.out.mono hW1) h2).mono ?_
  rintro e w2 ⟨_, rfl, rfl, hb2⟩
  have hW2 := hW1.trans (hb2.mono hW1.size)
  replace y13 := keep0 hb2 y13
  replace y23 := keep0 hb2 y23
  clear y12 y22 hb2
  go_wp2_with fail
  refine (sliceEqE_any _ _ a.es _ (HE1.out.mono hW2) (HE2.out.mono hW2) h3).mono ?_
  rintro e w3 ⟨_, rfl, rfl, hb3⟩
  go_wp2_with fail
  go_ret
  exact ⟨_, rfl, rfl, hW2.trans (hb3.mono hW2.size)⟩

set_option maxRecDepth 100000 in
set_option maxHeartbeats 1600000 in
/-- The laws' equal of automata that are the same. -/
theorem equalL_any (v1 v2 : Value) (a : Aut) (w : World) (h1 : RdA w v1 a) (h2 : RdA w v2 a) (hs : a.small) :
    Calls Try.prog 35 #[v1, v2] w (Ret w fun u _ => u = .bool true) := by
  obtain ⟨va1, vm1, ve1, rfl, ha1, hm1, he1⟩ := h1
  obtain ⟨va2, vm2, ve2, rfl, ha2, hm2, he2⟩ := h2
  have hb : (a.n != a.n) = false := by simp
  have hb2 : ((a.es.length : Int) != a.es.length) = false := by simp
  have HA1 := Lib.hid ha1
  have HM1 := Lib.hid hm1
  have HE1 := Lib.hid he1
  have HA2 := Lib.hid ha2
  have HM2 := Lib.hid hm2
  have HE2 := Lib.hid he2
  obtain ⟨a1, c1, rfl, _⟩ := ha1
  obtain ⟨a2, c2, rfl, _⟩ := hm1
  obtain ⟨a3, c3, rfl, hr1⟩ := he1
  obtain ⟨a4, c4, rfl, _⟩ := ha2
  obtain ⟨a5, c5, rfl, _⟩ := hm2
  obtain ⟨a6, c6, rfl, hr2⟩ := he2
  have h1 := hs.al
  have h2 := hs.ms
  have h3 := hs.es
  go_enter Try.func35, Try.ntmps35
  have hB0 : Below w.heap.size w ((w.alloc (.cells #[.slice a1 a.al.length c1, .int .i64 a.n, .slice a2 a.ms.length c2, .slice a3 a.es.length c3] 31)).alloc (.cells #[.slice a4 a.al.length c4, .int .i64 a.n, .slice a5 a.ms.length c5, .slice a6 a.es.length c6] 31)) := by (repeat (first | with_reducible exact Below.refl _ _ | with_reducible exact HA1 | (with_reducible refine belCall ?_ HA1 (by first | omega | (simp; done) | (simp; omega) | (simp at *; omega))) | (with_reducible refine Below.alloc ?_ (by first | omega | (simp; done) | (simp; omega) | (simp at *; omega)) _) | (with_reducible refine Below.drew ?_) | (with_reducible refine Below.setCell ?_ (by first | omega | (simp; done) | (simp; omega) | (simp at *; omega)) _)))
  have hsame : sameB a.al a.al = true := sameB_true.2 rfl
  have hsame2 : sameB a.ms a.ms = true := sameB_true.2 rfl
  go_wp2_with fail
  refine (same_any _ _ a.al a.al _ (HA1.out.mono hB0) (HA2.out.mono hB0) h1 h1).mono ?_
  rintro e w1 ⟨_, rfl, rfl, hb1⟩
  rw [hsame]
  have hW1 := hB0.trans (hb1.mono hB0.size)
  have x1 : w1.heap[w.heap.size]? = some (.cells #[.slice a1 a.al.length c1, .int .i64 a.n, .slice a2 a.ms.length c2, .slice a3 a.es.length c3] 31 (0, 0)) := (hb1.block _ (by simp; omega)).trans (by repeat (first | with_reducible assumption | (with_reducible refine heap_at ?_; (first | (simp; done) | (simp; omega))) | (with_reducible refine heap_past ?_ ?_; (next => first | omega | (simp; done) | (simp; omega)))))
  have x2 : w1.heap[w.heap.size + 1]? = some (.cells #[.slice a4 a.al.length c4, .int .i64 a.n, .slice a5 a.ms.length c5, .slice a6 a.es.length c6] 31 (0, 0)) := (hb1.block _ (by simp)).trans (by repeat (first | with_reducible assumption | (with_reducible refine heap_at ?_; (first | (simp; done) | (simp; omega))) | (with_reducible refine heap_past ?_ ?_; (next => first | omega | (simp; done) | (simp; omega)))))
  have y11 : w1.cell? ⟨w.heap.size, 1, none⟩ = some (.int .i64 a.n) := by simp [World.cell?, x1]
  have y12 : w1.cell? ⟨w.heap.size, 2, none⟩ = some (.slice a2 a.ms.length c2) := by simp [World.cell?, x1]
  have y13 : w1.cell? ⟨w.heap.size, 3, none⟩ = some (.slice a3 a.es.length c3) := by simp [World.cell?, x1]
  have y21 : w1.cell? ⟨w.heap.size + 1, 1, none⟩ = some (.int .i64 a.n) := by simp [World.cell?, x2]
  have y22 : w1.cell? ⟨w.heap.size + 1, 2, none⟩ = some (.slice a5 a.ms.length c5) := by simp [World.cell?, x2]
  have y23 : w1.cell? ⟨w.heap.size + 1, 3, none⟩ = some (.slice a6 a.es.length c6) := by simp [World.cell?, x2]
  clear x1 x2 hb1 hsame
  go_wp2_with fail
  refine (same_any _ _ a.ms a.ms _ (HM1.out.mono hW1) (HM2.out.mono hW1) h2 h2).mono ?_
  rintro e w2 ⟨_, rfl, rfl, hb2⟩
  rw [hsame2]
  have hW2 := hW1.trans (hb2.mono hW1.size)
  replace y13 := keep0 hb2 y13
  replace y23 := keep0 hb2 y23
  have hz1 := World.block_lt_of_cell? _ _ y13
  have hz2 := World.block_lt_of_cell? _ _ y23
  dsimp only at hz1 hz2
  clear y11 y12 y21 y22 hb2 hsame2
  go_wp2_with fail
  go_loopw [5] (fun i wr => ∃ k : Nat, k ≤ a.es.length ∧ i = .int .i64 k ∧ Below w2.heap.size w2 wr) (fun i _ => a.es.length - (intOf i).toNat)
  case atStart => exact ⟨0, Nat.zero_le _, rfl, Below.refl _ _⟩
  case round =>
    obtain ⟨k, hk, rfl, hB⟩ := hrel
    have hB2 := hW2.trans (hB.mono hW2.size)
    replace y13 := keep0 hB y13
    replace y23 := keep0 hB y23
    by_cases hlt : k < a.es.length
    · obtain ⟨b, off, rfl, c0, c1, c2⟩ := hr1.at_edge k hlt
      obtain ⟨b2, off2, rfl, d0, d1, d2⟩ := hr2.at_edge k hlt
      replace c0 := keep0 hB2 c0
      replace c1 := keep0 hB2 c1
      replace c2 := keep0 hB2 c2
      replace d0 := keep0 hB2 d0
      replace d1 := keep0 hB2 d1
      replace d2 := keep0 hB2 d2
      generalize a.es[k] = x at *
      obtain ⟨x0, x1, x2⟩ := x
      dsimp only at c0 c1 c2 d0 d1 d2
      have hx0 : (x0 == x0) = true := by simp
      have hx1 : (x1 == x1) = true := by simp
      have hx2 : (x2 == x2) = true := by simp
      go_wp2_with fail
      go_region
      go_wp2
      go_roundw
      case rel => exact ⟨k + 1, by omega, by go_num, hB.drew⟩
      case measure => simp [intOf]; omega
    · go_wp2
      go_ret
      exact ⟨_, rfl, rfl, hB2⟩
end Go.Proofs.Ythchkddhibhenaa

/- automaton.IsCanonical of an automaton that is canonical. -/
namespace Go.Proofs.Ythchkddhibhenaa
open Go Go.RowKit

/-- What holds of the slots of a region. -/
def IC1 (Av : Value) (a : Aut) : Nat → Value → World → Prop
  | 0, v, _ => v = Av
  | 1, v, _ => v = .int .i64 0
  | 2, v, _ => v = .bool true
  | 3, v, _ => v = .bool true
  | 4, v, _ => v = Av
  | 5, v, _ => v = Av
  | 6, v, W => RdA W v a ∧ ∃ v1 v2 v3 n, v = .agg #[v1, .int .i64 n, v2, v3]
  | 7, v, _ => v = .bool true
  | 8, v, _ => v = .bool true
  | 9, v, _ => v = .bool true
  | _ + 10, _, _ => False
theorem IC1_mono {Av : Value} {a : Aut} : ∀ j v W W', Below W.heap.size W W' → IC1 Av a j v W → IC1 Av a j v W'
  | 0, _, _, _, _, h => h
  | 1, _, _, _, _, h => h
  | 2, _, _, _, _, h => h
  | 3, _, _, _, _, h => h
  | 4, _, _, _, _, h => h
  | 5, _, _, _, _, h => h
  | 6, _, _, _, hb, h => ⟨h.1.mono hb, h.2⟩
  | 7, _, _, _, _, h => h
  | 8, _, _, _, _, h => h
  | 9, _, _, _, _, h => h
  | _ + 10, _, _, _, _, h => h.elim
theorem list_IC1 {us : List Value} (h : us.length = 10) : ∃ u0 u1 u2 u3 u4 u5 u6 u7 u8 u9, us = [u0, u1, u2, u3, u4, u5, u6, u7, u8, u9] := by
  match us, h with
  | [u0, u1, u2, u3, u4, u5, u6, u7, u8, u9], _ => exact ⟨_, _, _, _, _, _, _, _, _, _, rfl⟩
set_option maxRecDepth 100000 in
set_option maxHeartbeats 1600000 in
theorem isCanon_any (v : Value) (a : Aut) (w : World) (ha : RdA w v a) (hs : a.small) (he : a.err = 0) (hms : a.ms.Pairwise (· < ·)) (hso : Sorted a.es) (hcan : canonF a = a) :
    Calls Try.prog 39 #[v] w (Ret w fun u _ => u = .bool true) := by
  have Hs := Lib.hid hs
  have He := Lib.hid he
  have Hok := Lib.hid (Aut.ok_of he)
  have Hms := Lib.hid hms
  have Hso := Lib.hid hso
  have Hcan := Lib.hid hcan
  have Ha := Lib.hid ha
  clear hs he hms hso hcan
  obtain ⟨va, vm, ve, rfl, ⟨aa, ca, rfl, hra⟩, ⟨am, cm, rfl, hrm⟩, ⟨ae, ce, rfl, hre⟩⟩ := ha
  clear hra hrm hre
  go_enter Try.func39, Try.ntmps39
  go_wp2_with fail
  have z0 : (w.alloc (.cells #[.slice aa a.al.length ca, .int .i64 a.n, .slice am a.ms.length cm, .slice ae a.es.length ce] 31)).cell? ⟨w.heap.size, 0, none⟩ = some (.slice aa a.al.length ca) := by simp [go_sem]
  have z1 : (w.alloc (.cells #[.slice aa a.al.length ca, .int .i64 a.n, .slice am a.ms.length cm, .slice ae a.es.length ce] 31)).cell? ⟨w.heap.size, 1, none⟩ = some (.int .i64 a.n) := by simp [go_sem]
  have z2 : (w.alloc (.cells #[.slice aa a.al.length ca, .int .i64 a.n, .slice am a.ms.length cm, .slice ae a.es.length ce] 31)).cell? ⟨w.heap.size, 2, none⟩ = some (.slice am a.ms.length cm) := by simp [go_sem]
  have z3 : (w.alloc (.cells #[.slice aa a.al.length ca, .int .i64 a.n, .slice am a.ms.length cm, .slice ae a.es.length ce] 31)).cell? ⟨w.heap.size, 3, none⟩ = some (.slice ae a.es.length ce) := by simp [go_sem]
  have hz : w.heap.size < (w.alloc (.cells #[.slice aa a.al.length ca, .int .i64 a.n, .slice am a.ms.length cm, .slice ae a.es.length ce] 31)).heap.size := by simp
  have hW := bel_alloc w (.cells #[.slice aa a.al.length ca, .int .i64 a.n, .slice am a.ms.length cm, .slice ae a.es.length ce] 31)
  generalize w.alloc (.cells #[.slice aa a.al.length ca, .int .i64 a.n, .slice am a.ms.length cm, .slice ae a.es.length ce] 31) = wr at *
  have hWd := hW.drew
  refine wp_region_mono2 (IC1 (.agg #[.slice aa a.al.length ca, .int .i64 a.n, .slice am a.ms.length cm, .slice ae a.es.length ce]) (a)) [3, 4, 5, 6, 7, 8, 9, 10, 11, 2] IC1_mono rfl (by kernel_rfl) (by kernel_rfl) ?_ ?_
  · skip
    refine Steps.cons rfl ?_ ?_
    · intro l us W hl hI hd hn K' hK
      have hHas := hI.has
      have hbel := hI.bel
      have hlen := hI.len
      obtain ⟨u0, u1, u2, u3, u4, u5, u6, u7, u8, u9, rfl⟩ := list_IC1 hlen
      have HK : Hid (∀ v W', Below W.heap.size W W' → IC1 (.agg #[.slice aa a.al.length ca, .int .i64 a.n, .slice am a.ms.length cm, .slice ae a.es.length ce]) (a) 0 v W' → ∀ a', puts _ _ [v, u1, u2, u3, u4, u5, u6, u7, u8, u9] = a' → K' a' W') := fun v W' hb hv a' e => hK _ a' W' e (hI.step IC1_mono hl hb hv)
      have hWW := hWd.trans (hbel.mono hWd.size)
      have y0 := keep hbel z0 hz
      have y1 := keep hbel z1 hz
      have y2 := keep hbel z2 hz
      have y3 := keep hbel z3 hz
      clear hl hI hd hn hK hHas hlen 
      refine StepG.mk ?_
      simp only [puts, Act.put]
      go_simp
      exact HK.out ((.agg #[.slice aa a.al.length ca, .int .i64 a.n, .slice am a.ms.length cm, .slice ae a.es.length ce])) _ (Below.refl _ _) rfl _ (by simp [puts, Act.put])
    refine Steps.cons rfl ?_ ?_
    · intro l us W hl hI hd hn K' hK
      have hHas := hI.has
      have hbel := hI.bel
      have hlen := hI.len
      obtain ⟨u0, u1, u2, u3, u4, u5, u6, u7, u8, u9, rfl⟩ := list_IC1 hlen
      have HK : Hid (∀ v W', Below W.heap.size W W' → IC1 (.agg #[.slice aa a.al.length ca, .int .i64 a.n, .slice am a.ms.length cm, .slice ae a.es.length ce]) (a) 1 v W' → ∀ a', puts _ _ [u0, v, u2, u3, u4, u5, u6, u7, u8, u9] = a' → K' a' W') := fun v W' hb hv a' e => hK _ a' W' e (hI.step IC1_mono hl hb hv)
      have hWW := hWd.trans (hbel.mono hWd.size)
      have d0 : l.getD 0 false = true := by
        simp [Region.binds] at hd
        simp [hd]
      obtain rfl : u0 = _ := hHas 0 (by decide) d0
      clear hl hI hd hn hK hHas hlen d0
      refine StepG.mk ?_
      simp only [puts, Act.put]
      go_simp
      have hc := check_any _ a W (Ha.out.mono hWW) Hs.out
      rw [He.out] at hc
      refine hc.mono ?_
      rintro e w9 ⟨_, rfl, rfl, hb9⟩
      clear hc
      go_simp
      exact HK.out _ _ hb9 rfl _ (by simp [puts, Act.put])
    refine Steps.cons rfl ?_ ?_
    · intro l us W hl hI hd hn K' hK
      have hHas := hI.has
      have hbel := hI.bel
      have hlen := hI.len
      obtain ⟨u0, u1, u2, u3, u4, u5, u6, u7, u8, u9, rfl⟩ := list_IC1 hlen
      have HK : Hid (∀ v W', Below W.heap.size W W' → IC1 (.agg #[.slice aa a.al.length ca, .int .i64 a.n, .slice am a.ms.length cm, .slice ae a.es.length ce]) (a) 2 v W' → ∀ a', puts _ _ [u0, u1, v, u3, u4, u5, u6, u7, u8, u9] = a' → K' a' W') := fun v W' hb hv a' e => hK _ a' W' e (hI.step IC1_mono hl hb hv)
      have hWW := hWd.trans (hbel.mono hWd.size)
      have d1 : l.getD 1 false = true := by
        simp [Region.binds] at hd
        simp [hd]
      obtain rfl : u1 = _ := hHas 1 (by decide) d1
      clear hl hI hd hn hK hHas hlen d1
      refine StepG.mk ?_
      simp only [puts, Act.put]
      go_simp
      exact HK.out (.bool true) _ (Below.refl _ _) rfl _ (by simp [puts, Act.put])
    refine Steps.cons rfl ?_ ?_
    · intro l us W hl hI hd hn K' hK
      have hHas := hI.has
      have hbel := hI.bel
      have hlen := hI.len
      obtain ⟨u0, u1, u2, u3, u4, u5, u6, u7, u8, u9, rfl⟩ := list_IC1 hlen
      have HK : Hid (∀ v W', Below W.heap.size W W' → IC1 (.agg #[.slice aa a.al.length ca, .int .i64 a.n, .slice am a.ms.length cm, .slice ae a.es.length ce]) (a) 3 v W' → ∀ a', puts _ _ [u0, u1, u2, v, u4, u5, u6, u7, u8, u9] = a' → K' a' W') := fun v W' hb hv a' e => hK _ a' W' e (hI.step IC1_mono hl hb hv)
      have hWW := hWd.trans (hbel.mono hWd.size)
      have d2 : l.getD 2 false = true := by
        simp [Region.binds] at hd
        simp [hd]
      obtain rfl : u2 = _ := hHas 2 (by decide) d2
      clear hl hI hd hn hK hHas hlen d2
      refine StepG.mk ?_
      simp only [puts, Act.put]
      go_simp
      exact HK.out (.bool true) _ (Below.refl _ _) rfl _ (by simp [puts, Act.put])
    refine Steps.cons rfl ?_ ?_
    · intro l us W hl hI hd hn K' hK
      have hHas := hI.has
      have hbel := hI.bel
      have hlen := hI.len
      obtain ⟨u0, u1, u2, u3, u4, u5, u6, u7, u8, u9, rfl⟩ := list_IC1 hlen
      have HK : Hid (∀ v W', Below W.heap.size W W' → IC1 (.agg #[.slice aa a.al.length ca, .int .i64 a.n, .slice am a.ms.length cm, .slice ae a.es.length ce]) (a) 4 v W' → ∀ a', puts _ _ [u0, u1, u2, u3, v, u5, u6, u7, u8, u9] = a' → K' a' W') := fun v W' hb hv a' e => hK _ a' W' e (hI.step IC1_mono hl hb hv)
      have hWW := hWd.trans (hbel.mono hWd.size)
      have y0 := keep hbel z0 hz
      have y1 := keep hbel z1 hz
      have y2 := keep hbel z2 hz
      have y3 := keep hbel z3 hz
      have d3 : l.getD 3 false = true := by
        simp [Region.binds] at hd
        simp [hd]
      obtain rfl : u3 = _ := hHas 3 (by decide) d3
      clear hl hI hd hn hK hHas hlen d3
      refine StepG.mk ?_
      simp only [puts, Act.put]
      go_simp
      exact HK.out ((.agg #[.slice aa a.al.length ca, .int .i64 a.n, .slice am a.ms.length cm, .slice ae a.es.length ce])) _ (Below.refl _ _) rfl _ (by simp [puts, Act.put])
    refine Steps.cons rfl ?_ ?_
    · intro l us W hl hI hd hn K' hK
      have hHas := hI.has
      have hbel := hI.bel
      have hlen := hI.len
      obtain ⟨u0, u1, u2, u3, u4, u5, u6, u7, u8, u9, rfl⟩ := list_IC1 hlen
      have HK : Hid (∀ v W', Below W.heap.size W W' → IC1 (.agg #[.slice aa a.al.length ca, .int .i64 a.n, .slice am a.ms.length cm, .slice ae a.es.length ce]) (a) 5 v W' → ∀ a', puts _ _ [u0, u1, u2, u3, u4, v, u6, u7, u8, u9] = a' → K' a' W') := fun v W' hb hv a' e => hK _ a' W' e (hI.step IC1_mono hl hb hv)
      have hWW := hWd.trans (hbel.mono hWd.size)
      have y0 := keep hbel z0 hz
      have y1 := keep hbel z1 hz
      have y2 := keep hbel z2 hz
      have y3 := keep hbel z3 hz
      have d3 : l.getD 3 false = true := by
        simp [Region.binds] at hd
        simp [hd]
      obtain rfl : u3 = _ := hHas 3 (by decide) d3
      clear hl hI hd hn hK hHas hlen d3
      refine StepG.mk ?_
      simp only [puts, Act.put]
      go_simp
      exact HK.out ((.agg #[.slice aa a.al.length ca, .int .i64 a.n, .slice am a.ms.length cm, .slice ae a.es.length ce])) _ (Below.refl _ _) rfl _ (by simp [puts, Act.put])
    refine Steps.cons rfl ?_ ?_
    · intro l us W hl hI hd hn K' hK
      have hHas := hI.has
      have hbel := hI.bel
      have hlen := hI.len
      obtain ⟨u0, u1, u2, u3, u4, u5, u6, u7, u8, u9, rfl⟩ := list_IC1 hlen
      have HK : Hid (∀ v W', Below W.heap.size W W' → IC1 (.agg #[.slice aa a.al.length ca, .int .i64 a.n, .slice am a.ms.length cm, .slice ae a.es.length ce]) (a) 6 v W' → ∀ a', puts _ _ [u0, u1, u2, u3, u4, u5, v, u7, u8, u9] = a' → K' a' W') := fun v W' hb hv a' e => hK _ a' W' e (hI.step IC1_mono hl hb hv)
      have hWW := hWd.trans (hbel.mono hWd.size)
      have d3 : l.getD 3 false = true := by
        simp [Region.binds] at hd
        simp [hd]
      have d5 : l.getD 5 false = true := by
        simp [Region.binds] at hd
        simp [hd]
      obtain rfl : u3 = _ := hHas 3 (by decide) d3
      obtain rfl : u5 = _ := hHas 5 (by decide) d5
      clear hl hI hd hn hK hHas hlen d3 d5
      refine StepG.mk ?_
      simp only [puts, Act.put]
      go_simp
      refine (canonical_any _ a W (Ha.out.mono hWW) Hs.out Hok.out Hms.out Hso.out).mono ?_
      rintro e w9 ⟨u9, rfl, ⟨h9, f9⟩, hb9⟩
      rw [Hcan.out] at h9
      obtain ⟨a1, a2, a3, l1, c1, l2, c2, l3, c3, n9, rfl, _⟩ := f9
      have H9 := Lib.hid h9
      clear h9
      go_simp
      exact HK.out _ _ hb9 ⟨H9.out, _, _, _, _, rfl⟩ _ (by simp [puts, Act.put])
    refine Steps.cons rfl ?_ ?_
    · intro l us W hl hI hd hn K' hK
      have hHas := hI.has
      have hbel := hI.bel
      have hlen := hI.len
      obtain ⟨u0, u1, u2, u3, u4, u5, u6, u7, u8, u9, rfl⟩ := list_IC1 hlen
      have HK : Hid (∀ v W', Below W.heap.size W W' → IC1 (.agg #[.slice aa a.al.length ca, .int .i64 a.n, .slice am a.ms.length cm, .slice ae a.es.length ce]) (a) 7 v W' → ∀ a', puts _ _ [u0, u1, u2, u3, u4, u5, u6, v, u8, u9] = a' → K' a' W') := fun v W' hb hv a' e => hK _ a' W' e (hI.step IC1_mono hl hb hv)
      have hWW := hWd.trans (hbel.mono hWd.size)
      have hr6 : RdA W u6 a ∧ ∃ v1 v2 v3 n, u6 = .agg #[v1, .int .i64 n, v2, v3] := hHas 6 (by decide) (by simp [Region.binds] at hd; simp [hd])
      obtain ⟨hr6, v61, v62, v63, n6, rfl⟩ := hr6
      have Hr6 := Lib.hid hr6
      clear hr6
      have d3 : l.getD 3 false = true := by
        simp [Region.binds] at hd
        simp [hd]
      have d4 : l.getD 4 false = true := by
        simp [Region.binds] at hd
        simp [hd]
      have d6 : l.getD 6 false = true := by
        simp [Region.binds] at hd
        simp [hd]
      obtain rfl : u3 = _ := hHas 3 (by decide) d3
      obtain rfl : u4 = _ := hHas 4 (by decide) d4
      clear hl hI hd hn hK hHas hlen d3 d4 d6
      refine StepG.mk ?_
      simp only [puts, Act.put]
      go_simp
      refine (equal_any _ _ a W (Ha.out.mono hWW) Hr6.out Hs.out).mono ?_
      rintro e w9 ⟨_, rfl, rfl, hb9⟩
      go_simp
      exact HK.out _ _ hb9 rfl _ (by simp [puts, Act.put])
    refine Steps.cons rfl ?_ ?_
    · intro l us W hl hI hd hn K' hK
      have hHas := hI.has
      have hbel := hI.bel
      have hlen := hI.len
      obtain ⟨u0, u1, u2, u3, u4, u5, u6, u7, u8, u9, rfl⟩ := list_IC1 hlen
      have HK : Hid (∀ v W', Below W.heap.size W W' → IC1 (.agg #[.slice aa a.al.length ca, .int .i64 a.n, .slice am a.ms.length cm, .slice ae a.es.length ce]) (a) 8 v W' → ∀ a', puts _ _ [u0, u1, u2, u3, u4, u5, u6, u7, v, u9] = a' → K' a' W') := fun v W' hb hv a' e => hK _ a' W' e (hI.step IC1_mono hl hb hv)
      have hWW := hWd.trans (hbel.mono hWd.size)
      have d3 : l.getD 3 false = true := by
        simp [Region.binds] at hd
        simp [hd]
      have d7 : l.getD 7 false = true := by
        simp [Region.binds] at hd
        simp [hd]
      obtain rfl : u3 = _ := hHas 3 (by decide) d3
      obtain rfl : u7 = _ := hHas 7 (by decide) d7
      clear hl hI hd hn hK hHas hlen d3 d7
      refine StepG.mk ?_
      simp only [puts, Act.put]
      go_simp
      exact HK.out (.bool true) _ (Below.refl _ _) rfl _ (by simp [puts, Act.put])
    refine Steps.cons rfl ?_ ?_
    · intro l us W hl hI hd hn K' hK
      have hHas := hI.has
      have hbel := hI.bel
      have hlen := hI.len
      obtain ⟨u0, u1, u2, u3, u4, u5, u6, u7, u8, u9, rfl⟩ := list_IC1 hlen
      have HK : Hid (∀ v W', Below W.heap.size W W' → IC1 (.agg #[.slice aa a.al.length ca, .int .i64 a.n, .slice am a.ms.length cm, .slice ae a.es.length ce]) (a) 9 v W' → ∀ a', puts _ _ [u0, u1, u2, u3, u4, u5, u6, u7, u8, v] = a' → K' a' W') := fun v W' hb hv a' e => hK _ a' W' e (hI.step IC1_mono hl hb hv)
      have hWW := hWd.trans (hbel.mono hWd.size)
      have d8 : l.getD 8 false = true := by
        simp [Region.binds] at hd
        simp [hd]
      obtain rfl : u8 = _ := hHas 8 (by decide) d8
      clear hl hI hd hn hK hHas hlen d8
      refine StepG.mk ?_
      simp only [puts, Act.put]
      go_simp
      exact HK.out (.bool true) _ (Below.refl _ _) rfl _ (by simp [puts, Act.put])
    exact Steps.nil (Nat.le_refl _)
  · intro us W4 hlen hbel hall
    obtain ⟨u0, u1, u2, u3, u4, u5, u6, u7, u8, u9, rfl⟩ := list_IC1 hlen
    obtain rfl : u9 = _ := hall 9 (by decide)
    simp only [puts, Act.put, List.setIfInBounds_toArray, List.set_cons_succ, List.set_cons_zero]
    have HF := Lib.hid (hWd.trans (hbel.mono hWd.size))
    clear hall hlen hbel hWd z0 z1 z2 z3 hW
    go_wp2_with fail
    go_ret
    exact ⟨_, rfl, rfl, HF.out⟩
end Go.Proofs.Ythchkddhibhenaa
