/- The contract of the reference's Distance. -/
import Derived.Test.YthchkddhibhenaaFrom
namespace Go.Proofs.Ythchkddhibhenaa
open Go.RowKit

/-- One step of the next level. -/
def lvStep (P nx : List Int) (x : Ed) : List Int := if hasB P x.f then addL nx x.t else nx
/-- The next level. -/
def lvl (es : List Ed) (P : List Int) : List Int := es.foldl (lvStep P) []
/-- What Distance returns, by the rounds that are left. -/
def distR (es : List Ed) (tg : List Int) : Nat → Int → List Int → Int
  | 0, _, _ => -1
  | f + 1, k, P => if P.any (hasB tg) then k else distR es tg f (k + 1) (lvl es P)

theorem lvStep_inc {P nx : List Int} (h : Inc nx) (x : Ed) : Inc (lvStep P nx x) := by
  unfold lvStep; split
  · exact addL_inc h _
  · exact h
theorem lvStep_len {P nx : List Int} (h : Inc nx) (x : Ed) : (lvStep P nx x).length ≤ nx.length + 1 := by
  unfold lvStep; split
  · rcases addL_len h x.t with ⟨_, h⟩ | ⟨_, h⟩
    · rw [h]; omega
    · omega
  · omega

set_option maxRecDepth 100000 in
set_option maxHeartbeats 1600000 in
theorem rdistance_any (v vt : Value) (al ms : List Int) (n : Nat) (es : List Ed) (st : Int) (tg : List Int) (w : World) (ha : RdA w v ⟨al, n, ms, es⟩) (hes : es.length ≤ 100000) (hn : n ≤ 100000) (h2 : RdI w vt tg) (hl2 : tg.length ≤ 1000000) :
    Calls Try.prog 16 #[v, .int .i64 st, vt] w (Ret w fun u _ => u = .int .i64 (distR es tg (n + 1) 0 [st])) := by
  obtain ⟨va, vm, ve, rfl, ⟨aa, ca, rfl, hra⟩, ⟨am, cm, rfl, hrm⟩, ⟨ae, ce, rfl, hre⟩⟩ := ha
  dsimp only at *
  have H2 := Lib.hid h2
  clear hra hrm h2
  generalize hR0 : distR es tg (n + 1) 0 [st] = R
  have Hres := Lib.hid hR0.symm
  clear hR0
  go_enter Try.func16, Try.ntmps16
  go_wp2_with fail
  go_loopw [7, 8] (fun o i wr => ∃ (k : Nat) (P : List Int), k ≤ n + 1 ∧ i = .int .i64 k ∧ Below (w.heap.size + 1) (w.alloc (.cells #[.slice aa al.length ca, .int .i64 n, .slice am ms.length cm, .slice ae es.length ce] 31)) wr ∧ RdI wr o P ∧ P.length ≤ 100000 + 1 ∧ Hid (R = distR es tg (n + 1 - k) k P)) (fun _ i _ => n + 1 - (intOf i).toNat)
  case atStart => exact ⟨0, [st], Nat.zero_le _, rfl, (Below.refl _ _).alloc (by simp) _, ⟨_, 1, rfl, RdS.lit (cs := #[.int .i64 st]) (heap_at (by simp)) rfl (by show 1 ≤ 1000000; decide)⟩, by simp, Hres⟩
  case round =>
    obtain ⟨k, P, hk, rfl, hB, hO, hlen, hR⟩ := hrel
    have hB0 : Below w.heap.size w wr := ((Below.refl _ _).alloc (Nat.le_refl _) _).trans (hB.mono (Nat.le_succ _))
    have hsz := hB.size
    simp only [World.size_alloc] at hsz
    have c1 : wr.cell? ⟨w.heap.size, 1, none⟩ = some (.int .i64 n) := (hB.cell (p := ⟨w.heap.size, 1, none⟩) (by simp)).trans (by simp [go_sem])
    have HO := Lib.hid hO
    obtain ⟨ao, co, rfl, hP⟩ := hO
    by_cases hlt : k ≤ n
    · have hlt' : (k : Int) ≤ n := by omega
      have HR : Hid (R = if P.any (hasB tg) then (k : Int) else distR es tg (n + 1 - (k + 1)) (k + 1) (lvl es P)) := by
        show _ = _
        rw [hR.out, show n + 1 - k = (n + 1 - (k + 1)) + 1 by omega]; rfl
      clear hR
      go_wp2_with fail
      go_loopw [10] (fun i wr' => ∃ j : Nat, j ≤ P.length ∧ i = .int .i64 j ∧ Below wr.heap.size wr wr' ∧ Hid (P.any (hasB tg) = (P.drop j).any (hasB tg))) (fun i _ => P.length - (intOf i).toNat)
      case atStart => exact ⟨0, Nat.zero_le _, rfl, Below.refl _ _, rfl⟩
      case round =>
        obtain ⟨j, hj, rfl, hB1, hany⟩ := hrel
        have hB01 := hB0.trans (hB1.mono hB0.size)
        have hB2 := hB.trans (hB1.mono hsz)
        by_cases hltj : j < P.length
        · obtain ⟨b, off, rfl, hc⟩ := hP.at_int j hltj
          replace hc := keep0 hB1 hc
          have Hd : Hid ((P.drop j).any (hasB tg) = (hasB tg P[j] || (P.drop (j + 1)).any (hasB tg))) := by
            show _ = _
            rw [List.drop_eq_getElem_cons hltj]; rfl
          generalize P[j] = s at *
          cases hw : hasB tg s with
          | false =>
            have HW := Lib.hid hw
            have HQ : Hid (P.any (hasB tg) = (P.drop (j + 1)).any (hasB tg)) := by show _ = _; rw [hany.out, Hd.out, hw]; rfl
            clear hw hany Hd
            go_wp2_with fail
            refine (has_any _ tg s _ (H2.out.mono (by (repeat (first | with_reducible exact Below.refl _ _ | with_reducible exact hB01 | (with_reducible refine belCall ?_ hB01 (by first | omega | (simp; done) | (simp; omega) | (simp at *; omega))) | (with_reducible refine Below.alloc ?_ (by first | omega | (simp; done) | (simp; omega) | (simp at *; omega)) _) | (with_reducible refine Below.drew ?_) | (with_reducible refine Below.setCell ?_ (by first | omega | (simp; done) | (simp; omega) | (simp at *; omega)) _))))) hl2).mono ?_
            rintro e w1 ⟨rfl, rfl⟩
            rw [HW.out]
            go_wp2_with fail
            go_roundw
            case rel => exact ⟨j + 1, by omega, by go_num, (by (repeat (first | with_reducible exact Below.refl _ _ | with_reducible exact hB1 | (with_reducible refine belCall ?_ hB1 (by first | omega | (simp; done) | (simp; omega) | (simp at *; omega))) | (with_reducible refine Below.alloc ?_ (by first | omega | (simp; done) | (simp; omega) | (simp at *; omega)) _) | (with_reducible refine Below.drew ?_) | (with_reducible refine Below.setCell ?_ (by first | omega | (simp; done) | (simp; omega) | (simp at *; omega)) _)))), HQ.out⟩
            case measure => simp [intOf]; omega
          | true =>
            have HW := Lib.hid hw
            have HQ : Hid (R = k) := by show _ = _; rw [HR.out, hany.out, Hd.out, hw]; rfl
            clear hw hany Hd
            go_wp2_with fail
            refine (has_any _ tg s _ (H2.out.mono (by (repeat (first | with_reducible exact Below.refl _ _ | with_reducible exact hB01 | (with_reducible refine belCall ?_ hB01 (by first | omega | (simp; done) | (simp; omega) | (simp at *; omega))) | (with_reducible refine Below.alloc ?_ (by first | omega | (simp; done) | (simp; omega) | (simp at *; omega)) _) | (with_reducible refine Below.drew ?_) | (with_reducible refine Below.setCell ?_ (by first | omega | (simp; done) | (simp; omega) | (simp at *; omega)) _))))) hl2).mono ?_
            rintro e w1 ⟨rfl, rfl⟩
            rw [HW.out]
            go_wp2_with fail
            go_ret
            exact ⟨_, rfl, by rw [HQ.out]; rfl, (by (repeat (first | with_reducible exact Below.refl _ _ | with_reducible exact hB01 | (with_reducible refine belCall ?_ hB01 (by first | omega | (simp; done) | (simp; omega) | (simp at *; omega))) | (with_reducible refine Below.alloc ?_ (by first | omega | (simp; done) | (simp; omega) | (simp at *; omega)) _) | (with_reducible refine Below.drew ?_) | (with_reducible refine Below.setCell ?_ (by first | omega | (simp; done) | (simp; omega) | (simp at *; omega)) _))))⟩
        · have HQ : Hid (R = distR es tg (n + 1 - (k + 1)) (k + 1) (lvl es P)) := by
            show _ = _
            rw [HR.out, hany.out, List.drop_of_length_le (by omega)]; rfl
          have HP := HO.out.mono hB1
          have HP2 := Lib.hid HP
          clear HR hany HP HO hP
          go_wp2_with fail
          go_loopw [9, 11] (fun o i wr' => ∃ (j : Nat) (Q : List Int), j ≤ es.length ∧ i = .int .i64 j ∧ Below (w.heap.size + 1) (w.alloc (.cells #[.slice aa al.length ca, .int .i64 n, .slice am ms.length cm, .slice ae es.length ce] 31)) wr' ∧ RdI wr' o Q ∧ Inc Q ∧ Q.length ≤ j ∧ RdI wr' (.slice ao P.length co) P ∧ Hid (lvl es P = (es.drop j).foldl (lvStep P) Q)) (fun _ i _ => es.length - (intOf i).toNat)
          case atStart => exact ⟨0, [], Nat.zero_le _, rfl, hB2, RdI.nil0 _, List.Pairwise.nil, Nat.le_refl _, HP2.out, rfl⟩
          case round =>
            clear hB hB0 hB1 hB01 hB2 HP2 c1 hsz
            obtain ⟨j', Q, hj', rfl, hB, hO2, hinc2, hQl, HP3, hf⟩ := hrel
            have hB0 : Below w.heap.size w wr := ((Below.refl _ _).alloc (Nat.le_refl _) _).trans (hB.mono (Nat.le_succ _))
            have hsz := hB.size
            simp only [World.size_alloc] at hsz
            have c3 : wr.cell? ⟨w.heap.size, 3, none⟩ = some (.slice ae es.length ce) := (hB.cell (p := ⟨w.heap.size, 3, none⟩) (by simp)).trans (by simp [go_sem])
            have HQ2 := Lib.hid hO2
            have HP := Lib.hid HP3
            have Hinc2 := Lib.hid hinc2
            obtain ⟨aq, cq, rfl, hO'⟩ := hO2
            clear hO' hinc2 HP3
            by_cases hltj' : j' < es.length
            · obtain ⟨b, off, rfl, d0, d1, d2⟩ := hre.at_edge j' hltj'
              have Hd : Hid (lvl es P = (es.drop (j' + 1)).foldl (lvStep P) (lvStep P Q es[j'])) := by
                show _ = _
                rw [hf.out, List.drop_eq_getElem_cons hltj', List.foldl_cons]
              replace d0 := keep0 hB0 d0
              replace d1 := keep0 hB0 d1
              replace d2 := keep0 hB0 d2
              clear hf
              generalize es[j'] = x at *
              obtain ⟨xf, xe, xt⟩ := x
              dsimp only at *
              have hPl : P.length ≤ 1000000 := by omega
              cases h1 : hasB P xf with
              | false =>
                have E1 := Lib.hid h1
                have HZ : Hid (lvl es P = (es.drop (j' + 1)).foldl (lvStep P) Q) := by
                  show _ = _
                  rw [Hd.out]; unfold lvStep; rw [if_neg (by rw [h1]; simp)]
                clear h1 Hd
                go_wp2_with fail
                refine (has_any _ P xf _ (HP.out.mono (by (repeat (first | with_reducible exact Below.refl _ _ | with_reducible exact hB0 | (with_reducible refine belCall ?_ hB0 (by first | omega | (simp; done) | (simp; omega) | (simp at *; omega))) | (with_reducible refine Below.alloc ?_ (by first | omega | (simp; done) | (simp; omega) | (simp at *; omega)) _) | (with_reducible refine Below.drew ?_) | (with_reducible refine Below.setCell ?_ (by first | omega | (simp; done) | (simp; omega) | (simp at *; omega)) _))))) hPl).mono ?_
                rintro e w1 ⟨rfl, rfl⟩
                rw [E1.out]
                go_wp2_with fail
                go_roundw
                case rel => exact ⟨j' + 1, Q, by omega, by go_num, (by (repeat (first | with_reducible exact Below.refl _ _ | with_reducible exact hB | (with_reducible refine belCall ?_ hB (by first | omega | (simp; done) | (simp; omega) | (simp at *; omega))) | (with_reducible refine Below.alloc ?_ (by first | omega | (simp; done) | (simp; omega) | (simp at *; omega)) _) | (with_reducible refine Below.drew ?_) | (with_reducible refine Below.setCell ?_ (by first | omega | (simp; done) | (simp; omega) | (simp at *; omega)) _)))), HQ2.out, Hinc2.out, by omega, HP.out, HZ.out⟩
                case measure => simp [intOf]; omega
              | true =>
                have E1 := Lib.hid h1
                have HL := Lib.hid (lvStep_len (P := P) Hinc2.out ⟨xf, xe, xt⟩)
                have HI := Lib.hid (lvStep_inc (P := P) Hinc2.out ⟨xf, xe, xt⟩)
                have HT : lvStep P Q ⟨xf, xe, xt⟩ = addL Q xt := by unfold lvStep; rw [if_pos h1]
                rw [HT] at Hd HL HI
                clear h1 HT
                go_wp2_with fail
                refine (has_any _ P xf _ (HP.out.mono (by (repeat (first | with_reducible exact Below.refl _ _ | with_reducible exact hB0 | (with_reducible refine belCall ?_ hB0 (by first | omega | (simp; done) | (simp; omega) | (simp at *; omega))) | (with_reducible refine Below.alloc ?_ (by first | omega | (simp; done) | (simp; omega) | (simp at *; omega)) _) | (with_reducible refine Below.drew ?_) | (with_reducible refine Below.setCell ?_ (by first | omega | (simp; done) | (simp; omega) | (simp at *; omega)) _))))) hPl).mono ?_
                rintro e w1 ⟨rfl, rfl⟩
                rw [E1.out]
                go_wp2_with fail
                refine (add_any _ Q xt _ HQ2.out (by omega)).mono ?_
                rintro e w1 ⟨v1, rfl, hr1, hb1⟩
                have Hr1 := Lib.hid hr1
                obtain ⟨a1, c1, rfl, hr1'⟩ := hr1
                have hB1 := hB.trans (hb1.mono (by omega))
                have HP1 := Lib.hid (HP.out.mono hb1)
                have HL2 := HL.out
                clear hr1' hb1
                go_wp2_with fail
                go_roundw
                case rel => exact ⟨j' + 1, addL Q xt, by omega, by go_num, hB1, Hr1.out, HI.out, by omega, HP1.out, Hd.out⟩
                case measure => simp [intOf]; omega
            · have HL2 : Hid (lvl es P = Q) := by
                show _ = _
                rw [hf.out, List.drop_of_length_le (by omega)]; rfl
              have HR3 : Hid (R = distR es tg (n + 1 - (k + 1)) ((k + 1 : Nat) : Int) Q) := by
                show _ = _
                rw [HQ.out, HL2.out]; rfl
              clear hf HL2 HQ
              go_wp2_with fail
              go_roundw
              case rel => exact ⟨k + 1, Q, by omega, by go_num, hB, HQ2.out, by omega, HR3.out⟩
              case measure => simp [intOf]; omega
    · have HR : Hid (R = -1) := by
        show _ = _
        rw [hR.out, show n + 1 - k = 0 by omega]; rfl
      clear hR
      go_wp2_with fail
      go_ret
      exact ⟨_, rfl, by rw [HR.out]; rfl, hB0⟩
end Go.Proofs.Ythchkddhibhenaa
