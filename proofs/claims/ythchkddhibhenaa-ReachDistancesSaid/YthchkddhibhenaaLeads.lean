/- The contract of leads. -/
import Derived.Test.YthchkddhibhenaaReach
import Derived.Test.YthchkddhibhenaaSmall
namespace Go.Proofs.Ythchkddhibhenaa
open Go.RowKit

/-- Where the last edge of a state by an event leads, or -1. -/
def nextL (es : List Ed) (s e : Int) : Int := es.foldl (fun nx x => if x.f = s ∧ x.e = e then x.t else nx) (-1)
/-- Whether a word leads from a state to a target. -/
def leadsL (es : List Ed) (tg : List Int) : Int → List Int → Bool
  | s, [] => hasB tg s
  | s, e :: w => if nextL es s e < 0 then false else leadsL es tg (nextL es s e) w

theorem leadsL_drop {es : List Ed} {tg w : List Int} {s : Int} {k : Nat} (hk : k < w.length) : leadsL es tg s (w.drop k) = if nextL es s w[k] < 0 then false else leadsL es tg (nextL es s w[k]) (w.drop (k + 1)) := by
  rw [List.drop_eq_getElem_cons hk, leadsL]

theorem bel_drewN {B : Nat} {a w : World} (h : Below B a w) (n : Nat) : Below B a (w.drewN n) := h.trans ⟨rfl, rfl, rfl, Nat.le_refl _, fun _ _ => rfl⟩

set_option maxRecDepth 100000 in
set_option maxHeartbeats 1600000 in
theorem leads_any (v vw vt : Value) (a : Aut) (from_ : Int) (ws tg : List Int) (is : Bool) (w : World) (ha : RdA w v a) (hs : a.small) (h1 : RdI w vw ws) (h2 : RdI w vt tg) (hl1 : ws.length ≤ 1000000) (hl2 : tg.length ≤ 1000000) :
    Calls Try.prog 21 #[v, .int .i64 from_, vw, vt, .bool is] w (Ret w fun u _ => u = .bool (!is || leadsL a.es tg from_ ws)) := by
  have ha0 := ha
  obtain ⟨va, vm, ve, rfl, ⟨aa, ca, rfl, hra⟩, ⟨am, cm, rfl, hrm⟩, ⟨ae, ce, rfl, hre⟩⟩ := ha
  obtain ⟨aw, cw, rfl, hrw⟩ := h1
  obtain ⟨at_, ct, rfl, hrt⟩ := h2
  have hse := hs.es
  obtain ⟨al, n, ms, es⟩ := a
  dsimp only at *
  clear ha0 hs hra hrm
  cases is with
  | false =>
    go_enter Try.func21, Try.ntmps21
    go_wp2
    go_ret
    exact ⟨_, rfl, rfl, (by (repeat (first | with_reducible exact Below.refl _ _ | with_reducible exact hre | (with_reducible refine belCall ?_ hre (by first | omega | (simp; done) | (simp; omega) | (simp at *; omega))) | (with_reducible refine Below.alloc ?_ (by first | omega | (simp; done) | (simp; omega) | (simp at *; omega)) _) | (with_reducible refine Below.drew ?_) | (with_reducible refine Below.setCell ?_ (by first | omega | (simp; done) | (simp; omega) | (simp at *; omega)) _))))⟩
  | true =>
    go_enter Try.func21, Try.ntmps21
    go_wp2_with fail
    go_loopw [1, 11] (fun s i wr => ∃ (k : Nat) (st : Int), k ≤ ws.length ∧ s = .int .i64 st ∧ i = .int .i64 k ∧ Hid (leadsL es tg from_ ws = leadsL es tg st (ws.drop k)) ∧ Below (w.heap.size + 1) (w.alloc (.cells #[.slice aa al.length ca, .int .i64 n, .slice am ms.length cm, .slice ae es.length ce] 31)) wr) (fun _ i _ => ws.length - (intOf i).toNat)
    case atStart => exact ⟨0, from_, Nat.zero_le _, rfl, rfl, rfl, Below.refl _ _⟩
    case round =>
      obtain ⟨k, st, hk, rfl, rfl, hn, hB⟩ := hrel
      have hB0 : Below w.heap.size w wr := ((Below.refl _ _).alloc (Nat.le_refl _) _).trans (hB.mono (Nat.le_succ _))
      by_cases hlt : k < ws.length
      · obtain ⟨bw, ow, rfl, hcw⟩ := hrw.at_int k hlt
        have Hdrop := Lib.hid (leadsL_drop (es := es) (tg := tg) (s := st) hlt)
        have hbz := World.block_lt_of_cell? _ _ hcw
        dsimp only at hbz
        generalize ws[k] = ev at *
        go_wp2_with fail
        go_loopw [12, 13] (fun nx j wr' => ∃ (m : Nat) (nv : Int), m ≤ es.length ∧ nx = .int .i64 nv ∧ j = .int .i64 m ∧ Hid (nextL es st ev = (es.drop m).foldl (fun nx x => if x.f = st ∧ x.e = ev then x.t else nx) nv) ∧ Below (w.heap.size + 1) (w.alloc (.cells #[.slice aa al.length ca, .int .i64 n, .slice am ms.length cm, .slice ae es.length ce] 31)) wr') (fun _ j _ => es.length - (intOf j).toNat)
        case atStart => exact ⟨0, -1, Nat.zero_le _, rfl, rfl, rfl, hB⟩
        case round =>
          clear hB hB0
          obtain ⟨m, nv, hm, rfl, rfl, hnx, hB⟩ := hrel
          have hB0 : Below w.heap.size w wr := ((Below.refl _ _).alloc (Nat.le_refl _) _).trans (hB.mono (Nat.le_succ _))
          have hbx : wr.cell? ⟨w.heap.size, 3, none⟩ = some (.slice ae es.length ce) := (hB.cell (p := ⟨w.heap.size, 3, none⟩) (by simp)).trans (by simp [go_sem])
          have hbd := hB.drew
          by_cases hltm : m < es.length
          · obtain ⟨b, off, rfl, d0, d1, d2⟩ := hre.at_edge m hltm
            have Hd := Lib.hid (show (es.drop m).foldl (fun nx x => if x.f = st ∧ x.e = ev then x.t else nx) nv = (es.drop (m + 1)).foldl (fun nx x => if x.f = st ∧ x.e = ev then x.t else nx) (if es[m].f = st ∧ es[m].e = ev then es[m].t else nv) by rw [List.drop_eq_getElem_cons hltm, List.foldl_cons])
            have e0 := keep0 hB0 d0
            have e1 := keep0 hB0 d1
            have e2 := keep0 hB0 d2
            have e3 := keep0 hB0 hcw
            generalize es[m] = x at *
            obtain ⟨xf, xe, xt⟩ := x
            dsimp only at *
            clear d0 d1 d2 hcw
            by_cases hf : xf = st
            · have q1 : (xf == st) = true := by simpa using hf
              by_cases he : xe = ev
              · have q2 : (xe == ev) = true := by simpa using he
                have Hd2 : Hid (nextL es st ev = (es.drop (m + 1)).foldl (fun nx x => if x.f = st ∧ x.e = ev then x.t else nx) xt) := by
                  show _ = _
                  rw [hnx.out, Hd.out, if_pos ⟨hf, he⟩]
                clear Hd hnx hf he
                go_wp2_with fail
                go_quiet (fail)
                go_wp2_with fail
                go_roundw
                case rel => exact ⟨m + 1, xt, by omega, rfl, by go_num, Hd2.out, bel_drewN hB _⟩
                case measure => simp [intOf]; omega
              · have q2 : (xe == ev) = false := by simpa using he
                have Hd2 : Hid (nextL es st ev = (es.drop (m + 1)).foldl (fun nx x => if x.f = st ∧ x.e = ev then x.t else nx) nv) := by
                  show _ = _
                  rw [hnx.out, Hd.out, if_neg (fun h => he h.2)]
                clear Hd hnx hf he
                go_wp2_with fail
                go_quiet (fail)
                go_wp2_with fail
                go_roundw
                case rel => exact ⟨m + 1, nv, by omega, rfl, by go_num, Hd2.out, bel_drewN hB _⟩
                case measure => simp [intOf]; omega
            · have q1 : (xf == st) = false := by simpa using hf
              have Hd2 : Hid (nextL es st ev = (es.drop (m + 1)).foldl (fun nx x => if x.f = st ∧ x.e = ev then x.t else nx) nv) := by
                show _ = _
                rw [hnx.out, Hd.out, if_neg (fun h => hf h.1)]
              clear Hd hnx hf
              go_wp2_with fail
              go_quiet (fail)
              go_wp2_with fail
              go_roundw
              case rel => exact ⟨m + 1, nv, by omega, rfl, by go_num, Hd2.out, bel_drewN hB _⟩
              case measure => simp [intOf]; omega
          · have hml : m = es.length := by omega
            have Hnv : Hid (nextL es st ev = nv) := by
              show _ = _
              rw [hnx.out, hml, List.drop_length]; rfl
            clear hnx hml
            by_cases h0 : nv < 0
            · have HF : Hid (leadsL es tg from_ ws = false) := by
                show _ = _
                rw [hn.out, Hdrop.out, Hnv.out, if_pos h0]
              go_wp2_with fail
              go_ret
              exact ⟨_, rfl, by rw [HF.out]; rfl, hB0⟩
            · have HF : Hid (leadsL es tg from_ ws = leadsL es tg nv (ws.drop (k + 1))) := by
                show _ = _
                rw [hn.out, Hdrop.out, Hnv.out, if_neg h0]
              go_wp2_with fail
              go_roundw
              case rel => exact ⟨k + 1, nv, by omega, rfl, by go_num, HF.out, hB⟩
              case measure => simp [intOf]; omega
      · have HF : Hid (leadsL es tg from_ ws = hasB tg st) := by
          show _ = _
          rw [hn.out, show k = ws.length by omega, List.drop_length]; rfl
        clear hn hB
        go_wp2_with fail
        go_loopw [14] (fun j wr => ∃ m : Nat, m ≤ tg.length ∧ j = .int .i64 m ∧ Hid (st ∉ tg.take m) ∧ Below w.heap.size w wr) (fun j _ => tg.length - (intOf j).toNat)
        case atStart => exact ⟨0, Nat.zero_le _, rfl, by simp [Hid], hB0⟩
        case round =>
          clear hB0
          obtain ⟨m, hm, rfl, hno, hB0⟩ := hrel
          by_cases hltm : m < tg.length
          · obtain ⟨b, off, rfl, d0⟩ := hrt.at_int m hltm
            have e0 := keep0 hB0 d0
            have hsn := @notin_snoc tg m st hltm
            have hmem := List.getElem_mem hltm
            generalize tg[m] = x at *
            have Hsn := Lib.hid hsn
            have Hmem := Lib.hid hmem
            clear d0 hsn hmem
            by_cases hx : x = st
            · have q : (x == st) = true := by simpa using hx
              have Hx := Lib.hid hx
              clear hx
              go_wp2_with fail
              go_ret
              exact ⟨_, rfl, by rw [HF.out, hasB_true.2 (Hx.out ▸ Hmem.out)]; rfl, hB0⟩
            · have q : (x == st) = false := by simpa using hx
              clear hx
              have Hsn2 := Hsn.out hno q
              go_wp2_with fail
              go_roundw
              case rel => exact ⟨m + 1, by omega, by go_num, Hsn2, hB0⟩
              case measure => simp [intOf]; omega
          · go_wp2_with fail
            go_ret
            exact ⟨_, rfl, by rw [HF.out, hasB_false.2 (notin_all hm hltm hno)]; rfl, hB0⟩
end Go.Proofs.Ythchkddhibhenaa
