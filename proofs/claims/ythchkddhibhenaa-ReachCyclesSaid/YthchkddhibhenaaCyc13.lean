/- The contract of the reference's Path. -/
import Derived.Deep.LoopGhost
import Derived.BigQuiet
import Derived.Test.YthchkddhibhenaaCyc9
import Derived.Test.YthchkddhibhenaaCyc10
import Derived.Test.YthchkddhibhenaaCyc11
import Derived.Test.YthchkddhibhenaaCyc12
namespace Go.Proofs.Ythchkddhibhenaa
open Go Go.RowKit

/-- What the reference's Path returns. -/
def QPost (r : Option (List Int)) (u : Value) (w' : World) : Prop :=
  match r with
  | some xs => ∃ v, u = .tuple #[v, .bool true] ∧ RdI w' v xs
  | none => u = .tuple #[.slice none 0 0, .bool false]
theorem QPost.none' {r : Option (List Int)} {w' : World} (h : r = none) : QPost r (.tuple #[.slice none 0 0, .bool false]) w' := by subst h; rfl
theorem QPost.some' {r : Option (List Int)} {w' : World} {xs : List Int} {v : Value} (h : r = some xs) (hr : RdI w' v xs) : QPost r (.tuple #[v, .bool true]) w' := by subst h; exact ⟨v, rfl, hr⟩

/-- What holds of the slots of the region that looks at an edge. -/
def RR16 (bx : Nat) (vw vv vS L : Value) (j bl ol : Nat) (xf xe xt rt : Int) (b1 g2 g3 g4 c2 c3 c4 : Bool) : Nat → Value → Prop
  | 0, v => v = .pointer (some ⟨bx, 0, none⟩)
  | 1, v => v = .int .i64 xf
  | 2, v => v = L
  | 3, v => v = .int .i64 j
  | 4, v => v = .pointer (some ⟨bl, ol + j * 2, none⟩)
  | 5, v => v = .pointer (some ⟨bl, ol + j * 2 + 1, none⟩)
  | 6, v => v = .int .i64 rt
  | 7, v => v = .bool b1
  | 8, v => v = .bool b1
  | 9, v => b1 = false → v = vw
  | 10, v => b1 = false → v = .pointer (some ⟨bx, 2, none⟩)
  | 11, v => b1 = false → v = .int .i64 xt
  | 12, v => b1 = false → v = .bool c2
  | 13, v => b1 = false → v = .bool (!c2)
  | 14, v => v = .bool g2
  | 15, v => v = .bool g2
  | 16, v => g2 = false → v = vv
  | 17, v => g2 = false → v = .pointer (some ⟨bx, 1, none⟩)
  | 18, v => g2 = false → v = .int .i64 xe
  | 19, v => g2 = false → v = .bool c3
  | 20, v => g2 = false → v = .bool (!c3)
  | 21, v => v = .bool g3
  | 22, v => v = .bool g3
  | 23, v => g3 = false → v = vS
  | 24, v => g3 = false → v = .pointer (some ⟨bx, 2, none⟩)
  | 25, v => g3 = false → v = .int .i64 xt
  | 26, v => g3 = false → v = .bool c4
  | 27, v => v = .bool g4
  | _ + 28, _ => False
theorem list28p {us : List Value} (h : us.length = 28) : ∃ u0 u1 u2 u3 u4 u5 u6 u7 u8 u9 u10 u11 u12 u13 u14 u15 u16 u17 u18 u19 u20 u21 u22 u23 u24 u25 u26 u27, us = [u0, u1, u2, u3, u4, u5, u6, u7, u8, u9, u10, u11, u12, u13, u14, u15, u16, u17, u18, u19, u20, u21, u22, u23, u24, u25, u26, u27] := by
  match us, h with
  | [u0, u1, u2, u3, u4, u5, u6, u7, u8, u9, u10, u11, u12, u13, u14, u15, u16, u17, u18, u19, u20, u21, u22, u23, u24, u25, u26, u27], _ => exact ⟨_, _, _, _, _, _, _, _, _, _, _, _, _, _, _, _, _, _, _, _, _, _, _, _, _, _, _, _, rfl⟩

/-- What holds of the rest while the word is made. -/
def PhiR (w : World) (c0 c1 c2 c3 vL : Value) (ML : MRuns) (vS : Value) (S : List Int) (vN : Value) (MN : MRuns) (bx : Nat) (xf xe xt : Int) (tag : Nat → Nat) (W : World) : Prop := RInv w c0 c1 c2 c3 W tag vL ML vS S vN MN ∧ Own W w.heap.size tag 5 bx #[.int .i64 xf, .int .i64 xe, .int .i64 xt] 45
theorem PhiR_turn {w : World} {c0 c1 c2 c3 vL : Value} {ML : MRuns} {vS : Value} {S : List Int} {vN : Value} {MN : MRuns} {bx : Nat} {xf xe xt : Int} : ∀ {tag tag' k W W'}, Turn w.heap.size tag tag' k W W' → w.heap.size ≤ W.heap.size → 6 ≤ k → PhiR w c0 c1 c2 c3 vL ML vS S vN MN bx xf xe xt tag W → PhiR w c0 c1 c2 c3 vL ML vS S vN MN bx xf xe xt tag' W' :=
  fun ht _ hk h => ⟨h.1.turn ht (by omega), h.2.turn ht (by omega)⟩
/-- What holds of the slots that hold no memory of the word. -/
def PR18 (L : Value) (j bl ol bx : Nat) (vwd : Value) (xe : Int) : Nat → Value → Prop
  | 1, v => v = L
  | 2, v => v = .int .i64 j
  | 3, v => v = .pointer (some ⟨bl, ol + j * 2, none⟩)
  | 4, v => v = .pointer (some ⟨bl, ol + j * 2, none⟩)
  | 5, v => v = vwd
  | 7, v => v = .pointer (some ⟨bx, 1, none⟩)
  | 8, v => v = .int .i64 xe
  | _, _ => True
theorem list12p {us : List Value} (h : us.length = 12) : ∃ u0 u1 u2 u3 u4 u5 u6 u7 u8 u9 u10 u11, us = [u0, u1, u2, u3, u4, u5, u6, u7, u8, u9, u10, u11] := by
  match us, h with
  | [u0, u1, u2, u3, u4, u5, u6, u7, u8, u9, u10, u11], _ => exact ⟨_, _, _, _, _, _, _, _, _, _, _, _, rfl⟩

theorem pOk_of {W E S : List Int} {s : Int} {x : Ed} {b1 c2 c3 c4 g2 g3 g4 : Bool} (h1 : (x.f != s) = b1) (h2 : hasB W x.t = c2) (h3 : hasB E x.e = c3) (h4 : hasB S x.t = c4) (e2 : g2 = (b1 || !c2)) (e3 : g3 = (g2 || !c3)) (e4 : g4 = (g3 || c4)) :
    (g4 = true → ¬ pOk W E S s x) ∧ (g4 = false → pOk W E S s x) := by
  subst e4; subst e3; subst e2; subst h1; subst h2; subst h3; subst h4
  unfold pOk
  constructor
  · rintro h ⟨p1, p2, p3, p4⟩
    simp [p1, p2, p3, p4] at h
  · intro h
    simp only [Bool.or_eq_false_iff, Bool.not_eq_false', bne_eq_false_iff_eq] at h
    exact ⟨h.1.1.1, h.1.1.2, h.1.2, h.2⟩

theorem Try.info_run : (Try.prog.info? 92).map (fun i => (i.zero, i.size, i.bytes)) = some (some (.agg #[.slice none 0 0, .int .i64 0]), 2, 32) := by kernel_rfl

set_option maxRecDepth 100000 in
set_option maxHeartbeats 6400000 in
theorem refpath_any (v vt vw vv : Value) (al ms : List Int) (n : Nat) (es : List Ed) (st : Int) (tg wi evs : List Int) (least : Int) (w : World) (ha : RdA w v ⟨al, n, ms, es⟩) (hes : es.length ≤ 100000) (h1 : RdI w vt tg) (h2 : RdI w vw wi) (h3 : RdI w vv evs) (hl1 : tg.length ≤ 1000000) (hl2 : wi.length ≤ 1000000) (hl3 : evs.length ≤ 1000000) :
    Calls Try.prog 18 #[v, .int .i64 st, vt, vw, vv, .int .i64 least] w (Ret w (QPost (pathR es wi evs tg least st))) := by
  obtain ⟨va, vm, ve, rfl, ⟨aa, ca, rfl, hra⟩, ⟨am, cm, rfl, hrm⟩, ⟨ae, ce, rfl, hre⟩⟩ := ha
  dsimp only at *
  have H1 := Lib.hid h1
  have H2 := Lib.hid h2
  have H3 := Lib.hid h3
  clear hra hrm h1 h2 h3
  generalize hR0 : pathR es wi evs tg least st = R
  have HR0 := Lib.hid hR0.symm
  clear hR0
  go_enter Try.func18, Try.ntmps18
  have hBa := bel_alloc w (.cells #[.slice aa al.length ca, .int .i64 n, .slice am ms.length cm, .slice ae es.length ce] 31)
  cases hw : hasB wi st with
  | false =>
    have E1 := Lib.hid hw
    have HR : Hid (R = none) := by show _ = _; rw [HR0.out, pathR, if_pos hw]
    clear hw
    go_wp2_with fail
    refine (has_any _ wi st _ (H2.out.mono hBa) hl2).mono ?_
    rintro e w1 ⟨rfl, rfl⟩
    rw [E1.out]
    go_wp2_with fail
    go_ret2
    exact ⟨_, rfl, QPost.none' HR.out, hBa⟩
  | true =>
    have E1 := Lib.hid hw
    generalize hb0 : (least == 0 && hasB tg st) = b0
    have HB0 : Hid (R = if b0 = true then some [] else lLoop es wi evs tg (es.length + 2) [([], st)] []) := by
      show _ = _
      rw [HR0.out, pathR, if_neg (by rw [hw]; simp), ← hb0]
      simp
    have B0 := Lib.hid hb0
    clear hb0 hw HR0
    obtain ⟨i0, hi, hz0, hz1, hz2⟩ := info_parts Try.info_int
    obtain ⟨i1, hi1, hy0, hy1, hy2⟩ := info_parts Try.info_run
    go_wp2_with fail
    refine (has_any _ wi st _ (H2.out.mono hBa) hl2).mono ?_
    rintro e w1 ⟨rfl, rfl⟩
    rw [E1.out]
    go_upto_region 3 with fail
    go_cut [31] from 25 to 31 (fun s31 wx => s31 = .bool b0 ∧ wx = w.alloc (.cells #[.slice aa al.length ca, .int .i64 n, .slice am ms.length cm, .slice ae es.length ce] 31))
    case first =>
      by_cases h0 : least = 0
      · have HB1 : Hid (hasB tg st = b0) := by show _ = _; rw [← B0.out, h0]; simp
        subst h0
        go_wp2_with fail
        refine (has_any _ tg st _ (H1.out.mono hBa) hl1).mono ?_
        rintro e w1 ⟨rfl, rfl⟩
        rw [HB1.out]
        go_wp2_with fail
        go_meet
        exact ⟨rfl, rfl⟩
      · have HB1 : Hid (false = b0) := by show _ = _; rw [← B0.out, show (least == 0) = false by simpa using h0]; rfl
        have h1 : (least == 0) = false := by simpa using h0
        go_wp2_with fail
        go_meet
        exact ⟨by rw [← HB1.out], rfl⟩
    case rest =>
      obtain ⟨rfl, rfl⟩ := hcut
      cases b0 with
      | true =>
        have HR : Hid (R = some []) := by show _ = _; rw [HB0.out]; simp
        clear HB0 B0
        go_wp2_with fail
        go_ret2
        exact ⟨_, rfl, QPost.some' HR.out (RdI.nil0 _), hBa⟩
      | false =>
        have HR : Hid (R = lLoop es wi evs tg (es.length + 2) [([], st)] []) := by show _ = _; rw [HB0.out]; simp
        clear HB0 B0
        go_wp2_with fail
        go_loopg [14, 15] (news es [] + 1) (fun gk vl vs wr => ∃ (f : Nat) (ML : MRuns) (S : List Int) (tag : Nat → Nat), RInv w (.slice aa al.length ca) (.int .i64 n) (.slice am ms.length cm) (.slice ae es.length ce) wr tag vl ML vs S (.slice none 0 0) [] ∧
          Inc S ∧ S.length + news es S ≤ es.length ∧ (ML ≠ [] → news es S + 2 ≤ f) ∧ 1 ≤ f ∧ (∀ m ∈ ML, m.2.1.length + f ≤ es.length + 2) ∧ ML.length ≤ es.length + 1 ∧ Hid (R = lLoop es wi evs tg f (bare ML) S) ∧ gk = if ML = [] then 0 else news es S + 1)
        case atStart =>
          have hn := news_le es []
          refine ⟨es.length + 2, [(.slice none 0 0, [], st)], [], fun b => if b = w.heap.size then 0 else 3, ⟨(by (repeat (first | with_reducible exact Below.refl _ _ | with_reducible exact hBa | (with_reducible refine belCall ?_ hBa (by first | omega | (simp; done) | (simp; omega) | (simp at *; omega))) | (with_reducible refine Below.alloc ?_ (by first | omega | (simp; done) | (simp; omega) | (simp at *; omega)) _) | (with_reducible refine Below.drew ?_) | (with_reducible refine Below.setCell ?_ (by first | omega | (simp; done) | (simp; omega) | (simp at *; omega)) _)))), ⟨if_pos rfl, by simp; omega, ?_, ?_, ?_, ?_⟩, ?_, ?_, Row.nil _ _ _ _ _ _, Row.nil _ _ _ _ _ _, fun m hm => by cases hm⟩, List.Pairwise.nil, by simpa using hn, fun _ => by omega, by omega, ?_, by simp, HR.out, by simp⟩
          · simp [go_sem]
          · simp [go_sem]
          · simp [go_sem]
          · simp [go_sem]
          · refine ⟨by simp [runCells], .inr ⟨w.heap.size + 1, 0, 1, #[.slice none 0 0, .int .i64 st], rfl, ⟨heap_at (by simp), if_neg (by omega), by omega⟩, by simp, by simp [maxLen], by simp, by simp [runCells]⟩⟩
          · intro m hm
            rw [List.mem_singleton.1 hm]
            exact Row.nil _ _ _ _ _ _
          · intro m hm
            rw [List.mem_singleton.1 hm]
            simp
        case round =>
          obtain ⟨f, ML, S, tag, hI, hinc, hSn, hf, hf1, hwl, hMl, hR, hgk⟩ := hrel
          obtain ⟨al', cl', rfl⟩ := hI.lv.val
          by_cases hML : ML = []
          · subst hML
            have HR2 : Hid (R = none) := by
              show _ = _
              obtain ⟨f', rfl⟩ : ∃ f', f = f' + 1 := ⟨f - 1, by omega⟩
              rw [hR.out]; rfl
            have hbel := hI.bel
            go_wp2_with fail
            go_ret2
            exact ⟨_, rfl, QPost.none' HR2.out, hbel⟩
          · have hpos : 0 < ML.length := List.length_pos_iff.2 hML
            have hposI : (0 : Int) < (ML.length : Int) := by omega
            obtain ⟨f, rfl⟩ : ∃ f', f = f' + 1 := ⟨f - 1, by omega⟩
            have hbare : bare ML ≠ [] := by simpa [bare] using hML
            have HR2 := Lib.hid hR.out
            have hf2 := hf hML
            have Hgk := Lib.hid hgk
            have hI0 := Lib.hid hI
            clear hR hgk hf hI
            go_wp2_with fail
            go_loopw [15, 16, 17] (fun vs vn i wr' => ∃ (j : Nat) (S2 : List Int) (MN : MRuns) (tag2 : Nat → Nat), i = .int .i64 j ∧ j ≤ ML.length ∧ RInv w (.slice aa al.length ca) (.int .i64 n) (.slice am ms.length cm) (.slice ae es.length ce) wr' tag2 (.slice al' ML.length cl') ML vs S2 vn MN ∧
              Inc S2 ∧ S2.length + news es S2 ≤ es.length ∧ MN.length + news es S2 ≤ news es S ∧ (∀ m ∈ MN, m.2.1.length + f ≤ es.length + 2) ∧ Hid (rLoop es wi evs tg (bare ML) S [] = rLoop es wi evs tg ((bare ML).drop j) S2 (bare MN))) (fun _ _ i _ => ML.length - (intOf i).toNat)
            case atStart => exact ⟨0, S, [], tag, rfl, Nat.zero_le _, hI0.out, hinc, hSn, by simp, fun m hm => (by cases hm), rfl⟩
            case round =>
              clear hI0 hinc hSn
              obtain ⟨j, S2, MN, tag2, rfl, hj, hI, hinc, hSn, hMN, hwN, hrl⟩ := hrel
              by_cases hlt : j < ML.length
              · have hltI : (j : Int) < (ML.length : Int) := by omega
                have hdrop : (bare ML).drop j = ML[j].2 :: (bare ML).drop (j + 1) := by
                  rw [List.drop_eq_getElem_cons (by simpa [bare] using hlt)]; simp [bare]
                have Hrl : Hid (rLoop es wi evs tg (bare ML) S [] = rLoop es wi evs tg (ML[j].2 :: (bare ML).drop (j + 1)) S2 (bare MN)) := by
                  show _ = _
                  rw [hrl.out, hdrop]
                have hwj := hwl ML[j] (List.getElem_mem hlt)
                have hI0 := Lib.hid hI
                have hinc0 := Lib.hid hinc
                clear hrl hdrop hI hinc
                go_wp2_with fail
                go_loopw [15, 16, 18] (fun vs vn i wr' => ∃ (q : Nat) (S3 : List Int) (MN3 : MRuns) (tag3 : Nat → Nat), i = .int .i64 q ∧ q ≤ es.length ∧ RInv w (.slice aa al.length ca) (.int .i64 n) (.slice am ms.length cm) (.slice ae es.length ce) wr' tag3 (.slice al' ML.length cl') ML vs S3 vn MN3 ∧
                  Inc S3 ∧ S3.length + news es S3 ≤ es.length ∧ MN3.length + news es S3 ≤ news es S ∧ (∀ m ∈ MN3, m.2.1.length + f ≤ es.length + 2) ∧ Hid (eLoop wi evs tg ML[j].2 es S2 (bare MN) = eLoop wi evs tg ML[j].2 (es.drop q) S3 (bare MN3))) (fun _ _ i _ => es.length - (intOf i).toNat)
                case atStart => exact ⟨0, S2, MN, tag2, rfl, Nat.zero_le _, hI0.out, hinc0.out, hSn, hMN, hwN, rfl⟩
                case round =>
                  clear hI0 hinc0 hSn hMN hwN
                  obtain ⟨q, S3, MN3, tag3, rfl, hq, hI, hinc, hSn, hMN, hwN, hel⟩ := hrel
                  have x3 := hI.box.x3
                  obtain ⟨an, cn, rfl⟩ := hI.nx.val
                  by_cases hltq : q < es.length
                  · have hltqI : (q : Int) < (es.length : Int) := by omega
                    obtain ⟨be, oe, rfl, d0, d1, d2⟩ := hre.at_edge q hltq
                    have Hd : Hid (eLoop wi evs tg ML[j].2 es S2 (bare MN) = eLoop wi evs tg ML[j].2 (es[q] :: es.drop (q + 1)) S3 (bare MN3)) := by
                      show _ = _
                      rw [hel.out, List.drop_eq_getElem_cons hltq]
                    have HOx := Lib.hid (Own.new wr w.heap.size (tagUp tag3 wr.heap.size 5) 5 #[.int .i64 es[q].f, .int .i64 es[q].e, .int .i64 es[q].t] 45 hI.bel.size (tagUp_at _ _ _))
                    have hI5 := hI.turn (Turn.alloc (k := 5) (.cells #[.int .i64 es[q].f, .int .i64 es[q].e, .int .i64 es[q].t] 45)) (Nat.le_refl _)
                    have hbz := World.block_lt_of_cell? _ _ d0
                    dsimp only at hbz
                    have hbel := hI.bel
                    have hbel5 := hI5.bel
                    replace d0 := keep0 hI.bel d0
                    replace d1 := keep0 hI.bel d1
                    replace d2 := keep0 hI.bel d2
                    have HI := Lib.hid hI
                    have Hinc := Lib.hid hinc
                    clear hel hI hinc
                    obtain ⟨bl, ol, cl2, e1, hbl, r0, r1, hrw⟩ := hI5.at_run j hlt
                    cases e1
                    generalize hr : ML[j].2 = r at *
                    generalize hx : es[q] = x at *
                    obtain ⟨xf, xe, xt⟩ := x
                    obtain ⟨ru, rt⟩ := r
                    dsimp only at *
                    have HI5 := Lib.hid hI5
                    generalize hb1 : (xf != rt) = b1
                    generalize hb2 : hasB wi xt = c2
                    generalize hb3 : hasB evs xe = c3
                    generalize hb4 : hasB S3 xt = c4
                    generalize hg2 : (b1 || !c2) = g2
                    generalize hg3 : (g2 || !c3) = g3
                    generalize hg4 : (g3 || c4) = g4
                    obtain ⟨aS, cS, rfl⟩ := hI5.se.val
                    have Hse := Lib.hid hI5.se.rdI
                    have B1 := Lib.hid hb1
                    have B2 := Lib.hid hb2
                    have B3 := Lib.hid hb3
                    have B4 := Lib.hid hb4
                    have G2 := Lib.hid hg2.symm
                    have G3 := Lib.hid hg3.symm
                    have G4 := Lib.hid hg4.symm
                    have hS3l : S3.length ≤ 1000000 := by omega
                    have hbel5d := hbel5.drew
                    have z0 : (wr.alloc (.cells #[.int .i64 xf, .int .i64 xe, .int .i64 xt] 45)).cell? ⟨wr.heap.size, 0, none⟩ = some (.int .i64 xf) := by simp [go_sem]
                    have z1 : (wr.alloc (.cells #[.int .i64 xf, .int .i64 xe, .int .i64 xt] 45)).cell? ⟨wr.heap.size, 1, none⟩ = some (.int .i64 xe) := by simp [go_sem]
                    have z2 : (wr.alloc (.cells #[.int .i64 xf, .int .i64 xe, .int .i64 xt] 45)).cell? ⟨wr.heap.size, 2, none⟩ = some (.int .i64 xt) := by simp [go_sem]
                    have hzx : wr.heap.size < (wr.alloc (.cells #[.int .i64 xf, .int .i64 xe, .int .i64 xt] 45)).heap.size := by simp
                    have zr := r1
                    have hzr := hbl
                    clear hb1 hb2 hb3 hb4 hg2 hg3 hg4 hI5
                    go_wp2_with fail
                    clear r0 r1 hbl d0 d1 d2 x3
                    refine wp_region_mono (fun k v _ => RR16 wr.heap.size vw vv (.slice aS S3.length cS) (.slice (some ⟨bl, ol, none⟩) ML.length cl') j bl ol xf xe xt rt b1 g2 g3 g4 c2 c3 c4 k v) [56, 57, 58, 59, 60, 61, 62, 63, 64, 65, 66, 67, 68, 69, 70, 71, 72, 73, 74, 75, 76, 77, 78, 79, 80, 81, 82, 83] (fun _ _ _ _ _ h => h) rfl (by kernel_rfl) (by kernel_rfl) ?_ ?_
                    · skip
                      refine Steps.cons rfl ?_ ?_
                      · intro l us W hl hI hd hn K' hK
                        have hHas := hI.has
                        have hbel := hI.bel
                        have hlen := hI.len
                        obtain ⟨u0, u1, u2, u3, u4, u5, u6, u7, u8, u9, u10, u11, u12, u13, u14, u15, u16, u17, u18, u19, u20, u21, u22, u23, u24, u25, u26, u27, rfl⟩ := list28p hlen
                        have HK : Hid (∀ v W', Below W.heap.size W W' → RR16 wr.heap.size vw vv (.slice aS S3.length cS) (.slice (some ⟨bl, ol, none⟩) ML.length cl') j bl ol xf xe xt rt b1 g2 g3 g4 c2 c3 c4 0 v → ∀ a', puts _ _ [v, u1, u2, u3, u4, u5, u6, u7, u8, u9, u10, u11, u12, u13, u14, u15, u16, u17, u18, u19, u20, u21, u22, u23, u24, u25, u26, u27] = a' → K' a' W') := fun v W' hb hv a' e => hK _ a' W' e (hI.step (fun _ _ _ _ _ h => h) hl hb hv)
                        have hWW := hbel5d.trans (hbel.mono hbel5d.size)
                        clear hl hI hd hn hK hHas hlen 
                        refine StepG.mk ?_
                        simp only [puts, Act.put]
                        go_simp
                        exact HK.out (.pointer (some ⟨wr.heap.size, 0, none⟩)) _ (Below.refl _ _) rfl _ (by simp [puts, Act.put])
                      refine Steps.cons rfl ?_ ?_
                      · intro l us W hl hI hd hn K' hK
                        have hHas := hI.has
                        have hbel := hI.bel
                        have hlen := hI.len
                        obtain ⟨u0, u1, u2, u3, u4, u5, u6, u7, u8, u9, u10, u11, u12, u13, u14, u15, u16, u17, u18, u19, u20, u21, u22, u23, u24, u25, u26, u27, rfl⟩ := list28p hlen
                        have HK : Hid (∀ v W', Below W.heap.size W W' → RR16 wr.heap.size vw vv (.slice aS S3.length cS) (.slice (some ⟨bl, ol, none⟩) ML.length cl') j bl ol xf xe xt rt b1 g2 g3 g4 c2 c3 c4 1 v → ∀ a', puts _ _ [u0, v, u2, u3, u4, u5, u6, u7, u8, u9, u10, u11, u12, u13, u14, u15, u16, u17, u18, u19, u20, u21, u22, u23, u24, u25, u26, u27] = a' → K' a' W') := fun v W' hb hv a' e => hK _ a' W' e (hI.step (fun _ _ _ _ _ h => h) hl hb hv)
                        have hWW := hbel5d.trans (hbel.mono hbel5d.size)
                        have y := keep hbel z0 hzx
                        have d0 : l.getD 0 false = true := by
                          simp [Region.binds] at hd
                          simp [hd]
                        obtain rfl : u0 = _ := hHas 0 (by decide) d0
                        clear hl hI hd hn hK hHas hlen d0
                        refine StepG.mk ?_
                        simp only [puts, Act.put]
                        go_simp
                        exact HK.out (.int .i64 xf) _ (Below.refl _ _) rfl _ (by simp [puts, Act.put])
                      refine Steps.cons rfl ?_ ?_
                      · intro l us W hl hI hd hn K' hK
                        have hHas := hI.has
                        have hbel := hI.bel
                        have hlen := hI.len
                        obtain ⟨u0, u1, u2, u3, u4, u5, u6, u7, u8, u9, u10, u11, u12, u13, u14, u15, u16, u17, u18, u19, u20, u21, u22, u23, u24, u25, u26, u27, rfl⟩ := list28p hlen
                        have HK : Hid (∀ v W', Below W.heap.size W W' → RR16 wr.heap.size vw vv (.slice aS S3.length cS) (.slice (some ⟨bl, ol, none⟩) ML.length cl') j bl ol xf xe xt rt b1 g2 g3 g4 c2 c3 c4 2 v → ∀ a', puts _ _ [u0, u1, v, u3, u4, u5, u6, u7, u8, u9, u10, u11, u12, u13, u14, u15, u16, u17, u18, u19, u20, u21, u22, u23, u24, u25, u26, u27] = a' → K' a' W') := fun v W' hb hv a' e => hK _ a' W' e (hI.step (fun _ _ _ _ _ h => h) hl hb hv)
                        have hWW := hbel5d.trans (hbel.mono hbel5d.size)
                        clear hl hI hd hn hK hHas hlen 
                        refine StepG.mk ?_
                        simp only [puts, Act.put]
                        go_simp
                        exact HK.out ((.slice (some ⟨bl, ol, none⟩) ML.length cl')) _ (Below.refl _ _) rfl _ (by simp [puts, Act.put])
                      refine Steps.cons rfl ?_ ?_
                      · intro l us W hl hI hd hn K' hK
                        have hHas := hI.has
                        have hbel := hI.bel
                        have hlen := hI.len
                        obtain ⟨u0, u1, u2, u3, u4, u5, u6, u7, u8, u9, u10, u11, u12, u13, u14, u15, u16, u17, u18, u19, u20, u21, u22, u23, u24, u25, u26, u27, rfl⟩ := list28p hlen
                        have HK : Hid (∀ v W', Below W.heap.size W W' → RR16 wr.heap.size vw vv (.slice aS S3.length cS) (.slice (some ⟨bl, ol, none⟩) ML.length cl') j bl ol xf xe xt rt b1 g2 g3 g4 c2 c3 c4 3 v → ∀ a', puts _ _ [u0, u1, u2, v, u4, u5, u6, u7, u8, u9, u10, u11, u12, u13, u14, u15, u16, u17, u18, u19, u20, u21, u22, u23, u24, u25, u26, u27] = a' → K' a' W') := fun v W' hb hv a' e => hK _ a' W' e (hI.step (fun _ _ _ _ _ h => h) hl hb hv)
                        have hWW := hbel5d.trans (hbel.mono hbel5d.size)
                        clear hl hI hd hn hK hHas hlen 
                        refine StepG.mk ?_
                        simp only [puts, Act.put]
                        go_simp
                        exact HK.out (.int .i64 j) _ (Below.refl _ _) rfl _ (by simp [puts, Act.put])
                      refine Steps.cons rfl ?_ ?_
                      · intro l us W hl hI hd hn K' hK
                        have hHas := hI.has
                        have hbel := hI.bel
                        have hlen := hI.len
                        obtain ⟨u0, u1, u2, u3, u4, u5, u6, u7, u8, u9, u10, u11, u12, u13, u14, u15, u16, u17, u18, u19, u20, u21, u22, u23, u24, u25, u26, u27, rfl⟩ := list28p hlen
                        have HK : Hid (∀ v W', Below W.heap.size W W' → RR16 wr.heap.size vw vv (.slice aS S3.length cS) (.slice (some ⟨bl, ol, none⟩) ML.length cl') j bl ol xf xe xt rt b1 g2 g3 g4 c2 c3 c4 4 v → ∀ a', puts _ _ [u0, u1, u2, u3, v, u5, u6, u7, u8, u9, u10, u11, u12, u13, u14, u15, u16, u17, u18, u19, u20, u21, u22, u23, u24, u25, u26, u27] = a' → K' a' W') := fun v W' hb hv a' e => hK _ a' W' e (hI.step (fun _ _ _ _ _ h => h) hl hb hv)
                        have hWW := hbel5d.trans (hbel.mono hbel5d.size)
                        have d2 : l.getD 2 false = true := by
                          simp [Region.binds] at hd
                          simp [hd]
                        have d3 : l.getD 3 false = true := by
                          simp [Region.binds] at hd
                          simp [hd]
                        obtain rfl : u2 = _ := hHas 2 (by decide) d2
                        obtain rfl : u3 = _ := hHas 3 (by decide) d3
                        clear hl hI hd hn hK hHas hlen d2 d3
                        refine StepG.mk ?_
                        simp only [puts, Act.put]
                        go_simp
                        exact HK.out (.pointer (some ⟨bl, ol + j * 2, none⟩)) _ (Below.refl _ _) rfl _ (by simp [puts, Act.put])
                      refine Steps.cons rfl ?_ ?_
                      · intro l us W hl hI hd hn K' hK
                        have hHas := hI.has
                        have hbel := hI.bel
                        have hlen := hI.len
                        obtain ⟨u0, u1, u2, u3, u4, u5, u6, u7, u8, u9, u10, u11, u12, u13, u14, u15, u16, u17, u18, u19, u20, u21, u22, u23, u24, u25, u26, u27, rfl⟩ := list28p hlen
                        have HK : Hid (∀ v W', Below W.heap.size W W' → RR16 wr.heap.size vw vv (.slice aS S3.length cS) (.slice (some ⟨bl, ol, none⟩) ML.length cl') j bl ol xf xe xt rt b1 g2 g3 g4 c2 c3 c4 5 v → ∀ a', puts _ _ [u0, u1, u2, u3, u4, v, u6, u7, u8, u9, u10, u11, u12, u13, u14, u15, u16, u17, u18, u19, u20, u21, u22, u23, u24, u25, u26, u27] = a' → K' a' W') := fun v W' hb hv a' e => hK _ a' W' e (hI.step (fun _ _ _ _ _ h => h) hl hb hv)
                        have hWW := hbel5d.trans (hbel.mono hbel5d.size)
                        have d4 : l.getD 4 false = true := by
                          simp [Region.binds] at hd
                          simp [hd]
                        obtain rfl : u4 = _ := hHas 4 (by decide) d4
                        clear hl hI hd hn hK hHas hlen d4
                        refine StepG.mk ?_
                        simp only [puts, Act.put]
                        go_simp
                        exact HK.out (.pointer (some ⟨bl, ol + j * 2 + 1, none⟩)) _ (Below.refl _ _) rfl _ (by simp [puts, Act.put])
                      refine Steps.cons rfl ?_ ?_
                      · intro l us W hl hI hd hn K' hK
                        have hHas := hI.has
                        have hbel := hI.bel
                        have hlen := hI.len
                        obtain ⟨u0, u1, u2, u3, u4, u5, u6, u7, u8, u9, u10, u11, u12, u13, u14, u15, u16, u17, u18, u19, u20, u21, u22, u23, u24, u25, u26, u27, rfl⟩ := list28p hlen
                        have HK : Hid (∀ v W', Below W.heap.size W W' → RR16 wr.heap.size vw vv (.slice aS S3.length cS) (.slice (some ⟨bl, ol, none⟩) ML.length cl') j bl ol xf xe xt rt b1 g2 g3 g4 c2 c3 c4 6 v → ∀ a', puts _ _ [u0, u1, u2, u3, u4, u5, v, u7, u8, u9, u10, u11, u12, u13, u14, u15, u16, u17, u18, u19, u20, u21, u22, u23, u24, u25, u26, u27] = a' → K' a' W') := fun v W' hb hv a' e => hK _ a' W' e (hI.step (fun _ _ _ _ _ h => h) hl hb hv)
                        have hWW := hbel5d.trans (hbel.mono hbel5d.size)
                        have y := keep hbel zr hzr
                        have d5 : l.getD 5 false = true := by
                          simp [Region.binds] at hd
                          simp [hd]
                        obtain rfl : u5 = _ := hHas 5 (by decide) d5
                        clear hl hI hd hn hK hHas hlen d5
                        refine StepG.mk ?_
                        simp only [puts, Act.put]
                        go_simp
                        exact HK.out (.int .i64 rt) _ (Below.refl _ _) rfl _ (by simp [puts, Act.put])
                      refine Steps.cons rfl ?_ ?_
                      · intro l us W hl hI hd hn K' hK
                        have hHas := hI.has
                        have hbel := hI.bel
                        have hlen := hI.len
                        obtain ⟨u0, u1, u2, u3, u4, u5, u6, u7, u8, u9, u10, u11, u12, u13, u14, u15, u16, u17, u18, u19, u20, u21, u22, u23, u24, u25, u26, u27, rfl⟩ := list28p hlen
                        have HK : Hid (∀ v W', Below W.heap.size W W' → RR16 wr.heap.size vw vv (.slice aS S3.length cS) (.slice (some ⟨bl, ol, none⟩) ML.length cl') j bl ol xf xe xt rt b1 g2 g3 g4 c2 c3 c4 7 v → ∀ a', puts _ _ [u0, u1, u2, u3, u4, u5, u6, v, u8, u9, u10, u11, u12, u13, u14, u15, u16, u17, u18, u19, u20, u21, u22, u23, u24, u25, u26, u27] = a' → K' a' W') := fun v W' hb hv a' e => hK _ a' W' e (hI.step (fun _ _ _ _ _ h => h) hl hb hv)
                        have hWW := hbel5d.trans (hbel.mono hbel5d.size)
                        have d1 : l.getD 1 false = true := by
                          simp [Region.binds] at hd
                          simp [hd]
                        have d6 : l.getD 6 false = true := by
                          simp [Region.binds] at hd
                          simp [hd]
                        obtain rfl : u1 = _ := hHas 1 (by decide) d1
                        obtain rfl : u6 = _ := hHas 6 (by decide) d6
                        clear hl hI hd hn hK hHas hlen d1 d6
                        refine StepG.mk ?_
                        simp only [puts, Act.put]
                        go_simp
                        exact HK.out (.bool (xf != rt)) _ (Below.refl _ _) (congrArg Value.bool B1.out) _ (by simp [puts, Act.put])
                      refine Steps.cons rfl ?_ ?_
                      · intro l us W hl hI hd hn K' hK
                        have hHas := hI.has
                        have hbel := hI.bel
                        have hlen := hI.len
                        obtain ⟨u0, u1, u2, u3, u4, u5, u6, u7, u8, u9, u10, u11, u12, u13, u14, u15, u16, u17, u18, u19, u20, u21, u22, u23, u24, u25, u26, u27, rfl⟩ := list28p hlen
                        have HK : Hid (∀ v W', Below W.heap.size W W' → RR16 wr.heap.size vw vv (.slice aS S3.length cS) (.slice (some ⟨bl, ol, none⟩) ML.length cl') j bl ol xf xe xt rt b1 g2 g3 g4 c2 c3 c4 8 v → ∀ a', puts _ _ [u0, u1, u2, u3, u4, u5, u6, u7, v, u9, u10, u11, u12, u13, u14, u15, u16, u17, u18, u19, u20, u21, u22, u23, u24, u25, u26, u27] = a' → K' a' W') := fun v W' hb hv a' e => hK _ a' W' e (hI.step (fun _ _ _ _ _ h => h) hl hb hv)
                        have hWW := hbel5d.trans (hbel.mono hbel5d.size)
                        have d7 : l.getD 7 false = true := by
                          simp [Region.binds] at hd
                          simp [hd]
                        obtain rfl : u7 = _ := hHas 7 (by decide) d7
                        clear hl hI hd hn hK hHas hlen d7
                        refine StepG.mk ?_
                        simp only [puts, Act.put]
                        go_simp
                        exact HK.out (.bool b1) _ (Below.refl _ _) rfl _ (by simp [puts, Act.put])
                      refine Steps.cons rfl ?_ ?_
                      · intro l us W hl hI hd hn K' hK
                        have hHas := hI.has
                        have hbel := hI.bel
                        have hlen := hI.len
                        obtain ⟨u0, u1, u2, u3, u4, u5, u6, u7, u8, u9, u10, u11, u12, u13, u14, u15, u16, u17, u18, u19, u20, u21, u22, u23, u24, u25, u26, u27, rfl⟩ := list28p hlen
                        have HK : Hid (∀ v W', Below W.heap.size W W' → RR16 wr.heap.size vw vv (.slice aS S3.length cS) (.slice (some ⟨bl, ol, none⟩) ML.length cl') j bl ol xf xe xt rt b1 g2 g3 g4 c2 c3 c4 9 v → ∀ a', puts _ _ [u0, u1, u2, u3, u4, u5, u6, u7, u8, v, u10, u11, u12, u13, u14, u15, u16, u17, u18, u19, u20, u21, u22, u23, u24, u25, u26, u27] = a' → K' a' W') := fun v W' hb hv a' e => hK _ a' W' e (hI.step (fun _ _ _ _ _ h => h) hl hb hv)
                        have hWW := hbel5d.trans (hbel.mono hbel5d.size)
                        have d8 : l.getD 8 false = true := by
                          simp [Region.binds] at hd
                          simp [hd]
                        obtain rfl : u8 = _ := hHas 8 (by decide) d8
                        clear hl hI hd hn hK hHas hlen d8
                        cases b1 with
                        | true =>
                          refine StepG.mk ?_
                          simp only [puts, Act.put]
                          go_simp
                          exact HK.out undef _ (Below.refl _ _) (fun h => by cases h) _ (by simp [puts, Act.put])
                        | false =>
                          refine StepG.mk ?_
                          simp only [puts, Act.put]
                          go_simp
                          exact HK.out (vw) _ (Below.refl _ _) (fun _ => rfl) _ (by simp [puts, Act.put])
                      refine Steps.cons rfl ?_ ?_
                      · intro l us W hl hI hd hn K' hK
                        have hHas := hI.has
                        have hbel := hI.bel
                        have hlen := hI.len
                        obtain ⟨u0, u1, u2, u3, u4, u5, u6, u7, u8, u9, u10, u11, u12, u13, u14, u15, u16, u17, u18, u19, u20, u21, u22, u23, u24, u25, u26, u27, rfl⟩ := list28p hlen
                        have HK : Hid (∀ v W', Below W.heap.size W W' → RR16 wr.heap.size vw vv (.slice aS S3.length cS) (.slice (some ⟨bl, ol, none⟩) ML.length cl') j bl ol xf xe xt rt b1 g2 g3 g4 c2 c3 c4 10 v → ∀ a', puts _ _ [u0, u1, u2, u3, u4, u5, u6, u7, u8, u9, v, u11, u12, u13, u14, u15, u16, u17, u18, u19, u20, u21, u22, u23, u24, u25, u26, u27] = a' → K' a' W') := fun v W' hb hv a' e => hK _ a' W' e (hI.step (fun _ _ _ _ _ h => h) hl hb hv)
                        have hWW := hbel5d.trans (hbel.mono hbel5d.size)
                        have d8 : l.getD 8 false = true := by
                          simp [Region.binds] at hd
                          simp [hd]
                        obtain rfl : u8 = _ := hHas 8 (by decide) d8
                        clear hl hI hd hn hK hHas hlen d8
                        cases b1 with
                        | true =>
                          refine StepG.mk ?_
                          simp only [puts, Act.put]
                          go_simp
                          exact HK.out undef _ (Below.refl _ _) (fun h => by cases h) _ (by simp [puts, Act.put])
                        | false =>
                          refine StepG.mk ?_
                          simp only [puts, Act.put]
                          go_simp
                          exact HK.out (.pointer (some ⟨wr.heap.size, 2, none⟩)) _ (Below.refl _ _) (fun _ => rfl) _ (by simp [puts, Act.put])
                      refine Steps.cons rfl ?_ ?_
                      · intro l us W hl hI hd hn K' hK
                        have hHas := hI.has
                        have hbel := hI.bel
                        have hlen := hI.len
                        obtain ⟨u0, u1, u2, u3, u4, u5, u6, u7, u8, u9, u10, u11, u12, u13, u14, u15, u16, u17, u18, u19, u20, u21, u22, u23, u24, u25, u26, u27, rfl⟩ := list28p hlen
                        have HK : Hid (∀ v W', Below W.heap.size W W' → RR16 wr.heap.size vw vv (.slice aS S3.length cS) (.slice (some ⟨bl, ol, none⟩) ML.length cl') j bl ol xf xe xt rt b1 g2 g3 g4 c2 c3 c4 11 v → ∀ a', puts _ _ [u0, u1, u2, u3, u4, u5, u6, u7, u8, u9, u10, v, u12, u13, u14, u15, u16, u17, u18, u19, u20, u21, u22, u23, u24, u25, u26, u27] = a' → K' a' W') := fun v W' hb hv a' e => hK _ a' W' e (hI.step (fun _ _ _ _ _ h => h) hl hb hv)
                        have hWW := hbel5d.trans (hbel.mono hbel5d.size)
                        have y := keep hbel z2 hzx
                        have d8 : l.getD 8 false = true := by
                          simp [Region.binds] at hd
                          simp [hd]
                        have d10 : l.getD 10 false = true := by
                          simp [Region.binds] at hd
                          simp [hd]
                        obtain rfl : u8 = _ := hHas 8 (by decide) d8
                        have e10 : b1 = false → u10 = _ := hHas 10 (by decide) d10
                        clear hl hI hd hn hK hHas hlen d8 d10
                        cases b1 with
                        | true =>
                          clear e10
                          refine StepG.mk ?_
                          simp only [puts, Act.put]
                          go_simp
                          exact HK.out undef _ (Below.refl _ _) (fun h => by cases h) _ (by simp [puts, Act.put])
                        | false =>
                          obtain rfl := e10 rfl
                          refine StepG.mk ?_
                          simp only [puts, Act.put]
                          go_simp
                          exact HK.out (.int .i64 xt) _ (Below.refl _ _) (fun _ => rfl) _ (by simp [puts, Act.put])
                      refine Steps.cons rfl ?_ ?_
                      · intro l us W hl hI hd hn K' hK
                        have hHas := hI.has
                        have hbel := hI.bel
                        have hlen := hI.len
                        obtain ⟨u0, u1, u2, u3, u4, u5, u6, u7, u8, u9, u10, u11, u12, u13, u14, u15, u16, u17, u18, u19, u20, u21, u22, u23, u24, u25, u26, u27, rfl⟩ := list28p hlen
                        have HK : Hid (∀ v W', Below W.heap.size W W' → RR16 wr.heap.size vw vv (.slice aS S3.length cS) (.slice (some ⟨bl, ol, none⟩) ML.length cl') j bl ol xf xe xt rt b1 g2 g3 g4 c2 c3 c4 12 v → ∀ a', puts _ _ [u0, u1, u2, u3, u4, u5, u6, u7, u8, u9, u10, u11, v, u13, u14, u15, u16, u17, u18, u19, u20, u21, u22, u23, u24, u25, u26, u27] = a' → K' a' W') := fun v W' hb hv a' e => hK _ a' W' e (hI.step (fun _ _ _ _ _ h => h) hl hb hv)
                        have hWW := hbel5d.trans (hbel.mono hbel5d.size)
                        have d8 : l.getD 8 false = true := by
                          simp [Region.binds] at hd
                          simp [hd]
                        have d9 : l.getD 9 false = true := by
                          simp [Region.binds] at hd
                          simp [hd]
                        have d11 : l.getD 11 false = true := by
                          simp [Region.binds] at hd
                          simp [hd]
                        obtain rfl : u8 = _ := hHas 8 (by decide) d8
                        have e9 : b1 = false → u9 = _ := hHas 9 (by decide) d9
                        have e11 : b1 = false → u11 = _ := hHas 11 (by decide) d11
                        clear hl hI hd hn hK hHas hlen d8 d9 d11
                        cases b1 with
                        | true =>
                          clear e9 e11
                          refine StepG.mk ?_
                          simp only [puts, Act.put]
                          go_simp
                          exact HK.out undef _ (Below.refl _ _) (fun h => by cases h) _ (by simp [puts, Act.put])
                        | false =>
                          obtain rfl := e9 rfl
                          obtain rfl := e11 rfl
                          refine StepG.mk ?_
                          simp only [puts, Act.put]
                          go_simp
                          refine (has_any _ wi xt _ (H2.out.mono hWW) hl2).mono ?_
                          rintro e w1 ⟨rfl, rfl⟩
                          rw [B2.out]
                          go_simp
                          exact HK.out (.bool c2) _ (Below.refl _ _) (fun _ => rfl) _ (by simp [puts, Act.put])
                      refine Steps.cons rfl ?_ ?_
                      · intro l us W hl hI hd hn K' hK
                        have hHas := hI.has
                        have hbel := hI.bel
                        have hlen := hI.len
                        obtain ⟨u0, u1, u2, u3, u4, u5, u6, u7, u8, u9, u10, u11, u12, u13, u14, u15, u16, u17, u18, u19, u20, u21, u22, u23, u24, u25, u26, u27, rfl⟩ := list28p hlen
                        have HK : Hid (∀ v W', Below W.heap.size W W' → RR16 wr.heap.size vw vv (.slice aS S3.length cS) (.slice (some ⟨bl, ol, none⟩) ML.length cl') j bl ol xf xe xt rt b1 g2 g3 g4 c2 c3 c4 13 v → ∀ a', puts _ _ [u0, u1, u2, u3, u4, u5, u6, u7, u8, u9, u10, u11, u12, v, u14, u15, u16, u17, u18, u19, u20, u21, u22, u23, u24, u25, u26, u27] = a' → K' a' W') := fun v W' hb hv a' e => hK _ a' W' e (hI.step (fun _ _ _ _ _ h => h) hl hb hv)
                        have hWW := hbel5d.trans (hbel.mono hbel5d.size)
                        have d8 : l.getD 8 false = true := by
                          simp [Region.binds] at hd
                          simp [hd]
                        have d12 : l.getD 12 false = true := by
                          simp [Region.binds] at hd
                          simp [hd]
                        obtain rfl : u8 = _ := hHas 8 (by decide) d8
                        have e12 : b1 = false → u12 = _ := hHas 12 (by decide) d12
                        clear hl hI hd hn hK hHas hlen d8 d12
                        cases b1 with
                        | true =>
                          clear e12
                          refine StepG.mk ?_
                          simp only [puts, Act.put]
                          go_simp
                          exact HK.out undef _ (Below.refl _ _) (fun h => by cases h) _ (by simp [puts, Act.put])
                        | false =>
                          obtain rfl := e12 rfl
                          refine StepG.mk ?_
                          simp only [puts, Act.put]
                          go_simp
                          exact HK.out (.bool (!c2)) _ (Below.refl _ _) (fun _ => rfl) _ (by simp [puts, Act.put])
                      refine Steps.cons rfl ?_ ?_
                      · intro l us W hl hI hd hn K' hK
                        have hHas := hI.has
                        have hbel := hI.bel
                        have hlen := hI.len
                        obtain ⟨u0, u1, u2, u3, u4, u5, u6, u7, u8, u9, u10, u11, u12, u13, u14, u15, u16, u17, u18, u19, u20, u21, u22, u23, u24, u25, u26, u27, rfl⟩ := list28p hlen
                        have HK : Hid (∀ v W', Below W.heap.size W W' → RR16 wr.heap.size vw vv (.slice aS S3.length cS) (.slice (some ⟨bl, ol, none⟩) ML.length cl') j bl ol xf xe xt rt b1 g2 g3 g4 c2 c3 c4 14 v → ∀ a', puts _ _ [u0, u1, u2, u3, u4, u5, u6, u7, u8, u9, u10, u11, u12, u13, v, u15, u16, u17, u18, u19, u20, u21, u22, u23, u24, u25, u26, u27] = a' → K' a' W') := fun v W' hb hv a' e => hK _ a' W' e (hI.step (fun _ _ _ _ _ h => h) hl hb hv)
                        have hWW := hbel5d.trans (hbel.mono hbel5d.size)
                        have d8 : l.getD 8 false = true := by
                          simp [Region.binds] at hd
                          simp [hd]
                        have d13 : l.getD 13 false = true := by
                          simp [Region.binds] at hd
                          simp [hd]
                        obtain rfl : u8 = _ := hHas 8 (by decide) d8
                        have e13 : b1 = false → u13 = _ := hHas 13 (by decide) d13
                        clear hl hI hd hn hK hHas hlen d8 d13
                        cases b1 with
                        | true =>
                          clear e13
                          refine StepG.mk ?_
                          simp only [puts, Act.put]
                          go_simp
                          exact HK.out (.bool true) _ (Below.refl _ _) (by rw [G2.out]; rfl) _ (by simp [puts, Act.put])
                        | false =>
                          obtain rfl := e13 rfl
                          refine StepG.mk ?_
                          simp only [puts, Act.put]
                          go_simp
                          exact HK.out (.bool (!c2)) _ (Below.refl _ _) (by rw [G2.out]; rfl) _ (by simp [puts, Act.put])
                      refine Steps.cons rfl ?_ ?_
                      · intro l us W hl hI hd hn K' hK
                        have hHas := hI.has
                        have hbel := hI.bel
                        have hlen := hI.len
                        obtain ⟨u0, u1, u2, u3, u4, u5, u6, u7, u8, u9, u10, u11, u12, u13, u14, u15, u16, u17, u18, u19, u20, u21, u22, u23, u24, u25, u26, u27, rfl⟩ := list28p hlen
                        have HK : Hid (∀ v W', Below W.heap.size W W' → RR16 wr.heap.size vw vv (.slice aS S3.length cS) (.slice (some ⟨bl, ol, none⟩) ML.length cl') j bl ol xf xe xt rt b1 g2 g3 g4 c2 c3 c4 15 v → ∀ a', puts _ _ [u0, u1, u2, u3, u4, u5, u6, u7, u8, u9, u10, u11, u12, u13, u14, v, u16, u17, u18, u19, u20, u21, u22, u23, u24, u25, u26, u27] = a' → K' a' W') := fun v W' hb hv a' e => hK _ a' W' e (hI.step (fun _ _ _ _ _ h => h) hl hb hv)
                        have hWW := hbel5d.trans (hbel.mono hbel5d.size)
                        have d14 : l.getD 14 false = true := by
                          simp [Region.binds] at hd
                          simp [hd]
                        obtain rfl : u14 = _ := hHas 14 (by decide) d14
                        clear hl hI hd hn hK hHas hlen d14
                        refine StepG.mk ?_
                        simp only [puts, Act.put]
                        go_simp
                        exact HK.out (.bool g2) _ (Below.refl _ _) rfl _ (by simp [puts, Act.put])
                      refine Steps.cons rfl ?_ ?_
                      · intro l us W hl hI hd hn K' hK
                        have hHas := hI.has
                        have hbel := hI.bel
                        have hlen := hI.len
                        obtain ⟨u0, u1, u2, u3, u4, u5, u6, u7, u8, u9, u10, u11, u12, u13, u14, u15, u16, u17, u18, u19, u20, u21, u22, u23, u24, u25, u26, u27, rfl⟩ := list28p hlen
                        have HK : Hid (∀ v W', Below W.heap.size W W' → RR16 wr.heap.size vw vv (.slice aS S3.length cS) (.slice (some ⟨bl, ol, none⟩) ML.length cl') j bl ol xf xe xt rt b1 g2 g3 g4 c2 c3 c4 16 v → ∀ a', puts _ _ [u0, u1, u2, u3, u4, u5, u6, u7, u8, u9, u10, u11, u12, u13, u14, u15, v, u17, u18, u19, u20, u21, u22, u23, u24, u25, u26, u27] = a' → K' a' W') := fun v W' hb hv a' e => hK _ a' W' e (hI.step (fun _ _ _ _ _ h => h) hl hb hv)
                        have hWW := hbel5d.trans (hbel.mono hbel5d.size)
                        have d15 : l.getD 15 false = true := by
                          simp [Region.binds] at hd
                          simp [hd]
                        obtain rfl : u15 = _ := hHas 15 (by decide) d15
                        clear hl hI hd hn hK hHas hlen d15
                        cases g2 with
                        | true =>
                          refine StepG.mk ?_
                          simp only [puts, Act.put]
                          go_simp
                          exact HK.out undef _ (Below.refl _ _) (fun h => by cases h) _ (by simp [puts, Act.put])
                        | false =>
                          refine StepG.mk ?_
                          simp only [puts, Act.put]
                          go_simp
                          exact HK.out (vv) _ (Below.refl _ _) (fun _ => rfl) _ (by simp [puts, Act.put])
                      refine Steps.cons rfl ?_ ?_
                      · intro l us W hl hI hd hn K' hK
                        have hHas := hI.has
                        have hbel := hI.bel
                        have hlen := hI.len
                        obtain ⟨u0, u1, u2, u3, u4, u5, u6, u7, u8, u9, u10, u11, u12, u13, u14, u15, u16, u17, u18, u19, u20, u21, u22, u23, u24, u25, u26, u27, rfl⟩ := list28p hlen
                        have HK : Hid (∀ v W', Below W.heap.size W W' → RR16 wr.heap.size vw vv (.slice aS S3.length cS) (.slice (some ⟨bl, ol, none⟩) ML.length cl') j bl ol xf xe xt rt b1 g2 g3 g4 c2 c3 c4 17 v → ∀ a', puts _ _ [u0, u1, u2, u3, u4, u5, u6, u7, u8, u9, u10, u11, u12, u13, u14, u15, u16, v, u18, u19, u20, u21, u22, u23, u24, u25, u26, u27] = a' → K' a' W') := fun v W' hb hv a' e => hK _ a' W' e (hI.step (fun _ _ _ _ _ h => h) hl hb hv)
                        have hWW := hbel5d.trans (hbel.mono hbel5d.size)
                        have d15 : l.getD 15 false = true := by
                          simp [Region.binds] at hd
                          simp [hd]
                        obtain rfl : u15 = _ := hHas 15 (by decide) d15
                        clear hl hI hd hn hK hHas hlen d15
                        cases g2 with
                        | true =>
                          refine StepG.mk ?_
                          simp only [puts, Act.put]
                          go_simp
                          exact HK.out undef _ (Below.refl _ _) (fun h => by cases h) _ (by simp [puts, Act.put])
                        | false =>
                          refine StepG.mk ?_
                          simp only [puts, Act.put]
                          go_simp
                          exact HK.out (.pointer (some ⟨wr.heap.size, 1, none⟩)) _ (Below.refl _ _) (fun _ => rfl) _ (by simp [puts, Act.put])
                      refine Steps.cons rfl ?_ ?_
                      · intro l us W hl hI hd hn K' hK
                        have hHas := hI.has
                        have hbel := hI.bel
                        have hlen := hI.len
                        obtain ⟨u0, u1, u2, u3, u4, u5, u6, u7, u8, u9, u10, u11, u12, u13, u14, u15, u16, u17, u18, u19, u20, u21, u22, u23, u24, u25, u26, u27, rfl⟩ := list28p hlen
                        have HK : Hid (∀ v W', Below W.heap.size W W' → RR16 wr.heap.size vw vv (.slice aS S3.length cS) (.slice (some ⟨bl, ol, none⟩) ML.length cl') j bl ol xf xe xt rt b1 g2 g3 g4 c2 c3 c4 18 v → ∀ a', puts _ _ [u0, u1, u2, u3, u4, u5, u6, u7, u8, u9, u10, u11, u12, u13, u14, u15, u16, u17, v, u19, u20, u21, u22, u23, u24, u25, u26, u27] = a' → K' a' W') := fun v W' hb hv a' e => hK _ a' W' e (hI.step (fun _ _ _ _ _ h => h) hl hb hv)
                        have hWW := hbel5d.trans (hbel.mono hbel5d.size)
                        have y := keep hbel z1 hzx
                        have d15 : l.getD 15 false = true := by
                          simp [Region.binds] at hd
                          simp [hd]
                        have d17 : l.getD 17 false = true := by
                          simp [Region.binds] at hd
                          simp [hd]
                        obtain rfl : u15 = _ := hHas 15 (by decide) d15
                        have e17 : g2 = false → u17 = _ := hHas 17 (by decide) d17
                        clear hl hI hd hn hK hHas hlen d15 d17
                        cases g2 with
                        | true =>
                          clear e17
                          refine StepG.mk ?_
                          simp only [puts, Act.put]
                          go_simp
                          exact HK.out undef _ (Below.refl _ _) (fun h => by cases h) _ (by simp [puts, Act.put])
                        | false =>
                          obtain rfl := e17 rfl
                          refine StepG.mk ?_
                          simp only [puts, Act.put]
                          go_simp
                          exact HK.out (.int .i64 xe) _ (Below.refl _ _) (fun _ => rfl) _ (by simp [puts, Act.put])
                      refine Steps.cons rfl ?_ ?_
                      · intro l us W hl hI hd hn K' hK
                        have hHas := hI.has
                        have hbel := hI.bel
                        have hlen := hI.len
                        obtain ⟨u0, u1, u2, u3, u4, u5, u6, u7, u8, u9, u10, u11, u12, u13, u14, u15, u16, u17, u18, u19, u20, u21, u22, u23, u24, u25, u26, u27, rfl⟩ := list28p hlen
                        have HK : Hid (∀ v W', Below W.heap.size W W' → RR16 wr.heap.size vw vv (.slice aS S3.length cS) (.slice (some ⟨bl, ol, none⟩) ML.length cl') j bl ol xf xe xt rt b1 g2 g3 g4 c2 c3 c4 19 v → ∀ a', puts _ _ [u0, u1, u2, u3, u4, u5, u6, u7, u8, u9, u10, u11, u12, u13, u14, u15, u16, u17, u18, v, u20, u21, u22, u23, u24, u25, u26, u27] = a' → K' a' W') := fun v W' hb hv a' e => hK _ a' W' e (hI.step (fun _ _ _ _ _ h => h) hl hb hv)
                        have hWW := hbel5d.trans (hbel.mono hbel5d.size)
                        have d15 : l.getD 15 false = true := by
                          simp [Region.binds] at hd
                          simp [hd]
                        have d16 : l.getD 16 false = true := by
                          simp [Region.binds] at hd
                          simp [hd]
                        have d18 : l.getD 18 false = true := by
                          simp [Region.binds] at hd
                          simp [hd]
                        obtain rfl : u15 = _ := hHas 15 (by decide) d15
                        have e16 : g2 = false → u16 = _ := hHas 16 (by decide) d16
                        have e18 : g2 = false → u18 = _ := hHas 18 (by decide) d18
                        clear hl hI hd hn hK hHas hlen d15 d16 d18
                        cases g2 with
                        | true =>
                          clear e16 e18
                          refine StepG.mk ?_
                          simp only [puts, Act.put]
                          go_simp
                          exact HK.out undef _ (Below.refl _ _) (fun h => by cases h) _ (by simp [puts, Act.put])
                        | false =>
                          obtain rfl := e16 rfl
                          obtain rfl := e18 rfl
                          refine StepG.mk ?_
                          simp only [puts, Act.put]
                          go_simp
                          refine (has_any _ evs xe _ (H3.out.mono hWW) hl3).mono ?_
                          rintro e w1 ⟨rfl, rfl⟩
                          rw [B3.out]
                          go_simp
                          exact HK.out (.bool c3) _ (Below.refl _ _) (fun _ => rfl) _ (by simp [puts, Act.put])
                      refine Steps.cons rfl ?_ ?_
                      · intro l us W hl hI hd hn K' hK
                        have hHas := hI.has
                        have hbel := hI.bel
                        have hlen := hI.len
                        obtain ⟨u0, u1, u2, u3, u4, u5, u6, u7, u8, u9, u10, u11, u12, u13, u14, u15, u16, u17, u18, u19, u20, u21, u22, u23, u24, u25, u26, u27, rfl⟩ := list28p hlen
                        have HK : Hid (∀ v W', Below W.heap.size W W' → RR16 wr.heap.size vw vv (.slice aS S3.length cS) (.slice (some ⟨bl, ol, none⟩) ML.length cl') j bl ol xf xe xt rt b1 g2 g3 g4 c2 c3 c4 20 v → ∀ a', puts _ _ [u0, u1, u2, u3, u4, u5, u6, u7, u8, u9, u10, u11, u12, u13, u14, u15, u16, u17, u18, u19, v, u21, u22, u23, u24, u25, u26, u27] = a' → K' a' W') := fun v W' hb hv a' e => hK _ a' W' e (hI.step (fun _ _ _ _ _ h => h) hl hb hv)
                        have hWW := hbel5d.trans (hbel.mono hbel5d.size)
                        have d15 : l.getD 15 false = true := by
                          simp [Region.binds] at hd
                          simp [hd]
                        have d19 : l.getD 19 false = true := by
                          simp [Region.binds] at hd
                          simp [hd]
                        obtain rfl : u15 = _ := hHas 15 (by decide) d15
                        have e19 : g2 = false → u19 = _ := hHas 19 (by decide) d19
                        clear hl hI hd hn hK hHas hlen d15 d19
                        cases g2 with
                        | true =>
                          clear e19
                          refine StepG.mk ?_
                          simp only [puts, Act.put]
                          go_simp
                          exact HK.out undef _ (Below.refl _ _) (fun h => by cases h) _ (by simp [puts, Act.put])
                        | false =>
                          obtain rfl := e19 rfl
                          refine StepG.mk ?_
                          simp only [puts, Act.put]
                          go_simp
                          exact HK.out (.bool (!c3)) _ (Below.refl _ _) (fun _ => rfl) _ (by simp [puts, Act.put])
                      refine Steps.cons rfl ?_ ?_
                      · intro l us W hl hI hd hn K' hK
                        have hHas := hI.has
                        have hbel := hI.bel
                        have hlen := hI.len
                        obtain ⟨u0, u1, u2, u3, u4, u5, u6, u7, u8, u9, u10, u11, u12, u13, u14, u15, u16, u17, u18, u19, u20, u21, u22, u23, u24, u25, u26, u27, rfl⟩ := list28p hlen
                        have HK : Hid (∀ v W', Below W.heap.size W W' → RR16 wr.heap.size vw vv (.slice aS S3.length cS) (.slice (some ⟨bl, ol, none⟩) ML.length cl') j bl ol xf xe xt rt b1 g2 g3 g4 c2 c3 c4 21 v → ∀ a', puts _ _ [u0, u1, u2, u3, u4, u5, u6, u7, u8, u9, u10, u11, u12, u13, u14, u15, u16, u17, u18, u19, u20, v, u22, u23, u24, u25, u26, u27] = a' → K' a' W') := fun v W' hb hv a' e => hK _ a' W' e (hI.step (fun _ _ _ _ _ h => h) hl hb hv)
                        have hWW := hbel5d.trans (hbel.mono hbel5d.size)
                        have d15 : l.getD 15 false = true := by
                          simp [Region.binds] at hd
                          simp [hd]
                        have d20 : l.getD 20 false = true := by
                          simp [Region.binds] at hd
                          simp [hd]
                        obtain rfl : u15 = _ := hHas 15 (by decide) d15
                        have e20 : g2 = false → u20 = _ := hHas 20 (by decide) d20
                        clear hl hI hd hn hK hHas hlen d15 d20
                        cases g2 with
                        | true =>
                          clear e20
                          refine StepG.mk ?_
                          simp only [puts, Act.put]
                          go_simp
                          exact HK.out (.bool true) _ (Below.refl _ _) (by rw [G3.out]; rfl) _ (by simp [puts, Act.put])
                        | false =>
                          obtain rfl := e20 rfl
                          refine StepG.mk ?_
                          simp only [puts, Act.put]
                          go_simp
                          exact HK.out (.bool (!c3)) _ (Below.refl _ _) (by rw [G3.out]; rfl) _ (by simp [puts, Act.put])
                      refine Steps.cons rfl ?_ ?_
                      · intro l us W hl hI hd hn K' hK
                        have hHas := hI.has
                        have hbel := hI.bel
                        have hlen := hI.len
                        obtain ⟨u0, u1, u2, u3, u4, u5, u6, u7, u8, u9, u10, u11, u12, u13, u14, u15, u16, u17, u18, u19, u20, u21, u22, u23, u24, u25, u26, u27, rfl⟩ := list28p hlen
                        have HK : Hid (∀ v W', Below W.heap.size W W' → RR16 wr.heap.size vw vv (.slice aS S3.length cS) (.slice (some ⟨bl, ol, none⟩) ML.length cl') j bl ol xf xe xt rt b1 g2 g3 g4 c2 c3 c4 22 v → ∀ a', puts _ _ [u0, u1, u2, u3, u4, u5, u6, u7, u8, u9, u10, u11, u12, u13, u14, u15, u16, u17, u18, u19, u20, u21, v, u23, u24, u25, u26, u27] = a' → K' a' W') := fun v W' hb hv a' e => hK _ a' W' e (hI.step (fun _ _ _ _ _ h => h) hl hb hv)
                        have hWW := hbel5d.trans (hbel.mono hbel5d.size)
                        have d21 : l.getD 21 false = true := by
                          simp [Region.binds] at hd
                          simp [hd]
                        obtain rfl : u21 = _ := hHas 21 (by decide) d21
                        clear hl hI hd hn hK hHas hlen d21
                        refine StepG.mk ?_
                        simp only [puts, Act.put]
                        go_simp
                        exact HK.out (.bool g3) _ (Below.refl _ _) rfl _ (by simp [puts, Act.put])
                      refine Steps.cons rfl ?_ ?_
                      · intro l us W hl hI hd hn K' hK
                        have hHas := hI.has
                        have hbel := hI.bel
                        have hlen := hI.len
                        obtain ⟨u0, u1, u2, u3, u4, u5, u6, u7, u8, u9, u10, u11, u12, u13, u14, u15, u16, u17, u18, u19, u20, u21, u22, u23, u24, u25, u26, u27, rfl⟩ := list28p hlen
                        have HK : Hid (∀ v W', Below W.heap.size W W' → RR16 wr.heap.size vw vv (.slice aS S3.length cS) (.slice (some ⟨bl, ol, none⟩) ML.length cl') j bl ol xf xe xt rt b1 g2 g3 g4 c2 c3 c4 23 v → ∀ a', puts _ _ [u0, u1, u2, u3, u4, u5, u6, u7, u8, u9, u10, u11, u12, u13, u14, u15, u16, u17, u18, u19, u20, u21, u22, v, u24, u25, u26, u27] = a' → K' a' W') := fun v W' hb hv a' e => hK _ a' W' e (hI.step (fun _ _ _ _ _ h => h) hl hb hv)
                        have hWW := hbel5d.trans (hbel.mono hbel5d.size)
                        have d22 : l.getD 22 false = true := by
                          simp [Region.binds] at hd
                          simp [hd]
                        obtain rfl : u22 = _ := hHas 22 (by decide) d22
                        clear hl hI hd hn hK hHas hlen d22
                        cases g3 with
                        | true =>
                          refine StepG.mk ?_
                          simp only [puts, Act.put]
                          go_simp
                          exact HK.out undef _ (Below.refl _ _) (fun h => by cases h) _ (by simp [puts, Act.put])
                        | false =>
                          refine StepG.mk ?_
                          simp only [puts, Act.put]
                          go_simp
                          exact HK.out ((.slice aS S3.length cS)) _ (Below.refl _ _) (fun _ => rfl) _ (by simp [puts, Act.put])
                      refine Steps.cons rfl ?_ ?_
                      · intro l us W hl hI hd hn K' hK
                        have hHas := hI.has
                        have hbel := hI.bel
                        have hlen := hI.len
                        obtain ⟨u0, u1, u2, u3, u4, u5, u6, u7, u8, u9, u10, u11, u12, u13, u14, u15, u16, u17, u18, u19, u20, u21, u22, u23, u24, u25, u26, u27, rfl⟩ := list28p hlen
                        have HK : Hid (∀ v W', Below W.heap.size W W' → RR16 wr.heap.size vw vv (.slice aS S3.length cS) (.slice (some ⟨bl, ol, none⟩) ML.length cl') j bl ol xf xe xt rt b1 g2 g3 g4 c2 c3 c4 24 v → ∀ a', puts _ _ [u0, u1, u2, u3, u4, u5, u6, u7, u8, u9, u10, u11, u12, u13, u14, u15, u16, u17, u18, u19, u20, u21, u22, u23, v, u25, u26, u27] = a' → K' a' W') := fun v W' hb hv a' e => hK _ a' W' e (hI.step (fun _ _ _ _ _ h => h) hl hb hv)
                        have hWW := hbel5d.trans (hbel.mono hbel5d.size)
                        have d22 : l.getD 22 false = true := by
                          simp [Region.binds] at hd
                          simp [hd]
                        obtain rfl : u22 = _ := hHas 22 (by decide) d22
                        clear hl hI hd hn hK hHas hlen d22
                        cases g3 with
                        | true =>
                          refine StepG.mk ?_
                          simp only [puts, Act.put]
                          go_simp
                          exact HK.out undef _ (Below.refl _ _) (fun h => by cases h) _ (by simp [puts, Act.put])
                        | false =>
                          refine StepG.mk ?_
                          simp only [puts, Act.put]
                          go_simp
                          exact HK.out (.pointer (some ⟨wr.heap.size, 2, none⟩)) _ (Below.refl _ _) (fun _ => rfl) _ (by simp [puts, Act.put])
                      refine Steps.cons rfl ?_ ?_
                      · intro l us W hl hI hd hn K' hK
                        have hHas := hI.has
                        have hbel := hI.bel
                        have hlen := hI.len
                        obtain ⟨u0, u1, u2, u3, u4, u5, u6, u7, u8, u9, u10, u11, u12, u13, u14, u15, u16, u17, u18, u19, u20, u21, u22, u23, u24, u25, u26, u27, rfl⟩ := list28p hlen
                        have HK : Hid (∀ v W', Below W.heap.size W W' → RR16 wr.heap.size vw vv (.slice aS S3.length cS) (.slice (some ⟨bl, ol, none⟩) ML.length cl') j bl ol xf xe xt rt b1 g2 g3 g4 c2 c3 c4 25 v → ∀ a', puts _ _ [u0, u1, u2, u3, u4, u5, u6, u7, u8, u9, u10, u11, u12, u13, u14, u15, u16, u17, u18, u19, u20, u21, u22, u23, u24, v, u26, u27] = a' → K' a' W') := fun v W' hb hv a' e => hK _ a' W' e (hI.step (fun _ _ _ _ _ h => h) hl hb hv)
                        have hWW := hbel5d.trans (hbel.mono hbel5d.size)
                        have y := keep hbel z2 hzx
                        have d22 : l.getD 22 false = true := by
                          simp [Region.binds] at hd
                          simp [hd]
                        have d24 : l.getD 24 false = true := by
                          simp [Region.binds] at hd
                          simp [hd]
                        obtain rfl : u22 = _ := hHas 22 (by decide) d22
                        have e24 : g3 = false → u24 = _ := hHas 24 (by decide) d24
                        clear hl hI hd hn hK hHas hlen d22 d24
                        cases g3 with
                        | true =>
                          clear e24
                          refine StepG.mk ?_
                          simp only [puts, Act.put]
                          go_simp
                          exact HK.out undef _ (Below.refl _ _) (fun h => by cases h) _ (by simp [puts, Act.put])
                        | false =>
                          obtain rfl := e24 rfl
                          refine StepG.mk ?_
                          simp only [puts, Act.put]
                          go_simp
                          exact HK.out (.int .i64 xt) _ (Below.refl _ _) (fun _ => rfl) _ (by simp [puts, Act.put])
                      refine Steps.cons rfl ?_ ?_
                      · intro l us W hl hI hd hn K' hK
                        have hHas := hI.has
                        have hbel := hI.bel
                        have hlen := hI.len
                        obtain ⟨u0, u1, u2, u3, u4, u5, u6, u7, u8, u9, u10, u11, u12, u13, u14, u15, u16, u17, u18, u19, u20, u21, u22, u23, u24, u25, u26, u27, rfl⟩ := list28p hlen
                        have HK : Hid (∀ v W', Below W.heap.size W W' → RR16 wr.heap.size vw vv (.slice aS S3.length cS) (.slice (some ⟨bl, ol, none⟩) ML.length cl') j bl ol xf xe xt rt b1 g2 g3 g4 c2 c3 c4 26 v → ∀ a', puts _ _ [u0, u1, u2, u3, u4, u5, u6, u7, u8, u9, u10, u11, u12, u13, u14, u15, u16, u17, u18, u19, u20, u21, u22, u23, u24, u25, v, u27] = a' → K' a' W') := fun v W' hb hv a' e => hK _ a' W' e (hI.step (fun _ _ _ _ _ h => h) hl hb hv)
                        have hWW := hbel5d.trans (hbel.mono hbel5d.size)
                        have d22 : l.getD 22 false = true := by
                          simp [Region.binds] at hd
                          simp [hd]
                        have d23 : l.getD 23 false = true := by
                          simp [Region.binds] at hd
                          simp [hd]
                        have d25 : l.getD 25 false = true := by
                          simp [Region.binds] at hd
                          simp [hd]
                        obtain rfl : u22 = _ := hHas 22 (by decide) d22
                        have e23 : g3 = false → u23 = _ := hHas 23 (by decide) d23
                        have e25 : g3 = false → u25 = _ := hHas 25 (by decide) d25
                        clear hl hI hd hn hK hHas hlen d22 d23 d25
                        cases g3 with
                        | true =>
                          clear e23 e25
                          refine StepG.mk ?_
                          simp only [puts, Act.put]
                          go_simp
                          exact HK.out undef _ (Below.refl _ _) (fun h => by cases h) _ (by simp [puts, Act.put])
                        | false =>
                          obtain rfl := e23 rfl
                          obtain rfl := e25 rfl
                          refine StepG.mk ?_
                          simp only [puts, Act.put]
                          go_simp
                          refine (has_any _ S3 xt _ (Hse.out.mono ((bel_drew _).trans hbel)) hS3l).mono ?_
                          rintro e w1 ⟨rfl, rfl⟩
                          rw [B4.out]
                          go_simp
                          exact HK.out (.bool c4) _ (Below.refl _ _) (fun _ => rfl) _ (by simp [puts, Act.put])
                      refine Steps.cons rfl ?_ ?_
                      · intro l us W hl hI hd hn K' hK
                        have hHas := hI.has
                        have hbel := hI.bel
                        have hlen := hI.len
                        obtain ⟨u0, u1, u2, u3, u4, u5, u6, u7, u8, u9, u10, u11, u12, u13, u14, u15, u16, u17, u18, u19, u20, u21, u22, u23, u24, u25, u26, u27, rfl⟩ := list28p hlen
                        have HK : Hid (∀ v W', Below W.heap.size W W' → RR16 wr.heap.size vw vv (.slice aS S3.length cS) (.slice (some ⟨bl, ol, none⟩) ML.length cl') j bl ol xf xe xt rt b1 g2 g3 g4 c2 c3 c4 27 v → ∀ a', puts _ _ [u0, u1, u2, u3, u4, u5, u6, u7, u8, u9, u10, u11, u12, u13, u14, u15, u16, u17, u18, u19, u20, u21, u22, u23, u24, u25, u26, v] = a' → K' a' W') := fun v W' hb hv a' e => hK _ a' W' e (hI.step (fun _ _ _ _ _ h => h) hl hb hv)
                        have hWW := hbel5d.trans (hbel.mono hbel5d.size)
                        have d22 : l.getD 22 false = true := by
                          simp [Region.binds] at hd
                          simp [hd]
                        have d26 : l.getD 26 false = true := by
                          simp [Region.binds] at hd
                          simp [hd]
                        obtain rfl : u22 = _ := hHas 22 (by decide) d22
                        have e26 : g3 = false → u26 = _ := hHas 26 (by decide) d26
                        clear hl hI hd hn hK hHas hlen d22 d26
                        cases g3 with
                        | true =>
                          clear e26
                          refine StepG.mk ?_
                          simp only [puts, Act.put]
                          go_simp
                          exact HK.out (.bool true) _ (Below.refl _ _) (by rw [G4.out]; rfl) _ (by simp [puts, Act.put])
                        | false =>
                          obtain rfl := e26 rfl
                          refine StepG.mk ?_
                          simp only [puts, Act.put]
                          go_simp
                          exact HK.out (.bool c4) _ (Below.refl _ _) (by rw [G4.out]; rfl) _ (by simp [puts, Act.put])
                      exact Steps.nil (Nat.le_refl _)
                    · intro us W hlen hbel hall
                      obtain ⟨u0, u1, u2, u3, u4, u5, u6, u7, u8, u9, u10, u11, u12, u13, u14, u15, u16, u17, u18, u19, u20, u21, u22, u23, u24, u25, u26, u27, rfl⟩ := list28p hlen
                      obtain rfl : u27 = _ := hall 27 (by decide)
                      have HI6 := Lib.hid (HI5.out.turn (Turn.below ((bel_drew _).trans hbel)) (Nat.le_refl 5))
                      have HO6 := Lib.hid (HOx.out.below ((bel_drew _).trans hbel))
                      obtain ⟨aw, cw, hvw⟩ := hrw.val
                      have y1 := keep hbel z1 hzx
                      have y2 := keep hbel z2 hzx
                      have hxW : wr.heap.size < W.heap.size := Nat.lt_of_lt_of_le hzx hbel.size
                      have hbelW := hbel5d.trans (hbel.mono hbel5d.size)
                      have hpk := Lib.hid (pOk_of (x := ⟨xf, xe, xt⟩) B1.out B2.out B3.out B4.out G2.out G3.out G4.out)
                      clear hall hlen HI5 HI HOx z0 z1 z2 zr hzr Hse hrw hzx hbel hbel5 hbel5d
                      simp only [puts, Act.put, List.setIfInBounds_toArray, List.set_cons_succ, List.set_cons_zero]
                      cases g4 with
                      | true =>
                        have HZ : Hid (eLoop wi evs tg (ru, rt) es S2 (bare MN) = eLoop wi evs tg (ru, rt) (es.drop (q + 1)) S3 (bare MN3)) := by
                          show _ = _
                          rw [Hd.out, eLoop_skip (hpk.out.1 rfl)]
                        clear Hd hpk
                        go_wp2_with fail
                        go_roundw
                        case rel => exact ⟨q + 1, S3, MN3, _, by go_num, by omega, HI6.out, Hinc.out, hSn, hMN, hwN, HZ.out⟩
                        case measure => simp [intOf]; omega
                      | false =>
                        have hnS : xt ∉ S3 := fun hm => by have := (hpk.out.2 rfl).2.2.2; rw [show (⟨xf, xe, xt⟩ : Ed).t = xt from rfl, hasB_true.2 hm] at this; cases this
                        have HnS := Lib.hid hnS
                        have Hok := Lib.hid (hpk.out.2 rfl)
                        clear hnS hpk
                        go_wp2_with (go_at_call 51; refine (add_row _ S3 xt _ HI6.out.se.rdI hS3l).mono ?_; rintro e w1 ⟨v1, rfl, ⟨_, hrow1⟩, hb1⟩; obtain ⟨tg1, hrow1⟩ := hrow1 HnS.out; obtain ⟨a1, c1, rfl⟩ := hrow1.val)
                        generalize hS4 : addL S3 xt = S4 at hrow1 ⊢
                        have HS4 := Lib.hid hS4.symm
                        have HP1 : Hid (PhiR w (.slice aa al.length ca) (.int .i64 n) (.slice am ms.length cm) (.slice (some ⟨be, oe, none⟩) es.length ce) (.slice (some ⟨bl, ol, none⟩) ML.length cl') ML (.slice a1 S4.length c1) S4 (.slice an MN3.length cn) MN3 wr.heap.size xf xe xt (tagFrom (tagUp tag3 wr.heap.size 5) W.heap.size 4) w1) := ⟨HI6.out.see hb1 hrow1, HO6.out.turn (Turn.call (B := w.heap.size) hb1) (by decide)⟩
                        have hul : ru.length ≤ 100000 := by have := hwj; omega
                        clear hS4 hrow1 HI6 HO6 y1 y2 hxW hbelW hb1
                        refine wp_region_inv (fun l us W => ∃ tag, RApp (PhiR w (.slice aa al.length ca) (.int .i64 n) (.slice am ms.length cm) (.slice (some ⟨be, oe, none⟩) es.length ce) (.slice (some ⟨bl, ol, none⟩) ML.length cl') ML (.slice a1 S4.length c1) S4 (.slice an MN3.length cn) MN3 wr.heap.size xf xe xt) (PR18 (.slice (some ⟨bl, ol, none⟩) ML.length cl') j bl ol wr.heap.size (.slice aw ru.length cw) xe) w.heap.size ru xe l us tag W) [88, 89, 90, 91, 92, 93, 94, 95, 96, 97, 98, 20] (by kernel_rfl) (by kernel_rfl) ⟨_, RApp.start rfl HP1.out.1.bel.size (PhiR_turn (k := 6) (Turn.below (bel_drew _)) HP1.out.1.bel.size (by decide) HP1.out)⟩ ?_ ?_
                        · skip
                          refine Steps.cons rfl ?_ ?_
                          · intro l us W2 hl hI hd hn K' hK
                            obtain ⟨tg2, hI⟩ := hI
                            have hlen := hI.len
                            obtain ⟨u0, u1, u2, u3, u4, u5, u6, u7, u8, u9, u10, u11, rfl⟩ := list12p hlen
                            have HK : Hid (∀ v W' tag', RApp (PhiR w (.slice aa al.length ca) (.int .i64 n) (.slice am ms.length cm) (.slice (some ⟨be, oe, none⟩) es.length ce) (.slice (some ⟨bl, ol, none⟩) ML.length cl') ML (.slice a1 S4.length c1) S4 (.slice an MN3.length cn) MN3 wr.heap.size xf xe xt) (PR18 (.slice (some ⟨bl, ol, none⟩) ML.length cl') j bl ol wr.heap.size (.slice aw ru.length cw) xe) w.heap.size ru xe (l.setIfInBounds 0 true) ([u0, u1, u2, u3, u4, u5, u6, u7, u8, u9, u10, u11].set 0 v) tag' W' → ∀ a', puts _ _ [v, u1, u2, u3, u4, u5, u6, u7, u8, u9, u10, u11] = a' → K' a' W') := fun v W' tag' h a' e => hK _ a' W' e ⟨tag', h⟩
                            have HS := Lib.hid (hI.op0 hl PhiR_turn hn (fun _ => trivial))
                            clear hK hl hI hlen hd hn
                            refine StepG.mk ?_
                            simp only [puts, Act.put]
                            go_simp
                            exact HK.out _ _ _ HS.out _ (by simp [puts, Act.put])
                          refine Steps.cons rfl ?_ ?_
                          · intro l us W2 hl hI hd hn K' hK
                            obtain ⟨tg2, hI⟩ := hI
                            have hlen := hI.len
                            obtain ⟨u0, u1, u2, u3, u4, u5, u6, u7, u8, u9, u10, u11, rfl⟩ := list12p hlen
                            have HK : Hid (∀ v W' tag', RApp (PhiR w (.slice aa al.length ca) (.int .i64 n) (.slice am ms.length cm) (.slice (some ⟨be, oe, none⟩) es.length ce) (.slice (some ⟨bl, ol, none⟩) ML.length cl') ML (.slice a1 S4.length c1) S4 (.slice an MN3.length cn) MN3 wr.heap.size xf xe xt) (PR18 (.slice (some ⟨bl, ol, none⟩) ML.length cl') j bl ol wr.heap.size (.slice aw ru.length cw) xe) w.heap.size ru xe (l.setIfInBounds 1 true) ([u0, u1, u2, u3, u4, u5, u6, u7, u8, u9, u10, u11].set 1 v) tag' W' → ∀ a', puts _ _ [u0, v, u2, u3, u4, u5, u6, u7, u8, u9, u10, u11] = a' → K' a' W') := fun v W' tag' h a' e => hK _ a' W' e ⟨tag', h⟩
                            have HS := Lib.hid (hI.pureStep (v := (.slice (some ⟨bl, ol, none⟩) ML.length cl')) hl (by decide) rfl)
                            clear hK hl hI hlen hd hn
                            refine StepG.mk ?_
                            simp only [puts, Act.put]
                            go_simp
                            exact HK.out _ _ _ HS.out _ (by simp [puts, Act.put])
                          refine Steps.cons rfl ?_ ?_
                          · intro l us W2 hl hI hd hn K' hK
                            obtain ⟨tg2, hI⟩ := hI
                            have hlen := hI.len
                            obtain ⟨u0, u1, u2, u3, u4, u5, u6, u7, u8, u9, u10, u11, rfl⟩ := list12p hlen
                            have HK : Hid (∀ v W' tag', RApp (PhiR w (.slice aa al.length ca) (.int .i64 n) (.slice am ms.length cm) (.slice (some ⟨be, oe, none⟩) es.length ce) (.slice (some ⟨bl, ol, none⟩) ML.length cl') ML (.slice a1 S4.length c1) S4 (.slice an MN3.length cn) MN3 wr.heap.size xf xe xt) (PR18 (.slice (some ⟨bl, ol, none⟩) ML.length cl') j bl ol wr.heap.size (.slice aw ru.length cw) xe) w.heap.size ru xe (l.setIfInBounds 2 true) ([u0, u1, u2, u3, u4, u5, u6, u7, u8, u9, u10, u11].set 2 v) tag' W' → ∀ a', puts _ _ [u0, u1, v, u3, u4, u5, u6, u7, u8, u9, u10, u11] = a' → K' a' W') := fun v W' tag' h a' e => hK _ a' W' e ⟨tag', h⟩
                            have HS := Lib.hid (hI.pureStep (v := .int .i64 j) hl (by decide) rfl)
                            clear hK hl hI hlen hd hn
                            refine StepG.mk ?_
                            simp only [puts, Act.put]
                            go_simp
                            exact HK.out _ _ _ HS.out _ (by simp [puts, Act.put])
                          refine Steps.cons rfl ?_ ?_
                          · intro l us W2 hl hI hd hn K' hK
                            obtain ⟨tg2, hI⟩ := hI
                            have hlen := hI.len
                            obtain ⟨u0, u1, u2, u3, u4, u5, u6, u7, u8, u9, u10, u11, rfl⟩ := list12p hlen
                            have HK : Hid (∀ v W' tag', RApp (PhiR w (.slice aa al.length ca) (.int .i64 n) (.slice am ms.length cm) (.slice (some ⟨be, oe, none⟩) es.length ce) (.slice (some ⟨bl, ol, none⟩) ML.length cl') ML (.slice a1 S4.length c1) S4 (.slice an MN3.length cn) MN3 wr.heap.size xf xe xt) (PR18 (.slice (some ⟨bl, ol, none⟩) ML.length cl') j bl ol wr.heap.size (.slice aw ru.length cw) xe) w.heap.size ru xe (l.setIfInBounds 3 true) ([u0, u1, u2, u3, u4, u5, u6, u7, u8, u9, u10, u11].set 3 v) tag' W' → ∀ a', puts _ _ [u0, u1, u2, v, u4, u5, u6, u7, u8, u9, u10, u11] = a' → K' a' W') := fun v W' tag' h a' e => hK _ a' W' e ⟨tag', h⟩
                            have d1 : l.getD 1 false = true := by
                              simp [Region.binds] at hd
                              simp [hd]
                            have d2 : l.getD 2 false = true := by
                              simp [Region.binds] at hd
                              simp [hd]
                            obtain rfl : u1 = _ := hI.pure 1 (by decide) d1
                            obtain rfl : u2 = _ := hI.pure 2 (by decide) d2
                            have HS := Lib.hid (hI.pureStep (v := .pointer (some ⟨bl, ol + j * 2, none⟩)) hl (by decide) rfl)
                            clear hK hl hI hlen hd hn d1 d2
                            refine StepG.mk ?_
                            simp only [puts, Act.put]
                            go_simp
                            exact HK.out _ _ _ HS.out _ (by simp [puts, Act.put])
                          refine Steps.cons rfl ?_ ?_
                          · intro l us W2 hl hI hd hn K' hK
                            obtain ⟨tg2, hI⟩ := hI
                            have hlen := hI.len
                            obtain ⟨u0, u1, u2, u3, u4, u5, u6, u7, u8, u9, u10, u11, rfl⟩ := list12p hlen
                            have HK : Hid (∀ v W' tag', RApp (PhiR w (.slice aa al.length ca) (.int .i64 n) (.slice am ms.length cm) (.slice (some ⟨be, oe, none⟩) es.length ce) (.slice (some ⟨bl, ol, none⟩) ML.length cl') ML (.slice a1 S4.length c1) S4 (.slice an MN3.length cn) MN3 wr.heap.size xf xe xt) (PR18 (.slice (some ⟨bl, ol, none⟩) ML.length cl') j bl ol wr.heap.size (.slice aw ru.length cw) xe) w.heap.size ru xe (l.setIfInBounds 4 true) ([u0, u1, u2, u3, u4, u5, u6, u7, u8, u9, u10, u11].set 4 v) tag' W' → ∀ a', puts _ _ [u0, u1, u2, u3, v, u5, u6, u7, u8, u9, u10, u11] = a' → K' a' W') := fun v W' tag' h a' e => hK _ a' W' e ⟨tag', h⟩
                            have d3 : l.getD 3 false = true := by
                              simp [Region.binds] at hd
                              simp [hd]
                            obtain rfl : u3 = _ := hI.pure 3 (by decide) d3
                            have HS := Lib.hid (hI.pureStep (v := .pointer (some ⟨bl, ol + j * 2, none⟩)) hl (by decide) rfl)
                            clear hK hl hI hlen hd hn d3
                            refine StepG.mk ?_
                            simp only [puts, Act.put]
                            go_simp
                            exact HK.out _ _ _ HS.out _ (by simp [puts, Act.put])
                          refine Steps.cons rfl ?_ ?_
                          · intro l us W2 hl hI hd hn K' hK
                            obtain ⟨tg2, hI⟩ := hI
                            have hlen := hI.len
                            obtain ⟨u0, u1, u2, u3, u4, u5, u6, u7, u8, u9, u10, u11, rfl⟩ := list12p hlen
                            have HK : Hid (∀ v W' tag', RApp (PhiR w (.slice aa al.length ca) (.int .i64 n) (.slice am ms.length cm) (.slice (some ⟨be, oe, none⟩) es.length ce) (.slice (some ⟨bl, ol, none⟩) ML.length cl') ML (.slice a1 S4.length c1) S4 (.slice an MN3.length cn) MN3 wr.heap.size xf xe xt) (PR18 (.slice (some ⟨bl, ol, none⟩) ML.length cl') j bl ol wr.heap.size (.slice aw ru.length cw) xe) w.heap.size ru xe (l.setIfInBounds 5 true) ([u0, u1, u2, u3, u4, u5, u6, u7, u8, u9, u10, u11].set 5 v) tag' W' → ∀ a', puts _ _ [u0, u1, u2, u3, u4, v, u6, u7, u8, u9, u10, u11] = a' → K' a' W') := fun v W' tag' h a' e => hK _ a' W' e ⟨tag', h⟩
                            have d4 : l.getD 4 false = true := by
                              simp [Region.binds] at hd
                              simp [hd]
                            obtain rfl : u4 = _ := hI.pure 4 (by decide) d4
                            have HS := Lib.hid (hI.pureStep (v := .slice aw ru.length cw) hl (by decide) rfl)
                            obtain ⟨b9, o9, c9, e9, _, y9, _, _⟩ := hI.phi.1.at_run j hlt
                            cases e9
                            rw [hvw] at y9
                            clear hK hl hI hlen hd hn d4
                            refine StepG.mk ?_
                            simp only [puts, Act.put]
                            go_simp
                            exact HK.out _ _ _ HS.out _ (by simp [puts, Act.put])
                          refine Steps.cons rfl ?_ ?_
                          · intro l us W2 hl hI hd hn K' hK
                            obtain ⟨tg2, hI⟩ := hI
                            have hlen := hI.len
                            obtain ⟨u0, u1, u2, u3, u4, u5, u6, u7, u8, u9, u10, u11, rfl⟩ := list12p hlen
                            have HK : Hid (∀ v W' tag', RApp (PhiR w (.slice aa al.length ca) (.int .i64 n) (.slice am ms.length cm) (.slice (some ⟨be, oe, none⟩) es.length ce) (.slice (some ⟨bl, ol, none⟩) ML.length cl') ML (.slice a1 S4.length c1) S4 (.slice an MN3.length cn) MN3 wr.heap.size xf xe xt) (PR18 (.slice (some ⟨bl, ol, none⟩) ML.length cl') j bl ol wr.heap.size (.slice aw ru.length cw) xe) w.heap.size ru xe (l.setIfInBounds 6 true) ([u0, u1, u2, u3, u4, u5, u6, u7, u8, u9, u10, u11].set 6 v) tag' W' → ∀ a', puts _ _ [u0, u1, u2, u3, u4, u5, v, u7, u8, u9, u10, u11] = a' → K' a' W') := fun v W' tag' h a' e => hK _ a' W' e ⟨tag', h⟩
                            have d0 : l.getD 0 false = true := by
                              simp [Region.binds] at hd
                              simp [hd]
                            have d5 : l.getD 5 false = true := by
                              simp [Region.binds] at hd
                              simp [hd]
                            obtain rfl : u5 = _ := hI.pure 5 (by decide) d5
                            have hs0 := hI.s0 d0 hn
                            have hwd := hI.phi.1.wl _ (List.getElem_mem hlt)
                            rw [hvw, hr] at hwd
                            obtain ⟨a9, c9, e9, hrd⟩ := hwd.rd
                            cases e9
                            have hmx := hrd.hmax
                            refine StepG.append_row rfl _ _ 28 rfl 3 i0 (.int .i64 0) 8 Try.underlying28 hi hz0 hz1 hz2 rfl (by simp [puts, Act.put, Act.eval]) hs0 aw ru.length cw (ints ru) (by simp [puts, Act.put, Act.eval]) (by simp) hrd.src.1 hrd.src.2 (ints_oneCell .i64 _) (by unfold maxLen; omega) (by omega) hI.size ?_
                            intro v9 W9 tag9 hr9 ht9
                            exact HK.out _ _ _ (hI.op6 hl PhiR_turn hn d0 (fun _ => trivial) ht9 hr9) _ (by simp [puts, Act.put])
                          refine Steps.cons rfl ?_ ?_
                          · intro l us W2 hl hI hd hn K' hK
                            obtain ⟨tg2, hI⟩ := hI
                            have hlen := hI.len
                            obtain ⟨u0, u1, u2, u3, u4, u5, u6, u7, u8, u9, u10, u11, rfl⟩ := list12p hlen
                            have HK : Hid (∀ v W' tag', RApp (PhiR w (.slice aa al.length ca) (.int .i64 n) (.slice am ms.length cm) (.slice (some ⟨be, oe, none⟩) es.length ce) (.slice (some ⟨bl, ol, none⟩) ML.length cl') ML (.slice a1 S4.length c1) S4 (.slice an MN3.length cn) MN3 wr.heap.size xf xe xt) (PR18 (.slice (some ⟨bl, ol, none⟩) ML.length cl') j bl ol wr.heap.size (.slice aw ru.length cw) xe) w.heap.size ru xe (l.setIfInBounds 7 true) ([u0, u1, u2, u3, u4, u5, u6, u7, u8, u9, u10, u11].set 7 v) tag' W' → ∀ a', puts _ _ [u0, u1, u2, u3, u4, u5, u6, v, u8, u9, u10, u11] = a' → K' a' W') := fun v W' tag' h a' e => hK _ a' W' e ⟨tag', h⟩
                            have HS := Lib.hid (hI.pureStep (v := .pointer (some ⟨wr.heap.size, 1, none⟩)) hl (by decide) rfl)
                            clear hK hl hI hlen hd hn
                            refine StepG.mk ?_
                            simp only [puts, Act.put]
                            go_simp
                            exact HK.out _ _ _ HS.out _ (by simp [puts, Act.put])
                          refine Steps.cons rfl ?_ ?_
                          · intro l us W2 hl hI hd hn K' hK
                            obtain ⟨tg2, hI⟩ := hI
                            have hlen := hI.len
                            obtain ⟨u0, u1, u2, u3, u4, u5, u6, u7, u8, u9, u10, u11, rfl⟩ := list12p hlen
                            have HK : Hid (∀ v W' tag', RApp (PhiR w (.slice aa al.length ca) (.int .i64 n) (.slice am ms.length cm) (.slice (some ⟨be, oe, none⟩) es.length ce) (.slice (some ⟨bl, ol, none⟩) ML.length cl') ML (.slice a1 S4.length c1) S4 (.slice an MN3.length cn) MN3 wr.heap.size xf xe xt) (PR18 (.slice (some ⟨bl, ol, none⟩) ML.length cl') j bl ol wr.heap.size (.slice aw ru.length cw) xe) w.heap.size ru xe (l.setIfInBounds 8 true) ([u0, u1, u2, u3, u4, u5, u6, u7, u8, u9, u10, u11].set 8 v) tag' W' → ∀ a', puts _ _ [u0, u1, u2, u3, u4, u5, u6, u7, v, u9, u10, u11] = a' → K' a' W') := fun v W' tag' h a' e => hK _ a' W' e ⟨tag', h⟩
                            have d7 : l.getD 7 false = true := by
                              simp [Region.binds] at hd
                              simp [hd]
                            obtain rfl : u7 = _ := hI.pure 7 (by decide) d7
                            have HS := Lib.hid (hI.pureStep (v := .int .i64 xe) hl (by decide) rfl)
                            have y9 : W2.cell? ⟨wr.heap.size, 1, none⟩ = some (.int .i64 xe) := hI.phi.2.cell 1
                            clear hK hl hI hlen hd hn d7
                            refine StepG.mk ?_
                            simp only [puts, Act.put]
                            go_simp
                            exact HK.out _ _ _ HS.out _ (by simp [puts, Act.put])
                          refine Steps.cons rfl ?_ ?_
                          · intro l us W2 hl hI hd hn K' hK
                            obtain ⟨tg2, hI⟩ := hI
                            have hlen := hI.len
                            obtain ⟨u0, u1, u2, u3, u4, u5, u6, u7, u8, u9, u10, u11, rfl⟩ := list12p hlen
                            have HK : Hid (∀ v W' tag', RApp (PhiR w (.slice aa al.length ca) (.int .i64 n) (.slice am ms.length cm) (.slice (some ⟨be, oe, none⟩) es.length ce) (.slice (some ⟨bl, ol, none⟩) ML.length cl') ML (.slice a1 S4.length c1) S4 (.slice an MN3.length cn) MN3 wr.heap.size xf xe xt) (PR18 (.slice (some ⟨bl, ol, none⟩) ML.length cl') j bl ol wr.heap.size (.slice aw ru.length cw) xe) w.heap.size ru xe (l.setIfInBounds 9 true) ([u0, u1, u2, u3, u4, u5, u6, u7, u8, u9, u10, u11].set 9 v) tag' W' → ∀ a', puts _ _ [u0, u1, u2, u3, u4, u5, u6, u7, u8, v, u10, u11] = a' → K' a' W') := fun v W' tag' h a' e => hK _ a' W' e ⟨tag', h⟩
                            have d8 : l.getD 8 false = true := by
                              simp [Region.binds] at hd
                              simp [hd]
                            obtain rfl : u8 = _ := hI.pure 8 (by decide) d8
                            have HS := Lib.hid (hI.op9 hl PhiR_turn (fun _ => trivial))
                            clear hK hl hI hlen hd hn d8
                            refine StepG.mk ?_
                            simp only [puts, Act.put]
                            go_simp
                            exact HK.out _ _ _ HS.out _ (by simp [puts, Act.put])
                          refine Steps.cons rfl ?_ ?_
                          · intro l us W2 hl hI hd hn K' hK
                            obtain ⟨tg2, hI⟩ := hI
                            have hlen := hI.len
                            obtain ⟨u0, u1, u2, u3, u4, u5, u6, u7, u8, u9, u10, u11, rfl⟩ := list12p hlen
                            have HK : Hid (∀ v W' tag', RApp (PhiR w (.slice aa al.length ca) (.int .i64 n) (.slice am ms.length cm) (.slice (some ⟨be, oe, none⟩) es.length ce) (.slice (some ⟨bl, ol, none⟩) ML.length cl') ML (.slice a1 S4.length c1) S4 (.slice an MN3.length cn) MN3 wr.heap.size xf xe xt) (PR18 (.slice (some ⟨bl, ol, none⟩) ML.length cl') j bl ol wr.heap.size (.slice aw ru.length cw) xe) w.heap.size ru xe (l.setIfInBounds 10 true) ([u0, u1, u2, u3, u4, u5, u6, u7, u8, u9, u10, u11].set 10 v) tag' W' → ∀ a', puts _ _ [u0, u1, u2, u3, u4, u5, u6, u7, u8, u9, v, u11] = a' → K' a' W') := fun v W' tag' h a' e => hK _ a' W' e ⟨tag', h⟩
                            have d6 : l.getD 6 false = true := by
                              simp [Region.binds] at hd
                              simp [hd]
                            have d9 : l.getD 9 false = true := by
                              simp [Region.binds] at hd
                              simp [hd]
                            have hs6 := hI.s6 d6 hn
                            obtain ⟨a9, c9, e9, hrd⟩ := (hI.s9 d9).rd
                            obtain rfl : u9 = _ := e9
                            refine StepG.append_row rfl _ _ 28 rfl 3 i0 (.int .i64 0) 8 Try.underlying28 hi hz0 hz1 hz2 rfl (by simp [puts, Act.put, Act.eval]) hs6 a9 1 c9 [.int .i64 xe] (by simp [puts, Act.put, Act.eval]) (by simp) hrd.src.1 hrd.src.2 (by simp [Value.oneCell']) (by unfold maxLen; omega) (by omega) hI.size ?_
                            intro v9 W9 tag9 hr9 ht9
                            exact HK.out _ _ _ (hI.op10 hl PhiR_turn hn d6 (fun _ => trivial) ht9 hr9) _ (by simp [puts, Act.put])
                          refine Steps.cons rfl ?_ ?_
                          · intro l us W2 hl hI hd hn K' hK
                            obtain ⟨tg2, hI⟩ := hI
                            have hlen := hI.len
                            obtain ⟨u0, u1, u2, u3, u4, u5, u6, u7, u8, u9, u10, u11, rfl⟩ := list12p hlen
                            have HK : Hid (∀ v W' tag', RApp (PhiR w (.slice aa al.length ca) (.int .i64 n) (.slice am ms.length cm) (.slice (some ⟨be, oe, none⟩) es.length ce) (.slice (some ⟨bl, ol, none⟩) ML.length cl') ML (.slice a1 S4.length c1) S4 (.slice an MN3.length cn) MN3 wr.heap.size xf xe xt) (PR18 (.slice (some ⟨bl, ol, none⟩) ML.length cl') j bl ol wr.heap.size (.slice aw ru.length cw) xe) w.heap.size ru xe (l.setIfInBounds 11 true) ([u0, u1, u2, u3, u4, u5, u6, u7, u8, u9, u10, u11].set 11 v) tag' W' → ∀ a', puts _ _ [u0, u1, u2, u3, u4, u5, u6, u7, u8, u9, u10, v] = a' → K' a' W') := fun v W' tag' h a' e => hK _ a' W' e ⟨tag', h⟩
                            have d10 : l.getD 10 false = true := by
                              simp [Region.binds] at hd
                              simp [hd]
                            have HS := Lib.hid (hI.op11 hl d10 (fun _ => trivial))
                            clear hK hl hI hlen hd hn d10
                            refine StepG.mk ?_
                            simp only [puts, Act.put]
                            go_simp
                            exact HK.out _ _ _ HS.out _ (by simp [puts, Act.put])
                          exact Steps.nil (Nat.le_refl _)
                        · intro l us W2 hI hall
                          obtain ⟨tg2, hI⟩ := hI
                          have hlen := hI.len
                          obtain ⟨u0, u1, u2, u3, u4, u5, u6, u7, u8, u9, u10, u11, rfl⟩ := list12p hlen
                          have hw11 := hI.s11 (hall 11 (by decide))
                          obtain ⟨a11, c11, e11⟩ := hw11.val
                          obtain rfl : u11 = _ := e11
                          replace hw11 : Row W2 w.heap.size tg2 6 3 1 (.slice a11 (ru ++ [xe]).length c11) (ru ++ [xe]).length (ints (ru ++ [xe])) := hw11
                          have Hw11 := Lib.hid hw11
                          have HI7 := Lib.hid hI.phi.1
                          have y1 : W2.cell? ⟨wr.heap.size, 1, none⟩ = some (.int .i64 xe) := hI.phi.2.cell 1
                          have y2 : W2.cell? ⟨wr.heap.size, 2, none⟩ = some (.int .i64 xt) := hI.phi.2.cell 2
                          have hbel2 : Below w.heap.size w W2 := hI.phi.1.bel
                          clear hlen hall hI hw11 HP1
                          simp only [puts, Act.put, List.setIfInBounds_toArray, List.set_cons_succ, List.set_cons_zero]
                          cases c5 : hasB tg xt with
                          | true =>
                            have C5 := Lib.hid c5
                            have HQ : Hid (R = some (ru ++ [xe])) := by
                              show _ = _
                              rw [HR2.out, lLoop_inl hbare]
                              rw [Hrl.out]
                              refine rLoop_inl ?_
                              rw [Hd.out]
                              exact eLoop_hit Hok.out c5
                            clear c5 Hd Hrl HR2 Hok HS4
                            generalize hwd : ru ++ [xe] = wd at *
                            go_wp2_with fail
                            refine (has_any _ tg xt _ (H1.out.mono hbel2) hl1).mono ?_
                            rintro e w3 ⟨rfl, rfl⟩
                            rw [C5.out]
                            go_wp2_with fail
                            go_ret2
                            exact ⟨_, rfl, QPost.some' HQ.out Hw11.out.rdI, hbel2⟩
                          | false =>
                            have C5 := Lib.hid c5
                            have HZ : Hid (eLoop wi evs tg (ru, rt) es S2 (bare MN) = eLoop wi evs tg (ru, rt) (es.drop (q + 1)) S4 (bare (MN3 ++ [(.slice a11 (ru ++ [xe]).length c11, ru ++ [xe], xt)]))) := by
                              show _ = _
                              rw [Hd.out, eLoop_push Hok.out c5, bare_snoc, HS4.out]
                            have hxm : (⟨xf, xe, xt⟩ : Ed) ∈ es := by rw [← hx]; exact List.getElem_mem hltq
                            have hna := news_add Hinc.out _ hxm
                            have hinc4 : Inc S4 := by rw [HS4.out]; exact addL_inc Hinc.out _
                            dsimp only at hna
                            rw [← HS4.out] at hna
                            have Hinc4 := Lib.hid hinc4
                            have hnS4 : S4.length = S3.length + 1 ∧ news es S4 < news es S3 := by
                              rcases hna with ⟨h, _⟩ | h
                              · exact absurd h HnS.out
                              · exact h
                            obtain ⟨hn1, hn2⟩ := hnS4
                            have hle := news_le es S
                            have hm1 : MN3.length ≤ 100000 := by omega
                            have Hrl1 : Hid ((ru ++ [xe]).length = ru.length + 1) := by show _ = _; simp
                            have Hn1 := Lib.hid hn1
                            clear hn1 c5 Hd Hok HS4 hxm hna hinc4
                            generalize hwd : ru ++ [xe] = wd at *
                            go_wp2_with fail
                            refine (has_any _ tg xt _ (H1.out.mono hbel2) hl1).mono ?_
                            rintro e w3 ⟨rfl, rfl⟩
                            rw [C5.out]
                            go_wp2_with (at_builtin; refine wpList_append_row rfl _ _ 93 rfl 92 i1 (.agg #[.slice none 0 0, .int .i64 0]) 32 Try.underlying93 hi1 hy0 hy1 hy2 rfl rfl (HI7.out.nx.up (.cells #[.slice a11 wd.length c11, .int .i64 xt] 92) 7) (some ⟨_, 0, none⟩) 1 1 [.slice a11 wd.length c11, .int .i64 xt] rfl (by simp) (fun e => by cases e) (fun ad e => by cases e; exact new_cells_at _ _ rfl) (by simp [Value.oneCell']) (by unfold maxLen; omega) (by omega) (by have := hbel2.size; simp; omega) ?_; intro v6 w6 tag6 hr6 ht6; have HI8 := Lib.hid ((HI7.out.turn (Turn.alloc (k := 7) (.cells #[.slice a11 wd.length c11, .int .i64 xt] 92)) (by decide)).push (Hw11.out.up _ 7) ht6 hr6); obtain ⟨a6, c6, rfl⟩ := hr6.val; clear hr6 ht6)
                            go_roundw
                            case rel =>
                              have hrl1 := Hrl1.out
                              have hn1 := Hn1.out
                              refine ⟨q + 1, S4, MN3 ++ [(.slice a11 wd.length c11, wd, xt)], _, by go_num, by omega, HI8.out, Hinc4.out, by omega, ?_, ?_, ?_⟩
                              · rw [List.length_append, List.length_singleton]; omega
                              · intro m hm
                                rcases List.mem_append.1 hm with hm | hm
                                · exact hwN m hm
                                · rw [List.mem_singleton.1 hm]
                                  show wd.length + f ≤ _
                                  omega
                              · exact HZ.out
                            case measure => simp [intOf]; omega
                  · have hnq : ¬ (q : Int) < (es.length : Int) := by omega
                    have HQ : Hid (eLoop wi evs tg ML[j].2 es S2 (bare MN) = .inr (S3, bare MN3)) := by
                      show _ = _
                      rw [hel.out, List.drop_of_length_le (by omega)]; rfl
                    have HZ : Hid (rLoop es wi evs tg (bare ML) S [] = rLoop es wi evs tg ((bare ML).drop (j + 1)) S3 (bare MN3)) := by
                      show _ = _
                      rw [Hrl.out, rLoop_inr HQ.out]
                    have HI := Lib.hid hI
                    have Hinc := Lib.hid hinc
                    clear hel hI hinc HQ Hrl
                    go_wp2_with fail
                    go_roundw
                    case rel => exact ⟨j + 1, S3, MN3, tag3, by go_num, by omega, HI.out, Hinc.out, hSn, hMN, hwN, HZ.out⟩
                    case measure => simp [intOf]; omega
              · have hnl : ¬ (j : Int) < (ML.length : Int) := by omega
                have HQ : Hid (rLoop es wi evs tg (bare ML) S [] = .inr (S2, bare MN)) := by
                  show _ = _
                  rw [hrl.out, List.drop_of_length_le (by simp [bare]; omega)]; rfl
                have HR3 : Hid (R = lLoop es wi evs tg f (bare MN) S2) := by
                  show _ = _
                  rw [HR2.out, lLoop_inr hbare HQ.out]
                have HI := Lib.hid hI.level
                have Hinc := Lib.hid hinc
                clear hrl hI hinc HQ HR2
                go_wp2_with fail
                go_roundg (if MN = [] then 0 else news es S2 + 1)
                case measure =>
                  rw [Hgk.out, if_neg hML]
                  split
                  · omega
                  · rename_i h
                    have := List.length_pos_iff.2 h
                    omega
                case rel =>
                  have hns := news_le es S
                  exact ⟨f, MN, S2, _, HI.out, Hinc.out, hSn, fun h => (by have := List.length_pos_iff.2 h; omega), by omega, hwN, by omega, HR3.out, rfl⟩
end Go.Proofs.Ythchkddhibhenaa
