/- The contract of Path. -/
import Derived.Test.YthchkddhibhenaaRBox
import Derived.Deep.DeepCutAuto
namespace Go.Proofs.Ythchkddhibhenaa
open Go.RowKit

/-- What Path returns. -/
def PPost (e : Int) (r : Option (List Int)) (u : Value) (w' : World) : Prop :=
  if e = 0 then match r with
    | some xs => ∃ v, u = .tuple #[v, .bool true, .int .i64 0] ∧ RdI w' v xs
    | none => u = .tuple #[.slice none 0 0, .bool false, .int .i64 0]
  else u = .tuple #[.slice none 0 0, .bool false, .int .i64 e]
theorem PPost.err {e : Int} {r : Option (List Int)} {w' : World} (h : e ≠ 0) : PPost e r (.tuple #[.slice none 0 0, .bool false, .int .i64 e]) w' := by
  unfold PPost; rw [if_neg h]
/-- The error of Path. -/
def pathErr (a : Aut) (from_ : Int) (tg wi : List Int) : Int := err2 a.err (if from_ < 0 ∨ a.n ≤ from_ then 2 else err2 (setErr a.n none tg) (setErr a.n none wi))
/-- The word of Path. -/
def reachPath (a : Aut) (from_ : Int) (tg wi : List Int) : Option (List Int) := if hasB wi from_ = true then pathF a.n.toNat a.es (hasB tg) (fun x => hasB wi x.t) from_.toNat else none
/-- Where the loop over both sets is. -/
def PLoop (e1 e2 : Int) (j : Value) : Prop := j = .int .i64 0 ∨ (j = .int .i64 1 ∧ e1 = 0) ∨ (j = .int .i64 2 ∧ e1 = 0 ∧ e2 = 0)
theorem flagL_getD {n : Nat} {set : List Int} {s : Int} (h0 : 0 ≤ s) (h1 : s < n) : (flagL n set).getD s.toNat false = hasB set s := by
  rw [List.getD_eq_getElem?_getD, flagL, List.getElem?_map, List.getElem?_range (by omega)]
  simp [Int.toNat_of_nonneg h0]

set_option maxRecDepth 100000 in
set_option maxHeartbeats 800000 in
theorem rpath_any (v vt vw : Value) (a : Aut) (from_ : Int) (tg wi : List Int) (w : World) (ha : RdA w v a) (hs : a.small) (ht : RdI w vt tg) (hw : RdI w vw wi) (hlt : tg.length ≤ 1000000) (hlw : wi.length ≤ 1000000) :
    Calls Try.prog 17 #[v, .int .i64 from_, vt, vw] w (Ret w (PPost (pathErr a from_ tg wi) (reachPath a from_ tg wi))) := by
  have ha0 := ha
  obtain ⟨va, vm, ve, rfl, ⟨aa, ca, rfl, hra⟩, ⟨am, cm, rfl, hrm⟩, ⟨ae, ce, rfl, hre⟩⟩ := ha
  have Ht := Lib.hid ht
  have Hw := Lib.hid hw
  obtain ⟨at_, ct, rfl, hrt⟩ := ht
  obtain ⟨aw, cw, rfl, hrw⟩ := hw
  have Ha0 := Lib.hid ha0
  have Hs := Lib.hid hs
  clear ha0 hs
  have hix0 : ∀ w, (Instr.index 85 (.agg #[.slice at_ tg.length ct, .slice aw wi.length cw]) (.int .i64 0)).run Try.prog w = .ok (.slice at_ tg.length ct) w := fun _ => by kernel_rfl
  have hix1 : ∀ w, (Instr.index 85 (.agg #[.slice at_ tg.length ct, .slice aw wi.length cw]) (.int .i64 1)).run Try.prog w = .ok (.slice aw wi.length cw) w := fun _ => by kernel_rfl
  go_enter Try.func17, Try.ntmps17
  go_wp2_with fail
  refine (check_any _ a _ (Ha0.out.mono (by (repeat (first | with_reducible exact Below.refl _ _ | with_reducible exact Ha0 | (with_reducible refine belCall ?_ Ha0 (by first | omega | (simp; done) | (simp; omega) | (simp at *; omega))) | (with_reducible refine Below.alloc ?_ (by first | omega | (simp; done) | (simp; omega) | (simp at *; omega)) _) | (with_reducible refine Below.drew ?_) | (with_reducible refine Below.setCell ?_ (by first | omega | (simp; done) | (simp; omega) | (simp at *; omega)) _))))) Hs.out).mono ?_
  rintro e w1 ⟨_, rfl, rfl, hb1⟩
  have hW1 : Below w.heap.size w w1 := ((Below.refl _ _).alloc (Nat.le_refl _) _).trans (hb1.mono (by simp))
  have hbx := box4 hb1
  clear hb1
  by_cases h1 : a.err = 0
  · have hok := Aut.ok_of h1
    have H1 := Lib.hid h1
    rw [h1]
    clear h1
    by_cases hf : from_ < 0 ∨ a.n ≤ from_
    · have Hf := Lib.hid hf
      obtain ⟨x0, x1, x2, x3, x4⟩ := hbx
      by_cases hlt0 : from_ < 0
      all_goals
        try have hge : a.n ≤ from_ := by omega
        clear hf
        go_wp2_with fail
        refine bodyPost_ret (v := .tuple #[.slice none 0 0, .bool false, .int .i64 2]) (by simp [results, Try.results17, go_sem]) rfl ⟨_, rfl, ?_, hW1⟩
        rw [show pathErr a from_ tg wi = 2 by rw [pathErr, err2, if_pos H1.out, if_pos Hf.out]]
        exact PPost.err (by decide)
    · have hf0 : 0 ≤ from_ := by omega
      have hf1 : from_ < a.n := by omega
      have Hf := Lib.hid hf
      clear hf
      have Hes := Lib.hid hok.es
      have d1 : decide (from_ < 0) = false := by simpa using hf0
      have d2 : decide (a.n ≤ from_) = false := by simpa using hf1
      have hn0 := hok.n0
      have hn1 := hok.n1
      have hae := Hs.out.es
      clear hok
      obtain ⟨x0, x1, x2, x3, x4⟩ := hbx
      go_wp2_with fail
      clear d1 d2
      go_loopw [33] (fun j wr => PLoop (setErr a.n none tg) (setErr a.n none wi) j ∧ Below w.heap.size w wr ∧ wr.cell? ⟨w.heap.size, 0, none⟩ = some (.slice aa a.al.length ca) ∧ wr.cell? ⟨w.heap.size, 1, none⟩ = some (.int .i64 a.n) ∧ wr.cell? ⟨w.heap.size, 2, none⟩ = some (.slice am a.ms.length cm) ∧ wr.cell? ⟨w.heap.size, 3, none⟩ = some (.slice ae a.es.length ce) ∧ w.heap.size < wr.heap.size) (fun j _ => 2 - (intOf j).toNat)
      case atStart => exact ⟨.inl rfl, hW1, x0, x1, x2, x3, x4⟩
      case round =>
        clear x0 x1 x2 x3 x4 hW1
        obtain ⟨hj, hB, x0, x1, x2, x3, x4⟩ := hrel
        have hbx := And.intro x0 (And.intro x1 (And.intro x2 (And.intro x3 x4)))
        have Hbx := Lib.hid hbx
        clear hbx
        rcases hj with rfl | ⟨rfl, h2⟩ | ⟨rfl, h2, h3⟩
        · go_wp2_with fail
          refine (checkStates_any _ _ _ _ _ _ _ _ _ _ _ tg _ (Ht.out.mono hB) hlt).mono ?_
          rintro e w2 ⟨_, rfl, rfl, hb2⟩
          have hW2 := hB.trans (hb2.mono hB.size)
          have hbx2 := box4' Hbx.out hb2
          clear x0 x1 x2 x3 x4
          by_cases h2 : setErr a.n none tg = 0
          · have H2 := Lib.hid h2
            rw [h2]
            clear h2
            obtain ⟨x0, x1, x2, x3, x4⟩ := hbx2
            go_wp2_with fail
            go_roundw
            case rel => exact ⟨.inr (.inl ⟨rfl, H2.out⟩), hW2, x0, x1, x2, x3, x4⟩
            case measure => simp [intOf]
          · have H2 := Lib.hid h2
            have h2' : (setErr a.n none tg != 0) = true := by simpa using h2
            clear h2
            go_wp2_with fail
            refine bodyPost_ret (v := .tuple #[.slice none 0 0, .bool false, .int .i64 (setErr a.n none tg)]) (by simp [results, Try.results17, go_sem]) rfl ⟨_, rfl, ?_, hW2⟩
            rw [show pathErr a from_ tg wi = setErr a.n none tg by rw [pathErr, err2, if_pos H1.out, if_neg Hf.out, err2, if_neg H2.out]]
            exact PPost.err H2.out
        · have H2 := Lib.hid h2
          clear h2
          go_wp2_with fail
          refine (checkStates_any _ _ _ _ _ _ _ _ _ _ _ wi _ (Hw.out.mono hB) hlw).mono ?_
          rintro e w2 ⟨_, rfl, rfl, hb2⟩
          have hW2 := hB.trans (hb2.mono hB.size)
          have hbx2 := box4' Hbx.out hb2
          clear x0 x1 x2 x3 x4
          by_cases h2 : setErr a.n none wi = 0
          · have H3 := Lib.hid h2
            rw [h2]
            clear h2
            obtain ⟨x0, x1, x2, x3, x4⟩ := hbx2
            go_wp2_with fail
            go_roundw
            case rel => exact ⟨.inr (.inr ⟨rfl, H2.out, H3.out⟩), hW2, x0, x1, x2, x3, x4⟩
            case measure => simp [intOf]
          · have H3 := Lib.hid h2
            have h2' : (setErr a.n none wi != 0) = true := by simpa using h2
            clear h2
            go_wp2_with fail
            refine bodyPost_ret (v := .tuple #[.slice none 0 0, .bool false, .int .i64 (setErr a.n none wi)]) (by simp [results, Try.results17, go_sem]) rfl ⟨_, rfl, ?_, hW2⟩
            rw [show pathErr a from_ tg wi = setErr a.n none wi by rw [pathErr, err2, if_pos H1.out, if_neg Hf.out, err2, if_pos H2.out]]
            exact PPost.err H3.out
        · have Herr : Hid (pathErr a from_ tg wi = 0) := by
            show _ = _
            rw [pathErr, err2, if_pos H1.out, if_neg Hf.out, err2, if_pos h2, h3]
          have htin := setErr_zero h2
          have hwin := setErr_zero h3
          have Htin := Lib.hid htin
          have Hwin := Lib.hid hwin
          clear htin hwin h2 h3
          have Hpath : Hid (reachPath a from_ tg wi = if hasB wi from_ = true then pathF a.n.toNat a.es (hasB tg) (fun x => hasB wi x.t) from_.toNat else none) := rfl
          generalize hn : a.n = an at *
          obtain ⟨n, rfl⟩ := Int.eq_ofNat_of_zero_le hn0
          obtain ⟨fr, rfl⟩ := Int.eq_ofNat_of_zero_le hf0
          have hn' : n ≤ 4096 := by omega
          have hfr : fr < n := by omega
          have Hn := Lib.hid hn
          clear hn hn0 hn1 hf0 hf1
          have hbd := box4' Hbx.out (bel_drew wr)
          obtain ⟨y0, y1, y2, y3, y4⟩ := hbd
          go_upto_region 13 with fail
          go_cut [15, 16] (fun s15 s16 wx => ∃ (b1 b2 : Nat) (a1 a2 : Option Addr) (c1 c2 : Nat), s15 = .pointer (some ⟨b1, 0, none⟩) ∧ s16 = .pointer (some ⟨b2, 0, none⟩) ∧ Below w.heap.size w wx ∧
            wx.cell? ⟨w.heap.size, 0, none⟩ = some (.slice aa a.al.length ca) ∧ wx.cell? ⟨w.heap.size, 1, none⟩ = some (.int .i64 n) ∧ wx.cell? ⟨w.heap.size, 2, none⟩ = some (.slice am a.ms.length cm) ∧ wx.cell? ⟨w.heap.size, 3, none⟩ = some (.slice ae a.es.length ce) ∧ w.heap.size < wx.heap.size ∧
            wx.cell? ⟨b1, 0, none⟩ = some (.slice a1 n c1) ∧ wx.cell? ⟨b2, 0, none⟩ = some (.slice a2 n c2) ∧ RdS wx 1 a1 n c1 (bools (flagL n wi)) ∧ RdS wx 1 a2 n c2 (bools (flagL n tg)))
          case first =>
            refine wp_region_inv (fun l us W => ∃ u43 u44 u45 u46 u47 u48 u15 u16 tag, us = [u43, u44, u45, u46, u47, u48, u15, u16] ∧ RBox w aa am ae a.al.length a.ms.length a.es.length ca cm ce n (.slice aw wi.length cw) (.slice at_ tg.length ct) (flagL n wi) (flagL n tg) l u43 u44 u45 u46 u47 u48 u15 u16 tag W) [43, 44, 45, 46, 47, 48, 15, 16] (by kernel_rfl) (by kernel_rfl) ?_ ?_ ?_
            · exact ⟨_, _, _, _, _, _, _, _, fun _ => 0, rfl, RBox.start hB.drew ⟨rfl, x4, x0, x1, x2, x3⟩⟩
            · refine Steps.cons rfl ?_ ?_
              · rintro l us W hl ⟨u43, u44, u45, u46, u47, u48, u15, u16, tag, rfl, hI⟩ hd hn K' hK
                have Hl : Hid (∀ j, j < 10 → (l.setIfInBounds 0 true).getD j false = (j == 0 || l.getD j false)) := hl
                have Hn : Hid (l.getD 0 false = false) := hn
                have HI := Lib.hid hI
                have HK := Lib.hid hK
                have y1 := hI.box.x0
                have y2 := hI.box.x1
                have y3 := hI.box.x2
                have y4 := hI.box.x3
                clear hl hd hn hI hK
                refine StepG.mk ?_
                simp only [puts, Act.put]
                go_simp
                exact HK.out [.agg #[.slice aa a.al.length ca, .int .i64 n, .slice am a.ms.length cm, .slice ae a.es.length ce], u44, u45, u46, u47, u48, u15, u16] _ _ (by simp [puts, Act.put]) ⟨_, _, _, _, _, _, _, _, _, rfl, HI.out.op0 Hl.out⟩
              refine Steps.cons rfl ?_ ?_
              · rintro l us W hl ⟨u43, u44, u45, u46, u47, u48, u15, u16, tag, rfl, hI⟩ hd hn K' hK
                have Hl : Hid (∀ j, j < 10 → (l.setIfInBounds 1 true).getD j false = (j == 1 || l.getD j false)) := hl
                have Hn : Hid (l.getD 1 false = false) := hn
                have HI := Lib.hid hI
                have HK := Lib.hid hK
                clear hl hd hn hI hK
                refine StepG.mk ?_
                simp only [puts, Act.put]
                go_simp
                exact HK.out [u43, .slice aw wi.length cw, u45, u46, u47, u48, u15, u16] _ _ (by simp [puts, Act.put]) ⟨_, _, _, _, _, _, _, _, _, rfl, HI.out.op1 Hl.out⟩
              refine Steps.cons rfl ?_ ?_
              · rintro l us W hl ⟨u43, u44, u45, u46, u47, u48, u15, u16, tag, rfl, hI⟩ hd hn K' hK
                have Hl : Hid (∀ j, j < 10 → (l.setIfInBounds 2 true).getD j false = (j == 2 || l.getD j false)) := hl
                have Hn : Hid (l.getD 2 false = false) := hn
                have HI := Lib.hid hI
                have HK := Lib.hid hK
                have d : l.getD 0 false = true ∧ l.getD 1 false = true := by simpa [Region.binds] using hd
                obtain rfl := hI.s43 d.1
                obtain rfl := hI.s44 d.2
                have hB' := hI.bel
                clear hl hd hn hI hK d
                refine StepG.mk ?_
                simp only [puts, Act.put]
                go_simp
                refine (flags_any _ _ _ (.slice aw wi.length cw) n wi _ (Hw.out.mono hB') hlw (by omega) Hwin.out).mono ?_
                rintro e w3 ⟨v3, rfl, hown3, hb3⟩
                go_simp
                exact HK.out [.agg #[.slice aa a.al.length ca, .int .i64 n, .slice am a.ms.length cm, .slice ae a.es.length ce], .slice aw wi.length cw, v3, u46, u47, u48, u15, u16] _ _ (by simp [puts, Act.put]) ⟨_, _, _, _, _, _, _, _, _, rfl, HI.out.op2 Hl.out hb3 hown3 Hn.out⟩
              refine Steps.cons rfl ?_ ?_
              · rintro l us W hl ⟨u43, u44, u45, u46, u47, u48, u15, u16, tag, rfl, hI⟩ hd hn K' hK
                have Hl : Hid (∀ j, j < 10 → (l.setIfInBounds 3 true).getD j false = (j == 3 || l.getD j false)) := hl
                have Hn : Hid (l.getD 3 false = false) := hn
                have HI := Lib.hid hI
                have HK := Lib.hid hK
                have y1 := hI.box.x0
                have y2 := hI.box.x1
                have y3 := hI.box.x2
                have y4 := hI.box.x3
                clear hl hd hn hI hK
                refine StepG.mk ?_
                simp only [puts, Act.put]
                go_simp
                exact HK.out [u43, u44, u45, .agg #[.slice aa a.al.length ca, .int .i64 n, .slice am a.ms.length cm, .slice ae a.es.length ce], u47, u48, u15, u16] _ _ (by simp [puts, Act.put]) ⟨_, _, _, _, _, _, _, _, _, rfl, HI.out.op3 Hl.out⟩
              refine Steps.cons rfl ?_ ?_
              · rintro l us W hl ⟨u43, u44, u45, u46, u47, u48, u15, u16, tag, rfl, hI⟩ hd hn K' hK
                have Hl : Hid (∀ j, j < 10 → (l.setIfInBounds 4 true).getD j false = (j == 4 || l.getD j false)) := hl
                have Hn : Hid (l.getD 4 false = false) := hn
                have HI := Lib.hid hI
                have HK := Lib.hid hK
                clear hl hd hn hI hK
                refine StepG.mk ?_
                simp only [puts, Act.put]
                go_simp
                exact HK.out [u43, u44, u45, u46, .slice at_ tg.length ct, u48, u15, u16] _ _ (by simp [puts, Act.put]) ⟨_, _, _, _, _, _, _, _, _, rfl, HI.out.op4 Hl.out⟩
              refine Steps.cons rfl ?_ ?_
              · rintro l us W hl ⟨u43, u44, u45, u46, u47, u48, u15, u16, tag, rfl, hI⟩ hd hn K' hK
                have Hl : Hid (∀ j, j < 10 → (l.setIfInBounds 5 true).getD j false = (j == 5 || l.getD j false)) := hl
                have Hn : Hid (l.getD 5 false = false) := hn
                have HI := Lib.hid hI
                have HK := Lib.hid hK
                have d : l.getD 3 false = true ∧ l.getD 4 false = true := by
                  simp [Region.binds] at hd
                  exact ⟨by simp [hd], by simp [hd]⟩
                obtain rfl := hI.s46 d.1
                obtain rfl := hI.s47 d.2
                have hB' := hI.bel
                clear hl hd hn hI hK d
                refine StepG.mk ?_
                simp only [puts, Act.put]
                go_simp
                refine (flags_any _ _ _ (.slice at_ tg.length ct) n tg _ (Ht.out.mono hB') hlt (by omega) Htin.out).mono ?_
                rintro e w3 ⟨v3, rfl, hown3, hb3⟩
                go_simp
                exact HK.out [u43, u44, u45, .agg #[.slice aa a.al.length ca, .int .i64 n, .slice am a.ms.length cm, .slice ae a.es.length ce], .slice at_ tg.length ct, v3, u15, u16] _ _ (by simp [puts, Act.put]) ⟨_, _, _, _, _, _, _, _, _, rfl, HI.out.op5 Hl.out hb3 hown3 Hn.out⟩
              refine Steps.cons rfl ?_ ?_
              · rintro l us W hl ⟨u43, u44, u45, u46, u47, u48, u15, u16, tag, rfl, hI⟩ hd hn K' hK
                have Hl : Hid (∀ j, j < 10 → (l.setIfInBounds 6 true).getD j false = (j == 6 || l.getD j false)) := hl
                have Hn : Hid (l.getD 6 false = false) := hn
                have HI := Lib.hid hI
                have HK := Lib.hid hK
                clear hl hd hn hI hK
                refine StepG.mk ?_
                simp only [puts, Act.put]
                go_simp
                exact HK.out [u43, u44, u45, u46, u47, u48, .pointer (some ⟨W.heap.size, 0, none⟩), u16] _ _ (by simp [puts, Act.put]) ⟨_, _, _, _, _, _, _, _, _, rfl, HI.out.op6 Hl.out Hn.out⟩
              refine Steps.cons rfl ?_ ?_
              · rintro l us W hl ⟨u43, u44, u45, u46, u47, u48, u15, u16, tag, rfl, hI⟩ hd hn K' hK
                have Hl : Hid (∀ j, j < 10 → (l.setIfInBounds 7 true).getD j false = (j == 7 || l.getD j false)) := hl
                have Hn : Hid (l.getD 7 false = false) := hn
                have HI := Lib.hid hI
                have HK := Lib.hid hK
                clear hl hd hn hI hK
                refine StepG.mk ?_
                simp only [puts, Act.put]
                go_simp
                exact HK.out [u43, u44, u45, u46, u47, u48, u15, .pointer (some ⟨W.heap.size, 0, none⟩)] _ _ (by simp [puts, Act.put]) ⟨_, _, _, _, _, _, _, _, _, rfl, HI.out.op7 Hl.out Hn.out⟩
              refine Steps.cons rfl ?_ ?_
              · rintro l us W hl ⟨u43, u44, u45, u46, u47, u48, u15, u16, tag, rfl, hI⟩ hd hn K' hK
                have Hl : Hid (∀ j, j < 10 → (l.setIfInBounds 8 true).getD j false = (j == 8 || l.getD j false)) := hl
                have Hn : Hid (l.getD 8 false = false) := hn
                have HI := Lib.hid hI
                have HK := Lib.hid hK
                have d : l.getD 6 false = true ∧ l.getD 2 false = true := by
                  simp [Region.binds] at hd
                  exact ⟨by simp [hd], by simp [hd]⟩
                refine Exists.elim (hI.s15 d.1) (fun b hb => ?_)
                have hb1 := hb.1
                have ho := hb.2
                subst hb1
                refine Exists.elim (hI.s45 d.2).val (fun a3 h3 => Exists.elim h3 (fun c3 h4 => ?_))
                subst h4
                clear hb h3
                have q1 := ho.cell 0
                have q2 := ho.frozen 0
                simp at q1
                have D := Lib.hid d
                clear hl hd hn hI hK d ho
                refine StepG.mk ?_
                simp only [puts, Act.put]
                go_simp
                exact HK.out [u43, u44, .slice a3 n c3, u46, u47, u48, .pointer (some ⟨b, 0, none⟩), u16] _ _ (by simp [puts, Act.put]) ⟨_, _, _, _, _, _, _, _, _, rfl, HI.out.op8 Hl.out D.out.1 D.out.2⟩
              refine Steps.cons rfl ?_ ?_
              · rintro l us W hl ⟨u43, u44, u45, u46, u47, u48, u15, u16, tag, rfl, hI⟩ hd hn K' hK
                have Hl : Hid (∀ j, j < 10 → (l.setIfInBounds 9 true).getD j false = (j == 9 || l.getD j false)) := hl
                have Hn : Hid (l.getD 9 false = false) := hn
                have HI := Lib.hid hI
                have HK := Lib.hid hK
                have d : l.getD 7 false = true ∧ l.getD 5 false = true := by
                  simp [Region.binds] at hd
                  exact ⟨by simp [hd], by simp [hd]⟩
                refine Exists.elim (hI.s16 d.1) (fun b hb => ?_)
                have hb1 := hb.1
                have ho := hb.2
                subst hb1
                refine Exists.elim (hI.s48 d.2).val (fun a3 h3 => Exists.elim h3 (fun c3 h4 => ?_))
                subst h4
                clear hb h3
                have q1 := ho.cell 0
                have q2 := ho.frozen 0
                simp at q1
                have D := Lib.hid d
                clear hl hd hn hI hK d ho
                refine StepG.mk ?_
                simp only [puts, Act.put]
                go_simp
                exact HK.out [u43, u44, u45, u46, u47, .slice a3 n c3, u15, .pointer (some ⟨b, 0, none⟩)] _ _ (by simp [puts, Act.put]) ⟨_, _, _, _, _, _, _, _, _, rfl, HI.out.op9 Hl.out D.out.1 D.out.2⟩
              exact Steps.nil (Nat.le_refl _)
            · rintro l us W ⟨u43, u44, u45, u46, u47, u48, u15, u16, tag, rfl, hI⟩ hall
              have h2 := hI.s45 (hall 2 (by decide))
              have h5 := hI.s48 (hall 5 (by decide))
              refine Exists.elim (hI.s15 (hall 6 (by decide))) (fun b1 hb1 => ?_)
              refine Exists.elim (hI.s16 (hall 7 (by decide))) (fun b2 hb2 => ?_)
              have e1 := hb1.1
              have e2 := hb2.1
              have ho1 := hb1.2
              have ho2 := hb2.2
              clear hb1 hb2
              subst e1
              subst e2
              rw [if_pos (hall 8 (by decide))] at ho1
              rw [if_pos (hall 9 (by decide))] at ho2
              refine Exists.elim h2.rd (fun a1 g1 => Exists.elim g1 (fun c1 g2 => ?_))
              refine Exists.elim h5.rd (fun a2 g3 => Exists.elim g3 (fun c2 g4 => ?_))
              have e1 := g2.1
              have e2 := g4.1
              have hr1 := g2.2
              have hr2 := g4.2
              clear g1 g2 g3 g4
              subst e1
              subst e2
              have HI := Lib.hid (And.intro hI.bel (And.intro hI.box (And.intro hr1 (And.intro hr2 (And.intro ho1 ho2)))))
              clear hall h2 h5 hr1 hr2 ho1 ho2 hI
              simp only [puts, Act.put, List.setIfInBounds_toArray, List.set_cons_succ, List.set_cons_zero]
              go_wp2_with fail
              go_meet
              obtain ⟨g1, g2, g3, g4, g5, g6⟩ := HI.out
              exact ⟨b1, b2, a1, a2, c1, c2, rfl, rfl, g1, g2.x0, g2.x1, g2.x2, g2.x3, g2.lt, g5.cell 0, g6.cell 0, g3, g4⟩
          case rest =>
            obtain ⟨b1, b2, a1, a2, c1, c2, rfl, rfl, hW, q0, q1, q2, q3, q4, k1, k2, hr1, hr2⟩ := hcut
            have hfl1 : (flagL n wi).length = n := flagL_length n wi
            have hfl2 : (flagL n tg).length = n := flagL_length n tg
            have hR1 : RdB wc (.slice a1 n c1) (flagL n wi) := ⟨a1, c1, by rw [hfl1], by rw [hfl1]; exact hr1⟩
            have hR2 : RdB wc (.slice a2 n c2) (flagL n tg) := ⟨a2, c2, by rw [hfl2], by rw [hfl2]; exact hr2⟩
            have HR1 := Lib.hid hR1
            have HR2 := Lib.hid hR2
            have hr1' : RdS wc 1 a1 (flagL n wi).length c1 (bools (flagL n wi)) := by rw [hfl1]; exact hr1
            obtain ⟨bb, off, rfl, hcell⟩ := hr1'.at_bool fr (by omega)
            have hget : (flagL n wi)[fr]'(by omega) = hasB wi fr := by
              have := flagL_getD (n := n) (set := wi) (s := (fr : Int)) (by omega) (by omega)
              rw [Int.toNat_natCast, List.getD_eq_getElem?_getD, List.getElem?_eq_getElem (by omega)] at this
              exact this
            rw [hget] at hcell
            have Hfl1 := Lib.hid hfl1
            have Hfl2 := Lib.hid hfl2
            clear hget hfl1 hfl2 hr1' hR1 hR2
            cases hin : hasB wi fr with
            | false =>
              have Hin := Lib.hid hin
              rw [hin] at hcell
              clear hin
              go_wp2_with fail
              refine bodyPost_ret (v := .tuple #[.slice none 0 0, .bool false, .int .i64 0]) (by simp [results, Try.results17, go_sem]) rfl ⟨_, rfl, ?_, hW⟩
              rw [Herr.out, Hpath.out, if_neg (by rw [Hin.out]; decide)]
              unfold PPost
              rw [if_pos rfl]
            | true =>
              have Hin := Lib.hid hin
              rw [hin] at hcell
              clear hin
              go_wp2_with fail
              refine (newGraph_any _ _ _ _ _ _ _ n a.es _ (RdE.mono ⟨ae, ce, rfl, hre⟩ hW) hae (by omega) (fun x hx => ⟨(Hes.out x hx).1, (Hes.out x hx).2.1⟩)).mono ?_
              rintro e w3 ⟨_, rfl, ⟨af, cf, rfl, hrf⟩, hb3⟩
              have hW3 := hW.trans (hb3.mono hW.size)
              have k1' := keep0 hb3 k1
              have k2' := keep0 hb3 k2
              have HR1' := HR1.out.mono hb3
              have HR2' := HR2.out.mono hb3
              have HE1 : Enters Try.prog 54 := fun _ _ => by kernel_rfl
              have HE2 : Enters Try.prog 55 := fun _ _ => by kernel_rfl
              have hEs := (RdS.mono hre hW3)
              have H1 : Hid (∀ (s : Int) (W : World), 0 ≤ s → s < n → Below w3.heap.size w3 W → Calls Try.prog 54 (#[.int .i64 s] ++ #[Value.pointer (some ⟨b2, 0, none⟩)]) W fun e w' => e = .returned (.bool (hasB tg s)) ∧ Below W.heap.size W w') := by
                intro s W h0 h1 hb
                have := path1_any b2 _ (flagL n tg) s W (keep0 hb k2') (HR2'.mono hb) h0 (by rw [Hfl2.out]; exact h1) (by rw [Hfl2.out]; omega)
                rw [flagL_getD h0 h1] at this
                exact this
              have H2 : Hid (∀ (x : Ed) (W : World), x ∈ a.es → Below w3.heap.size w3 W → Calls Try.prog 55 (#[x.val] ++ #[Value.pointer (some ⟨b1, 0, none⟩)]) W fun e w' => e = .returned (.bool (hasB wi x.t)) ∧ Below W.heap.size W w') := by
                intro x W hx hb
                have hx' := Hes.out x hx
                have := path2_any b1 _ (flagL n wi) x W (keep0 hb k1') (HR1'.mono hb) hx'.2.2.1 (by rw [Hfl1.out]; exact hx'.2.2.2) (by rw [Hfl1.out]; omega)
                rw [flagL_getD hx'.2.2.1 hx'.2.2.2] at this
                exact this
              go_wp2_with fail
              refine (path_any aa am ae af _ _ ca cm ce cf n fr a.es _ _ _ _ (hasB tg) (fun x => hasB wi x.t) w3 hEs hrf hae (by omega) hfr (fun x hx => ⟨(Hes.out x hx).2.2.1, (Hes.out x hx).2.2.2⟩) HE1 HE2 H1.out H2.out).mono ?_
              rintro e w4 ⟨v4, rfl, hp4, hb4⟩
              have hW4 := hW3.trans (hb4.mono hW3.size)
              have Hpath' : Hid (reachPath a fr tg wi = pathF n a.es (hasB tg) (fun x => hasB wi x.t) fr) := by
                show _ = _
                rw [Hpath.out, if_pos Hin.out]
                simp only [Int.toNat_natCast]
              clear H1 H2 HE1 HE2 k1 k1' k2 k2' HR1' HR2' hEs hb4 hb3
              generalize pathF n a.es (hasB tg) (fun x => hasB wi x.t) fr = r at hp4 Hpath'
              cases r with
              | none =>
                have hp5 : v4 = .tuple #[.slice none 0 0, .bool false] := hp4
                subst hp5
                go_wp2_with fail
                refine bodyPost_ret (v := .tuple #[.slice none 0 0, .bool false, .int .i64 0]) (by simp [results, Try.results17, go_sem]) rfl ⟨_, rfl, ?_, hW4⟩
                rw [Herr.out, Hpath'.out]
                unfold PPost
                rw [if_pos rfl]
              | some xs =>
                obtain ⟨v5, rfl, hp5⟩ := hp4
                have Hp5 := Lib.hid hp5
                obtain ⟨a5, c5, rfl, hp6⟩ := hp5
                clear hp6
                go_wp2_with fail
                refine bodyPost_ret (v := .tuple #[.slice a5 xs.length c5, .bool true, .int .i64 0]) (by simp [results, Try.results17, go_sem]) rfl ⟨_, rfl, ?_, hW4⟩
                rw [Herr.out, Hpath'.out]
                unfold PPost
                rw [if_pos rfl]
                exact ⟨_, rfl, Hp5.out⟩
  · have H1 := Lib.hid h1
    have h1' : (a.err != 0) = true := by simpa using h1
    clear h1
    go_wp2_with fail
    refine bodyPost_ret (v := .tuple #[.slice none 0 0, .bool false, .int .i64 a.err]) (by simp [results, Try.results17, go_sem]) rfl ⟨_, rfl, ?_, hW1⟩
    rw [show pathErr a from_ tg wi = a.err by rw [pathErr, err2, if_neg H1.out]]
    exact PPost.err H1.out
end Go.Proofs.Ythchkddhibhenaa
