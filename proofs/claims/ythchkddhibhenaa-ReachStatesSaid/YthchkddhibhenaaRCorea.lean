/- The contract of the reference's Coreachable. -/
import Derived.Test.YthchkddhibhenaaFromL
import Derived.Deep.LoopGhost
namespace Go.Proofs.Ythchkddhibhenaa
open Go.RowKit

/-- An edge the other way round. -/
def flipE (x : Ed) : Ed := ⟨x.t, x.e, x.f⟩
/-- What the reference's Coreachable returns. -/
def coreaR (es : List Ed) (ms : List Int) : List Int := fLoop (es.map flipE) (es.map Ed.f) (es.map Ed.e) (es.length + 1) ms

set_option maxRecDepth 100000 in
set_option maxHeartbeats 1600000 in
theorem rcorea_any (v : Value) (a : Aut) (w : World) (ha : RdA w v a) (hinc : Inc a.ms) (hl1 : a.ms.length + a.es.length ≤ 1000000) :
    Calls Try.prog 30 #[v] w (Ret w fun u w' => RdI w' u (coreaR a.es a.ms)) := by
  obtain ⟨va, vm, ve, rfl, ⟨aa, ca, rfl, hra⟩, ⟨am, cm, rfl, hrm⟩, ⟨ae, ce, rfl, hre⟩⟩ := ha
  obtain ⟨al, n, ms, es⟩ := a
  dsimp only at *
  obtain ⟨i0, hi, hz0, hz1, hz2⟩ := info_parts Try.info_int
  have HRM := Lib.hid (show RdI w (.slice am ms.length cm) ms from ⟨am, cm, rfl, hrm⟩)
  have HW : Hid (∀ x ∈ es, hasB (es.map Ed.f) x.f = true ∧ hasB (es.map Ed.e) x.e = true) := fun x hx => ⟨hasB_true.2 (List.mem_map_of_mem hx), hasB_true.2 (List.mem_map_of_mem hx)⟩
  have Hres : Hid (coreaR es ms = fLoop (es.map flipE) (es.map Ed.f) (es.map Ed.e) (es.length + 1) ms) := rfl
  generalize coreaR es ms = R at *
  generalize es.map Ed.f = W at *
  generalize es.map Ed.e = V at *
  have hfl : (es.map flipE).length = es.length := by simp
  generalize hfs : es.map flipE = fs at *
  have Hfs := Lib.hid hfs
  have Hinc0 := Lib.hid hinc
  clear hra hfs hinc
  have hsrc : ∀ ad, am = some ad → ∀ j u, (ints ms)[j]? = some u → w.cell? (ad.add j) = some u := by
    intro ad e j u hu
    subst e
    obtain ⟨b, off, sp⟩ := ad
    obtain rfl : sp = none := hrm.spot _ rfl
    exact own_src hrm j u hu
  have Hsrc := Lib.hid hsrc
  have Hnil := Lib.hid hrm.hnil
  have hcap := hrm.hcap
  clear hsrc hrm
  go_enter Try.func30, Try.ntmps30
  have hrow : ∀ W1 : World, W1.heap.size = w.heap.size + 1 → Row (W1.alloc (.cells #[] 3)) (w.heap.size + 1) (fun _ => 1) 1 3 1 (.slice (some ⟨w.heap.size + 1, 0, none⟩) 0 0) 0 [] := by
    intro W1 h1
    have h2 := Own.new W1 (w.heap.size + 1) (fun _ => 1) 1 #[] 3 (by omega) rfl
    rw [h1] at h2
    exact ⟨by simp, .inr ⟨_, 0, 0, _, rfl, h2, Nat.le_refl _, by simp [maxLen], by simp, by simp⟩⟩
  have Hrow := Lib.hid hrow
  clear hrow
  go_wp2_with (at_builtin; refine wpList_append_row rfl _ _ 28 rfl 3 i0 (.int .i64 0) 8 Try.underlying28 hi hz0 hz1 hz2 rfl rfl (Hrow.out _ (by simp)) am ms.length cm (ints ms) rfl (by simp) (fun e => ⟨by have := Hnil.out e; omega, Hnil.out e⟩) (fun ad e j u hu => keep0 ((bel_alloc w _).trans ((bel_alloc _ _).mono (by simp))) (Hsrc.out ad e j u hu)) (ints_oneCell .i64 _) (by unfold maxLen; omega) (by omega) (by simp) ?_; intro v1 w1 tag1 hr1 ht1; simp only [Nat.zero_add, List.nil_append] at hr1; have HO := Lib.hid hr1.rdI; have hB := belTurn (((Below.refl (w.heap.size + 1) (w.alloc (.cells #[.slice aa al.length ca, .int .i64 n, .slice am ms.length cm, .slice ae es.length ce] 31))).alloc (by simp) (.cells #[] 3))) ht1 (by simp); obtain ⟨a1, c1, rfl⟩ := hr1.val; clear hr1 ht1)
  go_wp2_with fail
  go_loopg [3, 4] (news fs ms + 1) (fun gk o nn wr => ∃ (P : List Int) (m : Int) (f : Nat), nn = .int .i64 m ∧ Below (w.heap.size + 1) (w.alloc (.cells #[.slice aa al.length ca, .int .i64 n, .slice am ms.length cm, .slice ae es.length ce] 31)) wr ∧ RdI wr o P ∧ Inc P ∧ P.length + news fs P ≤ ms.length + fs.length ∧
    Hid (R = if m = (P.length : Int) then P else fLoop fs W V f P) ∧ news fs P < f ∧ -1 ≤ m ∧ m ≤ 1000000 ∧ gk = if m = (P.length : Int) then 0 else news fs P + 1)
  case atStart =>
    have := news_le fs ms
    exact ⟨ms, -1, _, rfl, hB, HO.out, Hinc0.out, by omega, by show _ = _; rw [Hres.out, if_neg (by omega)], by omega, by omega, by omega, by rw [if_neg (by omega)]⟩
  case round =>
    clear hB HO
    obtain ⟨P, m, f, rfl, hB, hO, hinc, hPl, hR, hnf, hm0, hm1, hgk⟩ := hrel
    have hB0 : Below w.heap.size w wr := ((Below.refl _ _).alloc (Nat.le_refl _) _).trans (hB.mono (Nat.le_succ _))
    have HO := Lib.hid hO
    have Hinc := Lib.hid hinc
    have Hgk := Lib.hid hgk
    obtain ⟨ao', co', rfl, hO'⟩ := hO
    clear hO' hinc hgk
    by_cases hm : m = (P.length : Int)
    · have HR2 : Hid (R = P) := by show _ = _; rw [hR.out, if_pos hm]
      subst hm
      clear hR
      go_wp2_with fail
      go_ret
      exact ⟨_, rfl, by rw [HR2.out]; exact HO.out, hB0⟩
    · have q : (m != (P.length : Int)) = true := by simpa using hm
      have HR2 : Hid (R = fLoop fs W V f P) := by show _ = _; rw [hR.out, if_neg hm]
      have Hgk2 : Hid (gk = news fs P + 1) := by show _ = _; rw [Hgk.out, if_neg hm]
      clear hR Hgk hm
      have hfold : Hid (fs.foldl (fStep W V) P = fs.foldl (fStep W V) P) := rfl
      go_wp2_with fail
      go_loopw [3, 5] (fun o i wr' => ∃ (k : Nat) (Q : List Int), k ≤ es.length ∧ i = .int .i64 k ∧ Below (w.heap.size + 1) (w.alloc (.cells #[.slice aa al.length ca, .int .i64 n, .slice am ms.length cm, .slice ae es.length ce] 31)) wr' ∧ RdI wr' o Q ∧ Inc Q ∧ Q.length + news fs Q ≤ ms.length + fs.length ∧ Hid (fs.foldl (fStep W V) P = (fs.drop k).foldl (fStep W V) Q)) (fun _ i _ => es.length - (intOf i).toNat)
      case atStart => exact ⟨0, P, Nat.zero_le _, rfl, hB, HO.out, Hinc.out, hPl, rfl⟩
      case round =>
        clear hB hB0
        obtain ⟨j, Q, hj, rfl, hB, hO2, hinc2, hQl, hf⟩ := hrel
        have hB0 : Below w.heap.size w wr := ((Below.refl _ _).alloc (Nat.le_refl _) _).trans (hB.mono (Nat.le_succ _))
        have hsz := hB.size
        simp only [World.size_alloc] at hsz
        have c3 : wr.cell? ⟨w.heap.size, 3, none⟩ = some (.slice ae es.length ce) := (hB.cell (p := ⟨w.heap.size, 3, none⟩) (by simp)).trans (by simp [go_sem])
        have HQ := Lib.hid hO2
        have Hinc2 := Lib.hid hinc2
        obtain ⟨aq, cq, rfl, hO'⟩ := hO2
        clear hO' hinc2
        by_cases hltj : j < es.length
        · obtain ⟨b, off, rfl, d0, d1, d2⟩ := hre.at_edge j hltj
          have hfj : fs[j]'(by omega) = flipE es[j] := by
            have := Hfs.out
            subst this
            simp
          have Hd : Hid ((fs.drop j).foldl (fStep W V) Q = (fs.drop (j + 1)).foldl (fStep W V) (fStep W V Q (flipE es[j]))) := by
            show _ = _
            rw [List.drop_eq_getElem_cons (show j < fs.length by omega), List.foldl_cons, hfj]
          replace d0 := keep0 hB0 d0
          replace d1 := keep0 hB0 d1
          replace d2 := keep0 hB0 d2
          have Hok := Lib.hid (fStep_ok (es := fs) (within := W) (evs := V) Hinc2.out (flipE es[j]) (by rw [← hfj]; exact List.getElem_mem _))
          have Hsx : Hid (fStep W V Q (flipE es[j]) = if hasB Q es[j].t = true then addL Q es[j].f else Q) := by
            show _ = _
            have h1 := HW.out es[j] (List.getElem_mem hltj)
            unfold fStep flipE
            dsimp only
            rw [h1.1, h1.2]
            simp
          clear hfj
          generalize es[j] = x at *
          obtain ⟨xf, xe, xt⟩ := x
          dsimp only at *
          have HN : Hid (∀ Z, fStep W V Q (flipE ⟨xf, xe, xt⟩) = Z → fs.foldl (fStep W V) P = (fs.drop (j + 1)).foldl (fStep W V) Z) := by
            intro Z hZ
            rw [hf.out, Hd.out, hZ]
          clear hf Hd
          have hnq : Q.length ≤ 1000000 := by omega
          cases h1 : hasB Q xt with
          | false =>
            have E1 := Lib.hid h1
            have HZ := Lib.hid (HN.out Q (by rw [Hsx.out, h1]; rfl))
            clear h1
            go_wp2_with (go_at_call 50; refine (has_any _ Q xt _ HQ.out hnq).mono ?_; rintro e w1 ⟨rfl, rfl⟩; rw [E1.out])
            go_roundw
            case rel => exact ⟨j + 1, Q, by omega, by go_num, hB, HQ.out, Hinc2.out, hQl, HZ.out⟩
            case measure => simp [intOf]; omega
          | true =>
            have E1 := Lib.hid h1
            have HE : Hid (fStep W V Q (flipE ⟨xf, xe, xt⟩) = addL Q xf) := by
              show _ = _
              rw [Hsx.out, h1]; rfl
            have HZ := Lib.hid (HN.out (addL Q xf) HE.out)
            have hok := Hok.out
            rw [HE.out] at hok
            have hql2 : (addL Q xf).length + news fs (addL Q xf) ≤ ms.length + fs.length := Nat.le_trans hok.2.1 hQl
            clear h1 hok
            go_wp2_with fail
            refine (has_any _ Q xt _ HQ.out hnq).mono ?_
            rintro e w1 ⟨rfl, rfl⟩
            rw [E1.out]
            go_wp2_with fail
            refine (add_any _ Q xf _ HQ.out hnq).mono ?_
            rintro e w1 ⟨v1, rfl, hr1, hb1⟩
            have Hr1 := Lib.hid hr1
            obtain ⟨a1, c1, rfl, hr1'⟩ := hr1
            have hB1 : Below (w.heap.size + 1) (w.alloc (.cells #[.slice aa al.length ca, .int .i64 n, .slice am ms.length cm, .slice (some ⟨b, off, none⟩) es.length ce] 31)) w1 := hB.trans (hb1.mono (by omega))
            clear hr1' hb1
            go_wp2_with fail
            go_roundw
            case rel => exact ⟨j + 1, addL Q xf, by omega, by go_num, hB1, Hr1.out, addL_inc Hinc2.out _, hql2, HZ.out⟩
            case measure => simp [intOf]; omega
        · have HF : Hid (fs.foldl (fStep W V) P = Q) := by
            show _ = _
            rw [hf.out, show j = fs.length by omega, List.drop_length]; rfl
          have Hok := Lib.hid (fFold_ok (es := fs) (within := W) (evs := V) fs Hinc.out (fun _ h => h))
          clear hf
          go_wp2_with fail
          go_roundg (if (P.length : Int) = (Q.length : Int) then 0 else news fs Q + 1)
          case measure =>
            rw [Hgk2.out]
            have h5 := Hok.out
            rw [HF.out] at h5
            split <;> omega
          case rel =>
            have h5 := Hok.out
            rw [HF.out] at h5
            obtain ⟨f', rfl⟩ : ∃ f', f = f' + 1 := ⟨f - 1, by omega⟩
            refine ⟨Q, P.length, if (P.length : Int) = (Q.length : Int) then news fs Q + 1 else f', rfl, hB, HQ.out, Hinc2.out, hQl, ?_, ?_, by omega, by omega, rfl⟩
            · show _ = _
              rw [HR2.out, fLoop, HF.out]
              by_cases e : P.length = Q.length
              · rw [if_pos e.symm, if_pos (by omega)]
              · rw [if_neg (fun h => e h.symm), if_neg (by omega), if_neg (by omega)]
            · split <;> omega
end Go.Proofs.Ythchkddhibhenaa
