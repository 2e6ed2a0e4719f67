/- The contract of reach.Restrict. -/
import Derived.Deep.LoopGhost
import Derived.Deep.DeepCutAuto
import Derived.Test.YthchkddhibhenaaRS2
import Derived.Test.YthchkddhibhenaaRS6
import Derived.Test.YthchkddhibhenaaRS10
import Derived.Test.YthchkddhibhenaaRS11
namespace Go.Proofs.Ythchkddhibhenaa
open Go Go.RowKit Go.Shelf
attribute [local go_sem] Oper.semAt_some

/-- What holds of the slots that hold no memory of the region of the two lists of flags. -/
def PR10 (A vk : Value) (B : Nat) (vm : Value) : Nat → Value → Prop
  | 0, v => v = A
  | 1, v => v = vk
  | 3, v => v = A
  | 4, v => v = .pointer (some ⟨B, 2, none⟩)
  | 5, v => v = vm
  | _, _ => True
/-- What holds of the slots of a region. -/
def RE20 (Gc : Array Value) (vq : Value) (i : Nat) (bq : Nat) (oq : Nat) (t : Int) (B : Nat) : Nat → Value → World → Prop
  | 0, v, _ => v = .agg Gc
  | 1, v, _ => v = vq
  | 2, v, _ => v = .int .i64 i
  | 3, v, _ => v = .pointer (some ⟨bq, oq + i, none⟩)
  | 4, v, _ => v = .int .i64 t
  | 5, v, W => ∃ m, v = .func (.func 84) #[] #[.pointer (some ⟨m, 0, none⟩), .pointer (some ⟨m + 1, 0, none⟩)] ∧ B ≤ m ∧ W.heap[m]? = some (.cells Gc 80 (0, 0)) ∧ W.heap[m + 1]? = some (.cells #[.int .i64 t] 3 (0, 0))
  | _ + 6, _, _ => False
theorem RE20_mono {Gc : Array Value} {vq : Value} {i : Nat} {bq : Nat} {oq : Nat} {t : Int} {B : Nat} : ∀ j v W W', Below W.heap.size W W' → RE20 Gc vq i bq oq t B j v W → RE20 Gc vq i bq oq t B j v W'
  | 0, _, _, _, _, h => h
  | 1, _, _, _, _, h => h
  | 2, _, _, _, _, h => h
  | 3, _, _, _, _, h => h
  | 4, _, _, _, _, h => h
  | 5, _, _, _, hb, h => by
      obtain ⟨m, h1, h2, h3, h4⟩ := h
      exact ⟨m, h1, h2, (hb.block m (Array.getElem?_eq_some_iff.1 h3).1).trans h3, (hb.block (m + 1) (Array.getElem?_eq_some_iff.1 h4).1).trans h4⟩
  | _ + 6, _, _, _, _, h => h.elim
theorem list_RE20 {us : List Value} (h : us.length = 6) : ∃ u0 u1 u2 u3 u4 u5, us = [u0, u1, u2, u3, u4, u5] := by
  match us, h with
  | [u0, u1, u2, u3, u4, u5], _ => exact ⟨_, _, _, _, _, _, rfl⟩
/-- The rest while an edge is appended. -/
def PhiX (w : World) (G : Array Value) (n b8 b9 b11 b12 b13 : Nat) (va vin vnum vmk : Value) (alL : List Int) (inF mkF : List Bool) (ds : List Deferred) (bi i : Nat) (vm vq : Value) (S : RSt) (ms : List Int) (Bx : Nat) (xf xe xt : Int) (V : World) (vf : Value) (nf : Nat) (fl : List Value) (c : Value) (tag : Nat → Nat) (W : World) : Prop :=
  XB w G n b8 b9 b11 b12 b13 va vin vnum vmk alL inF mkF ds W tag bi i vm c vq S ms ∧ Own W w.heap.size tag 10 Bx #[.int .i64 xf, .int .i64 xe, .int .i64 xt] 45 ∧ Below w.heap.size V W ∧ (∀ m, KeepsFrom m V W) ∧ Row W w.heap.size tag 0 3 1 vf nf fl
/-- The slots that hold no memory of the edges. -/
def PR26 (b8 Bx bn t2 n i : Nat) (xe xt nv : Int) (ve : Value) : Nat → Value → Prop
  | 0, v => v = .pointer (some ⟨b8, 3, none⟩)
  | 1, v => v = ve
  | 2, v => v = .int .i64 (i : Int)
  | 3, v => v = .pointer (some ⟨Bx, 1, none⟩)
  | 4, v => v = .int .i64 xe
  | 5, v => v = .slice (some ⟨bn, 0, none⟩) n n
  | 6, v => v = .pointer (some ⟨Bx, 2, none⟩)
  | 7, v => v = .int .i64 xt
  | 8, v => v = .pointer (some ⟨bn, t2, none⟩)
  | 9, v => v = .int .i64 nv
  | 10, v => v = .int .i64 (nv - 1)
  | 11, v => v = .agg #[.int .i64 (i : Int), .int .i64 xe, .int .i64 (nv - 1)]
  | 14, v => v = .pointer (some ⟨b8, 3, none⟩)
  | _, _ => True
/-- Four cells are stored. -/
theorem Own.store4 {w : World} {B : Nat} {tag : Nat → Nat} {k b : Nat} {c0 c1 c2 c3 : Value} {t : TypeId} (h : Own w B tag k b #[c0, c1, c2, c3] t) (d0 d1 d2 d3 : Value) :
    Own ((((w.setCell ⟨b, 0, none⟩ d0).setCell ⟨b, 1, none⟩ d1).setCell ⟨b, 2, none⟩ d2).setCell ⟨b, 3, none⟩ d3) B tag k b #[d0, d1, d2, d3] t ∧ Turn B tag tag k w ((((w.setCell ⟨b, 0, none⟩ d0).setCell ⟨b, 1, none⟩ d1).setCell ⟨b, 2, none⟩ d2).setCell ⟨b, 3, none⟩ d3) := by
  have h0 := h.set 0 d0
  have h1 := h0.set 1 d1
  have h2 := h1.set 2 d2
  have h3 := h2.set 3 d3
  exact ⟨h3, ((Turn.setCell h 0 d0).trans (Turn.setCell h0 1 d1)).trans ((Turn.setCell h1 2 d2).trans (Turn.setCell h2 3 d3))⟩

set_option maxRecDepth 100000 in
set_option maxHeartbeats 6000000 in
theorem restrict_any (v vk : Value) (a : Aut) (kp : List Int) (w : World) (ha : RdA w v a) (hs : a.small) (h2 : RdI w vk kp) (hl2 : kp.length ≤ 1000000) :
    Calls Try.prog 37 #[v, vk] w (Ret w (RestPost w.heap.size (err2 a.err (setErr a.n none kp)) (restrictF a.al a.ms a.n.toNat a.es kp))) := by
  have Ha := Lib.hid ha
  have Hs := Lib.hid hs
  obtain ⟨va, vm, ve, rfl, ⟨aa, ca, rfl, hra⟩, ⟨am, cm, rfl, hrm⟩, ⟨ae, ce, rfl, hre⟩⟩ := ha
  have H2 := Lib.hid h2
  have Hra := Lib.hid hra
  have Hrm := Lib.hid hrm
  obtain ⟨ak, ck, rfl, hrk⟩ := h2
  clear hs hra hrm
  generalize hE : err2 a.err (setErr a.n none kp) = E0
  have HE := Lib.hid hE.symm
  generalize hRR : restrictF a.al a.ms a.n.toNat a.es kp = R
  have HRR := Lib.hid hRR.symm
  clear hE hRR
  refine calls_of_marks Try.func37 rfl ?_
  simp only [Try.ntmps37, List.size_toArray, List.length_cons, List.length_nil, Nat.reduceAdd, Nat.reduceSub, Array.replicate_succ, Array.replicate_zero, List.push_toArray, List.append_toArray, List.nil_append, List.cons_append]
  go_wp2_with fail
  have hB0 : Below w.heap.size w ((w.alloc (.cells #[.slice aa a.al.length ca, .int .i64 a.n, .slice am a.ms.length cm, .slice ae a.es.length ce] 31)).alloc (.cells #[.slice none 0 0, .int .i64 0, .slice none 0 0, .slice none 0 0] 31)) := by (repeat (first | with_reducible exact Below.refl _ _ | with_reducible exact Ha | (with_reducible refine belCall ?_ Ha (by first | omega | (simp; done) | (simp; omega) | (simp at *; omega))) | (with_reducible refine Below.alloc ?_ (by first | omega | (simp; done) | (simp; omega) | (simp at *; omega)) _) | (with_reducible refine Below.drew ?_) | (with_reducible refine Below.setCell ?_ (by first | omega | (simp; done) | (simp; omega) | (simp at *; omega)) _)))
  refine (check_any _ a _ (Ha.out.mono hB0) Hs.out).mono ?_
  rintro e w1 ⟨_, rfl, rfl, hb1⟩
  have hW1 := hB0.trans (hb1.mono hB0.size)
  have ho1 : Own w1 w.heap.size (fun _ => 0) 0 w.heap.size #[.slice aa a.al.length ca, .int .i64 a.n, .slice am a.ms.length cm, .slice ae a.es.length ce] 31 := ⟨(hb1.block _ (by simp; omega)).trans (by repeat (first | with_reducible assumption | (with_reducible refine heap_at ?_; (first | (simp; done) | (simp; omega))) | (with_reducible refine heap_past ?_ ?_; (next => first | omega | (simp; done) | (simp; omega))))), rfl, Nat.le_refl _⟩
  have ho4 : Own w1 w.heap.size (fun _ => 0) 0 (w.heap.size + 1) #[.slice none 0 0, .int .i64 0, .slice none 0 0, .slice none 0 0] 31 := ⟨(hb1.block _ (by simp)).trans (by repeat (first | with_reducible assumption | (with_reducible refine heap_at ?_; (first | (simp; done) | (simp; omega))) | (with_reducible refine heap_past ?_ ?_; (next => first | omega | (simp; done) | (simp; omega))))), rfl, by omega⟩
  clear hb1
  have x0 : w1.cell? ⟨w.heap.size, 0, none⟩ = some (.slice aa a.al.length ca) := ho1.cell 0
  have x1 : w1.cell? ⟨w.heap.size, 1, none⟩ = some (.int .i64 a.n) := ho1.cell 1
  have x2 : w1.cell? ⟨w.heap.size, 2, none⟩ = some (.slice am a.ms.length cm) := ho1.cell 2
  have x3 : w1.cell? ⟨w.heap.size, 3, none⟩ = some (.slice ae a.es.length ce) := ho1.cell 3
  have q0 : w1.cell? ⟨w.heap.size + 1, 0, none⟩ = some (.slice none 0 0) := ho4.cell 0
  have q1 : w1.cell? ⟨w.heap.size + 1, 1, none⟩ = some (.int .i64 0) := ho4.cell 1
  have q2 : w1.cell? ⟨w.heap.size + 1, 2, none⟩ = some (.slice none 0 0) := ho4.cell 2
  have q3 : w1.cell? ⟨w.heap.size + 1, 3, none⟩ = some (.slice none 0 0) := ho4.cell 3
  have f0 := ho4.frozen 0
  have f1 := ho4.frozen 1
  have f2 := ho4.frozen 2
  have f3 := ho4.frozen 3
  have hl4 := ho4.lt
  have HO4 := Lib.hid ho4
  have HO1 := Lib.hid ho1
  clear ho1 ho4
  by_cases h1 : a.err = 0
  · have H1 := Lib.hid h1
    rw [h1]
    have hok := Aut.ok_of h1
    have hn0 := hok.n0
    have hn1 := hok.n1
    have Hes := Lib.hid hok.es
    have Hms := Lib.hid hok.ms
    have hae := Hs.out.es
    have hal := Hs.out.al
    have hams := Hs.out.ms
    clear hok h1
    generalize hn : a.n = an at *
    obtain ⟨n, rfl⟩ := Int.eq_ofNat_of_zero_le hn0
    have Hn := Lib.hid hn
    clear hn hn0
    go_wp2_with fail
    refine (checkStates_any _ _ _ _ _ _ _ _ _ _ _ kp _ (H2.out.mono hW1) hl2).mono ?_
    rintro e w2 ⟨_, rfl, rfl, hb2⟩
    have hW2 := hW1.trans (hb2.mono hW1.size)
    replace x0 := keep0 hb2 x0
    replace x1 := keep0 hb2 x1
    replace x2 := keep0 hb2 x2
    replace x3 := keep0 hb2 x3
    have HO4 := Lib.hid (HO4.out.below hb2)
    have HO1 := Lib.hid (HO1.out.below hb2)
    clear q0 q1 q2 q3 f0 f1 f2 f3 hl4
    have q0 : w2.cell? ⟨w.heap.size + 1, 0, none⟩ = some (.slice none 0 0) := HO4.out.cell 0
    have q1 : w2.cell? ⟨w.heap.size + 1, 1, none⟩ = some (.int .i64 0) := HO4.out.cell 1
    have q2 : w2.cell? ⟨w.heap.size + 1, 2, none⟩ = some (.slice none 0 0) := HO4.out.cell 2
    have q3 : w2.cell? ⟨w.heap.size + 1, 3, none⟩ = some (.slice none 0 0) := HO4.out.cell 3
    have f0 := HO4.out.frozen 0
    have f1 := HO4.out.frozen 1
    have f2 := HO4.out.frozen 2
    have f3 := HO4.out.frozen 3
    have hl4 := HO4.out.lt
    clear hb2
    by_cases h3 : setErr n none kp = 0
    · have H3 := Lib.hid h3
      have hin := setErr_zero h3
      have Hin := Lib.hid hin
      rw [h3]
      have HE2 : Hid (E0 = 0) := by show _ = _; rw [HE.out, err2, if_pos H1.out]; exact h3
      clear h3 hin HE
      have hrst : Hid (RdS w2 1 aa a.al.length ca (ints a.al)) := Hra.out.mono hW2
      go_wp2_with fail
      refine (clone_any _ a.al _ ⟨_, _, rfl, hrst.out⟩ (by omega)).mono ?_
      rintro e w3 ⟨_, rfl, hown3, hb3⟩
      have hW3 := hW2.trans (hb3.mono hW2.size)
      replace x0 := keep0 hb3 x0
      replace x1 := keep0 hb3 x1
      replace x2 := keep0 hb3 x2
      replace x3 := keep0 hb3 x3
      have HO4 := Lib.hid (HO4.out.turn (Turn.call (B := w.heap.size) (k := 1) hb3) (by decide))
      have HO1 := Lib.hid (HO1.out.turn (Turn.call (B := w.heap.size) (k := 1) hb3) (by decide))
      have hz3 := hb3.size
      clear q0 q1 q2 q3 f0 f1 f2 f3 hl4
      have q0 : w3.cell? ⟨w.heap.size + 1, 0, none⟩ = some (.slice none 0 0) := HO4.out.cell 0
      have q1 : w3.cell? ⟨w.heap.size + 1, 1, none⟩ = some (.int .i64 0) := HO4.out.cell 1
      have q2 : w3.cell? ⟨w.heap.size + 1, 2, none⟩ = some (.slice none 0 0) := HO4.out.cell 2
      have q3 : w3.cell? ⟨w.heap.size + 1, 3, none⟩ = some (.slice none 0 0) := HO4.out.cell 3
      have f0 := HO4.out.frozen 0
      have f1 := HO4.out.frozen 1
      have f2 := HO4.out.frozen 2
      have f3 := HO4.out.frozen 3
      have hl4 := HO4.out.lt
      have hrow3 := Row.of_call (tag := fun _ => 0) (k := 1) hown3 hW2.size
      obtain ⟨a3, c3, rfl⟩ := hrow3.val
      have Hrow3 := Lib.hid hrow3
      clear hown3 hrow3 hb3
      by_cases hk : kp.head? = some 0
      · have hkp : 0 < kp.length := by
          cases hkc : kp with
          | nil => rw [hkc] at hk; cases hk
          | cons k0 l => simp
        obtain ⟨bk, ok, rfl, hck⟩ := hrk.at_int 0 hkp
        have hck' := keep0 hW3 hck
        have hk0 : kp[0] = 0 := by rw [List.head?_eq_getElem?, List.getElem?_eq_getElem hkp] at hk; exact Option.some.inj hk
        rw [hk0, Nat.add_zero] at hck'
        have hnp : 0 < n := by have := Hin.out _ (List.getElem_mem hkp); rw [hk0] at this; omega
        have hklen : ((kp.length : Int) == 0) = false := by rw [beq_eq_false_iff_ne]; omega
        have hbkl := World.block_lt_of_cell? _ _ hck'
        dsimp only at hbkl
        have hkI : (0 : Int) < (kp.length : Int) := by omega
        clear hk0 hck
        go_wp2_with fail
        have HPhi : Hid (PhiD w w3.heap.size (.slice aa a.al.length ca) (.int .i64 n) (.slice am a.ms.length cm) (.slice ae a.es.length ce) (.slice a3 a.al.length c3) a.al (tagUp (fun _ => 0) w3.heap.size 6) (w3.alloc (.cells #[.slice a3 a.al.length c3, .int .i64 0, .slice none 0 0, .slice none 0 0] 31))) :=
          ⟨hW3.alloc hW3.size _, (HO1.out.name (fun _ => 0)).upR _ 6, (HO4.out.name (fun _ => 0)).upR _ 6, Own.new w3 _ _ 6 _ _ hW3.size (tagUp_at _ _ _), (Hrow3.out.name (fun _ => 0)).up _ 6⟩
        have hl43 : w.heap.size + 1 < w3.heap.size := hl4
        clear HO1 HO4 Hrow3 x0 x1 x2 x3 q0 q1 q2 q3 f0 f1 f2 f3 hl4 hck' hbkl hz3
        generalize w3.alloc (.cells #[.slice a3 a.al.length c3, .int .i64 0, .slice none 0 0, .slice none 0 0] 31) = w5 at *
        refine wp_region_inv2 (fun l us W => ∃ tag, RB10 (PhiD w w3.heap.size (.slice aa a.al.length ca) (.int .i64 n) (.slice am a.ms.length cm) (.slice ae a.es.length ce) (.slice a3 a.al.length c3) a.al) (PR10 (.agg #[.slice aa a.al.length ca, .int .i64 n, .slice am a.ms.length cm, .slice ae a.es.length ce]) (.slice (some ⟨bk, ok, none⟩) kp.length ck) w.heap.size (.slice am a.ms.length cm)) w.heap.size n (flagL n kp) (flagL n a.ms) l us tag W) [43, 44, 45, 46, 47, 48, 49, 9, 10] (by kernel_rfl) (by kernel_rfl) ⟨_, RB10.start rfl HPhi.out.1.size (PhiD.turn2 (Turn.below (bel_drew _)) HPhi.out.1.size HPhi.out)⟩ ?_ ?_
        · skip
          refine Steps.cons rfl ?_ ?_
          · intro l us W2 hl hI hd hn K' hK
            obtain ⟨tg2, hI⟩ := hI
            have hlen := hI.len
            obtain ⟨u0, u1, u2, u3, u4, u5, u6, u7, u8, rfl⟩ := list9r hlen
            have HK : Hid (∀ v W' tag', RB10 (PhiD w w3.heap.size (.slice aa a.al.length ca) (.int .i64 n) (.slice am a.ms.length cm) (.slice ae a.es.length ce) (.slice a3 a.al.length c3) a.al) (PR10 (.agg #[.slice aa a.al.length ca, .int .i64 n, .slice am a.ms.length cm, .slice ae a.es.length ce]) (.slice (some ⟨bk, ok, none⟩) kp.length ck) w.heap.size (.slice am a.ms.length cm)) w.heap.size n (flagL n kp) (flagL n a.ms) (l.setIfInBounds 0 true) ([u0, u1, u2, u3, u4, u5, u6, u7, u8].set 0 v) tag' W' → ∀ a', puts _ _ [v, u1, u2, u3, u4, u5, u6, u7, u8] = a' → K' a' W') := fun v W' tag' h a' e => hK _ a' W' e ⟨tag', h⟩
            have HS := Lib.hid (hI.pureStep (v := (.agg #[.slice aa a.al.length ca, .int .i64 n, .slice am a.ms.length cm, .slice ae a.es.length ce])) hl (by decide) rfl)
            have y0 : W2.cell? ⟨w.heap.size, 0, none⟩ = some (.slice aa a.al.length ca) := hI.phi.2.1.cell 0
            have y1 : W2.cell? ⟨w.heap.size, 1, none⟩ = some (.int .i64 n) := hI.phi.2.1.cell 1
            have y2 : W2.cell? ⟨w.heap.size, 2, none⟩ = some (.slice am a.ms.length cm) := hI.phi.2.1.cell 2
            have y3 : W2.cell? ⟨w.heap.size, 3, none⟩ = some (.slice ae a.es.length ce) := hI.phi.2.1.cell 3
            clear hK hl hI hlen hd hn
            refine StepG.mk ?_
            simp only [puts, Act.put]
            go_simp
            exact HK.out _ _ _ HS.out _ (by simp [puts, Act.put])
          refine Steps.cons rfl ?_ ?_
          · intro l us W2 hl hI hd hn K' hK
            obtain ⟨tg2, hI⟩ := hI
            have hlen := hI.len
            obtain ⟨u0, u1, u2, u3, u4, u5, u6, u7, u8, rfl⟩ := list9r hlen
            have HK : Hid (∀ v W' tag', RB10 (PhiD w w3.heap.size (.slice aa a.al.length ca) (.int .i64 n) (.slice am a.ms.length cm) (.slice ae a.es.length ce) (.slice a3 a.al.length c3) a.al) (PR10 (.agg #[.slice aa a.al.length ca, .int .i64 n, .slice am a.ms.length cm, .slice ae a.es.length ce]) (.slice (some ⟨bk, ok, none⟩) kp.length ck) w.heap.size (.slice am a.ms.length cm)) w.heap.size n (flagL n kp) (flagL n a.ms) (l.setIfInBounds 1 true) ([u0, u1, u2, u3, u4, u5, u6, u7, u8].set 1 v) tag' W' → ∀ a', puts _ _ [u0, v, u2, u3, u4, u5, u6, u7, u8] = a' → K' a' W') := fun v W' tag' h a' e => hK _ a' W' e ⟨tag', h⟩
            have HS := Lib.hid (hI.pureStep (v := (.slice (some ⟨bk, ok, none⟩) kp.length ck)) hl (by decide) rfl)
            clear hK hl hI hlen hd hn
            refine StepG.mk ?_
            simp only [puts, Act.put]
            go_simp
            exact HK.out _ _ _ HS.out _ (by simp [puts, Act.put])
          refine Steps.cons rfl ?_ ?_
          · intro l us W2 hl hI hd hn K' hK
            obtain ⟨tg2, hI⟩ := hI
            have hlen := hI.len
            obtain ⟨u0, u1, u2, u3, u4, u5, u6, u7, u8, rfl⟩ := list9r hlen
            have HK : Hid (∀ v W' tag', RB10 (PhiD w w3.heap.size (.slice aa a.al.length ca) (.int .i64 n) (.slice am a.ms.length cm) (.slice ae a.es.length ce) (.slice a3 a.al.length c3) a.al) (PR10 (.agg #[.slice aa a.al.length ca, .int .i64 n, .slice am a.ms.length cm, .slice ae a.es.length ce]) (.slice (some ⟨bk, ok, none⟩) kp.length ck) w.heap.size (.slice am a.ms.length cm)) w.heap.size n (flagL n kp) (flagL n a.ms) (l.setIfInBounds 2 true) ([u0, u1, u2, u3, u4, u5, u6, u7, u8].set 2 v) tag' W' → ∀ a', puts _ _ [u0, u1, v, u3, u4, u5, u6, u7, u8] = a' → K' a' W') := fun v W' tag' h a' e => hK _ a' W' e ⟨tag', h⟩
            have d0 : l.getD 0 false = true := by
              simp [Region.binds] at hd
              simp [hd]
            have d1 : l.getD 1 false = true := by
              simp [Region.binds] at hd
              simp [hd]
            obtain rfl : u0 = _ := hI.pure 0 (by decide) d0
            obtain rfl : u1 = _ := hI.pure 1 (by decide) d1
            have hbl := hI.phi.1
            have HS := Lib.hid (fun (v : Value) (W' : World) (hb : Below W2.heap.size W2 W') (hown : W'.ownsRow W2.heap.size 4 1 v n (bools (flagL n kp))) => hI.op2 (v := v) hl (hI.phi.call hb) (fun _ => trivial) hn hb hown)
            clear hK hl hI hlen hd hn d0 d1
            refine StepG.mk ?_
            simp only [puts, Act.put]
            go_simp
            refine (flags_any _ _ _ _ n kp _ (H2.out.mono hbl) (by omega) (by omega) Hin.out).mono ?_
            rintro e w9 ⟨v9, rfl, hown9, hb9⟩
            go_simp
            exact HK.out _ _ _ (HS.out _ _ hb9 hown9) _ (by simp [puts, Act.put])
          refine Steps.cons rfl ?_ ?_
          · intro l us W2 hl hI hd hn K' hK
            obtain ⟨tg2, hI⟩ := hI
            have hlen := hI.len
            obtain ⟨u0, u1, u2, u3, u4, u5, u6, u7, u8, rfl⟩ := list9r hlen
            have HK : Hid (∀ v W' tag', RB10 (PhiD w w3.heap.size (.slice aa a.al.length ca) (.int .i64 n) (.slice am a.ms.length cm) (.slice ae a.es.length ce) (.slice a3 a.al.length c3) a.al) (PR10 (.agg #[.slice aa a.al.length ca, .int .i64 n, .slice am a.ms.length cm, .slice ae a.es.length ce]) (.slice (some ⟨bk, ok, none⟩) kp.length ck) w.heap.size (.slice am a.ms.length cm)) w.heap.size n (flagL n kp) (flagL n a.ms) (l.setIfInBounds 3 true) ([u0, u1, u2, u3, u4, u5, u6, u7, u8].set 3 v) tag' W' → ∀ a', puts _ _ [u0, u1, u2, v, u4, u5, u6, u7, u8] = a' → K' a' W') := fun v W' tag' h a' e => hK _ a' W' e ⟨tag', h⟩
            have HS := Lib.hid (hI.pureStep (v := (.agg #[.slice aa a.al.length ca, .int .i64 n, .slice am a.ms.length cm, .slice ae a.es.length ce])) hl (by decide) rfl)
            have y0 : W2.cell? ⟨w.heap.size, 0, none⟩ = some (.slice aa a.al.length ca) := hI.phi.2.1.cell 0
            have y1 : W2.cell? ⟨w.heap.size, 1, none⟩ = some (.int .i64 n) := hI.phi.2.1.cell 1
            have y2 : W2.cell? ⟨w.heap.size, 2, none⟩ = some (.slice am a.ms.length cm) := hI.phi.2.1.cell 2
            have y3 : W2.cell? ⟨w.heap.size, 3, none⟩ = some (.slice ae a.es.length ce) := hI.phi.2.1.cell 3
            clear hK hl hI hlen hd hn
            refine StepG.mk ?_
            simp only [puts, Act.put]
            go_simp
            exact HK.out _ _ _ HS.out _ (by simp [puts, Act.put])
          refine Steps.cons rfl ?_ ?_
          · intro l us W2 hl hI hd hn K' hK
            obtain ⟨tg2, hI⟩ := hI
            have hlen := hI.len
            obtain ⟨u0, u1, u2, u3, u4, u5, u6, u7, u8, rfl⟩ := list9r hlen
            have HK : Hid (∀ v W' tag', RB10 (PhiD w w3.heap.size (.slice aa a.al.length ca) (.int .i64 n) (.slice am a.ms.length cm) (.slice ae a.es.length ce) (.slice a3 a.al.length c3) a.al) (PR10 (.agg #[.slice aa a.al.length ca, .int .i64 n, .slice am a.ms.length cm, .slice ae a.es.length ce]) (.slice (some ⟨bk, ok, none⟩) kp.length ck) w.heap.size (.slice am a.ms.length cm)) w.heap.size n (flagL n kp) (flagL n a.ms) (l.setIfInBounds 4 true) ([u0, u1, u2, u3, u4, u5, u6, u7, u8].set 4 v) tag' W' → ∀ a', puts _ _ [u0, u1, u2, u3, v, u5, u6, u7, u8] = a' → K' a' W') := fun v W' tag' h a' e => hK _ a' W' e ⟨tag', h⟩
            have HS := Lib.hid (hI.pureStep (v := (.pointer (some ⟨w.heap.size, 2, none⟩))) hl (by decide) rfl)
            clear hK hl hI hlen hd hn
            refine StepG.mk ?_
            simp only [puts, Act.put]
            go_simp
            exact HK.out _ _ _ HS.out _ (by simp [puts, Act.put])
          refine Steps.cons rfl ?_ ?_
          · intro l us W2 hl hI hd hn K' hK
            obtain ⟨tg2, hI⟩ := hI
            have hlen := hI.len
            obtain ⟨u0, u1, u2, u3, u4, u5, u6, u7, u8, rfl⟩ := list9r hlen
            have HK : Hid (∀ v W' tag', RB10 (PhiD w w3.heap.size (.slice aa a.al.length ca) (.int .i64 n) (.slice am a.ms.length cm) (.slice ae a.es.length ce) (.slice a3 a.al.length c3) a.al) (PR10 (.agg #[.slice aa a.al.length ca, .int .i64 n, .slice am a.ms.length cm, .slice ae a.es.length ce]) (.slice (some ⟨bk, ok, none⟩) kp.length ck) w.heap.size (.slice am a.ms.length cm)) w.heap.size n (flagL n kp) (flagL n a.ms) (l.setIfInBounds 5 true) ([u0, u1, u2, u3, u4, u5, u6, u7, u8].set 5 v) tag' W' → ∀ a', puts _ _ [u0, u1, u2, u3, u4, v, u6, u7, u8] = a' → K' a' W') := fun v W' tag' h a' e => hK _ a' W' e ⟨tag', h⟩
            have d4 : l.getD 4 false = true := by
              simp [Region.binds] at hd
              simp [hd]
            obtain rfl : u4 = _ := hI.pure 4 (by decide) d4
            have HS := Lib.hid (hI.pureStep (v := (.slice am a.ms.length cm)) hl (by decide) rfl)
            have y2 : W2.cell? ⟨w.heap.size, 2, none⟩ = some (.slice am a.ms.length cm) := hI.phi.2.1.cell 2
            clear hK hl hI hlen hd hn d4
            refine StepG.mk ?_
            simp only [puts, Act.put]
            go_simp
            exact HK.out _ _ _ HS.out _ (by simp [puts, Act.put])
          refine Steps.cons rfl ?_ ?_
          · intro l us W2 hl hI hd hn K' hK
            obtain ⟨tg2, hI⟩ := hI
            have hlen := hI.len
            obtain ⟨u0, u1, u2, u3, u4, u5, u6, u7, u8, rfl⟩ := list9r hlen
            have HK : Hid (∀ v W' tag', RB10 (PhiD w w3.heap.size (.slice aa a.al.length ca) (.int .i64 n) (.slice am a.ms.length cm) (.slice ae a.es.length ce) (.slice a3 a.al.length c3) a.al) (PR10 (.agg #[.slice aa a.al.length ca, .int .i64 n, .slice am a.ms.length cm, .slice ae a.es.length ce]) (.slice (some ⟨bk, ok, none⟩) kp.length ck) w.heap.size (.slice am a.ms.length cm)) w.heap.size n (flagL n kp) (flagL n a.ms) (l.setIfInBounds 6 true) ([u0, u1, u2, u3, u4, u5, u6, u7, u8].set 6 v) tag' W' → ∀ a', puts _ _ [u0, u1, u2, u3, u4, u5, v, u7, u8] = a' → K' a' W') := fun v W' tag' h a' e => hK _ a' W' e ⟨tag', h⟩
            have d3 : l.getD 3 false = true := by
              simp [Region.binds] at hd
              simp [hd]
            have d5 : l.getD 5 false = true := by
              simp [Region.binds] at hd
              simp [hd]
            obtain rfl : u3 = _ := hI.pure 3 (by decide) d3
            obtain rfl : u5 = _ := hI.pure 5 (by decide) d5
            have hbl := hI.phi.1
            have HS := Lib.hid (fun (v : Value) (W' : World) (hb : Below W2.heap.size W2 W') (hown : W'.ownsRow W2.heap.size 4 1 v n (bools (flagL n a.ms))) => hI.op6 (v := v) hl (hI.phi.call hb) hb hown)
            clear hK hl hI hlen hd hn d3 d5
            refine StepG.mk ?_
            simp only [puts, Act.put]
            go_simp
            refine (flags_any _ _ _ _ n a.ms _ ⟨_, _, rfl, Hrm.out.mono hbl⟩ (by omega) (by omega) Hms.out).mono ?_
            rintro e w9 ⟨v9, rfl, hown9, hb9⟩
            go_simp
            exact HK.out _ _ _ (HS.out _ _ hb9 hown9) _ (by simp [puts, Act.put])
          refine Steps.cons rfl ?_ ?_
          · intro l us W2 hl hI hd hn K' hK
            obtain ⟨tg2, hI⟩ := hI
            have hlen := hI.len
            obtain ⟨u0, u1, u2, u3, u4, u5, u6, u7, u8, rfl⟩ := list9r hlen
            have HK : Hid (∀ v W' tag', RB10 (PhiD w w3.heap.size (.slice aa a.al.length ca) (.int .i64 n) (.slice am a.ms.length cm) (.slice ae a.es.length ce) (.slice a3 a.al.length c3) a.al) (PR10 (.agg #[.slice aa a.al.length ca, .int .i64 n, .slice am a.ms.length cm, .slice ae a.es.length ce]) (.slice (some ⟨bk, ok, none⟩) kp.length ck) w.heap.size (.slice am a.ms.length cm)) w.heap.size n (flagL n kp) (flagL n a.ms) (l.setIfInBounds 7 true) ([u0, u1, u2, u3, u4, u5, u6, u7, u8].set 7 v) tag' W' → ∀ a', puts _ _ [u0, u1, u2, u3, u4, u5, u6, v, u8] = a' → K' a' W') := fun v W' tag' h a' e => hK _ a' W' e ⟨tag', h⟩
            have HS := Lib.hid (hI.op7 hl (hI.phi.up _ 2) hn)
            clear hK hl hI hlen hd hn
            refine StepG.mk ?_
            simp only [puts, Act.put]
            go_simp
            exact HK.out _ _ _ HS.out _ (by simp [puts, Act.put])
          refine Steps.cons rfl ?_ ?_
          · intro l us W2 hl hI hd hn K' hK
            obtain ⟨tg2, hI⟩ := hI
            have hlen := hI.len
            obtain ⟨u0, u1, u2, u3, u4, u5, u6, u7, u8, rfl⟩ := list9r hlen
            have HK : Hid (∀ W' tag', RB10 (PhiD w w3.heap.size (.slice aa a.al.length ca) (.int .i64 n) (.slice am a.ms.length cm) (.slice ae a.es.length ce) (.slice a3 a.al.length c3) a.al) (PR10 (.agg #[.slice aa a.al.length ca, .int .i64 n, .slice am a.ms.length cm, .slice ae a.es.length ce]) (.slice (some ⟨bk, ok, none⟩) kp.length ck) w.heap.size (.slice am a.ms.length cm)) w.heap.size n (flagL n kp) (flagL n a.ms) (l.setIfInBounds 8 true) [u0, u1, u2, u3, u4, u5, u6, u7, u8] tag' W' → ∀ a', puts _ _ [u0, u1, u2, u3, u4, u5, u6, u7, u8] = a' → K' a' W') := fun W' tag' h a' e => hK _ a' W' e ⟨tag', h⟩
            have d7 : l.getD 7 false = true := by
              simp [Region.binds] at hd
              simp [hd]
            have d2 : l.getD 2 false = true := by
              simp [Region.binds] at hd
              simp [hd]
            obtain ⟨b9, e9, ho9⟩ := hI.s7 d7
            obtain rfl : u7 = _ := e9
            obtain ⟨a2, c2, e2⟩ := (hI.s2 d2).val
            obtain rfl : u2 = _ := e2
            have HS := Lib.hid (hI.op8 hl PhiD.turn2 d2 d7 rfl)
            rw [hn] at ho9
            have y0 : W2.cell? ⟨b9, 0, none⟩ = some (.slice none 0 0) := ho9.cell 0
            have y1 := ho9.frozen 0
            clear hK hl hI hlen hd hn d7 d2 ho9
            refine StepG.mk ?_
            simp only [puts, Act.put]
            go_simp
            exact HK.out _ _ HS.out _ (by simp [puts, Act.put])
          refine Steps.cons rfl ?_ ?_
          · intro l us W2 hl hI hd hn K' hK
            obtain ⟨tg2, hI⟩ := hI
            have hlen := hI.len
            obtain ⟨u0, u1, u2, u3, u4, u5, u6, u7, u8, rfl⟩ := list9r hlen
            have HK : Hid (∀ v W' tag', RB10 (PhiD w w3.heap.size (.slice aa a.al.length ca) (.int .i64 n) (.slice am a.ms.length cm) (.slice ae a.es.length ce) (.slice a3 a.al.length c3) a.al) (PR10 (.agg #[.slice aa a.al.length ca, .int .i64 n, .slice am a.ms.length cm, .slice ae a.es.length ce]) (.slice (some ⟨bk, ok, none⟩) kp.length ck) w.heap.size (.slice am a.ms.length cm)) w.heap.size n (flagL n kp) (flagL n a.ms) (l.setIfInBounds 9 true) ([u0, u1, u2, u3, u4, u5, u6, u7, u8].set 8 v) tag' W' → ∀ a', puts _ _ [u0, u1, u2, u3, u4, u5, u6, u7, v] = a' → K' a' W') := fun v W' tag' h a' e => hK _ a' W' e ⟨tag', h⟩
            have d6 : l.getD 6 false = true := by
              simp [Region.binds] at hd
              simp [hd]
            have HS := Lib.hid (hI.op9 hl d6)
            clear hK hl hI hlen hd hn d6
            refine StepG.mk ?_
            simp only [puts, Act.put]
            go_simp
            exact HK.out _ _ _ HS.out _ (by simp [puts, Act.put])
          exact Steps.nil (Nat.le_refl _)
        · intro l us W2 hI hall
          obtain ⟨tg2, hI⟩ := hI
          have hlen := hI.len
          obtain ⟨u0, u1, u2, u3, u4, u5, u6, u7, u8, rfl⟩ := list9r hlen
          obtain ⟨b9, e9, ho9⟩ := hI.s7 (hall 7 (by decide))
          rw [hall 8 (by decide)] at ho9
          replace ho9 : Own W2 w.heap.size tg2 2 b9 #[u2] 86 := ho9
          obtain rfl : u7 = _ := e9
          have hin2 : Row W2 w.heap.size tg2 1 4 1 u2 n (bools (flagL n kp)) := hI.s2 (hall 2 (by decide))
          have hmk2 : Row W2 w.heap.size tg2 1 4 1 u8 n (bools (flagL n a.ms)) := hI.s9 (hall 9 (by decide))
          obtain ⟨b10, o10, c10, e10, _⟩ := hin2.addr hnp
          obtain rfl : u2 = _ := e10
          obtain ⟨b11, o11, c11, e11, _⟩ := hmk2.addr hnp
          obtain rfl : u8 = _ := e11
          have hphi := hI.phi
          have HY : Hid (YB w w3.heap.size b9 n (.slice aa a.al.length ca) (.int .i64 n) (.slice am a.ms.length cm) (.slice ae a.es.length ce) (.slice a3 a.al.length c3) (.slice (some ⟨b10, o10, none⟩) n c10) (.slice (some ⟨b11, o11, none⟩) n c11) a.al (flagL n kp) (flagL n a.ms) (fun b => (fun j => if j = 2 then 0 else j) (tg2 b)) W2) :=
            ⟨⟨hphi.1, hphi.2.1.name (fun j => if j = 2 then 0 else j), hphi.2.2.1.name (fun j => if j = 2 then 0 else j), hphi.2.2.2.1.name (fun j => if j = 2 then 0 else j), hphi.2.2.2.2.name (fun j => if j = 2 then 0 else j)⟩, ho9.name (fun j => if j = 2 then 0 else j), hin2.name (fun j => if j = 2 then 0 else j), hmk2.name (fun j => if j = 2 then 0 else j)⟩
          clear hlen hall hI ho9 hin2 hmk2 hphi HPhi
          generalize (fun b => (fun j => if j = 2 then 0 else j) (tg2 b)) = tg at *
          have hbW := HY.out.phi.1
          have hsW := hbW.size
          have x1 : W2.cell? ⟨w.heap.size, 1, none⟩ = some (.int .i64 n) := HY.out.phi.2.1.cell 1
          have hxl := HY.out.phi.2.1.lt
          obtain ⟨i0, hi, hz0, hz1, hz2⟩ := info_parts Try.info_int
          simp only [puts, Act.put, List.setIfInBounds_toArray, List.set_cons_succ, List.set_cons_zero]
          go_wp2_with (at_make; refine wpList_make_full _ rfl _ _ 28 rfl W2.heap.size 3 i0 (.int .i64 0) 1 Try.underlying28 hi hz0 hz1 .i64 .i64 _ _ n rfl rfl (by first | rfl | omega) (by first | rfl | omega) (by rw [hz2]; omega) (by unfold maxLen; omega) (Nat.le_refl _) ?_; intro w6 hown6 hgrow6; have hbm : Below W2.heap.size W2 w6 := Below.grown (Below.refl _ _) hgrow6 (Nat.le_refl _) (fun k e => (by cases e)); have HY6 := Lib.hid (HY.out.late 2 hbm); have hnr : Row w6 w.heap.size (tagFrom tg W2.heap.size 2) 2 3 1 (.slice (some ⟨W2.heap.size, 0, none⟩) n n) n (ints (List.replicate n 0)) := Row.of_call (by simpa [Value.cells, toList_madeCells_one] using hown6) hsW; have HN6 := Lib.hid hnr; have x0 : w6.cell? ⟨w.heap.size, 0, none⟩ = some (.slice aa a.al.length ca) := HY6.out.phi.2.1.cell 0; have x1 : w6.cell? ⟨w.heap.size, 1, none⟩ = some (.int .i64 n) := HY6.out.phi.2.1.cell 1; have x2 : w6.cell? ⟨w.heap.size, 2, none⟩ = some (.slice am a.ms.length cm) := HY6.out.phi.2.1.cell 2; have x3 : w6.cell? ⟨w.heap.size, 3, none⟩ = some (.slice ae a.es.length ce) := HY6.out.phi.2.1.cell 3; have hxl6 := HY6.out.phi.2.1.lt; have hW2l := hnr; clear hown6 hgrow6 hnr)
          have hW6 := HY6.out.phi.1
          obtain ⟨_, _, _, e6, hN6l, _⟩ := hW2l.addr hnp
          cases e6
          have hb7 := bel_alloc w6 (.cells #[.slice (some ⟨W2.heap.size, 0, none⟩) n n] 28)
          refine (newGraph_row _ _ _ _ _ _ _ n a.es _ (RdE.mono ⟨ae, ce, rfl, hre⟩ (hW6.trans (hb7.mono hW6.size))) hae (by omega) (fun x hx => ⟨(Hes.out x hx).1, (Hes.out x hx).2.1⟩)).mono ?_
          rintro e w8 ⟨_, rfl, ⟨af, cf, tgg, rfl, hrg⟩, hb8⟩
          obtain ⟨bf, offf, cf', eaf, _⟩ := hrg.addr (by omega)
          cases eaf
          have hs6 := hW6.size
          have hs8 := hb8.size
          simp only [World.size_alloc] at hs8
          have hY8 := (HY6.out.up (.cells #[.slice (some ⟨W2.heap.size, 0, none⟩) n n] 28) 0).late 0 hb8
          have hN8 := ((HN6.out.up (.cells #[.slice (some ⟨W2.heap.size, 0, none⟩) n n] 28) 0).late (k' := 0) hb8)
          have hnb8 := (Own.new w6 w.heap.size (tagUp (tagFrom tg W2.heap.size 2) w6.heap.size 0) 0 #[.slice (some ⟨W2.heap.size, 0, none⟩) n n] 28 hs6 (tagUp_at _ _ _)).late (k' := 0) hb8
          have hrg8 : Row w8 w.heap.size (tagFrom (tagUp (tagFrom tg W2.heap.size 2) w6.heap.size 0) (w6.alloc (.cells #[.slice (some ⟨W2.heap.size, 0, none⟩) n n] 28)).heap.size 0) 0 3 1 (.slice (some ⟨bf, offf, none⟩) (n + 1) cf) (n + 1) (ints (firsts n a.es)) := hrg.of_row (by simp; omega) (fun b hb => if_neg (by omega))
          generalize (tagFrom (tagUp (tagFrom tg W2.heap.size 2) w6.heap.size 0) (w6.alloc (.cells #[.slice (some ⟨W2.heap.size, 0, none⟩) n n] 28)).heap.size 0) = tg8 at *
          have hs9 : w8.heap.size ≤ w8.heap.size := Nat.le_refl _
          have hsw8 := hY8.phi.1.size
          have hY11 := ((hY8.up (.cells #[.slice aa a.al.length ca, .int .i64 n, .slice am a.ms.length cm, .slice ae a.es.length ce, .slice (some ⟨bf, offf, none⟩) (n + 1) cf] 80) 0).up (.cells #[.int .i64 0] 3) 4).up (.cells #[.slice (some ⟨w8.heap.size + 1, 0, none⟩) 1 1] 28) 3
          have hN11 := ((hN8.up (.cells #[.slice aa a.al.length ca, .int .i64 n, .slice am a.ms.length cm, .slice ae a.es.length ce, .slice (some ⟨bf, offf, none⟩) (n + 1) cf] 80) 0).up (.cells #[.int .i64 0] 3) 4).up (.cells #[.slice (some ⟨w8.heap.size + 1, 0, none⟩) 1 1] 28) 3
          have hnb11 := ((hnb8.upR (.cells #[.slice aa a.al.length ca, .int .i64 n, .slice am a.ms.length cm, .slice ae a.es.length ce, .slice (some ⟨bf, offf, none⟩) (n + 1) cf] 80) 0).upR (.cells #[.int .i64 0] 3) 4).upR (.cells #[.slice (some ⟨w8.heap.size + 1, 0, none⟩) 1 1] 28) 3
          have hG11 := ((hrg8.up (.cells #[.slice aa a.al.length ca, .int .i64 n, .slice am a.ms.length cm, .slice ae a.es.length ce, .slice (some ⟨bf, offf, none⟩) (n + 1) cf] 80) 0).up (.cells #[.int .i64 0] 3) 4).up (.cells #[.slice (some ⟨w8.heap.size + 1, 0, none⟩) 1 1] 28) 3
          have hgb11 := ((Own.new w8 w.heap.size (tagUp tg8 w8.heap.size 0) 0 #[.slice aa a.al.length ca, .int .i64 n, .slice am a.ms.length cm, .slice ae a.es.length ce, .slice (some ⟨bf, offf, none⟩) (n + 1) cf] 80 hsw8 (tagUp_at _ _ _)).upR (.cells #[.int .i64 0] 3) 4).upR (.cells #[.slice (some ⟨w8.heap.size + 1, 0, none⟩) 1 1] 28) 3
          have hq11 := (Row.fresh (w8.alloc (.cells #[.slice aa a.al.length ca, .int .i64 n, .slice am a.ms.length cm, .slice ae a.es.length ce, .slice (some ⟨bf, offf, none⟩) (n + 1) cf] 80)) w.heap.size (tagUp tg8 w8.heap.size 0) 4 3 [.int .i64 0] (by simp; omega) (by show 1 ≤ maxLen; decide)).up (.cells #[.slice (some ⟨w8.heap.size + 1, 0, none⟩) 1 1] 28) 3
          have hqb11 := Own.new ((w8.alloc (.cells #[.slice aa a.al.length ca, .int .i64 n, .slice am a.ms.length cm, .slice ae a.es.length ce, .slice (some ⟨bf, offf, none⟩) (n + 1) cf] 80)).alloc (.cells #[.int .i64 0] 3)) w.heap.size (tagUp (tagUp (tagUp tg8 w8.heap.size 0) (w8.alloc (.cells #[.slice aa a.al.length ca, .int .i64 n, .slice am a.ms.length cm, .slice ae a.es.length ce, .slice (some ⟨bf, offf, none⟩) (n + 1) cf] 80)).heap.size 4) ((w8.alloc (.cells #[.slice aa a.al.length ca, .int .i64 n, .slice am a.ms.length cm, .slice ae a.es.length ce, .slice (some ⟨bf, offf, none⟩) (n + 1) cf] 80)).alloc (.cells #[.int .i64 0] 3)).heap.size 3) 3 #[.slice (some ⟨w8.heap.size + 1, 0, none⟩) 1 1] 28 (by simp; omega) (tagUp_at _ _ _)
          have e8 : (w8.alloc (.cells #[.slice aa a.al.length ca, .int .i64 n, .slice am a.ms.length cm, .slice ae a.es.length ce, .slice (some ⟨bf, offf, none⟩) (n + 1) cf] 80)).heap.size = w8.heap.size + 1 := by simp
          have e9 : ((w8.alloc (.cells #[.slice aa a.al.length ca, .int .i64 n, .slice am a.ms.length cm, .slice ae a.es.length ce, .slice (some ⟨bf, offf, none⟩) (n + 1) cf] 80)).alloc (.cells #[.int .i64 0] 3)).heap.size = w8.heap.size + 1 + 1 := by simp
          have e10 : (((w8.alloc (.cells #[.slice aa a.al.length ca, .int .i64 n, .slice am a.ms.length cm, .slice ae a.es.length ce, .slice (some ⟨bf, offf, none⟩) (n + 1) cf] 80)).alloc (.cells #[.int .i64 0] 3)).alloc (.cells #[.slice (some ⟨w8.heap.size + 1, 0, none⟩) 1 1] 28)).heap.size = w8.heap.size + 1 + 1 + 1 := by simp
          generalize tagUp (tagUp (tagUp tg8 w8.heap.size 0) (w8.alloc (.cells #[.slice aa a.al.length ca, .int .i64 n, .slice am a.ms.length cm, .slice ae a.es.length ce, .slice (some ⟨bf, offf, none⟩) (n + 1) cf] 80)).heap.size 4) ((w8.alloc (.cells #[.slice aa a.al.length ca, .int .i64 n, .slice am a.ms.length cm, .slice ae a.es.length ce, .slice (some ⟨bf, offf, none⟩) (n + 1) cf] 80)).alloc (.cells #[.int .i64 0] 3)).heap.size 3 = tg11 at *
          rw [e8] at hq11
          rw [e9] at hqb11
          clear hY8 hN8 hnb8 hrg8 hrg hb8 hb7 HY6 HN6 x0 x1 x2 x3 HY
          go_upto_region 14 with fail
          generalize ((w8.alloc (.cells #[.slice aa a.al.length ca, .int .i64 n, .slice am a.ms.length cm, .slice ae a.es.length ce, .slice (some ⟨bf, offf, none⟩) (n + 1) cf] 80)).alloc (.cells #[.int .i64 0] 3)).alloc (.cells #[.slice (some ⟨w8.heap.size + 1, 0, none⟩) 1 1] 28) = w11 at *
          have n0 : w11.cell? ⟨w6.heap.size, 0, none⟩ = some (.slice (some ⟨W2.heap.size, 0, none⟩) n n) := hnb11.cell 0
          have n1 : w11.cell? ⟨W2.heap.size, 0, none⟩ = some (.int .i64 0) := by
            have h := hN11.cellAt 0 (by omega)
            rw [List.getElem?_map, List.getElem?_replicate, if_pos hnp] at h
            exact h
          have n2 := hN11.frozenAt 0
          have hnpI : (0 : Int) < (n : Int) := by omega
          have hl11 : W2.heap.size < w11.heap.size := by omega
          have hset := hN11.set 0 (.int .i64 1)
          have hst : (ints (List.replicate n 0)).set 0 (.int .i64 1) = ints ((List.replicate n 0).set 0 1) := (List.map_set ..).symm
          rw [Nat.zero_add, hst] at hset
          have hX13 : Hid (XB w #[.slice aa a.al.length ca, .int .i64 n, .slice am a.ms.length cm, .slice ae a.es.length ce, .slice (some ⟨bf, offf, none⟩) (n + 1) cf] n w3.heap.size b9 w6.heap.size w8.heap.size (w8.heap.size + 1 + 1) (.slice a3 a.al.length c3) (.slice (some ⟨b10, o10, none⟩) n c10) (.slice (some ⟨W2.heap.size, 0, none⟩) n n) (.slice (some ⟨b11, o11, none⟩) n c11) a.al (flagL n kp) (flagL n a.ms) [] ((w11.setCell ⟨W2.heap.size, 0, none⟩ (.int .i64 1)).alloc (.cells #[.int .i64 0] 3)) (tagUp tg11 (w11.setCell ⟨W2.heap.size, 0, none⟩ (.int .i64 1)).heap.size 5) (w11.setCell ⟨W2.heap.size, 0, none⟩ (.int .i64 1)).heap.size 0 (.slice none 0 0) (.slice none 0 0) (.slice (some ⟨w8.heap.size + 1, 0, none⟩) 1 1) ⟨(List.replicate n 0).set 0 1, [0], []⟩ []) :=
            have T := hset.2
            have hb := belTurn hY11.phi.1 T hY11.phi.1.size
            ⟨hb.alloc hb.size _, Marks.nil _ _, (hY11.phi.2.2.1.turn T (by decide)).upR _ 5, (hY11.phi.2.2.2.1.turn T (by decide)).upR _ 5, (hY11.ib.turn T (by decide)).upR _ 5, (hnb11.turn T (by decide)).upR _ 5, (hgb11.turn T (by decide)).upR _ 5, (hqb11.turn T (by decide)).upR _ 5, Own.new _ _ _ 5 _ _ hb.size (tagUp_at _ _ _), (hY11.phi.2.2.2.2.turn T (by decide)).up _ 5, (hY11.inr.turn T (by decide)).up _ 5, (hY11.mkr.turn T (by decide)).up _ 5, hset.1.up _ 5, (hq11.turn T (by decide)).up _ 5, Row.nil _ _ _ _ _ _⟩
          have hG13 : Hid (Row ((w11.setCell ⟨W2.heap.size, 0, none⟩ (.int .i64 1)).alloc (.cells #[.int .i64 0] 3)) w.heap.size (tagUp tg11 (w11.setCell ⟨W2.heap.size, 0, none⟩ (.int .i64 1)).heap.size 5) 0 3 1 (.slice (some ⟨bf, offf, none⟩) (n + 1) cf) (n + 1) (ints (firsts n a.es))) := (hG11.turn hset.2 (by decide)).up _ 5
          clear hY11 hN11 hnb11 hG11 hgb11 hq11 hqb11 hset hst e8 e9
          go_wp2_with fail
          have e12 : (w11.setCell ⟨W2.heap.size, 0, none⟩ (.int .i64 1)).heap.size = w8.heap.size + 1 + 1 + 1 := by rw [World.size_setCell]; exact e10
          rw [e12] at hX13 hG13
          have hok0 : ROk n (0 * 1000000) ⟨(List.replicate n 0).set 0 1, [0], []⟩ := by
            refine ⟨by simp, ?_, fun s hs => ?_, fun v hv => ?_, by simp⟩
            · have := count_set0 (l := List.replicate n 0) (j := 0) (v := 1) (by rw [List.getElem?_replicate, if_pos hnp]) (by decide)
              simp at this ⊢
              omega
            · rw [List.mem_singleton.1 hs]; omega
            · rcases List.mem_or_eq_of_mem_set hv with h4 | h4
              · rw [List.eq_of_mem_replicate h4]; omega
              · subst h4; omega
          have hinFl := flagL_length n kp
          have hmkFl := flagL_length n a.ms
          have HR1 : Hid (R = ⟨a.al, ((rsLoop a.es (flagL n kp) (flagL n a.ms) (n + 1) 0 ⟨(List.replicate n 0).set 0 1, [0], []⟩ []).1.q.length : Int), (rsLoop a.es (flagL n kp) (flagL n a.ms) (n + 1) 0 ⟨(List.replicate n 0).set 0 1, [0], []⟩ []).2, (rsLoop a.es (flagL n kp) (flagL n a.ms) (n + 1) 0 ⟨(List.replicate n 0).set 0 1, [0], []⟩ []).1.E⟩) := by
            show _ = _
            rw [HRR.out, restrictF, if_pos hk, Int.toNat_natCast]
          generalize flagL n kp = inF at *
          generalize flagL n a.ms = mkF at *
          generalize hRL : rsLoop a.es inF mkF (n + 1) 0 ⟨(List.replicate n 0).set 0 1, [0], []⟩ [] = RL at *
          have HRL0 : Hid (RL = rsLoop a.es inF mkF (n + 1 - 0) 0 ⟨(List.replicate n 0).set 0 1, [0], []⟩ []) := by show _ = _; rw [← hRL]; rfl
          clear hRL HRR hk
          refine wp_loop_ghost_k (fun k a' wr => ∃ (v15 v58 v59 v60 v61 v62 v63 v64 v65 v66 v67 v68 v69 v70 v71 v72 v73 v74 v75 v76 v77 v78 v79 v80 v81 v82 v83 v84 v85 v86 v87 v88 v89 v90 v91 v92 v93 v94 v95 v96 v97 v98 v99 v100 v101 v102 v103 v104 v105 v106 v107 v108 v109 v110 v111 v112 v113 v114 v115 v116 v117 v118 v119 v120 v121 v122 : Value) (ds : List Deferred) (tag : Nat → Nat) (bi i : Nat) (vm ve vq : Value) (S : RSt) (ms : List Int), XB w #[.slice aa a.al.length ca, .int .i64 n, .slice am a.ms.length cm, .slice ae a.es.length ce, .slice (some ⟨bf, offf, none⟩) (n + 1) cf] n w3.heap.size b9 w6.heap.size w8.heap.size (w8.heap.size + 1 + 1) (.slice a3 a.al.length c3) (.slice (some ⟨b10, o10, none⟩) n c10) (.slice (some ⟨W2.heap.size, 0, none⟩) n n) (.slice (some ⟨b11, o11, none⟩) n c11) a.al inF mkF ds wr tag bi i vm ve vq S ms ∧ Row wr w.heap.size tag 8 45 3 ve S.E.length (edCells S.E) ∧ Row wr w.heap.size tag 0 3 1 (.slice (some ⟨bf, offf, none⟩) (n + 1) cf) (n + 1) (ints (firsts n a.es)) ∧ ROk n (i * 1000000) S ∧ ms.length ≤ i ∧ i ≤ n ∧ i ≤ S.q.length ∧ k = n + 1 - i ∧ Hid (RL = rsLoop a.es inF mkF (n + 1 - i) i S ms) ∧ a' = { tmps := #[Value.agg #[.slice aa a.al.length ca, .int .i64 n, .slice am a.ms.length cm, .slice ae a.es.length ce], Value.slice (some ⟨bk, ok, none⟩) kp.length ck, Value.pointer (some ⟨w.heap.size, 0, none⟩), undef, Value.pointer (some ⟨w.heap.size + 1, 0, none⟩), Value.int .i64 0, Value.int .i64 0, Value.int .i64 0, Value.pointer (some ⟨w3.heap.size, 0, none⟩), Value.pointer (some ⟨b9, 0, none⟩), Value.slice (some ⟨b11, o11, none⟩) n c11, Value.pointer (some ⟨w6.heap.size, 0, none⟩), Value.pointer (some ⟨w8.heap.size, 0, none⟩), Value.pointer (some ⟨w8.heap.size + 1 + 1, 0, none⟩), Value.pointer (some ⟨bi, 0, none⟩), v15, Value.agg #[.slice aa a.al.length ca, .int .i64 n, .slice am a.ms.length cm, .slice ae a.es.length ce], Value.int .i64 0, Value.int .i64 0, Value.bool false, undef, undef, Value.agg #[.slice aa a.al.length ca, .int .i64 n, .slice am a.ms.length cm, .slice ae a.es.length ce], Value.slice (some ⟨bk, ok, none⟩) kp.length ck, Value.int .i64 0, Value.int .i64 0, Value.bool false, undef, undef, Value.pointer (some ⟨w.heap.size, 0, none⟩), Value.slice aa a.al.length ca, Value.slice a3 a.al.length c3, Value.agg #[.slice a3 a.al.length c3, .int .i64 0, .slice none 0 0, .slice none 0 0], Value.slice (some ⟨bk, ok, none⟩) kp.length ck, Value.int .i64 kp.length, Value.bool false, Value.bool false, Value.slice (some ⟨bk, ok, none⟩) kp.length ck, Value.pointer (some ⟨bk, ok, none⟩), Value.int .i64 0, Value.bool false, Value.bool false, undef, u0, u1, Value.slice (some ⟨b10, o10, none⟩) n c10, u3, u4, u5, u6, Value.pointer (some ⟨w.heap.size, 1, none⟩), Value.int .i64 n, Value.slice (some ⟨W2.heap.size, 0, none⟩) n n, Value.agg #[.slice aa a.al.length ca, .int .i64 n, .slice am a.ms.length cm, .slice ae a.es.length ce], Value.agg #[.slice aa a.al.length ca, .int .i64 n, .slice am a.ms.length cm, .slice ae a.es.length ce, .slice (some ⟨bf, offf, none⟩) (n + 1) cf], Value.slice (some ⟨w8.heap.size + 1, 0, none⟩) 1 1, Value.slice (some ⟨W2.heap.size, 0, none⟩) n n, Value.pointer (some ⟨W2.heap.size, 0, none⟩), v58, v59, v60, v61, v62, v63, v64, v65, v66, v67, v68, v69, v70, v71, v72, v73, v74, v75, v76, v77, v78, v79, v80, v81, v82, v83, v84, v85, v86, v87, v88, v89, v90, v91, v92, v93, v94, v95, v96, v97, v98, v99, v100, v101, v102, v103, v104, v105, v106, v107, v108, v109, v110, v111, v112, v113, v114, v115, v116, v117, v118, v119, v120, v121, v122, undef, undef, undef, undef], defers := ds }) (n + 1) ?_ ?_
          · repeat apply Exists.intro
            exact ⟨hX13.out, Row.nil _ _ _ _ _ _, hG13.out, hok0, Nat.zero_le _, Nat.zero_le _, Nat.zero_le _, rfl, HRL0.out, rfl⟩
          · intro gk _ wr h
            obtain ⟨v15, h⟩ := h
            obtain ⟨v58, h⟩ := h
            obtain ⟨v59, h⟩ := h
            obtain ⟨v60, h⟩ := h
            obtain ⟨v61, h⟩ := h
            obtain ⟨v62, h⟩ := h
            obtain ⟨v63, h⟩ := h
            obtain ⟨v64, h⟩ := h
            obtain ⟨v65, h⟩ := h
            obtain ⟨v66, h⟩ := h
            obtain ⟨v67, h⟩ := h
            obtain ⟨v68, h⟩ := h
            obtain ⟨v69, h⟩ := h
            obtain ⟨v70, h⟩ := h
            obtain ⟨v71, h⟩ := h
            obtain ⟨v72, h⟩ := h
            obtain ⟨v73, h⟩ := h
            obtain ⟨v74, h⟩ := h
            obtain ⟨v75, h⟩ := h
            obtain ⟨v76, h⟩ := h
            obtain ⟨v77, h⟩ := h
            obtain ⟨v78, h⟩ := h
            obtain ⟨v79, h⟩ := h
            obtain ⟨v80, h⟩ := h
            obtain ⟨v81, h⟩ := h
            obtain ⟨v82, h⟩ := h
            obtain ⟨v83, h⟩ := h
            obtain ⟨v84, h⟩ := h
            obtain ⟨v85, h⟩ := h
            obtain ⟨v86, h⟩ := h
            obtain ⟨v87, h⟩ := h
            obtain ⟨v88, h⟩ := h
            obtain ⟨v89, h⟩ := h
            obtain ⟨v90, h⟩ := h
            obtain ⟨v91, h⟩ := h
            obtain ⟨v92, h⟩ := h
            obtain ⟨v93, h⟩ := h
            obtain ⟨v94, h⟩ := h
            obtain ⟨v95, h⟩ := h
            obtain ⟨v96, h⟩ := h
            obtain ⟨v97, h⟩ := h
            obtain ⟨v98, h⟩ := h
            obtain ⟨v99, h⟩ := h
            obtain ⟨v100, h⟩ := h
            obtain ⟨v101, h⟩ := h
            obtain ⟨v102, h⟩ := h
            obtain ⟨v103, h⟩ := h
            obtain ⟨v104, h⟩ := h
            obtain ⟨v105, h⟩ := h
            obtain ⟨v106, h⟩ := h
            obtain ⟨v107, h⟩ := h
            obtain ⟨v108, h⟩ := h
            obtain ⟨v109, h⟩ := h
            obtain ⟨v110, h⟩ := h
            obtain ⟨v111, h⟩ := h
            obtain ⟨v112, h⟩ := h
            obtain ⟨v113, h⟩ := h
            obtain ⟨v114, h⟩ := h
            obtain ⟨v115, h⟩ := h
            obtain ⟨v116, h⟩ := h
            obtain ⟨v117, h⟩ := h
            obtain ⟨v118, h⟩ := h
            obtain ⟨v119, h⟩ := h
            obtain ⟨v120, h⟩ := h
            obtain ⟨v121, h⟩ := h
            obtain ⟨v122, h⟩ := h
            obtain ⟨ds, tag, bi, i, vm, ve, vq, S, ms, hX, hE, hG, hok, hml, hin, hiq, rfl, hRL, rfl⟩ := h
            intro J K hJ hK
            obtain ⟨avq, cvq, rfl⟩ := hX.qr.val
            have q1 : wr.cell? ⟨w8.heap.size + 1 + 1, 0, none⟩ = some (.slice avq S.q.length cvq) := hX.qb.cell 0
            have q2 : wr.cell? ⟨bi, 0, none⟩ = some (.int .i64 i) := hX.io.cell 0
            have hbX := hX.below
            by_cases hlt : i < S.q.length
            · have hltI : (i : Int) < (S.q.length : Int) := by omega
              obtain ⟨bq, oq, cq, e9, hbql, _, qc⟩ := hX.qr.at_int i hlt
              cases e9
              have hsr := hok.rng _ (List.getElem_mem hlt)
              have Hs8 : Hid (S.q.getD i 0 = S.q[i]) := by show _ = _; rw [List.getD_eq_getElem?_getD, List.getElem?_eq_getElem hlt]; rfl
              have Hstep : Hid (RL = rsLoop a.es inF mkF (n + 1 - (i + 1)) (i + 1) ((subOf a.es S.q[i]).foldl (rsStep inF i) S) (if mkF.getD S.q[i].toNat false = true then ms ++ [(i : Int)] else ms)) := by
                show _ = _
                rw [hRL.out, show n + 1 - i = (n + 1 - (i + 1)) + 1 by omega, rsLoop, if_pos hlt, Hs8.out]
              clear Hs8
              generalize hs9 : S.q[i] = s0 at *
              obtain ⟨t, rfl⟩ := Int.eq_ofNat_of_zero_le hsr.1
              have Hs9 := Lib.hid hs9
              clear hs9
              have ht : t < n := by omega
              rw [Int.toNat_natCast] at Hstep
              have mkc : wr.cell? ⟨b11, o11 + t, none⟩ = some (.bool (mkF.getD t false)) := by
                rw [hX.mkr.cellAt t (by omega), List.getElem?_map, List.getElem?_eq_getElem (by omega), List.getD_eq_getElem?_getD, List.getElem?_eq_getElem (by omega)]; rfl
              have o2 : wr.cell? ⟨w3.heap.size, 2, none⟩ = some vm := hX.ob.cell 2
              obtain ⟨avm, cvm, rfl⟩ := hX.mr.val
              have hbl1 := World.block_lt_of_cell? _ _ mkc
              have hbl2 := World.block_lt_of_cell? _ _ o2
              dsimp only at hbl1 hbl2
              have HX := Lib.hid hX
              have HEr := Lib.hid hE
              have HGr := Lib.hid hG
              have Hok := Lib.hid hok
              clear hX hE hG hok hRL
              generalize hmt : mkF.getD t false = mt at *
              go_upto_if 70 with fail
              go_cut [70] from 58 to 122 (fun _ wx => ∃ (tag : Nat → Nat) (vm : Value) (ms' : List Int), XB w #[.slice aa a.al.length ca, .int .i64 n, .slice am a.ms.length cm, .slice ae a.es.length ce, .slice (some ⟨bf, offf, none⟩) (n + 1) cf] n w3.heap.size b9 w6.heap.size w8.heap.size (w8.heap.size + 1 + 1) (.slice a3 a.al.length c3) (.slice (some ⟨b10, o10, none⟩) n c10) (.slice (some ⟨W2.heap.size, 0, none⟩) n n) (.slice (some ⟨b11, o11, none⟩) n c11) a.al inF mkF ds wx tag bi i vm ve (.slice (some ⟨bq, oq, none⟩) S.q.length cvq) S ms' ∧ Row wx w.heap.size tag 8 45 3 ve S.E.length (edCells S.E) ∧ Row wx w.heap.size tag 0 3 1 (.slice (some ⟨bf, offf, none⟩) (n + 1) cf) (n + 1) (ints (firsts n a.es)) ∧ ms' = (if mt = true then ms ++ [(i : Int)] else ms))
              case first =>
                cases mt with
                | false =>
                  go_wp2_with fail
                  go_meet
                  exact ⟨tag, _, ms, HX.out, HEr.out, HGr.out, by simp⟩
                | true =>
                  have hX6 := Lib.hid (HX.out.up (.cells #[.int .i64 (i : Int)] 3) 9)
                  have hE6 := Lib.hid (HEr.out.up (.cells #[.int .i64 (i : Int)] 3) 9)
                  have hG6 := Lib.hid (HGr.out.up (.cells #[.int .i64 (i : Int)] 3) 9)
                  have hszX := HX.out.below.size
                  go_wp2_with (at_builtin; refine wpList_append_row rfl _ _ 28 rfl 3 i0 (.int .i64 0) 8 Try.underlying28 hi hz0 hz1 hz2 rfl rfl hX6.out.mr (some ⟨_, 0, none⟩) 1 1 [.int .i64 (i : Int)] rfl (by simp) (fun e => by cases e) (fun ad e => by cases e; exact new_cells_at _ _ rfl) (by simp [Value.oneCell']) (by unfold maxLen; omega) (by omega) (by simp; omega) ?_; intro v6 w9 tag6 hr6 ht6; have HP6 := Lib.hid (hX6.out.markS hr6 ht6); have s6 := hX6.out.ob.turn ht6 (by decide); have HT6 := Lib.hid (Turn.setCell s6 2 v6); have hE7 := Lib.hid (hE6.out.turn ht6 (by decide)); have hG7 := Lib.hid (hG6.out.turn ht6 (by decide)); obtain ⟨a6, c6, rfl⟩ := hr6.val; have z0 := s6.cell 2; have z1 := s6.frozen 2; simp at z0; clear hr6 ht6 s6)
                  go_meet
                  exact ⟨tag6, _, _, HP6.out, hE7.out.turn HT6.out (by decide), hG7.out.turn HT6.out (by decide), by simp⟩
              case rest =>
                obtain ⟨tag', vm', ms', hX, hE, hG, hms⟩ := hcut
                have Hms' := Lib.hid hms
                clear q1 q2 qc mkc o2 hbl1 hbl2 HX HEr HGr hbX hms
                have g0 : wc.cell? ⟨w8.heap.size, 0, none⟩ = some (Value.slice aa a.al.length ca) := hX.g.cell 0
                have g1 : wc.cell? ⟨w8.heap.size, 1, none⟩ = some (Value.int .i64 n) := hX.g.cell 1
                have g2 : wc.cell? ⟨w8.heap.size, 2, none⟩ = some (Value.slice am a.ms.length cm) := hX.g.cell 2
                have g3 : wc.cell? ⟨w8.heap.size, 3, none⟩ = some (Value.slice ae a.es.length ce) := hX.g.cell 3
                have g4 : wc.cell? ⟨w8.heap.size, 4, none⟩ = some (Value.slice (some ⟨bf, offf, none⟩) (n + 1) cf) := hX.g.cell 4
                have hgl := hX.g.lt
                have q1 : wc.cell? ⟨w8.heap.size + 1 + 1, 0, none⟩ = some (.slice (some ⟨bq, oq, none⟩) S.q.length cvq) := hX.qb.cell 0
                have hql := hX.qb.lt
                have q2 : wc.cell? ⟨bi, 0, none⟩ = some (.int .i64 i) := hX.io.cell 0
                have hil := hX.io.lt
                obtain ⟨_, _, _, e9, hqcl, _, qc⟩ := hX.qr.at_int i hlt
                cases e9
                rw [Hs9.out] at qc
                have hbWd := hX.below.drew
                have hszc := hX.below.size
                have HX := Lib.hid hX
                have HEr := Lib.hid hE
                have HGr := Lib.hid hG
                clear hX hE hG
                go_wp2_with fail
                refine wp_region_mono2 (RE20 (#[.slice aa a.al.length ca, .int .i64 n, .slice am a.ms.length cm, .slice ae a.es.length ce, .slice (some ⟨bf, offf, none⟩) (n + 1) cf]) (.slice (some ⟨bq, oq, none⟩) S.q.length cvq) (i) (bq) (oq) (((t : Nat) : Int)) (w.heap.size)) [77, 78, 79, 80, 81, 82] RE20_mono rfl (by kernel_rfl) (by kernel_rfl) ?_ ?_
                · skip
                  refine Steps.cons rfl ?_ ?_
                  · intro l us W hl hI hd hn K' hK
                    have hHas := hI.has
                    have hbel := hI.bel
                    have hlen := hI.len
                    obtain ⟨u0, u1, u2, u3, u4, u5, rfl⟩ := list_RE20 hlen
                    have HK : Hid (∀ v W', Below W.heap.size W W' → RE20 (#[.slice aa a.al.length ca, .int .i64 n, .slice am a.ms.length cm, .slice ae a.es.length ce, .slice (some ⟨bf, offf, none⟩) (n + 1) cf]) (.slice (some ⟨bq, oq, none⟩) S.q.length cvq) (i) (bq) (oq) (((t : Nat) : Int)) (w.heap.size) 0 v W' → ∀ a', puts _ _ [v, u1, u2, u3, u4, u5] = a' → K' a' W') := fun v W' hb hv a' e => hK _ a' W' e (hI.step RE20_mono hl hb hv)
                    have hWW := hbWd.trans (hbel.mono hbWd.size)
                    have y0 := keep hbel g0 hgl
                    have y1 := keep hbel g1 hgl
                    have y2 := keep hbel g2 hgl
                    have y3 := keep hbel g3 hgl
                    have y4 := keep hbel g4 hgl
                    clear hl hI hd hn hK hHas hlen 
                    refine StepG.mk ?_
                    simp only [puts, Act.put]
                    go_simp
                    exact HK.out (.agg (#[.slice aa a.al.length ca, .int .i64 n, .slice am a.ms.length cm, .slice ae a.es.length ce, .slice (some ⟨bf, offf, none⟩) (n + 1) cf])) _ (Below.refl _ _) rfl _ (by simp [puts, Act.put])
                  refine Steps.cons rfl ?_ ?_
                  · intro l us W hl hI hd hn K' hK
                    have hHas := hI.has
                    have hbel := hI.bel
                    have hlen := hI.len
                    obtain ⟨u0, u1, u2, u3, u4, u5, rfl⟩ := list_RE20 hlen
                    have HK : Hid (∀ v W', Below W.heap.size W W' → RE20 (#[.slice aa a.al.length ca, .int .i64 n, .slice am a.ms.length cm, .slice ae a.es.length ce, .slice (some ⟨bf, offf, none⟩) (n + 1) cf]) (.slice (some ⟨bq, oq, none⟩) S.q.length cvq) (i) (bq) (oq) (((t : Nat) : Int)) (w.heap.size) 1 v W' → ∀ a', puts _ _ [u0, v, u2, u3, u4, u5] = a' → K' a' W') := fun v W' hb hv a' e => hK _ a' W' e (hI.step RE20_mono hl hb hv)
                    have hWW := hbWd.trans (hbel.mono hbWd.size)
                    have y := keep hbel q1 hql
                    clear hl hI hd hn hK hHas hlen 
                    refine StepG.mk ?_
                    simp only [puts, Act.put]
                    go_simp
                    exact HK.out ((.slice (some ⟨bq, oq, none⟩) S.q.length cvq)) _ (Below.refl _ _) rfl _ (by simp [puts, Act.put])
                  refine Steps.cons rfl ?_ ?_
                  · intro l us W hl hI hd hn K' hK
                    have hHas := hI.has
                    have hbel := hI.bel
                    have hlen := hI.len
                    obtain ⟨u0, u1, u2, u3, u4, u5, rfl⟩ := list_RE20 hlen
                    have HK : Hid (∀ v W', Below W.heap.size W W' → RE20 (#[.slice aa a.al.length ca, .int .i64 n, .slice am a.ms.length cm, .slice ae a.es.length ce, .slice (some ⟨bf, offf, none⟩) (n + 1) cf]) (.slice (some ⟨bq, oq, none⟩) S.q.length cvq) (i) (bq) (oq) (((t : Nat) : Int)) (w.heap.size) 2 v W' → ∀ a', puts _ _ [u0, u1, v, u3, u4, u5] = a' → K' a' W') := fun v W' hb hv a' e => hK _ a' W' e (hI.step RE20_mono hl hb hv)
                    have hWW := hbWd.trans (hbel.mono hbWd.size)
                    have y := keep hbel q2 hil
                    clear hl hI hd hn hK hHas hlen 
                    refine StepG.mk ?_
                    simp only [puts, Act.put]
                    go_simp
                    exact HK.out (.int .i64 i) _ (Below.refl _ _) rfl _ (by simp [puts, Act.put])
                  refine Steps.cons rfl ?_ ?_
                  · intro l us W hl hI hd hn K' hK
                    have hHas := hI.has
                    have hbel := hI.bel
                    have hlen := hI.len
                    obtain ⟨u0, u1, u2, u3, u4, u5, rfl⟩ := list_RE20 hlen
                    have HK : Hid (∀ v W', Below W.heap.size W W' → RE20 (#[.slice aa a.al.length ca, .int .i64 n, .slice am a.ms.length cm, .slice ae a.es.length ce, .slice (some ⟨bf, offf, none⟩) (n + 1) cf]) (.slice (some ⟨bq, oq, none⟩) S.q.length cvq) (i) (bq) (oq) (((t : Nat) : Int)) (w.heap.size) 3 v W' → ∀ a', puts _ _ [u0, u1, u2, v, u4, u5] = a' → K' a' W') := fun v W' hb hv a' e => hK _ a' W' e (hI.step RE20_mono hl hb hv)
                    have hWW := hbWd.trans (hbel.mono hbWd.size)
                    have d1 : l.getD 1 false = true := by
                      simp [Region.binds] at hd
                      simp [hd]
                    have d2 : l.getD 2 false = true := by
                      simp [Region.binds] at hd
                      simp [hd]
                    obtain rfl : u1 = _ := hHas 1 (by decide) d1
                    obtain rfl : u2 = _ := hHas 2 (by decide) d2
                    clear hl hI hd hn hK hHas hlen d1 d2
                    refine StepG.mk ?_
                    simp only [puts, Act.put]
                    go_simp
                    exact HK.out (.pointer (some ⟨bq, oq + i, none⟩)) _ (Below.refl _ _) rfl _ (by simp [puts, Act.put])
                  refine Steps.cons rfl ?_ ?_
                  · intro l us W hl hI hd hn K' hK
                    have hHas := hI.has
                    have hbel := hI.bel
                    have hlen := hI.len
                    obtain ⟨u0, u1, u2, u3, u4, u5, rfl⟩ := list_RE20 hlen
                    have HK : Hid (∀ v W', Below W.heap.size W W' → RE20 (#[.slice aa a.al.length ca, .int .i64 n, .slice am a.ms.length cm, .slice ae a.es.length ce, .slice (some ⟨bf, offf, none⟩) (n + 1) cf]) (.slice (some ⟨bq, oq, none⟩) S.q.length cvq) (i) (bq) (oq) (((t : Nat) : Int)) (w.heap.size) 4 v W' → ∀ a', puts _ _ [u0, u1, u2, u3, v, u5] = a' → K' a' W') := fun v W' hb hv a' e => hK _ a' W' e (hI.step RE20_mono hl hb hv)
                    have hWW := hbWd.trans (hbel.mono hbWd.size)
                    have y := keep hbel qc hqcl
                    have d3 : l.getD 3 false = true := by
                      simp [Region.binds] at hd
                      simp [hd]
                    obtain rfl : u3 = _ := hHas 3 (by decide) d3
                    clear hl hI hd hn hK hHas hlen d3
                    refine StepG.mk ?_
                    simp only [puts, Act.put]
                    go_simp
                    exact HK.out (.int .i64 (((t : Nat) : Int))) _ (Below.refl _ _) rfl _ (by simp [puts, Act.put])
                  refine Steps.cons rfl ?_ ?_
                  · intro l us W hl hI hd hn K' hK
                    have hHas := hI.has
                    have hbel := hI.bel
                    have hlen := hI.len
                    obtain ⟨u0, u1, u2, u3, u4, u5, rfl⟩ := list_RE20 hlen
                    have HK : Hid (∀ v W', Below W.heap.size W W' → RE20 (#[.slice aa a.al.length ca, .int .i64 n, .slice am a.ms.length cm, .slice ae a.es.length ce, .slice (some ⟨bf, offf, none⟩) (n + 1) cf]) (.slice (some ⟨bq, oq, none⟩) S.q.length cvq) (i) (bq) (oq) (((t : Nat) : Int)) (w.heap.size) 5 v W' → ∀ a', puts _ _ [u0, u1, u2, u3, u4, v] = a' → K' a' W') := fun v W' hb hv a' e => hK _ a' W' e (hI.step RE20_mono hl hb hv)
                    have hWW := hbWd.trans (hbel.mono hbWd.size)
                    have d0 : l.getD 0 false = true := by
                      simp [Region.binds] at hd
                      simp [hd]
                    have d4 : l.getD 4 false = true := by
                      simp [Region.binds] at hd
                      simp [hd]
                    obtain rfl : u0 = _ := hHas 0 (by decide) d0
                    obtain rfl : u4 = _ := hHas 4 (by decide) d4
                    clear hl hI hd hn hK hHas hlen d0 d4
                    refine StepG.mk ?_
                    simp only [puts, Act.put]
                    go_simp
                    refine (edges_any _ _ _ _ _ _ _ _ _ _ _ _ _ _ _).mono ?_
                    rintro e w9 ⟨rfl, rfl⟩
                    go_simp
                    exact HK.out _ _ ((bel_alloc _ _).trans ((bel_alloc _ _).mono (by simp))) ⟨W.heap.size, rfl, hWW.size, heap_past (by simp) (heap_at rfl), heap_at (by simp)⟩ _ (by simp [puts, Act.put])
                  exact Steps.nil (Nat.le_refl _)
                · intro us W3 hlen hbel hall
                  obtain ⟨u77, u78, u79, u80, u81, u82, rfl⟩ := list_RE20 hlen
                  obtain ⟨m, e82, hBm, hm1, hm2⟩ : ∃ m, u82 = .func (.func 84) #[] #[.pointer (some ⟨m, 0, none⟩), .pointer (some ⟨m + 1, 0, none⟩)] ∧ w.heap.size ≤ m ∧ W3.heap[m]? = some (.cells #[.slice aa a.al.length ca, .int .i64 n, .slice am a.ms.length cm, .slice ae a.es.length ce, .slice (some ⟨bf, offf, none⟩) (n + 1) cf] 80 (0, 0)) ∧ W3.heap[m + 1]? = some (.cells #[.int .i64 ((t : Nat) : Int)] 3 (0, 0)) := hall 5 (by decide)
                  subst e82
                  have hX3 := HX.out.call ((bel_drew _).trans hbel)
                  have hE3 := HEr.out.below ((bel_drew _).trans hbel)
                  have hG3 := HGr.out.below ((bel_drew _).trans hbel)
                  clear hall hlen hbel hbWd g0 g1 g2 g3 g4 q1 q2 qc HX HEr HGr
                  simp only [puts, Act.put, List.setIfInBounds_toArray, List.set_cons_succ, List.set_cons_zero]
                  have hg3 : W3.cell? ⟨m, 3, none⟩ = some (.slice ae a.es.length ce) := by simp [World.cell?, hm1]
                  have hg4 : W3.cell? ⟨m, 4, none⟩ = some (.slice (some ⟨bf, offf, none⟩) (n + 1) cf) := by simp [World.cell?, hm1]
                  have hg5 : W3.cell? ⟨m + 1, 0, none⟩ = some (.int .i64 ((t : Nat) : Int)) := by simp [World.cell?, hm2]
                  have hfc : ∀ j : Nat, j ≤ n → W3.cell? ⟨bf, offf + j, none⟩ = some (.int .i64 (fstN a.es j)) := by
                    intro j hj
                    rw [hG3.cellAt j (by omega)]
                    exact firsts_get n a.es j hj
                  have hseq := edges_stops m (m + 1) w.heap.size ae (some ⟨bf, offf, none⟩) ce (n + 1) cf (t : Int) a.es (fstN a.es t) (fstN a.es (t + 1)) (fstN_mono a.es _ _ (by omega)) (fstN_le a.es _) hae W3 hX3.below.size hg3 hg4 hg5 (by omega) (by omega) bf offf rfl (by omega)
                    (by have := hfc t (by omega); rwa [Int.toNat_natCast]) (by have := hfc (t + 1) (by omega); rwa [show ((t : Int) + 1).toNat = t + 1 by omega]) (hre.mono hX3.below) (fun h0 ad e => World.block_lt_of_cell? w ⟨ad.block, ad.off + 0, none⟩ (hre.cell ad e 0 (by rw [hre.hlen]; omega)))
                  clear hg3 hg4 hg5 hfc hm1 hm2
                  go_wp2_with fail
                  refine wp_edges_box (bg := m) (bs := m + 1) (n₀ := w.heap.size) rfl hseq (Below.refl _ _) hX3.below.size 83 15 rfl
                    (fun pre W => (∀ y ∈ pre, y ∈ a.es) ∧ ∃ tag vm ve vq, XB w #[.slice aa a.al.length ca, .int .i64 n, .slice am a.ms.length cm, .slice ae a.es.length ce, .slice (some ⟨bf, offf, none⟩) (n + 1) cf] n w3.heap.size b9 w6.heap.size w8.heap.size (w8.heap.size + 1 + 1) (.slice a3 a.al.length c3) (.slice (some ⟨b10, o10, none⟩) n c10) (.slice (some ⟨W2.heap.size, 0, none⟩) n n) (.slice (some ⟨b11, o11, none⟩) n c11) a.al inF mkF ds W tag bi i vm ve vq (pre.foldl (rsStep inF i) S) ms' ∧ Row W w.heap.size tag 8 45 3 ve (pre.foldl (rsStep inF i) S).E.length (edCells (pre.foldl (rsStep inF i) S).E) ∧ Row W w.heap.size tag 0 3 1 (.slice (some ⟨bf, offf, none⟩) (n + 1) cf) (n + 1) (ints (firsts n a.es)))
                    ?hI ⟨by simp, _, _, _, _, hX3, hE3, hG3⟩
                    (fun x Bx W => w.heap.size ≤ Bx ∧ W.heap[Bx]? = some (.cells #[.int .i64 x.f, .int .i64 x.e, .int .i64 x.t] 45 (0, 0)) ∧ ∃ (cs : Array Value) (tc : TypeId), W.heap[w3.heap.size]? = some (.cells cs tc (0, 0)) ∧ ∀ off m c, cs[3]? ≠ some (.slice (some ⟨Bx, off, none⟩) m c))
                    ?hB ?assign ?body ?done
                  case hI =>
                    intro pre W W' row h1 hg hr
                    obtain ⟨h0, tag1, vm1, ve1, vq1, h2, h3, h4⟩ := h1
                    exact ⟨h0, tag1, vm1, ve1, vq1, h2.others hg (fun D hD => hX3.marks.lt hD) hX3.below.size hr, h3.others hg (fun r e => (hr r e).2), h4.others hg (fun r e => (hr r e).2)⟩
                  case hB =>
                    intro x Bx u W W' row h1 hg hr
                    obtain ⟨h1, h2, cs, tc, h3, h4⟩ := h1
                    refine ⟨h1, (hg.block Bx (Array.getElem?_eq_some_iff.1 h2).1 (fun e => ?_)).trans h2, cs, tc, (hg.block _ (Array.getElem?_eq_some_iff.1 h3).1 (fun e => ?_)).trans h3, h4⟩
                    · obtain ⟨o, ho, hc⟩ := (hr Bx e.symm).2
                      rw [h2] at ho
                      cases ho
                      cases hc
                    · obtain ⟨o, ho, hc⟩ := (hr _ e.symm).2
                      rw [h3] at ho
                      cases ho
                      cases hc
                  case assign =>
                    intro l pre x W K hx hiW hK
                    obtain ⟨h0, tag1, vm1, ve1, vq1, h2, h3, h4⟩ := hiW
                    have hsW := h2.below.size
                    have hnv : ∀ off m c, #[Value.slice a3 a.al.length c3, Value.int .i64 0, vm1, ve1][3]? ≠ some (.slice (some ⟨W.heap.size, off, none⟩) m c) := by
                      intro off m c e
                      have e' : ve1 = .slice (some ⟨W.heap.size, off, none⟩) m c := by simpa using e
                      rcases h3.2 with ⟨h9, _⟩ | ⟨b, _, _, _, h9, h10, _⟩
                      · rw [h9] at e'; cases e'
                      · rw [h9] at e'; cases e'
                        exact absurd h10.lt (Nat.lt_irrefl _)
                    have hK2 := Lib.hid (hK W.heap.size (W.alloc (.cells #[.int .i64 x.f, .int .i64 x.e, .int .i64 x.t] 45)) ((KeepsOthers.alloc _ _).from _) ((Below.refl _ W).alloc hsW _) ⟨h0, tag1, vm1, ve1, vq1, h2.call (bel_alloc _ _), h3.below (bel_alloc _ _), h4.below (bel_alloc _ _)⟩ ⟨hsW, heap_at rfl, _, _, ((bel_alloc W _).block _ h2.ob.lt).trans h2.ob.heap, hnv⟩)
                    clear hK h2 h3 h4 hnv
                    dsimp only [Ed.val] at hK2 ⊢
                    simp only [List.setIfInBounds_toArray, List.set_cons_succ, List.set_cons_zero] at hK2 ⊢
                    gi_wp2
                    exact hK2.out
                  case body =>
                    rintro l pre ⟨xf, xe, xt⟩ Bx W hx hl0 hpl ⟨hpre, tag1, vm1, ve1, vq1, hJ, hEr, hGr⟩ ⟨hBx, hbx, cs, tc, hcs, hne⟩
                    rw [hJ.ob.heap] at hcs
                    cases hcs
                    have hne' : ∀ off m c, ve1 ≠ .slice (some ⟨Bx, off, none⟩) m c := fun off m c e => hne off m c (by rw [e]; rfl)
                    have hJ2 := hJ.retag hbx
                    have hE2 := hEr.retagNe (bx := Bx) 10 (fun off c => hne' off _ c)
                    have hG2 := hGr.retag (kx := 10) hbx (by decide)
                    have hxm := subOf_mem (s := (t : Int)) hx
                    have hxr := Hes.out _ hxm
                    dsimp only at hxr hbx
                    obtain ⟨t2, rfl⟩ := Int.eq_ofNat_of_zero_le hxr.2.2.1
                    have ht2 : t2 < n := by omega
                    have hOx : Own W w.heap.size (tagUp tag1 Bx 10) 10 Bx #[.int .i64 xf, .int .i64 xe, .int .i64 (t2 : Int)] 45 := ⟨hbx, tagUp_at _ _ _, hBx⟩
                    have Hmem : Hid (∀ y ∈ pre ++ [(⟨xf, xe, (t2 : Int)⟩ : Ed)], y ∈ a.es) := by
                      intro y hy
                      rcases List.mem_append.1 hy with h1 | h1
                      · exact hpre y h1
                      · rw [List.mem_singleton.1 h1]; exact hxm
                    have hokp := (ROk.fold (inF := inF) (i := i) pre Hok.out (fun y hy => (Hes.out y (hpre y hy)).2.2)).more (m' := 5000000000) (by have := fstN_le a.es ((t : Int) + 1); have := Hok.out.cnt; omega)
                    have Hacc : Hid ((pre ++ [(⟨xf, xe, (t2 : Int)⟩ : Ed)]).foldl (rsStep inF i) S = rsStep inF i (pre.foldl (rsStep inF i) S) ⟨xf, xe, (t2 : Int)⟩) := by
                      show _ = _
                      rw [List.foldl_append]; rfl
                    clear hJ hEr hGr hne hne' hpre
                    generalize pre.foldl (rsStep inF i) S = S1 at *
                    have hBW := hJ2.below.size
                    have hlen1 := hokp.len
                    have x2 : W.cell? ⟨Bx, 2, none⟩ = some (.int .i64 (t2 : Int)) := hOx.cell 2
                    have hBxl := hOx.lt
                    have i0 : W.cell? ⟨b9, 0, none⟩ = some (.slice (some ⟨b10, o10, none⟩) n c10) := hJ2.ib.cell 0
                    have i1 : W.cell? ⟨b10, o10 + t2, none⟩ = some (.bool (inF.getD t2 false)) := by
                      rw [hJ2.inr.cellAt t2 (by omega), List.getElem?_map, List.getElem?_eq_getElem (by omega), List.getD_eq_getElem?_getD, List.getElem?_eq_getElem (by omega)]; rfl
                    have hb10l := World.block_lt_of_cell? _ _ i1
                    dsimp only at hb10l
                    have ht2I : (t2 : Int) < (n : Int) := by omega
                    have HJ := Lib.hid hJ2
                    have HE3 := Lib.hid hE2
                    have HG3 := Lib.hid hG2
                    have Hokp := Lib.hid hokp
                    clear hJ2 hE2 hG2 hokp hx
                    dsimp only [Ed.val]
                    simp only [List.setIfInBounds_toArray, List.set_cons_succ, List.set_cons_zero]
                    cases hit : inF.getD t2 false with
                    | false =>
                      rw [hit] at i1
                      have hst : rsStep inF i S1 ⟨xf, xe, (t2 : Int)⟩ = S1 := rsStep_out (by show inF.getD (t2 : Int).toNat false = false; rw [Int.toNat_natCast]; exact hit)
                      have Hst := Lib.hid hst
                      clear hst hit
                      gi_wp2_with fail
                      refine ⟨KeepsFrom.refl _ _, Below.refl _ _, Hmem.out, tagUp tag1 Bx 10, vm1, ve1, vq1, ?_⟩
                      rw [Hacc.out, Hst.out]
                      exact ⟨HJ.out, HE3.out, HG3.out⟩
                    | true =>
                      rw [hit] at i1
                      have n0 : W.cell? ⟨w6.heap.size, 0, none⟩ = some (.slice (some ⟨W2.heap.size, 0, none⟩) n n) := HJ.out.nb.cell 0
                      have hn0l := HJ.out.nb.lt
                      have n1 : W.cell? ⟨W2.heap.size, t2, none⟩ = some (.int .i64 (S1.num.getD t2 0)) := by
                        have h := HJ.out.nr.cellAt t2 (by omega)
                        rw [Nat.zero_add, List.getElem?_map, List.getElem?_eq_getElem (by omega)] at h
                        rw [h, List.getD_eq_getElem?_getD, List.getElem?_eq_getElem (by omega)]; rfl
                      have hn1l := World.block_lt_of_cell? _ _ n1
                      dsimp only at hn1l
                      have hinT : inF.getD (⟨xf, xe, (t2 : Int)⟩ : Ed).t.toNat false = true := by show inF.getD (t2 : Int).toNat false = true; rw [Int.toNat_natCast]; exact hit
                      have HinT := Lib.hid hinT
                      clear hit hinT
                      by_cases hz : S1.num.getD t2 0 = 0
                      · have Hz := Lib.hid hz
                        rw [hz] at n1
                        clear hz
                        have qb0 : W.cell? ⟨w8.heap.size + 1 + 1, 0, none⟩ = some vq1 := HJ.out.qb.cell 0
                        have hqb0 := HJ.out.qb.lt
                        obtain ⟨avq1, cvq1, rfl⟩ := HJ.out.qr.val
                        have hcn1 := Hokp.out.cnt
                        have hJ6 := Lib.hid (HJ.out.up (.cells #[.int .i64 (t2 : Int)] 3) 9)
                        have hE6 := Lib.hid (HE3.out.up (.cells #[.int .i64 (t2 : Int)] 3) 9)
                        have hG6 := Lib.hid (HG3.out.up (.cells #[.int .i64 (t2 : Int)] 3) 9)
                        have hO6 := Lib.hid (hOx.upR (.cells #[.int .i64 (t2 : Int)] 3) 9)
                        obtain ⟨j0, hi1, hw0, hw1, hw2⟩ := info_parts Try.info_int
                        gi_wp2_with (gi_at_builtin; (refine wpListIn_append_row rfl _ _ 28 rfl 3 j0 (.int .i64 0) 8 Try.underlying28 hi1 hw0 hw1 hw2 rfl rfl hJ6.out.qr (some ⟨_, 0, none⟩) 1 1 [.int .i64 (t2 : Int)] rfl rfl (by simp) (fun ad e => by cases e; exact new_cells_at _ _ (by simp)) (by simp [Value.oneCell']) (by unfold maxLen; omega) (by omega) (by simp; omega) ?_); intro v16 w16 tag16 hr16 ht16; have HP16 := Lib.hid (hJ6.out.push hr16 ht16); have s16 := hJ6.out.qb.turn ht16 (by decide); have T16 := Turn.setCell s16 0 v16; have hE16 := Lib.hid ((hE6.out.turn ht16 (by decide)).turn T16 (by decide)); have hG16 := Lib.hid ((hG6.out.turn ht16 (by decide)).turn T16 (by decide)); have hO16 := Lib.hid ((hO6.out.turn ht16 (by decide)).turn T16 (by decide)); have HT16 := Lib.hid (And.intro ht16 T16); obtain ⟨a16, c16, rfl⟩ := hr16.val; have z0 := s16.cell 0; have z1 := s16.frozen 0; simp at z0; have y0 := HP16.out.nb.cell 0; have y1 := HP16.out.qb.cell 0; have y2 := hO16.out.cell 2; have y3 := HP16.out.nr.cellAt t2 (by omega); have y4 := HP16.out.nr.frozenAt t2; dsimp only at y3; rw [Nat.zero_add, List.getElem?_map, List.getElem?_eq_getElem (by omega)] at y3; simp at y0 y1 y2; clear hr16 ht16 s16 T16)
                        have hn17 := HP16.out.setNum t2 ((S1.q.length : Int) + 1)
                        rw [Nat.zero_add] at hn17
                        have T17 := hn17.2
                        have HP17 := Lib.hid hn17.1
                        have HE17 := Lib.hid (hE16.out.turn T17 (by decide))
                        have HG17 := Lib.hid (hG16.out.turn T17 (by decide))
                        have HO17 := Lib.hid (hO16.out.turn T17 (by decide))
                        have hsz16 := HP16.out.below.size
                        have HK17 : Hid (∀ m, KeepsFrom m W _) := fun m => (keepsBelow (bel_alloc W (.cells #[.int .i64 (t2 : Int)] 3))).trans ((keepsTurn HT16.out.1).trans ((keepsTurn HT16.out.2).trans (keepsTurn T17)))
                        have HB17 : Hid (Below w.heap.size W _) := belTurn (belTurn (belTurn ((Below.refl _ W).alloc hBW _) HT16.out.1 (by simp; omega)) HT16.out.2 (by have := HT16.out.1.size; simp at this; omega)) T17 hsz16
                        have hst : rsStep inF i S1 ⟨xf, xe, (t2 : Int)⟩ = ⟨S1.num.set t2 ((S1.q.length : Int) + 1), S1.q ++ [(t2 : Int)], S1.E ++ [⟨i, xe, (S1.q.length : Int) + 1 - 1⟩]⟩ := by
                          rw [show (S1.q.length : Int) + 1 - 1 = S1.q.length by omega]
                          exact rsStep_new (i := i) HinT.out (by show S1.num.getD (t2 : Int).toNat 0 = 0; rw [Int.toNat_natCast]; exact Hz.out) (by show (t2 : Int).toNat < _; rw [Int.toNat_natCast]; omega)
                        have hnvb : 0 ≤ (S1.q.length : Int) + 1 ∧ (S1.q.length : Int) + 1 ≤ (n : Int) + 1 := by omega
                        have HXB := Lib.hid hn17.1
                        clear hn17 T17 HP17 HP16 hE16 hG16 hO16 HT16 z0 z1 y0 y1 y2 y3 y4 HJ hJ6 hE6 hG6 hO6 HE3 HG3 hOx x2 i0 i1 n0 n1 qb0
                        generalize World.setCell (World.setCell w16 _ _) _ _ = V at *
                        obtain ⟨S2, hS2n, hS2q, hS2E, HP17⟩ : ∃ S2 : RSt, S2.num = S1.num.set t2 ((S1.q.length : Int) + 1) ∧ S2.q = S1.q ++ [(t2 : Int)] ∧ S2.E = S1.E ∧ Hid (XB w #[.slice aa a.al.length ca, .int .i64 n, .slice am a.ms.length cm, .slice ae a.es.length ce, .slice (some ⟨bf, offf, none⟩) (n + 1) cf] n w3.heap.size b9 w6.heap.size w8.heap.size (w8.heap.size + 1 + 1) (.slice a3 a.al.length c3) (.slice (some ⟨b10, o10, none⟩) n c10) (.slice (some ⟨W2.heap.size, 0, none⟩) n n) (.slice (some ⟨b11, o11, none⟩) n c11) a.al inF mkF ds V tag16 bi i vm1 ve1 (.slice a16 (S1.q.length + 1) c16) S2 ms') := ⟨⟨S1.num.set t2 ((S1.q.length : Int) + 1), S1.q ++ [(t2 : Int)], S1.E⟩, rfl, rfl, rfl, HXB⟩
                        clear HXB
                        have HNV : Hid (S2.num.getD t2 0 = (S1.q.length : Int) + 1) := by show _ = _; rw [hS2n, List.getD_eq_getElem?_getD, List.getElem?_set_self (by omega)]; rfl
                        have hlen2 : S2.num.length = n := by rw [hS2n, List.length_set]; exact hlen1
                        rw [← hS2n, ← hS2q] at hst
                        have Hst := Lib.hid hst
                        have hEl := Hokp.out.el
                        clear hst hS2n hS2q hS2E
                        generalize hnv : (S1.q.length : Int) + 1 = nv at *
                        have Hnv := Lib.hid hnv
                        clear hnv
                        obtain ⟨ave, cve, rfl⟩ := HE17.out.val
                        have HX26 : Hid (PhiX w #[.slice aa a.al.length ca, .int .i64 n, .slice am a.ms.length cm, .slice ae a.es.length ce, .slice (some ⟨bf, offf, none⟩) (n + 1) cf] n w3.heap.size b9 w6.heap.size w8.heap.size (w8.heap.size + 1 + 1) (.slice a3 a.al.length c3) (.slice (some ⟨b10, o10, none⟩) n c10) (.slice (some ⟨W2.heap.size, 0, none⟩) n n) (.slice (some ⟨b11, o11, none⟩) n c11) a.al inF mkF ds bi i vm1 (.slice a16 (S1.q.length + 1) c16) S2 ms' Bx xf xe (t2 : Int) V (.slice (some ⟨bf, offf, none⟩) (n + 1) cf) (n + 1) (ints (firsts n a.es)) (.slice ave S1.E.length cve) tag16 V) := ⟨HP17.out, HO17.out, Below.refl _ _, fun m => KeepsFrom.refl _ _, HG17.out⟩
                        have HE26 := HE17
                        obtain ⟨j1, hj1, hj2, hj3, hj4⟩ := info_parts Try.info_edge
                        generalize hE26 : S1.E = E26 at *
                        refine wpIn_region_inv (fun l us WW => ∃ tag, RX (PhiX w #[.slice aa a.al.length ca, .int .i64 n, .slice am a.ms.length cm, .slice ae a.es.length ce, .slice (some ⟨bf, offf, none⟩) (n + 1) cf] n w3.heap.size b9 w6.heap.size w8.heap.size (w8.heap.size + 1 + 1) (.slice a3 a.al.length c3) (.slice (some ⟨b10, o10, none⟩) n c10) (.slice (some ⟨W2.heap.size, 0, none⟩) n n) (.slice (some ⟨b11, o11, none⟩) n c11) a.al inF mkF ds bi i vm1 (.slice a16 (S1.q.length + 1) c16) S2 ms' Bx xf xe (t2 : Int) V (.slice (some ⟨bf, offf, none⟩) (n + 1) cf) (n + 1) (ints (firsts n a.es))) (PR26 w3.heap.size Bx W2.heap.size t2 n i xe (t2 : Int) nv (.slice ave E26.length cve)) w.heap.size E26 ⟨i, xe, nv - 1⟩ (.slice ave E26.length cve) l us tag WW) [107, 108, 109, 110, 111, 112, 113, 114, 115, 116, 117, 118, 119, 120, 121] (by kernel_rfl) (by kernel_rfl) ⟨_, RX.start rfl HX26.out.1.below.size ⟨HX26.out.1.call (bel_drew _), HX26.out.2.1.below (bel_drew _), HX26.out.2.2.1.drew, fun m => (HX26.out.2.2.2.1 m).trans (keepsBelow (bel_drew _)), HX26.out.2.2.2.2.below (bel_drew _)⟩ (HE26.out.below (bel_drew _))⟩ ?_ ?_
                        · skip
                          refine StepsIn.cons rfl ?_ ?_
                          · intro l us W4 hl hI hd hn K' hK
                            obtain ⟨tg4, hI⟩ := hI
                            have hlen := hI.len
                            obtain ⟨u0, u1, u2, u3, u4, u5, u6, u7, u8, u9, u10, u11, u12, u13, u14, rfl⟩ := list15 hlen
                            have HK : Hid (∀ v W' tag', RX (PhiX w #[.slice aa a.al.length ca, .int .i64 n, .slice am a.ms.length cm, .slice ae a.es.length ce, .slice (some ⟨bf, offf, none⟩) (n + 1) cf] n w3.heap.size b9 w6.heap.size w8.heap.size (w8.heap.size + 1 + 1) (.slice a3 a.al.length c3) (.slice (some ⟨b10, o10, none⟩) n c10) (.slice (some ⟨W2.heap.size, 0, none⟩) n n) (.slice (some ⟨b11, o11, none⟩) n c11) a.al inF mkF ds bi i vm1 (.slice a16 (S1.q.length + 1) c16) S2 ms' Bx xf xe (t2 : Int) V (.slice (some ⟨bf, offf, none⟩) (n + 1) cf) (n + 1) (ints (firsts n a.es))) (PR26 w3.heap.size Bx W2.heap.size t2 n i xe (t2 : Int) nv (.slice ave E26.length cve)) w.heap.size E26 ⟨i, xe, nv - 1⟩ (.slice ave E26.length cve) (l.setIfInBounds 0 true) ([u0, u1, u2, u3, u4, u5, u6, u7, u8, u9, u10, u11, u12, u13, u14].set 0 v) tag' W' → ∀ a', puts _ _ [v, u1, u2, u3, u4, u5, u6, u7, u8, u9, u10, u11, u12, u13, u14] = a' → K' a' W') := fun v W' tag' h a' e => hK _ a' W' e ⟨tag', h⟩
                            have HS := Lib.hid (hI.pureStep (v := .pointer (some ⟨w3.heap.size, 3, none⟩)) hl (by decide) rfl)
                            clear hK hl hI hlen hd hn
                            refine StepGIn.mk ?_
                            simp only [puts, Act.put]
                            go_simp
                            exact HK.out _ _ _ HS.out _ (by simp [puts, Act.put])
                          refine StepsIn.cons rfl ?_ ?_
                          · intro l us W4 hl hI hd hn K' hK
                            obtain ⟨tg4, hI⟩ := hI
                            have hlen := hI.len
                            obtain ⟨u0, u1, u2, u3, u4, u5, u6, u7, u8, u9, u10, u11, u12, u13, u14, rfl⟩ := list15 hlen
                            have HK : Hid (∀ v W' tag', RX (PhiX w #[.slice aa a.al.length ca, .int .i64 n, .slice am a.ms.length cm, .slice ae a.es.length ce, .slice (some ⟨bf, offf, none⟩) (n + 1) cf] n w3.heap.size b9 w6.heap.size w8.heap.size (w8.heap.size + 1 + 1) (.slice a3 a.al.length c3) (.slice (some ⟨b10, o10, none⟩) n c10) (.slice (some ⟨W2.heap.size, 0, none⟩) n n) (.slice (some ⟨b11, o11, none⟩) n c11) a.al inF mkF ds bi i vm1 (.slice a16 (S1.q.length + 1) c16) S2 ms' Bx xf xe (t2 : Int) V (.slice (some ⟨bf, offf, none⟩) (n + 1) cf) (n + 1) (ints (firsts n a.es))) (PR26 w3.heap.size Bx W2.heap.size t2 n i xe (t2 : Int) nv (.slice ave E26.length cve)) w.heap.size E26 ⟨i, xe, nv - 1⟩ (.slice ave E26.length cve) (l.setIfInBounds 1 true) ([u0, u1, u2, u3, u4, u5, u6, u7, u8, u9, u10, u11, u12, u13, u14].set 1 v) tag' W' → ∀ a', puts _ _ [u0, v, u2, u3, u4, u5, u6, u7, u8, u9, u10, u11, u12, u13, u14] = a' → K' a' W') := fun v W' tag' h a' e => hK _ a' W' e ⟨tag', h⟩
                            have d0 : l.getD 0 false = true := by
                              simp [Region.binds] at hd
                              simp [hd]
                            obtain rfl : u0 = _ := hI.pure 0 (by decide) d0
                            have HS := Lib.hid (hI.pureStep (v := .slice ave E26.length cve) hl (by decide) rfl)
                            have h15 : l.getD 15 false = false := by
                              cases h : l.getD 15 false with
                              | false => rfl
                              | true => rw [(hI.o13 (hI.o15 h)).2] at hn; cases hn
                            have hp := hI.phi
                            rw [h15] at hp
                            have y0 : W4.cell? ⟨w3.heap.size, 3, none⟩ = some (.slice ave E26.length cve) := hp.1.ob.cell 3
                            clear h15 hp
                            clear hK hl hI hlen hd hn d0
                            refine StepGIn.mk ?_
                            simp only [puts, Act.put]
                            go_simp
                            exact HK.out _ _ _ HS.out _ (by simp [puts, Act.put])
                          refine StepsIn.cons rfl ?_ ?_
                          · intro l us W4 hl hI hd hn K' hK
                            obtain ⟨tg4, hI⟩ := hI
                            have hlen := hI.len
                            obtain ⟨u0, u1, u2, u3, u4, u5, u6, u7, u8, u9, u10, u11, u12, u13, u14, rfl⟩ := list15 hlen
                            have HK : Hid (∀ v W' tag', RX (PhiX w #[.slice aa a.al.length ca, .int .i64 n, .slice am a.ms.length cm, .slice ae a.es.length ce, .slice (some ⟨bf, offf, none⟩) (n + 1) cf] n w3.heap.size b9 w6.heap.size w8.heap.size (w8.heap.size + 1 + 1) (.slice a3 a.al.length c3) (.slice (some ⟨b10, o10, none⟩) n c10) (.slice (some ⟨W2.heap.size, 0, none⟩) n n) (.slice (some ⟨b11, o11, none⟩) n c11) a.al inF mkF ds bi i vm1 (.slice a16 (S1.q.length + 1) c16) S2 ms' Bx xf xe (t2 : Int) V (.slice (some ⟨bf, offf, none⟩) (n + 1) cf) (n + 1) (ints (firsts n a.es))) (PR26 w3.heap.size Bx W2.heap.size t2 n i xe (t2 : Int) nv (.slice ave E26.length cve)) w.heap.size E26 ⟨i, xe, nv - 1⟩ (.slice ave E26.length cve) (l.setIfInBounds 2 true) ([u0, u1, u2, u3, u4, u5, u6, u7, u8, u9, u10, u11, u12, u13, u14].set 2 v) tag' W' → ∀ a', puts _ _ [u0, u1, v, u3, u4, u5, u6, u7, u8, u9, u10, u11, u12, u13, u14] = a' → K' a' W') := fun v W' tag' h a' e => hK _ a' W' e ⟨tag', h⟩
                            have HS := Lib.hid (hI.pureStep (v := .int .i64 (i : Int)) hl (by decide) rfl)
                            have y0 : W4.cell? ⟨bi, 0, none⟩ = some (.int .i64 (i : Int)) := hI.phi.1.io.cell 0
                            clear hK hl hI hlen hd hn
                            refine StepGIn.mk ?_
                            simp only [puts, Act.put]
                            go_simp
                            exact HK.out _ _ _ HS.out _ (by simp [puts, Act.put])
                          refine StepsIn.cons rfl ?_ ?_
                          · intro l us W4 hl hI hd hn K' hK
                            obtain ⟨tg4, hI⟩ := hI
                            have hlen := hI.len
                            obtain ⟨u0, u1, u2, u3, u4, u5, u6, u7, u8, u9, u10, u11, u12, u13, u14, rfl⟩ := list15 hlen
                            have HK : Hid (∀ v W' tag', RX (PhiX w #[.slice aa a.al.length ca, .int .i64 n, .slice am a.ms.length cm, .slice ae a.es.length ce, .slice (some ⟨bf, offf, none⟩) (n + 1) cf] n w3.heap.size b9 w6.heap.size w8.heap.size (w8.heap.size + 1 + 1) (.slice a3 a.al.length c3) (.slice (some ⟨b10, o10, none⟩) n c10) (.slice (some ⟨W2.heap.size, 0, none⟩) n n) (.slice (some ⟨b11, o11, none⟩) n c11) a.al inF mkF ds bi i vm1 (.slice a16 (S1.q.length + 1) c16) S2 ms' Bx xf xe (t2 : Int) V (.slice (some ⟨bf, offf, none⟩) (n + 1) cf) (n + 1) (ints (firsts n a.es))) (PR26 w3.heap.size Bx W2.heap.size t2 n i xe (t2 : Int) nv (.slice ave E26.length cve)) w.heap.size E26 ⟨i, xe, nv - 1⟩ (.slice ave E26.length cve) (l.setIfInBounds 3 true) ([u0, u1, u2, u3, u4, u5, u6, u7, u8, u9, u10, u11, u12, u13, u14].set 3 v) tag' W' → ∀ a', puts _ _ [u0, u1, u2, v, u4, u5, u6, u7, u8, u9, u10, u11, u12, u13, u14] = a' → K' a' W') := fun v W' tag' h a' e => hK _ a' W' e ⟨tag', h⟩
                            have HS := Lib.hid (hI.pureStep (v := .pointer (some ⟨Bx, 1, none⟩)) hl (by decide) rfl)
                            clear hK hl hI hlen hd hn
                            refine StepGIn.mk ?_
                            simp only [puts, Act.put]
                            go_simp
                            exact HK.out _ _ _ HS.out _ (by simp [puts, Act.put])
                          refine StepsIn.cons rfl ?_ ?_
                          · intro l us W4 hl hI hd hn K' hK
                            obtain ⟨tg4, hI⟩ := hI
                            have hlen := hI.len
                            obtain ⟨u0, u1, u2, u3, u4, u5, u6, u7, u8, u9, u10, u11, u12, u13, u14, rfl⟩ := list15 hlen
                            have HK : Hid (∀ v W' tag', RX (PhiX w #[.slice aa a.al.length ca, .int .i64 n, .slice am a.ms.length cm, .slice ae a.es.length ce, .slice (some ⟨bf, offf, none⟩) (n + 1) cf] n w3.heap.size b9 w6.heap.size w8.heap.size (w8.heap.size + 1 + 1) (.slice a3 a.al.length c3) (.slice (some ⟨b10, o10, none⟩) n c10) (.slice (some ⟨W2.heap.size, 0, none⟩) n n) (.slice (some ⟨b11, o11, none⟩) n c11) a.al inF mkF ds bi i vm1 (.slice a16 (S1.q.length + 1) c16) S2 ms' Bx xf xe (t2 : Int) V (.slice (some ⟨bf, offf, none⟩) (n + 1) cf) (n + 1) (ints (firsts n a.es))) (PR26 w3.heap.size Bx W2.heap.size t2 n i xe (t2 : Int) nv (.slice ave E26.length cve)) w.heap.size E26 ⟨i, xe, nv - 1⟩ (.slice ave E26.length cve) (l.setIfInBounds 4 true) ([u0, u1, u2, u3, u4, u5, u6, u7, u8, u9, u10, u11, u12, u13, u14].set 4 v) tag' W' → ∀ a', puts _ _ [u0, u1, u2, u3, v, u5, u6, u7, u8, u9, u10, u11, u12, u13, u14] = a' → K' a' W') := fun v W' tag' h a' e => hK _ a' W' e ⟨tag', h⟩
                            have d3 : l.getD 3 false = true := by
                              simp [Region.binds] at hd
                              simp [hd]
                            obtain rfl : u3 = _ := hI.pure 3 (by decide) d3
                            have HS := Lib.hid (hI.pureStep (v := .int .i64 xe) hl (by decide) rfl)
                            have y0 : W4.cell? ⟨Bx, 1, none⟩ = some (.int .i64 xe) := hI.phi.2.1.cell 1
                            clear hK hl hI hlen hd hn d3
                            refine StepGIn.mk ?_
                            simp only [puts, Act.put]
                            go_simp
                            exact HK.out _ _ _ HS.out _ (by simp [puts, Act.put])
                          refine StepsIn.cons rfl ?_ ?_
                          · intro l us W4 hl hI hd hn K' hK
                            obtain ⟨tg4, hI⟩ := hI
                            have hlen := hI.len
                            obtain ⟨u0, u1, u2, u3, u4, u5, u6, u7, u8, u9, u10, u11, u12, u13, u14, rfl⟩ := list15 hlen
                            have HK : Hid (∀ v W' tag', RX (PhiX w #[.slice aa a.al.length ca, .int .i64 n, .slice am a.ms.length cm, .slice ae a.es.length ce, .slice (some ⟨bf, offf, none⟩) (n + 1) cf] n w3.heap.size b9 w6.heap.size w8.heap.size (w8.heap.size + 1 + 1) (.slice a3 a.al.length c3) (.slice (some ⟨b10, o10, none⟩) n c10) (.slice (some ⟨W2.heap.size, 0, none⟩) n n) (.slice (some ⟨b11, o11, none⟩) n c11) a.al inF mkF ds bi i vm1 (.slice a16 (S1.q.length + 1) c16) S2 ms' Bx xf xe (t2 : Int) V (.slice (some ⟨bf, offf, none⟩) (n + 1) cf) (n + 1) (ints (firsts n a.es))) (PR26 w3.heap.size Bx W2.heap.size t2 n i xe (t2 : Int) nv (.slice ave E26.length cve)) w.heap.size E26 ⟨i, xe, nv - 1⟩ (.slice ave E26.length cve) (l.setIfInBounds 5 true) ([u0, u1, u2, u3, u4, u5, u6, u7, u8, u9, u10, u11, u12, u13, u14].set 5 v) tag' W' → ∀ a', puts _ _ [u0, u1, u2, u3, u4, v, u6, u7, u8, u9, u10, u11, u12, u13, u14] = a' → K' a' W') := fun v W' tag' h a' e => hK _ a' W' e ⟨tag', h⟩
                            have HS := Lib.hid (hI.pureStep (v := .slice (some ⟨W2.heap.size, 0, none⟩) n n) hl (by decide) rfl)
                            have y0 : W4.cell? ⟨w6.heap.size, 0, none⟩ = some (.slice (some ⟨W2.heap.size, 0, none⟩) n n) := hI.phi.1.nb.cell 0
                            clear hK hl hI hlen hd hn
                            refine StepGIn.mk ?_
                            simp only [puts, Act.put]
                            go_simp
                            exact HK.out _ _ _ HS.out _ (by simp [puts, Act.put])
                          refine StepsIn.cons rfl ?_ ?_
                          · intro l us W4 hl hI hd hn K' hK
                            obtain ⟨tg4, hI⟩ := hI
                            have hlen := hI.len
                            obtain ⟨u0, u1, u2, u3, u4, u5, u6, u7, u8, u9, u10, u11, u12, u13, u14, rfl⟩ := list15 hlen
                            have HK : Hid (∀ v W' tag', RX (PhiX w #[.slice aa a.al.length ca, .int .i64 n, .slice am a.ms.length cm, .slice ae a.es.length ce, .slice (some ⟨bf, offf, none⟩) (n + 1) cf] n w3.heap.size b9 w6.heap.size w8.heap.size (w8.heap.size + 1 + 1) (.slice a3 a.al.length c3) (.slice (some ⟨b10, o10, none⟩) n c10) (.slice (some ⟨W2.heap.size, 0, none⟩) n n) (.slice (some ⟨b11, o11, none⟩) n c11) a.al inF mkF ds bi i vm1 (.slice a16 (S1.q.length + 1) c16) S2 ms' Bx xf xe (t2 : Int) V (.slice (some ⟨bf, offf, none⟩) (n + 1) cf) (n + 1) (ints (firsts n a.es))) (PR26 w3.heap.size Bx W2.heap.size t2 n i xe (t2 : Int) nv (.slice ave E26.length cve)) w.heap.size E26 ⟨i, xe, nv - 1⟩ (.slice ave E26.length cve) (l.setIfInBounds 6 true) ([u0, u1, u2, u3, u4, u5, u6, u7, u8, u9, u10, u11, u12, u13, u14].set 6 v) tag' W' → ∀ a', puts _ _ [u0, u1, u2, u3, u4, u5, v, u7, u8, u9, u10, u11, u12, u13, u14] = a' → K' a' W') := fun v W' tag' h a' e => hK _ a' W' e ⟨tag', h⟩
                            have HS := Lib.hid (hI.pureStep (v := .pointer (some ⟨Bx, 2, none⟩)) hl (by decide) rfl)
                            clear hK hl hI hlen hd hn
                            refine StepGIn.mk ?_
                            simp only [puts, Act.put]
                            go_simp
                            exact HK.out _ _ _ HS.out _ (by simp [puts, Act.put])
                          refine StepsIn.cons rfl ?_ ?_
                          · intro l us W4 hl hI hd hn K' hK
                            obtain ⟨tg4, hI⟩ := hI
                            have hlen := hI.len
                            obtain ⟨u0, u1, u2, u3, u4, u5, u6, u7, u8, u9, u10, u11, u12, u13, u14, rfl⟩ := list15 hlen
                            have HK : Hid (∀ v W' tag', RX (PhiX w #[.slice aa a.al.length ca, .int .i64 n, .slice am a.ms.length cm, .slice ae a.es.length ce, .slice (some ⟨bf, offf, none⟩) (n + 1) cf] n w3.heap.size b9 w6.heap.size w8.heap.size (w8.heap.size + 1 + 1) (.slice a3 a.al.length c3) (.slice (some ⟨b10, o10, none⟩) n c10) (.slice (some ⟨W2.heap.size, 0, none⟩) n n) (.slice (some ⟨b11, o11, none⟩) n c11) a.al inF mkF ds bi i vm1 (.slice a16 (S1.q.length + 1) c16) S2 ms' Bx xf xe (t2 : Int) V (.slice (some ⟨bf, offf, none⟩) (n + 1) cf) (n + 1) (ints (firsts n a.es))) (PR26 w3.heap.size Bx W2.heap.size t2 n i xe (t2 : Int) nv (.slice ave E26.length cve)) w.heap.size E26 ⟨i, xe, nv - 1⟩ (.slice ave E26.length cve) (l.setIfInBounds 7 true) ([u0, u1, u2, u3, u4, u5, u6, u7, u8, u9, u10, u11, u12, u13, u14].set 7 v) tag' W' → ∀ a', puts _ _ [u0, u1, u2, u3, u4, u5, u6, v, u8, u9, u10, u11, u12, u13, u14] = a' → K' a' W') := fun v W' tag' h a' e => hK _ a' W' e ⟨tag', h⟩
                            have d6 : l.getD 6 false = true := by
                              simp [Region.binds] at hd
                              simp [hd]
                            obtain rfl : u6 = _ := hI.pure 6 (by decide) d6
                            have HS := Lib.hid (hI.pureStep (v := .int .i64 (t2 : Int)) hl (by decide) rfl)
                            have y0 : W4.cell? ⟨Bx, 2, none⟩ = some (.int .i64 (t2 : Int)) := hI.phi.2.1.cell 2
                            clear hK hl hI hlen hd hn d6
                            refine StepGIn.mk ?_
                            simp only [puts, Act.put]
                            go_simp
                            exact HK.out _ _ _ HS.out _ (by simp [puts, Act.put])
                          refine StepsIn.cons rfl ?_ ?_
                          · intro l us W4 hl hI hd hn K' hK
                            obtain ⟨tg4, hI⟩ := hI
                            have hlen := hI.len
                            obtain ⟨u0, u1, u2, u3, u4, u5, u6, u7, u8, u9, u10, u11, u12, u13, u14, rfl⟩ := list15 hlen
                            have HK : Hid (∀ v W' tag', RX (PhiX w #[.slice aa a.al.length ca, .int .i64 n, .slice am a.ms.length cm, .slice ae a.es.length ce, .slice (some ⟨bf, offf, none⟩) (n + 1) cf] n w3.heap.size b9 w6.heap.size w8.heap.size (w8.heap.size + 1 + 1) (.slice a3 a.al.length c3) (.slice (some ⟨b10, o10, none⟩) n c10) (.slice (some ⟨W2.heap.size, 0, none⟩) n n) (.slice (some ⟨b11, o11, none⟩) n c11) a.al inF mkF ds bi i vm1 (.slice a16 (S1.q.length + 1) c16) S2 ms' Bx xf xe (t2 : Int) V (.slice (some ⟨bf, offf, none⟩) (n + 1) cf) (n + 1) (ints (firsts n a.es))) (PR26 w3.heap.size Bx W2.heap.size t2 n i xe (t2 : Int) nv (.slice ave E26.length cve)) w.heap.size E26 ⟨i, xe, nv - 1⟩ (.slice ave E26.length cve) (l.setIfInBounds 8 true) ([u0, u1, u2, u3, u4, u5, u6, u7, u8, u9, u10, u11, u12, u13, u14].set 8 v) tag' W' → ∀ a', puts _ _ [u0, u1, u2, u3, u4, u5, u6, u7, v, u9, u10, u11, u12, u13, u14] = a' → K' a' W') := fun v W' tag' h a' e => hK _ a' W' e ⟨tag', h⟩
                            have d5 : l.getD 5 false = true := by
                              simp [Region.binds] at hd
                              simp [hd]
                            have d7 : l.getD 7 false = true := by
                              simp [Region.binds] at hd
                              simp [hd]
                            obtain rfl : u5 = _ := hI.pure 5 (by decide) d5
                            obtain rfl : u7 = _ := hI.pure 7 (by decide) d7
                            have HS := Lib.hid (hI.pureStep (v := .pointer (some ⟨W2.heap.size, t2, none⟩)) hl (by decide) rfl)
                            clear hK hl hI hlen hd hn d5 d7
                            refine StepGIn.mk ?_
                            simp only [puts, Act.put]
                            go_simp
                            exact HK.out _ _ _ HS.out _ (by simp [puts, Act.put])
                          refine StepsIn.cons rfl ?_ ?_
                          · intro l us W4 hl hI hd hn K' hK
                            obtain ⟨tg4, hI⟩ := hI
                            have hlen := hI.len
                            obtain ⟨u0, u1, u2, u3, u4, u5, u6, u7, u8, u9, u10, u11, u12, u13, u14, rfl⟩ := list15 hlen
                            have HK : Hid (∀ v W' tag', RX (PhiX w #[.slice aa a.al.length ca, .int .i64 n, .slice am a.ms.length cm, .slice ae a.es.length ce, .slice (some ⟨bf, offf, none⟩) (n + 1) cf] n w3.heap.size b9 w6.heap.size w8.heap.size (w8.heap.size + 1 + 1) (.slice a3 a.al.length c3) (.slice (some ⟨b10, o10, none⟩) n c10) (.slice (some ⟨W2.heap.size, 0, none⟩) n n) (.slice (some ⟨b11, o11, none⟩) n c11) a.al inF mkF ds bi i vm1 (.slice a16 (S1.q.length + 1) c16) S2 ms' Bx xf xe (t2 : Int) V (.slice (some ⟨bf, offf, none⟩) (n + 1) cf) (n + 1) (ints (firsts n a.es))) (PR26 w3.heap.size Bx W2.heap.size t2 n i xe (t2 : Int) nv (.slice ave E26.length cve)) w.heap.size E26 ⟨i, xe, nv - 1⟩ (.slice ave E26.length cve) (l.setIfInBounds 9 true) ([u0, u1, u2, u3, u4, u5, u6, u7, u8, u9, u10, u11, u12, u13, u14].set 9 v) tag' W' → ∀ a', puts _ _ [u0, u1, u2, u3, u4, u5, u6, u7, u8, v, u10, u11, u12, u13, u14] = a' → K' a' W') := fun v W' tag' h a' e => hK _ a' W' e ⟨tag', h⟩
                            have d8 : l.getD 8 false = true := by
                              simp [Region.binds] at hd
                              simp [hd]
                            obtain rfl : u8 = _ := hI.pure 8 (by decide) d8
                            have HS := Lib.hid (hI.pureStep (v := .int .i64 nv) hl (by decide) rfl)
                            have y0 : W4.cell? ⟨W2.heap.size, t2, none⟩ = some (.int .i64 nv) := by
                              have h := hI.phi.1.nr.cellAt t2 (by omega)
                              rw [Nat.zero_add] at h
                              rw [h, ← HNV.out, List.getElem?_map, List.getElem?_eq_getElem (by omega), List.getD_eq_getElem?_getD, List.getElem?_eq_getElem (by omega)]; rfl
                            clear hK hl hI hlen hd hn d8
                            refine StepGIn.mk ?_
                            simp only [puts, Act.put]
                            go_simp
                            exact HK.out _ _ _ HS.out _ (by simp [puts, Act.put])
                          refine StepsIn.cons rfl ?_ ?_
                          · intro l us W4 hl hI hd hn K' hK
                            obtain ⟨tg4, hI⟩ := hI
                            have hlen := hI.len
                            obtain ⟨u0, u1, u2, u3, u4, u5, u6, u7, u8, u9, u10, u11, u12, u13, u14, rfl⟩ := list15 hlen
                            have HK : Hid (∀ v W' tag', RX (PhiX w #[.slice aa a.al.length ca, .int .i64 n, .slice am a.ms.length cm, .slice ae a.es.length ce, .slice (some ⟨bf, offf, none⟩) (n + 1) cf] n w3.heap.size b9 w6.heap.size w8.heap.size (w8.heap.size + 1 + 1) (.slice a3 a.al.length c3) (.slice (some ⟨b10, o10, none⟩) n c10) (.slice (some ⟨W2.heap.size, 0, none⟩) n n) (.slice (some ⟨b11, o11, none⟩) n c11) a.al inF mkF ds bi i vm1 (.slice a16 (S1.q.length + 1) c16) S2 ms' Bx xf xe (t2 : Int) V (.slice (some ⟨bf, offf, none⟩) (n + 1) cf) (n + 1) (ints (firsts n a.es))) (PR26 w3.heap.size Bx W2.heap.size t2 n i xe (t2 : Int) nv (.slice ave E26.length cve)) w.heap.size E26 ⟨i, xe, nv - 1⟩ (.slice ave E26.length cve) (l.setIfInBounds 10 true) ([u0, u1, u2, u3, u4, u5, u6, u7, u8, u9, u10, u11, u12, u13, u14].set 10 v) tag' W' → ∀ a', puts _ _ [u0, u1, u2, u3, u4, u5, u6, u7, u8, u9, v, u11, u12, u13, u14] = a' → K' a' W') := fun v W' tag' h a' e => hK _ a' W' e ⟨tag', h⟩
                            have d9 : l.getD 9 false = true := by
                              simp [Region.binds] at hd
                              simp [hd]
                            obtain rfl : u9 = _ := hI.pure 9 (by decide) d9
                            have HS := Lib.hid (hI.pureStep (v := .int .i64 (nv - 1)) hl (by decide) rfl)
                            clear hK hl hI hlen hd hn d9
                            refine StepGIn.mk ?_
                            simp only [puts, Act.put]
                            go_simp
                            exact HK.out _ _ _ HS.out _ (by simp [puts, Act.put]; exact (IntWalk.i64_in _ (by omega)).symm)
                          refine StepsIn.cons rfl ?_ ?_
                          · intro l us W4 hl hI hd hn K' hK
                            obtain ⟨tg4, hI⟩ := hI
                            have hlen := hI.len
                            obtain ⟨u0, u1, u2, u3, u4, u5, u6, u7, u8, u9, u10, u11, u12, u13, u14, rfl⟩ := list15 hlen
                            have HK : Hid (∀ v W' tag', RX (PhiX w #[.slice aa a.al.length ca, .int .i64 n, .slice am a.ms.length cm, .slice ae a.es.length ce, .slice (some ⟨bf, offf, none⟩) (n + 1) cf] n w3.heap.size b9 w6.heap.size w8.heap.size (w8.heap.size + 1 + 1) (.slice a3 a.al.length c3) (.slice (some ⟨b10, o10, none⟩) n c10) (.slice (some ⟨W2.heap.size, 0, none⟩) n n) (.slice (some ⟨b11, o11, none⟩) n c11) a.al inF mkF ds bi i vm1 (.slice a16 (S1.q.length + 1) c16) S2 ms' Bx xf xe (t2 : Int) V (.slice (some ⟨bf, offf, none⟩) (n + 1) cf) (n + 1) (ints (firsts n a.es))) (PR26 w3.heap.size Bx W2.heap.size t2 n i xe (t2 : Int) nv (.slice ave E26.length cve)) w.heap.size E26 ⟨i, xe, nv - 1⟩ (.slice ave E26.length cve) (l.setIfInBounds 11 true) ([u0, u1, u2, u3, u4, u5, u6, u7, u8, u9, u10, u11, u12, u13, u14].set 11 v) tag' W' → ∀ a', puts _ _ [u0, u1, u2, u3, u4, u5, u6, u7, u8, u9, u10, v, u12, u13, u14] = a' → K' a' W') := fun v W' tag' h a' e => hK _ a' W' e ⟨tag', h⟩
                            have d2 : l.getD 2 false = true := by
                              simp [Region.binds] at hd
                              simp [hd]
                            have d4 : l.getD 4 false = true := by
                              simp [Region.binds] at hd
                              simp [hd]
                            have d10 : l.getD 10 false = true := by
                              simp [Region.binds] at hd
                              simp [hd]
                            obtain rfl : u2 = _ := hI.pure 2 (by decide) d2
                            obtain rfl : u4 = _ := hI.pure 4 (by decide) d4
                            obtain rfl : u10 = _ := hI.pure 10 (by decide) d10
                            have HS := Lib.hid (hI.pureStep (v := .agg #[.int .i64 (i : Int), .int .i64 xe, .int .i64 (nv - 1)]) hl (by decide) rfl)
                            clear hK hl hI hlen hd hn d2 d4 d10
                            refine StepGIn.mk ?_
                            simp only [puts, Act.put]
                            go_simp
                            exact HK.out _ _ _ HS.out _ (by simp [puts, Act.put])
                          refine StepsIn.cons rfl ?_ ?_
                          · intro l us W4 hl hI hd hn K' hK
                            obtain ⟨tg4, hI⟩ := hI
                            have hlen := hI.len
                            obtain ⟨u0, u1, u2, u3, u4, u5, u6, u7, u8, u9, u10, u11, u12, u13, u14, rfl⟩ := list15 hlen
                            have HK : Hid (∀ v W' tag', RX (PhiX w #[.slice aa a.al.length ca, .int .i64 n, .slice am a.ms.length cm, .slice ae a.es.length ce, .slice (some ⟨bf, offf, none⟩) (n + 1) cf] n w3.heap.size b9 w6.heap.size w8.heap.size (w8.heap.size + 1 + 1) (.slice a3 a.al.length c3) (.slice (some ⟨b10, o10, none⟩) n c10) (.slice (some ⟨W2.heap.size, 0, none⟩) n n) (.slice (some ⟨b11, o11, none⟩) n c11) a.al inF mkF ds bi i vm1 (.slice a16 (S1.q.length + 1) c16) S2 ms' Bx xf xe (t2 : Int) V (.slice (some ⟨bf, offf, none⟩) (n + 1) cf) (n + 1) (ints (firsts n a.es))) (PR26 w3.heap.size Bx W2.heap.size t2 n i xe (t2 : Int) nv (.slice ave E26.length cve)) w.heap.size E26 ⟨i, xe, nv - 1⟩ (.slice ave E26.length cve) (l.setIfInBounds 12 true) ([u0, u1, u2, u3, u4, u5, u6, u7, u8, u9, u10, u11, u12, u13, u14].set 12 v) tag' W' → ∀ a', puts _ _ [u0, u1, u2, u3, u4, u5, u6, u7, u8, u9, u10, u11, v, u13, u14] = a' → K' a' W') := fun v W' tag' h a' e => hK _ a' W' e ⟨tag', h⟩
                            have d11 : l.getD 11 false = true := by
                              simp [Region.binds] at hd
                              simp [hd]
                            obtain rfl : u11 = _ := hI.pure 11 (by decide) d11
                            have HS := Lib.hid (hI.op12 hl (fun c h => ⟨h.1.up _ 11, h.2.1.upR _ 11, h.2.2.1.alloc h.1.below.size _, fun m => (h.2.2.2.1 m).trans (keepsBelow (bel_alloc _ _)), h.2.2.2.2.up _ 11⟩) hn (fun _ => trivial))
                            clear hK hl hI hlen hd hn d11
                            refine StepGIn.mk ?_
                            simp only [puts, Act.put]
                            go_simp
                            exact HK.out _ _ _ HS.out _ (by simp [puts, Act.put])
                          refine StepsIn.cons rfl ?_ ?_
                          · intro l us W4 hl hI hd hn K' hK
                            obtain ⟨tg4, hI⟩ := hI
                            have hlen := hI.len
                            obtain ⟨u0, u1, u2, u3, u4, u5, u6, u7, u8, u9, u10, u11, u12, u13, u14, rfl⟩ := list15 hlen
                            have HK : Hid (∀ v W' tag', RX (PhiX w #[.slice aa a.al.length ca, .int .i64 n, .slice am a.ms.length cm, .slice ae a.es.length ce, .slice (some ⟨bf, offf, none⟩) (n + 1) cf] n w3.heap.size b9 w6.heap.size w8.heap.size (w8.heap.size + 1 + 1) (.slice a3 a.al.length c3) (.slice (some ⟨b10, o10, none⟩) n c10) (.slice (some ⟨W2.heap.size, 0, none⟩) n n) (.slice (some ⟨b11, o11, none⟩) n c11) a.al inF mkF ds bi i vm1 (.slice a16 (S1.q.length + 1) c16) S2 ms' Bx xf xe (t2 : Int) V (.slice (some ⟨bf, offf, none⟩) (n + 1) cf) (n + 1) (ints (firsts n a.es))) (PR26 w3.heap.size Bx W2.heap.size t2 n i xe (t2 : Int) nv (.slice ave E26.length cve)) w.heap.size E26 ⟨i, xe, nv - 1⟩ (.slice ave E26.length cve) (l.setIfInBounds 13 true) ([u0, u1, u2, u3, u4, u5, u6, u7, u8, u9, u10, u11, u12, u13, u14].set 13 v) tag' W' → ∀ a', puts _ _ [u0, u1, u2, u3, u4, u5, u6, u7, u8, u9, u10, u11, u12, v, u14] = a' → K' a' W') := fun v W' tag' h a' e => hK _ a' W' e ⟨tag', h⟩
                            have d1 : l.getD 1 false = true := by
                              simp [Region.binds] at hd
                              simp [hd]
                            have d12 : l.getD 12 false = true := by
                              simp [Region.binds] at hd
                              simp [hd]
                            obtain rfl : u1 = _ := hI.pure 1 (by decide) d1
                            have hs1 := hI.s1 hn
                            obtain ⟨a9, c9, e9, hrd⟩ := (hI.s12 d12 hn).rd
                            obtain rfl : u12 = _ := e9
                            refine StepGIn.append_row rfl _ _ 29 rfl 45 j1 (.agg #[.int .i64 0, .int .i64 0, .int .i64 0]) 24 Try.underlying29 hj1 hj2 hj3 hj4 rfl (by simp [puts, Act.put, Act.eval]) hs1 a9 1 c9 (Ed.cells ⟨i, xe, nv - 1⟩) (by simp [puts, Act.put, Act.eval]) (by simp [Ed.cells]) hrd.src.1 hrd.src.2 (by simp [Ed.cells, Value.oneCell']) (by unfold maxLen; omega) (by omega) hI.size ?_
                            intro v9 W9 tag9 hr9 ht9
                            exact HK.out _ _ _ (hI.op13 hl (fun c h => ⟨h.1.turn ht9 (by decide), h.2.1.turn ht9 (by decide), belTurn h.2.2.1 ht9 h.1.below.size, fun m => (h.2.2.2.1 m).trans (keepsTurn ht9), h.2.2.2.2.turn ht9 (by decide)⟩) hn d12 d1 (fun _ => trivial) ht9 hr9) _ (by simp [puts, Act.put])
                          refine StepsIn.cons rfl ?_ ?_
                          · intro l us W4 hl hI hd hn K' hK
                            obtain ⟨tg4, hI⟩ := hI
                            have hlen := hI.len
                            obtain ⟨u0, u1, u2, u3, u4, u5, u6, u7, u8, u9, u10, u11, u12, u13, u14, rfl⟩ := list15 hlen
                            have HK : Hid (∀ v W' tag', RX (PhiX w #[.slice aa a.al.length ca, .int .i64 n, .slice am a.ms.length cm, .slice ae a.es.length ce, .slice (some ⟨bf, offf, none⟩) (n + 1) cf] n w3.heap.size b9 w6.heap.size w8.heap.size (w8.heap.size + 1 + 1) (.slice a3 a.al.length c3) (.slice (some ⟨b10, o10, none⟩) n c10) (.slice (some ⟨W2.heap.size, 0, none⟩) n n) (.slice (some ⟨b11, o11, none⟩) n c11) a.al inF mkF ds bi i vm1 (.slice a16 (S1.q.length + 1) c16) S2 ms' Bx xf xe (t2 : Int) V (.slice (some ⟨bf, offf, none⟩) (n + 1) cf) (n + 1) (ints (firsts n a.es))) (PR26 w3.heap.size Bx W2.heap.size t2 n i xe (t2 : Int) nv (.slice ave E26.length cve)) w.heap.size E26 ⟨i, xe, nv - 1⟩ (.slice ave E26.length cve) (l.setIfInBounds 14 true) ([u0, u1, u2, u3, u4, u5, u6, u7, u8, u9, u10, u11, u12, u13, u14].set 14 v) tag' W' → ∀ a', puts _ _ [u0, u1, u2, u3, u4, u5, u6, u7, u8, u9, u10, u11, u12, u13, v] = a' → K' a' W') := fun v W' tag' h a' e => hK _ a' W' e ⟨tag', h⟩
                            have HS := Lib.hid (hI.pureStep (v := .pointer (some ⟨w3.heap.size, 3, none⟩)) hl (by decide) rfl)
                            clear hK hl hI hlen hd hn
                            refine StepGIn.mk ?_
                            simp only [puts, Act.put]
                            go_simp
                            exact HK.out _ _ _ HS.out _ (by simp [puts, Act.put])
                          refine StepsIn.cons rfl ?_ ?_
                          · intro l us W4 hl hI hd hn K' hK
                            obtain ⟨tg4, hI⟩ := hI
                            have hlen := hI.len
                            obtain ⟨u0, u1, u2, u3, u4, u5, u6, u7, u8, u9, u10, u11, u12, u13, u14, rfl⟩ := list15 hlen
                            have HK : Hid (∀ W' tag', RX (PhiX w #[.slice aa a.al.length ca, .int .i64 n, .slice am a.ms.length cm, .slice ae a.es.length ce, .slice (some ⟨bf, offf, none⟩) (n + 1) cf] n w3.heap.size b9 w6.heap.size w8.heap.size (w8.heap.size + 1 + 1) (.slice a3 a.al.length c3) (.slice (some ⟨b10, o10, none⟩) n c10) (.slice (some ⟨W2.heap.size, 0, none⟩) n n) (.slice (some ⟨b11, o11, none⟩) n c11) a.al inF mkF ds bi i vm1 (.slice a16 (S1.q.length + 1) c16) S2 ms' Bx xf xe (t2 : Int) V (.slice (some ⟨bf, offf, none⟩) (n + 1) cf) (n + 1) (ints (firsts n a.es))) (PR26 w3.heap.size Bx W2.heap.size t2 n i xe (t2 : Int) nv (.slice ave E26.length cve)) w.heap.size E26 ⟨i, xe, nv - 1⟩ (.slice ave E26.length cve) (l.setIfInBounds 15 true) [u0, u1, u2, u3, u4, u5, u6, u7, u8, u9, u10, u11, u12, u13, u14] tag' W' → ∀ a', puts _ _ [u0, u1, u2, u3, u4, u5, u6, u7, u8, u9, u10, u11, u12, u13, u14] = a' → K' a' W') := fun W' tag' h a' e => hK _ a' W' e ⟨tag', h⟩
                            have d14 : l.getD 14 false = true := by
                              simp [Region.binds] at hd
                              simp [hd]
                            have d13 : l.getD 13 false = true := by
                              simp [Region.binds] at hd
                              simp [hd]
                            obtain rfl : u14 = _ := hI.pure 14 (by decide) d14
                            obtain ⟨a13, c13, e13⟩ := (hI.s13 d13).val
                            obtain rfl : u13 = _ := e13
                            have hp := hI.phi
                            rw [hn] at hp
                            have y0 : W4.cell? ⟨w3.heap.size, 3, none⟩ = some (.slice ave E26.length cve) := hp.1.ob.cell 3
                            have y1 := hp.1.ob.frozen 3
                            have HS := Lib.hid (hI.op15 (b8 := w3.heap.size) hl (fun c c' h => ⟨⟨(h.1.putE c' S2 rfl rfl).1, h.2.1.turn (h.1.putE c' S2 rfl rfl).2 (by decide), belTurn h.2.2.1 (h.1.putE c' S2 rfl rfl).2 h.1.below.size, fun m => (h.2.2.2.1 m).trans (keepsTurn (h.1.putE c' S2 rfl rfl).2), h.2.2.2.2.turn (h.1.putE c' S2 rfl rfl).2 (by decide)⟩, (h.1.putE c' S2 rfl rfl).2⟩) hn d13)
                            clear hp
                            clear hK hl hI hlen hd hn d14 d13
                            refine StepGIn.mk ?_
                            simp only [puts, Act.put]
                            go_simp
                            exact HK.out _ _ HS.out _ (by simp [puts, Act.put])
                          exact StepsIn.nil (Nat.le_refl _)
                        · intro l us W4 hI hall
                          obtain ⟨tg4, hI⟩ := hI
                          have hlen := hI.len
                          obtain ⟨u0, u1, u2, u3, u4, u5, u6, u7, u8, u9, u10, u11, u12, u13, u14, rfl⟩ := list15 hlen
                          have h13 := hI.s13 (hall 13 (by decide))
                          have hp := hI.phi
                          rw [hall 15 (by decide)] at hp
                          obtain ⟨p1, _, p3, p4, p5⟩ := hp
                          have P1 := Lib.hid p1
                          have P3 := Lib.hid p3
                          have P4 := Lib.hid p4
                          have P5 := Lib.hid p5
                          have HE9 : Hid (Row W4 w.heap.size tg4 8 45 3 u13 (E26 ++ [(⟨i, xe, nv - 1⟩ : Ed)]).length (edCells (E26 ++ [(⟨i, xe, nv - 1⟩ : Ed)]))) := by
                            show Row _ _ _ _ _ _ _ _ _
                            rw [List.length_append]
                            exact h13
                          clear hlen hall hI h13 p1 p3 p4 p5
                          simp only [puts, Act.put, List.setIfInBounds_toArray, List.set_cons_succ, List.set_cons_zero]
                          have KK : Hid (∀ m, KeepsFrom m W W4) := fun m => (HK17.out m).trans (P4.out m)
                          have BB : Hid (Below w.heap.size W W4) := HB17.out.trans P3.out
                          clear P3 P4 HK17 HB17
                          gi_wp2_with fail
                          refine ⟨KK.out _, BB.out, Hmem.out, tg4, vm1, u13, ⟨.slice a16 (S1.q.length + 1) c16, ?_⟩, ?_⟩
                          · rw [Hacc.out, Hst.out]
                            exact P1.out.withE _
                          · rw [Hacc.out, Hst.out]
                            exact ⟨HE9.out, P5.out⟩
                      · have Hz := Lib.hid hz
                        have hzb : (S1.num.getD t2 0 == 0) = false := by rw [beq_eq_false_iff_ne]; exact hz
                        have hst : rsStep inF i S1 ⟨xf, xe, (t2 : Int)⟩ = ⟨S1.num, S1.q, S1.E ++ [⟨i, xe, S1.num.getD t2 0 - 1⟩]⟩ := rsStep_old (i := i) HinT.out (by show S1.num.getD (t2 : Int).toNat 0 ≠ 0; rw [Int.toNat_natCast]; exact hz)
                        have Hst := Lib.hid hst
                        clear hst hz
                        generalize hnv : S1.num.getD t2 0 = nv at *
                        have HNV := Lib.hid hnv
                        clear hnv
                        gi_wp2_with fail
                        obtain ⟨ave, cve, rfl⟩ := HE3.out.val
                        have HX26 : Hid (PhiX w #[.slice aa a.al.length ca, .int .i64 n, .slice am a.ms.length cm, .slice ae a.es.length ce, .slice (some ⟨bf, offf, none⟩) (n + 1) cf] n w3.heap.size b9 w6.heap.size w8.heap.size (w8.heap.size + 1 + 1) (.slice a3 a.al.length c3) (.slice (some ⟨b10, o10, none⟩) n c10) (.slice (some ⟨W2.heap.size, 0, none⟩) n n) (.slice (some ⟨b11, o11, none⟩) n c11) a.al inF mkF ds bi i vm1 vq1 S1 ms' Bx xf xe (t2 : Int) W (.slice (some ⟨bf, offf, none⟩) (n + 1) cf) (n + 1) (ints (firsts n a.es)) (.slice ave S1.E.length cve) (tagUp tag1 Bx 10) W) := ⟨HJ.out, hOx, Below.refl _ _, fun m => KeepsFrom.refl _ _, HG3.out⟩
                        have HE26 := HE3
                        have hEl := Hokp.out.el
                        have hnvb : 0 ≤ nv ∧ nv ≤ (n : Int) := by
                          have h := Hokp.out.bd (S1.num[t2]'(by omega)) (List.getElem_mem _)
                          have e : S1.num[t2]'(by omega) = nv := by rw [← HNV.out, List.getD_eq_getElem?_getD, List.getElem?_eq_getElem (by omega)]; rfl
                          rwa [e] at h
                        obtain ⟨j1, hj1, hj2, hj3, hj4⟩ := info_parts Try.info_edge
                        generalize hE26 : S1.E = E26 at *
                        refine wpIn_region_inv (fun l us WW => ∃ tag, RX (PhiX w #[.slice aa a.al.length ca, .int .i64 n, .slice am a.ms.length cm, .slice ae a.es.length ce, .slice (some ⟨bf, offf, none⟩) (n + 1) cf] n w3.heap.size b9 w6.heap.size w8.heap.size (w8.heap.size + 1 + 1) (.slice a3 a.al.length c3) (.slice (some ⟨b10, o10, none⟩) n c10) (.slice (some ⟨W2.heap.size, 0, none⟩) n n) (.slice (some ⟨b11, o11, none⟩) n c11) a.al inF mkF ds bi i vm1 vq1 S1 ms' Bx xf xe (t2 : Int) W (.slice (some ⟨bf, offf, none⟩) (n + 1) cf) (n + 1) (ints (firsts n a.es))) (PR26 w3.heap.size Bx W2.heap.size t2 n i xe (t2 : Int) nv (.slice ave E26.length cve)) w.heap.size E26 ⟨i, xe, nv - 1⟩ (.slice ave E26.length cve) l us tag WW) [107, 108, 109, 110, 111, 112, 113, 114, 115, 116, 117, 118, 119, 120, 121] (by kernel_rfl) (by kernel_rfl) ⟨_, RX.start rfl HX26.out.1.below.size ⟨HX26.out.1.call (bel_drew _), HX26.out.2.1.below (bel_drew _), HX26.out.2.2.1.drew, fun m => (HX26.out.2.2.2.1 m).trans (keepsBelow (bel_drew _)), HX26.out.2.2.2.2.below (bel_drew _)⟩ (HE26.out.below (bel_drew _))⟩ ?_ ?_
                        · skip
                          refine StepsIn.cons rfl ?_ ?_
                          · intro l us W4 hl hI hd hn K' hK
                            obtain ⟨tg4, hI⟩ := hI
                            have hlen := hI.len
                            obtain ⟨u0, u1, u2, u3, u4, u5, u6, u7, u8, u9, u10, u11, u12, u13, u14, rfl⟩ := list15 hlen
                            have HK : Hid (∀ v W' tag', RX (PhiX w #[.slice aa a.al.length ca, .int .i64 n, .slice am a.ms.length cm, .slice ae a.es.length ce, .slice (some ⟨bf, offf, none⟩) (n + 1) cf] n w3.heap.size b9 w6.heap.size w8.heap.size (w8.heap.size + 1 + 1) (.slice a3 a.al.length c3) (.slice (some ⟨b10, o10, none⟩) n c10) (.slice (some ⟨W2.heap.size, 0, none⟩) n n) (.slice (some ⟨b11, o11, none⟩) n c11) a.al inF mkF ds bi i vm1 vq1 S1 ms' Bx xf xe (t2 : Int) W (.slice (some ⟨bf, offf, none⟩) (n + 1) cf) (n + 1) (ints (firsts n a.es))) (PR26 w3.heap.size Bx W2.heap.size t2 n i xe (t2 : Int) nv (.slice ave E26.length cve)) w.heap.size E26 ⟨i, xe, nv - 1⟩ (.slice ave E26.length cve) (l.setIfInBounds 0 true) ([u0, u1, u2, u3, u4, u5, u6, u7, u8, u9, u10, u11, u12, u13, u14].set 0 v) tag' W' → ∀ a', puts _ _ [v, u1, u2, u3, u4, u5, u6, u7, u8, u9, u10, u11, u12, u13, u14] = a' → K' a' W') := fun v W' tag' h a' e => hK _ a' W' e ⟨tag', h⟩
                            have HS := Lib.hid (hI.pureStep (v := .pointer (some ⟨w3.heap.size, 3, none⟩)) hl (by decide) rfl)
                            clear hK hl hI hlen hd hn
                            refine StepGIn.mk ?_
                            simp only [puts, Act.put]
                            go_simp
                            exact HK.out _ _ _ HS.out _ (by simp [puts, Act.put])
                          refine StepsIn.cons rfl ?_ ?_
                          · intro l us W4 hl hI hd hn K' hK
                            obtain ⟨tg4, hI⟩ := hI
                            have hlen := hI.len
                            obtain ⟨u0, u1, u2, u3, u4, u5, u6, u7, u8, u9, u10, u11, u12, u13, u14, rfl⟩ := list15 hlen
                            have HK : Hid (∀ v W' tag', RX (PhiX w #[.slice aa a.al.length ca, .int .i64 n, .slice am a.ms.length cm, .slice ae a.es.length ce, .slice (some ⟨bf, offf, none⟩) (n + 1) cf] n w3.heap.size b9 w6.heap.size w8.heap.size (w8.heap.size + 1 + 1) (.slice a3 a.al.length c3) (.slice (some ⟨b10, o10, none⟩) n c10) (.slice (some ⟨W2.heap.size, 0, none⟩) n n) (.slice (some ⟨b11, o11, none⟩) n c11) a.al inF mkF ds bi i vm1 vq1 S1 ms' Bx xf xe (t2 : Int) W (.slice (some ⟨bf, offf, none⟩) (n + 1) cf) (n + 1) (ints (firsts n a.es))) (PR26 w3.heap.size Bx W2.heap.size t2 n i xe (t2 : Int) nv (.slice ave E26.length cve)) w.heap.size E26 ⟨i, xe, nv - 1⟩ (.slice ave E26.length cve) (l.setIfInBounds 1 true) ([u0, u1, u2, u3, u4, u5, u6, u7, u8, u9, u10, u11, u12, u13, u14].set 1 v) tag' W' → ∀ a', puts _ _ [u0, v, u2, u3, u4, u5, u6, u7, u8, u9, u10, u11, u12, u13, u14] = a' → K' a' W') := fun v W' tag' h a' e => hK _ a' W' e ⟨tag', h⟩
                            have d0 : l.getD 0 false = true := by
                              simp [Region.binds] at hd
                              simp [hd]
                            obtain rfl : u0 = _ := hI.pure 0 (by decide) d0
                            have HS := Lib.hid (hI.pureStep (v := .slice ave E26.length cve) hl (by decide) rfl)
                            have h15 : l.getD 15 false = false := by
                              cases h : l.getD 15 false with
                              | false => rfl
                              | true => rw [(hI.o13 (hI.o15 h)).2] at hn; cases hn
                            have hp := hI.phi
                            rw [h15] at hp
                            have y0 : W4.cell? ⟨w3.heap.size, 3, none⟩ = some (.slice ave E26.length cve) := hp.1.ob.cell 3
                            clear h15 hp
                            clear hK hl hI hlen hd hn d0
                            refine StepGIn.mk ?_
                            simp only [puts, Act.put]
                            go_simp
                            exact HK.out _ _ _ HS.out _ (by simp [puts, Act.put])
                          refine StepsIn.cons rfl ?_ ?_
                          · intro l us W4 hl hI hd hn K' hK
                            obtain ⟨tg4, hI⟩ := hI
                            have hlen := hI.len
                            obtain ⟨u0, u1, u2, u3, u4, u5, u6, u7, u8, u9, u10, u11, u12, u13, u14, rfl⟩ := list15 hlen
                            have HK : Hid (∀ v W' tag', RX (PhiX w #[.slice aa a.al.length ca, .int .i64 n, .slice am a.ms.length cm, .slice ae a.es.length ce, .slice (some ⟨bf, offf, none⟩) (n + 1) cf] n w3.heap.size b9 w6.heap.size w8.heap.size (w8.heap.size + 1 + 1) (.slice a3 a.al.length c3) (.slice (some ⟨b10, o10, none⟩) n c10) (.slice (some ⟨W2.heap.size, 0, none⟩) n n) (.slice (some ⟨b11, o11, none⟩) n c11) a.al inF mkF ds bi i vm1 vq1 S1 ms' Bx xf xe (t2 : Int) W (.slice (some ⟨bf, offf, none⟩) (n + 1) cf) (n + 1) (ints (firsts n a.es))) (PR26 w3.heap.size Bx W2.heap.size t2 n i xe (t2 : Int) nv (.slice ave E26.length cve)) w.heap.size E26 ⟨i, xe, nv - 1⟩ (.slice ave E26.length cve) (l.setIfInBounds 2 true) ([u0, u1, u2, u3, u4, u5, u6, u7, u8, u9, u10, u11, u12, u13, u14].set 2 v) tag' W' → ∀ a', puts _ _ [u0, u1, v, u3, u4, u5, u6, u7, u8, u9, u10, u11, u12, u13, u14] = a' → K' a' W') := fun v W' tag' h a' e => hK _ a' W' e ⟨tag', h⟩
                            have HS := Lib.hid (hI.pureStep (v := .int .i64 (i : Int)) hl (by decide) rfl)
                            have y0 : W4.cell? ⟨bi, 0, none⟩ = some (.int .i64 (i : Int)) := hI.phi.1.io.cell 0
                            clear hK hl hI hlen hd hn
                            refine StepGIn.mk ?_
                            simp only [puts, Act.put]
                            go_simp
                            exact HK.out _ _ _ HS.out _ (by simp [puts, Act.put])
                          refine StepsIn.cons rfl ?_ ?_
                          · intro l us W4 hl hI hd hn K' hK
                            obtain ⟨tg4, hI⟩ := hI
                            have hlen := hI.len
                            obtain ⟨u0, u1, u2, u3, u4, u5, u6, u7, u8, u9, u10, u11, u12, u13, u14, rfl⟩ := list15 hlen
                            have HK : Hid (∀ v W' tag', RX (PhiX w #[.slice aa a.al.length ca, .int .i64 n, .slice am a.ms.length cm, .slice ae a.es.length ce, .slice (some ⟨bf, offf, none⟩) (n + 1) cf] n w3.heap.size b9 w6.heap.size w8.heap.size (w8.heap.size + 1 + 1) (.slice a3 a.al.length c3) (.slice (some ⟨b10, o10, none⟩) n c10) (.slice (some ⟨W2.heap.size, 0, none⟩) n n) (.slice (some ⟨b11, o11, none⟩) n c11) a.al inF mkF ds bi i vm1 vq1 S1 ms' Bx xf xe (t2 : Int) W (.slice (some ⟨bf, offf, none⟩) (n + 1) cf) (n + 1) (ints (firsts n a.es))) (PR26 w3.heap.size Bx W2.heap.size t2 n i xe (t2 : Int) nv (.slice ave E26.length cve)) w.heap.size E26 ⟨i, xe, nv - 1⟩ (.slice ave E26.length cve) (l.setIfInBounds 3 true) ([u0, u1, u2, u3, u4, u5, u6, u7, u8, u9, u10, u11, u12, u13, u14].set 3 v) tag' W' → ∀ a', puts _ _ [u0, u1, u2, v, u4, u5, u6, u7, u8, u9, u10, u11, u12, u13, u14] = a' → K' a' W') := fun v W' tag' h a' e => hK _ a' W' e ⟨tag', h⟩
                            have HS := Lib.hid (hI.pureStep (v := .pointer (some ⟨Bx, 1, none⟩)) hl (by decide) rfl)
                            clear hK hl hI hlen hd hn
                            refine StepGIn.mk ?_
                            simp only [puts, Act.put]
                            go_simp
                            exact HK.out _ _ _ HS.out _ (by simp [puts, Act.put])
                          refine StepsIn.cons rfl ?_ ?_
                          · intro l us W4 hl hI hd hn K' hK
                            obtain ⟨tg4, hI⟩ := hI
                            have hlen := hI.len
                            obtain ⟨u0, u1, u2, u3, u4, u5, u6, u7, u8, u9, u10, u11, u12, u13, u14, rfl⟩ := list15 hlen
                            have HK : Hid (∀ v W' tag', RX (PhiX w #[.slice aa a.al.length ca, .int .i64 n, .slice am a.ms.length cm, .slice ae a.es.length ce, .slice (some ⟨bf, offf, none⟩) (n + 1) cf] n w3.heap.size b9 w6.heap.size w8.heap.size (w8.heap.size + 1 + 1) (.slice a3 a.al.length c3) (.slice (some ⟨b10, o10, none⟩) n c10) (.slice (some ⟨W2.heap.size, 0, none⟩) n n) (.slice (some ⟨b11, o11, none⟩) n c11) a.al inF mkF ds bi i vm1 vq1 S1 ms' Bx xf xe (t2 : Int) W (.slice (some ⟨bf, offf, none⟩) (n + 1) cf) (n + 1) (ints (firsts n a.es))) (PR26 w3.heap.size Bx W2.heap.size t2 n i xe (t2 : Int) nv (.slice ave E26.length cve)) w.heap.size E26 ⟨i, xe, nv - 1⟩ (.slice ave E26.length cve) (l.setIfInBounds 4 true) ([u0, u1, u2, u3, u4, u5, u6, u7, u8, u9, u10, u11, u12, u13, u14].set 4 v) tag' W' → ∀ a', puts _ _ [u0, u1, u2, u3, v, u5, u6, u7, u8, u9, u10, u11, u12, u13, u14] = a' → K' a' W') := fun v W' tag' h a' e => hK _ a' W' e ⟨tag', h⟩
                            have d3 : l.getD 3 false = true := by
                              simp [Region.binds] at hd
                              simp [hd]
                            obtain rfl : u3 = _ := hI.pure 3 (by decide) d3
                            have HS := Lib.hid (hI.pureStep (v := .int .i64 xe) hl (by decide) rfl)
                            have y0 : W4.cell? ⟨Bx, 1, none⟩ = some (.int .i64 xe) := hI.phi.2.1.cell 1
                            clear hK hl hI hlen hd hn d3
                            refine StepGIn.mk ?_
                            simp only [puts, Act.put]
                            go_simp
                            exact HK.out _ _ _ HS.out _ (by simp [puts, Act.put])
                          refine StepsIn.cons rfl ?_ ?_
                          · intro l us W4 hl hI hd hn K' hK
                            obtain ⟨tg4, hI⟩ := hI
                            have hlen := hI.len
                            obtain ⟨u0, u1, u2, u3, u4, u5, u6, u7, u8, u9, u10, u11, u12, u13, u14, rfl⟩ := list15 hlen
                            have HK : Hid (∀ v W' tag', RX (PhiX w #[.slice aa a.al.length ca, .int .i64 n, .slice am a.ms.length cm, .slice ae a.es.length ce, .slice (some ⟨bf, offf, none⟩) (n + 1) cf] n w3.heap.size b9 w6.heap.size w8.heap.size (w8.heap.size + 1 + 1) (.slice a3 a.al.length c3) (.slice (some ⟨b10, o10, none⟩) n c10) (.slice (some ⟨W2.heap.size, 0, none⟩) n n) (.slice (some ⟨b11, o11, none⟩) n c11) a.al inF mkF ds bi i vm1 vq1 S1 ms' Bx xf xe (t2 : Int) W (.slice (some ⟨bf, offf, none⟩) (n + 1) cf) (n + 1) (ints (firsts n a.es))) (PR26 w3.heap.size Bx W2.heap.size t2 n i xe (t2 : Int) nv (.slice ave E26.length cve)) w.heap.size E26 ⟨i, xe, nv - 1⟩ (.slice ave E26.length cve) (l.setIfInBounds 5 true) ([u0, u1, u2, u3, u4, u5, u6, u7, u8, u9, u10, u11, u12, u13, u14].set 5 v) tag' W' → ∀ a', puts _ _ [u0, u1, u2, u3, u4, v, u6, u7, u8, u9, u10, u11, u12, u13, u14] = a' → K' a' W') := fun v W' tag' h a' e => hK _ a' W' e ⟨tag', h⟩
                            have HS := Lib.hid (hI.pureStep (v := .slice (some ⟨W2.heap.size, 0, none⟩) n n) hl (by decide) rfl)
                            have y0 : W4.cell? ⟨w6.heap.size, 0, none⟩ = some (.slice (some ⟨W2.heap.size, 0, none⟩) n n) := hI.phi.1.nb.cell 0
                            clear hK hl hI hlen hd hn
                            refine StepGIn.mk ?_
                            simp only [puts, Act.put]
                            go_simp
                            exact HK.out _ _ _ HS.out _ (by simp [puts, Act.put])
                          refine StepsIn.cons rfl ?_ ?_
                          · intro l us W4 hl hI hd hn K' hK
                            obtain ⟨tg4, hI⟩ := hI
                            have hlen := hI.len
                            obtain ⟨u0, u1, u2, u3, u4, u5, u6, u7, u8, u9, u10, u11, u12, u13, u14, rfl⟩ := list15 hlen
                            have HK : Hid (∀ v W' tag', RX (PhiX w #[.slice aa a.al.length ca, .int .i64 n, .slice am a.ms.length cm, .slice ae a.es.length ce, .slice (some ⟨bf, offf, none⟩) (n + 1) cf] n w3.heap.size b9 w6.heap.size w8.heap.size (w8.heap.size + 1 + 1) (.slice a3 a.al.length c3) (.slice (some ⟨b10, o10, none⟩) n c10) (.slice (some ⟨W2.heap.size, 0, none⟩) n n) (.slice (some ⟨b11, o11, none⟩) n c11) a.al inF mkF ds bi i vm1 vq1 S1 ms' Bx xf xe (t2 : Int) W (.slice (some ⟨bf, offf, none⟩) (n + 1) cf) (n + 1) (ints (firsts n a.es))) (PR26 w3.heap.size Bx W2.heap.size t2 n i xe (t2 : Int) nv (.slice ave E26.length cve)) w.heap.size E26 ⟨i, xe, nv - 1⟩ (.slice ave E26.length cve) (l.setIfInBounds 6 true) ([u0, u1, u2, u3, u4, u5, u6, u7, u8, u9, u10, u11, u12, u13, u14].set 6 v) tag' W' → ∀ a', puts _ _ [u0, u1, u2, u3, u4, u5, v, u7, u8, u9, u10, u11, u12, u13, u14] = a' → K' a' W') := fun v W' tag' h a' e => hK _ a' W' e ⟨tag', h⟩
                            have HS := Lib.hid (hI.pureStep (v := .pointer (some ⟨Bx, 2, none⟩)) hl (by decide) rfl)
                            clear hK hl hI hlen hd hn
                            refine StepGIn.mk ?_
                            simp only [puts, Act.put]
                            go_simp
                            exact HK.out _ _ _ HS.out _ (by simp [puts, Act.put])
                          refine StepsIn.cons rfl ?_ ?_
                          · intro l us W4 hl hI hd hn K' hK
                            obtain ⟨tg4, hI⟩ := hI
                            have hlen := hI.len
                            obtain ⟨u0, u1, u2, u3, u4, u5, u6, u7, u8, u9, u10, u11, u12, u13, u14, rfl⟩ := list15 hlen
                            have HK : Hid (∀ v W' tag', RX (PhiX w #[.slice aa a.al.length ca, .int .i64 n, .slice am a.ms.length cm, .slice ae a.es.length ce, .slice (some ⟨bf, offf, none⟩) (n + 1) cf] n w3.heap.size b9 w6.heap.size w8.heap.size (w8.heap.size + 1 + 1) (.slice a3 a.al.length c3) (.slice (some ⟨b10, o10, none⟩) n c10) (.slice (some ⟨W2.heap.size, 0, none⟩) n n) (.slice (some ⟨b11, o11, none⟩) n c11) a.al inF mkF ds bi i vm1 vq1 S1 ms' Bx xf xe (t2 : Int) W (.slice (some ⟨bf, offf, none⟩) (n + 1) cf) (n + 1) (ints (firsts n a.es))) (PR26 w3.heap.size Bx W2.heap.size t2 n i xe (t2 : Int) nv (.slice ave E26.length cve)) w.heap.size E26 ⟨i, xe, nv - 1⟩ (.slice ave E26.length cve) (l.setIfInBounds 7 true) ([u0, u1, u2, u3, u4, u5, u6, u7, u8, u9, u10, u11, u12, u13, u14].set 7 v) tag' W' → ∀ a', puts _ _ [u0, u1, u2, u3, u4, u5, u6, v, u8, u9, u10, u11, u12, u13, u14] = a' → K' a' W') := fun v W' tag' h a' e => hK _ a' W' e ⟨tag', h⟩
                            have d6 : l.getD 6 false = true := by
                              simp [Region.binds] at hd
                              simp [hd]
                            obtain rfl : u6 = _ := hI.pure 6 (by decide) d6
                            have HS := Lib.hid (hI.pureStep (v := .int .i64 (t2 : Int)) hl (by decide) rfl)
                            have y0 : W4.cell? ⟨Bx, 2, none⟩ = some (.int .i64 (t2 : Int)) := hI.phi.2.1.cell 2
                            clear hK hl hI hlen hd hn d6
                            refine StepGIn.mk ?_
                            simp only [puts, Act.put]
                            go_simp
                            exact HK.out _ _ _ HS.out _ (by simp [puts, Act.put])
                          refine StepsIn.cons rfl ?_ ?_
                          · intro l us W4 hl hI hd hn K' hK
                            obtain ⟨tg4, hI⟩ := hI
                            have hlen := hI.len
                            obtain ⟨u0, u1, u2, u3, u4, u5, u6, u7, u8, u9, u10, u11, u12, u13, u14, rfl⟩ := list15 hlen
                            have HK : Hid (∀ v W' tag', RX (PhiX w #[.slice aa a.al.length ca, .int .i64 n, .slice am a.ms.length cm, .slice ae a.es.length ce, .slice (some ⟨bf, offf, none⟩) (n + 1) cf] n w3.heap.size b9 w6.heap.size w8.heap.size (w8.heap.size + 1 + 1) (.slice a3 a.al.length c3) (.slice (some ⟨b10, o10, none⟩) n c10) (.slice (some ⟨W2.heap.size, 0, none⟩) n n) (.slice (some ⟨b11, o11, none⟩) n c11) a.al inF mkF ds bi i vm1 vq1 S1 ms' Bx xf xe (t2 : Int) W (.slice (some ⟨bf, offf, none⟩) (n + 1) cf) (n + 1) (ints (firsts n a.es))) (PR26 w3.heap.size Bx W2.heap.size t2 n i xe (t2 : Int) nv (.slice ave E26.length cve)) w.heap.size E26 ⟨i, xe, nv - 1⟩ (.slice ave E26.length cve) (l.setIfInBounds 8 true) ([u0, u1, u2, u3, u4, u5, u6, u7, u8, u9, u10, u11, u12, u13, u14].set 8 v) tag' W' → ∀ a', puts _ _ [u0, u1, u2, u3, u4, u5, u6, u7, v, u9, u10, u11, u12, u13, u14] = a' → K' a' W') := fun v W' tag' h a' e => hK _ a' W' e ⟨tag', h⟩
                            have d5 : l.getD 5 false = true := by
                              simp [Region.binds] at hd
                              simp [hd]
                            have d7 : l.getD 7 false = true := by
                              simp [Region.binds] at hd
                              simp [hd]
                            obtain rfl : u5 = _ := hI.pure 5 (by decide) d5
                            obtain rfl : u7 = _ := hI.pure 7 (by decide) d7
                            have HS := Lib.hid (hI.pureStep (v := .pointer (some ⟨W2.heap.size, t2, none⟩)) hl (by decide) rfl)
                            clear hK hl hI hlen hd hn d5 d7
                            refine StepGIn.mk ?_
                            simp only [puts, Act.put]
                            go_simp
                            exact HK.out _ _ _ HS.out _ (by simp [puts, Act.put])
                          refine StepsIn.cons rfl ?_ ?_
                          · intro l us W4 hl hI hd hn K' hK
                            obtain ⟨tg4, hI⟩ := hI
                            have hlen := hI.len
                            obtain ⟨u0, u1, u2, u3, u4, u5, u6, u7, u8, u9, u10, u11, u12, u13, u14, rfl⟩ := list15 hlen
                            have HK : Hid (∀ v W' tag', RX (PhiX w #[.slice aa a.al.length ca, .int .i64 n, .slice am a.ms.length cm, .slice ae a.es.length ce, .slice (some ⟨bf, offf, none⟩) (n + 1) cf] n w3.heap.size b9 w6.heap.size w8.heap.size (w8.heap.size + 1 + 1) (.slice a3 a.al.length c3) (.slice (some ⟨b10, o10, none⟩) n c10) (.slice (some ⟨W2.heap.size, 0, none⟩) n n) (.slice (some ⟨b11, o11, none⟩) n c11) a.al inF mkF ds bi i vm1 vq1 S1 ms' Bx xf xe (t2 : Int) W (.slice (some ⟨bf, offf, none⟩) (n + 1) cf) (n + 1) (ints (firsts n a.es))) (PR26 w3.heap.size Bx W2.heap.size t2 n i xe (t2 : Int) nv (.slice ave E26.length cve)) w.heap.size E26 ⟨i, xe, nv - 1⟩ (.slice ave E26.length cve) (l.setIfInBounds 9 true) ([u0, u1, u2, u3, u4, u5, u6, u7, u8, u9, u10, u11, u12, u13, u14].set 9 v) tag' W' → ∀ a', puts _ _ [u0, u1, u2, u3, u4, u5, u6, u7, u8, v, u10, u11, u12, u13, u14] = a' → K' a' W') := fun v W' tag' h a' e => hK _ a' W' e ⟨tag', h⟩
                            have d8 : l.getD 8 false = true := by
                              simp [Region.binds] at hd
                              simp [hd]
                            obtain rfl : u8 = _ := hI.pure 8 (by decide) d8
                            have HS := Lib.hid (hI.pureStep (v := .int .i64 nv) hl (by decide) rfl)
                            have y0 : W4.cell? ⟨W2.heap.size, t2, none⟩ = some (.int .i64 nv) := by
                              have h := hI.phi.1.nr.cellAt t2 (by omega)
                              rw [Nat.zero_add] at h
                              rw [h, ← HNV.out, List.getElem?_map, List.getElem?_eq_getElem (by omega), List.getD_eq_getElem?_getD, List.getElem?_eq_getElem (by omega)]; rfl
                            clear hK hl hI hlen hd hn d8
                            refine StepGIn.mk ?_
                            simp only [puts, Act.put]
                            go_simp
                            exact HK.out _ _ _ HS.out _ (by simp [puts, Act.put])
                          refine StepsIn.cons rfl ?_ ?_
                          · intro l us W4 hl hI hd hn K' hK
                            obtain ⟨tg4, hI⟩ := hI
                            have hlen := hI.len
                            obtain ⟨u0, u1, u2, u3, u4, u5, u6, u7, u8, u9, u10, u11, u12, u13, u14, rfl⟩ := list15 hlen
                            have HK : Hid (∀ v W' tag', RX (PhiX w #[.slice aa a.al.length ca, .int .i64 n, .slice am a.ms.length cm, .slice ae a.es.length ce, .slice (some ⟨bf, offf, none⟩) (n + 1) cf] n w3.heap.size b9 w6.heap.size w8.heap.size (w8.heap.size + 1 + 1) (.slice a3 a.al.length c3) (.slice (some ⟨b10, o10, none⟩) n c10) (.slice (some ⟨W2.heap.size, 0, none⟩) n n) (.slice (some ⟨b11, o11, none⟩) n c11) a.al inF mkF ds bi i vm1 vq1 S1 ms' Bx xf xe (t2 : Int) W (.slice (some ⟨bf, offf, none⟩) (n + 1) cf) (n + 1) (ints (firsts n a.es))) (PR26 w3.heap.size Bx W2.heap.size t2 n i xe (t2 : Int) nv (.slice ave E26.length cve)) w.heap.size E26 ⟨i, xe, nv - 1⟩ (.slice ave E26.length cve) (l.setIfInBounds 10 true) ([u0, u1, u2, u3, u4, u5, u6, u7, u8, u9, u10, u11, u12, u13, u14].set 10 v) tag' W' → ∀ a', puts _ _ [u0, u1, u2, u3, u4, u5, u6, u7, u8, u9, v, u11, u12, u13, u14] = a' → K' a' W') := fun v W' tag' h a' e => hK _ a' W' e ⟨tag', h⟩
                            have d9 : l.getD 9 false = true := by
                              simp [Region.binds] at hd
                              simp [hd]
                            obtain rfl : u9 = _ := hI.pure 9 (by decide) d9
                            have HS := Lib.hid (hI.pureStep (v := .int .i64 (nv - 1)) hl (by decide) rfl)
                            clear hK hl hI hlen hd hn d9
                            refine StepGIn.mk ?_
                            simp only [puts, Act.put]
                            go_simp
                            exact HK.out _ _ _ HS.out _ (by simp [puts, Act.put]; exact (IntWalk.i64_in _ (by omega)).symm)
                          refine StepsIn.cons rfl ?_ ?_
                          · intro l us W4 hl hI hd hn K' hK
                            obtain ⟨tg4, hI⟩ := hI
                            have hlen := hI.len
                            obtain ⟨u0, u1, u2, u3, u4, u5, u6, u7, u8, u9, u10, u11, u12, u13, u14, rfl⟩ := list15 hlen
                            have HK : Hid (∀ v W' tag', RX (PhiX w #[.slice aa a.al.length ca, .int .i64 n, .slice am a.ms.length cm, .slice ae a.es.length ce, .slice (some ⟨bf, offf, none⟩) (n + 1) cf] n w3.heap.size b9 w6.heap.size w8.heap.size (w8.heap.size + 1 + 1) (.slice a3 a.al.length c3) (.slice (some ⟨b10, o10, none⟩) n c10) (.slice (some ⟨W2.heap.size, 0, none⟩) n n) (.slice (some ⟨b11, o11, none⟩) n c11) a.al inF mkF ds bi i vm1 vq1 S1 ms' Bx xf xe (t2 : Int) W (.slice (some ⟨bf, offf, none⟩) (n + 1) cf) (n + 1) (ints (firsts n a.es))) (PR26 w3.heap.size Bx W2.heap.size t2 n i xe (t2 : Int) nv (.slice ave E26.length cve)) w.heap.size E26 ⟨i, xe, nv - 1⟩ (.slice ave E26.length cve) (l.setIfInBounds 11 true) ([u0, u1, u2, u3, u4, u5, u6, u7, u8, u9, u10, u11, u12, u13, u14].set 11 v) tag' W' → ∀ a', puts _ _ [u0, u1, u2, u3, u4, u5, u6, u7, u8, u9, u10, v, u12, u13, u14] = a' → K' a' W') := fun v W' tag' h a' e => hK _ a' W' e ⟨tag', h⟩
                            have d2 : l.getD 2 false = true := by
                              simp [Region.binds] at hd
                              simp [hd]
                            have d4 : l.getD 4 false = true := by
                              simp [Region.binds] at hd
                              simp [hd]
                            have d10 : l.getD 10 false = true := by
                              simp [Region.binds] at hd
                              simp [hd]
                            obtain rfl : u2 = _ := hI.pure 2 (by decide) d2
                            obtain rfl : u4 = _ := hI.pure 4 (by decide) d4
                            obtain rfl : u10 = _ := hI.pure 10 (by decide) d10
                            have HS := Lib.hid (hI.pureStep (v := .agg #[.int .i64 (i : Int), .int .i64 xe, .int .i64 (nv - 1)]) hl (by decide) rfl)
                            clear hK hl hI hlen hd hn d2 d4 d10
                            refine StepGIn.mk ?_
                            simp only [puts, Act.put]
                            go_simp
                            exact HK.out _ _ _ HS.out _ (by simp [puts, Act.put])
                          refine StepsIn.cons rfl ?_ ?_
                          · intro l us W4 hl hI hd hn K' hK
                            obtain ⟨tg4, hI⟩ := hI
                            have hlen := hI.len
                            obtain ⟨u0, u1, u2, u3, u4, u5, u6, u7, u8, u9, u10, u11, u12, u13, u14, rfl⟩ := list15 hlen
                            have HK : Hid (∀ v W' tag', RX (PhiX w #[.slice aa a.al.length ca, .int .i64 n, .slice am a.ms.length cm, .slice ae a.es.length ce, .slice (some ⟨bf, offf, none⟩) (n + 1) cf] n w3.heap.size b9 w6.heap.size w8.heap.size (w8.heap.size + 1 + 1) (.slice a3 a.al.length c3) (.slice (some ⟨b10, o10, none⟩) n c10) (.slice (some ⟨W2.heap.size, 0, none⟩) n n) (.slice (some ⟨b11, o11, none⟩) n c11) a.al inF mkF ds bi i vm1 vq1 S1 ms' Bx xf xe (t2 : Int) W (.slice (some ⟨bf, offf, none⟩) (n + 1) cf) (n + 1) (ints (firsts n a.es))) (PR26 w3.heap.size Bx W2.heap.size t2 n i xe (t2 : Int) nv (.slice ave E26.length cve)) w.heap.size E26 ⟨i, xe, nv - 1⟩ (.slice ave E26.length cve) (l.setIfInBounds 12 true) ([u0, u1, u2, u3, u4, u5, u6, u7, u8, u9, u10, u11, u12, u13, u14].set 12 v) tag' W' → ∀ a', puts _ _ [u0, u1, u2, u3, u4, u5, u6, u7, u8, u9, u10, u11, v, u13, u14] = a' → K' a' W') := fun v W' tag' h a' e => hK _ a' W' e ⟨tag', h⟩
                            have d11 : l.getD 11 false = true := by
                              simp [Region.binds] at hd
                              simp [hd]
                            obtain rfl : u11 = _ := hI.pure 11 (by decide) d11
                            have HS := Lib.hid (hI.op12 hl (fun c h => ⟨h.1.up _ 11, h.2.1.upR _ 11, h.2.2.1.alloc h.1.below.size _, fun m => (h.2.2.2.1 m).trans (keepsBelow (bel_alloc _ _)), h.2.2.2.2.up _ 11⟩) hn (fun _ => trivial))
                            clear hK hl hI hlen hd hn d11
                            refine StepGIn.mk ?_
                            simp only [puts, Act.put]
                            go_simp
                            exact HK.out _ _ _ HS.out _ (by simp [puts, Act.put])
                          refine StepsIn.cons rfl ?_ ?_
                          · intro l us W4 hl hI hd hn K' hK
                            obtain ⟨tg4, hI⟩ := hI
                            have hlen := hI.len
                            obtain ⟨u0, u1, u2, u3, u4, u5, u6, u7, u8, u9, u10, u11, u12, u13, u14, rfl⟩ := list15 hlen
                            have HK : Hid (∀ v W' tag', RX (PhiX w #[.slice aa a.al.length ca, .int .i64 n, .slice am a.ms.length cm, .slice ae a.es.length ce, .slice (some ⟨bf, offf, none⟩) (n + 1) cf] n w3.heap.size b9 w6.heap.size w8.heap.size (w8.heap.size + 1 + 1) (.slice a3 a.al.length c3) (.slice (some ⟨b10, o10, none⟩) n c10) (.slice (some ⟨W2.heap.size, 0, none⟩) n n) (.slice (some ⟨b11, o11, none⟩) n c11) a.al inF mkF ds bi i vm1 vq1 S1 ms' Bx xf xe (t2 : Int) W (.slice (some ⟨bf, offf, none⟩) (n + 1) cf) (n + 1) (ints (firsts n a.es))) (PR26 w3.heap.size Bx W2.heap.size t2 n i xe (t2 : Int) nv (.slice ave E26.length cve)) w.heap.size E26 ⟨i, xe, nv - 1⟩ (.slice ave E26.length cve) (l.setIfInBounds 13 true) ([u0, u1, u2, u3, u4, u5, u6, u7, u8, u9, u10, u11, u12, u13, u14].set 13 v) tag' W' → ∀ a', puts _ _ [u0, u1, u2, u3, u4, u5, u6, u7, u8, u9, u10, u11, u12, v, u14] = a' → K' a' W') := fun v W' tag' h a' e => hK _ a' W' e ⟨tag', h⟩
                            have d1 : l.getD 1 false = true := by
                              simp [Region.binds] at hd
                              simp [hd]
                            have d12 : l.getD 12 false = true := by
                              simp [Region.binds] at hd
                              simp [hd]
                            obtain rfl : u1 = _ := hI.pure 1 (by decide) d1
                            have hs1 := hI.s1 hn
                            obtain ⟨a9, c9, e9, hrd⟩ := (hI.s12 d12 hn).rd
                            obtain rfl : u12 = _ := e9
                            refine StepGIn.append_row rfl _ _ 29 rfl 45 j1 (.agg #[.int .i64 0, .int .i64 0, .int .i64 0]) 24 Try.underlying29 hj1 hj2 hj3 hj4 rfl (by simp [puts, Act.put, Act.eval]) hs1 a9 1 c9 (Ed.cells ⟨i, xe, nv - 1⟩) (by simp [puts, Act.put, Act.eval]) (by simp [Ed.cells]) hrd.src.1 hrd.src.2 (by simp [Ed.cells, Value.oneCell']) (by unfold maxLen; omega) (by omega) hI.size ?_
                            intro v9 W9 tag9 hr9 ht9
                            exact HK.out _ _ _ (hI.op13 hl (fun c h => ⟨h.1.turn ht9 (by decide), h.2.1.turn ht9 (by decide), belTurn h.2.2.1 ht9 h.1.below.size, fun m => (h.2.2.2.1 m).trans (keepsTurn ht9), h.2.2.2.2.turn ht9 (by decide)⟩) hn d12 d1 (fun _ => trivial) ht9 hr9) _ (by simp [puts, Act.put])
                          refine StepsIn.cons rfl ?_ ?_
                          · intro l us W4 hl hI hd hn K' hK
                            obtain ⟨tg4, hI⟩ := hI
                            have hlen := hI.len
                            obtain ⟨u0, u1, u2, u3, u4, u5, u6, u7, u8, u9, u10, u11, u12, u13, u14, rfl⟩ := list15 hlen
                            have HK : Hid (∀ v W' tag', RX (PhiX w #[.slice aa a.al.length ca, .int .i64 n, .slice am a.ms.length cm, .slice ae a.es.length ce, .slice (some ⟨bf, offf, none⟩) (n + 1) cf] n w3.heap.size b9 w6.heap.size w8.heap.size (w8.heap.size + 1 + 1) (.slice a3 a.al.length c3) (.slice (some ⟨b10, o10, none⟩) n c10) (.slice (some ⟨W2.heap.size, 0, none⟩) n n) (.slice (some ⟨b11, o11, none⟩) n c11) a.al inF mkF ds bi i vm1 vq1 S1 ms' Bx xf xe (t2 : Int) W (.slice (some ⟨bf, offf, none⟩) (n + 1) cf) (n + 1) (ints (firsts n a.es))) (PR26 w3.heap.size Bx W2.heap.size t2 n i xe (t2 : Int) nv (.slice ave E26.length cve)) w.heap.size E26 ⟨i, xe, nv - 1⟩ (.slice ave E26.length cve) (l.setIfInBounds 14 true) ([u0, u1, u2, u3, u4, u5, u6, u7, u8, u9, u10, u11, u12, u13, u14].set 14 v) tag' W' → ∀ a', puts _ _ [u0, u1, u2, u3, u4, u5, u6, u7, u8, u9, u10, u11, u12, u13, v] = a' → K' a' W') := fun v W' tag' h a' e => hK _ a' W' e ⟨tag', h⟩
                            have HS := Lib.hid (hI.pureStep (v := .pointer (some ⟨w3.heap.size, 3, none⟩)) hl (by decide) rfl)
                            clear hK hl hI hlen hd hn
                            refine StepGIn.mk ?_
                            simp only [puts, Act.put]
                            go_simp
                            exact HK.out _ _ _ HS.out _ (by simp [puts, Act.put])
                          refine StepsIn.cons rfl ?_ ?_
                          · intro l us W4 hl hI hd hn K' hK
                            obtain ⟨tg4, hI⟩ := hI
                            have hlen := hI.len
                            obtain ⟨u0, u1, u2, u3, u4, u5, u6, u7, u8, u9, u10, u11, u12, u13, u14, rfl⟩ := list15 hlen
                            have HK : Hid (∀ W' tag', RX (PhiX w #[.slice aa a.al.length ca, .int .i64 n, .slice am a.ms.length cm, .slice ae a.es.length ce, .slice (some ⟨bf, offf, none⟩) (n + 1) cf] n w3.heap.size b9 w6.heap.size w8.heap.size (w8.heap.size + 1 + 1) (.slice a3 a.al.length c3) (.slice (some ⟨b10, o10, none⟩) n c10) (.slice (some ⟨W2.heap.size, 0, none⟩) n n) (.slice (some ⟨b11, o11, none⟩) n c11) a.al inF mkF ds bi i vm1 vq1 S1 ms' Bx xf xe (t2 : Int) W (.slice (some ⟨bf, offf, none⟩) (n + 1) cf) (n + 1) (ints (firsts n a.es))) (PR26 w3.heap.size Bx W2.heap.size t2 n i xe (t2 : Int) nv (.slice ave E26.length cve)) w.heap.size E26 ⟨i, xe, nv - 1⟩ (.slice ave E26.length cve) (l.setIfInBounds 15 true) [u0, u1, u2, u3, u4, u5, u6, u7, u8, u9, u10, u11, u12, u13, u14] tag' W' → ∀ a', puts _ _ [u0, u1, u2, u3, u4, u5, u6, u7, u8, u9, u10, u11, u12, u13, u14] = a' → K' a' W') := fun W' tag' h a' e => hK _ a' W' e ⟨tag', h⟩
                            have d14 : l.getD 14 false = true := by
                              simp [Region.binds] at hd
                              simp [hd]
                            have d13 : l.getD 13 false = true := by
                              simp [Region.binds] at hd
                              simp [hd]
                            obtain rfl : u14 = _ := hI.pure 14 (by decide) d14
                            obtain ⟨a13, c13, e13⟩ := (hI.s13 d13).val
                            obtain rfl : u13 = _ := e13
                            have hp := hI.phi
                            rw [hn] at hp
                            have y0 : W4.cell? ⟨w3.heap.size, 3, none⟩ = some (.slice ave E26.length cve) := hp.1.ob.cell 3
                            have y1 := hp.1.ob.frozen 3
                            have HS := Lib.hid (hI.op15 (b8 := w3.heap.size) hl (fun c c' h => ⟨⟨(h.1.putE c' S1 rfl rfl).1, h.2.1.turn (h.1.putE c' S1 rfl rfl).2 (by decide), belTurn h.2.2.1 (h.1.putE c' S1 rfl rfl).2 h.1.below.size, fun m => (h.2.2.2.1 m).trans (keepsTurn (h.1.putE c' S1 rfl rfl).2), h.2.2.2.2.turn (h.1.putE c' S1 rfl rfl).2 (by decide)⟩, (h.1.putE c' S1 rfl rfl).2⟩) hn d13)
                            clear hp
                            clear hK hl hI hlen hd hn d14 d13
                            refine StepGIn.mk ?_
                            simp only [puts, Act.put]
                            go_simp
                            exact HK.out _ _ HS.out _ (by simp [puts, Act.put])
                          exact StepsIn.nil (Nat.le_refl _)
                        · intro l us W4 hI hall
                          obtain ⟨tg4, hI⟩ := hI
                          have hlen := hI.len
                          obtain ⟨u0, u1, u2, u3, u4, u5, u6, u7, u8, u9, u10, u11, u12, u13, u14, rfl⟩ := list15 hlen
                          have h13 := hI.s13 (hall 13 (by decide))
                          have hp := hI.phi
                          rw [hall 15 (by decide)] at hp
                          obtain ⟨p1, _, p3, p4, p5⟩ := hp
                          have P1 := Lib.hid p1
                          have P3 := Lib.hid p3
                          have P4 := Lib.hid p4
                          have P5 := Lib.hid p5
                          have HE9 : Hid (Row W4 w.heap.size tg4 8 45 3 u13 (E26 ++ [(⟨i, xe, nv - 1⟩ : Ed)]).length (edCells (E26 ++ [(⟨i, xe, nv - 1⟩ : Ed)]))) := by
                            show Row _ _ _ _ _ _ _ _ _
                            rw [List.length_append]
                            exact h13
                          clear hlen hall hI h13 p1 p3 p4 p5
                          simp only [puts, Act.put, List.setIfInBounds_toArray, List.set_cons_succ, List.set_cons_zero]
                          gi_wp2_with fail
                          refine ⟨P4.out _, P3.out, Hmem.out, tg4, vm1, u13, ⟨vq1, ?_⟩, ?_⟩
                          · rw [Hacc.out, Hst.out]
                            exact P1.out.withE _
                          · rw [Hacc.out, Hst.out]
                            exact ⟨HE9.out, P5.out⟩
                  case done =>
                    rintro D W hD ⟨hpre, tag1, vm1, ve1, vq1, hW, hE1, hG1⟩ hd
                    have hW2 := hW.mark (fun D' hD' => hX3.marks.lt hD') hD hX3.below.size hd
                    have hok' := (ROk.fold (inF := inF) (i := i) (subOf a.es t) Hok.out (fun y hy => (Hes.out y (subOf_mem hy)).2.2)).more (m' := (i + 1) * 1000000) (by have := subOf_length a.es t; omega)
                    have hq' := rsFold_q (inF := inF) (i := i) (subOf a.es t) S
                    have hcn := Hok.out.cnt
                    have hsW := hW.below.size
                    have Hfin := Lib.hid ((hW2.up (.cells #[.int .i64 ((i : Int) + 1)] 3) 5).newI (b' := W.heap.size) (j := i + 1) (Own.new W w.heap.size (tagUp tag1 W.heap.size 5) 5 #[.int .i64 ((i : Int) + 1)] 3 hsW (tagUp_at _ _ _)))
                    have HE9 := Lib.hid (hE1.up (.cells #[.int .i64 ((i : Int) + 1)] 3) 5)
                    have HG9 := Lib.hid (hG1.up (.cells #[.int .i64 ((i : Int) + 1)] 3) 5)
                    have Hok9 := Lib.hid hok'
                    have q2 : W.cell? ⟨bi, 0, none⟩ = some (.int .i64 i) := hW.io.cell 0
                    have hil := hW.io.lt
                    have hml9 : ms'.length ≤ i + 1 := by
                      rw [Hms'.out]
                      split
                      · rw [List.length_append, List.length_singleton]; omega
                      · omega
                    clear hpre hd hW hW2 hE1 hG1 hok' hseq hX3 hE3 hG3
                    go_wp2_with fail
                    refine Handed.intro (n + 1 - (i + 1)) (by omega) (hJ _ _ _ ?_)
                    repeat apply Exists.intro
                    exact ⟨Hfin.out, HE9.out, HG9.out, Hok9.out, hml9, by omega, Nat.le_trans hlt hq', rfl, by rw [Hms'.out]; exact Hstep.out, rfl⟩
            · have hnl : ¬ (i : Int) < (S.q.length : Int) := by omega
              have HQ : Hid (RL = (S, ms)) := by
                show _ = _
                rw [hRL.out, show n + 1 - i = (n - i) + 1 by omega, rsLoop, if_neg hlt]
              have HX := Lib.hid hX
              have HEr := Lib.hid hE
              have o0 : wr.cell? ⟨w3.heap.size, 0, none⟩ = some (.slice a3 a.al.length c3) := hX.ob.cell 0
              have o1 : wr.cell? ⟨w3.heap.size, 1, none⟩ = some (.int .i64 0) := hX.ob.cell 1
              have o2 : wr.cell? ⟨w3.heap.size, 2, none⟩ = some vm := hX.ob.cell 2
              have o3 : wr.cell? ⟨w3.heap.size, 3, none⟩ = some ve := hX.ob.cell 3
              have of1 := hX.ob.frozen 1
              have r0 : wr.cell? ⟨w.heap.size + 1, 0, none⟩ = some (.slice none 0 0) := hX.rc.cell 0
              have r1 : wr.cell? ⟨w.heap.size + 1, 1, none⟩ = some (.int .i64 0) := hX.rc.cell 1
              have r2 : wr.cell? ⟨w.heap.size + 1, 2, none⟩ = some (.slice none 0 0) := hX.rc.cell 2
              have r3 : wr.cell? ⟨w.heap.size + 1, 3, none⟩ = some (.slice none 0 0) := hX.rc.cell 3
              have rf0 := hX.rc.frozen 0
              have rf1 := hX.rc.frozen 1
              have rf2 := hX.rc.frozen 2
              have rf3 := hX.rc.frozen 3
              obtain ⟨avm, cvm, rfl⟩ := hX.mr.val
              obtain ⟨ave, cve, rfl⟩ := hE.val
              have hne : ¬ w3.heap.size = w.heap.size + 1 := by omega
              have hne2 : ¬ w.heap.size + 1 = w3.heap.size := by omega
              clear hX hE hok hRL
              go_wp2_with fail
              have T1 := Turn.setCell HX.out.ob 1 (.int .i64 (S.q.length : Int))
              have rc1 := HX.out.rc.turn T1 (by decide)
              have rc2 : Own _ w.heap.size (tagUp tag (w.heap.size + 1) 11) 11 (w.heap.size + 1) _ _ := ⟨rc1.heap, tagUp_at _ _ _, rc1.base⟩
              have al2 := (HX.out.al.turn T1 (by decide)).retag (kx := 11) rc1.heap (by decide)
              have mr2 := (HX.out.mr.turn T1 (by decide)).retag (kx := 11) rc1.heap (by decide)
              have er2 := (HEr.out.turn T1 (by decide)).retag (kx := 11) rc1.heap (by decide)
              have hs4 := rc2.store4 (.slice a3 a.al.length c3) (.int .i64 (S.q.length : Int)) (.slice avm ms.length cvm) (.slice ave S.E.length cve)
              have hbl1 := belTurn hbX T1 hbX.size
              have hbl2 := belTurn hbl1 hs4.2 hbl1.size
              refine bodyPostM_ret ((HX.out.marks.turn T1).turn hs4.2) (fun w' hq => ?_)
              have ho := hq.own (B' := w.heap.size) hs4.1
              have al3 := hq.row (al2.turn hs4.2 (by decide))
              have mr3 := hq.row (mr2.turn hs4.2 (by decide))
              have er3 := hq.row (er2.turn hs4.2 (by decide))
              have d0 := ho.cell 0
              have d1 := ho.cell 1
              have d2 := ho.cell 2
              have d3 := ho.cell 3
              refine ⟨.tuple #[.agg #[.slice a3 a.al.length c3, .int .i64 (S.q.length : Int), .slice avm ms.length cvm, .slice ave S.E.length cve], .int .i64 0], by simp [results, Try.results37, go_sem, d0, d1, d2, d3], _, rfl, ?_, hbl2.trans hq.below⟩
              rw [HR1.out, HQ.out]
              refine RestPost.ok HE2.out ⟨_, _, _, rfl, al3.rdI, mr3.rdI, ?_⟩ ⟨a3, avm, ave, _, _, _, _, _, _, _, rfl, al3.fresh_ad, mr3.fresh_ad, er3.fresh_ad⟩
              obtain ⟨a9, c9, e9, h9⟩ := er3.rd
              exact ⟨a9, c9, e9, h9⟩
      · have HR : Hid (R = ⟨a.al, 0, [], []⟩) := by show _ = _; rw [HRR.out, restrictF, if_neg hk]
        have Hs5 := Lib.hid (HO4.out.store4 (.slice a3 a.al.length c3) (.int .i64 0) (.slice none 0 0) (.slice none 0 0))
        by_cases hke : kp.length = 0
        · have hkc : kp = [] := List.eq_nil_of_length_eq_zero hke
          subst hkc
          go_wp2_with fail
          · refine bodyPostM_ret (Marks.nil w.heap.size _) (fun w' hq => ?_)
            have ho := hq.own (B' := w.heap.size) (Hs5.out.1.upR (.cells #[.slice a3 a.al.length c3, .int .i64 0, .slice none 0 0, .slice none 0 0] 31) 6)
            have hrw := hq.row ((Hrow3.out.turn Hs5.out.2 (by decide)).up (.cells #[.slice a3 a.al.length c3, .int .i64 0, .slice none 0 0, .slice none 0 0] 31) 6)
            have d0 := ho.cell 0
            have d1 := ho.cell 1
            have d2 := ho.cell 2
            have d3 := ho.cell 3
            have hbl := belTurn hW3 Hs5.out.2 hW3.size
            refine ⟨.tuple #[.agg #[.slice a3 a.al.length c3, .int .i64 0, .slice none 0 0, .slice none 0 0], .int .i64 0], by simp [results, Try.results37, go_sem, d0, d1, d2, d3], _, rfl, ?_, (hbl.alloc hbl.size (.cells #[.slice a3 a.al.length c3, .int .i64 0, .slice none 0 0, .slice none 0 0] 31)).trans hq.below⟩
            rw [HR.out]
            exact RestPost.ok HE2.out ⟨_, _, _, rfl, hrw.rdI, RdI.nil0 _, ⟨none, 0, rfl, ⟨rfl, Nat.le_refl _, by simp [maxLen], fun _ => rfl, fun _ e => (by cases e), fun _ e => (by cases e)⟩⟩⟩ ⟨a3, none, none, _, _, _, _, _, _, _, rfl, hrw.fresh_ad, fun _ e => (by cases e), fun _ e => (by cases e)⟩
        · have hkp : 0 < kp.length := by omega
          obtain ⟨bk, ok, rfl, hck⟩ := hrk.at_int 0 hkp
          have hck' := keep0 hW3 hck
          have hk0 : kp[0] ≠ 0 := fun e => hk (by rw [List.head?_eq_getElem?, List.getElem?_eq_getElem hkp, e])
          have hk1 : (kp[0] != 0) = true := by simpa using hk0
          have hklen : ((kp.length : Int) == 0) = false := by rw [beq_eq_false_iff_ne]; omega
          have hbkl := World.block_lt_of_cell? _ _ hck'
          dsimp only at hbkl
          have hkI : (0 : Int) < (kp.length : Int) := by omega
          rw [Nat.add_zero] at hck'
          generalize kp[0] = k0 at *
          clear hk hk0 hck
          go_wp2_with fail
          · refine bodyPostM_ret (Marks.nil w.heap.size _) (fun w' hq => ?_)
            have ho := hq.own (B' := w.heap.size) (Hs5.out.1.upR (.cells #[.slice a3 a.al.length c3, .int .i64 0, .slice none 0 0, .slice none 0 0] 31) 6)
            have hrw := hq.row ((Hrow3.out.turn Hs5.out.2 (by decide)).up (.cells #[.slice a3 a.al.length c3, .int .i64 0, .slice none 0 0, .slice none 0 0] 31) 6)
            have d0 := ho.cell 0
            have d1 := ho.cell 1
            have d2 := ho.cell 2
            have d3 := ho.cell 3
            have hbl := belTurn hW3 Hs5.out.2 hW3.size
            refine ⟨.tuple #[.agg #[.slice a3 a.al.length c3, .int .i64 0, .slice none 0 0, .slice none 0 0], .int .i64 0], by simp [results, Try.results37, go_sem, d0, d1, d2, d3], _, rfl, ?_, (hbl.alloc hbl.size (.cells #[.slice a3 a.al.length c3, .int .i64 0, .slice none 0 0, .slice none 0 0] 31)).trans hq.below⟩
            rw [HR.out]
            exact RestPost.ok HE2.out ⟨_, _, _, rfl, hrw.rdI, RdI.nil0 _, ⟨none, 0, rfl, ⟨rfl, Nat.le_refl _, by simp [maxLen], fun _ => rfl, fun _ e => (by cases e), fun _ e => (by cases e)⟩⟩⟩ ⟨a3, none, none, _, _, _, _, _, _, _, rfl, hrw.fresh_ad, fun _ e => (by cases e), fun _ e => (by cases e)⟩
    · have H3 := Lib.hid h3
      have h3' : (setErr n none kp != 0) = true := by simpa using h3
      clear h3
      go_wp2_with fail
      have hs4 := HO4.out.store4 (.slice none 0 0) (.int .i64 0) (.slice none 0 0) (.slice none 0 0)
      refine bodyPostM_ret (Marks.nil w.heap.size _) (fun w' hq => ?_)
      have ho := hq.own (B' := w.heap.size) hs4.1
      have c0 := ho.cell 0
      have c1 := ho.cell 1
      have c2 := ho.cell 2
      have c3 := ho.cell 3
      refine ⟨.tuple #[.agg #[.slice none 0 0, .int .i64 0, .slice none 0 0, .slice none 0 0], .int .i64 (setErr n none kp)], by simp [results, Try.results37, go_sem, c0, c1, c2, c3], _, rfl, ?_, (belTurn hW2 hs4.2 hW2.size).trans hq.below⟩
      rw [show E0 = setErr n none kp by rw [HE.out, err2, if_pos H1.out]]
      exact RestPost.err H3.out
  · have H1 := Lib.hid h1
    have h1' : (a.err != 0) = true := by simpa using h1
    clear h1
    go_wp2_with fail
    have hs4 := HO4.out.store4 (.slice none 0 0) (.int .i64 0) (.slice none 0 0) (.slice none 0 0)
    refine bodyPostM_ret (Marks.nil w.heap.size _) (fun w' hq => ?_)
    have ho := hq.own (B' := w.heap.size) hs4.1
    have c0 := ho.cell 0
    have c1 := ho.cell 1
    have c2 := ho.cell 2
    have c3 := ho.cell 3
    refine ⟨.tuple #[.agg #[.slice none 0 0, .int .i64 0, .slice none 0 0, .slice none 0 0], .int .i64 a.err], by simp [results, Try.results37, go_sem, c0, c1, c2, c3], _, rfl, ?_, (belTurn hW1 hs4.2 hW1.size).trans hq.below⟩
    rw [show E0 = a.err by rw [HE.out, err2, if_neg H1.out]]
    exact RestPost.err H1.out
end Go.Proofs.Ythchkddhibhenaa
