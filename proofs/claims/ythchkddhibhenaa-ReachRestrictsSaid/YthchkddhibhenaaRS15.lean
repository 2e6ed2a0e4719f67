/- The contract of the reference's Restrict. -/
import Derived.Deep.DeepCutAuto
import Derived.Test.YthchkddhibhenaaRS10
import Derived.Test.YthchkddhibhenaaRS14
namespace Go.Proofs.Ythchkddhibhenaa
open Go Go.RowKit Go.Shelf
attribute [local go_sem] Oper.semAt_some

/-- What holds of the slots of a region. -/
def RA12 (xf : Int) (_xt : Int) (Bx : Nat) (vq : Value) (i : Nat) (bq : Nat) (oq : Nat) (s : Int) (_vk : Value) (_hb : Bool) : Nat → Value → World → Prop
  | 0, v, _ => v = .pointer (some ⟨Bx, 0, none⟩)
  | 1, v, _ => v = .int .i64 xf
  | 2, v, _ => v = vq
  | 3, v, _ => v = .int .i64 (i : Nat)
  | 4, v, _ => v = .pointer (some ⟨bq, oq + i, none⟩)
  | 5, v, _ => v = .int .i64 s
  | 6, v, _ => v = .bool true
  | 7, v, _ => v = .bool true
  | 8, v, _ => v = undef
  | 9, v, _ => v = undef
  | 10, v, _ => v = undef
  | 11, v, _ => v = undef
  | 12, v, _ => v = undef
  | 13, v, _ => v = .bool true
  | _ + 14, _, _ => False
theorem RA12_mono {xf : Int} {xt : Int} {Bx : Nat} {vq : Value} {i : Nat} {bq : Nat} {oq : Nat} {s : Int} {vk : Value} {hb : Bool} : ∀ j v W W', Below W.heap.size W W' → RA12 xf xt Bx vq i bq oq s vk hb j v W → RA12 xf xt Bx vq i bq oq s vk hb j v W'
  | 0, _, _, _, _, h => h
  | 1, _, _, _, _, h => h
  | 2, _, _, _, _, h => h
  | 3, _, _, _, _, h => h
  | 4, _, _, _, _, h => h
  | 5, _, _, _, _, h => h
  | 6, _, _, _, _, h => h
  | 7, _, _, _, _, h => h
  | 8, _, _, _, _, h => h
  | 9, _, _, _, _, h => h
  | 10, _, _, _, _, h => h
  | 11, _, _, _, _, h => h
  | 12, _, _, _, _, h => h
  | 13, _, _, _, _, h => h
  | _ + 14, _, _, _, _, h => h.elim
theorem list_RA12 {us : List Value} (h : us.length = 14) : ∃ u0 u1 u2 u3 u4 u5 u6 u7 u8 u9 u10 u11 u12 u13, us = [u0, u1, u2, u3, u4, u5, u6, u7, u8, u9, u10, u11, u12, u13] := by
  match us, h with
  | [u0, u1, u2, u3, u4, u5, u6, u7, u8, u9, u10, u11, u12, u13], _ => exact ⟨_, _, _, _, _, _, _, _, _, _, _, _, _, _, rfl⟩
/-- What holds of the slots of a region. -/
def RB12 (xf : Int) (xt : Int) (Bx : Nat) (vq : Value) (i : Nat) (bq : Nat) (oq : Nat) (s : Int) (vk : Value) (hb : Bool) : Nat → Value → World → Prop
  | 0, v, _ => v = .pointer (some ⟨Bx, 0, none⟩)
  | 1, v, _ => v = .int .i64 xf
  | 2, v, _ => v = vq
  | 3, v, _ => v = .int .i64 (i : Nat)
  | 4, v, _ => v = .pointer (some ⟨bq, oq + i, none⟩)
  | 5, v, _ => v = .int .i64 s
  | 6, v, _ => v = .bool false
  | 7, v, _ => v = .bool false
  | 8, v, _ => v = vk
  | 9, v, _ => v = .pointer (some ⟨Bx, 2, none⟩)
  | 10, v, _ => v = .int .i64 xt
  | 11, v, _ => v = .bool hb
  | 12, v, _ => v = .bool (!hb)
  | 13, v, _ => v = .bool (!hb)
  | _ + 14, _, _ => False
theorem RB12_mono {xf : Int} {xt : Int} {Bx : Nat} {vq : Value} {i : Nat} {bq : Nat} {oq : Nat} {s : Int} {vk : Value} {hb : Bool} : ∀ j v W W', Below W.heap.size W W' → RB12 xf xt Bx vq i bq oq s vk hb j v W → RB12 xf xt Bx vq i bq oq s vk hb j v W'
  | 0, _, _, _, _, h => h
  | 1, _, _, _, _, h => h
  | 2, _, _, _, _, h => h
  | 3, _, _, _, _, h => h
  | 4, _, _, _, _, h => h
  | 5, _, _, _, _, h => h
  | 6, _, _, _, _, h => h
  | 7, _, _, _, _, h => h
  | 8, _, _, _, _, h => h
  | 9, _, _, _, _, h => h
  | 10, _, _, _, _, h => h
  | 11, _, _, _, _, h => h
  | 12, _, _, _, _, h => h
  | 13, _, _, _, _, h => h
  | _ + 14, _, _, _, _, h => h.elim
theorem list_RB12 {us : List Value} (h : us.length = 14) : ∃ u0 u1 u2 u3 u4 u5 u6 u7 u8 u9 u10 u11 u12 u13, us = [u0, u1, u2, u3, u4, u5, u6, u7, u8, u9, u10, u11, u12, u13] := by
  match us, h with
  | [u0, u1, u2, u3, u4, u5, u6, u7, u8, u9, u10, u11, u12, u13], _ => exact ⟨_, _, _, _, _, _, _, _, _, _, _, _, _, _, rfl⟩
/-- What holds of the slots of a region. -/
def RB20 (B : Nat) (vms : Value) (vq : Value) (i : Nat) (bq : Nat) (oq : Nat) (s : Int) (hb : Bool) : Nat → Value → World → Prop
  | 0, v, _ => v = .pointer (some ⟨B, 2, none⟩)
  | 1, v, _ => v = vms
  | 2, v, _ => v = vq
  | 3, v, _ => v = .int .i64 (i : Nat)
  | 4, v, _ => v = .pointer (some ⟨bq, oq + i, none⟩)
  | 5, v, _ => v = .int .i64 s
  | 6, v, _ => v = .bool hb
  | _ + 7, _, _ => False
theorem RB20_mono {B : Nat} {vms : Value} {vq : Value} {i : Nat} {bq : Nat} {oq : Nat} {s : Int} {hb : Bool} : ∀ j v W W', Below W.heap.size W W' → RB20 B vms vq i bq oq s hb j v W → RB20 B vms vq i bq oq s hb j v W'
  | 0, _, _, _, _, h => h
  | 1, _, _, _, _, h => h
  | 2, _, _, _, _, h => h
  | 3, _, _, _, _, h => h
  | 4, _, _, _, _, h => h
  | 5, _, _, _, _, h => h
  | 6, _, _, _, _, h => h
  | _ + 7, _, _, _, _, h => h.elim
theorem list_RB20 {us : List Value} (h : us.length = 7) : ∃ u0 u1 u2 u3 u4 u5 u6, us = [u0, u1, u2, u3, u4, u5, u6] := by
  match us, h with
  | [u0, u1, u2, u3, u4, u5, u6], _ => exact ⟨_, _, _, _, _, _, _, rfl⟩
/-- The rest while an edge is appended. -/
def PhiZ (w : World) (c0 c1 c2 c3 : Value) (b8 : Nat) (va vm vq : Value) (q ms : List Int) (cn : Value) (Bx : Nat) (xf xe xt : Int) (c : Value) (tag : Nat → Nat) (W : World) : Prop :=
  RC w c0 c1 c2 c3 b8 va W tag vm c vq q ms cn ∧ Own W w.heap.size tag 10 Bx #[.int .i64 xf, .int .i64 xe, .int .i64 xt] 45
/-- The slots of the region that hold no memory of the edges. -/
def PR15 (b8 Bx i : Nat) (xe xt nv : Int) (ve vq : Value) : Nat → Value → Prop
  | 0, v => v = .pointer (some ⟨b8, 3, none⟩)
  | 1, v => v = ve
  | 2, v => v = .int .i64 (i : Int)
  | 3, v => v = .pointer (some ⟨Bx, 1, none⟩)
  | 4, v => v = .int .i64 xe
  | 5, v => v = vq
  | 6, v => v = .pointer (some ⟨Bx, 2, none⟩)
  | 7, v => v = .int .i64 xt
  | 8, v => v = .int .i64 nv
  | 9, v => v = .agg #[.int .i64 (i : Int), .int .i64 xe, .int .i64 nv]
  | 12, v => v = .pointer (some ⟨b8, 3, none⟩)
  | _, _ => True
set_option maxRecDepth 100000 in
set_option maxHeartbeats 6000000 in
theorem rrest_any (v vk : Value) (a : Aut) (kp : List Int) (w : World) (ha : RdA w v a) (hs : a.small) (hok : a.Ok) (hk : RdI w vk kp) (hlk : kp.length ≤ 1000000) :
    Calls Try.prog 38 #[v, vk] w (Ret w fun u w' => RdA w' u (rrestrictF a kp)) := by
  have Ha := Lib.hid ha
  have Hk := Lib.hid hk
  obtain ⟨va, vm, ve, rfl, ⟨aa, ca, rfl, hra⟩, ⟨am, cm, rfl, hrm⟩, ⟨ae, ce, rfl, hre⟩⟩ := ha
  obtain ⟨ak, ck, rfl, hrk⟩ := hk
  have hae := hs.es
  have hal := hs.al
  have hams := hs.ms
  have Hes := Lib.hid hok.es
  have hn0 := hok.n0
  have hn1 := hok.n1
  have hHR : Hid (rrestrictF a kp = rrestrictF a kp) := rfl
  generalize hRR : rrestrictF a kp = R at *
  have HRR := Lib.hid hRR.symm
  clear hRR hHR hs hok
  generalize hn : a.n = an at *
  obtain ⟨n, rfl⟩ := Int.eq_ofNat_of_zero_le hn0
  have Hn := Lib.hid hn
  clear hn hn0
  go_enter Try.func38, Try.ntmps38
  have hB0 : Below w.heap.size w (((w.alloc (.cells #[.slice aa a.al.length ca, .int .i64 n, .slice am a.ms.length cm, .slice ae a.es.length ce] 31)).alloc (.cells #[.slice none 0 0, .int .i64 0, .slice none 0 0, .slice none 0 0] 31)).alloc (.cells #[.slice aa a.al.length ca, .int .i64 0, .slice none 0 0, .slice none 0 0] 31)) := by (repeat (first | with_reducible exact Below.refl _ _ | with_reducible exact Ha | (with_reducible refine belCall ?_ Ha (by first | omega | (simp; done) | (simp; omega) | (simp at *; omega))) | (with_reducible refine Below.alloc ?_ (by first | omega | (simp; done) | (simp; omega) | (simp at *; omega)) _) | (with_reducible refine Below.drew ?_) | (with_reducible refine Below.setCell ?_ (by first | omega | (simp; done) | (simp; omega) | (simp at *; omega)) _)))
  by_cases h0 : n = 0
  · subst h0
    have HR : Hid (R = ⟨a.al, 0, [], []⟩) := by show _ = _; rw [HRR.out, rrestrictF, if_pos (.inl Hn.out)]
    go_wp2_with fail
    have hBz : Below w.heap.size w (((w.alloc (.cells #[.slice aa a.al.length ca, .int .i64 0, .slice am a.ms.length cm, .slice ae a.es.length ce] 31)).alloc (.cells #[.slice aa a.al.length ca, .int .i64 0, .slice none 0 0, .slice none 0 0] 31)).alloc (.cells #[.slice aa a.al.length ca, .int .i64 0, .slice none 0 0, .slice none 0 0] 31)) := by (repeat (first | with_reducible exact Below.refl _ _ | with_reducible exact Ha | (with_reducible refine belCall ?_ Ha (by first | omega | (simp; done) | (simp; omega) | (simp at *; omega))) | (with_reducible refine Below.alloc ?_ (by first | omega | (simp; done) | (simp; omega) | (simp at *; omega)) _) | (with_reducible refine Below.drew ?_) | (with_reducible refine Below.setCell ?_ (by first | omega | (simp; done) | (simp; omega) | (simp at *; omega)) _)))
    refine bodyPost_ret (v := .agg #[.slice aa a.al.length ca, .int .i64 0, .slice none 0 0, .slice none 0 0]) (by simp [results, Try.results38, go_sem]) rfl ⟨_, rfl, ?_, hBz⟩
    rw [HR.out]
    exact ⟨_, _, _, rfl, ⟨aa, ca, rfl, hra.mono hBz⟩, RdI.nil0 _, ⟨none, 0, rfl, ⟨rfl, Nat.le_refl _, by simp [maxLen], fun _ => rfl, fun _ e => (by cases e), fun _ e => (by cases e)⟩⟩⟩
  · have hnp : 0 < n := by omega
    have hnI : ((n : Int) == 0) = false := by rw [beq_eq_false_iff_ne]; omega
    clear h0
    cases hb : hasB kp 0 with
    | false =>
      have HR : Hid (R = ⟨a.al, 0, [], []⟩) := by show _ = _; rw [HRR.out, rrestrictF, if_pos (.inr hb)]
      have hh := fun W h => has_any (.slice ak kp.length ck) kp 0 W h hlk
      rw [hb] at hh
      have Hh := Lib.hid hh
      clear hh hb
      go_wp2_with (go_at_call 50; ((with_reducible refine (Hh.out _ (Hk.out.mono (by (repeat (first | with_reducible exact Below.refl _ _ | with_reducible exact hB0 | (with_reducible refine belCall ?_ hB0 (by first | omega | (simp; done) | (simp; omega) | (simp at *; omega))) | (with_reducible refine Below.alloc ?_ (by first | omega | (simp; done) | (simp; omega) | (simp at *; omega)) _) | (with_reducible refine Below.drew ?_) | (with_reducible refine Below.setCell ?_ (by first | omega | (simp; done) | (simp; omega) | (simp at *; omega)) _)))))).mono ?_); rintro e w1 ⟨rfl, rfl⟩))
      have hBz : Below w.heap.size w (((w.alloc (.cells #[.slice aa a.al.length ca, .int .i64 n, .slice am a.ms.length cm, .slice ae a.es.length ce] 31)).alloc (.cells #[.slice aa a.al.length ca, .int .i64 0, .slice none 0 0, .slice none 0 0] 31)).alloc (.cells #[.slice aa a.al.length ca, .int .i64 0, .slice none 0 0, .slice none 0 0] 31)) := by (repeat (first | with_reducible exact Below.refl _ _ | with_reducible exact Ha | (with_reducible refine belCall ?_ Ha (by first | omega | (simp; done) | (simp; omega) | (simp at *; omega))) | (with_reducible refine Below.alloc ?_ (by first | omega | (simp; done) | (simp; omega) | (simp at *; omega)) _) | (with_reducible refine Below.drew ?_) | (with_reducible refine Below.setCell ?_ (by first | omega | (simp; done) | (simp; omega) | (simp at *; omega)) _)))
      refine bodyPost_ret (v := .agg #[.slice aa a.al.length ca, .int .i64 0, .slice none 0 0, .slice none 0 0]) (by simp [results, Try.results38, go_sem]) rfl ⟨_, rfl, ?_, hBz⟩
      rw [HR.out]
      exact ⟨_, _, _, rfl, ⟨aa, ca, rfl, hra.mono hBz⟩, RdI.nil0 _, ⟨none, 0, rfl, ⟨rfl, Nat.le_refl _, by simp [maxLen], fun _ => rfl, fun _ e => (by cases e), fun _ e => (by cases e)⟩⟩⟩
    | true =>
      have HR1 : Hid (R = ⟨a.al, ((rrLoop a.es kp (n + 1) 0 ([0], [])).1.length : Int), rrMs a.ms (rrLoop a.es kp (n + 1) 0 ([0], [])).1, (rrLoop a.es kp (n + 1) 0 ([0], [])).2⟩) := by
        show _ = _
        rw [HRR.out, rrestrictF, Hn.out, if_neg (by rw [hb]; simp; omega), Int.toNat_natCast]
      have hh := fun W h => has_any (.slice ak kp.length ck) kp 0 W h hlk
      rw [hb] at hh
      have Hh := Lib.hid hh
      clear hh hb HRR
      generalize hRL : rrLoop a.es kp (n + 1) 0 ([0], []) = RL at *
      have HRL0 : Hid (RL = rrLoop a.es kp (n + 1 - 0) 0 ([0], [])) := by show _ = _; rw [← hRL]; rfl
      clear hRL
      go_wp2_with (go_at_call 50; ((with_reducible refine (Hh.out _ (Hk.out.mono (by (repeat (first | with_reducible exact Below.refl _ _ | with_reducible exact hB0 | (with_reducible refine belCall ?_ hB0 (by first | omega | (simp; done) | (simp; omega) | (simp at *; omega))) | (with_reducible refine Below.alloc ?_ (by first | omega | (simp; done) | (simp; omega) | (simp at *; omega)) _) | (with_reducible refine Below.drew ?_) | (with_reducible refine Below.setCell ?_ (by first | omega | (simp; done) | (simp; omega) | (simp at *; omega)) _)))))).mono ?_); rintro e w1 ⟨rfl, rfl⟩))
      obtain ⟨i0, hi, hz0, hz1, hz2⟩ := info_parts Try.info_int
      obtain ⟨j1, hj1, hj2, hj3, hj4⟩ := info_parts Try.info_edge
      have HC0 : Hid (RC w (.slice aa a.al.length ca) (.int .i64 n) (.slice am a.ms.length cm) (.slice ae a.es.length ce) (w.heap.size + 1 + 1) (.slice aa a.al.length ca) ((((w.alloc (.cells #[.slice aa a.al.length ca, .int .i64 n, .slice am a.ms.length cm, .slice ae a.es.length ce] 31)).alloc (.cells #[.slice none 0 0, .int .i64 0, .slice none 0 0, .slice none 0 0] 31)).alloc (.cells #[.slice aa a.al.length ca, .int .i64 0, .slice none 0 0, .slice none 0 0] 31)).alloc (.cells #[.int .i64 0] 3)) (fun b => if b = w.heap.size + 1 + 1 then 6 else if b = w.heap.size + 1 + 1 + 1 then 4 else 0) (.slice none 0 0) (.slice none 0 0) (.slice (some ⟨w.heap.size + 1 + 1 + 1, 0, none⟩) 1 1) [0] [] (.int .i64 0)) :=
        ⟨(by (repeat (first | with_reducible exact Below.refl _ _ | with_reducible exact Ha | (with_reducible refine belCall ?_ Ha (by first | omega | (simp; done) | (simp; omega) | (simp at *; omega))) | (with_reducible refine Below.alloc ?_ (by first | omega | (simp; done) | (simp; omega) | (simp at *; omega)) _) | (with_reducible refine Below.drew ?_) | (with_reducible refine Below.setCell ?_ (by first | omega | (simp; done) | (simp; omega) | (simp at *; omega)) _)))), ⟨(by repeat (first | with_reducible assumption | (with_reducible refine heap_at ?_; (first | (simp; done) | (simp; omega))) | (with_reducible refine heap_past ?_ ?_; (next => first | omega | (simp; done) | (simp; omega))))), (by (try dsimp only); (repeat' split); all_goals omega), by omega⟩, ⟨(by repeat (first | with_reducible assumption | (with_reducible refine heap_at ?_; (first | (simp; done) | (simp; omega))) | (with_reducible refine heap_past ?_ ?_; (next => first | omega | (simp; done) | (simp; omega))))), (by (try dsimp only); (repeat' split); all_goals omega), by omega⟩, ⟨(by repeat (first | with_reducible assumption | (with_reducible refine heap_at ?_; (first | (simp; done) | (simp; omega))) | (with_reducible refine heap_past ?_ ?_; (next => first | omega | (simp; done) | (simp; omega))))), (by (try dsimp only); (repeat' split); all_goals omega), by omega⟩, ⟨by simp, .inr ⟨_, 0, 1, _, rfl, ⟨(by repeat (first | with_reducible assumption | (with_reducible refine heap_at ?_; (first | (simp; done) | (simp; omega))) | (with_reducible refine heap_past ?_ ?_; (next => first | omega | (simp; done) | (simp; omega))))), (by (try dsimp only); (repeat' split); all_goals omega), by omega⟩, Nat.le_refl _, by simp [maxLen], by simp, by simp⟩⟩, Row.nil _ _ _ _ _ _⟩
      go_loopw [6, 7] (fun vq vi wr => ∃ (tag : Nat → Nat) (ve : Value) (i : Nat) (S : List Int × List Ed), vi = .int .i64 (i : Nat) ∧ RC w (.slice aa a.al.length ca) (.int .i64 n) (.slice am a.ms.length cm) (.slice ae a.es.length ce) (w.heap.size + 1 + 1) (.slice aa a.al.length ca) wr tag (.slice none 0 0) ve vq S.1 [] (.int .i64 0) ∧ Row wr w.heap.size tag 8 45 3 ve S.2.length (edCells S.2) ∧ QOk n S.1 ∧ S.2.length ≤ i * 1000000 ∧ i ≤ S.1.length ∧ Hid (RL = rrLoop a.es kp (n + 1 - i) i S)) (fun _ vi _ => n + 1 - (intOf vi).toNat)
      case atStart => exact ⟨_, .slice none 0 0, 0, ([0], []), rfl, HC0.out, Row.nil _ _ _ _ _ _, ⟨by simp, fun s hs => by rw [List.mem_singleton.1 hs]; omega⟩, by rw [Nat.zero_mul]; exact Nat.le_refl _, Nat.zero_le _, HRL0.out⟩
      case round =>
        clear HC0 HRL0 hB0
        obtain ⟨tag, ve, i, S, rfl, hC, hE, hq, hel, hiq, hRL⟩ := hrel
        obtain ⟨avq, cvq, rfl⟩ := hC.qr.val
        have hqn := hq.len
        have hbX := hC.below
        have hsX := hbX.size
        by_cases hlt : i < S.1.length
        · have hltI : (i : Int) < (S.1.length : Int) := by omega
          have Hs8 : Hid (S.1.getD i 0 = S.1[i]) := by show _ = _; rw [List.getD_eq_getElem?_getD, List.getElem?_eq_getElem hlt]; rfl
          have Hstep : Hid (RL = rrLoop a.es kp (n + 1 - (i + 1)) (i + 1) (a.es.foldl (rrStep kp S.1[i] i) S)) := by
            show _ = _
            rw [hRL.out, show n + 1 - i = (n + 1 - (i + 1)) + 1 by omega, rrLoop, if_pos hlt, Hs8.out]
          generalize hs9 : S.1[i] = s0 at *
          clear hs9 hRL
          have HC := Lib.hid hC
          have HE := Lib.hid hE
          have Hq := Lib.hid hq
          clear hC hE hq
          go_wp2_with fail
          go_loopw [6, 8] (fun vq vk wr => ∃ (tag : Nat → Nat) (ve : Value) (k : Nat) (S0 : List Int × List Ed), vk = .int .i64 (k : Nat) ∧ k ≤ a.es.length ∧ RC w (.slice aa a.al.length ca) (.int .i64 n) (.slice am a.ms.length cm) (.slice ae a.es.length ce) (w.heap.size + 1 + 1) (.slice aa a.al.length ca) wr tag (.slice none 0 0) ve vq S0.1 [] (.int .i64 0) ∧ Row wr w.heap.size tag 8 45 3 ve S0.2.length (edCells S0.2) ∧ QOk n S0.1 ∧ S0.2.length ≤ i * 1000000 + k ∧ i < S0.1.length ∧ Hid (S0.1.getD i 0 = s0) ∧ Hid (a.es.foldl (rrStep kp s0 i) S = (a.es.drop k).foldl (rrStep kp s0 i) S0)) (fun _ vk _ => a.es.length - (intOf vk).toNat)
          case atStart => exact ⟨tag, ve, 0, S, rfl, Nat.zero_le _, HC.out, HE.out, Hq.out, Nat.le_trans hel (Nat.le_add_right _ _), hlt, Hs8, rfl⟩
          case round =>
            clear HC HE Hq
            obtain ⟨tag, ve, k, S0, rfl, hk, hC, hE, hq, hel2, hlt2, hs0, hfold⟩ := hrel
            have hbX := hC.below
            have hsX := hbX.size
            have c3 : wr.cell? ⟨w.heap.size, 3, none⟩ = some (.slice ae a.es.length ce) := hC.ab.cell 3
            have hcl := hC.ab.lt
            by_cases hltk : k < a.es.length
            · have hltkI : (k : Int) < (a.es.length : Int) := by omega
              obtain ⟨be, offe, rfl, d0, d1, d2⟩ := hre.at_edge k hltk
              replace d0 := keep0 hbX d0
              replace d1 := keep0 hbX d1
              replace d2 := keep0 hbX d2
              have hxm := Hes.out _ (List.getElem_mem hltk)
              have hfold2 : Hid (a.es.foldl (rrStep kp s0 i) S = (a.es.drop (k + 1)).foldl (rrStep kp s0 i) (rrStep kp s0 i S0 a.es[k])) := by
                show _ = _
                rw [hfold.out, List.drop_eq_getElem_cons hltk, List.foldl_cons]
              clear hfold
              generalize a.es[k] = x at *
              obtain ⟨xf, xe, xt⟩ := x
              dsimp only at d0 d1 d2 hxm
              obtain ⟨t2, rfl⟩ := Int.eq_ofNat_of_zero_le hxm.2.2.1
              have ht2I : (t2 : Int) < (n : Int) := by omega
              have HXb := Lib.hid (hC.up (.cells #[.int .i64 xf, .int .i64 xe, .int .i64 (t2 : Int)] 45) 10)
              have HEb := Lib.hid (hE.up (.cells #[.int .i64 xf, .int .i64 xe, .int .i64 (t2 : Int)] 45) 10)
              have HOx := Lib.hid (Own.new wr w.heap.size (tagUp tag wr.heap.size 10) 10 #[.int .i64 xf, .int .i64 xe, .int .i64 (t2 : Int)] 45 hsX (tagUp_at _ _ _))
              have Hq := Lib.hid hq
              have hqn0 := hq.len
              obtain ⟨bq, oq, cvq, rfl, _⟩ := hC.qr.at_int i hlt2
              have hsi : S0.1[i] = s0 := by rw [← hs0.out, List.getD_eq_getElem?_getD, List.getElem?_eq_getElem hlt2]; rfl
              have hltI2 : (i : Int) < (S0.1.length : Int) := by omega
              clear hC hE hq
              go_upto_region 12 with fail
              clear d0 d1 d2 c3
              generalize hBx : wr.heap.size = Bx at *
              generalize wr.alloc (.cells #[.int .i64 xf, .int .i64 xe, .int .i64 (t2 : Int)] 45) = wb at *
              have x0 : wb.cell? ⟨Bx, 0, none⟩ = some (.int .i64 xf) := HOx.out.cell 0
              have x2 : wb.cell? ⟨Bx, 2, none⟩ = some (.int .i64 (t2 : Int)) := HOx.out.cell 2
              have hBxl := HOx.out.lt
              obtain ⟨_, _, _, e6, hqcl, _, qc⟩ := HXb.out.qr.at_int i hlt2
              cases e6
              rw [hsi] at qc
              have hbWd := HXb.out.below.drew
              have hszb := HXb.out.below.size
              by_cases hf : xf = s0
              · have hst := fun (h : hasB kp (t2 : Int) = true) => rrStep_yes (i := i) (S := S0) (x := ⟨xf, xe, (t2 : Int)⟩) hf h
                have hsn := fun (h : hasB kp (t2 : Int) = false) => rrStep_no (i := i) (S := S0) (x := ⟨xf, xe, (t2 : Int)⟩) (s := s0) (.inr h)
                have Hst := Lib.hid hst
                have Hsn := Lib.hid hsn
                have hh := fun W h => has_any (.slice ak kp.length ck) kp (t2 : Int) W h hlk
                clear Hh hst hsn
                generalize hasB kp (t2 : Int) = hb at *
                have Hh := Lib.hid hh
                have hfb : (xf != s0) = false := by simpa using hf
                clear hh hf
                refine wp_region_mono2 (RB12 (xf) (((t2 : Nat) : Int)) (Bx) (.slice (some ⟨bq, oq, none⟩) S0.1.length cvq) (i) (bq) (oq) (s0) (.slice ak kp.length ck) (hb)) [42, 43, 44, 45, 46, 47, 48, 49, 50, 51, 52, 53, 54, 55] RB12_mono rfl (by kernel_rfl) (by kernel_rfl) ?_ ?_
                · skip
                  refine Steps.cons rfl ?_ ?_
                  · intro l us W hl hI hd hn K' hK
                    have hHas := hI.has
                    have hbel := hI.bel
                    have hlen := hI.len
                    obtain ⟨u0, u1, u2, u3, u4, u5, u6, u7, u8, u9, u10, u11, u12, u13, rfl⟩ := list_RB12 hlen
                    have HK : Hid (∀ v W', Below W.heap.size W W' → RB12 (xf) (((t2 : Nat) : Int)) (Bx) (.slice (some ⟨bq, oq, none⟩) S0.1.length cvq) (i) (bq) (oq) (s0) (.slice ak kp.length ck) (hb) 0 v W' → ∀ a', puts _ _ [v, u1, u2, u3, u4, u5, u6, u7, u8, u9, u10, u11, u12, u13] = a' → K' a' W') := fun v W' hb hv a' e => hK _ a' W' e (hI.step RB12_mono hl hb hv)
                    have hWW := hbWd.trans (hbel.mono hbWd.size)
                    clear hl hI hd hn hK hHas hlen 
                    refine StepG.mk ?_
                    simp only [puts, Act.put]
                    go_simp
                    exact HK.out (.pointer (some ⟨Bx, 0, none⟩)) _ (Below.refl _ _) rfl _ (by simp [puts, Act.put])
                  refine Steps.cons rfl ?_ ?_
                  · intro l us W hl hI hd hn K' hK
                    have hHas := hI.has
                    have hbel := hI.bel
                    have hlen := hI.len
                    obtain ⟨u0, u1, u2, u3, u4, u5, u6, u7, u8, u9, u10, u11, u12, u13, rfl⟩ := list_RB12 hlen
                    have HK : Hid (∀ v W', Below W.heap.size W W' → RB12 (xf) (((t2 : Nat) : Int)) (Bx) (.slice (some ⟨bq, oq, none⟩) S0.1.length cvq) (i) (bq) (oq) (s0) (.slice ak kp.length ck) (hb) 1 v W' → ∀ a', puts _ _ [u0, v, u2, u3, u4, u5, u6, u7, u8, u9, u10, u11, u12, u13] = a' → K' a' W') := fun v W' hb hv a' e => hK _ a' W' e (hI.step RB12_mono hl hb hv)
                    have hWW := hbWd.trans (hbel.mono hbWd.size)
                    have y := keep hbel x0 hBxl
                    have d0 : l.getD 0 false = true := by
                      simp [Region.binds] at hd
                      simp [hd]
                    obtain rfl : u0 = _ := hHas 0 (by decide) d0
                    clear hl hI hd hn hK hHas hlen d0
                    refine StepG.mk ?_
                    simp only [puts, Act.put]
                    go_simp
                    exact HK.out (.int .i64 xf) _ (Below.refl _ _) rfl _ (by simp [puts, Act.put])
                  refine Steps.cons rfl ?_ ?_
                  · intro l us W hl hI hd hn K' hK
                    have hHas := hI.has
                    have hbel := hI.bel
                    have hlen := hI.len
                    obtain ⟨u0, u1, u2, u3, u4, u5, u6, u7, u8, u9, u10, u11, u12, u13, rfl⟩ := list_RB12 hlen
                    have HK : Hid (∀ v W', Below W.heap.size W W' → RB12 (xf) (((t2 : Nat) : Int)) (Bx) (.slice (some ⟨bq, oq, none⟩) S0.1.length cvq) (i) (bq) (oq) (s0) (.slice ak kp.length ck) (hb) 2 v W' → ∀ a', puts _ _ [u0, u1, v, u3, u4, u5, u6, u7, u8, u9, u10, u11, u12, u13] = a' → K' a' W') := fun v W' hb hv a' e => hK _ a' W' e (hI.step RB12_mono hl hb hv)
                    have hWW := hbWd.trans (hbel.mono hbWd.size)
                    clear hl hI hd hn hK hHas hlen 
                    refine StepG.mk ?_
                    simp only [puts, Act.put]
                    go_simp
                    exact HK.out ((.slice (some ⟨bq, oq, none⟩) S0.1.length cvq)) _ (Below.refl _ _) rfl _ (by simp [puts, Act.put])
                  refine Steps.cons rfl ?_ ?_
                  · intro l us W hl hI hd hn K' hK
                    have hHas := hI.has
                    have hbel := hI.bel
                    have hlen := hI.len
                    obtain ⟨u0, u1, u2, u3, u4, u5, u6, u7, u8, u9, u10, u11, u12, u13, rfl⟩ := list_RB12 hlen
                    have HK : Hid (∀ v W', Below W.heap.size W W' → RB12 (xf) (((t2 : Nat) : Int)) (Bx) (.slice (some ⟨bq, oq, none⟩) S0.1.length cvq) (i) (bq) (oq) (s0) (.slice ak kp.length ck) (hb) 3 v W' → ∀ a', puts _ _ [u0, u1, u2, v, u4, u5, u6, u7, u8, u9, u10, u11, u12, u13] = a' → K' a' W') := fun v W' hb hv a' e => hK _ a' W' e (hI.step RB12_mono hl hb hv)
                    have hWW := hbWd.trans (hbel.mono hbWd.size)
                    clear hl hI hd hn hK hHas hlen 
                    refine StepG.mk ?_
                    simp only [puts, Act.put]
                    go_simp
                    exact HK.out (.int .i64 (i : Nat)) _ (Below.refl _ _) rfl _ (by simp [puts, Act.put])
                  refine Steps.cons rfl ?_ ?_
                  · intro l us W hl hI hd hn K' hK
                    have hHas := hI.has
                    have hbel := hI.bel
                    have hlen := hI.len
                    obtain ⟨u0, u1, u2, u3, u4, u5, u6, u7, u8, u9, u10, u11, u12, u13, rfl⟩ := list_RB12 hlen
                    have HK : Hid (∀ v W', Below W.heap.size W W' → RB12 (xf) (((t2 : Nat) : Int)) (Bx) (.slice (some ⟨bq, oq, none⟩) S0.1.length cvq) (i) (bq) (oq) (s0) (.slice ak kp.length ck) (hb) 4 v W' → ∀ a', puts _ _ [u0, u1, u2, u3, v, u5, u6, u7, u8, u9, u10, u11, u12, u13] = a' → K' a' W') := fun v W' hb hv a' e => hK _ a' W' e (hI.step RB12_mono hl hb hv)
                    have hWW := hbWd.trans (hbel.mono hbWd.size)
                    have d2 : l.getD 2 false = true := by
                      simp [Region.binds] at hd
                      simp [hd]
                    have d3 : l.getD 3 false = true := by
                      simp [Region.binds] at hd
                      simp [hd]
                    obtain rfl : u2 = _ := hHas 2 (by decide) d2
                    obtain rfl : u3 = _ := hHas 3 (by decide) d3
                    clear hl hI hd hn hK hHas hlen d2 d3
                    refine StepG.mk ?_
                    simp only [puts, Act.put]
                    go_simp
                    exact HK.out (.pointer (some ⟨bq, oq + i, none⟩)) _ (Below.refl _ _) rfl _ (by simp [puts, Act.put])
                  refine Steps.cons rfl ?_ ?_
                  · intro l us W hl hI hd hn K' hK
                    have hHas := hI.has
                    have hbel := hI.bel
                    have hlen := hI.len
                    obtain ⟨u0, u1, u2, u3, u4, u5, u6, u7, u8, u9, u10, u11, u12, u13, rfl⟩ := list_RB12 hlen
                    have HK : Hid (∀ v W', Below W.heap.size W W' → RB12 (xf) (((t2 : Nat) : Int)) (Bx) (.slice (some ⟨bq, oq, none⟩) S0.1.length cvq) (i) (bq) (oq) (s0) (.slice ak kp.length ck) (hb) 5 v W' → ∀ a', puts _ _ [u0, u1, u2, u3, u4, v, u6, u7, u8, u9, u10, u11, u12, u13] = a' → K' a' W') := fun v W' hb hv a' e => hK _ a' W' e (hI.step RB12_mono hl hb hv)
                    have hWW := hbWd.trans (hbel.mono hbWd.size)
                    have y := keep hbel qc hqcl
                    have d4 : l.getD 4 false = true := by
                      simp [Region.binds] at hd
                      simp [hd]
                    obtain rfl : u4 = _ := hHas 4 (by decide) d4
                    clear hl hI hd hn hK hHas hlen d4
                    refine StepG.mk ?_
                    simp only [puts, Act.put]
                    go_simp
                    exact HK.out (.int .i64 s0) _ (Below.refl _ _) rfl _ (by simp [puts, Act.put])
                  refine Steps.cons rfl ?_ ?_
                  · intro l us W hl hI hd hn K' hK
                    have hHas := hI.has
                    have hbel := hI.bel
                    have hlen := hI.len
                    obtain ⟨u0, u1, u2, u3, u4, u5, u6, u7, u8, u9, u10, u11, u12, u13, rfl⟩ := list_RB12 hlen
                    have HK : Hid (∀ v W', Below W.heap.size W W' → RB12 (xf) (((t2 : Nat) : Int)) (Bx) (.slice (some ⟨bq, oq, none⟩) S0.1.length cvq) (i) (bq) (oq) (s0) (.slice ak kp.length ck) (hb) 6 v W' → ∀ a', puts _ _ [u0, u1, u2, u3, u4, u5, v, u7, u8, u9, u10, u11, u12, u13] = a' → K' a' W') := fun v W' hb hv a' e => hK _ a' W' e (hI.step RB12_mono hl hb hv)
                    have hWW := hbWd.trans (hbel.mono hbWd.size)
                    have d1 : l.getD 1 false = true := by
                      simp [Region.binds] at hd
                      simp [hd]
                    have d5 : l.getD 5 false = true := by
                      simp [Region.binds] at hd
                      simp [hd]
                    obtain rfl : u1 = _ := hHas 1 (by decide) d1
                    obtain rfl : u5 = _ := hHas 5 (by decide) d5
                    clear hl hI hd hn hK hHas hlen d1 d5
                    refine StepG.mk ?_
                    simp only [puts, Act.put]
                    go_simp
                    exact HK.out (.bool false) _ (Below.refl _ _) rfl _ (by simp [puts, Act.put])
                  refine Steps.cons rfl ?_ ?_
                  · intro l us W hl hI hd hn K' hK
                    have hHas := hI.has
                    have hbel := hI.bel
                    have hlen := hI.len
                    obtain ⟨u0, u1, u2, u3, u4, u5, u6, u7, u8, u9, u10, u11, u12, u13, rfl⟩ := list_RB12 hlen
                    have HK : Hid (∀ v W', Below W.heap.size W W' → RB12 (xf) (((t2 : Nat) : Int)) (Bx) (.slice (some ⟨bq, oq, none⟩) S0.1.length cvq) (i) (bq) (oq) (s0) (.slice ak kp.length ck) (hb) 7 v W' → ∀ a', puts _ _ [u0, u1, u2, u3, u4, u5, u6, v, u8, u9, u10, u11, u12, u13] = a' → K' a' W') := fun v W' hb hv a' e => hK _ a' W' e (hI.step RB12_mono hl hb hv)
                    have hWW := hbWd.trans (hbel.mono hbWd.size)
                    have d6 : l.getD 6 false = true := by
                      simp [Region.binds] at hd
                      simp [hd]
                    obtain rfl : u6 = _ := hHas 6 (by decide) d6
                    clear hl hI hd hn hK hHas hlen d6
                    refine StepG.mk ?_
                    simp only [puts, Act.put]
                    go_simp
                    exact HK.out (.bool false) _ (Below.refl _ _) rfl _ (by simp [puts, Act.put])
                  refine Steps.cons rfl ?_ ?_
                  · intro l us W hl hI hd hn K' hK
                    have hHas := hI.has
                    have hbel := hI.bel
                    have hlen := hI.len
                    obtain ⟨u0, u1, u2, u3, u4, u5, u6, u7, u8, u9, u10, u11, u12, u13, rfl⟩ := list_RB12 hlen
                    have HK : Hid (∀ v W', Below W.heap.size W W' → RB12 (xf) (((t2 : Nat) : Int)) (Bx) (.slice (some ⟨bq, oq, none⟩) S0.1.length cvq) (i) (bq) (oq) (s0) (.slice ak kp.length ck) (hb) 8 v W' → ∀ a', puts _ _ [u0, u1, u2, u3, u4, u5, u6, u7, v, u9, u10, u11, u12, u13] = a' → K' a' W') := fun v W' hb hv a' e => hK _ a' W' e (hI.step RB12_mono hl hb hv)
                    have hWW := hbWd.trans (hbel.mono hbWd.size)
                    have d7 : l.getD 7 false = true := by
                      simp [Region.binds] at hd
                      simp [hd]
                    obtain rfl : u7 = _ := hHas 7 (by decide) d7
                    clear hl hI hd hn hK hHas hlen d7
                    refine StepG.mk ?_
                    simp only [puts, Act.put]
                    go_simp
                    exact HK.out ((.slice ak kp.length ck)) _ (Below.refl _ _) rfl _ (by simp [puts, Act.put])
                  refine Steps.cons rfl ?_ ?_
                  · intro l us W hl hI hd hn K' hK
                    have hHas := hI.has
                    have hbel := hI.bel
                    have hlen := hI.len
                    obtain ⟨u0, u1, u2, u3, u4, u5, u6, u7, u8, u9, u10, u11, u12, u13, rfl⟩ := list_RB12 hlen
                    have HK : Hid (∀ v W', Below W.heap.size W W' → RB12 (xf) (((t2 : Nat) : Int)) (Bx) (.slice (some ⟨bq, oq, none⟩) S0.1.length cvq) (i) (bq) (oq) (s0) (.slice ak kp.length ck) (hb) 9 v W' → ∀ a', puts _ _ [u0, u1, u2, u3, u4, u5, u6, u7, u8, v, u10, u11, u12, u13] = a' → K' a' W') := fun v W' hb hv a' e => hK _ a' W' e (hI.step RB12_mono hl hb hv)
                    have hWW := hbWd.trans (hbel.mono hbWd.size)
                    have d7 : l.getD 7 false = true := by
                      simp [Region.binds] at hd
                      simp [hd]
                    obtain rfl : u7 = _ := hHas 7 (by decide) d7
                    clear hl hI hd hn hK hHas hlen d7
                    refine StepG.mk ?_
                    simp only [puts, Act.put]
                    go_simp
                    exact HK.out (.pointer (some ⟨Bx, 2, none⟩)) _ (Below.refl _ _) rfl _ (by simp [puts, Act.put])
                  refine Steps.cons rfl ?_ ?_
                  · intro l us W hl hI hd hn K' hK
                    have hHas := hI.has
                    have hbel := hI.bel
                    have hlen := hI.len
                    obtain ⟨u0, u1, u2, u3, u4, u5, u6, u7, u8, u9, u10, u11, u12, u13, rfl⟩ := list_RB12 hlen
                    have HK : Hid (∀ v W', Below W.heap.size W W' → RB12 (xf) (((t2 : Nat) : Int)) (Bx) (.slice (some ⟨bq, oq, none⟩) S0.1.length cvq) (i) (bq) (oq) (s0) (.slice ak kp.length ck) (hb) 10 v W' → ∀ a', puts _ _ [u0, u1, u2, u3, u4, u5, u6, u7, u8, u9, v, u11, u12, u13] = a' → K' a' W') := fun v W' hb hv a' e => hK _ a' W' e (hI.step RB12_mono hl hb hv)
                    have hWW := hbWd.trans (hbel.mono hbWd.size)
                    have y := keep hbel x2 hBxl
                    have d7 : l.getD 7 false = true := by
                      simp [Region.binds] at hd
                      simp [hd]
                    have d9 : l.getD 9 false = true := by
                      simp [Region.binds] at hd
                      simp [hd]
                    obtain rfl : u7 = _ := hHas 7 (by decide) d7
                    obtain rfl : u9 = _ := hHas 9 (by decide) d9
                    clear hl hI hd hn hK hHas hlen d7 d9
                    refine StepG.mk ?_
                    simp only [puts, Act.put]
                    go_simp
                    exact HK.out (.int .i64 (((t2 : Nat) : Int))) _ (Below.refl _ _) rfl _ (by simp [puts, Act.put])
                  refine Steps.cons rfl ?_ ?_
                  · intro l us W hl hI hd hn K' hK
                    have hHas := hI.has
                    have hbel := hI.bel
                    have hlen := hI.len
                    obtain ⟨u0, u1, u2, u3, u4, u5, u6, u7, u8, u9, u10, u11, u12, u13, rfl⟩ := list_RB12 hlen
                    have HK : Hid (∀ v W', Below W.heap.size W W' → RB12 (xf) (((t2 : Nat) : Int)) (Bx) (.slice (some ⟨bq, oq, none⟩) S0.1.length cvq) (i) (bq) (oq) (s0) (.slice ak kp.length ck) (hb) 11 v W' → ∀ a', puts _ _ [u0, u1, u2, u3, u4, u5, u6, u7, u8, u9, u10, v, u12, u13] = a' → K' a' W') := fun v W' hb hv a' e => hK _ a' W' e (hI.step RB12_mono hl hb hv)
                    have hWW := hbWd.trans (hbel.mono hbWd.size)
                    have d7 : l.getD 7 false = true := by
                      simp [Region.binds] at hd
                      simp [hd]
                    have d8 : l.getD 8 false = true := by
                      simp [Region.binds] at hd
                      simp [hd]
                    have d10 : l.getD 10 false = true := by
                      simp [Region.binds] at hd
                      simp [hd]
                    obtain rfl : u7 = _ := hHas 7 (by decide) d7
                    obtain rfl : u8 = _ := hHas 8 (by decide) d8
                    obtain rfl : u10 = _ := hHas 10 (by decide) d10
                    clear hl hI hd hn hK hHas hlen d7 d8 d10
                    refine StepG.mk ?_
                    simp only [puts, Act.put]
                    go_simp
                    refine (Hh.out _ (Hk.out.mono hWW)).mono ?_
                    rintro e w9 ⟨rfl, rfl⟩
                    go_simp
                    exact HK.out _ _ (Below.refl _ _) rfl _ (by simp [puts, Act.put])
                  refine Steps.cons rfl ?_ ?_
                  · intro l us W hl hI hd hn K' hK
                    have hHas := hI.has
                    have hbel := hI.bel
                    have hlen := hI.len
                    obtain ⟨u0, u1, u2, u3, u4, u5, u6, u7, u8, u9, u10, u11, u12, u13, rfl⟩ := list_RB12 hlen
                    have HK : Hid (∀ v W', Below W.heap.size W W' → RB12 (xf) (((t2 : Nat) : Int)) (Bx) (.slice (some ⟨bq, oq, none⟩) S0.1.length cvq) (i) (bq) (oq) (s0) (.slice ak kp.length ck) (hb) 12 v W' → ∀ a', puts _ _ [u0, u1, u2, u3, u4, u5, u6, u7, u8, u9, u10, u11, v, u13] = a' → K' a' W') := fun v W' hb hv a' e => hK _ a' W' e (hI.step RB12_mono hl hb hv)
                    have hWW := hbWd.trans (hbel.mono hbWd.size)
                    have d7 : l.getD 7 false = true := by
                      simp [Region.binds] at hd
                      simp [hd]
                    have d11 : l.getD 11 false = true := by
                      simp [Region.binds] at hd
                      simp [hd]
                    obtain rfl : u7 = _ := hHas 7 (by decide) d7
                    obtain rfl : u11 = _ := hHas 11 (by decide) d11
                    clear hl hI hd hn hK hHas hlen d7 d11
                    refine StepG.mk ?_
                    simp only [puts, Act.put]
                    go_simp
                    exact HK.out (.bool (!hb)) _ (Below.refl _ _) rfl _ (by simp [puts, Act.put])
                  refine Steps.cons rfl ?_ ?_
                  · intro l us W hl hI hd hn K' hK
                    have hHas := hI.has
                    have hbel := hI.bel
                    have hlen := hI.len
                    obtain ⟨u0, u1, u2, u3, u4, u5, u6, u7, u8, u9, u10, u11, u12, u13, rfl⟩ := list_RB12 hlen
                    have HK : Hid (∀ v W', Below W.heap.size W W' → RB12 (xf) (((t2 : Nat) : Int)) (Bx) (.slice (some ⟨bq, oq, none⟩) S0.1.length cvq) (i) (bq) (oq) (s0) (.slice ak kp.length ck) (hb) 13 v W' → ∀ a', puts _ _ [u0, u1, u2, u3, u4, u5, u6, u7, u8, u9, u10, u11, u12, v] = a' → K' a' W') := fun v W' hb hv a' e => hK _ a' W' e (hI.step RB12_mono hl hb hv)
                    have hWW := hbWd.trans (hbel.mono hbWd.size)
                    have d7 : l.getD 7 false = true := by
                      simp [Region.binds] at hd
                      simp [hd]
                    have d12 : l.getD 12 false = true := by
                      simp [Region.binds] at hd
                      simp [hd]
                    obtain rfl : u7 = _ := hHas 7 (by decide) d7
                    obtain rfl : u12 = _ := hHas 12 (by decide) d12
                    clear hl hI hd hn hK hHas hlen d7 d12
                    refine StepG.mk ?_
                    simp only [puts, Act.put]
                    go_simp
                    exact HK.out (.bool (!hb)) _ (Below.refl _ _) rfl _ (by simp [puts, Act.put])
                  exact Steps.nil (Nat.le_refl _)
                · intro us W3 hlen hbel hall
                  obtain ⟨u0, u1, u2, u3, u4, u5, u6, u7, u8, u9, u10, u11, u12, u13, rfl⟩ := list_RB12 hlen
                  obtain rfl : u13 = _ := hall 13 (by decide)
                  have HX3 := Lib.hid (HXb.out.call ((bel_drew _).trans hbel))
                  have HE3 := Lib.hid (HEb.out.below ((bel_drew _).trans hbel))
                  have HO3 := Lib.hid (HOx.out.below ((bel_drew _).trans hbel))
                  clear hall hlen hbel hbWd x0 x2 qc HXb HEb HOx hBxl hqcl hszb
                  simp only [puts, Act.put, List.setIfInBounds_toArray, List.set_cons_succ, List.set_cons_zero]
                  cases hb with
                  | false =>
                    go_wp2_with fail
                    go_roundw
                    case rel => exact ⟨_, ve, k + 1, S0, by go_num, by omega, HX3.out, HE3.out, Hq.out, by omega, hlt2, hs0, by show _ = _; rw [hfold2.out, Hsn.out rfl]⟩
                    case measure => simp [intOf]; omega
                  | true =>
                    have x2 : W3.cell? ⟨Bx, 2, none⟩ = some (.int .i64 (t2 : Int)) := HO3.out.cell 2
                    have hBxl := HO3.out.lt
                    have HQ3 := Lib.hid HX3.out.qr.rdI
                    have hsz3 := HX3.out.below.size
                    have HST : Hid (rrStep kp s0 i S0 ⟨xf, xe, (t2 : Int)⟩ = (rrQ S0.1 (t2 : Int), S0.2 ++ [⟨i, xe, idxI (rrQ S0.1 (t2 : Int)) (t2 : Int)⟩])) := Hst.out rfl
                    clear Hst Hsn
                    go_upto_if 60 with (go_at_call 69; ((with_reducible refine (rindex_any _ S0.1 _ _ HQ3.out (by omega)).mono ?_); rintro e w1 ⟨rfl, rfl⟩))
                    go_cut [6] from 30 to 78 (fun vq wx => ∃ (tag : Nat → Nat), RC w (.slice aa a.al.length ca) (.int .i64 n) (.slice am a.ms.length cm) (.slice (some ⟨be, offe, none⟩) a.es.length ce) (w.heap.size + 1 + 1) (.slice aa a.al.length ca) wx tag (.slice none 0 0) ve vq (rrQ S0.1 (t2 : Int)) [] (.int .i64 0) ∧ Row wx w.heap.size tag 8 45 3 ve S0.2.length (edCells S0.2) ∧ Own wx w.heap.size tag 10 Bx #[.int .i64 xf, .int .i64 xe, .int .i64 (t2 : Int)] 45)
                    case first =>
                      by_cases hm : (t2 : Int) ∈ S0.1
                      · have hneg : ¬ idxI S0.1 (t2 : Int) < 0 := by have := (idxI_in hm).1; omega
                        have Hrn := Lib.hid (rrQ_old hm)
                        clear hm
                        generalize idxI S0.1 (t2 : Int) = ix at *
                        go_wp2_with fail
                        go_meet
                        exact ⟨_, by rw [Hrn.out]; exact HX3.out, HE3.out, HO3.out⟩
                      · have hneg : idxI S0.1 (t2 : Int) < 0 := idxI_neg.2 hm
                        have Hrn := Lib.hid (rrQ_new hm)
                        have hX9 := Lib.hid (HX3.out.up (.cells #[.int .i64 (t2 : Int)] 3) 9)
                        have hE9 := Lib.hid (HE3.out.up (.cells #[.int .i64 (t2 : Int)] 3) 9)
                        have hO9 := Lib.hid (HO3.out.upR (.cells #[.int .i64 (t2 : Int)] 3) 9)
                        clear hm
                        generalize idxI S0.1 (t2 : Int) = ix at *
                        go_wp2_with (at_builtin; refine wpList_append_row rfl _ _ 28 rfl 3 i0 (.int .i64 0) 8 Try.underlying28 hi hz0 hz1 hz2 rfl rfl hX9.out.qr (some ⟨_, 0, none⟩) 1 1 [.int .i64 (t2 : Int)] rfl (by simp) (fun e => by cases e) (fun ad e => by cases e; exact new_cells_at _ _ (by simp)) (by simp [Value.oneCell']) (by unfold maxLen; omega) (by omega) (by simp; omega) ?_; intro v16 w16 tag16 hr16 ht16; have HP16 := Lib.hid (hX9.out.push hr16 ht16); have hE16 := Lib.hid (hE9.out.turn ht16 (by decide)); have hO16 := Lib.hid (hO9.out.turn ht16 (by decide)); clear hr16 ht16)
                        go_meet
                        exact ⟨tag16, by rw [Hrn.out]; exact HP16.out, hE16.out, hO16.out⟩
                    case rest =>
                      obtain ⟨tag1, hX, hE, hO⟩ := hcut
                      clear HX3 HE3 HO3 HQ3 x2 hBxl
                      have hQ := Hq.out.rrQ hxm.2.2.1 hxm.2.2.2
                      have hQl := hQ.len
                      obtain ⟨qx, hqx⟩ := rrQ_ext S0.1 (t2 : Int)
                      have hQ0 : S0.1.length ≤ (rrQ S0.1 (t2 : Int)).length := by rw [hqx, List.length_append]; omega
                      have hQ1 : (rrQ S0.1 (t2 : Int)).getD i 0 = s0 := by rw [hqx, List.getD_eq_getElem?_getD, List.getElem?_append_left hlt2, ← List.getD_eq_getElem?_getD]; exact hs0.out
                      have HQ := Lib.hid hQ
                      have HQ1 := Lib.hid hQ1
                      clear hQ hQ1 hqx
                      generalize hS3 : rrStep kp s0 i S0 ⟨xf, xe, (t2 : Int)⟩ = S3 at *
                      generalize rrQ S0.1 (t2 : Int) = Q1 at *
                      clear hS3
                      obtain ⟨bq1, oq1, cq1, rfl, _⟩ := hX.qr.addr (by omega)
                      obtain ⟨ave, cve, rfl⟩ := hE.val
                      generalize hnv : idxI Q1 (t2 : Int) = nv at *
                      have HNV := Lib.hid hnv
                      clear hnv
                      have HX26 : Hid (PhiZ w (.slice aa a.al.length ca) (.int .i64 n) (.slice am a.ms.length cm) (.slice (some ⟨be, offe, none⟩) a.es.length ce) (w.heap.size + 1 + 1) (.slice aa a.al.length ca) (.slice none 0 0) (.slice (some ⟨bq1, oq1, none⟩) Q1.length cq1) Q1 [] (.int .i64 0) Bx xf xe (t2 : Int) (.slice ave S0.2.length cve) tag1 wc) := ⟨hX, hO⟩
                      have HE26 := Lib.hid hE
                      have hEl : S0.2.length ≤ 5000000000 := by omega
                      clear hX hE hO
                      generalize hE26 : S0.2 = E26 at *
                      go_wp2_with fail
                      refine wp_region_inv2 (fun l us WW => ∃ tag, RZ (PhiZ w (.slice aa a.al.length ca) (.int .i64 n) (.slice am a.ms.length cm) (.slice (some ⟨be, offe, none⟩) a.es.length ce) (w.heap.size + 1 + 1) (.slice aa a.al.length ca) (.slice none 0 0) (.slice (some ⟨bq1, oq1, none⟩) Q1.length cq1) Q1 [] (.int .i64 0) Bx xf xe (t2 : Int)) (PR15 (w.heap.size + 1 + 1) Bx i xe (t2 : Int) nv (.slice ave E26.length cve) (.slice (some ⟨bq1, oq1, none⟩) Q1.length cq1)) w.heap.size E26 ⟨i, xe, nv⟩ (.slice ave E26.length cve) l us tag WW) [66, 67, 68, 69, 70, 71, 72, 73, 74, 75, 76, 77, 78] (by kernel_rfl) (by kernel_rfl) ⟨_, RZ.start rfl HX26.out.1.below.size ⟨HX26.out.1.call (bel_drew _), HX26.out.2.below (bel_drew _)⟩ (HE26.out.below (bel_drew _))⟩ ?_ ?_
                      · skip
                        refine Steps.cons rfl ?_ ?_
                        · intro l us W4 hl hI hd hn K' hK
                          obtain ⟨tg4, hI⟩ := hI
                          have hlen := hI.len
                          obtain ⟨u0, u1, u2, u3, u4, u5, u6, u7, u8, u9, u10, u11, u12, rfl⟩ := list13 hlen
                          have HK : Hid (∀ v W' tag', RZ (PhiZ w (.slice aa a.al.length ca) (.int .i64 n) (.slice am a.ms.length cm) (.slice (some ⟨be, offe, none⟩) a.es.length ce) (w.heap.size + 1 + 1) (.slice aa a.al.length ca) (.slice none 0 0) (.slice (some ⟨bq1, oq1, none⟩) Q1.length cq1) Q1 [] (.int .i64 0) Bx xf xe (t2 : Int)) (PR15 (w.heap.size + 1 + 1) Bx i xe (t2 : Int) nv (.slice ave E26.length cve) (.slice (some ⟨bq1, oq1, none⟩) Q1.length cq1)) w.heap.size E26 ⟨i, xe, nv⟩ (.slice ave E26.length cve) (l.setIfInBounds 0 true) ([u0, u1, u2, u3, u4, u5, u6, u7, u8, u9, u10, u11, u12].set 0 v) tag' W' → ∀ a', puts _ _ [v, u1, u2, u3, u4, u5, u6, u7, u8, u9, u10, u11, u12] = a' → K' a' W') := fun v W' tag' h a' e => hK _ a' W' e ⟨tag', h⟩
                          have HS := Lib.hid (hI.pureStep (v := .pointer (some ⟨w.heap.size + 1 + 1, 3, none⟩)) hl (by decide) rfl)
                          clear hK hl hI hlen hd hn
                          refine StepG.mk ?_
                          simp only [puts, Act.put]
                          go_simp
                          exact HK.out _ _ _ HS.out _ (by simp [puts, Act.put])
                        refine Steps.cons rfl ?_ ?_
                        · intro l us W4 hl hI hd hn K' hK
                          obtain ⟨tg4, hI⟩ := hI
                          have hlen := hI.len
                          obtain ⟨u0, u1, u2, u3, u4, u5, u6, u7, u8, u9, u10, u11, u12, rfl⟩ := list13 hlen
                          have HK : Hid (∀ v W' tag', RZ (PhiZ w (.slice aa a.al.length ca) (.int .i64 n) (.slice am a.ms.length cm) (.slice (some ⟨be, offe, none⟩) a.es.length ce) (w.heap.size + 1 + 1) (.slice aa a.al.length ca) (.slice none 0 0) (.slice (some ⟨bq1, oq1, none⟩) Q1.length cq1) Q1 [] (.int .i64 0) Bx xf xe (t2 : Int)) (PR15 (w.heap.size + 1 + 1) Bx i xe (t2 : Int) nv (.slice ave E26.length cve) (.slice (some ⟨bq1, oq1, none⟩) Q1.length cq1)) w.heap.size E26 ⟨i, xe, nv⟩ (.slice ave E26.length cve) (l.setIfInBounds 1 true) ([u0, u1, u2, u3, u4, u5, u6, u7, u8, u9, u10, u11, u12].set 1 v) tag' W' → ∀ a', puts _ _ [u0, v, u2, u3, u4, u5, u6, u7, u8, u9, u10, u11, u12] = a' → K' a' W') := fun v W' tag' h a' e => hK _ a' W' e ⟨tag', h⟩
                          have d0 : l.getD 0 false = true := by
                            simp [Region.binds] at hd
                            simp [hd]
                          obtain rfl : u0 = _ := hI.pure 0 (by decide) d0
                          have HS := Lib.hid (hI.pureStep (v := .slice ave E26.length cve) hl (by decide) rfl)
                          have h15 : l.getD 13 false = false := by
                            cases h : l.getD 13 false with
                            | false => rfl
                            | true => rw [(hI.o11 (hI.o13 h)).2] at hn; cases hn
                          have hp := hI.phi
                          rw [h15] at hp
                          have y0 : W4.cell? ⟨w.heap.size + 1 + 1, 3, none⟩ = some (.slice ave E26.length cve) := hp.1.ob.cell 3
                          clear h15 hp
                          clear hK hl hI hlen hd hn d0
                          refine StepG.mk ?_
                          simp only [puts, Act.put]
                          go_simp
                          exact HK.out _ _ _ HS.out _ (by simp [puts, Act.put])
                        refine Steps.cons rfl ?_ ?_
                        · intro l us W4 hl hI hd hn K' hK
                          obtain ⟨tg4, hI⟩ := hI
                          have hlen := hI.len
                          obtain ⟨u0, u1, u2, u3, u4, u5, u6, u7, u8, u9, u10, u11, u12, rfl⟩ := list13 hlen
                          have HK : Hid (∀ v W' tag', RZ (PhiZ w (.slice aa a.al.length ca) (.int .i64 n) (.slice am a.ms.length cm) (.slice (some ⟨be, offe, none⟩) a.es.length ce) (w.heap.size + 1 + 1) (.slice aa a.al.length ca) (.slice none 0 0) (.slice (some ⟨bq1, oq1, none⟩) Q1.length cq1) Q1 [] (.int .i64 0) Bx xf xe (t2 : Int)) (PR15 (w.heap.size + 1 + 1) Bx i xe (t2 : Int) nv (.slice ave E26.length cve) (.slice (some ⟨bq1, oq1, none⟩) Q1.length cq1)) w.heap.size E26 ⟨i, xe, nv⟩ (.slice ave E26.length cve) (l.setIfInBounds 2 true) ([u0, u1, u2, u3, u4, u5, u6, u7, u8, u9, u10, u11, u12].set 2 v) tag' W' → ∀ a', puts _ _ [u0, u1, v, u3, u4, u5, u6, u7, u8, u9, u10, u11, u12] = a' → K' a' W') := fun v W' tag' h a' e => hK _ a' W' e ⟨tag', h⟩
                          have HS := Lib.hid (hI.pureStep (v := .int .i64 (i : Int)) hl (by decide) rfl)
                          clear hK hl hI hlen hd hn
                          refine StepG.mk ?_
                          simp only [puts, Act.put]
                          go_simp
                          exact HK.out _ _ _ HS.out _ (by simp [puts, Act.put])
                        refine Steps.cons rfl ?_ ?_
                        · intro l us W4 hl hI hd hn K' hK
                          obtain ⟨tg4, hI⟩ := hI
                          have hlen := hI.len
                          obtain ⟨u0, u1, u2, u3, u4, u5, u6, u7, u8, u9, u10, u11, u12, rfl⟩ := list13 hlen
                          have HK : Hid (∀ v W' tag', RZ (PhiZ w (.slice aa a.al.length ca) (.int .i64 n) (.slice am a.ms.length cm) (.slice (some ⟨be, offe, none⟩) a.es.length ce) (w.heap.size + 1 + 1) (.slice aa a.al.length ca) (.slice none 0 0) (.slice (some ⟨bq1, oq1, none⟩) Q1.length cq1) Q1 [] (.int .i64 0) Bx xf xe (t2 : Int)) (PR15 (w.heap.size + 1 + 1) Bx i xe (t2 : Int) nv (.slice ave E26.length cve) (.slice (some ⟨bq1, oq1, none⟩) Q1.length cq1)) w.heap.size E26 ⟨i, xe, nv⟩ (.slice ave E26.length cve) (l.setIfInBounds 3 true) ([u0, u1, u2, u3, u4, u5, u6, u7, u8, u9, u10, u11, u12].set 3 v) tag' W' → ∀ a', puts _ _ [u0, u1, u2, v, u4, u5, u6, u7, u8, u9, u10, u11, u12] = a' → K' a' W') := fun v W' tag' h a' e => hK _ a' W' e ⟨tag', h⟩
                          have HS := Lib.hid (hI.pureStep (v := .pointer (some ⟨Bx, 1, none⟩)) hl (by decide) rfl)
                          clear hK hl hI hlen hd hn
                          refine StepG.mk ?_
                          simp only [puts, Act.put]
                          go_simp
                          exact HK.out _ _ _ HS.out _ (by simp [puts, Act.put])
                        refine Steps.cons rfl ?_ ?_
                        · intro l us W4 hl hI hd hn K' hK
                          obtain ⟨tg4, hI⟩ := hI
                          have hlen := hI.len
                          obtain ⟨u0, u1, u2, u3, u4, u5, u6, u7, u8, u9, u10, u11, u12, rfl⟩ := list13 hlen
                          have HK : Hid (∀ v W' tag', RZ (PhiZ w (.slice aa a.al.length ca) (.int .i64 n) (.slice am a.ms.length cm) (.slice (some ⟨be, offe, none⟩) a.es.length ce) (w.heap.size + 1 + 1) (.slice aa a.al.length ca) (.slice none 0 0) (.slice (some ⟨bq1, oq1, none⟩) Q1.length cq1) Q1 [] (.int .i64 0) Bx xf xe (t2 : Int)) (PR15 (w.heap.size + 1 + 1) Bx i xe (t2 : Int) nv (.slice ave E26.length cve) (.slice (some ⟨bq1, oq1, none⟩) Q1.length cq1)) w.heap.size E26 ⟨i, xe, nv⟩ (.slice ave E26.length cve) (l.setIfInBounds 4 true) ([u0, u1, u2, u3, u4, u5, u6, u7, u8, u9, u10, u11, u12].set 4 v) tag' W' → ∀ a', puts _ _ [u0, u1, u2, u3, v, u5, u6, u7, u8, u9, u10, u11, u12] = a' → K' a' W') := fun v W' tag' h a' e => hK _ a' W' e ⟨tag', h⟩
                          have d3 : l.getD 3 false = true := by
                            simp [Region.binds] at hd
                            simp [hd]
                          obtain rfl : u3 = _ := hI.pure 3 (by decide) d3
                          have HS := Lib.hid (hI.pureStep (v := .int .i64 xe) hl (by decide) rfl)
                          have y0 : W4.cell? ⟨Bx, 1, none⟩ = some (.int .i64 xe) := hI.phi.2.cell 1
                          clear hK hl hI hlen hd hn d3
                          refine StepG.mk ?_
                          simp only [puts, Act.put]
                          go_simp
                          exact HK.out _ _ _ HS.out _ (by simp [puts, Act.put])
                        refine Steps.cons rfl ?_ ?_
                        · intro l us W4 hl hI hd hn K' hK
                          obtain ⟨tg4, hI⟩ := hI
                          have hlen := hI.len
                          obtain ⟨u0, u1, u2, u3, u4, u5, u6, u7, u8, u9, u10, u11, u12, rfl⟩ := list13 hlen
                          have HK : Hid (∀ v W' tag', RZ (PhiZ w (.slice aa a.al.length ca) (.int .i64 n) (.slice am a.ms.length cm) (.slice (some ⟨be, offe, none⟩) a.es.length ce) (w.heap.size + 1 + 1) (.slice aa a.al.length ca) (.slice none 0 0) (.slice (some ⟨bq1, oq1, none⟩) Q1.length cq1) Q1 [] (.int .i64 0) Bx xf xe (t2 : Int)) (PR15 (w.heap.size + 1 + 1) Bx i xe (t2 : Int) nv (.slice ave E26.length cve) (.slice (some ⟨bq1, oq1, none⟩) Q1.length cq1)) w.heap.size E26 ⟨i, xe, nv⟩ (.slice ave E26.length cve) (l.setIfInBounds 5 true) ([u0, u1, u2, u3, u4, u5, u6, u7, u8, u9, u10, u11, u12].set 5 v) tag' W' → ∀ a', puts _ _ [u0, u1, u2, u3, u4, v, u6, u7, u8, u9, u10, u11, u12] = a' → K' a' W') := fun v W' tag' h a' e => hK _ a' W' e ⟨tag', h⟩
                          have HS := Lib.hid (hI.pureStep (v := .slice (some ⟨bq1, oq1, none⟩) Q1.length cq1) hl (by decide) rfl)
                          clear hK hl hI hlen hd hn
                          refine StepG.mk ?_
                          simp only [puts, Act.put]
                          go_simp
                          exact HK.out _ _ _ HS.out _ (by simp [puts, Act.put])
                        refine Steps.cons rfl ?_ ?_
                        · intro l us W4 hl hI hd hn K' hK
                          obtain ⟨tg4, hI⟩ := hI
                          have hlen := hI.len
                          obtain ⟨u0, u1, u2, u3, u4, u5, u6, u7, u8, u9, u10, u11, u12, rfl⟩ := list13 hlen
                          have HK : Hid (∀ v W' tag', RZ (PhiZ w (.slice aa a.al.length ca) (.int .i64 n) (.slice am a.ms.length cm) (.slice (some ⟨be, offe, none⟩) a.es.length ce) (w.heap.size + 1 + 1) (.slice aa a.al.length ca) (.slice none 0 0) (.slice (some ⟨bq1, oq1, none⟩) Q1.length cq1) Q1 [] (.int .i64 0) Bx xf xe (t2 : Int)) (PR15 (w.heap.size + 1 + 1) Bx i xe (t2 : Int) nv (.slice ave E26.length cve) (.slice (some ⟨bq1, oq1, none⟩) Q1.length cq1)) w.heap.size E26 ⟨i, xe, nv⟩ (.slice ave E26.length cve) (l.setIfInBounds 6 true) ([u0, u1, u2, u3, u4, u5, u6, u7, u8, u9, u10, u11, u12].set 6 v) tag' W' → ∀ a', puts _ _ [u0, u1, u2, u3, u4, u5, v, u7, u8, u9, u10, u11, u12] = a' → K' a' W') := fun v W' tag' h a' e => hK _ a' W' e ⟨tag', h⟩
                          have HS := Lib.hid (hI.pureStep (v := .pointer (some ⟨Bx, 2, none⟩)) hl (by decide) rfl)
                          clear hK hl hI hlen hd hn
                          refine StepG.mk ?_
                          simp only [puts, Act.put]
                          go_simp
                          exact HK.out _ _ _ HS.out _ (by simp [puts, Act.put])
                        refine Steps.cons rfl ?_ ?_
                        · intro l us W4 hl hI hd hn K' hK
                          obtain ⟨tg4, hI⟩ := hI
                          have hlen := hI.len
                          obtain ⟨u0, u1, u2, u3, u4, u5, u6, u7, u8, u9, u10, u11, u12, rfl⟩ := list13 hlen
                          have HK : Hid (∀ v W' tag', RZ (PhiZ w (.slice aa a.al.length ca) (.int .i64 n) (.slice am a.ms.length cm) (.slice (some ⟨be, offe, none⟩) a.es.length ce) (w.heap.size + 1 + 1) (.slice aa a.al.length ca) (.slice none 0 0) (.slice (some ⟨bq1, oq1, none⟩) Q1.length cq1) Q1 [] (.int .i64 0) Bx xf xe (t2 : Int)) (PR15 (w.heap.size + 1 + 1) Bx i xe (t2 : Int) nv (.slice ave E26.length cve) (.slice (some ⟨bq1, oq1, none⟩) Q1.length cq1)) w.heap.size E26 ⟨i, xe, nv⟩ (.slice ave E26.length cve) (l.setIfInBounds 7 true) ([u0, u1, u2, u3, u4, u5, u6, u7, u8, u9, u10, u11, u12].set 7 v) tag' W' → ∀ a', puts _ _ [u0, u1, u2, u3, u4, u5, u6, v, u8, u9, u10, u11, u12] = a' → K' a' W') := fun v W' tag' h a' e => hK _ a' W' e ⟨tag', h⟩
                          have d6 : l.getD 6 false = true := by
                            simp [Region.binds] at hd
                            simp [hd]
                          obtain rfl : u6 = _ := hI.pure 6 (by decide) d6
                          have HS := Lib.hid (hI.pureStep (v := .int .i64 (t2 : Int)) hl (by decide) rfl)
                          have y0 : W4.cell? ⟨Bx, 2, none⟩ = some (.int .i64 (t2 : Int)) := hI.phi.2.cell 2
                          clear hK hl hI hlen hd hn d6
                          refine StepG.mk ?_
                          simp only [puts, Act.put]
                          go_simp
                          exact HK.out _ _ _ HS.out _ (by simp [puts, Act.put])
                        refine Steps.cons rfl ?_ ?_
                        · intro l us W4 hl hI hd hn K' hK
                          obtain ⟨tg4, hI⟩ := hI
                          have hlen := hI.len
                          obtain ⟨u0, u1, u2, u3, u4, u5, u6, u7, u8, u9, u10, u11, u12, rfl⟩ := list13 hlen
                          have HK : Hid (∀ v W' tag', RZ (PhiZ w (.slice aa a.al.length ca) (.int .i64 n) (.slice am a.ms.length cm) (.slice (some ⟨be, offe, none⟩) a.es.length ce) (w.heap.size + 1 + 1) (.slice aa a.al.length ca) (.slice none 0 0) (.slice (some ⟨bq1, oq1, none⟩) Q1.length cq1) Q1 [] (.int .i64 0) Bx xf xe (t2 : Int)) (PR15 (w.heap.size + 1 + 1) Bx i xe (t2 : Int) nv (.slice ave E26.length cve) (.slice (some ⟨bq1, oq1, none⟩) Q1.length cq1)) w.heap.size E26 ⟨i, xe, nv⟩ (.slice ave E26.length cve) (l.setIfInBounds 8 true) ([u0, u1, u2, u3, u4, u5, u6, u7, u8, u9, u10, u11, u12].set 8 v) tag' W' → ∀ a', puts _ _ [u0, u1, u2, u3, u4, u5, u6, u7, v, u9, u10, u11, u12] = a' → K' a' W') := fun v W' tag' h a' e => hK _ a' W' e ⟨tag', h⟩
                          have d5 : l.getD 5 false = true := by
                            simp [Region.binds] at hd
                            simp [hd]
                          have d7 : l.getD 7 false = true := by
                            simp [Region.binds] at hd
                            simp [hd]
                          obtain rfl : u5 = _ := hI.pure 5 (by decide) d5
                          obtain rfl : u7 = _ := hI.pure 7 (by decide) d7
                          have HS := Lib.hid (hI.pureStep (v := .int .i64 nv) hl (by decide) rfl)
                          have hq8 := Lib.hid (hI.phi.1.qr.rdI)
                          clear hK hl hI hlen hd hn d5 d7
                          refine StepG.mk ?_
                          simp only [puts, Act.put]
                          go_simp
                          refine (rindex_any _ Q1 _ _ hq8.out (by omega)).mono ?_
                          rintro e w9 ⟨rfl, rfl⟩
                          rw [HNV.out]
                          go_simp
                          exact HK.out _ _ _ HS.out _ (by simp [puts, Act.put])
                        refine Steps.cons rfl ?_ ?_
                        · intro l us W4 hl hI hd hn K' hK
                          obtain ⟨tg4, hI⟩ := hI
                          have hlen := hI.len
                          obtain ⟨u0, u1, u2, u3, u4, u5, u6, u7, u8, u9, u10, u11, u12, rfl⟩ := list13 hlen
                          have HK : Hid (∀ v W' tag', RZ (PhiZ w (.slice aa a.al.length ca) (.int .i64 n) (.slice am a.ms.length cm) (.slice (some ⟨be, offe, none⟩) a.es.length ce) (w.heap.size + 1 + 1) (.slice aa a.al.length ca) (.slice none 0 0) (.slice (some ⟨bq1, oq1, none⟩) Q1.length cq1) Q1 [] (.int .i64 0) Bx xf xe (t2 : Int)) (PR15 (w.heap.size + 1 + 1) Bx i xe (t2 : Int) nv (.slice ave E26.length cve) (.slice (some ⟨bq1, oq1, none⟩) Q1.length cq1)) w.heap.size E26 ⟨i, xe, nv⟩ (.slice ave E26.length cve) (l.setIfInBounds 9 true) ([u0, u1, u2, u3, u4, u5, u6, u7, u8, u9, u10, u11, u12].set 9 v) tag' W' → ∀ a', puts _ _ [u0, u1, u2, u3, u4, u5, u6, u7, u8, v, u10, u11, u12] = a' → K' a' W') := fun v W' tag' h a' e => hK _ a' W' e ⟨tag', h⟩
                          have d2 : l.getD 2 false = true := by
                            simp [Region.binds] at hd
                            simp [hd]
                          have d4 : l.getD 4 false = true := by
                            simp [Region.binds] at hd
                            simp [hd]
                          have d8 : l.getD 8 false = true := by
                            simp [Region.binds] at hd
                            simp [hd]
                          obtain rfl : u2 = _ := hI.pure 2 (by decide) d2
                          obtain rfl : u4 = _ := hI.pure 4 (by decide) d4
                          obtain rfl : u8 = _ := hI.pure 8 (by decide) d8
                          have HS := Lib.hid (hI.pureStep (v := .agg #[.int .i64 (i : Int), .int .i64 xe, .int .i64 nv]) hl (by decide) rfl)
                          clear hK hl hI hlen hd hn d2 d4 d8
                          refine StepG.mk ?_
                          simp only [puts, Act.put]
                          go_simp
                          exact HK.out _ _ _ HS.out _ (by simp [puts, Act.put])
                        refine Steps.cons rfl ?_ ?_
                        · intro l us W4 hl hI hd hn K' hK
                          obtain ⟨tg4, hI⟩ := hI
                          have hlen := hI.len
                          obtain ⟨u0, u1, u2, u3, u4, u5, u6, u7, u8, u9, u10, u11, u12, rfl⟩ := list13 hlen
                          have HK : Hid (∀ v W' tag', RZ (PhiZ w (.slice aa a.al.length ca) (.int .i64 n) (.slice am a.ms.length cm) (.slice (some ⟨be, offe, none⟩) a.es.length ce) (w.heap.size + 1 + 1) (.slice aa a.al.length ca) (.slice none 0 0) (.slice (some ⟨bq1, oq1, none⟩) Q1.length cq1) Q1 [] (.int .i64 0) Bx xf xe (t2 : Int)) (PR15 (w.heap.size + 1 + 1) Bx i xe (t2 : Int) nv (.slice ave E26.length cve) (.slice (some ⟨bq1, oq1, none⟩) Q1.length cq1)) w.heap.size E26 ⟨i, xe, nv⟩ (.slice ave E26.length cve) (l.setIfInBounds 10 true) ([u0, u1, u2, u3, u4, u5, u6, u7, u8, u9, u10, u11, u12].set 10 v) tag' W' → ∀ a', puts _ _ [u0, u1, u2, u3, u4, u5, u6, u7, u8, u9, v, u11, u12] = a' → K' a' W') := fun v W' tag' h a' e => hK _ a' W' e ⟨tag', h⟩
                          have d9 : l.getD 9 false = true := by
                            simp [Region.binds] at hd
                            simp [hd]
                          obtain rfl : u9 = _ := hI.pure 9 (by decide) d9
                          have HS := Lib.hid (hI.op10 hl (fun c h => ⟨h.1.up _ 11, h.2.upR _ 11⟩) hn (fun _ => trivial))
                          clear hK hl hI hlen hd hn d9
                          refine StepG.mk ?_
                          simp only [puts, Act.put]
                          go_simp
                          exact HK.out _ _ _ HS.out _ (by simp [puts, Act.put])
                        refine Steps.cons rfl ?_ ?_
                        · intro l us W4 hl hI hd hn K' hK
                          obtain ⟨tg4, hI⟩ := hI
                          have hlen := hI.len
                          obtain ⟨u0, u1, u2, u3, u4, u5, u6, u7, u8, u9, u10, u11, u12, rfl⟩ := list13 hlen
                          have HK : Hid (∀ v W' tag', RZ (PhiZ w (.slice aa a.al.length ca) (.int .i64 n) (.slice am a.ms.length cm) (.slice (some ⟨be, offe, none⟩) a.es.length ce) (w.heap.size + 1 + 1) (.slice aa a.al.length ca) (.slice none 0 0) (.slice (some ⟨bq1, oq1, none⟩) Q1.length cq1) Q1 [] (.int .i64 0) Bx xf xe (t2 : Int)) (PR15 (w.heap.size + 1 + 1) Bx i xe (t2 : Int) nv (.slice ave E26.length cve) (.slice (some ⟨bq1, oq1, none⟩) Q1.length cq1)) w.heap.size E26 ⟨i, xe, nv⟩ (.slice ave E26.length cve) (l.setIfInBounds 11 true) ([u0, u1, u2, u3, u4, u5, u6, u7, u8, u9, u10, u11, u12].set 11 v) tag' W' → ∀ a', puts _ _ [u0, u1, u2, u3, u4, u5, u6, u7, u8, u9, u10, v, u12] = a' → K' a' W') := fun v W' tag' h a' e => hK _ a' W' e ⟨tag', h⟩
                          have d1 : l.getD 1 false = true := by
                            simp [Region.binds] at hd
                            simp [hd]
                          have d10 : l.getD 10 false = true := by
                            simp [Region.binds] at hd
                            simp [hd]
                          obtain rfl : u1 = _ := hI.pure 1 (by decide) d1
                          have hs1 := hI.s1 hn
                          obtain ⟨a9, c9, e9, hrd⟩ := (hI.s10 d10 hn).rd
                          obtain rfl : u10 = _ := e9
                          refine StepG.append_row rfl _ _ 29 rfl 45 j1 (.agg #[.int .i64 0, .int .i64 0, .int .i64 0]) 24 Try.underlying29 hj1 hj2 hj3 hj4 rfl (by simp [puts, Act.put, Act.eval]) hs1 a9 1 c9 (Ed.cells ⟨i, xe, nv⟩) (by simp [puts, Act.put, Act.eval]) (by simp [Ed.cells]) hrd.src.1 hrd.src.2 (by simp [Ed.cells, Value.oneCell']) (by unfold maxLen; omega) (by omega) hI.size ?_
                          intro v9 W9 tag9 hr9 ht9
                          exact HK.out _ _ _ (hI.op11 hl (fun c h => ⟨h.1.turn 8 ht9 (by decide) (by decide) (by decide) (by decide), h.2.turn ht9 (by decide)⟩) hn d10 d1 (fun _ => trivial) ht9 hr9) _ (by simp [puts, Act.put])
                        refine Steps.cons rfl ?_ ?_
                        · intro l us W4 hl hI hd hn K' hK
                          obtain ⟨tg4, hI⟩ := hI
                          have hlen := hI.len
                          obtain ⟨u0, u1, u2, u3, u4, u5, u6, u7, u8, u9, u10, u11, u12, rfl⟩ := list13 hlen
                          have HK : Hid (∀ v W' tag', RZ (PhiZ w (.slice aa a.al.length ca) (.int .i64 n) (.slice am a.ms.length cm) (.slice (some ⟨be, offe, none⟩) a.es.length ce) (w.heap.size + 1 + 1) (.slice aa a.al.length ca) (.slice none 0 0) (.slice (some ⟨bq1, oq1, none⟩) Q1.length cq1) Q1 [] (.int .i64 0) Bx xf xe (t2 : Int)) (PR15 (w.heap.size + 1 + 1) Bx i xe (t2 : Int) nv (.slice ave E26.length cve) (.slice (some ⟨bq1, oq1, none⟩) Q1.length cq1)) w.heap.size E26 ⟨i, xe, nv⟩ (.slice ave E26.length cve) (l.setIfInBounds 12 true) ([u0, u1, u2, u3, u4, u5, u6, u7, u8, u9, u10, u11, u12].set 12 v) tag' W' → ∀ a', puts _ _ [u0, u1, u2, u3, u4, u5, u6, u7, u8, u9, u10, u11, v] = a' → K' a' W') := fun v W' tag' h a' e => hK _ a' W' e ⟨tag', h⟩
                          have HS := Lib.hid (hI.pureStep (v := .pointer (some ⟨w.heap.size + 1 + 1, 3, none⟩)) hl (by decide) rfl)
                          clear hK hl hI hlen hd hn
                          refine StepG.mk ?_
                          simp only [puts, Act.put]
                          go_simp
                          exact HK.out _ _ _ HS.out _ (by simp [puts, Act.put])
                        refine Steps.cons rfl ?_ ?_
                        · intro l us W4 hl hI hd hn K' hK
                          obtain ⟨tg4, hI⟩ := hI
                          have hlen := hI.len
                          obtain ⟨u0, u1, u2, u3, u4, u5, u6, u7, u8, u9, u10, u11, u12, rfl⟩ := list13 hlen
                          have HK : Hid (∀ W' tag', RZ (PhiZ w (.slice aa a.al.length ca) (.int .i64 n) (.slice am a.ms.length cm) (.slice (some ⟨be, offe, none⟩) a.es.length ce) (w.heap.size + 1 + 1) (.slice aa a.al.length ca) (.slice none 0 0) (.slice (some ⟨bq1, oq1, none⟩) Q1.length cq1) Q1 [] (.int .i64 0) Bx xf xe (t2 : Int)) (PR15 (w.heap.size + 1 + 1) Bx i xe (t2 : Int) nv (.slice ave E26.length cve) (.slice (some ⟨bq1, oq1, none⟩) Q1.length cq1)) w.heap.size E26 ⟨i, xe, nv⟩ (.slice ave E26.length cve) (l.setIfInBounds 13 true) [u0, u1, u2, u3, u4, u5, u6, u7, u8, u9, u10, u11, u12] tag' W' → ∀ a', puts _ _ [u0, u1, u2, u3, u4, u5, u6, u7, u8, u9, u10, u11, u12] = a' → K' a' W') := fun W' tag' h a' e => hK _ a' W' e ⟨tag', h⟩
                          have d12 : l.getD 12 false = true := by
                            simp [Region.binds] at hd
                            simp [hd]
                          have d11 : l.getD 11 false = true := by
                            simp [Region.binds] at hd
                            simp [hd]
                          obtain rfl : u12 = _ := hI.pure 12 (by decide) d12
                          obtain ⟨a13, c13, e13⟩ := (hI.s11 d11).val
                          obtain rfl : u11 = _ := e13
                          have hp := hI.phi
                          rw [hn] at hp
                          have y0 : W4.cell? ⟨w.heap.size + 1 + 1, 3, none⟩ = some (.slice ave E26.length cve) := hp.1.ob.cell 3
                          have y1 := hp.1.ob.frozen 3
                          have HS := Lib.hid (hI.op13 (b8 := w.heap.size + 1 + 1) hl (fun c c' h => ⟨⟨(h.1.putE c').1, h.2.turn (h.1.putE c').2 (by decide)⟩, (h.1.putE c').2⟩) hn d11)
                          clear hp
                          clear hK hl hI hlen hd hn d12 d11
                          refine StepG.mk ?_
                          simp only [puts, Act.put]
                          go_simp
                          exact HK.out _ _ HS.out _ (by simp [puts, Act.put])
                        exact Steps.nil (Nat.le_refl _)
                      · intro l us W4 hI hall
                        obtain ⟨tg4, hI⟩ := hI
                        have hlen := hI.len
                        obtain ⟨u0, u1, u2, u3, u4, u5, u6, u7, u8, u9, u10, u11, u12, rfl⟩ := list13 hlen
                        have h12 := hI.s11 (hall 11 (by decide))
                        have hp := hI.phi
                        rw [hall 13 (by decide)] at hp
                        obtain ⟨p1, _⟩ := hp
                        have P1 := Lib.hid p1
                        have HE9 : Hid (Row W4 w.heap.size tg4 8 45 3 u11 (E26 ++ [(⟨i, xe, nv⟩ : Ed)]).length (edCells (E26 ++ [(⟨i, xe, nv⟩ : Ed)]))) := by
                          show Row _ _ _ _ _ _ _ _ _
                          rw [List.length_append]
                          exact h12
                        have hel3 : (E26 ++ [(⟨i, xe, nv⟩ : Ed)]).length ≤ i * 1000000 + (k + 1) := by rw [List.length_append, List.length_singleton]; omega
                        clear hlen hall hI h12 p1 HX26 HE26
                        simp only [puts, Act.put, List.setIfInBounds_toArray, List.set_cons_succ, List.set_cons_zero]
                        go_wp2_with fail
                        go_roundw
                        case rel =>
                          have e3 := HST.out
                          subst e3
                          exact ⟨tg4, u11, k + 1, (Q1, E26 ++ [⟨i, xe, nv⟩]), by go_num, by omega, P1.out, HE9.out, HQ.out, hel3, by show i < Q1.length; omega, HQ1, hfold2⟩
                        case measure => simp [intOf]; omega
              · have hst : rrStep kp s0 i S0 ⟨xf, xe, (t2 : Int)⟩ = S0 := rrStep_no (.inl hf)
                have hfb : (xf != s0) = true := by simpa using hf
                have Hst := Lib.hid hst
                obtain ⟨hb, hbe⟩ : ∃ b : Bool, b = false := ⟨_, rfl⟩
                clear hst hf
                refine wp_region_mono2 (RA12 (xf) (((t2 : Nat) : Int)) (Bx) (.slice (some ⟨bq, oq, none⟩) S0.1.length cvq) (i) (bq) (oq) (s0) (.slice ak kp.length ck) (hb)) [42, 43, 44, 45, 46, 47, 48, 49, 50, 51, 52, 53, 54, 55] RA12_mono rfl (by kernel_rfl) (by kernel_rfl) ?_ ?_
                · skip
                  refine Steps.cons rfl ?_ ?_
                  · intro l us W hl hI hd hn K' hK
                    have hHas := hI.has
                    have hbel := hI.bel
                    have hlen := hI.len
                    obtain ⟨u0, u1, u2, u3, u4, u5, u6, u7, u8, u9, u10, u11, u12, u13, rfl⟩ := list_RA12 hlen
                    have HK : Hid (∀ v W', Below W.heap.size W W' → RA12 (xf) (((t2 : Nat) : Int)) (Bx) (.slice (some ⟨bq, oq, none⟩) S0.1.length cvq) (i) (bq) (oq) (s0) (.slice ak kp.length ck) (hb) 0 v W' → ∀ a', puts _ _ [v, u1, u2, u3, u4, u5, u6, u7, u8, u9, u10, u11, u12, u13] = a' → K' a' W') := fun v W' hb hv a' e => hK _ a' W' e (hI.step RA12_mono hl hb hv)
                    have hWW := hbWd.trans (hbel.mono hbWd.size)
                    clear hl hI hd hn hK hHas hlen 
                    refine StepG.mk ?_
                    simp only [puts, Act.put]
                    go_simp
                    exact HK.out (.pointer (some ⟨Bx, 0, none⟩)) _ (Below.refl _ _) rfl _ (by simp [puts, Act.put])
                  refine Steps.cons rfl ?_ ?_
                  · intro l us W hl hI hd hn K' hK
                    have hHas := hI.has
                    have hbel := hI.bel
                    have hlen := hI.len
                    obtain ⟨u0, u1, u2, u3, u4, u5, u6, u7, u8, u9, u10, u11, u12, u13, rfl⟩ := list_RA12 hlen
                    have HK : Hid (∀ v W', Below W.heap.size W W' → RA12 (xf) (((t2 : Nat) : Int)) (Bx) (.slice (some ⟨bq, oq, none⟩) S0.1.length cvq) (i) (bq) (oq) (s0) (.slice ak kp.length ck) (hb) 1 v W' → ∀ a', puts _ _ [u0, v, u2, u3, u4, u5, u6, u7, u8, u9, u10, u11, u12, u13] = a' → K' a' W') := fun v W' hb hv a' e => hK _ a' W' e (hI.step RA12_mono hl hb hv)
                    have hWW := hbWd.trans (hbel.mono hbWd.size)
                    have y := keep hbel x0 hBxl
                    have d0 : l.getD 0 false = true := by
                      simp [Region.binds] at hd
                      simp [hd]
                    obtain rfl : u0 = _ := hHas 0 (by decide) d0
                    clear hl hI hd hn hK hHas hlen d0
                    refine StepG.mk ?_
                    simp only [puts, Act.put]
                    go_simp
                    exact HK.out (.int .i64 xf) _ (Below.refl _ _) rfl _ (by simp [puts, Act.put])
                  refine Steps.cons rfl ?_ ?_
                  · intro l us W hl hI hd hn K' hK
                    have hHas := hI.has
                    have hbel := hI.bel
                    have hlen := hI.len
                    obtain ⟨u0, u1, u2, u3, u4, u5, u6, u7, u8, u9, u10, u11, u12, u13, rfl⟩ := list_RA12 hlen
                    have HK : Hid (∀ v W', Below W.heap.size W W' → RA12 (xf) (((t2 : Nat) : Int)) (Bx) (.slice (some ⟨bq, oq, none⟩) S0.1.length cvq) (i) (bq) (oq) (s0) (.slice ak kp.length ck) (hb) 2 v W' → ∀ a', puts _ _ [u0, u1, v, u3, u4, u5, u6, u7, u8, u9, u10, u11, u12, u13] = a' → K' a' W') := fun v W' hb hv a' e => hK _ a' W' e (hI.step RA12_mono hl hb hv)
                    have hWW := hbWd.trans (hbel.mono hbWd.size)
                    clear hl hI hd hn hK hHas hlen 
                    refine StepG.mk ?_
                    simp only [puts, Act.put]
                    go_simp
                    exact HK.out ((.slice (some ⟨bq, oq, none⟩) S0.1.length cvq)) _ (Below.refl _ _) rfl _ (by simp [puts, Act.put])
                  refine Steps.cons rfl ?_ ?_
                  · intro l us W hl hI hd hn K' hK
                    have hHas := hI.has
                    have hbel := hI.bel
                    have hlen := hI.len
                    obtain ⟨u0, u1, u2, u3, u4, u5, u6, u7, u8, u9, u10, u11, u12, u13, rfl⟩ := list_RA12 hlen
                    have HK : Hid (∀ v W', Below W.heap.size W W' → RA12 (xf) (((t2 : Nat) : Int)) (Bx) (.slice (some ⟨bq, oq, none⟩) S0.1.length cvq) (i) (bq) (oq) (s0) (.slice ak kp.length ck) (hb) 3 v W' → ∀ a', puts _ _ [u0, u1, u2, v, u4, u5, u6, u7, u8, u9, u10, u11, u12, u13] = a' → K' a' W') := fun v W' hb hv a' e => hK _ a' W' e (hI.step RA12_mono hl hb hv)
                    have hWW := hbWd.trans (hbel.mono hbWd.size)
                    clear hl hI hd hn hK hHas hlen 
                    refine StepG.mk ?_
                    simp only [puts, Act.put]
                    go_simp
                    exact HK.out (.int .i64 (i : Nat)) _ (Below.refl _ _) rfl _ (by simp [puts, Act.put])
                  refine Steps.cons rfl ?_ ?_
                  · intro l us W hl hI hd hn K' hK
                    have hHas := hI.has
                    have hbel := hI.bel
                    have hlen := hI.len
                    obtain ⟨u0, u1, u2, u3, u4, u5, u6, u7, u8, u9, u10, u11, u12, u13, rfl⟩ := list_RA12 hlen
                    have HK : Hid (∀ v W', Below W.heap.size W W' → RA12 (xf) (((t2 : Nat) : Int)) (Bx) (.slice (some ⟨bq, oq, none⟩) S0.1.length cvq) (i) (bq) (oq) (s0) (.slice ak kp.length ck) (hb) 4 v W' → ∀ a', puts _ _ [u0, u1, u2, u3, v, u5, u6, u7, u8, u9, u10, u11, u12, u13] = a' → K' a' W') := fun v W' hb hv a' e => hK _ a' W' e (hI.step RA12_mono hl hb hv)
                    have hWW := hbWd.trans (hbel.mono hbWd.size)
                    have d2 : l.getD 2 false = true := by
                      simp [Region.binds] at hd
                      simp [hd]
                    have d3 : l.getD 3 false = true := by
                      simp [Region.binds] at hd
                      simp [hd]
                    obtain rfl : u2 = _ := hHas 2 (by decide) d2
                    obtain rfl : u3 = _ := hHas 3 (by decide) d3
                    clear hl hI hd hn hK hHas hlen d2 d3
                    refine StepG.mk ?_
                    simp only [puts, Act.put]
                    go_simp
                    exact HK.out (.pointer (some ⟨bq, oq + i, none⟩)) _ (Below.refl _ _) rfl _ (by simp [puts, Act.put])
                  refine Steps.cons rfl ?_ ?_
                  · intro l us W hl hI hd hn K' hK
                    have hHas := hI.has
                    have hbel := hI.bel
                    have hlen := hI.len
                    obtain ⟨u0, u1, u2, u3, u4, u5, u6, u7, u8, u9, u10, u11, u12, u13, rfl⟩ := list_RA12 hlen
                    have HK : Hid (∀ v W', Below W.heap.size W W' → RA12 (xf) (((t2 : Nat) : Int)) (Bx) (.slice (some ⟨bq, oq, none⟩) S0.1.length cvq) (i) (bq) (oq) (s0) (.slice ak kp.length ck) (hb) 5 v W' → ∀ a', puts _ _ [u0, u1, u2, u3, u4, v, u6, u7, u8, u9, u10, u11, u12, u13] = a' → K' a' W') := fun v W' hb hv a' e => hK _ a' W' e (hI.step RA12_mono hl hb hv)
                    have hWW := hbWd.trans (hbel.mono hbWd.size)
                    have y := keep hbel qc hqcl
                    have d4 : l.getD 4 false = true := by
                      simp [Region.binds] at hd
                      simp [hd]
                    obtain rfl : u4 = _ := hHas 4 (by decide) d4
                    clear hl hI hd hn hK hHas hlen d4
                    refine StepG.mk ?_
                    simp only [puts, Act.put]
                    go_simp
                    exact HK.out (.int .i64 s0) _ (Below.refl _ _) rfl _ (by simp [puts, Act.put])
                  refine Steps.cons rfl ?_ ?_
                  · intro l us W hl hI hd hn K' hK
                    have hHas := hI.has
                    have hbel := hI.bel
                    have hlen := hI.len
                    obtain ⟨u0, u1, u2, u3, u4, u5, u6, u7, u8, u9, u10, u11, u12, u13, rfl⟩ := list_RA12 hlen
                    have HK : Hid (∀ v W', Below W.heap.size W W' → RA12 (xf) (((t2 : Nat) : Int)) (Bx) (.slice (some ⟨bq, oq, none⟩) S0.1.length cvq) (i) (bq) (oq) (s0) (.slice ak kp.length ck) (hb) 6 v W' → ∀ a', puts _ _ [u0, u1, u2, u3, u4, u5, v, u7, u8, u9, u10, u11, u12, u13] = a' → K' a' W') := fun v W' hb hv a' e => hK _ a' W' e (hI.step RA12_mono hl hb hv)
                    have hWW := hbWd.trans (hbel.mono hbWd.size)
                    have d1 : l.getD 1 false = true := by
                      simp [Region.binds] at hd
                      simp [hd]
                    have d5 : l.getD 5 false = true := by
                      simp [Region.binds] at hd
                      simp [hd]
                    obtain rfl : u1 = _ := hHas 1 (by decide) d1
                    obtain rfl : u5 = _ := hHas 5 (by decide) d5
                    clear hl hI hd hn hK hHas hlen d1 d5
                    refine StepG.mk ?_
                    simp only [puts, Act.put]
                    go_simp
                    exact HK.out (.bool true) _ (Below.refl _ _) rfl _ (by simp [puts, Act.put])
                  refine Steps.cons rfl ?_ ?_
                  · intro l us W hl hI hd hn K' hK
                    have hHas := hI.has
                    have hbel := hI.bel
                    have hlen := hI.len
                    obtain ⟨u0, u1, u2, u3, u4, u5, u6, u7, u8, u9, u10, u11, u12, u13, rfl⟩ := list_RA12 hlen
                    have HK : Hid (∀ v W', Below W.heap.size W W' → RA12 (xf) (((t2 : Nat) : Int)) (Bx) (.slice (some ⟨bq, oq, none⟩) S0.1.length cvq) (i) (bq) (oq) (s0) (.slice ak kp.length ck) (hb) 7 v W' → ∀ a', puts _ _ [u0, u1, u2, u3, u4, u5, u6, v, u8, u9, u10, u11, u12, u13] = a' → K' a' W') := fun v W' hb hv a' e => hK _ a' W' e (hI.step RA12_mono hl hb hv)
                    have hWW := hbWd.trans (hbel.mono hbWd.size)
                    have d6 : l.getD 6 false = true := by
                      simp [Region.binds] at hd
                      simp [hd]
                    obtain rfl : u6 = _ := hHas 6 (by decide) d6
                    clear hl hI hd hn hK hHas hlen d6
                    refine StepG.mk ?_
                    simp only [puts, Act.put]
                    go_simp
                    exact HK.out (.bool true) _ (Below.refl _ _) rfl _ (by simp [puts, Act.put])
                  refine Steps.cons rfl ?_ ?_
                  · intro l us W hl hI hd hn K' hK
                    have hHas := hI.has
                    have hbel := hI.bel
                    have hlen := hI.len
                    obtain ⟨u0, u1, u2, u3, u4, u5, u6, u7, u8, u9, u10, u11, u12, u13, rfl⟩ := list_RA12 hlen
                    have HK : Hid (∀ v W', Below W.heap.size W W' → RA12 (xf) (((t2 : Nat) : Int)) (Bx) (.slice (some ⟨bq, oq, none⟩) S0.1.length cvq) (i) (bq) (oq) (s0) (.slice ak kp.length ck) (hb) 8 v W' → ∀ a', puts _ _ [u0, u1, u2, u3, u4, u5, u6, u7, v, u9, u10, u11, u12, u13] = a' → K' a' W') := fun v W' hb hv a' e => hK _ a' W' e (hI.step RA12_mono hl hb hv)
                    have hWW := hbWd.trans (hbel.mono hbWd.size)
                    have d7 : l.getD 7 false = true := by
                      simp [Region.binds] at hd
                      simp [hd]
                    obtain rfl : u7 = _ := hHas 7 (by decide) d7
                    clear hl hI hd hn hK hHas hlen d7
                    refine StepG.mk ?_
                    simp only [puts, Act.put]
                    go_simp
                    exact HK.out (undef) _ (Below.refl _ _) rfl _ (by simp [puts, Act.put])
                  refine Steps.cons rfl ?_ ?_
                  · intro l us W hl hI hd hn K' hK
                    have hHas := hI.has
                    have hbel := hI.bel
                    have hlen := hI.len
                    obtain ⟨u0, u1, u2, u3, u4, u5, u6, u7, u8, u9, u10, u11, u12, u13, rfl⟩ := list_RA12 hlen
                    have HK : Hid (∀ v W', Below W.heap.size W W' → RA12 (xf) (((t2 : Nat) : Int)) (Bx) (.slice (some ⟨bq, oq, none⟩) S0.1.length cvq) (i) (bq) (oq) (s0) (.slice ak kp.length ck) (hb) 9 v W' → ∀ a', puts _ _ [u0, u1, u2, u3, u4, u5, u6, u7, u8, v, u10, u11, u12, u13] = a' → K' a' W') := fun v W' hb hv a' e => hK _ a' W' e (hI.step RA12_mono hl hb hv)
                    have hWW := hbWd.trans (hbel.mono hbWd.size)
                    have d7 : l.getD 7 false = true := by
                      simp [Region.binds] at hd
                      simp [hd]
                    obtain rfl : u7 = _ := hHas 7 (by decide) d7
                    clear hl hI hd hn hK hHas hlen d7
                    refine StepG.mk ?_
                    simp only [puts, Act.put]
                    go_simp
                    exact HK.out (undef) _ (Below.refl _ _) rfl _ (by simp [puts, Act.put])
                  refine Steps.cons rfl ?_ ?_
                  · intro l us W hl hI hd hn K' hK
                    have hHas := hI.has
                    have hbel := hI.bel
                    have hlen := hI.len
                    obtain ⟨u0, u1, u2, u3, u4, u5, u6, u7, u8, u9, u10, u11, u12, u13, rfl⟩ := list_RA12 hlen
                    have HK : Hid (∀ v W', Below W.heap.size W W' → RA12 (xf) (((t2 : Nat) : Int)) (Bx) (.slice (some ⟨bq, oq, none⟩) S0.1.length cvq) (i) (bq) (oq) (s0) (.slice ak kp.length ck) (hb) 10 v W' → ∀ a', puts _ _ [u0, u1, u2, u3, u4, u5, u6, u7, u8, u9, v, u11, u12, u13] = a' → K' a' W') := fun v W' hb hv a' e => hK _ a' W' e (hI.step RA12_mono hl hb hv)
                    have hWW := hbWd.trans (hbel.mono hbWd.size)
                    have d7 : l.getD 7 false = true := by
                      simp [Region.binds] at hd
                      simp [hd]
                    obtain rfl : u7 = _ := hHas 7 (by decide) d7
                    clear hl hI hd hn hK hHas hlen d7
                    refine StepG.mk ?_
                    simp only [puts, Act.put]
                    go_simp
                    exact HK.out (undef) _ (Below.refl _ _) rfl _ (by simp [puts, Act.put])
                  refine Steps.cons rfl ?_ ?_
                  · intro l us W hl hI hd hn K' hK
                    have hHas := hI.has
                    have hbel := hI.bel
                    have hlen := hI.len
                    obtain ⟨u0, u1, u2, u3, u4, u5, u6, u7, u8, u9, u10, u11, u12, u13, rfl⟩ := list_RA12 hlen
                    have HK : Hid (∀ v W', Below W.heap.size W W' → RA12 (xf) (((t2 : Nat) : Int)) (Bx) (.slice (some ⟨bq, oq, none⟩) S0.1.length cvq) (i) (bq) (oq) (s0) (.slice ak kp.length ck) (hb) 11 v W' → ∀ a', puts _ _ [u0, u1, u2, u3, u4, u5, u6, u7, u8, u9, u10, v, u12, u13] = a' → K' a' W') := fun v W' hb hv a' e => hK _ a' W' e (hI.step RA12_mono hl hb hv)
                    have hWW := hbWd.trans (hbel.mono hbWd.size)
                    have d7 : l.getD 7 false = true := by
                      simp [Region.binds] at hd
                      simp [hd]
                    obtain rfl : u7 = _ := hHas 7 (by decide) d7
                    clear hl hI hd hn hK hHas hlen d7
                    refine StepG.mk ?_
                    simp only [puts, Act.put]
                    go_simp
                    exact HK.out (undef) _ (Below.refl _ _) rfl _ (by simp [puts, Act.put])
                  refine Steps.cons rfl ?_ ?_
                  · intro l us W hl hI hd hn K' hK
                    have hHas := hI.has
                    have hbel := hI.bel
                    have hlen := hI.len
                    obtain ⟨u0, u1, u2, u3, u4, u5, u6, u7, u8, u9, u10, u11, u12, u13, rfl⟩ := list_RA12 hlen
                    have HK : Hid (∀ v W', Below W.heap.size W W' → RA12 (xf) (((t2 : Nat) : Int)) (Bx) (.slice (some ⟨bq, oq, none⟩) S0.1.length cvq) (i) (bq) (oq) (s0) (.slice ak kp.length ck) (hb) 12 v W' → ∀ a', puts _ _ [u0, u1, u2, u3, u4, u5, u6, u7, u8, u9, u10, u11, v, u13] = a' → K' a' W') := fun v W' hb hv a' e => hK _ a' W' e (hI.step RA12_mono hl hb hv)
                    have hWW := hbWd.trans (hbel.mono hbWd.size)
                    have d7 : l.getD 7 false = true := by
                      simp [Region.binds] at hd
                      simp [hd]
                    obtain rfl : u7 = _ := hHas 7 (by decide) d7
                    clear hl hI hd hn hK hHas hlen d7
                    refine StepG.mk ?_
                    simp only [puts, Act.put]
                    go_simp
                    exact HK.out (undef) _ (Below.refl _ _) rfl _ (by simp [puts, Act.put])
                  refine Steps.cons rfl ?_ ?_
                  · intro l us W hl hI hd hn K' hK
                    have hHas := hI.has
                    have hbel := hI.bel
                    have hlen := hI.len
                    obtain ⟨u0, u1, u2, u3, u4, u5, u6, u7, u8, u9, u10, u11, u12, u13, rfl⟩ := list_RA12 hlen
                    have HK : Hid (∀ v W', Below W.heap.size W W' → RA12 (xf) (((t2 : Nat) : Int)) (Bx) (.slice (some ⟨bq, oq, none⟩) S0.1.length cvq) (i) (bq) (oq) (s0) (.slice ak kp.length ck) (hb) 13 v W' → ∀ a', puts _ _ [u0, u1, u2, u3, u4, u5, u6, u7, u8, u9, u10, u11, u12, v] = a' → K' a' W') := fun v W' hb hv a' e => hK _ a' W' e (hI.step RA12_mono hl hb hv)
                    have hWW := hbWd.trans (hbel.mono hbWd.size)
                    have d7 : l.getD 7 false = true := by
                      simp [Region.binds] at hd
                      simp [hd]
                    obtain rfl : u7 = _ := hHas 7 (by decide) d7
                    clear hl hI hd hn hK hHas hlen d7
                    refine StepG.mk ?_
                    simp only [puts, Act.put]
                    go_simp
                    exact HK.out (.bool true) _ (Below.refl _ _) rfl _ (by simp [puts, Act.put])
                  exact Steps.nil (Nat.le_refl _)
                · intro us W3 hlen hbel hall
                  obtain ⟨u0, u1, u2, u3, u4, u5, u6, u7, u8, u9, u10, u11, u12, u13, rfl⟩ := list_RA12 hlen
                  obtain rfl : u13 = _ := hall 13 (by decide)
                  have HX3 := Lib.hid (HXb.out.call ((bel_drew _).trans hbel))
                  have HE3 := Lib.hid (HEb.out.below ((bel_drew _).trans hbel))
                  have HO3 := Lib.hid (HOx.out.below ((bel_drew _).trans hbel))
                  clear hall hlen hbel hbWd x0 x2 qc HXb HEb HOx hBxl hqcl hszb
                  simp only [puts, Act.put, List.setIfInBounds_toArray, List.set_cons_succ, List.set_cons_zero]
                  go_wp2_with fail
                  go_roundw
                  case rel => exact ⟨_, ve, k + 1, S0, by go_num, by omega, HX3.out, HE3.out, Hq.out, by omega, hlt2, hs0, by show _ = _; rw [hfold2.out, Hst.out]⟩
                  case measure => simp [intOf]; omega
            · have hke : a.es.length = k := by omega
              have hfin : a.es.foldl (rrStep kp s0 i) S = S0 := by rw [hfold.out, ← hke, List.drop_length]; rfl
              have Hfin := Lib.hid hfin
              have HC := Lib.hid hC
              have HE := Lib.hid hE
              have Hq := Lib.hid hq
              have hnk : ¬ (k : Int) < (a.es.length : Int) := by omega
              clear hfin hfold hC hE hq
              go_wp2_with fail
              go_roundw
              case rel => exact ⟨tag, ve, i + 1, S0, by go_num, HC.out, HE.out, Hq.out, by omega, by omega, by show _ = _; rw [Hstep.out, Hfin.out]⟩
              case measure => simp [intOf]; omega
        · have hnl : ¬ (i : Int) < (S.1.length : Int) := by omega
          have HQ : Hid (RL = S) := by
            show _ = _
            rw [hRL.out, show n + 1 - i = (n - i) + 1 by omega, rrLoop, if_neg hlt]
          have o1 : wr.cell? ⟨w.heap.size + 1 + 1, 1, none⟩ = some (.int .i64 0) := hC.ob.cell 1
          have of1 := hC.ob.frozen 1
          have HCN := Lib.hid (hC.putN (.int .i64 (S.1.length : Int))).1
          have HEN := Lib.hid (hE.turn (hC.putN (.int .i64 (S.1.length : Int))).2 (by decide))
          clear hC hE hRL hq
          obtain ⟨Q, E⟩ := S
          dsimp only at *
          go_wp2_with fail
          go_loopw [10] (fun vk wr => ∃ (tag : Nat → Nat) (vm : Value) (k : Nat), vk = .int .i64 (k : Nat) ∧ k ≤ Q.length ∧ RC w (.slice aa a.al.length ca) (.int .i64 n) (.slice am a.ms.length cm) (.slice ae a.es.length ce) (w.heap.size + 1 + 1) (.slice aa a.al.length ca) wr tag vm ve (.slice avq Q.length cvq) Q (rrMsTo a.ms Q k) (.int .i64 (Q.length : Int)) ∧ Row wr w.heap.size tag 8 45 3 ve E.length (edCells E)) (fun vk _ => Q.length - (intOf vk).toNat)
          case atStart => exact ⟨tag, .slice none 0 0, 0, rfl, Nat.zero_le _, HCN.out, HEN.out⟩
          case round =>
            clear HCN HEN o1 of1
            obtain ⟨tag, vm, k, rfl, hk, hC, hE⟩ := hrel
            have hbX := hC.below
            have hsX := hbX.size
            by_cases hltk : k < Q.length
            · have hltkI : (k : Int) < (Q.length : Int) := by omega
              obtain ⟨bq, oq, cvq, e9, hqcl, _, qc⟩ := hC.qr.at_int k hltk
              cases e9
              have hms := rrMsTo_succ a.ms Q k
              rw [show Q.getD k 0 = Q[k] by rw [List.getD_eq_getElem?_getD, List.getElem?_eq_getElem hltk]; rfl] at hms
              have Hms := Lib.hid hms
              clear hms
              generalize Q[k] = s0 at *
              have hhm := fun W h => has_any (.slice am a.ms.length cm) a.ms s0 W h hams
              generalize hasB a.ms s0 = hb at *
              have Hhm := Lib.hid hhm
              have g2 : wr.cell? ⟨w.heap.size, 2, none⟩ = some (.slice am a.ms.length cm) := hC.ab.cell 2
              have hgl := hC.ab.lt
              have hbWd := hbX.drew
              have HX := Lib.hid hC
              have HEr := Lib.hid hE
              clear hC hE hhm
              go_wp2_with fail
              refine wp_region_mono2 (RB20 (w.heap.size) (.slice am a.ms.length cm) (.slice (some ⟨bq, oq, none⟩) Q.length cvq) (k) (bq) (oq) (s0) (hb)) [88, 89, 90, 91, 92, 93, 94] RB20_mono rfl (by kernel_rfl) (by kernel_rfl) ?_ ?_
              · skip
                refine Steps.cons rfl ?_ ?_
                · intro l us W hl hI hd hn K' hK
                  have hHas := hI.has
                  have hbel := hI.bel
                  have hlen := hI.len
                  obtain ⟨u0, u1, u2, u3, u4, u5, u6, rfl⟩ := list_RB20 hlen
                  have HK : Hid (∀ v W', Below W.heap.size W W' → RB20 (w.heap.size) (.slice am a.ms.length cm) (.slice (some ⟨bq, oq, none⟩) Q.length cvq) (k) (bq) (oq) (s0) (hb) 0 v W' → ∀ a', puts _ _ [v, u1, u2, u3, u4, u5, u6] = a' → K' a' W') := fun v W' hb hv a' e => hK _ a' W' e (hI.step RB20_mono hl hb hv)
                  have hWW := hbWd.trans (hbel.mono hbWd.size)
                  clear hl hI hd hn hK hHas hlen 
                  refine StepG.mk ?_
                  simp only [puts, Act.put]
                  go_simp
                  exact HK.out (.pointer (some ⟨w.heap.size, 2, none⟩)) _ (Below.refl _ _) rfl _ (by simp [puts, Act.put])
                refine Steps.cons rfl ?_ ?_
                · intro l us W hl hI hd hn K' hK
                  have hHas := hI.has
                  have hbel := hI.bel
                  have hlen := hI.len
                  obtain ⟨u0, u1, u2, u3, u4, u5, u6, rfl⟩ := list_RB20 hlen
                  have HK : Hid (∀ v W', Below W.heap.size W W' → RB20 (w.heap.size) (.slice am a.ms.length cm) (.slice (some ⟨bq, oq, none⟩) Q.length cvq) (k) (bq) (oq) (s0) (hb) 1 v W' → ∀ a', puts _ _ [u0, v, u2, u3, u4, u5, u6] = a' → K' a' W') := fun v W' hb hv a' e => hK _ a' W' e (hI.step RB20_mono hl hb hv)
                  have hWW := hbWd.trans (hbel.mono hbWd.size)
                  have y := keep hbel g2 hgl
                  have d0 : l.getD 0 false = true := by
                    simp [Region.binds] at hd
                    simp [hd]
                  obtain rfl : u0 = _ := hHas 0 (by decide) d0
                  clear hl hI hd hn hK hHas hlen d0
                  refine StepG.mk ?_
                  simp only [puts, Act.put]
                  go_simp
                  exact HK.out ((.slice am a.ms.length cm)) _ (Below.refl _ _) rfl _ (by simp [puts, Act.put])
                refine Steps.cons rfl ?_ ?_
                · intro l us W hl hI hd hn K' hK
                  have hHas := hI.has
                  have hbel := hI.bel
                  have hlen := hI.len
                  obtain ⟨u0, u1, u2, u3, u4, u5, u6, rfl⟩ := list_RB20 hlen
                  have HK : Hid (∀ v W', Below W.heap.size W W' → RB20 (w.heap.size) (.slice am a.ms.length cm) (.slice (some ⟨bq, oq, none⟩) Q.length cvq) (k) (bq) (oq) (s0) (hb) 2 v W' → ∀ a', puts _ _ [u0, u1, v, u3, u4, u5, u6] = a' → K' a' W') := fun v W' hb hv a' e => hK _ a' W' e (hI.step RB20_mono hl hb hv)
                  have hWW := hbWd.trans (hbel.mono hbWd.size)
                  clear hl hI hd hn hK hHas hlen 
                  refine StepG.mk ?_
                  simp only [puts, Act.put]
                  go_simp
                  exact HK.out ((.slice (some ⟨bq, oq, none⟩) Q.length cvq)) _ (Below.refl _ _) rfl _ (by simp [puts, Act.put])
                refine Steps.cons rfl ?_ ?_
                · intro l us W hl hI hd hn K' hK
                  have hHas := hI.has
                  have hbel := hI.bel
                  have hlen := hI.len
                  obtain ⟨u0, u1, u2, u3, u4, u5, u6, rfl⟩ := list_RB20 hlen
                  have HK : Hid (∀ v W', Below W.heap.size W W' → RB20 (w.heap.size) (.slice am a.ms.length cm) (.slice (some ⟨bq, oq, none⟩) Q.length cvq) (k) (bq) (oq) (s0) (hb) 3 v W' → ∀ a', puts _ _ [u0, u1, u2, v, u4, u5, u6] = a' → K' a' W') := fun v W' hb hv a' e => hK _ a' W' e (hI.step RB20_mono hl hb hv)
                  have hWW := hbWd.trans (hbel.mono hbWd.size)
                  clear hl hI hd hn hK hHas hlen 
                  refine StepG.mk ?_
                  simp only [puts, Act.put]
                  go_simp
                  exact HK.out (.int .i64 (k : Nat)) _ (Below.refl _ _) rfl _ (by simp [puts, Act.put])
                refine Steps.cons rfl ?_ ?_
                · intro l us W hl hI hd hn K' hK
                  have hHas := hI.has
                  have hbel := hI.bel
                  have hlen := hI.len
                  obtain ⟨u0, u1, u2, u3, u4, u5, u6, rfl⟩ := list_RB20 hlen
                  have HK : Hid (∀ v W', Below W.heap.size W W' → RB20 (w.heap.size) (.slice am a.ms.length cm) (.slice (some ⟨bq, oq, none⟩) Q.length cvq) (k) (bq) (oq) (s0) (hb) 4 v W' → ∀ a', puts _ _ [u0, u1, u2, u3, v, u5, u6] = a' → K' a' W') := fun v W' hb hv a' e => hK _ a' W' e (hI.step RB20_mono hl hb hv)
                  have hWW := hbWd.trans (hbel.mono hbWd.size)
                  have d2 : l.getD 2 false = true := by
                    simp [Region.binds] at hd
                    simp [hd]
                  have d3 : l.getD 3 false = true := by
                    simp [Region.binds] at hd
                    simp [hd]
                  obtain rfl : u2 = _ := hHas 2 (by decide) d2
                  obtain rfl : u3 = _ := hHas 3 (by decide) d3
                  clear hl hI hd hn hK hHas hlen d2 d3
                  refine StepG.mk ?_
                  simp only [puts, Act.put]
                  go_simp
                  exact HK.out (.pointer (some ⟨bq, oq + k, none⟩)) _ (Below.refl _ _) rfl _ (by simp [puts, Act.put])
                refine Steps.cons rfl ?_ ?_
                · intro l us W hl hI hd hn K' hK
                  have hHas := hI.has
                  have hbel := hI.bel
                  have hlen := hI.len
                  obtain ⟨u0, u1, u2, u3, u4, u5, u6, rfl⟩ := list_RB20 hlen
                  have HK : Hid (∀ v W', Below W.heap.size W W' → RB20 (w.heap.size) (.slice am a.ms.length cm) (.slice (some ⟨bq, oq, none⟩) Q.length cvq) (k) (bq) (oq) (s0) (hb) 5 v W' → ∀ a', puts _ _ [u0, u1, u2, u3, u4, v, u6] = a' → K' a' W') := fun v W' hb hv a' e => hK _ a' W' e (hI.step RB20_mono hl hb hv)
                  have hWW := hbWd.trans (hbel.mono hbWd.size)
                  have y := keep hbel qc hqcl
                  have d4 : l.getD 4 false = true := by
                    simp [Region.binds] at hd
                    simp [hd]
                  obtain rfl : u4 = _ := hHas 4 (by decide) d4
                  clear hl hI hd hn hK hHas hlen d4
                  refine StepG.mk ?_
                  simp only [puts, Act.put]
                  go_simp
                  exact HK.out (.int .i64 s0) _ (Below.refl _ _) rfl _ (by simp [puts, Act.put])
                refine Steps.cons rfl ?_ ?_
                · intro l us W hl hI hd hn K' hK
                  have hHas := hI.has
                  have hbel := hI.bel
                  have hlen := hI.len
                  obtain ⟨u0, u1, u2, u3, u4, u5, u6, rfl⟩ := list_RB20 hlen
                  have HK : Hid (∀ v W', Below W.heap.size W W' → RB20 (w.heap.size) (.slice am a.ms.length cm) (.slice (some ⟨bq, oq, none⟩) Q.length cvq) (k) (bq) (oq) (s0) (hb) 6 v W' → ∀ a', puts _ _ [u0, u1, u2, u3, u4, u5, v] = a' → K' a' W') := fun v W' hb hv a' e => hK _ a' W' e (hI.step RB20_mono hl hb hv)
                  have hWW := hbWd.trans (hbel.mono hbWd.size)
                  have d1 : l.getD 1 false = true := by
                    simp [Region.binds] at hd
                    simp [hd]
                  have d5 : l.getD 5 false = true := by
                    simp [Region.binds] at hd
                    simp [hd]
                  obtain rfl : u1 = _ := hHas 1 (by decide) d1
                  obtain rfl : u5 = _ := hHas 5 (by decide) d5
                  clear hl hI hd hn hK hHas hlen d1 d5
                  refine StepG.mk ?_
                  simp only [puts, Act.put]
                  go_simp
                  refine (Hhm.out _ ⟨am, cm, rfl, hrm.mono hWW⟩).mono ?_
                  rintro e w9 ⟨rfl, rfl⟩
                  go_simp
                  exact HK.out _ _ (Below.refl _ _) rfl _ (by simp [puts, Act.put])
                exact Steps.nil (Nat.le_refl _)
              · intro us W3 hlen hbel hall
                obtain ⟨u0, u1, u2, u3, u4, u5, u6, rfl⟩ := list_RB20 hlen
                obtain rfl : u6 = _ := hall 6 (by decide)
                have hX3 := HX.out.call ((bel_drew _).trans hbel)
                have hE3 := HEr.out.below ((bel_drew _).trans hbel)
                clear hall hlen hbel hbWd g2 qc HX HEr hgl
                simp only [puts, Act.put, List.setIfInBounds_toArray, List.set_cons_succ, List.set_cons_zero]
                have hml := rrMsTo_len a.ms Q k
                generalize hM : rrMsTo a.ms Q k = M at *
                obtain ⟨avm, cvm, rfl⟩ := hX3.mr.val
                have hsz3 := hX3.below.size
                have HX := Lib.hid hX3
                have HEr := Lib.hid hE3
                have o2 : W3.cell? ⟨w.heap.size + 1 + 1, 2, none⟩ = some (.slice avm M.length cvm) := hX3.ob.cell 2
                have hol := hX3.ob.lt
                clear hX3 hE3 hM
                cases hb with
                | false =>
                  go_wp2_with fail
                  go_roundw
                  case rel => exact ⟨tag, _, k + 1, by go_num, by omega, by rw [Hms.out]; exact HX.out, HEr.out⟩
                  case measure => simp [intOf]; omega
                | true =>
                  have hX6 := Lib.hid (HX.out.up (.cells #[.int .i64 (k : Int)] 3) 9)
                  have hE6 := Lib.hid (HEr.out.up (.cells #[.int .i64 (k : Int)] 3) 9)
                  go_wp2_with (at_builtin; refine wpList_append_row rfl _ _ 28 rfl 3 i0 (.int .i64 0) 8 Try.underlying28 hi hz0 hz1 hz2 rfl rfl hX6.out.mr (some ⟨_, 0, none⟩) 1 1 [.int .i64 (k : Int)] rfl (by simp) (fun e => by cases e) (fun ad e => by cases e; exact new_cells_at _ _ rfl) (by simp [Value.oneCell']) (by unfold maxLen; omega) (by omega) (by simp; omega) ?_; intro v6 w9 tag6 hr6 ht6; have HP6 := Lib.hid (hX6.out.markS hr6 ht6); have s6 := hX6.out.ob.turn ht6 (by decide); have HT6 := Lib.hid (Turn.setCell s6 2 v6); have hE7 := Lib.hid (hE6.out.turn ht6 (by decide)); obtain ⟨a6, c6, rfl⟩ := hr6.val; have z0 := s6.cell 2; have z1 := s6.frozen 2; simp at z0; clear hr6 ht6 s6)
                  go_roundw
                  case rel => exact ⟨tag6, _, k + 1, by go_num, by omega, by rw [Hms.out]; exact HP6.out, hE7.out.turn HT6.out (by decide)⟩
                  case measure => simp [intOf]; omega
            · obtain rfl : Q.length = k := by omega
              have HR2 : Hid (R = ⟨a.al, (Q.length : Int), rrMsTo a.ms Q Q.length, E⟩) := by show _ = _; rw [HR1.out, HQ.out]; rfl
              generalize rrMsTo a.ms Q Q.length = M at *
              have hnl2 : ¬ (Q.length : Int) < (Q.length : Int) := by omega
              have o0 : wr.cell? ⟨w.heap.size + 1 + 1, 0, none⟩ = some (.slice aa a.al.length ca) := hC.ob.cell 0
              have o1 : wr.cell? ⟨w.heap.size + 1 + 1, 1, none⟩ = some (.int .i64 (Q.length : Int)) := hC.ob.cell 1
              have o2 : wr.cell? ⟨w.heap.size + 1 + 1, 2, none⟩ = some vm := hC.ob.cell 2
              have o3 : wr.cell? ⟨w.heap.size + 1 + 1, 3, none⟩ = some ve := hC.ob.cell 3
              have r0 : wr.cell? ⟨w.heap.size + 1, 0, none⟩ = some (.slice none 0 0) := hC.rc.cell 0
              have r1 : wr.cell? ⟨w.heap.size + 1, 1, none⟩ = some (.int .i64 0) := hC.rc.cell 1
              have r2 : wr.cell? ⟨w.heap.size + 1, 2, none⟩ = some (.slice none 0 0) := hC.rc.cell 2
              have r3 : wr.cell? ⟨w.heap.size + 1, 3, none⟩ = some (.slice none 0 0) := hC.rc.cell 3
              have rf0 := hC.rc.frozen 0
              have rf1 := hC.rc.frozen 1
              have rf2 := hC.rc.frozen 2
              have rf3 := hC.rc.frozen 3
              obtain ⟨avm, cvm, rfl⟩ := hC.mr.val
              obtain ⟨ave, cve, rfl⟩ := hE.val
              have HX := Lib.hid hC
              have HEr := Lib.hid hE
              clear hC hE
              go_wp2_with fail
              have rc1 := HX.out.rc
              have rc2 : Own _ w.heap.size (tagUp tag (w.heap.size + 1) 11) 11 (w.heap.size + 1) _ _ := ⟨rc1.heap, tagUp_at _ _ _, rc1.base⟩
              have mr2 := HX.out.mr.retag (kx := 11) rc1.heap (by decide)
              have er2 := HEr.out.retag (kx := 11) rc1.heap (by decide)
              have hs4 := own_store4 rc2 (.slice aa a.al.length ca) (.int .i64 (Q.length : Int)) (.slice avm M.length cvm) (.slice ave E.length cve)
              have hbl2 := belTurn hbX hs4.2 hbX.size
              have mr3 := mr2.turn hs4.2 (by decide)
              have er3 := er2.turn hs4.2 (by decide)
              have d0 := hs4.1.cell 0
              have d1 := hs4.1.cell 1
              have d2 := hs4.1.cell 2
              have d3 := hs4.1.cell 3
              refine bodyPost_ret (v := .agg #[.slice aa a.al.length ca, .int .i64 (Q.length : Int), .slice avm M.length cvm, .slice ave E.length cve]) (by simp [results, Try.results38, go_sem, d0, d1, d2, d3]) rfl ⟨_, rfl, ?_, hbl2⟩
              rw [HR2.out]
              obtain ⟨a9, c9, e9, h9⟩ := er3.rd
              exact ⟨_, _, _, rfl, ⟨aa, ca, rfl, hra.mono hbl2⟩, mr3.rdI, ⟨a9, c9, e9, h9⟩⟩
end Go.Proofs.Ythchkddhibhenaa
