/- Texts joined: RCycle, CycEq. Each is introduced by its own sentence. -/
import Derived.Test.YthchkddhibhenaaCyc6
import Derived.Test.YthchkddhibhenaaCyc10
import Derived.Test.YthchkddhibhenaaCyc11
import Derived.Test.YthchkddhibhenaaCyc13
import Derived.Test.YthchkddhibhenaaCyc14
/- The contract of the reference's Cycle. -/
namespace Go.Proofs.Ythchkddhibhenaa
open Go Go.RowKit

/-- What holds of the slots of a region. -/
def RC5 (Av : Value) (Lv : Value) (k : Nat) (lb : Nat) (lo : Nat) (s : Int) (B : Nat) (n : Nat) (vv : Value) (R : Option (List Int)) : Nat → Value → World → Prop
  | 0, v, _ => v = Av
  | 1, v, _ => v = Lv
  | 2, v, _ => v = .int .i64 k
  | 3, v, _ => v = .pointer (some ⟨lb, lo + k, none⟩)
  | 4, v, _ => v = .int .i64 s
  | 5, v, _ => v = Lv
  | 6, v, _ => v = .int .i64 k
  | 7, v, _ => v = .pointer (some ⟨lb, lo + k, none⟩)
  | 8, v, _ => v = .int .i64 s
  | 9, v, W => ∃ a c, v = .slice a ([s]).length c ∧ RdI W v ([s])
  | 10, v, _ => v = .pointer (some ⟨B, 1, none⟩)
  | 11, v, _ => v = .int .i64 n
  | 12, v, W => ∃ a c, v = .slice a (allL n).length c ∧ RdI W v (allL n)
  | 13, v, _ => v = vv
  | 14, v, W => ∃ a c, v = .tuple #[.slice a (R.getD []).length c, .bool (R.isSome)] ∧ RdI W (.slice a (R.getD []).length c) (R.getD [])
  | 15, v, W => ∃ a c, v = .tuple #[.slice a (R.getD []).length c, .bool (R.isSome)] ∧ RdI W (.slice a (R.getD []).length c) (R.getD [])
  | 16, v, W => ∃ a c, v = .slice a (R.getD []).length c ∧ RdI W v (R.getD [])
  | 17, v, _ => v = .bool R.isSome
  | 18, v, W => ∃ a c, v = .slice a (R.getD []).length c ∧ RdI W v (R.getD [])
  | 19, v, _ => v = .bool R.isSome
  | _ + 20, _, _ => False
theorem RC5_mono {Av : Value} {Lv : Value} {k : Nat} {lb : Nat} {lo : Nat} {s : Int} {B : Nat} {n : Nat} {vv : Value} {R : Option (List Int)} : ∀ j v W W', Below W.heap.size W W' → RC5 Av Lv k lb lo s B n vv R j v W → RC5 Av Lv k lb lo s B n vv R j v W'
  | 0, _, _, _, _, h => h
  | 1, _, _, _, _, h => h
  | 2, _, _, _, _, h => h
  | 3, _, _, _, _, h => h
  | 4, _, _, _, _, h => h
  | 5, _, _, _, _, h => h
  | 6, _, _, _, _, h => h
  | 7, _, _, _, _, h => h
  | 8, _, _, _, _, h => h
  | 9, _, _, _, hb, ⟨a, c, h1, h2⟩ => ⟨a, c, h1, h2.mono hb⟩
  | 10, _, _, _, _, h => h
  | 11, _, _, _, _, h => h
  | 12, _, _, _, hb, ⟨a, c, h1, h2⟩ => ⟨a, c, h1, h2.mono hb⟩
  | 13, _, _, _, _, h => h
  | 14, _, _, _, hb, ⟨a, c, h1, h2⟩ => ⟨a, c, h1, h2.mono hb⟩
  | 15, _, _, _, hb, ⟨a, c, h1, h2⟩ => ⟨a, c, h1, h2.mono hb⟩
  | 16, _, _, _, hb, ⟨a, c, h1, h2⟩ => ⟨a, c, h1, h2.mono hb⟩
  | 17, _, _, _, _, h => h
  | 18, _, _, _, hb, ⟨a, c, h1, h2⟩ => ⟨a, c, h1, h2.mono hb⟩
  | 19, _, _, _, _, h => h
  | _ + 20, _, _, _, _, h => h.elim
theorem list_RC5 {us : List Value} (h : us.length = 20) : ∃ u0 u1 u2 u3 u4 u5 u6 u7 u8 u9 u10 u11 u12 u13 u14 u15 u16 u17 u18 u19, us = [u0, u1, u2, u3, u4, u5, u6, u7, u8, u9, u10, u11, u12, u13, u14, u15, u16, u17, u18, u19] := by
  match us, h with
  | [u0, u1, u2, u3, u4, u5, u6, u7, u8, u9, u10, u11, u12, u13, u14, u15, u16, u17, u18, u19], _ => exact ⟨_, _, _, _, _, _, _, _, _, _, _, _, _, _, _, _, _, _, _, _, rfl⟩
/-- What holds of the slots of a region. -/
def RC7 (Av : Value) (Lv : Value) (k : Nat) (lb : Nat) (lo : Nat) (s : Int) (B : Nat) (n : Nat) (vv : Value) (R : Option (List Int)) : Nat → Value → World → Prop
  | 0, v, _ => v = Av
  | 1, v, _ => v = Lv
  | 2, v, _ => v = .int .i64 k
  | 3, v, _ => v = .pointer (some ⟨lb, lo + k, none⟩)
  | 4, v, _ => v = .int .i64 s
  | 5, v, W => ∃ a c, v = .slice a ([s]).length c ∧ RdI W v ([s])
  | 6, v, _ => v = .pointer (some ⟨B, 1, none⟩)
  | 7, v, _ => v = .int .i64 n
  | 8, v, W => ∃ a c, v = .slice a (allL n).length c ∧ RdI W v (allL n)
  | 9, v, _ => v = .pointer (some ⟨B, 0, none⟩)
  | 10, v, _ => v = vv
  | 11, v, W => ∃ a c, v = .tuple #[.slice a (R.getD []).length c, .bool (R.isSome)] ∧ RdI W (.slice a (R.getD []).length c) (R.getD [])
  | 12, v, W => ∃ a c, v = .tuple #[.slice a (R.getD []).length c, .bool (R.isSome)] ∧ RdI W (.slice a (R.getD []).length c) (R.getD [])
  | 13, v, W => ∃ a c, v = .slice a (R.getD []).length c ∧ RdI W v (R.getD [])
  | 14, v, _ => v = .bool R.isSome
  | 15, v, W => ∃ a c, v = .slice a (R.getD []).length c ∧ RdI W v (R.getD [])
  | 16, v, _ => v = .bool R.isSome
  | _ + 17, _, _ => False
theorem RC7_mono {Av : Value} {Lv : Value} {k : Nat} {lb : Nat} {lo : Nat} {s : Int} {B : Nat} {n : Nat} {vv : Value} {R : Option (List Int)} : ∀ j v W W', Below W.heap.size W W' → RC7 Av Lv k lb lo s B n vv R j v W → RC7 Av Lv k lb lo s B n vv R j v W'
  | 0, _, _, _, _, h => h
  | 1, _, _, _, _, h => h
  | 2, _, _, _, _, h => h
  | 3, _, _, _, _, h => h
  | 4, _, _, _, _, h => h
  | 5, _, _, _, hb, ⟨a, c, h1, h2⟩ => ⟨a, c, h1, h2.mono hb⟩
  | 6, _, _, _, _, h => h
  | 7, _, _, _, _, h => h
  | 8, _, _, _, hb, ⟨a, c, h1, h2⟩ => ⟨a, c, h1, h2.mono hb⟩
  | 9, _, _, _, _, h => h
  | 10, _, _, _, _, h => h
  | 11, _, _, _, hb, ⟨a, c, h1, h2⟩ => ⟨a, c, h1, h2.mono hb⟩
  | 12, _, _, _, hb, ⟨a, c, h1, h2⟩ => ⟨a, c, h1, h2.mono hb⟩
  | 13, _, _, _, hb, ⟨a, c, h1, h2⟩ => ⟨a, c, h1, h2.mono hb⟩
  | 14, _, _, _, _, h => h
  | 15, _, _, _, hb, ⟨a, c, h1, h2⟩ => ⟨a, c, h1, h2.mono hb⟩
  | 16, _, _, _, _, h => h
  | _ + 17, _, _, _, _, h => h.elim
theorem list_RC7 {us : List Value} (h : us.length = 17) : ∃ u0 u1 u2 u3 u4 u5 u6 u7 u8 u9 u10 u11 u12 u13 u14 u15 u16, us = [u0, u1, u2, u3, u4, u5, u6, u7, u8, u9, u10, u11, u12, u13, u14, u15, u16] := by
  match us, h with
  | [u0, u1, u2, u3, u4, u5, u6, u7, u8, u9, u10, u11, u12, u13, u14, u15, u16], _ => exact ⟨_, _, _, _, _, _, _, _, _, _, _, _, _, _, _, _, _, rfl⟩
theorem QPost.tup {r : Option (List Int)} {u : Value} {w' : World} (h : QPost r u w') : ∃ a c, u = .tuple #[.slice a (r.getD []).length c, .bool r.isSome] ∧ RdI w' (.slice a (r.getD []).length c) (r.getD []) := by
  cases r with
  | none =>
    obtain rfl : u = _ := h
    exact ⟨none, 0, rfl, RdI.nil0 _⟩
  | some xs =>
    obtain ⟨v, rfl, hr⟩ := h
    obtain ⟨a, c, rfl, hr⟩ := hr
    exact ⟨a, c, rfl, ⟨a, c, rfl, hr⟩⟩
theorem RdA.al0 {w : World} {va vn vm ve : Value} {a : Aut} (h : RdA w (.agg #[va, vn, vm, ve]) a) : RdI w va a.al := by
  obtain ⟨va', vm', ve', e, h1, _, _⟩ := h
  simp at e
  rw [e.1]; exact h1
/-- The first cycle of the reference. -/
def cycR (n : Nat) (es : List Ed) (al evs : List Int) : List Int → Option (List Int × List Int)
  | [] => none
  | s :: l => match pathR es (allL n) evs [s] 1 s with
    | some c => some ((pathR es (allL n) al [s] 0 0).getD [], c)
    | none => cycR n es al evs l
theorem cycR_none {n : Nat} {es : List Ed} {al evs : List Int} {s : Int} {l : List Int} (h : pathR es (allL n) evs [s] 1 s = none) : cycR n es al evs (s :: l) = cycR n es al evs l := by rw [cycR, h]
theorem cycR_some {n : Nat} {es : List Ed} {al evs : List Int} {s : Int} {l c : List Int} (h : pathR es (allL n) evs [s] 1 s = some c) : cycR n es al evs (s :: l) = some ((pathR es (allL n) al [s] 0 0).getD [], c) := by rw [cycR, h]
/-- What it returns. -/
def Q3 (R : Option (List Int × List Int)) (u : Value) (w' : World) : Prop := ∃ a1 c1 a2 c2, u = .tuple #[.slice a1 (R.getD ([], [])).1.length c1, .slice a2 (R.getD ([], [])).2.length c2, .bool R.isSome] ∧ RdI w' (.slice a1 (R.getD ([], [])).1.length c1) (R.getD ([], [])).1 ∧ RdI w' (.slice a2 (R.getD ([], [])).2.length c2) (R.getD ([], [])).2

set_option maxRecDepth 100000 in
set_option maxHeartbeats 6000000 in
theorem rcycle_any (v vv : Value) (al ms evs : List Int) (n : Nat) (es : List Ed) (w : World) (ha : RdA w v ⟨al, n, ms, es⟩) (hs : (⟨al, n, ms, es⟩ : Aut).small) (hes : es.length ≤ 100000) (hn : n ≤ 100000) (h2 : RdI w vv evs) (hl2 : evs.length ≤ 1000000) (hal : al.length ≤ 1000000) (hLl : (rreachL es n al).length ≤ 1000000) :
    Calls Try.prog 33 #[v, vv] w (Ret w (Q3 (cycR n es al evs (rreachL es n al)))) := by
  have Ha := Lib.hid ha
  have Hs := Lib.hid hs
  obtain ⟨va, vm, ve, rfl, ⟨aa, ca, rfl, hra⟩, ⟨am, cm, rfl, hrm⟩, ⟨ae, ce, rfl, hre⟩⟩ := ha
  dsimp only at *
  have H2 := Lib.hid h2
  clear h2 hra hrm hre hs
  have hreach := fun (W : World) (v : Value) (h0 : RdA W v ⟨al, n, ms, es⟩) => rreach_any v al ms n es W h0 Hs.out hes hn
  have Hreach := Lib.hid hreach
  clear hreach
  generalize rreachL es n al = L at *
  generalize hR0 : cycR n es al evs L = R
  have HR : Hid (R = cycR n es al evs (L.drop 0)) := Lib.hid hR0.symm
  clear hR0
  go_enter Try.func33, Try.ntmps33
  go_wp2_with fail
  have hBa := bel_alloc w (.cells #[.slice aa al.length ca, .int .i64 n, .slice am ms.length cm, .slice ae es.length ce] 31)
  refine (Hreach.out _ _ (Ha.out.mono hBa)).mono ?_
  rintro e w3 ⟨v3, rfl, hr3, hb3⟩
  have hW3 := hBa.trans (hb3.mono hBa.size)
  obtain ⟨x0, x1, x2, x3, x4⟩ := box4 hb3
  obtain ⟨la, lc, rfl, hrL⟩ := hr3
  clear hBa hb3
  go_wp2_with fail
  go_loopw [8] (fun i wr => ∃ k : Nat, i = .int .i64 k ∧ k ≤ L.length ∧ Below w3.heap.size w3 wr ∧ Hid (R = cycR n es al evs (L.drop k))) (fun i _ => L.length - (intOf i).toNat)
  case atStart => exact ⟨0, rfl, Nat.zero_le _, Below.refl _ _, HR⟩
  case round =>
    obtain ⟨k, rfl, hk, hB, hRk⟩ := hrel
    have z0 := keep0 hB x0
    have z1 := keep0 hB x1
    have z2 := keep0 hB x2
    have z3 := keep0 hB x3
    have hz := Nat.lt_of_lt_of_le x4 hB.size
    have hB4 := hW3.trans (hB.mono hW3.size)
    by_cases hlt : k < L.length
    · have hltI : (k : Int) < (L.length : Int) := by omega
      obtain ⟨lb, lo, rfl, hck0⟩ := hrL.at_int k hlt
      have hck := keep0 hB hck0
      have hlb := World.block_lt_of_cell? _ _ hck
      dsimp only at hlb
      have Hd : Hid (R = cycR n es al evs (L[k] :: L.drop (k + 1))) := by
        show _ = _
        rw [hRk.out, List.drop_eq_getElem_cons hlt]
      generalize L[k] = s at *
      have hB4d := hB4.drew
      have Ha4 := Lib.hid (Ha.out.mono hB4)
      have Hvv := Lib.hid (H2.out.mono hB4)
      have hp1 : ∀ (W : World) (va vt vw vv : Value), RdA W va ⟨al, n, ms, es⟩ → RdI W vt [s] → RdI W vw (allL n) → RdI W vv evs → Calls Try.prog 18 #[va, .int .i64 s, vt, vw, vv, .int .i64 1] W (Ret W (QPost (pathR es (allL n) evs [s] 1 s))) :=
        fun W va vt vw vv h1 h2 h3 h4 => refpath_any va vt vw vv al ms n es s [s] (allL n) evs 1 W h1 hes h2 h3 h4 (by show 1 ≤ 1000000; decide) (by rw [allL_length]; omega) hl2
      have hp2 : ∀ (W : World) (va vt vw vv : Value), RdA W va ⟨al, n, ms, es⟩ → RdI W vt [s] → RdI W vw (allL n) → RdI W vv al → Calls Try.prog 18 #[va, .int .i64 0, vt, vw, vv, .int .i64 0] W (Ret W (QPost (pathR es (allL n) al [s] 0 0))) :=
        fun W va vt vw vv h1 h2 h3 h4 => refpath_any va vt vw vv al ms n es 0 [s] (allL n) al 0 W h1 hes h2 h3 h4 (by show 1 ≤ 1000000; decide) (by rw [allL_length]; omega) hal
      generalize hR1 : pathR es (allL n) evs [s] 1 s = R1 at *
      generalize hR2 : pathR es (allL n) al [s] 0 0 = R2 at *
      have HP1 := Lib.hid hp1
      have HP2 := Lib.hid hp2
      have HR1 := Lib.hid hR1
      have HR2 := Lib.hid hR2
      clear hRk hck0 hp1 hp2 hR1 hR2
      go_wp2_with fail
      refine wp_region_mono2 (RC5 (.agg #[.slice aa al.length ca, .int .i64 n, .slice am ms.length cm, .slice ae es.length ce]) (.slice (some ⟨lb, lo, none⟩) L.length lc) (k) (lb) (lo) (s) (w.heap.size) (n) (vv) (R1)) [22, 23, 24, 25, 26, 27, 28, 29, 30, 31, 32, 33, 34, 35, 36, 21, 37, 38, 9, 10] RC5_mono rfl (by kernel_rfl) (by kernel_rfl) ?_ ?_
      · skip
        refine Steps.cons rfl ?_ ?_
        · intro l us W hl hI hd hn K' hK
          have hHas := hI.has
          have hbel := hI.bel
          have hlen := hI.len
          obtain ⟨u0, u1, u2, u3, u4, u5, u6, u7, u8, u9, u10, u11, u12, u13, u14, u15, u16, u17, u18, u19, rfl⟩ := list_RC5 hlen
          have HK : Hid (∀ v W', Below W.heap.size W W' → RC5 (.agg #[.slice aa al.length ca, .int .i64 n, .slice am ms.length cm, .slice ae es.length ce]) (.slice (some ⟨lb, lo, none⟩) L.length lc) (k) (lb) (lo) (s) (w.heap.size) (n) (vv) (R1) 0 v W' → ∀ a', puts _ _ [v, u1, u2, u3, u4, u5, u6, u7, u8, u9, u10, u11, u12, u13, u14, u15, u16, u17, u18, u19] = a' → K' a' W') := fun v W' hb hv a' e => hK _ a' W' e (hI.step RC5_mono hl hb hv)
          have hWW := hB4d.trans (hbel.mono hB4d.size)
          have y0 := keep hbel z0 hz
          have y1 := keep hbel z1 hz
          have y2 := keep hbel z2 hz
          have y3 := keep hbel z3 hz
          clear hl hI hd hn hK hHas hlen 
          refine StepG.mk ?_
          simp only [puts, Act.put]
          go_simp
          exact HK.out ((.agg #[.slice aa al.length ca, .int .i64 n, .slice am ms.length cm, .slice ae es.length ce])) _ (Below.refl _ _) rfl _ (by simp [puts, Act.put])
        refine Steps.cons rfl ?_ ?_
        · intro l us W hl hI hd hn K' hK
          have hHas := hI.has
          have hbel := hI.bel
          have hlen := hI.len
          obtain ⟨u0, u1, u2, u3, u4, u5, u6, u7, u8, u9, u10, u11, u12, u13, u14, u15, u16, u17, u18, u19, rfl⟩ := list_RC5 hlen
          have HK : Hid (∀ v W', Below W.heap.size W W' → RC5 (.agg #[.slice aa al.length ca, .int .i64 n, .slice am ms.length cm, .slice ae es.length ce]) (.slice (some ⟨lb, lo, none⟩) L.length lc) (k) (lb) (lo) (s) (w.heap.size) (n) (vv) (R1) 1 v W' → ∀ a', puts _ _ [u0, v, u2, u3, u4, u5, u6, u7, u8, u9, u10, u11, u12, u13, u14, u15, u16, u17, u18, u19] = a' → K' a' W') := fun v W' hb hv a' e => hK _ a' W' e (hI.step RC5_mono hl hb hv)
          have hWW := hB4d.trans (hbel.mono hB4d.size)
          clear hl hI hd hn hK hHas hlen 
          refine StepG.mk ?_
          simp only [puts, Act.put]
          go_simp
          exact HK.out ((.slice (some ⟨lb, lo, none⟩) L.length lc)) _ (Below.refl _ _) rfl _ (by simp [puts, Act.put])
        refine Steps.cons rfl ?_ ?_
        · intro l us W hl hI hd hn K' hK
          have hHas := hI.has
          have hbel := hI.bel
          have hlen := hI.len
          obtain ⟨u0, u1, u2, u3, u4, u5, u6, u7, u8, u9, u10, u11, u12, u13, u14, u15, u16, u17, u18, u19, rfl⟩ := list_RC5 hlen
          have HK : Hid (∀ v W', Below W.heap.size W W' → RC5 (.agg #[.slice aa al.length ca, .int .i64 n, .slice am ms.length cm, .slice ae es.length ce]) (.slice (some ⟨lb, lo, none⟩) L.length lc) (k) (lb) (lo) (s) (w.heap.size) (n) (vv) (R1) 2 v W' → ∀ a', puts _ _ [u0, u1, v, u3, u4, u5, u6, u7, u8, u9, u10, u11, u12, u13, u14, u15, u16, u17, u18, u19] = a' → K' a' W') := fun v W' hb hv a' e => hK _ a' W' e (hI.step RC5_mono hl hb hv)
          have hWW := hB4d.trans (hbel.mono hB4d.size)
          clear hl hI hd hn hK hHas hlen 
          refine StepG.mk ?_
          simp only [puts, Act.put]
          go_simp
          exact HK.out (.int .i64 k) _ (Below.refl _ _) rfl _ (by simp [puts, Act.put])
        refine Steps.cons rfl ?_ ?_
        · intro l us W hl hI hd hn K' hK
          have hHas := hI.has
          have hbel := hI.bel
          have hlen := hI.len
          obtain ⟨u0, u1, u2, u3, u4, u5, u6, u7, u8, u9, u10, u11, u12, u13, u14, u15, u16, u17, u18, u19, rfl⟩ := list_RC5 hlen
          have HK : Hid (∀ v W', Below W.heap.size W W' → RC5 (.agg #[.slice aa al.length ca, .int .i64 n, .slice am ms.length cm, .slice ae es.length ce]) (.slice (some ⟨lb, lo, none⟩) L.length lc) (k) (lb) (lo) (s) (w.heap.size) (n) (vv) (R1) 3 v W' → ∀ a', puts _ _ [u0, u1, u2, v, u4, u5, u6, u7, u8, u9, u10, u11, u12, u13, u14, u15, u16, u17, u18, u19] = a' → K' a' W') := fun v W' hb hv a' e => hK _ a' W' e (hI.step RC5_mono hl hb hv)
          have hWW := hB4d.trans (hbel.mono hB4d.size)
          have d1 : l.getD 1 false = true := by
            simp [Region.binds] at hd
            simp [hd]
          have d2 : l.getD 2 false = true := by
            simp [Region.binds] at hd
            simp [hd]
          obtain rfl : u1 = _ := hHas 1 (by decide) d1
          obtain rfl : u2 = _ := hHas 2 (by decide) d2
          clear hl hI hd hn hK hHas hlen d1 d2
          refine StepG.mk ?_
          simp only [puts, Act.put]
          go_simp
          exact HK.out (.pointer (some ⟨lb, lo + k, none⟩)) _ (Below.refl _ _) rfl _ (by simp [puts, Act.put])
        refine Steps.cons rfl ?_ ?_
        · intro l us W hl hI hd hn K' hK
          have hHas := hI.has
          have hbel := hI.bel
          have hlen := hI.len
          obtain ⟨u0, u1, u2, u3, u4, u5, u6, u7, u8, u9, u10, u11, u12, u13, u14, u15, u16, u17, u18, u19, rfl⟩ := list_RC5 hlen
          have HK : Hid (∀ v W', Below W.heap.size W W' → RC5 (.agg #[.slice aa al.length ca, .int .i64 n, .slice am ms.length cm, .slice ae es.length ce]) (.slice (some ⟨lb, lo, none⟩) L.length lc) (k) (lb) (lo) (s) (w.heap.size) (n) (vv) (R1) 4 v W' → ∀ a', puts _ _ [u0, u1, u2, u3, v, u5, u6, u7, u8, u9, u10, u11, u12, u13, u14, u15, u16, u17, u18, u19] = a' → K' a' W') := fun v W' hb hv a' e => hK _ a' W' e (hI.step RC5_mono hl hb hv)
          have hWW := hB4d.trans (hbel.mono hB4d.size)
          have y := keep hbel hck hlb
          have d3 : l.getD 3 false = true := by
            simp [Region.binds] at hd
            simp [hd]
          obtain rfl : u3 = _ := hHas 3 (by decide) d3
          clear hl hI hd hn hK hHas hlen d3
          refine StepG.mk ?_
          simp only [puts, Act.put]
          go_simp
          exact HK.out (.int .i64 s) _ (Below.refl _ _) rfl _ (by simp [puts, Act.put])
        refine Steps.cons rfl ?_ ?_
        · intro l us W hl hI hd hn K' hK
          have hHas := hI.has
          have hbel := hI.bel
          have hlen := hI.len
          obtain ⟨u0, u1, u2, u3, u4, u5, u6, u7, u8, u9, u10, u11, u12, u13, u14, u15, u16, u17, u18, u19, rfl⟩ := list_RC5 hlen
          have HK : Hid (∀ v W', Below W.heap.size W W' → RC5 (.agg #[.slice aa al.length ca, .int .i64 n, .slice am ms.length cm, .slice ae es.length ce]) (.slice (some ⟨lb, lo, none⟩) L.length lc) (k) (lb) (lo) (s) (w.heap.size) (n) (vv) (R1) 5 v W' → ∀ a', puts _ _ [u0, u1, u2, u3, u4, v, u6, u7, u8, u9, u10, u11, u12, u13, u14, u15, u16, u17, u18, u19] = a' → K' a' W') := fun v W' hb hv a' e => hK _ a' W' e (hI.step RC5_mono hl hb hv)
          have hWW := hB4d.trans (hbel.mono hB4d.size)
          clear hl hI hd hn hK hHas hlen 
          refine StepG.mk ?_
          simp only [puts, Act.put]
          go_simp
          exact HK.out ((.slice (some ⟨lb, lo, none⟩) L.length lc)) _ (Below.refl _ _) rfl _ (by simp [puts, Act.put])
        refine Steps.cons rfl ?_ ?_
        · intro l us W hl hI hd hn K' hK
          have hHas := hI.has
          have hbel := hI.bel
          have hlen := hI.len
          obtain ⟨u0, u1, u2, u3, u4, u5, u6, u7, u8, u9, u10, u11, u12, u13, u14, u15, u16, u17, u18, u19, rfl⟩ := list_RC5 hlen
          have HK : Hid (∀ v W', Below W.heap.size W W' → RC5 (.agg #[.slice aa al.length ca, .int .i64 n, .slice am ms.length cm, .slice ae es.length ce]) (.slice (some ⟨lb, lo, none⟩) L.length lc) (k) (lb) (lo) (s) (w.heap.size) (n) (vv) (R1) 6 v W' → ∀ a', puts _ _ [u0, u1, u2, u3, u4, u5, v, u7, u8, u9, u10, u11, u12, u13, u14, u15, u16, u17, u18, u19] = a' → K' a' W') := fun v W' hb hv a' e => hK _ a' W' e (hI.step RC5_mono hl hb hv)
          have hWW := hB4d.trans (hbel.mono hB4d.size)
          clear hl hI hd hn hK hHas hlen 
          refine StepG.mk ?_
          simp only [puts, Act.put]
          go_simp
          exact HK.out (.int .i64 k) _ (Below.refl _ _) rfl _ (by simp [puts, Act.put])
        refine Steps.cons rfl ?_ ?_
        · intro l us W hl hI hd hn K' hK
          have hHas := hI.has
          have hbel := hI.bel
          have hlen := hI.len
          obtain ⟨u0, u1, u2, u3, u4, u5, u6, u7, u8, u9, u10, u11, u12, u13, u14, u15, u16, u17, u18, u19, rfl⟩ := list_RC5 hlen
          have HK : Hid (∀ v W', Below W.heap.size W W' → RC5 (.agg #[.slice aa al.length ca, .int .i64 n, .slice am ms.length cm, .slice ae es.length ce]) (.slice (some ⟨lb, lo, none⟩) L.length lc) (k) (lb) (lo) (s) (w.heap.size) (n) (vv) (R1) 7 v W' → ∀ a', puts _ _ [u0, u1, u2, u3, u4, u5, u6, v, u8, u9, u10, u11, u12, u13, u14, u15, u16, u17, u18, u19] = a' → K' a' W') := fun v W' hb hv a' e => hK _ a' W' e (hI.step RC5_mono hl hb hv)
          have hWW := hB4d.trans (hbel.mono hB4d.size)
          have d5 : l.getD 5 false = true := by
            simp [Region.binds] at hd
            simp [hd]
          have d6 : l.getD 6 false = true := by
            simp [Region.binds] at hd
            simp [hd]
          obtain rfl : u5 = _ := hHas 5 (by decide) d5
          obtain rfl : u6 = _ := hHas 6 (by decide) d6
          clear hl hI hd hn hK hHas hlen d5 d6
          refine StepG.mk ?_
          simp only [puts, Act.put]
          go_simp
          exact HK.out (.pointer (some ⟨lb, lo + k, none⟩)) _ (Below.refl _ _) rfl _ (by simp [puts, Act.put])
        refine Steps.cons rfl ?_ ?_
        · intro l us W hl hI hd hn K' hK
          have hHas := hI.has
          have hbel := hI.bel
          have hlen := hI.len
          obtain ⟨u0, u1, u2, u3, u4, u5, u6, u7, u8, u9, u10, u11, u12, u13, u14, u15, u16, u17, u18, u19, rfl⟩ := list_RC5 hlen
          have HK : Hid (∀ v W', Below W.heap.size W W' → RC5 (.agg #[.slice aa al.length ca, .int .i64 n, .slice am ms.length cm, .slice ae es.length ce]) (.slice (some ⟨lb, lo, none⟩) L.length lc) (k) (lb) (lo) (s) (w.heap.size) (n) (vv) (R1) 8 v W' → ∀ a', puts _ _ [u0, u1, u2, u3, u4, u5, u6, u7, v, u9, u10, u11, u12, u13, u14, u15, u16, u17, u18, u19] = a' → K' a' W') := fun v W' hb hv a' e => hK _ a' W' e (hI.step RC5_mono hl hb hv)
          have hWW := hB4d.trans (hbel.mono hB4d.size)
          have y := keep hbel hck hlb
          have d7 : l.getD 7 false = true := by
            simp [Region.binds] at hd
            simp [hd]
          obtain rfl : u7 = _ := hHas 7 (by decide) d7
          clear hl hI hd hn hK hHas hlen d7
          refine StepG.mk ?_
          simp only [puts, Act.put]
          go_simp
          exact HK.out (.int .i64 s) _ (Below.refl _ _) rfl _ (by simp [puts, Act.put])
        refine Steps.cons rfl ?_ ?_
        · intro l us W hl hI hd hn K' hK
          have hHas := hI.has
          have hbel := hI.bel
          have hlen := hI.len
          obtain ⟨u0, u1, u2, u3, u4, u5, u6, u7, u8, u9, u10, u11, u12, u13, u14, u15, u16, u17, u18, u19, rfl⟩ := list_RC5 hlen
          have HK : Hid (∀ v W', Below W.heap.size W W' → RC5 (.agg #[.slice aa al.length ca, .int .i64 n, .slice am ms.length cm, .slice ae es.length ce]) (.slice (some ⟨lb, lo, none⟩) L.length lc) (k) (lb) (lo) (s) (w.heap.size) (n) (vv) (R1) 9 v W' → ∀ a', puts _ _ [u0, u1, u2, u3, u4, u5, u6, u7, u8, v, u10, u11, u12, u13, u14, u15, u16, u17, u18, u19] = a' → K' a' W') := fun v W' hb hv a' e => hK _ a' W' e (hI.step RC5_mono hl hb hv)
          have hWW := hB4d.trans (hbel.mono hB4d.size)
          have d8 : l.getD 8 false = true := by
            simp [Region.binds] at hd
            simp [hd]
          obtain rfl : u8 = _ := hHas 8 (by decide) d8
          clear hl hI hd hn hK hHas hlen d8
          refine StepG.mk ?_
          simp only [puts, Act.put]
          go_simp
          exact HK.out (.slice (some ⟨W.heap.size, 0, none⟩) 1 1) _ (bel_alloc _ _) ⟨_, _, rfl, ⟨_, 1, rfl, RdS.lit (cs := #[.int .i64 s]) (heap_at rfl) rfl (by show 1 ≤ 1000000; decide)⟩⟩ _ (by simp [puts, Act.put])
        refine Steps.cons rfl ?_ ?_
        · intro l us W hl hI hd hn K' hK
          have hHas := hI.has
          have hbel := hI.bel
          have hlen := hI.len
          obtain ⟨u0, u1, u2, u3, u4, u5, u6, u7, u8, u9, u10, u11, u12, u13, u14, u15, u16, u17, u18, u19, rfl⟩ := list_RC5 hlen
          have HK : Hid (∀ v W', Below W.heap.size W W' → RC5 (.agg #[.slice aa al.length ca, .int .i64 n, .slice am ms.length cm, .slice ae es.length ce]) (.slice (some ⟨lb, lo, none⟩) L.length lc) (k) (lb) (lo) (s) (w.heap.size) (n) (vv) (R1) 10 v W' → ∀ a', puts _ _ [u0, u1, u2, u3, u4, u5, u6, u7, u8, u9, v, u11, u12, u13, u14, u15, u16, u17, u18, u19] = a' → K' a' W') := fun v W' hb hv a' e => hK _ a' W' e (hI.step RC5_mono hl hb hv)
          have hWW := hB4d.trans (hbel.mono hB4d.size)
          clear hl hI hd hn hK hHas hlen 
          refine StepG.mk ?_
          simp only [puts, Act.put]
          go_simp
          exact HK.out (.pointer (some ⟨w.heap.size, 1, none⟩)) _ (Below.refl _ _) rfl _ (by simp [puts, Act.put])
        refine Steps.cons rfl ?_ ?_
        · intro l us W hl hI hd hn K' hK
          have hHas := hI.has
          have hbel := hI.bel
          have hlen := hI.len
          obtain ⟨u0, u1, u2, u3, u4, u5, u6, u7, u8, u9, u10, u11, u12, u13, u14, u15, u16, u17, u18, u19, rfl⟩ := list_RC5 hlen
          have HK : Hid (∀ v W', Below W.heap.size W W' → RC5 (.agg #[.slice aa al.length ca, .int .i64 n, .slice am ms.length cm, .slice ae es.length ce]) (.slice (some ⟨lb, lo, none⟩) L.length lc) (k) (lb) (lo) (s) (w.heap.size) (n) (vv) (R1) 11 v W' → ∀ a', puts _ _ [u0, u1, u2, u3, u4, u5, u6, u7, u8, u9, u10, v, u12, u13, u14, u15, u16, u17, u18, u19] = a' → K' a' W') := fun v W' hb hv a' e => hK _ a' W' e (hI.step RC5_mono hl hb hv)
          have hWW := hB4d.trans (hbel.mono hB4d.size)
          have y := keep hbel z1 hz
          have d10 : l.getD 10 false = true := by
            simp [Region.binds] at hd
            simp [hd]
          obtain rfl : u10 = _ := hHas 10 (by decide) d10
          clear hl hI hd hn hK hHas hlen d10
          refine StepG.mk ?_
          simp only [puts, Act.put]
          go_simp
          exact HK.out (.int .i64 n) _ (Below.refl _ _) rfl _ (by simp [puts, Act.put])
        refine Steps.cons rfl ?_ ?_
        · intro l us W hl hI hd hn K' hK
          have hHas := hI.has
          have hbel := hI.bel
          have hlen := hI.len
          obtain ⟨u0, u1, u2, u3, u4, u5, u6, u7, u8, u9, u10, u11, u12, u13, u14, u15, u16, u17, u18, u19, rfl⟩ := list_RC5 hlen
          have HK : Hid (∀ v W', Below W.heap.size W W' → RC5 (.agg #[.slice aa al.length ca, .int .i64 n, .slice am ms.length cm, .slice ae es.length ce]) (.slice (some ⟨lb, lo, none⟩) L.length lc) (k) (lb) (lo) (s) (w.heap.size) (n) (vv) (R1) 12 v W' → ∀ a', puts _ _ [u0, u1, u2, u3, u4, u5, u6, u7, u8, u9, u10, u11, v, u13, u14, u15, u16, u17, u18, u19] = a' → K' a' W') := fun v W' hb hv a' e => hK _ a' W' e (hI.step RC5_mono hl hb hv)
          have hWW := hB4d.trans (hbel.mono hB4d.size)
          have d11 : l.getD 11 false = true := by
            simp [Region.binds] at hd
            simp [hd]
          obtain rfl : u11 = _ := hHas 11 (by decide) d11
          clear hl hI hd hn hK hHas hlen d11
          refine StepG.mk ?_
          simp only [puts, Act.put]
          go_simp
          refine (all_any n _ (by omega)).mono ?_
          rintro e w9 ⟨v9, rfl, hown9, hb9⟩
          have HL9 := Lib.hid (RdI.of_own hown9)
          obtain ⟨a9, c9, rfl, hr9⟩ := RdS.of_own hown9
          clear hr9 hown9
          go_simp
          exact HK.out _ _ hb9 ⟨_, _, rfl, HL9.out⟩ _ (by simp [puts, Act.put])
        refine Steps.cons rfl ?_ ?_
        · intro l us W hl hI hd hn K' hK
          have hHas := hI.has
          have hbel := hI.bel
          have hlen := hI.len
          obtain ⟨u0, u1, u2, u3, u4, u5, u6, u7, u8, u9, u10, u11, u12, u13, u14, u15, u16, u17, u18, u19, rfl⟩ := list_RC5 hlen
          have HK : Hid (∀ v W', Below W.heap.size W W' → RC5 (.agg #[.slice aa al.length ca, .int .i64 n, .slice am ms.length cm, .slice ae es.length ce]) (.slice (some ⟨lb, lo, none⟩) L.length lc) (k) (lb) (lo) (s) (w.heap.size) (n) (vv) (R1) 13 v W' → ∀ a', puts _ _ [u0, u1, u2, u3, u4, u5, u6, u7, u8, u9, u10, u11, u12, v, u14, u15, u16, u17, u18, u19] = a' → K' a' W') := fun v W' hb hv a' e => hK _ a' W' e (hI.step RC5_mono hl hb hv)
          have hWW := hB4d.trans (hbel.mono hB4d.size)
          clear hl hI hd hn hK hHas hlen 
          refine StepG.mk ?_
          simp only [puts, Act.put]
          go_simp
          exact HK.out (vv) _ (Below.refl _ _) rfl _ (by simp [puts, Act.put])
        refine Steps.cons rfl ?_ ?_
        · intro l us W hl hI hd hn K' hK
          have hHas := hI.has
          have hbel := hI.bel
          have hlen := hI.len
          obtain ⟨u0, u1, u2, u3, u4, u5, u6, u7, u8, u9, u10, u11, u12, u13, u14, u15, u16, u17, u18, u19, rfl⟩ := list_RC5 hlen
          have HK : Hid (∀ v W', Below W.heap.size W W' → RC5 (.agg #[.slice aa al.length ca, .int .i64 n, .slice am ms.length cm, .slice ae es.length ce]) (.slice (some ⟨lb, lo, none⟩) L.length lc) (k) (lb) (lo) (s) (w.heap.size) (n) (vv) (R1) 14 v W' → ∀ a', puts _ _ [u0, u1, u2, u3, u4, u5, u6, u7, u8, u9, u10, u11, u12, u13, v, u15, u16, u17, u18, u19] = a' → K' a' W') := fun v W' hb hv a' e => hK _ a' W' e (hI.step RC5_mono hl hb hv)
          have hWW := hB4d.trans (hbel.mono hB4d.size)
          have d0 : l.getD 0 false = true := by
            simp [Region.binds] at hd
            simp [hd]
          have d4 : l.getD 4 false = true := by
            simp [Region.binds] at hd
            simp [hd]
          have d9 : l.getD 9 false = true := by
            simp [Region.binds] at hd
            simp [hd]
          have d12 : l.getD 12 false = true := by
            simp [Region.binds] at hd
            simp [hd]
          have d13 : l.getD 13 false = true := by
            simp [Region.binds] at hd
            simp [hd]
          obtain rfl : u0 = _ := hHas 0 (by decide) d0
          obtain rfl : u4 = _ := hHas 4 (by decide) d4
          obtain ⟨a9, c9, e9, hr9⟩ : ∃ a c, u9 = .slice a ([s]).length c ∧ RdI W u9 ([s]) := hHas 9 (by decide) d9
          subst e9
          have Hr9 := Lib.hid hr9
          clear hr9
          obtain ⟨a12, c12, e12, hr12⟩ : ∃ a c, u12 = .slice a (allL n).length c ∧ RdI W u12 (allL n) := hHas 12 (by decide) d12
          subst e12
          have Hr12 := Lib.hid hr12
          clear hr12
          obtain rfl : u13 = _ := hHas 13 (by decide) d13
          clear hl hI hd hn hK hHas hlen d0 d4 d9 d12 d13
          refine StepG.mk ?_
          simp only [puts, Act.put]
          go_simp
          refine (HP1.out W _ _ _ _ ((Ha4.out.mono (bel_drew _)).mono hbel) Hr9.out Hr12.out ((Hvv.out.mono (bel_drew _)).mono hbel)).mono ?_
          rintro e w9 ⟨u9, rfl, hq9, hb9⟩
          obtain ⟨a9, c9, rfl, hr9⟩ := hq9.tup
          have Hr9a := Lib.hid hr9
          clear hq9 hr9
          go_simp
          exact HK.out _ _ hb9 ⟨_, _, rfl, Hr9a.out⟩ _ (by simp [puts, Act.put])
        refine Steps.cons rfl ?_ ?_
        · intro l us W hl hI hd hn K' hK
          have hHas := hI.has
          have hbel := hI.bel
          have hlen := hI.len
          obtain ⟨u0, u1, u2, u3, u4, u5, u6, u7, u8, u9, u10, u11, u12, u13, u14, u15, u16, u17, u18, u19, rfl⟩ := list_RC5 hlen
          have HK : Hid (∀ v W', Below W.heap.size W W' → RC5 (.agg #[.slice aa al.length ca, .int .i64 n, .slice am ms.length cm, .slice ae es.length ce]) (.slice (some ⟨lb, lo, none⟩) L.length lc) (k) (lb) (lo) (s) (w.heap.size) (n) (vv) (R1) 15 v W' → ∀ a', puts _ _ [u0, u1, u2, u3, u4, u5, u6, u7, u8, u9, u10, u11, u12, u13, u14, v, u16, u17, u18, u19] = a' → K' a' W') := fun v W' hb hv a' e => hK _ a' W' e (hI.step RC5_mono hl hb hv)
          have hWW := hB4d.trans (hbel.mono hB4d.size)
          have d14 : l.getD 14 false = true := by
            simp [Region.binds] at hd
            simp [hd]
          obtain ⟨a14, c14, e14, hr14⟩ : ∃ a c, u14 = .tuple #[.slice a (R1.getD []).length c, .bool (R1.isSome)] ∧ RdI W (.slice a (R1.getD []).length c) (R1.getD []) := hHas 14 (by decide) d14
          subst e14
          have Hr14 := Lib.hid hr14
          clear hr14
          clear hl hI hd hn hK hHas hlen d14
          refine StepG.mk ?_
          simp only [puts, Act.put]
          go_simp
          exact HK.out _ _ (Below.refl _ _) ⟨_, _, rfl, Hr14.out⟩ _ (by simp [puts, Act.put])
        refine Steps.cons rfl ?_ ?_
        · intro l us W hl hI hd hn K' hK
          have hHas := hI.has
          have hbel := hI.bel
          have hlen := hI.len
          obtain ⟨u0, u1, u2, u3, u4, u5, u6, u7, u8, u9, u10, u11, u12, u13, u14, u15, u16, u17, u18, u19, rfl⟩ := list_RC5 hlen
          have HK : Hid (∀ v W', Below W.heap.size W W' → RC5 (.agg #[.slice aa al.length ca, .int .i64 n, .slice am ms.length cm, .slice ae es.length ce]) (.slice (some ⟨lb, lo, none⟩) L.length lc) (k) (lb) (lo) (s) (w.heap.size) (n) (vv) (R1) 16 v W' → ∀ a', puts _ _ [u0, u1, u2, u3, u4, u5, u6, u7, u8, u9, u10, u11, u12, u13, u14, u15, v, u17, u18, u19] = a' → K' a' W') := fun v W' hb hv a' e => hK _ a' W' e (hI.step RC5_mono hl hb hv)
          have hWW := hB4d.trans (hbel.mono hB4d.size)
          have d15 : l.getD 15 false = true := by
            simp [Region.binds] at hd
            simp [hd]
          obtain ⟨a15, c15, e15, hr15⟩ : ∃ a c, u15 = .tuple #[.slice a (R1.getD []).length c, .bool (R1.isSome)] ∧ RdI W (.slice a (R1.getD []).length c) (R1.getD []) := hHas 15 (by decide) d15
          subst e15
          have Hr15 := Lib.hid hr15
          clear hr15
          clear hl hI hd hn hK hHas hlen d15
          refine StepG.mk ?_
          simp only [puts, Act.put]
          go_simp
          exact HK.out _ _ (Below.refl _ _) ⟨_, _, rfl, Hr15.out⟩ _ (by simp [puts, Act.put])
        refine Steps.cons rfl ?_ ?_
        · intro l us W hl hI hd hn K' hK
          have hHas := hI.has
          have hbel := hI.bel
          have hlen := hI.len
          obtain ⟨u0, u1, u2, u3, u4, u5, u6, u7, u8, u9, u10, u11, u12, u13, u14, u15, u16, u17, u18, u19, rfl⟩ := list_RC5 hlen
          have HK : Hid (∀ v W', Below W.heap.size W W' → RC5 (.agg #[.slice aa al.length ca, .int .i64 n, .slice am ms.length cm, .slice ae es.length ce]) (.slice (some ⟨lb, lo, none⟩) L.length lc) (k) (lb) (lo) (s) (w.heap.size) (n) (vv) (R1) 17 v W' → ∀ a', puts _ _ [u0, u1, u2, u3, u4, u5, u6, u7, u8, u9, u10, u11, u12, u13, u14, u15, u16, v, u18, u19] = a' → K' a' W') := fun v W' hb hv a' e => hK _ a' W' e (hI.step RC5_mono hl hb hv)
          have hWW := hB4d.trans (hbel.mono hB4d.size)
          have d15 : l.getD 15 false = true := by
            simp [Region.binds] at hd
            simp [hd]
          obtain ⟨a15, c15, e15, hr15⟩ : ∃ a c, u15 = .tuple #[.slice a (R1.getD []).length c, .bool (R1.isSome)] ∧ RdI W (.slice a (R1.getD []).length c) (R1.getD []) := hHas 15 (by decide) d15
          subst e15
          have Hr15 := Lib.hid hr15
          clear hr15
          clear hl hI hd hn hK hHas hlen d15
          refine StepG.mk ?_
          simp only [puts, Act.put]
          go_simp
          exact HK.out (.bool R1.isSome) _ (Below.refl _ _) rfl _ (by simp [puts, Act.put])
        refine Steps.cons rfl ?_ ?_
        · intro l us W hl hI hd hn K' hK
          have hHas := hI.has
          have hbel := hI.bel
          have hlen := hI.len
          obtain ⟨u0, u1, u2, u3, u4, u5, u6, u7, u8, u9, u10, u11, u12, u13, u14, u15, u16, u17, u18, u19, rfl⟩ := list_RC5 hlen
          have HK : Hid (∀ v W', Below W.heap.size W W' → RC5 (.agg #[.slice aa al.length ca, .int .i64 n, .slice am ms.length cm, .slice ae es.length ce]) (.slice (some ⟨lb, lo, none⟩) L.length lc) (k) (lb) (lo) (s) (w.heap.size) (n) (vv) (R1) 18 v W' → ∀ a', puts _ _ [u0, u1, u2, u3, u4, u5, u6, u7, u8, u9, u10, u11, u12, u13, u14, u15, u16, u17, v, u19] = a' → K' a' W') := fun v W' hb hv a' e => hK _ a' W' e (hI.step RC5_mono hl hb hv)
          have hWW := hB4d.trans (hbel.mono hB4d.size)
          have d16 : l.getD 16 false = true := by
            simp [Region.binds] at hd
            simp [hd]
          obtain ⟨a16, c16, e16, hr16⟩ : ∃ a c, u16 = .slice a (R1.getD []).length c ∧ RdI W u16 (R1.getD []) := hHas 16 (by decide) d16
          subst e16
          have Hr16 := Lib.hid hr16
          clear hr16
          clear hl hI hd hn hK hHas hlen d16
          refine StepG.mk ?_
          simp only [puts, Act.put]
          go_simp
          exact HK.out _ _ (Below.refl _ _) ⟨_, _, rfl, Hr16.out⟩ _ (by simp [puts, Act.put])
        refine Steps.cons rfl ?_ ?_
        · intro l us W hl hI hd hn K' hK
          have hHas := hI.has
          have hbel := hI.bel
          have hlen := hI.len
          obtain ⟨u0, u1, u2, u3, u4, u5, u6, u7, u8, u9, u10, u11, u12, u13, u14, u15, u16, u17, u18, u19, rfl⟩ := list_RC5 hlen
          have HK : Hid (∀ v W', Below W.heap.size W W' → RC5 (.agg #[.slice aa al.length ca, .int .i64 n, .slice am ms.length cm, .slice ae es.length ce]) (.slice (some ⟨lb, lo, none⟩) L.length lc) (k) (lb) (lo) (s) (w.heap.size) (n) (vv) (R1) 19 v W' → ∀ a', puts _ _ [u0, u1, u2, u3, u4, u5, u6, u7, u8, u9, u10, u11, u12, u13, u14, u15, u16, u17, u18, v] = a' → K' a' W') := fun v W' hb hv a' e => hK _ a' W' e (hI.step RC5_mono hl hb hv)
          have hWW := hB4d.trans (hbel.mono hB4d.size)
          have d17 : l.getD 17 false = true := by
            simp [Region.binds] at hd
            simp [hd]
          obtain rfl : u17 = _ := hHas 17 (by decide) d17
          clear hl hI hd hn hK hHas hlen d17
          refine StepG.mk ?_
          simp only [puts, Act.put]
          go_simp
          exact HK.out (.bool R1.isSome) _ (Below.refl _ _) rfl _ (by simp [puts, Act.put])
        exact Steps.nil (Nat.le_refl _)
      · intro us W hlen hbel hall
        obtain ⟨u0, u1, u2, u3, u4, u5, u6, u7, u8, u9, u10, u11, u12, u13, u14, u15, u16, u17, u18, u19, rfl⟩ := list_RC5 hlen
        obtain ⟨a9, c9, e9, hr9⟩ : ∃ a c, u18 = .slice a (R1.getD []).length c ∧ RdI W u18 (R1.getD []) := hall 18 (by decide)
        obtain rfl : u19 = _ := hall 19 (by decide)
        subst e9
        have Hr9 := Lib.hid hr9
        have hB5 := hB4d.trans (hbel.mono hB4d.size)
        have hBd := hB.drew
        have hB5r := hBd.trans (hbel.mono hBd.size)
        replace z0 := keep hbel z0 hz
        replace z1 := keep hbel z1 hz
        replace z2 := keep hbel z2 hz
        replace z3 := keep hbel z3 hz
        have hck := keep hbel hck hlb
        have hlb : lb < W.heap.size := Nat.lt_of_lt_of_le hlb hbel.size
        have Ha5 := Lib.hid ((Ha4.out.mono (bel_drew _)).mono hbel)
        replace hz := Nat.lt_of_lt_of_le hz hbel.size
        clear hall hlen hr9 hbel hB4d hB4 hB hBd Ha4 Hvv
        simp only [puts, Act.put, List.setIfInBounds_toArray, List.set_cons_succ, List.set_cons_zero]
        cases R1 with
        | none =>
          have HZ : Hid (R = cycR n es al evs (L.drop (k + 1))) := by show _ = _; rw [Hd.out, cycR_none HR1.out]
          clear Hd
          go_wp2_with fail
          go_roundw
          case rel => exact ⟨k + 1, by go_num, by omega, hB5r, HZ.out⟩
          case measure => simp [intOf]; omega
        | some c =>
          have HZ : Hid (R = some (R2.getD [], c)) := by show _ = _; rw [Hd.out, cycR_some HR1.out, HR2.out]
          clear Hd
          have hB5d := hB5.drew
          have Ha4 := Ha5
          have Hr10 : Hid (RdI W (.slice a9 c.length c9) c) := Hr9.out
          clear Hr9
          go_wp2_with fail
          refine wp_region_mono2 (RC7 (.agg #[.slice aa al.length ca, .int .i64 n, .slice am ms.length cm, .slice ae es.length ce]) (.slice (some ⟨lb, lo, none⟩) L.length lc) (k) (lb) (lo) (s) (w.heap.size) (n) (.slice aa al.length ca) (R2)) [41, 42, 43, 44, 45, 46, 47, 48, 49, 50, 51, 52, 40, 53, 54, 11, 12] RC7_mono rfl (by kernel_rfl) (by kernel_rfl) ?_ ?_
          · skip
            refine Steps.cons rfl ?_ ?_
            · intro l us W hl hI hd hn K' hK
              have hHas := hI.has
              have hbel := hI.bel
              have hlen := hI.len
              obtain ⟨u0, u1, u2, u3, u4, u5, u6, u7, u8, u9, u10, u11, u12, u13, u14, u15, u16, rfl⟩ := list_RC7 hlen
              have HK : Hid (∀ v W', Below W.heap.size W W' → RC7 (.agg #[.slice aa al.length ca, .int .i64 n, .slice am ms.length cm, .slice ae es.length ce]) (.slice (some ⟨lb, lo, none⟩) L.length lc) (k) (lb) (lo) (s) (w.heap.size) (n) (.slice aa al.length ca) (R2) 0 v W' → ∀ a', puts _ _ [v, u1, u2, u3, u4, u5, u6, u7, u8, u9, u10, u11, u12, u13, u14, u15, u16] = a' → K' a' W') := fun v W' hb hv a' e => hK _ a' W' e (hI.step RC7_mono hl hb hv)
              have hWW := hB5d.trans (hbel.mono hB5d.size)
              have y0 := keep hbel z0 hz
              have y1 := keep hbel z1 hz
              have y2 := keep hbel z2 hz
              have y3 := keep hbel z3 hz
              clear hl hI hd hn hK hHas hlen 
              refine StepG.mk ?_
              simp only [puts, Act.put]
              go_simp
              exact HK.out ((.agg #[.slice aa al.length ca, .int .i64 n, .slice am ms.length cm, .slice ae es.length ce])) _ (Below.refl _ _) rfl _ (by simp [puts, Act.put])
            refine Steps.cons rfl ?_ ?_
            · intro l us W hl hI hd hn K' hK
              have hHas := hI.has
              have hbel := hI.bel
              have hlen := hI.len
              obtain ⟨u0, u1, u2, u3, u4, u5, u6, u7, u8, u9, u10, u11, u12, u13, u14, u15, u16, rfl⟩ := list_RC7 hlen
              have HK : Hid (∀ v W', Below W.heap.size W W' → RC7 (.agg #[.slice aa al.length ca, .int .i64 n, .slice am ms.length cm, .slice ae es.length ce]) (.slice (some ⟨lb, lo, none⟩) L.length lc) (k) (lb) (lo) (s) (w.heap.size) (n) (.slice aa al.length ca) (R2) 1 v W' → ∀ a', puts _ _ [u0, v, u2, u3, u4, u5, u6, u7, u8, u9, u10, u11, u12, u13, u14, u15, u16] = a' → K' a' W') := fun v W' hb hv a' e => hK _ a' W' e (hI.step RC7_mono hl hb hv)
              have hWW := hB5d.trans (hbel.mono hB5d.size)
              clear hl hI hd hn hK hHas hlen 
              refine StepG.mk ?_
              simp only [puts, Act.put]
              go_simp
              exact HK.out ((.slice (some ⟨lb, lo, none⟩) L.length lc)) _ (Below.refl _ _) rfl _ (by simp [puts, Act.put])
            refine Steps.cons rfl ?_ ?_
            · intro l us W hl hI hd hn K' hK
              have hHas := hI.has
              have hbel := hI.bel
              have hlen := hI.len
              obtain ⟨u0, u1, u2, u3, u4, u5, u6, u7, u8, u9, u10, u11, u12, u13, u14, u15, u16, rfl⟩ := list_RC7 hlen
              have HK : Hid (∀ v W', Below W.heap.size W W' → RC7 (.agg #[.slice aa al.length ca, .int .i64 n, .slice am ms.length cm, .slice ae es.length ce]) (.slice (some ⟨lb, lo, none⟩) L.length lc) (k) (lb) (lo) (s) (w.heap.size) (n) (.slice aa al.length ca) (R2) 2 v W' → ∀ a', puts _ _ [u0, u1, v, u3, u4, u5, u6, u7, u8, u9, u10, u11, u12, u13, u14, u15, u16] = a' → K' a' W') := fun v W' hb hv a' e => hK _ a' W' e (hI.step RC7_mono hl hb hv)
              have hWW := hB5d.trans (hbel.mono hB5d.size)
              clear hl hI hd hn hK hHas hlen 
              refine StepG.mk ?_
              simp only [puts, Act.put]
              go_simp
              exact HK.out (.int .i64 k) _ (Below.refl _ _) rfl _ (by simp [puts, Act.put])
            refine Steps.cons rfl ?_ ?_
            · intro l us W hl hI hd hn K' hK
              have hHas := hI.has
              have hbel := hI.bel
              have hlen := hI.len
              obtain ⟨u0, u1, u2, u3, u4, u5, u6, u7, u8, u9, u10, u11, u12, u13, u14, u15, u16, rfl⟩ := list_RC7 hlen
              have HK : Hid (∀ v W', Below W.heap.size W W' → RC7 (.agg #[.slice aa al.length ca, .int .i64 n, .slice am ms.length cm, .slice ae es.length ce]) (.slice (some ⟨lb, lo, none⟩) L.length lc) (k) (lb) (lo) (s) (w.heap.size) (n) (.slice aa al.length ca) (R2) 3 v W' → ∀ a', puts _ _ [u0, u1, u2, v, u4, u5, u6, u7, u8, u9, u10, u11, u12, u13, u14, u15, u16] = a' → K' a' W') := fun v W' hb hv a' e => hK _ a' W' e (hI.step RC7_mono hl hb hv)
              have hWW := hB5d.trans (hbel.mono hB5d.size)
              have d1 : l.getD 1 false = true := by
                simp [Region.binds] at hd
                simp [hd]
              have d2 : l.getD 2 false = true := by
                simp [Region.binds] at hd
                simp [hd]
              obtain rfl : u1 = _ := hHas 1 (by decide) d1
              obtain rfl : u2 = _ := hHas 2 (by decide) d2
              clear hl hI hd hn hK hHas hlen d1 d2
              refine StepG.mk ?_
              simp only [puts, Act.put]
              go_simp
              exact HK.out (.pointer (some ⟨lb, lo + k, none⟩)) _ (Below.refl _ _) rfl _ (by simp [puts, Act.put])
            refine Steps.cons rfl ?_ ?_
            · intro l us W hl hI hd hn K' hK
              have hHas := hI.has
              have hbel := hI.bel
              have hlen := hI.len
              obtain ⟨u0, u1, u2, u3, u4, u5, u6, u7, u8, u9, u10, u11, u12, u13, u14, u15, u16, rfl⟩ := list_RC7 hlen
              have HK : Hid (∀ v W', Below W.heap.size W W' → RC7 (.agg #[.slice aa al.length ca, .int .i64 n, .slice am ms.length cm, .slice ae es.length ce]) (.slice (some ⟨lb, lo, none⟩) L.length lc) (k) (lb) (lo) (s) (w.heap.size) (n) (.slice aa al.length ca) (R2) 4 v W' → ∀ a', puts _ _ [u0, u1, u2, u3, v, u5, u6, u7, u8, u9, u10, u11, u12, u13, u14, u15, u16] = a' → K' a' W') := fun v W' hb hv a' e => hK _ a' W' e (hI.step RC7_mono hl hb hv)
              have hWW := hB5d.trans (hbel.mono hB5d.size)
              have y := keep hbel hck hlb
              have d3 : l.getD 3 false = true := by
                simp [Region.binds] at hd
                simp [hd]
              obtain rfl : u3 = _ := hHas 3 (by decide) d3
              clear hl hI hd hn hK hHas hlen d3
              refine StepG.mk ?_
              simp only [puts, Act.put]
              go_simp
              exact HK.out (.int .i64 s) _ (Below.refl _ _) rfl _ (by simp [puts, Act.put])
            refine Steps.cons rfl ?_ ?_
            · intro l us W hl hI hd hn K' hK
              have hHas := hI.has
              have hbel := hI.bel
              have hlen := hI.len
              obtain ⟨u0, u1, u2, u3, u4, u5, u6, u7, u8, u9, u10, u11, u12, u13, u14, u15, u16, rfl⟩ := list_RC7 hlen
              have HK : Hid (∀ v W', Below W.heap.size W W' → RC7 (.agg #[.slice aa al.length ca, .int .i64 n, .slice am ms.length cm, .slice ae es.length ce]) (.slice (some ⟨lb, lo, none⟩) L.length lc) (k) (lb) (lo) (s) (w.heap.size) (n) (.slice aa al.length ca) (R2) 5 v W' → ∀ a', puts _ _ [u0, u1, u2, u3, u4, v, u6, u7, u8, u9, u10, u11, u12, u13, u14, u15, u16] = a' → K' a' W') := fun v W' hb hv a' e => hK _ a' W' e (hI.step RC7_mono hl hb hv)
              have hWW := hB5d.trans (hbel.mono hB5d.size)
              have d4 : l.getD 4 false = true := by
                simp [Region.binds] at hd
                simp [hd]
              obtain rfl : u4 = _ := hHas 4 (by decide) d4
              clear hl hI hd hn hK hHas hlen d4
              refine StepG.mk ?_
              simp only [puts, Act.put]
              go_simp
              exact HK.out (.slice (some ⟨W.heap.size, 0, none⟩) 1 1) _ (bel_alloc _ _) ⟨_, _, rfl, ⟨_, 1, rfl, RdS.lit (cs := #[.int .i64 s]) (heap_at rfl) rfl (by show 1 ≤ 1000000; decide)⟩⟩ _ (by simp [puts, Act.put])
            refine Steps.cons rfl ?_ ?_
            · intro l us W hl hI hd hn K' hK
              have hHas := hI.has
              have hbel := hI.bel
              have hlen := hI.len
              obtain ⟨u0, u1, u2, u3, u4, u5, u6, u7, u8, u9, u10, u11, u12, u13, u14, u15, u16, rfl⟩ := list_RC7 hlen
              have HK : Hid (∀ v W', Below W.heap.size W W' → RC7 (.agg #[.slice aa al.length ca, .int .i64 n, .slice am ms.length cm, .slice ae es.length ce]) (.slice (some ⟨lb, lo, none⟩) L.length lc) (k) (lb) (lo) (s) (w.heap.size) (n) (.slice aa al.length ca) (R2) 6 v W' → ∀ a', puts _ _ [u0, u1, u2, u3, u4, u5, v, u7, u8, u9, u10, u11, u12, u13, u14, u15, u16] = a' → K' a' W') := fun v W' hb hv a' e => hK _ a' W' e (hI.step RC7_mono hl hb hv)
              have hWW := hB5d.trans (hbel.mono hB5d.size)
              clear hl hI hd hn hK hHas hlen 
              refine StepG.mk ?_
              simp only [puts, Act.put]
              go_simp
              exact HK.out (.pointer (some ⟨w.heap.size, 1, none⟩)) _ (Below.refl _ _) rfl _ (by simp [puts, Act.put])
            refine Steps.cons rfl ?_ ?_
            · intro l us W hl hI hd hn K' hK
              have hHas := hI.has
              have hbel := hI.bel
              have hlen := hI.len
              obtain ⟨u0, u1, u2, u3, u4, u5, u6, u7, u8, u9, u10, u11, u12, u13, u14, u15, u16, rfl⟩ := list_RC7 hlen
              have HK : Hid (∀ v W', Below W.heap.size W W' → RC7 (.agg #[.slice aa al.length ca, .int .i64 n, .slice am ms.length cm, .slice ae es.length ce]) (.slice (some ⟨lb, lo, none⟩) L.length lc) (k) (lb) (lo) (s) (w.heap.size) (n) (.slice aa al.length ca) (R2) 7 v W' → ∀ a', puts _ _ [u0, u1, u2, u3, u4, u5, u6, v, u8, u9, u10, u11, u12, u13, u14, u15, u16] = a' → K' a' W') := fun v W' hb hv a' e => hK _ a' W' e (hI.step RC7_mono hl hb hv)
              have hWW := hB5d.trans (hbel.mono hB5d.size)
              have y := keep hbel z1 hz
              have d6 : l.getD 6 false = true := by
                simp [Region.binds] at hd
                simp [hd]
              obtain rfl : u6 = _ := hHas 6 (by decide) d6
              clear hl hI hd hn hK hHas hlen d6
              refine StepG.mk ?_
              simp only [puts, Act.put]
              go_simp
              exact HK.out (.int .i64 n) _ (Below.refl _ _) rfl _ (by simp [puts, Act.put])
            refine Steps.cons rfl ?_ ?_
            · intro l us W hl hI hd hn K' hK
              have hHas := hI.has
              have hbel := hI.bel
              have hlen := hI.len
              obtain ⟨u0, u1, u2, u3, u4, u5, u6, u7, u8, u9, u10, u11, u12, u13, u14, u15, u16, rfl⟩ := list_RC7 hlen
              have HK : Hid (∀ v W', Below W.heap.size W W' → RC7 (.agg #[.slice aa al.length ca, .int .i64 n, .slice am ms.length cm, .slice ae es.length ce]) (.slice (some ⟨lb, lo, none⟩) L.length lc) (k) (lb) (lo) (s) (w.heap.size) (n) (.slice aa al.length ca) (R2) 8 v W' → ∀ a', puts _ _ [u0, u1, u2, u3, u4, u5, u6, u7, v, u9, u10, u11, u12, u13, u14, u15, u16] = a' → K' a' W') := fun v W' hb hv a' e => hK _ a' W' e (hI.step RC7_mono hl hb hv)
              have hWW := hB5d.trans (hbel.mono hB5d.size)
              have d7 : l.getD 7 false = true := by
                simp [Region.binds] at hd
                simp [hd]
              obtain rfl : u7 = _ := hHas 7 (by decide) d7
              clear hl hI hd hn hK hHas hlen d7
              refine StepG.mk ?_
              simp only [puts, Act.put]
              go_simp
              refine (all_any n _ (by omega)).mono ?_
              rintro e w9 ⟨v9, rfl, hown9, hb9⟩
              have HL9 := Lib.hid (RdI.of_own hown9)
              obtain ⟨a9, c9, rfl, hr9⟩ := RdS.of_own hown9
              clear hr9 hown9
              go_simp
              exact HK.out _ _ hb9 ⟨_, _, rfl, HL9.out⟩ _ (by simp [puts, Act.put])
            refine Steps.cons rfl ?_ ?_
            · intro l us W hl hI hd hn K' hK
              have hHas := hI.has
              have hbel := hI.bel
              have hlen := hI.len
              obtain ⟨u0, u1, u2, u3, u4, u5, u6, u7, u8, u9, u10, u11, u12, u13, u14, u15, u16, rfl⟩ := list_RC7 hlen
              have HK : Hid (∀ v W', Below W.heap.size W W' → RC7 (.agg #[.slice aa al.length ca, .int .i64 n, .slice am ms.length cm, .slice ae es.length ce]) (.slice (some ⟨lb, lo, none⟩) L.length lc) (k) (lb) (lo) (s) (w.heap.size) (n) (.slice aa al.length ca) (R2) 9 v W' → ∀ a', puts _ _ [u0, u1, u2, u3, u4, u5, u6, u7, u8, v, u10, u11, u12, u13, u14, u15, u16] = a' → K' a' W') := fun v W' hb hv a' e => hK _ a' W' e (hI.step RC7_mono hl hb hv)
              have hWW := hB5d.trans (hbel.mono hB5d.size)
              clear hl hI hd hn hK hHas hlen 
              refine StepG.mk ?_
              simp only [puts, Act.put]
              go_simp
              exact HK.out (.pointer (some ⟨w.heap.size, 0, none⟩)) _ (Below.refl _ _) rfl _ (by simp [puts, Act.put])
            refine Steps.cons rfl ?_ ?_
            · intro l us W hl hI hd hn K' hK
              have hHas := hI.has
              have hbel := hI.bel
              have hlen := hI.len
              obtain ⟨u0, u1, u2, u3, u4, u5, u6, u7, u8, u9, u10, u11, u12, u13, u14, u15, u16, rfl⟩ := list_RC7 hlen
              have HK : Hid (∀ v W', Below W.heap.size W W' → RC7 (.agg #[.slice aa al.length ca, .int .i64 n, .slice am ms.length cm, .slice ae es.length ce]) (.slice (some ⟨lb, lo, none⟩) L.length lc) (k) (lb) (lo) (s) (w.heap.size) (n) (.slice aa al.length ca) (R2) 10 v W' → ∀ a', puts _ _ [u0, u1, u2, u3, u4, u5, u6, u7, u8, u9, v, u11, u12, u13, u14, u15, u16] = a' → K' a' W') := fun v W' hb hv a' e => hK _ a' W' e (hI.step RC7_mono hl hb hv)
              have hWW := hB5d.trans (hbel.mono hB5d.size)
              have y := keep hbel z0 hz
              have d9 : l.getD 9 false = true := by
                simp [Region.binds] at hd
                simp [hd]
              obtain rfl : u9 = _ := hHas 9 (by decide) d9
              clear hl hI hd hn hK hHas hlen d9
              refine StepG.mk ?_
              simp only [puts, Act.put]
              go_simp
              exact HK.out ((.slice aa al.length ca)) _ (Below.refl _ _) rfl _ (by simp [puts, Act.put])
            refine Steps.cons rfl ?_ ?_
            · intro l us W hl hI hd hn K' hK
              have hHas := hI.has
              have hbel := hI.bel
              have hlen := hI.len
              obtain ⟨u0, u1, u2, u3, u4, u5, u6, u7, u8, u9, u10, u11, u12, u13, u14, u15, u16, rfl⟩ := list_RC7 hlen
              have HK : Hid (∀ v W', Below W.heap.size W W' → RC7 (.agg #[.slice aa al.length ca, .int .i64 n, .slice am ms.length cm, .slice ae es.length ce]) (.slice (some ⟨lb, lo, none⟩) L.length lc) (k) (lb) (lo) (s) (w.heap.size) (n) (.slice aa al.length ca) (R2) 11 v W' → ∀ a', puts _ _ [u0, u1, u2, u3, u4, u5, u6, u7, u8, u9, u10, v, u12, u13, u14, u15, u16] = a' → K' a' W') := fun v W' hb hv a' e => hK _ a' W' e (hI.step RC7_mono hl hb hv)
              have hWW := hB5d.trans (hbel.mono hB5d.size)
              have d0 : l.getD 0 false = true := by
                simp [Region.binds] at hd
                simp [hd]
              have d5 : l.getD 5 false = true := by
                simp [Region.binds] at hd
                simp [hd]
              have d8 : l.getD 8 false = true := by
                simp [Region.binds] at hd
                simp [hd]
              have d10 : l.getD 10 false = true := by
                simp [Region.binds] at hd
                simp [hd]
              obtain rfl : u0 = _ := hHas 0 (by decide) d0
              obtain ⟨a5, c5, e5, hr5⟩ : ∃ a c, u5 = .slice a ([s]).length c ∧ RdI W u5 ([s]) := hHas 5 (by decide) d5
              subst e5
              have Hr5 := Lib.hid hr5
              clear hr5
              obtain ⟨a8, c8, e8, hr8⟩ : ∃ a c, u8 = .slice a (allL n).length c ∧ RdI W u8 (allL n) := hHas 8 (by decide) d8
              subst e8
              have Hr8 := Lib.hid hr8
              clear hr8
              obtain rfl : u10 = _ := hHas 10 (by decide) d10
              clear hl hI hd hn hK hHas hlen d0 d5 d8 d10
              refine StepG.mk ?_
              simp only [puts, Act.put]
              go_simp
              refine (HP2.out W _ _ _ _ ((Ha4.out.mono (bel_drew _)).mono hbel) Hr5.out Hr8.out (RdA.al0 ((Ha4.out.mono (bel_drew _)).mono hbel))).mono ?_
              rintro e w9 ⟨u9, rfl, hq9, hb9⟩
              obtain ⟨a9, c9, rfl, hr9⟩ := hq9.tup
              have Hr9a := Lib.hid hr9
              clear hq9 hr9
              go_simp
              exact HK.out _ _ hb9 ⟨_, _, rfl, Hr9a.out⟩ _ (by simp [puts, Act.put])
            refine Steps.cons rfl ?_ ?_
            · intro l us W hl hI hd hn K' hK
              have hHas := hI.has
              have hbel := hI.bel
              have hlen := hI.len
              obtain ⟨u0, u1, u2, u3, u4, u5, u6, u7, u8, u9, u10, u11, u12, u13, u14, u15, u16, rfl⟩ := list_RC7 hlen
              have HK : Hid (∀ v W', Below W.heap.size W W' → RC7 (.agg #[.slice aa al.length ca, .int .i64 n, .slice am ms.length cm, .slice ae es.length ce]) (.slice (some ⟨lb, lo, none⟩) L.length lc) (k) (lb) (lo) (s) (w.heap.size) (n) (.slice aa al.length ca) (R2) 12 v W' → ∀ a', puts _ _ [u0, u1, u2, u3, u4, u5, u6, u7, u8, u9, u10, u11, v, u13, u14, u15, u16] = a' → K' a' W') := fun v W' hb hv a' e => hK _ a' W' e (hI.step RC7_mono hl hb hv)
              have hWW := hB5d.trans (hbel.mono hB5d.size)
              have d11 : l.getD 11 false = true := by
                simp [Region.binds] at hd
                simp [hd]
              obtain ⟨a11, c11, e11, hr11⟩ : ∃ a c, u11 = .tuple #[.slice a (R2.getD []).length c, .bool (R2.isSome)] ∧ RdI W (.slice a (R2.getD []).length c) (R2.getD []) := hHas 11 (by decide) d11
              subst e11
              have Hr11 := Lib.hid hr11
              clear hr11
              clear hl hI hd hn hK hHas hlen d11
              refine StepG.mk ?_
              simp only [puts, Act.put]
              go_simp
              exact HK.out _ _ (Below.refl _ _) ⟨_, _, rfl, Hr11.out⟩ _ (by simp [puts, Act.put])
            refine Steps.cons rfl ?_ ?_
            · intro l us W hl hI hd hn K' hK
              have hHas := hI.has
              have hbel := hI.bel
              have hlen := hI.len
              obtain ⟨u0, u1, u2, u3, u4, u5, u6, u7, u8, u9, u10, u11, u12, u13, u14, u15, u16, rfl⟩ := list_RC7 hlen
              have HK : Hid (∀ v W', Below W.heap.size W W' → RC7 (.agg #[.slice aa al.length ca, .int .i64 n, .slice am ms.length cm, .slice ae es.length ce]) (.slice (some ⟨lb, lo, none⟩) L.length lc) (k) (lb) (lo) (s) (w.heap.size) (n) (.slice aa al.length ca) (R2) 13 v W' → ∀ a', puts _ _ [u0, u1, u2, u3, u4, u5, u6, u7, u8, u9, u10, u11, u12, v, u14, u15, u16] = a' → K' a' W') := fun v W' hb hv a' e => hK _ a' W' e (hI.step RC7_mono hl hb hv)
              have hWW := hB5d.trans (hbel.mono hB5d.size)
              have d12 : l.getD 12 false = true := by
                simp [Region.binds] at hd
                simp [hd]
              obtain ⟨a12, c12, e12, hr12⟩ : ∃ a c, u12 = .tuple #[.slice a (R2.getD []).length c, .bool (R2.isSome)] ∧ RdI W (.slice a (R2.getD []).length c) (R2.getD []) := hHas 12 (by decide) d12
              subst e12
              have Hr12 := Lib.hid hr12
              clear hr12
              clear hl hI hd hn hK hHas hlen d12
              refine StepG.mk ?_
              simp only [puts, Act.put]
              go_simp
              exact HK.out _ _ (Below.refl _ _) ⟨_, _, rfl, Hr12.out⟩ _ (by simp [puts, Act.put])
            refine Steps.cons rfl ?_ ?_
            · intro l us W hl hI hd hn K' hK
              have hHas := hI.has
              have hbel := hI.bel
              have hlen := hI.len
              obtain ⟨u0, u1, u2, u3, u4, u5, u6, u7, u8, u9, u10, u11, u12, u13, u14, u15, u16, rfl⟩ := list_RC7 hlen
              have HK : Hid (∀ v W', Below W.heap.size W W' → RC7 (.agg #[.slice aa al.length ca, .int .i64 n, .slice am ms.length cm, .slice ae es.length ce]) (.slice (some ⟨lb, lo, none⟩) L.length lc) (k) (lb) (lo) (s) (w.heap.size) (n) (.slice aa al.length ca) (R2) 14 v W' → ∀ a', puts _ _ [u0, u1, u2, u3, u4, u5, u6, u7, u8, u9, u10, u11, u12, u13, v, u15, u16] = a' → K' a' W') := fun v W' hb hv a' e => hK _ a' W' e (hI.step RC7_mono hl hb hv)
              have hWW := hB5d.trans (hbel.mono hB5d.size)
              have d12 : l.getD 12 false = true := by
                simp [Region.binds] at hd
                simp [hd]
              obtain ⟨a12, c12, e12, hr12⟩ : ∃ a c, u12 = .tuple #[.slice a (R2.getD []).length c, .bool (R2.isSome)] ∧ RdI W (.slice a (R2.getD []).length c) (R2.getD []) := hHas 12 (by decide) d12
              subst e12
              have Hr12 := Lib.hid hr12
              clear hr12
              clear hl hI hd hn hK hHas hlen d12
              refine StepG.mk ?_
              simp only [puts, Act.put]
              go_simp
              exact HK.out (.bool R2.isSome) _ (Below.refl _ _) rfl _ (by simp [puts, Act.put])
            refine Steps.cons rfl ?_ ?_
            · intro l us W hl hI hd hn K' hK
              have hHas := hI.has
              have hbel := hI.bel
              have hlen := hI.len
              obtain ⟨u0, u1, u2, u3, u4, u5, u6, u7, u8, u9, u10, u11, u12, u13, u14, u15, u16, rfl⟩ := list_RC7 hlen
              have HK : Hid (∀ v W', Below W.heap.size W W' → RC7 (.agg #[.slice aa al.length ca, .int .i64 n, .slice am ms.length cm, .slice ae es.length ce]) (.slice (some ⟨lb, lo, none⟩) L.length lc) (k) (lb) (lo) (s) (w.heap.size) (n) (.slice aa al.length ca) (R2) 15 v W' → ∀ a', puts _ _ [u0, u1, u2, u3, u4, u5, u6, u7, u8, u9, u10, u11, u12, u13, u14, v, u16] = a' → K' a' W') := fun v W' hb hv a' e => hK _ a' W' e (hI.step RC7_mono hl hb hv)
              have hWW := hB5d.trans (hbel.mono hB5d.size)
              have d13 : l.getD 13 false = true := by
                simp [Region.binds] at hd
                simp [hd]
              obtain ⟨a13, c13, e13, hr13⟩ : ∃ a c, u13 = .slice a (R2.getD []).length c ∧ RdI W u13 (R2.getD []) := hHas 13 (by decide) d13
              subst e13
              have Hr13 := Lib.hid hr13
              clear hr13
              clear hl hI hd hn hK hHas hlen d13
              refine StepG.mk ?_
              simp only [puts, Act.put]
              go_simp
              exact HK.out _ _ (Below.refl _ _) ⟨_, _, rfl, Hr13.out⟩ _ (by simp [puts, Act.put])
            refine Steps.cons rfl ?_ ?_
            · intro l us W hl hI hd hn K' hK
              have hHas := hI.has
              have hbel := hI.bel
              have hlen := hI.len
              obtain ⟨u0, u1, u2, u3, u4, u5, u6, u7, u8, u9, u10, u11, u12, u13, u14, u15, u16, rfl⟩ := list_RC7 hlen
              have HK : Hid (∀ v W', Below W.heap.size W W' → RC7 (.agg #[.slice aa al.length ca, .int .i64 n, .slice am ms.length cm, .slice ae es.length ce]) (.slice (some ⟨lb, lo, none⟩) L.length lc) (k) (lb) (lo) (s) (w.heap.size) (n) (.slice aa al.length ca) (R2) 16 v W' → ∀ a', puts _ _ [u0, u1, u2, u3, u4, u5, u6, u7, u8, u9, u10, u11, u12, u13, u14, u15, v] = a' → K' a' W') := fun v W' hb hv a' e => hK _ a' W' e (hI.step RC7_mono hl hb hv)
              have hWW := hB5d.trans (hbel.mono hB5d.size)
              have d14 : l.getD 14 false = true := by
                simp [Region.binds] at hd
                simp [hd]
              obtain rfl : u14 = _ := hHas 14 (by decide) d14
              clear hl hI hd hn hK hHas hlen d14
              refine StepG.mk ?_
              simp only [puts, Act.put]
              go_simp
              exact HK.out (.bool R2.isSome) _ (Below.refl _ _) rfl _ (by simp [puts, Act.put])
            exact Steps.nil (Nat.le_refl _)
          · intro us W' hlen hbel hall
            obtain ⟨u0, u1, u2, u3, u4, u5, u6, u7, u8, u9, u10, u11, u12, u13, u14, u15, u16, rfl⟩ := list_RC7 hlen
            obtain ⟨a8, c8, e8, hr8⟩ : ∃ a c, u15 = .slice a (R2.getD []).length c ∧ RdI W' u15 (R2.getD []) := hall 15 (by decide)
            subst e8
            have Hr8 := Lib.hid hr8
            have Hr11 := Lib.hid ((Hr10.out.mono (bel_drew _)).mono hbel)
            have hB6 := hB5d.trans (hbel.mono hB5d.size)
            clear hall hlen hr8 hbel z0 z1 z2 z3 hck hB5d hB5
            simp only [puts, Act.put, List.setIfInBounds_toArray, List.set_cons_succ, List.set_cons_zero]
            go_wp2_with fail
            refine bodyPost_ret (v := .tuple #[.slice a8 (R2.getD []).length c8, .slice a9 c.length c9, .bool true]) (by simp [results, Try.results33, go_sem]) rfl ⟨_, rfl, ?_, hB6⟩
            rw [HZ.out]
            exact ⟨a8, c8, a9, c9, rfl, Hr8.out, Hr11.out⟩
    · have hnl : ¬ (k : Int) < (L.length : Int) := by omega
      have HQ : Hid (R = none) := by
        show _ = _
        rw [hRk.out, List.drop_of_length_le (by omega)]; rfl
      clear hRk
      go_wp2_with fail
      refine bodyPost_ret (v := .tuple #[.slice none 0 0, .slice none 0 0, .bool false]) (by simp [results, Try.results33, go_sem]) rfl ⟨_, rfl, ?_, hB4⟩
      rw [HQ.out]
      exact ⟨none, 0, none, 0, rfl, RdI.nil0 _, RdI.nil0 _⟩
end Go.Proofs.Ythchkddhibhenaa

/- Cycle and the reference's Cycle return the same words: a plain law. -/
namespace Go.Proofs.Ythchkddhibhenaa

theorem wval_cons (e : Int) (u : List Int) : ∀ v, u.length = v.length → Evs u → Evs v → (wval u ≤ wval v → wval (e :: u) ≤ wval (e :: v)) ∧ (wval u < wval v → wval (e :: u) < wval (e :: v)) := by
  refine snoc_ind (P := fun u => ∀ v, u.length = v.length → Evs u → Evs v → (wval u ≤ wval v → wval (e :: u) ≤ wval (e :: v)) ∧ (wval u < wval v → wval (e :: u) < wval (e :: v))) ?_ ?_ u
  · intro v hl _ _
    obtain rfl : v = [] := List.eq_nil_of_length_eq_zero hl.symm
    exact ⟨fun _ => Int.le_refl _, fun h => absurd h (Int.lt_irrefl _)⟩
  · intro u a ih v hl hu hv
    rcases List.eq_nil_or_concat v with rfl | ⟨v', b, rfl⟩
    · simp at hl
    · rw [List.concat_eq_append] at hl hv ⊢
      have h1 := hu.of_snoc
      have h2 := hv.of_snoc
      have h3 := ih v' (by simpa using hl) h1.1 h2.1
      rw [← List.cons_append, ← List.cons_append, wval_snoc, wval_snoc, wval_snoc, wval_snoc]
      constructor
      · intro h
        by_cases h4 : wval u < wval v'
        · have := h3.2 h4; omega
        · have := h3.1 (by omega); omega
      · intro h
        by_cases h4 : wval u < wval v'
        · have := h3.2 h4; omega
        · have := h3.1 (by omega); omega
theorem wval_head {e e' : Int} (he : e < e') (u : List Int) : ∀ v, u.length = v.length → Evs u → Evs v → wval (e :: u) < wval (e' :: v) := by
  refine snoc_ind (P := fun u => ∀ v, u.length = v.length → Evs u → Evs v → wval (e :: u) < wval (e' :: v)) ?_ ?_ u
  · intro v hl _ _
    obtain rfl : v = [] := List.eq_nil_of_length_eq_zero hl.symm
    show 33 * 0 + e + 1 < 33 * 0 + e' + 1
    omega
  · intro u a ih v hl hu hv
    rcases List.eq_nil_or_concat v with rfl | ⟨v', b, rfl⟩
    · simp at hl
    · rw [List.concat_eq_append] at hl hv ⊢
      have h1 := hu.of_snoc
      have h2 := hv.of_snoc
      have h3 := ih v' (by simpa using hl) h1.1 h2.1
      rw [← List.cons_append, ← List.cons_append, wval_snoc, wval_snoc]
      omega
theorem wval_short {u v : List Int} (hu : Evs u) (hv : Evs v) (h : u.length < v.length) : wval u < wval v := by
  by_cases h1 : wval u < wval v
  · exact h1
  · have := wval_len hv hu (by omega); omega

section
variable {es : List Ed} {perm : Ed → Bool} {n : Nat} {s : Int}
/-- What holds behind some edges of the state. -/
structure RS (es : List Ed) (perm : Ed → Bool) (s : Int) (pre : List Ed) (acc : Option (List Int)) : Prop where
  no : acc = none → ∀ x ∈ pre, perm x = true → ∀ u, ¬ Leads es perm x.t u s
  yes : ∀ w, acc = some w → Evs w ∧ (∃ x ∈ pre, ∃ r, w = x.e :: r) ∧ Leads es perm s w s ∧ ∀ x ∈ pre, perm x = true → ∀ u, Leads es perm x.t u s → wval w ≤ wval (x.e :: u)
theorem RS.step {pre : List Ed} {acc : Option (List Int)} (h : RS es perm s pre acc) (hso : Sorted es) (hes : ∀ x ∈ es, 0 ≤ x.t ∧ x.t < (n : Int)) (he : EvEs es) {x : Ed} (hx : x ∈ es) (hf : x.f = s) (hlt : ∀ y ∈ pre, y.e < x.e) (hpre : ∀ y ∈ pre, y ∈ es) :
    RS es perm s (pre ++ [x]) (rStep n es perm s acc x) := by
  have hxt := hes x hx
  have hxe := he x hx
  have hmem : ∀ y ∈ pre ++ [x], y ∈ pre ∨ y = x := fun y hy => by
    rcases List.mem_append.1 hy with h1 | h1
    · exact .inl h1
    · exact .inr (List.mem_singleton.1 h1)
  cases hp : perm x with
  | false =>
    rw [rStep_not hp]
    refine ⟨fun e y hy hpy u hu => ?_, fun w e => ?_⟩
    · rcases hmem y hy with h1 | rfl
      · exact h.no e y h1 hpy u hu
      · rw [hp] at hpy; cases hpy
    · obtain ⟨h1, ⟨y, hy, h2⟩, h3, h4⟩ := h.yes w e
      refine ⟨h1, ⟨y, List.mem_append_left _ hy, h2⟩, h3, fun z hz hpz u hu => ?_⟩
      rcases hmem z hz with h5 | rfl
      · exact h4 z h5 hpz u hu
      · rw [hp] at hpz; cases hpz
  | true =>
    have hsay := pathF_says (perm := perm) (want := fun t => t == s) (from_ := x.t.toNat) hso hes he (by omega)
    rw [Int.toNat_of_nonneg hxt.1] at hsay
    cases hq : pathF n es (fun t => t == s) perm x.t.toNat with
    | none =>
      rw [hq] at hsay
      have hno : ∀ u, ¬ Leads es perm x.t u s := fun u hu => by have := hsay u s hu; simp at this
      rw [rStep_none hp hq]
      refine ⟨fun e y hy hpy u hu => ?_, fun w e => ?_⟩
      · rcases hmem y hy with h1 | rfl
        · exact h.no e y h1 hpy u hu
        · exact hno u hu
      · obtain ⟨h1, ⟨y, hy, h2⟩, h3, h4⟩ := h.yes w e
        refine ⟨h1, ⟨y, List.mem_append_left _ hy, h2⟩, h3, fun z hz hpz u hu => ?_⟩
        rcases hmem z hz with h5 | rfl
        · exact h4 z h5 hpz u hu
        · exact absurd hu (hno u)
    | some r =>
      rw [hq] at hsay
      have hl : Leads es perm x.t r s := by
        obtain ⟨t, g1, g2⟩ := hsay.leads
        have : t = s := by simpa using g2
        rwa [this] at g1
      have hle : ∀ u, Leads es perm x.t u s → wval r ≤ wval u := fun u hu => hsay.le u s hu (by simp) (Nat.zero_le _)
      have hev : Evs (x.e :: r) := by
        intro z hz
        rcases List.mem_cons.1 hz with rfl | hz
        · exact hxe
        · exact hsay.ev z hz
      have hlead : Leads es perm s (x.e :: r) s := ⟨x, hx, hf, rfl, hp, hl⟩
      have hown : ∀ u, Leads es perm x.t u s → wval (x.e :: r) ≤ wval (x.e :: u) := by
        intro u hu
        have hue := hu.evs he
        have h1 := hle u hu
        have h2 := wval_len hsay.ev hue h1
        by_cases h3 : r.length = u.length
        · exact (wval_cons x.e r u h3 hsay.ev hue).1 h1
        · refine Int.le_of_lt (wval_short hev ?_ (by simp; omega))
          intro z hz
          rcases List.mem_cons.1 hz with rfl | hz
          · exact hxe
          · exact hue z hz
      have hself : ∃ y ∈ pre ++ [x], ∃ r', x.e :: r = y.e :: r' := ⟨x, by simp, r, rfl⟩
      cases hacc : acc with
      | none =>
        subst hacc
        rw [rStep_first hp hq]
        refine ⟨fun e => (by cases e), fun w e => ?_⟩
        cases e
        refine ⟨hev, hself, hlead, fun z hz hpz u hu => ?_⟩
        rcases hmem z hz with h5 | rfl
        · exact absurd hu (h.no rfl z h5 hpz u)
        · exact hown u hu
      | some b =>
        subst hacc
        obtain ⟨h1, ⟨y, hy, r', h2⟩, h3, h4⟩ := h.yes b rfl
        by_cases hlen : r.length + 1 < b.length
        · rw [rStep_less hp hq hlen]
          refine ⟨fun e => (by cases e), fun w e => ?_⟩
          cases e
          refine ⟨hev, hself, hlead, fun z hz hpz u hu => ?_⟩
          rcases hmem z hz with h5 | rfl
          · have h6 := h4 z h5 hpz u hu
            have h7 := wval_short hev h1 (by simp; omega)
            omega
          · exact hown u hu
        · rw [rStep_more hp hq hlen]
          refine ⟨fun e => (by cases e), fun w e => ?_⟩
          cases e
          refine ⟨h1, ⟨y, List.mem_append_left _ hy, r', h2⟩, h3, fun z hz hpz u hu => ?_⟩
          rcases hmem z hz with h5 | rfl
          · exact h4 z h5 hpz u hu
          · have hue := hu.evs he
            have h6 := wval_len hsay.ev hue (hle u hu)
            have hue2 : Evs (z.e :: u) := by
              intro q hq
              rcases List.mem_cons.1 hq with rfl | hq
              · exact hxe
              · exact hue q hq
            by_cases h7 : b.length = u.length + 1
            · subst h2
              have h8 : Evs r' := fun q hq => h1 q (List.mem_cons_of_mem _ hq)
              exact Int.le_of_lt (wval_head (hlt y hy) r' u (by simpa using h7) h8 hue)
            · exact Int.le_of_lt (wval_short h1 hue2 (by simp; omega))
theorem RS.fold (hso : Sorted es) (hes : ∀ x ∈ es, 0 ≤ x.t ∧ x.t < (n : Int)) (he : EvEs es) : ∀ (l pre : List Ed) (acc : Option (List Int)), RS es perm s pre acc → (∀ x ∈ l, x ∈ es ∧ x.f = s) → (∀ y ∈ pre, y ∈ es) → (∀ y ∈ pre, ∀ x ∈ l, y.e < x.e) → l.Pairwise (fun x y => x.e < y.e) → RS es perm s (pre ++ l) (l.foldl (rStep n es perm s) acc)
  | [], pre, acc, h, _, _, _, _ => by rw [List.append_nil]; exact h
  | x :: l, pre, acc, h, hl, hp, hlt, hpw => by
    have hx := hl x (List.mem_cons_self ..)
    have h1 := h.step hso hes he hx.1 hx.2 (fun y hy => hlt y hy x (List.mem_cons_self ..)) hp
    have h2 := RS.fold hso hes he l (pre ++ [x]) _ h1 (fun z hz => hl z (List.mem_cons_of_mem _ hz)) (fun y hy => by
      rcases List.mem_append.1 hy with h3 | h3
      · exact hp y h3
      · rw [List.mem_singleton.1 h3]; exact hx.1) (fun y hy z hz => by
      rcases List.mem_append.1 hy with h3 | h3
      · exact hlt y h3 z (List.mem_cons_of_mem _ hz)
      · rw [List.mem_singleton.1 h3]; exact (List.pairwise_cons.1 hpw).1 z hz) (List.pairwise_cons.1 hpw).2
    rw [List.append_assoc] at h2
    exact h2
/-- What round returns is the least word back. -/
theorem roundF_says (hso : Sorted es) (hes : ∀ x ∈ es, 0 ≤ x.t ∧ x.t < (n : Int)) (he : EvEs es) :
    match roundF n es perm s with
    | some w => Least es perm (fun t => t == s) s 1 w
    | none => ∀ u t, Leads es perm s u t → 1 ≤ u.length → (t == s) = false := by
  have hsub : ∀ x ∈ subOf es s, x ∈ es ∧ x.f = s := by
    intro x hx
    rw [subOf_eq hso] at hx
    have := List.mem_filter.1 hx
    exact ⟨this.1, by simpa using this.2⟩
  have hpw : (subOf es s).Pairwise (fun x y => x.e < y.e) := by
    have h1 : (subOf es s).Pairwise edLt := by
      rw [subOf_eq hso]; exact List.Pairwise.filter _ hso
    refine List.Pairwise.imp_of_mem ?_ h1
    intro x y hx hy h
    have e1 := (hsub x hx).2
    have e2 := (hsub y hy).2
    unfold edLt at h
    omega
  have h := RS.fold (perm := perm) (s := s) hso hes he (subOf es s) [] none ⟨fun _ x hx => (by cases hx), fun w e => (by cases e)⟩ hsub (fun y hy => (by cases hy)) (fun y hy => (by cases hy)) hpw
  rw [List.nil_append] at h
  have hin : ∀ x ∈ es, x.f = s → x ∈ subOf es s := fun x hx hf => by rw [subOf_eq hso]; exact List.mem_filter.2 ⟨hx, by simpa using hf⟩
  cases hr : roundF n es perm s with
  | none =>
    intro u t hu hl
    cases u with
    | nil => simp at hl
    | cons e u =>
      obtain ⟨x, hx, g1, g2, g3, g4⟩ := hu
      by_cases ht : t = s
      · subst ht
        exact absurd g4 (h.no hr x (hin x hx g1) g3 u)
      · simpa using ht
  | some w =>
    obtain ⟨h1, ⟨y, hy, r, rfl⟩, h3, h4⟩ := h.yes w hr
    refine ⟨h1, by simp, ⟨s, h3, by simp⟩, fun u t hu ht hl => ?_⟩
    have ht' : t = s := by simpa using ht
    subst ht'
    cases u with
    | nil => simp at hl
    | cons e u =>
      obtain ⟨x, hx, g1, g2, g3, g4⟩ := hu
      subst g2
      exact h4 x (hin x hx g1) g3 u g4

theorem hasB_one (s : Int) : hasB [s] = fun t => t == s := by
  funext t
  rw [Bool.eq_iff_iff, hasB_true, List.mem_singleton, beq_iff_eq]
/-- Both searches for the way back give the same. -/
theorem rounds_eq {evs : List Int} (hso : Sorted es) (hes : ∀ x ∈ es, 0 ≤ x.t ∧ x.t < (n : Int)) (he : EvEs es) (hs : hasB (allL n) s = true) (hall : ∀ x ∈ es, hasB (allL n) x.t = true) :
    roundF n es (fun x => hasB evs x.e) s = pathR es (allL n) evs [s] 1 s := by
  have h1 := roundF_says (perm := fun x => hasB evs x.e) (s := s) hso hes he
  have h2 := pathR_says (W := allL n) (E := evs) (T := [s]) he hso 1 (by omega) hs
  rw [hasB_one] at h2
  have hc : ∀ x ∈ es, (fun x : Ed => hasB evs x.e) x = fPerm (allL n) evs x := fun x hx => by
    show _ = (hasB (allL n) x.t && hasB evs x.e)
    rw [hall x hx, Bool.true_and]
  have e0 : (((1 : Nat) : Int)) = 1 := rfl
  rw [e0] at h2
  cases hq : roundF n es (fun x => hasB evs x.e) s with
  | some w =>
    rw [hq] at h1
    have h1' := h1.congr hc
    cases hr : pathR es (allL n) evs [s] 1 s with
    | some w' =>
      rw [hr] at h2
      exact congrArg some (h1'.unique h2)
    | none =>
      rw [hr] at h2
      obtain ⟨t, g1, g2⟩ := h1'.leads
      have q : (t == s) = false := h2 w t g1 h1'.len
      rw [q] at g2; cases g2
  | none =>
    rw [hq] at h1
    cases hr : pathR es (allL n) evs [s] 1 s with
    | some w' =>
      rw [hr] at h2
      obtain ⟨t, g1, g2⟩ := h2.leads
      rw [h1 w' t (g1.congrP fun x hx => (hc x hx).symm) h2.len] at g2; cases g2
    | none => rfl
theorem prefix_eq {al : List Int} (hso : Sorted es) (hes : ∀ x ∈ es, 0 ≤ x.t ∧ x.t < (n : Int)) (he : EvEs es) (hal : ∀ x ∈ es, hasB al x.e = true) (hn : 0 < n) (h0 : hasB (allL n) 0 = true) (hall : ∀ x ∈ es, hasB (allL n) x.t = true) :
    pathF n es (fun t => t == s) (fun _ => true) 0 = pathR es (allL n) al [s] 0 0 := by
  have h1 := pathF_says (perm := fun _ => true) (want := fun t => t == s) (from_ := 0) hso hes he hn
  have h2 := pathR_says (W := allL n) (E := al) (T := [s]) he hso 0 (by omega) h0
  rw [hasB_one] at h2
  have hc : ∀ x ∈ es, (fun _ : Ed => true) x = fPerm (allL n) al x := fun x hx => by
    show _ = (hasB (allL n) x.t && hasB al x.e)
    rw [hall x hx, hal x hx]; rfl
  have e0 : (((0 : Nat) : Int)) = 0 := rfl
  rw [e0] at h1 h2
  cases hq : pathF n es (fun t => t == s) (fun _ => true) 0 with
  | some w =>
    rw [hq] at h1
    have h1' := h1.congr hc
    cases hr : pathR es (allL n) al [s] 0 0 with
    | some w' =>
      rw [hr] at h2
      exact congrArg some (h1'.unique h2)
    | none =>
      rw [hr] at h2
      obtain ⟨t, g1, g2⟩ := h1'.leads
      have q : (t == s) = false := h2 w t g1 (Nat.zero_le _)
      rw [q] at g2; cases g2
  | none =>
    rw [hq] at h1
    cases hr : pathR es (allL n) al [s] 0 0 with
    | some w' =>
      rw [hr] at h2
      obtain ⟨t, g1, g2⟩ := h2.leads
      rw [h1 w' t (g1.congrP fun x hx => (hc x hx).symm)] at g2; cases g2
    | none => rfl

/-- The states whose flags are set, from k on. -/
def idxL : List Bool → Nat → List Int
  | [], _ => []
  | b :: l, k => if b = true then (k : Int) :: idxL l (k + 1) else idxL l (k + 1)
theorem idxL_eq : ∀ (l : List Bool) (k : Nat), idxL l k = ((List.range l.length).filter fun i => l.getD i false).map fun (i : Nat) => ((k + i : Nat) : Int)
  | [], k => rfl
  | b :: l, k => by
    rw [idxL, idxL_eq l (k + 1), List.length_cons, List.range_succ_eq_map, List.filter_cons]
    have h : ∀ (m : List Nat), ((m.map Nat.succ).filter fun i => (b :: l).getD i false) = (m.filter fun i => l.getD i false).map Nat.succ := fun m => by
      rw [List.filter_map]; rfl
    rw [h]
    have h2 : ((b :: l).getD 0 false) = b := rfl
    rw [h2]
    have h3 : ∀ m : List Nat, ((m.map Nat.succ).map fun (i : Nat) => ((k + i : Nat) : Int)) = m.map fun (i : Nat) => ((k + 1 + i : Nat) : Int) := fun m => by
      rw [List.map_map]
      apply List.map_congr_left
      intro i _
      show ((k + (i + 1) : Nat) : Int) = _
      congr 1; omega
    cases b with
    | true => rw [if_pos rfl, if_pos rfl, List.map_cons, h3]; rfl
    | false => rw [if_neg (by simp), if_neg (by simp), h3]
theorem idxL_list (l : List Bool) : idxL l 0 = listL l := by
  rw [idxL_eq, listL, listK]
  apply List.map_congr_left
  intro i _
  rw [Nat.zero_add]
theorem cyc_eq {al evs : List Int} (hso : Sorted es) (hes : ∀ x ∈ es, 0 ≤ x.t ∧ x.t < (n : Int)) (he : EvEs es) (hal : ∀ x ∈ es, hasB al x.e = true) : ∀ (l : List Bool) (k : Nat), k + l.length ≤ n → cycI n es (fun x => hasB evs x.e) l k = cycR n es al evs (idxL l k)
  | [], k, _ => rfl
  | b :: l, k, hk => by
    rw [List.length_cons] at hk
    have ih := cyc_eq (evs := evs) hso hes he hal l (k + 1) (by omega)
    have hall : ∀ j : Int, 0 ≤ j → j < (n : Int) → hasB (allL n) j = true := by
      intro j h0 h1
      rw [hasB_true, allL]
      exact List.mem_map.2 ⟨j.toNat, List.mem_range.2 (by omega), by simp; omega⟩
    have hx : ∀ x ∈ es, hasB (allL n) x.t = true := fun x hx => hall x.t (hes x hx).1 (hes x hx).2
    cases b with
    | false => rw [cycI_skip, idxL, if_neg (by simp)]; exact ih
    | true =>
      rw [idxL, if_pos rfl]
      have h1 := rounds_eq (s := (k : Int)) (evs := evs) hso hes he (hall k (by omega) (by omega)) hx
      have h2 := prefix_eq (s := (k : Int)) (al := al) hso hes he hal (by omega) (hall 0 (by omega) (by omega)) hx
      cases hq : roundF n es (fun x => hasB evs x.e) k with
      | none => rw [cycI_none hq, cycR_none (by rw [← h1]; exact hq)]; exact ih
      | some c => rw [cycI_some hq, cycR_some (by rw [← h1]; exact hq), h2]
end
end Go.Proofs.Ythchkddhibhenaa
