/- Parts of the proof, without what nothing here names. -/
import Derived.Test.YtfbapajcheammaaDoorProg
import Derived.Test.YtfbapajcheammaaDoorQV5
namespace Go.Proofs.YtfbapajcheammaaDoor
open Go Go.RowKit
theorem clone_eq {xs : List Int} (h : xs.length ≤ 4294967296) : m_slices_Clone_int xs = some xs := by
  rw [m_slices_Clone_int, app_eq (by simpa using h)]; rfl
theorem spread_eq {a : List Int} {n : Nat} {m : List Int} {es : List (Int × Int × Int)} {tg : List Int} (hn : n ≤ 1000000) (hl : es.length ≤ 1000000) (ht : tg.length ≤ 1000000) (hin : ∀ x ∈ es, 0 ≤ x.1 ∧ x.1 < (n : Int) ∧ 0 ≤ x.2.2 ∧ x.2.2 < (n : Int)) (hr : ∀ s ∈ tg, 0 ≤ s ∧ s < (n : Int)) :
    m_blocking_spread (a, (n : Int), m, es) tg = some (backward n (es.map toEd) tg) := by
  have hm : mkL (n : Int) (0 : Int) = some (List.replicate n 0) := by unfold mkL; rw [if_pos ⟨by omega, by omega⟩, Int.toNat_natCast]
  have hi : m_blocking_into (a, (n : Int), m, es) = some ((List.range n).map (inL (es.map toEd))) := by
    unfold m_blocking_into
    rw [if_pos ⟨hl, by dsimp only; omega, by dsimp only; omega, List.all_eq_true.2 fun x hx => by have := hin x hx; simp; omega⟩]
    simp
  have hB := BOk.start n tg hn hr
  have hq := spread_queue (n := n) (es := es.map toEd) (ds0 := bStart n tg) (q0 := tg) (fun x hx => by
    obtain ⟨y, hy, rfl⟩ := List.mem_map.1 hx
    exact hin y hy) (by simpa using hl) hB (by have := negs_le (bStart n tg); rw [bStart_length] at this; omega)
  simp only [m_blocking_spread, hi, Option.bind_some, hm, spread_fill hn, clone_eq (show tg.length ≤ 4294967296 by omega), spread_starts ht hr, hq, backward]
end Go.Proofs.YtfbapajcheammaaDoor

namespace Go.Proofs.YtfbapajcheammaaDoor
open Go Go.RowKit
/-- What blocking.Ranks computes. -/
noncomputable def m_blocking_Ranks (p0 : List Int × Int × List Int × (List (Int × Int × Int))) : Option (List Int × Int) :=
  (m_automaton_Check p0).bind fun r8 =>
  if (r8 != 0) then
    some (([] : List Int), r8)
  else
    (m_blocking_spread p0 p0.2.2.1).bind fun r11 =>
    some (r11, 0)
set_option maxRecDepth 100000 in
set_option maxHeartbeats 8000000 in
theorem m_blocking_Ranks_c {s : Sig} {p0 : List Int × Int × List Int × (List (Int × Int × Int))} {a1 : Option Addr} {c1 : Nat} {a2 : Option Addr} {c2 : Nat} {a3 : Option Addr} {c3 : Nat} {u0 : Nat} {r : List Int × Int} (h1 : RdL (rK .i64) s a1 c1 p0.1) (h2 : RdL (rK .i64) s a2 c2 p0.2.2.1) (h3 : RdL (rP (rK .i64) (rP (rK .i64) (rK .i64))) s a3 c3 p0.2.2.2) (hm : m_blocking_Ranks p0 = some r) :
    Calls Tryd.prog 20 #[.agg #[.slice a1 p0.1.length c1, .int .i64 p0.2.1, .slice a2 p0.2.2.1.length c2, .slice a3 p0.2.2.2.length c3]] s.w (RetS No s fun v s' => ∃ (a4 : Option Addr) (c4 : Nat), v = .tuple #[.slice a4 r.1.length c4, .int .i64 r.2] ∧ RowT (rK .i64) s' u0 3 a4 c4 r.1) := by
 unfold m_blocking_Ranks at hm
 obtain ⟨N, hN, hNb⟩ := s.fresh
 have m0 : Mv (Up N No) s s := Mv.refl _ _
 refine E.entry Tryd.func20 rfl Tryd.ntmps20 rfl rfl (E.seq (E.reg (L.box (N + 0) Wt.no rfl rfl rfl fun b5 s6 m7 bx5 => ?_)))
 replace m0 := m0.trans m7.no
 replace h1 := h1.mono (m7.le no_No)
 replace h2 := h2.mono (m7.le no_No)
 replace h3 := h3.mono (m7.le no_No)
 refine L.as Wt.no rfl rfl (L.as Wt.no rfl rfl (L.nil (X.seqN (E.seq (E.seq (E.reg (L.lg (j := 0) (cs := [.slice a1 p0.1.length c1, .int .i64 p0.2.1, .slice a2 p0.2.2.1.length c2, .slice a3 p0.2.2.2.length c3]) bx5.mem ag34 Wt.no rfl rfl rfl rfl rfl ?_)))))))
 obtain ⟨r8, er8, hm⟩ := bindS hm
 refine L.ca cf39 rfl rfl Wt.no rfl (m_automaton_Check_c (s := s6) (p0 := p0) h1 h2 h3 er8) rfl ?_
 rintro _ s9 m10 rfl
 replace m0 := m0.trans m10.no
 replace bx5 := bx5.mv m10 no_No
 replace h1 := h1.mono (m10.le no_No)
 replace h2 := h2.mono (m10.le no_No)
 replace h3 := h3.mono (m10.le no_No)
 refine L.as Wt.no rfl rfl (L.nil (X.seqN (E.seq (E.reg (L.mv Wt.no rfl rfl (L.bi Wt.no rfl rfl rfl rfl (L.nil (X.seqN ?_))))))))
 rcases ifS hm with ⟨hc, hm⟩ | ⟨hc, hm⟩
 ·refine E.cT rfl hc (E.seq (E.reg (L.mv Wt.no rfl rfl (L.as Wt.no rfl rfl (L.as Wt.no rfl rfl (L.nil (X.seqN (E.ret (X.seqR ?_)))))))))
  obtain rfl := Option.some.inj hm
  exact X.rt (.inl rfl) Tryd.results20 (Rs.tmp rfl (Rs.tmp rfl Rs.nil)) rfl ⟨_, (s9).ren N (fun _ => 0), rfl, rfl, m0.ren hNb, ⟨none, 0, rfl, RowT.nil⟩⟩
 refine E.cF rfl hc (E.skip (X.seqN (E.seq (E.reg (L.lg (j := 0) (cs := [.slice a1 p0.1.length c1, .int .i64 p0.2.1, .slice a2 p0.2.2.1.length c2, .slice a3 p0.2.2.2.length c3]) bx5.mem ag34 Wt.no rfl rfl rfl rfl rfl (L.fa fa34_2 Wt.no rfl rfl (L.ld (j := 2) bx5.mem nag31 Wt.no rfl rfl rfl rfl ?_)))))))
 obtain ⟨r11, er11, hm⟩ := bindS hm
 refine L.ca cf35 rfl rfl Wt.no rfl (m_blocking_spread_c (s := s9) (p0 := p0) (p1 := p0.2.2.1) (u0 := (N + 1)) h1 h2 h3 h2 er11) rfl ?_
 rintro _ s12 m13 ⟨a14, c14, rfl, h14⟩
 replace m0 := m0.trans m13.no
 refine L.as Wt.no rfl rfl (L.as Wt.no rfl rfl (L.nil (X.seqN (E.ret ?_))))
 obtain rfl := Option.some.inj hm
 exact X.rt (.inl rfl) Tryd.results20 (Rs.tmp rfl (Rs.tmp rfl Rs.nil)) rfl ⟨_, (s12).ren N (fun k => cond (Nat.beq k 1) u0 (0)), rfl, rfl, m0.ren hNb, ⟨a14, c14, rfl, (h14.ren hN)⟩⟩

theorem cf20 : Cf Tryd.prog 20 := Cf.mk Tryd.func20 (by kernel_rfl) (by kernel_rfl)
noncomputable def m_blocking_Verify_l3 (p1 : List Int) (o43 : List Bool) (o82 : List Bool) (st106 : Int) : Option (Int ⊕ (Unit ⊕ Unit)) :=
  if decide (st106 < (p1.length : Int)) then
    (idx p1 st106).bind fun x114 =>
    (if decide (x114 < 0) then
      some true
    else
      (if (x114 == 0) then
        (idx o43 st106).bind fun x130 =>
        some (!x130)
      else
        some false).bind fun b127 =>
      some b127).bind fun b116 =>
    (if b116 then
      some true
    else
      (if decide (x114 > 0) then
        (idx o82 st106).bind fun x124 =>
        some (!x124)
      else
        some false).bind fun b121 =>
      some b121).bind fun b118 =>
    if b118 then
      some (.inr (.inr (())))
    else
      some (.inl (W (st106 + 1)))
  else
    some (.inr (.inl ()))
noncomputable def m_blocking_Verify_j1 (st82 : Int × List Bool) (l133 : List Bool) : Option ((Int × List Bool) ⊕ (List Bool)) :=
  some (.inl (W (st82.1 + 1), l133))
noncomputable def m_blocking_Verify_l2 (p1 : List Int) (r3 : (List Int × Int × List Int × (List (Int × Int × Int))) × List (List Int) × Int) (st82 : Int × List Bool) : Option ((Int × List Bool) ⊕ (List Bool)) :=
  if decide (st82.1 < (r3.1.2.2.2.length : Int)) then
    (idx r3.1.2.2.2 st82.1).bind fun x136 =>
    (idx p1 x136.2.2).bind fun x147 =>
    (idx p1 x136.1).bind fun x154 =>
    if decide (x147 < x154) then
      (idx st82.2 x136.1).bind fun x159 =>
      (upd st82.2 x136.1 true).bind fun x161 =>
      m_blocking_Verify_j1 st82 x161
    else
      m_blocking_Verify_j1 st82 st82.2
  else
    some (.inr st82.2)
noncomputable def m_blocking_Verify_l1 (r3 : (List Int × Int × List Int × (List (Int × Int × Int))) × List (List Int) × Int) (st43 : Int × List Bool) : Option ((Int × List Bool) ⊕ (List Bool)) :=
  if decide (st43.1 < (r3.1.2.2.1.length : Int)) then
    (idx r3.1.2.2.1 st43.1).bind fun x165 =>
    (idx st43.2 x165).bind fun x167 =>
    (upd st43.2 x165 true).bind fun x169 =>
    some (.inl (W (st43.1 + 1), x169))
  else
    some (.inr st43.2)
/-- What blocking.Verify computes. -/
noncomputable def m_blocking_Verify (p0 : List (List Int × Int × List Int × (List (Int × Int × Int)))) (p1 : List Int) : Option Int :=
  (m_product_Synchronous p0).bind fun r3 =>
  if (r3.2.2 != 0) then
    some r3.2.2
  else
    if ((p1.length : Int) != r3.1.2.1) then
      some 4
    else
      (mkL r3.1.2.1 false).bind fun x18 =>
      (mkL r3.1.2.1 false).bind fun x25 =>
      (iter (m_blocking_Verify_l1 r3) (0, x18)).bind fun o43 =>
      (iter (m_blocking_Verify_l2 p1 r3) (0, x25)).bind fun o82 =>
      (iter (m_blocking_Verify_l3 p1 o43 o82) 0).bind fun o106 =>
      match o106 with
      | .inl u108 =>
        some 0
      | .inr (u111) =>
        some 24
set_option maxRecDepth 100000 in
set_option maxHeartbeats 8000000 in
theorem m_blocking_Verify_c {s : Sig} {p0 : List (List Int × Int × List Int × (List (Int × Int × Int)))} {p1 : List Int} {a1 : Option Addr} {c1 : Nat} {a2 : Option Addr} {c2 : Nat} {r : Int} (h1 : RdL (rP (rL (rK .i64)) (rP (rK .i64) (rP (rL (rK .i64)) (rL (rP (rK .i64) (rP (rK .i64) (rK .i64))))))) s a1 c1 p0) (h2 : RdL (rK .i64) s a2 c2 p1) (hm : m_blocking_Verify p0 p1 = some r) :
    Calls Tryd.prog 23 #[.slice a1 p0.length c1, .slice a2 p1.length c2] s.w (RetS No s fun v s' => v = .int .i64 r) := by
 unfold m_blocking_Verify at hm
 obtain ⟨N, hN, hNb⟩ := s.fresh
 have m0 : Mv (Up N No) s s := Mv.refl _ _
 refine E.entry Tryd.func23 rfl Tryd.ntmps23 rfl rfl (E.seq (E.reg (L.as Wt.no rfl rfl (L.nil (X.seqN (E.seq (E.reg (L.mv Wt.no rfl rfl ?_))))))))
 obtain ⟨r3, er3, hm⟩ := bindS hm
 refine L.ca cf10 rfl rfl Wt.no rfl (m_product_Synchronous_c (s := s) (p0 := p0) (u1 := 0) (u2 := 0) (u3 := 0) h1 er3) rfl ?_
 rintro _ s4 m5 ⟨a6, c6, a7, c7, a8, c8, a9, c9, rfl, h6, h7, h8, h9⟩
 replace h7 := h7.p
 replace h8 := h8.p
 replace h9 := h9.p
 replace m0 := m0.trans m5.no
 replace h2 := h2.mono (m5.le no_No)
 refine L.mv Wt.no rfl rfl (L.ex Wt.no rfl rfl rfl (L.ex Wt.no rfl rfl rfl (L.ex Wt.no rfl rfl rfl (L.al (N + 0) zz34 rfl Wt.no rfl fun b10 s11 m12 bx10 => ?_))))
 replace m0 := m0.trans m12.no
 replace h2 := h2.mono (m12.le no_No)
 replace h6 := h6.mono (m12.le no_No)
 replace h7 := h7.mono (m12.le no_No)
 replace h8 := h8.mono (m12.le no_No)
 refine L.st (c := [.slice a6 r3.1.1.length c6, .int .i64 r3.1.2.1, .slice a7 r3.1.2.2.1.length c7, .slice a8 r3.1.2.2.2.length c8]) (cs' := #[.slice a6 r3.1.1.length c6, .int .i64 r3.1.2.1, .slice a7 r3.1.2.2.1.length c7, .slice a8 r3.1.2.2.2.length c8]) bx10 ag34.sz Wt.no rfl rfl rfl rfl rfl (Nat.le_of_ble_eq_true rfl) rfl fun s13 m14 bx10 => ?_
 replace m0 := m0.trans (m14.one up)
 replace h2 := h2.mono (m14.le (tg0 hN))
 replace h6 := h6.mono (m14.le (tg0 hN))
 replace h7 := h7.mono (m14.le (tg0 hN))
 replace h8 := h8.mono (m14.le (tg0 hN))
 refine L.as Wt.no rfl rfl (L.as Wt.no rfl rfl (L.nil (X.seqN (E.seq (E.seq (E.reg (L.mv Wt.no rfl rfl (L.bi Wt.no rfl rfl rfl rfl (L.nil (X.seqN ?_))))))))))
 rcases ifS hm with ⟨hc, hm⟩ | ⟨hc, hm⟩
 ·refine E.cT rfl hc (E.seq (E.reg (L.mv Wt.no rfl rfl (L.as Wt.no rfl rfl (L.nil (X.seqN (E.ret (X.seqR ?_))))))))
  obtain rfl := Option.some.inj hm
  exact X.rt (.inl rfl) Tryd.results23 (Rs.tmp rfl Rs.nil) rfl ⟨_, (s13).ren N (fun _ => 0), rfl, rfl, m0.ren hNb, rfl⟩
 refine E.cF rfl hc (E.skip (X.seqN (E.seq (E.seq (E.reg (L.mv Wt.no rfl rfl (L.len sl31 Wt.no rfl rfl (L.fa fa34_1 Wt.no rfl rfl (L.ld (j := 1) bx10.mem nag3 Wt.no rfl rfl rfl rfl (L.bi Wt.no rfl rfl rfl rfl (L.nil (X.seqN ?_))))))))))))
 rcases ifS hm with ⟨hc, hm⟩ | ⟨hc, hm⟩
 ·refine E.cT rfl hc (E.seq (E.reg (L.as Wt.no rfl rfl (L.nil (X.seqN (E.ret (X.seqR ?_)))))))
  obtain rfl := Option.some.inj hm
  exact X.rt (.inl rfl) Tryd.results23 (Rs.tmp rfl Rs.nil) rfl ⟨_, (s13).ren N (fun _ => 0), rfl, rfl, m0.ren hNb, rfl⟩
 refine E.cF rfl hc (E.skip (X.seqN (E.seq ?_)))
 obtain ⟨x18, ex18, hm⟩ := bindS hm
 obtain ⟨x25, ex25, hm⟩ := bindS hm
 refine E.draw [[], [0], [0, 1], [], [3], [3, 4], [0, 1, 2], [0, 1, 2, 3, 4, 5, 6]] (fun D e sx => Mv No s13 sx ∧ Sub [(5, .pointer (some ⟨b10, 0, none⟩)), (1, .slice a2 p1.length c2)] e ∧ AllP [G D e 0 30 (.pointer (some ⟨b10, 1, none⟩)), G D e 1 31 (.int .i64 r3.1.2.1), D 2 = true → (∃ (b19 : Nat), Env.get e 32 = some (.slice (some ⟨b19, 0, none⟩) x18.length x18.length) ∧ RowT rB sx (N + 1) 4 (some ⟨b19, 0, none⟩) x18.length x18), G D e 3 33 (.pointer (some ⟨b10, 1, none⟩)), G D e 4 34 (.int .i64 r3.1.2.1), D 5 = true → (∃ (b26 : Nat), Env.get e 35 = some (.slice (some ⟨b26, 0, none⟩) x25.length x25.length) ∧ RowT rB sx (N + 2) 4 (some ⟨b26, 0, none⟩) x25.length x25), D 6 = true → ∀ (b19 : Nat), Env.get e 32 = some (.slice (some ⟨b19, 0, none⟩) x18.length x18.length) → (Env.get e 8 = some (.slice (some ⟨b19, 0, none⟩) x18.length x18.length)), D 7 = true → ∀ (b26 : Nat), Env.get e 35 = some (.slice (some ⟨b26, 0, none⟩) x25.length x25.length) → (Env.get e 9 = some (.slice (some ⟨b26, 0, none⟩) x25.length x25.length))]) (by kernel_rfl) (by kernel_rfl) (by kernel_rfl) ?_ ?_ ?_
 ·intro sz mz
  exact ⟨mz, (Sub.rf rfl), nofun, nofun, nofun, nofun, nofun, nofun, nofun, nofun, trivial⟩
 ·refine ⟨?_, ?_, ?_, ?_, ?_, ?_, ?_, ?_, trivial⟩
  ·rintro D e s15 ⟨im, ib, i⟩ hk hf ha
   have kn := K1 (ib 5 _ rfl)
   exact L.kns _ kn (L.fa fa34_1 Wt.no rfl rfl (L.nil (X.dk kn ⟨im, Sub.fresh ib rfl, i.u 0 (fun _ => rfl)⟩)))
  ·rintro D e s16 ⟨im, ib, i⟩ hk hf ha
   have bx10 := bx10.mv im no_No
   have kn := K1 ((i.p 0) (ha.at 0 rfl))
   exact L.kns _ kn (L.ld (j := 1) bx10.mem nag3 Wt.no rfl rfl rfl rfl (L.nil (X.dk kn ⟨im, Sub.fresh ib rfl, i.u 1 (fun _ => rfl)⟩)))
  ·rintro D e s17 ⟨im, ib, i⟩ hk hf ha
   have kn := K1 ((i.p 1) (ha.at 1 rfl))
   exact L.kns _ kn (L.mk (z := false) (N + 1) Tryd.underlying77 zr4 rfl Wt.no rfl rfl ex18 rfl fun b19 s20 m21 h19 => L.nil (X.dk kn ⟨im.trans m21.no, Sub.fresh ib rfl, ((i.u 2 (fun _ => ⟨b19, rfl, h19⟩)).u 5 (fun z => let ⟨b26, q, h26⟩ := (i.p 5) z; ⟨b26, q, (h26.mv m21 no_No no_No)⟩)).u 6 (fun z => Bool.noConfusion ((hf 6 (Nat.le_of_ble_eq_true rfl) rfl).symm.trans z))⟩))
  ·rintro D e s22 ⟨im, ib, i⟩ hk hf ha
   have kn := K1 (ib 5 _ rfl)
   exact L.kns _ kn (L.fa fa34_1 Wt.no rfl rfl (L.nil (X.dk kn ⟨im, Sub.fresh ib rfl, i.u 3 (fun _ => rfl)⟩)))
  ·rintro D e s23 ⟨im, ib, i⟩ hk hf ha
   have bx10 := bx10.mv im no_No
   have kn := K1 ((i.p 3) (ha.at 3 rfl))
   exact L.kns _ kn (L.ld (j := 1) bx10.mem nag3 Wt.no rfl rfl rfl rfl (L.nil (X.dk kn ⟨im, Sub.fresh ib rfl, i.u 4 (fun _ => rfl)⟩)))
  ·rintro D e s24 ⟨im, ib, i⟩ hk hf ha
   have kn := K1 ((i.p 4) (ha.at 4 rfl))
   exact L.kns _ kn (L.mk (z := false) (N + 2) Tryd.underlying77 zr4 rfl Wt.no rfl rfl ex25 rfl fun b26 s27 m28 h26 => L.nil (X.dk kn ⟨im.trans m28.no, Sub.fresh ib rfl, ((i.u 2 (fun z => let ⟨b19, q, h19⟩ := (i.p 2) z; ⟨b19, q, (h19.mv m28 no_No no_No)⟩)).u 5 (fun _ => ⟨b26, rfl, h26⟩)).u 7 (fun z => Bool.noConfusion ((hf 7 (Nat.le_of_ble_eq_true rfl) rfl).symm.trans z))⟩))
  ·rintro D e s29 ⟨im, ib, i⟩ hk hf ha
   obtain ⟨b19, g2_, h19⟩ := (i.p 2) (ha.at 2 rfl)
   have kn := K1 g2_
   exact L.kns _ kn (L.as Wt.no rfl rfl (L.nil (X.dk kn ⟨im, Sub.fresh ib rfl, i.u 6 (fun _ _ q2 => by cases g2_.symm.trans q2; exact rfl)⟩)))
  rintro D e s30 ⟨im, ib, i⟩ hk hf ha
  obtain ⟨b26, g5_, h26⟩ := (i.p 5) (ha.at 5 rfl)
  have kn := K1 g5_
  exact L.kns _ kn (L.as Wt.no rfl rfl (L.nil (X.dk kn ⟨im, Sub.fresh ib rfl, i.u 7 (fun _ _ q5 => by cases g5_.symm.trans q5; exact rfl)⟩)))
 rintro D e s31 hD ⟨im, ib, i⟩
 obtain ⟨b19, g2_, h19⟩ := (i.p 2) (hD 2 rfl)
 obtain ⟨b26, g5_, h26⟩ := (i.p 5) (hD 5 rfl)
 have g6_ := (i.p 6) (hD 6 rfl) b19 g2_
 have g7_ := (i.p 7) (hD 7 rfl) b26 g5_
 have bx10 := bx10.mv im no_No
 have h6 := h6.mono (im.le no_No)
 have h7 := h7.mono (im.le no_No)
 have h8 := h8.mono (im.le no_No)
 have h2 := h2.mono (im.le no_No)
 have m0 := m0.trans im.no
 refine X.sub (e' := [(9, .slice (some ⟨b26, 0, none⟩) x25.length x25.length), (8, .slice (some ⟨b19, 0, none⟩) x18.length x18.length), (5, .pointer (some ⟨b10, 0, none⟩)), (1, .slice a2 p1.length c2)]) ?_ (Sub.cons g7_ (Sub.cons g6_ (Sub.cons (ib 5 _ rfl) (Sub.cons (ib 1 _ rfl) Sub.nil))))
 refine X.seqN (E.seq (E.seq (E.reg (L.fa fa34_2 Wt.no rfl rfl (L.ld (j := 2) bx10.mem nag31 Wt.no rfl rfl rfl rfl (L.len sl31 Wt.no rfl rfl (L.mv Wt.no rfl rfl (L.nil (X.seqN (E.block ?_))))))))))
 obtain ⟨o43, eo43, hm⟩ := bindS hm
 refine E.cut (x := .exit 0) (fun e w => ∃ (s46 : Sig), Mv (Up N No) s s46 ∧ RowT rB s46 (N + 2) 4 (some ⟨b26, 0, none⟩) x25.length x25 ∧ RowT rB s46 (N + 1) 4 (some ⟨b19, 0, none⟩) x18.length o43 ∧ RdL (rK .i64) s46 a2 c2 p1 ∧ RdL (rK .i64) s46 a6 c6 r3.1.1 ∧ RdL (rK .i64) s46 a7 c7 r3.1.2.2.1 ∧ RdL (rP (rK .i64) (rP (rK .i64) (rK .i64))) s46 a8 c8 r3.1.2.2.2 ∧ Bx s46 (N + 0) b10 #[.slice a6 r3.1.1.length c6, .int .i64 r3.1.2.1, .slice a7 r3.1.2.2.1.length c7, .slice a8 r3.1.2.2.2.length c8] 34 ∧ e = [(9, .slice (some ⟨b26, 0, none⟩) x25.length x25.length), (8, .slice (some ⟨b19, 0, none⟩) o43.length x18.length), (5, .pointer (some ⟨b10, 0, none⟩)), (1, .slice a2 p1.length c2)] ∧ w = s46.w) ?_ ?_
 ·rintro _ _ ⟨s46, m0, h26, h19, h2, h6, h7, h8, bx10, rfl, rfl⟩
  refine X.blkE (X.seqN (E.seq (E.seq (E.reg (L.fa fa34_3 Wt.no rfl rfl (L.ld (j := 3) bx10.mem nag32 Wt.no rfl rfl rfl rfl (L.len sl32 Wt.no rfl rfl (L.mv Wt.no rfl rfl (L.nil (X.seqN (E.block ?_)))))))))))
  obtain ⟨o82, eo82, hm⟩ := bindS hm
  refine E.cut (x := .exit 2) (fun e w => ∃ (s85 : Sig), Mv (Up N No) s s85 ∧ RowT rB s85 (N + 2) 4 (some ⟨b26, 0, none⟩) x25.length o82 ∧ RowT rB s85 (N + 1) 4 (some ⟨b19, 0, none⟩) x18.length o43 ∧ RdL (rK .i64) s85 a2 c2 p1 ∧ e = [(9, .slice (some ⟨b26, 0, none⟩) o82.length x25.length), (8, .slice (some ⟨b19, 0, none⟩) o43.length x18.length), (1, .slice a2 p1.length c2)] ∧ w = s85.w) ?_ ?_
  ·rintro _ _ ⟨s85, m0, h26, h19, h2, rfl, rfl⟩
   refine X.blkE (X.seqN (E.seq (E.seq (E.reg (L.mv Wt.no rfl rfl (L.len sl31 Wt.no rfl rfl (L.mv Wt.no rfl rfl (L.nil (X.seqN (E.block ?_))))))))))
   obtain ⟨o106, eo106, hm⟩ := bindS hm
   refine E.cut (x := .exit 4) (fun e w => ∃ (s109 : Sig) (u108 : Unit), o106 = .inl u108 ∧ Mv (Up N No) s s109 ∧ e = [] ∧ w = s109.w) ?_ ?_
   ·rintro _ _ ⟨s109, u108, rfl, m0, rfl, rfl⟩
    dsimp only at hm
    refine X.blkE (X.seqN (E.seq (E.reg (L.as Wt.no rfl rfl (L.nil (X.seqN (E.ret ?_)))))))
    obtain rfl := Option.some.inj hm
    exact X.rt (.inl rfl) Tryd.results23 (Rs.tmp rfl Rs.nil) rfl ⟨_, (s109).ren N (fun _ => 0), rfl, rfl, m0.ren hNb, rfl⟩
   intro K110
   refine E.cut (x := .ret) (fun e w => ∃ (s112 : Sig) (u111 : Unit), o106 = .inr (u111) ∧ Mv (Up N No) s s112 ∧ e = [(4, .int .i64 24)] ∧ w = s112.w) ?_ ?_
   ·rintro _ _ ⟨s112, u111, rfl, m0, rfl, rfl⟩
    dsimp only at hm
    refine X.blkR (X.seqR ?_)
    obtain rfl := Option.some.inj hm
    exact X.rt (.inl rfl) Tryd.results23 (Rs.tmp rfl Rs.nil) rfl ⟨_, (s112).ren N (fun _ => 0), rfl, rfl, m0.ren hNb, rfl⟩
   intro K113
   refine E.iter (fun (st106 : Int) (e : List (Nat × Value)) (w : World) => ∃ (s107 : Sig), Mv (Up N No) s s107 ∧ RdL (rK .i64) s107 a2 c2 p1 ∧ RowT rB s107 (N + 2) 4 (some ⟨b26, 0, none⟩) x25.length o82 ∧ RowT rB s107 (N + 1) 4 (some ⟨b19, 0, none⟩) x18.length o43 ∧ e = [(72, .int .i64 st106), (71, .int .i64 (p1.length : Int)), (70, .slice a2 p1.length c2), (9, .slice (some ⟨b26, 0, none⟩) o82.length x25.length), (8, .slice (some ⟨b19, 0, none⟩) o43.length x18.length)] ∧ w = s107.w) eo106 ⟨s85, m0, h2, h26, h19, rfl, rfl⟩ (Sub.rf rfl) ?_
   rintro st106 res106 hm ih106 ho106 _ _ ⟨s107, m0, h2, h26, h19, rfl, rfl⟩
   unfold m_blocking_Verify_l3 at hm
   refine E.seq (E.reg (L.bi Wt.no rfl rfl rfl rfl (L.nil (X.seqN (E.seq ?_)))))
   rcases ifS hm with ⟨hc, hm⟩ | ⟨hc, hm⟩
   ·refine E.cT rfl hc (E.skip (X.seqN (E.seq (E.block (E.seq (E.reg (L.mv Wt.no rfl rfl ?_)))))))
    obtain ⟨x114, ex114, hm⟩ := bindS hm
    refine L.ix (r := (rK .i64)) sl31 h2 Wt.no rfl rfl ex114 rfl fun b115 o115 cc115 me115 rd115 => ?_
    obtain rfl := rd115
    refine L.ld (j := 0) me115 nag3 Wt.no rfl rfl rfl rfl (L.as Wt.no rfl rfl (L.as Wt.no rfl rfl (L.nil (X.seqN (E.seq (E.reg (L.mv Wt.no rfl rfl (L.bi Wt.no rfl rfl rfl rfl (L.mv Wt.no rfl rfl ?_)))))))))
    obtain ⟨b116, eb116, hm⟩ := bindS hm
    refine L.cut 10 (fun e w => ∃ (v117 : Bool), b116 = v117 ∧ e = (89, .bool v117) :: [(15, .int .i64 x114), (14, .int .i64 st106), (72, .int .i64 st106), (71, .int .i64 (p1.length : Int)), (70, .slice a2 p1.length c2), (9, .slice (some ⟨b26, 0, none⟩) o82.length x25.length), (8, .slice (some ⟨b19, 0, none⟩) o43.length x18.length)] ∧ w = s107.w) ?_ ?_
    ·rintro _ _ ⟨v117, rfl, rfl, rfl⟩
     refine L.mv Wt.no rfl rfl ?_
     obtain ⟨b118, eb118, hm⟩ := bindS hm
     refine L.cut 10 (fun e w => ∃ (v119 : Bool), b118 = v119 ∧ e = (100, .bool v119) :: [(72, .int .i64 st106), (71, .int .i64 (p1.length : Int)), (70, .slice a2 p1.length c2), (9, .slice (some ⟨b26, 0, none⟩) o82.length x25.length), (8, .slice (some ⟨b19, 0, none⟩) o43.length x18.length)] ∧ w = s107.w) ?_ ?_
     ·rintro _ _ ⟨v119, rfl, rfl, rfl⟩
      refine L.nil (X.seqN ?_)
      rcases ifS hm with ⟨hc, hm⟩ | ⟨hc, hm⟩
      ·refine E.cT rfl hc (E.seq (E.reg (L.as Wt.no rfl rfl (L.nil (X.seqN (E.ret (X.blkR (X.seqR (X.seqR ?_)))))))))
       have hx := ho106 _ (Option.some.inj hm).symm
       exact X.sub (K113 _ _ ⟨s107, (), hx.symm, m0, rfl, rfl⟩) (Sub.rf rfl)
      exact E.cF rfl hc (E.skip (X.blkN (X.seqN (E.reg (L.bi Wt.no rfl rfl rfl rfl (L.mv Wt.no rfl rfl (L.nil (X.sub (ih106 _ (Option.some.inj hm).symm _ _ ⟨s107, m0, h2, h26, h19, rfl, rfl⟩) (Sub.rf rfl)))))))))
     intro J120
     rcases ifS eb118 with ⟨hc, hm⟩ | ⟨hc, hm⟩
     ·exact L.know (d := 90) rfl hc (L.skip rfl rfl rfl rfl (L.skip rfl rfl rfl rfl (L.skip rfl rfl rfl rfl (L.skipU rfl rfl rfl (L.skipU rfl rfl rfl (L.skipU rfl rfl rfl (L.skipU rfl rfl rfl (L.skipU rfl rfl rfl (L.skip rfl rfl rfl rfl (L.pkT Wt.no rfl rfl rfl rfl (L.sb (J120 _ _ ⟨true, (Option.some.inj hm).symm, rfl, rfl⟩) rfl)))))))))))
     refine L.know (d := 90) rfl hc (L.mv (Wt.mk rfl rfl) rfl rfl (L.bi (Wt.mk rfl rfl) rfl rfl rfl rfl (L.mv (Wt.mk rfl rfl) rfl rfl ?_)))
     obtain ⟨b121, eb121, hm⟩ := bindS hm
     refine L.cut 6 (fun e w => ∃ (v122 : Bool), b121 = v122 ∧ e = (99, .bool v122) :: [(90, .bool false), (72, .int .i64 st106), (71, .int .i64 (p1.length : Int)), (70, .slice a2 p1.length c2), (9, .slice (some ⟨b26, 0, none⟩) o82.length x25.length), (8, .slice (some ⟨b19, 0, none⟩) o43.length x18.length)] ∧ w = s107.w) ?_ ?_
     ·rintro _ _ ⟨v122, rfl, rfl, rfl⟩
      exact L.pkF Wt.no rfl rfl rfl rfl (L.sb (J120 _ _ ⟨b121, (Option.some.inj hm).symm, rfl, rfl⟩) rfl)
     intro J123
     rcases ifS eb121 with ⟨hc, hm⟩ | ⟨hc, hm⟩
     ·refine L.know (d := 93) rfl hc (L.mv (Wt.mk rfl rfl) rfl rfl (L.mv (Wt.mk rfl rfl) rfl rfl ?_))
      obtain ⟨x124, ex124, hm⟩ := bindS hm
      refine L.ir (r := rB) sl77 h26 (Wt.mk rfl rfl) rfl rfl ex124 rfl fun b125 o125 cc125 me125 rd125 sp125 => ?_
      obtain rfl := rd125
      exact L.ld (j := 0) me125 nag4 (Wt.mk rfl rfl) rfl rfl rfl rfl (L.not (Wt.mk rfl rfl) rfl rfl (L.pkT (Wt.mk rfl rfl) rfl rfl rfl rfl (L.sb (J123 _ _ ⟨(!x124), (Option.some.inj hm).symm, rfl, rfl⟩) rfl)))
     exact L.know (d := 93) rfl hc (L.skip rfl rfl rfl rfl (L.skip rfl rfl rfl rfl (L.skip rfl rfl rfl rfl (L.skip rfl rfl rfl rfl (L.skip rfl rfl rfl rfl (L.pkF (Wt.mk rfl rfl) rfl rfl rfl rfl (L.sb (J123 _ _ ⟨false, (Option.some.inj hm).symm, rfl, rfl⟩) rfl)))))))
    intro J126
    rcases ifS eb116 with ⟨hc, hm⟩ | ⟨hc, hm⟩
    ·exact L.know (d := 79) rfl hc (L.skip rfl rfl rfl rfl (L.skip rfl rfl rfl rfl (L.skip rfl rfl rfl rfl (L.skipU rfl rfl rfl (L.skipU rfl rfl rfl (L.skipU rfl rfl rfl (L.skipU rfl rfl rfl (L.skipU rfl rfl rfl (L.skip rfl rfl rfl rfl (L.pkT Wt.no rfl rfl rfl rfl (L.sb (J126 _ _ ⟨true, (Option.some.inj hm).symm, rfl, rfl⟩) rfl)))))))))))
    refine L.know (d := 79) rfl hc (L.mv (Wt.mk rfl rfl) rfl rfl (L.bi (Wt.mk rfl rfl) rfl rfl rfl rfl (L.mv (Wt.mk rfl rfl) rfl rfl ?_)))
    obtain ⟨b127, eb127, hm⟩ := bindS hm
    refine L.cut 6 (fun e w => ∃ (v128 : Bool), b127 = v128 ∧ e = (88, .bool v128) :: [(79, .bool false), (15, .int .i64 x114), (14, .int .i64 st106), (72, .int .i64 st106), (71, .int .i64 (p1.length : Int)), (70, .slice a2 p1.length c2), (9, .slice (some ⟨b26, 0, none⟩) o82.length x25.length), (8, .slice (some ⟨b19, 0, none⟩) o43.length x18.length)] ∧ w = s107.w) ?_ ?_
    ·rintro _ _ ⟨v128, rfl, rfl, rfl⟩
     exact L.pkF Wt.no rfl rfl rfl rfl (L.sb (J126 _ _ ⟨b127, (Option.some.inj hm).symm, rfl, rfl⟩) rfl)
    intro J129
    rcases ifS eb127 with ⟨hc, hm⟩ | ⟨hc, hm⟩
    ·refine L.know (d := 82) rfl hc (L.mv (Wt.mk rfl rfl) rfl rfl (L.mv (Wt.mk rfl rfl) rfl rfl ?_))
     obtain ⟨x130, ex130, hm⟩ := bindS hm
     refine L.ir (r := rB) sl77 h19 (Wt.mk rfl rfl) rfl rfl ex130 rfl fun b131 o131 cc131 me131 rd131 sp131 => ?_
     obtain rfl := rd131
     exact L.ld (j := 0) me131 nag4 (Wt.mk rfl rfl) rfl rfl rfl rfl (L.not (Wt.mk rfl rfl) rfl rfl (L.pkT (Wt.mk rfl rfl) rfl rfl rfl rfl (L.sb (J129 _ _ ⟨(!x130), (Option.some.inj hm).symm, rfl, rfl⟩) rfl)))
    exact L.know (d := 82) rfl hc (L.skip rfl rfl rfl rfl (L.skip rfl rfl rfl rfl (L.skip rfl rfl rfl rfl (L.skip rfl rfl rfl rfl (L.skip rfl rfl rfl rfl (L.pkF (Wt.mk rfl rfl) rfl rfl rfl rfl (L.sb (J129 _ _ ⟨false, (Option.some.inj hm).symm, rfl, rfl⟩) rfl)))))))
   refine E.cF rfl hc (E.exit (X.seqX (X.seqX ?_)))
   have hx := ho106 _ (Option.some.inj hm).symm
   exact X.sub (K110 _ _ ⟨s107, (), hx.symm, m0, rfl, rfl⟩) Sub.nil
  intro K132
  refine E.iter (fun (st82 : Int × List Bool) (e : List (Nat × Value)) (w : World) => ∃ (s84 : Sig), Mv (Up N No) s s84 ∧ RdL (rP (rK .i64) (rP (rK .i64) (rK .i64))) s84 a8 c8 r3.1.2.2.2 ∧ RowT rB s84 (N + 2) 4 (some ⟨b26, 0, none⟩) x25.length st82.2 ∧ RowT rB s84 (N + 1) 4 (some ⟨b19, 0, none⟩) x18.length o43 ∧ RdL (rK .i64) s84 a2 c2 p1 ∧ e = [(50, .int .i64 st82.1), (49, .int .i64 (r3.1.2.2.2.length : Int)), (48, .slice a8 r3.1.2.2.2.length c8), (9, .slice (some ⟨b26, 0, none⟩) st82.2.length x25.length), (8, .slice (some ⟨b19, 0, none⟩) o43.length x18.length), (1, .slice a2 p1.length c2)] ∧ w = s84.w) eo82 ⟨s46, m0, h8, h26, h19, h2, rfl, rfl⟩ (Sub.rf rfl) ?_
  rintro st82 res82 hm ih82 ho82 _ _ ⟨s84, m0, h8, h26, h19, h2, rfl, rfl⟩
  unfold m_blocking_Verify_l2 at hm
  refine E.seq (E.reg (L.bi Wt.no rfl rfl rfl rfl (L.nil (X.seqN (E.seq ?_)))))
  rcases ifS hm with ⟨hc, hm⟩ | ⟨hc, hm⟩
  ·refine E.cT rfl hc (E.skip (X.seqN (E.seqJ (fun e w => ∃ (s134 : Sig) (l133 : List Bool), m_blocking_Verify_j1 st82 l133 = some res82 ∧ Mv (Up N No) s s134 ∧ RowT rB s134 (N + 2) 4 (some ⟨b26, 0, none⟩) x25.length l133 ∧ RdL (rP (rK .i64) (rP (rK .i64) (rK .i64))) s134 a8 c8 r3.1.2.2.2 ∧ RowT rB s134 (N + 1) 4 (some ⟨b19, 0, none⟩) x18.length o43 ∧ RdL (rK .i64) s134 a2 c2 p1 ∧ e = [(9, .slice (some ⟨b26, 0, none⟩) l133.length x25.length), (50, .int .i64 st82.1), (49, .int .i64 (r3.1.2.2.2.length : Int)), (48, .slice a8 r3.1.2.2.2.length c8), (8, .slice (some ⟨b19, 0, none⟩) o43.length x18.length), (1, .slice a2 p1.length c2)] ∧ w = s134.w) ?_ ?_)))
   ·rintro _ _ ⟨s134, l133, hm, m0, h26, h8, h19, h2, rfl, rfl⟩
    unfold m_blocking_Verify_j1 at hm
    exact E.reg (L.bi Wt.no rfl rfl rfl rfl (L.mv Wt.no rfl rfl (L.nil (X.sub (ih82 _ (Option.some.inj hm).symm _ _ ⟨s134, m0, h8, h26, h19, h2, rfl, rfl⟩) (Sub.rf rfl)))))
   intro Jj135
   refine E.block (E.seq (E.reg ?_))
   obtain ⟨x136, ex136, hm⟩ := bindS hm
   refine L.ix (r := (rP (rK .i64) (rP (rK .i64) (rK .i64)))) sl32 h8 Wt.no rfl rfl ex136 rfl fun b137 o137 cc137 me137 rd137 => ?_
   obtain ⟨_, _, rfl, rfl, ⟨_, _, rfl, rfl, rfl⟩⟩ := rd137
   refine L.lg (j := 0) (cs := [.int .i64 x136.1, .int .i64 x136.2.1, .int .i64 x136.2.2]) me137 ag58 Wt.no rfl rfl rfl rfl rfl (L.al (N + 3) zz58 rfl Wt.no rfl fun b138 s139 m140 bx138 => ?_)
   replace m0 := m0.trans m140.no
   replace h2 := h2.mono (m140.le no_No)
   replace h19 := h19.mv m140 no_No no_No
   replace h26 := h26.mv m140 no_No no_No
   replace h8 := h8.mono (m140.le no_No)
   refine L.st (c := [.int .i64 x136.1, .int .i64 x136.2.1, .int .i64 x136.2.2]) (cs' := #[.int .i64 x136.1, .int .i64 x136.2.1, .int .i64 x136.2.2]) bx138 ag58.sz Wt.no rfl rfl rfl rfl rfl (Nat.le_of_ble_eq_true rfl) rfl fun s141 m142 bx138 => ?_
   replace m0 := m0.trans (m142.one up)
   replace h8 := h8.mono (m142.le (tg0 hN))
   replace h2 := h2.mono (m142.le (tg0 hN))
   replace h19 := h19.mv m142 (tgN (by decide)) (tg0 hN)
   replace h26 := h26.mv m142 (tgN (by decide)) (tg0 hN)
   refine L.nil (X.seqN (E.seq ?_))
   obtain ⟨x147, ex147, hm⟩ := bindS hm
   obtain ⟨x154, ex154, hm⟩ := bindS hm
   refine E.draw [[], [], [1], [0, 1, 2], [0, 1, 2, 3], [], [], [6], [5, 6, 7], [5, 6, 7, 8], [0, 1, 2, 3, 4, 5, 6, 7, 8, 9]] (fun D e sx => Mv No s141 sx ∧ Sub [(13, .pointer (some ⟨b138, 0, none⟩)), (50, .int .i64 st82.1), (49, .int .i64 (r3.1.2.2.2.length : Int)), (48, .slice a8 r3.1.2.2.2.length c8), (9, .slice (some ⟨b26, 0, none⟩) st82.2.length x25.length), (8, .slice (some ⟨b19, 0, none⟩) o43.length x18.length), (1, .slice a2 p1.length c2)] e ∧ AllP [G D e 0 54 (.slice a2 p1.length c2), G D e 1 55 (.pointer (some ⟨b138, 2, none⟩)), G D e 2 56 (.int .i64 x136.2.2), D 3 = true → (∃ (b148 : Nat) (o148 : Nat), Env.get e 57 = some (.pointer (some ⟨b148, o148, none⟩)) ∧ Mem sx 0 b148 o148 [.int .i64 x147]), G D e 4 58 (.int .i64 x147), G D e 5 59 (.slice a2 p1.length c2), G D e 6 60 (.pointer (some ⟨b138, 0, none⟩)), G D e 7 61 (.int .i64 x136.1), D 8 = true → (∃ (b155 : Nat) (o155 : Nat), Env.get e 62 = some (.pointer (some ⟨b155, o155, none⟩)) ∧ Mem sx 0 b155 o155 [.int .i64 x154]), G D e 9 63 (.int .i64 x154), G D e 10 64 (.bool (decide (x147 < x154)))]) (by kernel_rfl) (by kernel_rfl) (by kernel_rfl) ?_ ?_ ?_
   ·intro sz mz
    exact ⟨mz, (Sub.rf rfl), nofun, nofun, nofun, nofun, nofun, nofun, nofun, nofun, nofun, nofun, nofun, trivial⟩
   ·refine ⟨?_, ?_, ?_, ?_, ?_, ?_, ?_, ?_, ?_, ?_, ?_, trivial⟩
    ·rintro D e s143 ⟨im, ib, i⟩ hk hf ha
     have kn := K1 (ib 1 _ rfl)
     exact L.kns _ kn (L.mv Wt.no rfl rfl (L.nil (X.dk kn ⟨im, Sub.fresh ib rfl, i.u 0 (fun _ => rfl)⟩)))
    ·rintro D e s144 ⟨im, ib, i⟩ hk hf ha
     have kn := K1 (ib 13 _ rfl)
     exact L.kns _ kn (L.fa fa58_2 Wt.no rfl rfl (L.nil (X.dk kn ⟨im, Sub.fresh ib rfl, i.u 1 (fun _ => rfl)⟩)))
    ·rintro D e s145 ⟨im, ib, i⟩ hk hf ha
     have bx138 := bx138.mv im no_No
     have kn := K1 ((i.p 1) (ha.at 1 rfl))
     exact L.kns _ kn (L.ld (j := 2) bx138.mem nag3 Wt.no rfl rfl rfl rfl (L.nil (X.dk kn ⟨im, Sub.fresh ib rfl, i.u 2 (fun _ => rfl)⟩)))
    ·rintro D e s146 ⟨im, ib, i⟩ hk hf ha
     have h2 := h2.mono (im.le no_No)
     have kn := K2 ((i.p 0) (ha.at 0 rfl)) ((i.p 2) (ha.at 2 rfl))
     refine L.kns _ kn (L.ix (r := (rK .i64)) sl31 h2 Wt.no rfl rfl ex147 rfl fun b148 o148 cc148 me148 rd148 => ?_)
     obtain rfl := rd148
     exact L.nil (X.dk kn ⟨im, Sub.fresh ib rfl, i.u 3 (fun _ => ⟨b148, o148, rfl, me148⟩)⟩)
    ·rintro D e s149 ⟨im, ib, i⟩ hk hf ha
     obtain ⟨b148, o148, g3_, me148⟩ := (i.p 3) (ha.at 3 rfl)
     have kn := K1 g3_
     exact L.kns _ kn (L.ld (j := 0) me148 nag3 Wt.no rfl rfl rfl rfl (L.nil (X.dk kn ⟨im, Sub.fresh ib rfl, i.u 4 (fun _ => rfl)⟩)))
    ·rintro D e s150 ⟨im, ib, i⟩ hk hf ha
     have kn := K1 (ib 1 _ rfl)
     exact L.kns _ kn (L.mv Wt.no rfl rfl (L.nil (X.dk kn ⟨im, Sub.fresh ib rfl, i.u 5 (fun _ => rfl)⟩)))
    ·rintro D e s151 ⟨im, ib, i⟩ hk hf ha
     have kn := K1 (ib 13 _ rfl)
     exact L.kns _ kn (L.fa fa58_0 Wt.no rfl rfl (L.nil (X.dk kn ⟨im, Sub.fresh ib rfl, i.u 6 (fun _ => rfl)⟩)))
    ·rintro D e s152 ⟨im, ib, i⟩ hk hf ha
     have bx138 := bx138.mv im no_No
     have kn := K1 ((i.p 6) (ha.at 6 rfl))
     exact L.kns _ kn (L.ld (j := 0) bx138.mem nag3 Wt.no rfl rfl rfl rfl (L.nil (X.dk kn ⟨im, Sub.fresh ib rfl, i.u 7 (fun _ => rfl)⟩)))
    ·rintro D e s153 ⟨im, ib, i⟩ hk hf ha
     have h2 := h2.mono (im.le no_No)
     have kn := K2 ((i.p 5) (ha.at 5 rfl)) ((i.p 7) (ha.at 7 rfl))
     refine L.kns _ kn (L.ix (r := (rK .i64)) sl31 h2 Wt.no rfl rfl ex154 rfl fun b155 o155 cc155 me155 rd155 => ?_)
     obtain rfl := rd155
     exact L.nil (X.dk kn ⟨im, Sub.fresh ib rfl, i.u 8 (fun _ => ⟨b155, o155, rfl, me155⟩)⟩)
    ·rintro D e s156 ⟨im, ib, i⟩ hk hf ha
     obtain ⟨b155, o155, g8_, me155⟩ := (i.p 8) (ha.at 8 rfl)
     have kn := K1 g8_
     exact L.kns _ kn (L.ld (j := 0) me155 nag3 Wt.no rfl rfl rfl rfl (L.nil (X.dk kn ⟨im, Sub.fresh ib rfl, i.u 9 (fun _ => rfl)⟩)))
    rintro D e s157 ⟨im, ib, i⟩ hk hf ha
    have kn := K2 ((i.p 4) (ha.at 4 rfl)) ((i.p 9) (ha.at 9 rfl))
    exact L.kns _ kn (L.bi Wt.no rfl rfl rfl rfl (L.nil (X.dk kn ⟨im, Sub.fresh ib rfl, i.u 10 (fun _ => rfl)⟩)))
   rintro D e s158 hD ⟨im, ib, i⟩
   have g10_ := (i.p 10) (hD 10 rfl)
   have bx138 := bx138.mv im no_No
   have h8 := h8.mono (im.le no_No)
   have h26 := h26.mv im no_No no_No
   have h19 := h19.mv im no_No no_No
   have h2 := h2.mono (im.le no_No)
   have m0 := m0.trans im.no
   refine X.sub (e' := [(64, .bool (decide (x147 < x154))), (13, .pointer (some ⟨b138, 0, none⟩)), (50, .int .i64 st82.1), (49, .int .i64 (r3.1.2.2.2.length : Int)), (48, .slice a8 r3.1.2.2.2.length c8), (9, .slice (some ⟨b26, 0, none⟩) st82.2.length x25.length), (8, .slice (some ⟨b19, 0, none⟩) o43.length x18.length), (1, .slice a2 p1.length c2)]) ?_ (Sub.cons g10_ (Sub.cons (ib 13 _ rfl) (Sub.cons (ib 50 _ rfl) (Sub.cons (ib 49 _ rfl) (Sub.cons (ib 48 _ rfl) (Sub.cons (ib 9 _ rfl) (Sub.cons (ib 8 _ rfl) (Sub.cons (ib 1 _ rfl) Sub.nil))))))))
   refine X.seqN ?_
   rcases ifS hm with ⟨hc, hm⟩ | ⟨hc, hm⟩
   ·refine E.cT rfl hc (E.reg (L.mv Wt.no rfl rfl (L.fa fa58_0 Wt.no rfl rfl (L.ld (j := 0) bx138.mem nag3 Wt.no rfl rfl rfl rfl ?_))))
    obtain ⟨x159, ex159, hm⟩ := bindS hm
    refine L.ir (r := rB) sl77 h26 Wt.no rfl rfl ex159 rfl fun b160 o160 cc160 me160 rd160 sp160 => ?_
    obtain rfl := rd160
    obtain ⟨x161, ex161, hm⟩ := bindS hm
    have elx161 := upd_len ex161
    refine L.su (fo := 0) (c := [.bool true]) (z := true) h26 sp160 ex159 ex161 (tgp hN) nag4.sz Wt.no rfl rfl rfl rfl rfl rfl (fun c0 hc0 => by obtain rfl := hc0; exact rfl) fun s162 m163 h26 => ?_
    replace m0 := m0.trans (m163.one up)
    replace h8 := h8.mono (m163.le (tg0 hN))
    replace h2 := h2.mono (m163.le (tg0 hN))
    replace h19 := h19.mv m163 (tgN (by decide)) (tg0 hN)
    exact L.reval (d := 9) rfl elx161 (L.nil (X.blkN (X.sub (Jj135 _ _ ⟨s162, x161, hm, m0, h26, h8, h19, h2, rfl, rfl⟩) (Sub.rf rfl))))
   exact E.cF rfl hc (E.skip (X.blkN (X.sub (Jj135 _ _ ⟨s158, st82.2, hm, m0, h26, h8, h19, h2, rfl, rfl⟩) (Sub.rf rfl))))
  refine E.cF rfl hc (E.exit (X.seqX (X.seqX ?_)))
  have hx := ho82 _ (Option.some.inj hm).symm
  subst hx
  exact X.sub (K132 _ _ ⟨s84, m0, h26, h19, h2, rfl, rfl⟩) (Sub.rf rfl)
 intro K164
 refine E.iter (fun (st43 : Int × List Bool) (e : List (Nat × Value)) (w : World) => ∃ (s45 : Sig), Mv (Up N No) s s45 ∧ RdL (rK .i64) s45 a7 c7 r3.1.2.2.1 ∧ RowT rB s45 (N + 2) 4 (some ⟨b26, 0, none⟩) x25.length x25 ∧ RowT rB s45 (N + 1) 4 (some ⟨b19, 0, none⟩) x18.length st43.2 ∧ RdL (rK .i64) s45 a2 c2 p1 ∧ RdL (rK .i64) s45 a6 c6 r3.1.1 ∧ RdL (rP (rK .i64) (rP (rK .i64) (rK .i64))) s45 a8 c8 r3.1.2.2.2 ∧ Bx s45 (N + 0) b10 #[.slice a6 r3.1.1.length c6, .int .i64 r3.1.2.1, .slice a7 r3.1.2.2.1.length c7, .slice a8 r3.1.2.2.2.length c8] 34 ∧ e = [(39, .int .i64 st43.1), (38, .int .i64 (r3.1.2.2.1.length : Int)), (37, .slice a7 r3.1.2.2.1.length c7), (9, .slice (some ⟨b26, 0, none⟩) x25.length x25.length), (8, .slice (some ⟨b19, 0, none⟩) st43.2.length x18.length), (5, .pointer (some ⟨b10, 0, none⟩)), (1, .slice a2 p1.length c2)] ∧ w = s45.w) eo43 ⟨s31, m0, h7, h26, h19, h2, h6, h8, bx10, rfl, rfl⟩ (Sub.rf rfl) ?_
 rintro st43 res43 hm ih43 ho43 _ _ ⟨s45, m0, h7, h26, h19, h2, h6, h8, bx10, rfl, rfl⟩
 unfold m_blocking_Verify_l1 at hm
 refine E.seq (E.reg (L.bi Wt.no rfl rfl rfl rfl (L.nil (X.seqN (E.seq ?_)))))
 rcases ifS hm with ⟨hc, hm⟩ | ⟨hc, hm⟩
 ·refine E.cT rfl hc (E.skip (X.seqN (E.seq (E.block (E.seq (E.reg ?_))))))
  obtain ⟨x165, ex165, hm⟩ := bindS hm
  refine L.ix (r := (rK .i64)) sl31 h7 Wt.no rfl rfl ex165 rfl fun b166 o166 cc166 me166 rd166 => ?_
  obtain rfl := rd166
  refine L.ld (j := 0) me166 nag3 Wt.no rfl rfl rfl rfl (L.as Wt.no rfl rfl (L.nil (X.seqN (E.reg (L.mv Wt.no rfl rfl (L.mv Wt.no rfl rfl ?_))))))
  obtain ⟨x167, ex167, hm⟩ := bindS hm
  refine L.ir (r := rB) sl77 h19 Wt.no rfl rfl ex167 rfl fun b168 o168 cc168 me168 rd168 sp168 => ?_
  obtain rfl := rd168
  obtain ⟨x169, ex169, hm⟩ := bindS hm
  have elx169 := upd_len ex169
  refine L.su (fo := 0) (c := [.bool true]) (z := true) h19 sp168 ex167 ex169 (tgp hN) nag4.sz Wt.no rfl rfl rfl rfl rfl rfl (fun c0 hc0 => by obtain rfl := hc0; exact rfl) fun s170 m171 h19 => ?_
  replace m0 := m0.trans (m171.one up)
  replace h2 := h2.mono (m171.le (tg0 hN))
  replace h7 := h7.mono (m171.le (tg0 hN))
  replace h26 := h26.mv m171 (tgN (by decide)) (tg0 hN)
  replace bx10 := bx10.mv m171 (tgN (by decide))
  replace h6 := h6.mono (m171.le (tg0 hN))
  replace h8 := h8.mono (m171.le (tg0 hN))
  exact L.reval (d := 8) rfl elx169 (L.nil (X.blkN (X.seqN (E.reg (L.bi Wt.no rfl rfl rfl rfl (L.mv Wt.no rfl rfl (L.nil (X.sub (ih43 _ (Option.some.inj hm).symm _ _ ⟨s170, m0, h7, h26, h19, h2, h6, h8, bx10, rfl, rfl⟩) (Sub.rf rfl)))))))))
 refine E.cF rfl hc (E.exit (X.seqX (X.seqX ?_)))
 have hx := ho43 _ (Option.some.inj hm).symm
 subst hx
 exact X.sub (K164 _ _ ⟨s45, m0, h26, h19, h2, h6, h7, h8, bx10, rfl, rfl⟩) (Sub.rf rfl)

end Go.Proofs.YtfbapajcheammaaDoor

namespace Go.Proofs.YtfbapajcheammaaDoor
open Go Go.RowKit
theorem cf23 : Cf Tryd.prog 23 := Cf.mk Tryd.func23 (by kernel_rfl) (by kernel_rfl)
noncomputable def m_overseerlaw24_BlockingVerifies_j1 (st471 : Int × Int) (n479 : Int) : Option ((Int × Int) ⊕ Int) :=
  some (.inl (W (st471.1 + 1), n479))
noncomputable def m_overseerlaw24_BlockingVerifies_j2 (st690 : Int × Bool) (b695 : Bool) : Option ((Int × Bool) ⊕ Bool) :=
  some (.inl (W (st690.1 + 1), b695))
noncomputable def m_overseerlaw24_BlockingVerifies_l2 (r11 : (List Int × Int × List Int × (List (Int × Int × Int))) × List (List Int) × Int) (x45 : List Int) (st471 : Int × Int) (st690 : Int × Bool) : Option ((Int × Bool) ⊕ Bool) :=
  if decide (st690.1 < (r11.1.2.2.2.length : Int)) then
    if st690.2 then
      m_overseerlaw24_BlockingVerifies_j2 st690 true
    else
      (idx x45 st471.1).bind fun x750 =>
      if decide (x750 > 0) then
        (idx r11.1.2.2.2 st690.1).bind fun x760 =>
        if (x760.1 == st471.1) then
          (idx r11.1.2.2.2 st690.1).bind fun x774 =>
          (idx x45 x774.2.2).bind fun x779 =>
          (idx x45 st471.1).bind fun x785 =>
          if decide (x779 < x785) then
            (idx r11.1.2.2.2 st690.1).bind fun x797 =>
            (idx x45 x797.2.2).bind fun x802 =>
            m_overseerlaw24_BlockingVerifies_j2 st690 (decide (x802 ≥ 0))
          else
            m_overseerlaw24_BlockingVerifies_j2 st690 false
        else
          m_overseerlaw24_BlockingVerifies_j2 st690 false
      else
        m_overseerlaw24_BlockingVerifies_j2 st690 false
  else
    some (.inr st690.2)
noncomputable def m_overseerlaw24_BlockingVerifies_l1 (r11 : (List Int × Int × List Int × (List (Int × Int × Int))) × List (List Int) × Int) (x45 : List Int) (st471 : Int × Int) : Option ((Int × Int) ⊕ Int) :=
  if decide (st471.1 < (x45.length : Int)) then
    (idx x45 st471.1).bind fun x482 =>
    (if (x482 == 0) then
      (m_overseerlaw24_has r11.1.2.2.1 st471.1).bind fun r895 =>
      some r895
    else
      some false).bind fun b484 =>
    (iter (m_overseerlaw24_BlockingVerifies_l2 r11 x45 st471) (0, b484)).bind fun o690 =>
    if (!o690) then
      m_overseerlaw24_BlockingVerifies_j1 st471 24
    else
      m_overseerlaw24_BlockingVerifies_j1 st471 st471.2
  else
    some (.inr st471.2)
/-- What overseerlaw24.BlockingVerifies computes. -/
noncomputable def m_overseerlaw24_BlockingVerifies (p0 : (Int × Int × ((Int × Int × Int × Int) × (Int × Int × Int × Int) × (Int × Int × Int × Int) × (Int × Int × Int × Int) × (Int × Int × Int × Int) × (Int × Int × Int × Int))) × (Int × Int × ((Int × Int × Int × Int) × (Int × Int × Int × Int) × (Int × Int × Int × Int) × (Int × Int × Int × Int) × (Int × Int × Int × Int) × (Int × Int × Int × Int))) × Bool) (p1 : Int) (p2 : Int) : Option Bool :=
  (m_overseerlaw24_Known).bind fun r4 =>
  if (!r4) then
    some false
  else
    (m_overseerlaw24_list p0).bind fun r7 =>
    (m_product_Synchronous r7).bind fun r11 =>
    (m_blocking_Ranks r11.1).bind fun r23 =>
    (m_blocking_Nonblocking r7).bind fun r27 =>
    (if ((((r11.2.2 != 0) || (r23.2 != 0)) || (r27.2.2 != 0)) || ((r23.1.length : Int) != r11.1.2.1)) then
      some true
    else
      (m_blocking_Verify r7 r23.1).bind fun r899 =>
      some ((r899 == 0) != r27.2.1)).bind fun b34 =>
    if b34 then
      some false
    else
      if ((r23.1.length : Int) == 0) then
        some true
      else
        (slc r23.1 1 (r23.1.length : Int)).bind fun x37 =>
        (m_blocking_Verify r7 x37).bind fun r39 =>
        if (r39 != 4) then
          some false
        else
          (nz (r23.1.length : Int)).bind fun _ =>
          (idx r23.1 ((W p1).tmod (r23.1.length : Int))).bind fun x43 =>
          (upd r23.1 ((W p1).tmod (r23.1.length : Int)) (W ((W (p2.tmod 6)) - 1))).bind fun x45 =>
          (iter (m_overseerlaw24_BlockingVerifies_l1 r11 x45) (0, 0)).bind fun o471 =>
          (m_blocking_Verify r7 x45).bind fun r475 =>
          some (r475 == o471)
abbrev m_overseerlaw24_BlockingVerifies_w0 : List (List Nat) := [[], [0], [0, 1], [0, 1], [0, 1, 2, 3], [0, 1, 2, 3, 4], [0, 1, 2, 3, 4, 5], [0, 1, 2, 3, 4, 5, 6], [0, 1, 2, 3, 4, 5, 6, 7], [0, 1, 2, 3, 4, 5, 6, 7, 8], [0, 1, 2, 3, 4, 5, 6, 7], [0, 1, 2, 3, 4, 5, 6, 7, 8, 9, 10], [0, 1, 2, 3, 4, 5, 6, 7, 8, 9, 10, 11], [0, 1, 2, 3, 4, 5, 6, 7, 8, 9, 10, 11, 12], [0, 1, 2, 3, 4, 5, 6, 7], [0, 1, 2, 3, 4, 5, 6, 7, 8, 9, 10, 11, 12, 13, 14], [0, 1, 2, 3, 4, 5, 6, 7, 8, 9, 10, 11, 12, 13, 14, 15], [0, 1, 2, 3, 4, 5, 6, 7, 8, 9, 10, 11, 12, 13, 14, 15, 16], [0, 1, 2, 3, 4, 5, 6, 7, 8, 9, 10, 11, 12, 13, 14, 15, 16, 17], [0, 1, 2, 3, 4, 5, 6, 7, 8, 9, 10, 11, 12, 13, 14, 15, 16, 17], [0, 1, 2, 3, 4, 5, 6, 7, 8, 9, 10, 11, 12, 13, 14, 15, 16, 17, 19], [0, 1, 2, 3, 4, 5, 6, 7, 8, 9, 10, 11, 12, 13, 14, 15, 16, 17], [0, 1, 2, 3, 4, 5, 6, 7, 8, 9, 10, 11, 12, 13, 14, 15, 16, 17, 19, 20, 21], [0, 1, 2, 3, 4, 5, 6, 7, 8, 9, 10, 11, 12, 13, 14, 15, 16, 17, 19, 20, 21, 22], [0, 1, 2, 3, 4, 5, 6, 7, 8, 9, 10, 11, 12, 13, 14, 15, 16, 17, 19, 20, 21, 22, 23], [0, 1, 2, 3, 4, 5, 6, 7, 8, 9, 10, 11, 12, 13, 14, 15, 16, 17, 18, 19, 20, 21, 22, 23, 24], [0, 1, 2, 3, 4, 5, 6, 7, 8, 9, 10, 11, 12, 13, 14, 15, 16, 17, 18, 19, 20, 21, 22, 23, 24, 25], [0, 1, 2, 3, 4, 5, 6, 7, 8, 9, 10, 11, 12, 13, 14, 15, 16, 17], [0, 1, 2, 3, 4, 5, 6, 7, 8, 9, 10, 11, 12, 13, 14, 15, 16, 17], [0, 1, 2, 3, 4, 5, 6, 7, 8, 9, 10, 11, 12, 13, 14, 15, 16, 17, 27, 28], [0, 1, 2, 3, 4, 5, 6, 7, 8, 9, 10, 11, 12, 13, 14, 15, 16, 17, 27, 28, 29], [0, 1, 2, 3, 4, 5, 6, 7, 8, 9, 10, 11, 12, 13, 14, 15, 16, 17, 18, 19, 20, 21, 22, 23, 24, 25, 26, 27, 28, 29, 30], [0, 1, 2, 3, 4, 5, 6, 7, 8, 9, 10, 11, 12, 13, 14, 15, 16, 17, 18, 19, 20, 21, 22, 23, 24, 25, 26, 27, 28, 29, 30, 31], [0, 1, 2, 3, 4, 5, 6, 7, 8, 9, 10, 11, 12, 13, 14, 15, 16, 17, 18, 19, 20, 21, 22, 23, 24, 25, 26, 27, 28, 29, 30, 31, 32], [0, 1, 2, 3, 4, 5, 6, 7, 8, 9, 10, 11, 12, 13, 14, 15, 16, 17, 18, 19, 20, 21, 22, 23, 24, 25, 26, 27, 28, 29, 30, 31, 32, 33], [0, 1, 2, 3, 4, 5, 6, 7, 8, 9, 10, 11, 12, 13, 14, 15, 16, 17, 18, 19, 20, 21, 22, 23, 24, 25, 26, 27, 28, 29, 30, 31, 32, 33], [0, 1, 2, 3, 4, 5, 6, 7, 8, 9, 10, 11, 12, 13, 14, 15, 16, 17, 18, 19, 20, 21, 22, 23, 24, 25, 26, 27, 28, 29, 30, 31, 32, 33, 35], [0, 1, 2, 3, 4, 5, 6, 7, 8, 9, 10, 11, 12, 13, 14, 15, 16, 17, 18, 19, 20, 21, 22, 23, 24, 25, 26, 27, 28, 29, 30, 31, 32, 33], [0, 1, 2, 3, 4, 5, 6, 7, 8, 9, 10, 11, 12, 13, 14, 15, 16, 17, 18, 19, 20, 21, 22, 23, 24, 25, 26, 27, 28, 29, 30, 31, 32, 33, 35, 36, 37], [0, 1, 2, 3, 4, 5, 6, 7, 8, 9, 10, 11, 12, 13, 14, 15, 16, 17, 18, 19, 20, 21, 22, 23, 24, 25, 26, 27, 28, 29, 30, 31, 32, 33, 35, 36, 37, 38], [0, 1, 2, 3, 4, 5, 6, 7, 8, 9, 10, 11, 12, 13, 14, 15, 16, 17, 18, 19, 20, 21, 22, 23, 24, 25, 26, 27, 28, 29, 30, 31, 32, 33, 35, 36, 37, 38, 39], [0, 1, 2, 3, 4, 5, 6, 7, 8, 9, 10, 11, 12, 13, 14, 15, 16, 17, 18, 19, 20, 21, 22, 23, 24, 25, 26, 27, 28, 29, 30, 31, 32, 33, 34, 35, 36, 37, 38, 39, 40], [0, 1, 2, 3, 4, 5, 6, 7, 8, 9, 10, 11, 12, 13, 14, 15, 16, 17, 18, 19, 20, 21, 22, 23, 24, 25, 26, 27, 28, 29, 30, 31, 32, 33, 34, 35, 36, 37, 38, 39, 40, 41], [0, 1, 2, 3, 4, 5, 6, 7, 8, 9, 10, 11, 12, 13, 14, 15, 16, 17, 18, 19, 20, 21, 22, 23, 24, 25, 26, 27, 28, 29, 30, 31, 32, 33, 34, 35, 36, 37, 38, 39, 40, 41, 42], [0, 1, 2, 3, 4, 5, 6, 7, 8, 9, 10, 11, 12, 13, 14, 15, 16, 17, 18, 19, 20, 21, 22, 23, 24, 25, 26, 27, 28, 29, 30, 31, 32, 33, 34, 35, 36, 37, 38, 39, 40, 41, 42, 43], [0, 1, 2, 3, 4, 5, 6, 7, 8, 9, 10, 11, 12, 13, 14, 15, 16, 17, 18, 19, 20, 21, 22, 23, 24, 25, 26, 27, 28, 29, 30, 31, 32, 33, 34, 35, 36, 37, 38, 39, 40, 41, 42, 43, 44], [0, 1, 2, 3, 4, 5, 6, 7, 8, 9, 10, 11, 12, 13, 14, 15, 16, 17, 18, 19, 20, 21, 22, 23, 24, 25, 26, 27, 28, 29, 30, 31, 32, 33, 34, 35, 36, 37, 38, 39, 40, 41, 42, 43, 44, 45]]
set_option maxRecDepth 100000 in
set_option maxHeartbeats 8000000 in
theorem m_overseerlaw24_BlockingVerifies_c {s : Sig} {p0 : (Int × Int × ((Int × Int × Int × Int) × (Int × Int × Int × Int) × (Int × Int × Int × Int) × (Int × Int × Int × Int) × (Int × Int × Int × Int) × (Int × Int × Int × Int))) × (Int × Int × ((Int × Int × Int × Int) × (Int × Int × Int × Int) × (Int × Int × Int × Int) × (Int × Int × Int × Int) × (Int × Int × Int × Int) × (Int × Int × Int × Int))) × Bool} {p1 : Int} {p2 : Int} {r : Bool} (hm : m_overseerlaw24_BlockingVerifies p0 p1 p2 = some r) :
    Calls Tryd.prog 7 #[.agg #[.int .u8 p0.1.1, .int .u8 p0.1.2.1, .int .u8 p0.1.2.2.1.1, .int .u8 p0.1.2.2.1.2.1, .int .u8 p0.1.2.2.1.2.2.1, .int .u8 p0.1.2.2.1.2.2.2, .int .u8 p0.1.2.2.2.1.1, .int .u8 p0.1.2.2.2.1.2.1, .int .u8 p0.1.2.2.2.1.2.2.1, .int .u8 p0.1.2.2.2.1.2.2.2, .int .u8 p0.1.2.2.2.2.1.1, .int .u8 p0.1.2.2.2.2.1.2.1, .int .u8 p0.1.2.2.2.2.1.2.2.1, .int .u8 p0.1.2.2.2.2.1.2.2.2, .int .u8 p0.1.2.2.2.2.2.1.1, .int .u8 p0.1.2.2.2.2.2.1.2.1, .int .u8 p0.1.2.2.2.2.2.1.2.2.1, .int .u8 p0.1.2.2.2.2.2.1.2.2.2, .int .u8 p0.1.2.2.2.2.2.2.1.1, .int .u8 p0.1.2.2.2.2.2.2.1.2.1, .int .u8 p0.1.2.2.2.2.2.2.1.2.2.1, .int .u8 p0.1.2.2.2.2.2.2.1.2.2.2, .int .u8 p0.1.2.2.2.2.2.2.2.1, .int .u8 p0.1.2.2.2.2.2.2.2.2.1, .int .u8 p0.1.2.2.2.2.2.2.2.2.2.1, .int .u8 p0.1.2.2.2.2.2.2.2.2.2.2, .int .u8 p0.2.1.1, .int .u8 p0.2.1.2.1, .int .u8 p0.2.1.2.2.1.1, .int .u8 p0.2.1.2.2.1.2.1, .int .u8 p0.2.1.2.2.1.2.2.1, .int .u8 p0.2.1.2.2.1.2.2.2, .int .u8 p0.2.1.2.2.2.1.1, .int .u8 p0.2.1.2.2.2.1.2.1, .int .u8 p0.2.1.2.2.2.1.2.2.1, .int .u8 p0.2.1.2.2.2.1.2.2.2, .int .u8 p0.2.1.2.2.2.2.1.1, .int .u8 p0.2.1.2.2.2.2.1.2.1, .int .u8 p0.2.1.2.2.2.2.1.2.2.1, .int .u8 p0.2.1.2.2.2.2.1.2.2.2, .int .u8 p0.2.1.2.2.2.2.2.1.1, .int .u8 p0.2.1.2.2.2.2.2.1.2.1, .int .u8 p0.2.1.2.2.2.2.2.1.2.2.1, .int .u8 p0.2.1.2.2.2.2.2.1.2.2.2, .int .u8 p0.2.1.2.2.2.2.2.2.1.1, .int .u8 p0.2.1.2.2.2.2.2.2.1.2.1, .int .u8 p0.2.1.2.2.2.2.2.2.1.2.2.1, .int .u8 p0.2.1.2.2.2.2.2.2.1.2.2.2, .int .u8 p0.2.1.2.2.2.2.2.2.2.1, .int .u8 p0.2.1.2.2.2.2.2.2.2.2.1, .int .u8 p0.2.1.2.2.2.2.2.2.2.2.2.1, .int .u8 p0.2.1.2.2.2.2.2.2.2.2.2.2, .bool p0.2.2], .int .u8 p1, .int .u8 p2] s.w (RetS No s fun v s' => v = .bool r) := by
 unfold m_overseerlaw24_BlockingVerifies at hm
 obtain ⟨N, hN, hNb⟩ := s.fresh
 have m0 : Mv (Up N No) s s := Mv.refl _ _
 refine E.entry Tryd.func7 rfl Tryd.ntmps7 rfl rfl (E.seq (E.reg (L.box (N + 0) Wt.no rfl rfl rfl fun b1 s2 m3 bx1 => ?_)))
 replace m0 := m0.trans m3.no
 refine L.as Wt.no rfl rfl (L.nil (X.seqN (E.seq (E.seq (E.reg ?_)))))
 obtain ⟨r4, er4, hm⟩ := bindS hm
 refine L.ca cf8 rfl rfl Wt.no rfl (m_overseerlaw24_Known_c (s := s2) er4) rfl ?_
 rintro _ s5 m6 rfl
 replace m0 := m0.trans m6.no
 replace bx1 := bx1.mv m6 no_No
 refine L.not Wt.no rfl rfl (L.nil (X.seqN ?_))
 rcases ifS hm with ⟨hc, hm⟩ | ⟨hc, hm⟩
 ·refine E.cT rfl hc (E.seq (E.reg (L.as Wt.no rfl rfl (L.nil (X.seqN (E.ret (X.seqR ?_)))))))
  obtain rfl := Option.some.inj hm
  exact X.rt (.inl rfl) Tryd.results7 (Rs.tmp rfl Rs.nil) rfl ⟨_, (s5).ren N (fun _ => 0), rfl, rfl, m0.ren hNb, rfl⟩
 refine E.cF rfl hc (E.skip (X.seqN (E.seq (E.reg (L.lg (j := 0) (cs := [.int .u8 p0.1.1, .int .u8 p0.1.2.1, .int .u8 p0.1.2.2.1.1, .int .u8 p0.1.2.2.1.2.1, .int .u8 p0.1.2.2.1.2.2.1, .int .u8 p0.1.2.2.1.2.2.2, .int .u8 p0.1.2.2.2.1.1, .int .u8 p0.1.2.2.2.1.2.1, .int .u8 p0.1.2.2.2.1.2.2.1, .int .u8 p0.1.2.2.2.1.2.2.2, .int .u8 p0.1.2.2.2.2.1.1, .int .u8 p0.1.2.2.2.2.1.2.1, .int .u8 p0.1.2.2.2.2.1.2.2.1, .int .u8 p0.1.2.2.2.2.1.2.2.2, .int .u8 p0.1.2.2.2.2.2.1.1, .int .u8 p0.1.2.2.2.2.2.1.2.1, .int .u8 p0.1.2.2.2.2.2.1.2.2.1, .int .u8 p0.1.2.2.2.2.2.1.2.2.2, .int .u8 p0.1.2.2.2.2.2.2.1.1, .int .u8 p0.1.2.2.2.2.2.2.1.2.1, .int .u8 p0.1.2.2.2.2.2.2.1.2.2.1, .int .u8 p0.1.2.2.2.2.2.2.1.2.2.2, .int .u8 p0.1.2.2.2.2.2.2.2.1, .int .u8 p0.1.2.2.2.2.2.2.2.2.1, .int .u8 p0.1.2.2.2.2.2.2.2.2.2.1, .int .u8 p0.1.2.2.2.2.2.2.2.2.2.2, .int .u8 p0.2.1.1, .int .u8 p0.2.1.2.1, .int .u8 p0.2.1.2.2.1.1, .int .u8 p0.2.1.2.2.1.2.1, .int .u8 p0.2.1.2.2.1.2.2.1, .int .u8 p0.2.1.2.2.1.2.2.2, .int .u8 p0.2.1.2.2.2.1.1, .int .u8 p0.2.1.2.2.2.1.2.1, .int .u8 p0.2.1.2.2.2.1.2.2.1, .int .u8 p0.2.1.2.2.2.1.2.2.2, .int .u8 p0.2.1.2.2.2.2.1.1, .int .u8 p0.2.1.2.2.2.2.1.2.1, .int .u8 p0.2.1.2.2.2.2.1.2.2.1, .int .u8 p0.2.1.2.2.2.2.1.2.2.2, .int .u8 p0.2.1.2.2.2.2.2.1.1, .int .u8 p0.2.1.2.2.2.2.2.1.2.1, .int .u8 p0.2.1.2.2.2.2.2.1.2.2.1, .int .u8 p0.2.1.2.2.2.2.2.1.2.2.2, .int .u8 p0.2.1.2.2.2.2.2.2.1.1, .int .u8 p0.2.1.2.2.2.2.2.2.1.2.1, .int .u8 p0.2.1.2.2.2.2.2.2.1.2.2.1, .int .u8 p0.2.1.2.2.2.2.2.2.1.2.2.2, .int .u8 p0.2.1.2.2.2.2.2.2.2.1, .int .u8 p0.2.1.2.2.2.2.2.2.2.2.1, .int .u8 p0.2.1.2.2.2.2.2.2.2.2.2.1, .int .u8 p0.2.1.2.2.2.2.2.2.2.2.2.2, .bool p0.2.2]) bx1.mem ag27 Wt.no rfl rfl rfl rfl rfl ?_)))))
 obtain ⟨r7, er7, hm⟩ := bindS hm
 refine L.ca cf9 rfl rfl Wt.no rfl (m_overseerlaw24_list_c (s := s5) (p0 := p0) (u0 := 0) er7) rfl ?_
 rintro _ s8 m9 ⟨a10, c10, rfl, h10⟩
 replace h10 := h10.p
 replace m0 := m0.trans m9.no
 refine L.as Wt.no rfl rfl (L.nil (X.seqN (E.seq (E.reg (L.mv Wt.no rfl rfl ?_)))))
 obtain ⟨r11, er11, hm⟩ := bindS hm
 refine L.ca cf10 rfl rfl Wt.no rfl (m_product_Synchronous_c (s := s8) (p0 := r7) (u1 := 0) (u2 := 0) (u3 := 0) h10 er11) rfl ?_
 rintro _ s12 m13 ⟨a14, c14, a15, c15, a16, c16, a17, c17, rfl, h14, h15, h16, h17⟩
 replace h15 := h15.p
 replace h16 := h16.p
 replace h17 := h17.p
 replace m0 := m0.trans m13.no
 replace h10 := h10.mono (m13.le no_No)
 refine L.mv Wt.no rfl rfl (L.ex Wt.no rfl rfl rfl (L.ex Wt.no rfl rfl rfl (L.ex Wt.no rfl rfl rfl (L.al (N + 1) zz34 rfl Wt.no rfl fun b18 s19 m20 bx18 => ?_))))
 replace m0 := m0.trans m20.no
 replace h10 := h10.mono (m20.le no_No)
 replace h14 := h14.mono (m20.le no_No)
 replace h15 := h15.mono (m20.le no_No)
 replace h16 := h16.mono (m20.le no_No)
 refine L.st (c := [.slice a14 r11.1.1.length c14, .int .i64 r11.1.2.1, .slice a15 r11.1.2.2.1.length c15, .slice a16 r11.1.2.2.2.length c16]) (cs' := #[.slice a14 r11.1.1.length c14, .int .i64 r11.1.2.1, .slice a15 r11.1.2.2.1.length c15, .slice a16 r11.1.2.2.2.length c16]) bx18 ag34.sz Wt.no rfl rfl rfl rfl rfl (Nat.le_of_ble_eq_true rfl) rfl fun s21 m22 bx18 => ?_
 replace m0 := m0.trans (m22.one up)
 replace h10 := h10.mono (m22.le (tg0 hN))
 replace h14 := h14.mono (m22.le (tg0 hN))
 replace h15 := h15.mono (m22.le (tg0 hN))
 replace h16 := h16.mono (m22.le (tg0 hN))
 refine L.as Wt.no rfl rfl (L.as Wt.no rfl rfl (L.nil (X.seqN (E.seq (E.reg (L.lg (j := 0) (cs := [.slice a14 r11.1.1.length c14, .int .i64 r11.1.2.1, .slice a15 r11.1.2.2.1.length c15, .slice a16 r11.1.2.2.2.length c16]) bx18.mem ag34 Wt.no rfl rfl rfl rfl rfl ?_))))))
 obtain ⟨r23, er23, hm⟩ := bindS hm
 refine L.ca cf20 rfl rfl Wt.no rfl (m_blocking_Ranks_c (s := s21) (p0 := r11.1) (u0 := (N + 2)) h14 h15 h16 er23) rfl ?_
 rintro _ s24 m25 ⟨a26, c26, rfl, h26⟩
 replace m0 := m0.trans m25.no
 replace h10 := h10.mono (m25.le no_No)
 replace bx18 := bx18.mv m25 no_No
 replace h14 := h14.mono (m25.le no_No)
 replace h15 := h15.mono (m25.le no_No)
 replace h16 := h16.mono (m25.le no_No)
 refine L.mv Wt.no rfl rfl (L.ex Wt.no rfl rfl rfl (L.ex Wt.no rfl rfl rfl (L.as Wt.no rfl rfl (L.as Wt.no rfl rfl (L.nil (X.seqN (E.seq (E.reg (L.mv Wt.no rfl rfl ?_)))))))))
 obtain ⟨r27, er27, hm⟩ := bindS hm
 refine L.ca cf11 rfl rfl Wt.no rfl (m_blocking_Nonblocking_c (s := s24) (p0 := r7) h10 er27) rfl ?_
 rintro _ s28 m29 ⟨a30, c30, rfl, h30⟩
 replace m0 := m0.trans m29.no
 replace h10 := h10.mono (m29.le no_No)
 replace h26 := h26.mv m29 no_No no_No
 replace bx18 := bx18.mv m29 no_No
 replace h14 := h14.mono (m29.le no_No)
 replace h15 := h15.mono (m29.le no_No)
 replace h16 := h16.mono (m29.le no_No)
 refine L.mv Wt.no rfl rfl (L.ex Wt.no rfl rfl rfl (L.ex Wt.no rfl rfl rfl (L.ex Wt.no rfl rfl rfl (L.as Wt.no rfl rfl (L.as Wt.no rfl rfl (L.as Wt.no rfl rfl (L.nil (X.seqN (E.seq (E.seq (E.reg (L.mv Wt.no rfl rfl (L.bi Wt.no rfl rfl rfl rfl (L.mv Wt.no rfl rfl (L.cut 3 (fun e w => ∃ (v31 : Bool), ((r11.2.2 != 0) || (r23.2 != 0)) = v31 ∧ e = (46, .bool v31) :: [(15, .int .i64 r27.2.2), (14, .bool r27.2.1), (11, .slice a26 r23.1.length c26), (8, .pointer (some ⟨b18, 0, none⟩)), (7, .slice a10 r7.length c10), (1, .int .u8 p1), (2, .int .u8 p2)] ∧ w = s28.w) ?_ ?_)))))))))))))))
 ·rintro _ _ ⟨v31, rfl, rfl, rfl⟩
  refine L.mv Wt.no rfl rfl (L.cut 3 (fun e w => ∃ (v32 : Bool), (((r11.2.2 != 0) || (r23.2 != 0)) || (r27.2.2 != 0)) = v32 ∧ e = (50, .bool v32) :: [(14, .bool r27.2.1), (11, .slice a26 r23.1.length c26), (8, .pointer (some ⟨b18, 0, none⟩)), (7, .slice a10 r7.length c10), (1, .int .u8 p1), (2, .int .u8 p2)] ∧ w = s28.w) ?_ ?_)
  ·rintro _ _ ⟨v32, rfl, rfl, rfl⟩
   refine L.mv Wt.no rfl rfl (L.cut 6 (fun e w => ∃ (v33 : Bool), ((((r11.2.2 != 0) || (r23.2 != 0)) || (r27.2.2 != 0)) || ((r23.1.length : Int) != r11.1.2.1)) = v33 ∧ e = (57, .bool v33) :: [(14, .bool r27.2.1), (11, .slice a26 r23.1.length c26), (8, .pointer (some ⟨b18, 0, none⟩)), (7, .slice a10 r7.length c10), (1, .int .u8 p1), (2, .int .u8 p2)] ∧ w = s28.w) ?_ ?_)
   ·rintro _ _ ⟨v33, rfl, rfl, rfl⟩
    refine L.mv Wt.no rfl rfl ?_
    obtain ⟨b34, eb34, hm⟩ := bindS hm
    refine L.cut 7 (fun e w => ∃ (s36 : Sig) (v35 : Bool), b34 = v35 ∧ Mv (Up N No) s s36 ∧ RowT (rK .i64) s36 (N + 2) 3 a26 c26 r23.1 ∧ RdL (rP (rL (rK .i64)) (rP (rK .i64) (rP (rL (rK .i64)) (rL (rP (rK .i64) (rP (rK .i64) (rK .i64))))))) s36 a10 c10 r7 ∧ RdL (rK .i64) s36 a14 c14 r11.1.1 ∧ RdL (rK .i64) s36 a15 c15 r11.1.2.2.1 ∧ RdL (rP (rK .i64) (rP (rK .i64) (rK .i64))) s36 a16 c16 r11.1.2.2.2 ∧ Bx s36 (N + 1) b18 #[.slice a14 r11.1.1.length c14, .int .i64 r11.1.2.1, .slice a15 r11.1.2.2.1.length c15, .slice a16 r11.1.2.2.2.length c16] 34 ∧ e = (65, .bool v35) :: [(11, .slice a26 r23.1.length c26), (8, .pointer (some ⟨b18, 0, none⟩)), (7, .slice a10 r7.length c10), (1, .int .u8 p1), (2, .int .u8 p2)] ∧ w = s36.w) ?_ ?_
    ·rintro _ _ ⟨s36, v35, rfl, m0, h26, h10, h14, h15, h16, bx18, rfl, rfl⟩
     refine L.nil (X.seqN ?_)
     rcases ifS hm with ⟨hc, hm⟩ | ⟨hc, hm⟩
     ·refine E.cT rfl hc (E.seq (E.reg (L.as Wt.no rfl rfl (L.nil (X.seqN (E.ret (X.seqR ?_)))))))
      obtain rfl := Option.some.inj hm
      exact X.rt (.inl rfl) Tryd.results7 (Rs.tmp rfl Rs.nil) rfl ⟨_, (s36).ren N (fun _ => 0), rfl, rfl, m0.ren hNb, rfl⟩
     refine E.cF rfl hc (E.skip (X.seqN (E.seq (E.seq (E.reg (L.mv Wt.no rfl rfl (L.len sl31 Wt.no rfl rfl (L.bi Wt.no rfl rfl rfl rfl (L.nil (X.seqN ?_))))))))))
     rcases ifS hm with ⟨hc, hm⟩ | ⟨hc, hm⟩
     ·refine E.cT rfl hc (E.seq (E.reg (L.as Wt.no rfl rfl (L.nil (X.seqN (E.ret (X.seqR ?_)))))))
      obtain rfl := Option.some.inj hm
      exact X.rt (.inl rfl) Tryd.results7 (Rs.tmp rfl Rs.nil) rfl ⟨_, (s36).ren N (fun _ => 0), rfl, rfl, m0.ren hNb, rfl⟩
     refine E.cF rfl hc (E.skip (X.seqN (E.seq (E.seq (E.reg (L.mv Wt.no rfl rfl (L.mv Wt.no rfl rfl ?_)))))))
     obtain ⟨x37, ex37, hm⟩ := bindS hm
     refine L.slt (r := (rK .i64)) sl31 h26 Wt.no rfl rfl ex37 rfl fun a38 c38 h38 => ?_
     obtain ⟨r39, er39, hm⟩ := bindS hm
     refine L.ca cf23 rfl rfl Wt.no rfl (Calls.lendG (s0 := (Sig.drop N s36)) (s := s36) rfl (m_blocking_Verify_c (s := (Sig.drop N s36)) (p0 := r7) (p1 := x37) (h10.mono (Sig.drop_le N _)) (h38.drop (Nat.le_add_right _ _)) er39) (fun v s' h => h)) rfl ?_
     rintro _ s40 m41 rfl
     replace m0 := m0.trans m41.no
     replace h10 := h10.mono (m41.le no_No)
     replace h26 := h26.mv m41 no_No no_No
     replace bx18 := bx18.mv m41 no_No
     replace h14 := h14.mono (m41.le no_No)
     replace h15 := h15.mono (m41.le no_No)
     replace h16 := h16.mono (m41.le no_No)
     refine L.bi Wt.no rfl rfl rfl rfl (L.nil (X.seqN ?_))
     rcases ifS hm with ⟨hc, hm⟩ | ⟨hc, hm⟩
     ·refine E.cT rfl hc (E.seq (E.reg (L.as Wt.no rfl rfl (L.nil (X.seqN (E.ret (X.seqR ?_)))))))
      obtain rfl := Option.some.inj hm
      exact X.rt (.inl rfl) Tryd.results7 (Rs.tmp rfl Rs.nil) rfl ⟨_, (s40).ren N (fun _ => 0), rfl, rfl, m0.ren hNb, rfl⟩
     refine E.cF rfl hc (E.skip (X.seqN (E.seq (E.reg (L.mv Wt.no rfl rfl (L.mv Wt.no rfl rfl (L.cv Tryd.underlying5 Tryd.underlying3 Wt.no rfl rfl (L.mv Wt.no rfl rfl (L.len sl31 Wt.no rfl rfl ?_)))))))))
     obtain ⟨_, z42, hm⟩ := bindS hm
     refine L.rem Wt.no rfl rfl (nz_some z42) rfl (L.mv Wt.no rfl rfl (L.rem Wt.no rfl rfl (by decide) rfl (L.cv Tryd.underlying5 Tryd.underlying3 Wt.no rfl rfl (L.bi Wt.no rfl rfl rfl rfl ?_))))
     obtain ⟨x43, ex43, hm⟩ := bindS hm
     refine L.ir (r := (rK .i64)) sl31 h26 Wt.no rfl rfl ex43 rfl fun b44 o44 cc44 me44 rd44 sp44 => ?_
     obtain rfl := rd44
     obtain ⟨x45, ex45, hm⟩ := bindS hm
     have elx45 := upd_len ex45
     refine L.su (fo := 0) (c := [.int .i64 (W ((W (p2.tmod 6)) - 1))]) (z := W ((W (p2.tmod 6)) - 1)) h26 sp44 ex43 ex45 (tgp hN) nag3.sz Wt.no rfl rfl rfl rfl rfl rfl (fun c0 hc0 => by obtain rfl := hc0; exact rfl) fun s46 m47 h26 => ?_
     replace m0 := m0.trans (m47.one up)
     replace h10 := h10.mono (m47.le (tg0 hN))
     replace bx18 := bx18.mv m47 (tgN (by decide))
     replace h14 := h14.mono (m47.le (tg0 hN))
     replace h15 := h15.mono (m47.le (tg0 hN))
     replace h16 := h16.mono (m47.le (tg0 hN))
     refine L.reval (d := 11) rfl elx45 (L.nil (X.seqN (E.seq (E.reg (L.as Wt.no rfl rfl (L.nil (X.seqN (E.seq (E.seq (E.reg (L.as Wt.no rfl rfl (L.nil (X.seqN (E.block ?_))))))))))))))
     obtain ⟨o471, eo471, hm⟩ := bindS hm
     refine E.cut (x := .exit 0) (fun e w => ∃ (s474 : Sig), Mv (Up N No) s s474 ∧ RowT (rK .i64) s474 (N + 2) 3 a26 c26 x45 ∧ RdL (rP (rL (rK .i64)) (rP (rK .i64) (rP (rL (rK .i64)) (rL (rP (rK .i64) (rP (rK .i64) (rK .i64))))))) s474 a10 c10 r7 ∧ e = [(16, .int .i64 o471), (11, .slice a26 x45.length c26), (7, .slice a10 r7.length c10)] ∧ w = s474.w) ?_ ?_
     ·rintro _ _ ⟨s474, m0, h26, h10, rfl, rfl⟩
      refine X.blkE (X.seqN (E.seq (E.reg (L.mv Wt.no rfl rfl (L.mv Wt.no rfl rfl ?_)))))
      obtain ⟨r475, er475, hm⟩ := bindS hm
      refine L.ca cf23 rfl rfl Wt.no rfl (Calls.lendG (s0 := (Sig.drop N s474)) (s := s474) rfl (m_blocking_Verify_c (s := (Sig.drop N s474)) (p0 := r7) (p1 := x45) (h10.mono (Sig.drop_le N _)) (h26.drop (Nat.le_add_right _ _)) er475) (fun v s' h => h)) rfl ?_
      rintro _ s476 m477 rfl
      replace m0 := m0.trans m477.no
      refine L.mv Wt.no rfl rfl (L.bi Wt.no rfl rfl rfl rfl (L.as Wt.no rfl rfl (L.nil (X.seqN (E.ret ?_)))))
      obtain rfl := Option.some.inj hm
      exact X.rt (.inl rfl) Tryd.results7 (Rs.tmp rfl Rs.nil) rfl ⟨_, (s476).ren N (fun _ => 0), rfl, rfl, m0.ren hNb, rfl⟩
     intro K478
     refine E.iter (fun (st471 : Int × Int) (e : List (Nat × Value)) (w : World) => ∃ (s473 : Sig), Mv (Up N No) s s473 ∧ RowT (rK .i64) s473 (N + 2) 3 a26 c26 x45 ∧ RdL (rP (rL (rK .i64)) (rP (rK .i64) (rP (rL (rK .i64)) (rL (rP (rK .i64) (rP (rK .i64) (rK .i64))))))) s473 a10 c10 r7 ∧ RdL (rK .i64) s473 a14 c14 r11.1.1 ∧ RdL (rK .i64) s473 a15 c15 r11.1.2.2.1 ∧ RdL (rP (rK .i64) (rP (rK .i64) (rK .i64))) s473 a16 c16 r11.1.2.2.2 ∧ Bx s473 (N + 1) b18 #[.slice a14 r11.1.1.length c14, .int .i64 r11.1.2.1, .slice a15 r11.1.2.2.1.length c15, .slice a16 r11.1.2.2.2.length c16] 34 ∧ e = [(17, .int .i64 st471.1), (16, .int .i64 st471.2), (11, .slice a26 x45.length c26), (8, .pointer (some ⟨b18, 0, none⟩)), (7, .slice a10 r7.length c10)] ∧ w = s473.w) eo471 ⟨s46, m0, h26, h10, h14, h15, h16, bx18, rfl, rfl⟩ (Sub.rf rfl) ?_
     rintro st471 res471 hm ih471 ho471 _ _ ⟨s473, m0, h26, h10, h14, h15, h16, bx18, rfl, rfl⟩
     unfold m_overseerlaw24_BlockingVerifies_l1 at hm
     refine E.seq (E.seq (E.reg (L.mv Wt.no rfl rfl (L.mv Wt.no rfl rfl (L.len sl31 Wt.no rfl rfl (L.bi Wt.no rfl rfl rfl rfl (L.nil (X.seqN ?_))))))))
     rcases ifS hm with ⟨hc, hm⟩ | ⟨hc, hm⟩
     ·refine E.cT rfl hc (E.skip (X.seqN (E.seqJ (fun e w => ∃ (s480 : Sig) (n479 : Int), m_overseerlaw24_BlockingVerifies_j1 st471 n479 = some res471 ∧ Mv (Up N No) s s480 ∧ RowT (rK .i64) s480 (N + 2) 3 a26 c26 x45 ∧ RdL (rP (rL (rK .i64)) (rP (rK .i64) (rP (rL (rK .i64)) (rL (rP (rK .i64) (rP (rK .i64) (rK .i64))))))) s480 a10 c10 r7 ∧ RdL (rK .i64) s480 a14 c14 r11.1.1 ∧ RdL (rK .i64) s480 a15 c15 r11.1.2.2.1 ∧ RdL (rP (rK .i64) (rP (rK .i64) (rK .i64))) s480 a16 c16 r11.1.2.2.2 ∧ Bx s480 (N + 1) b18 #[.slice a14 r11.1.1.length c14, .int .i64 r11.1.2.1, .slice a15 r11.1.2.2.1.length c15, .slice a16 r11.1.2.2.2.length c16] 34 ∧ e = [(16, .int .i64 n479), (17, .int .i64 st471.1), (11, .slice a26 x45.length c26), (8, .pointer (some ⟨b18, 0, none⟩)), (7, .slice a10 r7.length c10)] ∧ w = s480.w) ?_ ?_)))
      ·rintro _ _ ⟨s480, n479, hm, m0, h26, h10, h14, h15, h16, bx18, rfl, rfl⟩
       unfold m_overseerlaw24_BlockingVerifies_j1 at hm
       exact E.reg (L.mv Wt.no rfl rfl (L.bi Wt.no rfl rfl rfl rfl (L.as Wt.no rfl rfl (L.nil (X.sub (ih471 _ (Option.some.inj hm).symm _ _ ⟨s480, m0, h26, h10, h14, h15, h16, bx18, rfl, rfl⟩) (Sub.rf rfl))))))
      intro Jj481
      refine E.block (E.seq (E.reg (L.mv Wt.no rfl rfl (L.mv Wt.no rfl rfl ?_))))
      obtain ⟨x482, ex482, hm⟩ := bindS hm
      refine L.ir (r := (rK .i64)) sl31 h26 Wt.no rfl rfl ex482 rfl fun b483 o483 cc483 me483 rd483 sp483 => ?_
      obtain rfl := rd483
      refine L.ld (j := 0) me483 nag3 Wt.no rfl rfl rfl rfl (L.bi Wt.no rfl rfl rfl rfl (L.mv Wt.no rfl rfl ?_))
      obtain ⟨b484, eb484, hm⟩ := bindS hm
      refine L.cut 5 (fun e w => ∃ (s486 : Sig) (v485 : Bool), b484 = v485 ∧ Mv (Up N No) s s486 ∧ RowT (rK .i64) s486 (N + 2) 3 a26 c26 x45 ∧ RdL (rP (rL (rK .i64)) (rP (rK .i64) (rP (rL (rK .i64)) (rL (rP (rK .i64) (rP (rK .i64) (rK .i64))))))) s486 a10 c10 r7 ∧ RdL (rK .i64) s486 a14 c14 r11.1.1 ∧ RdL (rK .i64) s486 a15 c15 r11.1.2.2.1 ∧ RdL (rP (rK .i64) (rP (rK .i64) (rK .i64))) s486 a16 c16 r11.1.2.2.2 ∧ Bx s486 (N + 1) b18 #[.slice a14 r11.1.1.length c14, .int .i64 r11.1.2.1, .slice a15 r11.1.2.2.1.length c15, .slice a16 r11.1.2.2.2.length c16] 34 ∧ e = (101, .bool v485) :: [(17, .int .i64 st471.1), (16, .int .i64 st471.2), (11, .slice a26 x45.length c26), (8, .pointer (some ⟨b18, 0, none⟩)), (7, .slice a10 r7.length c10)] ∧ w = s486.w) ?_ ?_
      ·rintro _ _ ⟨s486, v485, rfl, m0, h26, h10, h14, h15, h16, bx18, rfl, rfl⟩
       refine L.as Wt.no rfl rfl (L.nil (X.seqN (E.seq (E.seq (E.reg (L.as Wt.no rfl rfl (L.nil (X.seqN (E.block ?_)))))))))
       obtain ⟨o690, eo690, hm⟩ := bindS hm
       refine E.cut (x := .exit 2) (fun e w => ∃ (s693 : Sig), Mv (Up N No) s s693 ∧ RowT (rK .i64) s693 (N + 2) 3 a26 c26 x45 ∧ RdL (rP (rL (rK .i64)) (rP (rK .i64) (rP (rL (rK .i64)) (rL (rP (rK .i64) (rP (rK .i64) (rK .i64))))))) s693 a10 c10 r7 ∧ RdL (rK .i64) s693 a14 c14 r11.1.1 ∧ RdL (rK .i64) s693 a15 c15 r11.1.2.2.1 ∧ RdL (rP (rK .i64) (rP (rK .i64) (rK .i64))) s693 a16 c16 r11.1.2.2.2 ∧ Bx s693 (N + 1) b18 #[.slice a14 r11.1.1.length c14, .int .i64 r11.1.2.1, .slice a15 r11.1.2.2.1.length c15, .slice a16 r11.1.2.2.2.length c16] 34 ∧ e = [(18, .bool o690), (17, .int .i64 st471.1), (16, .int .i64 st471.2), (11, .slice a26 x45.length c26), (8, .pointer (some ⟨b18, 0, none⟩)), (7, .slice a10 r7.length c10)] ∧ w = s693.w) ?_ ?_
       ·rintro _ _ ⟨s693, m0, h26, h10, h14, h15, h16, bx18, rfl, rfl⟩
        refine X.blkE (X.seqN (E.seq (E.reg (L.mv Wt.no rfl rfl (L.not Wt.no rfl rfl (L.nil (X.seqN ?_)))))))
        rcases ifS hm with ⟨hc, hm⟩ | ⟨hc, hm⟩
        ·exact E.cT rfl hc (E.reg (L.as Wt.no rfl rfl (L.nil (X.blkN (X.sub (Jj481 _ _ ⟨s693, 24, hm, m0, h26, h10, h14, h15, h16, bx18, rfl, rfl⟩) (Sub.rf rfl))))))
        exact E.cF rfl hc (E.skip (X.blkN (X.sub (Jj481 _ _ ⟨s693, st471.2, hm, m0, h26, h10, h14, h15, h16, bx18, rfl, rfl⟩) (Sub.rf rfl))))
       intro K694
       refine E.iter (fun (st690 : Int × Bool) (e : List (Nat × Value)) (w : World) => ∃ (s692 : Sig), Mv (Up N No) s s692 ∧ RowT (rK .i64) s692 (N + 2) 3 a26 c26 x45 ∧ RdL (rP (rL (rK .i64)) (rP (rK .i64) (rP (rL (rK .i64)) (rL (rP (rK .i64) (rP (rK .i64) (rK .i64))))))) s692 a10 c10 r7 ∧ RdL (rK .i64) s692 a14 c14 r11.1.1 ∧ RdL (rK .i64) s692 a15 c15 r11.1.2.2.1 ∧ RdL (rP (rK .i64) (rP (rK .i64) (rK .i64))) s692 a16 c16 r11.1.2.2.2 ∧ Bx s692 (N + 1) b18 #[.slice a14 r11.1.1.length c14, .int .i64 r11.1.2.1, .slice a15 r11.1.2.2.1.length c15, .slice a16 r11.1.2.2.2.length c16] 34 ∧ e = [(19, .int .i64 st690.1), (18, .bool st690.2), (17, .int .i64 st471.1), (16, .int .i64 st471.2), (11, .slice a26 x45.length c26), (8, .pointer (some ⟨b18, 0, none⟩)), (7, .slice a10 r7.length c10)] ∧ w = s692.w) eo690 ⟨s486, m0, h26, h10, h14, h15, h16, bx18, rfl, rfl⟩ (Sub.rf rfl) ?_
       rintro st690 res690 hm ih690 ho690 _ _ ⟨s692, m0, h26, h10, h14, h15, h16, bx18, rfl, rfl⟩
       unfold m_overseerlaw24_BlockingVerifies_l2 at hm
       refine E.seq (E.seq (E.reg (L.mv Wt.no rfl rfl (L.fa fa34_3 Wt.no rfl rfl (L.ld (j := 3) bx18.mem nag32 Wt.no rfl rfl rfl rfl (L.len sl32 Wt.no rfl rfl (L.bi Wt.no rfl rfl rfl rfl (L.nil (X.seqN ?_)))))))))
       rcases ifS hm with ⟨hc, hm⟩ | ⟨hc, hm⟩
       ·refine E.cT rfl hc (E.skip (X.seqN (E.seqJ (fun e w => ∃ (s696 : Sig) (b695 : Bool), m_overseerlaw24_BlockingVerifies_j2 st690 b695 = some res690 ∧ Mv (Up N No) s s696 ∧ RowT (rK .i64) s696 (N + 2) 3 a26 c26 x45 ∧ RdL (rP (rL (rK .i64)) (rP (rK .i64) (rP (rL (rK .i64)) (rL (rP (rK .i64) (rP (rK .i64) (rK .i64))))))) s696 a10 c10 r7 ∧ RdL (rK .i64) s696 a14 c14 r11.1.1 ∧ RdL (rK .i64) s696 a15 c15 r11.1.2.2.1 ∧ RdL (rP (rK .i64) (rP (rK .i64) (rK .i64))) s696 a16 c16 r11.1.2.2.2 ∧ Bx s696 (N + 1) b18 #[.slice a14 r11.1.1.length c14, .int .i64 r11.1.2.1, .slice a15 r11.1.2.2.1.length c15, .slice a16 r11.1.2.2.2.length c16] 34 ∧ e = [(18, .bool b695), (19, .int .i64 st690.1), (17, .int .i64 st471.1), (16, .int .i64 st471.2), (11, .slice a26 x45.length c26), (8, .pointer (some ⟨b18, 0, none⟩)), (7, .slice a10 r7.length c10)] ∧ w = s696.w) ?_ ?_)))
        ·rintro _ _ ⟨s696, b695, hm, m0, h26, h10, h14, h15, h16, bx18, rfl, rfl⟩
         unfold m_overseerlaw24_BlockingVerifies_j2 at hm
         exact E.reg (L.mv Wt.no rfl rfl (L.bi Wt.no rfl rfl rfl rfl (L.as Wt.no rfl rfl (L.nil (X.sub (ih690 _ (Option.some.inj hm).symm _ _ ⟨s696, m0, h26, h10, h14, h15, h16, bx18, rfl, rfl⟩) (Sub.rf rfl))))))
        intro Jj697
        refine E.block ?_
        rcases ifS hm with ⟨hc700, hm⟩ | ⟨hc700, hm⟩
        ·have _ := hN
         refine E.draw m_overseerlaw24_BlockingVerifies_w0 (fun D e sx => Mv No s692 sx ∧ Sub [(19, .int .i64 st690.1), (17, .int .i64 st471.1), (16, .int .i64 st471.2), (11, .slice a26 x45.length c26), (8, .pointer (some ⟨b18, 0, none⟩)), (7, .slice a10 r7.length c10)] e ∧ AllP [D 46 = false → Env.get e 18 = some (.bool st690.2), G D e 0 109 (.bool st690.2), G D e 1 110 (.bool st690.2), G D e 2 111 undef, G D e 3 112 undef, G D e 4 113 undef, G D e 5 114 undef, G D e 6 115 undef, G D e 7 116 undef, G D e 8 117 undef, G D e 9 118 undef, G D e 10 119 undef, G D e 11 120 undef, G D e 12 121 undef, G D e 13 122 undef, G D e 14 123 undef, G D e 15 124 undef, G D e 16 125 undef, G D e 17 126 undef, G D e 18 127 undef, G D e 19 128 undef, G D e 20 129 undef, G D e 21 130 undef, G D e 22 131 undef, G D e 23 132 undef, G D e 24 133 undef, G D e 25 134 undef, G D e 26 135 undef, G D e 27 136 undef, G D e 28 137 undef, G D e 29 138 undef, G D e 30 139 undef, G D e 31 140 undef, G D e 32 141 undef, G D e 33 142 undef, G D e 34 143 undef, G D e 35 144 undef, G D e 36 145 undef, G D e 37 146 undef, G D e 38 147 undef, G D e 39 148 undef, G D e 40 149 undef, G D e 41 150 undef, G D e 42 151 undef, G D e 43 152 undef, G D e 44 153 undef, G D e 45 154 (.bool true), G D e 46 18 (.bool true)]) (by kernel_rfl) (by kernel_rfl) (by kernel_rfl) ?_ ?_ ?_
         ·intro sz mz
          exact ⟨mz, (Sub.rf rfl), fun _ => rfl, nofun, nofun, nofun, nofun, nofun, nofun, nofun, nofun, nofun, nofun, nofun, nofun, nofun, nofun, nofun, nofun, nofun, nofun, nofun, nofun, nofun, nofun, nofun, nofun, nofun, nofun, nofun, nofun, nofun, nofun, nofun, nofun, nofun, nofun, nofun, nofun, nofun, nofun, nofun, nofun, nofun, nofun, nofun, nofun, nofun, nofun, nofun, trivial⟩
         ·refine ⟨?_, ?_, ?_, ?_, ?_, ?_, ?_, ?_, ?_, ?_, ?_, ?_, ?_, ?_, ?_, ?_, ?_, ?_, ?_, ?_, ?_, ?_, ?_, ?_, ?_, ?_, ?_, ?_, ?_, ?_, ?_, ?_, ?_, ?_, ?_, ?_, ?_, ?_, ?_, ?_, ?_, ?_, ?_, ?_, ?_, ?_, ?_, trivial⟩
          ·rintro D e s698 ⟨im, ib, i⟩ hk hf ha
           have kn := K1 ((i.p 0) (hf 46 (Nat.le_of_ble_eq_true rfl) rfl))
           exact L.kns _ kn (L.mv Wt.no rfl rfl (L.nil (X.dk kn ⟨im, Sub.fresh ib rfl, i.u 1 (fun _ => rfl)⟩)))
          ·rintro D e s699 ⟨im, ib, i⟩ hk hf ha
           have kn := K1 ((i.p 1) (ha.at 0 rfl))
           exact L.kns _ kn (L.mv Wt.no rfl rfl (L.nil (X.dk kn ⟨im, Sub.fresh ib rfl, i.u 2 (fun _ => rfl)⟩)))
          ·rintro D e s701 ⟨im, ib, i⟩ hk hf ha
           have g1_ := (i.p 2) (ha.at 1 rfl)
           rw [hc700] at g1_
           have kn := K2 (ib 11 _ rfl) g1_
           exact L.kns _ kn (L.skip rfl rfl rfl rfl (L.nil (X.dk kn ⟨im, Sub.fresh ib rfl, i.u 3 (fun _ => rfl)⟩)))
          ·rintro D e s702 ⟨im, ib, i⟩ hk hf ha
           have g1_ := (i.p 2) (ha.at 1 rfl)
           rw [hc700] at g1_
           have kn := K2 (ib 17 _ rfl) g1_
           exact L.kns _ kn (L.skip rfl rfl rfl rfl (L.nil (X.dk kn ⟨im, Sub.fresh ib rfl, i.u 4 (fun _ => rfl)⟩)))
          ·rintro D e s703 ⟨im, ib, i⟩ hk hf ha
           have g1_ := (i.p 2) (ha.at 1 rfl)
           rw [hc700] at g1_
           have kn := K3 ((i.p 3) (ha.at 2 rfl)) ((i.p 4) (ha.at 3 rfl)) g1_
           exact L.kns _ kn (L.skip rfl rfl rfl rfl (L.nil (X.dk kn ⟨im, Sub.fresh ib rfl, i.u 5 (fun _ => rfl)⟩)))
          ·rintro D e s704 ⟨im, ib, i⟩ hk hf ha
           have g1_ := (i.p 2) (ha.at 1 rfl)
           rw [hc700] at g1_
           have kn := K2 ((i.p 5) (ha.at 4 rfl)) g1_
           exact L.kns _ kn (L.skip rfl rfl rfl rfl (L.nil (X.dk kn ⟨im, Sub.fresh ib rfl, i.u 6 (fun _ => rfl)⟩)))
          ·rintro D e s705 ⟨im, ib, i⟩ hk hf ha
           have g1_ := (i.p 2) (ha.at 1 rfl)
           rw [hc700] at g1_
           have kn := K2 ((i.p 6) (ha.at 5 rfl)) g1_
           exact L.kns _ kn (L.skip rfl rfl rfl rfl (L.nil (X.dk kn ⟨im, Sub.fresh ib rfl, i.u 7 (fun _ => rfl)⟩)))
          ·rintro D e s706 ⟨im, ib, i⟩ hk hf ha
           have g1_ := (i.p 2) (ha.at 1 rfl)
           rw [hc700] at g1_
           have kn := K2 ((i.p 7) (ha.at 6 rfl)) g1_
           exact L.kns _ kn (L.skip rfl rfl rfl rfl (L.nil (X.dk kn ⟨im, Sub.fresh ib rfl, i.u 8 (fun _ => rfl)⟩)))
          ·rintro D e s707 ⟨im, ib, i⟩ hk hf ha
           have kn := K2 (ib 8 _ rfl) ((i.p 8) (ha.at 7 rfl))
           exact L.kns _ kn (L.skipU rfl rfl rfl (L.nil (X.dk kn ⟨im, Sub.fresh ib rfl, i.u 9 (fun _ => rfl)⟩)))
          ·rintro D e s708 ⟨im, ib, i⟩ hk hf ha
           have kn := K2 ((i.p 9) (ha.at 8 rfl)) ((i.p 8) (ha.at 7 rfl))
           exact L.kns _ kn (L.skipU rfl rfl rfl (L.nil (X.dk kn ⟨im, Sub.fresh ib rfl, i.u 10 (fun _ => rfl)⟩)))
          ·rintro D e s709 ⟨im, ib, i⟩ hk hf ha
           have kn := K2 (ib 19 _ rfl) ((i.p 8) (ha.at 7 rfl))
           exact L.kns _ kn (L.skipU rfl rfl rfl (L.nil (X.dk kn ⟨im, Sub.fresh ib rfl, i.u 11 (fun _ => rfl)⟩)))
          ·rintro D e s710 ⟨im, ib, i⟩ hk hf ha
           have kn := K3 ((i.p 10) (ha.at 9 rfl)) ((i.p 11) (ha.at 10 rfl)) ((i.p 8) (ha.at 7 rfl))
           exact L.kns _ kn (L.skipU rfl rfl rfl (L.nil (X.dk kn ⟨im, Sub.fresh ib rfl, i.u 12 (fun _ => rfl)⟩)))
          ·rintro D e s711 ⟨im, ib, i⟩ hk hf ha
           have kn := K2 ((i.p 12) (ha.at 11 rfl)) ((i.p 8) (ha.at 7 rfl))
           exact L.kns _ kn (L.skipU rfl rfl rfl (L.nil (X.dk kn ⟨im, Sub.fresh ib rfl, i.u 13 (fun _ => rfl)⟩)))
          ·rintro D e s712 ⟨im, ib, i⟩ hk hf ha
           have kn := K2 ((i.p 13) (ha.at 12 rfl)) ((i.p 8) (ha.at 7 rfl))
           exact L.kns _ kn (L.skipU rfl rfl rfl (L.nil (X.dk kn ⟨im, Sub.fresh ib rfl, i.u 14 (fun _ => rfl)⟩)))
          ·rintro D e s713 ⟨im, ib, i⟩ hk hf ha
           have kn := K2 (ib 17 _ rfl) ((i.p 8) (ha.at 7 rfl))
           exact L.kns _ kn (L.skipU rfl rfl rfl (L.nil (X.dk kn ⟨im, Sub.fresh ib rfl, i.u 15 (fun _ => rfl)⟩)))
          ·rintro D e s714 ⟨im, ib, i⟩ hk hf ha
           have kn := K3 ((i.p 14) (ha.at 13 rfl)) ((i.p 15) (ha.at 14 rfl)) ((i.p 8) (ha.at 7 rfl))
           exact L.kns _ kn (L.skipU rfl rfl rfl (L.nil (X.dk kn ⟨im, Sub.fresh ib rfl, i.u 16 (fun _ => rfl)⟩)))
          ·rintro D e s715 ⟨im, ib, i⟩ hk hf ha
           have g1_ := (i.p 2) (ha.at 1 rfl)
           rw [hc700] at g1_
           have kn := K3 ((i.p 8) (ha.at 7 rfl)) ((i.p 16) (ha.at 15 rfl)) g1_
           exact L.kns _ kn (L.skip rfl rfl rfl rfl (L.nil (X.dk kn ⟨im, Sub.fresh ib rfl, i.u 17 (fun _ => rfl)⟩)))
          ·rintro D e s716 ⟨im, ib, i⟩ hk hf ha
           have g1_ := (i.p 2) (ha.at 1 rfl)
           rw [hc700] at g1_
           have kn := K2 ((i.p 17) (ha.at 16 rfl)) g1_
           exact L.kns _ kn (L.skip rfl rfl rfl rfl (L.nil (X.dk kn ⟨im, Sub.fresh ib rfl, i.u 18 (fun _ => rfl)⟩)))
          ·rintro D e s717 ⟨im, ib, i⟩ hk hf ha
           have kn := K2 (ib 11 _ rfl) ((i.p 18) (ha.at 17 rfl))
           exact L.kns _ kn (L.skipU rfl rfl rfl (L.nil (X.dk kn ⟨im, Sub.fresh ib rfl, i.u 19 (fun _ => rfl)⟩)))
          ·rintro D e s718 ⟨im, ib, i⟩ hk hf ha
           have kn := K2 (ib 8 _ rfl) ((i.p 18) (ha.at 17 rfl))
           exact L.kns _ kn (L.skipU rfl rfl rfl (L.nil (X.dk kn ⟨im, Sub.fresh ib rfl, i.u 20 (fun _ => rfl)⟩)))
          ·rintro D e s719 ⟨im, ib, i⟩ hk hf ha
           have kn := K2 ((i.p 20) (ha.at 19 rfl)) ((i.p 18) (ha.at 17 rfl))
           exact L.kns _ kn (L.skipU rfl rfl rfl (L.nil (X.dk kn ⟨im, Sub.fresh ib rfl, i.u 21 (fun _ => rfl)⟩)))
          ·rintro D e s720 ⟨im, ib, i⟩ hk hf ha
           have kn := K2 (ib 19 _ rfl) ((i.p 18) (ha.at 17 rfl))
           exact L.kns _ kn (L.skipU rfl rfl rfl (L.nil (X.dk kn ⟨im, Sub.fresh ib rfl, i.u 22 (fun _ => rfl)⟩)))
          ·rintro D e s721 ⟨im, ib, i⟩ hk hf ha
           have kn := K3 ((i.p 21) (ha.at 20 rfl)) ((i.p 22) (ha.at 21 rfl)) ((i.p 18) (ha.at 17 rfl))
           exact L.kns _ kn (L.skipU rfl rfl rfl (L.nil (X.dk kn ⟨im, Sub.fresh ib rfl, i.u 23 (fun _ => rfl)⟩)))
          ·rintro D e s722 ⟨im, ib, i⟩ hk hf ha
           have kn := K2 ((i.p 23) (ha.at 22 rfl)) ((i.p 18) (ha.at 17 rfl))
           exact L.kns _ kn (L.skipU rfl rfl rfl (L.nil (X.dk kn ⟨im, Sub.fresh ib rfl, i.u 24 (fun _ => rfl)⟩)))
          ·rintro D e s723 ⟨im, ib, i⟩ hk hf ha
           have kn := K2 ((i.p 24) (ha.at 23 rfl)) ((i.p 18) (ha.at 17 rfl))
           exact L.kns _ kn (L.skipU rfl rfl rfl (L.nil (X.dk kn ⟨im, Sub.fresh ib rfl, i.u 25 (fun _ => rfl)⟩)))
          ·rintro D e s724 ⟨im, ib, i⟩ hk hf ha
           have kn := K3 ((i.p 19) (ha.at 18 rfl)) ((i.p 25) (ha.at 24 rfl)) ((i.p 18) (ha.at 17 rfl))
           exact L.kns _ kn (L.skipU rfl rfl rfl (L.nil (X.dk kn ⟨im, Sub.fresh ib rfl, i.u 26 (fun _ => rfl)⟩)))
          ·rintro D e s725 ⟨im, ib, i⟩ hk hf ha
           have kn := K2 ((i.p 26) (ha.at 25 rfl)) ((i.p 18) (ha.at 17 rfl))
           exact L.kns _ kn (L.skipU rfl rfl rfl (L.nil (X.dk kn ⟨im, Sub.fresh ib rfl, i.u 27 (fun _ => rfl)⟩)))
          ·rintro D e s726 ⟨im, ib, i⟩ hk hf ha
           have kn := K2 (ib 11 _ rfl) ((i.p 18) (ha.at 17 rfl))
           exact L.kns _ kn (L.skipU rfl rfl rfl (L.nil (X.dk kn ⟨im, Sub.fresh ib rfl, i.u 28 (fun _ => rfl)⟩)))
          ·rintro D e s727 ⟨im, ib, i⟩ hk hf ha
           have kn := K2 (ib 17 _ rfl) ((i.p 18) (ha.at 17 rfl))
           exact L.kns _ kn (L.skipU rfl rfl rfl (L.nil (X.dk kn ⟨im, Sub.fresh ib rfl, i.u 29 (fun _ => rfl)⟩)))
          ·rintro D e s728 ⟨im, ib, i⟩ hk hf ha
           have kn := K3 ((i.p 28) (ha.at 27 rfl)) ((i.p 29) (ha.at 28 rfl)) ((i.p 18) (ha.at 17 rfl))
           exact L.kns _ kn (L.skipU rfl rfl rfl (L.nil (X.dk kn ⟨im, Sub.fresh ib rfl, i.u 30 (fun _ => rfl)⟩)))
          ·rintro D e s729 ⟨im, ib, i⟩ hk hf ha
           have kn := K2 ((i.p 30) (ha.at 29 rfl)) ((i.p 18) (ha.at 17 rfl))
           exact L.kns _ kn (L.skipU rfl rfl rfl (L.nil (X.dk kn ⟨im, Sub.fresh ib rfl, i.u 31 (fun _ => rfl)⟩)))
          ·rintro D e s730 ⟨im, ib, i⟩ hk hf ha
           have kn := K3 ((i.p 27) (ha.at 26 rfl)) ((i.p 31) (ha.at 30 rfl)) ((i.p 18) (ha.at 17 rfl))
           exact L.kns _ kn (L.skipU rfl rfl rfl (L.nil (X.dk kn ⟨im, Sub.fresh ib rfl, i.u 32 (fun _ => rfl)⟩)))
          ·rintro D e s731 ⟨im, ib, i⟩ hk hf ha
           have g1_ := (i.p 2) (ha.at 1 rfl)
           rw [hc700] at g1_
           have kn := K3 ((i.p 18) (ha.at 17 rfl)) ((i.p 32) (ha.at 31 rfl)) g1_
           exact L.kns _ kn (L.skip rfl rfl rfl rfl (L.nil (X.dk kn ⟨im, Sub.fresh ib rfl, i.u 33 (fun _ => rfl)⟩)))
          ·rintro D e s732 ⟨im, ib, i⟩ hk hf ha
           have g1_ := (i.p 2) (ha.at 1 rfl)
           rw [hc700] at g1_
           have kn := K2 ((i.p 33) (ha.at 32 rfl)) g1_
           exact L.kns _ kn (L.skip rfl rfl rfl rfl (L.nil (X.dk kn ⟨im, Sub.fresh ib rfl, i.u 34 (fun _ => rfl)⟩)))
          ·rintro D e s733 ⟨im, ib, i⟩ hk hf ha
           have kn := K2 (ib 11 _ rfl) ((i.p 34) (ha.at 33 rfl))
           exact L.kns _ kn (L.skipU rfl rfl rfl (L.nil (X.dk kn ⟨im, Sub.fresh ib rfl, i.u 35 (fun _ => rfl)⟩)))
          ·rintro D e s734 ⟨im, ib, i⟩ hk hf ha
           have kn := K2 (ib 8 _ rfl) ((i.p 34) (ha.at 33 rfl))
           exact L.kns _ kn (L.skipU rfl rfl rfl (L.nil (X.dk kn ⟨im, Sub.fresh ib rfl, i.u 36 (fun _ => rfl)⟩)))
          ·rintro D e s735 ⟨im, ib, i⟩ hk hf ha
           have kn := K2 ((i.p 36) (ha.at 35 rfl)) ((i.p 34) (ha.at 33 rfl))
           exact L.kns _ kn (L.skipU rfl rfl rfl (L.nil (X.dk kn ⟨im, Sub.fresh ib rfl, i.u 37 (fun _ => rfl)⟩)))
          ·rintro D e s736 ⟨im, ib, i⟩ hk hf ha
           have kn := K2 (ib 19 _ rfl) ((i.p 34) (ha.at 33 rfl))
           exact L.kns _ kn (L.skipU rfl rfl rfl (L.nil (X.dk kn ⟨im, Sub.fresh ib rfl, i.u 38 (fun _ => rfl)⟩)))
          ·rintro D e s737 ⟨im, ib, i⟩ hk hf ha
           have kn := K3 ((i.p 37) (ha.at 36 rfl)) ((i.p 38) (ha.at 37 rfl)) ((i.p 34) (ha.at 33 rfl))
           exact L.kns _ kn (L.skipU rfl rfl rfl (L.nil (X.dk kn ⟨im, Sub.fresh ib rfl, i.u 39 (fun _ => rfl)⟩)))
          ·rintro D e s738 ⟨im, ib, i⟩ hk hf ha
           have kn := K2 ((i.p 39) (ha.at 38 rfl)) ((i.p 34) (ha.at 33 rfl))
           exact L.kns _ kn (L.skipU rfl rfl rfl (L.nil (X.dk kn ⟨im, Sub.fresh ib rfl, i.u 40 (fun _ => rfl)⟩)))
          ·rintro D e s739 ⟨im, ib, i⟩ hk hf ha
           have kn := K2 ((i.p 40) (ha.at 39 rfl)) ((i.p 34) (ha.at 33 rfl))
           exact L.kns _ kn (L.skipU rfl rfl rfl (L.nil (X.dk kn ⟨im, Sub.fresh ib rfl, i.u 41 (fun _ => rfl)⟩)))
          ·rintro D e s740 ⟨im, ib, i⟩ hk hf ha
           have kn := K3 ((i.p 35) (ha.at 34 rfl)) ((i.p 41) (ha.at 40 rfl)) ((i.p 34) (ha.at 33 rfl))
           exact L.kns _ kn (L.skipU rfl rfl rfl (L.nil (X.dk kn ⟨im, Sub.fresh ib rfl, i.u 42 (fun _ => rfl)⟩)))
          ·rintro D e s741 ⟨im, ib, i⟩ hk hf ha
           have kn := K2 ((i.p 42) (ha.at 41 rfl)) ((i.p 34) (ha.at 33 rfl))
           exact L.kns _ kn (L.skipU rfl rfl rfl (L.nil (X.dk kn ⟨im, Sub.fresh ib rfl, i.u 43 (fun _ => rfl)⟩)))
          ·rintro D e s742 ⟨im, ib, i⟩ hk hf ha
           have kn := K2 ((i.p 43) (ha.at 42 rfl)) ((i.p 34) (ha.at 33 rfl))
           exact L.kns _ kn (L.skipU rfl rfl rfl (L.nil (X.dk kn ⟨im, Sub.fresh ib rfl, i.u 44 (fun _ => rfl)⟩)))
          ·rintro D e s743 ⟨im, ib, i⟩ hk hf ha
           have g1_ := (i.p 2) (ha.at 1 rfl)
           rw [hc700] at g1_
           have kn := K3 ((i.p 34) (ha.at 33 rfl)) ((i.p 44) (ha.at 43 rfl)) g1_
           exact L.kns _ kn (L.skip rfl rfl rfl rfl (L.nil (X.dk kn ⟨im, Sub.fresh ib rfl, i.u 45 (fun _ => rfl)⟩)))
          ·rintro D e s744 ⟨im, ib, i⟩ hk hf ha
           have g1_ := (i.p 2) (ha.at 1 rfl)
           rw [hc700] at g1_
           have kn := K2 g1_ ((i.p 45) (ha.at 44 rfl))
           exact L.kns _ kn (L.pkT Wt.no rfl rfl rfl rfl (L.nil (X.dk kn ⟨im, Sub.fresh ib rfl, i.u 46 (fun _ => rfl)⟩)))
          rintro D e s745 ⟨im, ib, i⟩ hk hf ha
          have kn := K1 ((i.p 46) (ha.at 45 rfl))
          exact L.kns _ kn (L.as Wt.no rfl rfl (L.nil (X.dk kn ⟨im, Sub.fresh ib rfl, (i.u 0 (fun z => Bool.noConfusion (show true = false from z))).u 47 (fun _ => rfl)⟩)))
         rintro D e s746 hD ⟨im, ib, i⟩
         have g46_ := (i.p 47) (hD 46 rfl)
         have h26 := h26.mv im no_No no_No
         have bx18 := bx18.mv im no_No
         have h14 := h14.mono (im.le no_No)
         have h15 := h15.mono (im.le no_No)
         have h16 := h16.mono (im.le no_No)
         have h10 := h10.mono (im.le no_No)
         have m0 := m0.trans im.no
         refine X.sub (e' := [(18, .bool true), (19, .int .i64 st690.1), (17, .int .i64 st471.1), (16, .int .i64 st471.2), (11, .slice a26 x45.length c26), (8, .pointer (some ⟨b18, 0, none⟩)), (7, .slice a10 r7.length c10)]) ?_ (Sub.cons g46_ (Sub.cons (ib 19 _ rfl) (Sub.cons (ib 17 _ rfl) (Sub.cons (ib 16 _ rfl) (Sub.cons (ib 11 _ rfl) (Sub.cons (ib 8 _ rfl) (Sub.cons (ib 7 _ rfl) Sub.nil)))))))
         exact X.blkN (X.sub (Jj697 _ _ ⟨s746, true, hm, m0, h26, h10, h14, h15, h16, bx18, rfl, rfl⟩) (Sub.rf rfl))
        have _ := hN
        obtain ⟨x750, ex750, hm⟩ := bindS hm
        rcases ifS hm with ⟨hc755, hm⟩ | ⟨hc755, hm⟩
        ·have _ := hN
         obtain ⟨x760, ex760, hm⟩ := bindS hm
         rcases ifS hm with ⟨hc768, hm⟩ | ⟨hc768, hm⟩
         ·have _ := hN
          obtain ⟨x774, ex774, hm⟩ := bindS hm
          obtain ⟨x779, ex779, hm⟩ := bindS hm
          obtain ⟨x785, ex785, hm⟩ := bindS hm
          rcases ifS hm with ⟨hc791, hm⟩ | ⟨hc791, hm⟩
          ·have _ := hN
           obtain ⟨x797, ex797, hm⟩ := bindS hm
           obtain ⟨x802, ex802, hm⟩ := bindS hm
           refine E.draw m_overseerlaw24_BlockingVerifies_w0 (fun D e sx => Mv No s692 sx ∧ Sub [(19, .int .i64 st690.1), (17, .int .i64 st471.1), (16, .int .i64 st471.2), (11, .slice a26 x45.length c26), (8, .pointer (some ⟨b18, 0, none⟩)), (7, .slice a10 r7.length c10)] e ∧ AllP [D 46 = false → Env.get e 18 = some (.bool st690.2), G D e 0 109 (.bool st690.2), G D e 1 110 (.bool st690.2), G D e 2 111 (.slice a26 x45.length c26), G D e 3 112 (.int .i64 st471.1), D 4 = true → (∃ (b751 : Nat) (o751 : Nat), Env.get e 113 = some (.pointer (some ⟨b751, o751, none⟩)) ∧ Mem sx (N + 2) b751 o751 [.int .i64 x750] ∧ Spot a26 (rK .i64).sz (st471.1).toNat b751 o751), G D e 5 114 (.int .i64 x750), G D e 6 115 (.bool (decide (x750 > 0))), G D e 7 116 (.bool (decide (x750 > 0))), G D e 8 117 (.pointer (some ⟨b18, 3, none⟩)), G D e 9 118 (.slice a16 r11.1.2.2.2.length c16), G D e 10 119 (.int .i64 st690.1), D 11 = true → (∃ (b761 : Nat) (o761 : Nat), Env.get e 120 = some (.pointer (some ⟨b761, o761, none⟩)) ∧ Mem sx 0 b761 o761 [.int .i64 x760.1, .int .i64 x760.2.1, .int .i64 x760.2.2]), D 12 = true → ∀ (b761 : Nat) (o761 : Nat), Env.get e 120 = some (.pointer (some ⟨b761, o761, none⟩)) → (Env.get e 121 = some (.pointer (some ⟨b761, o761 + 0, none⟩))), G D e 13 122 (.int .i64 x760.1), G D e 14 123 (.int .i64 st471.1), G D e 15 124 (.bool (x760.1 == st471.1)), G D e 16 125 (.bool (x760.1 == st471.1)), G D e 17 126 (.bool (x760.1 == st471.1)), G D e 18 127 (.slice a26 x45.length c26), G D e 19 128 (.pointer (some ⟨b18, 3, none⟩)), G D e 20 129 (.slice a16 r11.1.2.2.2.length c16), G D e 21 130 (.int .i64 st690.1), D 22 = true → (∃ (b775 : Nat) (o775 : Nat), Env.get e 131 = some (.pointer (some ⟨b775, o775, none⟩)) ∧ Mem sx 0 b775 o775 [.int .i64 x774.1, .int .i64 x774.2.1, .int .i64 x774.2.2]), D 23 = true → ∀ (b775 : Nat) (o775 : Nat), Env.get e 131 = some (.pointer (some ⟨b775, o775, none⟩)) → (Env.get e 132 = some (.pointer (some ⟨b775, o775 + 2, none⟩))), G D e 24 133 (.int .i64 x774.2.2), D 25 = true → (∃ (b780 : Nat) (o780 : Nat), Env.get e 134 = some (.pointer (some ⟨b780, o780, none⟩)) ∧ Mem sx (N + 2) b780 o780 [.int .i64 x779] ∧ Spot a26 (rK .i64).sz (x774.2.2).toNat b780 o780), G D e 26 135 (.int .i64 x779), G D e 27 136 (.slice a26 x45.length c26), G D e 28 137 (.int .i64 st471.1), D 29 = true → (∃ (b786 : Nat) (o786 : Nat), Env.get e 138 = some (.pointer (some ⟨b786, o786, none⟩)) ∧ Mem sx (N + 2) b786 o786 [.int .i64 x785] ∧ Spot a26 (rK .i64).sz (st471.1).toNat b786 o786), G D e 30 139 (.int .i64 x785), G D e 31 140 (.bool (decide (x779 < x785))), G D e 32 141 (.bool (decide (x779 < x785))), G D e 33 142 (.bool (decide (x779 < x785))), G D e 34 143 (.slice a26 x45.length c26), G D e 35 144 (.pointer (some ⟨b18, 3, none⟩)), G D e 36 145 (.slice a16 r11.1.2.2.2.length c16), G D e 37 146 (.int .i64 st690.1), D 38 = true → (∃ (b798 : Nat) (o798 : Nat), Env.get e 147 = some (.pointer (some ⟨b798, o798, none⟩)) ∧ Mem sx 0 b798 o798 [.int .i64 x797.1, .int .i64 x797.2.1, .int .i64 x797.2.2]), D 39 = true → ∀ (b798 : Nat) (o798 : Nat), Env.get e 147 = some (.pointer (some ⟨b798, o798, none⟩)) → (Env.get e 148 = some (.pointer (some ⟨b798, o798 + 2, none⟩))), G D e 40 149 (.int .i64 x797.2.2), D 41 = true → (∃ (b803 : Nat) (o803 : Nat), Env.get e 150 = some (.pointer (some ⟨b803, o803, none⟩)) ∧ Mem sx (N + 2) b803 o803 [.int .i64 x802] ∧ Spot a26 (rK .i64).sz (x797.2.2).toNat b803 o803), G D e 42 151 (.int .i64 x802), G D e 43 152 (.bool (decide (x802 ≥ 0))), G D e 44 153 (.bool (decide (x802 ≥ 0))), G D e 45 154 (.bool (decide (x802 ≥ 0))), G D e 46 18 (.bool (decide (x802 ≥ 0)))]) (by kernel_rfl) (by kernel_rfl) (by kernel_rfl) ?_ ?_ ?_
           ·intro sz mz
            exact ⟨mz, (Sub.rf rfl), fun _ => rfl, nofun, nofun, nofun, nofun, nofun, nofun, nofun, nofun, nofun, nofun, nofun, nofun, nofun, nofun, nofun, nofun, nofun, nofun, nofun, nofun, nofun, nofun, nofun, nofun, nofun, nofun, nofun, nofun, nofun, nofun, nofun, nofun, nofun, nofun, nofun, nofun, nofun, nofun, nofun, nofun, nofun, nofun, nofun, nofun, nofun, nofun, nofun, trivial⟩
           ·refine ⟨?_, ?_, ?_, ?_, ?_, ?_, ?_, ?_, ?_, ?_, ?_, ?_, ?_, ?_, ?_, ?_, ?_, ?_, ?_, ?_, ?_, ?_, ?_, ?_, ?_, ?_, ?_, ?_, ?_, ?_, ?_, ?_, ?_, ?_, ?_, ?_, ?_, ?_, ?_, ?_, ?_, ?_, ?_, ?_, ?_, ?_, ?_, trivial⟩
            ·rintro D e s698 ⟨im, ib, i⟩ hk hf ha
             have kn := K1 ((i.p 0) (hf 46 (Nat.le_of_ble_eq_true rfl) rfl))
             exact L.kns _ kn (L.mv Wt.no rfl rfl (L.nil (X.dk kn ⟨im, Sub.fresh ib rfl, i.u 1 (fun _ => rfl)⟩)))
            ·rintro D e s699 ⟨im, ib, i⟩ hk hf ha
             have kn := K1 ((i.p 1) (ha.at 0 rfl))
             exact L.kns _ kn (L.mv Wt.no rfl rfl (L.nil (X.dk kn ⟨im, Sub.fresh ib rfl, i.u 2 (fun _ => rfl)⟩)))
            ·rintro D e s747 ⟨im, ib, i⟩ hk hf ha
             have g1_ := (i.p 2) (ha.at 1 rfl)
             rw [hc700] at g1_
             have kn := K2 (ib 11 _ rfl) g1_
             exact L.kns _ kn (L.mv (Wt.mk rfl rfl) rfl rfl (L.nil (X.dk kn ⟨im, Sub.fresh ib rfl, i.u 3 (fun _ => rfl)⟩)))
            ·rintro D e s748 ⟨im, ib, i⟩ hk hf ha
             have g1_ := (i.p 2) (ha.at 1 rfl)
             rw [hc700] at g1_
             have kn := K2 (ib 17 _ rfl) g1_
             exact L.kns _ kn (L.mv (Wt.mk rfl rfl) rfl rfl (L.nil (X.dk kn ⟨im, Sub.fresh ib rfl, i.u 4 (fun _ => rfl)⟩)))
            ·rintro D e s749 ⟨im, ib, i⟩ hk hf ha
             have g1_ := (i.p 2) (ha.at 1 rfl)
             have h26 := h26.mv im no_No no_No
             rw [hc700] at g1_
             have kn := K3 ((i.p 3) (ha.at 2 rfl)) ((i.p 4) (ha.at 3 rfl)) g1_
             refine L.kns _ kn (L.ir (r := (rK .i64)) sl31 h26 (Wt.mk rfl rfl) rfl rfl ex750 rfl fun b751 o751 cc751 me751 rd751 sp751 => ?_)
             obtain rfl := rd751
             exact L.nil (X.dk kn ⟨im, Sub.fresh ib rfl, i.u 5 (fun _ => ⟨b751, o751, rfl, me751, sp751⟩)⟩)
            ·rintro D e s752 ⟨im, ib, i⟩ hk hf ha
             have g1_ := (i.p 2) (ha.at 1 rfl)
             obtain ⟨b751, o751, g4_, me751, sp751⟩ := (i.p 5) (ha.at 4 rfl)
             rw [hc700] at g1_
             have kn := K2 g4_ g1_
             exact L.kns _ kn (L.ld (j := 0) me751 nag3 (Wt.mk rfl rfl) rfl rfl rfl rfl (L.nil (X.dk kn ⟨im, Sub.fresh ib rfl, i.u 6 (fun _ => rfl)⟩)))
            ·rintro D e s753 ⟨im, ib, i⟩ hk hf ha
             have g1_ := (i.p 2) (ha.at 1 rfl)
             rw [hc700] at g1_
             have kn := K2 ((i.p 6) (ha.at 5 rfl)) g1_
             exact L.kns _ kn (L.bi (Wt.mk rfl rfl) rfl rfl rfl rfl (L.nil (X.dk kn ⟨im, Sub.fresh ib rfl, i.u 7 (fun _ => rfl)⟩)))
            ·rintro D e s754 ⟨im, ib, i⟩ hk hf ha
             have g1_ := (i.p 2) (ha.at 1 rfl)
             rw [hc700] at g1_
             have kn := K2 ((i.p 7) (ha.at 6 rfl)) g1_
             exact L.kns _ kn (L.mv (Wt.mk rfl rfl) rfl rfl (L.nil (X.dk kn ⟨im, Sub.fresh ib rfl, i.u 8 (fun _ => rfl)⟩)))
            ·rintro D e s756 ⟨im, ib, i⟩ hk hf ha
             have g7_ := (i.p 8) (ha.at 7 rfl)
             rw [hc755] at g7_
             have kn := K2 (ib 8 _ rfl) g7_
             exact L.kns _ kn (L.fa fa34_3 (Wt.mk rfl rfl) rfl rfl (L.nil (X.dk kn ⟨im, Sub.fresh ib rfl, i.u 9 (fun _ => rfl)⟩)))
            ·rintro D e s757 ⟨im, ib, i⟩ hk hf ha
             have g7_ := (i.p 8) (ha.at 7 rfl)
             have bx18 := bx18.mv im no_No
             rw [hc755] at g7_
             have kn := K2 ((i.p 9) (ha.at 8 rfl)) g7_
             exact L.kns _ kn (L.ld (j := 3) bx18.mem nag32 (Wt.mk rfl rfl) rfl rfl rfl rfl (L.nil (X.dk kn ⟨im, Sub.fresh ib rfl, i.u 10 (fun _ => rfl)⟩)))
            ·rintro D e s758 ⟨im, ib, i⟩ hk hf ha
             have g7_ := (i.p 8) (ha.at 7 rfl)
             rw [hc755] at g7_
             have kn := K2 (ib 19 _ rfl) g7_
             exact L.kns _ kn (L.mv (Wt.mk rfl rfl) rfl rfl (L.nil (X.dk kn ⟨im, Sub.fresh ib rfl, i.u 11 (fun _ => rfl)⟩)))
            ·rintro D e s759 ⟨im, ib, i⟩ hk hf ha
             have g7_ := (i.p 8) (ha.at 7 rfl)
             have h16 := h16.mono (im.le no_No)
             rw [hc755] at g7_
             have kn := K3 ((i.p 10) (ha.at 9 rfl)) ((i.p 11) (ha.at 10 rfl)) g7_
             refine L.kns _ kn (L.ix (r := (rP (rK .i64) (rP (rK .i64) (rK .i64)))) sl32 h16 (Wt.mk rfl rfl) rfl rfl ex760 rfl fun b761 o761 cc761 me761 rd761 => ?_)
             obtain ⟨_, _, rfl, rfl, ⟨_, _, rfl, rfl, rfl⟩⟩ := rd761
             exact L.nil (X.dk kn ⟨im, Sub.fresh ib rfl, (i.u 12 (fun _ => ⟨b761, o761, rfl, me761⟩)).u 13 (fun z => Bool.noConfusion ((hf 12 (Nat.le_of_ble_eq_true rfl) rfl).symm.trans z))⟩)
            ·rintro D e s762 ⟨im, ib, i⟩ hk hf ha
             have g7_ := (i.p 8) (ha.at 7 rfl)
             obtain ⟨b761, o761, g11_, me761⟩ := (i.p 12) (ha.at 11 rfl)
             rw [hc755] at g7_
             have kn := K2 g11_ g7_
             exact L.kns _ kn (L.fa fa58_0 (Wt.mk rfl rfl) rfl rfl (L.nil (X.dk kn ⟨im, Sub.fresh ib rfl, i.u 13 (fun _ _ _ q11 => by cases g11_.symm.trans q11; exact rfl)⟩)))
            ·rintro D e s763 ⟨im, ib, i⟩ hk hf ha
             have g7_ := (i.p 8) (ha.at 7 rfl)
             obtain ⟨b761, o761, g11_, me761⟩ := (i.p 12) (ha.at 11 rfl)
             have g12_ := (i.p 13) (ha.at 12 rfl) b761 o761 g11_
             rw [hc755] at g7_
             have kn := K2 g12_ g7_
             exact L.kns _ kn (L.ld (j := 0) me761 nag3 (Wt.mk rfl rfl) rfl rfl rfl rfl (L.nil (X.dk kn ⟨im, Sub.fresh ib rfl, i.u 14 (fun _ => rfl)⟩)))
            ·rintro D e s764 ⟨im, ib, i⟩ hk hf ha
             have g7_ := (i.p 8) (ha.at 7 rfl)
             rw [hc755] at g7_
             have kn := K2 (ib 17 _ rfl) g7_
             exact L.kns _ kn (L.mv (Wt.mk rfl rfl) rfl rfl (L.nil (X.dk kn ⟨im, Sub.fresh ib rfl, i.u 15 (fun _ => rfl)⟩)))
            ·rintro D e s765 ⟨im, ib, i⟩ hk hf ha
             have g7_ := (i.p 8) (ha.at 7 rfl)
             rw [hc755] at g7_
             have kn := K3 ((i.p 14) (ha.at 13 rfl)) ((i.p 15) (ha.at 14 rfl)) g7_
             exact L.kns _ kn (L.bi (Wt.mk rfl rfl) rfl rfl rfl rfl (L.nil (X.dk kn ⟨im, Sub.fresh ib rfl, i.u 16 (fun _ => rfl)⟩)))
            ·rintro D e s766 ⟨im, ib, i⟩ hk hf ha
             have g1_ := (i.p 2) (ha.at 1 rfl)
             have g7_ := (i.p 8) (ha.at 7 rfl)
             rw [hc755] at g7_
             rw [hc700] at g1_
             have kn := K3 g7_ ((i.p 16) (ha.at 15 rfl)) g1_
             exact L.kns _ kn (L.pkT (Wt.mk rfl rfl) rfl rfl rfl rfl (L.nil (X.dk kn ⟨im, Sub.fresh ib rfl, i.u 17 (fun _ => rfl)⟩)))
            ·rintro D e s767 ⟨im, ib, i⟩ hk hf ha
             have g1_ := (i.p 2) (ha.at 1 rfl)
             rw [hc700] at g1_
             have kn := K2 ((i.p 17) (ha.at 16 rfl)) g1_
             exact L.kns _ kn (L.mv (Wt.mk rfl rfl) rfl rfl (L.nil (X.dk kn ⟨im, Sub.fresh ib rfl, i.u 18 (fun _ => rfl)⟩)))
            ·rintro D e s769 ⟨im, ib, i⟩ hk hf ha
             have g17_ := (i.p 18) (ha.at 17 rfl)
             rw [hc768] at g17_
             have kn := K2 (ib 11 _ rfl) g17_
             exact L.kns _ kn (L.mv (Wt.mk rfl rfl) rfl rfl (L.nil (X.dk kn ⟨im, Sub.fresh ib rfl, i.u 19 (fun _ => rfl)⟩)))
            ·rintro D e s770 ⟨im, ib, i⟩ hk hf ha
             have g17_ := (i.p 18) (ha.at 17 rfl)
             rw [hc768] at g17_
             have kn := K2 (ib 8 _ rfl) g17_
             exact L.kns _ kn (L.fa fa34_3 (Wt.mk rfl rfl) rfl rfl (L.nil (X.dk kn ⟨im, Sub.fresh ib rfl, i.u 20 (fun _ => rfl)⟩)))
            ·rintro D e s771 ⟨im, ib, i⟩ hk hf ha
             have g17_ := (i.p 18) (ha.at 17 rfl)
             have bx18 := bx18.mv im no_No
             rw [hc768] at g17_
             have kn := K2 ((i.p 20) (ha.at 19 rfl)) g17_
             exact L.kns _ kn (L.ld (j := 3) bx18.mem nag32 (Wt.mk rfl rfl) rfl rfl rfl rfl (L.nil (X.dk kn ⟨im, Sub.fresh ib rfl, i.u 21 (fun _ => rfl)⟩)))
            ·rintro D e s772 ⟨im, ib, i⟩ hk hf ha
             have g17_ := (i.p 18) (ha.at 17 rfl)
             rw [hc768] at g17_
             have kn := K2 (ib 19 _ rfl) g17_
             exact L.kns _ kn (L.mv (Wt.mk rfl rfl) rfl rfl (L.nil (X.dk kn ⟨im, Sub.fresh ib rfl, i.u 22 (fun _ => rfl)⟩)))
            ·rintro D e s773 ⟨im, ib, i⟩ hk hf ha
             have g17_ := (i.p 18) (ha.at 17 rfl)
             have h16 := h16.mono (im.le no_No)
             rw [hc768] at g17_
             have kn := K3 ((i.p 21) (ha.at 20 rfl)) ((i.p 22) (ha.at 21 rfl)) g17_
             refine L.kns _ kn (L.ix (r := (rP (rK .i64) (rP (rK .i64) (rK .i64)))) sl32 h16 (Wt.mk rfl rfl) rfl rfl ex774 rfl fun b775 o775 cc775 me775 rd775 => ?_)
             obtain ⟨_, _, rfl, rfl, ⟨_, _, rfl, rfl, rfl⟩⟩ := rd775
             exact L.nil (X.dk kn ⟨im, Sub.fresh ib rfl, (i.u 23 (fun _ => ⟨b775, o775, rfl, me775⟩)).u 24 (fun z => Bool.noConfusion ((hf 23 (Nat.le_of_ble_eq_true rfl) rfl).symm.trans z))⟩)
            ·rintro D e s776 ⟨im, ib, i⟩ hk hf ha
             have g17_ := (i.p 18) (ha.at 17 rfl)
             obtain ⟨b775, o775, g22_, me775⟩ := (i.p 23) (ha.at 22 rfl)
             rw [hc768] at g17_
             have kn := K2 g22_ g17_
             exact L.kns _ kn (L.fa fa58_2 (Wt.mk rfl rfl) rfl rfl (L.nil (X.dk kn ⟨im, Sub.fresh ib rfl, i.u 24 (fun _ _ _ q22 => by cases g22_.symm.trans q22; exact rfl)⟩)))
            ·rintro D e s777 ⟨im, ib, i⟩ hk hf ha
             have g17_ := (i.p 18) (ha.at 17 rfl)
             obtain ⟨b775, o775, g22_, me775⟩ := (i.p 23) (ha.at 22 rfl)
             have g23_ := (i.p 24) (ha.at 23 rfl) b775 o775 g22_
             rw [hc768] at g17_
             have kn := K2 g23_ g17_
             exact L.kns _ kn (L.ld (j := 2) me775 nag3 (Wt.mk rfl rfl) rfl rfl rfl rfl (L.nil (X.dk kn ⟨im, Sub.fresh ib rfl, i.u 25 (fun _ => rfl)⟩)))
            ·rintro D e s778 ⟨im, ib, i⟩ hk hf ha
             have g17_ := (i.p 18) (ha.at 17 rfl)
             have h26 := h26.mv im no_No no_No
             rw [hc768] at g17_
             have kn := K3 ((i.p 19) (ha.at 18 rfl)) ((i.p 25) (ha.at 24 rfl)) g17_
             refine L.kns _ kn (L.ir (r := (rK .i64)) sl31 h26 (Wt.mk rfl rfl) rfl rfl ex779 rfl fun b780 o780 cc780 me780 rd780 sp780 => ?_)
             obtain rfl := rd780
             exact L.nil (X.dk kn ⟨im, Sub.fresh ib rfl, i.u 26 (fun _ => ⟨b780, o780, rfl, me780, sp780⟩)⟩)
            ·rintro D e s781 ⟨im, ib, i⟩ hk hf ha
             have g17_ := (i.p 18) (ha.at 17 rfl)
             obtain ⟨b780, o780, g25_, me780, sp780⟩ := (i.p 26) (ha.at 25 rfl)
             rw [hc768] at g17_
             have kn := K2 g25_ g17_
             exact L.kns _ kn (L.ld (j := 0) me780 nag3 (Wt.mk rfl rfl) rfl rfl rfl rfl (L.nil (X.dk kn ⟨im, Sub.fresh ib rfl, i.u 27 (fun _ => rfl)⟩)))
            ·rintro D e s782 ⟨im, ib, i⟩ hk hf ha
             have g17_ := (i.p 18) (ha.at 17 rfl)
             rw [hc768] at g17_
             have kn := K2 (ib 11 _ rfl) g17_
             exact L.kns _ kn (L.mv (Wt.mk rfl rfl) rfl rfl (L.nil (X.dk kn ⟨im, Sub.fresh ib rfl, i.u 28 (fun _ => rfl)⟩)))
            ·rintro D e s783 ⟨im, ib, i⟩ hk hf ha
             have g17_ := (i.p 18) (ha.at 17 rfl)
             rw [hc768] at g17_
             have kn := K2 (ib 17 _ rfl) g17_
             exact L.kns _ kn (L.mv (Wt.mk rfl rfl) rfl rfl (L.nil (X.dk kn ⟨im, Sub.fresh ib rfl, i.u 29 (fun _ => rfl)⟩)))
            ·rintro D e s784 ⟨im, ib, i⟩ hk hf ha
             have g17_ := (i.p 18) (ha.at 17 rfl)
             have h26 := h26.mv im no_No no_No
             rw [hc768] at g17_
             have kn := K3 ((i.p 28) (ha.at 27 rfl)) ((i.p 29) (ha.at 28 rfl)) g17_
             refine L.kns _ kn (L.ir (r := (rK .i64)) sl31 h26 (Wt.mk rfl rfl) rfl rfl ex785 rfl fun b786 o786 cc786 me786 rd786 sp786 => ?_)
             obtain rfl := rd786
             exact L.nil (X.dk kn ⟨im, Sub.fresh ib rfl, i.u 30 (fun _ => ⟨b786, o786, rfl, me786, sp786⟩)⟩)
            ·rintro D e s787 ⟨im, ib, i⟩ hk hf ha
             have g17_ := (i.p 18) (ha.at 17 rfl)
             obtain ⟨b786, o786, g29_, me786, sp786⟩ := (i.p 30) (ha.at 29 rfl)
             rw [hc768] at g17_
             have kn := K2 g29_ g17_
             exact L.kns _ kn (L.ld (j := 0) me786 nag3 (Wt.mk rfl rfl) rfl rfl rfl rfl (L.nil (X.dk kn ⟨im, Sub.fresh ib rfl, i.u 31 (fun _ => rfl)⟩)))
            ·rintro D e s788 ⟨im, ib, i⟩ hk hf ha
             have g17_ := (i.p 18) (ha.at 17 rfl)
             rw [hc768] at g17_
             have kn := K3 ((i.p 27) (ha.at 26 rfl)) ((i.p 31) (ha.at 30 rfl)) g17_
             exact L.kns _ kn (L.bi (Wt.mk rfl rfl) rfl rfl rfl rfl (L.nil (X.dk kn ⟨im, Sub.fresh ib rfl, i.u 32 (fun _ => rfl)⟩)))
            ·rintro D e s789 ⟨im, ib, i⟩ hk hf ha
             have g1_ := (i.p 2) (ha.at 1 rfl)
             have g17_ := (i.p 18) (ha.at 17 rfl)
             rw [hc768] at g17_
             rw [hc700] at g1_
             have kn := K3 g17_ ((i.p 32) (ha.at 31 rfl)) g1_
             exact L.kns _ kn (L.pkT (Wt.mk rfl rfl) rfl rfl rfl rfl (L.nil (X.dk kn ⟨im, Sub.fresh ib rfl, i.u 33 (fun _ => rfl)⟩)))
            ·rintro D e s790 ⟨im, ib, i⟩ hk hf ha
             have g1_ := (i.p 2) (ha.at 1 rfl)
             rw [hc700] at g1_
             have kn := K2 ((i.p 33) (ha.at 32 rfl)) g1_
             exact L.kns _ kn (L.mv (Wt.mk rfl rfl) rfl rfl (L.nil (X.dk kn ⟨im, Sub.fresh ib rfl, i.u 34 (fun _ => rfl)⟩)))
            ·rintro D e s792 ⟨im, ib, i⟩ hk hf ha
             have g33_ := (i.p 34) (ha.at 33 rfl)
             rw [hc791] at g33_
             have kn := K2 (ib 11 _ rfl) g33_
             exact L.kns _ kn (L.mv (Wt.mk rfl rfl) rfl rfl (L.nil (X.dk kn ⟨im, Sub.fresh ib rfl, i.u 35 (fun _ => rfl)⟩)))
            ·rintro D e s793 ⟨im, ib, i⟩ hk hf ha
             have g33_ := (i.p 34) (ha.at 33 rfl)
             rw [hc791] at g33_
             have kn := K2 (ib 8 _ rfl) g33_
             exact L.kns _ kn (L.fa fa34_3 (Wt.mk rfl rfl) rfl rfl (L.nil (X.dk kn ⟨im, Sub.fresh ib rfl, i.u 36 (fun _ => rfl)⟩)))
            ·rintro D e s794 ⟨im, ib, i⟩ hk hf ha
             have g33_ := (i.p 34) (ha.at 33 rfl)
             have bx18 := bx18.mv im no_No
             rw [hc791] at g33_
             have kn := K2 ((i.p 36) (ha.at 35 rfl)) g33_
             exact L.kns _ kn (L.ld (j := 3) bx18.mem nag32 (Wt.mk rfl rfl) rfl rfl rfl rfl (L.nil (X.dk kn ⟨im, Sub.fresh ib rfl, i.u 37 (fun _ => rfl)⟩)))
            ·rintro D e s795 ⟨im, ib, i⟩ hk hf ha
             have g33_ := (i.p 34) (ha.at 33 rfl)
             rw [hc791] at g33_
             have kn := K2 (ib 19 _ rfl) g33_
             exact L.kns _ kn (L.mv (Wt.mk rfl rfl) rfl rfl (L.nil (X.dk kn ⟨im, Sub.fresh ib rfl, i.u 38 (fun _ => rfl)⟩)))
            ·rintro D e s796 ⟨im, ib, i⟩ hk hf ha
             have g33_ := (i.p 34) (ha.at 33 rfl)
             have h16 := h16.mono (im.le no_No)
             rw [hc791] at g33_
             have kn := K3 ((i.p 37) (ha.at 36 rfl)) ((i.p 38) (ha.at 37 rfl)) g33_
             refine L.kns _ kn (L.ix (r := (rP (rK .i64) (rP (rK .i64) (rK .i64)))) sl32 h16 (Wt.mk rfl rfl) rfl rfl ex797 rfl fun b798 o798 cc798 me798 rd798 => ?_)
             obtain ⟨_, _, rfl, rfl, ⟨_, _, rfl, rfl, rfl⟩⟩ := rd798
             exact L.nil (X.dk kn ⟨im, Sub.fresh ib rfl, (i.u 39 (fun _ => ⟨b798, o798, rfl, me798⟩)).u 40 (fun z => Bool.noConfusion ((hf 39 (Nat.le_of_ble_eq_true rfl) rfl).symm.trans z))⟩)
            ·rintro D e s799 ⟨im, ib, i⟩ hk hf ha
             have g33_ := (i.p 34) (ha.at 33 rfl)
             obtain ⟨b798, o798, g38_, me798⟩ := (i.p 39) (ha.at 38 rfl)
             rw [hc791] at g33_
             have kn := K2 g38_ g33_
             exact L.kns _ kn (L.fa fa58_2 (Wt.mk rfl rfl) rfl rfl (L.nil (X.dk kn ⟨im, Sub.fresh ib rfl, i.u 40 (fun _ _ _ q38 => by cases g38_.symm.trans q38; exact rfl)⟩)))
            ·rintro D e s800 ⟨im, ib, i⟩ hk hf ha
             have g33_ := (i.p 34) (ha.at 33 rfl)
             obtain ⟨b798, o798, g38_, me798⟩ := (i.p 39) (ha.at 38 rfl)
             have g39_ := (i.p 40) (ha.at 39 rfl) b798 o798 g38_
             rw [hc791] at g33_
             have kn := K2 g39_ g33_
             exact L.kns _ kn (L.ld (j := 2) me798 nag3 (Wt.mk rfl rfl) rfl rfl rfl rfl (L.nil (X.dk kn ⟨im, Sub.fresh ib rfl, i.u 41 (fun _ => rfl)⟩)))
            ·rintro D e s801 ⟨im, ib, i⟩ hk hf ha
             have g33_ := (i.p 34) (ha.at 33 rfl)
             have h26 := h26.mv im no_No no_No
             rw [hc791] at g33_
             have kn := K3 ((i.p 35) (ha.at 34 rfl)) ((i.p 41) (ha.at 40 rfl)) g33_
             refine L.kns _ kn (L.ir (r := (rK .i64)) sl31 h26 (Wt.mk rfl rfl) rfl rfl ex802 rfl fun b803 o803 cc803 me803 rd803 sp803 => ?_)
             obtain rfl := rd803
             exact L.nil (X.dk kn ⟨im, Sub.fresh ib rfl, i.u 42 (fun _ => ⟨b803, o803, rfl, me803, sp803⟩)⟩)
            ·rintro D e s804 ⟨im, ib, i⟩ hk hf ha
             have g33_ := (i.p 34) (ha.at 33 rfl)
             obtain ⟨b803, o803, g41_, me803, sp803⟩ := (i.p 42) (ha.at 41 rfl)
             rw [hc791] at g33_
             have kn := K2 g41_ g33_
             exact L.kns _ kn (L.ld (j := 0) me803 nag3 (Wt.mk rfl rfl) rfl rfl rfl rfl (L.nil (X.dk kn ⟨im, Sub.fresh ib rfl, i.u 43 (fun _ => rfl)⟩)))
            ·rintro D e s805 ⟨im, ib, i⟩ hk hf ha
             have g33_ := (i.p 34) (ha.at 33 rfl)
             rw [hc791] at g33_
             have kn := K2 ((i.p 43) (ha.at 42 rfl)) g33_
             exact L.kns _ kn (L.bi (Wt.mk rfl rfl) rfl rfl rfl rfl (L.nil (X.dk kn ⟨im, Sub.fresh ib rfl, i.u 44 (fun _ => rfl)⟩)))
            ·rintro D e s806 ⟨im, ib, i⟩ hk hf ha
             have g1_ := (i.p 2) (ha.at 1 rfl)
             have g33_ := (i.p 34) (ha.at 33 rfl)
             rw [hc791] at g33_
             rw [hc700] at g1_
             have kn := K3 g33_ ((i.p 44) (ha.at 43 rfl)) g1_
             exact L.kns _ kn (L.pkT (Wt.mk rfl rfl) rfl rfl rfl rfl (L.nil (X.dk kn ⟨im, Sub.fresh ib rfl, i.u 45 (fun _ => rfl)⟩)))
            ·rintro D e s807 ⟨im, ib, i⟩ hk hf ha
             have g1_ := (i.p 2) (ha.at 1 rfl)
             rw [hc700] at g1_
             have kn := K2 g1_ ((i.p 45) (ha.at 44 rfl))
             exact L.kns _ kn (L.pkF Wt.no rfl rfl rfl rfl (L.nil (X.dk kn ⟨im, Sub.fresh ib rfl, i.u 46 (fun _ => rfl)⟩)))
            rintro D e s808 ⟨im, ib, i⟩ hk hf ha
            have kn := K1 ((i.p 46) (ha.at 45 rfl))
            exact L.kns _ kn (L.as Wt.no rfl rfl (L.nil (X.dk kn ⟨im, Sub.fresh ib rfl, (i.u 0 (fun z => Bool.noConfusion (show true = false from z))).u 47 (fun _ => rfl)⟩)))
           rintro D e s809 hD ⟨im, ib, i⟩
           have g46_ := (i.p 47) (hD 46 rfl)
           have h26 := h26.mv im no_No no_No
           have bx18 := bx18.mv im no_No
           have h14 := h14.mono (im.le no_No)
           have h15 := h15.mono (im.le no_No)
           have h16 := h16.mono (im.le no_No)
           have h10 := h10.mono (im.le no_No)
           have m0 := m0.trans im.no
           refine X.sub (e' := [(18, .bool (decide (x802 ≥ 0))), (19, .int .i64 st690.1), (17, .int .i64 st471.1), (16, .int .i64 st471.2), (11, .slice a26 x45.length c26), (8, .pointer (some ⟨b18, 0, none⟩)), (7, .slice a10 r7.length c10)]) ?_ (Sub.cons g46_ (Sub.cons (ib 19 _ rfl) (Sub.cons (ib 17 _ rfl) (Sub.cons (ib 16 _ rfl) (Sub.cons (ib 11 _ rfl) (Sub.cons (ib 8 _ rfl) (Sub.cons (ib 7 _ rfl) Sub.nil)))))))
           exact X.blkN (X.sub (Jj697 _ _ ⟨s809, (decide (x802 ≥ 0)), hm, m0, h26, h10, h14, h15, h16, bx18, rfl, rfl⟩) (Sub.rf rfl))
          have _ := hN
          refine E.draw m_overseerlaw24_BlockingVerifies_w0 (fun D e sx => Mv No s692 sx ∧ Sub [(19, .int .i64 st690.1), (17, .int .i64 st471.1), (16, .int .i64 st471.2), (11, .slice a26 x45.length c26), (8, .pointer (some ⟨b18, 0, none⟩)), (7, .slice a10 r7.length c10)] e ∧ AllP [D 46 = false → Env.get e 18 = some (.bool st690.2), G D e 0 109 (.bool st690.2), G D e 1 110 (.bool st690.2), G D e 2 111 (.slice a26 x45.length c26), G D e 3 112 (.int .i64 st471.1), D 4 = true → (∃ (b751 : Nat) (o751 : Nat), Env.get e 113 = some (.pointer (some ⟨b751, o751, none⟩)) ∧ Mem sx (N + 2) b751 o751 [.int .i64 x750] ∧ Spot a26 (rK .i64).sz (st471.1).toNat b751 o751), G D e 5 114 (.int .i64 x750), G D e 6 115 (.bool (decide (x750 > 0))), G D e 7 116 (.bool (decide (x750 > 0))), G D e 8 117 (.pointer (some ⟨b18, 3, none⟩)), G D e 9 118 (.slice a16 r11.1.2.2.2.length c16), G D e 10 119 (.int .i64 st690.1), D 11 = true → (∃ (b761 : Nat) (o761 : Nat), Env.get e 120 = some (.pointer (some ⟨b761, o761, none⟩)) ∧ Mem sx 0 b761 o761 [.int .i64 x760.1, .int .i64 x760.2.1, .int .i64 x760.2.2]), D 12 = true → ∀ (b761 : Nat) (o761 : Nat), Env.get e 120 = some (.pointer (some ⟨b761, o761, none⟩)) → (Env.get e 121 = some (.pointer (some ⟨b761, o761 + 0, none⟩))), G D e 13 122 (.int .i64 x760.1), G D e 14 123 (.int .i64 st471.1), G D e 15 124 (.bool (x760.1 == st471.1)), G D e 16 125 (.bool (x760.1 == st471.1)), G D e 17 126 (.bool (x760.1 == st471.1)), G D e 18 127 (.slice a26 x45.length c26), G D e 19 128 (.pointer (some ⟨b18, 3, none⟩)), G D e 20 129 (.slice a16 r11.1.2.2.2.length c16), G D e 21 130 (.int .i64 st690.1), D 22 = true → (∃ (b775 : Nat) (o775 : Nat), Env.get e 131 = some (.pointer (some ⟨b775, o775, none⟩)) ∧ Mem sx 0 b775 o775 [.int .i64 x774.1, .int .i64 x774.2.1, .int .i64 x774.2.2]), D 23 = true → ∀ (b775 : Nat) (o775 : Nat), Env.get e 131 = some (.pointer (some ⟨b775, o775, none⟩)) → (Env.get e 132 = some (.pointer (some ⟨b775, o775 + 2, none⟩))), G D e 24 133 (.int .i64 x774.2.2), D 25 = true → (∃ (b780 : Nat) (o780 : Nat), Env.get e 134 = some (.pointer (some ⟨b780, o780, none⟩)) ∧ Mem sx (N + 2) b780 o780 [.int .i64 x779] ∧ Spot a26 (rK .i64).sz (x774.2.2).toNat b780 o780), G D e 26 135 (.int .i64 x779), G D e 27 136 (.slice a26 x45.length c26), G D e 28 137 (.int .i64 st471.1), D 29 = true → (∃ (b786 : Nat) (o786 : Nat), Env.get e 138 = some (.pointer (some ⟨b786, o786, none⟩)) ∧ Mem sx (N + 2) b786 o786 [.int .i64 x785] ∧ Spot a26 (rK .i64).sz (st471.1).toNat b786 o786), G D e 30 139 (.int .i64 x785), G D e 31 140 (.bool (decide (x779 < x785))), G D e 32 141 (.bool (decide (x779 < x785))), G D e 33 142 (.bool (decide (x779 < x785))), G D e 34 143 undef, G D e 35 144 undef, G D e 36 145 undef, G D e 37 146 undef, G D e 38 147 undef, G D e 39 148 undef, G D e 40 149 undef, G D e 41 150 undef, G D e 42 151 undef, G D e 43 152 undef, G D e 44 153 (.bool false), G D e 45 154 (.bool false), G D e 46 18 (.bool false)]) (by kernel_rfl) (by kernel_rfl) (by kernel_rfl) ?_ ?_ ?_
          ·intro sz mz
           exact ⟨mz, (Sub.rf rfl), fun _ => rfl, nofun, nofun, nofun, nofun, nofun, nofun, nofun, nofun, nofun, nofun, nofun, nofun, nofun, nofun, nofun, nofun, nofun, nofun, nofun, nofun, nofun, nofun, nofun, nofun, nofun, nofun, nofun, nofun, nofun, nofun, nofun, nofun, nofun, nofun, nofun, nofun, nofun, nofun, nofun, nofun, nofun, nofun, nofun, nofun, nofun, nofun, nofun, trivial⟩
          ·refine ⟨?_, ?_, ?_, ?_, ?_, ?_, ?_, ?_, ?_, ?_, ?_, ?_, ?_, ?_, ?_, ?_, ?_, ?_, ?_, ?_, ?_, ?_, ?_, ?_, ?_, ?_, ?_, ?_, ?_, ?_, ?_, ?_, ?_, ?_, ?_, ?_, ?_, ?_, ?_, ?_, ?_, ?_, ?_, ?_, ?_, ?_, ?_, trivial⟩
           ·rintro D e s698 ⟨im, ib, i⟩ hk hf ha
            have kn := K1 ((i.p 0) (hf 46 (Nat.le_of_ble_eq_true rfl) rfl))
            exact L.kns _ kn (L.mv Wt.no rfl rfl (L.nil (X.dk kn ⟨im, Sub.fresh ib rfl, i.u 1 (fun _ => rfl)⟩)))
           ·rintro D e s699 ⟨im, ib, i⟩ hk hf ha
            have kn := K1 ((i.p 1) (ha.at 0 rfl))
            exact L.kns _ kn (L.mv Wt.no rfl rfl (L.nil (X.dk kn ⟨im, Sub.fresh ib rfl, i.u 2 (fun _ => rfl)⟩)))
           ·rintro D e s747 ⟨im, ib, i⟩ hk hf ha
            have g1_ := (i.p 2) (ha.at 1 rfl)
            rw [hc700] at g1_
            have kn := K2 (ib 11 _ rfl) g1_
            exact L.kns _ kn (L.mv (Wt.mk rfl rfl) rfl rfl (L.nil (X.dk kn ⟨im, Sub.fresh ib rfl, i.u 3 (fun _ => rfl)⟩)))
           ·rintro D e s748 ⟨im, ib, i⟩ hk hf ha
            have g1_ := (i.p 2) (ha.at 1 rfl)
            rw [hc700] at g1_
            have kn := K2 (ib 17 _ rfl) g1_
            exact L.kns _ kn (L.mv (Wt.mk rfl rfl) rfl rfl (L.nil (X.dk kn ⟨im, Sub.fresh ib rfl, i.u 4 (fun _ => rfl)⟩)))
           ·rintro D e s749 ⟨im, ib, i⟩ hk hf ha
            have g1_ := (i.p 2) (ha.at 1 rfl)
            have h26 := h26.mv im no_No no_No
            rw [hc700] at g1_
            have kn := K3 ((i.p 3) (ha.at 2 rfl)) ((i.p 4) (ha.at 3 rfl)) g1_
            refine L.kns _ kn (L.ir (r := (rK .i64)) sl31 h26 (Wt.mk rfl rfl) rfl rfl ex750 rfl fun b751 o751 cc751 me751 rd751 sp751 => ?_)
            obtain rfl := rd751
            exact L.nil (X.dk kn ⟨im, Sub.fresh ib rfl, i.u 5 (fun _ => ⟨b751, o751, rfl, me751, sp751⟩)⟩)
           ·rintro D e s752 ⟨im, ib, i⟩ hk hf ha
            have g1_ := (i.p 2) (ha.at 1 rfl)
            obtain ⟨b751, o751, g4_, me751, sp751⟩ := (i.p 5) (ha.at 4 rfl)
            rw [hc700] at g1_
            have kn := K2 g4_ g1_
            exact L.kns _ kn (L.ld (j := 0) me751 nag3 (Wt.mk rfl rfl) rfl rfl rfl rfl (L.nil (X.dk kn ⟨im, Sub.fresh ib rfl, i.u 6 (fun _ => rfl)⟩)))
           ·rintro D e s753 ⟨im, ib, i⟩ hk hf ha
            have g1_ := (i.p 2) (ha.at 1 rfl)
            rw [hc700] at g1_
            have kn := K2 ((i.p 6) (ha.at 5 rfl)) g1_
            exact L.kns _ kn (L.bi (Wt.mk rfl rfl) rfl rfl rfl rfl (L.nil (X.dk kn ⟨im, Sub.fresh ib rfl, i.u 7 (fun _ => rfl)⟩)))
           ·rintro D e s754 ⟨im, ib, i⟩ hk hf ha
            have g1_ := (i.p 2) (ha.at 1 rfl)
            rw [hc700] at g1_
            have kn := K2 ((i.p 7) (ha.at 6 rfl)) g1_
            exact L.kns _ kn (L.mv (Wt.mk rfl rfl) rfl rfl (L.nil (X.dk kn ⟨im, Sub.fresh ib rfl, i.u 8 (fun _ => rfl)⟩)))
           ·rintro D e s756 ⟨im, ib, i⟩ hk hf ha
            have g7_ := (i.p 8) (ha.at 7 rfl)
            rw [hc755] at g7_
            have kn := K2 (ib 8 _ rfl) g7_
            exact L.kns _ kn (L.fa fa34_3 (Wt.mk rfl rfl) rfl rfl (L.nil (X.dk kn ⟨im, Sub.fresh ib rfl, i.u 9 (fun _ => rfl)⟩)))
           ·rintro D e s757 ⟨im, ib, i⟩ hk hf ha
            have g7_ := (i.p 8) (ha.at 7 rfl)
            have bx18 := bx18.mv im no_No
            rw [hc755] at g7_
            have kn := K2 ((i.p 9) (ha.at 8 rfl)) g7_
            exact L.kns _ kn (L.ld (j := 3) bx18.mem nag32 (Wt.mk rfl rfl) rfl rfl rfl rfl (L.nil (X.dk kn ⟨im, Sub.fresh ib rfl, i.u 10 (fun _ => rfl)⟩)))
           ·rintro D e s758 ⟨im, ib, i⟩ hk hf ha
            have g7_ := (i.p 8) (ha.at 7 rfl)
            rw [hc755] at g7_
            have kn := K2 (ib 19 _ rfl) g7_
            exact L.kns _ kn (L.mv (Wt.mk rfl rfl) rfl rfl (L.nil (X.dk kn ⟨im, Sub.fresh ib rfl, i.u 11 (fun _ => rfl)⟩)))
           ·rintro D e s759 ⟨im, ib, i⟩ hk hf ha
            have g7_ := (i.p 8) (ha.at 7 rfl)
            have h16 := h16.mono (im.le no_No)
            rw [hc755] at g7_
            have kn := K3 ((i.p 10) (ha.at 9 rfl)) ((i.p 11) (ha.at 10 rfl)) g7_
            refine L.kns _ kn (L.ix (r := (rP (rK .i64) (rP (rK .i64) (rK .i64)))) sl32 h16 (Wt.mk rfl rfl) rfl rfl ex760 rfl fun b761 o761 cc761 me761 rd761 => ?_)
            obtain ⟨_, _, rfl, rfl, ⟨_, _, rfl, rfl, rfl⟩⟩ := rd761
            exact L.nil (X.dk kn ⟨im, Sub.fresh ib rfl, (i.u 12 (fun _ => ⟨b761, o761, rfl, me761⟩)).u 13 (fun z => Bool.noConfusion ((hf 12 (Nat.le_of_ble_eq_true rfl) rfl).symm.trans z))⟩)
           ·rintro D e s762 ⟨im, ib, i⟩ hk hf ha
            have g7_ := (i.p 8) (ha.at 7 rfl)
            obtain ⟨b761, o761, g11_, me761⟩ := (i.p 12) (ha.at 11 rfl)
            rw [hc755] at g7_
            have kn := K2 g11_ g7_
            exact L.kns _ kn (L.fa fa58_0 (Wt.mk rfl rfl) rfl rfl (L.nil (X.dk kn ⟨im, Sub.fresh ib rfl, i.u 13 (fun _ _ _ q11 => by cases g11_.symm.trans q11; exact rfl)⟩)))
           ·rintro D e s763 ⟨im, ib, i⟩ hk hf ha
            have g7_ := (i.p 8) (ha.at 7 rfl)
            obtain ⟨b761, o761, g11_, me761⟩ := (i.p 12) (ha.at 11 rfl)
            have g12_ := (i.p 13) (ha.at 12 rfl) b761 o761 g11_
            rw [hc755] at g7_
            have kn := K2 g12_ g7_
            exact L.kns _ kn (L.ld (j := 0) me761 nag3 (Wt.mk rfl rfl) rfl rfl rfl rfl (L.nil (X.dk kn ⟨im, Sub.fresh ib rfl, i.u 14 (fun _ => rfl)⟩)))
           ·rintro D e s764 ⟨im, ib, i⟩ hk hf ha
            have g7_ := (i.p 8) (ha.at 7 rfl)
            rw [hc755] at g7_
            have kn := K2 (ib 17 _ rfl) g7_
            exact L.kns _ kn (L.mv (Wt.mk rfl rfl) rfl rfl (L.nil (X.dk kn ⟨im, Sub.fresh ib rfl, i.u 15 (fun _ => rfl)⟩)))
           ·rintro D e s765 ⟨im, ib, i⟩ hk hf ha
            have g7_ := (i.p 8) (ha.at 7 rfl)
            rw [hc755] at g7_
            have kn := K3 ((i.p 14) (ha.at 13 rfl)) ((i.p 15) (ha.at 14 rfl)) g7_
            exact L.kns _ kn (L.bi (Wt.mk rfl rfl) rfl rfl rfl rfl (L.nil (X.dk kn ⟨im, Sub.fresh ib rfl, i.u 16 (fun _ => rfl)⟩)))
           ·rintro D e s766 ⟨im, ib, i⟩ hk hf ha
            have g1_ := (i.p 2) (ha.at 1 rfl)
            have g7_ := (i.p 8) (ha.at 7 rfl)
            rw [hc755] at g7_
            rw [hc700] at g1_
            have kn := K3 g7_ ((i.p 16) (ha.at 15 rfl)) g1_
            exact L.kns _ kn (L.pkT (Wt.mk rfl rfl) rfl rfl rfl rfl (L.nil (X.dk kn ⟨im, Sub.fresh ib rfl, i.u 17 (fun _ => rfl)⟩)))
           ·rintro D e s767 ⟨im, ib, i⟩ hk hf ha
            have g1_ := (i.p 2) (ha.at 1 rfl)
            rw [hc700] at g1_
            have kn := K2 ((i.p 17) (ha.at 16 rfl)) g1_
            exact L.kns _ kn (L.mv (Wt.mk rfl rfl) rfl rfl (L.nil (X.dk kn ⟨im, Sub.fresh ib rfl, i.u 18 (fun _ => rfl)⟩)))
           ·rintro D e s769 ⟨im, ib, i⟩ hk hf ha
            have g17_ := (i.p 18) (ha.at 17 rfl)
            rw [hc768] at g17_
            have kn := K2 (ib 11 _ rfl) g17_
            exact L.kns _ kn (L.mv (Wt.mk rfl rfl) rfl rfl (L.nil (X.dk kn ⟨im, Sub.fresh ib rfl, i.u 19 (fun _ => rfl)⟩)))
           ·rintro D e s770 ⟨im, ib, i⟩ hk hf ha
            have g17_ := (i.p 18) (ha.at 17 rfl)
            rw [hc768] at g17_
            have kn := K2 (ib 8 _ rfl) g17_
            exact L.kns _ kn (L.fa fa34_3 (Wt.mk rfl rfl) rfl rfl (L.nil (X.dk kn ⟨im, Sub.fresh ib rfl, i.u 20 (fun _ => rfl)⟩)))
           ·rintro D e s771 ⟨im, ib, i⟩ hk hf ha
            have g17_ := (i.p 18) (ha.at 17 rfl)
            have bx18 := bx18.mv im no_No
            rw [hc768] at g17_
            have kn := K2 ((i.p 20) (ha.at 19 rfl)) g17_
            exact L.kns _ kn (L.ld (j := 3) bx18.mem nag32 (Wt.mk rfl rfl) rfl rfl rfl rfl (L.nil (X.dk kn ⟨im, Sub.fresh ib rfl, i.u 21 (fun _ => rfl)⟩)))
           ·rintro D e s772 ⟨im, ib, i⟩ hk hf ha
            have g17_ := (i.p 18) (ha.at 17 rfl)
            rw [hc768] at g17_
            have kn := K2 (ib 19 _ rfl) g17_
            exact L.kns _ kn (L.mv (Wt.mk rfl rfl) rfl rfl (L.nil (X.dk kn ⟨im, Sub.fresh ib rfl, i.u 22 (fun _ => rfl)⟩)))
           ·rintro D e s773 ⟨im, ib, i⟩ hk hf ha
            have g17_ := (i.p 18) (ha.at 17 rfl)
            have h16 := h16.mono (im.le no_No)
            rw [hc768] at g17_
            have kn := K3 ((i.p 21) (ha.at 20 rfl)) ((i.p 22) (ha.at 21 rfl)) g17_
            refine L.kns _ kn (L.ix (r := (rP (rK .i64) (rP (rK .i64) (rK .i64)))) sl32 h16 (Wt.mk rfl rfl) rfl rfl ex774 rfl fun b775 o775 cc775 me775 rd775 => ?_)
            obtain ⟨_, _, rfl, rfl, ⟨_, _, rfl, rfl, rfl⟩⟩ := rd775
            exact L.nil (X.dk kn ⟨im, Sub.fresh ib rfl, (i.u 23 (fun _ => ⟨b775, o775, rfl, me775⟩)).u 24 (fun z => Bool.noConfusion ((hf 23 (Nat.le_of_ble_eq_true rfl) rfl).symm.trans z))⟩)
           ·rintro D e s776 ⟨im, ib, i⟩ hk hf ha
            have g17_ := (i.p 18) (ha.at 17 rfl)
            obtain ⟨b775, o775, g22_, me775⟩ := (i.p 23) (ha.at 22 rfl)
            rw [hc768] at g17_
            have kn := K2 g22_ g17_
            exact L.kns _ kn (L.fa fa58_2 (Wt.mk rfl rfl) rfl rfl (L.nil (X.dk kn ⟨im, Sub.fresh ib rfl, i.u 24 (fun _ _ _ q22 => by cases g22_.symm.trans q22; exact rfl)⟩)))
           ·rintro D e s777 ⟨im, ib, i⟩ hk hf ha
            have g17_ := (i.p 18) (ha.at 17 rfl)
            obtain ⟨b775, o775, g22_, me775⟩ := (i.p 23) (ha.at 22 rfl)
            have g23_ := (i.p 24) (ha.at 23 rfl) b775 o775 g22_
            rw [hc768] at g17_
            have kn := K2 g23_ g17_
            exact L.kns _ kn (L.ld (j := 2) me775 nag3 (Wt.mk rfl rfl) rfl rfl rfl rfl (L.nil (X.dk kn ⟨im, Sub.fresh ib rfl, i.u 25 (fun _ => rfl)⟩)))
           ·rintro D e s778 ⟨im, ib, i⟩ hk hf ha
            have g17_ := (i.p 18) (ha.at 17 rfl)
            have h26 := h26.mv im no_No no_No
            rw [hc768] at g17_
            have kn := K3 ((i.p 19) (ha.at 18 rfl)) ((i.p 25) (ha.at 24 rfl)) g17_
            refine L.kns _ kn (L.ir (r := (rK .i64)) sl31 h26 (Wt.mk rfl rfl) rfl rfl ex779 rfl fun b780 o780 cc780 me780 rd780 sp780 => ?_)
            obtain rfl := rd780
            exact L.nil (X.dk kn ⟨im, Sub.fresh ib rfl, i.u 26 (fun _ => ⟨b780, o780, rfl, me780, sp780⟩)⟩)
           ·rintro D e s781 ⟨im, ib, i⟩ hk hf ha
            have g17_ := (i.p 18) (ha.at 17 rfl)
            obtain ⟨b780, o780, g25_, me780, sp780⟩ := (i.p 26) (ha.at 25 rfl)
            rw [hc768] at g17_
            have kn := K2 g25_ g17_
            exact L.kns _ kn (L.ld (j := 0) me780 nag3 (Wt.mk rfl rfl) rfl rfl rfl rfl (L.nil (X.dk kn ⟨im, Sub.fresh ib rfl, i.u 27 (fun _ => rfl)⟩)))
           ·rintro D e s782 ⟨im, ib, i⟩ hk hf ha
            have g17_ := (i.p 18) (ha.at 17 rfl)
            rw [hc768] at g17_
            have kn := K2 (ib 11 _ rfl) g17_
            exact L.kns _ kn (L.mv (Wt.mk rfl rfl) rfl rfl (L.nil (X.dk kn ⟨im, Sub.fresh ib rfl, i.u 28 (fun _ => rfl)⟩)))
           ·rintro D e s783 ⟨im, ib, i⟩ hk hf ha
            have g17_ := (i.p 18) (ha.at 17 rfl)
            rw [hc768] at g17_
            have kn := K2 (ib 17 _ rfl) g17_
            exact L.kns _ kn (L.mv (Wt.mk rfl rfl) rfl rfl (L.nil (X.dk kn ⟨im, Sub.fresh ib rfl, i.u 29 (fun _ => rfl)⟩)))
           ·rintro D e s784 ⟨im, ib, i⟩ hk hf ha
            have g17_ := (i.p 18) (ha.at 17 rfl)
            have h26 := h26.mv im no_No no_No
            rw [hc768] at g17_
            have kn := K3 ((i.p 28) (ha.at 27 rfl)) ((i.p 29) (ha.at 28 rfl)) g17_
            refine L.kns _ kn (L.ir (r := (rK .i64)) sl31 h26 (Wt.mk rfl rfl) rfl rfl ex785 rfl fun b786 o786 cc786 me786 rd786 sp786 => ?_)
            obtain rfl := rd786
            exact L.nil (X.dk kn ⟨im, Sub.fresh ib rfl, i.u 30 (fun _ => ⟨b786, o786, rfl, me786, sp786⟩)⟩)
           ·rintro D e s787 ⟨im, ib, i⟩ hk hf ha
            have g17_ := (i.p 18) (ha.at 17 rfl)
            obtain ⟨b786, o786, g29_, me786, sp786⟩ := (i.p 30) (ha.at 29 rfl)
            rw [hc768] at g17_
            have kn := K2 g29_ g17_
            exact L.kns _ kn (L.ld (j := 0) me786 nag3 (Wt.mk rfl rfl) rfl rfl rfl rfl (L.nil (X.dk kn ⟨im, Sub.fresh ib rfl, i.u 31 (fun _ => rfl)⟩)))
           ·rintro D e s788 ⟨im, ib, i⟩ hk hf ha
            have g17_ := (i.p 18) (ha.at 17 rfl)
            rw [hc768] at g17_
            have kn := K3 ((i.p 27) (ha.at 26 rfl)) ((i.p 31) (ha.at 30 rfl)) g17_
            exact L.kns _ kn (L.bi (Wt.mk rfl rfl) rfl rfl rfl rfl (L.nil (X.dk kn ⟨im, Sub.fresh ib rfl, i.u 32 (fun _ => rfl)⟩)))
           ·rintro D e s789 ⟨im, ib, i⟩ hk hf ha
            have g1_ := (i.p 2) (ha.at 1 rfl)
            have g17_ := (i.p 18) (ha.at 17 rfl)
            rw [hc768] at g17_
            rw [hc700] at g1_
            have kn := K3 g17_ ((i.p 32) (ha.at 31 rfl)) g1_
            exact L.kns _ kn (L.pkT (Wt.mk rfl rfl) rfl rfl rfl rfl (L.nil (X.dk kn ⟨im, Sub.fresh ib rfl, i.u 33 (fun _ => rfl)⟩)))
           ·rintro D e s790 ⟨im, ib, i⟩ hk hf ha
            have g1_ := (i.p 2) (ha.at 1 rfl)
            rw [hc700] at g1_
            have kn := K2 ((i.p 33) (ha.at 32 rfl)) g1_
            exact L.kns _ kn (L.mv (Wt.mk rfl rfl) rfl rfl (L.nil (X.dk kn ⟨im, Sub.fresh ib rfl, i.u 34 (fun _ => rfl)⟩)))
           ·rintro D e s810 ⟨im, ib, i⟩ hk hf ha
            have g33_ := (i.p 34) (ha.at 33 rfl)
            rw [hc791] at g33_
            have kn := K2 (ib 11 _ rfl) g33_
            exact L.kns _ kn (L.skip rfl rfl rfl rfl (L.nil (X.dk kn ⟨im, Sub.fresh ib rfl, i.u 35 (fun _ => rfl)⟩)))
           ·rintro D e s811 ⟨im, ib, i⟩ hk hf ha
            have g33_ := (i.p 34) (ha.at 33 rfl)
            rw [hc791] at g33_
            have kn := K2 (ib 8 _ rfl) g33_
            exact L.kns _ kn (L.skip rfl rfl rfl rfl (L.nil (X.dk kn ⟨im, Sub.fresh ib rfl, i.u 36 (fun _ => rfl)⟩)))
           ·rintro D e s812 ⟨im, ib, i⟩ hk hf ha
            have g33_ := (i.p 34) (ha.at 33 rfl)
            rw [hc791] at g33_
            have kn := K2 ((i.p 36) (ha.at 35 rfl)) g33_
            exact L.kns _ kn (L.skip rfl rfl rfl rfl (L.nil (X.dk kn ⟨im, Sub.fresh ib rfl, i.u 37 (fun _ => rfl)⟩)))
           ·rintro D e s813 ⟨im, ib, i⟩ hk hf ha
            have g33_ := (i.p 34) (ha.at 33 rfl)
            rw [hc791] at g33_
            have kn := K2 (ib 19 _ rfl) g33_
            exact L.kns _ kn (L.skip rfl rfl rfl rfl (L.nil (X.dk kn ⟨im, Sub.fresh ib rfl, i.u 38 (fun _ => rfl)⟩)))
           ·rintro D e s814 ⟨im, ib, i⟩ hk hf ha
            have g33_ := (i.p 34) (ha.at 33 rfl)
            rw [hc791] at g33_
            have kn := K3 ((i.p 37) (ha.at 36 rfl)) ((i.p 38) (ha.at 37 rfl)) g33_
            exact L.kns _ kn (L.skip rfl rfl rfl rfl (L.nil (X.dk kn ⟨im, Sub.fresh ib rfl, i.u 39 (fun _ => rfl)⟩)))
           ·rintro D e s815 ⟨im, ib, i⟩ hk hf ha
            have g33_ := (i.p 34) (ha.at 33 rfl)
            rw [hc791] at g33_
            have kn := K2 ((i.p 39) (ha.at 38 rfl)) g33_
            exact L.kns _ kn (L.skip rfl rfl rfl rfl (L.nil (X.dk kn ⟨im, Sub.fresh ib rfl, i.u 40 (fun _ => rfl)⟩)))
           ·rintro D e s816 ⟨im, ib, i⟩ hk hf ha
            have g33_ := (i.p 34) (ha.at 33 rfl)
            rw [hc791] at g33_
            have kn := K2 ((i.p 40) (ha.at 39 rfl)) g33_
            exact L.kns _ kn (L.skip rfl rfl rfl rfl (L.nil (X.dk kn ⟨im, Sub.fresh ib rfl, i.u 41 (fun _ => rfl)⟩)))
           ·rintro D e s817 ⟨im, ib, i⟩ hk hf ha
            have g33_ := (i.p 34) (ha.at 33 rfl)
            rw [hc791] at g33_
            have kn := K3 ((i.p 35) (ha.at 34 rfl)) ((i.p 41) (ha.at 40 rfl)) g33_
            exact L.kns _ kn (L.skip rfl rfl rfl rfl (L.nil (X.dk kn ⟨im, Sub.fresh ib rfl, i.u 42 (fun _ => rfl)⟩)))
           ·rintro D e s818 ⟨im, ib, i⟩ hk hf ha
            have g33_ := (i.p 34) (ha.at 33 rfl)
            rw [hc791] at g33_
            have kn := K2 ((i.p 42) (ha.at 41 rfl)) g33_
            exact L.kns _ kn (L.skip rfl rfl rfl rfl (L.nil (X.dk kn ⟨im, Sub.fresh ib rfl, i.u 43 (fun _ => rfl)⟩)))
           ·rintro D e s819 ⟨im, ib, i⟩ hk hf ha
            have g33_ := (i.p 34) (ha.at 33 rfl)
            rw [hc791] at g33_
            have kn := K2 ((i.p 43) (ha.at 42 rfl)) g33_
            exact L.kns _ kn (L.skip rfl rfl rfl rfl (L.nil (X.dk kn ⟨im, Sub.fresh ib rfl, i.u 44 (fun _ => rfl)⟩)))
           ·rintro D e s820 ⟨im, ib, i⟩ hk hf ha
            have g1_ := (i.p 2) (ha.at 1 rfl)
            have g33_ := (i.p 34) (ha.at 33 rfl)
            rw [hc791] at g33_
            rw [hc700] at g1_
            have kn := K3 g33_ ((i.p 44) (ha.at 43 rfl)) g1_
            exact L.kns _ kn (L.pkF (Wt.mk rfl rfl) rfl rfl rfl rfl (L.nil (X.dk kn ⟨im, Sub.fresh ib rfl, i.u 45 (fun _ => rfl)⟩)))
           ·rintro D e s821 ⟨im, ib, i⟩ hk hf ha
            have g1_ := (i.p 2) (ha.at 1 rfl)
            rw [hc700] at g1_
            have kn := K2 g1_ ((i.p 45) (ha.at 44 rfl))
            exact L.kns _ kn (L.pkF Wt.no rfl rfl rfl rfl (L.nil (X.dk kn ⟨im, Sub.fresh ib rfl, i.u 46 (fun _ => rfl)⟩)))
           rintro D e s822 ⟨im, ib, i⟩ hk hf ha
           have kn := K1 ((i.p 46) (ha.at 45 rfl))
           exact L.kns _ kn (L.as Wt.no rfl rfl (L.nil (X.dk kn ⟨im, Sub.fresh ib rfl, (i.u 0 (fun z => Bool.noConfusion (show true = false from z))).u 47 (fun _ => rfl)⟩)))
          rintro D e s823 hD ⟨im, ib, i⟩
          have g46_ := (i.p 47) (hD 46 rfl)
          have h26 := h26.mv im no_No no_No
          have bx18 := bx18.mv im no_No
          have h14 := h14.mono (im.le no_No)
          have h15 := h15.mono (im.le no_No)
          have h16 := h16.mono (im.le no_No)
          have h10 := h10.mono (im.le no_No)
          have m0 := m0.trans im.no
          refine X.sub (e' := [(18, .bool false), (19, .int .i64 st690.1), (17, .int .i64 st471.1), (16, .int .i64 st471.2), (11, .slice a26 x45.length c26), (8, .pointer (some ⟨b18, 0, none⟩)), (7, .slice a10 r7.length c10)]) ?_ (Sub.cons g46_ (Sub.cons (ib 19 _ rfl) (Sub.cons (ib 17 _ rfl) (Sub.cons (ib 16 _ rfl) (Sub.cons (ib 11 _ rfl) (Sub.cons (ib 8 _ rfl) (Sub.cons (ib 7 _ rfl) Sub.nil)))))))
          exact X.blkN (X.sub (Jj697 _ _ ⟨s823, false, hm, m0, h26, h10, h14, h15, h16, bx18, rfl, rfl⟩) (Sub.rf rfl))
         have _ := hN
         refine E.draw m_overseerlaw24_BlockingVerifies_w0 (fun D e sx => Mv No s692 sx ∧ Sub [(19, .int .i64 st690.1), (17, .int .i64 st471.1), (16, .int .i64 st471.2), (11, .slice a26 x45.length c26), (8, .pointer (some ⟨b18, 0, none⟩)), (7, .slice a10 r7.length c10)] e ∧ AllP [D 46 = false → Env.get e 18 = some (.bool st690.2), G D e 0 109 (.bool st690.2), G D e 1 110 (.bool st690.2), G D e 2 111 (.slice a26 x45.length c26), G D e 3 112 (.int .i64 st471.1), D 4 = true → (∃ (b751 : Nat) (o751 : Nat), Env.get e 113 = some (.pointer (some ⟨b751, o751, none⟩)) ∧ Mem sx (N + 2) b751 o751 [.int .i64 x750] ∧ Spot a26 (rK .i64).sz (st471.1).toNat b751 o751), G D e 5 114 (.int .i64 x750), G D e 6 115 (.bool (decide (x750 > 0))), G D e 7 116 (.bool (decide (x750 > 0))), G D e 8 117 (.pointer (some ⟨b18, 3, none⟩)), G D e 9 118 (.slice a16 r11.1.2.2.2.length c16), G D e 10 119 (.int .i64 st690.1), D 11 = true → (∃ (b761 : Nat) (o761 : Nat), Env.get e 120 = some (.pointer (some ⟨b761, o761, none⟩)) ∧ Mem sx 0 b761 o761 [.int .i64 x760.1, .int .i64 x760.2.1, .int .i64 x760.2.2]), D 12 = true → ∀ (b761 : Nat) (o761 : Nat), Env.get e 120 = some (.pointer (some ⟨b761, o761, none⟩)) → (Env.get e 121 = some (.pointer (some ⟨b761, o761 + 0, none⟩))), G D e 13 122 (.int .i64 x760.1), G D e 14 123 (.int .i64 st471.1), G D e 15 124 (.bool (x760.1 == st471.1)), G D e 16 125 (.bool (x760.1 == st471.1)), G D e 17 126 (.bool (x760.1 == st471.1)), G D e 18 127 undef, G D e 19 128 undef, G D e 20 129 undef, G D e 21 130 undef, G D e 22 131 undef, G D e 23 132 undef, G D e 24 133 undef, G D e 25 134 undef, G D e 26 135 undef, G D e 27 136 undef, G D e 28 137 undef, G D e 29 138 undef, G D e 30 139 undef, G D e 31 140 undef, G D e 32 141 (.bool false), G D e 33 142 (.bool false), G D e 34 143 undef, G D e 35 144 undef, G D e 36 145 undef, G D e 37 146 undef, G D e 38 147 undef, G D e 39 148 undef, G D e 40 149 undef, G D e 41 150 undef, G D e 42 151 undef, G D e 43 152 undef, G D e 44 153 (.bool false), G D e 45 154 (.bool false), G D e 46 18 (.bool false)]) (by kernel_rfl) (by kernel_rfl) (by kernel_rfl) ?_ ?_ ?_
         ·intro sz mz
          exact ⟨mz, (Sub.rf rfl), fun _ => rfl, nofun, nofun, nofun, nofun, nofun, nofun, nofun, nofun, nofun, nofun, nofun, nofun, nofun, nofun, nofun, nofun, nofun, nofun, nofun, nofun, nofun, nofun, nofun, nofun, nofun, nofun, nofun, nofun, nofun, nofun, nofun, nofun, nofun, nofun, nofun, nofun, nofun, nofun, nofun, nofun, nofun, nofun, nofun, nofun, nofun, nofun, nofun, trivial⟩
         ·refine ⟨?_, ?_, ?_, ?_, ?_, ?_, ?_, ?_, ?_, ?_, ?_, ?_, ?_, ?_, ?_, ?_, ?_, ?_, ?_, ?_, ?_, ?_, ?_, ?_, ?_, ?_, ?_, ?_, ?_, ?_, ?_, ?_, ?_, ?_, ?_, ?_, ?_, ?_, ?_, ?_, ?_, ?_, ?_, ?_, ?_, ?_, ?_, trivial⟩
          ·rintro D e s698 ⟨im, ib, i⟩ hk hf ha
           have kn := K1 ((i.p 0) (hf 46 (Nat.le_of_ble_eq_true rfl) rfl))
           exact L.kns _ kn (L.mv Wt.no rfl rfl (L.nil (X.dk kn ⟨im, Sub.fresh ib rfl, i.u 1 (fun _ => rfl)⟩)))
          ·rintro D e s699 ⟨im, ib, i⟩ hk hf ha
           have kn := K1 ((i.p 1) (ha.at 0 rfl))
           exact L.kns _ kn (L.mv Wt.no rfl rfl (L.nil (X.dk kn ⟨im, Sub.fresh ib rfl, i.u 2 (fun _ => rfl)⟩)))
          ·rintro D e s747 ⟨im, ib, i⟩ hk hf ha
           have g1_ := (i.p 2) (ha.at 1 rfl)
           rw [hc700] at g1_
           have kn := K2 (ib 11 _ rfl) g1_
           exact L.kns _ kn (L.mv (Wt.mk rfl rfl) rfl rfl (L.nil (X.dk kn ⟨im, Sub.fresh ib rfl, i.u 3 (fun _ => rfl)⟩)))
          ·rintro D e s748 ⟨im, ib, i⟩ hk hf ha
           have g1_ := (i.p 2) (ha.at 1 rfl)
           rw [hc700] at g1_
           have kn := K2 (ib 17 _ rfl) g1_
           exact L.kns _ kn (L.mv (Wt.mk rfl rfl) rfl rfl (L.nil (X.dk kn ⟨im, Sub.fresh ib rfl, i.u 4 (fun _ => rfl)⟩)))
          ·rintro D e s749 ⟨im, ib, i⟩ hk hf ha
           have g1_ := (i.p 2) (ha.at 1 rfl)
           have h26 := h26.mv im no_No no_No
           rw [hc700] at g1_
           have kn := K3 ((i.p 3) (ha.at 2 rfl)) ((i.p 4) (ha.at 3 rfl)) g1_
           refine L.kns _ kn (L.ir (r := (rK .i64)) sl31 h26 (Wt.mk rfl rfl) rfl rfl ex750 rfl fun b751 o751 cc751 me751 rd751 sp751 => ?_)
           obtain rfl := rd751
           exact L.nil (X.dk kn ⟨im, Sub.fresh ib rfl, i.u 5 (fun _ => ⟨b751, o751, rfl, me751, sp751⟩)⟩)
          ·rintro D e s752 ⟨im, ib, i⟩ hk hf ha
           have g1_ := (i.p 2) (ha.at 1 rfl)
           obtain ⟨b751, o751, g4_, me751, sp751⟩ := (i.p 5) (ha.at 4 rfl)
           rw [hc700] at g1_
           have kn := K2 g4_ g1_
           exact L.kns _ kn (L.ld (j := 0) me751 nag3 (Wt.mk rfl rfl) rfl rfl rfl rfl (L.nil (X.dk kn ⟨im, Sub.fresh ib rfl, i.u 6 (fun _ => rfl)⟩)))
          ·rintro D e s753 ⟨im, ib, i⟩ hk hf ha
           have g1_ := (i.p 2) (ha.at 1 rfl)
           rw [hc700] at g1_
           have kn := K2 ((i.p 6) (ha.at 5 rfl)) g1_
           exact L.kns _ kn (L.bi (Wt.mk rfl rfl) rfl rfl rfl rfl (L.nil (X.dk kn ⟨im, Sub.fresh ib rfl, i.u 7 (fun _ => rfl)⟩)))
          ·rintro D e s754 ⟨im, ib, i⟩ hk hf ha
           have g1_ := (i.p 2) (ha.at 1 rfl)
           rw [hc700] at g1_
           have kn := K2 ((i.p 7) (ha.at 6 rfl)) g1_
           exact L.kns _ kn (L.mv (Wt.mk rfl rfl) rfl rfl (L.nil (X.dk kn ⟨im, Sub.fresh ib rfl, i.u 8 (fun _ => rfl)⟩)))
          ·rintro D e s756 ⟨im, ib, i⟩ hk hf ha
           have g7_ := (i.p 8) (ha.at 7 rfl)
           rw [hc755] at g7_
           have kn := K2 (ib 8 _ rfl) g7_
           exact L.kns _ kn (L.fa fa34_3 (Wt.mk rfl rfl) rfl rfl (L.nil (X.dk kn ⟨im, Sub.fresh ib rfl, i.u 9 (fun _ => rfl)⟩)))
          ·rintro D e s757 ⟨im, ib, i⟩ hk hf ha
           have g7_ := (i.p 8) (ha.at 7 rfl)
           have bx18 := bx18.mv im no_No
           rw [hc755] at g7_
           have kn := K2 ((i.p 9) (ha.at 8 rfl)) g7_
           exact L.kns _ kn (L.ld (j := 3) bx18.mem nag32 (Wt.mk rfl rfl) rfl rfl rfl rfl (L.nil (X.dk kn ⟨im, Sub.fresh ib rfl, i.u 10 (fun _ => rfl)⟩)))
          ·rintro D e s758 ⟨im, ib, i⟩ hk hf ha
           have g7_ := (i.p 8) (ha.at 7 rfl)
           rw [hc755] at g7_
           have kn := K2 (ib 19 _ rfl) g7_
           exact L.kns _ kn (L.mv (Wt.mk rfl rfl) rfl rfl (L.nil (X.dk kn ⟨im, Sub.fresh ib rfl, i.u 11 (fun _ => rfl)⟩)))
          ·rintro D e s759 ⟨im, ib, i⟩ hk hf ha
           have g7_ := (i.p 8) (ha.at 7 rfl)
           have h16 := h16.mono (im.le no_No)
           rw [hc755] at g7_
           have kn := K3 ((i.p 10) (ha.at 9 rfl)) ((i.p 11) (ha.at 10 rfl)) g7_
           refine L.kns _ kn (L.ix (r := (rP (rK .i64) (rP (rK .i64) (rK .i64)))) sl32 h16 (Wt.mk rfl rfl) rfl rfl ex760 rfl fun b761 o761 cc761 me761 rd761 => ?_)
           obtain ⟨_, _, rfl, rfl, ⟨_, _, rfl, rfl, rfl⟩⟩ := rd761
           exact L.nil (X.dk kn ⟨im, Sub.fresh ib rfl, (i.u 12 (fun _ => ⟨b761, o761, rfl, me761⟩)).u 13 (fun z => Bool.noConfusion ((hf 12 (Nat.le_of_ble_eq_true rfl) rfl).symm.trans z))⟩)
          ·rintro D e s762 ⟨im, ib, i⟩ hk hf ha
           have g7_ := (i.p 8) (ha.at 7 rfl)
           obtain ⟨b761, o761, g11_, me761⟩ := (i.p 12) (ha.at 11 rfl)
           rw [hc755] at g7_
           have kn := K2 g11_ g7_
           exact L.kns _ kn (L.fa fa58_0 (Wt.mk rfl rfl) rfl rfl (L.nil (X.dk kn ⟨im, Sub.fresh ib rfl, i.u 13 (fun _ _ _ q11 => by cases g11_.symm.trans q11; exact rfl)⟩)))
          ·rintro D e s763 ⟨im, ib, i⟩ hk hf ha
           have g7_ := (i.p 8) (ha.at 7 rfl)
           obtain ⟨b761, o761, g11_, me761⟩ := (i.p 12) (ha.at 11 rfl)
           have g12_ := (i.p 13) (ha.at 12 rfl) b761 o761 g11_
           rw [hc755] at g7_
           have kn := K2 g12_ g7_
           exact L.kns _ kn (L.ld (j := 0) me761 nag3 (Wt.mk rfl rfl) rfl rfl rfl rfl (L.nil (X.dk kn ⟨im, Sub.fresh ib rfl, i.u 14 (fun _ => rfl)⟩)))
          ·rintro D e s764 ⟨im, ib, i⟩ hk hf ha
           have g7_ := (i.p 8) (ha.at 7 rfl)
           rw [hc755] at g7_
           have kn := K2 (ib 17 _ rfl) g7_
           exact L.kns _ kn (L.mv (Wt.mk rfl rfl) rfl rfl (L.nil (X.dk kn ⟨im, Sub.fresh ib rfl, i.u 15 (fun _ => rfl)⟩)))
          ·rintro D e s765 ⟨im, ib, i⟩ hk hf ha
           have g7_ := (i.p 8) (ha.at 7 rfl)
           rw [hc755] at g7_
           have kn := K3 ((i.p 14) (ha.at 13 rfl)) ((i.p 15) (ha.at 14 rfl)) g7_
           exact L.kns _ kn (L.bi (Wt.mk rfl rfl) rfl rfl rfl rfl (L.nil (X.dk kn ⟨im, Sub.fresh ib rfl, i.u 16 (fun _ => rfl)⟩)))
          ·rintro D e s766 ⟨im, ib, i⟩ hk hf ha
           have g1_ := (i.p 2) (ha.at 1 rfl)
           have g7_ := (i.p 8) (ha.at 7 rfl)
           rw [hc755] at g7_
           rw [hc700] at g1_
           have kn := K3 g7_ ((i.p 16) (ha.at 15 rfl)) g1_
           exact L.kns _ kn (L.pkT (Wt.mk rfl rfl) rfl rfl rfl rfl (L.nil (X.dk kn ⟨im, Sub.fresh ib rfl, i.u 17 (fun _ => rfl)⟩)))
          ·rintro D e s767 ⟨im, ib, i⟩ hk hf ha
           have g1_ := (i.p 2) (ha.at 1 rfl)
           rw [hc700] at g1_
           have kn := K2 ((i.p 17) (ha.at 16 rfl)) g1_
           exact L.kns _ kn (L.mv (Wt.mk rfl rfl) rfl rfl (L.nil (X.dk kn ⟨im, Sub.fresh ib rfl, i.u 18 (fun _ => rfl)⟩)))
          ·rintro D e s824 ⟨im, ib, i⟩ hk hf ha
           have g17_ := (i.p 18) (ha.at 17 rfl)
           rw [hc768] at g17_
           have kn := K2 (ib 11 _ rfl) g17_
           exact L.kns _ kn (L.skip rfl rfl rfl rfl (L.nil (X.dk kn ⟨im, Sub.fresh ib rfl, i.u 19 (fun _ => rfl)⟩)))
          ·rintro D e s825 ⟨im, ib, i⟩ hk hf ha
           have g17_ := (i.p 18) (ha.at 17 rfl)
           rw [hc768] at g17_
           have kn := K2 (ib 8 _ rfl) g17_
           exact L.kns _ kn (L.skip rfl rfl rfl rfl (L.nil (X.dk kn ⟨im, Sub.fresh ib rfl, i.u 20 (fun _ => rfl)⟩)))
          ·rintro D e s826 ⟨im, ib, i⟩ hk hf ha
           have g17_ := (i.p 18) (ha.at 17 rfl)
           rw [hc768] at g17_
           have kn := K2 ((i.p 20) (ha.at 19 rfl)) g17_
           exact L.kns _ kn (L.skip rfl rfl rfl rfl (L.nil (X.dk kn ⟨im, Sub.fresh ib rfl, i.u 21 (fun _ => rfl)⟩)))
          ·rintro D e s827 ⟨im, ib, i⟩ hk hf ha
           have g17_ := (i.p 18) (ha.at 17 rfl)
           rw [hc768] at g17_
           have kn := K2 (ib 19 _ rfl) g17_
           exact L.kns _ kn (L.skip rfl rfl rfl rfl (L.nil (X.dk kn ⟨im, Sub.fresh ib rfl, i.u 22 (fun _ => rfl)⟩)))
          ·rintro D e s828 ⟨im, ib, i⟩ hk hf ha
           have g17_ := (i.p 18) (ha.at 17 rfl)
           rw [hc768] at g17_
           have kn := K3 ((i.p 21) (ha.at 20 rfl)) ((i.p 22) (ha.at 21 rfl)) g17_
           exact L.kns _ kn (L.skip rfl rfl rfl rfl (L.nil (X.dk kn ⟨im, Sub.fresh ib rfl, i.u 23 (fun _ => rfl)⟩)))
          ·rintro D e s829 ⟨im, ib, i⟩ hk hf ha
           have g17_ := (i.p 18) (ha.at 17 rfl)
           rw [hc768] at g17_
           have kn := K2 ((i.p 23) (ha.at 22 rfl)) g17_
           exact L.kns _ kn (L.skip rfl rfl rfl rfl (L.nil (X.dk kn ⟨im, Sub.fresh ib rfl, i.u 24 (fun _ => rfl)⟩)))
          ·rintro D e s830 ⟨im, ib, i⟩ hk hf ha
           have g17_ := (i.p 18) (ha.at 17 rfl)
           rw [hc768] at g17_
           have kn := K2 ((i.p 24) (ha.at 23 rfl)) g17_
           exact L.kns _ kn (L.skip rfl rfl rfl rfl (L.nil (X.dk kn ⟨im, Sub.fresh ib rfl, i.u 25 (fun _ => rfl)⟩)))
          ·rintro D e s831 ⟨im, ib, i⟩ hk hf ha
           have g17_ := (i.p 18) (ha.at 17 rfl)
           rw [hc768] at g17_
           have kn := K3 ((i.p 19) (ha.at 18 rfl)) ((i.p 25) (ha.at 24 rfl)) g17_
           exact L.kns _ kn (L.skip rfl rfl rfl rfl (L.nil (X.dk kn ⟨im, Sub.fresh ib rfl, i.u 26 (fun _ => rfl)⟩)))
          ·rintro D e s832 ⟨im, ib, i⟩ hk hf ha
           have g17_ := (i.p 18) (ha.at 17 rfl)
           rw [hc768] at g17_
           have kn := K2 ((i.p 26) (ha.at 25 rfl)) g17_
           exact L.kns _ kn (L.skip rfl rfl rfl rfl (L.nil (X.dk kn ⟨im, Sub.fresh ib rfl, i.u 27 (fun _ => rfl)⟩)))
          ·rintro D e s833 ⟨im, ib, i⟩ hk hf ha
           have g17_ := (i.p 18) (ha.at 17 rfl)
           rw [hc768] at g17_
           have kn := K2 (ib 11 _ rfl) g17_
           exact L.kns _ kn (L.skip rfl rfl rfl rfl (L.nil (X.dk kn ⟨im, Sub.fresh ib rfl, i.u 28 (fun _ => rfl)⟩)))
          ·rintro D e s834 ⟨im, ib, i⟩ hk hf ha
           have g17_ := (i.p 18) (ha.at 17 rfl)
           rw [hc768] at g17_
           have kn := K2 (ib 17 _ rfl) g17_
           exact L.kns _ kn (L.skip rfl rfl rfl rfl (L.nil (X.dk kn ⟨im, Sub.fresh ib rfl, i.u 29 (fun _ => rfl)⟩)))
          ·rintro D e s835 ⟨im, ib, i⟩ hk hf ha
           have g17_ := (i.p 18) (ha.at 17 rfl)
           rw [hc768] at g17_
           have kn := K3 ((i.p 28) (ha.at 27 rfl)) ((i.p 29) (ha.at 28 rfl)) g17_
           exact L.kns _ kn (L.skip rfl rfl rfl rfl (L.nil (X.dk kn ⟨im, Sub.fresh ib rfl, i.u 30 (fun _ => rfl)⟩)))
          ·rintro D e s836 ⟨im, ib, i⟩ hk hf ha
           have g17_ := (i.p 18) (ha.at 17 rfl)
           rw [hc768] at g17_
           have kn := K2 ((i.p 30) (ha.at 29 rfl)) g17_
           exact L.kns _ kn (L.skip rfl rfl rfl rfl (L.nil (X.dk kn ⟨im, Sub.fresh ib rfl, i.u 31 (fun _ => rfl)⟩)))
          ·rintro D e s837 ⟨im, ib, i⟩ hk hf ha
           have g17_ := (i.p 18) (ha.at 17 rfl)
           rw [hc768] at g17_
           have kn := K3 ((i.p 27) (ha.at 26 rfl)) ((i.p 31) (ha.at 30 rfl)) g17_
           exact L.kns _ kn (L.skip rfl rfl rfl rfl (L.nil (X.dk kn ⟨im, Sub.fresh ib rfl, i.u 32 (fun _ => rfl)⟩)))
          ·rintro D e s838 ⟨im, ib, i⟩ hk hf ha
           have g1_ := (i.p 2) (ha.at 1 rfl)
           have g17_ := (i.p 18) (ha.at 17 rfl)
           rw [hc768] at g17_
           rw [hc700] at g1_
           have kn := K3 g17_ ((i.p 32) (ha.at 31 rfl)) g1_
           exact L.kns _ kn (L.pkF (Wt.mk rfl rfl) rfl rfl rfl rfl (L.nil (X.dk kn ⟨im, Sub.fresh ib rfl, i.u 33 (fun _ => rfl)⟩)))
          ·rintro D e s839 ⟨im, ib, i⟩ hk hf ha
           have g1_ := (i.p 2) (ha.at 1 rfl)
           rw [hc700] at g1_
           have kn := K2 ((i.p 33) (ha.at 32 rfl)) g1_
           exact L.kns _ kn (L.mv (Wt.mk rfl rfl) rfl rfl (L.nil (X.dk kn ⟨im, Sub.fresh ib rfl, i.u 34 (fun _ => rfl)⟩)))
          ·rintro D e s840 ⟨im, ib, i⟩ hk hf ha
           have kn := K2 (ib 11 _ rfl) ((i.p 34) (ha.at 33 rfl))
           exact L.kns _ kn (L.skip rfl rfl rfl rfl (L.nil (X.dk kn ⟨im, Sub.fresh ib rfl, i.u 35 (fun _ => rfl)⟩)))
          ·rintro D e s841 ⟨im, ib, i⟩ hk hf ha
           have kn := K2 (ib 8 _ rfl) ((i.p 34) (ha.at 33 rfl))
           exact L.kns _ kn (L.skip rfl rfl rfl rfl (L.nil (X.dk kn ⟨im, Sub.fresh ib rfl, i.u 36 (fun _ => rfl)⟩)))
          ·rintro D e s842 ⟨im, ib, i⟩ hk hf ha
           have kn := K2 ((i.p 36) (ha.at 35 rfl)) ((i.p 34) (ha.at 33 rfl))
           exact L.kns _ kn (L.skip rfl rfl rfl rfl (L.nil (X.dk kn ⟨im, Sub.fresh ib rfl, i.u 37 (fun _ => rfl)⟩)))
          ·rintro D e s843 ⟨im, ib, i⟩ hk hf ha
           have kn := K2 (ib 19 _ rfl) ((i.p 34) (ha.at 33 rfl))
           exact L.kns _ kn (L.skip rfl rfl rfl rfl (L.nil (X.dk kn ⟨im, Sub.fresh ib rfl, i.u 38 (fun _ => rfl)⟩)))
          ·rintro D e s844 ⟨im, ib, i⟩ hk hf ha
           have kn := K3 ((i.p 37) (ha.at 36 rfl)) ((i.p 38) (ha.at 37 rfl)) ((i.p 34) (ha.at 33 rfl))
           exact L.kns _ kn (L.skip rfl rfl rfl rfl (L.nil (X.dk kn ⟨im, Sub.fresh ib rfl, i.u 39 (fun _ => rfl)⟩)))
          ·rintro D e s845 ⟨im, ib, i⟩ hk hf ha
           have kn := K2 ((i.p 39) (ha.at 38 rfl)) ((i.p 34) (ha.at 33 rfl))
           exact L.kns _ kn (L.skip rfl rfl rfl rfl (L.nil (X.dk kn ⟨im, Sub.fresh ib rfl, i.u 40 (fun _ => rfl)⟩)))
          ·rintro D e s846 ⟨im, ib, i⟩ hk hf ha
           have kn := K2 ((i.p 40) (ha.at 39 rfl)) ((i.p 34) (ha.at 33 rfl))
           exact L.kns _ kn (L.skip rfl rfl rfl rfl (L.nil (X.dk kn ⟨im, Sub.fresh ib rfl, i.u 41 (fun _ => rfl)⟩)))
          ·rintro D e s847 ⟨im, ib, i⟩ hk hf ha
           have kn := K3 ((i.p 35) (ha.at 34 rfl)) ((i.p 41) (ha.at 40 rfl)) ((i.p 34) (ha.at 33 rfl))
           exact L.kns _ kn (L.skip rfl rfl rfl rfl (L.nil (X.dk kn ⟨im, Sub.fresh ib rfl, i.u 42 (fun _ => rfl)⟩)))
          ·rintro D e s848 ⟨im, ib, i⟩ hk hf ha
           have kn := K2 ((i.p 42) (ha.at 41 rfl)) ((i.p 34) (ha.at 33 rfl))
           exact L.kns _ kn (L.skip rfl rfl rfl rfl (L.nil (X.dk kn ⟨im, Sub.fresh ib rfl, i.u 43 (fun _ => rfl)⟩)))
          ·rintro D e s849 ⟨im, ib, i⟩ hk hf ha
           have kn := K2 ((i.p 43) (ha.at 42 rfl)) ((i.p 34) (ha.at 33 rfl))
           exact L.kns _ kn (L.skip rfl rfl rfl rfl (L.nil (X.dk kn ⟨im, Sub.fresh ib rfl, i.u 44 (fun _ => rfl)⟩)))
          ·rintro D e s850 ⟨im, ib, i⟩ hk hf ha
           have g1_ := (i.p 2) (ha.at 1 rfl)
           rw [hc700] at g1_
           have kn := K3 ((i.p 34) (ha.at 33 rfl)) ((i.p 44) (ha.at 43 rfl)) g1_
           exact L.kns _ kn (L.pkF (Wt.mk rfl rfl) rfl rfl rfl rfl (L.nil (X.dk kn ⟨im, Sub.fresh ib rfl, i.u 45 (fun _ => rfl)⟩)))
          ·rintro D e s851 ⟨im, ib, i⟩ hk hf ha
           have g1_ := (i.p 2) (ha.at 1 rfl)
           rw [hc700] at g1_
           have kn := K2 g1_ ((i.p 45) (ha.at 44 rfl))
           exact L.kns _ kn (L.pkF Wt.no rfl rfl rfl rfl (L.nil (X.dk kn ⟨im, Sub.fresh ib rfl, i.u 46 (fun _ => rfl)⟩)))
          rintro D e s852 ⟨im, ib, i⟩ hk hf ha
          have kn := K1 ((i.p 46) (ha.at 45 rfl))
          exact L.kns _ kn (L.as Wt.no rfl rfl (L.nil (X.dk kn ⟨im, Sub.fresh ib rfl, (i.u 0 (fun z => Bool.noConfusion (show true = false from z))).u 47 (fun _ => rfl)⟩)))
         rintro D e s853 hD ⟨im, ib, i⟩
         have g46_ := (i.p 47) (hD 46 rfl)
         have h26 := h26.mv im no_No no_No
         have bx18 := bx18.mv im no_No
         have h14 := h14.mono (im.le no_No)
         have h15 := h15.mono (im.le no_No)
         have h16 := h16.mono (im.le no_No)
         have h10 := h10.mono (im.le no_No)
         have m0 := m0.trans im.no
         refine X.sub (e' := [(18, .bool false), (19, .int .i64 st690.1), (17, .int .i64 st471.1), (16, .int .i64 st471.2), (11, .slice a26 x45.length c26), (8, .pointer (some ⟨b18, 0, none⟩)), (7, .slice a10 r7.length c10)]) ?_ (Sub.cons g46_ (Sub.cons (ib 19 _ rfl) (Sub.cons (ib 17 _ rfl) (Sub.cons (ib 16 _ rfl) (Sub.cons (ib 11 _ rfl) (Sub.cons (ib 8 _ rfl) (Sub.cons (ib 7 _ rfl) Sub.nil)))))))
         exact X.blkN (X.sub (Jj697 _ _ ⟨s853, false, hm, m0, h26, h10, h14, h15, h16, bx18, rfl, rfl⟩) (Sub.rf rfl))
        have _ := hN
        refine E.draw m_overseerlaw24_BlockingVerifies_w0 (fun D e sx => Mv No s692 sx ∧ Sub [(19, .int .i64 st690.1), (17, .int .i64 st471.1), (16, .int .i64 st471.2), (11, .slice a26 x45.length c26), (8, .pointer (some ⟨b18, 0, none⟩)), (7, .slice a10 r7.length c10)] e ∧ AllP [D 46 = false → Env.get e 18 = some (.bool st690.2), G D e 0 109 (.bool st690.2), G D e 1 110 (.bool st690.2), G D e 2 111 (.slice a26 x45.length c26), G D e 3 112 (.int .i64 st471.1), D 4 = true → (∃ (b751 : Nat) (o751 : Nat), Env.get e 113 = some (.pointer (some ⟨b751, o751, none⟩)) ∧ Mem sx (N + 2) b751 o751 [.int .i64 x750] ∧ Spot a26 (rK .i64).sz (st471.1).toNat b751 o751), G D e 5 114 (.int .i64 x750), G D e 6 115 (.bool (decide (x750 > 0))), G D e 7 116 (.bool (decide (x750 > 0))), G D e 8 117 undef, G D e 9 118 undef, G D e 10 119 undef, G D e 11 120 undef, G D e 12 121 undef, G D e 13 122 undef, G D e 14 123 undef, G D e 15 124 undef, G D e 16 125 (.bool false), G D e 17 126 (.bool false), G D e 18 127 undef, G D e 19 128 undef, G D e 20 129 undef, G D e 21 130 undef, G D e 22 131 undef, G D e 23 132 undef, G D e 24 133 undef, G D e 25 134 undef, G D e 26 135 undef, G D e 27 136 undef, G D e 28 137 undef, G D e 29 138 undef, G D e 30 139 undef, G D e 31 140 undef, G D e 32 141 (.bool false), G D e 33 142 (.bool false), G D e 34 143 undef, G D e 35 144 undef, G D e 36 145 undef, G D e 37 146 undef, G D e 38 147 undef, G D e 39 148 undef, G D e 40 149 undef, G D e 41 150 undef, G D e 42 151 undef, G D e 43 152 undef, G D e 44 153 (.bool false), G D e 45 154 (.bool false), G D e 46 18 (.bool false)]) (by kernel_rfl) (by kernel_rfl) (by kernel_rfl) ?_ ?_ ?_
        ·intro sz mz
         exact ⟨mz, (Sub.rf rfl), fun _ => rfl, nofun, nofun, nofun, nofun, nofun, nofun, nofun, nofun, nofun, nofun, nofun, nofun, nofun, nofun, nofun, nofun, nofun, nofun, nofun, nofun, nofun, nofun, nofun, nofun, nofun, nofun, nofun, nofun, nofun, nofun, nofun, nofun, nofun, nofun, nofun, nofun, nofun, nofun, nofun, nofun, nofun, nofun, nofun, nofun, nofun, nofun, nofun, trivial⟩
        ·refine ⟨?_, ?_, ?_, ?_, ?_, ?_, ?_, ?_, ?_, ?_, ?_, ?_, ?_, ?_, ?_, ?_, ?_, ?_, ?_, ?_, ?_, ?_, ?_, ?_, ?_, ?_, ?_, ?_, ?_, ?_, ?_, ?_, ?_, ?_, ?_, ?_, ?_, ?_, ?_, ?_, ?_, ?_, ?_, ?_, ?_, ?_, ?_, trivial⟩
         ·rintro D e s698 ⟨im, ib, i⟩ hk hf ha
          have kn := K1 ((i.p 0) (hf 46 (Nat.le_of_ble_eq_true rfl) rfl))
          exact L.kns _ kn (L.mv Wt.no rfl rfl (L.nil (X.dk kn ⟨im, Sub.fresh ib rfl, i.u 1 (fun _ => rfl)⟩)))
         ·rintro D e s699 ⟨im, ib, i⟩ hk hf ha
          have kn := K1 ((i.p 1) (ha.at 0 rfl))
          exact L.kns _ kn (L.mv Wt.no rfl rfl (L.nil (X.dk kn ⟨im, Sub.fresh ib rfl, i.u 2 (fun _ => rfl)⟩)))
         ·rintro D e s747 ⟨im, ib, i⟩ hk hf ha
          have g1_ := (i.p 2) (ha.at 1 rfl)
          rw [hc700] at g1_
          have kn := K2 (ib 11 _ rfl) g1_
          exact L.kns _ kn (L.mv (Wt.mk rfl rfl) rfl rfl (L.nil (X.dk kn ⟨im, Sub.fresh ib rfl, i.u 3 (fun _ => rfl)⟩)))
         ·rintro D e s748 ⟨im, ib, i⟩ hk hf ha
          have g1_ := (i.p 2) (ha.at 1 rfl)
          rw [hc700] at g1_
          have kn := K2 (ib 17 _ rfl) g1_
          exact L.kns _ kn (L.mv (Wt.mk rfl rfl) rfl rfl (L.nil (X.dk kn ⟨im, Sub.fresh ib rfl, i.u 4 (fun _ => rfl)⟩)))
         ·rintro D e s749 ⟨im, ib, i⟩ hk hf ha
          have g1_ := (i.p 2) (ha.at 1 rfl)
          have h26 := h26.mv im no_No no_No
          rw [hc700] at g1_
          have kn := K3 ((i.p 3) (ha.at 2 rfl)) ((i.p 4) (ha.at 3 rfl)) g1_
          refine L.kns _ kn (L.ir (r := (rK .i64)) sl31 h26 (Wt.mk rfl rfl) rfl rfl ex750 rfl fun b751 o751 cc751 me751 rd751 sp751 => ?_)
          obtain rfl := rd751
          exact L.nil (X.dk kn ⟨im, Sub.fresh ib rfl, i.u 5 (fun _ => ⟨b751, o751, rfl, me751, sp751⟩)⟩)
         ·rintro D e s752 ⟨im, ib, i⟩ hk hf ha
          have g1_ := (i.p 2) (ha.at 1 rfl)
          obtain ⟨b751, o751, g4_, me751, sp751⟩ := (i.p 5) (ha.at 4 rfl)
          rw [hc700] at g1_
          have kn := K2 g4_ g1_
          exact L.kns _ kn (L.ld (j := 0) me751 nag3 (Wt.mk rfl rfl) rfl rfl rfl rfl (L.nil (X.dk kn ⟨im, Sub.fresh ib rfl, i.u 6 (fun _ => rfl)⟩)))
         ·rintro D e s753 ⟨im, ib, i⟩ hk hf ha
          have g1_ := (i.p 2) (ha.at 1 rfl)
          rw [hc700] at g1_
          have kn := K2 ((i.p 6) (ha.at 5 rfl)) g1_
          exact L.kns _ kn (L.bi (Wt.mk rfl rfl) rfl rfl rfl rfl (L.nil (X.dk kn ⟨im, Sub.fresh ib rfl, i.u 7 (fun _ => rfl)⟩)))
         ·rintro D e s754 ⟨im, ib, i⟩ hk hf ha
          have g1_ := (i.p 2) (ha.at 1 rfl)
          rw [hc700] at g1_
          have kn := K2 ((i.p 7) (ha.at 6 rfl)) g1_
          exact L.kns _ kn (L.mv (Wt.mk rfl rfl) rfl rfl (L.nil (X.dk kn ⟨im, Sub.fresh ib rfl, i.u 8 (fun _ => rfl)⟩)))
         ·rintro D e s854 ⟨im, ib, i⟩ hk hf ha
          have g7_ := (i.p 8) (ha.at 7 rfl)
          rw [hc755] at g7_
          have kn := K2 (ib 8 _ rfl) g7_
          exact L.kns _ kn (L.skip rfl rfl rfl rfl (L.nil (X.dk kn ⟨im, Sub.fresh ib rfl, i.u 9 (fun _ => rfl)⟩)))
         ·rintro D e s855 ⟨im, ib, i⟩ hk hf ha
          have g7_ := (i.p 8) (ha.at 7 rfl)
          rw [hc755] at g7_
          have kn := K2 ((i.p 9) (ha.at 8 rfl)) g7_
          exact L.kns _ kn (L.skip rfl rfl rfl rfl (L.nil (X.dk kn ⟨im, Sub.fresh ib rfl, i.u 10 (fun _ => rfl)⟩)))
         ·rintro D e s856 ⟨im, ib, i⟩ hk hf ha
          have g7_ := (i.p 8) (ha.at 7 rfl)
          rw [hc755] at g7_
          have kn := K2 (ib 19 _ rfl) g7_
          exact L.kns _ kn (L.skip rfl rfl rfl rfl (L.nil (X.dk kn ⟨im, Sub.fresh ib rfl, i.u 11 (fun _ => rfl)⟩)))
         ·rintro D e s857 ⟨im, ib, i⟩ hk hf ha
          have g7_ := (i.p 8) (ha.at 7 rfl)
          rw [hc755] at g7_
          have kn := K3 ((i.p 10) (ha.at 9 rfl)) ((i.p 11) (ha.at 10 rfl)) g7_
          exact L.kns _ kn (L.skip rfl rfl rfl rfl (L.nil (X.dk kn ⟨im, Sub.fresh ib rfl, i.u 12 (fun _ => rfl)⟩)))
         ·rintro D e s858 ⟨im, ib, i⟩ hk hf ha
          have g7_ := (i.p 8) (ha.at 7 rfl)
          rw [hc755] at g7_
          have kn := K2 ((i.p 12) (ha.at 11 rfl)) g7_
          exact L.kns _ kn (L.skip rfl rfl rfl rfl (L.nil (X.dk kn ⟨im, Sub.fresh ib rfl, i.u 13 (fun _ => rfl)⟩)))
         ·rintro D e s859 ⟨im, ib, i⟩ hk hf ha
          have g7_ := (i.p 8) (ha.at 7 rfl)
          rw [hc755] at g7_
          have kn := K2 ((i.p 13) (ha.at 12 rfl)) g7_
          exact L.kns _ kn (L.skip rfl rfl rfl rfl (L.nil (X.dk kn ⟨im, Sub.fresh ib rfl, i.u 14 (fun _ => rfl)⟩)))
         ·rintro D e s860 ⟨im, ib, i⟩ hk hf ha
          have g7_ := (i.p 8) (ha.at 7 rfl)
          rw [hc755] at g7_
          have kn := K2 (ib 17 _ rfl) g7_
          exact L.kns _ kn (L.skip rfl rfl rfl rfl (L.nil (X.dk kn ⟨im, Sub.fresh ib rfl, i.u 15 (fun _ => rfl)⟩)))
         ·rintro D e s861 ⟨im, ib, i⟩ hk hf ha
          have g7_ := (i.p 8) (ha.at 7 rfl)
          rw [hc755] at g7_
          have kn := K3 ((i.p 14) (ha.at 13 rfl)) ((i.p 15) (ha.at 14 rfl)) g7_
          exact L.kns _ kn (L.skip rfl rfl rfl rfl (L.nil (X.dk kn ⟨im, Sub.fresh ib rfl, i.u 16 (fun _ => rfl)⟩)))
         ·rintro D e s862 ⟨im, ib, i⟩ hk hf ha
          have g1_ := (i.p 2) (ha.at 1 rfl)
          have g7_ := (i.p 8) (ha.at 7 rfl)
          rw [hc755] at g7_
          rw [hc700] at g1_
          have kn := K3 g7_ ((i.p 16) (ha.at 15 rfl)) g1_
          exact L.kns _ kn (L.pkF (Wt.mk rfl rfl) rfl rfl rfl rfl (L.nil (X.dk kn ⟨im, Sub.fresh ib rfl, i.u 17 (fun _ => rfl)⟩)))
         ·rintro D e s863 ⟨im, ib, i⟩ hk hf ha
          have g1_ := (i.p 2) (ha.at 1 rfl)
          rw [hc700] at g1_
          have kn := K2 ((i.p 17) (ha.at 16 rfl)) g1_
          exact L.kns _ kn (L.mv (Wt.mk rfl rfl) rfl rfl (L.nil (X.dk kn ⟨im, Sub.fresh ib rfl, i.u 18 (fun _ => rfl)⟩)))
         ·rintro D e s864 ⟨im, ib, i⟩ hk hf ha
          have kn := K2 (ib 11 _ rfl) ((i.p 18) (ha.at 17 rfl))
          exact L.kns _ kn (L.skip rfl rfl rfl rfl (L.nil (X.dk kn ⟨im, Sub.fresh ib rfl, i.u 19 (fun _ => rfl)⟩)))
         ·rintro D e s865 ⟨im, ib, i⟩ hk hf ha
          have kn := K2 (ib 8 _ rfl) ((i.p 18) (ha.at 17 rfl))
          exact L.kns _ kn (L.skip rfl rfl rfl rfl (L.nil (X.dk kn ⟨im, Sub.fresh ib rfl, i.u 20 (fun _ => rfl)⟩)))
         ·rintro D e s866 ⟨im, ib, i⟩ hk hf ha
          have kn := K2 ((i.p 20) (ha.at 19 rfl)) ((i.p 18) (ha.at 17 rfl))
          exact L.kns _ kn (L.skip rfl rfl rfl rfl (L.nil (X.dk kn ⟨im, Sub.fresh ib rfl, i.u 21 (fun _ => rfl)⟩)))
         ·rintro D e s867 ⟨im, ib, i⟩ hk hf ha
          have kn := K2 (ib 19 _ rfl) ((i.p 18) (ha.at 17 rfl))
          exact L.kns _ kn (L.skip rfl rfl rfl rfl (L.nil (X.dk kn ⟨im, Sub.fresh ib rfl, i.u 22 (fun _ => rfl)⟩)))
         ·rintro D e s868 ⟨im, ib, i⟩ hk hf ha
          have kn := K3 ((i.p 21) (ha.at 20 rfl)) ((i.p 22) (ha.at 21 rfl)) ((i.p 18) (ha.at 17 rfl))
          exact L.kns _ kn (L.skip rfl rfl rfl rfl (L.nil (X.dk kn ⟨im, Sub.fresh ib rfl, i.u 23 (fun _ => rfl)⟩)))
         ·rintro D e s869 ⟨im, ib, i⟩ hk hf ha
          have kn := K2 ((i.p 23) (ha.at 22 rfl)) ((i.p 18) (ha.at 17 rfl))
          exact L.kns _ kn (L.skip rfl rfl rfl rfl (L.nil (X.dk kn ⟨im, Sub.fresh ib rfl, i.u 24 (fun _ => rfl)⟩)))
         ·rintro D e s870 ⟨im, ib, i⟩ hk hf ha
          have kn := K2 ((i.p 24) (ha.at 23 rfl)) ((i.p 18) (ha.at 17 rfl))
          exact L.kns _ kn (L.skip rfl rfl rfl rfl (L.nil (X.dk kn ⟨im, Sub.fresh ib rfl, i.u 25 (fun _ => rfl)⟩)))
         ·rintro D e s871 ⟨im, ib, i⟩ hk hf ha
          have kn := K3 ((i.p 19) (ha.at 18 rfl)) ((i.p 25) (ha.at 24 rfl)) ((i.p 18) (ha.at 17 rfl))
          exact L.kns _ kn (L.skip rfl rfl rfl rfl (L.nil (X.dk kn ⟨im, Sub.fresh ib rfl, i.u 26 (fun _ => rfl)⟩)))
         ·rintro D e s872 ⟨im, ib, i⟩ hk hf ha
          have kn := K2 ((i.p 26) (ha.at 25 rfl)) ((i.p 18) (ha.at 17 rfl))
          exact L.kns _ kn (L.skip rfl rfl rfl rfl (L.nil (X.dk kn ⟨im, Sub.fresh ib rfl, i.u 27 (fun _ => rfl)⟩)))
         ·rintro D e s873 ⟨im, ib, i⟩ hk hf ha
          have kn := K2 (ib 11 _ rfl) ((i.p 18) (ha.at 17 rfl))
          exact L.kns _ kn (L.skip rfl rfl rfl rfl (L.nil (X.dk kn ⟨im, Sub.fresh ib rfl, i.u 28 (fun _ => rfl)⟩)))
         ·rintro D e s874 ⟨im, ib, i⟩ hk hf ha
          have kn := K2 (ib 17 _ rfl) ((i.p 18) (ha.at 17 rfl))
          exact L.kns _ kn (L.skip rfl rfl rfl rfl (L.nil (X.dk kn ⟨im, Sub.fresh ib rfl, i.u 29 (fun _ => rfl)⟩)))
         ·rintro D e s875 ⟨im, ib, i⟩ hk hf ha
          have kn := K3 ((i.p 28) (ha.at 27 rfl)) ((i.p 29) (ha.at 28 rfl)) ((i.p 18) (ha.at 17 rfl))
          exact L.kns _ kn (L.skip rfl rfl rfl rfl (L.nil (X.dk kn ⟨im, Sub.fresh ib rfl, i.u 30 (fun _ => rfl)⟩)))
         ·rintro D e s876 ⟨im, ib, i⟩ hk hf ha
          have kn := K2 ((i.p 30) (ha.at 29 rfl)) ((i.p 18) (ha.at 17 rfl))
          exact L.kns _ kn (L.skip rfl rfl rfl rfl (L.nil (X.dk kn ⟨im, Sub.fresh ib rfl, i.u 31 (fun _ => rfl)⟩)))
         ·rintro D e s877 ⟨im, ib, i⟩ hk hf ha
          have kn := K3 ((i.p 27) (ha.at 26 rfl)) ((i.p 31) (ha.at 30 rfl)) ((i.p 18) (ha.at 17 rfl))
          exact L.kns _ kn (L.skip rfl rfl rfl rfl (L.nil (X.dk kn ⟨im, Sub.fresh ib rfl, i.u 32 (fun _ => rfl)⟩)))
         ·rintro D e s878 ⟨im, ib, i⟩ hk hf ha
          have g1_ := (i.p 2) (ha.at 1 rfl)
          rw [hc700] at g1_
          have kn := K3 ((i.p 18) (ha.at 17 rfl)) ((i.p 32) (ha.at 31 rfl)) g1_
          exact L.kns _ kn (L.pkF (Wt.mk rfl rfl) rfl rfl rfl rfl (L.nil (X.dk kn ⟨im, Sub.fresh ib rfl, i.u 33 (fun _ => rfl)⟩)))
         ·rintro D e s879 ⟨im, ib, i⟩ hk hf ha
          have g1_ := (i.p 2) (ha.at 1 rfl)
          rw [hc700] at g1_
          have kn := K2 ((i.p 33) (ha.at 32 rfl)) g1_
          exact L.kns _ kn (L.mv (Wt.mk rfl rfl) rfl rfl (L.nil (X.dk kn ⟨im, Sub.fresh ib rfl, i.u 34 (fun _ => rfl)⟩)))
         ·rintro D e s880 ⟨im, ib, i⟩ hk hf ha
          have kn := K2 (ib 11 _ rfl) ((i.p 34) (ha.at 33 rfl))
          exact L.kns _ kn (L.skip rfl rfl rfl rfl (L.nil (X.dk kn ⟨im, Sub.fresh ib rfl, i.u 35 (fun _ => rfl)⟩)))
         ·rintro D e s881 ⟨im, ib, i⟩ hk hf ha
          have kn := K2 (ib 8 _ rfl) ((i.p 34) (ha.at 33 rfl))
          exact L.kns _ kn (L.skip rfl rfl rfl rfl (L.nil (X.dk kn ⟨im, Sub.fresh ib rfl, i.u 36 (fun _ => rfl)⟩)))
         ·rintro D e s882 ⟨im, ib, i⟩ hk hf ha
          have kn := K2 ((i.p 36) (ha.at 35 rfl)) ((i.p 34) (ha.at 33 rfl))
          exact L.kns _ kn (L.skip rfl rfl rfl rfl (L.nil (X.dk kn ⟨im, Sub.fresh ib rfl, i.u 37 (fun _ => rfl)⟩)))
         ·rintro D e s883 ⟨im, ib, i⟩ hk hf ha
          have kn := K2 (ib 19 _ rfl) ((i.p 34) (ha.at 33 rfl))
          exact L.kns _ kn (L.skip rfl rfl rfl rfl (L.nil (X.dk kn ⟨im, Sub.fresh ib rfl, i.u 38 (fun _ => rfl)⟩)))
         ·rintro D e s884 ⟨im, ib, i⟩ hk hf ha
          have kn := K3 ((i.p 37) (ha.at 36 rfl)) ((i.p 38) (ha.at 37 rfl)) ((i.p 34) (ha.at 33 rfl))
          exact L.kns _ kn (L.skip rfl rfl rfl rfl (L.nil (X.dk kn ⟨im, Sub.fresh ib rfl, i.u 39 (fun _ => rfl)⟩)))
         ·rintro D e s885 ⟨im, ib, i⟩ hk hf ha
          have kn := K2 ((i.p 39) (ha.at 38 rfl)) ((i.p 34) (ha.at 33 rfl))
          exact L.kns _ kn (L.skip rfl rfl rfl rfl (L.nil (X.dk kn ⟨im, Sub.fresh ib rfl, i.u 40 (fun _ => rfl)⟩)))
         ·rintro D e s886 ⟨im, ib, i⟩ hk hf ha
          have kn := K2 ((i.p 40) (ha.at 39 rfl)) ((i.p 34) (ha.at 33 rfl))
          exact L.kns _ kn (L.skip rfl rfl rfl rfl (L.nil (X.dk kn ⟨im, Sub.fresh ib rfl, i.u 41 (fun _ => rfl)⟩)))
         ·rintro D e s887 ⟨im, ib, i⟩ hk hf ha
          have kn := K3 ((i.p 35) (ha.at 34 rfl)) ((i.p 41) (ha.at 40 rfl)) ((i.p 34) (ha.at 33 rfl))
          exact L.kns _ kn (L.skip rfl rfl rfl rfl (L.nil (X.dk kn ⟨im, Sub.fresh ib rfl, i.u 42 (fun _ => rfl)⟩)))
         ·rintro D e s888 ⟨im, ib, i⟩ hk hf ha
          have kn := K2 ((i.p 42) (ha.at 41 rfl)) ((i.p 34) (ha.at 33 rfl))
          exact L.kns _ kn (L.skip rfl rfl rfl rfl (L.nil (X.dk kn ⟨im, Sub.fresh ib rfl, i.u 43 (fun _ => rfl)⟩)))
         ·rintro D e s889 ⟨im, ib, i⟩ hk hf ha
          have kn := K2 ((i.p 43) (ha.at 42 rfl)) ((i.p 34) (ha.at 33 rfl))
          exact L.kns _ kn (L.skip rfl rfl rfl rfl (L.nil (X.dk kn ⟨im, Sub.fresh ib rfl, i.u 44 (fun _ => rfl)⟩)))
         ·rintro D e s890 ⟨im, ib, i⟩ hk hf ha
          have g1_ := (i.p 2) (ha.at 1 rfl)
          rw [hc700] at g1_
          have kn := K3 ((i.p 34) (ha.at 33 rfl)) ((i.p 44) (ha.at 43 rfl)) g1_
          exact L.kns _ kn (L.pkF (Wt.mk rfl rfl) rfl rfl rfl rfl (L.nil (X.dk kn ⟨im, Sub.fresh ib rfl, i.u 45 (fun _ => rfl)⟩)))
         ·rintro D e s891 ⟨im, ib, i⟩ hk hf ha
          have g1_ := (i.p 2) (ha.at 1 rfl)
          rw [hc700] at g1_
          have kn := K2 g1_ ((i.p 45) (ha.at 44 rfl))
          exact L.kns _ kn (L.pkF Wt.no rfl rfl rfl rfl (L.nil (X.dk kn ⟨im, Sub.fresh ib rfl, i.u 46 (fun _ => rfl)⟩)))
         rintro D e s892 ⟨im, ib, i⟩ hk hf ha
         have kn := K1 ((i.p 46) (ha.at 45 rfl))
         exact L.kns _ kn (L.as Wt.no rfl rfl (L.nil (X.dk kn ⟨im, Sub.fresh ib rfl, (i.u 0 (fun z => Bool.noConfusion (show true = false from z))).u 47 (fun _ => rfl)⟩)))
        rintro D e s893 hD ⟨im, ib, i⟩
        have g46_ := (i.p 47) (hD 46 rfl)
        have h26 := h26.mv im no_No no_No
        have bx18 := bx18.mv im no_No
        have h14 := h14.mono (im.le no_No)
        have h15 := h15.mono (im.le no_No)
        have h16 := h16.mono (im.le no_No)
        have h10 := h10.mono (im.le no_No)
        have m0 := m0.trans im.no
        refine X.sub (e' := [(18, .bool false), (19, .int .i64 st690.1), (17, .int .i64 st471.1), (16, .int .i64 st471.2), (11, .slice a26 x45.length c26), (8, .pointer (some ⟨b18, 0, none⟩)), (7, .slice a10 r7.length c10)]) ?_ (Sub.cons g46_ (Sub.cons (ib 19 _ rfl) (Sub.cons (ib 17 _ rfl) (Sub.cons (ib 16 _ rfl) (Sub.cons (ib 11 _ rfl) (Sub.cons (ib 8 _ rfl) (Sub.cons (ib 7 _ rfl) Sub.nil)))))))
        exact X.blkN (X.sub (Jj697 _ _ ⟨s893, false, hm, m0, h26, h10, h14, h15, h16, bx18, rfl, rfl⟩) (Sub.rf rfl))
       refine E.cF rfl hc (E.exit (X.seqX (X.seqX ?_)))
       have hx := ho690 _ (Option.some.inj hm).symm
       subst hx
       exact X.sub (K694 _ _ ⟨s692, m0, h26, h10, h14, h15, h16, bx18, rfl, rfl⟩) (Sub.rf rfl)
      intro J894
      rcases ifS eb484 with ⟨hc, hm⟩ | ⟨hc, hm⟩
      ·refine L.know (d := 96) rfl hc (L.fa fa34_2 (Wt.mk rfl rfl) rfl rfl (L.ld (j := 2) bx18.mem nag31 (Wt.mk rfl rfl) rfl rfl rfl rfl (L.mv (Wt.mk rfl rfl) rfl rfl ?_)))
       obtain ⟨r895, er895, hm⟩ := bindS hm
       refine L.ca cf24 rfl rfl (Wt.mk rfl rfl) rfl (m_overseerlaw24_has_c (s := s473) (p0 := r11.1.2.2.1) (p1 := st471.1) h15 er895) rfl ?_
       rintro _ s896 m897 rfl
       replace m0 := m0.trans m897.no
       replace h10 := h10.mono (m897.le no_No)
       replace h26 := h26.mv m897 no_No no_No
       replace bx18 := bx18.mv m897 no_No
       replace h14 := h14.mono (m897.le no_No)
       replace h15 := h15.mono (m897.le no_No)
       replace h16 := h16.mono (m897.le no_No)
       exact L.pkT Wt.no rfl rfl rfl rfl (L.sb (J894 _ _ ⟨s896, r895, (Option.some.inj hm).symm, m0, h26, h10, h14, h15, h16, bx18, rfl, rfl⟩) rfl)
      exact L.know (d := 96) rfl hc (L.skip rfl rfl rfl rfl (L.skip rfl rfl rfl rfl (L.skip rfl rfl rfl rfl (L.skip rfl rfl rfl rfl (L.pkF Wt.no rfl rfl rfl rfl (L.sb (J894 _ _ ⟨s473, false, (Option.some.inj hm).symm, m0, h26, h10, h14, h15, h16, bx18, rfl, rfl⟩) rfl))))))
     refine E.cF rfl hc (E.exit (X.seqX (X.seqX ?_)))
     have hx := ho471 _ (Option.some.inj hm).symm
     subst hx
     exact X.sub (K478 _ _ ⟨s473, m0, h26, h10, rfl, rfl⟩) (Sub.rf rfl)
    intro J898
    rcases ifS eb34 with ⟨hc, hm⟩ | ⟨hc, hm⟩
    ·exact L.know (d := 58) rfl hc (L.skip rfl rfl rfl rfl (L.skip rfl rfl rfl rfl (L.skip rfl rfl rfl rfl (L.skip rfl rfl rfl rfl (L.skip rfl rfl rfl rfl (L.skip rfl rfl rfl rfl (L.pkT Wt.no rfl rfl rfl rfl (L.sb (J898 _ _ ⟨s28, true, (Option.some.inj hm).symm, m0, h26, h10, h14, h15, h16, bx18, rfl, rfl⟩) rfl))))))))
    refine L.know (d := 58) rfl hc (L.mv (Wt.mk rfl rfl) rfl rfl (L.mv (Wt.mk rfl rfl) rfl rfl ?_))
    obtain ⟨r899, er899, hm⟩ := bindS hm
    refine L.ca cf23 rfl rfl (Wt.mk rfl rfl) rfl (Calls.lendG (s0 := (Sig.drop N s28)) (s := s28) rfl (m_blocking_Verify_c (s := (Sig.drop N s28)) (p0 := r7) (p1 := r23.1) (h10.mono (Sig.drop_le N _)) (h26.drop (Nat.le_add_right _ _)) er899) (fun v s' h => h)) rfl ?_
    rintro _ s900 m901 rfl
    replace m0 := m0.trans m901.no
    replace h10 := h10.mono (m901.le no_No)
    replace h26 := h26.mv m901 no_No no_No
    replace bx18 := bx18.mv m901 no_No
    replace h14 := h14.mono (m901.le no_No)
    replace h15 := h15.mono (m901.le no_No)
    replace h16 := h16.mono (m901.le no_No)
    exact L.bi (Wt.mk rfl rfl) rfl rfl rfl rfl (L.mv (Wt.mk rfl rfl) rfl rfl (L.bne Tryd.underlying4 (Wt.mk rfl rfl) rfl rfl rfl (L.pkF Wt.no rfl rfl rfl rfl (L.sb (J898 _ _ ⟨s900, ((r899 == 0) != r27.2.1), (Option.some.inj hm).symm, m0, h26, h10, h14, h15, h16, bx18, rfl, rfl⟩) rfl))))
   intro J902
   rcases Bool.eq_false_or_eq_true (((r11.2.2 != 0) || (r23.2 != 0)) || (r27.2.2 != 0)) with hc | hc
   ·exact L.know (d := 51) rfl hc (L.skip rfl rfl rfl rfl (L.skip rfl rfl rfl rfl (L.skip rfl rfl rfl rfl (L.skip rfl rfl rfl rfl (L.skip rfl rfl rfl rfl (L.pkT Wt.no rfl rfl rfl rfl (L.sb (J902 _ _ ⟨true, (orT hc).symm, rfl, rfl⟩) rfl)))))))
   exact L.know (d := 51) rfl hc (L.mv (Wt.mk rfl rfl) rfl rfl (L.len sl31 (Wt.mk rfl rfl) rfl rfl (L.fa fa34_1 (Wt.mk rfl rfl) rfl rfl (L.ld (j := 1) bx18.mem nag3 (Wt.mk rfl rfl) rfl rfl rfl rfl (L.bi (Wt.mk rfl rfl) rfl rfl rfl rfl (L.pkF Wt.no rfl rfl rfl rfl (L.sb (J902 _ _ ⟨((r23.1.length : Int) != r11.1.2.1), (orF hc).symm, rfl, rfl⟩) rfl)))))))
  intro J903
  rcases Bool.eq_false_or_eq_true ((r11.2.2 != 0) || (r23.2 != 0)) with hc | hc
  ·exact L.know (d := 47) rfl hc (L.skip rfl rfl rfl rfl (L.skip rfl rfl rfl rfl (L.pkT Wt.no rfl rfl rfl rfl (L.sb (J903 _ _ ⟨true, (orT hc).symm, rfl, rfl⟩) rfl))))
  exact L.know (d := 47) rfl hc (L.mv (Wt.mk rfl rfl) rfl rfl (L.bi (Wt.mk rfl rfl) rfl rfl rfl rfl (L.pkF Wt.no rfl rfl rfl rfl (L.sb (J903 _ _ ⟨(r27.2.2 != 0), (orF hc).symm, rfl, rfl⟩) rfl))))
 intro J904
 rcases Bool.eq_false_or_eq_true (r11.2.2 != 0) with hc | hc
 ·exact L.know (d := 43) rfl hc (L.skip rfl rfl rfl rfl (L.skip rfl rfl rfl rfl (L.pkT Wt.no rfl rfl rfl rfl (L.sb (J904 _ _ ⟨true, (orT hc).symm, rfl, rfl⟩) rfl))))
 exact L.know (d := 43) rfl hc (L.mv (Wt.mk rfl rfl) rfl rfl (L.bi (Wt.mk rfl rfl) rfl rfl rfl rfl (L.pkF Wt.no rfl rfl rfl rfl (L.sb (J904 _ _ ⟨(r23.2 != 0), (orF hc).symm, rfl, rfl⟩) rfl))))

end Go.Proofs.YtfbapajcheammaaDoor

namespace Go.Proofs.YtfbapajcheammaaDoor

/-- The rank of a word: words in shortlex order have rising ranks. -/
def wval (u : List Int) : Int := u.foldl (fun acc e => 33 * acc + e + 1) 0
theorem wval_snoc (u : List Int) (e : Int) : wval (u ++ [e]) = 33 * wval u + e + 1 := by simp [wval, List.foldl_append]
def Evs (u : List Int) : Prop := ∀ e ∈ u, 0 ≤ e ∧ e < 32
theorem Evs.nil : Evs [] := fun e h => by cases h
theorem Evs.of_snoc {u : List Int} {e : Int} (h : Evs (u ++ [e])) : Evs u ∧ 0 ≤ e ∧ e < 32 :=
  ⟨fun x hx => h x (List.mem_append_left _ hx), h e (by simp)⟩
/-- Induction at the end of a list. -/
theorem snoc_ind {α : Type} {P : List α → Prop} (h0 : P []) (h1 : ∀ u e, P u → P (u ++ [e])) (u : List α) : P u := by
  have h2 : ∀ n (u : List α), u.length = n → P u := by
    intro n
    induction n with
    | zero => intro u hu; rw [List.eq_nil_of_length_eq_zero hu]; exact h0
    | succ n ih =>
      intro u hu
      rcases List.eq_nil_or_concat u with rfl | ⟨l, b, rfl⟩
      · cases hu
      · have hl : l.length = n := by simpa using hu
        simpa using h1 l b (ih l hl)
  exact h2 _ u rfl
theorem wval_nonneg (u : List Int) : Evs u → 0 ≤ wval u := by
  refine snoc_ind (P := fun u => Evs u → 0 ≤ wval u) (fun _ => Int.le_refl 0) (fun u e ih h => ?_) u
  have h1 := h.of_snoc
  have := ih h1.1
  rw [wval_snoc]; omega
/-- The least and the greatest rank of a word of so many events. -/
def wlo : Nat → Int
  | 0 => 0
  | n + 1 => 33 * wlo n + 1
def whi : Nat → Int
  | 0 => 0
  | n + 1 => 33 * whi n + 32
theorem wlo_le (u : List Int) : Evs u → wlo u.length ≤ wval u ∧ wval u ≤ whi u.length := by
  refine snoc_ind (P := fun u => Evs u → wlo u.length ≤ wval u ∧ wval u ≤ whi u.length) (fun _ => ⟨Int.le_refl _, Int.le_refl _⟩) (fun u e ih h => ?_) u
  have h1 := h.of_snoc
  have := ih h1.1
  rw [wval_snoc, List.length_append, List.length_singleton, wlo, whi]; omega
theorem whi_lt (n : Nat) : whi n < wlo (n + 1) := by
  induction n with
  | zero => decide
  | succ n ih => rw [whi, wlo]; omega
theorem wlo_mono {m n : Nat} (h : m ≤ n) : wlo m ≤ wlo n := by
  induction n with
  | zero => obtain rfl : m = 0 := by omega
            exact Int.le_refl _
  | succ n ih =>
    by_cases e : m = n + 1
    · rw [e]; exact Int.le_refl _
    · have h1 := ih (by omega)
      have h2 : 0 ≤ wlo n := by
        clear h1 ih h e
        induction n with
        | zero => exact Int.le_refl _
        | succ n ih => rw [wlo]; omega
      rw [wlo]; omega
theorem wval_len {u v : List Int} (hu : Evs u) (hv : Evs v) (h : wval u ≤ wval v) : u.length ≤ v.length := by
  by_cases hlt : v.length < u.length
  · have h1 := (wlo_le u hu).1
    have h2 := (wlo_le v hv).2
    have h3 := whi_lt v.length
    have h4 := wlo_mono (show v.length + 1 ≤ u.length by omega)
    omega
  · omega

/-- A word leads from s to t. -/
def Leads (es : List Ed) (perm : Ed → Bool) (s : Int) : List Int → Int → Prop
  | [], t => s = t
  | e :: u, t => ∃ x ∈ es, x.f = s ∧ x.e = e ∧ perm x = true ∧ Leads es perm x.t u t
theorem Leads.snoc {es : List Ed} {perm : Ed → Bool} : ∀ {u : List Int} {s t : Int}, Leads es perm s u t → ∀ {x : Ed}, x ∈ es → x.f = t → perm x = true → Leads es perm s (u ++ [x.e]) x.t
  | [], s, t, h, x, hx, hf, hp => ⟨x, hx, by rw [hf]; exact h.symm, rfl, hp, rfl⟩
  | e :: u, s, t, ⟨y, hy, h1, h2, h3, h4⟩, x, hx, hf, hp => ⟨y, hy, h1, h2, h3, h4.snoc hx hf hp⟩
theorem Leads.of_snoc {es : List Ed} {perm : Ed → Bool} {e : Int} : ∀ {u : List Int} {s t : Int}, Leads es perm s (u ++ [e]) t → ∃ x ∈ es, Leads es perm s u x.f ∧ x.e = e ∧ x.t = t ∧ perm x = true
  | [], s, t, ⟨y, hy, h1, h2, h3, h4⟩ => ⟨y, hy, h1.symm, h2, h4, h3⟩
  | a :: u, s, t, ⟨y, hy, h1, h2, h3, h4⟩ => by
    obtain ⟨x, hx, g1, g2, g3, g4⟩ := Leads.of_snoc (u := u) h4
    exact ⟨x, hx, ⟨y, hy, h1, h2, h3, g1⟩, g2, g3, g4⟩
/-- The events of the edges. -/
def EvEs (es : List Ed) : Prop := ∀ x ∈ es, 0 ≤ x.e ∧ x.e < 32
theorem Leads.evs {es : List Ed} {perm : Ed → Bool} (he : EvEs es) : ∀ {u : List Int} {s t : Int}, Leads es perm s u t → Evs u
  | [], _, _, _ => Evs.nil
  | e :: u, s, t, ⟨y, hy, h1, h2, h3, h4⟩ => by
    intro z hz
    rcases List.mem_cons.1 hz with rfl | hz
    · rw [← h2]; exact he y hy
    · exact Leads.evs he h4 z hz

/-- What a search has found so far: words with rising ranks, none above b. -/
structure Found (es : List Ed) (perm : Ed → Bool) (s : Int) (L : List (List Int × Int)) (b : Int) : Prop where
  lead : ∀ r ∈ L, Leads es perm s r.1 r.2
  sorted : ∀ j k : Nat, j < k → ∀ r r' : List Int × Int, L[j]? = some r → L[k]? = some r' → wval r.1 < wval r'.1
  bd : ∀ r ∈ L, wval r.1 ≤ b
/-- The edges of all places below i have been followed. -/
def Followed (es : List Ed) (perm : Ed → Bool) (L : List (List Int × Int)) (m i : Nat) : Prop :=
  ∀ j : Nat, j < i → ∀ r : List Int × Int, L[j]? = some r → ∀ x ∈ es, x.f = r.2 → perm x = true → ∃ k : Nat, m ≤ k ∧ ∃ r' : List Int × Int, L[k]? = some r' ∧ r'.2 = x.t ∧ wval r'.1 ≤ 33 * wval r.1 + x.e + 1

section
variable {es : List Ed} {perm : Ed → Bool} {s : Int} {L : List (List Int × Int)} {b : Int} {m i : Nat}
theorem Found.push (h : Found es perm s L b) {w : List Int} {t : Int} (hl : Leads es perm s w t) (hb : b < wval w) : Found es perm s (L ++ [(w, t)]) (wval w) := by
  refine ⟨fun r hr => ?_, fun j k hjk r r' hj hk => ?_, fun r hr => ?_⟩
  · rcases List.mem_append.1 hr with h1 | h1
    · exact h.lead r h1
    · rw [List.mem_singleton.1 h1]; exact hl
  · by_cases hk2 : k < L.length
    · rw [List.getElem?_append_left hk2] at hk
      rw [List.getElem?_append_left (by omega)] at hj
      exact h.sorted j k hjk r r' hj hk
    · rw [List.getElem?_append_right (by omega)] at hk
      have h3 : k - L.length = 0 := by
        by_cases h4 : k - L.length = 0
        · exact h4
        · rw [List.getElem?_eq_none (by simp; omega)] at hk; cases hk
      rw [h3] at hk
      simp only [List.getElem?_cons_zero, Option.some.injEq] at hk
      subst hk
      rw [List.getElem?_append_left (by omega)] at hj
      have := h.bd r (List.mem_of_getElem? hj)
      dsimp only; omega
  · rcases List.mem_append.1 hr with h1 | h1
    · have := h.bd r h1; omega
    · rw [List.mem_singleton.1 h1]; exact Int.le_refl _
theorem Found.mono (h : Found es perm s L b) {j k : Nat} (hjk : j ≤ k) {r r' : List Int × Int} (hj : L[j]? = some r) (hk : L[k]? = some r') : wval r.1 ≤ wval r'.1 := by
  by_cases e : j = k
  · subst e; rw [hj] at hk; cases hk; exact Int.le_refl _
  · exact Int.le_of_lt (h.sorted j k (by omega) r r' hj hk)
theorem Followed.append (h : Followed es perm L m i) (hi : i ≤ L.length) (M : List (List Int × Int)) : Followed es perm (L ++ M) m i := by
  intro j hj r hr x hx hf hp
  rw [List.getElem?_append_left (by omega)] at hr
  obtain ⟨k, hk, r', hr', h1, h2⟩ := h j hj r hr x hx hf hp
  refine ⟨k, hk, r', ?_, h1, h2⟩
  rw [List.getElem?_append_left (by have := (List.getElem?_eq_some_iff.1 hr').1; omega)]
  exact hr'
/-- Where each word leads that has been tried. -/
theorem Followed.place (he : EvEs es) (hF : Found es perm s L b) (hC : Followed es perm L m i) (h0 : L[0]? = some ([], s)) (u : List Int) :
    ∀ t, Leads es perm s u t → (∃ (k : Nat) (r : List Int × Int), (u = [] ∨ m ≤ k) ∧ L[k]? = some r ∧ r.2 = t ∧ wval r.1 ≤ wval u) ∨ (∃ r : List Int × Int, L[i]? = some r ∧ wval r.1 < wval u) ∨ L.length ≤ i := by
  induction u using snoc_ind with
  | h0 =>
    intro t ht
    refine .inl ⟨0, _, .inl rfl, h0, ht, Int.le_refl _⟩
  | h1 u e ih =>
    intro t ht
    by_cases hil : L.length ≤ i
    · exact .inr (.inr hil)
    obtain ⟨x, hx, g1, rfl, rfl, g4⟩ := ht.of_snoc
    have hxe := he x hx
    have hi : L[i]? = some L[i] := List.getElem?_eq_getElem (by omega)
    have hu := wval_nonneg u (g1.evs he)
    rcases ih x.f g1 with ⟨k, r, hk0, hk, hr, hle⟩ | ⟨r, hk, hle⟩ | h3
    · by_cases hki : k < i
      · obtain ⟨k', hk', r', h1, h2, h3⟩ := hC k hki r hk x hx hr.symm g4
        refine .inl ⟨k', r', .inr hk', h1, h2, ?_⟩
        rw [wval_snoc]; omega
      · refine .inr (.inl ⟨_, hi, ?_⟩)
        have := hF.mono (show i ≤ k by omega) hi hk
        rw [wval_snoc]; omega
    · refine .inr (.inl ⟨r, hk, ?_⟩)
      rw [wval_snoc]; omega
    · exact .inr (.inr h3)
/-- The same where all have been followed. -/
theorem Followed.all (_he : EvEs es) (hC : Followed es perm L m L.length) (h0 : L[0]? = some ([], s)) (u : List Int) :
    ∀ t, Leads es perm s u t → ∃ (k : Nat) (r : List Int × Int), (u = [] ∨ m ≤ k) ∧ L[k]? = some r ∧ r.2 = t ∧ wval r.1 ≤ wval u := by
  induction u using snoc_ind with
  | h0 =>
    intro t ht
    exact ⟨0, _, .inl rfl, h0, ht, Int.le_refl _⟩
  | h1 u e ih =>
    intro t ht
    obtain ⟨x, hx, g1, rfl, rfl, g4⟩ := ht.of_snoc
    obtain ⟨k, r, hk0, hk, hr, hle⟩ := ih x.f g1
    obtain ⟨k', hk', r', h1, h2, h3⟩ := hC k (List.getElem?_eq_some_iff.1 hk).1 r hk x hx hr.symm g4
    refine ⟨k', r', .inr hk', h1, h2, ?_⟩
    rw [wval_snoc]; omega

/-- The least word that leads to a state that is wanted, of at least so many events. -/
structure Least (es : List Ed) (perm : Ed → Bool) (want : Int → Bool) (s : Int) (least : Nat) (w : List Int) : Prop where
  ev : Evs w
  len : least ≤ w.length
  leads : ∃ t, Leads es perm s w t ∧ want t = true
  le : ∀ u t, Leads es perm s u t → want t = true → least ≤ u.length → wval w ≤ wval u
/-- A search that looks at a state when its turn comes. -/
theorem Found.least {want : Int → Bool} (he : EvEs es) (hF : Found es perm s L b) (hC : Followed es perm L 0 i) (h0 : L[0]? = some ([], s)) {r : List Int × Int} (hi : L[i]? = some r) (hw : want r.2 = true)
    (hn : ∀ j : Nat, j < i → ∀ r : List Int × Int, L[j]? = some r → want r.2 = false) : Least es perm want s 0 r.1 := by
  have hl := hF.lead r (List.mem_of_getElem? hi)
  refine ⟨hl.evs he, Nat.zero_le _, ⟨_, hl, hw⟩, fun u t hu ht _ => ?_⟩
  rcases hC.place he hF h0 u t hu with ⟨k, r', hk0, hk, hr, hle⟩ | ⟨r', hk, hle⟩ | h3
  · by_cases hki : k < i
    · have := hn k hki r' hk
      rw [hr, ht] at this; cases this
    · have := hF.mono (show i ≤ k by omega) hi hk; omega
  · rw [hi] at hk; cases hk; omega
  · have := (List.getElem?_eq_some_iff.1 hi).1; omega
theorem Followed.none {want : Int → Bool} (he : EvEs es) (hC : Followed es perm L 0 L.length) (h0 : L[0]? = some ([], s)) (hn : ∀ (j : Nat) (r : List Int × Int), L[j]? = some r → want r.2 = false) :
    ∀ u t, Leads es perm s u t → want t = false := by
  intro u t hu
  obtain ⟨k, r, _, hk, rfl, _⟩ := hC.all he h0 u t hu
  exact hn k r hk
end
end Go.Proofs.YtfbapajcheammaaDoor

namespace Go.Proofs.YtfbapajcheammaaDoor

/-- One edge stands before another. -/
def edLt (x y : Ed) : Prop := x.f < y.f ∨ (x.f = y.f ∧ x.e < y.e)
def Sorted (es : List Ed) : Prop := es.Pairwise edLt
theorem drop_count : ∀ (es : List Ed), es.Pairwise (fun x y => x.f ≤ y.f) → ∀ s : Int, es.drop (es.countP fun x => decide (x.f < s)) = es.filter fun x => !decide (x.f < s)
  | [], _, _ => rfl
  | x :: l, h, s => by
    obtain ⟨h1, h2⟩ := List.pairwise_cons.1 h
    by_cases hx : x.f < s
    · rw [List.countP_cons_of_pos (by simpa using hx), List.drop_succ_cons, drop_count l h2 s, List.filter_cons_of_neg (by simpa using hx)]
    · have h3 : ∀ y ∈ l, ¬ y.f < s := fun y hy => by have := h1 y hy; omega
      have h4 : l.countP (fun x => decide (x.f < s)) = 0 := by
        rw [List.countP_eq_zero]; intro y hy; simpa using h3 y hy
      rw [List.countP_cons_of_neg (by simpa using hx), h4, List.drop_zero]
      symm
      rw [List.filter_eq_self]
      intro y hy
      rcases List.mem_cons.1 hy with rfl | hy
      · simpa using hx
      · simpa using h3 y hy
theorem take_count : ∀ (es : List Ed), es.Pairwise (fun x y => x.f ≤ y.f) → ∀ s : Int, es.take (es.countP fun x => decide (x.f < s)) = es.filter fun x => decide (x.f < s)
  | [], _, _ => rfl
  | x :: l, h, s => by
    obtain ⟨h1, h2⟩ := List.pairwise_cons.1 h
    by_cases hx : x.f < s
    · rw [List.countP_cons_of_pos (by simpa using hx), List.take_succ_cons, take_count l h2 s, List.filter_cons_of_pos (by simpa using hx)]
    · have h3 : ∀ y ∈ l, ¬ y.f < s := fun y hy => by have := h1 y hy; omega
      have h4 : l.countP (fun x => decide (x.f < s)) = 0 := by
        rw [List.countP_eq_zero]; intro y hy; simpa using h3 y hy
      rw [List.countP_cons_of_neg (by simpa using hx), h4, List.take_zero]
      symm
      rw [List.filter_eq_nil_iff]
      intro y hy
      rcases List.mem_cons.1 hy with rfl | hy
      · simpa using hx
      · simpa using h3 y hy
theorem Sorted.le {es : List Ed} (h : Sorted es) : es.Pairwise (fun x y => x.f ≤ y.f) := List.Pairwise.imp (fun {x y} (h : edLt x y) => by unfold edLt at h; omega) h
/-- The edges of a state, as a filter. -/
theorem subOf_eq {es : List Ed} (h : Sorted es) (s : Int) : subOf es s = es.filter fun x => decide (x.f = s) := by
  have h1 := take_count es h.le (s + 1)
  have h2 : (es.filter fun x => decide (x.f < s + 1)).Pairwise (fun x y => x.f ≤ y.f) := h.le.filter _
  have h3 := drop_count _ h2 s
  have h4 : (es.filter fun x => decide (x.f < s + 1)).countP (fun x => decide (x.f < s)) = es.countP fun x => decide (x.f < s) := by
    rw [List.countP_filter]
    apply List.countP_congr
    intro x _
    simp only [Bool.and_eq_true, decide_eq_true_eq]
    omega
  rw [h4, ← h1, List.drop_take] at h3
  rw [subOf, edSub, fstN, fstN, h3, h1, List.filter_filter]
  apply List.filter_congr
  intro x _
  rw [Bool.eq_iff_iff]
  simp only [Bool.and_eq_true, Bool.not_eq_true', decide_eq_true_eq, decide_eq_false_iff_not]
  omega

theorem back_push {steps : List St} {y : St} (hp : ∀ j (h : j < steps.length), -1 ≤ steps[j].p ∧ steps[j].p < j) : ∀ (f k : Nat), k < steps.length → back (steps ++ [y]) f k = back steps f k
  | 0, _, _ => rfl
  | f + 1, k, hk => by
    rw [back, back, Int.toNat_natCast, List.getElem?_append_left hk, List.getElem?_eq_getElem hk]
    dsimp only
    split
    · rename_i h0
      have := hp k hk
      obtain ⟨p, hpe⟩ := Int.eq_ofNat_of_zero_le h0
      rw [hpe] at this ⊢
      rw [back_push hp f p (by omega)]
    · rfl

/-- The steps of the search and the words that they stand for. -/
structure PW (es : List Ed) (perm : Ed → Bool) (from_ n i : Nat) (seen : List Bool) (steps : List St) (L : List (List Int × Int)) (b : Int) : Prop where
  pok : POk n seen steps
  len : steps.length = L.length
  st : ∀ (k : Nat) (r : List Int × Int), L[k]? = some r → ∃ x, steps[k]? = some x ∧ x.s = r.2 ∧ ∀ f, k < f → back steps f k = r.1.reverse
  seen : ∀ t : Nat, t < n → seen[t]? = some true → ∃ (k : Nat) (r : List Int × Int), L[k]? = some r ∧ r.2 = t
  found : Found es perm from_ L b
  follow : Followed es perm L 0 i
  zero : L[0]? = some ([], (from_ : Int))
  lt : i ≤ L.length

/-- The edges of one state are followed. -/
theorem PW.fold {es : List Ed} {perm : Ed → Bool} {from_ n i : Nat} (hes : ∀ x ∈ es, 0 ≤ x.t ∧ x.t < (n : Int)) (he : EvEs es) (r : List Int × Int) : ∀ (l done : List Ed) {seen : List Bool} {steps : List St} {L : List (List Int × Int)} {b : Int},
    PW es perm from_ n i seen steps L b → L[i]? = some r → es.filter (fun x => decide (x.f = r.2)) = done ++ l → l.Pairwise (fun x y => x.e < y.e) → (∀ x ∈ l, b < 33 * wval r.1 + x.e + 1) → b ≤ 33 * wval r.1 + 32 →
    (∀ x ∈ done, perm x = true → ∃ (k : Nat) (r' : List Int × Int), L[k]? = some r' ∧ r'.2 = x.t ∧ wval r'.1 ≤ 33 * wval r.1 + x.e + 1) →
    ∃ L' b', PW es perm from_ n (i + 1) (l.foldl (pStep perm i) (seen, steps)).1 (l.foldl (pStep perm i) (seen, steps)).2 L' b' ∧ b' ≤ 33 * wval r.1 + 32 ∧ ∃ M, L' = L ++ M
  | [], done, seen, steps, L, b, h, hi, hf, hs, hb, hb2, hd => by
    refine ⟨L, b, ⟨h.pok, h.len, h.st, h.seen, h.found, fun j hj r' hr x hx hxf hp => ?_, h.zero, ?_⟩, hb2, [], (List.append_nil _).symm⟩
    · by_cases hji : j < i
      · exact h.follow j hji r' hr x hx hxf hp
      · obtain rfl : j = i := by omega
        rw [hi] at hr
        cases hr
        have hmem : x ∈ done := by
          have : x ∈ es.filter (fun x => decide (x.f = r.2)) := List.mem_filter.2 ⟨hx, by simpa using hxf⟩
          rw [hf, List.append_nil] at this
          exact this
        obtain ⟨k, r', h1, h2, h3⟩ := hd x hmem hp
        exact ⟨k, Nat.zero_le _, r', h1, h2, h3⟩
    · have := (List.getElem?_eq_some_iff.1 hi).1; omega
  | x :: l, done, seen, steps, L, b, h, hi, hf, hs, hb, hb2, hd => by
    obtain ⟨hs1, hs2⟩ := List.pairwise_cons.1 hs
    have hxm : x ∈ es.filter (fun x => decide (x.f = r.2)) := by rw [hf]; simp
    obtain ⟨hxe, hxf⟩ := List.mem_filter.1 hxm
    have hxf : x.f = r.2 := by simpa using hxf
    have hxt := hes x hxe
    have hxv := he x hxe
    have hxb := hb x (List.mem_cons_self ..)
    have hf' : es.filter (fun x => decide (x.f = r.2)) = (done ++ [x]) ++ l := by rw [hf]; simp
    have hil : i < L.length := (List.getElem?_eq_some_iff.1 hi).1
    rw [List.foldl_cons]
    have hlt : x.t.toNat < seen.length := by rw [h.pok.len]; omega
    have hsv : seen[x.t.toNat]? = some seen[x.t.toNat] := List.getElem?_eq_getElem hlt
    by_cases hc : seen[x.t.toNat]?.getD true = false ∧ perm x = true
    · have hst : pStep perm i (seen, steps) x = (seen.set x.t.toNat true, steps ++ [⟨x.t, i, x.e⟩]) := by unfold pStep; rw [if_pos hc]
      have hsf : seen[x.t.toNat]? = some false := by
        have := hc.1; rw [hsv] at this ⊢; simpa using this
      have hpok := h.pok.push (i := i) (by rw [h.len]; exact hil) x.t x.e hxt.1 hxt.2 hsf
      have hlead : Leads es perm from_ r.1 r.2 := h.found.lead r (List.mem_of_getElem? hi)
      have hF := h.found.push (hlead.snoc hxe hxf hc.2) (by rw [wval_snoc]; omega)
      rw [wval_snoc] at hF
      rw [hst]
      have hnew : PW es perm from_ n i (seen.set x.t.toNat true) (steps ++ [⟨x.t, i, x.e⟩]) (L ++ [(r.1 ++ [x.e], x.t)]) (33 * wval r.1 + x.e + 1) := by
        refine ⟨hpok, by simp [h.len], ?_, ?_, hF, h.follow.append h.lt _, ?_, ?_⟩
        · intro k r' hr'
          by_cases hk : k < L.length
          · rw [List.getElem?_append_left hk] at hr'
            obtain ⟨y, h1, h2, h3⟩ := h.st k r' hr'
            refine ⟨y, by rw [List.getElem?_append_left (by rw [h.len]; exact hk)]; exact h1, h2, fun f hf => ?_⟩
            rw [back_push h.pok.parent f k (by rw [h.len]; exact hk)]
            exact h3 f hf
          · have hkl : k = L.length := by
              have := (List.getElem?_eq_some_iff.1 hr').1; simp at this; omega
            subst hkl
            rw [List.getElem?_append_right (Nat.le_refl _), Nat.sub_self] at hr'
            simp only [List.getElem?_cons_zero, Option.some.injEq] at hr'
            subst hr'
            refine ⟨⟨x.t, i, x.e⟩, by rw [List.getElem?_append_right (by rw [h.len]; exact Nat.le_refl _), h.len, Nat.sub_self]; rfl, rfl, fun f hf => ?_⟩
            obtain ⟨f', rfl⟩ : ∃ f', f = f' + 1 := ⟨f - 1, by omega⟩
            obtain ⟨y, h1, h2, h3⟩ := h.st i r hi
            rw [back, Int.toNat_natCast, List.getElem?_append_right (by rw [h.len]; exact Nat.le_refl _), h.len, Nat.sub_self]
            simp only [List.getElem?_cons_zero]
            rw [if_pos (by omega), back_push h.pok.parent f' i (by rw [h.len]; exact hil), h3 f' (by omega)]
            simp
        · intro t ht hseen
          by_cases htx : x.t.toNat = t
          · exact ⟨L.length, (r.1 ++ [x.e], x.t), by simp, by dsimp only; omega⟩
          · rw [List.getElem?_set_ne htx] at hseen
            obtain ⟨k, r', h1, h2⟩ := h.seen t ht hseen
            exact ⟨k, r', by rw [List.getElem?_append_left (List.getElem?_eq_some_iff.1 h1).1]; exact h1, h2⟩
        · rw [List.getElem?_append_left (by omega)]; exact h.zero
        · have := h.lt; simp; omega
      obtain ⟨L', b', g1, g2, M, g3⟩ := PW.fold hes he r l (done ++ [x]) hnew (by rw [List.getElem?_append_left hil]; exact hi) hf' hs2 (fun y hy => by have := hs1 y hy; omega) (by omega) (fun y hy hp => by
        rcases List.mem_append.1 hy with hy | hy
        · obtain ⟨k, r', h1, h2, h3⟩ := hd y hy hp
          exact ⟨k, r', by rw [List.getElem?_append_left (List.getElem?_eq_some_iff.1 h1).1]; exact h1, h2, h3⟩
        · rw [List.mem_singleton.1 hy]
          exact ⟨L.length, (r.1 ++ [x.e], x.t), by simp, rfl, by rw [wval_snoc]; exact Int.le_refl _⟩)
      exact ⟨L', b', g1, g2, [(r.1 ++ [x.e], x.t)] ++ M, by rw [g3, List.append_assoc]⟩
    · have hst : pStep perm i (seen, steps) x = (seen, steps) := by unfold pStep; rw [if_neg hc]
      rw [hst]
      refine PW.fold hes he r l (done ++ [x]) h hi hf' hs2 (fun y hy => hb y (List.mem_cons_of_mem _ hy)) hb2 (fun y hy hp => ?_)
      rcases List.mem_append.1 hy with hy | hy
      · exact hd y hy hp
      · rw [List.mem_singleton.1 hy] at hp ⊢
        have hst : seen[x.t.toNat]? = some true := by
          rw [hsv] at hc ⊢
          simp only [Option.getD_some] at hc
          cases hb : seen[x.t.toNat] with
          | true => rfl
          | false => exact absurd ⟨hb, hp⟩ hc
        obtain ⟨k, r', h1, h2⟩ := h.seen x.t.toNat (by omega) hst
        refine ⟨k, r', h1, by omega, ?_⟩
        have := h.found.bd r' (List.mem_of_getElem? h1)
        omega

/-- What the search gives. -/
def BfsSays (es : List Ed) (perm : Ed → Bool) (want : Int → Bool) (from_ : Nat) : Option (List St × Nat) → Prop
  | some r => ∃ w, back r.1 (r.2 + 1) r.2 = w.reverse ∧ Least es perm want from_ 0 w
  | none => ∀ u t, Leads es perm from_ u t → want t = false
theorem PW.bfs {es : List Ed} {perm : Ed → Bool} {want : Int → Bool} {from_ n : Nat} (hso : Sorted es) (hes : ∀ x ∈ es, 0 ≤ x.t ∧ x.t < (n : Int)) (he : EvEs es) : ∀ (f i : Nat) {seen : List Bool} {steps : List St} {L : List (List Int × Int)} {b : Int},
    PW es perm from_ n i seen steps L b → n + 1 - i ≤ f → (∀ r, L[i]? = some r → b ≤ 33 * wval r.1) → (∀ j, j < i → ∀ r : List Int × Int, L[j]? = some r → want r.2 = false) →
    BfsSays es perm want from_ (Go.Proofs.YtfbapajcheammaaDoor.bfs (subOf es) want perm f i seen steps)
  | 0, i, seen, steps, L, b, h, hf, _, _ => by
    have h1 := h.pok.le
    have h2 := h.len
    have h3 := h.lt
    omega
  | f + 1, i, seen, steps, L, b, h, hf, hb, hn => by
    by_cases hi : i < steps.length
    · have hiL : i < L.length := by rw [← h.len]; exact hi
      have hr : L[i]? = some L[i] := List.getElem?_eq_getElem hiL
      obtain ⟨x, h1, h2, h3⟩ := h.st i L[i] hr
      rw [List.getElem?_eq_getElem hi] at h1
      cases h1
      cases hw : want steps[i].s with
      | true =>
        rw [bfs_found hi hw]
        exact ⟨L[i].1, h3 (i + 1) (by omega), h.found.least he h.follow h.zero hr (by rw [← h2]; exact hw) hn⟩
      | false =>
        rw [bfs_next hi hw, subOf_eq hso]
        have hpw : (es.filter fun x => decide (x.f = L[i].2)).Pairwise (fun x y => x.e < y.e) := by
          have h4 : (es.filter fun x => decide (x.f = L[i].2)).Pairwise edLt := List.Pairwise.filter _ hso
          refine List.Pairwise.imp_of_mem ?_ h4
          intro x y hx hy hxy
          have e1 := (List.mem_filter.1 hx).2
          have e2 := (List.mem_filter.1 hy).2
          simp only [decide_eq_true_eq] at e1 e2
          unfold edLt at hxy
          omega
        have hb1 := hb _ hr
        obtain ⟨L', b', g1, g2, M, rfl⟩ := PW.fold hes he L[i] (es.filter fun x => decide (x.f = L[i].2)) [] h hr (by simp) hpw (fun x hx => by have := he x (List.mem_filter.1 hx).1; omega) (by omega) (fun x hx => by cases hx)
        rw [h2]
        refine PW.bfs hso hes he f (i + 1) g1 (by omega) (fun r' hr' => ?_) (fun j hj r' hr' => ?_)
        · have h5 := g1.found.sorted i (i + 1) (by omega) L[i] r' (by rw [List.getElem?_append_left hiL]; exact hr) hr'
          omega
        · by_cases hji : j < i
          · rw [List.getElem?_append_left (by omega)] at hr'
            exact hn j hji r' hr'
          · obtain rfl : j = i := by omega
            rw [List.getElem?_append_left hiL, hr] at hr'
            cases hr'
            rw [← h2]; exact hw
    · rw [bfs_end (by omega)]
      have hil : i = L.length := by have := h.lt; have := h.len; omega
      subst hil
      exact h.follow.none he h.zero (fun j r hr => hn j (List.getElem?_eq_some_iff.1 hr).1 r hr)
/-- What path returns: the least word, or none where there is none. -/
theorem pathF_says {es : List Ed} {perm : Ed → Bool} {want : Int → Bool} {from_ n : Nat} (hso : Sorted es) (hes : ∀ x ∈ es, 0 ≤ x.t ∧ x.t < (n : Int)) (he : EvEs es) (hf : from_ < n) :
    match pathF n es want perm from_ with
    | some w => Least es perm want from_ 0 w
    | none => ∀ u t, Leads es perm from_ u t → want t = false := by
  have h0 : PW es perm from_ n 0 ((List.replicate n false).set from_ true) [⟨from_, -1, -1⟩] [([], (from_ : Int))] 0 := by
    refine ⟨POk.start n from_ hf, rfl, ?_, ?_, ⟨?_, ?_, ?_⟩, fun j hj => absurd hj (by omega), rfl, Nat.zero_le _⟩
    · intro k r hr
      cases k with
      | zero =>
        simp only [List.getElem?_cons_zero, Option.some.injEq] at hr
        subst hr
        refine ⟨_, rfl, rfl, fun f hf => ?_⟩
        obtain ⟨f', rfl⟩ : ∃ f', f = f' + 1 := ⟨f - 1, by omega⟩
        rfl
      | succ k => simp at hr
    · intro t ht hs
      by_cases e : from_ = t
      · subst e; exact ⟨0, _, rfl, rfl⟩
      · rw [List.getElem?_set_ne e, List.getElem?_replicate, if_pos ht] at hs
        cases hs
    · intro r hr
      rw [List.mem_singleton.1 hr]; rfl
    · intro j k hjk r r' hj hk
      have := (List.getElem?_eq_some_iff.1 hk).1
      simp at this; omega
    · intro r hr
      rw [List.mem_singleton.1 hr]; exact Int.le_refl 0
  have h1 := h0.bfs (want := want) hso hes he (n + 1) 0 (by omega) (fun r hr => by simp only [List.getElem?_cons_zero, Option.some.injEq] at hr; subst hr; exact Int.le_refl 0) (fun j hj => absurd hj (by omega))
  unfold pathF
  generalize Go.Proofs.YtfbapajcheammaaDoor.bfs (subOf es) want perm (n + 1) 0 ((List.replicate n false).set from_ true) [⟨from_, -1, -1⟩] = r at h1
  cases r with
  | none => exact h1
  | some r =>
    obtain ⟨w, h2, h3⟩ := h1
    simp only [Option.map_some, h2, List.reverse_reverse]
    exact h3
end Go.Proofs.YtfbapajcheammaaDoor

namespace Go.Proofs.YtfbapajcheammaaDoor

/-- A target is reached by k edges. -/
def ReachIn (es : List Ed) (tg : List Int) : Nat → Int → Prop
  | 0, s => s ∈ tg
  | k + 1, s => ∃ x ∈ es, x.f = s ∧ ReachIn es tg k x.t
/-- The least distance, or -1. -/
def IsDist (es : List Ed) (tg : List Int) (s d : Int) : Prop := (d = -1 ∧ ∀ k, ¬ ReachIn es tg k s) ∨ (∃ k : Nat, d = k ∧ ReachIn es tg k s ∧ ∀ j, j < k → ¬ ReachIn es tg j s)
/-- What holds of the distances while backward searches. -/
structure BD (es : List Ed) (tg : List Int) (n : Nat) (ds q : List Int) (c : Int) : Prop where
  ok : BOk n ds q
  fit : ∀ i, i < n → 0 ≤ ds.getD i 0 → ∃ k : Nat, ds.getD i 0 = k ∧ ReachIn es tg k i
  top : ∀ i, i < n → ds.getD i 0 ≤ c + 1
  low : ∀ s ∈ q, c ≤ ds.getD s.toNat 0
  srt : q.Pairwise fun s t => ds.getD s.toNat 0 ≤ ds.getD t.toNat 0
  done : ∀ x ∈ es, 0 ≤ ds.getD x.t.toNat 0 → x.t ∈ q ∨ (0 ≤ ds.getD x.f.toNat 0 ∧ ds.getD x.f.toNat 0 ≤ ds.getD x.t.toNat 0 + 1)
  tgt : ∀ s ∈ tg, ds.getD s.toNat 0 = 0
  bnd : ∀ i, i < n → ds.getD i 0 ≤ n - negs ds

section
variable {es : List Ed} {tg : List Int} {n : Nat}
theorem getD_set_at {ds : List Int} {p : Nat} {d : Int} (h : p < ds.length) : (ds.set p d).getD p 0 = d := by
  rw [List.getD_eq_getElem?_getD, List.getElem?_set_self h]; rfl
/-- The state of a search while the edges into s are followed: all but those in l. -/
structure BDs (es : List Ed) (tg : List Int) (n : Nat) (s : Nat) (c : Int) (ds q l : List Int) : Prop where
  ok : BOk n ds q
  at_ : ds.getD s 0 = c
  c0 : 0 ≤ c
  fit : ∀ i, i < n → 0 ≤ ds.getD i 0 → ∃ k : Nat, ds.getD i 0 = k ∧ ReachIn es tg k i
  top : ∀ i, i < n → ds.getD i 0 ≤ c + 1
  low : ∀ s ∈ q, c ≤ ds.getD s.toNat 0
  srt : q.Pairwise fun s t => ds.getD s.toNat 0 ≤ ds.getD t.toNat 0
  done : ∀ x ∈ es, 0 ≤ ds.getD x.t.toNat 0 → x.t ∈ q ∨ (x.t = s ∧ x.f ∈ l) ∨ (0 ≤ ds.getD x.f.toNat 0 ∧ ds.getD x.f.toNat 0 ≤ ds.getD x.t.toNat 0 + 1)
  tgt : ∀ s ∈ tg, ds.getD s.toNat 0 = 0
  bnd : ∀ i, i < n → ds.getD i 0 ≤ n - negs ds
theorem BDs.fold (hes : ∀ x ∈ es, 0 ≤ x.f ∧ x.f < (n : Int) ∧ 0 ≤ x.t ∧ x.t < (n : Int)) (htg : ∀ s ∈ tg, 0 ≤ s ∧ s < (n : Int)) {s : Nat} (hs : s < n) {c : Int} : ∀ (l : List Int) {ds q : List Int}, BDs es tg n s c ds q l → (∀ p ∈ l, ∃ x ∈ es, x.f = p ∧ x.t = s) →
    BDs es tg n s c (l.foldl (bStep s) (ds, q)).1 (l.foldl (bStep s) (ds, q)).2 []
  | [], _, _, h, _ => h
  | p :: l, ds, q, h, hp => by
    rw [List.foldl_cons]
    obtain ⟨x, hx, rfl, hxt⟩ := hp p (List.mem_cons_self ..)
    have hxr := hes x hx
    have hl := h.ok.len
    by_cases hneg : ds.getD x.f.toNat 0 < 0
    · have hst : bStep s (ds, q) x.f = (ds.set x.f.toNat (ds.getD s 0 + 1), q ++ [x.f]) := by unfold bStep; rw [if_pos hneg]
      have hstep := h.ok.step hs (by rw [h.at_]; exact h.c0) x.f hxr.1 hxr.2.1
      rw [hst] at hstep ⊢
      rw [h.at_] at hstep ⊢
      have hne : x.f.toNat ≠ s := by
        intro e; rw [e, h.at_] at hneg; have := h.c0; omega
      have hfl : x.f.toNat < ds.length := by omega
      have hself : (ds.set x.f.toNat (c + 1)).getD x.f.toNat 0 = c + 1 := getD_set_at hfl
      have hother : ∀ i, i ≠ x.f.toNat → (ds.set x.f.toNat (c + 1)).getD i 0 = ds.getD i 0 := fun i hi => getD_set_ne (fun e => hi e.symm)
      have hc0 := h.c0
      obtain ⟨k, hk1, hk2⟩ := h.fit s hs (by rw [h.at_]; exact h.c0)
      rw [h.at_] at hk1
      have hq : ∀ t ∈ q, t.toNat ≠ x.f.toNat := by
        intro t ht e
        have := h.ok.nn t ht
        rw [e] at this; omega
      refine BDs.fold hes htg hs l ⟨hstep.1, by rw [hother s (Ne.symm hne)]; exact h.at_, h.c0, ?_, ?_, ?_, ?_, ?_, ?_, ?_⟩ (fun p hp' => hp p (List.mem_cons_of_mem _ hp'))
      · intro i hi h0
        by_cases e : i = x.f.toNat
        · subst e
          rw [hself]
          refine ⟨k + 1, by omega, x, hx, by omega, ?_⟩
          rw [hxt]; exact hk2
        · rw [hother i e] at h0 ⊢; exact h.fit i hi h0
      · intro i hi
        by_cases e : i = x.f.toNat
        · subst e; rw [hself]; exact Int.le_refl _
        · rw [hother i e]; exact h.top i hi
      · intro t ht
        rcases List.mem_append.1 ht with ht | ht
        · rw [hother _ (hq t ht)]; exact h.low t ht
        · rw [List.mem_singleton.1 ht, hself]; omega
      · rw [List.pairwise_append]
        refine ⟨List.Pairwise.imp_of_mem (fun {a b} ha hb hab => ?_) h.srt, List.pairwise_singleton _ _, fun a ha b hb => ?_⟩
        · rw [hother _ (hq a ha), hother _ (hq b hb)]; exact hab
        · rw [List.mem_singleton.1 hb, hself, hother _ (hq a ha)]
          have h1 := h.ok.qr a ha
          exact h.top a.toNat (by omega)
      · intro y hy h0
        by_cases e : y.t.toNat = x.f.toNat
        · have : y.t = x.f := by have := hes y hy; omega
          exact .inl (by rw [this]; simp)
        · rw [hother _ e] at h0 ⊢
          rcases h.done y hy h0 with h1 | ⟨h1, h2⟩ | ⟨h1, h2⟩
          · exact .inl (List.mem_append_left _ h1)
          · rcases List.mem_cons.1 h2 with h2 | h2
            · refine .inr (.inr ?_)
              rw [h2, hself, h1, Int.toNat_natCast, h.at_]; omega
            · exact .inr (.inl ⟨h1, h2⟩)
          · refine .inr (.inr ?_)
            by_cases e2 : y.f.toNat = x.f.toNat
            · rw [e2] at h1; omega
            · rw [hother _ e2]; exact ⟨h1, h2⟩
      · intro t ht
        have := h.tgt t ht
        by_cases e : t.toNat = x.f.toNat
        · rw [e] at this; omega
        · rw [hother _ e]; exact this
      · intro i hi
        have h9 : negs (ds.set x.f.toNat (c + 1)) + 1 = negs ds := negs_set hfl (by rw [List.getD_eq_getElem?_getD, List.getElem?_eq_getElem hfl] at hneg; exact hneg) (by omega)
        have h8 := h.bnd s hs
        rw [h.at_] at h8
        by_cases e : i = x.f.toNat
        · subst e; rw [hself]; omega
        · rw [hother i e]; have := h.bnd i hi; omega
    · have hst : bStep s (ds, q) x.f = (ds, q) := by unfold bStep; rw [if_neg hneg]
      rw [hst]
      refine BDs.fold hes htg hs l ⟨h.ok, h.at_, h.c0, h.fit, h.top, h.low, h.srt, ?_, h.tgt, h.bnd⟩ (fun p hp' => hp p (List.mem_cons_of_mem _ hp'))
      intro y hy h0
      rcases h.done y hy h0 with h1 | ⟨h1, h2⟩ | h1
      · exact .inl h1
      · rcases List.mem_cons.1 h2 with h2 | h2
        · refine .inr (.inr ?_)
          rw [h2, h1, Int.toNat_natCast, h.at_]
          exact ⟨by omega, h.top _ (by omega)⟩
        · exact .inr (.inl ⟨h1, h2⟩)
      · exact .inr (.inr h1)
theorem BD.bwd (hes : ∀ x ∈ es, 0 ≤ x.f ∧ x.f < (n : Int) ∧ 0 ≤ x.t ∧ x.t < (n : Int)) (htg : ∀ s ∈ tg, 0 ≤ s ∧ s < (n : Int)) : ∀ (f : Nat) {ds q : List Int} {c : Int}, BD es tg n ds q c → 2 * negs ds + q.length < f →
    ∃ c', BD es tg n (Go.Proofs.YtfbapajcheammaaDoor.bwd (inL es) f ds q) [] c'
  | 0, _, _, _, _, hf => absurd hf (by omega)
  | f + 1, ds, [], c, h, _ => ⟨c, h⟩
  | f + 1, ds, s :: q, c, h, hf => by
    rw [Go.Proofs.YtfbapajcheammaaDoor.bwd]
    have hs := h.ok.qr s (List.mem_cons_self ..)
    have h0 := h.ok.nn s (List.mem_cons_self ..)
    have hc := h.low s (List.mem_cons_self ..)
    obtain ⟨hs1, hs2⟩ := List.pairwise_cons.1 h.srt
    have h1 : BDs es tg n s.toNat (ds.getD s.toNat 0) ds q (inL es s.toNat) := by
      refine ⟨h.ok.pop, rfl, h0, h.fit, fun i hi => ?_, hs1, hs2, fun x hx hx0 => ?_, h.tgt, h.bnd⟩
      · have := h.top i hi; omega
      · rcases h.done x hx hx0 with h2 | h2
        · rcases List.mem_cons.1 h2 with h2 | h2
          · refine .inr (.inl ⟨by omega, ?_⟩)
            unfold inL
            exact List.mem_map.2 ⟨x, List.mem_filter.2 ⟨hx, by rw [h2]; simp; omega⟩, rfl⟩
          · exact .inl h2
        · exact .inr (.inr h2)
    have h2 := h1.fold hes htg (by omega) (inL es s.toNat) (fun p hp => inL_mem hp)
    have h3 := BOk.fold (show s.toNat < n by omega) (inL es s.toNat) h.ok.pop h0 (inL_range hes)
    refine BD.bwd hes htg f (c := ds.getD s.toNat 0) ⟨h2.ok, h2.fit, h2.top, h2.low, h2.srt, fun x hx hx0 => ?_, h2.tgt, h2.bnd⟩ ?_
    · rcases h2.done x hx hx0 with h4 | ⟨_, h4⟩ | h4
      · exact .inl h4
      · cases h4
      · exact .inr h4
    · have := h3.2.2
      simp only [List.length_cons] at hf
      omega
/-- backward's distances are the least ones. -/
theorem backward_bd (hn : n ≤ 1000000) (hes : ∀ x ∈ es, 0 ≤ x.f ∧ x.f < (n : Int) ∧ 0 ≤ x.t ∧ x.t < (n : Int)) (htg : ∀ s ∈ tg, 0 ≤ s ∧ s < (n : Int)) (i : Nat) (hi : i < n) : IsDist es tg i ((backward n es tg).getD i 0) ∧ (backward n es tg).getD i 0 ≤ n := by
  have hst := bStart_get n tg (fun s hs => (htg s hs).1)
  have h0 : BD es tg n (bStart n tg) tg 0 := by
    refine ⟨BOk.start n tg hn htg, ?_, ?_, ?_, ?_, ?_, ?_, ?_⟩
    · intro i hi h0
      rw [hst i hi] at h0 ⊢
      by_cases hm : (i : Int) ∈ tg
      · rw [if_pos hm]; exact ⟨0, rfl, hm⟩
      · rw [if_neg hm] at h0; omega
    · intro i hi
      rw [hst i hi]; split <;> omega
    · intro s hs
      have h1 := htg s hs
      rw [hst s.toNat (by omega), if_pos (by rw [Int.toNat_of_nonneg h1.1]; exact hs)]; exact Int.le_refl _
    · refine List.Pairwise.imp_of_mem (R := fun _ _ => True) (fun {a b} ha hb _ => ?_) (List.pairwise_of_forall (fun _ _ => trivial))
      have h1 := htg a ha
      have h2 := htg b hb
      rw [hst a.toNat (by omega), hst b.toNat (by omega), if_pos (by rw [Int.toNat_of_nonneg h1.1]; exact ha), if_pos (by rw [Int.toNat_of_nonneg h2.1]; exact hb)]; exact Int.le_refl _
    · intro x hx h0
      have h1 := hes x hx
      rw [hst x.t.toNat (by omega)] at h0
      by_cases hm : ((x.t.toNat : Nat) : Int) ∈ tg
      · exact .inl (by rwa [Int.toNat_of_nonneg h1.2.2.1] at hm)
      · rw [if_neg hm] at h0; omega
    · intro s hs
      have h1 := htg s hs
      rw [hst s.toNat (by omega), if_pos (by rw [Int.toNat_of_nonneg h1.1]; exact hs)]
    · intro i hi
      have h1 := negs_le (bStart n tg)
      rw [bStart_length] at h1
      rw [hst i hi]; split <;> omega
  obtain ⟨c, h⟩ := h0.bwd hes htg (2 * negs (bStart n tg) + tg.length + 1) (by omega)
  have hE : Go.Proofs.YtfbapajcheammaaDoor.bwd (inL es) (2 * negs (bStart n tg) + tg.length + 1) (bStart n tg) tg = backward n es tg := rfl
  rw [hE] at h
  generalize backward n es tg = D at h
  have key : ∀ (k : Nat) (s : Int), 0 ≤ s → s < n → ReachIn es tg k s → 0 ≤ D.getD s.toNat 0 ∧ D.getD s.toNat 0 ≤ k := by
    intro k
    induction k with
    | zero =>
      intro s h0 h1 hr
      rw [h.tgt s hr]; omega
    | succ k ih =>
      rintro s h0 h1 ⟨x, hx, rfl, hr⟩
      have hxr := hes x hx
      obtain ⟨g1, g2⟩ := ih x.t hxr.2.2.1 hxr.2.2.2 hr
      rcases h.done x hx g1 with h3 | ⟨h3, h4⟩
      · cases h3
      · omega
  refine ⟨?_, by have := h.bnd i hi; omega⟩
  by_cases hneg : 0 ≤ D.getD i 0
  · obtain ⟨k, h1, h2⟩ := h.fit i hi hneg
    refine .inr ⟨k, h1, h2, fun j hj hr => ?_⟩
    have := key j i (by omega) (by omega) hr
    rw [Int.toNat_natCast] at this
    omega
  · refine .inl ⟨?_, fun k hr => ?_⟩
    · have hl := h.ok.len
      have h1 := h.ok.lo (D.getD i 0) (by rw [List.getD_eq_getElem?_getD, List.getElem?_eq_getElem (by omega)]; exact List.getElem_mem _)
      omega
    · have := key k i (by omega) (by omega) hr
      rw [Int.toNat_natCast] at this
      omega
theorem backward_dist (hn : n ≤ 1000000) (hes : ∀ x ∈ es, 0 ≤ x.f ∧ x.f < (n : Int) ∧ 0 ≤ x.t ∧ x.t < (n : Int)) (htg : ∀ s ∈ tg, 0 ≤ s ∧ s < (n : Int)) (i : Nat) (hi : i < n) : IsDist es tg i ((backward n es tg).getD i 0) := (backward_bd hn hes htg i hi).1
end
end Go.Proofs.YtfbapajcheammaaDoor

namespace Go.Proofs.YtfbapajcheammaaDoor
open Go Go.RowKit
/-- An error, as the printed loops hand it on. -/
def errO (e : Int) : Unit ⊕ Int := if e = 0 then .inl () else .inr e
theorem checkSet_go {xs : List Int} {n : Int} (hl : xs.length < 4611686018427387904) : ∀ (j i : Nat), i + j = xs.length →
    iterF (m_automaton_checkSet_l1 xs n) (j + 1) (i : Int) = some (errO (setErr n (prevAt xs i) (xs.drop i))) := by
  intro j
  induction j with
  | zero =>
    intro i hi
    have e : xs.drop i = [] := List.drop_of_length_le (by omega)
    rw [iterF_succ, m_automaton_checkSet_l1, if_neg (by simp; omega), e]
    rfl
  | succ j ih =>
    intro i hi
    have hlt : i < xs.length := by omega
    rw [iterF_succ, m_automaton_checkSet_l1, if_pos (by simp; omega), idx_at hlt, Option.bind_some]
    by_cases h1 : xs[i] < 0 ∨ n ≤ xs[i]
    · rw [if_pos (by simpa using h1), setErr_2 hlt h1]
      rfl
    · rw [if_neg (by simpa using h1)]
      by_cases h0 : 0 < i
      · rw [if_pos (by simp; omega), show (i : Int) - 1 = ((i - 1 : Nat) : Int) by omega, W_nat (by omega), idx_at (show i - 1 < xs.length by omega), Option.bind_some, Option.bind_some]
        by_cases h2 : xs[i] ≤ xs[i - 1]
        · rw [if_pos (by simpa using h2), setErr_5 hlt h1 h0 h2]
          rfl
        · rw [if_neg (by simpa using h2), show (i : Int) + 1 = ((i + 1 : Nat) : Int) by omega, W_nat (by omega), setErr_next hlt h1 (fun _ => by omega)]
          exact ih (i + 1) (by omega)
      · rw [if_neg (by simp; omega), Option.bind_some, if_neg (by simp), show (i : Int) + 1 = ((i + 1 : Nat) : Int) by omega, W_nat (by omega), setErr_next hlt h1 (fun h => absurd h h0)]
        exact ih (i + 1) (by omega)
theorem checkSet_eq {xs : List Int} {n : Int} (hl : xs.length < 4611686018427387904) : m_automaton_checkSet xs n = some (setErr n none xs) := by
  have h : iter (m_automaton_checkSet_l1 xs n) 0 = some (errO (setErr n none xs)) := iter_of (by omega) (checkSet_go (n := n) hl xs.length 0 (by omega))
  rw [m_automaton_checkSet, h, Option.bind_some]
  by_cases h0 : setErr n none xs = 0
  · rw [h0]; rfl
  · rw [errO, if_neg h0]
theorem index_go {xs : List Int} {x : Int} (hl : xs.length < 4611686018427387904) : ∀ (j i : Nat), i + j = xs.length →
    ∃ o, iterF (m_slices_Index_int_l1 xs x) (j + 1) (i : Int) = some o ∧ ((o = .inl () ∧ x ∉ xs.drop i) ∨ ∃ k : Nat, i ≤ k ∧ o = .inr (k : Int) ∧ x ∈ xs.drop i) := by
  intro j
  induction j with
  | zero =>
    intro i hi
    have e : xs.drop i = [] := List.drop_of_length_le (by omega)
    refine ⟨.inl (), ?_, .inl ⟨rfl, by rw [e]; simp⟩⟩
    rw [iterF_succ, m_slices_Index_int_l1, if_neg (by simp; omega)]
  | succ j ih =>
    intro i hi
    have hlt : i < xs.length := by omega
    rw [iterF_succ, m_slices_Index_int_l1, if_pos (by simp; omega), idx_at hlt, Option.bind_some]
    by_cases h1 : x = xs[i]
    · rw [if_pos (by simpa using h1)]
      exact ⟨_, rfl, .inr ⟨i, Nat.le_refl _, rfl, by rw [List.drop_eq_getElem_cons hlt, h1]; exact List.mem_cons_self⟩⟩
    · rw [if_neg (by simpa using h1), show (i : Int) + 1 = ((i + 1 : Nat) : Int) by omega, W_nat (by omega)]
      obtain ⟨o, h2, h3⟩ := ih (i + 1) (by omega)
      refine ⟨o, h2, ?_⟩
      rw [List.drop_eq_getElem_cons hlt]
      rcases h3 with ⟨h4, h5⟩ | ⟨k, h4, h5, h6⟩
      · exact .inl ⟨h4, fun hc => (List.mem_cons.1 hc).elim h1 h5⟩
      · exact .inr ⟨k, by omega, h5, List.mem_cons_of_mem _ h6⟩
theorem contains_eq {xs : List Int} {x : Int} (hl : xs.length < 4611686018427387904) : m_slices_Contains_int xs x = some (hasB xs x) := by
  obtain ⟨o, h1, h2⟩ := index_go (x := x) hl xs.length 0 (by omega)
  have h : iter (m_slices_Index_int_l1 xs x) 0 = some o := iter_of (by omega) h1
  rw [m_slices_Contains_int, m_slices_Index_int, h, Option.bind_some]
  rcases h2 with ⟨rfl, h4⟩ | ⟨k, _, rfl, h4⟩
  · rw [hasB_false.2 (by simpa using h4)]; rfl
  · rw [hasB_true.2 (by simpa using h4)]
    show some (decide ((k : Int) ≥ 0)) = some true
    simp
/-- An edge as the printed functions have it. -/
def edP (x : Ed) : Int × Int × Int := (x.f, x.e, x.t)
def autP (a : Aut) : List Int × Int × List Int × List (Int × Int × Int) := (a.al, a.n, a.ms, a.es.map edP)
def prevE (es : List Ed) (k : Nat) : Option Ed := if k = 0 then none else es[k - 1]?
theorem edErr_dropP {al : List Int} {n : Int} {es : List Ed} {k : Nat} (hk : k < es.length) : edErr al n (prevE es k) (es.drop k) =
    if (es[k].f < 0 ∨ n ≤ es[k].f ∨ es[k].t < 0 ∨ n ≤ es[k].t) then 2 else if hasB al es[k].e = false then 9 else if (∃ q, prevE es k = some q ∧ (es[k].f < q.f ∨ (es[k].f = q.f ∧ es[k].e ≤ q.e))) then 5 else edErr al n (prevE es (k + 1)) (es.drop (k + 1)) := by
  rw [List.drop_eq_getElem_cons hk, edErr]
  congr 3
  simp [prevE, List.getElem?_eq_getElem hk]
theorem edges_go {a : Aut} (hl : a.es.length < 4611686018427387904) (hal : a.al.length < 4611686018427387904) : ∀ (j i : Nat), i + j = a.es.length →
    iterF (m_automaton_checkEdges_l1 (autP a)) (j + 1) (i : Int) = some (errO (edErr a.al a.n (prevE a.es i) (a.es.drop i))) := by
  have hlen : (autP a).2.2.2.length = a.es.length := by simp [autP]
  have hat : ∀ (i : Nat) (h : i < a.es.length), idx (autP a).2.2.2 (i : Int) = some (edP a.es[i]) := fun i h => by
    rw [idx_at (by rw [hlen]; exact h)]; simp [autP]
  intro j
  induction j with
  | zero =>
    intro i hi
    have e : a.es.drop i = [] := List.drop_of_length_le (by omega)
    rw [iterF_succ, m_automaton_checkEdges_l1, if_neg (by rw [hlen]; simp; omega), e]
    rfl
  | succ j ih =>
    intro i hi
    have hlt : i < a.es.length := by omega
    have hnext : m_automaton_checkEdges_j1 (i : Int) = some (.inl ((i + 1 : Nat) : Int)) := by
      rw [m_automaton_checkEdges_j1, show (i : Int) + 1 = ((i + 1 : Nat) : Int) by omega, W_nat (by omega)]
    rw [iterF_succ, m_automaton_checkEdges_l1, if_pos (by rw [hlen]; simp; omega), hat i hlt, Option.bind_some, edErr_dropP hlt]
    by_cases h1 : a.es[i].f < 0 ∨ a.n ≤ a.es[i].f ∨ a.es[i].t < 0 ∨ a.n ≤ a.es[i].t
    · rw [if_pos (by simp only [Bool.or_eq_true, decide_eq_true_eq]; show ((a.es[i].f < 0 ∨ a.es[i].f ≥ a.n) ∨ a.es[i].t < 0) ∨ a.es[i].t ≥ a.n; omega), if_pos h1]
      rfl
    · rw [if_neg (by simp only [Bool.or_eq_true, decide_eq_true_eq]; show ¬ (((a.es[i].f < 0 ∨ a.es[i].f ≥ a.n) ∨ a.es[i].t < 0) ∨ a.es[i].t ≥ a.n); omega), if_neg h1]
      rw [show m_slices_Contains_int (autP a).1 (edP a.es[i]).2.1 = some (hasB a.al a.es[i].e) from contains_eq hal, Option.bind_some]
      cases h2 : hasB a.al a.es[i].e with
      | false => rfl
      | true =>
        rw [if_neg (show ¬ (!true) = true by simp), if_neg (show ¬ (true = false) by simp)]
        by_cases h0 : i = 0
        · subst h0
          rw [if_pos (by simp), hnext, if_neg (by rintro ⟨q, hq, _⟩; simp [prevE] at hq)]
          exact ih 1 (by omega)
        · have hp : prevE a.es i = some a.es[i - 1] := by rw [prevE, if_neg h0, List.getElem?_eq_getElem (by omega)]
          rw [if_neg (by simp; omega), show (i : Int) - 1 = ((i - 1 : Nat) : Int) by omega, W_nat (by omega), hat (i - 1) (by omega), Option.bind_some]
          by_cases h3 : a.es[i].f < a.es[i - 1].f ∨ (a.es[i].f = a.es[i - 1].f ∧ a.es[i].e ≤ a.es[i - 1].e)
          · rw [if_pos (by simp only [Bool.or_eq_true, Bool.and_eq_true, decide_eq_true_eq, beq_iff_eq]; exact h3), if_pos ⟨_, hp, h3⟩]
            rfl
          · rw [if_neg (by simp only [Bool.or_eq_true, Bool.and_eq_true, decide_eq_true_eq, beq_iff_eq]; exact h3), hnext, if_neg (by rintro ⟨q, hq, h4⟩; rw [hp] at hq; cases hq; exact h3 h4)]
            exact ih (i + 1) (by omega)
theorem check_eq {a : Aut} (hl : a.es.length < 4611686018427387904) (hal : a.al.length < 4611686018427387904) (hms : a.ms.length < 4611686018427387904) : m_automaton_Check (autP a) = some a.err := by
  have h : iter (m_automaton_checkEdges_l1 (autP a)) 0 = some (errO (edErr a.al a.n none a.es)) := iter_of (by omega) (edges_go hl hal a.es.length 0 (by omega))
  have he : m_automaton_checkEdges (autP a) = some (edErr a.al a.n none a.es) := by
    rw [m_automaton_checkEdges, h, Option.bind_some]
    by_cases h0 : edErr a.al a.n none a.es = 0
    · rw [h0]; rfl
    · rw [errO, if_neg h0]
  rw [m_automaton_Check, show m_automaton_checkSet (autP a).1 32 = some (setErr 32 none a.al) from checkSet_eq hal, Option.bind_some, Aut.err]
  by_cases h1 : (setErr 32 none a.al != 0) = true
  · rw [if_pos h1, if_pos h1]
  · rw [if_neg h1, if_neg h1]
    by_cases h2 : a.n < 0
    · rw [if_pos (show decide ((autP a).2.1 < 0) = true from decide_eq_true h2), if_pos h2]
    · rw [if_neg (show ¬ decide ((autP a).2.1 < 0) = true from fun e => h2 (of_decide_eq_true e)), if_neg h2]
      by_cases h3 : 4096 < a.n
      · rw [if_pos (show decide ((autP a).2.1 > 4096) = true from decide_eq_true h3), if_pos h3]
      · rw [if_neg (show ¬ decide ((autP a).2.1 > 4096) = true from fun e => h3 (of_decide_eq_true e)), if_neg h3, show m_automaton_checkSet (autP a).2.2.1 (autP a).2.1 = some (setErr a.n none a.ms) from checkSet_eq hms, Option.bind_some]
        by_cases h4 : (setErr a.n none a.ms != 0) = true
        · rw [if_pos h4, if_pos h4]
        · rw [if_neg h4, if_neg h4, he]
          rfl
abbrev Inc (xs : List Int) : Prop := xs.Pairwise (· < ·)
theorem half_eq {i j : Nat} (h : i + j < 9223372036854775808) : W ((IntKind.u64.wrap (W ((i : Int) + (j : Int)))).fdiv (2 ^ (min (1 : Int).toNat 64))) = (((i + j) / 2 : Nat) : Int) := by
  rw [W_of (x := (i : Int) + j) (by omega) (by omega), IntWalk.u64_in _ (by omega), show (2 : Int) ^ (min (1 : Int).toNat 64) = 2 from rfl, Int.fdiv_eq_ediv_of_nonneg _ (by omega), W_of (by omega) (by omega)]
  omega
theorem less_eq (x y : Int) : m_cmp_Less_int x y = some (decide (x < y)) := by
  rw [m_cmp_Less_int, show m_cmp_isNaN_int x = some false by rw [m_cmp_isNaN_int]; simp, Option.bind_some, if_neg (by simp), Option.bind_some, Bool.false_or]
theorem bin_go {xs : List Int} {t : Int} (hl : xs.length < 4294967296) (hs : Inc xs) : ∀ (f i j : Nat), j ≤ i + f → i ≤ j → j ≤ xs.length → (∀ k (h : k < xs.length), k < i → xs[k] < t) → (∀ k (h : k < xs.length), j ≤ k → t ≤ xs[k]) →
    ∃ p : Nat, iterF (m_slices_BinarySearch_int_l1 xs t) (f + 1) ((j : Int), (i : Int)) = some (p : Int) ∧ p ≤ xs.length ∧ (∀ k (h : k < xs.length), k < p → xs[k] < t) ∧ (∀ k (h : k < xs.length), p ≤ k → t ≤ xs[k]) := by
  intro f
  induction f with
  | zero =>
    intro i j h1 h2 h3 h4 h5
    refine ⟨i, ?_, by omega, h4, fun k h hk => h5 k h (by omega)⟩
    rw [iterF_succ, m_slices_BinarySearch_int_l1, if_neg (by simp; omega)]
  | succ f ih =>
    intro i j h1 h2 h3 h4 h5
    rw [iterF_succ, m_slices_BinarySearch_int_l1]
    dsimp only
    by_cases hij : i < j
    · have hm : (i + j) / 2 < xs.length := by omega
      rw [if_pos (by simp; omega), half_eq (by omega), idx_at hm, Option.bind_some, less_eq, Option.bind_some]
      have mono : ∀ (a b : Nat) (ha : a < xs.length) (hb : b < xs.length), a ≤ b → xs[a] ≤ xs[b] := fun a b ha hb hab => by
        rcases Nat.lt_or_ge a b with h | h
        · exact Int.le_of_lt (List.pairwise_iff_getElem.1 hs a b ha hb h)
        · have : a = b := by omega
          subst this
          exact Int.le_refl _
      by_cases hc : xs[(i + j) / 2] < t
      · rw [if_pos (decide_eq_true hc), show (((i + j) / 2 : Nat) : Int) + 1 = (((i + j) / 2 + 1 : Nat) : Int) by omega, W_nat (by omega)]
        exact ih _ j (by omega) (by omega) h3 (fun k h hk => by have := mono k _ h hm (by omega); omega) h5
      · rw [if_neg (by simpa using hc)]
        exact ih i _ (by omega) (by omega) (by omega) h4 (fun k h hk => by have := mono _ k hm h hk; omega)
    · rw [if_neg (by simp; omega)]
      exact ⟨i, rfl, by omega, h4, fun k h hk => h5 k h (by omega)⟩
/-- Whether a sorted set holds a word. -/
theorem containsA_eq {xs : List Int} {t : Int} (hl : xs.length < 4294967296) (hs : Inc xs) : m_alphabet_Contains xs t = some (hasB xs t) := by
  obtain ⟨p, hp, hle, hlo, hhi⟩ := bin_go (t := t) hl hs xs.length 0 xs.length (by omega) (by omega) (by omega) (fun k h hk => absurd hk (by omega)) (fun k h hk => absurd hk (by omega))
  have hi : iter (m_slices_BinarySearch_int_l1 xs t) ((xs.length : Int), 0) = some (p : Int) := iter_of (by omega) hp
  rw [m_alphabet_Contains, m_slices_BinarySearch_int, hi, Option.bind_some]
  by_cases hlt : p < xs.length
  · rw [if_pos (by simpa using hlt), idx_at hlt, Option.bind_some]
    by_cases he : xs[p] = t
    · rw [if_pos (by simpa using he)]
      show some true = _
      rw [hasB_true.2 (he ▸ List.getElem_mem hlt)]
    · rw [if_neg (by simpa using he), Option.bind_some, show m_slices_isNaN_int xs[p] = some false by rw [m_slices_isNaN_int]; simp, Option.bind_some, if_neg (by simp)]
      show some false = _
      rw [hasB_false.2]
      intro hm
      obtain ⟨k, hk, hk2⟩ := List.getElem_of_mem hm
      rcases Nat.lt_trichotomy k p with h | h | h
      · have := hlo k hk h; omega
      · subst h; exact he hk2
      · have := hhi p hlt (Nat.le_refl _)
        have := List.pairwise_iff_getElem.1 hs p k hlt hk h
        omega
  · rw [if_neg (by simpa using hlt)]
    show some false = _
    rw [hasB_false.2]
    intro hm
    obtain ⟨k, hk, hk2⟩ := List.getElem_of_mem hm
    have := hlo k hk (by omega)
    omega
theorem setErr_ok {n : Int} : ∀ {p : Option Int} {xs : List Int}, xs.Pairwise (· < ·) → (∀ x ∈ xs, 0 ≤ x ∧ x < n) → (∀ q, p = some q → ∀ x ∈ xs, q < x) → setErr n p xs = 0
  | _, [], _, _, _ => rfl
  | p, x :: xs, h, hr, hp => by
    obtain ⟨h1, h2⟩ := List.pairwise_cons.1 h
    have h3 := hr x (List.mem_cons_self ..)
    rw [setErr, if_neg (by omega), if_neg ?_]
    · exact setErr_ok h2 (fun y hy => hr y (List.mem_cons_of_mem _ hy)) (fun q hq y hy => by cases hq; exact h1 y hy)
    · rintro ⟨q, hq, hle⟩
      have := hp q hq x (List.mem_cons_self ..)
      omega
theorem edErr_ok {al : List Int} {n : Int} : ∀ {p : Option Ed} {es : List Ed}, Sorted es → (∀ x ∈ es, 0 ≤ x.f ∧ x.f < n ∧ 0 ≤ x.t ∧ x.t < n ∧ hasB al x.e = true) → (∀ q, p = some q → ∀ x ∈ es, edLt q x) → edErr al n p es = 0
  | _, [], _, _, _ => rfl
  | p, x :: xs, h, hr, hp => by
    obtain ⟨h1, h2⟩ := List.pairwise_cons.1 h
    have h3 := hr x (List.mem_cons_self ..)
    rw [edErr, if_neg (by omega), if_neg (by rw [h3.2.2.2.2]; simp), if_neg ?_]
    · exact edErr_ok h2 (fun y hy => hr y (List.mem_cons_of_mem _ hy)) (fun q hq y hy => by cases hq; exact h1 y hy)
    · rintro ⟨q, hq, hle⟩
      have := hp q hq x (List.mem_cons_self ..)
      unfold edLt at this
      omega

theorem autP_toAut (a : AutT) : autP (toAut a) = a := by
  obtain ⟨x, y, z, es⟩ := a
  simp only [autP, toAut, List.map_map]
  rw [show (edP ∘ toEd) = id from rfl, List.map_id]
/-- A right automaton of n states, with short lists. -/
structure Right (a : AutT) (n : Nat) : Prop where
  nn : a.2.1 = (n : Int)
  nl : n ≤ 4096
  ali : Inc a.1
  alr : ∀ x ∈ a.1, 0 ≤ x ∧ x < 32
  msi : Inc a.2.2.1
  msr : ∀ x ∈ a.2.2.1, 0 ≤ x ∧ x < (n : Int)
  es : ∀ x ∈ a.2.2.2, 0 ≤ x.1 ∧ x.1 < (n : Int) ∧ 0 ≤ x.2.2 ∧ x.2.2 < (n : Int) ∧ x.2.1 ∈ a.1
  so : a.2.2.2.Pairwise fun x y => x.1 < y.1 ∨ (x.1 = y.1 ∧ x.2.1 < y.2.1)
  l1 : a.1.length ≤ 1000000
  l2 : a.2.2.1.length ≤ 1000000
  l3 : a.2.2.2.length ≤ 1000000
namespace Right
variable {a : AutT} {n : Nat}
theorem sorted (h : Right a n) : Sorted (a.2.2.2.map toEd) := by
  unfold Sorted
  rw [List.pairwise_map]
  exact h.so
theorem ein (h : Right a n) : ∀ x ∈ a.2.2.2.map toEd, 0 ≤ x.f ∧ x.f < (n : Int) ∧ 0 ≤ x.t ∧ x.t < (n : Int) := fun x hx => by
  obtain ⟨y, hy, rfl⟩ := List.mem_map.1 hx
  have := h.es y hy
  exact ⟨this.1, this.2.1, this.2.2.1, this.2.2.2.1⟩
theorem evs (h : Right a n) : EvEs (a.2.2.2.map toEd) := fun x hx => by
  obtain ⟨y, hy, rfl⟩ := List.mem_map.1 hx
  exact h.alr _ (h.es y hy).2.2.2.2
theorem err (h : Right a n) : (toAut a).err = 0 := by
  have h1 : setErr 32 none (toAut a).al = 0 := setErr_ok h.ali h.alr (fun q hq => by cases hq)
  have hn : (toAut a).n = n := h.nn
  have h2 : setErr (toAut a).n none (toAut a).ms = 0 := by rw [hn]; exact setErr_ok h.msi h.msr (fun q hq => by cases hq)
  have h3 : edErr (toAut a).al (toAut a).n none (toAut a).es = 0 := by
    rw [hn]
    refine edErr_ok h.sorted (fun x hx => ?_) (fun q hq => by cases hq)
    obtain ⟨y, hy, rfl⟩ := List.mem_map.1 hx
    have := h.es y hy
    exact ⟨this.1, this.2.1, this.2.2.1, this.2.2.2.1, hasB_true.2 this.2.2.2.2⟩
  have := h.nl
  unfold Aut.err
  rw [h1, if_neg (by decide), if_neg (by rw [hn]; omega), if_neg (by rw [hn]; omega), h2, if_neg (by decide), h3]
theorem check (h : Right a n) : m_automaton_Check a = some 0 := by
  have h1 := h.l1
  have h2 := h.l2
  have h3 := h.l3
  have := check_eq (a := toAut a) (by simp [toAut]; omega) (by simp [toAut]; omega) (by simp [toAut]; omega)
  rwa [autP_toAut, h.err] at this
end Right
theorem inc_len {n : Nat} : ∀ {xs : List Int} {lo : Int}, Inc xs → (∀ x ∈ xs, lo ≤ x ∧ x < (n : Int)) → 0 ≤ lo → xs.length ≤ n - lo.toNat
  | [], _, _, _, _ => Nat.zero_le _
  | x :: xs, lo, h, hr, h0 => by
    obtain ⟨h1, h2⟩ := List.pairwise_cons.1 h
    have hx := hr x (List.mem_cons_self ..)
    have := inc_len (n := n) (lo := x + 1) h2 (fun y hy => ⟨by have := h1 y hy; omega, (hr y (List.mem_cons_of_mem _ hy)).2⟩) (by omega)
    rw [List.length_cons]
    omega
end Go.Proofs.YtfbapajcheammaaDoor

namespace Go.Proofs.YtfbapajcheammaaDoor
open Go Go.RowKit
theorem idx_hd {α : Type} (a : α) (us : List α) : idx (a :: us) 0 = some a := rfl
theorem slc_tl {α : Type} (a : α) (us : List α) : slc (a :: us) 1 ((a :: us).length : Int) = some us := by
  rw [slc, if_pos ⟨by omega, by simp; omega, by omega⟩]
  simp
/-- What holds while two sets are united. -/
structure Mrg (out us vs : List Int) : Prop where
  o : Inc out
  u : Inc us
  v : Inc vs
  ou : ∀ x ∈ out, ∀ y ∈ us, x < y
  ov : ∀ x ∈ out, ∀ y ∈ vs, x < y
  ro : ∀ x ∈ out, 0 ≤ x ∧ x < 32
  ru : ∀ x ∈ us, 0 ≤ x ∧ x < 32
  rv : ∀ x ∈ vs, 0 ≤ x ∧ x < 32
theorem Mrg.swap {out us vs : List Int} (h : Mrg out us vs) : Mrg out vs us := ⟨h.o, h.v, h.u, h.ov, h.ou, h.ro, h.rv, h.ru⟩
theorem Mrg.push {out us vs : List Int} {a : Int} (h : Mrg out (a :: us) vs) (hv : ∀ y ∈ vs, a < y) : Mrg (out ++ [a]) us vs := by
  obtain ⟨u1, u2⟩ := List.pairwise_cons.1 h.u
  refine ⟨?_, u2, h.v, ?_, ?_, ?_, fun x hx => h.ru x (List.mem_cons_of_mem _ hx), h.rv⟩
  · unfold Inc; rw [List.pairwise_append]
    exact ⟨h.o, List.pairwise_singleton _ _, fun x hx y hy => by rw [List.mem_singleton.1 hy]; exact h.ou x hx a (List.mem_cons_self ..)⟩
  · intro x hx y hy
    rcases List.mem_append.1 hx with hx | hx
    · exact h.ou x hx y (List.mem_cons_of_mem _ hy)
    · rw [List.mem_singleton.1 hx]; exact u1 y hy
  · intro x hx y hy
    rcases List.mem_append.1 hx with hx | hx
    · exact h.ov x hx y hy
    · rw [List.mem_singleton.1 hx]; exact hv y hy
  · intro x hx
    rcases List.mem_append.1 hx with hx | hx
    · exact h.ro x hx
    · rw [List.mem_singleton.1 hx]; exact h.ru a (List.mem_cons_self ..)
theorem Mrg.tailv {out us vs : List Int} {a : Int} (h : Mrg out us (a :: vs)) : Mrg out us vs :=
  ⟨h.o, h.u, (List.pairwise_cons.1 h.v).2, h.ou, fun x hx y hy => h.ov x hx y (List.mem_cons_of_mem _ hy), h.ro, h.ru, fun x hx => h.rv x (List.mem_cons_of_mem _ hx)⟩
theorem Mrg.len {out us vs : List Int} (h : Mrg out us vs) : out.length ≤ 32 := by
  have := inc_len (n := 32) (lo := 0) h.o h.ro (Int.le_refl _)
  simpa using this
theorem Mrg.lt {out us vs : List Int} {a b : Int} (h : Mrg out us (b :: vs)) (hab : a < b) : ∀ y ∈ b :: vs, a < y := fun y hy => by
  rcases List.mem_cons.1 hy with rfl | hy
  · exact hab
  · have := (List.pairwise_cons.1 h.v).1 y hy; omega
theorem union_step {out us vs : List Int} (h : Mrg out us vs) (hne : 0 < us.length + vs.length) :
    ∃ o u v, m_alphabet_merge_l1 m_alphabet_Union_1 (out, us, vs) = some (.inl (o, u, v)) ∧ Mrg o u v ∧ u.length + v.length + 1 ≤ us.length + vs.length := by
  have hl := h.len
  have ho : ∀ a : Int, app out ([a] : List Int) = some (out ++ [a]) := fun a => app_eq (by simp; omega)
  cases us with
  | nil =>
    cases vs with
    | nil => simp at hne
    | cons b vs =>
      refine ⟨out ++ [b], [], vs, ?_, (h.swap.push (fun y hy => by cases hy)).swap, by simp⟩
      rw [m_alphabet_merge_l1]
      dsimp only
      rw [if_pos (by simp), if_neg (by simp), m_alphabet_merge_j1]
      dsimp only
      rw [if_pos (by simp), if_pos (by simp), m_alphabet_merge_j2, if_neg (by simp), m_alphabet_merge_j3, if_pos rfl]
      dsimp only
      rw [idx_hd, Option.bind_some, slc_tl, Option.bind_some, m_alphabet_merge_j4, show m_alphabet_Union_1 false true = some true from rfl, Option.bind_some, if_pos rfl]
      dsimp only
      rw [ho, Option.bind_some]
  | cons a us =>
    cases vs with
    | nil =>
      refine ⟨out ++ [a], us, [], ?_, h.push (fun y hy => by cases hy), by simp⟩
      rw [m_alphabet_merge_l1]
      dsimp only
      rw [if_pos (by simp), if_pos (by simp), if_pos (by simp), m_alphabet_merge_j1]
      dsimp only
      rw [if_neg (by simp), m_alphabet_merge_j2, if_pos rfl]
      dsimp only
      rw [idx_hd, Option.bind_some, slc_tl, Option.bind_some, m_alphabet_merge_j3, if_neg (by simp), m_alphabet_merge_j4, show m_alphabet_Union_1 true false = some true from rfl, Option.bind_some, if_pos rfl]
      dsimp only
      rw [ho, Option.bind_some]
    | cons b vs =>
      have e0 : m_alphabet_merge_l1 m_alphabet_Union_1 (out, a :: us, b :: vs) = m_alphabet_merge_j2 m_alphabet_Union_1 (out, a :: us, b :: vs) (decide (a ≤ b)) (decide (b ≤ a)) := by
        rw [m_alphabet_merge_l1]
        dsimp only
        rw [if_pos (by simp), if_pos (by simp), if_neg (by simp; omega), idx_hd, Option.bind_some, idx_hd, Option.bind_some, m_alphabet_merge_j1]
        dsimp only
        rw [if_pos (by simp), if_neg (by simp; omega), idx_hd, Option.bind_some, idx_hd, Option.bind_some]
      rw [e0, m_alphabet_merge_j2]
      dsimp only
      by_cases h1 : a < b
      · refine ⟨out ++ [a], us, b :: vs, ?_, h.push (h.lt h1), by simp; omega⟩
        rw [if_pos (show decide (a ≤ b) = true by simp; omega), idx_hd, Option.bind_some, slc_tl, Option.bind_some, m_alphabet_merge_j3, if_neg (by simp; omega), m_alphabet_merge_j4, show decide (a ≤ b) = true by simp; omega, show decide (b ≤ a) = false by simp; omega,
          show m_alphabet_Union_1 true false = some true from rfl, Option.bind_some, if_pos rfl]
        dsimp only
        rw [ho, Option.bind_some]
      · by_cases h2 : b < a
        · refine ⟨out ++ [b], a :: us, vs, ?_, (h.swap.push (h.swap.lt h2)).swap, by simp; omega⟩
          rw [if_neg (show ¬ decide (a ≤ b) = true by simp; omega), m_alphabet_merge_j3, if_pos (show decide (b ≤ a) = true by simp; omega)]
          dsimp only
          rw [idx_hd, Option.bind_some, slc_tl, Option.bind_some, m_alphabet_merge_j4, show decide (a ≤ b) = false by simp; omega, show decide (b ≤ a) = true by simp; omega,
            show m_alphabet_Union_1 false true = some true from rfl, Option.bind_some, if_pos rfl]
          dsimp only
          rw [ho, Option.bind_some]
        · obtain rfl : a = b := by omega
          refine ⟨out ++ [a], us, vs, ?_, h.tailv.push ((List.pairwise_cons.1 h.v).1), by simp; omega⟩
          rw [if_pos (show decide (a ≤ a) = true by simp), idx_hd, Option.bind_some, slc_tl, Option.bind_some, m_alphabet_merge_j3, if_pos (show decide (a ≤ a) = true by simp)]
          dsimp only
          rw [idx_hd, Option.bind_some, slc_tl, Option.bind_some, m_alphabet_merge_j4, show decide (a ≤ a) = true by simp,
            show m_alphabet_Union_1 true true = some true from rfl, Option.bind_some, if_pos rfl]
          dsimp only
          rw [ho, Option.bind_some]
/-- An alphabet: sorted events below 32. -/
def Alp (xs : List Int) : Prop := Inc xs ∧ ∀ x ∈ xs, 0 ≤ x ∧ x < 32
theorem Alp.nil : Alp [] := ⟨List.Pairwise.nil, fun x hx => by cases hx⟩
theorem Alp.len {xs : List Int} (h : Alp xs) : xs.length ≤ 32 := by
  have := inc_len (n := 32) (lo := 0) h.1 h.2 (Int.le_refl _)
  simpa using this
theorem union_ex {us vs : List Int} (hu : Alp us) (hv : Alp vs) : ∃ o, m_alphabet_Union us vs = some o ∧ Alp o := by
  have h0 : Mrg [] us vs := ⟨List.Pairwise.nil, hu.1, hv.1, fun x hx => (by cases hx), fun x hx => (by cases hx), fun x hx => (by cases hx), hu.2, hv.2⟩
  have l1 := hu.len
  have l2 := hv.len
  obtain ⟨o, h1, h2⟩ := iter_inv (f := m_alphabet_merge_l1 m_alphabet_Union_1) (fun i s => Mrg s.1 s.2.1 s.2.2 ∧ s.2.1.length + s.2.2.length + i ≤ us.length + vs.length) (fun o => Alp o) (us.length + vs.length) 0 (by omega) (fun i s hi ⟨g1, g2⟩ => by
      obtain ⟨out, u, v⟩ := s
      dsimp only at g1 g2
      by_cases hne : 0 < u.length + v.length
      · obtain ⟨o, u', v', e, g3, g4⟩ := union_step g1 hne
        exact .inl ⟨_, e, g3, by dsimp only; omega⟩
      · have e1 : u = [] := List.eq_nil_of_length_eq_zero (by omega)
        have e2 : v = [] := List.eq_nil_of_length_eq_zero (by omega)
        subst e1; subst e2
        exact .inr ⟨out, rfl, g1.o, g1.ro⟩) (fun s ⟨g1, g2⟩ => by
      obtain ⟨out, u, v⟩ := s
      dsimp only at g1 g2
      have e1 : u = [] := List.eq_nil_of_length_eq_zero (by omega)
      have e2 : v = [] := List.eq_nil_of_length_eq_zero (by omega)
      subst e1; subst e2
      exact ⟨out, rfl, g1.o, g1.ro⟩) (Nat.zero_le _) ([], us, vs) ⟨h0, by dsimp only; omega⟩
  exact ⟨o, by rw [m_alphabet_Union, m_alphabet_merge, h1]; rfl, h2⟩
theorem events_ex {l : List AutT} (hl : l.length ≤ 1000) (h : ∀ a ∈ l, Alp a.1) : ∃ ev, m_product_events l = some ev ∧ Alp ev := by
  obtain ⟨o, h1, h2⟩ := iter_inv (f := m_product_events_l1 l) (fun i s => s.1 = (i : Int) ∧ Alp s.2) (fun o => Alp o) l.length 0 (by omega) (fun i s hi ⟨e1, g1⟩ => by
      obtain ⟨k, out⟩ := s
      dsimp only at e1 g1
      subst e1
      obtain ⟨o, e, g2⟩ := union_ex g1 (h _ (List.getElem_mem hi))
      refine .inl ⟨(((i + 1 : Nat) : Int), o), ?_, rfl, g2⟩
      rw [m_product_events_l1]
      dsimp only
      rw [if_pos (ct_lt hi), idx_at hi, Option.bind_some, e, Option.bind_some, nxt (by omega)]) (fun s ⟨e1, g1⟩ => by
      obtain ⟨k, out⟩ := s
      dsimp only at e1 g1
      subst e1
      refine ⟨out, ?_, g1⟩
      rw [m_product_events_l1]
      dsimp only
      rw [if_neg ct_ge]) (Nat.zero_le _) (0, []) ⟨rfl, Alp.nil⟩
  exact ⟨o, by rw [m_product_events, h1]; rfl, h2⟩
end Go.Proofs.YtfbapajcheammaaDoor

