/- Parts of the proof, without what nothing here names. -/
import Derived.Test.YtfbapajcheammaaDoorProg
import Derived.Test.YtfbapajcheammaaDoorQV4
namespace Go.Proofs.YtfbapajcheammaaDoor
open Go Go.RowKit
theorem cf10 : Cf Tryd.prog 10 := Cf.mk Tryd.func10 (by kernel_rfl) (by kernel_rfl)
theorem cf33 : Cf Tryd.prog 33 := Cf.mk Tryd.func33 (by kernel_rfl) (by kernel_rfl)
theorem cf34 : Cf Tryd.prog 34 := Cf.mk Tryd.func34 (by kernel_rfl) (by kernel_rfl)
/-- What blocking.Nonblocking computes. -/
noncomputable def m_blocking_Nonblocking (p0 : List (List Int × Int × List Int × (List (Int × Int × Int)))) : Option (List Int × Bool × Int) :=
  (m_product_Synchronous p0).bind fun r3 =>
  if (r3.2.2 != 0) then
    some (([] : List Int), false, r3.2.2)
  else
    (m_blocking_spread r3.1 r3.1.2.2.1).bind fun r20 =>
    (m_blocking_blocked r20).bind fun r25 =>
    (m_blocking_path r3.1 0 r25).bind fun r30 =>
    some (r30.1, (!r30.2), 0)
set_option maxRecDepth 100000 in
set_option maxHeartbeats 8000000 in
theorem m_blocking_Nonblocking_c {s : Sig} {p0 : List (List Int × Int × List Int × (List (Int × Int × Int)))} {a1 : Option Addr} {c1 : Nat} {r : List Int × Bool × Int} (h1 : RdL (rP (rL (rK .i64)) (rP (rK .i64) (rP (rL (rK .i64)) (rL (rP (rK .i64) (rP (rK .i64) (rK .i64))))))) s a1 c1 p0) (hm : m_blocking_Nonblocking p0 = some r) :
    Calls Tryd.prog 11 #[.slice a1 p0.length c1] s.w (RetS No s fun v s' => ∃ (a2 : Option Addr) (c2 : Nat), v = .tuple #[.slice a2 r.1.length c2, .bool r.2.1, .int .i64 r.2.2] ∧ RdL (rK .i64) s' a2 c2 r.1) := by
 unfold m_blocking_Nonblocking at hm
 obtain ⟨N, hN, hNb⟩ := s.fresh
 have m0 : Mv (Up N No) s s := Mv.refl _ _
 refine E.entry Tryd.func11 rfl Tryd.ntmps11 rfl rfl (E.seq (E.reg (L.as Wt.no rfl rfl (L.as Wt.no rfl rfl (L.as Wt.no rfl rfl (L.nil (X.seqN (E.seq (E.reg (L.mv Wt.no rfl rfl ?_))))))))))
 obtain ⟨r3, er3, hm⟩ := bindS hm
 refine L.ca cf10 rfl rfl Wt.no rfl (m_product_Synchronous_c (s := s) (p0 := p0) (u1 := 0) (u2 := 0) (u3 := 0) h1 er3) rfl ?_
 rintro _ s4 m5 ⟨a6, c6, a7, c7, a8, c8, a9, c9, rfl, h6, h7, h8, h9⟩
 replace h7 := h7.p
 replace h8 := h8.p
 replace h9 := h9.p
 replace m0 := m0.trans m5.no
 refine L.mv Wt.no rfl rfl (L.ex Wt.no rfl rfl rfl (L.ex Wt.no rfl rfl rfl (L.ex Wt.no rfl rfl rfl (L.al (N + 0) zz34 rfl Wt.no rfl fun b10 s11 m12 bx10 => ?_))))
 replace m0 := m0.trans m12.no
 replace h6 := h6.mono (m12.le no_No)
 replace h7 := h7.mono (m12.le no_No)
 replace h8 := h8.mono (m12.le no_No)
 refine L.st (c := [.slice a6 r3.1.1.length c6, .int .i64 r3.1.2.1, .slice a7 r3.1.2.2.1.length c7, .slice a8 r3.1.2.2.2.length c8]) (cs' := #[.slice a6 r3.1.1.length c6, .int .i64 r3.1.2.1, .slice a7 r3.1.2.2.1.length c7, .slice a8 r3.1.2.2.2.length c8]) bx10 ag34.sz Wt.no rfl rfl rfl rfl rfl (Nat.le_of_ble_eq_true rfl) rfl fun s13 m14 bx10 => ?_
 replace m0 := m0.trans (m14.one up)
 replace h6 := h6.mono (m14.le (tg0 hN))
 replace h7 := h7.mono (m14.le (tg0 hN))
 replace h8 := h8.mono (m14.le (tg0 hN))
 refine L.as Wt.no rfl rfl (L.as Wt.no rfl rfl (L.nil (X.seqN (E.seq (E.seq (E.reg (L.mv Wt.no rfl rfl (L.bi Wt.no rfl rfl rfl rfl (L.nil (X.seqN ?_))))))))))
 rcases ifS hm with ⟨hc, hm⟩ | ⟨hc, hm⟩
 ·refine E.cT rfl hc (E.seq (E.reg (L.mv Wt.no rfl rfl (L.as Wt.no rfl rfl (L.as Wt.no rfl rfl (L.as Wt.no rfl rfl (L.nil (X.seqN (E.ret (X.seqR ?_))))))))))
  obtain rfl := Option.some.inj hm
  exact X.rt (.inl rfl) Tryd.results11 (Rs.tmp rfl (Rs.tmp rfl (Rs.tmp rfl Rs.nil))) rfl ⟨_, (s13).ren N (fun _ => 0), rfl, rfl, m0.ren hNb, ⟨none, 0, rfl, RdL.nil⟩⟩
 refine E.cF rfl hc (E.skip (X.seqN (E.seq ?_)))
 obtain ⟨r20, er20, hm⟩ := bindS hm
 obtain ⟨r25, er25, hm⟩ := bindS hm
 obtain ⟨r30, er30, hm⟩ := bindS hm
 refine E.draw [[], [], [], [2], [1, 2, 3], [1, 2, 3, 4], [0, 1, 2, 3, 4, 5], [0, 1, 2, 3, 4, 5, 6], [0, 1, 2, 3, 4, 5, 6, 7], [0, 1, 2, 3, 4, 5, 6, 7], [0, 1, 2, 3, 4, 5, 6, 7, 8], [0, 1, 2, 3, 4, 5, 6, 7, 8, 9, 10]] (fun D e sx => Mv No s13 sx ∧ Sub [(5, .pointer (some ⟨b10, 0, none⟩))] e ∧ AllP [G D e 0 18 (.agg #[.slice a6 r3.1.1.length c6, .int .i64 r3.1.2.1, .slice a7 r3.1.2.2.1.length c7, .slice a8 r3.1.2.2.2.length c8]), G D e 1 19 (.agg #[.slice a6 r3.1.1.length c6, .int .i64 r3.1.2.1, .slice a7 r3.1.2.2.1.length c7, .slice a8 r3.1.2.2.2.length c8]), G D e 2 20 (.pointer (some ⟨b10, 2, none⟩)), G D e 3 21 (.slice a7 r3.1.2.2.1.length c7), D 4 = true → (∃ (a23 : Option Addr) (c23 : Nat), Env.get e 22 = some (.slice a23 r20.length c23) ∧ RdL (rK .i64) sx a23 c23 r20), D 5 = true → (∃ (a28 : Option Addr) (c28 : Nat), Env.get e 23 = some (.slice a28 r25.length c28) ∧ RdL (rK .i64) sx a28 c28 r25), D 6 = true → (∃ (a33 : Option Addr) (c33 : Nat), Env.get e 24 = some (.tuple #[.slice a33 r30.1.length c33, .bool r30.2]) ∧ RdL (rK .i64) sx a33 c33 r30.1), D 7 = true → ∀ (a33 : Option Addr) (c33 : Nat), Env.get e 24 = some (.tuple #[.slice a33 r30.1.length c33, .bool r30.2]) → (Env.get e 17 = some (.tuple #[.slice a33 r30.1.length c33, .bool r30.2])), D 8 = true → ∀ (a33 : Option Addr) (c33 : Nat), Env.get e 24 = some (.tuple #[.slice a33 r30.1.length c33, .bool r30.2]) → (Env.get e 25 = some (.slice a33 r30.1.length c33)), G D e 9 26 (.bool r30.2), D 10 = true → ∀ (a33 : Option Addr) (c33 : Nat), Env.get e 24 = some (.tuple #[.slice a33 r30.1.length c33, .bool r30.2]) → (Env.get e 2 = some (.slice a33 r30.1.length c33)), G D e 11 7 (.bool r30.2)]) (by kernel_rfl) (by kernel_rfl) (by kernel_rfl) ?_ ?_ ?_
 ·intro sz mz
  exact ⟨mz, (Sub.rf rfl), nofun, nofun, nofun, nofun, nofun, nofun, nofun, nofun, nofun, nofun, nofun, nofun, trivial⟩
 ·refine ⟨?_, ?_, ?_, ?_, ?_, ?_, ?_, ?_, ?_, ?_, ?_, ?_, trivial⟩
  ·rintro D e s15 ⟨im, ib, i⟩ hk hf ha
   have bx10 := bx10.mv im no_No
   have kn := K1 (ib 5 _ rfl)
   exact L.kns _ kn (L.lg (j := 0) (cs := [.slice a6 r3.1.1.length c6, .int .i64 r3.1.2.1, .slice a7 r3.1.2.2.1.length c7, .slice a8 r3.1.2.2.2.length c8]) bx10.mem ag34 Wt.no rfl rfl rfl rfl rfl (L.nil (X.dk kn ⟨im, Sub.fresh ib rfl, i.u 0 (fun _ => rfl)⟩)))
  ·rintro D e s16 ⟨im, ib, i⟩ hk hf ha
   have bx10 := bx10.mv im no_No
   have kn := K1 (ib 5 _ rfl)
   exact L.kns _ kn (L.lg (j := 0) (cs := [.slice a6 r3.1.1.length c6, .int .i64 r3.1.2.1, .slice a7 r3.1.2.2.1.length c7, .slice a8 r3.1.2.2.2.length c8]) bx10.mem ag34 Wt.no rfl rfl rfl rfl rfl (L.nil (X.dk kn ⟨im, Sub.fresh ib rfl, i.u 1 (fun _ => rfl)⟩)))
  ·rintro D e s17 ⟨im, ib, i⟩ hk hf ha
   have kn := K1 (ib 5 _ rfl)
   exact L.kns _ kn (L.fa fa34_2 Wt.no rfl rfl (L.nil (X.dk kn ⟨im, Sub.fresh ib rfl, i.u 2 (fun _ => rfl)⟩)))
  ·rintro D e s18 ⟨im, ib, i⟩ hk hf ha
   have bx10 := bx10.mv im no_No
   have kn := K1 ((i.p 2) (ha.at 2 rfl))
   exact L.kns _ kn (L.ld (j := 2) bx10.mem nag31 Wt.no rfl rfl rfl rfl (L.nil (X.dk kn ⟨im, Sub.fresh ib rfl, i.u 3 (fun _ => rfl)⟩)))
  ·rintro D e s19 ⟨im, ib, i⟩ hk hf ha
   have h6 := h6.mono (im.le no_No)
   have h7 := h7.mono (im.le no_No)
   have h8 := h8.mono (im.le no_No)
   have kn := K2 ((i.p 1) (ha.at 1 rfl)) ((i.p 3) (ha.at 3 rfl))
   refine L.kns _ kn (L.ca cf35 rfl rfl Wt.no rfl (m_blocking_spread_c (s := s19) (p0 := r3.1) (p1 := r3.1.2.2.1) (u0 := 0) h6 h7 h8 h7 er20) rfl ?_)
   rintro _ s21 m22 ⟨a23, c23, rfl, h23⟩
   replace h23 := h23.p
   exact L.nil (X.dk kn ⟨im.trans m22.no, Sub.fresh ib rfl, ((i.u 4 (fun _ => ⟨a23, c23, rfl, h23⟩)).u 5 (fun z => let ⟨a28, c28, q, h28⟩ := (i.p 5) z; ⟨a28, c28, q, (h28.mono (m22.le no_No))⟩)).u 6 (fun z => let ⟨a33, c33, q, h33⟩ := (i.p 6) z; ⟨a33, c33, q, (h33.mono (m22.le no_No))⟩)⟩)
  ·rintro D e s24 ⟨im, ib, i⟩ hk hf ha
   obtain ⟨a23, c23, g4_, h23⟩ := (i.p 4) (ha.at 4 rfl)
   have kn := K1 g4_
   refine L.kns _ kn (L.ca cf34 rfl rfl Wt.no rfl (m_blocking_blocked_c (s := s24) (p0 := r20) (u0 := 0) h23 er25) rfl ?_)
   rintro _ s26 m27 ⟨a28, c28, rfl, h28⟩
   replace h28 := h28.p
   exact L.nil (X.dk kn ⟨im.trans m27.no, Sub.fresh ib rfl, ((i.u 4 (fun z => let ⟨a23, c23, q, h23⟩ := (i.p 4) z; ⟨a23, c23, q, (h23.mono (m27.le no_No))⟩)).u 5 (fun _ => ⟨a28, c28, rfl, h28⟩)).u 6 (fun z => let ⟨a33, c33, q, h33⟩ := (i.p 6) z; ⟨a33, c33, q, (h33.mono (m27.le no_No))⟩)⟩)
  ·rintro D e s29 ⟨im, ib, i⟩ hk hf ha
   obtain ⟨a28, c28, g5_, h28⟩ := (i.p 5) (ha.at 5 rfl)
   have h6 := h6.mono (im.le no_No)
   have h7 := h7.mono (im.le no_No)
   have h8 := h8.mono (im.le no_No)
   have kn := K2 ((i.p 0) (ha.at 0 rfl)) g5_
   refine L.kns _ kn (L.ca cf33 rfl rfl Wt.no rfl (m_blocking_path_c (s := s29) (p0 := r3.1) (p1 := 0) (p2 := r25) h6 h7 h8 h28 er30) rfl ?_)
   rintro _ s31 m32 ⟨a33, c33, rfl, h33⟩
   exact L.nil (X.dk kn ⟨im.trans m32.no, Sub.fresh ib rfl, (((((i.u 4 (fun z => let ⟨a23, c23, q, h23⟩ := (i.p 4) z; ⟨a23, c23, q, (h23.mono (m32.le no_No))⟩)).u 5 (fun z => let ⟨a28, c28, q, h28⟩ := (i.p 5) z; ⟨a28, c28, q, (h28.mono (m32.le no_No))⟩)).u 6 (fun _ => ⟨a33, c33, rfl, h33⟩)).u 7 (fun z => Bool.noConfusion ((hf 7 (Nat.le_of_ble_eq_true rfl) rfl).symm.trans z))).u 8 (fun z => Bool.noConfusion ((hf 8 (Nat.le_of_ble_eq_true rfl) rfl).symm.trans z))).u 10 (fun z => Bool.noConfusion ((hf 10 (Nat.le_of_ble_eq_true rfl) rfl).symm.trans z))⟩)
  ·rintro D e s34 ⟨im, ib, i⟩ hk hf ha
   obtain ⟨a33, c33, g6_, h33⟩ := (i.p 6) (ha.at 6 rfl)
   have kn := K1 g6_
   exact L.kns _ kn (L.mv Wt.no rfl rfl (L.nil (X.dk kn ⟨im, Sub.fresh ib rfl, i.u 7 (fun _ _ _ q6 => by cases g6_.symm.trans q6; exact rfl)⟩)))
  ·rintro D e s35 ⟨im, ib, i⟩ hk hf ha
   obtain ⟨a33, c33, g6_, h33⟩ := (i.p 6) (ha.at 6 rfl)
   have g7_ := (i.p 7) (ha.at 7 rfl) a33 c33 g6_
   have kn := K1 g7_
   exact L.kns _ kn (L.ex Wt.no rfl rfl rfl (L.nil (X.dk kn ⟨im, Sub.fresh ib rfl, i.u 8 (fun _ _ _ q6 => by cases g6_.symm.trans q6; exact rfl)⟩)))
  ·rintro D e s36 ⟨im, ib, i⟩ hk hf ha
   obtain ⟨a33, c33, g6_, h33⟩ := (i.p 6) (ha.at 6 rfl)
   have g7_ := (i.p 7) (ha.at 7 rfl) a33 c33 g6_
   have kn := K1 g7_
   exact L.kns _ kn (L.ex Wt.no rfl rfl rfl (L.nil (X.dk kn ⟨im, Sub.fresh ib rfl, i.u 9 (fun _ => rfl)⟩)))
  ·rintro D e s37 ⟨im, ib, i⟩ hk hf ha
   obtain ⟨a33, c33, g6_, h33⟩ := (i.p 6) (ha.at 6 rfl)
   have g8_ := (i.p 8) (ha.at 8 rfl) a33 c33 g6_
   have kn := K1 g8_
   exact L.kns _ kn (L.as Wt.no rfl rfl (L.nil (X.dk kn ⟨im, Sub.fresh ib rfl, i.u 10 (fun _ _ _ q6 => by cases g6_.symm.trans q6; exact rfl)⟩)))
  rintro D e s38 ⟨im, ib, i⟩ hk hf ha
  have kn := K1 ((i.p 9) (ha.at 9 rfl))
  exact L.kns _ kn (L.as Wt.no rfl rfl (L.nil (X.dk kn ⟨im, Sub.fresh ib rfl, i.u 11 (fun _ => rfl)⟩)))
 rintro D e s39 hD ⟨im, ib, i⟩
 obtain ⟨a33, c33, g6_, h33⟩ := (i.p 6) (hD 6 rfl)
 have g10_ := (i.p 10) (hD 10 rfl) a33 c33 g6_
 have g11_ := (i.p 11) (hD 11 rfl)
 have m0 := m0.trans im.no
 refine X.sub (e' := [(7, .bool r30.2), (2, .slice a33 r30.1.length c33)]) ?_ (Sub.cons g11_ (Sub.cons g10_ Sub.nil))
 refine X.seqN (E.seq (E.reg (L.mv Wt.no rfl rfl (L.mv Wt.no rfl rfl (L.not Wt.no rfl rfl (L.as Wt.no rfl rfl (L.as Wt.no rfl rfl (L.as Wt.no rfl rfl (L.nil (X.seqN (E.ret ?_)))))))))))
 obtain rfl := Option.some.inj hm
 exact X.rt (.inl rfl) Tryd.results11 (Rs.tmp rfl (Rs.tmp rfl (Rs.tmp rfl Rs.nil))) rfl ⟨_, (s39).ren N (fun _ => 0), rfl, rfl, m0.ren hNb, ⟨a33, c33, rfl, (h33.ren hN)⟩⟩

theorem bs29 : Bs Tryd.prog 29 34 4 [.slice none 0 0, .int .i64 0, .slice none 0 0, .slice none 0 0] := Bs.mk' Tryd.underlying29 (by kernel_rfl) (by kernel_rfl) rfl
theorem el34 : El Tryd.prog 34 4 80 := El.mk' (z := .agg #[.slice none 0 0, .int .i64 0, .slice none 0 0, .slice none 0 0]) (by kernel_rfl) (by kernel_rfl) (by kernel_rfl) rfl
/-- What overseerlaw24.waits computes. -/
noncomputable def m_overseerlaw24_waits (p0 : Int) : Option (List (List Int × Int × List Int × (List (Int × Int × Int)))) :=
  some ([(([0, 1] : List Int), 2, ([0] : List Int), ([(0, 0, 1), (1, 1, 0)] : List (Int × Int × Int))), (([0, 1] : List Int), 2, ([p0] : List Int), ([(0, 1, 1), (1, 0, 0)] : List (Int × Int × Int)))] : List (List Int × Int × List Int × (List (Int × Int × Int))))
set_option maxRecDepth 100000 in
set_option maxHeartbeats 8000000 in
theorem m_overseerlaw24_waits_c {s : Sig} {p0 : Int} {r : (List (List Int × Int × List Int × (List (Int × Int × Int))))} (hm : m_overseerlaw24_waits p0 = some r) :
    Calls Tryd.prog 42 #[.int .i64 p0] s.w (RetS No s fun v s' => ∃ (a1 : Option Addr) (c1 : Nat), v = .slice a1 r.length c1 ∧ RdL (rP (rL (rK .i64)) (rP (rK .i64) (rP (rL (rK .i64)) (rL (rP (rK .i64) (rP (rK .i64) (rK .i64))))))) s' a1 c1 r) := by
 unfold m_overseerlaw24_waits at hm
 obtain ⟨N, hN, hNb⟩ := s.fresh
 have m0 : Mv (Up N No) s s := Mv.refl _ _
 refine E.entry Tryd.func42 rfl Tryd.ntmps42 rfl rfl (E.seq (E.reg (L.as Wt.no rfl rfl (L.nil (X.seqN (E.seq (E.reg (L.bsE (k := 2) (cs := [.int .i64 0, .int .i64 1]) 0 bs31 (Nat.le_of_ble_eq_true rfl) Wt.no rfl rfl rfl rfl fun b2 s3 m4 bx2 => ?_))))))))
 replace m0 := m0.trans m4.no
 have h2 := Bx.rdL (r := (rK .i64)) (xs := ([0, 1] : List Int)) bx2 ⟨[.int .i64 0], _, rfl, rfl, ⟨[.int .i64 1], _, rfl, rfl, rfl⟩⟩ (Nat.le_of_ble_eq_true rfl)
 refine L.bsE (k := 1) (cs := [.int .i64 0]) 0 bs31 (Nat.le_of_ble_eq_true rfl) Wt.no rfl rfl rfl rfl fun b5 s6 m7 bx5 => ?_
 replace m0 := m0.trans m7.no
 replace h2 := h2.mono (m7.le no_No)
 have h5 := Bx.rdL (r := (rK .i64)) (xs := ([0] : List Int)) bx5 ⟨[.int .i64 0], _, rfl, rfl, rfl⟩ (Nat.le_of_ble_eq_true rfl)
 refine L.bu (cs := [.int .i64 0, .int .i64 0, .int .i64 1]) pl58 Wt.no rfl rfl rfl (L.bu (cs := [.int .i64 1, .int .i64 1, .int .i64 0]) pl58 Wt.no rfl rfl rfl (L.bsE (k := 2) (cs := [.int .i64 0, .int .i64 0, .int .i64 1, .int .i64 1, .int .i64 1, .int .i64 0]) 0 bs32 (Nat.le_of_ble_eq_true rfl) Wt.no rfl rfl rfl rfl fun b8 s9 m10 bx8 => ?_))
 replace m0 := m0.trans m10.no
 replace h2 := h2.mono (m10.le no_No)
 replace h5 := h5.mono (m10.le no_No)
 have h8 := Bx.rdL (r := (rP (rK .i64) (rP (rK .i64) (rK .i64)))) (xs := ([(0, 0, 1), (1, 1, 0)] : List (Int × Int × Int))) bx8 ⟨[.int .i64 0, .int .i64 0, .int .i64 1], _, rfl, ⟨[.int .i64 0], [.int .i64 0, .int .i64 1], rfl, rfl, ⟨[.int .i64 0], [.int .i64 1], rfl, rfl, rfl⟩⟩, ⟨[.int .i64 1, .int .i64 1, .int .i64 0], _, rfl, ⟨[.int .i64 1], [.int .i64 1, .int .i64 0], rfl, rfl, ⟨[.int .i64 1], [.int .i64 0], rfl, rfl, rfl⟩⟩, rfl⟩⟩ (Nat.le_of_ble_eq_true rfl)
 refine L.bu (cs := [.slice (some ⟨b2, 0, none⟩) ([0, 1] : List Int).length (([0, 1] : List Int).length), .int .i64 2, .slice (some ⟨b5, 0, none⟩) ([0] : List Int).length (([0] : List Int).length), .slice (some ⟨b8, 0, none⟩) ([(0, 0, 1), (1, 1, 0)] : List (Int × Int × Int)).length (([(0, 0, 1), (1, 1, 0)] : List (Int × Int × Int)).length)]) pl34 Wt.no rfl rfl rfl (L.al (N + 0) zz34 rfl Wt.no rfl fun b11 s12 m13 bx11 => ?_)
 replace m0 := m0.trans m13.no
 replace h2 := h2.mono (m13.le no_No)
 replace h5 := h5.mono (m13.le no_No)
 replace h8 := h8.mono (m13.le no_No)
 refine L.st (c := [.slice (some ⟨b2, 0, none⟩) ([0, 1] : List Int).length (([0, 1] : List Int).length), .int .i64 2, .slice (some ⟨b5, 0, none⟩) ([0] : List Int).length (([0] : List Int).length), .slice (some ⟨b8, 0, none⟩) ([(0, 0, 1), (1, 1, 0)] : List (Int × Int × Int)).length (([(0, 0, 1), (1, 1, 0)] : List (Int × Int × Int)).length)]) (cs' := #[.slice (some ⟨b2, 0, none⟩) ([0, 1] : List Int).length (([0, 1] : List Int).length), .int .i64 2, .slice (some ⟨b5, 0, none⟩) ([0] : List Int).length (([0] : List Int).length), .slice (some ⟨b8, 0, none⟩) ([(0, 0, 1), (1, 1, 0)] : List (Int × Int × Int)).length (([(0, 0, 1), (1, 1, 0)] : List (Int × Int × Int)).length)]) bx11 ag34.sz Wt.no rfl rfl rfl rfl rfl (Nat.le_of_ble_eq_true rfl) rfl fun s14 m15 bx11 => ?_
 replace m0 := m0.trans (m15.one up)
 replace h2 := h2.mono (m15.le (tg0 hN))
 replace h5 := h5.mono (m15.le (tg0 hN))
 replace h8 := h8.mono (m15.le (tg0 hN))
 refine L.nil (X.seqN (E.seq (E.reg (L.bsE (k := 2) (cs := [.int .i64 0, .int .i64 1]) 0 bs31 (Nat.le_of_ble_eq_true rfl) Wt.no rfl rfl rfl rfl fun b16 s17 m18 bx16 => ?_))))
 replace m0 := m0.trans m18.no
 replace bx11 := bx11.mv m18 no_No
 replace h2 := h2.mono (m18.le no_No)
 replace h5 := h5.mono (m18.le no_No)
 replace h8 := h8.mono (m18.le no_No)
 have h16 := Bx.rdL (r := (rK .i64)) (xs := ([0, 1] : List Int)) bx16 ⟨[.int .i64 0], _, rfl, rfl, ⟨[.int .i64 1], _, rfl, rfl, rfl⟩⟩ (Nat.le_of_ble_eq_true rfl)
 refine L.mv Wt.no rfl rfl (L.bsE (k := 1) (cs := [.int .i64 p0]) 0 bs31 (Nat.le_of_ble_eq_true rfl) Wt.no rfl rfl rfl rfl fun b19 s20 m21 bx19 => ?_)
 replace m0 := m0.trans m21.no
 replace h16 := h16.mono (m21.le no_No)
 replace bx11 := bx11.mv m21 no_No
 replace h2 := h2.mono (m21.le no_No)
 replace h5 := h5.mono (m21.le no_No)
 replace h8 := h8.mono (m21.le no_No)
 have h19 := Bx.rdL (r := (rK .i64)) (xs := ([p0] : List Int)) bx19 ⟨[.int .i64 p0], _, rfl, rfl, rfl⟩ (Nat.le_of_ble_eq_true rfl)
 refine L.bu (cs := [.int .i64 0, .int .i64 1, .int .i64 1]) pl58 Wt.no rfl rfl rfl (L.bu (cs := [.int .i64 1, .int .i64 0, .int .i64 0]) pl58 Wt.no rfl rfl rfl (L.bsE (k := 2) (cs := [.int .i64 0, .int .i64 1, .int .i64 1, .int .i64 1, .int .i64 0, .int .i64 0]) 0 bs32 (Nat.le_of_ble_eq_true rfl) Wt.no rfl rfl rfl rfl fun b22 s23 m24 bx22 => ?_))
 replace m0 := m0.trans m24.no
 replace h16 := h16.mono (m24.le no_No)
 replace h19 := h19.mono (m24.le no_No)
 replace bx11 := bx11.mv m24 no_No
 replace h2 := h2.mono (m24.le no_No)
 replace h5 := h5.mono (m24.le no_No)
 replace h8 := h8.mono (m24.le no_No)
 have h22 := Bx.rdL (r := (rP (rK .i64) (rP (rK .i64) (rK .i64)))) (xs := ([(0, 1, 1), (1, 0, 0)] : List (Int × Int × Int))) bx22 ⟨[.int .i64 0, .int .i64 1, .int .i64 1], _, rfl, ⟨[.int .i64 0], [.int .i64 1, .int .i64 1], rfl, rfl, ⟨[.int .i64 1], [.int .i64 1], rfl, rfl, rfl⟩⟩, ⟨[.int .i64 1, .int .i64 0, .int .i64 0], _, rfl, ⟨[.int .i64 1], [.int .i64 0, .int .i64 0], rfl, rfl, ⟨[.int .i64 0], [.int .i64 0], rfl, rfl, rfl⟩⟩, rfl⟩⟩ (Nat.le_of_ble_eq_true rfl)
 refine L.bu (cs := [.slice (some ⟨b16, 0, none⟩) ([0, 1] : List Int).length (([0, 1] : List Int).length), .int .i64 2, .slice (some ⟨b19, 0, none⟩) ([p0] : List Int).length (([p0] : List Int).length), .slice (some ⟨b22, 0, none⟩) ([(0, 1, 1), (1, 0, 0)] : List (Int × Int × Int)).length (([(0, 1, 1), (1, 0, 0)] : List (Int × Int × Int)).length)]) pl34 Wt.no rfl rfl rfl (L.al (N + 1) zz34 rfl Wt.no rfl fun b25 s26 m27 bx25 => ?_)
 replace m0 := m0.trans m27.no
 replace h16 := h16.mono (m27.le no_No)
 replace h19 := h19.mono (m27.le no_No)
 replace h22 := h22.mono (m27.le no_No)
 replace bx11 := bx11.mv m27 no_No
 replace h2 := h2.mono (m27.le no_No)
 replace h5 := h5.mono (m27.le no_No)
 replace h8 := h8.mono (m27.le no_No)
 refine L.st (c := [.slice (some ⟨b16, 0, none⟩) ([0, 1] : List Int).length (([0, 1] : List Int).length), .int .i64 2, .slice (some ⟨b19, 0, none⟩) ([p0] : List Int).length (([p0] : List Int).length), .slice (some ⟨b22, 0, none⟩) ([(0, 1, 1), (1, 0, 0)] : List (Int × Int × Int)).length (([(0, 1, 1), (1, 0, 0)] : List (Int × Int × Int)).length)]) (cs' := #[.slice (some ⟨b16, 0, none⟩) ([0, 1] : List Int).length (([0, 1] : List Int).length), .int .i64 2, .slice (some ⟨b19, 0, none⟩) ([p0] : List Int).length (([p0] : List Int).length), .slice (some ⟨b22, 0, none⟩) ([(0, 1, 1), (1, 0, 0)] : List (Int × Int × Int)).length (([(0, 1, 1), (1, 0, 0)] : List (Int × Int × Int)).length)]) bx25 ag34.sz Wt.no rfl rfl rfl rfl rfl (Nat.le_of_ble_eq_true rfl) rfl fun s28 m29 bx25 => ?_
 replace m0 := m0.trans (m29.one up)
 replace bx11 := bx11.mv m29 (tgN (by decide))
 replace h2 := h2.mono (m29.le (tg0 hN))
 replace h5 := h5.mono (m29.le (tg0 hN))
 replace h8 := h8.mono (m29.le (tg0 hN))
 replace h16 := h16.mono (m29.le (tg0 hN))
 replace h19 := h19.mono (m29.le (tg0 hN))
 replace h22 := h22.mono (m29.le (tg0 hN))
 refine L.nil (X.seqN (E.seq (E.reg (L.lg (j := 0) (cs := [.slice (some ⟨b2, 0, none⟩) ([0, 1] : List Int).length (([0, 1] : List Int).length), .int .i64 2, .slice (some ⟨b5, 0, none⟩) ([0] : List Int).length (([0] : List Int).length), .slice (some ⟨b8, 0, none⟩) ([(0, 0, 1), (1, 1, 0)] : List (Int × Int × Int)).length (([(0, 0, 1), (1, 1, 0)] : List (Int × Int × Int)).length)]) bx11.mem ag34 Wt.no rfl rfl rfl rfl rfl (L.lg (j := 0) (cs := [.slice (some ⟨b16, 0, none⟩) ([0, 1] : List Int).length (([0, 1] : List Int).length), .int .i64 2, .slice (some ⟨b19, 0, none⟩) ([p0] : List Int).length (([p0] : List Int).length), .slice (some ⟨b22, 0, none⟩) ([(0, 1, 1), (1, 0, 0)] : List (Int × Int × Int)).length (([(0, 1, 1), (1, 0, 0)] : List (Int × Int × Int)).length)]) bx25.mem ag34 Wt.no rfl rfl rfl rfl rfl (L.bsE (k := 2) (cs := [.slice (some ⟨b2, 0, none⟩) ([0, 1] : List Int).length (([0, 1] : List Int).length), .int .i64 2, .slice (some ⟨b5, 0, none⟩) ([0] : List Int).length (([0] : List Int).length), .slice (some ⟨b8, 0, none⟩) ([(0, 0, 1), (1, 1, 0)] : List (Int × Int × Int)).length (([(0, 0, 1), (1, 1, 0)] : List (Int × Int × Int)).length), .slice (some ⟨b16, 0, none⟩) ([0, 1] : List Int).length (([0, 1] : List Int).length), .int .i64 2, .slice (some ⟨b19, 0, none⟩) ([p0] : List Int).length (([p0] : List Int).length), .slice (some ⟨b22, 0, none⟩) ([(0, 1, 1), (1, 0, 0)] : List (Int × Int × Int)).length (([(0, 1, 1), (1, 0, 0)] : List (Int × Int × Int)).length)]) 0 bs29 (Nat.le_of_ble_eq_true rfl) Wt.no rfl rfl rfl rfl fun b30 s31 m32 bx30 => ?_))))))
 replace m0 := m0.trans m32.no
 replace h2 := h2.mono (m32.le no_No)
 replace h5 := h5.mono (m32.le no_No)
 replace h8 := h8.mono (m32.le no_No)
 replace h16 := h16.mono (m32.le no_No)
 replace h19 := h19.mono (m32.le no_No)
 replace h22 := h22.mono (m32.le no_No)
 have h30 := Bx.rdL (r := (rP (rL (rK .i64)) (rP (rK .i64) (rP (rL (rK .i64)) (rL (rP (rK .i64) (rP (rK .i64) (rK .i64)))))))) (xs := ([(([0, 1] : List Int), 2, ([0] : List Int), ([(0, 0, 1), (1, 1, 0)] : List (Int × Int × Int))), (([0, 1] : List Int), 2, ([p0] : List Int), ([(0, 1, 1), (1, 0, 0)] : List (Int × Int × Int)))] : List (List Int × Int × List Int × (List (Int × Int × Int))))) bx30 ⟨[.slice (some ⟨b2, 0, none⟩) ([0, 1] : List Int).length (([0, 1] : List Int).length), .int .i64 2, .slice (some ⟨b5, 0, none⟩) ([0] : List Int).length (([0] : List Int).length), .slice (some ⟨b8, 0, none⟩) ([(0, 0, 1), (1, 1, 0)] : List (Int × Int × Int)).length (([(0, 0, 1), (1, 1, 0)] : List (Int × Int × Int)).length)], _, rfl, ⟨[.slice (some ⟨b2, 0, none⟩) ([0, 1] : List Int).length (([0, 1] : List Int).length)], [.int .i64 2, .slice (some ⟨b5, 0, none⟩) ([0] : List Int).length (([0] : List Int).length), .slice (some ⟨b8, 0, none⟩) ([(0, 0, 1), (1, 1, 0)] : List (Int × Int × Int)).length (([(0, 0, 1), (1, 1, 0)] : List (Int × Int × Int)).length)], rfl, ⟨_, _, rfl, h2⟩, ⟨[.int .i64 2], [.slice (some ⟨b5, 0, none⟩) ([0] : List Int).length (([0] : List Int).length), .slice (some ⟨b8, 0, none⟩) ([(0, 0, 1), (1, 1, 0)] : List (Int × Int × Int)).length (([(0, 0, 1), (1, 1, 0)] : List (Int × Int × Int)).length)], rfl, rfl, ⟨[.slice (some ⟨b5, 0, none⟩) ([0] : List Int).length (([0] : List Int).length)], [.slice (some ⟨b8, 0, none⟩) ([(0, 0, 1), (1, 1, 0)] : List (Int × Int × Int)).length (([(0, 0, 1), (1, 1, 0)] : List (Int × Int × Int)).length)], rfl, ⟨_, _, rfl, h5⟩, ⟨_, _, rfl, h8⟩⟩⟩⟩, ⟨[.slice (some ⟨b16, 0, none⟩) ([0, 1] : List Int).length (([0, 1] : List Int).length), .int .i64 2, .slice (some ⟨b19, 0, none⟩) ([p0] : List Int).length (([p0] : List Int).length), .slice (some ⟨b22, 0, none⟩) ([(0, 1, 1), (1, 0, 0)] : List (Int × Int × Int)).length (([(0, 1, 1), (1, 0, 0)] : List (Int × Int × Int)).length)], _, rfl, ⟨[.slice (some ⟨b16, 0, none⟩) ([0, 1] : List Int).length (([0, 1] : List Int).length)], [.int .i64 2, .slice (some ⟨b19, 0, none⟩) ([p0] : List Int).length (([p0] : List Int).length), .slice (some ⟨b22, 0, none⟩) ([(0, 1, 1), (1, 0, 0)] : List (Int × Int × Int)).length (([(0, 1, 1), (1, 0, 0)] : List (Int × Int × Int)).length)], rfl, ⟨_, _, rfl, h16⟩, ⟨[.int .i64 2], [.slice (some ⟨b19, 0, none⟩) ([p0] : List Int).length (([p0] : List Int).length), .slice (some ⟨b22, 0, none⟩) ([(0, 1, 1), (1, 0, 0)] : List (Int × Int × Int)).length (([(0, 1, 1), (1, 0, 0)] : List (Int × Int × Int)).length)], rfl, rfl, ⟨[.slice (some ⟨b19, 0, none⟩) ([p0] : List Int).length (([p0] : List Int).length)], [.slice (some ⟨b22, 0, none⟩) ([(0, 1, 1), (1, 0, 0)] : List (Int × Int × Int)).length (([(0, 1, 1), (1, 0, 0)] : List (Int × Int × Int)).length)], rfl, ⟨_, _, rfl, h19⟩, ⟨_, _, rfl, h22⟩⟩⟩⟩, rfl⟩⟩ (Nat.le_of_ble_eq_true rfl)
 refine L.as Wt.no rfl rfl (L.nil (X.seqN (E.ret ?_)))
 obtain rfl := Option.some.inj hm
 exact X.rt (.inl rfl) Tryd.results42 (Rs.tmp rfl Rs.nil) rfl ⟨_, (s31).ren N (fun _ => 0), rfl, rfl, m0.ren hNb, ⟨(some ⟨b30, 0, none⟩), ([(([0, 1] : List Int), 2, ([0] : List Int), ([(0, 0, 1), (1, 1, 0)] : List (Int × Int × Int))), (([0, 1] : List Int), 2, ([p0] : List Int), ([(0, 1, 1), (1, 0, 0)] : List (Int × Int × Int)))] : List (List Int × Int × List Int × (List (Int × Int × Int)))).length, rfl, (h30.ren hN)⟩⟩

theorem cf11 : Cf Tryd.prog 11 := Cf.mk Tryd.func11 (by kernel_rfl) (by kernel_rfl)
noncomputable def m_blocking_Culprits_j1 (st47 : Int × List Int) (l58 : List Int) : Option ((Int × List Int) ⊕ ((List Int) ⊕ Int)) :=
  some (.inl (W (st47.1 + 1), l58))
noncomputable def m_blocking_Culprits_l1 (p0 : List (List Int × Int × List Int × (List (Int × Int × Int)))) (st47 : Int × List Int) : Option ((Int × List Int) ⊕ ((List Int) ⊕ Int)) :=
  if decide (st47.1 < (p0.length : Int)) then
    (slc3 p0 0 st47.1 st47.1).bind fun x66 =>
    (slc p0 (W (st47.1 + 1)) (p0.length : Int)).bind fun x72 =>
    (app x66 x72).bind fun x75 =>
    (m_blocking_Nonblocking x75).bind fun r81 =>
    if (r81.2.2 != 0) then
      some (.inr (.inr (r81.2.2)))
    else
      if r81.2.1 then
        (app st47.2 ([st47.1] : List Int)).bind fun x88 =>
        m_blocking_Culprits_j1 st47 x88
      else
        m_blocking_Culprits_j1 st47 st47.2
  else
    some (.inr (.inl st47.2))
/-- What blocking.Culprits computes. -/
noncomputable def m_blocking_Culprits (p0 : List (List Int × Int × List Int × (List (Int × Int × Int)))) : Option (List Int × Int) :=
  (m_blocking_Nonblocking p0).bind fun r3 =>
  if (r3.2.2 != 0) then
    some (([] : List Int), r3.2.2)
  else
    if r3.2.1 then
      some (([] : List Int), 22)
    else
      (iter (m_blocking_Culprits_l1 p0) (0, ([] : List Int))).bind fun o47 =>
      match o47 with
      | .inl u52 =>
        some (u52, 0)
      | .inr (u55) =>
        some (([] : List Int), u55)
set_option maxRecDepth 100000 in
set_option maxHeartbeats 8000000 in
theorem m_blocking_Culprits_c {s : Sig} {p0 : List (List Int × Int × List Int × (List (Int × Int × Int)))} {a1 : Option Addr} {c1 : Nat} {u0 : Nat} {r : List Int × Int} (h1 : RdL (rP (rL (rK .i64)) (rP (rK .i64) (rP (rL (rK .i64)) (rL (rP (rK .i64) (rP (rK .i64) (rK .i64))))))) s a1 c1 p0) (hm : m_blocking_Culprits p0 = some r) :
    Calls Tryd.prog 17 #[.slice a1 p0.length c1] s.w (RetS No s fun v s' => ∃ (a2 : Option Addr) (c2 : Nat), v = .tuple #[.slice a2 r.1.length c2, .int .i64 r.2] ∧ RowT (rK .i64) s' u0 3 a2 c2 r.1) := by
 unfold m_blocking_Culprits at hm
 obtain ⟨N, hN, hNb⟩ := s.fresh
 have m0 : Mv (Up N No) s s := Mv.refl _ _
 refine E.entry Tryd.func17 rfl Tryd.ntmps17 rfl rfl (E.seq (E.reg (L.as Wt.no rfl rfl (L.as Wt.no rfl rfl (L.nil (X.seqN (E.seq (E.reg (L.mv Wt.no rfl rfl ?_)))))))))
 obtain ⟨r3, er3, hm⟩ := bindS hm
 refine L.ca cf11 rfl rfl Wt.no rfl (m_blocking_Nonblocking_c (s := s) (p0 := p0) h1 er3) rfl ?_
 rintro _ s4 m5 ⟨a6, c6, rfl, h6⟩
 replace m0 := m0.trans m5.no
 replace h1 := h1.mono (m5.le no_No)
 refine L.mv Wt.no rfl rfl (L.ex Wt.no rfl rfl rfl (L.ex Wt.no rfl rfl rfl (L.ex Wt.no rfl rfl rfl (L.as Wt.no rfl rfl (L.as Wt.no rfl rfl (L.as Wt.no rfl rfl (L.nil (X.seqN (E.seq (E.seq (E.reg (L.mv Wt.no rfl rfl (L.bi Wt.no rfl rfl rfl rfl (L.nil (X.seqN ?_)))))))))))))))
 rcases ifS hm with ⟨hc, hm⟩ | ⟨hc, hm⟩
 ·refine E.cT rfl hc (E.seq (E.reg (L.mv Wt.no rfl rfl (L.as Wt.no rfl rfl (L.as Wt.no rfl rfl (L.nil (X.seqN (E.ret (X.seqR ?_)))))))))
  obtain rfl := Option.some.inj hm
  exact X.rt (.inl rfl) Tryd.results17 (Rs.tmp rfl (Rs.tmp rfl Rs.nil)) rfl ⟨_, (s4).ren N (fun _ => 0), rfl, rfl, m0.ren hNb, ⟨none, 0, rfl, RowT.nil⟩⟩
 refine E.cF rfl hc (E.skip (X.seqN (E.seq (E.seq (E.reg (L.mv Wt.no rfl rfl (L.nil (X.seqN ?_))))))))
 rcases ifS hm with ⟨hc, hm⟩ | ⟨hc, hm⟩
 ·refine E.cT rfl hc (E.seq (E.reg (L.as Wt.no rfl rfl (L.as Wt.no rfl rfl (L.nil (X.seqN (E.ret (X.seqR ?_))))))))
  obtain rfl := Option.some.inj hm
  exact X.rt (.inl rfl) Tryd.results17 (Rs.tmp rfl (Rs.tmp rfl Rs.nil)) rfl ⟨_, (s4).ren N (fun _ => 0), rfl, rfl, m0.ren hNb, ⟨none, 0, rfl, RowT.nil⟩⟩
 refine E.cF rfl hc (E.skip (X.seqN (E.seq (E.reg (L.as Wt.no rfl rfl (L.nil (X.seqN (E.seq (E.seq (E.reg (L.mv Wt.no rfl rfl (L.len sl29 Wt.no rfl rfl (L.mv Wt.no rfl rfl (L.nil (X.seqN (E.block ?_))))))))))))))))
 obtain ⟨o47, eo47, hm⟩ := bindS hm
 refine E.cut (x := .exit 0) (fun e w => ∃ (s53 : Sig) (u52 : List Int) (a49 : Option Addr) (c49 : Nat), o47 = .inl u52 ∧ Mv (Up N No) s s53 ∧ RowT (rK .i64) s53 (N + 0) 3 a49 c49 u52 ∧ e = [(7, .slice a49 u52.length c49)] ∧ w = s53.w) ?_ ?_
 ·rintro _ _ ⟨s53, u52, a49, c49, rfl, m0, h49, rfl, rfl⟩
  dsimp only at hm
  refine X.blkE (X.seqN (E.seq (E.reg (L.mv Wt.no rfl rfl (L.as Wt.no rfl rfl (L.as Wt.no rfl rfl (L.nil (X.seqN (E.ret ?_)))))))))
  obtain rfl := Option.some.inj hm
  exact X.rt (.inl rfl) Tryd.results17 (Rs.tmp rfl (Rs.tmp rfl Rs.nil)) rfl ⟨_, (s53).ren N (fun k => cond (Nat.beq k 0) u0 (0)), rfl, rfl, m0.ren hNb, ⟨a49, c49, rfl, (h49.ren hN)⟩⟩
 intro K54
 refine E.cut (x := .ret) (fun e w => ∃ (s56 : Sig) (u55 : Int), o47 = .inr (u55) ∧ Mv (Up N No) s s56 ∧ e = [(3, .int .i64 u55), (2, .slice none 0 0)] ∧ w = s56.w) ?_ ?_
 ·rintro _ _ ⟨s56, u55, rfl, m0, rfl, rfl⟩
  dsimp only at hm
  refine X.blkR (X.seqR ?_)
  obtain rfl := Option.some.inj hm
  exact X.rt (.inl rfl) Tryd.results17 (Rs.tmp rfl (Rs.tmp rfl Rs.nil)) rfl ⟨_, (s56).ren N (fun _ => 0), rfl, rfl, m0.ren hNb, ⟨none, 0, rfl, RowT.nil⟩⟩
 intro K57
 refine E.iter (fun (st47 : Int × List Int) (e : List (Nat × Value)) (w : World) => ∃ (s51 : Sig) (a9 : Option Addr) (c9 : Nat), Mv (Up N No) s s51 ∧ RowT (rK .i64) s51 (N + 0) 3 a9 c9 st47.2 ∧ RdL (rP (rL (rK .i64)) (rP (rK .i64) (rP (rL (rK .i64)) (rL (rP (rK .i64) (rP (rK .i64) (rK .i64))))))) s51 a1 c1 p0 ∧ e = [(25, .int .i64 st47.1), (24, .int .i64 (p0.length : Int)), (7, .slice a9 st47.2.length c9), (0, .slice a1 p0.length c1)] ∧ w = s51.w) eo47 ⟨s4, none, 0, m0, RowT.nil, h1, rfl, rfl⟩ (Sub.rf rfl) ?_
 rintro st47 res47 hm ih47 ho47 _ _ ⟨s51, a9, c9, m0, h9, h1, rfl, rfl⟩
 unfold m_blocking_Culprits_l1 at hm
 refine E.seq (E.reg (L.bi Wt.no rfl rfl rfl rfl (L.nil (X.seqN (E.seq ?_)))))
 rcases ifS hm with ⟨hc, hm⟩ | ⟨hc, hm⟩
 ·refine E.cT rfl hc (E.skip (X.seqN (E.seqJ (fun e w => ∃ (s60 : Sig) (l58 : List Int) (a59 : Option Addr) (c59 : Nat), m_blocking_Culprits_j1 st47 l58 = some res47 ∧ Mv (Up N No) s s60 ∧ RowT (rK .i64) s60 (N + 0) 3 a59 c59 l58 ∧ RdL (rP (rL (rK .i64)) (rP (rK .i64) (rP (rL (rK .i64)) (rL (rP (rK .i64) (rP (rK .i64) (rK .i64))))))) s60 a1 c1 p0 ∧ e = [(7, .slice a59 l58.length c59), (25, .int .i64 st47.1), (24, .int .i64 (p0.length : Int)), (0, .slice a1 p0.length c1)] ∧ w = s60.w) ?_ ?_)))
  ·rintro _ _ ⟨s60, l58, a59, c59, hm, m0, h59, h1, rfl, rfl⟩
   unfold m_blocking_Culprits_j1 at hm
   exact E.reg (L.bi Wt.no rfl rfl rfl rfl (L.mv Wt.no rfl rfl (L.nil (X.sub (ih47 _ (Option.some.inj hm).symm _ _ ⟨s60, a59, c59, m0, h59, h1, rfl, rfl⟩) (Sub.rf rfl)))))
  intro Jj61
  refine E.block (E.seq (E.reg (L.mv Wt.no rfl rfl (L.as Wt.no rfl rfl (L.nil (X.seqN (E.seq ?_)))))))
  obtain ⟨x66, ex66, hm⟩ := bindS hm
  obtain ⟨x72, ex72, hm⟩ := bindS hm
  obtain ⟨x75, ex75, hm⟩ := bindS hm
  refine E.draw [[], [], [], [0, 1, 2], [], [], [5], [4, 5, 6], [0, 1, 2, 3, 4, 5, 6, 7], [0, 1, 2, 3, 4, 5, 6, 7, 8]] (fun D e sx => Mv No s51 sx ∧ Sub [(8, .int .i64 st47.1), (25, .int .i64 st47.1), (24, .int .i64 (p0.length : Int)), (7, .slice a9 st47.2.length c9), (0, .slice a1 p0.length c1)] e ∧ AllP [G D e 0 28 (.slice a1 p0.length c1), G D e 1 29 (.int .i64 st47.1), G D e 2 30 (.int .i64 st47.1), D 3 = true → (∃ (a67 : Option Addr), Env.get e 31 = some (.slice a67 x66.length x66.length) ∧ RdL (rP (rL (rK .i64)) (rP (rK .i64) (rP (rL (rK .i64)) (rL (rP (rK .i64) (rP (rK .i64) (rK .i64))))))) sx a67 x66.length x66), G D e 4 32 (.slice a1 p0.length c1), G D e 5 33 (.int .i64 st47.1), G D e 6 34 (.int .i64 (W (st47.1 + 1))), D 7 = true → (∃ (a73 : Option Addr) (c73 : Nat), Env.get e 35 = some (.slice a73 x72.length c73) ∧ RdL (rP (rL (rK .i64)) (rP (rK .i64) (rP (rL (rK .i64)) (rL (rP (rK .i64) (rP (rK .i64) (rK .i64))))))) sx a73 c73 x72), D 8 = true → (∃ (a76 : Option Addr) (c76 : Nat), Env.get e 36 = some (.slice a76 x75.length c76) ∧ RdL (rP (rL (rK .i64)) (rP (rK .i64) (rP (rL (rK .i64)) (rL (rP (rK .i64) (rP (rK .i64) (rK .i64))))))) sx a76 c76 x75), D 9 = true → ∀ (a76 : Option Addr) (c76 : Nat), Env.get e 36 = some (.slice a76 x75.length c76) → (Env.get e 9 = some (.slice a76 x75.length c76))]) (by kernel_rfl) (by kernel_rfl) (by kernel_rfl) ?_ ?_ ?_
  ·intro sz mz
   exact ⟨mz, (Sub.rf rfl), nofun, nofun, nofun, nofun, nofun, nofun, nofun, nofun, nofun, nofun, trivial⟩
  ·refine ⟨?_, ?_, ?_, ?_, ?_, ?_, ?_, ?_, ?_, ?_, trivial⟩
   ·rintro D e s62 ⟨im, ib, i⟩ hk hf ha
    have kn := K1 (ib 0 _ rfl)
    exact L.kns _ kn (L.mv Wt.no rfl rfl (L.nil (X.dk kn ⟨im, Sub.fresh ib rfl, i.u 0 (fun _ => rfl)⟩)))
   ·rintro D e s63 ⟨im, ib, i⟩ hk hf ha
    have kn := K1 (ib 8 _ rfl)
    exact L.kns _ kn (L.mv Wt.no rfl rfl (L.nil (X.dk kn ⟨im, Sub.fresh ib rfl, i.u 1 (fun _ => rfl)⟩)))
   ·rintro D e s64 ⟨im, ib, i⟩ hk hf ha
    have kn := K1 (ib 8 _ rfl)
    exact L.kns _ kn (L.mv Wt.no rfl rfl (L.nil (X.dk kn ⟨im, Sub.fresh ib rfl, i.u 2 (fun _ => rfl)⟩)))
   ·rintro D e s65 ⟨im, ib, i⟩ hk hf ha
    have h1 := h1.mono (im.le no_No)
    have kn := K3 ((i.p 0) (ha.at 0 rfl)) ((i.p 1) (ha.at 1 rfl)) ((i.p 2) (ha.at 2 rfl))
    exact L.kns _ kn (L.s30f (r := (rP (rL (rK .i64)) (rP (rK .i64) (rP (rL (rK .i64)) (rL (rP (rK .i64) (rP (rK .i64) (rK .i64)))))))) sl29 h1 Wt.no rfl rfl rfl rfl ex66 rfl fun a67 h67 => L.nil (X.dk kn ⟨im, Sub.fresh ib rfl, i.u 3 (fun _ => ⟨a67, rfl, h67⟩)⟩))
   ·rintro D e s68 ⟨im, ib, i⟩ hk hf ha
    have kn := K1 (ib 0 _ rfl)
    exact L.kns _ kn (L.mv Wt.no rfl rfl (L.nil (X.dk kn ⟨im, Sub.fresh ib rfl, i.u 4 (fun _ => rfl)⟩)))
   ·rintro D e s69 ⟨im, ib, i⟩ hk hf ha
    have kn := K1 (ib 8 _ rfl)
    exact L.kns _ kn (L.mv Wt.no rfl rfl (L.nil (X.dk kn ⟨im, Sub.fresh ib rfl, i.u 5 (fun _ => rfl)⟩)))
   ·rintro D e s70 ⟨im, ib, i⟩ hk hf ha
    have kn := K1 ((i.p 5) (ha.at 5 rfl))
    exact L.kns _ kn (L.bi Wt.no rfl rfl rfl rfl (L.nil (X.dk kn ⟨im, Sub.fresh ib rfl, i.u 6 (fun _ => rfl)⟩)))
   ·rintro D e s71 ⟨im, ib, i⟩ hk hf ha
    have h1 := h1.mono (im.le no_No)
    have kn := K2 ((i.p 4) (ha.at 4 rfl)) ((i.p 6) (ha.at 6 rfl))
    exact L.kns _ kn (L.sf (r := (rP (rL (rK .i64)) (rP (rK .i64) (rP (rL (rK .i64)) (rL (rP (rK .i64) (rP (rK .i64) (rK .i64)))))))) sl29 h1 Wt.no rfl rfl ex72 rfl fun a73 c73 h73 => L.nil (X.dk kn ⟨im, Sub.fresh ib rfl, i.u 7 (fun _ => ⟨a73, c73, rfl, h73⟩)⟩))
   ·rintro D e s74 ⟨im, ib, i⟩ hk hf ha
    obtain ⟨a67, g3_, h67⟩ := (i.p 3) (ha.at 3 rfl)
    obtain ⟨a73, c73, g7_, h73⟩ := (i.p 7) (ha.at 7 rfl)
    have kn := K2 g3_ g7_
    exact L.kns _ kn (L.apf (r := (rP (rL (rK .i64)) (rP (rK .i64) (rP (rL (rK .i64)) (rL (rP (rK .i64) (rP (rK .i64) (rK .i64)))))))) Tryd.underlying29 el34 rfl h67 h73.wk Wt.no rfl rfl ex75 rfl fun a76 c76 s77 m78 h76 => L.nil (X.dk kn ⟨im.trans m78.no, Sub.fresh ib rfl, (((i.u 3 (fun z => let ⟨a67, q, h67⟩ := (i.p 3) z; ⟨a67, q, (h67.mono (m78.le no_No))⟩)).u 7 (fun z => let ⟨a73, c73, q, h73⟩ := (i.p 7) z; ⟨a73, c73, q, (h73.mono (m78.le no_No))⟩)).u 8 (fun _ => ⟨a76, c76, rfl, h76⟩)).u 9 (fun z => Bool.noConfusion ((hf 9 (Nat.le_of_ble_eq_true rfl) rfl).symm.trans z))⟩))
   rintro D e s79 ⟨im, ib, i⟩ hk hf ha
   obtain ⟨a76, c76, g8_, h76⟩ := (i.p 8) (ha.at 8 rfl)
   have kn := K1 g8_
   exact L.kns _ kn (L.as Wt.no rfl rfl (L.nil (X.dk kn ⟨im, Sub.fresh ib rfl, i.u 9 (fun _ _ _ q8 => by cases g8_.symm.trans q8; exact rfl)⟩)))
  rintro D e s80 hD ⟨im, ib, i⟩
  obtain ⟨a76, c76, g8_, h76⟩ := (i.p 8) (hD 8 rfl)
  have g9_ := (i.p 9) (hD 9 rfl) a76 c76 g8_
  have h9 := h9.mv im no_No no_No
  have h1 := h1.mono (im.le no_No)
  have m0 := m0.trans im.no
  refine X.sub (e' := [(9, .slice a76 x75.length c76), (8, .int .i64 st47.1), (25, .int .i64 st47.1), (24, .int .i64 (p0.length : Int)), (7, .slice a9 st47.2.length c9), (0, .slice a1 p0.length c1)]) ?_ (Sub.cons g9_ (Sub.cons (ib 8 _ rfl) (Sub.cons (ib 25 _ rfl) (Sub.cons (ib 24 _ rfl) (Sub.cons (ib 7 _ rfl) (Sub.cons (ib 0 _ rfl) Sub.nil))))))
  refine X.seqN (E.seq (E.reg (L.mv Wt.no rfl rfl ?_)))
  obtain ⟨r81, er81, hm⟩ := bindS hm
  refine L.ca cf11 rfl rfl Wt.no rfl (m_blocking_Nonblocking_c (s := s80) (p0 := x75) h76 er81) rfl ?_
  rintro _ s82 m83 ⟨a84, c84, rfl, h84⟩
  replace m0 := m0.trans m83.no
  replace h1 := h1.mono (m83.le no_No)
  replace h9 := h9.mv m83 no_No no_No
  refine L.mv Wt.no rfl rfl (L.ex Wt.no rfl rfl rfl (L.ex Wt.no rfl rfl rfl (L.ex Wt.no rfl rfl rfl (L.as Wt.no rfl rfl (L.as Wt.no rfl rfl (L.as Wt.no rfl rfl (L.nil (X.seqN (E.seq (E.seq (E.reg (L.mv Wt.no rfl rfl (L.bi Wt.no rfl rfl rfl rfl (L.nil (X.seqN ?_)))))))))))))))
  rcases ifS hm with ⟨hc, hm⟩ | ⟨hc, hm⟩
  ·refine E.cT rfl hc (E.seq (E.reg (L.mv Wt.no rfl rfl (L.as Wt.no rfl rfl (L.as Wt.no rfl rfl (L.nil (X.seqN (E.ret (X.seqR (X.blkR (X.seqR (X.seqR ?_))))))))))))
   have hx := ho47 _ (Option.some.inj hm).symm
   exact X.sub (K57 _ _ ⟨s82, r81.2.2, hx.symm, m0, rfl, rfl⟩) (Sub.rf rfl)
  refine E.cF rfl hc (E.skip (X.seqN (E.seq (E.reg (L.mv Wt.no rfl rfl (L.nil (X.seqN ?_)))))))
  rcases ifS hm with ⟨hc, hm⟩ | ⟨hc, hm⟩
  ·refine E.cT rfl hc (E.reg (L.mv Wt.no rfl rfl (L.mv Wt.no rfl rfl (L.bsE (k := 1) (cs := [.int .i64 st47.1]) 0 bs31 (Nat.le_of_ble_eq_true rfl) Wt.no rfl rfl rfl rfl fun b85 s86 m87 bx85 => ?_))))
   replace m0 := m0.trans m87.no
   replace h1 := h1.mono (m87.le no_No)
   replace h9 := h9.mv m87 no_No no_No
   have h85 := Bx.rdL (r := (rK .i64)) (xs := ([st47.1] : List Int)) bx85 ⟨[.int .i64 st47.1], _, rfl, rfl, rfl⟩ (Nat.le_of_ble_eq_true rfl)
   obtain ⟨x88, ex88, hm⟩ := bindS hm
   refine L.ap (r := (rK .i64)) Tryd.underlying31 el3 rfl (tgp hN) h9 h85.wk Wt.no rfl rfl ex88 rfl fun a89 c89 s90 m91 h89 => ?_
   replace m0 := m0.trans (m91.one up)
   replace h1 := h1.mono (m91.le (tg0 hN))
   exact L.as Wt.no rfl rfl (L.nil (X.blkN (X.sub (Jj61 _ _ ⟨s90, x88, a89, c89, hm, m0, h89, h1, rfl, rfl⟩) (Sub.rf rfl))))
  exact E.cF rfl hc (E.skip (X.blkN (X.sub (Jj61 _ _ ⟨s82, st47.2, a9, c9, hm, m0, h9, h1, rfl, rfl⟩) (Sub.rf rfl))))
 refine E.cF rfl hc (E.exit (X.seqX (X.seqX ?_)))
 have hx := ho47 _ (Option.some.inj hm).symm
 exact X.sub (K54 _ _ ⟨s51, st47.2, a9, c9, hx.symm, m0, h9, rfl, rfl⟩) (Sub.rf rfl)

noncomputable def m_overseerlaw24_same_l1 (p0 : List Int) (p1 : List Int) (st19 : Int) : Option (Int ⊕ (Unit ⊕ Unit)) :=
  if decide (st19 < (p0.length : Int)) then
    (idx p0 st19).bind fun x30 =>
    (idx p1 st19).bind fun x36 =>
    if (x30 != x36) then
      some (.inr (.inr (())))
    else
      some (.inl (W (st19 + 1)))
  else
    some (.inr (.inl ()))
/-- What overseerlaw24.same computes. -/
noncomputable def m_overseerlaw24_same (p0 : List Int) (p1 : List Int) : Option Bool :=
  if ((p0.length : Int) != (p1.length : Int)) then
    some false
  else
    (iter (m_overseerlaw24_same_l1 p0 p1) 0).bind fun o19 =>
    match o19 with
    | .inl u21 =>
      some true
    | .inr (u24) =>
      some false
set_option maxRecDepth 100000 in
set_option maxHeartbeats 8000000 in
theorem m_overseerlaw24_same_c {s : Sig} {p0 : List Int} {p1 : List Int} {a1 : Option Addr} {c1 : Nat} {a2 : Option Addr} {c2 : Nat} {r : Bool} (h1 : RdL (rK .i64) s a1 c1 p0) (h2 : RdL (rK .i64) s a2 c2 p1) (hm : m_overseerlaw24_same p0 p1 = some r) :
    Calls Tryd.prog 15 #[.slice a1 p0.length c1, .slice a2 p1.length c2] s.w (RetS No s fun v s' => v = .bool r) := by
 unfold m_overseerlaw24_same at hm
 obtain ⟨N, hN, hNb⟩ := s.fresh
 have m0 : Mv (Up N No) s s := Mv.refl _ _
 refine E.entry Tryd.func15 rfl Tryd.ntmps15 rfl rfl (E.seq (E.reg (L.as Wt.no rfl rfl (L.nil (X.seqN (E.seq (E.seq (E.reg (L.mv Wt.no rfl rfl (L.len sl31 Wt.no rfl rfl (L.mv Wt.no rfl rfl (L.len sl31 Wt.no rfl rfl (L.bi Wt.no rfl rfl rfl rfl (L.nil (X.seqN ?_)))))))))))))))
 rcases ifS hm with ⟨hc, hm⟩ | ⟨hc, hm⟩
 ·refine E.cT rfl hc (E.seq (E.reg (L.as Wt.no rfl rfl (L.nil (X.seqN (E.ret (X.seqR ?_)))))))
  obtain rfl := Option.some.inj hm
  exact X.rt (.inl rfl) Tryd.results15 (Rs.tmp rfl Rs.nil) rfl ⟨_, (s).ren N (fun _ => 0), rfl, rfl, m0.ren hNb, rfl⟩
 refine E.cF rfl hc (E.skip (X.seqN (E.seq (E.seq (E.reg (L.as Wt.no rfl rfl (L.nil (X.seqN (E.block ?_)))))))))
 obtain ⟨o19, eo19, hm⟩ := bindS hm
 refine E.cut (x := .exit 0) (fun e w => ∃ (s22 : Sig) (u21 : Unit), o19 = .inl u21 ∧ Mv (Up N No) s s22 ∧ e = [] ∧ w = s22.w) ?_ ?_
 ·rintro _ _ ⟨s22, u21, rfl, m0, rfl, rfl⟩
  dsimp only at hm
  refine X.blkE (X.seqN (E.seq (E.reg (L.as Wt.no rfl rfl (L.nil (X.seqN (E.ret ?_)))))))
  obtain rfl := Option.some.inj hm
  exact X.rt (.inl rfl) Tryd.results15 (Rs.tmp rfl Rs.nil) rfl ⟨_, (s22).ren N (fun _ => 0), rfl, rfl, m0.ren hNb, rfl⟩
 intro K23
 refine E.cut (x := .ret) (fun e w => ∃ (s25 : Sig) (u24 : Unit), o19 = .inr (u24) ∧ Mv (Up N No) s s25 ∧ e = [(4, .bool false)] ∧ w = s25.w) ?_ ?_
 ·rintro _ _ ⟨s25, u24, rfl, m0, rfl, rfl⟩
  dsimp only at hm
  refine X.blkR (X.seqR ?_)
  obtain rfl := Option.some.inj hm
  exact X.rt (.inl rfl) Tryd.results15 (Rs.tmp rfl Rs.nil) rfl ⟨_, (s25).ren N (fun _ => 0), rfl, rfl, m0.ren hNb, rfl⟩
 intro K26
 refine E.iter (fun (st19 : Int) (e : List (Nat × Value)) (w : World) => ∃ (s20 : Sig), Mv (Up N No) s s20 ∧ RdL (rK .i64) s20 a1 c1 p0 ∧ RdL (rK .i64) s20 a2 c2 p1 ∧ e = [(5, .int .i64 st19), (0, .slice a1 p0.length c1), (1, .slice a2 p1.length c2)] ∧ w = s20.w) eo19 ⟨s, m0, h1, h2, rfl, rfl⟩ (Sub.rf rfl) ?_
 rintro st19 res19 hm ih19 ho19 _ _ ⟨s20, m0, h1, h2, rfl, rfl⟩
 unfold m_overseerlaw24_same_l1 at hm
 refine E.seq (E.seq (E.reg (L.mv Wt.no rfl rfl (L.mv Wt.no rfl rfl (L.len sl31 Wt.no rfl rfl (L.bi Wt.no rfl rfl rfl rfl (L.nil (X.seqN ?_))))))))
 rcases ifS hm with ⟨hc, hm⟩ | ⟨hc, hm⟩
 ·refine E.cT rfl hc (E.skip (X.seqN (E.seq (E.block (E.seq ?_)))))
  obtain ⟨x30, ex30, hm⟩ := bindS hm
  obtain ⟨x36, ex36, hm⟩ := bindS hm
  refine E.draw [[], [], [0, 1], [0, 1, 2], [], [], [4, 5], [4, 5, 6], [0, 1, 2, 3, 4, 5, 6, 7]] (fun D e sx => Mv No s20 sx ∧ Sub [(5, .int .i64 st19), (0, .slice a1 p0.length c1), (1, .slice a2 p1.length c2)] e ∧ AllP [G D e 0 17 (.slice a1 p0.length c1), G D e 1 18 (.int .i64 st19), D 2 = true → (∃ (b31 : Nat) (o31 : Nat), Env.get e 19 = some (.pointer (some ⟨b31, o31, none⟩)) ∧ Mem sx 0 b31 o31 [.int .i64 x30]), G D e 3 20 (.int .i64 x30), G D e 4 21 (.slice a2 p1.length c2), G D e 5 22 (.int .i64 st19), D 6 = true → (∃ (b37 : Nat) (o37 : Nat), Env.get e 23 = some (.pointer (some ⟨b37, o37, none⟩)) ∧ Mem sx 0 b37 o37 [.int .i64 x36]), G D e 7 24 (.int .i64 x36), G D e 8 25 (.bool (x30 != x36))]) (by kernel_rfl) (by kernel_rfl) (by kernel_rfl) ?_ ?_ ?_
  ·intro sz mz
   exact ⟨mz, (Sub.rf rfl), nofun, nofun, nofun, nofun, nofun, nofun, nofun, nofun, nofun, trivial⟩
  ·refine ⟨?_, ?_, ?_, ?_, ?_, ?_, ?_, ?_, ?_, trivial⟩
   ·rintro D e s27 ⟨im, ib, i⟩ hk hf ha
    have kn := K1 (ib 0 _ rfl)
    exact L.kns _ kn (L.mv Wt.no rfl rfl (L.nil (X.dk kn ⟨im, Sub.fresh ib rfl, i.u 0 (fun _ => rfl)⟩)))
   ·rintro D e s28 ⟨im, ib, i⟩ hk hf ha
    have kn := K1 (ib 5 _ rfl)
    exact L.kns _ kn (L.mv Wt.no rfl rfl (L.nil (X.dk kn ⟨im, Sub.fresh ib rfl, i.u 1 (fun _ => rfl)⟩)))
   ·rintro D e s29 ⟨im, ib, i⟩ hk hf ha
    have h1 := h1.mono (im.le no_No)
    have kn := K2 ((i.p 0) (ha.at 0 rfl)) ((i.p 1) (ha.at 1 rfl))
    refine L.kns _ kn (L.ix (r := (rK .i64)) sl31 h1 Wt.no rfl rfl ex30 rfl fun b31 o31 cc31 me31 rd31 => ?_)
    obtain rfl := rd31
    exact L.nil (X.dk kn ⟨im, Sub.fresh ib rfl, i.u 2 (fun _ => ⟨b31, o31, rfl, me31⟩)⟩)
   ·rintro D e s32 ⟨im, ib, i⟩ hk hf ha
    obtain ⟨b31, o31, g2_, me31⟩ := (i.p 2) (ha.at 2 rfl)
    have kn := K1 g2_
    exact L.kns _ kn (L.ld (j := 0) me31 nag3 Wt.no rfl rfl rfl rfl (L.nil (X.dk kn ⟨im, Sub.fresh ib rfl, i.u 3 (fun _ => rfl)⟩)))
   ·rintro D e s33 ⟨im, ib, i⟩ hk hf ha
    have kn := K1 (ib 1 _ rfl)
    exact L.kns _ kn (L.mv Wt.no rfl rfl (L.nil (X.dk kn ⟨im, Sub.fresh ib rfl, i.u 4 (fun _ => rfl)⟩)))
   ·rintro D e s34 ⟨im, ib, i⟩ hk hf ha
    have kn := K1 (ib 5 _ rfl)
    exact L.kns _ kn (L.mv Wt.no rfl rfl (L.nil (X.dk kn ⟨im, Sub.fresh ib rfl, i.u 5 (fun _ => rfl)⟩)))
   ·rintro D e s35 ⟨im, ib, i⟩ hk hf ha
    have h2 := h2.mono (im.le no_No)
    have kn := K2 ((i.p 4) (ha.at 4 rfl)) ((i.p 5) (ha.at 5 rfl))
    refine L.kns _ kn (L.ix (r := (rK .i64)) sl31 h2 Wt.no rfl rfl ex36 rfl fun b37 o37 cc37 me37 rd37 => ?_)
    obtain rfl := rd37
    exact L.nil (X.dk kn ⟨im, Sub.fresh ib rfl, i.u 6 (fun _ => ⟨b37, o37, rfl, me37⟩)⟩)
   ·rintro D e s38 ⟨im, ib, i⟩ hk hf ha
    obtain ⟨b37, o37, g6_, me37⟩ := (i.p 6) (ha.at 6 rfl)
    have kn := K1 g6_
    exact L.kns _ kn (L.ld (j := 0) me37 nag3 Wt.no rfl rfl rfl rfl (L.nil (X.dk kn ⟨im, Sub.fresh ib rfl, i.u 7 (fun _ => rfl)⟩)))
   rintro D e s39 ⟨im, ib, i⟩ hk hf ha
   have kn := K2 ((i.p 3) (ha.at 3 rfl)) ((i.p 7) (ha.at 7 rfl))
   exact L.kns _ kn (L.bi Wt.no rfl rfl rfl rfl (L.nil (X.dk kn ⟨im, Sub.fresh ib rfl, i.u 8 (fun _ => rfl)⟩)))
  rintro D e s40 hD ⟨im, ib, i⟩
  have g8_ := (i.p 8) (hD 8 rfl)
  have h1 := h1.mono (im.le no_No)
  have h2 := h2.mono (im.le no_No)
  have m0 := m0.trans im.no
  refine X.sub (e' := [(25, .bool (x30 != x36)), (5, .int .i64 st19), (0, .slice a1 p0.length c1), (1, .slice a2 p1.length c2)]) ?_ (Sub.cons g8_ (Sub.cons (ib 5 _ rfl) (Sub.cons (ib 0 _ rfl) (Sub.cons (ib 1 _ rfl) Sub.nil))))
  refine X.seqN ?_
  rcases ifS hm with ⟨hc, hm⟩ | ⟨hc, hm⟩
  ·refine E.cT rfl hc (E.seq (E.reg (L.as Wt.no rfl rfl (L.nil (X.seqN (E.ret (X.blkR (X.seqR (X.seqR ?_)))))))))
   have hx := ho19 _ (Option.some.inj hm).symm
   exact X.sub (K26 _ _ ⟨s40, (), hx.symm, m0, rfl, rfl⟩) (Sub.rf rfl)
  exact E.cF rfl hc (E.skip (X.blkN (X.seqN (E.reg (L.mv Wt.no rfl rfl (L.bi Wt.no rfl rfl rfl rfl (L.as Wt.no rfl rfl (L.nil (X.sub (ih19 _ (Option.some.inj hm).symm _ _ ⟨s40, m0, h1, h2, rfl, rfl⟩) (Sub.rf rfl))))))))))
 refine E.cF rfl hc (E.exit (X.seqX (X.seqX ?_)))
 have hx := ho19 _ (Option.some.inj hm).symm
 exact X.sub (K23 _ _ ⟨s20, (), hx.symm, m0, rfl, rfl⟩) Sub.nil

theorem cf15 : Cf Tryd.prog 15 := Cf.mk Tryd.func15 (by kernel_rfl) (by kernel_rfl)
theorem cf17 : Cf Tryd.prog 17 := Cf.mk Tryd.func17 (by kernel_rfl) (by kernel_rfl)
theorem cf18 : Cf Tryd.prog 18 := Cf.mk Tryd.func18 (by kernel_rfl) (by kernel_rfl)
theorem cf41 : Cf Tryd.prog 41 := Cf.mk Tryd.func41 (by kernel_rfl) (by kernel_rfl)
theorem cf42 : Cf Tryd.prog 42 := Cf.mk Tryd.func42 (by kernel_rfl) (by kernel_rfl)
/-- What overseerlaw24.known computes. -/
noncomputable def m_overseerlaw24_known : Option Bool :=
  (m_overseerlaw24_example).bind fun r1 =>
  (m_blocking_Kinds r1).bind fun r7 =>
  (m_overseerlaw24_example).bind fun r11 =>
  (m_blocking_Nonblocking ([r11] : List (List Int × Int × List Int × (List (Int × Int × Int))))).bind fun r20 =>
  (m_overseerlaw24_waits 1).bind fun r24 =>
  (m_blocking_Nonblocking r24).bind fun r28 =>
  (m_overseerlaw24_waits 1).bind fun r32 =>
  (m_blocking_Culprits r32).bind fun r36 =>
  (m_overseerlaw24_waits 0).bind fun r40 =>
  (m_blocking_Nonblocking r40).bind fun r44 =>
  (if (r7.2 == 0) then
    (m_overseerlaw24_same r7.1 ([2, 1, 4, 4, 3] : List Int)).bind fun r89 =>
    some r89
  else
    some false).bind fun b48 =>
  (if ((b48 && (r20.2.2 == 0)) && (!r20.2.1)) then
    (m_overseerlaw24_same r20.1 ([1] : List Int)).bind fun r80 =>
    some r80
  else
    some false).bind fun b53 =>
  (if (((b53 && (r28.2.2 == 0)) && (!r28.2.1)) && (r36.2 == 0)) then
    (m_overseerlaw24_same r36.1 ([0, 1] : List Int)).bind fun r70 =>
    some r70
  else
    some false).bind fun b59 =>
  some ((b59 && (r44.2.2 == 0)) && r44.2.1)
set_option maxRecDepth 100000 in
set_option maxHeartbeats 8000000 in
theorem m_overseerlaw24_known_c {s : Sig} {r : Bool} (hm : m_overseerlaw24_known = some r) :
    Calls Tryd.prog 25 #[] s.w (RetS No s fun v s' => v = .bool r) := by
 unfold m_overseerlaw24_known at hm
 obtain ⟨N, hN, hNb⟩ := s.fresh
 have m0 : Mv (Up N No) s s := Mv.refl _ _
 refine E.entry Tryd.func25 rfl Tryd.ntmps25 rfl rfl (E.seq (E.reg (L.as Wt.no rfl rfl (L.nil (X.seqN (E.seq (E.reg ?_)))))))
 obtain ⟨r1, er1, hm⟩ := bindS hm
 refine L.ca cf41 rfl rfl Wt.no rfl (m_overseerlaw24_example_c (s := s) er1) rfl ?_
 rintro _ s2 m3 ⟨a4, c4, a5, c5, a6, c6, rfl, h4, h5, h6⟩
 replace m0 := m0.trans m3.no
 obtain ⟨r7, er7, hm⟩ := bindS hm
 refine L.ca cf18 rfl rfl Wt.no rfl (m_blocking_Kinds_c (s := s2) (p0 := r1) (u0 := 0) h4 h5 h6 er7) rfl ?_
 rintro _ s8 m9 ⟨a10, c10, rfl, h10⟩
 replace h10 := h10.p
 replace m0 := m0.trans m9.no
 refine L.mv Wt.no rfl rfl (L.ex Wt.no rfl rfl rfl (L.ex Wt.no rfl rfl rfl (L.as Wt.no rfl rfl (L.as Wt.no rfl rfl (L.nil (X.seqN (E.seq (E.reg ?_))))))))
 obtain ⟨r11, er11, hm⟩ := bindS hm
 refine L.ca cf41 rfl rfl Wt.no rfl (m_overseerlaw24_example_c (s := s8) er11) rfl ?_
 rintro _ s12 m13 ⟨a14, c14, a15, c15, a16, c16, rfl, h14, h15, h16⟩
 replace m0 := m0.trans m13.no
 replace h10 := h10.mono (m13.le no_No)
 refine L.bsE (k := 1) (cs := [.slice a14 r11.1.length c14, .int .i64 r11.2.1, .slice a15 r11.2.2.1.length c15, .slice a16 r11.2.2.2.length c16]) 0 bs29 (Nat.le_of_ble_eq_true rfl) Wt.no rfl rfl rfl rfl fun b17 s18 m19 bx17 => ?_
 replace m0 := m0.trans m19.no
 replace h10 := h10.mono (m19.le no_No)
 replace h14 := h14.mono (m19.le no_No)
 replace h15 := h15.mono (m19.le no_No)
 replace h16 := h16.mono (m19.le no_No)
 have h17 := Bx.rdL (r := (rP (rL (rK .i64)) (rP (rK .i64) (rP (rL (rK .i64)) (rL (rP (rK .i64) (rP (rK .i64) (rK .i64)))))))) (xs := ([r11] : List (List Int × Int × List Int × (List (Int × Int × Int))))) bx17 ⟨[.slice a14 r11.1.length c14, .int .i64 r11.2.1, .slice a15 r11.2.2.1.length c15, .slice a16 r11.2.2.2.length c16], _, rfl, ⟨[.slice a14 r11.1.length c14], [.int .i64 r11.2.1, .slice a15 r11.2.2.1.length c15, .slice a16 r11.2.2.2.length c16], rfl, ⟨_, _, rfl, h14⟩, ⟨[.int .i64 r11.2.1], [.slice a15 r11.2.2.1.length c15, .slice a16 r11.2.2.2.length c16], rfl, rfl, ⟨[.slice a15 r11.2.2.1.length c15], [.slice a16 r11.2.2.2.length c16], rfl, ⟨_, _, rfl, h15⟩, ⟨_, _, rfl, h16⟩⟩⟩⟩, rfl⟩ (Nat.le_of_ble_eq_true rfl)
 obtain ⟨r20, er20, hm⟩ := bindS hm
 refine L.ca cf11 rfl rfl Wt.no rfl (m_blocking_Nonblocking_c (s := s18) (p0 := ([r11] : List (List Int × Int × List Int × (List (Int × Int × Int))))) h17 er20) rfl ?_
 rintro _ s21 m22 ⟨a23, c23, rfl, h23⟩
 replace m0 := m0.trans m22.no
 replace h10 := h10.mono (m22.le no_No)
 refine L.mv Wt.no rfl rfl (L.ex Wt.no rfl rfl rfl (L.ex Wt.no rfl rfl rfl (L.ex Wt.no rfl rfl rfl (L.as Wt.no rfl rfl (L.as Wt.no rfl rfl (L.as Wt.no rfl rfl (L.nil (X.seqN (E.seq (E.reg ?_))))))))))
 obtain ⟨r24, er24, hm⟩ := bindS hm
 refine L.ca cf42 rfl rfl Wt.no rfl (m_overseerlaw24_waits_c (s := s21) (p0 := 1) er24) rfl ?_
 rintro _ s25 m26 ⟨a27, c27, rfl, h27⟩
 replace m0 := m0.trans m26.no
 replace h10 := h10.mono (m26.le no_No)
 replace h23 := h23.mono (m26.le no_No)
 obtain ⟨r28, er28, hm⟩ := bindS hm
 refine L.ca cf11 rfl rfl Wt.no rfl (m_blocking_Nonblocking_c (s := s25) (p0 := r24) h27 er28) rfl ?_
 rintro _ s29 m30 ⟨a31, c31, rfl, h31⟩
 replace m0 := m0.trans m30.no
 replace h10 := h10.mono (m30.le no_No)
 replace h23 := h23.mono (m30.le no_No)
 refine L.mv Wt.no rfl rfl (L.ex Wt.no rfl rfl rfl (L.ex Wt.no rfl rfl rfl (L.ex Wt.no rfl rfl rfl (L.as Wt.no rfl rfl (L.as Wt.no rfl rfl (L.as Wt.no rfl rfl (L.nil (X.seqN (E.seq (E.reg ?_))))))))))
 obtain ⟨r32, er32, hm⟩ := bindS hm
 refine L.ca cf42 rfl rfl Wt.no rfl (m_overseerlaw24_waits_c (s := s29) (p0 := 1) er32) rfl ?_
 rintro _ s33 m34 ⟨a35, c35, rfl, h35⟩
 replace m0 := m0.trans m34.no
 replace h10 := h10.mono (m34.le no_No)
 replace h23 := h23.mono (m34.le no_No)
 obtain ⟨r36, er36, hm⟩ := bindS hm
 refine L.ca cf17 rfl rfl Wt.no rfl (m_blocking_Culprits_c (s := s33) (p0 := r32) (u0 := 0) h35 er36) rfl ?_
 rintro _ s37 m38 ⟨a39, c39, rfl, h39⟩
 replace h39 := h39.p
 replace m0 := m0.trans m38.no
 replace h10 := h10.mono (m38.le no_No)
 replace h23 := h23.mono (m38.le no_No)
 refine L.mv Wt.no rfl rfl (L.ex Wt.no rfl rfl rfl (L.ex Wt.no rfl rfl rfl (L.as Wt.no rfl rfl (L.as Wt.no rfl rfl (L.nil (X.seqN (E.seq (E.reg ?_))))))))
 obtain ⟨r40, er40, hm⟩ := bindS hm
 refine L.ca cf42 rfl rfl Wt.no rfl (m_overseerlaw24_waits_c (s := s37) (p0 := 0) er40) rfl ?_
 rintro _ s41 m42 ⟨a43, c43, rfl, h43⟩
 replace m0 := m0.trans m42.no
 replace h10 := h10.mono (m42.le no_No)
 replace h23 := h23.mono (m42.le no_No)
 replace h39 := h39.mono (m42.le no_No)
 obtain ⟨r44, er44, hm⟩ := bindS hm
 refine L.ca cf11 rfl rfl Wt.no rfl (m_blocking_Nonblocking_c (s := s41) (p0 := r40) h43 er44) rfl ?_
 rintro _ s45 m46 ⟨a47, c47, rfl, h47⟩
 replace m0 := m0.trans m46.no
 replace h10 := h10.mono (m46.le no_No)
 replace h23 := h23.mono (m46.le no_No)
 replace h39 := h39.mono (m46.le no_No)
 refine L.mv Wt.no rfl rfl (L.ex Wt.no rfl rfl rfl (L.ex Wt.no rfl rfl rfl (L.ex Wt.no rfl rfl rfl (L.as Wt.no rfl rfl (L.as Wt.no rfl rfl (L.as Wt.no rfl rfl (L.nil (X.seqN (E.seq (E.reg (L.mv Wt.no rfl rfl (L.bi Wt.no rfl rfl rfl rfl (L.mv Wt.no rfl rfl ?_)))))))))))))
 obtain ⟨b48, eb48, hm⟩ := bindS hm
 refine L.cut 4 (fun e w => ∃ (s50 : Sig) (v49 : Bool), b48 = v49 ∧ Mv (Up N No) s s50 ∧ RdL (rK .i64) s50 a39 c39 r36.1 ∧ RdL (rK .i64) s50 a23 c23 r20.1 ∧ e = (49, .bool v49) :: [(13, .int .i64 r44.2.2), (12, .bool r44.2.1), (10, .int .i64 r36.2), (9, .slice a39 r36.1.length c39), (8, .int .i64 r28.2.2), (7, .bool r28.2.1), (5, .int .i64 r20.2.2), (4, .bool r20.2.1), (3, .slice a23 r20.1.length c23)] ∧ w = s50.w) ?_ ?_
 ·rintro _ _ ⟨s50, v49, rfl, m0, h39, h23, rfl, rfl⟩
  refine L.mv Wt.no rfl rfl (L.cut 3 (fun e w => ∃ (v51 : Bool), (b48 && (r20.2.2 == 0)) = v51 ∧ e = (53, .bool v51) :: [(13, .int .i64 r44.2.2), (12, .bool r44.2.1), (10, .int .i64 r36.2), (9, .slice a39 r36.1.length c39), (8, .int .i64 r28.2.2), (7, .bool r28.2.1), (4, .bool r20.2.1), (3, .slice a23 r20.1.length c23)] ∧ w = s50.w) ?_ ?_)
  ·rintro _ _ ⟨v51, rfl, rfl, rfl⟩
   refine L.mv Wt.no rfl rfl (L.cut 3 (fun e w => ∃ (v52 : Bool), ((b48 && (r20.2.2 == 0)) && (!r20.2.1)) = v52 ∧ e = (57, .bool v52) :: [(13, .int .i64 r44.2.2), (12, .bool r44.2.1), (10, .int .i64 r36.2), (9, .slice a39 r36.1.length c39), (8, .int .i64 r28.2.2), (7, .bool r28.2.1), (3, .slice a23 r20.1.length c23)] ∧ w = s50.w) ?_ ?_)
   ·rintro _ _ ⟨v52, rfl, rfl, rfl⟩
    refine L.mv Wt.no rfl rfl ?_
    obtain ⟨b53, eb53, hm⟩ := bindS hm
    refine L.cut 4 (fun e w => ∃ (s55 : Sig) (v54 : Bool), b53 = v54 ∧ Mv (Up N No) s s55 ∧ RdL (rK .i64) s55 a39 c39 r36.1 ∧ e = (62, .bool v54) :: [(13, .int .i64 r44.2.2), (12, .bool r44.2.1), (10, .int .i64 r36.2), (9, .slice a39 r36.1.length c39), (8, .int .i64 r28.2.2), (7, .bool r28.2.1)] ∧ w = s55.w) ?_ ?_
    ·rintro _ _ ⟨s55, v54, rfl, m0, h39, rfl, rfl⟩
     refine L.mv Wt.no rfl rfl (L.cut 3 (fun e w => ∃ (v56 : Bool), (b53 && (r28.2.2 == 0)) = v56 ∧ e = (66, .bool v56) :: [(13, .int .i64 r44.2.2), (12, .bool r44.2.1), (10, .int .i64 r36.2), (9, .slice a39 r36.1.length c39), (7, .bool r28.2.1)] ∧ w = s55.w) ?_ ?_)
     ·rintro _ _ ⟨v56, rfl, rfl, rfl⟩
      refine L.mv Wt.no rfl rfl (L.cut 3 (fun e w => ∃ (v57 : Bool), ((b53 && (r28.2.2 == 0)) && (!r28.2.1)) = v57 ∧ e = (70, .bool v57) :: [(13, .int .i64 r44.2.2), (12, .bool r44.2.1), (10, .int .i64 r36.2), (9, .slice a39 r36.1.length c39)] ∧ w = s55.w) ?_ ?_)
      ·rintro _ _ ⟨v57, rfl, rfl, rfl⟩
       refine L.mv Wt.no rfl rfl (L.cut 3 (fun e w => ∃ (v58 : Bool), (((b53 && (r28.2.2 == 0)) && (!r28.2.1)) && (r36.2 == 0)) = v58 ∧ e = (74, .bool v58) :: [(13, .int .i64 r44.2.2), (12, .bool r44.2.1), (9, .slice a39 r36.1.length c39)] ∧ w = s55.w) ?_ ?_)
       ·rintro _ _ ⟨v58, rfl, rfl, rfl⟩
        refine L.mv Wt.no rfl rfl ?_
        obtain ⟨b59, eb59, hm⟩ := bindS hm
        refine L.cut 4 (fun e w => ∃ (s61 : Sig) (v60 : Bool), b59 = v60 ∧ Mv (Up N No) s s61 ∧ e = (79, .bool v60) :: [(13, .int .i64 r44.2.2), (12, .bool r44.2.1)] ∧ w = s61.w) ?_ ?_
        ·rintro _ _ ⟨s61, v60, rfl, m0, rfl, rfl⟩
         refine L.mv Wt.no rfl rfl (L.cut 3 (fun e w => ∃ (v62 : Bool), (b59 && (r44.2.2 == 0)) = v62 ∧ e = (83, .bool v62) :: [(12, .bool r44.2.1)] ∧ w = s61.w) ?_ ?_)
         ·rintro _ _ ⟨v62, rfl, rfl, rfl⟩
          refine L.mv Wt.no rfl rfl (L.cut 2 (fun e w => ∃ (v63 : Bool), ((b59 && (r44.2.2 == 0)) && r44.2.1) = v63 ∧ e = (86, .bool v63) :: [] ∧ w = s61.w) ?_ ?_)
          ·rintro _ _ ⟨v63, rfl, rfl, rfl⟩
           refine L.as Wt.no rfl rfl (L.nil (X.seqN (E.ret ?_)))
           obtain rfl := Option.some.inj hm
           exact X.rt (.inl rfl) Tryd.results25 (Rs.tmp rfl Rs.nil) rfl ⟨_, (s61).ren N (fun _ => 0), rfl, rfl, m0.ren hNb, rfl⟩
          intro J64
          rcases Bool.eq_false_or_eq_true (b59 && (r44.2.2 == 0)) with hc | hc
          ·exact L.know (d := 84) rfl hc (L.mv (Wt.mk rfl rfl) rfl rfl (L.pkT Wt.no rfl rfl rfl rfl (L.sb (J64 _ _ ⟨r44.2.1, (andT hc).symm, rfl, rfl⟩) rfl)))
          exact L.know (d := 84) rfl hc (L.skip rfl rfl rfl rfl (L.pkF Wt.no rfl rfl rfl rfl (L.sb (J64 _ _ ⟨false, (andF hc).symm, rfl, rfl⟩) rfl)))
         intro J65
         rcases Bool.eq_false_or_eq_true b59 with hc | hc
         ·exact L.know (d := 80) rfl hc (L.mv (Wt.mk rfl rfl) rfl rfl (L.bi (Wt.mk rfl rfl) rfl rfl rfl rfl (L.pkT Wt.no rfl rfl rfl rfl (L.sb (J65 _ _ ⟨(r44.2.2 == 0), (andT hc).symm, rfl, rfl⟩) rfl))))
         exact L.know (d := 80) rfl hc (L.skip rfl rfl rfl rfl (L.skip rfl rfl rfl rfl (L.pkF Wt.no rfl rfl rfl rfl (L.sb (J65 _ _ ⟨false, (andF hc).symm, rfl, rfl⟩) rfl))))
        intro J66
        rcases ifS eb59 with ⟨hc, hm⟩ | ⟨hc, hm⟩
        ·refine L.know (d := 75) rfl hc (L.mv (Wt.mk rfl rfl) rfl rfl (L.bsE (k := 2) (cs := [.int .i64 0, .int .i64 1]) 0 bs31 (Nat.le_of_ble_eq_true rfl) (Wt.mk rfl rfl) rfl rfl rfl rfl fun b67 s68 m69 bx67 => ?_))
         replace m0 := m0.trans m69.no
         replace h39 := h39.mono (m69.le no_No)
         have h67 := Bx.rdL (r := (rK .i64)) (xs := ([0, 1] : List Int)) bx67 ⟨[.int .i64 0], _, rfl, rfl, ⟨[.int .i64 1], _, rfl, rfl, rfl⟩⟩ (Nat.le_of_ble_eq_true rfl)
         obtain ⟨r70, er70, hm⟩ := bindS hm
         refine L.ca cf15 rfl rfl (Wt.mk rfl rfl) rfl (m_overseerlaw24_same_c (s := s68) (p0 := r36.1) (p1 := ([0, 1] : List Int)) h39 h67 er70) rfl ?_
         rintro _ s71 m72 rfl
         replace m0 := m0.trans m72.no
         exact L.pkT Wt.no rfl rfl rfl rfl (L.sb (J66 _ _ ⟨s71, r70, (Option.some.inj hm).symm, m0, rfl, rfl⟩) rfl)
        exact L.know (d := 75) rfl hc (L.skip rfl rfl rfl rfl (L.skip rfl rfl rfl rfl (L.skip rfl rfl rfl rfl (L.pkF Wt.no rfl rfl rfl rfl (L.sb (J66 _ _ ⟨s55, false, (Option.some.inj hm).symm, m0, rfl, rfl⟩) rfl)))))
       intro J73
       rcases Bool.eq_false_or_eq_true ((b53 && (r28.2.2 == 0)) && (!r28.2.1)) with hc | hc
       ·exact L.know (d := 71) rfl hc (L.mv (Wt.mk rfl rfl) rfl rfl (L.bi (Wt.mk rfl rfl) rfl rfl rfl rfl (L.pkT Wt.no rfl rfl rfl rfl (L.sb (J73 _ _ ⟨(r36.2 == 0), (andT hc).symm, rfl, rfl⟩) rfl))))
       exact L.know (d := 71) rfl hc (L.skip rfl rfl rfl rfl (L.skip rfl rfl rfl rfl (L.pkF Wt.no rfl rfl rfl rfl (L.sb (J73 _ _ ⟨false, (andF hc).symm, rfl, rfl⟩) rfl))))
      intro J74
      rcases Bool.eq_false_or_eq_true (b53 && (r28.2.2 == 0)) with hc | hc
      ·exact L.know (d := 67) rfl hc (L.mv (Wt.mk rfl rfl) rfl rfl (L.not (Wt.mk rfl rfl) rfl rfl (L.pkT Wt.no rfl rfl rfl rfl (L.sb (J74 _ _ ⟨(!r28.2.1), (andT hc).symm, rfl, rfl⟩) rfl))))
      exact L.know (d := 67) rfl hc (L.skip rfl rfl rfl rfl (L.skip rfl rfl rfl rfl (L.pkF Wt.no rfl rfl rfl rfl (L.sb (J74 _ _ ⟨false, (andF hc).symm, rfl, rfl⟩) rfl))))
     intro J75
     rcases Bool.eq_false_or_eq_true b53 with hc | hc
     ·exact L.know (d := 63) rfl hc (L.mv (Wt.mk rfl rfl) rfl rfl (L.bi (Wt.mk rfl rfl) rfl rfl rfl rfl (L.pkT Wt.no rfl rfl rfl rfl (L.sb (J75 _ _ ⟨(r28.2.2 == 0), (andT hc).symm, rfl, rfl⟩) rfl))))
     exact L.know (d := 63) rfl hc (L.skip rfl rfl rfl rfl (L.skip rfl rfl rfl rfl (L.pkF Wt.no rfl rfl rfl rfl (L.sb (J75 _ _ ⟨false, (andF hc).symm, rfl, rfl⟩) rfl))))
    intro J76
    rcases ifS eb53 with ⟨hc, hm⟩ | ⟨hc, hm⟩
    ·refine L.know (d := 58) rfl hc (L.mv (Wt.mk rfl rfl) rfl rfl (L.bsE (k := 1) (cs := [.int .i64 1]) 0 bs31 (Nat.le_of_ble_eq_true rfl) (Wt.mk rfl rfl) rfl rfl rfl rfl fun b77 s78 m79 bx77 => ?_))
     replace m0 := m0.trans m79.no
     replace h39 := h39.mono (m79.le no_No)
     replace h23 := h23.mono (m79.le no_No)
     have h77 := Bx.rdL (r := (rK .i64)) (xs := ([1] : List Int)) bx77 ⟨[.int .i64 1], _, rfl, rfl, rfl⟩ (Nat.le_of_ble_eq_true rfl)
     obtain ⟨r80, er80, hm⟩ := bindS hm
     refine L.ca cf15 rfl rfl (Wt.mk rfl rfl) rfl (m_overseerlaw24_same_c (s := s78) (p0 := r20.1) (p1 := ([1] : List Int)) h23 h77 er80) rfl ?_
     rintro _ s81 m82 rfl
     replace m0 := m0.trans m82.no
     replace h39 := h39.mono (m82.le no_No)
     exact L.pkT Wt.no rfl rfl rfl rfl (L.sb (J76 _ _ ⟨s81, r80, (Option.some.inj hm).symm, m0, h39, rfl, rfl⟩) rfl)
    exact L.know (d := 58) rfl hc (L.skip rfl rfl rfl rfl (L.skip rfl rfl rfl rfl (L.skip rfl rfl rfl rfl (L.pkF Wt.no rfl rfl rfl rfl (L.sb (J76 _ _ ⟨s50, false, (Option.some.inj hm).symm, m0, h39, rfl, rfl⟩) rfl)))))
   intro J83
   rcases Bool.eq_false_or_eq_true (b48 && (r20.2.2 == 0)) with hc | hc
   ·exact L.know (d := 54) rfl hc (L.mv (Wt.mk rfl rfl) rfl rfl (L.not (Wt.mk rfl rfl) rfl rfl (L.pkT Wt.no rfl rfl rfl rfl (L.sb (J83 _ _ ⟨(!r20.2.1), (andT hc).symm, rfl, rfl⟩) rfl))))
   exact L.know (d := 54) rfl hc (L.skip rfl rfl rfl rfl (L.skip rfl rfl rfl rfl (L.pkF Wt.no rfl rfl rfl rfl (L.sb (J83 _ _ ⟨false, (andF hc).symm, rfl, rfl⟩) rfl))))
  intro J84
  rcases Bool.eq_false_or_eq_true b48 with hc | hc
  ·exact L.know (d := 50) rfl hc (L.mv (Wt.mk rfl rfl) rfl rfl (L.bi (Wt.mk rfl rfl) rfl rfl rfl rfl (L.pkT Wt.no rfl rfl rfl rfl (L.sb (J84 _ _ ⟨(r20.2.2 == 0), (andT hc).symm, rfl, rfl⟩) rfl))))
  exact L.know (d := 50) rfl hc (L.skip rfl rfl rfl rfl (L.skip rfl rfl rfl rfl (L.pkF Wt.no rfl rfl rfl rfl (L.sb (J84 _ _ ⟨false, (andF hc).symm, rfl, rfl⟩) rfl))))
 intro J85
 rcases ifS eb48 with ⟨hc, hm⟩ | ⟨hc, hm⟩
 ·refine L.know (d := 45) rfl hc (L.mv (Wt.mk rfl rfl) rfl rfl (L.bsE (k := 5) (cs := [.int .i64 2, .int .i64 1, .int .i64 4, .int .i64 4, .int .i64 3]) 0 bs31 (Nat.le_of_ble_eq_true rfl) (Wt.mk rfl rfl) rfl rfl rfl rfl fun b86 s87 m88 bx86 => ?_))
  replace m0 := m0.trans m88.no
  replace h23 := h23.mono (m88.le no_No)
  replace h39 := h39.mono (m88.le no_No)
  replace h10 := h10.mono (m88.le no_No)
  have h86 := Bx.rdL (r := (rK .i64)) (xs := ([2, 1, 4, 4, 3] : List Int)) bx86 ⟨[.int .i64 2], _, rfl, rfl, ⟨[.int .i64 1], _, rfl, rfl, ⟨[.int .i64 4], _, rfl, rfl, ⟨[.int .i64 4], _, rfl, rfl, ⟨[.int .i64 3], _, rfl, rfl, rfl⟩⟩⟩⟩⟩ (Nat.le_of_ble_eq_true rfl)
  obtain ⟨r89, er89, hm⟩ := bindS hm
  refine L.ca cf15 rfl rfl (Wt.mk rfl rfl) rfl (m_overseerlaw24_same_c (s := s87) (p0 := r7.1) (p1 := ([2, 1, 4, 4, 3] : List Int)) h10 h86 er89) rfl ?_
  rintro _ s90 m91 rfl
  replace m0 := m0.trans m91.no
  replace h23 := h23.mono (m91.le no_No)
  replace h39 := h39.mono (m91.le no_No)
  exact L.pkT Wt.no rfl rfl rfl rfl (L.sb (J85 _ _ ⟨s90, r89, (Option.some.inj hm).symm, m0, h39, h23, rfl, rfl⟩) rfl)
 exact L.know (d := 45) rfl hc (L.skip rfl rfl rfl rfl (L.skip rfl rfl rfl rfl (L.skip rfl rfl rfl rfl (L.pkF Wt.no rfl rfl rfl rfl (L.sb (J85 _ _ ⟨s45, false, (Option.some.inj hm).symm, m0, h39, h23, rfl, rfl⟩) rfl)))))

/-- What overseerlaw04.example computes. -/
noncomputable def m_overseerlaw04_example : Option (List Int × Int × List Int × (List (Int × Int × Int))) :=
  some (([0, 1] : List Int), 4, ([1] : List Int), ([(0, 0, 1), (0, 1, 2), (1, 0, 1), (2, 0, 3), (3, 1, 2)] : List (Int × Int × Int)))
set_option maxRecDepth 100000 in
set_option maxHeartbeats 8000000 in
theorem m_overseerlaw04_example_c {s : Sig} {r : (List Int × Int × List Int × (List (Int × Int × Int)))} (hm : m_overseerlaw04_example = some r) :
    Calls Tryd.prog 72 #[] s.w (RetS No s fun v s' => ∃ (a1 : Option Addr) (c1 : Nat) (a2 : Option Addr) (c2 : Nat) (a3 : Option Addr) (c3 : Nat), v = .agg #[.slice a1 r.1.length c1, .int .i64 r.2.1, .slice a2 r.2.2.1.length c2, .slice a3 r.2.2.2.length c3] ∧ RdL (rK .i64) s' a1 c1 r.1 ∧ RdL (rK .i64) s' a2 c2 r.2.2.1 ∧ RdL (rP (rK .i64) (rP (rK .i64) (rK .i64))) s' a3 c3 r.2.2.2) := by
 unfold m_overseerlaw04_example at hm
 obtain ⟨N, hN, hNb⟩ := s.fresh
 have m0 : Mv (Up N No) s s := Mv.refl _ _
 refine E.entry Tryd.func72 rfl Tryd.ntmps72 rfl rfl (E.seq (E.reg (L.al (N + 0) zz34 rfl Wt.no rfl fun b4 s5 m6 bx4 => ?_)))
 replace m0 := m0.trans m6.no
 refine L.nil (X.seqN (E.seq (E.reg (L.bsE (k := 2) (cs := [.int .i64 0, .int .i64 1]) 0 bs31 (Nat.le_of_ble_eq_true rfl) Wt.no rfl rfl rfl rfl fun b7 s8 m9 bx7 => ?_))))
 replace m0 := m0.trans m9.no
 replace bx4 := bx4.mv m9 no_No
 have h7 := Bx.rdL (r := (rK .i64)) (xs := ([0, 1] : List Int)) bx7 ⟨[.int .i64 0], _, rfl, rfl, ⟨[.int .i64 1], _, rfl, rfl, rfl⟩⟩ (Nat.le_of_ble_eq_true rfl)
 refine L.bsE (k := 1) (cs := [.int .i64 1]) 0 bs31 (Nat.le_of_ble_eq_true rfl) Wt.no rfl rfl rfl rfl fun b10 s11 m12 bx10 => ?_
 replace m0 := m0.trans m12.no
 replace h7 := h7.mono (m12.le no_No)
 replace bx4 := bx4.mv m12 no_No
 have h10 := Bx.rdL (r := (rK .i64)) (xs := ([1] : List Int)) bx10 ⟨[.int .i64 1], _, rfl, rfl, rfl⟩ (Nat.le_of_ble_eq_true rfl)
 refine L.bu (cs := [.int .i64 0, .int .i64 0, .int .i64 1]) pl58 Wt.no rfl rfl rfl (L.bu (cs := [.int .i64 0, .int .i64 1, .int .i64 2]) pl58 Wt.no rfl rfl rfl (L.bu (cs := [.int .i64 1, .int .i64 0, .int .i64 1]) pl58 Wt.no rfl rfl rfl (L.bu (cs := [.int .i64 2, .int .i64 0, .int .i64 3]) pl58 Wt.no rfl rfl rfl (L.bu (cs := [.int .i64 3, .int .i64 1, .int .i64 2]) pl58 Wt.no rfl rfl rfl (L.bsE (k := 5) (cs := [.int .i64 0, .int .i64 0, .int .i64 1, .int .i64 0, .int .i64 1, .int .i64 2, .int .i64 1, .int .i64 0, .int .i64 1, .int .i64 2, .int .i64 0, .int .i64 3, .int .i64 3, .int .i64 1, .int .i64 2]) 0 bs32 (Nat.le_of_ble_eq_true rfl) Wt.no rfl rfl rfl rfl fun b13 s14 m15 bx13 => ?_)))))
 replace m0 := m0.trans m15.no
 replace h7 := h7.mono (m15.le no_No)
 replace h10 := h10.mono (m15.le no_No)
 replace bx4 := bx4.mv m15 no_No
 have h13 := Bx.rdL (r := (rP (rK .i64) (rP (rK .i64) (rK .i64)))) (xs := ([(0, 0, 1), (0, 1, 2), (1, 0, 1), (2, 0, 3), (3, 1, 2)] : List (Int × Int × Int))) bx13 ⟨[.int .i64 0, .int .i64 0, .int .i64 1], _, rfl, ⟨[.int .i64 0], [.int .i64 0, .int .i64 1], rfl, rfl, ⟨[.int .i64 0], [.int .i64 1], rfl, rfl, rfl⟩⟩, ⟨[.int .i64 0, .int .i64 1, .int .i64 2], _, rfl, ⟨[.int .i64 0], [.int .i64 1, .int .i64 2], rfl, rfl, ⟨[.int .i64 1], [.int .i64 2], rfl, rfl, rfl⟩⟩, ⟨[.int .i64 1, .int .i64 0, .int .i64 1], _, rfl, ⟨[.int .i64 1], [.int .i64 0, .int .i64 1], rfl, rfl, ⟨[.int .i64 0], [.int .i64 1], rfl, rfl, rfl⟩⟩, ⟨[.int .i64 2, .int .i64 0, .int .i64 3], _, rfl, ⟨[.int .i64 2], [.int .i64 0, .int .i64 3], rfl, rfl, ⟨[.int .i64 0], [.int .i64 3], rfl, rfl, rfl⟩⟩, ⟨[.int .i64 3, .int .i64 1, .int .i64 2], _, rfl, ⟨[.int .i64 3], [.int .i64 1, .int .i64 2], rfl, rfl, ⟨[.int .i64 1], [.int .i64 2], rfl, rfl, rfl⟩⟩, rfl⟩⟩⟩⟩⟩ (Nat.le_of_ble_eq_true rfl)
 refine L.bu (cs := [.slice (some ⟨b7, 0, none⟩) ([0, 1] : List Int).length (([0, 1] : List Int).length), .int .i64 4, .slice (some ⟨b10, 0, none⟩) ([1] : List Int).length (([1] : List Int).length), .slice (some ⟨b13, 0, none⟩) ([(0, 0, 1), (0, 1, 2), (1, 0, 1), (2, 0, 3), (3, 1, 2)] : List (Int × Int × Int)).length (([(0, 0, 1), (0, 1, 2), (1, 0, 1), (2, 0, 3), (3, 1, 2)] : List (Int × Int × Int)).length)]) pl34 Wt.no rfl rfl rfl (L.st (c := [.slice (some ⟨b7, 0, none⟩) ([0, 1] : List Int).length (([0, 1] : List Int).length), .int .i64 4, .slice (some ⟨b10, 0, none⟩) ([1] : List Int).length (([1] : List Int).length), .slice (some ⟨b13, 0, none⟩) ([(0, 0, 1), (0, 1, 2), (1, 0, 1), (2, 0, 3), (3, 1, 2)] : List (Int × Int × Int)).length (([(0, 0, 1), (0, 1, 2), (1, 0, 1), (2, 0, 3), (3, 1, 2)] : List (Int × Int × Int)).length)]) (cs' := #[.slice (some ⟨b7, 0, none⟩) ([0, 1] : List Int).length (([0, 1] : List Int).length), .int .i64 4, .slice (some ⟨b10, 0, none⟩) ([1] : List Int).length (([1] : List Int).length), .slice (some ⟨b13, 0, none⟩) ([(0, 0, 1), (0, 1, 2), (1, 0, 1), (2, 0, 3), (3, 1, 2)] : List (Int × Int × Int)).length (([(0, 0, 1), (0, 1, 2), (1, 0, 1), (2, 0, 3), (3, 1, 2)] : List (Int × Int × Int)).length)]) bx4 ag34.sz Wt.no rfl rfl rfl rfl rfl (Nat.le_of_ble_eq_true rfl) rfl fun s16 m17 bx4 => ?_)
 replace m0 := m0.trans (m17.one up)
 replace h7 := h7.mono (m17.le (tg0 hN))
 replace h10 := h10.mono (m17.le (tg0 hN))
 replace h13 := h13.mono (m17.le (tg0 hN))
 refine L.nil (X.seqN (E.ret ?_))
 obtain rfl := Option.some.inj hm
 exact X.rt (.inl rfl) Tryd.results72 (Rs.cell rfl bx4 ag34 rfl Rs.nil) rfl ⟨_, (s16).ren N (fun _ => 0), rfl, rfl, m0.ren hNb, ⟨(some ⟨b7, 0, none⟩), ([0, 1] : List Int).length, (some ⟨b10, 0, none⟩), ([1] : List Int).length, (some ⟨b13, 0, none⟩), ([(0, 0, 1), (0, 1, 2), (1, 0, 1), (2, 0, 3), (3, 1, 2)] : List (Int × Int × Int)).length, rfl, (h7.ren hN), (h10.ren hN), (h13.ren hN)⟩⟩

theorem cf55 : Cf Tryd.prog 55 := Cf.mk Tryd.func55 (by kernel_rfl) (by kernel_rfl)
theorem cf84 : Cf Tryd.prog 84 := Cf.mk Tryd.func84 (by kernel_rfl) (by kernel_rfl)
noncomputable def m_reach_Coreachable_j1 (st49 : Int × List Int) (l55 : List Int) : Option ((Int × List Int) ⊕ (List Int)) :=
  some (.inl (W (st49.1 + 1), l55))
noncomputable def m_reach_Coreachable_l1 (r23 : List Int) (st49 : Int × List Int) : Option ((Int × List Int) ⊕ (List Int)) :=
  if decide (st49.1 < (r23.length : Int)) then
    (idx r23 st49.1).bind fun x59 =>
    if decide (x59 ≥ 0) then
      (app st49.2 ([st49.1] : List Int)).bind fun x64 =>
      m_reach_Coreachable_j1 st49 x64
    else
      m_reach_Coreachable_j1 st49 st49.2
  else
    some (.inr st49.2)
/-- What reach.Coreachable computes. -/
noncomputable def m_reach_Coreachable (p0 : List Int × Int × List Int × (List (Int × Int × Int))) : Option (List Int × Int) :=
  (m_automaton_Check p0).bind fun r8 =>
  if (r8 != 0) then
    some (([] : List Int), r8)
  else
    (m_reach_newGraph p0).bind fun r13 =>
    (m_reach_graph_backward r13 p0.2.2.1).bind fun r23 =>
    (iter (m_reach_Coreachable_l1 r23) (0, ([] : List Int))).bind fun o49 =>
    some (o49, 0)
set_option maxRecDepth 100000 in
set_option maxHeartbeats 8000000 in
theorem m_reach_Coreachable_c {s : Sig} {p0 : List Int × Int × List Int × (List (Int × Int × Int))} {a1 : Option Addr} {c1 : Nat} {a2 : Option Addr} {c2 : Nat} {a3 : Option Addr} {c3 : Nat} {u0 : Nat} {r : List Int × Int} (h1 : RdL (rK .i64) s a1 c1 p0.1) (h2 : RdL (rK .i64) s a2 c2 p0.2.2.1) (h3 : RdL (rP (rK .i64) (rP (rK .i64) (rK .i64))) s a3 c3 p0.2.2.2) (hm : m_reach_Coreachable p0 = some r) :
    Calls Tryd.prog 71 #[.agg #[.slice a1 p0.1.length c1, .int .i64 p0.2.1, .slice a2 p0.2.2.1.length c2, .slice a3 p0.2.2.2.length c3]] s.w (RetS No s fun v s' => ∃ (a4 : Option Addr) (c4 : Nat), v = .tuple #[.slice a4 r.1.length c4, .int .i64 r.2] ∧ RowT (rK .i64) s' u0 3 a4 c4 r.1) := by
 unfold m_reach_Coreachable at hm
 obtain ⟨N, hN, hNb⟩ := s.fresh
 have m0 : Mv (Up N No) s s := Mv.refl _ _
 refine E.entry Tryd.func71 rfl Tryd.ntmps71 rfl rfl (E.seq (E.reg (L.box (N + 0) Wt.no rfl rfl rfl fun b5 s6 m7 bx5 => ?_)))
 replace m0 := m0.trans m7.no
 replace h1 := h1.mono (m7.le no_No)
 replace h2 := h2.mono (m7.le no_No)
 replace h3 := h3.mono (m7.le no_No)
 refine L.as Wt.no rfl rfl (L.as Wt.no rfl rfl (L.nil (X.seqN (E.seq (E.seq (E.reg (L.lg (j := 0) (cs := [.slice a1 p0.1.length c1, .int .i64 p0.2.1, .slice a2 p0.2.2.1.length c2, .slice a3 p0.2.2.2.length c3]) bx5.mem ag34 Wt.no rfl rfl rfl rfl rfl ?_)))))))
 obtain ⟨r8, er8, hm⟩ := bindS hm
 refine L.ca cf39 rfl rfl Wt.no rfl (m_automaton_Check_c (s := s6) (p0 := p0) h1 h2 h3 er8) rfl ?_
 rintro _ s9 m10 rfl
 replace m0 := m0.trans m10.no
 replace bx5 := bx5.mv m10 no_No
 replace h1 := h1.mono (m10.le no_No)
 replace h2 := h2.mono (m10.le no_No)
 replace h3 := h3.mono (m10.le no_No)
 refine L.as Wt.no rfl rfl (L.nil (X.seqN (E.seq (E.reg (L.mv Wt.no rfl rfl (L.bi Wt.no rfl rfl rfl rfl (L.nil (X.seqN ?_))))))))
 rcases ifS hm with ⟨hc, hm⟩ | ⟨hc, hm⟩
 ·refine E.cT rfl hc (E.seq (E.reg (L.mv Wt.no rfl rfl (L.as Wt.no rfl rfl (L.as Wt.no rfl rfl (L.nil (X.seqN (E.ret (X.seqR ?_)))))))))
  obtain rfl := Option.some.inj hm
  exact X.rt (.inl rfl) Tryd.results71 (Rs.tmp rfl (Rs.tmp rfl Rs.nil)) rfl ⟨_, (s9).ren N (fun _ => 0), rfl, rfl, m0.ren hNb, ⟨none, 0, rfl, RowT.nil⟩⟩
 refine E.cF rfl hc (E.skip (X.seqN (E.seq (E.reg (L.as Wt.no rfl rfl (L.nil (X.seqN (E.seq (E.seq ?_)))))))))
 obtain ⟨r13, er13, hm⟩ := bindS hm
 obtain ⟨r23, er23, hm⟩ := bindS hm
 refine E.draw [[], [0], [], [2], [0, 1, 2, 3], [0, 1, 2, 3, 4], []] (fun D e sx => Mv No s9 sx ∧ Sub [(5, .slice none 0 0), (1, .pointer (some ⟨b5, 0, none⟩))] e ∧ AllP [G D e 0 13 (.agg #[.slice a1 p0.1.length c1, .int .i64 p0.2.1, .slice a2 p0.2.2.1.length c2, .slice a3 p0.2.2.2.length c3]), D 1 = true → (∃ (a16 : Option Addr) (c16 : Nat) (a17 : Option Addr) (c17 : Nat) (a18 : Option Addr) (c18 : Nat) (a19 : Option Addr) (c19 : Nat), Env.get e 14 = some (.agg #[.slice a16 r13.1.1.length c16, .int .i64 r13.1.2.1, .slice a17 r13.1.2.2.1.length c17, .slice a18 r13.1.2.2.2.length c18, .slice a19 r13.2.length c19]) ∧ RdL (rK .i64) sx a16 c16 r13.1.1 ∧ RdL (rK .i64) sx a17 c17 r13.1.2.2.1 ∧ RdL (rP (rK .i64) (rP (rK .i64) (rK .i64))) sx a18 c18 r13.1.2.2.2 ∧ RdL (rK .i64) sx a19 c19 r13.2), G D e 2 15 (.pointer (some ⟨b5, 2, none⟩)), G D e 3 16 (.slice a2 p0.2.2.1.length c2), D 4 = true → (∃ (a26 : Option Addr) (c26 : Nat), Env.get e 17 = some (.slice a26 r23.length c26) ∧ RdL (rK .i64) sx a26 c26 r23), G D e 5 18 (.int .i64 (r23.length : Int)), G D e 6 19 (.int .i64 0)]) (by kernel_rfl) (by kernel_rfl) (by kernel_rfl) ?_ ?_ ?_
 ·intro sz mz
  exact ⟨mz, (Sub.rf rfl), nofun, nofun, nofun, nofun, nofun, nofun, nofun, trivial⟩
 ·refine ⟨?_, ?_, ?_, ?_, ?_, ?_, ?_, trivial⟩
  ·rintro D e s11 ⟨im, ib, i⟩ hk hf ha
   have bx5 := bx5.mv im no_No
   have kn := K1 (ib 1 _ rfl)
   exact L.kns _ kn (L.lg (j := 0) (cs := [.slice a1 p0.1.length c1, .int .i64 p0.2.1, .slice a2 p0.2.2.1.length c2, .slice a3 p0.2.2.2.length c3]) bx5.mem ag34 Wt.no rfl rfl rfl rfl rfl (L.nil (X.dk kn ⟨im, Sub.fresh ib rfl, i.u 0 (fun _ => rfl)⟩)))
  ·rintro D e s12 ⟨im, ib, i⟩ hk hf ha
   have h1 := h1.mono (im.le no_No)
   have h2 := h2.mono (im.le no_No)
   have h3 := h3.mono (im.le no_No)
   have kn := K1 ((i.p 0) (ha.at 0 rfl))
   refine L.kns _ kn (L.ca cf55 rfl rfl Wt.no rfl (m_reach_newGraph_c (s := s12) (p0 := p0) (u3 := 0) h1 h2 h3 er13) rfl ?_)
   rintro _ s14 m15 ⟨a16, c16, a17, c17, a18, c18, a19, c19, rfl, h16, h17, h18, h19⟩
   replace h19 := h19.p
   exact L.nil (X.dk kn ⟨im.trans m15.no, Sub.fresh ib rfl, (i.u 1 (fun _ => ⟨a16, c16, a17, c17, a18, c18, a19, c19, rfl, h16, h17, h18, h19⟩)).u 4 (fun z => let ⟨a26, c26, q, h26⟩ := (i.p 4) z; ⟨a26, c26, q, (h26.mono (m15.le no_No))⟩)⟩)
  ·rintro D e s20 ⟨im, ib, i⟩ hk hf ha
   have kn := K1 (ib 1 _ rfl)
   exact L.kns _ kn (L.fa fa34_2 Wt.no rfl rfl (L.nil (X.dk kn ⟨im, Sub.fresh ib rfl, i.u 2 (fun _ => rfl)⟩)))
  ·rintro D e s21 ⟨im, ib, i⟩ hk hf ha
   have bx5 := bx5.mv im no_No
   have kn := K1 ((i.p 2) (ha.at 2 rfl))
   exact L.kns _ kn (L.ld (j := 2) bx5.mem nag31 Wt.no rfl rfl rfl rfl (L.nil (X.dk kn ⟨im, Sub.fresh ib rfl, i.u 3 (fun _ => rfl)⟩)))
  ·rintro D e s22 ⟨im, ib, i⟩ hk hf ha
   obtain ⟨a16, c16, a17, c17, a18, c18, a19, c19, g1_, h16, h17, h18, h19⟩ := (i.p 1) (ha.at 1 rfl)
   have h2 := h2.mono (im.le no_No)
   have kn := K2 g1_ ((i.p 3) (ha.at 3 rfl))
   refine L.kns _ kn (L.ca cf84 rfl rfl Wt.no rfl (m_reach_graph_backward_c (s := s22) (p0 := r13) (p1 := p0.2.2.1) h16 h17 h18 h19 h2 er23) rfl ?_)
   rintro _ s24 m25 ⟨a26, c26, rfl, h26⟩
   exact L.nil (X.dk kn ⟨im.trans m25.no, Sub.fresh ib rfl, (i.u 1 (fun z => let ⟨a16, c16, a17, c17, a18, c18, a19, c19, q, h16, h17, h18, h19⟩ := (i.p 1) z; ⟨a16, c16, a17, c17, a18, c18, a19, c19, q, (h16.mono (m25.le no_No)), (h17.mono (m25.le no_No)), (h18.mono (m25.le no_No)), (h19.mono (m25.le no_No))⟩)).u 4 (fun _ => ⟨a26, c26, rfl, h26⟩)⟩)
  ·rintro D e s27 ⟨im, ib, i⟩ hk hf ha
   obtain ⟨a26, c26, g4_, h26⟩ := (i.p 4) (ha.at 4 rfl)
   have kn := K1 g4_
   exact L.kns _ kn (L.len sl31 Wt.no rfl rfl (L.nil (X.dk kn ⟨im, Sub.fresh ib rfl, i.u 5 (fun _ => rfl)⟩)))
  rintro D e s28 ⟨im, ib, i⟩ hk hf ha
  exact L.mv Wt.no rfl rfl (L.nil (X.dr (s := s28) (e' := (19, .int .i64 0) :: e) (Sub.both (Sub.refl)) ⟨im, Sub.fresh ib rfl, i.u 6 (fun _ => rfl)⟩))
 rintro D e s29 hD ⟨im, ib, i⟩
 obtain ⟨a26, c26, g4_, h26⟩ := (i.p 4) (hD 4 rfl)
 have g5_ := (i.p 5) (hD 5 rfl)
 have g6_ := (i.p 6) (hD 6 rfl)
 have m0 := m0.trans im.no
 refine X.sub (e' := [(19, .int .i64 0), (18, .int .i64 (r23.length : Int)), (17, .slice a26 r23.length c26), (5, .slice none 0 0)]) ?_ (Sub.cons g6_ (Sub.cons g5_ (Sub.cons g4_ (Sub.cons (ib 5 _ rfl) Sub.nil))))
 refine X.seqN (E.block ?_)
 obtain ⟨o49, eo49, hm⟩ := bindS hm
 refine E.cut (x := .exit 0) (fun e w => ∃ (s53 : Sig) (a51 : Option Addr) (c51 : Nat), Mv (Up N No) s s53 ∧ RowT (rK .i64) s53 (N + 1) 3 a51 c51 o49 ∧ e = [(5, .slice a51 o49.length c51)] ∧ w = s53.w) ?_ ?_
 ·rintro _ _ ⟨s53, a51, c51, m0, h51, rfl, rfl⟩
  refine X.blkE (X.seqN (E.seq (E.reg (L.mv Wt.no rfl rfl (L.as Wt.no rfl rfl (L.as Wt.no rfl rfl (L.nil (X.seqN (E.ret ?_)))))))))
  obtain rfl := Option.some.inj hm
  exact X.rt (.inl rfl) Tryd.results71 (Rs.tmp rfl (Rs.tmp rfl Rs.nil)) rfl ⟨_, (s53).ren N (fun k => cond (Nat.beq k 1) u0 (0)), rfl, rfl, m0.ren hNb, ⟨a51, c51, rfl, (h51.ren hN)⟩⟩
 intro K54
 refine E.iter (fun (st49 : Int × List Int) (e : List (Nat × Value)) (w : World) => ∃ (s52 : Sig) (a32 : Option Addr) (c32 : Nat), Mv (Up N No) s s52 ∧ RdL (rK .i64) s52 a26 c26 r23 ∧ RowT (rK .i64) s52 (N + 1) 3 a32 c32 st49.2 ∧ e = [(19, .int .i64 st49.1), (18, .int .i64 (r23.length : Int)), (17, .slice a26 r23.length c26), (5, .slice a32 st49.2.length c32)] ∧ w = s52.w) eo49 ⟨s29, none, 0, m0, h26, RowT.nil, rfl, rfl⟩ (Sub.rf rfl) ?_
 rintro st49 res49 hm ih49 ho49 _ _ ⟨s52, a32, c32, m0, h26, h32, rfl, rfl⟩
 unfold m_reach_Coreachable_l1 at hm
 refine E.seq (E.reg (L.bi Wt.no rfl rfl rfl rfl (L.nil (X.seqN (E.seq ?_)))))
 rcases ifS hm with ⟨hc, hm⟩ | ⟨hc, hm⟩
 ·refine E.cT rfl hc (E.skip (X.seqN (E.seqJ (fun e w => ∃ (s57 : Sig) (l55 : List Int) (a56 : Option Addr) (c56 : Nat), m_reach_Coreachable_j1 st49 l55 = some res49 ∧ Mv (Up N No) s s57 ∧ RowT (rK .i64) s57 (N + 1) 3 a56 c56 l55 ∧ RdL (rK .i64) s57 a26 c26 r23 ∧ e = [(5, .slice a56 l55.length c56), (19, .int .i64 st49.1), (18, .int .i64 (r23.length : Int)), (17, .slice a26 r23.length c26)] ∧ w = s57.w) ?_ ?_)))
  ·rintro _ _ ⟨s57, l55, a56, c56, hm, m0, h56, h26, rfl, rfl⟩
   unfold m_reach_Coreachable_j1 at hm
   exact E.reg (L.bi Wt.no rfl rfl rfl rfl (L.mv Wt.no rfl rfl (L.nil (X.sub (ih49 _ (Option.some.inj hm).symm _ _ ⟨s57, a56, c56, m0, h26, h56, rfl, rfl⟩) (Sub.rf rfl)))))
  intro Jj58
  refine E.block (E.seq (E.reg (L.mv Wt.no rfl rfl ?_)))
  obtain ⟨x59, ex59, hm⟩ := bindS hm
  refine L.ix (r := (rK .i64)) sl31 h26 Wt.no rfl rfl ex59 rfl fun b60 o60 cc60 me60 rd60 => ?_
  obtain rfl := rd60
  refine L.ld (j := 0) me60 nag3 Wt.no rfl rfl rfl rfl (L.as Wt.no rfl rfl (L.as Wt.no rfl rfl (L.nil (X.seqN (E.seq (E.reg (L.mv Wt.no rfl rfl (L.bi Wt.no rfl rfl rfl rfl (L.nil (X.seqN ?_))))))))))
  rcases ifS hm with ⟨hc, hm⟩ | ⟨hc, hm⟩
  ·refine E.cT rfl hc (E.reg (L.mv Wt.no rfl rfl (L.mv Wt.no rfl rfl (L.bsE (k := 1) (cs := [.int .i64 st49.1]) 0 bs31 (Nat.le_of_ble_eq_true rfl) Wt.no rfl rfl rfl rfl fun b61 s62 m63 bx61 => ?_))))
   replace m0 := m0.trans m63.no
   replace h26 := h26.mono (m63.le no_No)
   replace h32 := h32.mv m63 no_No no_No
   have h61 := Bx.rdL (r := (rK .i64)) (xs := ([st49.1] : List Int)) bx61 ⟨[.int .i64 st49.1], _, rfl, rfl, rfl⟩ (Nat.le_of_ble_eq_true rfl)
   obtain ⟨x64, ex64, hm⟩ := bindS hm
   refine L.ap (r := (rK .i64)) Tryd.underlying31 el3 rfl (tgp hN) h32 h61.wk Wt.no rfl rfl ex64 rfl fun a65 c65 s66 m67 h65 => ?_
   replace m0 := m0.trans (m67.one up)
   replace h26 := h26.mono (m67.le (tg0 hN))
   exact L.as Wt.no rfl rfl (L.nil (X.blkN (X.sub (Jj58 _ _ ⟨s66, x64, a65, c65, hm, m0, h65, h26, rfl, rfl⟩) (Sub.rf rfl))))
  exact E.cF rfl hc (E.skip (X.blkN (X.sub (Jj58 _ _ ⟨s52, st49.2, a32, c32, hm, m0, h32, h26, rfl, rfl⟩) (Sub.rf rfl))))
 refine E.cF rfl hc (E.exit (X.seqX (X.seqX ?_)))
 have hx := ho49 _ (Option.some.inj hm).symm
 subst hx
 exact X.sub (K54 _ _ ⟨s52, a32, c32, m0, h32, rfl, rfl⟩) (Sub.rf rfl)

end Go.Proofs.YtfbapajcheammaaDoor

namespace Go.Proofs.YtfbapajcheammaaDoor
open Go Go.RowKit
theorem cf53 : Cf Tryd.prog 53 := Cf.mk Tryd.func53 (by kernel_rfl) (by kernel_rfl)
/-- What reach.Distances computes. -/
noncomputable def m_reach_Distances (p0 : List Int × Int × List Int × (List (Int × Int × Int))) (p1 : List Int) : Option (List Int × Int) :=
  (m_automaton_Check p0).bind fun r9 =>
  if (r9 != 0) then
    some (([] : List Int), r9)
  else
    (m_reach_checkStates p0 p1).bind fun r12 =>
    if (r12 != 0) then
      some (([] : List Int), r12)
    else
      (m_reach_newGraph p0).bind fun r15 =>
      (m_reach_graph_backward r15 p1).bind fun r22 =>
      some (r22, 0)
set_option maxRecDepth 100000 in
set_option maxHeartbeats 8000000 in
theorem m_reach_Distances_c {s : Sig} {p0 : List Int × Int × List Int × (List (Int × Int × Int))} {p1 : List Int} {a1 : Option Addr} {c1 : Nat} {a2 : Option Addr} {c2 : Nat} {a3 : Option Addr} {c3 : Nat} {a4 : Option Addr} {c4 : Nat} {r : List Int × Int} (h1 : RdL (rK .i64) s a1 c1 p0.1) (h2 : RdL (rK .i64) s a2 c2 p0.2.2.1) (h3 : RdL (rP (rK .i64) (rP (rK .i64) (rK .i64))) s a3 c3 p0.2.2.2) (h4 : RdL (rK .i64) s a4 c4 p1) (hm : m_reach_Distances p0 p1 = some r) :
    Calls Tryd.prog 73 #[.agg #[.slice a1 p0.1.length c1, .int .i64 p0.2.1, .slice a2 p0.2.2.1.length c2, .slice a3 p0.2.2.2.length c3], .slice a4 p1.length c4] s.w (RetS No s fun v s' => ∃ (a5 : Option Addr) (c5 : Nat), v = .tuple #[.slice a5 r.1.length c5, .int .i64 r.2] ∧ RdL (rK .i64) s' a5 c5 r.1) := by
 unfold m_reach_Distances at hm
 obtain ⟨N, hN, hNb⟩ := s.fresh
 have m0 : Mv (Up N No) s s := Mv.refl _ _
 refine E.entry Tryd.func73 rfl Tryd.ntmps73 rfl rfl (E.seq (E.reg (L.box (N + 0) Wt.no rfl rfl rfl fun b6 s7 m8 bx6 => ?_)))
 replace m0 := m0.trans m8.no
 replace h4 := h4.mono (m8.le no_No)
 replace h1 := h1.mono (m8.le no_No)
 replace h2 := h2.mono (m8.le no_No)
 replace h3 := h3.mono (m8.le no_No)
 refine L.as Wt.no rfl rfl (L.as Wt.no rfl rfl (L.nil (X.seqN (E.seq (E.seq (E.reg (L.lg (j := 0) (cs := [.slice a1 p0.1.length c1, .int .i64 p0.2.1, .slice a2 p0.2.2.1.length c2, .slice a3 p0.2.2.2.length c3]) bx6.mem ag34 Wt.no rfl rfl rfl rfl rfl ?_)))))))
 obtain ⟨r9, er9, hm⟩ := bindS hm
 refine L.ca cf39 rfl rfl Wt.no rfl (m_automaton_Check_c (s := s7) (p0 := p0) h1 h2 h3 er9) rfl ?_
 rintro _ s10 m11 rfl
 replace m0 := m0.trans m11.no
 replace h4 := h4.mono (m11.le no_No)
 replace bx6 := bx6.mv m11 no_No
 replace h1 := h1.mono (m11.le no_No)
 replace h2 := h2.mono (m11.le no_No)
 replace h3 := h3.mono (m11.le no_No)
 refine L.as Wt.no rfl rfl (L.nil (X.seqN (E.seq (E.reg (L.mv Wt.no rfl rfl (L.bi Wt.no rfl rfl rfl rfl (L.nil (X.seqN ?_))))))))
 rcases ifS hm with ⟨hc, hm⟩ | ⟨hc, hm⟩
 ·refine E.cT rfl hc (E.seq (E.reg (L.mv Wt.no rfl rfl (L.as Wt.no rfl rfl (L.as Wt.no rfl rfl (L.nil (X.seqN (E.ret (X.seqR ?_)))))))))
  obtain rfl := Option.some.inj hm
  exact X.rt (.inl rfl) Tryd.results73 (Rs.tmp rfl (Rs.tmp rfl Rs.nil)) rfl ⟨_, (s10).ren N (fun _ => 0), rfl, rfl, m0.ren hNb, ⟨none, 0, rfl, RdL.nil⟩⟩
 refine E.cF rfl hc (E.skip (X.seqN (E.seq (E.seq (E.reg (L.lg (j := 0) (cs := [.slice a1 p0.1.length c1, .int .i64 p0.2.1, .slice a2 p0.2.2.1.length c2, .slice a3 p0.2.2.2.length c3]) bx6.mem ag34 Wt.no rfl rfl rfl rfl rfl (L.mv Wt.no rfl rfl ?_)))))))
 obtain ⟨r12, er12, hm⟩ := bindS hm
 refine L.ca cf53 rfl rfl Wt.no rfl (m_reach_checkStates_c (s := s10) (p0 := p0) (p1 := p1) h1 h2 h3 h4 er12) rfl ?_
 rintro _ s13 m14 rfl
 replace m0 := m0.trans m14.no
 replace h4 := h4.mono (m14.le no_No)
 replace bx6 := bx6.mv m14 no_No
 replace h1 := h1.mono (m14.le no_No)
 replace h2 := h2.mono (m14.le no_No)
 replace h3 := h3.mono (m14.le no_No)
 refine L.as Wt.no rfl rfl (L.nil (X.seqN (E.seq (E.reg (L.mv Wt.no rfl rfl (L.bi Wt.no rfl rfl rfl rfl (L.nil (X.seqN ?_))))))))
 rcases ifS hm with ⟨hc, hm⟩ | ⟨hc, hm⟩
 ·refine E.cT rfl hc (E.seq (E.reg (L.mv Wt.no rfl rfl (L.as Wt.no rfl rfl (L.as Wt.no rfl rfl (L.nil (X.seqN (E.ret (X.seqR ?_)))))))))
  obtain rfl := Option.some.inj hm
  exact X.rt (.inl rfl) Tryd.results73 (Rs.tmp rfl (Rs.tmp rfl Rs.nil)) rfl ⟨_, (s13).ren N (fun _ => 0), rfl, rfl, m0.ren hNb, ⟨none, 0, rfl, RdL.nil⟩⟩
 refine E.cF rfl hc (E.skip (X.seqN (E.seq (E.reg (L.lg (j := 0) (cs := [.slice a1 p0.1.length c1, .int .i64 p0.2.1, .slice a2 p0.2.2.1.length c2, .slice a3 p0.2.2.2.length c3]) bx6.mem ag34 Wt.no rfl rfl rfl rfl rfl ?_)))))
 obtain ⟨r15, er15, hm⟩ := bindS hm
 refine L.ca cf55 rfl rfl Wt.no rfl (m_reach_newGraph_c (s := s13) (p0 := p0) (u3 := 0) h1 h2 h3 er15) rfl ?_
 rintro _ s16 m17 ⟨a18, c18, a19, c19, a20, c20, a21, c21, rfl, h18, h19, h20, h21⟩
 replace h21 := h21.p
 replace m0 := m0.trans m17.no
 replace h4 := h4.mono (m17.le no_No)
 refine L.mv Wt.no rfl rfl ?_
 obtain ⟨r22, er22, hm⟩ := bindS hm
 refine L.ca cf84 rfl rfl Wt.no rfl (m_reach_graph_backward_c (s := s16) (p0 := r15) (p1 := p1) h18 h19 h20 h21 h4 er22) rfl ?_
 rintro _ s23 m24 ⟨a25, c25, rfl, h25⟩
 replace m0 := m0.trans m24.no
 refine L.as Wt.no rfl rfl (L.as Wt.no rfl rfl (L.nil (X.seqN (E.ret ?_))))
 obtain rfl := Option.some.inj hm
 exact X.rt (.inl rfl) Tryd.results73 (Rs.tmp rfl (Rs.tmp rfl Rs.nil)) rfl ⟨_, (s23).ren N (fun _ => 0), rfl, rfl, m0.ren hNb, ⟨a25, c25, rfl, (h25.ren hN)⟩⟩

/-- What reach.closure computes. -/
noncomputable def m_reach_closure (p0 : List Int × Int × List Int × (List (Int × Int × Int))) (p1 : List Int) (p2 : List Int) : Option Int :=
  (m_automaton_Check p0).bind fun r9 =>
  if (r9 != 0) then
    some r9
  else
    (m_reach_checkStates p0 p1).bind fun r12 =>
    if (r12 != 0) then
      some r12
    else
      (m_reach_checkSet p2 32).bind fun r15 =>
      some r15
set_option maxRecDepth 100000 in
set_option maxHeartbeats 8000000 in
theorem m_reach_closure_c {s : Sig} {p0 : List Int × Int × List Int × (List (Int × Int × Int))} {p1 : List Int} {p2 : List Int} {a1 : Option Addr} {c1 : Nat} {a2 : Option Addr} {c2 : Nat} {a3 : Option Addr} {c3 : Nat} {a4 : Option Addr} {c4 : Nat} {a5 : Option Addr} {c5 : Nat} {r : Int} (h1 : RdL (rK .i64) s a1 c1 p0.1) (h2 : RdL (rK .i64) s a2 c2 p0.2.2.1) (h3 : RdL (rP (rK .i64) (rP (rK .i64) (rK .i64))) s a3 c3 p0.2.2.2) (h4 : RdL (rK .i64) s a4 c4 p1) (h5 : RdL (rK .i64) s a5 c5 p2) (hm : m_reach_closure p0 p1 p2 = some r) :
    Calls Tryd.prog 85 #[.agg #[.slice a1 p0.1.length c1, .int .i64 p0.2.1, .slice a2 p0.2.2.1.length c2, .slice a3 p0.2.2.2.length c3], .slice a4 p1.length c4, .slice a5 p2.length c5] s.w (RetS No s fun v s' => v = .int .i64 r) := by
 unfold m_reach_closure at hm
 obtain ⟨N, hN, hNb⟩ := s.fresh
 have m0 : Mv (Up N No) s s := Mv.refl _ _
 refine E.entry Tryd.func85 rfl Tryd.ntmps85 rfl rfl (E.seq (E.reg (L.box (N + 0) Wt.no rfl rfl rfl fun b6 s7 m8 bx6 => ?_)))
 replace m0 := m0.trans m8.no
 replace h4 := h4.mono (m8.le no_No)
 replace h5 := h5.mono (m8.le no_No)
 replace h1 := h1.mono (m8.le no_No)
 replace h2 := h2.mono (m8.le no_No)
 replace h3 := h3.mono (m8.le no_No)
 refine L.as Wt.no rfl rfl (L.nil (X.seqN (E.seq (E.seq (E.reg (L.lg (j := 0) (cs := [.slice a1 p0.1.length c1, .int .i64 p0.2.1, .slice a2 p0.2.2.1.length c2, .slice a3 p0.2.2.2.length c3]) bx6.mem ag34 Wt.no rfl rfl rfl rfl rfl ?_))))))
 obtain ⟨r9, er9, hm⟩ := bindS hm
 refine L.ca cf39 rfl rfl Wt.no rfl (m_automaton_Check_c (s := s7) (p0 := p0) h1 h2 h3 er9) rfl ?_
 rintro _ s10 m11 rfl
 replace m0 := m0.trans m11.no
 replace h4 := h4.mono (m11.le no_No)
 replace h5 := h5.mono (m11.le no_No)
 replace bx6 := bx6.mv m11 no_No
 replace h1 := h1.mono (m11.le no_No)
 replace h2 := h2.mono (m11.le no_No)
 replace h3 := h3.mono (m11.le no_No)
 refine L.as Wt.no rfl rfl (L.nil (X.seqN (E.seq (E.reg (L.mv Wt.no rfl rfl (L.bi Wt.no rfl rfl rfl rfl (L.nil (X.seqN ?_))))))))
 rcases ifS hm with ⟨hc, hm⟩ | ⟨hc, hm⟩
 ·refine E.cT rfl hc (E.seq (E.reg (L.mv Wt.no rfl rfl (L.as Wt.no rfl rfl (L.nil (X.seqN (E.ret (X.seqR ?_))))))))
  obtain rfl := Option.some.inj hm
  exact X.rt (.inl rfl) Tryd.results85 (Rs.tmp rfl Rs.nil) rfl ⟨_, (s10).ren N (fun _ => 0), rfl, rfl, m0.ren hNb, rfl⟩
 refine E.cF rfl hc (E.skip (X.seqN (E.seq (E.seq (E.reg (L.lg (j := 0) (cs := [.slice a1 p0.1.length c1, .int .i64 p0.2.1, .slice a2 p0.2.2.1.length c2, .slice a3 p0.2.2.2.length c3]) bx6.mem ag34 Wt.no rfl rfl rfl rfl rfl (L.mv Wt.no rfl rfl ?_)))))))
 obtain ⟨r12, er12, hm⟩ := bindS hm
 refine L.ca cf53 rfl rfl Wt.no rfl (m_reach_checkStates_c (s := s10) (p0 := p0) (p1 := p1) h1 h2 h3 h4 er12) rfl ?_
 rintro _ s13 m14 rfl
 replace m0 := m0.trans m14.no
 replace h5 := h5.mono (m14.le no_No)
 refine L.as Wt.no rfl rfl (L.nil (X.seqN (E.seq (E.reg (L.mv Wt.no rfl rfl (L.bi Wt.no rfl rfl rfl rfl (L.nil (X.seqN ?_))))))))
 rcases ifS hm with ⟨hc, hm⟩ | ⟨hc, hm⟩
 ·refine E.cT rfl hc (E.seq (E.reg (L.mv Wt.no rfl rfl (L.as Wt.no rfl rfl (L.nil (X.seqN (E.ret (X.seqR ?_))))))))
  obtain rfl := Option.some.inj hm
  exact X.rt (.inl rfl) Tryd.results85 (Rs.tmp rfl Rs.nil) rfl ⟨_, (s13).ren N (fun _ => 0), rfl, rfl, m0.ren hNb, rfl⟩
 refine E.cF rfl hc (E.skip (X.seqN (E.seq (E.reg (L.mv Wt.no rfl rfl ?_)))))
 obtain ⟨r15, er15, hm⟩ := bindS hm
 refine L.ca cf80 rfl rfl Wt.no rfl (m_reach_checkSet_c (s := s13) (p0 := p2) (p1 := 32) h5 er15) rfl ?_
 rintro _ s16 m17 rfl
 replace m0 := m0.trans m17.no
 refine L.as Wt.no rfl rfl (L.nil (X.seqN (E.ret ?_)))
 obtain rfl := Option.some.inj hm
 exact X.rt (.inl rfl) Tryd.results85 (Rs.tmp rfl Rs.nil) rfl ⟨_, (s16).ren N (fun _ => 0), rfl, rfl, m0.ren hNb, rfl⟩

noncomputable def m_reach_list_j1 (st22 : Int × List Int) (l28 : List Int) : Option ((Int × List Int) ⊕ (List Int)) :=
  some (.inl (W (st22.1 + 1), l28))
noncomputable def m_reach_list_l1 (p0 : List Bool) (st22 : Int × List Int) : Option ((Int × List Int) ⊕ (List Int)) :=
  if decide (st22.1 < (p0.length : Int)) then
    (idx p0 st22.1).bind fun x32 =>
    if x32 then
      (app st22.2 ([st22.1] : List Int)).bind fun x37 =>
      m_reach_list_j1 st22 x37
    else
      m_reach_list_j1 st22 st22.2
  else
    some (.inr st22.2)
/-- What reach.list computes. -/
noncomputable def m_reach_list (p0 : List Bool) : Option (List Int) :=
  (iter (m_reach_list_l1 p0) (0, ([] : List Int))).bind fun o22 =>
  some o22
set_option maxRecDepth 100000 in
set_option maxHeartbeats 8000000 in
theorem m_reach_list_c {s : Sig} {p0 : List Bool} {a1 : Option Addr} {c1 : Nat} {u0 : Nat} {r : List Int} (h1 : RdL rB s a1 c1 p0) (hm : m_reach_list p0 = some r) :
    Calls Tryd.prog 86 #[.slice a1 p0.length c1] s.w (RetS No s fun v s' => ∃ (a2 : Option Addr) (c2 : Nat), v = .slice a2 r.length c2 ∧ RowT (rK .i64) s' u0 3 a2 c2 r) := by
 unfold m_reach_list at hm
 obtain ⟨N, hN, hNb⟩ := s.fresh
 have m0 : Mv (Up N No) s s := Mv.refl _ _
 refine E.entry Tryd.func86 rfl Tryd.ntmps86 rfl rfl (E.seq (E.reg (L.as Wt.no rfl rfl (L.nil (X.seqN (E.seq (E.reg (L.as Wt.no rfl rfl (L.nil (X.seqN (E.seq (E.seq (E.reg (L.mv Wt.no rfl rfl (L.len sl77 Wt.no rfl rfl (L.mv Wt.no rfl rfl (L.nil (X.seqN (E.block ?_)))))))))))))))))))
 obtain ⟨o22, eo22, hm⟩ := bindS hm
 refine E.cut (x := .exit 0) (fun e w => ∃ (s26 : Sig) (a24 : Option Addr) (c24 : Nat), Mv (Up N No) s s26 ∧ RowT (rK .i64) s26 (N + 0) 3 a24 c24 o22 ∧ e = [(3, .slice a24 o22.length c24)] ∧ w = s26.w) ?_ ?_
 ·rintro _ _ ⟨s26, a24, c24, m0, h24, rfl, rfl⟩
  refine X.blkE (X.seqN (E.seq (E.reg (L.mv Wt.no rfl rfl (L.as Wt.no rfl rfl (L.nil (X.seqN (E.ret ?_))))))))
  obtain rfl := Option.some.inj hm
  exact X.rt (.inl rfl) Tryd.results86 (Rs.tmp rfl Rs.nil) rfl ⟨_, (s26).ren N (fun k => cond (Nat.beq k 0) u0 (0)), rfl, rfl, m0.ren hNb, ⟨a24, c24, rfl, (h24.ren hN)⟩⟩
 intro K27
 refine E.iter (fun (st22 : Int × List Int) (e : List (Nat × Value)) (w : World) => ∃ (s25 : Sig) (a5 : Option Addr) (c5 : Nat), Mv (Up N No) s s25 ∧ RdL rB s25 a1 c1 p0 ∧ RowT (rK .i64) s25 (N + 0) 3 a5 c5 st22.2 ∧ e = [(8, .int .i64 st22.1), (7, .int .i64 (p0.length : Int)), (6, .slice a1 p0.length c1), (3, .slice a5 st22.2.length c5)] ∧ w = s25.w) eo22 ⟨s, none, 0, m0, h1, RowT.nil, rfl, rfl⟩ (Sub.rf rfl) ?_
 rintro st22 res22 hm ih22 ho22 _ _ ⟨s25, a5, c5, m0, h1, h5, rfl, rfl⟩
 unfold m_reach_list_l1 at hm
 refine E.seq (E.reg (L.bi Wt.no rfl rfl rfl rfl (L.nil (X.seqN (E.seq ?_)))))
 rcases ifS hm with ⟨hc, hm⟩ | ⟨hc, hm⟩
 ·refine E.cT rfl hc (E.skip (X.seqN (E.seqJ (fun e w => ∃ (s30 : Sig) (l28 : List Int) (a29 : Option Addr) (c29 : Nat), m_reach_list_j1 st22 l28 = some res22 ∧ Mv (Up N No) s s30 ∧ RowT (rK .i64) s30 (N + 0) 3 a29 c29 l28 ∧ RdL rB s30 a1 c1 p0 ∧ e = [(3, .slice a29 l28.length c29), (8, .int .i64 st22.1), (7, .int .i64 (p0.length : Int)), (6, .slice a1 p0.length c1)] ∧ w = s30.w) ?_ ?_)))
  ·rintro _ _ ⟨s30, l28, a29, c29, hm, m0, h29, h1, rfl, rfl⟩
   unfold m_reach_list_j1 at hm
   exact E.reg (L.bi Wt.no rfl rfl rfl rfl (L.mv Wt.no rfl rfl (L.nil (X.sub (ih22 _ (Option.some.inj hm).symm _ _ ⟨s30, a29, c29, m0, h1, h29, rfl, rfl⟩) (Sub.rf rfl)))))
  intro Jj31
  refine E.block (E.seq (E.reg (L.mv Wt.no rfl rfl ?_)))
  obtain ⟨x32, ex32, hm⟩ := bindS hm
  refine L.ix (r := rB) sl77 h1 Wt.no rfl rfl ex32 rfl fun b33 o33 cc33 me33 rd33 => ?_
  obtain rfl := rd33
  refine L.ld (j := 0) me33 nag4 Wt.no rfl rfl rfl rfl (L.as Wt.no rfl rfl (L.as Wt.no rfl rfl (L.nil (X.seqN (E.seq (E.reg (L.mv Wt.no rfl rfl (L.nil (X.seqN ?_)))))))))
  rcases ifS hm with ⟨hc, hm⟩ | ⟨hc, hm⟩
  ·refine E.cT rfl hc (E.reg (L.mv Wt.no rfl rfl (L.mv Wt.no rfl rfl (L.bsE (k := 1) (cs := [.int .i64 st22.1]) 0 bs31 (Nat.le_of_ble_eq_true rfl) Wt.no rfl rfl rfl rfl fun b34 s35 m36 bx34 => ?_))))
   replace m0 := m0.trans m36.no
   replace h1 := h1.mono (m36.le no_No)
   replace h5 := h5.mv m36 no_No no_No
   have h34 := Bx.rdL (r := (rK .i64)) (xs := ([st22.1] : List Int)) bx34 ⟨[.int .i64 st22.1], _, rfl, rfl, rfl⟩ (Nat.le_of_ble_eq_true rfl)
   obtain ⟨x37, ex37, hm⟩ := bindS hm
   refine L.ap (r := (rK .i64)) Tryd.underlying31 el3 rfl (tgp hN) h5 h34.wk Wt.no rfl rfl ex37 rfl fun a38 c38 s39 m40 h38 => ?_
   replace m0 := m0.trans (m40.one up)
   replace h1 := h1.mono (m40.le (tg0 hN))
   exact L.as Wt.no rfl rfl (L.nil (X.blkN (X.sub (Jj31 _ _ ⟨s39, x37, a38, c38, hm, m0, h38, h1, rfl, rfl⟩) (Sub.rf rfl))))
  exact E.cF rfl hc (E.skip (X.blkN (X.sub (Jj31 _ _ ⟨s25, st22.2, a5, c5, hm, m0, h5, h1, rfl, rfl⟩) (Sub.rf rfl))))
 refine E.cF rfl hc (E.exit (X.seqX (X.seqX ?_)))
 have hx := ho22 _ (Option.some.inj hm).symm
 subst hx
 exact X.sub (K27 _ _ ⟨s25, a5, c5, m0, h5, rfl, rfl⟩) (Sub.rf rfl)

theorem cf54 : Cf Tryd.prog 54 := Cf.mk Tryd.func54 (by kernel_rfl) (by kernel_rfl)
theorem cf85 : Cf Tryd.prog 85 := Cf.mk Tryd.func85 (by kernel_rfl) (by kernel_rfl)
theorem cf86 : Cf Tryd.prog 86 := Cf.mk Tryd.func86 (by kernel_rfl) (by kernel_rfl)
noncomputable def m_reach_Interior_j1 (st139 : Int × Bool × List Bool) (b145 : Bool) (l146 : List Bool) : Option ((Int × Bool × List Bool) ⊕ (Bool × List Bool)) :=
  some (.inl (W (st139.1 + 1), b145, l146))
noncomputable def m_reach_Interior_l2 (p0 : List Int × Int × List Int × (List (Int × Int × Int))) (p2 : List Int) (st139 : Int × Bool × List Bool) : Option ((Int × Bool × List Bool) ⊕ (Bool × List Bool)) :=
  if decide (st139.1 < (p0.2.2.2.length : Int)) then
    (idx p0.2.2.2 st139.1).bind fun x149 =>
    (idx st139.2.2 x149.1).bind fun x156 =>
    (if x156 then
      (idx st139.2.2 x149.2.2).bind fun x173 =>
      some (!x173)
    else
      some false).bind fun b158 =>
    (if b158 then
      (m_slices_Contains_int p2 x149.2.1).bind fun r169 =>
      some r169
    else
      some false).bind fun b160 =>
    if b160 then
      (idx st139.2.2 x149.1).bind fun x163 =>
      (upd st139.2.2 x149.1 false).bind fun x165 =>
      m_reach_Interior_j1 st139 true x165
    else
      m_reach_Interior_j1 st139 st139.2.1 st139.2.2
  else
    some (.inr st139.2)
noncomputable def m_reach_Interior_l1 (p0 : List Int × Int × List Int × (List (Int × Int × Int))) (p2 : List Int) (st93 : Bool × List Bool) : Option ((Bool × List Bool) ⊕ (List Bool)) :=
  if st93.1 then
    (iter (m_reach_Interior_l2 p0 p2) (0, false, st93.2)).bind fun o139 =>
    some (.inl o139)
  else
    some (.inr st93.2)
/-- What reach.Interior computes. -/
noncomputable def m_reach_Interior (p0 : List Int × Int × List Int × (List (Int × Int × Int))) (p1 : List Int) (p2 : List Int) : Option (List Int × Int) :=
  (m_reach_closure p0 p1 p2).bind fun r10 =>
  if (r10 != 0) then
    some (([] : List Int), r10)
  else
    (m_reach_flags p0 p1).bind fun r13 =>
    (iter (m_reach_Interior_l1 p0 p2) (true, r13)).bind fun o93 =>
    (m_reach_list o93).bind fun r98 =>
    some (r98, 0)
set_option maxRecDepth 100000 in
set_option maxHeartbeats 8000000 in
theorem m_reach_Interior_c {s : Sig} {p0 : List Int × Int × List Int × (List (Int × Int × Int))} {p1 : List Int} {p2 : List Int} {a1 : Option Addr} {c1 : Nat} {a2 : Option Addr} {c2 : Nat} {a3 : Option Addr} {c3 : Nat} {a4 : Option Addr} {c4 : Nat} {a5 : Option Addr} {c5 : Nat} {u0 : Nat} {r : List Int × Int} (h1 : RdL (rK .i64) s a1 c1 p0.1) (h2 : RdL (rK .i64) s a2 c2 p0.2.2.1) (h3 : RdL (rP (rK .i64) (rP (rK .i64) (rK .i64))) s a3 c3 p0.2.2.2) (h4 : RdL (rK .i64) s a4 c4 p1) (h5 : RdL (rK .i64) s a5 c5 p2) (hm : m_reach_Interior p0 p1 p2 = some r) :
    Calls Tryd.prog 74 #[.agg #[.slice a1 p0.1.length c1, .int .i64 p0.2.1, .slice a2 p0.2.2.1.length c2, .slice a3 p0.2.2.2.length c3], .slice a4 p1.length c4, .slice a5 p2.length c5] s.w (RetS No s fun v s' => ∃ (a6 : Option Addr) (c6 : Nat), v = .tuple #[.slice a6 r.1.length c6, .int .i64 r.2] ∧ RowT (rK .i64) s' u0 3 a6 c6 r.1) := by
 unfold m_reach_Interior at hm
 obtain ⟨N, hN, hNb⟩ := s.fresh
 have m0 : Mv (Up N No) s s := Mv.refl _ _
 refine E.entry Tryd.func74 rfl Tryd.ntmps74 rfl rfl (E.seq (E.reg (L.box (N + 0) Wt.no rfl rfl rfl fun b7 s8 m9 bx7 => ?_)))
 replace m0 := m0.trans m9.no
 replace h4 := h4.mono (m9.le no_No)
 replace h5 := h5.mono (m9.le no_No)
 replace h1 := h1.mono (m9.le no_No)
 replace h2 := h2.mono (m9.le no_No)
 replace h3 := h3.mono (m9.le no_No)
 refine L.as Wt.no rfl rfl (L.as Wt.no rfl rfl (L.nil (X.seqN (E.seq (E.seq (E.reg (L.lg (j := 0) (cs := [.slice a1 p0.1.length c1, .int .i64 p0.2.1, .slice a2 p0.2.2.1.length c2, .slice a3 p0.2.2.2.length c3]) bx7.mem ag34 Wt.no rfl rfl rfl rfl rfl (L.mv Wt.no rfl rfl (L.mv Wt.no rfl rfl ?_)))))))))
 obtain ⟨r10, er10, hm⟩ := bindS hm
 refine L.ca cf85 rfl rfl Wt.no rfl (m_reach_closure_c (s := s8) (p0 := p0) (p1 := p1) (p2 := p2) h1 h2 h3 h4 h5 er10) rfl ?_
 rintro _ s11 m12 rfl
 replace m0 := m0.trans m12.no
 replace h4 := h4.mono (m12.le no_No)
 replace h5 := h5.mono (m12.le no_No)
 replace bx7 := bx7.mv m12 no_No
 replace h1 := h1.mono (m12.le no_No)
 replace h2 := h2.mono (m12.le no_No)
 replace h3 := h3.mono (m12.le no_No)
 refine L.as Wt.no rfl rfl (L.nil (X.seqN (E.seq (E.reg (L.mv Wt.no rfl rfl (L.bi Wt.no rfl rfl rfl rfl (L.nil (X.seqN ?_))))))))
 rcases ifS hm with ⟨hc, hm⟩ | ⟨hc, hm⟩
 ·refine E.cT rfl hc (E.seq (E.reg (L.mv Wt.no rfl rfl (L.as Wt.no rfl rfl (L.as Wt.no rfl rfl (L.nil (X.seqN (E.ret (X.seqR ?_)))))))))
  obtain rfl := Option.some.inj hm
  exact X.rt (.inl rfl) Tryd.results74 (Rs.tmp rfl (Rs.tmp rfl Rs.nil)) rfl ⟨_, (s11).ren N (fun _ => 0), rfl, rfl, m0.ren hNb, ⟨none, 0, rfl, RowT.nil⟩⟩
 refine E.cF rfl hc (E.skip (X.seqN (E.seq (E.reg (L.lg (j := 0) (cs := [.slice a1 p0.1.length c1, .int .i64 p0.2.1, .slice a2 p0.2.2.1.length c2, .slice a3 p0.2.2.2.length c3]) bx7.mem ag34 Wt.no rfl rfl rfl rfl rfl (L.mv Wt.no rfl rfl ?_))))))
 obtain ⟨r13, er13, hm⟩ := bindS hm
 refine L.ca cf54 rfl rfl Wt.no rfl (m_reach_flags_c (s := s11) (p0 := p0) (p1 := p1) (u0 := (N + 2)) h1 h2 h3 h4 er13) rfl ?_
 rintro _ s14 m15 ⟨a16, c16, rfl, h16⟩
 replace m0 := m0.trans m15.no
 replace h5 := h5.mono (m15.le no_No)
 replace bx7 := bx7.mv m15 no_No
 replace h1 := h1.mono (m15.le no_No)
 replace h2 := h2.mono (m15.le no_No)
 replace h3 := h3.mono (m15.le no_No)
 refine L.as Wt.no rfl rfl (L.nil (X.seqN (E.seq (E.seq (E.reg (L.as Wt.no rfl rfl (L.nil (X.seqN (E.block ?_)))))))))
 obtain ⟨o93, eo93, hm⟩ := bindS hm
 refine E.cut (x := .exit 0) (fun e w => ∃ (s96 : Sig), Mv (Up N No) s s96 ∧ RowT rB s96 (N + 2) 4 a16 c16 o93 ∧ e = [(9, .slice a16 o93.length c16)] ∧ w = s96.w) ?_ ?_
 ·rintro _ _ ⟨s96, m0, h16, rfl, rfl⟩
  refine X.blkE (X.seqN (E.seq (E.reg (L.mv Wt.no rfl rfl ?_))))
  have m97 := Sig.fz_mv (N + 2) s96
  replace h16 := h16.fz (tgn hN)
  replace m0 := m0.trans (m97.one up)
  refine L.toR (s' := (Sig.fz (N + 2) s96)) rfl ?_
  obtain ⟨r98, er98, hm⟩ := bindS hm
  refine L.ca cf86 rfl rfl Wt.no rfl (m_reach_list_c (s := (Sig.fz (N + 2) s96)) (p0 := o93) (u0 := (N + 3)) h16 er98) rfl ?_
  rintro _ s99 m100 ⟨a101, c101, rfl, h101⟩
  replace m0 := m0.trans m100.no
  refine L.as Wt.no rfl rfl (L.as Wt.no rfl rfl (L.nil (X.seqN (E.ret ?_))))
  obtain rfl := Option.some.inj hm
  exact X.rt (.inl rfl) Tryd.results74 (Rs.tmp rfl (Rs.tmp rfl Rs.nil)) rfl ⟨_, (s99).ren N (fun k => cond (Nat.beq k 3) u0 (0)), rfl, rfl, m0.ren hNb, ⟨a101, c101, rfl, (h101.ren hN)⟩⟩
 intro K102
 refine E.iter (fun (st93 : Bool × List Bool) (e : List (Nat × Value)) (w : World) => ∃ (s95 : Sig), Mv (Up N No) s s95 ∧ RowT rB s95 (N + 2) 4 a16 c16 st93.2 ∧ RdL (rK .i64) s95 a5 c5 p2 ∧ RdL (rK .i64) s95 a1 c1 p0.1 ∧ RdL (rK .i64) s95 a2 c2 p0.2.2.1 ∧ RdL (rP (rK .i64) (rP (rK .i64) (rK .i64))) s95 a3 c3 p0.2.2.2 ∧ Bx s95 (N + 0) b7 #[.slice a1 p0.1.length c1, .int .i64 p0.2.1, .slice a2 p0.2.2.1.length c2, .slice a3 p0.2.2.2.length c3] 34 ∧ e = [(10, .bool st93.1), (9, .slice a16 st93.2.length c16), (3, .pointer (some ⟨b7, 0, none⟩)), (2, .slice a5 p2.length c5)] ∧ w = s95.w) eo93 ⟨s14, m0, h16, h5, h1, h2, h3, bx7, rfl, rfl⟩ (Sub.rf rfl) ?_
 rintro st93 res93 hm ih93 ho93 _ _ ⟨s95, m0, h16, h5, h1, h2, h3, bx7, rfl, rfl⟩
 unfold m_reach_Interior_l1 at hm
 refine E.seq (E.seq (E.reg (L.mv Wt.no rfl rfl (L.nil (X.seqN ?_)))))
 rcases ifS hm with ⟨hc, hm⟩ | ⟨hc, hm⟩
 ·refine E.cT rfl hc (E.skip (X.seqN (E.block (E.seq (E.reg (L.as Wt.no rfl rfl (L.nil (X.seqN (E.seq (E.reg (L.fa fa34_3 Wt.no rfl rfl (L.ld (j := 3) bx7.mem nag32 Wt.no rfl rfl rfl rfl (L.len sl32 Wt.no rfl rfl (L.mv Wt.no rfl rfl (L.nil (X.seqN (E.block ?_)))))))))))))))))
  obtain ⟨o139, eo139, hm⟩ := bindS hm
  refine E.cut (x := .exit 2) (fun e w => ∃ (s143 : Sig), Mv (Up N No) s s143 ∧ RowT rB s143 (N + 2) 4 a16 c16 o139.2 ∧ RdL (rK .i64) s143 a5 c5 p2 ∧ RdL (rK .i64) s143 a1 c1 p0.1 ∧ RdL (rK .i64) s143 a2 c2 p0.2.2.1 ∧ RdL (rP (rK .i64) (rP (rK .i64) (rK .i64))) s143 a3 c3 p0.2.2.2 ∧ Bx s143 (N + 0) b7 #[.slice a1 p0.1.length c1, .int .i64 p0.2.1, .slice a2 p0.2.2.1.length c2, .slice a3 p0.2.2.2.length c3] 34 ∧ e = [(10, .bool o139.1), (9, .slice a16 o139.2.length c16), (3, .pointer (some ⟨b7, 0, none⟩)), (2, .slice a5 p2.length c5)] ∧ w = s143.w) ?_ ?_
  ·rintro _ _ ⟨s143, m0, h16, h5, h1, h2, h3, bx7, rfl, rfl⟩
   exact X.blkE (X.blkN (X.sub (ih93 _ (Option.some.inj hm).symm _ _ ⟨s143, m0, h16, h5, h1, h2, h3, bx7, rfl, rfl⟩) (Sub.rf rfl)))
  intro K144
  refine E.iter (fun (st139 : Int × Bool × List Bool) (e : List (Nat × Value)) (w : World) => ∃ (s142 : Sig), Mv (Up N No) s s142 ∧ RdL (rP (rK .i64) (rP (rK .i64) (rK .i64))) s142 a3 c3 p0.2.2.2 ∧ RowT rB s142 (N + 2) 4 a16 c16 st139.2.2 ∧ RdL (rK .i64) s142 a5 c5 p2 ∧ RdL (rK .i64) s142 a1 c1 p0.1 ∧ RdL (rK .i64) s142 a2 c2 p0.2.2.1 ∧ Bx s142 (N + 0) b7 #[.slice a1 p0.1.length c1, .int .i64 p0.2.1, .slice a2 p0.2.2.1.length c2, .slice a3 p0.2.2.2.length c3] 34 ∧ e = [(27, .int .i64 st139.1), (26, .int .i64 (p0.2.2.2.length : Int)), (25, .slice a3 p0.2.2.2.length c3), (10, .bool st139.2.1), (9, .slice a16 st139.2.2.length c16), (3, .pointer (some ⟨b7, 0, none⟩)), (2, .slice a5 p2.length c5)] ∧ w = s142.w) eo139 ⟨s95, m0, h3, h16, h5, h1, h2, bx7, rfl, rfl⟩ (Sub.rf rfl) ?_
  rintro st139 res139 hm ih139 ho139 _ _ ⟨s142, m0, h3, h16, h5, h1, h2, bx7, rfl, rfl⟩
  unfold m_reach_Interior_l2 at hm
  refine E.seq (E.reg (L.bi Wt.no rfl rfl rfl rfl (L.nil (X.seqN (E.seq ?_)))))
  rcases ifS hm with ⟨hc, hm⟩ | ⟨hc, hm⟩
  ·refine E.cT rfl hc (E.skip (X.seqN (E.seqJ (fun e w => ∃ (s147 : Sig) (b145 : Bool) (l146 : List Bool), m_reach_Interior_j1 st139 b145 l146 = some res139 ∧ Mv (Up N No) s s147 ∧ RowT rB s147 (N + 2) 4 a16 c16 l146 ∧ RdL (rP (rK .i64) (rP (rK .i64) (rK .i64))) s147 a3 c3 p0.2.2.2 ∧ RdL (rK .i64) s147 a5 c5 p2 ∧ RdL (rK .i64) s147 a1 c1 p0.1 ∧ RdL (rK .i64) s147 a2 c2 p0.2.2.1 ∧ Bx s147 (N + 0) b7 #[.slice a1 p0.1.length c1, .int .i64 p0.2.1, .slice a2 p0.2.2.1.length c2, .slice a3 p0.2.2.2.length c3] 34 ∧ e = [(10, .bool b145), (9, .slice a16 l146.length c16), (27, .int .i64 st139.1), (26, .int .i64 (p0.2.2.2.length : Int)), (25, .slice a3 p0.2.2.2.length c3), (3, .pointer (some ⟨b7, 0, none⟩)), (2, .slice a5 p2.length c5)] ∧ w = s147.w) ?_ ?_)))
   ·rintro _ _ ⟨s147, b145, l146, hm, m0, h16, h3, h5, h1, h2, bx7, rfl, rfl⟩
    unfold m_reach_Interior_j1 at hm
    exact E.reg (L.bi Wt.no rfl rfl rfl rfl (L.mv Wt.no rfl rfl (L.nil (X.sub (ih139 _ (Option.some.inj hm).symm _ _ ⟨s147, m0, h3, h16, h5, h1, h2, bx7, rfl, rfl⟩) (Sub.rf rfl)))))
   intro Jj148
   refine E.block (E.seq (E.reg ?_))
   obtain ⟨x149, ex149, hm⟩ := bindS hm
   refine L.ix (r := (rP (rK .i64) (rP (rK .i64) (rK .i64)))) sl32 h3 Wt.no rfl rfl ex149 rfl fun b150 o150 cc150 me150 rd150 => ?_
   obtain ⟨_, _, rfl, rfl, ⟨_, _, rfl, rfl, rfl⟩⟩ := rd150
   refine L.lg (j := 0) (cs := [.int .i64 x149.1, .int .i64 x149.2.1, .int .i64 x149.2.2]) me150 ag58 Wt.no rfl rfl rfl rfl rfl (L.al (N + 1) zz58 rfl Wt.no rfl fun b151 s152 m153 bx151 => ?_)
   replace m0 := m0.trans m153.no
   replace h5 := h5.mono (m153.le no_No)
   replace h16 := h16.mv m153 no_No no_No
   replace h3 := h3.mono (m153.le no_No)
   replace bx7 := bx7.mv m153 no_No
   replace h1 := h1.mono (m153.le no_No)
   replace h2 := h2.mono (m153.le no_No)
   refine L.st (c := [.int .i64 x149.1, .int .i64 x149.2.1, .int .i64 x149.2.2]) (cs' := #[.int .i64 x149.1, .int .i64 x149.2.1, .int .i64 x149.2.2]) bx151 ag58.sz Wt.no rfl rfl rfl rfl rfl (Nat.le_of_ble_eq_true rfl) rfl fun s154 m155 bx151 => ?_
   replace m0 := m0.trans (m155.one up)
   replace h5 := h5.mono (m155.le (tg0 hN))
   replace h16 := h16.mv m155 (tgN (by decide)) (tg0 hN)
   replace h3 := h3.mono (m155.le (tg0 hN))
   replace bx7 := bx7.mv m155 (tgN (by decide))
   replace h1 := h1.mono (m155.le (tg0 hN))
   replace h2 := h2.mono (m155.le (tg0 hN))
   refine L.nil (X.seqN (E.seq (E.reg (L.mv Wt.no rfl rfl (L.fa fa58_0 Wt.no rfl rfl (L.ld (j := 0) bx151.mem nag3 Wt.no rfl rfl rfl rfl ?_))))))
   obtain ⟨x156, ex156, hm⟩ := bindS hm
   refine L.ir (r := rB) sl77 h16 Wt.no rfl rfl ex156 rfl fun b157 o157 cc157 me157 rd157 sp157 => ?_
   obtain rfl := rd157
   refine L.ld (j := 0) me157 nag4 Wt.no rfl rfl rfl rfl (L.mv Wt.no rfl rfl ?_)
   obtain ⟨b158, eb158, hm⟩ := bindS hm
   refine L.cut 7 (fun e w => ∃ (v159 : Bool), b158 = v159 ∧ e = (43, .bool v159) :: [(12, .pointer (some ⟨b151, 0, none⟩)), (27, .int .i64 st139.1), (26, .int .i64 (p0.2.2.2.length : Int)), (25, .slice a3 p0.2.2.2.length c3), (10, .bool st139.2.1), (9, .slice a16 st139.2.2.length c16), (3, .pointer (some ⟨b7, 0, none⟩)), (2, .slice a5 p2.length c5)] ∧ w = s154.w) ?_ ?_
   ·rintro _ _ ⟨v159, rfl, rfl, rfl⟩
    refine L.mv Wt.no rfl rfl ?_
    obtain ⟨b160, eb160, hm⟩ := bindS hm
    refine L.cut 5 (fun e w => ∃ (s162 : Sig) (v161 : Bool), b160 = v161 ∧ Mv (Up N No) s s162 ∧ RdL (rP (rK .i64) (rP (rK .i64) (rK .i64))) s162 a3 c3 p0.2.2.2 ∧ RowT rB s162 (N + 2) 4 a16 c16 st139.2.2 ∧ RdL (rK .i64) s162 a5 c5 p2 ∧ RdL (rK .i64) s162 a1 c1 p0.1 ∧ RdL (rK .i64) s162 a2 c2 p0.2.2.1 ∧ Bx s162 (N + 0) b7 #[.slice a1 p0.1.length c1, .int .i64 p0.2.1, .slice a2 p0.2.2.1.length c2, .slice a3 p0.2.2.2.length c3] 34 ∧ Bx s162 (N + 1) b151 #[.int .i64 x149.1, .int .i64 x149.2.1, .int .i64 x149.2.2] 58 ∧ e = (49, .bool v161) :: [(12, .pointer (some ⟨b151, 0, none⟩)), (27, .int .i64 st139.1), (26, .int .i64 (p0.2.2.2.length : Int)), (25, .slice a3 p0.2.2.2.length c3), (10, .bool st139.2.1), (9, .slice a16 st139.2.2.length c16), (3, .pointer (some ⟨b7, 0, none⟩)), (2, .slice a5 p2.length c5)] ∧ w = s162.w) ?_ ?_
    ·rintro _ _ ⟨s162, v161, rfl, m0, h3, h16, h5, h1, h2, bx7, bx151, rfl, rfl⟩
     refine L.nil (X.seqN ?_)
     rcases ifS hm with ⟨hc, hm⟩ | ⟨hc, hm⟩
     ·refine E.cT rfl hc (E.seq (E.reg (L.mv Wt.no rfl rfl (L.fa fa58_0 Wt.no rfl rfl (L.ld (j := 0) bx151.mem nag3 Wt.no rfl rfl rfl rfl ?_)))))
      obtain ⟨x163, ex163, hm⟩ := bindS hm
      refine L.ir (r := rB) sl77 h16 Wt.no rfl rfl ex163 rfl fun b164 o164 cc164 me164 rd164 sp164 => ?_
      obtain rfl := rd164
      obtain ⟨x165, ex165, hm⟩ := bindS hm
      have elx165 := upd_len ex165
      refine L.su (fo := 0) (c := [.bool false]) (z := false) h16 sp164 ex163 ex165 (tgp hN) nag4.sz Wt.no rfl rfl rfl rfl rfl rfl (fun c0 hc0 => by obtain rfl := hc0; exact rfl) fun s166 m167 h16 => ?_
      replace m0 := m0.trans (m167.one up)
      replace h5 := h5.mono (m167.le (tg0 hN))
      replace h3 := h3.mono (m167.le (tg0 hN))
      replace bx7 := bx7.mv m167 (tgN (by decide))
      replace h1 := h1.mono (m167.le (tg0 hN))
      replace h2 := h2.mono (m167.le (tg0 hN))
      exact L.reval (d := 9) rfl elx165 (L.nil (X.seqN (E.reg (L.as Wt.no rfl rfl (L.nil (X.blkN (X.sub (Jj148 _ _ ⟨s166, true, x165, hm, m0, h16, h3, h5, h1, h2, bx7, rfl, rfl⟩) (Sub.rf rfl))))))))
     exact E.cF rfl hc (E.skip (X.blkN (X.sub (Jj148 _ _ ⟨s162, st139.2.1, st139.2.2, hm, m0, h16, h3, h5, h1, h2, bx7, rfl, rfl⟩) (Sub.rf rfl))))
    intro J168
    rcases ifS eb160 with ⟨hc, hm⟩ | ⟨hc, hm⟩
    ·refine L.know (d := 44) rfl hc (L.mv (Wt.mk rfl rfl) rfl rfl (L.fa fa58_1 (Wt.mk rfl rfl) rfl rfl (L.ld (j := 1) bx151.mem nag3 (Wt.mk rfl rfl) rfl rfl rfl rfl ?_)))
     obtain ⟨r169, er169, hm⟩ := bindS hm
     refine L.ca cf83 rfl rfl (Wt.mk rfl rfl) rfl (m_slices_Contains_int_c (s := s154) (p0 := p2) (p1 := x149.2.1) h5 er169) rfl ?_
     rintro _ s170 m171 rfl
     replace m0 := m0.trans m171.no
     replace h5 := h5.mono (m171.le no_No)
     replace h16 := h16.mv m171 no_No no_No
     replace h3 := h3.mono (m171.le no_No)
     replace bx7 := bx7.mv m171 no_No
     replace h1 := h1.mono (m171.le no_No)
     replace h2 := h2.mono (m171.le no_No)
     replace bx151 := bx151.mv m171 no_No
     exact L.pkT Wt.no rfl rfl rfl rfl (L.sb (J168 _ _ ⟨s170, r169, (Option.some.inj hm).symm, m0, h3, h16, h5, h1, h2, bx7, bx151, rfl, rfl⟩) rfl)
    exact L.know (d := 44) rfl hc (L.skip rfl rfl rfl rfl (L.skip rfl rfl rfl rfl (L.skip rfl rfl rfl rfl (L.skip rfl rfl rfl rfl (L.pkF Wt.no rfl rfl rfl rfl (L.sb (J168 _ _ ⟨s154, false, (Option.some.inj hm).symm, m0, h3, h16, h5, h1, h2, bx7, bx151, rfl, rfl⟩) rfl))))))
   intro J172
   rcases ifS eb158 with ⟨hc, hm⟩ | ⟨hc, hm⟩
   ·refine L.know (d := 36) rfl hc (L.mv (Wt.mk rfl rfl) rfl rfl (L.fa fa58_2 (Wt.mk rfl rfl) rfl rfl (L.ld (j := 2) bx151.mem nag3 (Wt.mk rfl rfl) rfl rfl rfl rfl ?_)))
    obtain ⟨x173, ex173, hm⟩ := bindS hm
    refine L.ir (r := rB) sl77 h16 (Wt.mk rfl rfl) rfl rfl ex173 rfl fun b174 o174 cc174 me174 rd174 sp174 => ?_
    obtain rfl := rd174
    exact L.ld (j := 0) me174 nag4 (Wt.mk rfl rfl) rfl rfl rfl rfl (L.not (Wt.mk rfl rfl) rfl rfl (L.pkT Wt.no rfl rfl rfl rfl (L.sb (J172 _ _ ⟨(!x173), (Option.some.inj hm).symm, rfl, rfl⟩) rfl)))
   exact L.know (d := 36) rfl hc (L.skip rfl rfl rfl rfl (L.skip rfl rfl rfl rfl (L.skip rfl rfl rfl rfl (L.skip rfl rfl rfl rfl (L.skip rfl rfl rfl rfl (L.skip rfl rfl rfl rfl (L.pkF Wt.no rfl rfl rfl rfl (L.sb (J172 _ _ ⟨false, (Option.some.inj hm).symm, rfl, rfl⟩) rfl))))))))
  refine E.cF rfl hc (E.exit (X.seqX (X.seqX ?_)))
  have hx := ho139 _ (Option.some.inj hm).symm
  subst hx
  exact X.sub (K144 _ _ ⟨s142, m0, h16, h5, h1, h2, h3, bx7, rfl, rfl⟩) (Sub.rf rfl)
 refine E.cF rfl hc (E.exit (X.seqX (X.seqX ?_)))
 have hx := ho93 _ (Option.some.inj hm).symm
 subst hx
 exact X.sub (K102 _ _ ⟨s95, m0, h16, rfl, rfl⟩) (Sub.rf rfl)

noncomputable def m_overseerlaw04_same_l1 (p0 : List Int) (p1 : List Int) (st19 : Int) : Option (Int ⊕ (Unit ⊕ Unit)) :=
  if decide (st19 < (p0.length : Int)) then
    (idx p0 st19).bind fun x30 =>
    (idx p1 st19).bind fun x36 =>
    if (x30 != x36) then
      some (.inr (.inr (())))
    else
      some (.inl (W (st19 + 1)))
  else
    some (.inr (.inl ()))
/-- What overseerlaw04.same computes. -/
noncomputable def m_overseerlaw04_same (p0 : List Int) (p1 : List Int) : Option Bool :=
  if ((p0.length : Int) != (p1.length : Int)) then
    some false
  else
    (iter (m_overseerlaw04_same_l1 p0 p1) 0).bind fun o19 =>
    match o19 with
    | .inl u21 =>
      some true
    | .inr (u24) =>
      some false
set_option maxRecDepth 100000 in
set_option maxHeartbeats 8000000 in
theorem m_overseerlaw04_same_c {s : Sig} {p0 : List Int} {p1 : List Int} {a1 : Option Addr} {c1 : Nat} {a2 : Option Addr} {c2 : Nat} {r : Bool} (h1 : RdL (rK .i64) s a1 c1 p0) (h2 : RdL (rK .i64) s a2 c2 p1) (hm : m_overseerlaw04_same p0 p1 = some r) :
    Calls Tryd.prog 75 #[.slice a1 p0.length c1, .slice a2 p1.length c2] s.w (RetS No s fun v s' => v = .bool r) := by
 unfold m_overseerlaw04_same at hm
 obtain ⟨N, hN, hNb⟩ := s.fresh
 have m0 : Mv (Up N No) s s := Mv.refl _ _
 refine E.entry Tryd.func75 rfl Tryd.ntmps75 rfl rfl (E.seq (E.reg (L.as Wt.no rfl rfl (L.nil (X.seqN (E.seq (E.seq (E.reg (L.mv Wt.no rfl rfl (L.len sl31 Wt.no rfl rfl (L.mv Wt.no rfl rfl (L.len sl31 Wt.no rfl rfl (L.bi Wt.no rfl rfl rfl rfl (L.nil (X.seqN ?_)))))))))))))))
 rcases ifS hm with ⟨hc, hm⟩ | ⟨hc, hm⟩
 ·refine E.cT rfl hc (E.seq (E.reg (L.as Wt.no rfl rfl (L.nil (X.seqN (E.ret (X.seqR ?_)))))))
  obtain rfl := Option.some.inj hm
  exact X.rt (.inl rfl) Tryd.results75 (Rs.tmp rfl Rs.nil) rfl ⟨_, (s).ren N (fun _ => 0), rfl, rfl, m0.ren hNb, rfl⟩
 refine E.cF rfl hc (E.skip (X.seqN (E.seq (E.seq (E.reg (L.as Wt.no rfl rfl (L.nil (X.seqN (E.block ?_)))))))))
 obtain ⟨o19, eo19, hm⟩ := bindS hm
 refine E.cut (x := .exit 0) (fun e w => ∃ (s22 : Sig) (u21 : Unit), o19 = .inl u21 ∧ Mv (Up N No) s s22 ∧ e = [] ∧ w = s22.w) ?_ ?_
 ·rintro _ _ ⟨s22, u21, rfl, m0, rfl, rfl⟩
  dsimp only at hm
  refine X.blkE (X.seqN (E.seq (E.reg (L.as Wt.no rfl rfl (L.nil (X.seqN (E.ret ?_)))))))
  obtain rfl := Option.some.inj hm
  exact X.rt (.inl rfl) Tryd.results75 (Rs.tmp rfl Rs.nil) rfl ⟨_, (s22).ren N (fun _ => 0), rfl, rfl, m0.ren hNb, rfl⟩
 intro K23
 refine E.cut (x := .ret) (fun e w => ∃ (s25 : Sig) (u24 : Unit), o19 = .inr (u24) ∧ Mv (Up N No) s s25 ∧ e = [(4, .bool false)] ∧ w = s25.w) ?_ ?_
 ·rintro _ _ ⟨s25, u24, rfl, m0, rfl, rfl⟩
  dsimp only at hm
  refine X.blkR (X.seqR ?_)
  obtain rfl := Option.some.inj hm
  exact X.rt (.inl rfl) Tryd.results75 (Rs.tmp rfl Rs.nil) rfl ⟨_, (s25).ren N (fun _ => 0), rfl, rfl, m0.ren hNb, rfl⟩
 intro K26
 refine E.iter (fun (st19 : Int) (e : List (Nat × Value)) (w : World) => ∃ (s20 : Sig), Mv (Up N No) s s20 ∧ RdL (rK .i64) s20 a1 c1 p0 ∧ RdL (rK .i64) s20 a2 c2 p1 ∧ e = [(5, .int .i64 st19), (0, .slice a1 p0.length c1), (1, .slice a2 p1.length c2)] ∧ w = s20.w) eo19 ⟨s, m0, h1, h2, rfl, rfl⟩ (Sub.rf rfl) ?_
 rintro st19 res19 hm ih19 ho19 _ _ ⟨s20, m0, h1, h2, rfl, rfl⟩
 unfold m_overseerlaw04_same_l1 at hm
 refine E.seq (E.seq (E.reg (L.mv Wt.no rfl rfl (L.mv Wt.no rfl rfl (L.len sl31 Wt.no rfl rfl (L.bi Wt.no rfl rfl rfl rfl (L.nil (X.seqN ?_))))))))
 rcases ifS hm with ⟨hc, hm⟩ | ⟨hc, hm⟩
 ·refine E.cT rfl hc (E.skip (X.seqN (E.seq (E.block (E.seq ?_)))))
  obtain ⟨x30, ex30, hm⟩ := bindS hm
  obtain ⟨x36, ex36, hm⟩ := bindS hm
  refine E.draw [[], [], [0, 1], [0, 1, 2], [], [], [4, 5], [4, 5, 6], [0, 1, 2, 3, 4, 5, 6, 7]] (fun D e sx => Mv No s20 sx ∧ Sub [(5, .int .i64 st19), (0, .slice a1 p0.length c1), (1, .slice a2 p1.length c2)] e ∧ AllP [G D e 0 17 (.slice a1 p0.length c1), G D e 1 18 (.int .i64 st19), D 2 = true → (∃ (b31 : Nat) (o31 : Nat), Env.get e 19 = some (.pointer (some ⟨b31, o31, none⟩)) ∧ Mem sx 0 b31 o31 [.int .i64 x30]), G D e 3 20 (.int .i64 x30), G D e 4 21 (.slice a2 p1.length c2), G D e 5 22 (.int .i64 st19), D 6 = true → (∃ (b37 : Nat) (o37 : Nat), Env.get e 23 = some (.pointer (some ⟨b37, o37, none⟩)) ∧ Mem sx 0 b37 o37 [.int .i64 x36]), G D e 7 24 (.int .i64 x36), G D e 8 25 (.bool (x30 != x36))]) (by kernel_rfl) (by kernel_rfl) (by kernel_rfl) ?_ ?_ ?_
  ·intro sz mz
   exact ⟨mz, (Sub.rf rfl), nofun, nofun, nofun, nofun, nofun, nofun, nofun, nofun, nofun, trivial⟩
  ·refine ⟨?_, ?_, ?_, ?_, ?_, ?_, ?_, ?_, ?_, trivial⟩
   ·rintro D e s27 ⟨im, ib, i⟩ hk hf ha
    have kn := K1 (ib 0 _ rfl)
    exact L.kns _ kn (L.mv Wt.no rfl rfl (L.nil (X.dk kn ⟨im, Sub.fresh ib rfl, i.u 0 (fun _ => rfl)⟩)))
   ·rintro D e s28 ⟨im, ib, i⟩ hk hf ha
    have kn := K1 (ib 5 _ rfl)
    exact L.kns _ kn (L.mv Wt.no rfl rfl (L.nil (X.dk kn ⟨im, Sub.fresh ib rfl, i.u 1 (fun _ => rfl)⟩)))
   ·rintro D e s29 ⟨im, ib, i⟩ hk hf ha
    have h1 := h1.mono (im.le no_No)
    have kn := K2 ((i.p 0) (ha.at 0 rfl)) ((i.p 1) (ha.at 1 rfl))
    refine L.kns _ kn (L.ix (r := (rK .i64)) sl31 h1 Wt.no rfl rfl ex30 rfl fun b31 o31 cc31 me31 rd31 => ?_)
    obtain rfl := rd31
    exact L.nil (X.dk kn ⟨im, Sub.fresh ib rfl, i.u 2 (fun _ => ⟨b31, o31, rfl, me31⟩)⟩)
   ·rintro D e s32 ⟨im, ib, i⟩ hk hf ha
    obtain ⟨b31, o31, g2_, me31⟩ := (i.p 2) (ha.at 2 rfl)
    have kn := K1 g2_
    exact L.kns _ kn (L.ld (j := 0) me31 nag3 Wt.no rfl rfl rfl rfl (L.nil (X.dk kn ⟨im, Sub.fresh ib rfl, i.u 3 (fun _ => rfl)⟩)))
   ·rintro D e s33 ⟨im, ib, i⟩ hk hf ha
    have kn := K1 (ib 1 _ rfl)
    exact L.kns _ kn (L.mv Wt.no rfl rfl (L.nil (X.dk kn ⟨im, Sub.fresh ib rfl, i.u 4 (fun _ => rfl)⟩)))
   ·rintro D e s34 ⟨im, ib, i⟩ hk hf ha
    have kn := K1 (ib 5 _ rfl)
    exact L.kns _ kn (L.mv Wt.no rfl rfl (L.nil (X.dk kn ⟨im, Sub.fresh ib rfl, i.u 5 (fun _ => rfl)⟩)))
   ·rintro D e s35 ⟨im, ib, i⟩ hk hf ha
    have h2 := h2.mono (im.le no_No)
    have kn := K2 ((i.p 4) (ha.at 4 rfl)) ((i.p 5) (ha.at 5 rfl))
    refine L.kns _ kn (L.ix (r := (rK .i64)) sl31 h2 Wt.no rfl rfl ex36 rfl fun b37 o37 cc37 me37 rd37 => ?_)
    obtain rfl := rd37
    exact L.nil (X.dk kn ⟨im, Sub.fresh ib rfl, i.u 6 (fun _ => ⟨b37, o37, rfl, me37⟩)⟩)
   ·rintro D e s38 ⟨im, ib, i⟩ hk hf ha
    obtain ⟨b37, o37, g6_, me37⟩ := (i.p 6) (ha.at 6 rfl)
    have kn := K1 g6_
    exact L.kns _ kn (L.ld (j := 0) me37 nag3 Wt.no rfl rfl rfl rfl (L.nil (X.dk kn ⟨im, Sub.fresh ib rfl, i.u 7 (fun _ => rfl)⟩)))
   rintro D e s39 ⟨im, ib, i⟩ hk hf ha
   have kn := K2 ((i.p 3) (ha.at 3 rfl)) ((i.p 7) (ha.at 7 rfl))
   exact L.kns _ kn (L.bi Wt.no rfl rfl rfl rfl (L.nil (X.dk kn ⟨im, Sub.fresh ib rfl, i.u 8 (fun _ => rfl)⟩)))
  rintro D e s40 hD ⟨im, ib, i⟩
  have g8_ := (i.p 8) (hD 8 rfl)
  have h1 := h1.mono (im.le no_No)
  have h2 := h2.mono (im.le no_No)
  have m0 := m0.trans im.no
  refine X.sub (e' := [(25, .bool (x30 != x36)), (5, .int .i64 st19), (0, .slice a1 p0.length c1), (1, .slice a2 p1.length c2)]) ?_ (Sub.cons g8_ (Sub.cons (ib 5 _ rfl) (Sub.cons (ib 0 _ rfl) (Sub.cons (ib 1 _ rfl) Sub.nil))))
  refine X.seqN ?_
  rcases ifS hm with ⟨hc, hm⟩ | ⟨hc, hm⟩
  ·refine E.cT rfl hc (E.seq (E.reg (L.as Wt.no rfl rfl (L.nil (X.seqN (E.ret (X.blkR (X.seqR (X.seqR ?_)))))))))
   have hx := ho19 _ (Option.some.inj hm).symm
   exact X.sub (K26 _ _ ⟨s40, (), hx.symm, m0, rfl, rfl⟩) (Sub.rf rfl)
  exact E.cF rfl hc (E.skip (X.blkN (X.seqN (E.reg (L.mv Wt.no rfl rfl (L.bi Wt.no rfl rfl rfl rfl (L.as Wt.no rfl rfl (L.nil (X.sub (ih19 _ (Option.some.inj hm).symm _ _ ⟨s40, m0, h1, h2, rfl, rfl⟩) (Sub.rf rfl))))))))))
 refine E.cF rfl hc (E.exit (X.seqX (X.seqX ?_)))
 have hx := ho19 _ (Option.some.inj hm).symm
 exact X.sub (K23 _ _ ⟨s20, (), hx.symm, m0, rfl, rfl⟩) Sub.nil

theorem cf71 : Cf Tryd.prog 71 := Cf.mk Tryd.func71 (by kernel_rfl) (by kernel_rfl)
theorem cf72 : Cf Tryd.prog 72 := Cf.mk Tryd.func72 (by kernel_rfl) (by kernel_rfl)
theorem cf73 : Cf Tryd.prog 73 := Cf.mk Tryd.func73 (by kernel_rfl) (by kernel_rfl)
theorem cf74 : Cf Tryd.prog 74 := Cf.mk Tryd.func74 (by kernel_rfl) (by kernel_rfl)
theorem cf75 : Cf Tryd.prog 75 := Cf.mk Tryd.func75 (by kernel_rfl) (by kernel_rfl)
/-- What overseerlaw04.known computes. -/
noncomputable def m_overseerlaw04_known : Option Bool :=
  (m_overseerlaw04_example).bind fun r1 =>
  (m_reach_Coreachable r1).bind fun r7 =>
  (m_overseerlaw04_example).bind fun r11 =>
  (m_reach_Distances r11 ([3] : List Int)).bind fun r20 =>
  (m_overseerlaw04_example).bind fun r24 =>
  (m_reach_Path r24 0 ([3] : List Int) ([0, 1, 2, 3] : List Int)).bind fun r36 =>
  (m_overseerlaw04_example).bind fun r40 =>
  (m_reach_Interior r40 ([0, 1, 2] : List Int) ([0] : List Int)).bind fun r52 =>
  (if (r7.2 == 0) then
    (m_overseerlaw04_same r7.1 ([0, 1] : List Int)).bind fun r101 =>
    some r101
  else
    some false).bind fun b56 =>
  (if (b56 && (r20.2 == 0)) then
    (m_overseerlaw04_same r20.1 ([2, (-1), 1, 0] : List Int)).bind fun r93 =>
    some r93
  else
    some false).bind fun b60 =>
  (if ((b60 && (r36.2.2 == 0)) && r36.2.1) then
    (m_overseerlaw04_same r36.1 ([1, 0] : List Int)).bind fun r84 =>
    some r84
  else
    some false).bind fun b65 =>
  (if (b65 && (r52.2 == 0)) then
    (m_overseerlaw04_same r52.1 ([0, 1] : List Int)).bind fun r76 =>
    some r76
  else
    some false).bind fun b69 =>
  some b69
set_option maxRecDepth 100000 in
set_option maxHeartbeats 8000000 in
theorem m_overseerlaw04_known_c {s : Sig} {r : Bool} (hm : m_overseerlaw04_known = some r) :
    Calls Tryd.prog 43 #[] s.w (RetS No s fun v s' => v = .bool r) := by
 unfold m_overseerlaw04_known at hm
 obtain ⟨N, hN, hNb⟩ := s.fresh
 have m0 : Mv (Up N No) s s := Mv.refl _ _
 refine E.entry Tryd.func43 rfl Tryd.ntmps43 rfl rfl (E.seq (E.reg (L.as Wt.no rfl rfl (L.nil (X.seqN (E.seq (E.reg ?_)))))))
 obtain ⟨r1, er1, hm⟩ := bindS hm
 refine L.ca cf72 rfl rfl Wt.no rfl (m_overseerlaw04_example_c (s := s) er1) rfl ?_
 rintro _ s2 m3 ⟨a4, c4, a5, c5, a6, c6, rfl, h4, h5, h6⟩
 replace m0 := m0.trans m3.no
 obtain ⟨r7, er7, hm⟩ := bindS hm
 refine L.ca cf71 rfl rfl Wt.no rfl (m_reach_Coreachable_c (s := s2) (p0 := r1) (u0 := 0) h4 h5 h6 er7) rfl ?_
 rintro _ s8 m9 ⟨a10, c10, rfl, h10⟩
 replace h10 := h10.p
 replace m0 := m0.trans m9.no
 refine L.mv Wt.no rfl rfl (L.ex Wt.no rfl rfl rfl (L.ex Wt.no rfl rfl rfl (L.as Wt.no rfl rfl (L.as Wt.no rfl rfl (L.nil (X.seqN (E.seq (E.reg ?_))))))))
 obtain ⟨r11, er11, hm⟩ := bindS hm
 refine L.ca cf72 rfl rfl Wt.no rfl (m_overseerlaw04_example_c (s := s8) er11) rfl ?_
 rintro _ s12 m13 ⟨a14, c14, a15, c15, a16, c16, rfl, h14, h15, h16⟩
 replace m0 := m0.trans m13.no
 replace h10 := h10.mono (m13.le no_No)
 refine L.bsE (k := 1) (cs := [.int .i64 3]) 0 bs31 (Nat.le_of_ble_eq_true rfl) Wt.no rfl rfl rfl rfl fun b17 s18 m19 bx17 => ?_
 replace m0 := m0.trans m19.no
 replace h14 := h14.mono (m19.le no_No)
 replace h15 := h15.mono (m19.le no_No)
 replace h16 := h16.mono (m19.le no_No)
 replace h10 := h10.mono (m19.le no_No)
 have h17 := Bx.rdL (r := (rK .i64)) (xs := ([3] : List Int)) bx17 ⟨[.int .i64 3], _, rfl, rfl, rfl⟩ (Nat.le_of_ble_eq_true rfl)
 obtain ⟨r20, er20, hm⟩ := bindS hm
 refine L.ca cf73 rfl rfl Wt.no rfl (m_reach_Distances_c (s := s18) (p0 := r11) (p1 := ([3] : List Int)) h14 h15 h16 h17 er20) rfl ?_
 rintro _ s21 m22 ⟨a23, c23, rfl, h23⟩
 replace m0 := m0.trans m22.no
 replace h10 := h10.mono (m22.le no_No)
 refine L.mv Wt.no rfl rfl (L.ex Wt.no rfl rfl rfl (L.ex Wt.no rfl rfl rfl (L.as Wt.no rfl rfl (L.as Wt.no rfl rfl (L.nil (X.seqN (E.seq (E.reg ?_))))))))
 obtain ⟨r24, er24, hm⟩ := bindS hm
 refine L.ca cf72 rfl rfl Wt.no rfl (m_overseerlaw04_example_c (s := s21) er24) rfl ?_
 rintro _ s25 m26 ⟨a27, c27, a28, c28, a29, c29, rfl, h27, h28, h29⟩
 replace m0 := m0.trans m26.no
 replace h10 := h10.mono (m26.le no_No)
 replace h23 := h23.mono (m26.le no_No)
 refine L.bsE (k := 1) (cs := [.int .i64 3]) 0 bs31 (Nat.le_of_ble_eq_true rfl) Wt.no rfl rfl rfl rfl fun b30 s31 m32 bx30 => ?_
 replace m0 := m0.trans m32.no
 replace h10 := h10.mono (m32.le no_No)
 replace h23 := h23.mono (m32.le no_No)
 replace h27 := h27.mono (m32.le no_No)
 replace h28 := h28.mono (m32.le no_No)
 replace h29 := h29.mono (m32.le no_No)
 have h30 := Bx.rdL (r := (rK .i64)) (xs := ([3] : List Int)) bx30 ⟨[.int .i64 3], _, rfl, rfl, rfl⟩ (Nat.le_of_ble_eq_true rfl)
 refine L.bsE (k := 4) (cs := [.int .i64 0, .int .i64 1, .int .i64 2, .int .i64 3]) 0 bs31 (Nat.le_of_ble_eq_true rfl) Wt.no rfl rfl rfl rfl fun b33 s34 m35 bx33 => ?_
 replace m0 := m0.trans m35.no
 replace h10 := h10.mono (m35.le no_No)
 replace h23 := h23.mono (m35.le no_No)
 replace h27 := h27.mono (m35.le no_No)
 replace h28 := h28.mono (m35.le no_No)
 replace h29 := h29.mono (m35.le no_No)
 replace h30 := h30.mono (m35.le no_No)
 have h33 := Bx.rdL (r := (rK .i64)) (xs := ([0, 1, 2, 3] : List Int)) bx33 ⟨[.int .i64 0], _, rfl, rfl, ⟨[.int .i64 1], _, rfl, rfl, ⟨[.int .i64 2], _, rfl, rfl, ⟨[.int .i64 3], _, rfl, rfl, rfl⟩⟩⟩⟩ (Nat.le_of_ble_eq_true rfl)
 obtain ⟨r36, er36, hm⟩ := bindS hm
 refine L.ca cf36 rfl rfl Wt.no rfl (m_reach_Path_c (s := s34) (p0 := r24) (p1 := 0) (p2 := ([3] : List Int)) (p3 := ([0, 1, 2, 3] : List Int)) h27 h28 h29 h30 h33 er36) rfl ?_
 rintro _ s37 m38 ⟨a39, c39, rfl, h39⟩
 replace m0 := m0.trans m38.no
 replace h10 := h10.mono (m38.le no_No)
 replace h23 := h23.mono (m38.le no_No)
 refine L.mv Wt.no rfl rfl (L.ex Wt.no rfl rfl rfl (L.ex Wt.no rfl rfl rfl (L.ex Wt.no rfl rfl rfl (L.as Wt.no rfl rfl (L.as Wt.no rfl rfl (L.as Wt.no rfl rfl (L.nil (X.seqN (E.seq (E.reg ?_))))))))))
 obtain ⟨r40, er40, hm⟩ := bindS hm
 refine L.ca cf72 rfl rfl Wt.no rfl (m_overseerlaw04_example_c (s := s37) er40) rfl ?_
 rintro _ s41 m42 ⟨a43, c43, a44, c44, a45, c45, rfl, h43, h44, h45⟩
 replace m0 := m0.trans m42.no
 replace h10 := h10.mono (m42.le no_No)
 replace h23 := h23.mono (m42.le no_No)
 replace h39 := h39.mono (m42.le no_No)
 refine L.bsE (k := 3) (cs := [.int .i64 0, .int .i64 1, .int .i64 2]) 0 bs31 (Nat.le_of_ble_eq_true rfl) Wt.no rfl rfl rfl rfl fun b46 s47 m48 bx46 => ?_
 replace m0 := m0.trans m48.no
 replace h10 := h10.mono (m48.le no_No)
 replace h23 := h23.mono (m48.le no_No)
 replace h39 := h39.mono (m48.le no_No)
 replace h43 := h43.mono (m48.le no_No)
 replace h44 := h44.mono (m48.le no_No)
 replace h45 := h45.mono (m48.le no_No)
 have h46 := Bx.rdL (r := (rK .i64)) (xs := ([0, 1, 2] : List Int)) bx46 ⟨[.int .i64 0], _, rfl, rfl, ⟨[.int .i64 1], _, rfl, rfl, ⟨[.int .i64 2], _, rfl, rfl, rfl⟩⟩⟩ (Nat.le_of_ble_eq_true rfl)
 refine L.bsE (k := 1) (cs := [.int .i64 0]) 0 bs31 (Nat.le_of_ble_eq_true rfl) Wt.no rfl rfl rfl rfl fun b49 s50 m51 bx49 => ?_
 replace m0 := m0.trans m51.no
 replace h10 := h10.mono (m51.le no_No)
 replace h23 := h23.mono (m51.le no_No)
 replace h39 := h39.mono (m51.le no_No)
 replace h43 := h43.mono (m51.le no_No)
 replace h44 := h44.mono (m51.le no_No)
 replace h45 := h45.mono (m51.le no_No)
 replace h46 := h46.mono (m51.le no_No)
 have h49 := Bx.rdL (r := (rK .i64)) (xs := ([0] : List Int)) bx49 ⟨[.int .i64 0], _, rfl, rfl, rfl⟩ (Nat.le_of_ble_eq_true rfl)
 obtain ⟨r52, er52, hm⟩ := bindS hm
 refine L.ca cf74 rfl rfl Wt.no rfl (m_reach_Interior_c (s := s50) (p0 := r40) (p1 := ([0, 1, 2] : List Int)) (p2 := ([0] : List Int)) (u0 := 0) h43 h44 h45 h46 h49 er52) rfl ?_
 rintro _ s53 m54 ⟨a55, c55, rfl, h55⟩
 replace h55 := h55.p
 replace m0 := m0.trans m54.no
 replace h10 := h10.mono (m54.le no_No)
 replace h23 := h23.mono (m54.le no_No)
 replace h39 := h39.mono (m54.le no_No)
 refine L.mv Wt.no rfl rfl (L.ex Wt.no rfl rfl rfl (L.ex Wt.no rfl rfl rfl (L.as Wt.no rfl rfl (L.as Wt.no rfl rfl (L.nil (X.seqN (E.seq (E.reg (L.mv Wt.no rfl rfl (L.bi Wt.no rfl rfl rfl rfl (L.mv Wt.no rfl rfl ?_)))))))))))
 obtain ⟨b56, eb56, hm⟩ := bindS hm
 refine L.cut 4 (fun e w => ∃ (s58 : Sig) (v57 : Bool), b56 = v57 ∧ Mv (Up N No) s s58 ∧ RdL (rK .i64) s58 a55 c55 r52.1 ∧ RdL (rK .i64) s58 a39 c39 r36.1 ∧ RdL (rK .i64) s58 a23 c23 r20.1 ∧ e = (42, .bool v57) :: [(9, .int .i64 r52.2), (8, .slice a55 r52.1.length c55), (7, .int .i64 r36.2.2), (6, .bool r36.2.1), (5, .slice a39 r36.1.length c39), (4, .int .i64 r20.2), (3, .slice a23 r20.1.length c23)] ∧ w = s58.w) ?_ ?_
 ·rintro _ _ ⟨s58, v57, rfl, m0, h55, h39, h23, rfl, rfl⟩
  refine L.mv Wt.no rfl rfl (L.cut 3 (fun e w => ∃ (v59 : Bool), (b56 && (r20.2 == 0)) = v59 ∧ e = (46, .bool v59) :: [(9, .int .i64 r52.2), (8, .slice a55 r52.1.length c55), (7, .int .i64 r36.2.2), (6, .bool r36.2.1), (5, .slice a39 r36.1.length c39), (3, .slice a23 r20.1.length c23)] ∧ w = s58.w) ?_ ?_)
  ·rintro _ _ ⟨v59, rfl, rfl, rfl⟩
   refine L.mv Wt.no rfl rfl ?_
   obtain ⟨b60, eb60, hm⟩ := bindS hm
   refine L.cut 4 (fun e w => ∃ (s62 : Sig) (v61 : Bool), b60 = v61 ∧ Mv (Up N No) s s62 ∧ RdL (rK .i64) s62 a55 c55 r52.1 ∧ RdL (rK .i64) s62 a39 c39 r36.1 ∧ e = (51, .bool v61) :: [(9, .int .i64 r52.2), (8, .slice a55 r52.1.length c55), (7, .int .i64 r36.2.2), (6, .bool r36.2.1), (5, .slice a39 r36.1.length c39)] ∧ w = s62.w) ?_ ?_
   ·rintro _ _ ⟨s62, v61, rfl, m0, h55, h39, rfl, rfl⟩
    refine L.mv Wt.no rfl rfl (L.cut 3 (fun e w => ∃ (v63 : Bool), (b60 && (r36.2.2 == 0)) = v63 ∧ e = (55, .bool v63) :: [(9, .int .i64 r52.2), (8, .slice a55 r52.1.length c55), (6, .bool r36.2.1), (5, .slice a39 r36.1.length c39)] ∧ w = s62.w) ?_ ?_)
    ·rintro _ _ ⟨v63, rfl, rfl, rfl⟩
     refine L.mv Wt.no rfl rfl (L.cut 2 (fun e w => ∃ (v64 : Bool), ((b60 && (r36.2.2 == 0)) && r36.2.1) = v64 ∧ e = (58, .bool v64) :: [(9, .int .i64 r52.2), (8, .slice a55 r52.1.length c55), (5, .slice a39 r36.1.length c39)] ∧ w = s62.w) ?_ ?_)
     ·rintro _ _ ⟨v64, rfl, rfl, rfl⟩
      refine L.mv Wt.no rfl rfl ?_
      obtain ⟨b65, eb65, hm⟩ := bindS hm
      refine L.cut 4 (fun e w => ∃ (s67 : Sig) (v66 : Bool), b65 = v66 ∧ Mv (Up N No) s s67 ∧ RdL (rK .i64) s67 a55 c55 r52.1 ∧ e = (63, .bool v66) :: [(9, .int .i64 r52.2), (8, .slice a55 r52.1.length c55)] ∧ w = s67.w) ?_ ?_
      ·rintro _ _ ⟨s67, v66, rfl, m0, h55, rfl, rfl⟩
       refine L.mv Wt.no rfl rfl (L.cut 3 (fun e w => ∃ (v68 : Bool), (b65 && (r52.2 == 0)) = v68 ∧ e = (67, .bool v68) :: [(8, .slice a55 r52.1.length c55)] ∧ w = s67.w) ?_ ?_)
       ·rintro _ _ ⟨v68, rfl, rfl, rfl⟩
        refine L.mv Wt.no rfl rfl ?_
        obtain ⟨b69, eb69, hm⟩ := bindS hm
        refine L.cut 4 (fun e w => ∃ (s71 : Sig) (v70 : Bool), b69 = v70 ∧ Mv (Up N No) s s71 ∧ e = (72, .bool v70) :: [] ∧ w = s71.w) ?_ ?_
        ·rintro _ _ ⟨s71, v70, rfl, m0, rfl, rfl⟩
         refine L.as Wt.no rfl rfl (L.nil (X.seqN (E.ret ?_)))
         obtain rfl := Option.some.inj hm
         exact X.rt (.inl rfl) Tryd.results43 (Rs.tmp rfl Rs.nil) rfl ⟨_, (s71).ren N (fun _ => 0), rfl, rfl, m0.ren hNb, rfl⟩
        intro J72
        rcases ifS eb69 with ⟨hc, hm⟩ | ⟨hc, hm⟩
        ·refine L.know (d := 68) rfl hc (L.mv (Wt.mk rfl rfl) rfl rfl (L.bsE (k := 2) (cs := [.int .i64 0, .int .i64 1]) 0 bs31 (Nat.le_of_ble_eq_true rfl) (Wt.mk rfl rfl) rfl rfl rfl rfl fun b73 s74 m75 bx73 => ?_))
         replace m0 := m0.trans m75.no
         replace h55 := h55.mono (m75.le no_No)
         have h73 := Bx.rdL (r := (rK .i64)) (xs := ([0, 1] : List Int)) bx73 ⟨[.int .i64 0], _, rfl, rfl, ⟨[.int .i64 1], _, rfl, rfl, rfl⟩⟩ (Nat.le_of_ble_eq_true rfl)
         obtain ⟨r76, er76, hm⟩ := bindS hm
         refine L.ca cf75 rfl rfl (Wt.mk rfl rfl) rfl (m_overseerlaw04_same_c (s := s74) (p0 := r52.1) (p1 := ([0, 1] : List Int)) h55 h73 er76) rfl ?_
         rintro _ s77 m78 rfl
         replace m0 := m0.trans m78.no
         exact L.pkT Wt.no rfl rfl rfl rfl (L.sb (J72 _ _ ⟨s77, r76, (Option.some.inj hm).symm, m0, rfl, rfl⟩) rfl)
        exact L.know (d := 68) rfl hc (L.skip rfl rfl rfl rfl (L.skip rfl rfl rfl rfl (L.skip rfl rfl rfl rfl (L.pkF Wt.no rfl rfl rfl rfl (L.sb (J72 _ _ ⟨s67, false, (Option.some.inj hm).symm, m0, rfl, rfl⟩) rfl)))))
       intro J79
       rcases Bool.eq_false_or_eq_true b65 with hc | hc
       ·exact L.know (d := 64) rfl hc (L.mv (Wt.mk rfl rfl) rfl rfl (L.bi (Wt.mk rfl rfl) rfl rfl rfl rfl (L.pkT Wt.no rfl rfl rfl rfl (L.sb (J79 _ _ ⟨(r52.2 == 0), (andT hc).symm, rfl, rfl⟩) rfl))))
       exact L.know (d := 64) rfl hc (L.skip rfl rfl rfl rfl (L.skip rfl rfl rfl rfl (L.pkF Wt.no rfl rfl rfl rfl (L.sb (J79 _ _ ⟨false, (andF hc).symm, rfl, rfl⟩) rfl))))
      intro J80
      rcases ifS eb65 with ⟨hc, hm⟩ | ⟨hc, hm⟩
      ·refine L.know (d := 59) rfl hc (L.mv (Wt.mk rfl rfl) rfl rfl (L.bsE (k := 2) (cs := [.int .i64 1, .int .i64 0]) 0 bs31 (Nat.le_of_ble_eq_true rfl) (Wt.mk rfl rfl) rfl rfl rfl rfl fun b81 s82 m83 bx81 => ?_))
       replace m0 := m0.trans m83.no
       replace h55 := h55.mono (m83.le no_No)
       replace h39 := h39.mono (m83.le no_No)
       have h81 := Bx.rdL (r := (rK .i64)) (xs := ([1, 0] : List Int)) bx81 ⟨[.int .i64 1], _, rfl, rfl, ⟨[.int .i64 0], _, rfl, rfl, rfl⟩⟩ (Nat.le_of_ble_eq_true rfl)
       obtain ⟨r84, er84, hm⟩ := bindS hm
       refine L.ca cf75 rfl rfl (Wt.mk rfl rfl) rfl (m_overseerlaw04_same_c (s := s82) (p0 := r36.1) (p1 := ([1, 0] : List Int)) h39 h81 er84) rfl ?_
       rintro _ s85 m86 rfl
       replace m0 := m0.trans m86.no
       replace h55 := h55.mono (m86.le no_No)
       exact L.pkT Wt.no rfl rfl rfl rfl (L.sb (J80 _ _ ⟨s85, r84, (Option.some.inj hm).symm, m0, h55, rfl, rfl⟩) rfl)
      exact L.know (d := 59) rfl hc (L.skip rfl rfl rfl rfl (L.skip rfl rfl rfl rfl (L.skip rfl rfl rfl rfl (L.pkF Wt.no rfl rfl rfl rfl (L.sb (J80 _ _ ⟨s62, false, (Option.some.inj hm).symm, m0, h55, rfl, rfl⟩) rfl)))))
     intro J87
     rcases Bool.eq_false_or_eq_true (b60 && (r36.2.2 == 0)) with hc | hc
     ·exact L.know (d := 56) rfl hc (L.mv (Wt.mk rfl rfl) rfl rfl (L.pkT Wt.no rfl rfl rfl rfl (L.sb (J87 _ _ ⟨r36.2.1, (andT hc).symm, rfl, rfl⟩) rfl)))
     exact L.know (d := 56) rfl hc (L.skip rfl rfl rfl rfl (L.pkF Wt.no rfl rfl rfl rfl (L.sb (J87 _ _ ⟨false, (andF hc).symm, rfl, rfl⟩) rfl)))
    intro J88
    rcases Bool.eq_false_or_eq_true b60 with hc | hc
    ·exact L.know (d := 52) rfl hc (L.mv (Wt.mk rfl rfl) rfl rfl (L.bi (Wt.mk rfl rfl) rfl rfl rfl rfl (L.pkT Wt.no rfl rfl rfl rfl (L.sb (J88 _ _ ⟨(r36.2.2 == 0), (andT hc).symm, rfl, rfl⟩) rfl))))
    exact L.know (d := 52) rfl hc (L.skip rfl rfl rfl rfl (L.skip rfl rfl rfl rfl (L.pkF Wt.no rfl rfl rfl rfl (L.sb (J88 _ _ ⟨false, (andF hc).symm, rfl, rfl⟩) rfl))))
   intro J89
   rcases ifS eb60 with ⟨hc, hm⟩ | ⟨hc, hm⟩
   ·refine L.know (d := 47) rfl hc (L.mv (Wt.mk rfl rfl) rfl rfl (L.bsE (k := 4) (cs := [.int .i64 2, .int .i64 (-1), .int .i64 1, .int .i64 0]) 0 bs31 (Nat.le_of_ble_eq_true rfl) (Wt.mk rfl rfl) rfl rfl rfl rfl fun b90 s91 m92 bx90 => ?_))
    replace m0 := m0.trans m92.no
    replace h39 := h39.mono (m92.le no_No)
    replace h55 := h55.mono (m92.le no_No)
    replace h23 := h23.mono (m92.le no_No)
    have h90 := Bx.rdL (r := (rK .i64)) (xs := ([2, (-1), 1, 0] : List Int)) bx90 ⟨[.int .i64 2], _, rfl, rfl, ⟨[.int .i64 (-1)], _, rfl, rfl, ⟨[.int .i64 1], _, rfl, rfl, ⟨[.int .i64 0], _, rfl, rfl, rfl⟩⟩⟩⟩ (Nat.le_of_ble_eq_true rfl)
    obtain ⟨r93, er93, hm⟩ := bindS hm
    refine L.ca cf75 rfl rfl (Wt.mk rfl rfl) rfl (m_overseerlaw04_same_c (s := s91) (p0 := r20.1) (p1 := ([2, (-1), 1, 0] : List Int)) h23 h90 er93) rfl ?_
    rintro _ s94 m95 rfl
    replace m0 := m0.trans m95.no
    replace h39 := h39.mono (m95.le no_No)
    replace h55 := h55.mono (m95.le no_No)
    exact L.pkT Wt.no rfl rfl rfl rfl (L.sb (J89 _ _ ⟨s94, r93, (Option.some.inj hm).symm, m0, h55, h39, rfl, rfl⟩) rfl)
   exact L.know (d := 47) rfl hc (L.skip rfl rfl rfl rfl (L.skip rfl rfl rfl rfl (L.skip rfl rfl rfl rfl (L.pkF Wt.no rfl rfl rfl rfl (L.sb (J89 _ _ ⟨s58, false, (Option.some.inj hm).symm, m0, h55, h39, rfl, rfl⟩) rfl)))))
  intro J96
  rcases Bool.eq_false_or_eq_true b56 with hc | hc
  ·exact L.know (d := 43) rfl hc (L.mv (Wt.mk rfl rfl) rfl rfl (L.bi (Wt.mk rfl rfl) rfl rfl rfl rfl (L.pkT Wt.no rfl rfl rfl rfl (L.sb (J96 _ _ ⟨(r20.2 == 0), (andT hc).symm, rfl, rfl⟩) rfl))))
  exact L.know (d := 43) rfl hc (L.skip rfl rfl rfl rfl (L.skip rfl rfl rfl rfl (L.pkF Wt.no rfl rfl rfl rfl (L.sb (J96 _ _ ⟨false, (andF hc).symm, rfl, rfl⟩) rfl))))
 intro J97
 rcases ifS eb56 with ⟨hc, hm⟩ | ⟨hc, hm⟩
 ·refine L.know (d := 38) rfl hc (L.mv (Wt.mk rfl rfl) rfl rfl (L.bsE (k := 2) (cs := [.int .i64 0, .int .i64 1]) 0 bs31 (Nat.le_of_ble_eq_true rfl) (Wt.mk rfl rfl) rfl rfl rfl rfl fun b98 s99 m100 bx98 => ?_))
  replace m0 := m0.trans m100.no
  replace h23 := h23.mono (m100.le no_No)
  replace h39 := h39.mono (m100.le no_No)
  replace h55 := h55.mono (m100.le no_No)
  replace h10 := h10.mono (m100.le no_No)
  have h98 := Bx.rdL (r := (rK .i64)) (xs := ([0, 1] : List Int)) bx98 ⟨[.int .i64 0], _, rfl, rfl, ⟨[.int .i64 1], _, rfl, rfl, rfl⟩⟩ (Nat.le_of_ble_eq_true rfl)
  obtain ⟨r101, er101, hm⟩ := bindS hm
  refine L.ca cf75 rfl rfl (Wt.mk rfl rfl) rfl (m_overseerlaw04_same_c (s := s99) (p0 := r7.1) (p1 := ([0, 1] : List Int)) h10 h98 er101) rfl ?_
  rintro _ s102 m103 rfl
  replace m0 := m0.trans m103.no
  replace h23 := h23.mono (m103.le no_No)
  replace h39 := h39.mono (m103.le no_No)
  replace h55 := h55.mono (m103.le no_No)
  exact L.pkT Wt.no rfl rfl rfl rfl (L.sb (J97 _ _ ⟨s102, r101, (Option.some.inj hm).symm, m0, h55, h39, h23, rfl, rfl⟩) rfl)
 exact L.know (d := 38) rfl hc (L.skip rfl rfl rfl rfl (L.skip rfl rfl rfl rfl (L.skip rfl rfl rfl rfl (L.pkF Wt.no rfl rfl rfl rfl (L.sb (J97 _ _ ⟨s53, false, (Option.some.inj hm).symm, m0, h55, h39, h23, rfl, rfl⟩) rfl)))))

theorem cf43 : Cf Tryd.prog 43 := Cf.mk Tryd.func43 (by kernel_rfl) (by kernel_rfl)
/-- What overseerlaw04.Known computes. -/
noncomputable def m_overseerlaw04_Known : Option Bool :=
  (m_overseerlaw04_known).bind fun r1 =>
  some r1
set_option maxRecDepth 100000 in
set_option maxHeartbeats 8000000 in
theorem m_overseerlaw04_Known_c {s : Sig} {r : Bool} (hm : m_overseerlaw04_Known = some r) :
    Calls Tryd.prog 26 #[] s.w (RetS No s fun v s' => v = .bool r) := by
 unfold m_overseerlaw04_Known at hm
 obtain ⟨N, hN, hNb⟩ := s.fresh
 have m0 : Mv (Up N No) s s := Mv.refl _ _
 refine E.entry Tryd.func26 rfl Tryd.ntmps26 rfl rfl (E.seq (E.reg (L.as Wt.no rfl rfl (L.nil (X.seqN (E.seq (E.reg ?_)))))))
 obtain ⟨r1, er1, hm⟩ := bindS hm
 refine L.ca cf43 rfl rfl Wt.no rfl (m_overseerlaw04_known_c (s := s) er1) rfl ?_
 rintro _ s2 m3 rfl
 replace m0 := m0.trans m3.no
 refine L.as Wt.no rfl rfl (L.nil (X.seqN (E.ret ?_)))
 obtain rfl := Option.some.inj hm
 exact X.rt (.inl rfl) Tryd.results26 (Rs.tmp rfl Rs.nil) rfl ⟨_, (s2).ren N (fun _ => 0), rfl, rfl, m0.ren hNb, rfl⟩

end Go.Proofs.YtfbapajcheammaaDoor

namespace Go.Proofs.YtfbapajcheammaaDoor
open Go Go.RowKit
theorem cf25 : Cf Tryd.prog 25 := Cf.mk Tryd.func25 (by kernel_rfl) (by kernel_rfl)
theorem cf26 : Cf Tryd.prog 26 := Cf.mk Tryd.func26 (by kernel_rfl) (by kernel_rfl)
/-- What overseerlaw24.Known computes. -/
noncomputable def m_overseerlaw24_Known : Option Bool :=
  (m_overseerlaw24_known).bind fun r1 =>
  (if r1 then
    (m_overseerlaw04_Known).bind fun r8 =>
    some r8
  else
    some false).bind fun b4 =>
  some b4
set_option maxRecDepth 100000 in
set_option maxHeartbeats 8000000 in
theorem m_overseerlaw24_Known_c {s : Sig} {r : Bool} (hm : m_overseerlaw24_Known = some r) :
    Calls Tryd.prog 8 #[] s.w (RetS No s fun v s' => v = .bool r) := by
 unfold m_overseerlaw24_Known at hm
 obtain ⟨N, hN, hNb⟩ := s.fresh
 have m0 : Mv (Up N No) s s := Mv.refl _ _
 refine E.entry Tryd.func8 rfl Tryd.ntmps8 rfl rfl (E.seq (E.reg (L.as Wt.no rfl rfl (L.nil (X.seqN (E.seq (E.reg ?_)))))))
 obtain ⟨r1, er1, hm⟩ := bindS hm
 refine L.ca cf25 rfl rfl Wt.no rfl (m_overseerlaw24_known_c (s := s) er1) rfl ?_
 rintro _ s2 m3 rfl
 replace m0 := m0.trans m3.no
 refine L.mv Wt.no rfl rfl ?_
 obtain ⟨b4, eb4, hm⟩ := bindS hm
 refine L.cut 2 (fun e w => ∃ (s6 : Sig) (v5 : Bool), b4 = v5 ∧ Mv (Up N No) s s6 ∧ e = (4, .bool v5) :: [] ∧ w = s6.w) ?_ ?_
 ·rintro _ _ ⟨s6, v5, rfl, m0, rfl, rfl⟩
  refine L.as Wt.no rfl rfl (L.nil (X.seqN (E.ret ?_)))
  obtain rfl := Option.some.inj hm
  exact X.rt (.inl rfl) Tryd.results8 (Rs.tmp rfl Rs.nil) rfl ⟨_, (s6).ren N (fun _ => 0), rfl, rfl, m0.ren hNb, rfl⟩
 intro J7
 rcases ifS eb4 with ⟨hc, hm⟩ | ⟨hc, hm⟩
 ·refine L.know (d := 2) rfl hc ?_
  obtain ⟨r8, er8, hm⟩ := bindS hm
  refine L.ca cf26 rfl rfl (Wt.mk rfl rfl) rfl (m_overseerlaw04_Known_c (s := s2) er8) rfl ?_
  rintro _ s9 m10 rfl
  replace m0 := m0.trans m10.no
  exact L.pkT Wt.no rfl rfl rfl rfl (L.sb (J7 _ _ ⟨s9, r8, (Option.some.inj hm).symm, m0, rfl, rfl⟩) rfl)
 exact L.know (d := 2) rfl hc (L.skip rfl rfl rfl rfl (L.pkF Wt.no rfl rfl rfl rfl (L.sb (J7 _ _ ⟨s2, false, (Option.some.inj hm).symm, m0, rfl, rfl⟩) rfl)))

theorem fa25_0 : FA Tryd.prog 25 0 0 := FA.mk Tryd.underlying25 rfl rfl ⟨1, by decide, by kernel_rfl⟩
theorem fa25_1 : FA Tryd.prog 25 1 1 := FA.mk Tryd.underlying25 rfl rfl ⟨1, by decide, by kernel_rfl⟩
theorem fa25_2 : FA Tryd.prog 25 2 2 := FA.mk Tryd.underlying25 rfl rfl ⟨24, by decide, by kernel_rfl⟩
theorem ia22 : IA Tryd.prog 22 4 1 := IA.mk Tryd.underlying22 (by kernel_rfl)
theorem ia23 : IA Tryd.prog 23 6 4 := IA.mk Tryd.underlying23 (by kernel_rfl)
theorem nag5 : NAg Tryd.prog 5 := NAg.mk' Tryd.underlying5 rfl (by kernel_rfl)
noncomputable def m_overseerlaw04_Make_j2 (st128 : Int × (List (Int × Int × Int))) (l134 : List (Int × Int × Int)) : Option ((Int × (List (Int × Int × Int))) ⊕ (List (Int × Int × Int))) :=
  some (.inl (W (st128.1 + 1), l134))
noncomputable def m_overseerlaw04_Make_l2 (p0 : Int × Int × ((Int × Int × Int × Int) × (Int × Int × Int × Int) × (Int × Int × Int × Int) × (Int × Int × Int × Int) × (Int × Int × Int × Int) × (Int × Int × Int × Int))) (st90 : Int × List Int × (List (Int × Int × Int))) (st128 : Int × (List (Int × Int × Int))) : Option ((Int × (List (Int × Int × Int))) ⊕ (List (Int × Int × Int))) :=
  if decide (st128.1 < 4) then
    (rng st90.1 6).bind fun _ =>
    (rng st128.1 4).bind fun _ =>
    (([p0.2.2.1.1, p0.2.2.1.2.1, p0.2.2.1.2.2.1, p0.2.2.1.2.2.2, p0.2.2.2.1.1, p0.2.2.2.1.2.1, p0.2.2.2.1.2.2.1, p0.2.2.2.1.2.2.2, p0.2.2.2.2.1.1, p0.2.2.2.2.1.2.1, p0.2.2.2.2.1.2.2.1, p0.2.2.2.2.1.2.2.2, p0.2.2.2.2.2.1.1, p0.2.2.2.2.2.1.2.1, p0.2.2.2.2.2.1.2.2.1, p0.2.2.2.2.2.1.2.2.2, p0.2.2.2.2.2.2.1.1, p0.2.2.2.2.2.2.1.2.1, p0.2.2.2.2.2.2.1.2.2.1, p0.2.2.2.2.2.2.1.2.2.2, p0.2.2.2.2.2.2.2.1, p0.2.2.2.2.2.2.2.2.1, p0.2.2.2.2.2.2.2.2.2.1, p0.2.2.2.2.2.2.2.2.2.2] : List Int)[st90.1.toNat * 4 + st128.1.toNat * 1]?).bind fun x140 =>
    if ((decide ((W ((W (x140.tmod 7)) - 1)) ≥ 0)) && (decide ((W ((W (x140.tmod 7)) - 1)) < (W (1 + (W (p0.1.tmod 6))))))) then
      (app st128.2 ([(st90.1, st128.1, W ((W (x140.tmod 7)) - 1))] : List (Int × Int × Int))).bind fun x145 =>
      m_overseerlaw04_Make_j2 st128 x145
    else
      m_overseerlaw04_Make_j2 st128 st128.2
  else
    some (.inr st128.2)
noncomputable def m_overseerlaw04_Make_j1 (p0 : Int × Int × ((Int × Int × Int × Int) × (Int × Int × Int × Int) × (Int × Int × Int × Int) × (Int × Int × Int × Int) × (Int × Int × Int × Int) × (Int × Int × Int × Int))) (st90 : Int × List Int × (List (Int × Int × Int))) (l100 : List Int) : Option ((Int × List Int × (List (Int × Int × Int))) ⊕ (List Int × (List (Int × Int × Int)))) :=
  (iter (m_overseerlaw04_Make_l2 p0 st90) (0, st90.2.2)).bind fun o128 =>
  some (.inl (W (st90.1 + 1), l100, o128))
noncomputable def m_overseerlaw04_Make_l1 (p0 : Int × Int × ((Int × Int × Int × Int) × (Int × Int × Int × Int) × (Int × Int × Int × Int) × (Int × Int × Int × Int) × (Int × Int × Int × Int) × (Int × Int × Int × Int))) (st90 : Int × List Int × (List (Int × Int × Int))) : Option ((Int × List Int × (List (Int × Int × Int))) ⊕ (List Int × (List (Int × Int × Int)))) :=
  if decide (st90.1 < (W (1 + (W (p0.1.tmod 6))))) then
    (ng st90.1).bind fun _ =>
    if ((IntKind.u8.wrap (((BitVec.ofInt 8 (p0.2.1.fdiv (2 ^ (min st90.1.toNat 8))) &&& BitVec.ofInt 8 1).toNat : Int))) == 1) then
      (app st90.2.1 ([st90.1] : List Int)).bind fun x156 =>
      m_overseerlaw04_Make_j1 p0 st90 x156
    else
      m_overseerlaw04_Make_j1 p0 st90 st90.2.1
  else
    some (.inr st90.2)
/-- What overseerlaw04.Make computes. -/
noncomputable def m_overseerlaw04_Make (p0 : Int × Int × ((Int × Int × Int × Int) × (Int × Int × Int × Int) × (Int × Int × Int × Int) × (Int × Int × Int × Int) × (Int × Int × Int × Int) × (Int × Int × Int × Int))) : Option (List Int × Int × List Int × (List (Int × Int × Int))) :=
  (iter (m_overseerlaw04_Make_l1 p0) (0, ([] : List Int), ([] : List (Int × Int × Int)))).bind fun o90 =>
  some (([0, 1, 2, 3] : List Int), W (1 + (W (p0.1.tmod 6))), o90)
set_option maxRecDepth 100000 in
set_option maxHeartbeats 8000000 in
theorem m_overseerlaw04_Make_c {s : Sig} {p0 : Int × Int × ((Int × Int × Int × Int) × (Int × Int × Int × Int) × (Int × Int × Int × Int) × (Int × Int × Int × Int) × (Int × Int × Int × Int) × (Int × Int × Int × Int))} {u1 : Nat} {u2 : Nat} {r : (List Int × Int × List Int × (List (Int × Int × Int)))} (hm : m_overseerlaw04_Make p0 = some r) :
    Calls Tryd.prog 16 #[.agg #[.int .u8 p0.1, .int .u8 p0.2.1, .int .u8 p0.2.2.1.1, .int .u8 p0.2.2.1.2.1, .int .u8 p0.2.2.1.2.2.1, .int .u8 p0.2.2.1.2.2.2, .int .u8 p0.2.2.2.1.1, .int .u8 p0.2.2.2.1.2.1, .int .u8 p0.2.2.2.1.2.2.1, .int .u8 p0.2.2.2.1.2.2.2, .int .u8 p0.2.2.2.2.1.1, .int .u8 p0.2.2.2.2.1.2.1, .int .u8 p0.2.2.2.2.1.2.2.1, .int .u8 p0.2.2.2.2.1.2.2.2, .int .u8 p0.2.2.2.2.2.1.1, .int .u8 p0.2.2.2.2.2.1.2.1, .int .u8 p0.2.2.2.2.2.1.2.2.1, .int .u8 p0.2.2.2.2.2.1.2.2.2, .int .u8 p0.2.2.2.2.2.2.1.1, .int .u8 p0.2.2.2.2.2.2.1.2.1, .int .u8 p0.2.2.2.2.2.2.1.2.2.1, .int .u8 p0.2.2.2.2.2.2.1.2.2.2, .int .u8 p0.2.2.2.2.2.2.2.1, .int .u8 p0.2.2.2.2.2.2.2.2.1, .int .u8 p0.2.2.2.2.2.2.2.2.2.1, .int .u8 p0.2.2.2.2.2.2.2.2.2.2]] s.w (RetS No s fun v s' => ∃ (a1 : Option Addr) (c1 : Nat) (a2 : Option Addr) (c2 : Nat) (a3 : Option Addr) (c3 : Nat), v = .agg #[.slice a1 r.1.length c1, .int .i64 r.2.1, .slice a2 r.2.2.1.length c2, .slice a3 r.2.2.2.length c3] ∧ RdL (rK .i64) s' a1 c1 r.1 ∧ RowT (rK .i64) s' u1 3 a2 c2 r.2.2.1 ∧ RowT (rP (rK .i64) (rP (rK .i64) (rK .i64))) s' u2 58 a3 c3 r.2.2.2) := by
 unfold m_overseerlaw04_Make at hm
 obtain ⟨N, hN, hNb⟩ := s.fresh
 have m0 : Mv (Up N No) s s := Mv.refl _ _
 refine E.entry Tryd.func16 rfl Tryd.ntmps16 rfl rfl (E.seq (E.reg (L.box (N + 0) Wt.no rfl rfl rfl fun b4 s5 m6 bx4 => ?_)))
 replace m0 := m0.trans m6.no
 refine L.al (N + 1) zz34 rfl Wt.no rfl fun b7 s8 m9 bx7 => ?_
 replace m0 := m0.trans m9.no
 replace bx4 := bx4.mv m9 no_No
 refine L.nil (X.seqN (E.seq (E.reg (L.bsE (k := 4) (cs := [.int .i64 0, .int .i64 1, .int .i64 2, .int .i64 3]) 0 bs31 (Nat.le_of_ble_eq_true rfl) Wt.no rfl rfl rfl rfl fun b10 s11 m12 bx10 => ?_))))
 replace m0 := m0.trans m12.no
 replace bx4 := bx4.mv m12 no_No
 replace bx7 := bx7.mv m12 no_No
 have h10 := Bx.rdL (r := (rK .i64)) (xs := ([0, 1, 2, 3] : List Int)) bx10 ⟨[.int .i64 0], _, rfl, rfl, ⟨[.int .i64 1], _, rfl, rfl, ⟨[.int .i64 2], _, rfl, rfl, ⟨[.int .i64 3], _, rfl, rfl, rfl⟩⟩⟩⟩ (Nat.le_of_ble_eq_true rfl)
 refine L.fa fa25_0 Wt.no rfl rfl (L.ld (j := 0) bx4.mem nag5 Wt.no rfl rfl rfl rfl (L.rem Wt.no rfl rfl (by decide) rfl (L.cv Tryd.underlying5 Tryd.underlying3 Wt.no rfl rfl (L.bi Wt.no rfl rfl rfl rfl (L.bu (cs := [.slice (some ⟨b10, 0, none⟩) ([0, 1, 2, 3] : List Int).length (([0, 1, 2, 3] : List Int).length), .int .i64 (W (1 + (W (p0.1.tmod 6)))), .slice none 0 0, .slice none 0 0]) pl34 Wt.no rfl rfl rfl (L.al (N + 2) zz34 rfl Wt.no rfl fun b13 s14 m15 bx13 => ?_))))))
 replace m0 := m0.trans m15.no
 replace h10 := h10.mono (m15.le no_No)
 replace bx4 := bx4.mv m15 no_No
 replace bx7 := bx7.mv m15 no_No
 refine L.st (c := [.slice (some ⟨b10, 0, none⟩) ([0, 1, 2, 3] : List Int).length (([0, 1, 2, 3] : List Int).length), .int .i64 (W (1 + (W (p0.1.tmod 6)))), .slice none 0 0, .slice none 0 0]) (cs' := #[.slice (some ⟨b10, 0, none⟩) ([0, 1, 2, 3] : List Int).length (([0, 1, 2, 3] : List Int).length), .int .i64 (W (1 + (W (p0.1.tmod 6)))), .slice none 0 0, .slice none 0 0]) bx13 ag34.sz Wt.no rfl rfl rfl rfl rfl (Nat.le_of_ble_eq_true rfl) rfl fun s16 m17 bx13 => ?_
 replace m0 := m0.trans (m17.one up)
 replace bx4 := bx4.mv m17 (tgN (by decide))
 replace bx7 := bx7.mv m17 (tgN (by decide))
 replace h10 := h10.mono (m17.le (tg0 hN))
 refine L.nil (X.seqN (E.seq (E.seq (E.reg (L.as Wt.no rfl rfl (L.nil (X.seqN (E.block ?_))))))))
 obtain ⟨o90, eo90, hm⟩ := bindS hm
 refine E.cut (x := .exit 0) (fun e w => ∃ (s96 : Sig) (a92 : Option Addr) (c92 : Nat) (a94 : Option Addr) (c94 : Nat), Mv (Up N No) s s96 ∧ RdL (rK .i64) s96 (some ⟨b10, 0, none⟩) (([0, 1, 2, 3] : List Int).length) ([0, 1, 2, 3] : List Int) ∧ RowT (rK .i64) s96 (N + 3) 3 a92 c92 o90.1 ∧ RowT (rP (rK .i64) (rP (rK .i64) (rK .i64))) s96 (N + 4) 58 a94 c94 o90.2 ∧ Bx s96 (N + 1) b7 #[.slice none 0 0, .int .i64 0, .slice none 0 0, .slice none 0 0] 34 ∧ Bx s96 (N + 2) b13 #[.slice (some ⟨b10, 0, none⟩) ([0, 1, 2, 3] : List Int).length (([0, 1, 2, 3] : List Int).length), .int .i64 (W (1 + (W (p0.1.tmod 6)))), .slice a92 o90.1.length c92, .slice a94 o90.2.length c94] 34 ∧ e = [(3, .pointer (some ⟨b13, 0, none⟩)), (2, .pointer (some ⟨b7, 0, none⟩))] ∧ w = s96.w) ?_ ?_
 ·rintro _ _ ⟨s96, a92, c92, a94, c94, m0, h10, h92, h94, bx7, bx13, rfl, rfl⟩
  refine X.blkE (X.seqN (E.seq (E.reg (L.lg (j := 0) (cs := [.slice (some ⟨b10, 0, none⟩) ([0, 1, 2, 3] : List Int).length (([0, 1, 2, 3] : List Int).length), .int .i64 (W (1 + (W (p0.1.tmod 6)))), .slice a92 o90.1.length c92, .slice a94 o90.2.length c94]) bx13.mem ag34 Wt.no rfl rfl rfl rfl rfl (L.st (c := [.slice (some ⟨b10, 0, none⟩) ([0, 1, 2, 3] : List Int).length (([0, 1, 2, 3] : List Int).length), .int .i64 (W (1 + (W (p0.1.tmod 6)))), .slice a92 o90.1.length c92, .slice a94 o90.2.length c94]) (cs' := #[.slice (some ⟨b10, 0, none⟩) ([0, 1, 2, 3] : List Int).length (([0, 1, 2, 3] : List Int).length), .int .i64 (W (1 + (W (p0.1.tmod 6)))), .slice a92 o90.1.length c92, .slice a94 o90.2.length c94]) bx7 ag34.sz Wt.no rfl rfl rfl rfl rfl (Nat.le_of_ble_eq_true rfl) rfl fun s97 m98 bx7 => ?_)))))
  replace m0 := m0.trans (m98.one up)
  replace h10 := h10.mono (m98.le (tg0 hN))
  replace h92 := h92.mv m98 (tgN (by decide)) (tg0 hN)
  replace h94 := h94.mv m98 (tgN (by decide)) (tg0 hN)
  refine L.nil (X.seqN (E.ret ?_))
  obtain rfl := Option.some.inj hm
  exact X.rt (.inl rfl) Tryd.results16 (Rs.cell rfl bx7 ag34 rfl Rs.nil) rfl ⟨_, (s97).ren N (fun k => cond (Nat.beq k 4) u2 (cond (Nat.beq k 3) u1 (0))), rfl, rfl, m0.ren hNb, ⟨(some ⟨b10, 0, none⟩), ([0, 1, 2, 3] : List Int).length, a92, c92, a94, c94, rfl, (h10.ren hN), (h92.ren hN), (h94.ren hN)⟩⟩
 intro K99
 refine E.iter (fun (st90 : Int × List Int × (List (Int × Int × Int))) (e : List (Nat × Value)) (w : World) => ∃ (s95 : Sig) (a20 : Option Addr) (c20 : Nat) (a22 : Option Addr) (c22 : Nat), Mv (Up N No) s s95 ∧ RdL (rK .i64) s95 (some ⟨b10, 0, none⟩) (([0, 1, 2, 3] : List Int).length) ([0, 1, 2, 3] : List Int) ∧ RowT (rK .i64) s95 (N + 3) 3 a20 c20 st90.2.1 ∧ RowT (rP (rK .i64) (rP (rK .i64) (rK .i64))) s95 (N + 4) 58 a22 c22 st90.2.2 ∧ Bx s95 (N + 0) b4 #[.int .u8 p0.1, .int .u8 p0.2.1, .int .u8 p0.2.2.1.1, .int .u8 p0.2.2.1.2.1, .int .u8 p0.2.2.1.2.2.1, .int .u8 p0.2.2.1.2.2.2, .int .u8 p0.2.2.2.1.1, .int .u8 p0.2.2.2.1.2.1, .int .u8 p0.2.2.2.1.2.2.1, .int .u8 p0.2.2.2.1.2.2.2, .int .u8 p0.2.2.2.2.1.1, .int .u8 p0.2.2.2.2.1.2.1, .int .u8 p0.2.2.2.2.1.2.2.1, .int .u8 p0.2.2.2.2.1.2.2.2, .int .u8 p0.2.2.2.2.2.1.1, .int .u8 p0.2.2.2.2.2.1.2.1, .int .u8 p0.2.2.2.2.2.1.2.2.1, .int .u8 p0.2.2.2.2.2.1.2.2.2, .int .u8 p0.2.2.2.2.2.2.1.1, .int .u8 p0.2.2.2.2.2.2.1.2.1, .int .u8 p0.2.2.2.2.2.2.1.2.2.1, .int .u8 p0.2.2.2.2.2.2.1.2.2.2, .int .u8 p0.2.2.2.2.2.2.2.1, .int .u8 p0.2.2.2.2.2.2.2.2.1, .int .u8 p0.2.2.2.2.2.2.2.2.2.1, .int .u8 p0.2.2.2.2.2.2.2.2.2.2] 25 ∧ Bx s95 (N + 1) b7 #[.slice none 0 0, .int .i64 0, .slice none 0 0, .slice none 0 0] 34 ∧ Bx s95 (N + 2) b13 #[.slice (some ⟨b10, 0, none⟩) ([0, 1, 2, 3] : List Int).length (([0, 1, 2, 3] : List Int).length), .int .i64 (W (1 + (W (p0.1.tmod 6)))), .slice a20 st90.2.1.length c20, .slice a22 st90.2.2.length c22] 34 ∧ e = [(4, .int .i64 st90.1), (3, .pointer (some ⟨b13, 0, none⟩)), (2, .pointer (some ⟨b7, 0, none⟩)), (1, .pointer (some ⟨b4, 0, none⟩))] ∧ w = s95.w) eo90 ⟨s16, none, 0, none, 0, m0, h10, RowT.nil, RowT.nil, bx4, bx7, bx13, rfl, rfl⟩ (Sub.rf rfl) ?_
 rintro st90 res90 hm ih90 ho90 _ _ ⟨s95, a20, c20, a22, c22, m0, h10, h20, h22, bx4, bx7, bx13, rfl, rfl⟩
 unfold m_overseerlaw04_Make_l1 at hm
 refine E.seq (E.seq (E.reg (L.mv Wt.no rfl rfl (L.fa fa34_1 Wt.no rfl rfl (L.ld (j := 1) bx13.mem nag3 Wt.no rfl rfl rfl rfl (L.bi Wt.no rfl rfl rfl rfl (L.nil (X.seqN ?_))))))))
 rcases ifS hm with ⟨hc, hm⟩ | ⟨hc, hm⟩
 ·refine E.cT rfl hc (E.skip (X.seqN (E.seq (E.block (E.seqJ (fun e w => ∃ (s102 : Sig) (l100 : List Int) (a101 : Option Addr) (c101 : Nat), m_overseerlaw04_Make_j1 p0 st90 l100 = some res90 ∧ Mv (Up N No) s s102 ∧ RdL (rK .i64) s102 (some ⟨b10, 0, none⟩) (([0, 1, 2, 3] : List Int).length) ([0, 1, 2, 3] : List Int) ∧ RowT (rK .i64) s102 (N + 3) 3 a101 c101 l100 ∧ RowT (rP (rK .i64) (rP (rK .i64) (rK .i64))) s102 (N + 4) 58 a22 c22 st90.2.2 ∧ Bx s102 (N + 0) b4 #[.int .u8 p0.1, .int .u8 p0.2.1, .int .u8 p0.2.2.1.1, .int .u8 p0.2.2.1.2.1, .int .u8 p0.2.2.1.2.2.1, .int .u8 p0.2.2.1.2.2.2, .int .u8 p0.2.2.2.1.1, .int .u8 p0.2.2.2.1.2.1, .int .u8 p0.2.2.2.1.2.2.1, .int .u8 p0.2.2.2.1.2.2.2, .int .u8 p0.2.2.2.2.1.1, .int .u8 p0.2.2.2.2.1.2.1, .int .u8 p0.2.2.2.2.1.2.2.1, .int .u8 p0.2.2.2.2.1.2.2.2, .int .u8 p0.2.2.2.2.2.1.1, .int .u8 p0.2.2.2.2.2.1.2.1, .int .u8 p0.2.2.2.2.2.1.2.2.1, .int .u8 p0.2.2.2.2.2.1.2.2.2, .int .u8 p0.2.2.2.2.2.2.1.1, .int .u8 p0.2.2.2.2.2.2.1.2.1, .int .u8 p0.2.2.2.2.2.2.1.2.2.1, .int .u8 p0.2.2.2.2.2.2.1.2.2.2, .int .u8 p0.2.2.2.2.2.2.2.1, .int .u8 p0.2.2.2.2.2.2.2.2.1, .int .u8 p0.2.2.2.2.2.2.2.2.2.1, .int .u8 p0.2.2.2.2.2.2.2.2.2.2] 25 ∧ Bx s102 (N + 1) b7 #[.slice none 0 0, .int .i64 0, .slice none 0 0, .slice none 0 0] 34 ∧ Bx s102 (N + 2) b13 #[.slice (some ⟨b10, 0, none⟩) ([0, 1, 2, 3] : List Int).length (([0, 1, 2, 3] : List Int).length), .int .i64 (W (1 + (W (p0.1.tmod 6)))), .slice a101 l100.length c101, .slice a22 st90.2.2.length c22] 34 ∧ e = [(4, .int .i64 st90.1), (3, .pointer (some ⟨b13, 0, none⟩)), (2, .pointer (some ⟨b7, 0, none⟩)), (1, .pointer (some ⟨b4, 0, none⟩))] ∧ w = s102.w) ?_ ?_)))))
  ·rintro _ _ ⟨s102, l100, a101, c101, hm, m0, h10, h101, h22, bx4, bx7, bx13, rfl, rfl⟩
   unfold m_overseerlaw04_Make_j1 at hm
   refine E.seq (E.reg (L.as Wt.no rfl rfl (L.nil (X.seqN (E.block ?_)))))
   obtain ⟨o128, eo128, hm⟩ := bindS hm
   refine E.cut (x := .exit 2) (fun e w => ∃ (s132 : Sig) (a130 : Option Addr) (c130 : Nat), Mv (Up N No) s s132 ∧ RdL (rK .i64) s132 (some ⟨b10, 0, none⟩) (([0, 1, 2, 3] : List Int).length) ([0, 1, 2, 3] : List Int) ∧ RowT (rK .i64) s132 (N + 3) 3 a101 c101 l100 ∧ RowT (rP (rK .i64) (rP (rK .i64) (rK .i64))) s132 (N + 4) 58 a130 c130 o128 ∧ Bx s132 (N + 0) b4 #[.int .u8 p0.1, .int .u8 p0.2.1, .int .u8 p0.2.2.1.1, .int .u8 p0.2.2.1.2.1, .int .u8 p0.2.2.1.2.2.1, .int .u8 p0.2.2.1.2.2.2, .int .u8 p0.2.2.2.1.1, .int .u8 p0.2.2.2.1.2.1, .int .u8 p0.2.2.2.1.2.2.1, .int .u8 p0.2.2.2.1.2.2.2, .int .u8 p0.2.2.2.2.1.1, .int .u8 p0.2.2.2.2.1.2.1, .int .u8 p0.2.2.2.2.1.2.2.1, .int .u8 p0.2.2.2.2.1.2.2.2, .int .u8 p0.2.2.2.2.2.1.1, .int .u8 p0.2.2.2.2.2.1.2.1, .int .u8 p0.2.2.2.2.2.1.2.2.1, .int .u8 p0.2.2.2.2.2.1.2.2.2, .int .u8 p0.2.2.2.2.2.2.1.1, .int .u8 p0.2.2.2.2.2.2.1.2.1, .int .u8 p0.2.2.2.2.2.2.1.2.2.1, .int .u8 p0.2.2.2.2.2.2.1.2.2.2, .int .u8 p0.2.2.2.2.2.2.2.1, .int .u8 p0.2.2.2.2.2.2.2.2.1, .int .u8 p0.2.2.2.2.2.2.2.2.2.1, .int .u8 p0.2.2.2.2.2.2.2.2.2.2] 25 ∧ Bx s132 (N + 1) b7 #[.slice none 0 0, .int .i64 0, .slice none 0 0, .slice none 0 0] 34 ∧ Bx s132 (N + 2) b13 #[.slice (some ⟨b10, 0, none⟩) ([0, 1, 2, 3] : List Int).length (([0, 1, 2, 3] : List Int).length), .int .i64 (W (1 + (W (p0.1.tmod 6)))), .slice a101 l100.length c101, .slice a130 o128.length c130] 34 ∧ e = [(4, .int .i64 st90.1), (3, .pointer (some ⟨b13, 0, none⟩)), (2, .pointer (some ⟨b7, 0, none⟩)), (1, .pointer (some ⟨b4, 0, none⟩))] ∧ w = s132.w) ?_ ?_
   ·rintro _ _ ⟨s132, a130, c130, m0, h10, h101, h130, bx4, bx7, bx13, rfl, rfl⟩
    exact X.blkE (X.blkN (X.seqN (E.reg (L.mv Wt.no rfl rfl (L.bi Wt.no rfl rfl rfl rfl (L.as Wt.no rfl rfl (L.nil (X.sub (ih90 _ (Option.some.inj hm).symm _ _ ⟨s132, a101, c101, a130, c130, m0, h10, h101, h130, bx4, bx7, bx13, rfl, rfl⟩) (Sub.rf rfl)))))))))
   intro K133
   refine E.iter (fun (st128 : Int × (List (Int × Int × Int))) (e : List (Nat × Value)) (w : World) => ∃ (s131 : Sig) (a106 : Option Addr) (c106 : Nat), Mv (Up N No) s s131 ∧ RdL (rK .i64) s131 (some ⟨b10, 0, none⟩) (([0, 1, 2, 3] : List Int).length) ([0, 1, 2, 3] : List Int) ∧ RowT (rK .i64) s131 (N + 3) 3 a101 c101 l100 ∧ RowT (rP (rK .i64) (rP (rK .i64) (rK .i64))) s131 (N + 4) 58 a106 c106 st128.2 ∧ Bx s131 (N + 0) b4 #[.int .u8 p0.1, .int .u8 p0.2.1, .int .u8 p0.2.2.1.1, .int .u8 p0.2.2.1.2.1, .int .u8 p0.2.2.1.2.2.1, .int .u8 p0.2.2.1.2.2.2, .int .u8 p0.2.2.2.1.1, .int .u8 p0.2.2.2.1.2.1, .int .u8 p0.2.2.2.1.2.2.1, .int .u8 p0.2.2.2.1.2.2.2, .int .u8 p0.2.2.2.2.1.1, .int .u8 p0.2.2.2.2.1.2.1, .int .u8 p0.2.2.2.2.1.2.2.1, .int .u8 p0.2.2.2.2.1.2.2.2, .int .u8 p0.2.2.2.2.2.1.1, .int .u8 p0.2.2.2.2.2.1.2.1, .int .u8 p0.2.2.2.2.2.1.2.2.1, .int .u8 p0.2.2.2.2.2.1.2.2.2, .int .u8 p0.2.2.2.2.2.2.1.1, .int .u8 p0.2.2.2.2.2.2.1.2.1, .int .u8 p0.2.2.2.2.2.2.1.2.2.1, .int .u8 p0.2.2.2.2.2.2.1.2.2.2, .int .u8 p0.2.2.2.2.2.2.2.1, .int .u8 p0.2.2.2.2.2.2.2.2.1, .int .u8 p0.2.2.2.2.2.2.2.2.2.1, .int .u8 p0.2.2.2.2.2.2.2.2.2.2] 25 ∧ Bx s131 (N + 1) b7 #[.slice none 0 0, .int .i64 0, .slice none 0 0, .slice none 0 0] 34 ∧ Bx s131 (N + 2) b13 #[.slice (some ⟨b10, 0, none⟩) ([0, 1, 2, 3] : List Int).length (([0, 1, 2, 3] : List Int).length), .int .i64 (W (1 + (W (p0.1.tmod 6)))), .slice a101 l100.length c101, .slice a106 st128.2.length c106] 34 ∧ e = [(5, .int .i64 st128.1), (4, .int .i64 st90.1), (3, .pointer (some ⟨b13, 0, none⟩)), (2, .pointer (some ⟨b7, 0, none⟩)), (1, .pointer (some ⟨b4, 0, none⟩))] ∧ w = s131.w) eo128 ⟨s102, a22, c22, m0, h10, h101, h22, bx4, bx7, bx13, rfl, rfl⟩ (Sub.rf rfl) ?_
   rintro st128 res128 hm ih128 ho128 _ _ ⟨s131, a106, c106, m0, h10, h101, h106, bx4, bx7, bx13, rfl, rfl⟩
   unfold m_overseerlaw04_Make_l2 at hm
   refine E.seq (E.seq (E.reg (L.mv Wt.no rfl rfl (L.bi Wt.no rfl rfl rfl rfl (L.nil (X.seqN ?_))))))
   rcases ifS hm with ⟨hc, hm⟩ | ⟨hc, hm⟩
   ·refine E.cT rfl hc (E.skip (X.seqN (E.seqJ (fun e w => ∃ (s136 : Sig) (l134 : List (Int × Int × Int)) (a135 : Option Addr) (c135 : Nat), m_overseerlaw04_Make_j2 st128 l134 = some res128 ∧ Mv (Up N No) s s136 ∧ RdL (rK .i64) s136 (some ⟨b10, 0, none⟩) (([0, 1, 2, 3] : List Int).length) ([0, 1, 2, 3] : List Int) ∧ RowT (rK .i64) s136 (N + 3) 3 a101 c101 l100 ∧ RowT (rP (rK .i64) (rP (rK .i64) (rK .i64))) s136 (N + 4) 58 a135 c135 l134 ∧ Bx s136 (N + 0) b4 #[.int .u8 p0.1, .int .u8 p0.2.1, .int .u8 p0.2.2.1.1, .int .u8 p0.2.2.1.2.1, .int .u8 p0.2.2.1.2.2.1, .int .u8 p0.2.2.1.2.2.2, .int .u8 p0.2.2.2.1.1, .int .u8 p0.2.2.2.1.2.1, .int .u8 p0.2.2.2.1.2.2.1, .int .u8 p0.2.2.2.1.2.2.2, .int .u8 p0.2.2.2.2.1.1, .int .u8 p0.2.2.2.2.1.2.1, .int .u8 p0.2.2.2.2.1.2.2.1, .int .u8 p0.2.2.2.2.1.2.2.2, .int .u8 p0.2.2.2.2.2.1.1, .int .u8 p0.2.2.2.2.2.1.2.1, .int .u8 p0.2.2.2.2.2.1.2.2.1, .int .u8 p0.2.2.2.2.2.1.2.2.2, .int .u8 p0.2.2.2.2.2.2.1.1, .int .u8 p0.2.2.2.2.2.2.1.2.1, .int .u8 p0.2.2.2.2.2.2.1.2.2.1, .int .u8 p0.2.2.2.2.2.2.1.2.2.2, .int .u8 p0.2.2.2.2.2.2.2.1, .int .u8 p0.2.2.2.2.2.2.2.2.1, .int .u8 p0.2.2.2.2.2.2.2.2.2.1, .int .u8 p0.2.2.2.2.2.2.2.2.2.2] 25 ∧ Bx s136 (N + 1) b7 #[.slice none 0 0, .int .i64 0, .slice none 0 0, .slice none 0 0] 34 ∧ Bx s136 (N + 2) b13 #[.slice (some ⟨b10, 0, none⟩) ([0, 1, 2, 3] : List Int).length (([0, 1, 2, 3] : List Int).length), .int .i64 (W (1 + (W (p0.1.tmod 6)))), .slice a101 l100.length c101, .slice a135 l134.length c135] 34 ∧ e = [(5, .int .i64 st128.1), (4, .int .i64 st90.1), (3, .pointer (some ⟨b13, 0, none⟩)), (2, .pointer (some ⟨b7, 0, none⟩)), (1, .pointer (some ⟨b4, 0, none⟩))] ∧ w = s136.w) ?_ ?_)))
    ·rintro _ _ ⟨s136, l134, a135, c135, hm, m0, h10, h101, h135, bx4, bx7, bx13, rfl, rfl⟩
     unfold m_overseerlaw04_Make_j2 at hm
     exact E.reg (L.mv Wt.no rfl rfl (L.bi Wt.no rfl rfl rfl rfl (L.as Wt.no rfl rfl (L.nil (X.sub (ih128 _ (Option.some.inj hm).symm _ _ ⟨s136, a135, c135, m0, h10, h101, h135, bx4, bx7, bx13, rfl, rfl⟩) (Sub.rf rfl))))))
    intro Jj137
    refine E.block (E.seq (E.reg (L.mv Wt.no rfl rfl (L.mv Wt.no rfl rfl (L.fa fa25_2 Wt.no rfl rfl ?_)))))
    obtain ⟨_, z138, hm⟩ := bindS hm
    refine L.ia ia23 Wt.no rfl rfl (rng_some z138) rfl ?_
    obtain ⟨_, z139, hm⟩ := bindS hm
    refine L.ia ia22 Wt.no rfl rfl (rng_some z139) rfl ?_
    obtain ⟨x140, ex140, hm⟩ := bindS hm
    refine L.ld (j := st90.1.toNat * 4 + st128.1.toNat * 1) (c := [.int .u8 p0.2.2.1.1, .int .u8 p0.2.2.1.2.1, .int .u8 p0.2.2.1.2.2.1, .int .u8 p0.2.2.1.2.2.2, .int .u8 p0.2.2.2.1.1, .int .u8 p0.2.2.2.1.2.1, .int .u8 p0.2.2.2.1.2.2.1, .int .u8 p0.2.2.2.1.2.2.2, .int .u8 p0.2.2.2.2.1.1, .int .u8 p0.2.2.2.2.1.2.1, .int .u8 p0.2.2.2.2.1.2.2.1, .int .u8 p0.2.2.2.2.1.2.2.2, .int .u8 p0.2.2.2.2.2.1.1, .int .u8 p0.2.2.2.2.2.1.2.1, .int .u8 p0.2.2.2.2.2.1.2.2.1, .int .u8 p0.2.2.2.2.2.1.2.2.2, .int .u8 p0.2.2.2.2.2.2.1.1, .int .u8 p0.2.2.2.2.2.2.1.2.1, .int .u8 p0.2.2.2.2.2.2.1.2.2.1, .int .u8 p0.2.2.2.2.2.2.1.2.2.2, .int .u8 p0.2.2.2.2.2.2.2.1, .int .u8 p0.2.2.2.2.2.2.2.2.1, .int .u8 p0.2.2.2.2.2.2.2.2.2.1, .int .u8 p0.2.2.2.2.2.2.2.2.2.2]) (v := Value.int .u8 x140) (Mem.sub bx4.mem 2 24 (Nat.le_of_ble_eq_true rfl)) nag5 Wt.no rfl (by omega) (show [Value.int .u8 p0.2.2.1.1, Value.int .u8 p0.2.2.1.2.1, Value.int .u8 p0.2.2.1.2.2.1, Value.int .u8 p0.2.2.1.2.2.2, Value.int .u8 p0.2.2.2.1.1, Value.int .u8 p0.2.2.2.1.2.1, Value.int .u8 p0.2.2.2.1.2.2.1, Value.int .u8 p0.2.2.2.1.2.2.2, Value.int .u8 p0.2.2.2.2.1.1, Value.int .u8 p0.2.2.2.2.1.2.1, Value.int .u8 p0.2.2.2.2.1.2.2.1, Value.int .u8 p0.2.2.2.2.1.2.2.2, Value.int .u8 p0.2.2.2.2.2.1.1, Value.int .u8 p0.2.2.2.2.2.1.2.1, Value.int .u8 p0.2.2.2.2.2.1.2.2.1, Value.int .u8 p0.2.2.2.2.2.1.2.2.2, Value.int .u8 p0.2.2.2.2.2.2.1.1, Value.int .u8 p0.2.2.2.2.2.2.1.2.1, Value.int .u8 p0.2.2.2.2.2.2.1.2.2.1, Value.int .u8 p0.2.2.2.2.2.2.1.2.2.2, Value.int .u8 p0.2.2.2.2.2.2.2.1, Value.int .u8 p0.2.2.2.2.2.2.2.2.1, Value.int .u8 p0.2.2.2.2.2.2.2.2.2.1, Value.int .u8 p0.2.2.2.2.2.2.2.2.2.2][st90.1.toNat * 4 + st128.1.toNat * 1]? = some (Value.int .u8 x140) from getMap (f := fun z => Value.int .u8 z) ex140) rfl (L.rem Wt.no rfl rfl (by decide) rfl (L.cv Tryd.underlying5 Tryd.underlying3 Wt.no rfl rfl (L.bi Wt.no rfl rfl rfl rfl (L.as Wt.no rfl rfl (L.nil (X.seqN (E.seq (E.reg (L.mv Wt.no rfl rfl (L.bi Wt.no rfl rfl rfl rfl (L.mv Wt.no rfl rfl (L.cut 5 (fun e w => ∃ (v141 : Bool), ((decide ((W ((W (x140.tmod 7)) - 1)) ≥ 0)) && (decide ((W ((W (x140.tmod 7)) - 1)) < (W (1 + (W (p0.1.tmod 6))))))) = v141 ∧ e = (52, .bool v141) :: [(6, .int .i64 (W ((W (x140.tmod 7)) - 1))), (5, .int .i64 st128.1), (4, .int .i64 st90.1), (3, .pointer (some ⟨b13, 0, none⟩)), (2, .pointer (some ⟨b7, 0, none⟩)), (1, .pointer (some ⟨b4, 0, none⟩))] ∧ w = s131.w) ?_ ?_))))))))))))
    ·rintro _ _ ⟨v141, rfl, rfl, rfl⟩
     refine L.nil (X.seqN ?_)
     rcases ifS hm with ⟨hc, hm⟩ | ⟨hc, hm⟩
     ·refine E.cT rfl hc (E.reg (L.fa fa34_3 Wt.no rfl rfl (L.ld (j := 3) bx13.mem nag32 Wt.no rfl rfl rfl rfl (L.mv Wt.no rfl rfl (L.mv Wt.no rfl rfl (L.mv Wt.no rfl rfl (L.bu (cs := [.int .i64 st90.1, .int .i64 st128.1, .int .i64 (W ((W (x140.tmod 7)) - 1))]) pl58 Wt.no rfl rfl rfl (L.bsE (k := 1) (cs := [.int .i64 st90.1, .int .i64 st128.1, .int .i64 (W ((W (x140.tmod 7)) - 1))]) 0 bs32 (Nat.le_of_ble_eq_true rfl) Wt.no rfl rfl rfl rfl fun b142 s143 m144 bx142 => ?_))))))))
      replace m0 := m0.trans m144.no
      replace h106 := h106.mv m144 no_No no_No
      replace bx4 := bx4.mv m144 no_No
      replace bx7 := bx7.mv m144 no_No
      replace bx13 := bx13.mv m144 no_No
      replace h10 := h10.mono (m144.le no_No)
      replace h101 := h101.mv m144 no_No no_No
      have h142 := Bx.rdL (r := (rP (rK .i64) (rP (rK .i64) (rK .i64)))) (xs := ([(st90.1, st128.1, W ((W (x140.tmod 7)) - 1))] : List (Int × Int × Int))) bx142 ⟨[.int .i64 st90.1, .int .i64 st128.1, .int .i64 (W ((W (x140.tmod 7)) - 1))], _, rfl, ⟨[.int .i64 st90.1], [.int .i64 st128.1, .int .i64 (W ((W (x140.tmod 7)) - 1))], rfl, rfl, ⟨[.int .i64 st128.1], [.int .i64 (W ((W (x140.tmod 7)) - 1))], rfl, rfl, rfl⟩⟩, rfl⟩ (Nat.le_of_ble_eq_true rfl)
      obtain ⟨x145, ex145, hm⟩ := bindS hm
      refine L.ap (r := (rP (rK .i64) (rP (rK .i64) (rK .i64)))) Tryd.underlying32 el58 rfl (tgp hN) h106 h142.wk Wt.no rfl rfl ex145 rfl fun a146 c146 s147 m148 h146 => ?_
      replace m0 := m0.trans (m148.one up)
      replace bx4 := bx4.mv m148 (tgN (by decide))
      replace bx7 := bx7.mv m148 (tgN (by decide))
      replace bx13 := bx13.mv m148 (tgN (by decide))
      replace h10 := h10.mono (m148.le (tg0 hN))
      replace h101 := h101.mv m148 (tgN (by decide)) (tg0 hN)
      refine L.fa fa34_3 Wt.no rfl rfl (L.st (c := [.slice a146 x145.length c146]) (cs' := #[.slice (some ⟨b10, 0, none⟩) ([0, 1, 2, 3] : List Int).length (([0, 1, 2, 3] : List Int).length), .int .i64 (W (1 + (W (p0.1.tmod 6)))), .slice a101 l100.length c101, .slice a146 x145.length c146]) bx13 nag32.sz Wt.no rfl rfl rfl rfl rfl (Nat.le_of_ble_eq_true rfl) rfl fun s149 m150 bx13 => ?_)
      replace m0 := m0.trans (m150.one up)
      replace bx4 := bx4.mv m150 (tgN (by decide))
      replace bx7 := bx7.mv m150 (tgN (by decide))
      replace h10 := h10.mono (m150.le (tg0 hN))
      replace h101 := h101.mv m150 (tgN (by decide)) (tg0 hN)
      replace h146 := h146.mv m150 (tgN (by decide)) (tg0 hN)
      exact L.nil (X.blkN (X.sub (Jj137 _ _ ⟨s149, x145, a146, c146, hm, m0, h10, h101, h146, bx4, bx7, bx13, rfl, rfl⟩) (Sub.rf rfl)))
     exact E.cF rfl hc (E.skip (X.blkN (X.sub (Jj137 _ _ ⟨s131, st128.2, a106, c106, hm, m0, h10, h101, h106, bx4, bx7, bx13, rfl, rfl⟩) (Sub.rf rfl))))
    intro J151
    rcases Bool.eq_false_or_eq_true (decide ((W ((W (x140.tmod 7)) - 1)) ≥ 0)) with hc | hc
    ·exact L.know (d := 47) rfl hc (L.mv (Wt.mk rfl rfl) rfl rfl (L.fa fa34_1 (Wt.mk rfl rfl) rfl rfl (L.ld (j := 1) bx13.mem nag3 (Wt.mk rfl rfl) rfl rfl rfl rfl (L.bi (Wt.mk rfl rfl) rfl rfl rfl rfl (L.pkT Wt.no rfl rfl rfl rfl (L.sb (J151 _ _ ⟨(decide ((W ((W (x140.tmod 7)) - 1)) < (W (1 + (W (p0.1.tmod 6)))))), (andT hc).symm, rfl, rfl⟩) rfl))))))
    exact L.know (d := 47) rfl hc (L.skip rfl rfl rfl rfl (L.skip rfl rfl rfl rfl (L.skip rfl rfl rfl rfl (L.skip rfl rfl rfl rfl (L.pkF Wt.no rfl rfl rfl rfl (L.sb (J151 _ _ ⟨false, (andF hc).symm, rfl, rfl⟩) rfl))))))
   refine E.cF rfl hc (E.exit (X.seqX (X.seqX ?_)))
   have hx := ho128 _ (Option.some.inj hm).symm
   subst hx
   exact X.sub (K133 _ _ ⟨s131, a106, c106, m0, h10, h101, h106, bx4, bx7, bx13, rfl, rfl⟩) (Sub.rf rfl)
  intro Jj103
  refine E.seq (E.reg (L.fa fa25_1 Wt.no rfl rfl (L.ld (j := 1) bx4.mem nag5 Wt.no rfl rfl rfl rfl (L.mv Wt.no rfl rfl ?_))))
  obtain ⟨_, z152, hm⟩ := bindS hm
  refine L.shr Wt.no rfl rfl (ng_some z152) rfl (L.bi Wt.no rfl rfl rfl rfl (L.bi Wt.no rfl rfl rfl rfl (L.nil (X.seqN ?_))))
  rcases ifS hm with ⟨hc, hm⟩ | ⟨hc, hm⟩
  ·refine E.cT rfl hc (E.reg (L.fa fa34_2 Wt.no rfl rfl (L.ld (j := 2) bx13.mem nag31 Wt.no rfl rfl rfl rfl (L.mv Wt.no rfl rfl (L.bsE (k := 1) (cs := [.int .i64 st90.1]) 0 bs31 (Nat.le_of_ble_eq_true rfl) Wt.no rfl rfl rfl rfl fun b153 s154 m155 bx153 => ?_)))))
   replace m0 := m0.trans m155.no
   replace h20 := h20.mv m155 no_No no_No
   replace bx4 := bx4.mv m155 no_No
   replace bx7 := bx7.mv m155 no_No
   replace bx13 := bx13.mv m155 no_No
   replace h10 := h10.mono (m155.le no_No)
   replace h22 := h22.mv m155 no_No no_No
   have h153 := Bx.rdL (r := (rK .i64)) (xs := ([st90.1] : List Int)) bx153 ⟨[.int .i64 st90.1], _, rfl, rfl, rfl⟩ (Nat.le_of_ble_eq_true rfl)
   obtain ⟨x156, ex156, hm⟩ := bindS hm
   refine L.ap (r := (rK .i64)) Tryd.underlying31 el3 rfl (tgp hN) h20 h153.wk Wt.no rfl rfl ex156 rfl fun a157 c157 s158 m159 h157 => ?_
   replace m0 := m0.trans (m159.one up)
   replace bx4 := bx4.mv m159 (tgN (by decide))
   replace bx7 := bx7.mv m159 (tgN (by decide))
   replace bx13 := bx13.mv m159 (tgN (by decide))
   replace h10 := h10.mono (m159.le (tg0 hN))
   replace h22 := h22.mv m159 (tgN (by decide)) (tg0 hN)
   refine L.fa fa34_2 Wt.no rfl rfl (L.st (c := [.slice a157 x156.length c157]) (cs' := #[.slice (some ⟨b10, 0, none⟩) ([0, 1, 2, 3] : List Int).length (([0, 1, 2, 3] : List Int).length), .int .i64 (W (1 + (W (p0.1.tmod 6)))), .slice a157 x156.length c157, .slice a22 st90.2.2.length c22]) bx13 nag31.sz Wt.no rfl rfl rfl rfl rfl (Nat.le_of_ble_eq_true rfl) rfl fun s160 m161 bx13 => ?_)
   replace m0 := m0.trans (m161.one up)
   replace bx4 := bx4.mv m161 (tgN (by decide))
   replace bx7 := bx7.mv m161 (tgN (by decide))
   replace h10 := h10.mono (m161.le (tg0 hN))
   replace h157 := h157.mv m161 (tgN (by decide)) (tg0 hN)
   replace h22 := h22.mv m161 (tgN (by decide)) (tg0 hN)
   exact L.nil (X.sub (Jj103 _ _ ⟨s160, x156, a157, c157, hm, m0, h10, h157, h22, bx4, bx7, bx13, rfl, rfl⟩) (Sub.rf rfl))
  exact E.cF rfl hc (E.skip (X.sub (Jj103 _ _ ⟨s95, st90.2.1, a20, c20, hm, m0, h10, h20, h22, bx4, bx7, bx13, rfl, rfl⟩) (Sub.rf rfl)))
 refine E.cF rfl hc (E.exit (X.seqX (X.seqX ?_)))
 have hx := ho90 _ (Option.some.inj hm).symm
 subst hx
 exact X.sub (K99 _ _ ⟨s95, a20, c20, a22, c22, m0, h10, h20, h22, bx7, bx13, rfl, rfl⟩) (Sub.rf rfl)

theorem ag25 : Ag Tryd.prog 25 26 := Ag.mk' Tryd.underlying25 rfl (by kernel_rfl)
theorem cf16 : Cf Tryd.prog 16 := Cf.mk Tryd.func16 (by kernel_rfl) (by kernel_rfl)
theorem fa27_0 : FA Tryd.prog 27 0 0 := FA.mk Tryd.underlying27 rfl rfl ⟨26, by decide, by kernel_rfl⟩
theorem fa27_1 : FA Tryd.prog 27 1 26 := FA.mk Tryd.underlying27 rfl rfl ⟨26, by decide, by kernel_rfl⟩
theorem fa27_2 : FA Tryd.prog 27 2 52 := FA.mk Tryd.underlying27 rfl rfl ⟨1, by decide, by kernel_rfl⟩
noncomputable def m_overseerlaw24_list_j1 (r8 : (List Int × Int × List Int × (List (Int × Int × Int)))) (r17 : (List Int × Int × List Int × (List (Int × Int × Int)))) (l38 : List Int) (l40 : List (Int × Int × Int)) : Option (List (List Int × Int × List Int × (List (Int × Int × Int)))) :=
  some ([r8, (l38, r17.2.1, r17.2.2.1, l40)] : List (List Int × Int × List Int × (List (Int × Int × Int))))
noncomputable def m_overseerlaw24_list_l1 (r17 : (List Int × Int × List Int × (List (Int × Int × Int)))) (st79 : Int × (List (Int × Int × Int))) : Option ((Int × (List (Int × Int × Int))) ⊕ (List (Int × Int × Int))) :=
  if decide (st79.1 < (r17.2.2.2.length : Int)) then
    (idx r17.2.2.2 st79.1).bind fun x88 =>
    (app st79.2 ([(x88.1, W (x88.2.1 + 2), x88.2.2)] : List (Int × Int × Int))).bind fun x100 =>
    some (.inl (W (st79.1 + 1), x100))
  else
    some (.inr st79.2)
/-- What overseerlaw24.list computes. -/
noncomputable def m_overseerlaw24_list (p0 : (Int × Int × ((Int × Int × Int × Int) × (Int × Int × Int × Int) × (Int × Int × Int × Int) × (Int × Int × Int × Int) × (Int × Int × Int × Int) × (Int × Int × Int × Int))) × (Int × Int × ((Int × Int × Int × Int) × (Int × Int × Int × Int) × (Int × Int × Int × Int) × (Int × Int × Int × Int) × (Int × Int × Int × Int) × (Int × Int × Int × Int))) × Bool) : Option (List (List Int × Int × List Int × (List (Int × Int × Int)))) :=
  (m_overseerlaw04_Make p0.1).bind fun r8 =>
  (m_overseerlaw04_Make p0.2.1).bind fun r17 =>
  if (!p0.2.2) then
    (iter (m_overseerlaw24_list_l1 r17) (0, ([] : List (Int × Int × Int)))).bind fun o79 =>
    m_overseerlaw24_list_j1 r8 r17 ([2, 3, 4, 5] : List Int) o79
  else
    m_overseerlaw24_list_j1 r8 r17 r17.1 r17.2.2.2
set_option maxRecDepth 100000 in
set_option maxHeartbeats 8000000 in
theorem m_overseerlaw24_list_c {s : Sig} {p0 : (Int × Int × ((Int × Int × Int × Int) × (Int × Int × Int × Int) × (Int × Int × Int × Int) × (Int × Int × Int × Int) × (Int × Int × Int × Int) × (Int × Int × Int × Int))) × (Int × Int × ((Int × Int × Int × Int) × (Int × Int × Int × Int) × (Int × Int × Int × Int) × (Int × Int × Int × Int) × (Int × Int × Int × Int) × (Int × Int × Int × Int))) × Bool} {u0 : Nat} {r : (List (List Int × Int × List Int × (List (Int × Int × Int))))} (hm : m_overseerlaw24_list p0 = some r) :
    Calls Tryd.prog 9 #[.agg #[.int .u8 p0.1.1, .int .u8 p0.1.2.1, .int .u8 p0.1.2.2.1.1, .int .u8 p0.1.2.2.1.2.1, .int .u8 p0.1.2.2.1.2.2.1, .int .u8 p0.1.2.2.1.2.2.2, .int .u8 p0.1.2.2.2.1.1, .int .u8 p0.1.2.2.2.1.2.1, .int .u8 p0.1.2.2.2.1.2.2.1, .int .u8 p0.1.2.2.2.1.2.2.2, .int .u8 p0.1.2.2.2.2.1.1, .int .u8 p0.1.2.2.2.2.1.2.1, .int .u8 p0.1.2.2.2.2.1.2.2.1, .int .u8 p0.1.2.2.2.2.1.2.2.2, .int .u8 p0.1.2.2.2.2.2.1.1, .int .u8 p0.1.2.2.2.2.2.1.2.1, .int .u8 p0.1.2.2.2.2.2.1.2.2.1, .int .u8 p0.1.2.2.2.2.2.1.2.2.2, .int .u8 p0.1.2.2.2.2.2.2.1.1, .int .u8 p0.1.2.2.2.2.2.2.1.2.1, .int .u8 p0.1.2.2.2.2.2.2.1.2.2.1, .int .u8 p0.1.2.2.2.2.2.2.1.2.2.2, .int .u8 p0.1.2.2.2.2.2.2.2.1, .int .u8 p0.1.2.2.2.2.2.2.2.2.1, .int .u8 p0.1.2.2.2.2.2.2.2.2.2.1, .int .u8 p0.1.2.2.2.2.2.2.2.2.2.2, .int .u8 p0.2.1.1, .int .u8 p0.2.1.2.1, .int .u8 p0.2.1.2.2.1.1, .int .u8 p0.2.1.2.2.1.2.1, .int .u8 p0.2.1.2.2.1.2.2.1, .int .u8 p0.2.1.2.2.1.2.2.2, .int .u8 p0.2.1.2.2.2.1.1, .int .u8 p0.2.1.2.2.2.1.2.1, .int .u8 p0.2.1.2.2.2.1.2.2.1, .int .u8 p0.2.1.2.2.2.1.2.2.2, .int .u8 p0.2.1.2.2.2.2.1.1, .int .u8 p0.2.1.2.2.2.2.1.2.1, .int .u8 p0.2.1.2.2.2.2.1.2.2.1, .int .u8 p0.2.1.2.2.2.2.1.2.2.2, .int .u8 p0.2.1.2.2.2.2.2.1.1, .int .u8 p0.2.1.2.2.2.2.2.1.2.1, .int .u8 p0.2.1.2.2.2.2.2.1.2.2.1, .int .u8 p0.2.1.2.2.2.2.2.1.2.2.2, .int .u8 p0.2.1.2.2.2.2.2.2.1.1, .int .u8 p0.2.1.2.2.2.2.2.2.1.2.1, .int .u8 p0.2.1.2.2.2.2.2.2.1.2.2.1, .int .u8 p0.2.1.2.2.2.2.2.2.1.2.2.2, .int .u8 p0.2.1.2.2.2.2.2.2.2.1, .int .u8 p0.2.1.2.2.2.2.2.2.2.2.1, .int .u8 p0.2.1.2.2.2.2.2.2.2.2.2.1, .int .u8 p0.2.1.2.2.2.2.2.2.2.2.2.2, .bool p0.2.2]] s.w (RetS No s fun v s' => ∃ (a1 : Option Addr) (c1 : Nat), v = .slice a1 r.length c1 ∧ RowT (rP (rL (rK .i64)) (rP (rK .i64) (rP (rL (rK .i64)) (rL (rP (rK .i64) (rP (rK .i64) (rK .i64))))))) s' u0 34 a1 c1 r) := by
 unfold m_overseerlaw24_list at hm
 obtain ⟨N, hN, hNb⟩ := s.fresh
 have m0 : Mv (Up N No) s s := Mv.refl _ _
 refine E.entry Tryd.func9 rfl Tryd.ntmps9 rfl rfl (E.seq (E.reg (L.box (N + 0) Wt.no rfl rfl rfl fun b2 s3 m4 bx2 => ?_)))
 replace m0 := m0.trans m4.no
 refine L.as Wt.no rfl rfl (L.nil (X.seqN (E.seq ?_)))
 obtain ⟨r8, er8, hm⟩ := bindS hm
 obtain ⟨r17, er17, hm⟩ := bindS hm
 refine E.draw [[], [0], [0, 1], [], [3], [0, 1, 2, 3, 4], [], [], [0, 1, 2, 3, 4, 5, 6, 7], [0, 1, 2, 3, 4, 5, 6, 7, 8]] (fun D e sx => Mv (fun t => t = (N + 1) ∨ t = (N + 2)) s3 sx ∧ Sub [(1, .pointer (some ⟨b2, 0, none⟩))] e ∧ AllP [G D e 0 8 (.pointer (some ⟨b2, 0, none⟩)), G D e 1 9 (.agg #[.int .u8 p0.1.1, .int .u8 p0.1.2.1, .int .u8 p0.1.2.2.1.1, .int .u8 p0.1.2.2.1.2.1, .int .u8 p0.1.2.2.1.2.2.1, .int .u8 p0.1.2.2.1.2.2.2, .int .u8 p0.1.2.2.2.1.1, .int .u8 p0.1.2.2.2.1.2.1, .int .u8 p0.1.2.2.2.1.2.2.1, .int .u8 p0.1.2.2.2.1.2.2.2, .int .u8 p0.1.2.2.2.2.1.1, .int .u8 p0.1.2.2.2.2.1.2.1, .int .u8 p0.1.2.2.2.2.1.2.2.1, .int .u8 p0.1.2.2.2.2.1.2.2.2, .int .u8 p0.1.2.2.2.2.2.1.1, .int .u8 p0.1.2.2.2.2.2.1.2.1, .int .u8 p0.1.2.2.2.2.2.1.2.2.1, .int .u8 p0.1.2.2.2.2.2.1.2.2.2, .int .u8 p0.1.2.2.2.2.2.2.1.1, .int .u8 p0.1.2.2.2.2.2.2.1.2.1, .int .u8 p0.1.2.2.2.2.2.2.1.2.2.1, .int .u8 p0.1.2.2.2.2.2.2.1.2.2.2, .int .u8 p0.1.2.2.2.2.2.2.2.1, .int .u8 p0.1.2.2.2.2.2.2.2.2.1, .int .u8 p0.1.2.2.2.2.2.2.2.2.2.1, .int .u8 p0.1.2.2.2.2.2.2.2.2.2.2]), D 2 = true → (∃ (a11 : Option Addr) (c11 : Nat) (a12 : Option Addr) (c12 : Nat) (a13 : Option Addr) (c13 : Nat), Env.get e 10 = some (.agg #[.slice a11 r8.1.length c11, .int .i64 r8.2.1, .slice a12 r8.2.2.1.length c12, .slice a13 r8.2.2.2.length c13]) ∧ RdL (rK .i64) sx a11 c11 r8.1 ∧ RdL (rK .i64) sx a12 c12 r8.2.2.1 ∧ RdL (rP (rK .i64) (rP (rK .i64) (rK .i64))) sx a13 c13 r8.2.2.2), G D e 3 11 (.pointer (some ⟨b2, 26, none⟩)), G D e 4 12 (.agg #[.int .u8 p0.2.1.1, .int .u8 p0.2.1.2.1, .int .u8 p0.2.1.2.2.1.1, .int .u8 p0.2.1.2.2.1.2.1, .int .u8 p0.2.1.2.2.1.2.2.1, .int .u8 p0.2.1.2.2.1.2.2.2, .int .u8 p0.2.1.2.2.2.1.1, .int .u8 p0.2.1.2.2.2.1.2.1, .int .u8 p0.2.1.2.2.2.1.2.2.1, .int .u8 p0.2.1.2.2.2.1.2.2.2, .int .u8 p0.2.1.2.2.2.2.1.1, .int .u8 p0.2.1.2.2.2.2.1.2.1, .int .u8 p0.2.1.2.2.2.2.1.2.2.1, .int .u8 p0.2.1.2.2.2.2.1.2.2.2, .int .u8 p0.2.1.2.2.2.2.2.1.1, .int .u8 p0.2.1.2.2.2.2.2.1.2.1, .int .u8 p0.2.1.2.2.2.2.2.1.2.2.1, .int .u8 p0.2.1.2.2.2.2.2.1.2.2.2, .int .u8 p0.2.1.2.2.2.2.2.2.1.1, .int .u8 p0.2.1.2.2.2.2.2.2.1.2.1, .int .u8 p0.2.1.2.2.2.2.2.2.1.2.2.1, .int .u8 p0.2.1.2.2.2.2.2.2.1.2.2.2, .int .u8 p0.2.1.2.2.2.2.2.2.2.1, .int .u8 p0.2.1.2.2.2.2.2.2.2.2.1, .int .u8 p0.2.1.2.2.2.2.2.2.2.2.2.1, .int .u8 p0.2.1.2.2.2.2.2.2.2.2.2.2]), D 5 = true → (∃ (a20 : Option Addr) (c20 : Nat) (a21 : Option Addr) (c21 : Nat) (a22 : Option Addr) (c22 : Nat), Env.get e 13 = some (.agg #[.slice a20 r17.1.length c20, .int .i64 r17.2.1, .slice a21 r17.2.2.1.length c21, .slice a22 r17.2.2.2.length c22]) ∧ RdL (rK .i64) sx a20 c20 r17.1 ∧ RdL (rK .i64) sx a21 c21 r17.2.2.1 ∧ RdL (rP (rK .i64) (rP (rK .i64) (rK .i64))) sx a22 c22 r17.2.2.2), D 6 = true → (∃ (b24 : Nat), Env.get e 3 = some (.pointer (some ⟨b24, 0, none⟩))), D 7 = true → (∃ (b28 : Nat), Env.get e 4 = some (.pointer (some ⟨b28, 0, none⟩))), D 6 = true → D 8 = false → ∀ (b24 : Nat), Env.get e 3 = some (.pointer (some ⟨b24, 0, none⟩)) → Bx sx (N + 1) b24 #[.slice none 0 0, .int .i64 0, .slice none 0 0, .slice none 0 0] 34, D 8 = true → ∀ (a11 : Option Addr) (c11 : Nat) (a12 : Option Addr) (c12 : Nat) (a13 : Option Addr) (c13 : Nat) (b24 : Nat), Env.get e 10 = some (.agg #[.slice a11 r8.1.length c11, .int .i64 r8.2.1, .slice a12 r8.2.2.1.length c12, .slice a13 r8.2.2.2.length c13]) → Env.get e 3 = some (.pointer (some ⟨b24, 0, none⟩)) → Bx sx (N + 1) b24 #[.slice a11 r8.1.length c11, .int .i64 r8.2.1, .slice a12 r8.2.2.1.length c12, .slice a13 r8.2.2.2.length c13] 34, D 7 = true → D 9 = false → ∀ (b28 : Nat), Env.get e 4 = some (.pointer (some ⟨b28, 0, none⟩)) → Bx sx (N + 2) b28 #[.slice none 0 0, .int .i64 0, .slice none 0 0, .slice none 0 0] 34, D 9 = true → ∀ (a20 : Option Addr) (c20 : Nat) (a21 : Option Addr) (c21 : Nat) (a22 : Option Addr) (c22 : Nat) (b28 : Nat), Env.get e 13 = some (.agg #[.slice a20 r17.1.length c20, .int .i64 r17.2.1, .slice a21 r17.2.2.1.length c21, .slice a22 r17.2.2.2.length c22]) → Env.get e 4 = some (.pointer (some ⟨b28, 0, none⟩)) → Bx sx (N + 2) b28 #[.slice a20 r17.1.length c20, .int .i64 r17.2.1, .slice a21 r17.2.2.1.length c21, .slice a22 r17.2.2.2.length c22] 34]) (by kernel_rfl) (by kernel_rfl) (by kernel_rfl) ?_ ?_ ?_
 ·intro sz mz
  exact ⟨mz.no, (Sub.rf rfl), nofun, nofun, nofun, nofun, nofun, nofun, nofun, nofun, nofun, nofun, nofun, nofun, trivial⟩
 ·refine ⟨?_, ?_, ?_, ?_, ?_, ?_, ?_, ?_, ?_, ?_, trivial⟩
  ·rintro D e s5 ⟨im, ib, i⟩ hk hf ha
   have kn := K1 (ib 1 _ rfl)
   exact L.kns _ kn (L.fa fa27_0 Wt.no rfl rfl (L.nil (X.dk kn ⟨im, Sub.fresh ib rfl, i.u 0 (fun _ => rfl)⟩)))
  ·rintro D e s6 ⟨im, ib, i⟩ hk hf ha
   have bx2 := bx2.mv im (nor (tgN (by decide)) (tgN (by decide)))
   have kn := K1 ((i.p 0) (ha.at 0 rfl))
   exact L.kns _ kn (L.lg (j := 0) (cs := [.int .u8 p0.1.1, .int .u8 p0.1.2.1, .int .u8 p0.1.2.2.1.1, .int .u8 p0.1.2.2.1.2.1, .int .u8 p0.1.2.2.1.2.2.1, .int .u8 p0.1.2.2.1.2.2.2, .int .u8 p0.1.2.2.2.1.1, .int .u8 p0.1.2.2.2.1.2.1, .int .u8 p0.1.2.2.2.1.2.2.1, .int .u8 p0.1.2.2.2.1.2.2.2, .int .u8 p0.1.2.2.2.2.1.1, .int .u8 p0.1.2.2.2.2.1.2.1, .int .u8 p0.1.2.2.2.2.1.2.2.1, .int .u8 p0.1.2.2.2.2.1.2.2.2, .int .u8 p0.1.2.2.2.2.2.1.1, .int .u8 p0.1.2.2.2.2.2.1.2.1, .int .u8 p0.1.2.2.2.2.2.1.2.2.1, .int .u8 p0.1.2.2.2.2.2.1.2.2.2, .int .u8 p0.1.2.2.2.2.2.2.1.1, .int .u8 p0.1.2.2.2.2.2.2.1.2.1, .int .u8 p0.1.2.2.2.2.2.2.1.2.2.1, .int .u8 p0.1.2.2.2.2.2.2.1.2.2.2, .int .u8 p0.1.2.2.2.2.2.2.2.1, .int .u8 p0.1.2.2.2.2.2.2.2.2.1, .int .u8 p0.1.2.2.2.2.2.2.2.2.2.1, .int .u8 p0.1.2.2.2.2.2.2.2.2.2.2]) bx2.mem ag25 Wt.no rfl rfl rfl rfl rfl (L.nil (X.dk kn ⟨im, Sub.fresh ib rfl, i.u 1 (fun _ => rfl)⟩)))
  ·rintro D e s7 ⟨im, ib, i⟩ hk hf ha
   have kn := K1 ((i.p 1) (ha.at 1 rfl))
   refine L.kns _ kn (L.ca cf16 rfl rfl Wt.no rfl (m_overseerlaw04_Make_c (s := s7) (p0 := p0.1) (u1 := 0) (u2 := 0) er8) rfl ?_)
   rintro _ s9 m10 ⟨a11, c11, a12, c12, a13, c13, rfl, h11, h12, h13⟩
   replace h12 := h12.p
   replace h13 := h13.p
   exact L.nil (X.dk kn ⟨im.trans m10.no, Sub.fresh ib rfl, (((((i.u 2 (fun _ => ⟨a11, c11, a12, c12, a13, c13, rfl, h11, h12, h13⟩)).u 5 (fun z => let ⟨a20, c20, a21, c21, a22, c22, q, h20, h21, h22⟩ := (i.p 5) z; ⟨a20, c20, a21, c21, a22, c22, q, (h20.mono (m10.le no_No)), (h21.mono (m10.le no_No)), (h22.mono (m10.le no_No))⟩)).u 8 (fun z z2 b24 q6 => (((i.p 8) z z2 b24 q6).mv m10 no_No))).u 9 (fun z => Bool.noConfusion ((hf 8 (Nat.le_of_ble_eq_true rfl) rfl).symm.trans z))).u 10 (fun z z2 b28 q7 => (((i.p 10) z z2 b28 q7).mv m10 no_No))).u 11 (fun z a20 c20 a21 c21 a22 c22 b28 q5 q7 => (((i.p 11) z a20 c20 a21 c21 a22 c22 b28 q5 q7).mv m10 no_No))⟩)
  ·rintro D e s14 ⟨im, ib, i⟩ hk hf ha
   have kn := K1 (ib 1 _ rfl)
   exact L.kns _ kn (L.fa fa27_1 Wt.no rfl rfl (L.nil (X.dk kn ⟨im, Sub.fresh ib rfl, i.u 3 (fun _ => rfl)⟩)))
  ·rintro D e s15 ⟨im, ib, i⟩ hk hf ha
   have bx2 := bx2.mv im (nor (tgN (by decide)) (tgN (by decide)))
   have kn := K1 ((i.p 3) (ha.at 3 rfl))
   exact L.kns _ kn (L.lg (j := 26) (cs := [.int .u8 p0.2.1.1, .int .u8 p0.2.1.2.1, .int .u8 p0.2.1.2.2.1.1, .int .u8 p0.2.1.2.2.1.2.1, .int .u8 p0.2.1.2.2.1.2.2.1, .int .u8 p0.2.1.2.2.1.2.2.2, .int .u8 p0.2.1.2.2.2.1.1, .int .u8 p0.2.1.2.2.2.1.2.1, .int .u8 p0.2.1.2.2.2.1.2.2.1, .int .u8 p0.2.1.2.2.2.1.2.2.2, .int .u8 p0.2.1.2.2.2.2.1.1, .int .u8 p0.2.1.2.2.2.2.1.2.1, .int .u8 p0.2.1.2.2.2.2.1.2.2.1, .int .u8 p0.2.1.2.2.2.2.1.2.2.2, .int .u8 p0.2.1.2.2.2.2.2.1.1, .int .u8 p0.2.1.2.2.2.2.2.1.2.1, .int .u8 p0.2.1.2.2.2.2.2.1.2.2.1, .int .u8 p0.2.1.2.2.2.2.2.1.2.2.2, .int .u8 p0.2.1.2.2.2.2.2.2.1.1, .int .u8 p0.2.1.2.2.2.2.2.2.1.2.1, .int .u8 p0.2.1.2.2.2.2.2.2.1.2.2.1, .int .u8 p0.2.1.2.2.2.2.2.2.1.2.2.2, .int .u8 p0.2.1.2.2.2.2.2.2.2.1, .int .u8 p0.2.1.2.2.2.2.2.2.2.2.1, .int .u8 p0.2.1.2.2.2.2.2.2.2.2.2.1, .int .u8 p0.2.1.2.2.2.2.2.2.2.2.2.2]) bx2.mem ag25 Wt.no rfl rfl rfl rfl rfl (L.nil (X.dk kn ⟨im, Sub.fresh ib rfl, i.u 4 (fun _ => rfl)⟩)))
  ·rintro D e s16 ⟨im, ib, i⟩ hk hf ha
   have kn := K1 ((i.p 4) (ha.at 4 rfl))
   refine L.kns _ kn (L.ca cf16 rfl rfl Wt.no rfl (m_overseerlaw04_Make_c (s := s16) (p0 := p0.2.1) (u1 := 0) (u2 := 0) er17) rfl ?_)
   rintro _ s18 m19 ⟨a20, c20, a21, c21, a22, c22, rfl, h20, h21, h22⟩
   replace h21 := h21.p
   replace h22 := h22.p
   exact L.nil (X.dk kn ⟨im.trans m19.no, Sub.fresh ib rfl, (((((i.u 2 (fun z => let ⟨a11, c11, a12, c12, a13, c13, q, h11, h12, h13⟩ := (i.p 2) z; ⟨a11, c11, a12, c12, a13, c13, q, (h11.mono (m19.le no_No)), (h12.mono (m19.le no_No)), (h13.mono (m19.le no_No))⟩)).u 5 (fun _ => ⟨a20, c20, a21, c21, a22, c22, rfl, h20, h21, h22⟩)).u 8 (fun z z2 b24 q6 => (((i.p 8) z z2 b24 q6).mv m19 no_No))).u 9 (fun z a11 c11 a12 c12 a13 c13 b24 q2 q6 => (((i.p 9) z a11 c11 a12 c12 a13 c13 b24 q2 q6).mv m19 no_No))).u 10 (fun z z2 b28 q7 => (((i.p 10) z z2 b28 q7).mv m19 no_No))).u 11 (fun z => Bool.noConfusion ((hf 9 (Nat.le_of_ble_eq_true rfl) rfl).symm.trans z))⟩)
  ·rintro D e s23 ⟨im, ib, i⟩ hk hf ha
   exact L.al (N + 1) zz34 rfl Wt.no rfl fun b24 s25 m26 bx24 => L.nil (X.dr (s := s25) (e' := (3, .pointer (some ⟨b24, 0, none⟩)) :: e) (Sub.both (Sub.refl)) ⟨im.trans m26.no, Sub.fresh ib rfl, ((((((i.u 2 (fun z => let ⟨a11, c11, a12, c12, a13, c13, q, h11, h12, h13⟩ := (i.p 2) z; ⟨a11, c11, a12, c12, a13, c13, q, (h11.mono (m26.le no_No)), (h12.mono (m26.le no_No)), (h13.mono (m26.le no_No))⟩)).u 5 (fun z => let ⟨a20, c20, a21, c21, a22, c22, q, h20, h21, h22⟩ := (i.p 5) z; ⟨a20, c20, a21, c21, a22, c22, q, (h20.mono (m26.le no_No)), (h21.mono (m26.le no_No)), (h22.mono (m26.le no_No))⟩)).u 6 (fun _ => ⟨b24, rfl⟩)).u 8 (fun _ _ _ q6 => by cases (show some (.pointer (some ⟨b24, 0, none⟩) : Value) = some _ from q6); exact bx24)).u 9 (fun z => Bool.noConfusion ((hf 8 (Nat.le_of_ble_eq_true rfl) rfl).symm.trans z))).u 10 (fun z z2 b28 q7 => (((i.p 10) z z2 b28 q7).mv m26 no_No))).u 11 (fun z a20 c20 a21 c21 a22 c22 b28 q5 q7 => (((i.p 11) z a20 c20 a21 c21 a22 c22 b28 q5 q7).mv m26 no_No))⟩)
  ·rintro D e s27 ⟨im, ib, i⟩ hk hf ha
   exact L.al (N + 2) zz34 rfl Wt.no rfl fun b28 s29 m30 bx28 => L.nil (X.dr (s := s29) (e' := (4, .pointer (some ⟨b28, 0, none⟩)) :: e) (Sub.both (Sub.refl)) ⟨im.trans m30.no, Sub.fresh ib rfl, ((((((i.u 2 (fun z => let ⟨a11, c11, a12, c12, a13, c13, q, h11, h12, h13⟩ := (i.p 2) z; ⟨a11, c11, a12, c12, a13, c13, q, (h11.mono (m30.le no_No)), (h12.mono (m30.le no_No)), (h13.mono (m30.le no_No))⟩)).u 5 (fun z => let ⟨a20, c20, a21, c21, a22, c22, q, h20, h21, h22⟩ := (i.p 5) z; ⟨a20, c20, a21, c21, a22, c22, q, (h20.mono (m30.le no_No)), (h21.mono (m30.le no_No)), (h22.mono (m30.le no_No))⟩)).u 7 (fun _ => ⟨b28, rfl⟩)).u 8 (fun z z2 b24 q6 => (((i.p 8) z z2 b24 q6).mv m30 no_No))).u 9 (fun z a11 c11 a12 c12 a13 c13 b24 q2 q6 => (((i.p 9) z a11 c11 a12 c12 a13 c13 b24 q2 q6).mv m30 no_No))).u 10 (fun _ _ _ q7 => by cases (show some (.pointer (some ⟨b28, 0, none⟩) : Value) = some _ from q7); exact bx28)).u 11 (fun z => Bool.noConfusion ((hf 9 (Nat.le_of_ble_eq_true rfl) rfl).symm.trans z))⟩)
  ·rintro D e s31 ⟨im, ib, i⟩ hk hf ha
   obtain ⟨a11, c11, a12, c12, a13, c13, g2_, h11, h12, h13⟩ := (i.p 2) (ha.at 2 rfl)
   obtain ⟨b24, g6_⟩ := (i.p 6) (ha.at 6 rfl)
   obtain bx24 := (i.p 8) (ha.at 6 rfl) hk b24 g6_
   have kn := K2 g6_ g2_
   exact L.kns _ kn (L.st (c := [.slice a11 r8.1.length c11, .int .i64 r8.2.1, .slice a12 r8.2.2.1.length c12, .slice a13 r8.2.2.2.length c13]) (cs' := #[.slice a11 r8.1.length c11, .int .i64 r8.2.1, .slice a12 r8.2.2.1.length c12, .slice a13 r8.2.2.2.length c13]) bx24 ag34.sz Wt.no rfl rfl rfl rfl rfl (Nat.le_of_ble_eq_true rfl) rfl fun s32 m33 bx24 => L.nil (X.dn kn ⟨im.trans (m33.one (.inl rfl)), ib, (((((i.u 2 (fun z => let ⟨a11, c11, a12, c12, a13, c13, q, h11, h12, h13⟩ := (i.p 2) z; ⟨a11, c11, a12, c12, a13, c13, q, (h11.mono (m33.le (tg0 hN))), (h12.mono (m33.le (tg0 hN))), (h13.mono (m33.le (tg0 hN)))⟩)).u 5 (fun z => let ⟨a20, c20, a21, c21, a22, c22, q, h20, h21, h22⟩ := (i.p 5) z; ⟨a20, c20, a21, c21, a22, c22, q, (h20.mono (m33.le (tg0 hN))), (h21.mono (m33.le (tg0 hN))), (h22.mono (m33.le (tg0 hN)))⟩)).u 8 (fun _ z => Bool.noConfusion (show true = false from z))).u 9 (fun _ _ _ _ _ _ _ _ q2 q6 => by cases g2_.symm.trans q2; cases g6_.symm.trans q6; exact bx24)).u 10 (fun z z2 b28 q7 => (((i.p 10) z z2 b28 q7).mv m33 (tgN (by decide))))).u 11 (fun z a20 c20 a21 c21 a22 c22 b28 q5 q7 => (((i.p 11) z a20 c20 a21 c21 a22 c22 b28 q5 q7).mv m33 (tgN (by decide))))⟩))
  rintro D e s34 ⟨im, ib, i⟩ hk hf ha
  obtain ⟨a20, c20, a21, c21, a22, c22, g5_, h20, h21, h22⟩ := (i.p 5) (ha.at 5 rfl)
  obtain ⟨b28, g7_⟩ := (i.p 7) (ha.at 7 rfl)
  obtain bx28 := (i.p 10) (ha.at 7 rfl) hk b28 g7_
  have kn := K2 g7_ g5_
  exact L.kns _ kn (L.st (c := [.slice a20 r17.1.length c20, .int .i64 r17.2.1, .slice a21 r17.2.2.1.length c21, .slice a22 r17.2.2.2.length c22]) (cs' := #[.slice a20 r17.1.length c20, .int .i64 r17.2.1, .slice a21 r17.2.2.1.length c21, .slice a22 r17.2.2.2.length c22]) bx28 ag34.sz Wt.no rfl rfl rfl rfl rfl (Nat.le_of_ble_eq_true rfl) rfl fun s35 m36 bx28 => L.nil (X.dn kn ⟨im.trans (m36.one (.inr rfl)), ib, (((((i.u 2 (fun z => let ⟨a11, c11, a12, c12, a13, c13, q, h11, h12, h13⟩ := (i.p 2) z; ⟨a11, c11, a12, c12, a13, c13, q, (h11.mono (m36.le (tg0 hN))), (h12.mono (m36.le (tg0 hN))), (h13.mono (m36.le (tg0 hN)))⟩)).u 5 (fun z => let ⟨a20, c20, a21, c21, a22, c22, q, h20, h21, h22⟩ := (i.p 5) z; ⟨a20, c20, a21, c21, a22, c22, q, (h20.mono (m36.le (tg0 hN))), (h21.mono (m36.le (tg0 hN))), (h22.mono (m36.le (tg0 hN)))⟩)).u 8 (fun z z2 b24 q6 => (((i.p 8) z z2 b24 q6).mv m36 (tgN (by decide))))).u 9 (fun z a11 c11 a12 c12 a13 c13 b24 q2 q6 => (((i.p 9) z a11 c11 a12 c12 a13 c13 b24 q2 q6).mv m36 (tgN (by decide))))).u 10 (fun _ z => Bool.noConfusion (show true = false from z))).u 11 (fun _ _ _ _ _ _ _ _ q5 q7 => by cases g5_.symm.trans q5; cases g7_.symm.trans q7; exact bx28)⟩))
 rintro D e s37 hD ⟨im, ib, i⟩
 obtain ⟨a11, c11, a12, c12, a13, c13, g2_, h11, h12, h13⟩ := (i.p 2) (hD 2 rfl)
 obtain ⟨a20, c20, a21, c21, a22, c22, g5_, h20, h21, h22⟩ := (i.p 5) (hD 5 rfl)
 obtain ⟨b24, g6_⟩ := (i.p 6) (hD 6 rfl)
 obtain ⟨b28, g7_⟩ := (i.p 7) (hD 7 rfl)
 obtain bx24 := (i.p 9) (hD 8 rfl) a11 c11 a12 c12 a13 c13 b24 g2_ g6_
 obtain bx28 := (i.p 11) (hD 9 rfl) a20 c20 a21 c21 a22 c22 b28 g5_ g7_
 have bx2 := bx2.mv im (nor (tgN (by decide)) (tgN (by decide)))
 have m0 := m0.trans (im.weak fun _ e => by rcases e with e | e; (rw [e]; exact up); (rw [e]; exact up))
 refine X.sub (e' := [(4, .pointer (some ⟨b28, 0, none⟩)), (3, .pointer (some ⟨b24, 0, none⟩)), (1, .pointer (some ⟨b2, 0, none⟩))]) ?_ (Sub.cons g7_ (Sub.cons g6_ (Sub.cons (ib 1 _ rfl) Sub.nil)))
 refine X.seqN (E.seqJ (fun e w => ∃ (s42 : Sig) (l38 : List Int) (l40 : List (Int × Int × Int)) (a39 : Option Addr) (c39 : Nat) (a41 : Option Addr) (c41 : Nat), m_overseerlaw24_list_j1 r8 r17 l38 l40 = some r ∧ Mv (Up N No) s s42 ∧ RdL (rK .i64) s42 a11 c11 r8.1 ∧ RdL (rK .i64) s42 a12 c12 r8.2.2.1 ∧ RdL (rP (rK .i64) (rP (rK .i64) (rK .i64))) s42 a13 c13 r8.2.2.2 ∧ RdL (rK .i64) s42 a39 c39 l38 ∧ RdL (rK .i64) s42 a21 c21 r17.2.2.1 ∧ RdL (rP (rK .i64) (rP (rK .i64) (rK .i64))) s42 a41 c41 l40 ∧ Bx s42 (N + 1) b24 #[.slice a11 r8.1.length c11, .int .i64 r8.2.1, .slice a12 r8.2.2.1.length c12, .slice a13 r8.2.2.2.length c13] 34 ∧ Bx s42 (N + 2) b28 #[.slice a39 l38.length c39, .int .i64 r17.2.1, .slice a21 r17.2.2.1.length c21, .slice a41 l40.length c41] 34 ∧ e = [(4, .pointer (some ⟨b28, 0, none⟩)), (3, .pointer (some ⟨b24, 0, none⟩))] ∧ w = s42.w) ?_ ?_)
 ·rintro _ _ ⟨s42, l38, l40, a39, c39, a41, c41, hm, m0, h11, h12, h13, h39, h21, h41, bx24, bx28, rfl, rfl⟩
  unfold m_overseerlaw24_list_j1 at hm
  refine E.seq (E.reg (L.lg (j := 0) (cs := [.slice a11 r8.1.length c11, .int .i64 r8.2.1, .slice a12 r8.2.2.1.length c12, .slice a13 r8.2.2.2.length c13]) bx24.mem ag34 Wt.no rfl rfl rfl rfl rfl (L.lg (j := 0) (cs := [.slice a39 l38.length c39, .int .i64 r17.2.1, .slice a21 r17.2.2.1.length c21, .slice a41 l40.length c41]) bx28.mem ag34 Wt.no rfl rfl rfl rfl rfl (L.bsE (k := 2) (cs := [.slice a11 r8.1.length c11, .int .i64 r8.2.1, .slice a12 r8.2.2.1.length c12, .slice a13 r8.2.2.2.length c13, .slice a39 l38.length c39, .int .i64 r17.2.1, .slice a21 r17.2.2.1.length c21, .slice a41 l40.length c41]) (N + 6) bs29 (Nat.le_of_ble_eq_true rfl) Wt.no rfl rfl rfl rfl fun b44 s45 m46 bx44 => ?_))))
  replace m0 := m0.trans m46.no
  replace h11 := h11.mono (m46.le no_No)
  replace h12 := h12.mono (m46.le no_No)
  replace h13 := h13.mono (m46.le no_No)
  replace h39 := h39.mono (m46.le no_No)
  replace h21 := h21.mono (m46.le no_No)
  replace h41 := h41.mono (m46.le no_No)
  have h44 := Bx.row (r := (rP (rL (rK .i64)) (rP (rK .i64) (rP (rL (rK .i64)) (rL (rP (rK .i64) (rP (rK .i64) (rK .i64)))))))) (xs := ([r8, (l38, r17.2.1, r17.2.2.1, l40)] : List (List Int × Int × List Int × (List (Int × Int × Int))))) bx44 ⟨[.slice a11 r8.1.length c11, .int .i64 r8.2.1, .slice a12 r8.2.2.1.length c12, .slice a13 r8.2.2.2.length c13], _, rfl, ⟨[.slice a11 r8.1.length c11], [.int .i64 r8.2.1, .slice a12 r8.2.2.1.length c12, .slice a13 r8.2.2.2.length c13], rfl, ⟨_, _, rfl, h11⟩, ⟨[.int .i64 r8.2.1], [.slice a12 r8.2.2.1.length c12, .slice a13 r8.2.2.2.length c13], rfl, rfl, ⟨[.slice a12 r8.2.2.1.length c12], [.slice a13 r8.2.2.2.length c13], rfl, ⟨_, _, rfl, h12⟩, ⟨_, _, rfl, h13⟩⟩⟩⟩, ⟨[.slice a39 l38.length c39, .int .i64 r17.2.1, .slice a21 r17.2.2.1.length c21, .slice a41 l40.length c41], _, rfl, ⟨[.slice a39 l38.length c39], [.int .i64 r17.2.1, .slice a21 r17.2.2.1.length c21, .slice a41 l40.length c41], rfl, ⟨_, _, rfl, h39⟩, ⟨[.int .i64 r17.2.1], [.slice a21 r17.2.2.1.length c21, .slice a41 l40.length c41], rfl, rfl, ⟨[.slice a21 r17.2.2.1.length c21], [.slice a41 l40.length c41], rfl, ⟨_, _, rfl, h21⟩, ⟨_, _, rfl, h41⟩⟩⟩⟩, rfl⟩⟩ (Nat.le_of_ble_eq_true rfl)
  refine L.as Wt.no rfl rfl (L.nil (X.seqN (E.ret ?_)))
  obtain rfl := Option.some.inj hm
  exact X.rt (.inl rfl) Tryd.results9 (Rs.tmp rfl Rs.nil) rfl ⟨_, (s45).ren N (fun k => cond (Nat.beq k 6) u0 (0)), rfl, rfl, m0.ren hNb, ⟨(some ⟨b44, 0, none⟩), ([r8, (l38, r17.2.1, r17.2.2.1, l40)] : List (List Int × Int × List Int × (List (Int × Int × Int)))).length, rfl, (h44.ren hN)⟩⟩
 intro Jj43
 refine E.seq (E.reg (L.fa fa27_2 Wt.no rfl rfl (L.ld (j := 52) bx2.mem nag4 Wt.no rfl rfl rfl rfl (L.not Wt.no rfl rfl (L.nil (X.seqN ?_))))))
 rcases ifS hm with ⟨hc, hm⟩ | ⟨hc, hm⟩
 ·refine E.cT rfl hc (E.seq (E.reg (L.bsE (k := 4) (cs := [.int .i64 2, .int .i64 3, .int .i64 4, .int .i64 5]) 0 bs31 (Nat.le_of_ble_eq_true rfl) Wt.no rfl rfl rfl rfl fun b47 s48 m49 bx47 => ?_)))
  replace m0 := m0.trans m49.no
  replace bx24 := bx24.mv m49 no_No
  replace h11 := h11.mono (m49.le no_No)
  replace h12 := h12.mono (m49.le no_No)
  replace h13 := h13.mono (m49.le no_No)
  replace bx28 := bx28.mv m49 no_No
  replace h20 := h20.mono (m49.le no_No)
  replace h21 := h21.mono (m49.le no_No)
  replace h22 := h22.mono (m49.le no_No)
  have h47 := Bx.rdL (r := (rK .i64)) (xs := ([2, 3, 4, 5] : List Int)) bx47 ⟨[.int .i64 2], _, rfl, rfl, ⟨[.int .i64 3], _, rfl, rfl, ⟨[.int .i64 4], _, rfl, rfl, ⟨[.int .i64 5], _, rfl, rfl, rfl⟩⟩⟩⟩ (Nat.le_of_ble_eq_true rfl)
  refine L.fa fa34_1 Wt.no rfl rfl (L.ld (j := 1) bx28.mem nag3 Wt.no rfl rfl rfl rfl (L.fa fa34_2 Wt.no rfl rfl (L.ld (j := 2) bx28.mem nag31 Wt.no rfl rfl rfl rfl (L.bu (cs := [.slice (some ⟨b47, 0, none⟩) ([2, 3, 4, 5] : List Int).length (([2, 3, 4, 5] : List Int).length), .int .i64 r17.2.1, .slice a21 r17.2.2.1.length c21, .slice none 0 0]) pl34 Wt.no rfl rfl rfl (L.al (N + 3) zz34 rfl Wt.no rfl fun b50 s51 m52 bx50 => ?_)))))
  replace m0 := m0.trans m52.no
  replace h47 := h47.mono (m52.le no_No)
  replace h21 := h21.mono (m52.le no_No)
  replace bx24 := bx24.mv m52 no_No
  replace h11 := h11.mono (m52.le no_No)
  replace h12 := h12.mono (m52.le no_No)
  replace h13 := h13.mono (m52.le no_No)
  replace bx28 := bx28.mv m52 no_No
  replace h20 := h20.mono (m52.le no_No)
  replace h22 := h22.mono (m52.le no_No)
  refine L.st (c := [.slice (some ⟨b47, 0, none⟩) ([2, 3, 4, 5] : List Int).length (([2, 3, 4, 5] : List Int).length), .int .i64 r17.2.1, .slice a21 r17.2.2.1.length c21, .slice none 0 0]) (cs' := #[.slice (some ⟨b47, 0, none⟩) ([2, 3, 4, 5] : List Int).length (([2, 3, 4, 5] : List Int).length), .int .i64 r17.2.1, .slice a21 r17.2.2.1.length c21, .slice none 0 0]) bx50 ag34.sz Wt.no rfl rfl rfl rfl rfl (Nat.le_of_ble_eq_true rfl) rfl fun s53 m54 bx50 => ?_
  replace m0 := m0.trans (m54.one up)
  replace bx24 := bx24.mv m54 (tgN (by decide))
  replace h11 := h11.mono (m54.le (tg0 hN))
  replace h12 := h12.mono (m54.le (tg0 hN))
  replace h13 := h13.mono (m54.le (tg0 hN))
  replace bx28 := bx28.mv m54 (tgN (by decide))
  replace h20 := h20.mono (m54.le (tg0 hN))
  replace h21 := h21.mono (m54.le (tg0 hN))
  replace h22 := h22.mono (m54.le (tg0 hN))
  replace h47 := h47.mono (m54.le (tg0 hN))
  refine L.nil (X.seqN (E.seq (E.seq (E.reg (L.as Wt.no rfl rfl (L.nil (X.seqN (E.block ?_))))))))
  obtain ⟨o79, eo79, hm⟩ := bindS hm
  refine E.cut (x := .exit 0) (fun e w => ∃ (s83 : Sig) (a81 : Option Addr) (c81 : Nat), Mv (Up N No) s s83 ∧ RdL (rK .i64) s83 a11 c11 r8.1 ∧ RdL (rK .i64) s83 a12 c12 r8.2.2.1 ∧ RdL (rP (rK .i64) (rP (rK .i64) (rK .i64))) s83 a13 c13 r8.2.2.2 ∧ RdL (rK .i64) s83 a20 c20 r17.1 ∧ RdL (rK .i64) s83 a21 c21 r17.2.2.1 ∧ RdL (rP (rK .i64) (rP (rK .i64) (rK .i64))) s83 a22 c22 r17.2.2.2 ∧ RdL (rK .i64) s83 (some ⟨b47, 0, none⟩) (([2, 3, 4, 5] : List Int).length) ([2, 3, 4, 5] : List Int) ∧ RowT (rP (rK .i64) (rP (rK .i64) (rK .i64))) s83 (N + 5) 58 a81 c81 o79 ∧ Bx s83 (N + 1) b24 #[.slice a11 r8.1.length c11, .int .i64 r8.2.1, .slice a12 r8.2.2.1.length c12, .slice a13 r8.2.2.2.length c13] 34 ∧ Bx s83 (N + 2) b28 #[.slice a20 r17.1.length c20, .int .i64 r17.2.1, .slice a21 r17.2.2.1.length c21, .slice a22 r17.2.2.2.length c22] 34 ∧ Bx s83 (N + 3) b50 #[.slice (some ⟨b47, 0, none⟩) ([2, 3, 4, 5] : List Int).length (([2, 3, 4, 5] : List Int).length), .int .i64 r17.2.1, .slice a21 r17.2.2.1.length c21, .slice a81 o79.length c81] 34 ∧ e = [(5, .pointer (some ⟨b50, 0, none⟩)), (4, .pointer (some ⟨b28, 0, none⟩)), (3, .pointer (some ⟨b24, 0, none⟩))] ∧ w = s83.w) ?_ ?_
  ·rintro _ _ ⟨s83, a81, c81, m0, h11, h12, h13, h20, h21, h22, h47, h81, bx24, bx28, bx50, rfl, rfl⟩
   refine X.blkE (X.seqN (E.reg (L.lg (j := 0) (cs := [.slice (some ⟨b47, 0, none⟩) ([2, 3, 4, 5] : List Int).length (([2, 3, 4, 5] : List Int).length), .int .i64 r17.2.1, .slice a21 r17.2.2.1.length c21, .slice a81 o79.length c81]) bx50.mem ag34 Wt.no rfl rfl rfl rfl rfl (L.st (c := [.slice (some ⟨b47, 0, none⟩) ([2, 3, 4, 5] : List Int).length (([2, 3, 4, 5] : List Int).length), .int .i64 r17.2.1, .slice a21 r17.2.2.1.length c21, .slice a81 o79.length c81]) (cs' := #[.slice (some ⟨b47, 0, none⟩) ([2, 3, 4, 5] : List Int).length (([2, 3, 4, 5] : List Int).length), .int .i64 r17.2.1, .slice a21 r17.2.2.1.length c21, .slice a81 o79.length c81]) bx28 ag34.sz Wt.no rfl rfl rfl rfl rfl (Nat.le_of_ble_eq_true rfl) rfl fun s84 m85 bx28 => ?_))))
   replace m0 := m0.trans (m85.one up)
   replace bx24 := bx24.mv m85 (tgN (by decide))
   replace h11 := h11.mono (m85.le (tg0 hN))
   replace h12 := h12.mono (m85.le (tg0 hN))
   replace h13 := h13.mono (m85.le (tg0 hN))
   replace h47 := h47.mono (m85.le (tg0 hN))
   replace h21 := h21.mono (m85.le (tg0 hN))
   replace h81 := h81.mv m85 (tgN (by decide)) (tg0 hN)
   refine L.nil ?_
   have m86 := Sig.fz_mv (N + 5) s84
   replace h81 := h81.fz (tgn hN)
   replace m0 := m0.trans (m86.one up)
   replace bx28 := bx28.mv m86 (tgN (by decide))
   replace h47 := h47.mono (m86.le (tg0 hN))
   replace h21 := h21.mono (m86.le (tg0 hN))
   replace bx24 := bx24.mv m86 (tgN (by decide))
   replace h11 := h11.mono (m86.le (tg0 hN))
   replace h12 := h12.mono (m86.le (tg0 hN))
   replace h13 := h13.mono (m86.le (tg0 hN))
   exact X.sub (Jj43 _ _ ⟨(Sig.fz (N + 5) s84), ([2, 3, 4, 5] : List Int), o79, (some ⟨b47, 0, none⟩), ([2, 3, 4, 5] : List Int).length, a81, c81, hm, m0, h11, h12, h13, h47, h21, h81, bx24, bx28, rfl, rfl⟩) (Sub.rf rfl)
  intro K87
  refine E.iter (fun (st79 : Int × (List (Int × Int × Int))) (e : List (Nat × Value)) (w : World) => ∃ (s82 : Sig) (a57 : Option Addr) (c57 : Nat), Mv (Up N No) s s82 ∧ RdL (rK .i64) s82 a11 c11 r8.1 ∧ RdL (rK .i64) s82 a12 c12 r8.2.2.1 ∧ RdL (rP (rK .i64) (rP (rK .i64) (rK .i64))) s82 a13 c13 r8.2.2.2 ∧ RdL (rK .i64) s82 a20 c20 r17.1 ∧ RdL (rK .i64) s82 a21 c21 r17.2.2.1 ∧ RdL (rP (rK .i64) (rP (rK .i64) (rK .i64))) s82 a22 c22 r17.2.2.2 ∧ RdL (rK .i64) s82 (some ⟨b47, 0, none⟩) (([2, 3, 4, 5] : List Int).length) ([2, 3, 4, 5] : List Int) ∧ RowT (rP (rK .i64) (rP (rK .i64) (rK .i64))) s82 (N + 5) 58 a57 c57 st79.2 ∧ Bx s82 (N + 1) b24 #[.slice a11 r8.1.length c11, .int .i64 r8.2.1, .slice a12 r8.2.2.1.length c12, .slice a13 r8.2.2.2.length c13] 34 ∧ Bx s82 (N + 2) b28 #[.slice a20 r17.1.length c20, .int .i64 r17.2.1, .slice a21 r17.2.2.1.length c21, .slice a22 r17.2.2.2.length c22] 34 ∧ Bx s82 (N + 3) b50 #[.slice (some ⟨b47, 0, none⟩) ([2, 3, 4, 5] : List Int).length (([2, 3, 4, 5] : List Int).length), .int .i64 r17.2.1, .slice a21 r17.2.2.1.length c21, .slice a57 st79.2.length c57] 34 ∧ e = [(6, .int .i64 st79.1), (5, .pointer (some ⟨b50, 0, none⟩)), (4, .pointer (some ⟨b28, 0, none⟩)), (3, .pointer (some ⟨b24, 0, none⟩))] ∧ w = s82.w) eo79 ⟨s53, none, 0, m0, h11, h12, h13, h20, h21, h22, h47, RowT.nil, bx24, bx28, bx50, rfl, rfl⟩ (Sub.rf rfl) ?_
  rintro st79 res79 hm ih79 ho79 _ _ ⟨s82, a57, c57, m0, h11, h12, h13, h20, h21, h22, h47, h57, bx24, bx28, bx50, rfl, rfl⟩
  unfold m_overseerlaw24_list_l1 at hm
  refine E.seq (E.seq (E.reg (L.mv Wt.no rfl rfl (L.fa fa34_3 Wt.no rfl rfl (L.ld (j := 3) bx28.mem nag32 Wt.no rfl rfl rfl rfl (L.len sl32 Wt.no rfl rfl (L.bi Wt.no rfl rfl rfl rfl (L.nil (X.seqN ?_)))))))))
  rcases ifS hm with ⟨hc, hm⟩ | ⟨hc, hm⟩
  ·refine E.cT rfl hc (E.skip (X.seqN (E.seq (E.block (E.seq (E.reg (L.fa fa34_3 Wt.no rfl rfl (L.ld (j := 3) bx28.mem nag32 Wt.no rfl rfl rfl rfl (L.mv Wt.no rfl rfl ?_)))))))))
   obtain ⟨x88, ex88, hm⟩ := bindS hm
   refine L.ix (r := (rP (rK .i64) (rP (rK .i64) (rK .i64)))) sl32 h22 Wt.no rfl rfl ex88 rfl fun b89 o89 cc89 me89 rd89 => ?_
   obtain ⟨_, _, rfl, rfl, ⟨_, _, rfl, rfl, rfl⟩⟩ := rd89
   refine L.lg (j := 0) (cs := [.int .i64 x88.1, .int .i64 x88.2.1, .int .i64 x88.2.2]) me89 ag58 Wt.no rfl rfl rfl rfl rfl (L.al (N + 4) zz58 rfl Wt.no rfl fun b90 s91 m92 bx90 => ?_)
   replace m0 := m0.trans m92.no
   replace bx24 := bx24.mv m92 no_No
   replace h11 := h11.mono (m92.le no_No)
   replace h12 := h12.mono (m92.le no_No)
   replace h13 := h13.mono (m92.le no_No)
   replace bx28 := bx28.mv m92 no_No
   replace h20 := h20.mono (m92.le no_No)
   replace h21 := h21.mono (m92.le no_No)
   replace h22 := h22.mono (m92.le no_No)
   replace bx50 := bx50.mv m92 no_No
   replace h47 := h47.mono (m92.le no_No)
   replace h57 := h57.mv m92 no_No no_No
   refine L.st (c := [.int .i64 x88.1, .int .i64 x88.2.1, .int .i64 x88.2.2]) (cs' := #[.int .i64 x88.1, .int .i64 x88.2.1, .int .i64 x88.2.2]) bx90 ag58.sz Wt.no rfl rfl rfl rfl rfl (Nat.le_of_ble_eq_true rfl) rfl fun s93 m94 bx90 => ?_
   replace m0 := m0.trans (m94.one up)
   replace bx24 := bx24.mv m94 (tgN (by decide))
   replace h11 := h11.mono (m94.le (tg0 hN))
   replace h12 := h12.mono (m94.le (tg0 hN))
   replace h13 := h13.mono (m94.le (tg0 hN))
   replace bx28 := bx28.mv m94 (tgN (by decide))
   replace h20 := h20.mono (m94.le (tg0 hN))
   replace h21 := h21.mono (m94.le (tg0 hN))
   replace h22 := h22.mono (m94.le (tg0 hN))
   replace bx50 := bx50.mv m94 (tgN (by decide))
   replace h47 := h47.mono (m94.le (tg0 hN))
   replace h57 := h57.mv m94 (tgN (by decide)) (tg0 hN)
   refine L.nil (X.seqN (E.seq (E.reg (L.fa fa58_1 Wt.no rfl rfl (L.ld (j := 1) bx90.mem nag3 Wt.no rfl rfl rfl rfl (L.bi Wt.no rfl rfl rfl rfl (L.fa fa58_1 Wt.no rfl rfl (L.st (c := [.int .i64 (W (x88.2.1 + 2))]) (cs' := #[.int .i64 x88.1, .int .i64 (W (x88.2.1 + 2)), .int .i64 x88.2.2]) bx90 nag3.sz Wt.no rfl rfl rfl rfl rfl (Nat.le_of_ble_eq_true rfl) rfl fun s95 m96 bx90 => ?_))))))))
   replace m0 := m0.trans (m96.one up)
   replace bx24 := bx24.mv m96 (tgN (by decide))
   replace h11 := h11.mono (m96.le (tg0 hN))
   replace h12 := h12.mono (m96.le (tg0 hN))
   replace h13 := h13.mono (m96.le (tg0 hN))
   replace bx28 := bx28.mv m96 (tgN (by decide))
   replace h20 := h20.mono (m96.le (tg0 hN))
   replace h21 := h21.mono (m96.le (tg0 hN))
   replace h22 := h22.mono (m96.le (tg0 hN))
   replace bx50 := bx50.mv m96 (tgN (by decide))
   replace h47 := h47.mono (m96.le (tg0 hN))
   replace h57 := h57.mv m96 (tgN (by decide)) (tg0 hN)
   refine L.nil (X.seqN (E.reg (L.fa fa34_3 Wt.no rfl rfl (L.ld (j := 3) bx50.mem nag32 Wt.no rfl rfl rfl rfl (L.lg (j := 0) (cs := [.int .i64 x88.1, .int .i64 (W (x88.2.1 + 2)), .int .i64 x88.2.2]) bx90.mem ag58 Wt.no rfl rfl rfl rfl rfl (L.bsE (k := 1) (cs := [.int .i64 x88.1, .int .i64 (W (x88.2.1 + 2)), .int .i64 x88.2.2]) 0 bs32 (Nat.le_of_ble_eq_true rfl) Wt.no rfl rfl rfl rfl fun b97 s98 m99 bx97 => ?_))))))
   replace m0 := m0.trans m99.no
   replace h57 := h57.mv m99 no_No no_No
   replace bx24 := bx24.mv m99 no_No
   replace h11 := h11.mono (m99.le no_No)
   replace h12 := h12.mono (m99.le no_No)
   replace h13 := h13.mono (m99.le no_No)
   replace bx28 := bx28.mv m99 no_No
   replace h20 := h20.mono (m99.le no_No)
   replace h21 := h21.mono (m99.le no_No)
   replace h22 := h22.mono (m99.le no_No)
   replace bx50 := bx50.mv m99 no_No
   replace h47 := h47.mono (m99.le no_No)
   have h97 := Bx.rdL (r := (rP (rK .i64) (rP (rK .i64) (rK .i64)))) (xs := ([(x88.1, W (x88.2.1 + 2), x88.2.2)] : List (Int × Int × Int))) bx97 ⟨[.int .i64 x88.1, .int .i64 (W (x88.2.1 + 2)), .int .i64 x88.2.2], _, rfl, ⟨[.int .i64 x88.1], [.int .i64 (W (x88.2.1 + 2)), .int .i64 x88.2.2], rfl, rfl, ⟨[.int .i64 (W (x88.2.1 + 2))], [.int .i64 x88.2.2], rfl, rfl, rfl⟩⟩, rfl⟩ (Nat.le_of_ble_eq_true rfl)
   obtain ⟨x100, ex100, hm⟩ := bindS hm
   refine L.ap (r := (rP (rK .i64) (rP (rK .i64) (rK .i64)))) Tryd.underlying32 el58 rfl (tgp hN) h57 h97.wk Wt.no rfl rfl ex100 rfl fun a101 c101 s102 m103 h101 => ?_
   replace m0 := m0.trans (m103.one up)
   replace bx24 := bx24.mv m103 (tgN (by decide))
   replace h11 := h11.mono (m103.le (tg0 hN))
   replace h12 := h12.mono (m103.le (tg0 hN))
   replace h13 := h13.mono (m103.le (tg0 hN))
   replace bx28 := bx28.mv m103 (tgN (by decide))
   replace h20 := h20.mono (m103.le (tg0 hN))
   replace h21 := h21.mono (m103.le (tg0 hN))
   replace h22 := h22.mono (m103.le (tg0 hN))
   replace bx50 := bx50.mv m103 (tgN (by decide))
   replace h47 := h47.mono (m103.le (tg0 hN))
   refine L.fa fa34_3 Wt.no rfl rfl (L.st (c := [.slice a101 x100.length c101]) (cs' := #[.slice (some ⟨b47, 0, none⟩) ([2, 3, 4, 5] : List Int).length (([2, 3, 4, 5] : List Int).length), .int .i64 r17.2.1, .slice a21 r17.2.2.1.length c21, .slice a101 x100.length c101]) bx50 nag32.sz Wt.no rfl rfl rfl rfl rfl (Nat.le_of_ble_eq_true rfl) rfl fun s104 m105 bx50 => ?_)
   replace m0 := m0.trans (m105.one up)
   replace bx24 := bx24.mv m105 (tgN (by decide))
   replace h11 := h11.mono (m105.le (tg0 hN))
   replace h12 := h12.mono (m105.le (tg0 hN))
   replace h13 := h13.mono (m105.le (tg0 hN))
   replace bx28 := bx28.mv m105 (tgN (by decide))
   replace h20 := h20.mono (m105.le (tg0 hN))
   replace h21 := h21.mono (m105.le (tg0 hN))
   replace h22 := h22.mono (m105.le (tg0 hN))
   replace h47 := h47.mono (m105.le (tg0 hN))
   replace h101 := h101.mv m105 (tgN (by decide)) (tg0 hN)
   exact L.nil (X.blkN (X.seqN (E.reg (L.mv Wt.no rfl rfl (L.bi Wt.no rfl rfl rfl rfl (L.as Wt.no rfl rfl (L.nil (X.sub (ih79 _ (Option.some.inj hm).symm _ _ ⟨s104, a101, c101, m0, h11, h12, h13, h20, h21, h22, h47, h101, bx24, bx28, bx50, rfl, rfl⟩) (Sub.rf rfl)))))))))
  refine E.cF rfl hc (E.exit (X.seqX (X.seqX ?_)))
  have hx := ho79 _ (Option.some.inj hm).symm
  subst hx
  exact X.sub (K87 _ _ ⟨s82, a57, c57, m0, h11, h12, h13, h20, h21, h22, h47, h57, bx24, bx28, bx50, rfl, rfl⟩) (Sub.rf rfl)
 exact E.cF rfl hc (E.skip (X.sub (Jj43 _ _ ⟨s37, r17.1, r17.2.2.2, a20, c20, a22, c22, hm, m0, h11, h12, h13, h20, h21, h22, bx24, bx28, rfl, rfl⟩) (Sub.rf rfl)))

noncomputable def m_overseerlaw24_from_j1 (st221 : Int × List Bool × List Int) (l228 : List Int) (l230 : List Bool) : Option ((Int × List Bool × List Int) ⊕ (List Bool × List Int)) :=
  some (.inl (W (st221.1 + 1), l230, l228))
noncomputable def m_overseerlaw24_from_j2 (st221 : Int × List Bool × List Int) (x233 : Int × Int × Int) (b235 : Bool) : Option ((Int × List Bool × List Int) ⊕ (List Bool × List Int)) :=
  if b235 then
    (idx st221.2.1 x233.2.2).bind fun x238 =>
    (upd st221.2.1 x233.2.2 true).bind fun x240 =>
    (app st221.2.2 ([x233.2.2] : List Int)).bind fun x246 =>
    m_overseerlaw24_from_j1 st221 x246 x240
  else
    m_overseerlaw24_from_j1 st221 st221.2.2 st221.2.1
noncomputable def m_overseerlaw24_from_l2 (p0 : List Int × Int × List Int × (List (Int × Int × Int))) (st153 : Int × List Bool × List Int) (st221 : Int × List Bool × List Int) : Option ((Int × List Bool × List Int) ⊕ (List Bool × List Int)) :=
  if decide (st221.1 < (p0.2.2.2.length : Int)) then
    (idx p0.2.2.2 st221.1).bind fun x233 =>
    (idx p0.2.2.2 st221.1).bind fun x254 =>
    (idx st221.2.2 st153.1).bind fun x261 =>
    if (x254.1 == x261) then
      (idx st221.2.1 x233.2.2).bind fun x270 =>
      m_overseerlaw24_from_j2 st221 x233 (!x270)
    else
      m_overseerlaw24_from_j2 st221 x233 false
  else
    some (.inr st221.2)
noncomputable def m_overseerlaw24_from_l1 (p0 : List Int × Int × List Int × (List (Int × Int × Int))) (st153 : Int × List Bool × List Int) : Option ((Int × List Bool × List Int) ⊕ (List Bool)) :=
  if decide (st153.1 < (st153.2.2.length : Int)) then
    (iter (m_overseerlaw24_from_l2 p0 st153) (0, st153.2)).bind fun o221 =>
    some (.inl (W (st153.1 + 1), o221))
  else
    some (.inr st153.2.1)
/-- What overseerlaw24.from computes. -/
noncomputable def m_overseerlaw24_from (p0 : List Int × Int × List Int × (List (Int × Int × Int))) (p1 : Int) : Option (List Bool) :=
  (mkL p0.2.1 false).bind fun x8 =>
  (idx x8 p1).bind fun x15 =>
  (upd x8 p1 true).bind fun x17 =>
  (iter (m_overseerlaw24_from_l1 p0) (0, x17, ([p1] : List Int))).bind fun o153 =>
  some o153
noncomputable def m_overseerlaw24_has_l1 (p0 : List Int) (p1 : Int) (st6 : Int) : Option (Int ⊕ (Unit ⊕ Unit)) :=
  if decide (st6 < (p0.length : Int)) then
    (idx p0 st6).bind fun x14 =>
    if (x14 == p1) then
      some (.inr (.inr (())))
    else
      some (.inl (W (st6 + 1)))
  else
    some (.inr (.inl ()))
/-- What overseerlaw24.has computes. -/
noncomputable def m_overseerlaw24_has (p0 : List Int) (p1 : Int) : Option Bool :=
  (iter (m_overseerlaw24_has_l1 p0 p1) 0).bind fun o6 =>
  match o6 with
  | .inl u8 =>
    some false
  | .inr (u11) =>
    some true
set_option maxRecDepth 100000 in
set_option maxHeartbeats 8000000 in
theorem m_overseerlaw24_has_c {s : Sig} {p0 : List Int} {p1 : Int} {a1 : Option Addr} {c1 : Nat} {r : Bool} (h1 : RdL (rK .i64) s a1 c1 p0) (hm : m_overseerlaw24_has p0 p1 = some r) :
    Calls Tryd.prog 24 #[.slice a1 p0.length c1, .int .i64 p1] s.w (RetS No s fun v s' => v = .bool r) := by
 unfold m_overseerlaw24_has at hm
 obtain ⟨N, hN, hNb⟩ := s.fresh
 have m0 : Mv (Up N No) s s := Mv.refl _ _
 refine E.entry Tryd.func24 rfl Tryd.ntmps24 rfl rfl (E.seq (E.reg (L.as Wt.no rfl rfl (L.nil (X.seqN (E.seq (E.seq (E.reg (L.as Wt.no rfl rfl (L.nil (X.seqN (E.block ?_))))))))))))
 obtain ⟨o6, eo6, hm⟩ := bindS hm
 refine E.cut (x := .exit 0) (fun e w => ∃ (s9 : Sig) (u8 : Unit), o6 = .inl u8 ∧ Mv (Up N No) s s9 ∧ e = [] ∧ w = s9.w) ?_ ?_
 ·rintro _ _ ⟨s9, u8, rfl, m0, rfl, rfl⟩
  dsimp only at hm
  refine X.blkE (X.seqN (E.seq (E.reg (L.as Wt.no rfl rfl (L.nil (X.seqN (E.ret ?_)))))))
  obtain rfl := Option.some.inj hm
  exact X.rt (.inl rfl) Tryd.results24 (Rs.tmp rfl Rs.nil) rfl ⟨_, (s9).ren N (fun _ => 0), rfl, rfl, m0.ren hNb, rfl⟩
 intro K10
 refine E.cut (x := .ret) (fun e w => ∃ (s12 : Sig) (u11 : Unit), o6 = .inr (u11) ∧ Mv (Up N No) s s12 ∧ e = [(4, .bool true)] ∧ w = s12.w) ?_ ?_
 ·rintro _ _ ⟨s12, u11, rfl, m0, rfl, rfl⟩
  dsimp only at hm
  refine X.blkR (X.seqR ?_)
  obtain rfl := Option.some.inj hm
  exact X.rt (.inl rfl) Tryd.results24 (Rs.tmp rfl Rs.nil) rfl ⟨_, (s12).ren N (fun _ => 0), rfl, rfl, m0.ren hNb, rfl⟩
 intro K13
 refine E.iter (fun (st6 : Int) (e : List (Nat × Value)) (w : World) => ∃ (s7 : Sig), Mv (Up N No) s s7 ∧ RdL (rK .i64) s7 a1 c1 p0 ∧ e = [(5, .int .i64 st6), (0, .slice a1 p0.length c1), (1, .int .i64 p1)] ∧ w = s7.w) eo6 ⟨s, m0, h1, rfl, rfl⟩ (Sub.rf rfl) ?_
 rintro st6 res6 hm ih6 ho6 _ _ ⟨s7, m0, h1, rfl, rfl⟩
 unfold m_overseerlaw24_has_l1 at hm
 refine E.seq (E.seq (E.reg (L.mv Wt.no rfl rfl (L.mv Wt.no rfl rfl (L.len sl31 Wt.no rfl rfl (L.bi Wt.no rfl rfl rfl rfl (L.nil (X.seqN ?_))))))))
 rcases ifS hm with ⟨hc, hm⟩ | ⟨hc, hm⟩
 ·refine E.cT rfl hc (E.skip (X.seqN (E.seq (E.block (E.seq (E.reg (L.mv Wt.no rfl rfl (L.mv Wt.no rfl rfl ?_))))))))
  obtain ⟨x14, ex14, hm⟩ := bindS hm
  refine L.ix (r := (rK .i64)) sl31 h1 Wt.no rfl rfl ex14 rfl fun b15 o15 cc15 me15 rd15 => ?_
  obtain rfl := rd15
  refine L.ld (j := 0) me15 nag3 Wt.no rfl rfl rfl rfl (L.mv Wt.no rfl rfl (L.bi Wt.no rfl rfl rfl rfl (L.nil (X.seqN ?_))))
  rcases ifS hm with ⟨hc, hm⟩ | ⟨hc, hm⟩
  ·refine E.cT rfl hc (E.seq (E.reg (L.as Wt.no rfl rfl (L.nil (X.seqN (E.ret (X.blkR (X.seqR (X.seqR ?_)))))))))
   have hx := ho6 _ (Option.some.inj hm).symm
   exact X.sub (K13 _ _ ⟨s7, (), hx.symm, m0, rfl, rfl⟩) (Sub.rf rfl)
  exact E.cF rfl hc (E.skip (X.blkN (X.seqN (E.reg (L.mv Wt.no rfl rfl (L.bi Wt.no rfl rfl rfl rfl (L.as Wt.no rfl rfl (L.nil (X.sub (ih6 _ (Option.some.inj hm).symm _ _ ⟨s7, m0, h1, rfl, rfl⟩) (Sub.rf rfl))))))))))
 refine E.cF rfl hc (E.exit (X.seqX (X.seqX ?_)))
 have hx := ho6 _ (Option.some.inj hm).symm
 exact X.sub (K10 _ _ ⟨s7, (), hx.symm, m0, rfl, rfl⟩) Sub.nil

noncomputable def m_overseerlaw24_meets_l1 (p0 : List Bool) (p1 : List Int) (st9 : Int) : Option (Int ⊕ (Unit ⊕ Unit)) :=
  if decide (st9 < (p1.length : Int)) then
    (idx p1 st9).bind fun x17 =>
    (idx p0 x17).bind fun x19 =>
    if x19 then
      some (.inr (.inr (())))
    else
      some (.inl (W (st9 + 1)))
  else
    some (.inr (.inl ()))
/-- What overseerlaw24.meets computes. -/
noncomputable def m_overseerlaw24_meets (p0 : List Bool) (p1 : List Int) : Option Bool :=
  (iter (m_overseerlaw24_meets_l1 p0 p1) 0).bind fun o9 =>
  match o9 with
  | .inl u11 =>
    some false
  | .inr (u14) =>
    some true
noncomputable def m_overseerlaw24_dead_l1 (p0 : List Int × Int × List Int × (List (Int × Int × Int))) (p1 : Int) (st11 : Int) : Option (Int ⊕ (Unit ⊕ Unit)) :=
  if decide (st11 < (p0.2.2.2.length : Int)) then
    (idx p0.2.2.2 st11).bind fun x19 =>
    if (x19.1 == p1) then
      some (.inr (.inr (())))
    else
      some (.inl (W (st11 + 1)))
  else
    some (.inr (.inl ()))
/-- What overseerlaw24.dead computes. -/
noncomputable def m_overseerlaw24_dead (p0 : List Int × Int × List Int × (List (Int × Int × Int))) (p1 : Int) : Option Bool :=
  (iter (m_overseerlaw24_dead_l1 p0 p1) 0).bind fun o11 =>
  match o11 with
  | .inl u13 =>
    some true
  | .inr (u16) =>
    some false
end Go.Proofs.YtfbapajcheammaaDoor

namespace Go.Proofs.YtfbapajcheammaaDoor
open Go Go.RowKit
theorem cf24 : Cf Tryd.prog 24 := Cf.mk Tryd.func24 (by kernel_rfl) (by kernel_rfl)
noncomputable def m_overseerlaw24_kind_l1 (p0 : List Int × Int × List Int × (List (Int × Int × Int))) (r7 : List Bool) (st31 : Int) : Option (Int ⊕ (Unit ⊕ Unit)) :=
  if decide (st31 < p0.2.1) then
    (idx r7 st31).bind fun x39 =>
    (if x39 then
      (m_overseerlaw24_dead p0 st31).bind fun r45 =>
      some r45
    else
      some false).bind fun b41 =>
    if b41 then
      some (.inr (.inr (())))
    else
      some (.inl (W (st31 + 1)))
  else
    some (.inr (.inl ()))
/-- What overseerlaw24.kind computes. -/
noncomputable def m_overseerlaw24_kind (p0 : List Int × Int × List Int × (List (Int × Int × Int))) (p1 : Int) : Option Int :=
  (m_overseerlaw24_from p0 p1).bind fun r7 =>
  (m_overseerlaw24_has p0.2.2.1 p1).bind fun r11 =>
  if r11 then
    some 1
  else
    (m_overseerlaw24_meets r7 p0.2.2.1).bind fun r14 =>
    if r14 then
      some 2
    else
      (m_overseerlaw24_dead p0 p1).bind fun r17 =>
      if r17 then
        some 3
      else
        (iter (m_overseerlaw24_kind_l1 p0 r7) 0).bind fun o31 =>
        match o31 with
        | .inl u33 =>
          some 4
        | .inr (u36) =>
          some 5
noncomputable def m_overseerlaw24_kinds_l1 (p0 : List Int × Int × List Int × (List (Int × Int × Int))) (st24 : Int × List Int) : Option ((Int × List Int) ⊕ (List Int)) :=
  if decide (st24.1 < p0.2.1) then
    (m_overseerlaw24_kind p0 st24.1).bind fun r30 =>
    (app st24.2 ([r30] : List Int)).bind fun x36 =>
    some (.inl (W (st24.1 + 1), x36))
  else
    some (.inr st24.2)
/-- What overseerlaw24.kinds computes. -/
noncomputable def m_overseerlaw24_kinds (p0 : List Int × Int × List Int × (List (Int × Int × Int))) : Option (List Int) :=
  (iter (m_overseerlaw24_kinds_l1 p0) (0, ([] : List Int))).bind fun o24 =>
  some o24
noncomputable def m_overseerlaw24_chosen_j1 (st27 : Int × List Int) (l33 : List Int) : Option ((Int × List Int) ⊕ (List Int)) :=
  some (.inl (W (st27.1 + 1), l33))
noncomputable def m_overseerlaw24_chosen_l1 (p0 : List Int) (p1 : Int) (p2 : Int) (st27 : Int × List Int) : Option ((Int × List Int) ⊕ (List Int)) :=
  if decide (st27.1 < (p0.length : Int)) then
    (idx p0 st27.1).bind fun x37 =>
    (if decide (x37 ≥ p1) then
      (idx p0 st27.1).bind fun x49 =>
      some (decide (x49 ≤ p2))
    else
      some false).bind fun b39 =>
    if b39 then
      (app st27.2 ([st27.1] : List Int)).bind fun x44 =>
      m_overseerlaw24_chosen_j1 st27 x44
    else
      m_overseerlaw24_chosen_j1 st27 st27.2
  else
    some (.inr st27.2)
/-- What overseerlaw24.chosen computes. -/
noncomputable def m_overseerlaw24_chosen (p0 : List Int) (p1 : Int) (p2 : Int) : Option (List Int) :=
  (iter (m_overseerlaw24_chosen_l1 p0 p1 p2) (0, ([] : List Int))).bind fun o27 =>
  some o27
theorem ag27 : Ag Tryd.prog 27 53 := Ag.mk' Tryd.underlying27 rfl (by kernel_rfl)
theorem cf8 : Cf Tryd.prog 8 := Cf.mk Tryd.func8 (by kernel_rfl) (by kernel_rfl)
theorem cf9 : Cf Tryd.prog 9 := Cf.mk Tryd.func9 (by kernel_rfl) (by kernel_rfl)
end Go.Proofs.YtfbapajcheammaaDoor

namespace Go.Proofs.YtfbapajcheammaaDoor
open Go Go.RowKit
def allL (n : Nat) : List Int := (List.range n).map fun (i : Nat) => (i : Int)
theorem allL_succ (n : Nat) : allL (n + 1) = allL n ++ [(n : Int)] := by simp [allL, List.range_succ]
theorem allL_len (n : Nat) : (allL n).length = n := by simp [allL]
/-- The places below k whose number lies from a to b. -/
def choL (p : List Int) (a b : Int) (k : Nat) : List Int := ((List.range k).filter fun i => decide (a ≤ p.getD i 0 ∧ p.getD i 0 ≤ b)).map fun (i : Nat) => (i : Int)
theorem choL_succ (p : List Int) (a b : Int) (k : Nat) : choL p a b (k + 1) = if a ≤ p.getD k 0 ∧ p.getD k 0 ≤ b then choL p a b k ++ [(k : Int)] else choL p a b k := by
  unfold choL
  rw [List.range_succ, List.filter_append, List.map_append]
  by_cases h : a ≤ p.getD k 0 ∧ p.getD k 0 ≤ b
  · rw [if_pos h, List.filter_cons_of_pos (by simpa using h)]; rfl
  · rw [if_neg h, List.filter_cons_of_neg (by simpa using h)]; simp
theorem choL_len (p : List Int) (a b : Int) (k : Nat) : (choL p a b k).length ≤ k := by
  unfold choL
  rw [List.length_map]
  exact Nat.le_trans (List.length_filter_le _ _) (by simp)
theorem chosen_eq {p : List Int} {a b : Int} (hl : p.length ≤ 1000000) : m_overseerlaw24_chosen p a b = some (choL p a b p.length) := by
  have h := iter_inv (f := m_overseerlaw24_chosen_l1 p a b) (fun i s => i ≤ p.length ∧ s = ((i : Int), choL p a b i)) (fun o => o = choL p a b p.length) p.length 0 (by omega) ?_ ?_ (Nat.zero_le _) (0, []) ⟨Nat.zero_le _, rfl⟩
  · obtain ⟨o, h1, rfl⟩ := h
    simp [m_overseerlaw24_chosen, h1]
  · rintro i s hi ⟨_, rfl⟩
    refine .inl ⟨_, ?_, by omega, rfl⟩
    have hn := choL_len p a b i
    rw [m_overseerlaw24_chosen_l1]
    simp only [ct_lt hi, if_true, idx_at hi, Option.bind_some]
    have hg : p.getD i 0 = p[i] := by rw [List.getD_eq_getElem?_getD, List.getElem?_eq_getElem hi]; rfl
    rw [choL_succ, hg]
    have ha := app_eq (xs := choL p a b i) (ys := [(i : Int)]) (by simp; omega)
    by_cases h1 : a ≤ p[i]
    · by_cases h2 : p[i] ≤ b
      · simp [h1, h2, ha, m_overseerlaw24_chosen_j1, nxt (show i < 4611686018427387904 by omega)]
      · simp [h1, h2, m_overseerlaw24_chosen_j1, nxt (show i < 4611686018427387904 by omega)]
    · simp [h1, m_overseerlaw24_chosen_j1, nxt (show i < 4611686018427387904 by omega)]
  · rintro s ⟨_, rfl⟩
    refine ⟨_, ?_, rfl⟩
    rw [m_overseerlaw24_chosen_l1]
    simp
end Go.Proofs.YtfbapajcheammaaDoor

namespace Go.Proofs.YtfbapajcheammaaDoor
open Go Go.RowKit
theorem upd_at {α : Type} {xs : List α} {i : Nat} {y : α} (h : i < xs.length) : upd xs (i : Int) y = some (xs.set i y) := by
  unfold upd
  rw [if_pos ⟨by omega, by omega⟩, Int.toNat_natCast]
theorem ball_eq {a : List Int} {n : Nat} {m : List Int} {es : List (Int × Int × Int)} (hn : n ≤ 1000000) : m_blocking_all (a, (n : Int), m, es) = some (allL n) := by
  have hm : mkL (n : Int) (0 : Int) = some (List.replicate n 0) := by unfold mkL; rw [if_pos ⟨by omega, by omega⟩, Int.toNat_natCast]
  have h := iter_inv (f := m_blocking_all_l1 (List.replicate n 0)) (fun i s => i ≤ n ∧ s = ((i : Int), allL i ++ List.replicate (n - i) 0)) (fun o => o = allL n) n 0 (by omega) ?_ ?_ (Nat.zero_le _) (0, List.replicate n 0) ⟨Nat.zero_le _, by simp [allL]⟩
  · obtain ⟨o, h1, rfl⟩ := h
    simp only [m_blocking_all, hm, Option.bind_some, h1]
  · rintro i s hi ⟨_, rfl⟩
    refine .inl ⟨_, ?_, by omega, rfl⟩
    have hlen : (allL i ++ List.replicate (n - i) (0 : Int)).length = n := by rw [List.length_append, allL_len, List.length_replicate]; omega
    have hset : (allL i ++ List.replicate (n - i) (0 : Int)).set i (i : Int) = allL (i + 1) ++ List.replicate (n - (i + 1)) 0 := by
      rw [allL_succ, List.set_append_right _ _ (by rw [allL_len]; exact Nat.le_refl _), allL_len, Nat.sub_self, show n - i = (n - (i + 1)) + 1 by omega, List.replicate_succ, List.set_cons_zero]
      simp
    rw [m_blocking_all_l1]
    simp only [List.length_replicate, ct_lt hi, if_true]
    rw [idx_at (by rw [hlen]; exact hi), Option.bind_some, upd_at (by rw [hlen]; exact hi), Option.bind_some, hset, nxt (by omega)]
  · rintro s ⟨_, rfl⟩
    refine ⟨_, ?_, rfl⟩
    rw [m_blocking_all_l1]
    simp
end Go.Proofs.YtfbapajcheammaaDoor

namespace Go.Proofs.YtfbapajcheammaaDoor
open Go Go.RowKit
theorem spread_fill {n : Nat} (hn : n ≤ 1000000) : iter (m_blocking_spread_l1 (List.replicate n 0)) (0, List.replicate n 0) = some (List.replicate n (-1)) := by
  have h := iter_inv (f := m_blocking_spread_l1 (List.replicate n 0)) (fun i s => i ≤ n ∧ s = ((i : Int), List.replicate i (-1) ++ List.replicate (n - i) 0)) (fun o => o = List.replicate n (-1)) n 0 (by omega) ?_ ?_ (Nat.zero_le _) (0, List.replicate n 0) ⟨Nat.zero_le _, by simp⟩
  · obtain ⟨o, h1, rfl⟩ := h
    exact h1
  · rintro i s hi ⟨_, rfl⟩
    refine .inl ⟨_, ?_, by omega, rfl⟩
    have hlen : (List.replicate i (-1) ++ List.replicate (n - i) (0 : Int)).length = n := by simp; omega
    have hset : (List.replicate i (-1) ++ List.replicate (n - i) (0 : Int)).set i (-1) = List.replicate (i + 1) (-1) ++ List.replicate (n - (i + 1)) 0 := by
      rw [List.set_append_right _ _ (by simp), List.length_replicate, Nat.sub_self, show n - i = (n - (i + 1)) + 1 by omega, List.replicate_succ, List.set_cons_zero, List.replicate_succ']
      simp
    rw [m_blocking_spread_l1]
    simp only [List.length_replicate, ct_lt hi, if_true]
    rw [idx_at (by rw [hlen]; exact hi), Option.bind_some, upd_at (by rw [hlen]; exact hi), Option.bind_some, hset, nxt (by omega)]
  · rintro s ⟨_, rfl⟩
    refine ⟨_, ?_, rfl⟩
    rw [m_blocking_spread_l1]
    simp
theorem bStart_len (n : Nat) (tg : List Int) : (bStart n tg).length = n := by
  unfold bStart
  have : ∀ (l : List Int) (ds : List Int), (l.foldl (fun ds (s : Int) => ds.set s.toNat 0) ds).length = ds.length := by
    intro l
    induction l with
    | nil => intro ds; rfl
    | cons s l ih => intro ds; rw [List.foldl_cons, ih, List.length_set]
  rw [this, List.length_replicate]
theorem spread_starts {n : Nat} {tg : List Int} (ht : tg.length ≤ 1000000) (hr : ∀ s ∈ tg, 0 ≤ s ∧ s < (n : Int)) : iter (m_blocking_spread_l2 tg) (0, List.replicate n (-1)) = some (bStart n tg) := by
  have h := iter_inv (f := m_blocking_spread_l2 tg) (fun i s => i ≤ tg.length ∧ s = ((i : Int), bStart n (tg.take i))) (fun o => o = bStart n tg) tg.length 0 (by omega) ?_ ?_ (Nat.zero_le _) (0, List.replicate n (-1)) ⟨Nat.zero_le _, by simp [bStart]⟩
  · obtain ⟨o, h1, rfl⟩ := h
    exact h1
  · rintro i s hi ⟨_, rfl⟩
    refine .inl ⟨_, ?_, by omega, rfl⟩
    obtain ⟨h0, h1⟩ := hr _ (List.getElem_mem hi)
    obtain ⟨k, hk⟩ := Int.eq_ofNat_of_zero_le h0
    have hkn : k < (bStart n (tg.take i)).length := by rw [bStart_len]; omega
    have hset : bStart n (tg.take (i + 1)) = (bStart n (tg.take i)).set k 0 := by
      rw [take_snoc tg i hi, hk]
      simp [bStart, List.foldl_append]
    rw [m_blocking_spread_l2]
    simp only [ct_lt hi, if_true, idx_at hi, Option.bind_some, hk]
    rw [idx_at hkn, Option.bind_some, upd_at hkn, Option.bind_some, hset, nxt (by omega)]
  · rintro s ⟨_, rfl⟩
    refine ⟨_, ?_, rfl⟩
    rw [m_blocking_spread_l2]
    simp
end Go.Proofs.YtfbapajcheammaaDoor

namespace Go.Proofs.YtfbapajcheammaaDoor
open Go Go.RowKit
/-- The inner loop of spread is bStep, edge by edge. -/
theorem spread_inner {n s i : Nat} {q0 ds0 ps : List Int} (z : List Int × List Int) (hps : ∀ p ∈ ps, 0 ≤ p ∧ p < (n : Int)) (hpl : ps.length ≤ 1000000) (hq : q0[i]? = some (s : Int)) (hs : s < n) (hB : BOk n ds0 q0) (hnn : 0 ≤ ds0.getD s 0) (hsz : 2 * negs ds0 + q0.length ≤ 4000000) :
    ∃ o, iter (m_blocking_spread_l4 ((i : Int), z) ps) (0, q0, ds0) = some o ∧ (o.2, o.1) = ps.foldl (bStep s) (ds0, q0) := by
  refine iter_inv (f := m_blocking_spread_l4 ((i : Int), z) ps) (fun k st => k ≤ ps.length ∧ ∃ ds q, st = ((k : Int), q, ds) ∧ (ds, q) = (ps.take k).foldl (bStep s) (ds0, q0) ∧ BOk n ds q ∧ 0 ≤ ds.getD s 0 ∧ q[i]? = some (s : Int) ∧ 2 * negs ds + q.length ≤ 4000000) (fun o => (o.2, o.1) = ps.foldl (bStep s) (ds0, q0)) ps.length 0 (by omega) ?_ ?_ (Nat.zero_le _) (0, q0, ds0) ⟨Nat.zero_le _, ds0, q0, rfl, by simp, hB, hnn, hq, hsz⟩
  · rintro k st hk ⟨_, ds, q, rfl, hf, hB, hnn, hq, hsz⟩
    obtain ⟨h0, h1⟩ := hps _ (List.getElem_mem hk)
    have hstep := hB.step hs hnn ps[k] h0 h1
    have hfs : (ps.take (k + 1)).foldl (bStep s) (ds0, q0) = bStep s (ds, q) ps[k] := by rw [take_snoc ps k hk, List.foldl_append, ← hf]; rfl
    obtain ⟨p, hp⟩ := Int.eq_ofNat_of_zero_le h0
    have hpn : p < ds.length := by rw [hB.len]; omega
    have hsn : s < ds.length := by rw [hB.len]; omega
    obtain ⟨hil, hie⟩ := List.getElem?_eq_some_iff.1 hq
    have hgp : ds.getD p 0 = ds[p] := by rw [List.getD_eq_getElem?_getD, List.getElem?_eq_getElem hpn]; rfl
    have hgs : ds.getD s 0 = ds[s] := by rw [List.getD_eq_getElem?_getD, List.getElem?_eq_getElem hsn]; rfl
    have hlo := hB.lo _ (List.getElem_mem hsn)
    refine .inl ⟨((k + 1 : Nat), (bStep s (ds, q) ps[k]).2, (bStep s (ds, q) ps[k]).1), ?_, by omega, _, _, rfl, hfs.symm, hstep.1, hstep.2.1, ?_, by have := hstep.2.2; omega⟩
    · rw [m_blocking_spread_l4]
      simp only [ct_lt hk, if_true, idx_at hk, Option.bind_some, hp, idx_at hpn, bStep, Int.toNat_natCast, hgp]
      by_cases hx : ds[p] < 0
      · have happ := app_eq (xs := q) (ys := [(p : Int)]) (by simp; omega)
        simp only [hx, decide_true, if_true, idx_at hil, hie, Option.bind_some, idx_at hsn, upd_at hpn, happ, m_blocking_spread_j1, hgs, W_of (show -9223372036854775808 ≤ ds[s] + 1 by omega) (show ds[s] + 1 < 9223372036854775808 by omega), nxt (show k < 4611686018427387904 by omega)]
      · simp only [hx, decide_false, if_false, m_blocking_spread_j1, nxt (show k < 4611686018427387904 by omega)]
        simp
    · unfold bStep
      split
      · dsimp only; rw [List.getElem?_append_left hil]; exact hq
      · exact hq
  · rintro st ⟨_, ds, q, rfl, hf, _⟩
    refine ⟨(q, ds), ?_, by rw [List.take_length] at hf; exact hf⟩
    rw [m_blocking_spread_l4]
    simp
theorem bStep_pre (s : Nat) : ∀ (l : List Int) (ds q1 q2 : List Int), l.foldl (bStep s) (ds, q1 ++ q2) = ((l.foldl (bStep s) (ds, q2)).1, q1 ++ (l.foldl (bStep s) (ds, q2)).2)
  | [], _, _, _ => rfl
  | p :: l, ds, q1, q2 => by
    have h : bStep s (ds, q1 ++ q2) p = ((bStep s (ds, q2) p).1, q1 ++ (bStep s (ds, q2) p).2) := by
      unfold bStep
      dsimp only
      split <;> simp
    rw [List.foldl_cons, h, bStep_pre s l, List.foldl_cons]
/-- The queue of spread is backward's. -/
theorem spread_queue {n : Nat} {es : List Ed} {ds0 q0 : List Int} (hin : ∀ x ∈ es, 0 ≤ x.f ∧ x.f < n ∧ 0 ≤ x.t ∧ x.t < (n : Int)) (hl : es.length ≤ 1000000) (hB : BOk n ds0 q0) (hsz : 2 * negs ds0 + q0.length ≤ 4000000) :
    iter (m_blocking_spread_l3 ((List.range n).map (inL es))) (0, q0, ds0) = some (bwd (inL es) (2 * negs ds0 + q0.length + 1) ds0 q0) := by
  have h := iter_inv (f := m_blocking_spread_l3 ((List.range n).map (inL es))) (fun i st => ∃ ds q f, st = ((i : Int), q, ds) ∧ i ≤ q.length ∧ BOk n ds q ∧ 2 * negs ds + q.length ≤ 2 * negs ds0 + q0.length ∧ bwd (inL es) f ds (q.drop i) = bwd (inL es) (2 * negs ds0 + q0.length + 1) ds0 q0 ∧ 2 * negs ds + (q.length - i) + 1 ≤ f)
    (fun o => o = bwd (inL es) (2 * negs ds0 + q0.length + 1) ds0 q0) (2 * negs ds0 + q0.length) 0 (by omega) ?_ ?_ (Nat.zero_le _) (0, q0, ds0) ⟨ds0, q0, _, rfl, Nat.zero_le _, hB, Nat.le_refl _, rfl, by omega⟩
  · obtain ⟨o, h1, rfl⟩ := h
    exact h1
  · rintro i st _ ⟨ds, q, f, rfl, hi, hB, hm, hR, hf⟩
    by_cases hlt : i < q.length
    · obtain ⟨g0, g1⟩ := hB.qr _ (List.getElem_mem hlt)
      have hnn := hB.nn _ (List.getElem_mem hlt)
      obtain ⟨s, hs⟩ := Int.eq_ofNat_of_zero_le g0
      have hsn : s < n := by omega
      rw [hs, Int.toNat_natCast] at hnn
      have hps := inL_range (s := s) hin
      have hil := inL_le es s
      obtain ⟨o, h1, h2⟩ := spread_inner (n := n) (s := s) (i := i) (q0 := q) (ds0 := ds) (ps := inL es s) (q, ds) hps (by omega) (by rw [List.getElem?_eq_getElem hlt, hs]) hsn hB hnn (by omega)
      have hfold := BOk.fold hsn (inL es s) hB hnn hps
      rw [← h2] at hfold
      obtain ⟨f, rfl⟩ : ∃ f', f = f' + 1 := ⟨f - 1, by omega⟩
      have hpre := bStep_pre s (inL es s) ds (q.take (i + 1)) (q.drop (i + 1))
      rw [List.take_append_drop, ← h2] at hpre
      have ho1 : o.1 = q.take (i + 1) ++ ((inL es s).foldl (bStep s) (ds, q.drop (i + 1))).2 := congrArg Prod.snd hpre
      have ho2 : o.2 = ((inL es s).foldl (bStep s) (ds, q.drop (i + 1))).1 := congrArg Prod.fst hpre
      have hol : i + 1 ≤ o.1.length := by rw [ho1, List.length_append, List.length_take]; omega
      have hdr : o.1.drop (i + 1) = ((inL es s).foldl (bStep s) (ds, q.drop (i + 1))).2 := by
        rw [ho1, List.drop_append_of_le_length (by rw [List.length_take]; omega), List.drop_eq_nil_of_le (by rw [List.length_take]; omega), List.nil_append]
      refine .inl ⟨((i + 1 : Nat), o.1, o.2), ?_, o.2, o.1, f, rfl, hol, hfold.1, by have := hfold.2.2; dsimp only at this; omega, ?_, by have := hfold.2.2; dsimp only at this; omega⟩
      · rw [m_blocking_spread_l3]
        simp only [ct_lt hlt, if_true, idx_at hlt, Option.bind_some, hs]
        rw [idx_at (by simpa using hsn), Option.bind_some, List.getElem_map, List.getElem_range, h1, Option.bind_some, nxt (by omega)]
      · rw [hdr, ho2, ← hR, List.drop_eq_getElem_cons hlt, bwd, hs, Int.toNat_natCast]
    · have hi' : i = q.length := by omega
      refine .inr ⟨ds, ?_, ?_⟩
      · subst hi'
        rw [m_blocking_spread_l3]
        simp
      · obtain ⟨f, rfl⟩ : ∃ f', f = f' + 1 := ⟨f - 1, by omega⟩
        rw [← hR, hi', List.drop_length, bwd]
  · rintro st ⟨ds, q, f, rfl, hi, hB, hm, hR, hf⟩
    have hi' : 2 * negs ds0 + q0.length = q.length := by omega
    refine ⟨ds, ?_, ?_⟩
    · rw [m_blocking_spread_l3, hi']
      simp
    · obtain ⟨f, rfl⟩ : ∃ f', f = f' + 1 := ⟨f - 1, by omega⟩
      rw [← hR, hi', List.drop_length, bwd]
end Go.Proofs.YtfbapajcheammaaDoor

