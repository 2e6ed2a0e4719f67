/- Parts of the proof, without what nothing here names. -/
import Derived.Test.YtidakgbibobbdaaGreatDoorProg
import Derived.Test.YtidakgbibobbdaaGreatDoorQz2
set_option maxRecDepth 100000
set_option maxHeartbeats 8000000
namespace Go.Proofs.YtidakgbibobbdaaGreatDoor
open Go Go.RowKit
theorem cf83 : Cf Tryz.prog 83 := Cf.mk Tryz.func83 (by kernel_rfl) (by kernel_rfl)
theorem nag106 : NAg Tryz.prog 106 := NAg.mk' Tryz.underlying106 rfl (by kernel_rfl)
theorem sl136 : Sl Tryz.prog 136 106 1 := Sl.mk' Tryz.underlying136 (by kernel_rfl)
noncomputable def m_product_machine_step_j1 (st62 : Int × List Int) (l71 : List Int) : Option ((Int × List Int) ⊕ ((List Int) ⊕ Unit)) :=
 some (.inl (W (st62.1 + 1), l71))
noncomputable def m_product_machine_step_l1 (p0 : (List AutT) × List Int × (List (List ((Int × Int) × Int)))) (p1 : List Int) (p2 : Int) (st62 : Int × List Int) : Option ((Int × List Int) ⊕ ((List Int) ⊕ Unit)) :=
 if decide (st62.1 < (p0.1.length : Int)) then
  (idx p0.1 st62.1).bind fun x74 =>
  (m_alphabet_Contains x74.1 p2).bind fun r84 =>
  if (!r84) then
   m_product_machine_step_j1 st62 st62.2
  else
   (idx p0.2.2 st62.1).bind fun x91 =>
   (idx p1 st62.1).bind fun x99 =>
   if (!((kget x91 (x99, p2)).isSome)) then
    some (.inr (.inr (())))
   else
    (idx st62.2 st62.1).bind fun x111 =>
    (upd st62.2 st62.1 ((kget x91 (x99, p2)).getD 0)).bind fun x113 =>
    m_product_machine_step_j1 st62 x113
 else
  some (.inr (.inl st62.2))
noncomputable def m_product_machine_step (p0 : (List AutT) × List Int × (List (List ((Int × Int) × Int)))) (p1 : List Int) (p2 : Int) : Option (List Int × Bool) :=
 (m_slices_Clone_int p1).bind fun r9 =>
 (iter (m_product_machine_step_l1 p0 p1 p2) (0, r9)).bind fun o62 =>
 match o62 with
 | .inl u65 =>
  some (u65, true)
 | .inr (u68) =>
  some (([] : List Int), false)
theorem m_product_machine_step_c {s : Sig} {p0 : (List AutT) × List Int × (List (List ((Int × Int) × Int)))} {p1 : List Int} {p2 : Int} {a1 : Option Addr} {c1 : Nat} {a2 : Option Addr} {c2 : Nat} {a3 : Option Addr} {c3 : Nat} {a4 : Option Addr} {c4 : Nat} {u0 : Nat} {r : List Int × Bool} (h1 : RdL (rP (rL qI) (rP qI (rP (rL qI) (rL qT)))) s a1 c1 p0.1) (h2 : RdL qI s a2 c2 p0.2.1) (h3 : RdL (rM kvP qI) s a3 c3 p0.2.2) (h4 : RdL qI s a4 c4 p1) (hm : m_product_machine_step p0 p1 p2 = some r) :
    Calls Tryz.prog 81 #[.agg #[.slice a1 p0.1.length c1, .slice a2 p0.2.1.length c2, .slice a3 p0.2.2.length c3], .slice a4 p1.length c4, .int .i64 p2] s.w (RetS No s fun v s' => ∃ (a5 : Option Addr) (c5 : Nat), v = .tuple #[.slice a5 r.1.length c5, .bool r.2] ∧ RowT qI s' u0 3 a5 c5 r.1) := by
 unfold m_product_machine_step at hm
 obtain ⟨N, hN, hNb⟩ := s.fresh
 have m0 : Mv (Up N No) s s := Mv.refl _ _
 refine E.entry Tryz.func81 R Tryz.ntmps81 R R (ER (L.box (N + 0) Y R R R fun b6 s7 m8 bx6 => ?_))
 replace h4 := h4.mono m8.z
 refine L.as Y R R (L.as Y R R (LN (ER (L.mv Y R R ?_))))
 obtain ⟨r9, er9, hm⟩ := bindS hm
 refine L.ca cf83 R R Y R (m_slices_Clone_int_c (s := s7) (p0 := p1) (u0 := (N + 2)) h4 er9) R ?_
 rintro _ s10 m11 ⟨a12, c12, rfl, h12⟩
 replace m0 := (m0.trans m8.no).trans m11.no
 replace h4 := h4.mono m11.z
 replace bx6 := bx6.mv m11 no_No
 replace h1 := (h1.mono m8.z).mono m11.z
 replace h2 := (h2.mono m8.z).mono m11.z
 replace h3 := (h3.mono m8.z).mono m11.z
 refine L.as Y R R (LN (E.seq (ER (L.fa fa138_0 Y R R (L.ld (j := 0) bx6.mem nag73 Y R R R R (L.len sl73 Y R R (L.mv Y R R (LN (E.block ?_)))))))))
 obtain ⟨o62, eo62, hm⟩ := bindS hm
 refine E.cut (x := .exit 0) (fun e w => ∃ (s66 : Sig) (u65 : List Int), o62 = .inl u65 ∧ Mv (Up N No) s s66 ∧ RowT qI s66 (N + 2) 3 a12 c12 u65 ∧ e = [(8, .slice a12 u65.length c12)] ∧ w = s66.w) ?_ ?_
 ·rintro _ _ ⟨s66, u65, rfl, m0, h12, rfl, rfl⟩
  dsimp only at hm
  refine X.blkE (X.seqN (ER (L.mv Y R R (L.as Y R R (L.as Y R R (LN (E.ret ?_)))))))
  obtain rfl := oi hm
  exact X.rt (.inl R) Tryz.results81 (Rs.tmp R (Rs.tmp R Rs.nil)) R ⟨_, (s66).ren N (fun k => cond (Nat.beq k 2) u0 (0)), R, R, m0.ren hNb, ⟨a12, c12, R, (h12.ren hN)⟩⟩
 intro K67
 refine E.cut (x := .ret) (fun e w => ∃ (s69 : Sig) (u68 : Unit), o62 = .inr (u68) ∧ Mv (Up N No) s s69 ∧ e = [(7, .bool false), (6, .slice none 0 0)] ∧ w = s69.w) ?_ ?_
 ·rintro _ _ ⟨s69, u68, rfl, m0, rfl, rfl⟩
  dsimp only at hm
  refine X.blkR (X.seqR ?_)
  obtain rfl := oi hm
  exact X.rt (.inl R) Tryz.results81 (Rs.tmp R (Rs.tmp R Rs.nil)) R ⟨_, (s69).ren N (fun _ => 0), R, R, m0.ren hNb, ⟨none, 0, R, RowT.nil⟩⟩
 intro K70
 refine E.iter (fun (st62 : Int × List Int) (e : List (Nat × Value)) (w : World) => ∃ (s64 : Sig), Mv (Up N No) s s64 ∧ RdL (rP (rL qI) (rP qI (rP (rL qI) (rL qT)))) s64 a1 c1 p0.1 ∧ RowT qI s64 (N + 2) 3 a12 c12 st62.2 ∧ RdL qI s64 a4 c4 p1 ∧ RdL qI s64 a2 c2 p0.2.1 ∧ RdL (rM kvP qI) s64 a3 c3 p0.2.2 ∧ Bx s64 (N + 0) b6 #[.slice a1 p0.1.length c1, .slice a2 p0.2.1.length c2, .slice a3 p0.2.2.length c3] 138 ∧ e = [(18, .int .i64 st62.1), (17, .int .i64 (p0.1.length : Int)), (16, .slice a1 p0.1.length c1), (8, .slice a12 st62.2.length c12), (3, .pointer (some ⟨b6, 0, none⟩)), (1, .slice a4 p1.length c4), (2, .int .i64 p2)] ∧ w = s64.w) eo62 ⟨s10, m0, h1, h12, h4, h2, h3, bx6, R, R⟩ (Sub.rf R) ?_
 rintro st62 res62 hm ih62 ho62 _ _ ⟨s64, m0, h1, h12, h4, h2, h3, bx6, rfl, rfl⟩
 unfold m_product_machine_step_l1 at hm
 refine ER (L.bi Y R R R R (LN (E.seq ?_)))
 rcases ifS hm with ⟨hc, hm⟩ | ⟨hc, hm⟩
 ·refine E.cT R hc (E.skip (X.seqN (E.seqJ (fun e w => ∃ (s72 : Sig) (l71 : List Int), m_product_machine_step_j1 st62 l71 = some res62 ∧ Mv (Up N No) s s72 ∧ RdL (rP (rL qI) (rP qI (rP (rL qI) (rL qT)))) s72 a1 c1 p0.1 ∧ RowT qI s72 (N + 2) 3 a12 c12 l71 ∧ RdL qI s72 a4 c4 p1 ∧ RdL qI s72 a2 c2 p0.2.1 ∧ RdL (rM kvP qI) s72 a3 c3 p0.2.2 ∧ Bx s72 (N + 0) b6 #[.slice a1 p0.1.length c1, .slice a2 p0.2.1.length c2, .slice a3 p0.2.2.length c3] 138 ∧ e = [(18, .int .i64 st62.1), (17, .int .i64 (p0.1.length : Int)), (16, .slice a1 p0.1.length c1), (8, .slice a12 l71.length c12), (3, .pointer (some ⟨b6, 0, none⟩)), (1, .slice a4 p1.length c4), (2, .int .i64 p2)] ∧ w = s72.w) ?_ ?_)))
  ·rintro _ _ ⟨s72, l71, hm, m0, h1, h12, h4, h2, h3, bx6, rfl, rfl⟩
   unfold m_product_machine_step_j1 at hm
   exact E.reg (L.bi Y R R R R (L.mv Y R R (L.nil (X.sub (ih62 _ (oi hm).symm _ _ ⟨s72, m0, h1, h12, h4, h2, h3, bx6, R, R⟩) (Sub.rf R)))))
  intro Jj73
  refine E.block (ER (L.mv Y R R ?_))
  obtain ⟨x74, ex74, hm⟩ := bindS hm
  refine L.ix (r := (rP (rL qI) (rP qI (rP (rL qI) (rL qT))))) sl73 h1 Y R R ex74 R fun b75 o75 cc75 me75 rd75 => ?_
  obtain ⟨_, _, rfl, ⟨a76, c76, rfl, h76⟩, ⟨_, _, rfl, rfl, ⟨_, _, rfl, ⟨a77, c77, rfl, h77⟩, ⟨a78, c78, rfl, h78⟩⟩⟩⟩ := rd75
  refine L.lg (j := 0) (cs := [.slice a76 x74.1.length c76, .int .i64 x74.2.1, .slice a77 x74.2.2.1.length c77, .slice a78 x74.2.2.2.length c78]) me75 ag25 Y R R R R R (L.al (N + 1) zz25 R Y R fun b79 s80 m81 bx79 => ?_)
  refine L.as Y R R (L.st (c := [.slice a76 x74.1.length c76, .int .i64 x74.2.1, .slice a77 x74.2.2.1.length c77, .slice a78 x74.2.2.2.length c78]) (cs' := #[.slice a76 x74.1.length c76, .int .i64 x74.2.1, .slice a77 x74.2.2.1.length c77, .slice a78 x74.2.2.2.length c78]) bx79 ag25.sz Y R R R R R (nb R) R fun s82 m83 bx79 => ?_)
  replace h76 := (h76.mono m81.z).mono (m83.le (tg0 hN))
  refine LN (E.seq (ER (L.fa fa25_0 Y R R (L.ld (j := 0) bx79.mem nag22 Y R R R R (L.mv Y R R ?_)))))
  obtain ⟨r84, er84, hm⟩ := bindS hm
  refine L.ca cf68 R R Y R (m_alphabet_Contains_c (s := s82) (p0 := x74.1) (p1 := p2) h76 er84) R ?_
  rintro _ s85 m86 rfl
  replace m0 := ((m0.trans m81.no).trans (m83.one up)).trans m86.no
  replace h4 := ((h4.mono m81.z).mono (m83.le (tg0 hN))).mono m86.z
  replace h12 := ((h12.mv m81 no_No no_No).mv m83 (tq R) (tg0 hN)).mv m86 no_No no_No
  replace h1 := ((h1.mono m81.z).mono (m83.le (tg0 hN))).mono m86.z
  replace bx6 := ((bx6.mv m81 no_No).mv m83 (tq R)).mv m86 no_No
  replace h2 := ((h2.mono m81.z).mono (m83.le (tg0 hN))).mono m86.z
  replace h3 := ((h3.mono m81.z).mono (m83.le (tg0 hN))).mono m86.z
  refine L.not Y R R (L.nil (X.seqN ?_))
  rcases ifS hm with ⟨hc, hm⟩ | ⟨hc, hm⟩
  ·exact E.cT R hc (E.exit (X.seqX (X.blkE (X.sub (Jj73 _ _ ⟨s85, st62.2, hm, m0, h1, h12, h4, h2, h3, bx6, R, R⟩) (Sub.rf R)))))
  refine E.cF R hc (E.skip (X.seqN (E.seq ?_)))
  obtain ⟨x91, ex91, hm⟩ := bindS hm
  obtain ⟨x99, ex99, hm⟩ := bindS hm
  refine E.draw [[], [0], [], [0, 1, 2], [0, 1, 2, 3], [], [], [5, 6], [5, 6, 7], [], [5, 6, 7, 8, 9], [0, 1, 2, 3, 4, 5, 6, 7, 8, 9, 10], [0, 1, 2, 3, 4, 5, 6, 7, 8, 9, 10, 11], [0, 1, 2, 3, 4, 5, 6, 7, 8, 9, 10, 11, 12], [0, 1, 2, 3, 4, 5, 6, 7, 8, 9, 10, 11, 12], [0, 1, 2, 3, 4, 5, 6, 7, 8, 9, 10, 11, 12, 13], [0, 1, 2, 3, 4, 5, 6, 7, 8, 9, 10, 11, 12, 13, 14, 15]] (fun D e sx => Mv No s85 sx ∧ Sub [(9, .int .i64 st62.1), (18, .int .i64 st62.1), (17, .int .i64 (p0.1.length : Int)), (16, .slice a1 p0.1.length c1), (8, .slice a12 st62.2.length c12), (3, .pointer (some ⟨b6, 0, none⟩)), (1, .slice a4 p1.length c4), (2, .int .i64 p2)] e ∧ AllP [G D e 0 29 (.pointer (some ⟨b6, 2, none⟩)), G D e 1 30 (.slice a3 p0.2.2.length c3), G D e 2 31 (.int .i64 st62.1), D 3 = true → (∃ (b92 : Nat) (o92 : Nat) (y93 : Option Nat) (c93 : Nat), Env.get e 32 = some (.pointer (some ⟨b92, o92, none⟩)) ∧ Mem sx 0 b92 o92 [.map y93] ∧ MapD kvP qI sx y93 c93 x91), D 4 = true → (∃ (y95 : Option Nat) (c95 : Nat), Env.get e 33 = some (.map y95) ∧ MapD kvP qI sx y95 c95 x91), G D e 5 34 (.slice a4 p1.length c4), G D e 6 35 (.int .i64 st62.1), D 7 = true → (∃ (b100 : Nat) (o100 : Nat), Env.get e 36 = some (.pointer (some ⟨b100, o100, none⟩)) ∧ Mem sx 0 b100 o100 [.int .i64 x99]), G D e 8 37 (.int .i64 x99), G D e 9 38 (.int .i64 p2), G D e 10 39 (.agg #[.int .i64 x99, .int .i64 p2]), G D e 11 40 (.tuple #[.int .i64 ((kget x91 (x99, p2)).getD 0), .bool ((kget x91 (x99, p2)).isSome)]), G D e 12 28 (.tuple #[.int .i64 ((kget x91 (x99, p2)).getD 0), .bool ((kget x91 (x99, p2)).isSome)]), G D e 13 41 (.int .i64 ((kget x91 (x99, p2)).getD 0)), G D e 14 42 (.bool ((kget x91 (x99, p2)).isSome)), G D e 15 11 (.int .i64 ((kget x91 (x99, p2)).getD 0)), G D e 16 12 (.bool ((kget x91 (x99, p2)).isSome))]) (by kernel_rfl) (by kernel_rfl) (by kernel_rfl) ?_ ?_ ?_
  ·intro sz mz
   exact ⟨mz, (Sub.rf R), nofun, nofun, nofun, nofun, nofun, nofun, nofun, nofun, nofun, nofun, nofun, nofun, nofun, nofun, nofun, nofun, nofun, trivial⟩
  ·refine ⟨?_, ?_, ?_, ?_, ?_, ?_, ?_, ?_, ?_, ?_, ?_, ?_, ?_, ?_, ?_, ?_, ?_, trivial⟩
   ·rintro D e s87 ⟨im, ib, i⟩ hk hf ha
    have kn := K1 (ib 3 _ R)
    exact kn.g (L.fa fa138_2 Y R R (L.nil (X.dk kn ⟨im, Sub.fresh ib R, i.u 0 (fun _ => R)⟩)))
   ·rintro D e s88 ⟨im, ib, i⟩ hk hf ha
    have bx6 := bx6.mv im no_No
    have kn := K1 ((i.p 0) (ha.at 0 R))
    exact kn.g (L.ld (j := 2) bx6.mem nag136 Y R R R R (L.nil (X.dk kn ⟨im, Sub.fresh ib R, i.u 1 (fun _ => R)⟩)))
   ·rintro D e s89 ⟨im, ib, i⟩ hk hf ha
    have kn := K1 (ib 9 _ R)
    exact kn.g (L.mv Y R R (L.nil (X.dk kn ⟨im, Sub.fresh ib R, i.u 2 (fun _ => R)⟩)))
   ·rintro D e s90 ⟨im, ib, i⟩ hk hf ha
    have h3 := h3.mono im.z
    have kn := K2 ((i.p 1) (ha.at 1 R)) ((i.p 2) (ha.at 2 R))
    refine kn.g (L.ix (r := (rM kvP qI)) sl136 h3 Y R R ex91 R fun b92 o92 cc92 me92 rd92 => ?_)
    obtain ⟨y93, c93, rfl, h93⟩ := rd92
    exact L.nil (X.dk kn ⟨im, Sub.fresh ib R, i.u 3 (fun _ => ⟨b92, o92, y93, c93, R, me92, h93⟩)⟩)
   ·rintro D e s94 ⟨im, ib, i⟩ hk hf ha
    obtain ⟨b92, o92, y93, c93, g3_, me92, h93⟩ := (i.p 3) (ha.at 3 R)
    have kn := K1 g3_
    refine kn.g (L.ld (j := 0) me92 nag106 Y R R R R ?_)
    obtain ⟨y95, c95, ea95, ec95, h95⟩ : ∃ a c, a = y93 ∧ c = c93 ∧ MapD kvP qI s94 a c x91 := ⟨_, _, rfl, rfl, h93⟩
    subst ea95 ec95
    exact L.nil (X.dk kn ⟨im, Sub.fresh ib R, i.u 4 (fun _ => ⟨y95, c95, R, h95⟩)⟩)
   ·rintro D e s96 ⟨im, ib, i⟩ hk hf ha
    have kn := K1 (ib 1 _ R)
    exact kn.g (L.mv Y R R (L.nil (X.dk kn ⟨im, Sub.fresh ib R, i.u 5 (fun _ => R)⟩)))
   ·rintro D e s97 ⟨im, ib, i⟩ hk hf ha
    have kn := K1 (ib 9 _ R)
    exact kn.g (L.mv Y R R (L.nil (X.dk kn ⟨im, Sub.fresh ib R, i.u 6 (fun _ => R)⟩)))
   ·rintro D e s98 ⟨im, ib, i⟩ hk hf ha
    have h4 := h4.mono im.z
    have kn := K2 ((i.p 5) (ha.at 5 R)) ((i.p 6) (ha.at 6 R))
    refine kn.g (L.ix (r := qI) sl22 h4 Y R R ex99 R fun b100 o100 cc100 me100 rd100 => ?_)
    obtain rfl := rd100
    exact L.nil (X.dk kn ⟨im, Sub.fresh ib R, i.u 7 (fun _ => ⟨b100, o100, R, me100⟩)⟩)
   ·rintro D e s101 ⟨im, ib, i⟩ hk hf ha
    obtain ⟨b100, o100, g7_, me100⟩ := (i.p 7) (ha.at 7 R)
    have kn := K1 g7_
    exact kn.g (L.ld (j := 0) me100 nag3 Y R R R R (L.nil (X.dk kn ⟨im, Sub.fresh ib R, i.u 8 (fun _ => R)⟩)))
   ·rintro D e s102 ⟨im, ib, i⟩ hk hf ha
    have kn := K1 (ib 2 _ R)
    exact kn.g (L.mv Y R R (L.nil (X.dk kn ⟨im, Sub.fresh ib R, i.u 9 (fun _ => R)⟩)))
   ·rintro D e s103 ⟨im, ib, i⟩ hk hf ha
    have kn := K2 ((i.p 8) (ha.at 8 R)) ((i.p 9) (ha.at 9 R))
    exact kn.g (L.bu (cs := [.int .i64 x99, .int .i64 p2]) pl190 Y R R R (L.nil (X.dk kn ⟨im, Sub.fresh ib R, i.u 10 (fun _ => R)⟩)))
   ·rintro D e s104 ⟨im, ib, i⟩ hk hf ha
    obtain ⟨y95, c95, g4_, h95⟩ := (i.p 4) (ha.at 4 R)
    have kn := K2 g4_ ((i.p 10) (ha.at 10 R))
    exact kn.g (L.mi2 (k := (x99, p2)) md106 h95.any Y R R R (L.nil (X.dk kn ⟨im, Sub.fresh ib R, i.u 11 (fun _ => R)⟩)))
   ·rintro D e s105 ⟨im, ib, i⟩ hk hf ha
    have kn := K1 ((i.p 11) (ha.at 11 R))
    exact kn.g (L.mv Y R R (L.nil (X.dk kn ⟨im, Sub.fresh ib R, i.u 12 (fun _ => R)⟩)))
   ·rintro D e s106 ⟨im, ib, i⟩ hk hf ha
    have kn := K1 ((i.p 12) (ha.at 12 R))
    exact kn.g (L.ex Y R R R (L.nil (X.dk kn ⟨im, Sub.fresh ib R, i.u 13 (fun _ => R)⟩)))
   ·rintro D e s107 ⟨im, ib, i⟩ hk hf ha
    have kn := K1 ((i.p 12) (ha.at 12 R))
    exact kn.g (L.ex Y R R R (L.nil (X.dk kn ⟨im, Sub.fresh ib R, i.u 14 (fun _ => R)⟩)))
   ·rintro D e s108 ⟨im, ib, i⟩ hk hf ha
    have kn := K1 ((i.p 13) (ha.at 13 R))
    exact kn.g (L.as Y R R (L.nil (X.dk kn ⟨im, Sub.fresh ib R, i.u 15 (fun _ => R)⟩)))
   rintro D e s109 ⟨im, ib, i⟩ hk hf ha
   have kn := K1 ((i.p 14) (ha.at 14 R))
   exact kn.g (L.as Y R R (L.nil (X.dk kn ⟨im, Sub.fresh ib R, i.u 16 (fun _ => R)⟩)))
  rintro D e s110 hD ⟨im, ib, i⟩
  have g15_ := (i.p 15) (hD 15 R)
  have g16_ := (i.p 16) (hD 16 R)
  have h1 := h1.mono im.z
  have h12 := h12.mv im no_No no_No
  have bx6 := bx6.mv im no_No
  have h2 := h2.mono im.z
  have h3 := h3.mono im.z
  have h4 := h4.mono im.z
  have m0 := m0.trans im.no
  refine X.sub (e' := [(12, .bool ((kget x91 (x99, p2)).isSome)), (11, .int .i64 ((kget x91 (x99, p2)).getD 0)), (9, .int .i64 st62.1), (18, .int .i64 st62.1), (17, .int .i64 (p0.1.length : Int)), (16, .slice a1 p0.1.length c1), (8, .slice a12 st62.2.length c12), (3, .pointer (some ⟨b6, 0, none⟩)), (1, .slice a4 p1.length c4), (2, .int .i64 p2)]) ?_ (Sub.cons g16_ (Sub.cons g15_ (Sub.cons (ib 9 _ R) (Sub.cons (ib 18 _ R) (Sub.cons (ib 17 _ R) (Sub.cons (ib 16 _ R) (Sub.cons (ib 8 _ R) (Sub.cons (ib 3 _ R) (Sub.cons (ib 1 _ R) (Sub.cons (ib 2 _ R) Sub.nil))))))))))
  refine X.seqN (E.seq (ER (L.mv Y R R (L.not Y R R (L.nil (X.seqN ?_))))))
  rcases ifS hm with ⟨hc, hm⟩ | ⟨hc, hm⟩
  ·refine E.cT R hc (ER (L.as Y R R (L.as Y R R (LN (E.ret (X.seqR (X.blkR (X.seqR (X.seqR ?_)))))))))
   have hx := ho62 _ (oi hm).symm
   exact X.sub (K70 _ _ ⟨s110, (), hx.symm, m0, R, R⟩) (Sub.rf R)
  refine E.cF R hc (E.skip (X.seqN (E.reg (L.mv Y R R (L.mv Y R R (L.mv Y R R ?_))))))
  obtain ⟨x111, ex111, hm⟩ := bindS hm
  refine L.ir (r := qI) sl22 h12 Y R R ex111 R fun b112 o112 cc112 me112 rd112 sp112 => ?_
  obtain rfl := rd112
  obtain ⟨x113, ex113, hm⟩ := bindS hm
  have elx113 := upd_len ex113
  refine L.su (fo := 0) (c := [.int .i64 ((kget x91 (x99, p2)).getD 0)]) (z := ((kget x91 (x99, p2)).getD 0)) h12 sp112 ex111 ex113 (tgp hN) nag3.sz Y R R R R R R (fun c0 hc0 => by obtain rfl := hc0; exact R) fun s114 m115 h12 => ?_
  replace m0 := m0.trans (m115.one up)
  replace h1 := h1.mono (m115.le (tg0 hN))
  replace h4 := h4.mono (m115.le (tg0 hN))
  replace bx6 := bx6.mv m115 (tq R)
  replace h2 := h2.mono (m115.le (tg0 hN))
  replace h3 := h3.mono (m115.le (tg0 hN))
  exact L.reval (d := 8) R elx113 (L.nil (X.blkN (X.sub (Jj73 _ _ ⟨s114, x113, hm, m0, h1, h12, h4, h2, h3, bx6, R, R⟩) (Sub.rf R))))
 refine E.cF R hc (E.exit (X.seqX (X.seqX ?_)))
 have hx := ho62 _ (oi hm).symm
 exact X.sub (K67 _ _ ⟨s64, st62.2, hx.symm, m0, h12, R, R⟩) (Sub.rf R)

theorem bs34 : Bs Tryz.prog 34 22 1 [.slice none 0 0] := Bs.mk' Tryz.underlying34 (by kernel_rfl) (by kernel_rfl) rfl
theorem cf76 : Cf Tryz.prog 76 := Cf.mk Tryz.func76 (by kernel_rfl) (by kernel_rfl)
theorem cf77 : Cf Tryz.prog 77 := Cf.mk Tryz.func77 (by kernel_rfl) (by kernel_rfl)
theorem cf78 : Cf Tryz.prog 78 := Cf.mk Tryz.func78 (by kernel_rfl) (by kernel_rfl)
theorem cf79 : Cf Tryz.prog 79 := Cf.mk Tryz.func79 (by kernel_rfl) (by kernel_rfl)
theorem cf80 : Cf Tryz.prog 80 := Cf.mk Tryz.func80 (by kernel_rfl) (by kernel_rfl)
theorem cf81 : Cf Tryz.prog 81 := Cf.mk Tryz.func81 (by kernel_rfl) (by kernel_rfl)
theorem el22 : El Tryz.prog 22 1 24 := El.mk' (z := .slice none 0 0) (by kernel_rfl) (by kernel_rfl) (by kernel_rfl) rfl
theorem fa138_1 : FA Tryz.prog 138 1 1 := FA.mk Tryz.underlying138 rfl rfl ⟨1, by decide, by kernel_rfl⟩
theorem md143 : Md Tryz.prog 143 9 3 kvS qI 0 (.int .i64 0) := Md.mk' Tryz.underlying143 (KE.string Tryz.underlying9) (by kernel_rfl) (fun _ => rfl)
theorem sl34 : Sl Tryz.prog 34 22 1 := Sl.mk' Tryz.underlying34 (by kernel_rfl)
noncomputable def m_product_Synchronous_j2 (st333 : Int × (List (ByteArray × Int)) × List (List Int) × (List (Int × Int × Int))) (l346 : List (ByteArray × Int)) (l347 : List (List Int)) (l349 : List (Int × Int × Int)) : Option ((Int × (List (ByteArray × Int)) × List (List Int) × (List (Int × Int × Int))) ⊕ (((List (ByteArray × Int)) × List (List Int) × (List (Int × Int × Int))) ⊕ Unit)) :=
 some (.inl (W (st333.1 + 1), l346, l347, l349))
noncomputable def m_product_Synchronous_j3 (st237 : Int × (List (ByteArray × Int)) × List (List Int) × List Int × (List (Int × Int × Int))) (st333 : Int × (List (ByteArray × Int)) × List (List Int) × (List (Int × Int × Int))) (x353 : Int) (l379 : List (List Int)) (n381 : Int) (l382 : List (ByteArray × Int)) : Option ((Int × (List (ByteArray × Int)) × List (List Int) × (List (Int × Int × Int))) ⊕ (((List (ByteArray × Int)) × List (List Int) × (List (Int × Int × Int))) ⊕ Unit)) :=
 (app st333.2.2.2 ([(st237.1, x353, n381)] : List (Int × Int × Int))).bind fun x388 =>
 m_product_Synchronous_j2 st333 l382 l379 x388
noncomputable def m_product_Synchronous_l2 (r14 : ((List AutT) × List Int × (List (List ((Int × Int) × Int))))) (st237 : Int × (List (ByteArray × Int)) × List (List Int) × List Int × (List (Int × Int × Int))) (st333 : Int × (List (ByteArray × Int)) × List (List Int) × (List (Int × Int × Int))) : Option ((Int × (List (ByteArray × Int)) × List (List Int) × (List (Int × Int × Int))) ⊕ (((List (ByteArray × Int)) × List (List Int) × (List (Int × Int × Int))) ⊕ Unit)) :=
 if decide (st333.1 < (r14.2.1.length : Int)) then
  (idx r14.2.1 st333.1).bind fun x353 =>
  (idx st333.2.2.1 st237.1).bind fun x359 =>
  (m_product_machine_step r14 x359 x353).bind fun r366 =>
  if (!r366.2) then
   m_product_Synchronous_j2 st333 st333.2.1 st333.2.2.1 st333.2.2.2
  else
   (m_product_key r366.1).bind fun r376 =>
   if (!((kget st333.2.1 r376).isSome)) then
    if ((st333.2.2.1.length : Int) == 4096) then
     some (.inr (.inr (())))
    else
     (m_product_key r366.1).bind fun r396 =>
     (app st333.2.2.1 ([r366.1] : List (List Int))).bind fun x404 =>
     m_product_Synchronous_j3 st237 st333 x353 x404 (st333.2.2.1.length : Int) (kput st333.2.1 r396 (st333.2.2.1.length : Int))
   else
    m_product_Synchronous_j3 st237 st333 x353 st333.2.2.1 ((kget st333.2.1 r376).getD 0) st333.2.1
 else
  some (.inr (.inl st333.2))
noncomputable def m_product_Synchronous_j1 (r14 : ((List AutT) × List Int × (List (List ((Int × Int) × Int))))) (st237 : Int × (List (ByteArray × Int)) × List (List Int) × List Int × (List (Int × Int × Int))) (l255 : List Int) : Option ((Int × (List (ByteArray × Int)) × List (List Int) × List Int × (List (Int × Int × Int))) ⊕ ((List (List Int) × List Int × (List (Int × Int × Int))) ⊕ Unit)) :=
 (iter (m_product_Synchronous_l2 r14 st237) (0, st237.2.1, st237.2.2.1, st237.2.2.2.2)).bind fun o333 =>
 match o333 with
 | .inl u340 =>
  some (.inl (W (st237.1 + 1), u340.1, u340.2.1, l255, u340.2.2))
 | .inr (u343) =>
  some (.inr (.inr (())))
noncomputable def m_product_Synchronous_l1 (r14 : ((List AutT) × List Int × (List (List ((Int × Int) × Int))))) (st237 : Int × (List (ByteArray × Int)) × List (List Int) × List Int × (List (Int × Int × Int))) : Option ((Int × (List (ByteArray × Int)) × List (List Int) × List Int × (List (Int × Int × Int))) ⊕ ((List (List Int) × List Int × (List (Int × Int × Int))) ⊕ Unit)) :=
 if decide (st237.1 < (st237.2.2.1.length : Int)) then
  (idx st237.2.2.1 st237.1).bind fun x412 =>
  (m_product_machine_marked r14 x412).bind fun r418 =>
  if r418 then
   (app st237.2.2.2.1 ([st237.1] : List Int)).bind fun x425 =>
   m_product_Synchronous_j1 r14 st237 x425
  else
   m_product_Synchronous_j1 r14 st237 st237.2.2.2.1
 else
  some (.inr (.inl st237.2.2))
noncomputable def m_product_Synchronous (p0 : List AutT) : Option (AutT × List (List Int) × Int) :=
 (m_product_Check p0).bind fun r9 =>
 if (r9 != 0) then
  some ((([] : List Int), 0, ([] : List Int), ([] : List (Int × Int × Int))), ([] : List (List Int)), r9)
 else
  (m_product_open p0).bind fun r14 =>
  (m_product_machine_initial r14).bind fun r28 =>
  if (!r28.2) then
   some ((r14.2.1, 0, ([] : List Int), ([] : List (Int × Int × Int))), ([] : List (List Int)), 0)
  else
   (m_product_key r28.1).bind fun r40 =>
   (iter (m_product_Synchronous_l1 r14) (0, (kput ([] : List (ByteArray × Int)) r40 0), ([r28.1] : List (List Int)), ([] : List Int), ([] : List (Int × Int × Int)))).bind fun o237 =>
   match o237 with
   | .inl u245 =>
    some ((r14.2.1, (u245.1.length : Int), u245.2), u245.1, 0)
   | .inr (u252) =>
    some ((([] : List Int), 0, ([] : List Int), ([] : List (Int × Int × Int))), ([] : List (List Int)), 3)
theorem m_product_Synchronous_c {s : Sig} {p0 : List AutT} {a1 : Option Addr} {c1 : Nat} {u1 : Nat} {u2 : Nat} {u3 : Nat} {r : AutT × List (List Int) × Int} (h1 : RdL (rP (rL qI) (rP qI (rP (rL qI) (rL qT)))) s a1 c1 p0) (hm : m_product_Synchronous p0 = some r) :
    Calls Tryz.prog 34 #[.slice a1 p0.length c1] s.w (RetS No s fun v s' => ∃ (a2 : Option Addr) (c2 : Nat) (a3 : Option Addr) (c3 : Nat) (a4 : Option Addr) (c4 : Nat) (a5 : Option Addr) (c5 : Nat), v = .tuple #[.agg #[.slice a2 r.1.1.length c2, .int .i64 r.1.2.1, .slice a3 r.1.2.2.1.length c3, .slice a4 r.1.2.2.2.length c4], .slice a5 r.2.1.length c5, .int .i64 r.2.2] ∧ RdL qI s' a2 c2 r.1.1 ∧ RowT qI s' u1 3 a3 c3 r.1.2.2.1 ∧ RowT qT s' u2 97 a4 c4 r.1.2.2.2 ∧ RowT (rL qI) s' u3 22 a5 c5 r.2.1) := by
 unfold m_product_Synchronous at hm
 obtain ⟨N, hN, hNb⟩ := s.fresh
 have m0 : Mv (Up N No) s s := Mv.refl _ _
 refine E.entry Tryz.func34 R Tryz.ntmps34 R R (ER (L.al (N + 0) zz25 R Y R fun b6 s7 m8 bx6 => ?_))
 replace h1 := h1.mono m8.z
 refine L.as Y R R (L.as Y R R (LN (E.seq (ER (L.mv Y R R ?_)))))
 obtain ⟨r9, er9, hm⟩ := bindS hm
 refine L.ca cf76 R R Y R (m_product_Check_c (s := s7) (p0 := p0) h1 er9) R ?_
 rintro _ s10 m11 rfl
 replace m0 := (m0.trans m8.no).trans m11.no
 replace h1 := h1.mono m11.z
 replace bx6 := bx6.mv m11 no_No
 refine L.as Y R R (LN (ER (L.mv Y R R (L.bi Y R R R R (L.nil (X.seqN ?_))))))
 rcases ifS hm with ⟨hc, hm⟩ | ⟨hc, hm⟩
 ·refine E.cT R hc (ER (L.bu (cs := [.slice none 0 0, .int .i64 0, .slice none 0 0, .slice none 0 0]) pl25 Y R R R (L.mv Y R R (L.st (c := [.slice none 0 0, .int .i64 0, .slice none 0 0, .slice none 0 0]) (cs' := #[.slice none 0 0, .int .i64 0, .slice none 0 0, .slice none 0 0]) bx6 ag25.sz Y R R R R R (nb R) R fun s12 m13 bx6 => ?_))))
  replace m0 := m0.trans (m13.one up)
  refine L.as Y R R (L.as Y R R (LN (E.ret (X.seqR ?_))))
  obtain rfl := oi hm
  exact X.rt (.inl R) Tryz.results34 (Rs.cell R bx6 ag25 R (Rs.tmp R (Rs.tmp R Rs.nil))) R ⟨_, (s12).ren N (fun _ => 0), R, R, m0.ren hNb, ⟨none, 0, none, 0, none, 0, none, 0, R, RdL.nil, RowT.nil, RowT.nil, RowT.nil⟩⟩
 refine E.cF R hc (E.skip (X.seqN (ER (L.mv Y R R ?_))))
 obtain ⟨r14, er14, hm⟩ := bindS hm
 refine L.ca cf77 R R Y R (m_product_open_c (s := s10) (p0 := p0) (u1 := (N + 2)) (u2 := 0) h1 er14) R ?_
 rintro _ s15 m16 ⟨a17, c17, a18, c18, a19, c19, rfl, h17, h18, h19⟩
 refine L.al (N + 1) zz138 R Y R fun b20 s21 m22 bx20 => ?_
 refine L.st (c := [.slice a17 r14.1.length c17, .slice a18 r14.2.1.length c18, .slice a19 r14.2.2.length c19]) (cs' := #[.slice a17 r14.1.length c17, .slice a18 r14.2.1.length c18, .slice a19 r14.2.2.length c19]) bx20 ag138.sz Y R R R R R (nb R) R fun s23 m24 bx20 => ?_
 replace bx6 := ((bx6.mv m16 no_No).mv m22 no_No).mv m24 (tq R)
 refine LN (ER (L.fa fa138_1 Y R R (L.ld (j := 1) bx20.mem nag22 Y R R R R (L.fa fa25_0 Y R R (L.st (c := [.slice a18 r14.2.1.length c18]) (cs' := #[.slice a18 r14.2.1.length c18, .int .i64 0, .slice none 0 0, .slice none 0 0]) bx6 nag22.sz Y R R R R R (nb R) R fun s25 m26 bx6 => ?_)))))
 replace bx20 := bx20.mv m26 (tq R)
 refine LN (ER (L.lg (j := 0) (cs := [.slice a17 r14.1.length c17, .slice a18 r14.2.1.length c18, .slice a19 r14.2.2.length c19]) bx20.mem ag138 Y R R R R R ?_))
 have m27 := Sig.fz_mv (N + 2) s25
 replace h18 := (((h18.mv m22 no_No no_No).mv m24 (tq R) (tg0 hN)).mv m26 (tq R) (tg0 hN)).fz (tgn hN)
 replace h17 := (((h17.mono m22.z).mono (m24.le (tg0 hN))).mono (m26.le (tg0 hN))).mono (m27.le (tg0 hN))
 replace h19 := ((((h19.p).mono m22.z).mono (m24.le (tg0 hN))).mono (m26.le (tg0 hN))).mono (m27.le (tg0 hN))
 refine L.toR (s' := (Sig.fz (N + 2) s25)) R ?_
 obtain ⟨r28, er28, hm⟩ := bindS hm
 refine L.ca cf78 R R Y R (m_product_machine_initial_c (s := (Sig.fz (N + 2) s25)) (p0 := r14) (u0 := 0) h17 h18 h19 er28) R ?_
 rintro _ s29 m30 ⟨a31, c31, rfl, h31⟩
 replace m0 := (((((m0.trans m16.no).trans m22.no).trans (m24.one up)).trans (m26.one up)).trans (m27.one up)).trans m30.no
 replace bx6 := (bx6.mv m27 (tq R)).mv m30 no_No
 replace h18 := h18.mono m30.z
 refine L.mv Y R R (L.ex Y R R R (L.ex Y R R R (L.as Y R R (L.as Y R R (LN (E.seq (ER (L.mv Y R R (L.not Y R R (L.nil (X.seqN ?_)))))))))))
 rcases ifS hm with ⟨hc, hm⟩ | ⟨hc, hm⟩
 ·refine E.cT R hc (ER (L.lg (j := 0) (cs := [.slice a18 r14.2.1.length c18, .int .i64 0, .slice none 0 0, .slice none 0 0]) bx6.mem ag25 Y R R R R R (L.st (c := [.slice a18 r14.2.1.length c18, .int .i64 0, .slice none 0 0, .slice none 0 0]) (cs' := #[.slice a18 r14.2.1.length c18, .int .i64 0, .slice none 0 0, .slice none 0 0]) bx6 ag25.sz Y R R R R R (nb R) R fun s32 m33 bx6 => ?_)))
  replace m0 := m0.trans (m33.one up)
  replace h18 := h18.mono (m33.le (tg0 hN))
  refine L.as Y R R (L.as Y R R (LN (E.ret (X.seqR ?_))))
  obtain rfl := oi hm
  exact X.rt (.inl R) Tryz.results34 (Rs.cell R bx6 ag25 R (Rs.tmp R (Rs.tmp R Rs.nil))) R ⟨_, (s32).ren N (fun _ => 0), R, R, m0.ren hNb, ⟨a18, c18, none, 0, none, 0, none, 0, R, (h18.ren hN), RowT.nil, RowT.nil, RowT.nil⟩⟩
 refine E.cF R hc (E.skip (X.seqN (ER (L.mv Y R R (L.bsE (k := 1) (cs := [.slice a31 r28.1.length c31]) (N + 5) bs34 (nb R) Y R R R R fun b34 s35 m36 bx34 => ?_)))))
 replace h31 := (h31.p).mono m36.z
 have h34 := Bx.row (r := (rL qI)) (xs := ([r28.1] : List (List Int))) bx34 ⟨[.slice a31 r28.1.length c31], _, R, ⟨_, _, R, h31⟩, R⟩ (nb R)
 refine L.as Y R R (LN (ER (L.mk2 (kv := kvS) (r := qI) (T := 143) (N + 3) R Y fun y37 c37 s38 m39 h37 => ?_)))
 replace h31 := h31.mono m39.z
 refine L.mv Y R R ?_
 obtain ⟨r40, er40, hm⟩ := bindS hm
 refine L.ca cf79 R R Y R (m_product_key_c (s := s38) (p0 := r28.1) h31 er40) R ?_
 rintro _ s41 m42 rfl
 replace h37 := (h37.as (T' := 0) (Le.refl _) R (fun _ e => e)).mv m42 no_No no_No
 refine L.ins (k := r40) (v := 0) md143 h37 R (tpos hN) (fun _ _ => eqS) Y R R R fun s43 m44 h37 => ?_
 replace m0 := (((m0.trans m36.no).trans m39.no).trans m42.no).trans (m44.one up)
 replace h34 := ((h34.mv m39 no_No no_No).mv m42 no_No no_No).mv m44 (tq R) (tg0 hN)
 replace bx6 := (((bx6.mv m36 no_No).mv m39 no_No).mv m42 no_No).mv m44 (tq R)
 replace h18 := (((h18.mono m36.z).mono m39.z).mono m42.z).mono (m44.le (tg0 hN))
 replace bx20 := (((((bx20.mv m27 (tq R)).mv m30 no_No).mv m36 no_No).mv m39 no_No).mv m42 no_No).mv m44 (tq R)
 replace h17 := ((((h17.mono m30.z).mono m36.z).mono m39.z).mono m42.z).mono (m44.le (tg0 hN))
 replace h19 := ((((h19.mono m30.z).mono m36.z).mono m39.z).mono m42.z).mono (m44.le (tg0 hN))
 refine L.mv Y R R (L.as Y R R (LN (E.seq (ER (L.as Y R R (LN (E.block ?_)))))))
 obtain ⟨o237, eo237, hm⟩ := bindS hm
 refine E.cut (x := .exit 0) (fun e w => ∃ (s246 : Sig) (u245 : List (List Int) × List Int × (List (Int × Int × Int))) (a239 : Option Addr) (c239 : Nat) (a241 : Option Addr) (c241 : Nat) (a243 : Option Addr) (c243 : Nat), o237 = .inl u245 ∧ Mv (Up N No) s s246 ∧ RowT (rL qI) s246 (N + 5) 22 a239 c239 u245.1 ∧ RdL qI s246 a18 c18 r14.2.1 ∧ RowT qI s246 (N + 4) 3 a241 c241 u245.2.1 ∧ RowT qT s246 (N + 6) 97 a243 c243 u245.2.2 ∧ Bx s246 (N + 0) b6 #[.slice a18 r14.2.1.length c18, .int .i64 0, .slice a241 u245.2.1.length c241, .slice a243 u245.2.2.length c243] 25 ∧ e = [(3, .slice a239 u245.1.length c239), (2, .pointer (some ⟨b6, 0, none⟩))] ∧ w = s246.w) ?_ ?_
 ·rintro _ _ ⟨s246, u245, a239, c239, a241, c241, a243, c243, rfl, m0, h239, h18, h241, h243, bx6, rfl, rfl⟩
  dsimp only at hm
  refine X.blkE (X.seqN (ER (L.mv Y R R (L.len sl34 Y R R (L.fa fa25_1 Y R R (L.st (c := [.int .i64 (u245.1.length : Int)]) (cs' := #[.slice a18 r14.2.1.length c18, .int .i64 (u245.1.length : Int), .slice a241 u245.2.1.length c241, .slice a243 u245.2.2.length c243]) bx6 nag3.sz Y R R R R R (nb R) R fun s247 m248 bx6 => ?_))))))
  refine LN (ER (L.lg (j := 0) (cs := [.slice a18 r14.2.1.length c18, .int .i64 (u245.1.length : Int), .slice a241 u245.2.1.length c241, .slice a243 u245.2.2.length c243]) bx6.mem ag25 Y R R R R R (L.mv Y R R (L.st (c := [.slice a18 r14.2.1.length c18, .int .i64 (u245.1.length : Int), .slice a241 u245.2.1.length c241, .slice a243 u245.2.2.length c243]) (cs' := #[.slice a18 r14.2.1.length c18, .int .i64 (u245.1.length : Int), .slice a241 u245.2.1.length c241, .slice a243 u245.2.2.length c243]) bx6 ag25.sz Y R R R R R (nb R) R fun s249 m250 bx6 => ?_))))
  replace m0 := (m0.trans (m248.one up)).trans (m250.one up)
  replace h239 := (h239.mv m248 (tq R) (tg0 hN)).mv m250 (tq R) (tg0 hN)
  replace h18 := (h18.mono (m248.le (tg0 hN))).mono (m250.le (tg0 hN))
  replace h241 := (h241.mv m248 (tq R) (tg0 hN)).mv m250 (tq R) (tg0 hN)
  replace h243 := (h243.mv m248 (tq R) (tg0 hN)).mv m250 (tq R) (tg0 hN)
  refine L.as Y R R (L.as Y R R (LN (E.ret ?_)))
  obtain rfl := oi hm
  exact X.rt (.inl R) Tryz.results34 (Rs.cell R bx6 ag25 R (Rs.tmp R (Rs.tmp R Rs.nil))) R ⟨_, (s249).ren N (fun k => cond (Nat.beq k 6) u2 (cond (Nat.beq k 5) u3 (cond (Nat.beq k 4) u1 (0)))), R, R, m0.ren hNb, ⟨a18, c18, a241, c241, a243, c243, a239, c239, R, (h18.ren hN), (h241.ren hN), (h243.ren hN), (h239.ren hN)⟩⟩
 intro K251
 refine E.cut (x := .ret) (fun e w => ∃ (s253 : Sig) (u252 : Unit), o237 = .inr (u252) ∧ Mv (Up N No) s s253 ∧ Bx s253 (N + 0) b6 #[.slice none 0 0, .int .i64 0, .slice none 0 0, .slice none 0 0] 25 ∧ e = [(4, .int .i64 3), (3, .slice none 0 0), (2, .pointer (some ⟨b6, 0, none⟩))] ∧ w = s253.w) ?_ ?_
 ·rintro _ _ ⟨s253, u252, rfl, m0, bx6, rfl, rfl⟩
  dsimp only at hm
  refine X.blkR (X.seqR ?_)
  obtain rfl := oi hm
  exact X.rt (.inl R) Tryz.results34 (Rs.cell R bx6 ag25 R (Rs.tmp R (Rs.tmp R Rs.nil))) R ⟨_, (s253).ren N (fun _ => 0), R, R, m0.ren hNb, ⟨none, 0, none, 0, none, 0, none, 0, R, RdL.nil, RowT.nil, RowT.nil, RowT.nil⟩⟩
 intro K254
 refine E.iter (fun (st237 : Int × (List (ByteArray × Int)) × List (List Int) × List Int × (List (Int × Int × Int))) (e : List (Nat × Value)) (w : World) => ∃ (s244 : Sig) (a48 : Option Addr) (c48 : Nat) (a50 : Option Addr) (c50 : Nat) (a52 : Option Addr) (c52 : Nat), Mv (Up N No) s s244 ∧ MapO kvS qI s244 (N + 3) 0 y37 c37 st237.2.1 ∧ RowT (rL qI) s244 (N + 5) 22 a48 c48 st237.2.2.1 ∧ RdL qI s244 a18 c18 r14.2.1 ∧ RowT qI s244 (N + 4) 3 a50 c50 st237.2.2.2.1 ∧ RowT qT s244 (N + 6) 97 a52 c52 st237.2.2.2.2 ∧ RdL (rP (rL qI) (rP qI (rP (rL qI) (rL qT)))) s244 a17 c17 r14.1 ∧ RdL (rM kvP qI) s244 a19 c19 r14.2.2 ∧ Bx s244 (N + 0) b6 #[.slice a18 r14.2.1.length c18, .int .i64 0, .slice a50 st237.2.2.2.1.length c50, .slice a52 st237.2.2.2.2.length c52] 25 ∧ Bx s244 (N + 1) b20 #[.slice a17 r14.1.length c17, .slice a18 r14.2.1.length c18, .slice a19 r14.2.2.length c19] 138 ∧ e = [(10, .int .i64 st237.1), (9, .map y37), (3, .slice a48 st237.2.2.1.length c48), (6, .pointer (some ⟨b20, 0, none⟩)), (2, .pointer (some ⟨b6, 0, none⟩))] ∧ w = s244.w) eo237 ⟨s43, (some ⟨b34, 0, none⟩), ([r28.1] : List (List Int)).length, none, 0, none, 0, m0, h37, h34, h18, RowT.nil, RowT.nil, h17, h19, bx6, bx20, R, R⟩ (Sub.rf R) ?_
 rintro st237 res237 hm ih237 ho237 _ _ ⟨s244, a48, c48, a50, c50, a52, c52, m0, h37, h48, h18, h50, h52, h17, h19, bx6, bx20, rfl, rfl⟩
 unfold m_product_Synchronous_l1 at hm
 refine E.seq (ER (L.mv Y R R (L.mv Y R R (L.len sl34 Y R R (L.bi Y R R R R (L.nil (X.seqN ?_)))))))
 rcases ifS hm with ⟨hc, hm⟩ | ⟨hc, hm⟩
 ·refine E.cT R hc (E.skip (X.seqN (E.seq (E.block (E.seqJ (fun e w => ∃ (s257 : Sig) (l255 : List Int) (a256 : Option Addr) (c256 : Nat), m_product_Synchronous_j1 r14 st237 l255 = some res237 ∧ Mv (Up N No) s s257 ∧ MapO kvS qI s257 (N + 3) 0 y37 c37 st237.2.1 ∧ RowT (rL qI) s257 (N + 5) 22 a48 c48 st237.2.2.1 ∧ RdL qI s257 a18 c18 r14.2.1 ∧ RowT qI s257 (N + 4) 3 a256 c256 l255 ∧ RowT qT s257 (N + 6) 97 a52 c52 st237.2.2.2.2 ∧ RdL (rP (rL qI) (rP qI (rP (rL qI) (rL qT)))) s257 a17 c17 r14.1 ∧ RdL (rM kvP qI) s257 a19 c19 r14.2.2 ∧ Bx s257 (N + 0) b6 #[.slice a18 r14.2.1.length c18, .int .i64 0, .slice a256 l255.length c256, .slice a52 st237.2.2.2.2.length c52] 25 ∧ Bx s257 (N + 1) b20 #[.slice a17 r14.1.length c17, .slice a18 r14.2.1.length c18, .slice a19 r14.2.2.length c19] 138 ∧ e = [(10, .int .i64 st237.1), (9, .map y37), (3, .slice a48 st237.2.2.1.length c48), (6, .pointer (some ⟨b20, 0, none⟩)), (2, .pointer (some ⟨b6, 0, none⟩))] ∧ w = s257.w) ?_ ?_)))))
  ·rintro _ _ ⟨s257, l255, a256, c256, hm, m0, h37, h48, h18, h256, h52, h17, h19, bx6, bx20, rfl, rfl⟩
   unfold m_product_Synchronous_j1 at hm
   refine ER (L.fa fa138_1 Y R R (L.ld (j := 1) bx20.mem nag22 Y R R R R (L.len sl22 Y R R (L.mv Y R R (LN (E.block ?_))))))
   obtain ⟨o333, eo333, hm⟩ := bindS hm
   refine E.cut (x := .exit 2) (fun e w => ∃ (s341 : Sig) (u340 : (List (ByteArray × Int)) × List (List Int) × (List (Int × Int × Int))) (a336 : Option Addr) (c336 : Nat) (a338 : Option Addr) (c338 : Nat), o333 = .inl u340 ∧ Mv (Up N No) s s341 ∧ MapO kvS qI s341 (N + 3) 0 y37 c37 u340.1 ∧ RowT (rL qI) s341 (N + 5) 22 a336 c336 u340.2.1 ∧ RdL qI s341 a18 c18 r14.2.1 ∧ RowT qI s341 (N + 4) 3 a256 c256 l255 ∧ RowT qT s341 (N + 6) 97 a338 c338 u340.2.2 ∧ RdL (rP (rL qI) (rP qI (rP (rL qI) (rL qT)))) s341 a17 c17 r14.1 ∧ RdL (rM kvP qI) s341 a19 c19 r14.2.2 ∧ Bx s341 (N + 0) b6 #[.slice a18 r14.2.1.length c18, .int .i64 0, .slice a256 l255.length c256, .slice a338 u340.2.2.length c338] 25 ∧ Bx s341 (N + 1) b20 #[.slice a17 r14.1.length c17, .slice a18 r14.2.1.length c18, .slice a19 r14.2.2.length c19] 138 ∧ e = [(10, .int .i64 st237.1), (9, .map y37), (3, .slice a336 u340.2.1.length c336), (6, .pointer (some ⟨b20, 0, none⟩)), (2, .pointer (some ⟨b6, 0, none⟩))] ∧ w = s341.w) ?_ ?_
   ·rintro _ _ ⟨s341, u340, a336, c336, a338, c338, rfl, m0, h37, h336, h18, h256, h338, h17, h19, bx6, bx20, rfl, rfl⟩
    dsimp only at hm
    exact X.blkE (X.blkN (X.seqN (E.reg (L.mv Y R R (L.bi Y R R R R (L.as Y R R (L.nil (X.sub (ih237 _ (oi hm).symm _ _ ⟨s341, a336, c336, a256, c256, a338, c338, m0, h37, h336, h18, h256, h338, h17, h19, bx6, bx20, R, R⟩) (Sub.rf R)))))))))
   intro K342
   refine E.cut (x := .ret) (fun e w => ∃ (s344 : Sig) (u343 : Unit), o333 = .inr (u343) ∧ Mv (Up N No) s s344 ∧ Bx s344 (N + 0) b6 #[.slice none 0 0, .int .i64 0, .slice none 0 0, .slice none 0 0] 25 ∧ e = [(4, .int .i64 3), (3, .slice none 0 0), (2, .pointer (some ⟨b6, 0, none⟩))] ∧ w = s344.w) ?_ ?_
   ·rintro _ _ ⟨s344, u343, rfl, m0, bx6, rfl, rfl⟩
    dsimp only at hm
    refine X.blkR (X.blkR (X.seqR (X.seqR ?_)))
    have hx := ho237 _ (oi hm).symm
    exact X.sub (K254 _ _ ⟨s344, (), hx.symm, m0, bx6, R, R⟩) (Sub.rf R)
   intro K345
   refine E.iter (fun (st333 : Int × (List (ByteArray × Int)) × List (List Int) × (List (Int × Int × Int))) (e : List (Nat × Value)) (w : World) => ∃ (s339 : Sig) (a262 : Option Addr) (c262 : Nat) (a264 : Option Addr) (c264 : Nat), Mv (Up N No) s s339 ∧ RdL qI s339 a18 c18 r14.2.1 ∧ MapO kvS qI s339 (N + 3) 0 y37 c37 st333.2.1 ∧ RowT (rL qI) s339 (N + 5) 22 a262 c262 st333.2.2.1 ∧ RowT qI s339 (N + 4) 3 a256 c256 l255 ∧ RowT qT s339 (N + 6) 97 a264 c264 st333.2.2.2 ∧ RdL (rP (rL qI) (rP qI (rP (rL qI) (rL qT)))) s339 a17 c17 r14.1 ∧ RdL (rM kvP qI) s339 a19 c19 r14.2.2 ∧ Bx s339 (N + 0) b6 #[.slice a18 r14.2.1.length c18, .int .i64 0, .slice a256 l255.length c256, .slice a264 st333.2.2.2.length c264] 25 ∧ Bx s339 (N + 1) b20 #[.slice a17 r14.1.length c17, .slice a18 r14.2.1.length c18, .slice a19 r14.2.2.length c19] 138 ∧ e = [(63, .int .i64 st333.1), (62, .int .i64 (r14.2.1.length : Int)), (61, .slice a18 r14.2.1.length c18), (10, .int .i64 st237.1), (9, .map y37), (3, .slice a262 st333.2.2.1.length c262), (6, .pointer (some ⟨b20, 0, none⟩)), (2, .pointer (some ⟨b6, 0, none⟩))] ∧ w = s339.w) eo333 ⟨s257, a48, c48, a52, c52, m0, h18, h37, h48, h256, h52, h17, h19, bx6, bx20, R, R⟩ (Sub.rf R) ?_
   rintro st333 res333 hm ih333 ho333 _ _ ⟨s339, a262, c262, a264, c264, m0, h18, h37, h262, h256, h264, h17, h19, bx6, bx20, rfl, rfl⟩
   unfold m_product_Synchronous_l2 at hm
   refine ER (L.bi Y R R R R (LN (E.seq ?_)))
   rcases ifS hm with ⟨hc, hm⟩ | ⟨hc, hm⟩
   ·refine E.cT R hc (E.skip (X.seqN (E.seqJ (fun e w => ∃ (s351 : Sig) (l346 : List (ByteArray × Int)) (l347 : List (List Int)) (l349 : List (Int × Int × Int)) (a348 : Option Addr) (c348 : Nat) (a350 : Option Addr) (c350 : Nat), m_product_Synchronous_j2 st333 l346 l347 l349 = some res333 ∧ Mv (Up N No) s s351 ∧ RdL qI s351 a18 c18 r14.2.1 ∧ MapO kvS qI s351 (N + 3) 0 y37 c37 l346 ∧ RowT (rL qI) s351 (N + 5) 22 a348 c348 l347 ∧ RowT qI s351 (N + 4) 3 a256 c256 l255 ∧ RowT qT s351 (N + 6) 97 a350 c350 l349 ∧ RdL (rP (rL qI) (rP qI (rP (rL qI) (rL qT)))) s351 a17 c17 r14.1 ∧ RdL (rM kvP qI) s351 a19 c19 r14.2.2 ∧ Bx s351 (N + 0) b6 #[.slice a18 r14.2.1.length c18, .int .i64 0, .slice a256 l255.length c256, .slice a350 l349.length c350] 25 ∧ Bx s351 (N + 1) b20 #[.slice a17 r14.1.length c17, .slice a18 r14.2.1.length c18, .slice a19 r14.2.2.length c19] 138 ∧ e = [(63, .int .i64 st333.1), (62, .int .i64 (r14.2.1.length : Int)), (61, .slice a18 r14.2.1.length c18), (10, .int .i64 st237.1), (9, .map y37), (3, .slice a348 l347.length c348), (6, .pointer (some ⟨b20, 0, none⟩)), (2, .pointer (some ⟨b6, 0, none⟩))] ∧ w = s351.w) ?_ ?_)))
    ·rintro _ _ ⟨s351, l346, l347, l349, a348, c348, a350, c350, hm, m0, h18, h37, h348, h256, h350, h17, h19, bx6, bx20, rfl, rfl⟩
     unfold m_product_Synchronous_j2 at hm
     exact E.reg (L.bi Y R R R R (L.mv Y R R (L.nil (X.sub (ih333 _ (oi hm).symm _ _ ⟨s351, a348, c348, a350, c350, m0, h18, h37, h348, h256, h350, h17, h19, bx6, bx20, R, R⟩) (Sub.rf R)))))
    intro Jj352
    refine E.block (E.seq (E.reg ?_))
    obtain ⟨x353, ex353, hm⟩ := bindS hm
    refine L.ix (r := qI) sl22 h18 Y R R ex353 R fun b354 o354 cc354 me354 rd354 => ?_
    obtain rfl := rd354
    refine L.ld (j := 0) me354 nag3 Y R R R R (L.as Y R R (LN (E.seq ?_)))
    obtain ⟨x359, ex359, hm⟩ := bindS hm
    obtain ⟨r366, er366, hm⟩ := bindS hm
    refine E.draw [[], [], [], [1, 2], [1, 2, 3], [], [0, 1, 2, 3, 4, 5], [0, 1, 2, 3, 4, 5, 6], [0, 1, 2, 3, 4, 5, 6, 7], [0, 1, 2, 3, 4, 5, 6, 7], [0, 1, 2, 3, 4, 5, 6, 7, 8], [0, 1, 2, 3, 4, 5, 6, 7, 8, 9, 10]] (fun D e sx => Mv No s339 sx ∧ Sub [(12, .int .i64 x353), (63, .int .i64 st333.1), (62, .int .i64 (r14.2.1.length : Int)), (61, .slice a18 r14.2.1.length c18), (10, .int .i64 st237.1), (9, .map y37), (3, .slice a262 st333.2.2.1.length c262), (6, .pointer (some ⟨b20, 0, none⟩)), (2, .pointer (some ⟨b6, 0, none⟩))] e ∧ AllP [G D e 0 68 (.agg #[.slice a17 r14.1.length c17, .slice a18 r14.2.1.length c18, .slice a19 r14.2.2.length c19]), G D e 1 69 (.slice a262 st333.2.2.1.length c262), G D e 2 70 (.int .i64 st237.1), D 3 = true → (∃ (b360 : Nat) (o360 : Nat) (a361 : Option Addr) (c361 : Nat), Env.get e 71 = some (.pointer (some ⟨b360, o360, none⟩)) ∧ Mem sx (N + 5) b360 o360 [.slice a361 x359.length c361] ∧ RdL qI sx a361 c361 x359 ∧ Spot a262 (rL qI).sz (st237.1).toNat b360 o360), D 4 = true → (∃ (a363 : Option Addr) (c363 : Nat), Env.get e 72 = some (.slice a363 x359.length c363) ∧ RdL qI sx a363 c363 x359), G D e 5 73 (.int .i64 x353), D 6 = true → (∃ (a369 : Option Addr) (c369 : Nat), Env.get e 74 = some (.tuple #[.slice a369 r366.1.length c369, .bool r366.2]) ∧ RdL qI sx a369 c369 r366.1), D 7 = true → ∀ (a369 : Option Addr) (c369 : Nat), Env.get e 74 = some (.tuple #[.slice a369 r366.1.length c369, .bool r366.2]) → (Env.get e 67 = some (.tuple #[.slice a369 r366.1.length c369, .bool r366.2])), D 8 = true → ∀ (a369 : Option Addr) (c369 : Nat), Env.get e 74 = some (.tuple #[.slice a369 r366.1.length c369, .bool r366.2]) → (Env.get e 75 = some (.slice a369 r366.1.length c369)), G D e 9 76 (.bool r366.2), D 10 = true → ∀ (a369 : Option Addr) (c369 : Nat), Env.get e 74 = some (.tuple #[.slice a369 r366.1.length c369, .bool r366.2]) → (Env.get e 13 = some (.slice a369 r366.1.length c369)), G D e 11 14 (.bool r366.2)]) (by kernel_rfl) (by kernel_rfl) (by kernel_rfl) ?_ ?_ ?_
    ·intro sz mz
     exact ⟨mz, (Sub.rf R), nofun, nofun, nofun, nofun, nofun, nofun, nofun, nofun, nofun, nofun, nofun, nofun, trivial⟩
    ·refine ⟨?_, ?_, ?_, ?_, ?_, ?_, ?_, ?_, ?_, ?_, ?_, ?_, trivial⟩
     ·rintro D e s355 ⟨im, ib, i⟩ hk hf ha
      have bx20 := bx20.mv im no_No
      have kn := K1 (ib 6 _ R)
      exact kn.g (L.lg (j := 0) (cs := [.slice a17 r14.1.length c17, .slice a18 r14.2.1.length c18, .slice a19 r14.2.2.length c19]) bx20.mem ag138 Y R R R R R (L.nil (X.dk kn ⟨im, Sub.fresh ib R, i.u 0 (fun _ => R)⟩)))
     ·rintro D e s356 ⟨im, ib, i⟩ hk hf ha
      have kn := K1 (ib 3 _ R)
      exact kn.g (L.mv Y R R (L.nil (X.dk kn ⟨im, Sub.fresh ib R, i.u 1 (fun _ => R)⟩)))
     ·rintro D e s357 ⟨im, ib, i⟩ hk hf ha
      have kn := K1 (ib 10 _ R)
      exact kn.g (L.mv Y R R (L.nil (X.dk kn ⟨im, Sub.fresh ib R, i.u 2 (fun _ => R)⟩)))
     ·rintro D e s358 ⟨im, ib, i⟩ hk hf ha
      have h262 := h262.mv im no_No no_No
      have kn := K2 ((i.p 1) (ha.at 1 R)) ((i.p 2) (ha.at 2 R))
      refine kn.g (L.ir (r := (rL qI)) sl34 h262 Y R R ex359 R fun b360 o360 cc360 me360 rd360 sp360 => ?_)
      obtain ⟨a361, c361, rfl, h361⟩ := rd360
      exact L.nil (X.dk kn ⟨im, Sub.fresh ib R, i.u 3 (fun _ => ⟨b360, o360, a361, c361, R, me360, h361, sp360⟩)⟩)
     ·rintro D e s362 ⟨im, ib, i⟩ hk hf ha
      obtain ⟨b360, o360, a361, c361, g3_, me360, h361, sp360⟩ := (i.p 3) (ha.at 3 R)
      have kn := K1 g3_
      refine kn.g (L.ld (j := 0) me360 nag22 Y R R R R ?_)
      obtain ⟨a363, c363, ea363, ec363, h363⟩ : ∃ a c, a = a361 ∧ c = c361 ∧ RdL qI s362 a c x359 := ⟨_, _, rfl, rfl, h361⟩
      subst ea363 ec363
      exact L.nil (X.dk kn ⟨im, Sub.fresh ib R, i.u 4 (fun _ => ⟨a363, c363, R, h363⟩)⟩)
     ·rintro D e s364 ⟨im, ib, i⟩ hk hf ha
      have kn := K1 (ib 12 _ R)
      exact kn.g (L.mv Y R R (L.nil (X.dk kn ⟨im, Sub.fresh ib R, i.u 5 (fun _ => R)⟩)))
     ·rintro D e s365 ⟨im, ib, i⟩ hk hf ha
      obtain ⟨a363, c363, g4_, h363⟩ := (i.p 4) (ha.at 4 R)
      have h18 := h18.mono im.z
      have h17 := h17.mono im.z
      have h19 := h19.mono im.z
      have kn := K3 ((i.p 0) (ha.at 0 R)) g4_ ((i.p 5) (ha.at 5 R))
      refine kn.g (L.ca cf81 R R Y R (m_product_machine_step_c (s := s365) (p0 := r14) (p1 := x359) (p2 := x353) (u0 := 0) h17 h18 h19 h363 er366) R ?_)
      rintro _ s367 m368 ⟨a369, c369, rfl, h369⟩
      replace h369 := h369.p
      exact L.nil (X.dk kn ⟨im.trans m368.no, Sub.fresh ib R, (((((i.u 3 (fun z => let ⟨b360, o360, a361, c361, q, me360, h361, sp360⟩ := (i.p 3) z; ⟨b360, o360, a361, c361, q, (me360.mv m368 no_No), (h361.mono m368.z), sp360⟩)).u 4 (fun z => let ⟨a363, c363, q, h363⟩ := (i.p 4) z; ⟨a363, c363, q, (h363.mono m368.z)⟩)).u 6 (fun _ => ⟨a369, c369, R, h369⟩)).u 7 (fun z => Bool.noConfusion ((hf 7 (nb R) R).symm.trans z))).u 8 (fun z => Bool.noConfusion ((hf 8 (nb R) R).symm.trans z))).u 10 (fun z => Bool.noConfusion ((hf 10 (nb R) R).symm.trans z))⟩)
     ·rintro D e s370 ⟨im, ib, i⟩ hk hf ha
      obtain ⟨a369, c369, g6_, h369⟩ := (i.p 6) (ha.at 6 R)
      have kn := K1 g6_
      exact kn.g (L.mv Y R R (L.nil (X.dk kn ⟨im, Sub.fresh ib R, i.u 7 (fun _ _ _ q6 => by cases g6_.symm.trans q6; exact R)⟩)))
     ·rintro D e s371 ⟨im, ib, i⟩ hk hf ha
      obtain ⟨a369, c369, g6_, h369⟩ := (i.p 6) (ha.at 6 R)
      have g7_ := (i.p 7) (ha.at 7 R) a369 c369 g6_
      have kn := K1 g7_
      exact kn.g (L.ex Y R R R (L.nil (X.dk kn ⟨im, Sub.fresh ib R, i.u 8 (fun _ _ _ q6 => by cases g6_.symm.trans q6; exact R)⟩)))
     ·rintro D e s372 ⟨im, ib, i⟩ hk hf ha
      obtain ⟨a369, c369, g6_, h369⟩ := (i.p 6) (ha.at 6 R)
      have g7_ := (i.p 7) (ha.at 7 R) a369 c369 g6_
      have kn := K1 g7_
      exact kn.g (L.ex Y R R R (L.nil (X.dk kn ⟨im, Sub.fresh ib R, i.u 9 (fun _ => R)⟩)))
     ·rintro D e s373 ⟨im, ib, i⟩ hk hf ha
      obtain ⟨a369, c369, g6_, h369⟩ := (i.p 6) (ha.at 6 R)
      have g8_ := (i.p 8) (ha.at 8 R) a369 c369 g6_
      have kn := K1 g8_
      exact kn.g (L.as Y R R (L.nil (X.dk kn ⟨im, Sub.fresh ib R, i.u 10 (fun _ _ _ q6 => by cases g6_.symm.trans q6; exact R)⟩)))
     rintro D e s374 ⟨im, ib, i⟩ hk hf ha
     have kn := K1 ((i.p 9) (ha.at 9 R))
     exact kn.g (L.as Y R R (L.nil (X.dk kn ⟨im, Sub.fresh ib R, i.u 11 (fun _ => R)⟩)))
    rintro D e s375 hD ⟨im, ib, i⟩
    obtain ⟨a369, c369, g6_, h369⟩ := (i.p 6) (hD 6 R)
    have g10_ := (i.p 10) (hD 10 R) a369 c369 g6_
    have g11_ := (i.p 11) (hD 11 R)
    have h18 := h18.mono im.z
    have h37 := h37.mv im no_No no_No
    have h262 := h262.mv im no_No no_No
    have bx20 := bx20.mv im no_No
    have h17 := h17.mono im.z
    have h19 := h19.mono im.z
    have bx6 := bx6.mv im no_No
    have h256 := h256.mv im no_No no_No
    have h264 := h264.mv im no_No no_No
    have m0 := m0.trans im.no
    refine X.sub (e' := [(14, .bool r366.2), (13, .slice a369 r366.1.length c369), (12, .int .i64 x353), (63, .int .i64 st333.1), (62, .int .i64 (r14.2.1.length : Int)), (61, .slice a18 r14.2.1.length c18), (10, .int .i64 st237.1), (9, .map y37), (3, .slice a262 st333.2.2.1.length c262), (6, .pointer (some ⟨b20, 0, none⟩)), (2, .pointer (some ⟨b6, 0, none⟩))]) ?_ (Sub.cons g11_ (Sub.cons g10_ (Sub.cons (ib 12 _ R) (Sub.cons (ib 63 _ R) (Sub.cons (ib 62 _ R) (Sub.cons (ib 61 _ R) (Sub.cons (ib 10 _ R) (Sub.cons (ib 9 _ R) (Sub.cons (ib 3 _ R) (Sub.cons (ib 6 _ R) (Sub.cons (ib 2 _ R) Sub.nil)))))))))))
    refine X.seqN (E.seq (ER (L.mv Y R R (L.not Y R R (L.nil (X.seqN ?_))))))
    rcases ifS hm with ⟨hc, hm⟩ | ⟨hc, hm⟩
    ·exact E.cT R hc (E.exit (X.seqX (X.blkE (X.sub (Jj352 _ _ ⟨s375, st333.2.1, st333.2.2.1, st333.2.2.2, a262, c262, a264, c264, hm, m0, h18, h37, h262, h256, h264, h17, h19, bx6, bx20, R, R⟩) (Sub.rf R)))))
    refine E.cF R hc (E.skip (X.seqN (ER (L.mv Y R R (L.mv Y R R ?_)))))
    obtain ⟨r376, er376, hm⟩ := bindS hm
    refine L.ca cf79 R R Y R (m_product_key_c (s := s375) (p0 := r366.1) h369 er376) R ?_
    rintro _ s377 m378 rfl
    replace m0 := m0.trans m378.no
    replace h262 := h262.mv m378 no_No no_No
    replace h37 := h37.mv m378 no_No no_No
    replace h369 := h369.mono m378.z
    replace h18 := h18.mono m378.z
    replace bx6 := bx6.mv m378 no_No
    replace h256 := h256.mv m378 no_No no_No
    replace h264 := h264.mv m378 no_No no_No
    replace bx20 := bx20.mv m378 no_No
    replace h17 := h17.mono m378.z
    replace h19 := h19.mono m378.z
    refine L.mi2 (k := r376) md143 h37.any Y R R R (L.mv Y R R (L.ex Y R R R (L.ex Y R R R (L.as Y R R (L.as Y R R (LN (E.seqJ (fun e w => ∃ (s383 : Sig) (l379 : List (List Int)) (n381 : Int) (l382 : List (ByteArray × Int)) (a380 : Option Addr) (c380 : Nat), m_product_Synchronous_j3 st237 st333 x353 l379 n381 l382 = some res333 ∧ Mv (Up N No) s s383 ∧ RowT (rL qI) s383 (N + 5) 22 a380 c380 l379 ∧ RdL qI s383 a18 c18 r14.2.1 ∧ MapO kvS qI s383 (N + 3) 0 y37 c37 l382 ∧ RowT qI s383 (N + 4) 3 a256 c256 l255 ∧ RowT qT s383 (N + 6) 97 a264 c264 st333.2.2.2 ∧ RdL (rP (rL qI) (rP qI (rP (rL qI) (rL qT)))) s383 a17 c17 r14.1 ∧ RdL (rM kvP qI) s383 a19 c19 r14.2.2 ∧ Bx s383 (N + 0) b6 #[.slice a18 r14.2.1.length c18, .int .i64 0, .slice a256 l255.length c256, .slice a264 st333.2.2.2.length c264] 25 ∧ Bx s383 (N + 1) b20 #[.slice a17 r14.1.length c17, .slice a18 r14.2.1.length c18, .slice a19 r14.2.2.length c19] 138 ∧ e = [(3, .slice a380 l379.length c380), (15, .int .i64 n381), (12, .int .i64 x353), (63, .int .i64 st333.1), (62, .int .i64 (r14.2.1.length : Int)), (61, .slice a18 r14.2.1.length c18), (10, .int .i64 st237.1), (9, .map y37), (6, .pointer (some ⟨b20, 0, none⟩)), (2, .pointer (some ⟨b6, 0, none⟩))] ∧ w = s383.w) ?_ ?_)))))))
    ·rintro _ _ ⟨s383, l379, n381, l382, a380, c380, hm, m0, h380, h18, h37, h256, h264, h17, h19, bx6, bx20, rfl, rfl⟩
     unfold m_product_Synchronous_j3 at hm
     refine E.reg (L.fa fa25_3 Y R R (L.ld (j := 3) bx6.mem nag23 Y R R R R (L.mv Y R R (L.mv Y R R (L.mv Y R R (L.bu (cs := [.int .i64 st237.1, .int .i64 x353, .int .i64 n381]) pl97 Y R R R (L.bsE (k := 1) (cs := [.int .i64 st237.1, .int .i64 x353, .int .i64 n381]) 0 bs23 (nb R) Y R R R R fun b385 s386 m387 bx385 => ?_)))))))
     replace h264 := h264.mv m387 no_No no_No
     have h385 := Bx.rdL (r := qT) (xs := ([(st237.1, x353, n381)] : List (Int × Int × Int))) bx385 ⟨[.int .i64 st237.1, .int .i64 x353, .int .i64 n381], _, R, ⟨[.int .i64 st237.1], [.int .i64 x353, .int .i64 n381], R, R, ⟨[.int .i64 x353], [.int .i64 n381], R, R, R⟩⟩, R⟩ (nb R)
     obtain ⟨x388, ex388, hm⟩ := bindS hm
     refine L.ap (r := qT) Tryz.underlying23 el97 R (tgp hN) h264 h385.wk Y R R ex388 R fun a389 c389 s390 m391 h389 => ?_
     replace bx6 := (bx6.mv m387 no_No).mv m391 (tq R)
     refine L.fa fa25_3 Y R R (L.st (c := [.slice a389 x388.length c389]) (cs' := #[.slice a18 r14.2.1.length c18, .int .i64 0, .slice a256 l255.length c256, .slice a389 x388.length c389]) bx6 nag23.sz Y R R R R R (nb R) R fun s392 m393 bx6 => ?_)
     replace m0 := ((m0.trans m387.no).trans (m391.one up)).trans (m393.one up)
     replace h380 := ((h380.mv m387 no_No no_No).mv m391 (tq R) (tg0 hN)).mv m393 (tq R) (tg0 hN)
     replace h37 := ((h37.mv m387 no_No no_No).mv m391 (tq R) (tg0 hN)).mv m393 (tq R) (tg0 hN)
     replace h18 := ((h18.mono m387.z).mono (m391.le (tg0 hN))).mono (m393.le (tg0 hN))
     replace h256 := ((h256.mv m387 no_No no_No).mv m391 (tq R) (tg0 hN)).mv m393 (tq R) (tg0 hN)
     replace h389 := h389.mv m393 (tq R) (tg0 hN)
     replace bx20 := ((bx20.mv m387 no_No).mv m391 (tq R)).mv m393 (tq R)
     replace h17 := ((h17.mono m387.z).mono (m391.le (tg0 hN))).mono (m393.le (tg0 hN))
     replace h19 := ((h19.mono m387.z).mono (m391.le (tg0 hN))).mono (m393.le (tg0 hN))
     exact L.nil (X.blkN (X.sub (Jj352 _ _ ⟨s392, l382, l379, x388, a380, c380, a389, c389, hm, m0, h18, h37, h380, h256, h389, h17, h19, bx6, bx20, R, R⟩) (Sub.rf R)))
    intro Jj384
    refine ER (L.mv Y R R (L.not Y R R (L.nil (X.seqN ?_))))
    rcases ifS hm with ⟨hc, hm⟩ | ⟨hc, hm⟩
    ·refine E.cT R hc (E.seq (ER (L.mv Y R R (L.len sl34 Y R R (L.bi Y R R R R (L.nil (X.seqN ?_)))))))
     rcases ifS hm with ⟨hc, hm⟩ | ⟨hc, hm⟩
     ·refine E.cT R hc (ER (L.bu (cs := [.slice none 0 0, .int .i64 0, .slice none 0 0, .slice none 0 0]) pl25 Y R R R (L.st (c := [.slice none 0 0, .int .i64 0, .slice none 0 0, .slice none 0 0]) (cs' := #[.slice none 0 0, .int .i64 0, .slice none 0 0, .slice none 0 0]) bx6 ag25.sz Y R R R R R (nb R) R fun s394 m395 bx6 => ?_)))
      replace m0 := m0.trans (m395.one up)
      refine L.as Y R R (L.as Y R R (LN (E.ret (X.seqR (X.seqR (X.blkR (X.seqR (X.seqR ?_))))))))
      have hx := ho333 _ (oi hm).symm
      exact X.sub (K345 _ _ ⟨s394, (), hx.symm, m0, bx6, R, R⟩) (Sub.rf R)
     refine E.cF R hc (E.skip (X.seqN (ER (L.mv Y R R (L.len sl34 Y R R (L.as Y R R (LN (ER (L.mv Y R R (L.mv Y R R ?_))))))))))
     obtain ⟨r396, er396, hm⟩ := bindS hm
     refine L.ca cf79 R R Y R (m_product_key_c (s := s377) (p0 := r366.1) h369 er396) R ?_
     rintro _ s397 m398 rfl
     replace h37 := h37.mv m398 no_No no_No
     refine L.mv Y R R (L.mu (k := r396) (v := (st333.2.2.1.length : Int)) md143 h37 R (tpos hN) (fun _ _ => eqS) Y R R R fun s399 m400 h37 => ?_)
     refine LN (E.reg (L.mv Y R R (L.mv Y R R (L.bsE (k := 1) (cs := [.slice a369 r366.1.length c369]) 0 bs34 (nb R) Y R R R R fun b401 s402 m403 bx401 => ?_))))
     replace h262 := ((h262.mv m398 no_No no_No).mv m400 (tq R) (tg0 hN)).mv m403 no_No no_No
     replace h369 := ((h369.mono m398.z).mono (m400.le (tg0 hN))).mono m403.z
     have h401 := Bx.rdL (r := (rL qI)) (xs := ([r366.1] : List (List Int))) bx401 ⟨[.slice a369 r366.1.length c369], _, R, ⟨_, _, R, h369⟩, R⟩ (nb R)
     obtain ⟨x404, ex404, hm⟩ := bindS hm
     refine L.ap (r := (rL qI)) Tryz.underlying34 el22 R (tgp hN) h262 h401.wk Y R R ex404 R fun a405 c405 s406 m407 h405 => ?_
     replace m0 := (((m0.trans m398.no).trans (m400.one up)).trans m403.no).trans (m407.one up)
     replace h37 := (h37.mv m403 no_No no_No).mv m407 (tq R) (tg0 hN)
     replace h18 := (((h18.mono m398.z).mono (m400.le (tg0 hN))).mono m403.z).mono (m407.le (tg0 hN))
     replace bx6 := (((bx6.mv m398 no_No).mv m400 (tq R)).mv m403 no_No).mv m407 (tq R)
     replace h256 := (((h256.mv m398 no_No no_No).mv m400 (tq R) (tg0 hN)).mv m403 no_No no_No).mv m407 (tq R) (tg0 hN)
     replace h264 := (((h264.mv m398 no_No no_No).mv m400 (tq R) (tg0 hN)).mv m403 no_No no_No).mv m407 (tq R) (tg0 hN)
     replace bx20 := (((bx20.mv m398 no_No).mv m400 (tq R)).mv m403 no_No).mv m407 (tq R)
     replace h17 := (((h17.mono m398.z).mono (m400.le (tg0 hN))).mono m403.z).mono (m407.le (tg0 hN))
     replace h19 := (((h19.mono m398.z).mono (m400.le (tg0 hN))).mono m403.z).mono (m407.le (tg0 hN))
     exact L.as Y R R (L.nil (X.sub (Jj384 _ _ ⟨s406, x404, (st333.2.2.1.length : Int), (kput st333.2.1 r396 (st333.2.2.1.length : Int)), a405, c405, hm, m0, h405, h18, h37, h256, h264, h17, h19, bx6, bx20, R, R⟩) (Sub.rf R)))
    exact E.cF R hc (E.skip (X.sub (Jj384 _ _ ⟨s377, st333.2.2.1, ((kget st333.2.1 r376).getD 0), st333.2.1, a262, c262, hm, m0, h262, h18, h37, h256, h264, h17, h19, bx6, bx20, R, R⟩) (Sub.rf R)))
   refine E.cF R hc (E.exit (X.seqX (X.seqX ?_)))
   have hx := ho333 _ (oi hm).symm
   exact X.sub (K342 _ _ ⟨s339, st333.2, a262, c262, a264, c264, hx.symm, m0, h37, h262, h18, h256, h264, h17, h19, bx6, bx20, R, R⟩) (Sub.rf R)
  intro Jj258
  refine E.seq ?_
  obtain ⟨x412, ex412, hm⟩ := bindS hm
  obtain ⟨r418, er418, hm⟩ := bindS hm
  refine E.draw [[], [], [], [1, 2], [1, 2, 3], [0, 1, 2, 3, 4]] (fun D e sx => Mv No s244 sx ∧ Sub [(10, .int .i64 st237.1), (9, .map y37), (3, .slice a48 st237.2.2.1.length c48), (6, .pointer (some ⟨b20, 0, none⟩)), (2, .pointer (some ⟨b6, 0, none⟩))] e ∧ AllP [G D e 0 48 (.agg #[.slice a17 r14.1.length c17, .slice a18 r14.2.1.length c18, .slice a19 r14.2.2.length c19]), G D e 1 49 (.slice a48 st237.2.2.1.length c48), G D e 2 50 (.int .i64 st237.1), D 3 = true → (∃ (b413 : Nat) (o413 : Nat) (a414 : Option Addr) (c414 : Nat), Env.get e 51 = some (.pointer (some ⟨b413, o413, none⟩)) ∧ Mem sx (N + 5) b413 o413 [.slice a414 x412.length c414] ∧ RdL qI sx a414 c414 x412 ∧ Spot a48 (rL qI).sz (st237.1).toNat b413 o413), D 4 = true → (∃ (a416 : Option Addr) (c416 : Nat), Env.get e 52 = some (.slice a416 x412.length c416) ∧ RdL qI sx a416 c416 x412), G D e 5 53 (.bool r418)]) (by kernel_rfl) (by kernel_rfl) (by kernel_rfl) ?_ ?_ ?_
  ·intro sz mz
   exact ⟨mz, (Sub.rf R), nofun, nofun, nofun, nofun, nofun, nofun, trivial⟩
  ·refine ⟨?_, ?_, ?_, ?_, ?_, ?_, trivial⟩
   ·rintro D e s408 ⟨im, ib, i⟩ hk hf ha
    have bx20 := bx20.mv im no_No
    have kn := K1 (ib 6 _ R)
    exact kn.g (L.lg (j := 0) (cs := [.slice a17 r14.1.length c17, .slice a18 r14.2.1.length c18, .slice a19 r14.2.2.length c19]) bx20.mem ag138 Y R R R R R (L.nil (X.dk kn ⟨im, Sub.fresh ib R, i.u 0 (fun _ => R)⟩)))
   ·rintro D e s409 ⟨im, ib, i⟩ hk hf ha
    have kn := K1 (ib 3 _ R)
    exact kn.g (L.mv Y R R (L.nil (X.dk kn ⟨im, Sub.fresh ib R, i.u 1 (fun _ => R)⟩)))
   ·rintro D e s410 ⟨im, ib, i⟩ hk hf ha
    have kn := K1 (ib 10 _ R)
    exact kn.g (L.mv Y R R (L.nil (X.dk kn ⟨im, Sub.fresh ib R, i.u 2 (fun _ => R)⟩)))
   ·rintro D e s411 ⟨im, ib, i⟩ hk hf ha
    have h48 := h48.mv im no_No no_No
    have kn := K2 ((i.p 1) (ha.at 1 R)) ((i.p 2) (ha.at 2 R))
    refine kn.g (L.ir (r := (rL qI)) sl34 h48 Y R R ex412 R fun b413 o413 cc413 me413 rd413 sp413 => ?_)
    obtain ⟨a414, c414, rfl, h414⟩ := rd413
    exact L.nil (X.dk kn ⟨im, Sub.fresh ib R, i.u 3 (fun _ => ⟨b413, o413, a414, c414, R, me413, h414, sp413⟩)⟩)
   ·rintro D e s415 ⟨im, ib, i⟩ hk hf ha
    obtain ⟨b413, o413, a414, c414, g3_, me413, h414, sp413⟩ := (i.p 3) (ha.at 3 R)
    have kn := K1 g3_
    refine kn.g (L.ld (j := 0) me413 nag22 Y R R R R ?_)
    obtain ⟨a416, c416, ea416, ec416, h416⟩ : ∃ a c, a = a414 ∧ c = c414 ∧ RdL qI s415 a c x412 := ⟨_, _, rfl, rfl, h414⟩
    subst ea416 ec416
    exact L.nil (X.dk kn ⟨im, Sub.fresh ib R, i.u 4 (fun _ => ⟨a416, c416, R, h416⟩)⟩)
   rintro D e s417 ⟨im, ib, i⟩ hk hf ha
   obtain ⟨a416, c416, g4_, h416⟩ := (i.p 4) (ha.at 4 R)
   have h17 := h17.mono im.z
   have h18 := h18.mono im.z
   have h19 := h19.mono im.z
   have kn := K2 ((i.p 0) (ha.at 0 R)) g4_
   refine kn.g (L.ca cf80 R R Y R (m_product_machine_marked_c (s := s417) (p0 := r14) (p1 := x412) h17 h18 h19 h416 er418) R ?_)
   rintro _ s419 m420 rfl
   exact L.nil (X.dk kn ⟨im.trans m420.no, Sub.fresh ib R, ((i.u 3 (fun z => let ⟨b413, o413, a414, c414, q, me413, h414, sp413⟩ := (i.p 3) z; ⟨b413, o413, a414, c414, q, (me413.mv m420 no_No), (h414.mono m420.z), sp413⟩)).u 4 (fun z => let ⟨a416, c416, q, h416⟩ := (i.p 4) z; ⟨a416, c416, q, (h416.mono m420.z)⟩)).u 5 (fun _ => R)⟩)
  rintro D e s421 hD ⟨im, ib, i⟩
  have g5_ := (i.p 5) (hD 5 R)
  have h37 := h37.mv im no_No no_No
  have h48 := h48.mv im no_No no_No
  have bx20 := bx20.mv im no_No
  have h17 := h17.mono im.z
  have h18 := h18.mono im.z
  have h19 := h19.mono im.z
  have bx6 := bx6.mv im no_No
  have h50 := h50.mv im no_No no_No
  have h52 := h52.mv im no_No no_No
  have m0 := m0.trans im.no
  refine X.sub (e' := [(53, .bool r418), (10, .int .i64 st237.1), (9, .map y37), (3, .slice a48 st237.2.2.1.length c48), (6, .pointer (some ⟨b20, 0, none⟩)), (2, .pointer (some ⟨b6, 0, none⟩))]) ?_ (Sub.cons g5_ (Sub.cons (ib 10 _ R) (Sub.cons (ib 9 _ R) (Sub.cons (ib 3 _ R) (Sub.cons (ib 6 _ R) (Sub.cons (ib 2 _ R) Sub.nil))))))
  refine X.seqN ?_
  rcases ifS hm with ⟨hc, hm⟩ | ⟨hc, hm⟩
  ·refine E.cT R hc (E.reg (L.fa fa25_2 Y R R (L.ld (j := 2) bx6.mem nag22 Y R R R R (L.mv Y R R (L.bsE (k := 1) (cs := [.int .i64 st237.1]) 0 bs22 (nb R) Y R R R R fun b422 s423 m424 bx422 => ?_)))))
   replace h50 := h50.mv m424 no_No no_No
   have h422 := Bx.rdL (r := qI) (xs := ([st237.1] : List Int)) bx422 ⟨[.int .i64 st237.1], _, R, R, R⟩ (nb R)
   obtain ⟨x425, ex425, hm⟩ := bindS hm
   refine L.ap (r := qI) Tryz.underlying22 el3 R (tgp hN) h50 h422.wk Y R R ex425 R fun a426 c426 s427 m428 h426 => ?_
   replace bx6 := (bx6.mv m424 no_No).mv m428 (tq R)
   refine L.fa fa25_2 Y R R (L.st (c := [.slice a426 x425.length c426]) (cs' := #[.slice a18 r14.2.1.length c18, .int .i64 0, .slice a426 x425.length c426, .slice a52 st237.2.2.2.2.length c52]) bx6 nag22.sz Y R R R R R (nb R) R fun s429 m430 bx6 => ?_)
   replace m0 := ((m0.trans m424.no).trans (m428.one up)).trans (m430.one up)
   replace h48 := ((h48.mv m424 no_No no_No).mv m428 (tq R) (tg0 hN)).mv m430 (tq R) (tg0 hN)
   replace h37 := ((h37.mv m424 no_No no_No).mv m428 (tq R) (tg0 hN)).mv m430 (tq R) (tg0 hN)
   replace h18 := ((h18.mono m424.z).mono (m428.le (tg0 hN))).mono (m430.le (tg0 hN))
   replace h426 := h426.mv m430 (tq R) (tg0 hN)
   replace h52 := ((h52.mv m424 no_No no_No).mv m428 (tq R) (tg0 hN)).mv m430 (tq R) (tg0 hN)
   replace bx20 := ((bx20.mv m424 no_No).mv m428 (tq R)).mv m430 (tq R)
   replace h17 := ((h17.mono m424.z).mono (m428.le (tg0 hN))).mono (m430.le (tg0 hN))
   replace h19 := ((h19.mono m424.z).mono (m428.le (tg0 hN))).mono (m430.le (tg0 hN))
   exact L.nil (X.sub (Jj258 _ _ ⟨s429, x425, a426, c426, hm, m0, h37, h48, h18, h426, h52, h17, h19, bx6, bx20, R, R⟩) (Sub.rf R))
  exact E.cF R hc (E.skip (X.sub (Jj258 _ _ ⟨s421, st237.2.2.2.1, a50, c50, hm, m0, h37, h48, h18, h50, h52, h17, h19, bx6, bx20, R, R⟩) (Sub.rf R)))
 refine E.cF R hc (E.exit (X.seqX (X.seqX ?_)))
 have hx := ho237 _ (oi hm).symm
 exact X.sub (K251 _ _ ⟨s244, st237.2.2, a48, c48, a50, c50, a52, c52, hx.symm, m0, h48, h18, h50, h52, bx6, R, R⟩) (Sub.rf R)

noncomputable def m_alphabet_Intersect_1 (p0 : Bool) (p1 : Bool) : Option Bool :=
 some (p0 && p1)
theorem m_alphabet_Intersect_1_c {s : Sig} {p0 : Bool} {p1 : Bool} {r : Bool} (hm : m_alphabet_Intersect_1 p0 p1 = some r) :
    Calls Tryz.prog 145 #[.bool p0, .bool p1] s.w (RetS No s fun v s' => v = .bool r) := by
 unfold m_alphabet_Intersect_1 at hm
 obtain ⟨N, hN, hNb⟩ := s.fresh
 have m0 : Mv (Up N No) s s := Mv.refl _ _
 refine E.entry Tryz.func145 R Tryz.ntmps145 R R (ER (L.as Y R R (LN (ER (L.mv Y R R (L.mv Y R R (L.cut 2 (fun e w => ∃ (v1 : Bool), (p0 && p1) = v1 ∧ e = (8, .bool v1) :: [] ∧ w = s.w) ?_ ?_)))))))
 ·rintro _ _ ⟨v1, rfl, rfl, rfl⟩
  refine L.as Y R R (LN (E.ret ?_))
  obtain rfl := oi hm
  exact X.rt (.inl R) Tryz.results145 (Rs.tmp R Rs.nil) R ⟨_, (s).ren N (fun _ => 0), R, R, m0.ren hNb, R⟩
 intro J2
 rcases Bool.eq_false_or_eq_true p0 with hc | hc
 ·exact L.know (d := 6) R hc (L.mv (Wt.mk R R) R R (L.pkT Y R R R R (L.sb (J2 _ _ ⟨p1, (andT hc).symm, R, R⟩) R)))
 exact L.know (d := 6) R hc (L.skip R R R R (L.pkF Y R R R R (L.sb (J2 _ _ ⟨false, (andF hc).symm, R, R⟩) R)))

theorem cf145 : Cf Tryz.prog 145 := Cf.mk Tryz.func145 (by kernel_rfl) (by kernel_rfl)
theorem fv145 {s : Sig} : FV2 Tryz.prog s (.func (.func 145) #[] #[]) (fun (x0 : Bool) (x1 : Bool) => [.bool x0, .bool x1]) (fun r => .bool r) m_alphabet_Intersect_1 := ⟨145, #[], #[], rfl, cf145, fun x0 x1 r hm s' hl => by have hh := m_alphabet_Intersect_1_c (s := s') hm; simpa using hh⟩
noncomputable def m_alphabet_Intersect (p0 : List Int) (p1 : List Int) : Option (List Int) :=
 (m_alphabet_merge p0 p1 m_alphabet_Intersect_1).bind fun r4 =>
 some r4
theorem m_alphabet_Intersect_c {s : Sig} {p0 : List Int} {p1 : List Int} {a1 : Option Addr} {c1 : Nat} {a2 : Option Addr} {c2 : Nat} {u0 : Nat} {r : List Int} (h1 : RdL qI s a1 c1 p0) (h2 : RdL qI s a2 c2 p1) (hm : m_alphabet_Intersect p0 p1 = some r) :
    Calls Tryz.prog 104 #[.slice a1 p0.length c1, .slice a2 p1.length c2] s.w (RetS No s fun v s' => ∃ (a3 : Option Addr) (c3 : Nat), v = .slice a3 r.length c3 ∧ RowT qI s' u0 3 a3 c3 r) := by
 unfold m_alphabet_Intersect at hm
 obtain ⟨N, hN, hNb⟩ := s.fresh
 have m0 : Mv (Up N No) s s := Mv.refl _ _
 refine E.entry Tryz.func104 R Tryz.ntmps104 R R (ER (L.as Y R R (LN (ER (L.mv Y R R (L.mv Y R R ?_))))))
 obtain ⟨r4, er4, hm⟩ := bindS hm
 refine L.ca cf72 R R Y R (m_alphabet_merge_c (s := s) (p0 := p0) (p1 := p1) (p2 := m_alphabet_Intersect_1) (u0 := (N + 0)) h1 h2 fv145 er4) R ?_
 rintro _ s5 m6 ⟨a7, c7, rfl, h7⟩
 replace m0 := m0.trans m6.no
 refine L.as Y R R (LN (E.ret ?_))
 obtain rfl := oi hm
 exact X.rt (.inl R) Tryz.results104 (Rs.tmp R Rs.nil) R ⟨_, (s5).ren N (fun k => cond (Nat.beq k 0) u0 (0)), R, R, m0.ren hNb, ⟨a7, c7, R, (h7.ren hN)⟩⟩

theorem ag108 : Ag Tryz.prog 108 5 := Ag.mk' Tryz.underlying108 rfl (by kernel_rfl)
theorem fa108_1 : FA Tryz.prog 108 1 4 := FA.mk Tryz.underlying108 rfl rfl ⟨1, by decide, by kernel_rfl⟩
theorem pl108 : Pl Tryz.prog 108 [(0, 4), (4, 1)] [.slice none 0 0, .int .i64 0, .slice none 0 0, .slice none 0 0, .map none] := Pl.str Tryz.underlying108 (by kernel_rfl) (by kernel_rfl)
theorem zz108 : (Tryz.prog.info? 108).bind (·.zero) = some (.agg #[.slice none 0 0, .int .i64 0, .slice none 0 0, .slice none 0 0, .map none]) := by kernel_rfl
noncomputable def m_scan_index_l1 (p0 : AutT) (st35 : Int × (List ((Int × Int) × Int))) : Option ((Int × (List ((Int × Int) × Int))) ⊕ (List ((Int × Int) × Int))) :=
 if decide (st35.1 < (p0.2.2.2.length : Int)) then
  (idx p0.2.2.2 st35.1).bind fun x42 =>
  some (.inl (W (st35.1 + 1), (kput st35.2 (x42.1, x42.2.1) x42.2.2)))
 else
  some (.inr st35.2)
noncomputable def m_scan_index (p0 : AutT) : Option (AutT × (List ((Int × Int) × Int))) :=
 (iter (m_scan_index_l1 p0) (0, ([] : List ((Int × Int) × Int)))).bind fun o35 =>
 some (p0, o35)
theorem m_scan_index_c {s : Sig} {p0 : AutT} {a1 : Option Addr} {c1 : Nat} {a2 : Option Addr} {c2 : Nat} {a3 : Option Addr} {c3 : Nat} {r : (AutT × (List ((Int × Int) × Int)))} (h1 : RdL qI s a1 c1 p0.1) (h2 : RdL qI s a2 c2 p0.2.2.1) (h3 : RdL qT s a3 c3 p0.2.2.2) (hm : m_scan_index p0 = some r) :
    Calls Tryz.prog 105 #[.agg #[.slice a1 p0.1.length c1, .int .i64 p0.2.1, .slice a2 p0.2.2.1.length c2, .slice a3 p0.2.2.2.length c3]] s.w (RetS No s fun v s' => ∃ (a4 : Option Addr) (c4 : Nat) (a5 : Option Addr) (c5 : Nat) (a6 : Option Addr) (c6 : Nat) (y7 : Option Nat) (c7 : Nat), v = .agg #[.slice a4 r.1.1.length c4, .int .i64 r.1.2.1, .slice a5 r.1.2.2.1.length c5, .slice a6 r.1.2.2.2.length c6, .map y7] ∧ RdL qI s' a4 c4 r.1.1 ∧ RdL qI s' a5 c5 r.1.2.2.1 ∧ RdL qT s' a6 c6 r.1.2.2.2 ∧ MapD kvP qI s' y7 c7 r.2) := by
 unfold m_scan_index at hm
 obtain ⟨N, hN, hNb⟩ := s.fresh
 have m0 : Mv (Up N No) s s := Mv.refl _ _
 refine E.entry Tryz.func105 R Tryz.ntmps105 R R (ER (L.box (N + 0) Y R R R fun b8 s9 m10 bx8 => ?_))
 refine L.al (N + 1) zz108 R Y R fun b11 s12 m13 bx11 => ?_
 replace bx8 := bx8.mv m13 no_No
 refine LN (ER (L.lg (j := 0) (cs := [.slice a1 p0.1.length c1, .int .i64 p0.2.1, .slice a2 p0.2.2.1.length c2, .slice a3 p0.2.2.2.length c3]) bx8.mem ag25 Y R R R R R (L.mk2 (kv := kvP) (r := qI) (T := 106) (N + 2) R Y fun y14 c14 s15 m16 h14 => ?_)))
 refine L.bu (cs := [.slice a1 p0.1.length c1, .int .i64 p0.2.1, .slice a2 p0.2.2.1.length c2, .slice a3 p0.2.2.2.length c3, .map y14]) pl108 Y R R R (L.al (N + 3) zz108 R Y R fun b17 s18 m19 bx17 => ?_)
 refine L.st (c := [.slice a1 p0.1.length c1, .int .i64 p0.2.1, .slice a2 p0.2.2.1.length c2, .slice a3 p0.2.2.2.length c3, .map y14]) (cs' := #[.slice a1 p0.1.length c1, .int .i64 p0.2.1, .slice a2 p0.2.2.1.length c2, .slice a3 p0.2.2.2.length c3, .map y14]) bx17 ag108.sz Y R R R R R (nb R) R fun s20 m21 bx17 => ?_
 replace m0 := ((((m0.trans m10.no).trans m13.no).trans m16.no).trans m19.no).trans (m21.one up)
 replace bx8 := ((bx8.mv m16 no_No).mv m19 no_No).mv m21 (tq R)
 replace h1 := ((((h1.mono m10.z).mono m13.z).mono m16.z).mono m19.z).mono (m21.le (tg0 hN))
 replace h2 := ((((h2.mono m10.z).mono m13.z).mono m16.z).mono m19.z).mono (m21.le (tg0 hN))
 replace h3 := ((((h3.mono m10.z).mono m13.z).mono m16.z).mono m19.z).mono (m21.le (tg0 hN))
 replace bx11 := ((bx11.mv m16 no_No).mv m19 no_No).mv m21 (tq R)
 replace h14 := ((h14.as (T' := 0) (Le.refl _) R (fun _ e => e)).mv m19 no_No no_No).mv m21 (tq R) (tg0 hN)
 refine LN (E.seq (ER (L.fa fa25_3 Y R R (L.ld (j := 3) bx8.mem nag23 Y R R R R (L.len sl23 Y R R (L.mv Y R R (LN (E.block ?_))))))))
 obtain ⟨o35, eo35, hm⟩ := bindS hm
 refine E.cut (x := .exit 0) (fun e w => ∃ (s38 : Sig), Mv (Up N No) s s38 ∧ RdL qI s38 a1 c1 p0.1 ∧ RdL qI s38 a2 c2 p0.2.2.1 ∧ RdL qT s38 a3 c3 p0.2.2.2 ∧ MapO kvP qI s38 (N + 2) 0 y14 c14 o35 ∧ Bx s38 (N + 1) b11 #[.slice none 0 0, .int .i64 0, .slice none 0 0, .slice none 0 0, .map none] 108 ∧ Bx s38 (N + 3) b17 #[.slice a1 p0.1.length c1, .int .i64 p0.2.1, .slice a2 p0.2.2.1.length c2, .slice a3 p0.2.2.2.length c3, .map y14] 108 ∧ e = [(3, .pointer (some ⟨b17, 0, none⟩)), (2, .pointer (some ⟨b11, 0, none⟩))] ∧ w = s38.w) ?_ ?_
 ·rintro _ _ ⟨s38, m0, h1, h2, h3, h14, bx11, bx17, rfl, rfl⟩
  refine X.blkE (X.seqN (ER (L.lg (j := 0) (cs := [.slice a1 p0.1.length c1, .int .i64 p0.2.1, .slice a2 p0.2.2.1.length c2, .slice a3 p0.2.2.2.length c3, .map y14]) bx17.mem ag108 Y R R R R R (L.st (c := [.slice a1 p0.1.length c1, .int .i64 p0.2.1, .slice a2 p0.2.2.1.length c2, .slice a3 p0.2.2.2.length c3, .map y14]) (cs' := #[.slice a1 p0.1.length c1, .int .i64 p0.2.1, .slice a2 p0.2.2.1.length c2, .slice a3 p0.2.2.2.length c3, .map y14]) bx11 ag108.sz Y R R R R R (nb R) R fun s39 m40 bx11 => ?_))))
  replace m0 := m0.trans (m40.one up)
  replace h1 := h1.mono (m40.le (tg0 hN))
  replace h2 := h2.mono (m40.le (tg0 hN))
  replace h3 := h3.mono (m40.le (tg0 hN))
  replace h14 := h14.mv m40 (tq R) (tg0 hN)
  refine LN (E.ret ?_)
  obtain rfl := oi hm
  exact X.rt (.inl R) Tryz.results105 (Rs.cell R bx11 ag108 R Rs.nil) R ⟨_, (s39).ren N (fun _ => 0), R, R, m0.ren hNb, ⟨a1, c1, a2, c2, a3, c3, y14, c14, R, (h1.ren hN), (h2.ren hN), (h3.ren hN), (MapO.p (h14.ren hN))⟩⟩
 intro K41
 refine E.iter (fun (st35 : Int × (List ((Int × Int) × Int))) (e : List (Nat × Value)) (w : World) => ∃ (s37 : Sig), Mv (Up N No) s s37 ∧ RdL qT s37 a3 c3 p0.2.2.2 ∧ RdL qI s37 a1 c1 p0.1 ∧ RdL qI s37 a2 c2 p0.2.2.1 ∧ MapO kvP qI s37 (N + 2) 0 y14 c14 st35.2 ∧ Bx s37 (N + 1) b11 #[.slice none 0 0, .int .i64 0, .slice none 0 0, .slice none 0 0, .map none] 108 ∧ Bx s37 (N + 3) b17 #[.slice a1 p0.1.length c1, .int .i64 p0.2.1, .slice a2 p0.2.2.1.length c2, .slice a3 p0.2.2.2.length c3, .map y14] 108 ∧ e = [(12, .int .i64 st35.1), (11, .int .i64 (p0.2.2.2.length : Int)), (10, .slice a3 p0.2.2.2.length c3), (3, .pointer (some ⟨b17, 0, none⟩)), (2, .pointer (some ⟨b11, 0, none⟩))] ∧ w = s37.w) eo35 ⟨s20, m0, h3, h1, h2, h14, bx11, bx17, R, R⟩ (Sub.rf R) ?_
 rintro st35 res35 hm ih35 ho35 _ _ ⟨s37, m0, h3, h1, h2, h14, bx11, bx17, rfl, rfl⟩
 unfold m_scan_index_l1 at hm
 refine ER (L.bi Y R R R R (LN (E.seq ?_)))
 rcases ifS hm with ⟨hc, hm⟩ | ⟨hc, hm⟩
 ·refine E.cT R hc (E.skip (X.seqN (E.seq (E.block (E.seq (E.reg ?_))))))
  obtain ⟨x42, ex42, hm⟩ := bindS hm
  refine L.ix (r := qT) sl23 h3 Y R R ex42 R fun b43 o43 cc43 me43 rd43 => ?_
  obtain ⟨_, _, rfl, rfl, ⟨_, _, rfl, rfl, rfl⟩⟩ := rd43
  refine L.lg (j := 0) (cs := [.int .i64 x42.1, .int .i64 x42.2.1, .int .i64 x42.2.2]) me43 ag97 Y R R R R R (L.al (N + 4) zz97 R Y R fun b44 s45 m46 bx44 => ?_)
  refine L.st (c := [.int .i64 x42.1, .int .i64 x42.2.1, .int .i64 x42.2.2]) (cs' := #[.int .i64 x42.1, .int .i64 x42.2.1, .int .i64 x42.2.2]) bx44 ag97.sz Y R R R R R (nb R) R fun s47 m48 bx44 => ?_
  replace bx17 := (bx17.mv m46 no_No).mv m48 (tq R)
  replace h14 := (h14.mv m46 no_No no_No).mv m48 (tq R) (tg0 hN)
  refine LN (E.reg (L.fa fa108_1 Y R R (L.ld (j := 4) bx17.mem nag106 Y R R R R (L.fa fa97_0 Y R R (L.ld (j := 0) bx44.mem nag3 Y R R R R (L.fa fa97_1 Y R R (L.ld (j := 1) bx44.mem nag3 Y R R R R (L.bu (cs := [.int .i64 x42.1, .int .i64 x42.2.1]) pl190 Y R R R (L.fa fa97_2 Y R R (L.ld (j := 2) bx44.mem nag3 Y R R R R (L.mu (k := (x42.1, x42.2.1)) (v := x42.2.2) md106 h14 R (tpos hN) (fun _ _ => eqP) Y R R R fun s49 m50 h14 => ?_)))))))))))
  replace m0 := ((m0.trans m46.no).trans (m48.one up)).trans (m50.one up)
  replace h3 := ((h3.mono m46.z).mono (m48.le (tg0 hN))).mono (m50.le (tg0 hN))
  replace bx11 := ((bx11.mv m46 no_No).mv m48 (tq R)).mv m50 (tq R)
  replace bx17 := bx17.mv m50 (tq R)
  replace h1 := ((h1.mono m46.z).mono (m48.le (tg0 hN))).mono (m50.le (tg0 hN))
  replace h2 := ((h2.mono m46.z).mono (m48.le (tg0 hN))).mono (m50.le (tg0 hN))
  exact L.nil (X.blkN (X.seqN (E.reg (L.bi Y R R R R (L.mv Y R R (L.nil (X.sub (ih35 _ (oi hm).symm _ _ ⟨s49, m0, h3, h1, h2, h14, bx11, bx17, R, R⟩) (Sub.rf R))))))))
 refine E.cF R hc (E.exit (X.seqX (X.seqX ?_)))
 have hx := ho35 _ (oi hm).symm
 subst hx
 exact X.sub (K41 _ _ ⟨s37, m0, h1, h2, h3, h14, bx11, bx17, R, R⟩) (Sub.rf R)

theorem bs73 : Bs Tryz.prog 73 25 4 [.slice none 0 0, .int .i64 0, .slice none 0 0, .slice none 0 0] := Bs.mk' Tryz.underlying73 (by kernel_rfl) (by kernel_rfl) rfl
theorem cf104 : Cf Tryz.prog 104 := Cf.mk Tryz.func104 (by kernel_rfl) (by kernel_rfl)
theorem cf105 : Cf Tryz.prog 105 := Cf.mk Tryz.func105 (by kernel_rfl) (by kernel_rfl)
theorem cf29 : Cf Tryz.prog 29 := Cf.mk Tryz.func29 (by kernel_rfl) (by kernel_rfl)
theorem cf30 : Cf Tryz.prog 30 := Cf.mk Tryz.func30 (by kernel_rfl) (by kernel_rfl)
theorem cf34 : Cf Tryz.prog 34 := Cf.mk Tryz.func34 (by kernel_rfl) (by kernel_rfl)
theorem fa27_0 : FA Tryz.prog 27 0 0 := FA.mk Tryz.underlying27 rfl rfl ⟨4, by decide, by kernel_rfl⟩
theorem fa27_1 : FA Tryz.prog 27 1 4 := FA.mk Tryz.underlying27 rfl rfl ⟨4, by decide, by kernel_rfl⟩
theorem fa27_2 : FA Tryz.prog 27 2 8 := FA.mk Tryz.underlying27 rfl rfl ⟨1, by decide, by kernel_rfl⟩
theorem pl110 : Pl Tryz.prog 110 [(0, 5), (5, 5), (10, 5), (15, 1), (16, 1), (17, 1)] [.slice none 0 0, .int .i64 0, .slice none 0 0, .slice none 0 0, .map none, .slice none 0 0, .int .i64 0, .slice none 0 0, .slice none 0 0, .map none, .slice none 0 0, .int .i64 0, .slice none 0 0, .slice none 0 0, .map none, .slice none 0 0, .slice none 0 0, .slice none 0 0] := Pl.str Tryz.underlying110 (by kernel_rfl) (by kernel_rfl)
noncomputable def m_scan_open_l1 (p0 : AutT × AutT × List Int) (st30 : Int) : Option (Int ⊕ (Unit ⊕ Int)) :=
 if decide (st30 < (([p0.1, p0.2.1] : List AutT).length : Int)) then
  (idx ([p0.1, p0.2.1] : List AutT) st30).bind fun x113 =>
  (m_automaton_Check x113).bind fun r123 =>
  if (r123 != 0) then
   some (.inr (.inr (r123)))
  else
   some (.inl (W (st30 + 1)))
 else
  some (.inr (.inl ()))
noncomputable def m_scan_open (p0 : AutT × AutT × List Int) : Option ((Option ((AutT × (List ((Int × Int) × Int))) × (AutT × (List ((Int × Int) × Int))) × (AutT × (List ((Int × Int) × Int))) × List (List Int) × List Int × List Int)) × Int) :=
 (iter (m_scan_open_l1 p0) 0).bind fun o30 =>
 match o30 with
 | .inl u33 =>
  (m_alphabet_Subset p0.2.1.1 p0.1.1).bind fun r35 =>
  if (!r35) then
   some (none, 9)
  else
   (m_alphabet_CheckSet p0.2.2 32).bind fun r38 =>
   if (r38 != 0) then
    some (none, r38)
   else
    (m_product_Synchronous ([p0.1, p0.2.1] : List AutT)).bind fun r44 =>
    if (r44.2.2 != 0) then
     some (none, r44.2.2)
    else
     (m_alphabet_Intersect p0.1.1 p0.2.2).bind fun r56 =>
     (m_scan_index p0.1).bind fun r63 =>
     (m_scan_index p0.2.1).bind fun r73 =>
     (m_scan_index r44.1).bind fun r82 =>
     (m_alphabet_Minus p0.1.1 r56).bind fun r96 =>
     some ((some (r63, r73, r82, r44.2.1, r56, r96)), 0)
 | .inr (u110) =>
  some (none, u110)
theorem m_scan_open_c {s : Sig} {p0 : AutT × AutT × List Int} {a1 : Option Addr} {c1 : Nat} {a2 : Option Addr} {c2 : Nat} {a3 : Option Addr} {c3 : Nat} {a4 : Option Addr} {c4 : Nat} {a5 : Option Addr} {c5 : Nat} {a6 : Option Addr} {c6 : Nat} {a7 : Option Addr} {c7 : Nat} {r : (Option ((AutT × (List ((Int × Int) × Int))) × (AutT × (List ((Int × Int) × Int))) × (AutT × (List ((Int × Int) × Int))) × List (List Int) × List Int × List Int)) × Int} (h1 : RdL qI s a1 c1 p0.1.1) (h2 : RdL qI s a2 c2 p0.1.2.2.1) (h3 : RdL qT s a3 c3 p0.1.2.2.2) (h4 : RdL qI s a4 c4 p0.2.1.1) (h5 : RdL qI s a5 c5 p0.2.1.2.2.1) (h6 : RdL qT s a6 c6 p0.2.1.2.2.2) (h7 : RdL qI s a7 c7 p0.2.2) (hm : m_scan_open p0 = some r) :
    Calls Tryz.prog 52 #[.agg #[.slice a1 p0.1.1.length c1, .int .i64 p0.1.2.1, .slice a2 p0.1.2.2.1.length c2, .slice a3 p0.1.2.2.2.length c3, .slice a4 p0.2.1.1.length c4, .int .i64 p0.2.1.2.1, .slice a5 p0.2.1.2.2.1.length c5, .slice a6 p0.2.1.2.2.2.length c6, .slice a7 p0.2.2.length c7]] s.w (RetS No s fun v s' => ∃ (v8 : Value), v = .tuple #[v8, .int .i64 r.2] ∧ PtO (rP (rP (rP (rL qI) (rP qI (rP (rL qI) (rL qT)))) (rM kvP qI)) (rP (rP (rP (rL qI) (rP qI (rP (rL qI) (rL qT)))) (rM kvP qI)) (rP (rP (rP (rL qI) (rP qI (rP (rL qI) (rL qT)))) (rM kvP qI)) (rP (rL (rL qI)) (rP (rL qI) (rL qI)))))) 110 s' v8 r.1) := by
 unfold m_scan_open at hm
 obtain ⟨N, hN, hNb⟩ := s.fresh
 have m0 : Mv (Up N No) s s := Mv.refl _ _
 refine E.entry Tryz.func52 R Tryz.ntmps52 R R (ER (L.box (N + 0) Y R R R fun b9 s10 m11 bx9 => ?_))
 refine L.as Y R R (L.as Y R R (LN (E.seq (ER (L.fa fa27_0 Y R R (L.lg (j := 0) (cs := [.slice a1 p0.1.1.length c1, .int .i64 p0.1.2.1, .slice a2 p0.1.2.2.1.length c2, .slice a3 p0.1.2.2.2.length c3]) bx9.mem ag25 Y R R R R R (L.fa fa27_1 Y R R (L.lg (j := 4) (cs := [.slice a4 p0.2.1.1.length c4, .int .i64 p0.2.1.2.1, .slice a5 p0.2.1.2.2.1.length c5, .slice a6 p0.2.1.2.2.2.length c6]) bx9.mem ag25 Y R R R R R (L.bsE (k := 2) (cs := [.slice a1 p0.1.1.length c1, .int .i64 p0.1.2.1, .slice a2 p0.1.2.2.1.length c2, .slice a3 p0.1.2.2.2.length c3, .slice a4 p0.2.1.1.length c4, .int .i64 p0.2.1.2.1, .slice a5 p0.2.1.2.2.1.length c5, .slice a6 p0.2.1.2.2.2.length c6]) 0 bs73 (nb R) Y R R R R fun b12 s13 m14 bx12 => ?_)))))))))
 replace m0 := (m0.trans m11.no).trans m14.no
 replace bx9 := bx9.mv m14 no_No
 replace h1 := (h1.mono m11.z).mono m14.z
 replace h2 := (h2.mono m11.z).mono m14.z
 replace h3 := (h3.mono m11.z).mono m14.z
 replace h4 := (h4.mono m11.z).mono m14.z
 replace h5 := (h5.mono m11.z).mono m14.z
 replace h6 := (h6.mono m11.z).mono m14.z
 replace h7 := (h7.mono m11.z).mono m14.z
 have h12 := Bx.rdL (r := (rP (rL qI) (rP qI (rP (rL qI) (rL qT))))) (xs := ([p0.1, p0.2.1] : List AutT)) bx12 ⟨[.slice a1 p0.1.1.length c1, .int .i64 p0.1.2.1, .slice a2 p0.1.2.2.1.length c2, .slice a3 p0.1.2.2.2.length c3], _, R, ⟨[.slice a1 p0.1.1.length c1], [.int .i64 p0.1.2.1, .slice a2 p0.1.2.2.1.length c2, .slice a3 p0.1.2.2.2.length c3], R, ⟨_, _, R, h1⟩, ⟨[.int .i64 p0.1.2.1], [.slice a2 p0.1.2.2.1.length c2, .slice a3 p0.1.2.2.2.length c3], R, R, ⟨[.slice a2 p0.1.2.2.1.length c2], [.slice a3 p0.1.2.2.2.length c3], R, ⟨_, _, R, h2⟩, ⟨_, _, R, h3⟩⟩⟩⟩, ⟨[.slice a4 p0.2.1.1.length c4, .int .i64 p0.2.1.2.1, .slice a5 p0.2.1.2.2.1.length c5, .slice a6 p0.2.1.2.2.2.length c6], _, R, ⟨[.slice a4 p0.2.1.1.length c4], [.int .i64 p0.2.1.2.1, .slice a5 p0.2.1.2.2.1.length c5, .slice a6 p0.2.1.2.2.2.length c6], R, ⟨_, _, R, h4⟩, ⟨[.int .i64 p0.2.1.2.1], [.slice a5 p0.2.1.2.2.1.length c5, .slice a6 p0.2.1.2.2.2.length c6], R, R, ⟨[.slice a5 p0.2.1.2.2.1.length c5], [.slice a6 p0.2.1.2.2.2.length c6], R, ⟨_, _, R, h5⟩, ⟨_, _, R, h6⟩⟩⟩⟩, R⟩⟩ (nb R)
 refine L.len sl73 Y R R (L.mv Y R R (LN (E.block ?_)))
 obtain ⟨o30, eo30, hm⟩ := bindS hm
 refine E.cut (x := .exit 0) (fun e w => ∃ (s34 : Sig) (u33 : Unit), o30 = .inl u33 ∧ Mv (Up N No) s s34 ∧ RdL qI s34 a1 c1 p0.1.1 ∧ RdL qI s34 a2 c2 p0.1.2.2.1 ∧ RdL qT s34 a3 c3 p0.1.2.2.2 ∧ RdL qI s34 a4 c4 p0.2.1.1 ∧ RdL qI s34 a5 c5 p0.2.1.2.2.1 ∧ RdL qT s34 a6 c6 p0.2.1.2.2.2 ∧ RdL qI s34 a7 c7 p0.2.2 ∧ Bx s34 (N + 0) b9 #[.slice a1 p0.1.1.length c1, .int .i64 p0.1.2.1, .slice a2 p0.1.2.2.1.length c2, .slice a3 p0.1.2.2.2.length c3, .slice a4 p0.2.1.1.length c4, .int .i64 p0.2.1.2.1, .slice a5 p0.2.1.2.2.1.length c5, .slice a6 p0.2.1.2.2.2.length c6, .slice a7 p0.2.2.length c7] 27 ∧ e = [(1, .pointer (some ⟨b9, 0, none⟩))] ∧ w = s34.w) ?_ ?_
 ·rintro _ _ ⟨s34, u33, rfl, m0, h1, h2, h3, h4, h5, h6, h7, bx9, rfl, rfl⟩
  dsimp only at hm
  refine X.blkE (X.seqN (E.seq (ER (L.fa fa27_1 Y R R (L.fa fa25_0 Y R R (L.ld (j := 4) bx9.mem nag22 Y R R R R (L.fa fa27_0 Y R R (L.fa fa25_0 Y R R (L.ld (j := 0) bx9.mem nag22 Y R R R R ?_)))))))))
  obtain ⟨r35, er35, hm⟩ := bindS hm
  refine L.ca cf30 R R Y R (m_alphabet_Subset_c (s := s34) (p0 := p0.2.1.1) (p1 := p0.1.1) h4 h1 er35) R ?_
  rintro _ s36 m37 rfl
  replace m0 := m0.trans m37.no
  replace bx9 := bx9.mv m37 no_No
  replace h7 := h7.mono m37.z
  refine L.not Y R R (L.nil (X.seqN ?_))
  rcases ifS hm with ⟨hc, hm⟩ | ⟨hc, hm⟩
  ·refine E.cT R hc (ER (L.as Y R R (L.as Y R R (LN (E.ret (X.seqR ?_))))))
   obtain rfl := oi hm
   exact X.rt (.inl R) Tryz.results52 (Rs.tmp R (Rs.tmp R Rs.nil)) R ⟨_, (s36).ren N (fun _ => 0), R, R, m0.ren hNb, ⟨.pointer none, R, PtO.nil⟩⟩
  refine E.cF R hc (E.skip (X.seqN (E.seq (ER (L.fa fa27_2 Y R R (L.ld (j := 8) bx9.mem nag22 Y R R R R ?_))))))
  obtain ⟨r38, er38, hm⟩ := bindS hm
  refine L.ca cf29 R R Y R (m_alphabet_CheckSet_c (s := s36) (p0 := p0.2.2) (p1 := 32) h7 er38) R ?_
  rintro _ s39 m40 rfl
  replace m0 := m0.trans m40.no
  replace bx9 := bx9.mv m40 no_No
  refine L.as Y R R (LN (ER (L.mv Y R R (L.bi Y R R R R (L.nil (X.seqN ?_))))))
  rcases ifS hm with ⟨hc, hm⟩ | ⟨hc, hm⟩
  ·refine E.cT R hc (ER (L.mv Y R R (L.as Y R R (L.as Y R R (LN (E.ret (X.seqR ?_)))))))
   obtain rfl := oi hm
   exact X.rt (.inl R) Tryz.results52 (Rs.tmp R (Rs.tmp R Rs.nil)) R ⟨_, (s39).ren N (fun _ => 0), R, R, m0.ren hNb, ⟨.pointer none, R, PtO.nil⟩⟩
  refine E.cF R hc (E.skip (X.seqN (ER (L.fa fa27_0 Y R R (L.lg (j := 0) (cs := [.slice a1 p0.1.1.length c1, .int .i64 p0.1.2.1, .slice a2 p0.1.2.2.1.length c2, .slice a3 p0.1.2.2.2.length c3]) bx9.mem ag25 Y R R R R R (L.fa fa27_1 Y R R (L.lg (j := 4) (cs := [.slice a4 p0.2.1.1.length c4, .int .i64 p0.2.1.2.1, .slice a5 p0.2.1.2.2.1.length c5, .slice a6 p0.2.1.2.2.2.length c6]) bx9.mem ag25 Y R R R R R (L.bsE (k := 2) (cs := [.slice a1 p0.1.1.length c1, .int .i64 p0.1.2.1, .slice a2 p0.1.2.2.1.length c2, .slice a3 p0.1.2.2.2.length c3, .slice a4 p0.2.1.1.length c4, .int .i64 p0.2.1.2.1, .slice a5 p0.2.1.2.2.1.length c5, .slice a6 p0.2.1.2.2.2.length c6]) 0 bs73 (nb R) Y R R R R fun b41 s42 m43 bx41 => ?_))))))))
  replace h1 := ((h1.mono m37.z).mono m40.z).mono m43.z
  replace h2 := ((h2.mono m37.z).mono m40.z).mono m43.z
  replace h3 := ((h3.mono m37.z).mono m40.z).mono m43.z
  replace h4 := ((h4.mono m37.z).mono m40.z).mono m43.z
  replace h5 := ((h5.mono m37.z).mono m40.z).mono m43.z
  replace h6 := ((h6.mono m37.z).mono m40.z).mono m43.z
  have h41 := Bx.rdL (r := (rP (rL qI) (rP qI (rP (rL qI) (rL qT))))) (xs := ([p0.1, p0.2.1] : List AutT)) bx41 ⟨[.slice a1 p0.1.1.length c1, .int .i64 p0.1.2.1, .slice a2 p0.1.2.2.1.length c2, .slice a3 p0.1.2.2.2.length c3], _, R, ⟨[.slice a1 p0.1.1.length c1], [.int .i64 p0.1.2.1, .slice a2 p0.1.2.2.1.length c2, .slice a3 p0.1.2.2.2.length c3], R, ⟨_, _, R, h1⟩, ⟨[.int .i64 p0.1.2.1], [.slice a2 p0.1.2.2.1.length c2, .slice a3 p0.1.2.2.2.length c3], R, R, ⟨[.slice a2 p0.1.2.2.1.length c2], [.slice a3 p0.1.2.2.2.length c3], R, ⟨_, _, R, h2⟩, ⟨_, _, R, h3⟩⟩⟩⟩, ⟨[.slice a4 p0.2.1.1.length c4, .int .i64 p0.2.1.2.1, .slice a5 p0.2.1.2.2.1.length c5, .slice a6 p0.2.1.2.2.2.length c6], _, R, ⟨[.slice a4 p0.2.1.1.length c4], [.int .i64 p0.2.1.2.1, .slice a5 p0.2.1.2.2.1.length c5, .slice a6 p0.2.1.2.2.2.length c6], R, ⟨_, _, R, h4⟩, ⟨[.int .i64 p0.2.1.2.1], [.slice a5 p0.2.1.2.2.1.length c5, .slice a6 p0.2.1.2.2.2.length c6], R, R, ⟨[.slice a5 p0.2.1.2.2.1.length c5], [.slice a6 p0.2.1.2.2.2.length c6], R, ⟨_, _, R, h5⟩, ⟨_, _, R, h6⟩⟩⟩⟩, R⟩⟩ (nb R)
  obtain ⟨r44, er44, hm⟩ := bindS hm
  refine L.ca cf34 R R Y R (m_product_Synchronous_c (s := s42) (p0 := ([p0.1, p0.2.1] : List AutT)) (u1 := 0) (u2 := 0) (u3 := 0) h41 er44) R ?_
  rintro _ s45 m46 ⟨a47, c47, a48, c48, a49, c49, a50, c50, rfl, h47, h48, h49, h50⟩
  refine L.mv Y R R (L.ex Y R R R (L.ex Y R R R (L.ex Y R R R (L.al (N + 2) zz25 R Y R fun b51 s52 m53 bx51 => ?_))))
  refine L.st (c := [.slice a47 r44.1.1.length c47, .int .i64 r44.1.2.1, .slice a48 r44.1.2.2.1.length c48, .slice a49 r44.1.2.2.2.length c49]) (cs' := #[.slice a47 r44.1.1.length c47, .int .i64 r44.1.2.1, .slice a48 r44.1.2.2.1.length c48, .slice a49 r44.1.2.2.2.length c49]) bx51 ag25.sz Y R R R R R (nb R) R fun s54 m55 bx51 => ?_
  replace m0 := (((m0.trans m43.no).trans m46.no).trans m53.no).trans (m55.one up)
  replace bx9 := (((bx9.mv m43 no_No).mv m46 no_No).mv m53 no_No).mv m55 (tq R)
  replace h1 := ((h1.mono m46.z).mono m53.z).mono (m55.le (tg0 hN))
  replace h7 := ((((h7.mono m40.z).mono m43.z).mono m46.z).mono m53.z).mono (m55.le (tg0 hN))
  refine L.as Y R R (L.as Y R R (LN (E.seq (ER (L.mv Y R R (L.bi Y R R R R (L.nil (X.seqN ?_))))))))
  rcases ifS hm with ⟨hc, hm⟩ | ⟨hc, hm⟩
  ·refine E.cT R hc (ER (L.mv Y R R (L.as Y R R (L.as Y R R (LN (E.ret (X.seqR ?_)))))))
   obtain rfl := oi hm
   exact X.rt (.inl R) Tryz.results52 (Rs.tmp R (Rs.tmp R Rs.nil)) R ⟨_, (s54).ren N (fun _ => 0), R, R, m0.ren hNb, ⟨.pointer none, R, PtO.nil⟩⟩
  refine E.cF R hc (E.skip (X.seqN (ER (L.fa fa27_0 Y R R (L.fa fa25_0 Y R R (L.ld (j := 0) bx9.mem nag22 Y R R R R (L.fa fa27_2 Y R R (L.ld (j := 8) bx9.mem nag22 Y R R R R ?_))))))))
  obtain ⟨r56, er56, hm⟩ := bindS hm
  refine L.ca cf104 R R Y R (m_alphabet_Intersect_c (s := s54) (p0 := p0.1.1) (p1 := p0.2.2) (u0 := 0) h1 h7 er56) R ?_
  rintro _ s57 m58 ⟨a59, c59, rfl, h59⟩
  replace h59 := h59.p
  replace m0 := m0.trans m58.no
  replace h50 := (((h50.p).mono m53.z).mono (m55.le (tg0 hN))).mono m58.z
  replace bx51 := bx51.mv m58 no_No
  replace h47 := ((h47.mono m53.z).mono (m55.le (tg0 hN))).mono m58.z
  replace h48 := (((h48.p).mono m53.z).mono (m55.le (tg0 hN))).mono m58.z
  replace h49 := (((h49.p).mono m53.z).mono (m55.le (tg0 hN))).mono m58.z
  replace bx9 := bx9.mv m58 no_No
  replace h1 := h1.mono m58.z
  replace h2 := (((h2.mono m46.z).mono m53.z).mono (m55.le (tg0 hN))).mono m58.z
  replace h3 := (((h3.mono m46.z).mono m53.z).mono (m55.le (tg0 hN))).mono m58.z
  replace h4 := (((h4.mono m46.z).mono m53.z).mono (m55.le (tg0 hN))).mono m58.z
  replace h5 := (((h5.mono m46.z).mono m53.z).mono (m55.le (tg0 hN))).mono m58.z
  replace h6 := (((h6.mono m46.z).mono m53.z).mono (m55.le (tg0 hN))).mono m58.z
  refine L.as Y R R (LN (E.seq ?_))
  obtain ⟨r63, er63, hm⟩ := bindS hm
  obtain ⟨r73, er73, hm⟩ := bindS hm
  obtain ⟨r82, er82, hm⟩ := bindS hm
  obtain ⟨r96, er96, hm⟩ := bindS hm
  refine E.draw [[], [0], [0, 1], [], [3], [0, 1, 2, 3, 4], [], [0, 1, 2, 3, 4, 5, 6], [], [], [], [10], [10, 11], [], [0, 1, 2, 3, 4, 5, 6, 7, 10, 11, 12, 13], [0, 1, 2, 3, 4, 5, 6, 7, 8, 9, 10, 11, 12, 13, 14], [0, 1, 2, 3, 4, 5, 6, 7, 8, 9, 10, 11, 12, 13, 14, 15], [0, 1, 2, 3, 4, 5, 6, 7, 8, 9, 10, 11, 12, 13, 14, 15, 16], [0, 1, 2, 3, 4, 5, 6, 7, 8, 9, 10, 11, 12, 13, 14, 15, 16, 17]] (fun D e sx => Mv No s57 sx ∧ Sub [(11, .slice a59 r56.length c59), (9, .slice a50 r44.2.1.length c50), (8, .pointer (some ⟨b51, 0, none⟩)), (1, .pointer (some ⟨b9, 0, none⟩))] e ∧ AllP [G D e 0 61 (.pointer (some ⟨b9, 0, none⟩)), G D e 1 62 (.agg #[.slice a1 p0.1.1.length c1, .int .i64 p0.1.2.1, .slice a2 p0.1.2.2.1.length c2, .slice a3 p0.1.2.2.2.length c3]), D 2 = true → (∃ (a66 : Option Addr) (c66 : Nat) (a67 : Option Addr) (c67 : Nat) (a68 : Option Addr) (c68 : Nat) (y69 : Option Nat) (c69 : Nat), Env.get e 63 = some (.agg #[.slice a66 r63.1.1.length c66, .int .i64 r63.1.2.1, .slice a67 r63.1.2.2.1.length c67, .slice a68 r63.1.2.2.2.length c68, .map y69]) ∧ RdL qI sx a66 c66 r63.1.1 ∧ RdL qI sx a67 c67 r63.1.2.2.1 ∧ RdL qT sx a68 c68 r63.1.2.2.2 ∧ MapD kvP qI sx y69 c69 r63.2), G D e 3 64 (.pointer (some ⟨b9, 4, none⟩)), G D e 4 65 (.agg #[.slice a4 p0.2.1.1.length c4, .int .i64 p0.2.1.2.1, .slice a5 p0.2.1.2.2.1.length c5, .slice a6 p0.2.1.2.2.2.length c6]), D 5 = true → (∃ (a76 : Option Addr) (c76 : Nat) (a77 : Option Addr) (c77 : Nat) (a78 : Option Addr) (c78 : Nat) (y79 : Option Nat) (c79 : Nat), Env.get e 66 = some (.agg #[.slice a76 r73.1.1.length c76, .int .i64 r73.1.2.1, .slice a77 r73.1.2.2.1.length c77, .slice a78 r73.1.2.2.2.length c78, .map y79]) ∧ RdL qI sx a76 c76 r73.1.1 ∧ RdL qI sx a77 c77 r73.1.2.2.1 ∧ RdL qT sx a78 c78 r73.1.2.2.2 ∧ MapD kvP qI sx y79 c79 r73.2), G D e 6 67 (.agg #[.slice a47 r44.1.1.length c47, .int .i64 r44.1.2.1, .slice a48 r44.1.2.2.1.length c48, .slice a49 r44.1.2.2.2.length c49]), D 7 = true → (∃ (a85 : Option Addr) (c85 : Nat) (a86 : Option Addr) (c86 : Nat) (a87 : Option Addr) (c87 : Nat) (y88 : Option Nat) (c88 : Nat), Env.get e 68 = some (.agg #[.slice a85 r82.1.1.length c85, .int .i64 r82.1.2.1, .slice a86 r82.1.2.2.1.length c86, .slice a87 r82.1.2.2.2.length c87, .map y88]) ∧ RdL qI sx a85 c85 r82.1.1 ∧ RdL qI sx a86 c86 r82.1.2.2.1 ∧ RdL qT sx a87 c87 r82.1.2.2.2 ∧ MapD kvP qI sx y88 c88 r82.2), G D e 8 69 (.slice a50 r44.2.1.length c50), G D e 9 70 (.slice a59 r56.length c59), G D e 10 71 (.pointer (some ⟨b9, 0, none⟩)), G D e 11 72 (.pointer (some ⟨b9, 0, none⟩)), G D e 12 73 (.slice a1 p0.1.1.length c1), G D e 13 74 (.slice a59 r56.length c59), D 14 = true → (∃ (a99 : Option Addr) (c99 : Nat), Env.get e 75 = some (.slice a99 r96.length c99) ∧ RdL qI sx a99 c99 r96), D 15 = true → ∀ (a66 : Option Addr) (c66 : Nat) (a67 : Option Addr) (c67 : Nat) (a68 : Option Addr) (c68 : Nat) (y69 : Option Nat) (c69 : Nat) (a76 : Option Addr) (c76 : Nat) (a77 : Option Addr) (c77 : Nat) (a78 : Option Addr) (c78 : Nat) (y79 : Option Nat) (c79 : Nat) (a85 : Option Addr) (c85 : Nat) (a86 : Option Addr) (c86 : Nat) (a87 : Option Addr) (c87 : Nat) (y88 : Option Nat) (c88 : Nat) (a99 : Option Addr) (c99 : Nat), Env.get e 63 = some (.agg #[.slice a66 r63.1.1.length c66, .int .i64 r63.1.2.1, .slice a67 r63.1.2.2.1.length c67, .slice a68 r63.1.2.2.2.length c68, .map y69]) → Env.get e 66 = some (.agg #[.slice a76 r73.1.1.length c76, .int .i64 r73.1.2.1, .slice a77 r73.1.2.2.1.length c77, .slice a78 r73.1.2.2.2.length c78, .map y79]) → Env.get e 68 = some (.agg #[.slice a85 r82.1.1.length c85, .int .i64 r82.1.2.1, .slice a86 r82.1.2.2.1.length c86, .slice a87 r82.1.2.2.2.length c87, .map y88]) → Env.get e 75 = some (.slice a99 r96.length c99) → (Env.get e 76 = some (.agg #[.slice a66 r63.1.1.length c66, .int .i64 r63.1.2.1, .slice a67 r63.1.2.2.1.length c67, .slice a68 r63.1.2.2.2.length c68, .map y69, .slice a76 r73.1.1.length c76, .int .i64 r73.1.2.1, .slice a77 r73.1.2.2.1.length c77, .slice a78 r73.1.2.2.2.length c78, .map y79, .slice a85 r82.1.1.length c85, .int .i64 r82.1.2.1, .slice a86 r82.1.2.2.1.length c86, .slice a87 r82.1.2.2.2.length c87, .map y88, .slice a50 r44.2.1.length c50, .slice a59 r56.length c59, .slice a99 r96.length c99])), D 16 = true → ∀ (a66 : Option Addr) (c66 : Nat) (a67 : Option Addr) (c67 : Nat) (a68 : Option Addr) (c68 : Nat) (y69 : Option Nat) (c69 : Nat) (a76 : Option Addr) (c76 : Nat) (a77 : Option Addr) (c77 : Nat) (a78 : Option Addr) (c78 : Nat) (y79 : Option Nat) (c79 : Nat) (a85 : Option Addr) (c85 : Nat) (a86 : Option Addr) (c86 : Nat) (a87 : Option Addr) (c87 : Nat) (y88 : Option Nat) (c88 : Nat) (a99 : Option Addr) (c99 : Nat), Env.get e 63 = some (.agg #[.slice a66 r63.1.1.length c66, .int .i64 r63.1.2.1, .slice a67 r63.1.2.2.1.length c67, .slice a68 r63.1.2.2.2.length c68, .map y69]) → Env.get e 66 = some (.agg #[.slice a76 r73.1.1.length c76, .int .i64 r73.1.2.1, .slice a77 r73.1.2.2.1.length c77, .slice a78 r73.1.2.2.2.length c78, .map y79]) → Env.get e 68 = some (.agg #[.slice a85 r82.1.1.length c85, .int .i64 r82.1.2.1, .slice a86 r82.1.2.2.1.length c86, .slice a87 r82.1.2.2.2.length c87, .map y88]) → Env.get e 75 = some (.slice a99 r96.length c99) → (∃ (b102 : Nat), Env.get e 77 = some (.pointer (some ⟨b102, 0, none⟩)) ∧ Bx sx (N + 3) b102 #[.slice a66 r63.1.1.length c66, .int .i64 r63.1.2.1, .slice a67 r63.1.2.2.1.length c67, .slice a68 r63.1.2.2.2.length c68, .map y69, .slice a76 r73.1.1.length c76, .int .i64 r73.1.2.1, .slice a77 r73.1.2.2.1.length c77, .slice a78 r73.1.2.2.2.length c78, .map y79, .slice a85 r82.1.1.length c85, .int .i64 r82.1.2.1, .slice a86 r82.1.2.2.1.length c86, .slice a87 r82.1.2.2.2.length c87, .map y88, .slice a50 r44.2.1.length c50, .slice a59 r56.length c59, .slice a99 r96.length c99] 110), D 17 = true → ∀ (a66 : Option Addr) (c66 : Nat) (a67 : Option Addr) (c67 : Nat) (a68 : Option Addr) (c68 : Nat) (y69 : Option Nat) (c69 : Nat) (a76 : Option Addr) (c76 : Nat) (a77 : Option Addr) (c77 : Nat) (a78 : Option Addr) (c78 : Nat) (y79 : Option Nat) (c79 : Nat) (a85 : Option Addr) (c85 : Nat) (a86 : Option Addr) (c86 : Nat) (a87 : Option Addr) (c87 : Nat) (y88 : Option Nat) (c88 : Nat) (a99 : Option Addr) (c99 : Nat) (b102 : Nat), Env.get e 63 = some (.agg #[.slice a66 r63.1.1.length c66, .int .i64 r63.1.2.1, .slice a67 r63.1.2.2.1.length c67, .slice a68 r63.1.2.2.2.length c68, .map y69]) → Env.get e 66 = some (.agg #[.slice a76 r73.1.1.length c76, .int .i64 r73.1.2.1, .slice a77 r73.1.2.2.1.length c77, .slice a78 r73.1.2.2.2.length c78, .map y79]) → Env.get e 68 = some (.agg #[.slice a85 r82.1.1.length c85, .int .i64 r82.1.2.1, .slice a86 r82.1.2.2.1.length c86, .slice a87 r82.1.2.2.2.length c87, .map y88]) → Env.get e 75 = some (.slice a99 r96.length c99) → Env.get e 77 = some (.pointer (some ⟨b102, 0, none⟩)) → (Env.get e 2 = some (.pointer (some ⟨b102, 0, none⟩))), G D e 18 3 (.int .i64 0)]) (by kernel_rfl) (by kernel_rfl) (by kernel_rfl) ?_ ?_ ?_
  ·intro sz mz
   exact ⟨mz, (Sub.rf R), nofun, nofun, nofun, nofun, nofun, nofun, nofun, nofun, nofun, nofun, nofun, nofun, nofun, nofun, nofun, nofun, nofun, nofun, nofun, trivial⟩
  ·refine ⟨?_, ?_, ?_, ?_, ?_, ?_, ?_, ?_, ?_, ?_, ?_, ?_, ?_, ?_, ?_, ?_, ?_, ?_, ?_, trivial⟩
   ·rintro D e s60 ⟨im, ib, i⟩ hk hf ha
    have kn := K1 (ib 1 _ R)
    exact kn.g (L.fa fa27_0 Y R R (L.nil (X.dk kn ⟨im, Sub.fresh ib R, i.u 0 (fun _ => R)⟩)))
   ·rintro D e s61 ⟨im, ib, i⟩ hk hf ha
    have bx9 := bx9.mv im no_No
    have kn := K1 ((i.p 0) (ha.at 0 R))
    exact kn.g (L.lg (j := 0) (cs := [.slice a1 p0.1.1.length c1, .int .i64 p0.1.2.1, .slice a2 p0.1.2.2.1.length c2, .slice a3 p0.1.2.2.2.length c3]) bx9.mem ag25 Y R R R R R (L.nil (X.dk kn ⟨im, Sub.fresh ib R, i.u 1 (fun _ => R)⟩)))
   ·rintro D e s62 ⟨im, ib, i⟩ hk hf ha
    have h1 := h1.mono im.z
    have h2 := h2.mono im.z
    have h3 := h3.mono im.z
    have kn := K1 ((i.p 1) (ha.at 1 R))
    refine kn.g (L.ca cf105 R R Y R (m_scan_index_c (s := s62) (p0 := p0.1) h1 h2 h3 er63) R ?_)
    rintro _ s64 m65 ⟨a66, c66, a67, c67, a68, c68, y69, c69, rfl, h66, h67, h68, h69⟩
    exact L.nil (X.dk kn ⟨im.trans m65.no, Sub.fresh ib R, ((((((i.u 2 (fun _ => ⟨a66, c66, a67, c67, a68, c68, y69, c69, R, h66, h67, h68, h69⟩)).u 5 (fun z => let ⟨a76, c76, a77, c77, a78, c78, y79, c79, q, h76, h77, h78, h79⟩ := (i.p 5) z; ⟨a76, c76, a77, c77, a78, c78, y79, c79, q, (h76.mono m65.z), (h77.mono m65.z), (h78.mono m65.z), (h79.mono m65.z)⟩)).u 7 (fun z => let ⟨a85, c85, a86, c86, a87, c87, y88, c88, q, h85, h86, h87, h88⟩ := (i.p 7) z; ⟨a85, c85, a86, c86, a87, c87, y88, c88, q, (h85.mono m65.z), (h86.mono m65.z), (h87.mono m65.z), (h88.mono m65.z)⟩)).u 14 (fun z => let ⟨a99, c99, q, h99⟩ := (i.p 14) z; ⟨a99, c99, q, (h99.mono m65.z)⟩)).u 15 (fun z => Bool.noConfusion ((hf 15 (nb R) R).symm.trans z))).u 16 (fun z => Bool.noConfusion ((hf 16 (nb R) R).symm.trans z))).u 17 (fun z => Bool.noConfusion ((hf 17 (nb R) R).symm.trans z))⟩)
   ·rintro D e s70 ⟨im, ib, i⟩ hk hf ha
    have kn := K1 (ib 1 _ R)
    exact kn.g (L.fa fa27_1 Y R R (L.nil (X.dk kn ⟨im, Sub.fresh ib R, i.u 3 (fun _ => R)⟩)))
   ·rintro D e s71 ⟨im, ib, i⟩ hk hf ha
    have bx9 := bx9.mv im no_No
    have kn := K1 ((i.p 3) (ha.at 3 R))
    exact kn.g (L.lg (j := 4) (cs := [.slice a4 p0.2.1.1.length c4, .int .i64 p0.2.1.2.1, .slice a5 p0.2.1.2.2.1.length c5, .slice a6 p0.2.1.2.2.2.length c6]) bx9.mem ag25 Y R R R R R (L.nil (X.dk kn ⟨im, Sub.fresh ib R, i.u 4 (fun _ => R)⟩)))
   ·rintro D e s72 ⟨im, ib, i⟩ hk hf ha
    have h4 := h4.mono im.z
    have h5 := h5.mono im.z
    have h6 := h6.mono im.z
    have kn := K1 ((i.p 4) (ha.at 4 R))
    refine kn.g (L.ca cf105 R R Y R (m_scan_index_c (s := s72) (p0 := p0.2.1) h4 h5 h6 er73) R ?_)
    rintro _ s74 m75 ⟨a76, c76, a77, c77, a78, c78, y79, c79, rfl, h76, h77, h78, h79⟩
    exact L.nil (X.dk kn ⟨im.trans m75.no, Sub.fresh ib R, ((((((i.u 2 (fun z => let ⟨a66, c66, a67, c67, a68, c68, y69, c69, q, h66, h67, h68, h69⟩ := (i.p 2) z; ⟨a66, c66, a67, c67, a68, c68, y69, c69, q, (h66.mono m75.z), (h67.mono m75.z), (h68.mono m75.z), (h69.mono m75.z)⟩)).u 5 (fun _ => ⟨a76, c76, a77, c77, a78, c78, y79, c79, R, h76, h77, h78, h79⟩)).u 7 (fun z => let ⟨a85, c85, a86, c86, a87, c87, y88, c88, q, h85, h86, h87, h88⟩ := (i.p 7) z; ⟨a85, c85, a86, c86, a87, c87, y88, c88, q, (h85.mono m75.z), (h86.mono m75.z), (h87.mono m75.z), (h88.mono m75.z)⟩)).u 14 (fun z => let ⟨a99, c99, q, h99⟩ := (i.p 14) z; ⟨a99, c99, q, (h99.mono m75.z)⟩)).u 15 (fun z => Bool.noConfusion ((hf 15 (nb R) R).symm.trans z))).u 16 (fun z => Bool.noConfusion ((hf 16 (nb R) R).symm.trans z))).u 17 (fun z => Bool.noConfusion ((hf 17 (nb R) R).symm.trans z))⟩)
   ·rintro D e s80 ⟨im, ib, i⟩ hk hf ha
    have bx51 := bx51.mv im no_No
    have kn := K1 (ib 8 _ R)
    exact kn.g (L.lg (j := 0) (cs := [.slice a47 r44.1.1.length c47, .int .i64 r44.1.2.1, .slice a48 r44.1.2.2.1.length c48, .slice a49 r44.1.2.2.2.length c49]) bx51.mem ag25 Y R R R R R (L.nil (X.dk kn ⟨im, Sub.fresh ib R, i.u 6 (fun _ => R)⟩)))
   ·rintro D e s81 ⟨im, ib, i⟩ hk hf ha
    have h47 := h47.mono im.z
    have h48 := h48.mono im.z
    have h49 := h49.mono im.z
    have kn := K1 ((i.p 6) (ha.at 6 R))
    refine kn.g (L.ca cf105 R R Y R (m_scan_index_c (s := s81) (p0 := r44.1) h47 h48 h49 er82) R ?_)
    rintro _ s83 m84 ⟨a85, c85, a86, c86, a87, c87, y88, c88, rfl, h85, h86, h87, h88⟩
    exact L.nil (X.dk kn ⟨im.trans m84.no, Sub.fresh ib R, ((((((i.u 2 (fun z => let ⟨a66, c66, a67, c67, a68, c68, y69, c69, q, h66, h67, h68, h69⟩ := (i.p 2) z; ⟨a66, c66, a67, c67, a68, c68, y69, c69, q, (h66.mono m84.z), (h67.mono m84.z), (h68.mono m84.z), (h69.mono m84.z)⟩)).u 5 (fun z => let ⟨a76, c76, a77, c77, a78, c78, y79, c79, q, h76, h77, h78, h79⟩ := (i.p 5) z; ⟨a76, c76, a77, c77, a78, c78, y79, c79, q, (h76.mono m84.z), (h77.mono m84.z), (h78.mono m84.z), (h79.mono m84.z)⟩)).u 7 (fun _ => ⟨a85, c85, a86, c86, a87, c87, y88, c88, R, h85, h86, h87, h88⟩)).u 14 (fun z => let ⟨a99, c99, q, h99⟩ := (i.p 14) z; ⟨a99, c99, q, (h99.mono m84.z)⟩)).u 15 (fun z => Bool.noConfusion ((hf 15 (nb R) R).symm.trans z))).u 16 (fun z => Bool.noConfusion ((hf 16 (nb R) R).symm.trans z))).u 17 (fun z => Bool.noConfusion ((hf 17 (nb R) R).symm.trans z))⟩)
   ·rintro D e s89 ⟨im, ib, i⟩ hk hf ha
    have kn := K1 (ib 9 _ R)
    exact kn.g (L.mv Y R R (L.nil (X.dk kn ⟨im, Sub.fresh ib R, i.u 8 (fun _ => R)⟩)))
   ·rintro D e s90 ⟨im, ib, i⟩ hk hf ha
    have kn := K1 (ib 11 _ R)
    exact kn.g (L.mv Y R R (L.nil (X.dk kn ⟨im, Sub.fresh ib R, i.u 9 (fun _ => R)⟩)))
   ·rintro D e s91 ⟨im, ib, i⟩ hk hf ha
    have kn := K1 (ib 1 _ R)
    exact kn.g (L.fa fa27_0 Y R R (L.nil (X.dk kn ⟨im, Sub.fresh ib R, i.u 10 (fun _ => R)⟩)))
   ·rintro D e s92 ⟨im, ib, i⟩ hk hf ha
    have kn := K1 ((i.p 10) (ha.at 10 R))
    exact kn.g (L.fa fa25_0 Y R R (L.nil (X.dk kn ⟨im, Sub.fresh ib R, i.u 11 (fun _ => R)⟩)))
   ·rintro D e s93 ⟨im, ib, i⟩ hk hf ha
    have bx9 := bx9.mv im no_No
    have kn := K1 ((i.p 11) (ha.at 11 R))
    exact kn.g (L.ld (j := 0) bx9.mem nag22 Y R R R R (L.nil (X.dk kn ⟨im, Sub.fresh ib R, i.u 12 (fun _ => R)⟩)))
   ·rintro D e s94 ⟨im, ib, i⟩ hk hf ha
    have kn := K1 (ib 11 _ R)
    exact kn.g (L.mv Y R R (L.nil (X.dk kn ⟨im, Sub.fresh ib R, i.u 13 (fun _ => R)⟩)))
   ·rintro D e s95 ⟨im, ib, i⟩ hk hf ha
    have h59 := h59.mono im.z
    have h1 := h1.mono im.z
    have kn := K2 ((i.p 12) (ha.at 12 R)) ((i.p 13) (ha.at 13 R))
    refine kn.g (L.ca cf26 R R Y R (m_alphabet_Minus_c (s := s95) (p0 := p0.1.1) (p1 := r56) (u0 := 0) h1 h59 er96) R ?_)
    rintro _ s97 m98 ⟨a99, c99, rfl, h99⟩
    replace h99 := h99.p
    exact L.nil (X.dk kn ⟨im.trans m98.no, Sub.fresh ib R, ((((((i.u 2 (fun z => let ⟨a66, c66, a67, c67, a68, c68, y69, c69, q, h66, h67, h68, h69⟩ := (i.p 2) z; ⟨a66, c66, a67, c67, a68, c68, y69, c69, q, (h66.mono m98.z), (h67.mono m98.z), (h68.mono m98.z), (h69.mono m98.z)⟩)).u 5 (fun z => let ⟨a76, c76, a77, c77, a78, c78, y79, c79, q, h76, h77, h78, h79⟩ := (i.p 5) z; ⟨a76, c76, a77, c77, a78, c78, y79, c79, q, (h76.mono m98.z), (h77.mono m98.z), (h78.mono m98.z), (h79.mono m98.z)⟩)).u 7 (fun z => let ⟨a85, c85, a86, c86, a87, c87, y88, c88, q, h85, h86, h87, h88⟩ := (i.p 7) z; ⟨a85, c85, a86, c86, a87, c87, y88, c88, q, (h85.mono m98.z), (h86.mono m98.z), (h87.mono m98.z), (h88.mono m98.z)⟩)).u 14 (fun _ => ⟨a99, c99, R, h99⟩)).u 15 (fun z => Bool.noConfusion ((hf 15 (nb R) R).symm.trans z))).u 16 (fun z => Bool.noConfusion ((hf 16 (nb R) R).symm.trans z))).u 17 (fun z => Bool.noConfusion ((hf 17 (nb R) R).symm.trans z))⟩)
   ·rintro D e s100 ⟨im, ib, i⟩ hk hf ha
    obtain ⟨a66, c66, a67, c67, a68, c68, y69, c69, g2_, h66, h67, h68, h69⟩ := (i.p 2) (ha.at 2 R)
    obtain ⟨a76, c76, a77, c77, a78, c78, y79, c79, g5_, h76, h77, h78, h79⟩ := (i.p 5) (ha.at 5 R)
    obtain ⟨a85, c85, a86, c86, a87, c87, y88, c88, g7_, h85, h86, h87, h88⟩ := (i.p 7) (ha.at 7 R)
    obtain ⟨a99, c99, g14_, h99⟩ := (i.p 14) (ha.at 14 R)
    have kn := K6 g2_ g5_ g7_ ((i.p 8) (ha.at 8 R)) ((i.p 9) (ha.at 9 R)) g14_
    exact kn.g (L.bu (cs := [.slice a66 r63.1.1.length c66, .int .i64 r63.1.2.1, .slice a67 r63.1.2.2.1.length c67, .slice a68 r63.1.2.2.2.length c68, .map y69, .slice a76 r73.1.1.length c76, .int .i64 r73.1.2.1, .slice a77 r73.1.2.2.1.length c77, .slice a78 r73.1.2.2.2.length c78, .map y79, .slice a85 r82.1.1.length c85, .int .i64 r82.1.2.1, .slice a86 r82.1.2.2.1.length c86, .slice a87 r82.1.2.2.2.length c87, .map y88, .slice a50 r44.2.1.length c50, .slice a59 r56.length c59, .slice a99 r96.length c99]) pl110 Y R R R (L.nil (X.dk kn ⟨im, Sub.fresh ib R, i.u 15 (fun _ _ _ _ _ _ _ _ _ _ _ _ _ _ _ _ _ _ _ _ _ _ _ _ _ _ _ q2 q5 q7 q14 => by cases g2_.symm.trans q2; cases g5_.symm.trans q5; cases g7_.symm.trans q7; cases g14_.symm.trans q14; exact R)⟩)))
   ·rintro D e s101 ⟨im, ib, i⟩ hk hf ha
    obtain ⟨a66, c66, a67, c67, a68, c68, y69, c69, g2_, h66, h67, h68, h69⟩ := (i.p 2) (ha.at 2 R)
    obtain ⟨a76, c76, a77, c77, a78, c78, y79, c79, g5_, h76, h77, h78, h79⟩ := (i.p 5) (ha.at 5 R)
    obtain ⟨a85, c85, a86, c86, a87, c87, y88, c88, g7_, h85, h86, h87, h88⟩ := (i.p 7) (ha.at 7 R)
    obtain ⟨a99, c99, g14_, h99⟩ := (i.p 14) (ha.at 14 R)
    have g15_ := (i.p 15) (ha.at 15 R) a66 c66 a67 c67 a68 c68 y69 c69 a76 c76 a77 c77 a78 c78 y79 c79 a85 c85 a86 c86 a87 c87 y88 c88 a99 c99 g2_ g5_ g7_ g14_
    have kn := K1 g15_
    refine kn.g (L.box (N + 3) Y R R R fun b102 s103 m104 bx102 => ?_)
    replace h66 := h66.mono m104.z
    replace h67 := h67.mono m104.z
    replace h68 := h68.mono m104.z
    replace h69 := h69.mono m104.z
    replace h76 := h76.mono m104.z
    replace h77 := h77.mono m104.z
    replace h78 := h78.mono m104.z
    replace h79 := h79.mono m104.z
    replace h85 := h85.mono m104.z
    replace h86 := h86.mono m104.z
    replace h87 := h87.mono m104.z
    replace h88 := h88.mono m104.z
    replace h99 := h99.mono m104.z
    exact L.nil (X.dk kn ⟨im.trans m104.no, Sub.fresh ib R, (((((i.u 2 (fun z => let ⟨a66, c66, a67, c67, a68, c68, y69, c69, q, h66, h67, h68, h69⟩ := (i.p 2) z; ⟨a66, c66, a67, c67, a68, c68, y69, c69, q, (h66.mono m104.z), (h67.mono m104.z), (h68.mono m104.z), (h69.mono m104.z)⟩)).u 5 (fun z => let ⟨a76, c76, a77, c77, a78, c78, y79, c79, q, h76, h77, h78, h79⟩ := (i.p 5) z; ⟨a76, c76, a77, c77, a78, c78, y79, c79, q, (h76.mono m104.z), (h77.mono m104.z), (h78.mono m104.z), (h79.mono m104.z)⟩)).u 7 (fun z => let ⟨a85, c85, a86, c86, a87, c87, y88, c88, q, h85, h86, h87, h88⟩ := (i.p 7) z; ⟨a85, c85, a86, c86, a87, c87, y88, c88, q, (h85.mono m104.z), (h86.mono m104.z), (h87.mono m104.z), (h88.mono m104.z)⟩)).u 14 (fun z => let ⟨a99, c99, q, h99⟩ := (i.p 14) z; ⟨a99, c99, q, (h99.mono m104.z)⟩)).u 16 (fun _ _ _ _ _ _ _ _ _ _ _ _ _ _ _ _ _ _ _ _ _ _ _ _ _ _ _ q2 q5 q7 q14 => by cases g2_.symm.trans q2; cases g5_.symm.trans q5; cases g7_.symm.trans q7; cases g14_.symm.trans q14; exact ⟨b102, R, bx102⟩)).u 17 (fun z => Bool.noConfusion ((hf 17 (nb R) R).symm.trans z))⟩)
   ·rintro D e s105 ⟨im, ib, i⟩ hk hf ha
    obtain ⟨a66, c66, a67, c67, a68, c68, y69, c69, g2_, h66, h67, h68, h69⟩ := (i.p 2) (ha.at 2 R)
    obtain ⟨a76, c76, a77, c77, a78, c78, y79, c79, g5_, h76, h77, h78, h79⟩ := (i.p 5) (ha.at 5 R)
    obtain ⟨a85, c85, a86, c86, a87, c87, y88, c88, g7_, h85, h86, h87, h88⟩ := (i.p 7) (ha.at 7 R)
    obtain ⟨a99, c99, g14_, h99⟩ := (i.p 14) (ha.at 14 R)
    obtain ⟨b102, g16_, bx102⟩ := (i.p 16) (ha.at 16 R) a66 c66 a67 c67 a68 c68 y69 c69 a76 c76 a77 c77 a78 c78 y79 c79 a85 c85 a86 c86 a87 c87 y88 c88 a99 c99 g2_ g5_ g7_ g14_
    have kn := K1 g16_
    exact kn.g (L.as Y R R (L.nil (X.dk kn ⟨im, Sub.fresh ib R, i.u 17 (fun _ _ _ _ _ _ _ _ _ _ _ _ _ _ _ _ _ _ _ _ _ _ _ _ _ _ _ _ q2 q5 q7 q14 q16 => by cases g2_.symm.trans q2; cases g5_.symm.trans q5; cases g7_.symm.trans q7; cases g14_.symm.trans q14; cases g16_.symm.trans q16; exact R)⟩)))
   rintro D e s106 ⟨im, ib, i⟩ hk hf ha
   exact L.as Y R R (L.nil (X.dr (s := s106) (e' := (3, .int .i64 0) :: e) (Sub.both (Sub.refl)) ⟨im, Sub.fresh ib R, i.u 18 (fun _ => R)⟩))
  rintro D e s107 hD ⟨im, ib, i⟩
  obtain ⟨a66, c66, a67, c67, a68, c68, y69, c69, g2_, h66, h67, h68, h69⟩ := (i.p 2) (hD 2 R)
  obtain ⟨a76, c76, a77, c77, a78, c78, y79, c79, g5_, h76, h77, h78, h79⟩ := (i.p 5) (hD 5 R)
  obtain ⟨a85, c85, a86, c86, a87, c87, y88, c88, g7_, h85, h86, h87, h88⟩ := (i.p 7) (hD 7 R)
  obtain ⟨a99, c99, g14_, h99⟩ := (i.p 14) (hD 14 R)
  obtain ⟨b102, g16_, bx102⟩ := (i.p 16) (hD 16 R) a66 c66 a67 c67 a68 c68 y69 c69 a76 c76 a77 c77 a78 c78 y79 c79 a85 c85 a86 c86 a87 c87 y88 c88 a99 c99 g2_ g5_ g7_ g14_
  have g17_ := (i.p 17) (hD 17 R) a66 c66 a67 c67 a68 c68 y69 c69 a76 c76 a77 c77 a78 c78 y79 c79 a85 c85 a86 c86 a87 c87 y88 c88 a99 c99 b102 g2_ g5_ g7_ g14_ g16_
  have g18_ := (i.p 18) (hD 18 R)
  have h50 := h50.mono im.z
  have h59 := h59.mono im.z
  have m0 := m0.trans im.no
  refine X.sub (e' := [(3, .int .i64 0), (2, .pointer (some ⟨b102, 0, none⟩))]) ?_ (Sub.cons g18_ (Sub.cons g17_ Sub.nil))
  refine X.seqN (E.ret ?_)
  have m108 := Sig.fz_mv (N + 3) s107
  replace bx102 := bx102.fz (tgn hN)
  replace m0 := m0.trans (m108.one up)
  replace h66 := h66.mono (m108.le (tg0 hN))
  replace h67 := h67.mono (m108.le (tg0 hN))
  replace h68 := h68.mono (m108.le (tg0 hN))
  replace h69 := h69.mono (m108.le (tg0 hN))
  replace h76 := h76.mono (m108.le (tg0 hN))
  replace h77 := h77.mono (m108.le (tg0 hN))
  replace h78 := h78.mono (m108.le (tg0 hN))
  replace h79 := h79.mono (m108.le (tg0 hN))
  replace h85 := h85.mono (m108.le (tg0 hN))
  replace h86 := h86.mono (m108.le (tg0 hN))
  replace h87 := h87.mono (m108.le (tg0 hN))
  replace h88 := h88.mono (m108.le (tg0 hN))
  replace h50 := h50.mono (m108.le (tg0 hN))
  replace h59 := h59.mono (m108.le (tg0 hN))
  replace h99 := h99.mono (m108.le (tg0 hN))
  obtain rfl := oi hm
  exact X.rt (.inl R) Tryz.results52 (Rs.tmp R (Rs.tmp R Rs.nil)) R ⟨_, ((Sig.fz (N + 3) s107)).ren N (fun _ => 0), R, R, m0.ren hNb, ⟨.pointer (some ⟨b102, 0, none⟩), R, ((PtO.mk (r := (rP (rP (rP (rL qI) (rP qI (rP (rL qI) (rL qT)))) (rM kvP qI)) (rP (rP (rP (rL qI) (rP qI (rP (rL qI) (rL qT)))) (rM kvP qI)) (rP (rP (rP (rL qI) (rP qI (rP (rL qI) (rL qT)))) (rM kvP qI)) (rP (rL (rL qI)) (rP (rL qI) (rL qI))))))) (cs := [.slice a66 r63.1.1.length c66, .int .i64 r63.1.2.1, .slice a67 r63.1.2.2.1.length c67, .slice a68 r63.1.2.2.2.length c68, .map y69, .slice a76 r73.1.1.length c76, .int .i64 r73.1.2.1, .slice a77 r73.1.2.2.1.length c77, .slice a78 r73.1.2.2.2.length c78, .map y79, .slice a85 r82.1.1.length c85, .int .i64 r82.1.2.1, .slice a86 r82.1.2.2.1.length c86, .slice a87 r82.1.2.2.2.length c87, .map y88, .slice a50 r44.2.1.length c50, .slice a59 r56.length c59, .slice a99 r96.length c99]) (y := (r63, r73, r82, r44.2.1, r56, r96)) bx102 ⟨[.slice a66 r63.1.1.length c66, .int .i64 r63.1.2.1, .slice a67 r63.1.2.2.1.length c67, .slice a68 r63.1.2.2.2.length c68, .map y69], [.slice a76 r73.1.1.length c76, .int .i64 r73.1.2.1, .slice a77 r73.1.2.2.1.length c77, .slice a78 r73.1.2.2.2.length c78, .map y79, .slice a85 r82.1.1.length c85, .int .i64 r82.1.2.1, .slice a86 r82.1.2.2.1.length c86, .slice a87 r82.1.2.2.2.length c87, .map y88, .slice a50 r44.2.1.length c50, .slice a59 r56.length c59, .slice a99 r96.length c99], R, ⟨[.slice a66 r63.1.1.length c66, .int .i64 r63.1.2.1, .slice a67 r63.1.2.2.1.length c67, .slice a68 r63.1.2.2.2.length c68], [.map y69], R, ⟨[.slice a66 r63.1.1.length c66], [.int .i64 r63.1.2.1, .slice a67 r63.1.2.2.1.length c67, .slice a68 r63.1.2.2.2.length c68], R, ⟨_, _, R, h66⟩, ⟨[.int .i64 r63.1.2.1], [.slice a67 r63.1.2.2.1.length c67, .slice a68 r63.1.2.2.2.length c68], R, R, ⟨[.slice a67 r63.1.2.2.1.length c67], [.slice a68 r63.1.2.2.2.length c68], R, ⟨_, _, R, h67⟩, ⟨_, _, R, h68⟩⟩⟩⟩, ⟨_, _, R, h69⟩⟩, ⟨[.slice a76 r73.1.1.length c76, .int .i64 r73.1.2.1, .slice a77 r73.1.2.2.1.length c77, .slice a78 r73.1.2.2.2.length c78, .map y79], [.slice a85 r82.1.1.length c85, .int .i64 r82.1.2.1, .slice a86 r82.1.2.2.1.length c86, .slice a87 r82.1.2.2.2.length c87, .map y88, .slice a50 r44.2.1.length c50, .slice a59 r56.length c59, .slice a99 r96.length c99], R, ⟨[.slice a76 r73.1.1.length c76, .int .i64 r73.1.2.1, .slice a77 r73.1.2.2.1.length c77, .slice a78 r73.1.2.2.2.length c78], [.map y79], R, ⟨[.slice a76 r73.1.1.length c76], [.int .i64 r73.1.2.1, .slice a77 r73.1.2.2.1.length c77, .slice a78 r73.1.2.2.2.length c78], R, ⟨_, _, R, h76⟩, ⟨[.int .i64 r73.1.2.1], [.slice a77 r73.1.2.2.1.length c77, .slice a78 r73.1.2.2.2.length c78], R, R, ⟨[.slice a77 r73.1.2.2.1.length c77], [.slice a78 r73.1.2.2.2.length c78], R, ⟨_, _, R, h77⟩, ⟨_, _, R, h78⟩⟩⟩⟩, ⟨_, _, R, h79⟩⟩, ⟨[.slice a85 r82.1.1.length c85, .int .i64 r82.1.2.1, .slice a86 r82.1.2.2.1.length c86, .slice a87 r82.1.2.2.2.length c87, .map y88], [.slice a50 r44.2.1.length c50, .slice a59 r56.length c59, .slice a99 r96.length c99], R, ⟨[.slice a85 r82.1.1.length c85, .int .i64 r82.1.2.1, .slice a86 r82.1.2.2.1.length c86, .slice a87 r82.1.2.2.2.length c87], [.map y88], R, ⟨[.slice a85 r82.1.1.length c85], [.int .i64 r82.1.2.1, .slice a86 r82.1.2.2.1.length c86, .slice a87 r82.1.2.2.2.length c87], R, ⟨_, _, R, h85⟩, ⟨[.int .i64 r82.1.2.1], [.slice a86 r82.1.2.2.1.length c86, .slice a87 r82.1.2.2.2.length c87], R, R, ⟨[.slice a86 r82.1.2.2.1.length c86], [.slice a87 r82.1.2.2.2.length c87], R, ⟨_, _, R, h86⟩, ⟨_, _, R, h87⟩⟩⟩⟩, ⟨_, _, R, h88⟩⟩, ⟨[.slice a50 r44.2.1.length c50], [.slice a59 r56.length c59, .slice a99 r96.length c99], R, ⟨_, _, R, h50⟩, ⟨[.slice a59 r56.length c59], [.slice a99 r96.length c99], R, ⟨_, _, R, h59⟩, ⟨_, _, R, h99⟩⟩⟩⟩⟩⟩).mono (Sig.ren_le hN))⟩⟩
 intro K109
 refine E.cut (x := .ret) (fun e w => ∃ (s111 : Sig) (u110 : Int), o30 = .inr (u110) ∧ Mv (Up N No) s s111 ∧ e = [(3, .int .i64 u110), (2, .pointer none)] ∧ w = s111.w) ?_ ?_
 ·rintro _ _ ⟨s111, u110, rfl, m0, rfl, rfl⟩
  dsimp only at hm
  refine X.blkR (X.seqR ?_)
  obtain rfl := oi hm
  exact X.rt (.inl R) Tryz.results52 (Rs.tmp R (Rs.tmp R Rs.nil)) R ⟨_, (s111).ren N (fun _ => 0), R, R, m0.ren hNb, ⟨.pointer none, R, PtO.nil⟩⟩
 intro K112
 refine E.iter (fun (st30 : Int) (e : List (Nat × Value)) (w : World) => ∃ (s32 : Sig), Mv (Up N No) s s32 ∧ RdL (rP (rL qI) (rP qI (rP (rL qI) (rL qT)))) s32 (some ⟨b12, 0, none⟩) (([p0.1, p0.2.1] : List AutT).length) ([p0.1, p0.2.1] : List AutT) ∧ RdL qI s32 a1 c1 p0.1.1 ∧ RdL qI s32 a2 c2 p0.1.2.2.1 ∧ RdL qT s32 a3 c3 p0.1.2.2.2 ∧ RdL qI s32 a4 c4 p0.2.1.1 ∧ RdL qI s32 a5 c5 p0.2.1.2.2.1 ∧ RdL qT s32 a6 c6 p0.2.1.2.2.2 ∧ RdL qI s32 a7 c7 p0.2.2 ∧ Bx s32 (N + 0) b9 #[.slice a1 p0.1.1.length c1, .int .i64 p0.1.2.1, .slice a2 p0.1.2.2.1.length c2, .slice a3 p0.1.2.2.2.length c3, .slice a4 p0.2.1.1.length c4, .int .i64 p0.2.1.2.1, .slice a5 p0.2.1.2.2.1.length c5, .slice a6 p0.2.1.2.2.2.length c6, .slice a7 p0.2.2.length c7] 27 ∧ e = [(18, .int .i64 st30), (17, .int .i64 (([p0.1, p0.2.1] : List AutT).length : Int)), (16, .slice (some ⟨b12, 0, none⟩) ([p0.1, p0.2.1] : List AutT).length (([p0.1, p0.2.1] : List AutT).length)), (1, .pointer (some ⟨b9, 0, none⟩))] ∧ w = s32.w) eo30 ⟨s13, m0, h12, h1, h2, h3, h4, h5, h6, h7, bx9, R, R⟩ (Sub.rf R) ?_
 rintro st30 res30 hm ih30 ho30 _ _ ⟨s32, m0, h12, h1, h2, h3, h4, h5, h6, h7, bx9, rfl, rfl⟩
 unfold m_scan_open_l1 at hm
 refine ER (L.bi Y R R R R (LN (E.seq ?_)))
 rcases ifS hm with ⟨hc, hm⟩ | ⟨hc, hm⟩
 ·refine E.cT R hc (E.skip (X.seqN (E.seq (E.block (E.seq (E.reg ?_))))))
  obtain ⟨x113, ex113, hm⟩ := bindS hm
  refine L.ix (r := (rP (rL qI) (rP qI (rP (rL qI) (rL qT))))) sl73 h12 Y R R ex113 R fun b114 o114 cc114 me114 rd114 => ?_
  obtain ⟨_, _, rfl, ⟨a115, c115, rfl, h115⟩, ⟨_, _, rfl, rfl, ⟨_, _, rfl, ⟨a116, c116, rfl, h116⟩, ⟨a117, c117, rfl, h117⟩⟩⟩⟩ := rd114
  refine L.lg (j := 0) (cs := [.slice a115 x113.1.length c115, .int .i64 x113.2.1, .slice a116 x113.2.2.1.length c116, .slice a117 x113.2.2.2.length c117]) me114 ag25 Y R R R R R (L.al (N + 1) zz25 R Y R fun b118 s119 m120 bx118 => ?_)
  refine L.st (c := [.slice a115 x113.1.length c115, .int .i64 x113.2.1, .slice a116 x113.2.2.1.length c116, .slice a117 x113.2.2.2.length c117]) (cs' := #[.slice a115 x113.1.length c115, .int .i64 x113.2.1, .slice a116 x113.2.2.1.length c116, .slice a117 x113.2.2.2.length c117]) bx118 ag25.sz Y R R R R R (nb R) R fun s121 m122 bx118 => ?_
  replace h115 := (h115.mono m120.z).mono (m122.le (tg0 hN))
  replace h116 := (h116.mono m120.z).mono (m122.le (tg0 hN))
  replace h117 := (h117.mono m120.z).mono (m122.le (tg0 hN))
  refine LN (ER (L.lg (j := 0) (cs := [.slice a115 x113.1.length c115, .int .i64 x113.2.1, .slice a116 x113.2.2.1.length c116, .slice a117 x113.2.2.2.length c117]) bx118.mem ag25 Y R R R R R ?_))
  obtain ⟨r123, er123, hm⟩ := bindS hm
  refine L.ca cf51 R R Y R (m_automaton_Check_c (s := s121) (p0 := x113) h115 h116 h117 er123) R ?_
  rintro _ s124 m125 rfl
  replace m0 := ((m0.trans m120.no).trans (m122.one up)).trans m125.no
  replace h12 := ((h12.mono m120.z).mono (m122.le (tg0 hN))).mono m125.z
  replace bx9 := ((bx9.mv m120 no_No).mv m122 (tq R)).mv m125 no_No
  replace h1 := ((h1.mono m120.z).mono (m122.le (tg0 hN))).mono m125.z
  replace h2 := ((h2.mono m120.z).mono (m122.le (tg0 hN))).mono m125.z
  replace h3 := ((h3.mono m120.z).mono (m122.le (tg0 hN))).mono m125.z
  replace h4 := ((h4.mono m120.z).mono (m122.le (tg0 hN))).mono m125.z
  replace h5 := ((h5.mono m120.z).mono (m122.le (tg0 hN))).mono m125.z
  replace h6 := ((h6.mono m120.z).mono (m122.le (tg0 hN))).mono m125.z
  replace h7 := ((h7.mono m120.z).mono (m122.le (tg0 hN))).mono m125.z
  refine L.as Y R R (LN (ER (L.mv Y R R (L.bi Y R R R R (L.nil (X.seqN ?_))))))
  rcases ifS hm with ⟨hc, hm⟩ | ⟨hc, hm⟩
  ·refine E.cT R hc (ER (L.mv Y R R (L.as Y R R (L.as Y R R (LN (E.ret (X.blkR (X.seqR (X.seqR ?_)))))))))
   have hx := ho30 _ (oi hm).symm
   exact X.sub (K112 _ _ ⟨s124, r123, hx.symm, m0, R, R⟩) (Sub.rf R)
  exact E.cF R hc (E.skip (X.blkN (X.seqN (E.reg (L.bi Y R R R R (L.mv Y R R (L.nil (X.sub (ih30 _ (oi hm).symm _ _ ⟨s124, m0, h12, h1, h2, h3, h4, h5, h6, h7, bx9, R, R⟩) (Sub.rf R)))))))))
 refine E.cF R hc (E.exit (X.seqX (X.seqX ?_)))
 have hx := ho30 _ (oi hm).symm
 exact X.sub (K109 _ _ ⟨s32, (), hx.symm, m0, h1, h2, h3, h4, h5, h6, h7, bx9, R, R⟩) (Sub.rf R)

noncomputable def m_scan_graph_to (p0 : AutT × (List ((Int × Int) × Int))) (p1 : Int) (p2 : Int) : Option Int :=
 if (kget p0.2 (p1, p2)).isSome then
  some ((kget p0.2 (p1, p2)).getD 0)
 else
  some (-1)
theorem m_scan_graph_to_c {s : Sig} {p0 : AutT × (List ((Int × Int) × Int))} {p1 : Int} {p2 : Int} {a1 : Option Addr} {c1 : Nat} {a2 : Option Addr} {c2 : Nat} {a3 : Option Addr} {c3 : Nat} {y4 : Option Nat} {c4 : Nat} {r : Int} (h1 : RdL qI s a1 c1 p0.1.1) (h2 : RdL qI s a2 c2 p0.1.2.2.1) (h3 : RdL qT s a3 c3 p0.1.2.2.2) (h4 : MapD kvP qI s y4 c4 p0.2) (hm : m_scan_graph_to p0 p1 p2 = some r) :
    Calls Tryz.prog 106 #[.agg #[.slice a1 p0.1.1.length c1, .int .i64 p0.1.2.1, .slice a2 p0.1.2.2.1.length c2, .slice a3 p0.1.2.2.2.length c3, .map y4], .int .i64 p1, .int .i64 p2] s.w (RetS No s fun v s' => v = .int .i64 r) := by
 unfold m_scan_graph_to at hm
 obtain ⟨N, hN, hNb⟩ := s.fresh
 have m0 : Mv (Up N No) s s := Mv.refl _ _
 refine E.entry Tryz.func106 R Tryz.ntmps106 R R (ER (L.box (N + 0) Y R R R fun b5 s6 m7 bx5 => ?_))
 replace m0 := m0.trans m7.no
 replace h4 := h4.mono m7.z
 refine L.as Y R R (LN (E.seq (ER (L.fa fa108_1 Y R R (L.ld (j := 4) bx5.mem nag106 Y R R R R (L.mv Y R R (L.mv Y R R (L.bu (cs := [.int .i64 p1, .int .i64 p2]) pl190 Y R R R (L.mi2 (k := (p1, p2)) md106 h4.any Y R R R (L.mv Y R R (L.ex Y R R R (L.ex Y R R R (L.as Y R R (L.as Y R R (LN (ER (L.mv Y R R (L.nil (X.seqN ?_)))))))))))))))))))
 rcases ifS hm with ⟨hc, hm⟩ | ⟨hc, hm⟩
 ·refine E.cT R hc (ER (L.mv Y R R (L.as Y R R (LN (E.ret (X.seqR ?_))))))
  obtain rfl := oi hm
  exact X.rt (.inl R) Tryz.results106 (Rs.tmp R Rs.nil) R ⟨_, (s6).ren N (fun _ => 0), R, R, m0.ren hNb, R⟩
 refine E.cF R hc (E.skip (X.seqN (ER (L.as Y R R (LN (E.ret ?_))))))
 obtain rfl := oi hm
 exact X.rt (.inl R) Tryz.results106 (Rs.tmp R Rs.nil) R ⟨_, (s6).ren N (fun _ => 0), R, R, m0.ren hNb, R⟩

theorem bs174 : Bs Tryz.prog 174 173 2 [.int .i64 0, .slice none 0 0] := Bs.mk' Tryz.underlying174 (by kernel_rfl) (by kernel_rfl) rfl
theorem cf106 : Cf Tryz.prog 106 := Cf.mk Tryz.func106 (by kernel_rfl) (by kernel_rfl)
theorem el173 : El Tryz.prog 173 2 32 := El.mk' (z := .agg #[.int .i64 0, .slice none 0 0]) (by kernel_rfl) (by kernel_rfl) (by kernel_rfl) rfl
theorem fa110_0 : FA Tryz.prog 110 0 0 := FA.mk Tryz.underlying110 rfl rfl ⟨5, by decide, by kernel_rfl⟩
theorem fa110_3 : FA Tryz.prog 110 3 15 := FA.mk Tryz.underlying110 rfl rfl ⟨1, by decide, by kernel_rfl⟩
theorem fa110_4 : FA Tryz.prog 110 4 16 := FA.mk Tryz.underlying110 rfl rfl ⟨1, by decide, by kernel_rfl⟩
theorem fa173_0 : FA Tryz.prog 173 0 0 := FA.mk Tryz.underlying173 rfl rfl ⟨1, by decide, by kernel_rfl⟩
theorem fa173_1 : FA Tryz.prog 173 1 1 := FA.mk Tryz.underlying173 rfl rfl ⟨1, by decide, by kernel_rfl⟩
theorem nag34 : NAg Tryz.prog 34 := NAg.mk' Tryz.underlying34 rfl (by kernel_rfl)
theorem pl173 : Pl Tryz.prog 173 [(0, 1), (1, 1)] [.int .i64 0, .slice none 0 0] := Pl.str Tryz.underlying173 (by kernel_rfl) (by kernel_rfl)
theorem sl174 : Sl Tryz.prog 174 173 2 := Sl.mk' Tryz.underlying174 (by kernel_rfl)
noncomputable def m_scan_task_bursts_j1 (st188 : Int × List (List Int) × (List (Int × List Int))) (l194 : List (List Int)) (l196 : List (Int × List Int)) : Option ((Int × List (List Int) × (List (Int × List Int))) ⊕ (List (List Int))) :=
 some (.inl (W (st188.1 + 1), l194, l196))
noncomputable def m_scan_task_bursts_j3 (st270 : Int × (List (Int × List Int))) (l276 : List (Int × List Int)) : Option ((Int × (List (Int × List Int))) ⊕ (List (Int × List Int))) :=
 some (.inl (W (st270.1 + 1), l276))
noncomputable def m_scan_task_bursts_l2 (p0 : (AutT × (List ((Int × Int) × Int))) × (AutT × (List ((Int × Int) × Int))) × (AutT × (List ((Int × Int) × Int))) × List (List Int) × List Int × List Int) (st188 : Int × List (List Int) × (List (Int × List Int))) (st270 : Int × (List (Int × List Int))) : Option ((Int × (List (Int × List Int))) ⊕ (List (Int × List Int))) :=
 if decide (st270.1 < (p0.2.2.2.2.1.length : Int)) then
  (idx p0.2.2.2.2.1 st270.1).bind fun x280 =>
  (idx st270.2 st188.1).bind fun x289 =>
  (m_scan_graph_to p0.1 x289.1 x280).bind fun r296 =>
  (if (r296 != (-1)) then
   (idx st270.2 st188.1).bind fun x327 =>
   (m_slices_Contains_int x327.2 x280).bind fun r330 =>
   some (!r330)
  else
   some false).bind fun b301 =>
  if b301 then
   (idx st270.2 st188.1).bind fun x304 =>
   (m_slices_Clone_int x304.2).bind fun r307 =>
   (app r307 ([x280] : List Int)).bind fun x314 =>
   (app st270.2 ([(r296, x314)] : List (Int × List Int))).bind fun x322 =>
   m_scan_task_bursts_j3 st270 x322
  else
   m_scan_task_bursts_j3 st270 st270.2
 else
  some (.inr st270.2)
noncomputable def m_scan_task_bursts_j2 (p0 : (AutT × (List ((Int × Int) × Int))) × (AutT × (List ((Int × Int) × Int))) × (AutT × (List ((Int × Int) × Int))) × List (List Int) × List Int × List Int) (p2 : Int) (st188 : Int × List (List Int) × (List (Int × List Int))) (l200 : List (List Int)) : Option ((Int × List (List Int) × (List (Int × List Int))) ⊕ (List (List Int))) :=
 (idx st188.2.2 st188.1).bind fun x204 =>
 if ((x204.2.length : Int) == p2) then
  m_scan_task_bursts_j1 st188 l200 st188.2.2
 else
  (iter (m_scan_task_bursts_l2 p0 st188) (0, st188.2.2)).bind fun o270 =>
  m_scan_task_bursts_j1 st188 l200 o270
noncomputable def m_scan_task_bursts_l1 (p0 : (AutT × (List ((Int × Int) × Int))) × (AutT × (List ((Int × Int) × Int))) × (AutT × (List ((Int × Int) × Int))) × List (List Int) × List Int × List Int) (p2 : Int) (st188 : Int × List (List Int) × (List (Int × List Int))) : Option ((Int × List (List Int) × (List (Int × List Int))) ⊕ (List (List Int))) :=
 if decide (st188.1 < (st188.2.2.length : Int)) then
  (idx st188.2.2 st188.1).bind fun x333 =>
  if decide ((x333.2.length : Int) > 1) then
   (idx st188.2.2 st188.1).bind fun x336 =>
   (app st188.2.1 ([x336.2] : List (List Int))).bind fun x342 =>
   m_scan_task_bursts_j2 p0 p2 st188 x342
  else
   m_scan_task_bursts_j2 p0 p2 st188 st188.2.1
 else
  some (.inr st188.2.1)
noncomputable def m_scan_task_bursts (p0 : (AutT × (List ((Int × Int) × Int))) × (AutT × (List ((Int × Int) × Int))) × (AutT × (List ((Int × Int) × Int))) × List (List Int) × List Int × List Int) (p1 : Int) (p2 : Int) : Option (List (List Int)) :=
 (idx p0.2.2.2.1 p1).bind fun x18 =>
 (idx x18 0).bind fun x21 =>
 (iter (m_scan_task_bursts_l1 p0 p2) (0, ([] : List (List Int)), ([(x21, ([] : List Int))] : List (Int × List Int)))).bind fun o188 =>
 some o188
theorem m_scan_task_bursts_c {s : Sig} {p0 : (AutT × (List ((Int × Int) × Int))) × (AutT × (List ((Int × Int) × Int))) × (AutT × (List ((Int × Int) × Int))) × List (List Int) × List Int × List Int} {p1 : Int} {p2 : Int} {t0 : Nat} {a1 : Option Addr} {c1 : Nat} {a2 : Option Addr} {c2 : Nat} {a3 : Option Addr} {c3 : Nat} {y4 : Option Nat} {c4 : Nat} {a5 : Option Addr} {c5 : Nat} {a6 : Option Addr} {c6 : Nat} {a7 : Option Addr} {c7 : Nat} {y8 : Option Nat} {c8 : Nat} {a9 : Option Addr} {c9 : Nat} {a10 : Option Addr} {c10 : Nat} {a11 : Option Addr} {c11 : Nat} {y12 : Option Nat} {c12 : Nat} {a13 : Option Addr} {c13 : Nat} {a14 : Option Addr} {c14 : Nat} {a15 : Option Addr} {c15 : Nat} {b16 : Nat} {u0 : Nat} {r : List (List Int)} (h1 : RdL qI s a1 c1 p0.1.1.1) (h2 : RdL qI s a2 c2 p0.1.1.2.2.1) (h3 : RdL qT s a3 c3 p0.1.1.2.2.2) (h4 : MapD kvP qI s y4 c4 p0.1.2) (h5 : RdL qI s a5 c5 p0.2.1.1.1) (h6 : RdL qI s a6 c6 p0.2.1.1.2.2.1) (h7 : RdL qT s a7 c7 p0.2.1.1.2.2.2) (h8 : MapD kvP qI s y8 c8 p0.2.1.2) (h9 : RdL qI s a9 c9 p0.2.2.1.1.1) (h10 : RdL qI s a10 c10 p0.2.2.1.1.2.2.1) (h11 : RdL qT s a11 c11 p0.2.2.1.1.2.2.2) (h12 : MapD kvP qI s y12 c12 p0.2.2.1.2) (h13 : RdL (rL qI) s a13 c13 p0.2.2.2.1) (h14 : RdL qI s a14 c14 p0.2.2.2.2.1) (h15 : RdL qI s a15 c15 p0.2.2.2.2.2) (bx16 : Bx s t0 b16 #[.slice a1 p0.1.1.1.length c1, .int .i64 p0.1.1.2.1, .slice a2 p0.1.1.2.2.1.length c2, .slice a3 p0.1.1.2.2.2.length c3, .map y4, .slice a5 p0.2.1.1.1.length c5, .int .i64 p0.2.1.1.2.1, .slice a6 p0.2.1.1.2.2.1.length c6, .slice a7 p0.2.1.1.2.2.2.length c7, .map y8, .slice a9 p0.2.2.1.1.1.length c9, .int .i64 p0.2.2.1.1.2.1, .slice a10 p0.2.2.1.1.2.2.1.length c10, .slice a11 p0.2.2.1.1.2.2.2.length c11, .map y12, .slice a13 p0.2.2.2.1.length c13, .slice a14 p0.2.2.2.2.1.length c14, .slice a15 p0.2.2.2.2.2.length c15] 110) (hm : m_scan_task_bursts p0 p1 p2 = some r) :
    Calls Tryz.prog 57 #[.pointer (some ⟨b16, 0, none⟩), .int .i64 p1, .int .i64 p2] s.w (RetS No s fun v s' => ∃ (a17 : Option Addr) (c17 : Nat), v = .slice a17 r.length c17 ∧ RowT (rL qI) s' u0 22 a17 c17 r) := by
 unfold m_scan_task_bursts at hm
 obtain ⟨N, hN, hNb, lt0, -⟩ := s.freshL [t0]
 have m0 : Mv (Up N No) s s := Mv.refl _ _
 refine E.entry Tryz.func57 R Tryz.ntmps57 R R (ER (L.as Y R R (LN (ER (L.mv Y R R (L.nc Y R R (L.fa fa110_3 Y R R (L.ld (j := 15) bx16.mem nag34 Y R R R R (L.mv Y R R ?_)))))))))
 obtain ⟨x18, ex18, hm⟩ := bindS hm
 refine L.ix (r := (rL qI)) sl34 h13 Y R R ex18 R fun b19 o19 cc19 me19 rd19 => ?_
 obtain ⟨a20, c20, rfl, h20⟩ := rd19
 refine L.ld (j := 0) me19 nag22 Y R R R R ?_
 obtain ⟨x21, ex21, hm⟩ := bindS hm
 refine L.ix (r := qI) sl22 h20 Y R R ex21 R fun b22 o22 cc22 me22 rd22 => ?_
 obtain rfl := rd22
 refine L.ld (j := 0) me22 nag3 Y R R R R (L.bu (cs := [.int .i64 x21, .slice none 0 0]) pl173 Y R R R (L.bsE (k := 1) (cs := [.int .i64 x21, .slice none 0 0]) (N + 2) bs174 (nb R) Y R R R R fun b23 s24 m25 bx23 => ?_))
 replace m0 := m0.trans m25.no
 replace bx16 := bx16.mv m25 no_No
 replace h1 := h1.mono m25.z
 replace h2 := h2.mono m25.z
 replace h3 := h3.mono m25.z
 replace h4 := h4.mono m25.z
 replace h5 := h5.mono m25.z
 replace h6 := h6.mono m25.z
 replace h7 := h7.mono m25.z
 replace h8 := h8.mono m25.z
 replace h9 := h9.mono m25.z
 replace h10 := h10.mono m25.z
 replace h11 := h11.mono m25.z
 replace h12 := h12.mono m25.z
 replace h13 := h13.mono m25.z
 replace h14 := h14.mono m25.z
 replace h15 := h15.mono m25.z
 have h23 := Bx.row (r := (rP qI (rL qI))) (xs := ([(x21, ([] : List Int))] : List (Int × List Int))) bx23 ⟨[.int .i64 x21, .slice none 0 0], _, R, ⟨[.int .i64 x21], [.slice none 0 0], R, R, ⟨none, 0, R, RdL.nil⟩⟩, R⟩ (nb R)
 refine L.as Y R R (LN (ER (L.as Y R R (LN (E.seq (ER (L.as Y R R (LN (E.block ?_)))))))))
 obtain ⟨o188, eo188, hm⟩ := bindS hm
 refine E.cut (x := .exit 0) (fun e w => ∃ (s192 : Sig) (a190 : Option Addr) (c190 : Nat), Mv (Up N No) s s192 ∧ RowT (rL qI) s192 (N + 0) 22 a190 c190 o188 ∧ RdL qI s192 a1 c1 p0.1.1.1 ∧ RdL qI s192 a2 c2 p0.1.1.2.2.1 ∧ RdL qT s192 a3 c3 p0.1.1.2.2.2 ∧ MapD kvP qI s192 y4 c4 p0.1.2 ∧ RdL qI s192 a5 c5 p0.2.1.1.1 ∧ RdL qI s192 a6 c6 p0.2.1.1.2.2.1 ∧ RdL qT s192 a7 c7 p0.2.1.1.2.2.2 ∧ MapD kvP qI s192 y8 c8 p0.2.1.2 ∧ RdL qI s192 a9 c9 p0.2.2.1.1.1 ∧ RdL qI s192 a10 c10 p0.2.2.1.1.2.2.1 ∧ RdL qT s192 a11 c11 p0.2.2.1.1.2.2.2 ∧ MapD kvP qI s192 y12 c12 p0.2.2.1.2 ∧ RdL (rL qI) s192 a13 c13 p0.2.2.2.1 ∧ RdL qI s192 a14 c14 p0.2.2.2.2.1 ∧ RdL qI s192 a15 c15 p0.2.2.2.2.2 ∧ Bx s192 t0 b16 #[.slice a1 p0.1.1.1.length c1, .int .i64 p0.1.1.2.1, .slice a2 p0.1.1.2.2.1.length c2, .slice a3 p0.1.1.2.2.2.length c3, .map y4, .slice a5 p0.2.1.1.1.length c5, .int .i64 p0.2.1.1.2.1, .slice a6 p0.2.1.1.2.2.1.length c6, .slice a7 p0.2.1.1.2.2.2.length c7, .map y8, .slice a9 p0.2.2.1.1.1.length c9, .int .i64 p0.2.2.1.1.2.1, .slice a10 p0.2.2.1.1.2.2.1.length c10, .slice a11 p0.2.2.1.1.2.2.2.length c11, .map y12, .slice a13 p0.2.2.2.1.length c13, .slice a14 p0.2.2.2.2.1.length c14, .slice a15 p0.2.2.2.2.2.length c15] 110 ∧ e = [(8, .slice a190 o188.length c190)] ∧ w = s192.w) ?_ ?_
 ·rintro _ _ ⟨s192, a190, c190, m0, h190, h1, h2, h3, h4, h5, h6, h7, h8, h9, h10, h11, h12, h13, h14, h15, bx16, rfl, rfl⟩
  refine X.blkE (X.seqN (ER (L.mv Y R R (L.as Y R R (LN (E.ret ?_))))))
  obtain rfl := oi hm
  exact X.rt (.inl R) Tryz.results57 (Rs.tmp R Rs.nil) R ⟨_, (s192).ren N (fun k => cond (Nat.beq k 0) u0 (0)), R, R, m0.ren hNb, ⟨a190, c190, R, (h190.ren hN)⟩⟩
 intro K193
 refine E.iter (fun (st188 : Int × List (List Int) × (List (Int × List Int))) (e : List (Nat × Value)) (w : World) => ∃ (s191 : Sig) (a28 : Option Addr) (c28 : Nat) (a30 : Option Addr) (c30 : Nat), Mv (Up N No) s s191 ∧ RowT (rL qI) s191 (N + 0) 22 a28 c28 st188.2.1 ∧ RowT (rP qI (rL qI)) s191 (N + 2) 173 a30 c30 st188.2.2 ∧ RdL qI s191 a1 c1 p0.1.1.1 ∧ RdL qI s191 a2 c2 p0.1.1.2.2.1 ∧ RdL qT s191 a3 c3 p0.1.1.2.2.2 ∧ MapD kvP qI s191 y4 c4 p0.1.2 ∧ RdL qI s191 a5 c5 p0.2.1.1.1 ∧ RdL qI s191 a6 c6 p0.2.1.1.2.2.1 ∧ RdL qT s191 a7 c7 p0.2.1.1.2.2.2 ∧ MapD kvP qI s191 y8 c8 p0.2.1.2 ∧ RdL qI s191 a9 c9 p0.2.2.1.1.1 ∧ RdL qI s191 a10 c10 p0.2.2.1.1.2.2.1 ∧ RdL qT s191 a11 c11 p0.2.2.1.1.2.2.2 ∧ MapD kvP qI s191 y12 c12 p0.2.2.1.2 ∧ RdL (rL qI) s191 a13 c13 p0.2.2.2.1 ∧ RdL qI s191 a14 c14 p0.2.2.2.2.1 ∧ RdL qI s191 a15 c15 p0.2.2.2.2.2 ∧ Bx s191 t0 b16 #[.slice a1 p0.1.1.1.length c1, .int .i64 p0.1.1.2.1, .slice a2 p0.1.1.2.2.1.length c2, .slice a3 p0.1.1.2.2.2.length c3, .map y4, .slice a5 p0.2.1.1.1.length c5, .int .i64 p0.2.1.1.2.1, .slice a6 p0.2.1.1.2.2.1.length c6, .slice a7 p0.2.1.1.2.2.2.length c7, .map y8, .slice a9 p0.2.2.1.1.1.length c9, .int .i64 p0.2.2.1.1.2.1, .slice a10 p0.2.2.1.1.2.2.1.length c10, .slice a11 p0.2.2.1.1.2.2.2.length c11, .map y12, .slice a13 p0.2.2.2.1.length c13, .slice a14 p0.2.2.2.2.1.length c14, .slice a15 p0.2.2.2.2.2.length c15] 110 ∧ e = [(9, .int .i64 st188.1), (8, .slice a28 st188.2.1.length c28), (7, .slice a30 st188.2.2.length c30), (0, .pointer (some ⟨b16, 0, none⟩)), (2, .int .i64 p2)] ∧ w = s191.w) eo188 ⟨s24, none, 0, (some ⟨b23, 0, none⟩), ([(x21, ([] : List Int))] : List (Int × List Int)).length, m0, RowT.nil, h23, h1, h2, h3, h4, h5, h6, h7, h8, h9, h10, h11, h12, h13, h14, h15, bx16, R, R⟩ (Sub.rf R) ?_
 rintro st188 res188 hm ih188 ho188 _ _ ⟨s191, a28, c28, a30, c30, m0, h28, h30, h1, h2, h3, h4, h5, h6, h7, h8, h9, h10, h11, h12, h13, h14, h15, bx16, rfl, rfl⟩
 unfold m_scan_task_bursts_l1 at hm
 refine E.seq (ER (L.mv Y R R (L.mv Y R R (L.len sl174 Y R R (L.bi Y R R R R (L.nil (X.seqN ?_)))))))
 rcases ifS hm with ⟨hc, hm⟩ | ⟨hc, hm⟩
 ·refine E.cT R hc (E.skip (X.seqN (E.seqJ (fun e w => ∃ (s198 : Sig) (l194 : List (List Int)) (l196 : List (Int × List Int)) (a195 : Option Addr) (c195 : Nat) (a197 : Option Addr) (c197 : Nat), m_scan_task_bursts_j1 st188 l194 l196 = some res188 ∧ Mv (Up N No) s s198 ∧ RowT (rL qI) s198 (N + 0) 22 a195 c195 l194 ∧ RowT (rP qI (rL qI)) s198 (N + 2) 173 a197 c197 l196 ∧ RdL qI s198 a1 c1 p0.1.1.1 ∧ RdL qI s198 a2 c2 p0.1.1.2.2.1 ∧ RdL qT s198 a3 c3 p0.1.1.2.2.2 ∧ MapD kvP qI s198 y4 c4 p0.1.2 ∧ RdL qI s198 a5 c5 p0.2.1.1.1 ∧ RdL qI s198 a6 c6 p0.2.1.1.2.2.1 ∧ RdL qT s198 a7 c7 p0.2.1.1.2.2.2 ∧ MapD kvP qI s198 y8 c8 p0.2.1.2 ∧ RdL qI s198 a9 c9 p0.2.2.1.1.1 ∧ RdL qI s198 a10 c10 p0.2.2.1.1.2.2.1 ∧ RdL qT s198 a11 c11 p0.2.2.1.1.2.2.2 ∧ MapD kvP qI s198 y12 c12 p0.2.2.1.2 ∧ RdL (rL qI) s198 a13 c13 p0.2.2.2.1 ∧ RdL qI s198 a14 c14 p0.2.2.2.2.1 ∧ RdL qI s198 a15 c15 p0.2.2.2.2.2 ∧ Bx s198 t0 b16 #[.slice a1 p0.1.1.1.length c1, .int .i64 p0.1.1.2.1, .slice a2 p0.1.1.2.2.1.length c2, .slice a3 p0.1.1.2.2.2.length c3, .map y4, .slice a5 p0.2.1.1.1.length c5, .int .i64 p0.2.1.1.2.1, .slice a6 p0.2.1.1.2.2.1.length c6, .slice a7 p0.2.1.1.2.2.2.length c7, .map y8, .slice a9 p0.2.2.1.1.1.length c9, .int .i64 p0.2.2.1.1.2.1, .slice a10 p0.2.2.1.1.2.2.1.length c10, .slice a11 p0.2.2.1.1.2.2.2.length c11, .map y12, .slice a13 p0.2.2.2.1.length c13, .slice a14 p0.2.2.2.2.1.length c14, .slice a15 p0.2.2.2.2.2.length c15] 110 ∧ e = [(8, .slice a195 l194.length c195), (9, .int .i64 st188.1), (7, .slice a197 l196.length c197), (0, .pointer (some ⟨b16, 0, none⟩)), (2, .int .i64 p2)] ∧ w = s198.w) ?_ ?_)))
  ·rintro _ _ ⟨s198, l194, l196, a195, c195, a197, c197, hm, m0, h195, h197, h1, h2, h3, h4, h5, h6, h7, h8, h9, h10, h11, h12, h13, h14, h15, bx16, rfl, rfl⟩
   unfold m_scan_task_bursts_j1 at hm
   exact E.reg (L.mv Y R R (L.bi Y R R R R (L.as Y R R (L.nil (X.sub (ih188 _ (oi hm).symm _ _ ⟨s198, a195, c195, a197, c197, m0, h195, h197, h1, h2, h3, h4, h5, h6, h7, h8, h9, h10, h11, h12, h13, h14, h15, bx16, R, R⟩) (Sub.rf R))))))
  intro Jj199
  refine E.block (E.seqJ (fun e w => ∃ (s202 : Sig) (l200 : List (List Int)) (a201 : Option Addr) (c201 : Nat), m_scan_task_bursts_j2 p0 p2 st188 l200 = some res188 ∧ Mv (Up N No) s s202 ∧ RowT (rL qI) s202 (N + 0) 22 a201 c201 l200 ∧ RowT (rP qI (rL qI)) s202 (N + 2) 173 a30 c30 st188.2.2 ∧ RdL qI s202 a1 c1 p0.1.1.1 ∧ RdL qI s202 a2 c2 p0.1.1.2.2.1 ∧ RdL qT s202 a3 c3 p0.1.1.2.2.2 ∧ MapD kvP qI s202 y4 c4 p0.1.2 ∧ RdL qI s202 a5 c5 p0.2.1.1.1 ∧ RdL qI s202 a6 c6 p0.2.1.1.2.2.1 ∧ RdL qT s202 a7 c7 p0.2.1.1.2.2.2 ∧ MapD kvP qI s202 y8 c8 p0.2.1.2 ∧ RdL qI s202 a9 c9 p0.2.2.1.1.1 ∧ RdL qI s202 a10 c10 p0.2.2.1.1.2.2.1 ∧ RdL qT s202 a11 c11 p0.2.2.1.1.2.2.2 ∧ MapD kvP qI s202 y12 c12 p0.2.2.1.2 ∧ RdL (rL qI) s202 a13 c13 p0.2.2.2.1 ∧ RdL qI s202 a14 c14 p0.2.2.2.2.1 ∧ RdL qI s202 a15 c15 p0.2.2.2.2.2 ∧ Bx s202 t0 b16 #[.slice a1 p0.1.1.1.length c1, .int .i64 p0.1.1.2.1, .slice a2 p0.1.1.2.2.1.length c2, .slice a3 p0.1.1.2.2.2.length c3, .map y4, .slice a5 p0.2.1.1.1.length c5, .int .i64 p0.2.1.1.2.1, .slice a6 p0.2.1.1.2.2.1.length c6, .slice a7 p0.2.1.1.2.2.2.length c7, .map y8, .slice a9 p0.2.2.1.1.1.length c9, .int .i64 p0.2.2.1.1.2.1, .slice a10 p0.2.2.1.1.2.2.1.length c10, .slice a11 p0.2.2.1.1.2.2.2.length c11, .map y12, .slice a13 p0.2.2.2.1.length c13, .slice a14 p0.2.2.2.2.1.length c14, .slice a15 p0.2.2.2.2.2.length c15] 110 ∧ e = [(8, .slice a201 l200.length c201), (9, .int .i64 st188.1), (7, .slice a30 st188.2.2.length c30), (0, .pointer (some ⟨b16, 0, none⟩)), (2, .int .i64 p2)] ∧ w = s202.w) ?_ ?_)
  ·rintro _ _ ⟨s202, l200, a201, c201, hm, m0, h201, h30, h1, h2, h3, h4, h5, h6, h7, h8, h9, h10, h11, h12, h13, h14, h15, bx16, rfl, rfl⟩
   unfold m_scan_task_bursts_j2 at hm
   refine E.seq (ER (L.mv Y R R (L.mv Y R R ?_)))
   obtain ⟨x204, ex204, hm⟩ := bindS hm
   refine L.ir (r := (rP qI (rL qI))) sl174 h30 Y R R ex204 R fun b205 o205 cc205 me205 rd205 sp205 => ?_
   obtain ⟨_, _, rfl, rfl, ⟨a206, c206, rfl, h206⟩⟩ := rd205
   refine L.fa fa173_1 Y R R (L.ld (j := 1) me205 nag22 Y R R R R (L.len sl22 Y R R (L.mv Y R R (L.bi Y R R R R (L.nil (X.seqN ?_))))))
   rcases ifS hm with ⟨hc, hm⟩ | ⟨hc, hm⟩
   ·exact E.cT R hc (E.exit (X.seqX (X.blkE (X.sub (Jj199 _ _ ⟨s202, l200, st188.2.2, a201, c201, a30, c30, hm, m0, h201, h30, h1, h2, h3, h4, h5, h6, h7, h8, h9, h10, h11, h12, h13, h14, h15, bx16, R, R⟩) (Sub.rf R)))))
   refine E.cF R hc (E.skip (X.seqN (ER (L.mv Y R R (L.nc Y R R (L.fa fa110_4 Y R R (L.ld (j := 16) bx16.mem nag22 Y R R R R (L.len sl22 Y R R (L.mv Y R R (LN (E.block ?_)))))))))))
   obtain ⟨o270, eo270, hm⟩ := bindS hm
   refine E.cut (x := .exit 2) (fun e w => ∃ (s274 : Sig) (a272 : Option Addr) (c272 : Nat), Mv (Up N No) s s274 ∧ RowT (rL qI) s274 (N + 0) 22 a201 c201 l200 ∧ RowT (rP qI (rL qI)) s274 (N + 2) 173 a272 c272 o270 ∧ RdL qI s274 a1 c1 p0.1.1.1 ∧ RdL qI s274 a2 c2 p0.1.1.2.2.1 ∧ RdL qT s274 a3 c3 p0.1.1.2.2.2 ∧ MapD kvP qI s274 y4 c4 p0.1.2 ∧ RdL qI s274 a5 c5 p0.2.1.1.1 ∧ RdL qI s274 a6 c6 p0.2.1.1.2.2.1 ∧ RdL qT s274 a7 c7 p0.2.1.1.2.2.2 ∧ MapD kvP qI s274 y8 c8 p0.2.1.2 ∧ RdL qI s274 a9 c9 p0.2.2.1.1.1 ∧ RdL qI s274 a10 c10 p0.2.2.1.1.2.2.1 ∧ RdL qT s274 a11 c11 p0.2.2.1.1.2.2.2 ∧ MapD kvP qI s274 y12 c12 p0.2.2.1.2 ∧ RdL (rL qI) s274 a13 c13 p0.2.2.2.1 ∧ RdL qI s274 a14 c14 p0.2.2.2.2.1 ∧ RdL qI s274 a15 c15 p0.2.2.2.2.2 ∧ Bx s274 t0 b16 #[.slice a1 p0.1.1.1.length c1, .int .i64 p0.1.1.2.1, .slice a2 p0.1.1.2.2.1.length c2, .slice a3 p0.1.1.2.2.2.length c3, .map y4, .slice a5 p0.2.1.1.1.length c5, .int .i64 p0.2.1.1.2.1, .slice a6 p0.2.1.1.2.2.1.length c6, .slice a7 p0.2.1.1.2.2.2.length c7, .map y8, .slice a9 p0.2.2.1.1.1.length c9, .int .i64 p0.2.2.1.1.2.1, .slice a10 p0.2.2.1.1.2.2.1.length c10, .slice a11 p0.2.2.1.1.2.2.2.length c11, .map y12, .slice a13 p0.2.2.2.1.length c13, .slice a14 p0.2.2.2.2.1.length c14, .slice a15 p0.2.2.2.2.2.length c15] 110 ∧ e = [(8, .slice a201 l200.length c201), (9, .int .i64 st188.1), (7, .slice a272 o270.length c272), (0, .pointer (some ⟨b16, 0, none⟩)), (2, .int .i64 p2)] ∧ w = s274.w) ?_ ?_
   ·rintro _ _ ⟨s274, a272, c272, m0, h201, h272, h1, h2, h3, h4, h5, h6, h7, h8, h9, h10, h11, h12, h13, h14, h15, bx16, rfl, rfl⟩
    exact X.blkE (X.blkN (X.sub (Jj199 _ _ ⟨s274, l200, o270, a201, c201, a272, c272, hm, m0, h201, h272, h1, h2, h3, h4, h5, h6, h7, h8, h9, h10, h11, h12, h13, h14, h15, bx16, R, R⟩) (Sub.rf R)))
   intro K275
   refine E.iter (fun (st270 : Int × (List (Int × List Int))) (e : List (Nat × Value)) (w : World) => ∃ (s273 : Sig) (a209 : Option Addr) (c209 : Nat), Mv (Up N No) s s273 ∧ RdL qI s273 a14 c14 p0.2.2.2.2.1 ∧ RowT (rL qI) s273 (N + 0) 22 a201 c201 l200 ∧ RowT (rP qI (rL qI)) s273 (N + 2) 173 a209 c209 st270.2 ∧ RdL qI s273 a1 c1 p0.1.1.1 ∧ RdL qI s273 a2 c2 p0.1.1.2.2.1 ∧ RdL qT s273 a3 c3 p0.1.1.2.2.2 ∧ MapD kvP qI s273 y4 c4 p0.1.2 ∧ RdL qI s273 a5 c5 p0.2.1.1.1 ∧ RdL qI s273 a6 c6 p0.2.1.1.2.2.1 ∧ RdL qT s273 a7 c7 p0.2.1.1.2.2.2 ∧ MapD kvP qI s273 y8 c8 p0.2.1.2 ∧ RdL qI s273 a9 c9 p0.2.2.1.1.1 ∧ RdL qI s273 a10 c10 p0.2.2.1.1.2.2.1 ∧ RdL qT s273 a11 c11 p0.2.2.1.1.2.2.2 ∧ MapD kvP qI s273 y12 c12 p0.2.2.1.2 ∧ RdL (rL qI) s273 a13 c13 p0.2.2.2.1 ∧ RdL qI s273 a15 c15 p0.2.2.2.2.2 ∧ Bx s273 t0 b16 #[.slice a1 p0.1.1.1.length c1, .int .i64 p0.1.1.2.1, .slice a2 p0.1.1.2.2.1.length c2, .slice a3 p0.1.1.2.2.2.length c3, .map y4, .slice a5 p0.2.1.1.1.length c5, .int .i64 p0.2.1.1.2.1, .slice a6 p0.2.1.1.2.2.1.length c6, .slice a7 p0.2.1.1.2.2.2.length c7, .map y8, .slice a9 p0.2.2.1.1.1.length c9, .int .i64 p0.2.2.1.1.2.1, .slice a10 p0.2.2.1.1.2.2.1.length c10, .slice a11 p0.2.2.1.1.2.2.2.length c11, .map y12, .slice a13 p0.2.2.2.1.length c13, .slice a14 p0.2.2.2.2.1.length c14, .slice a15 p0.2.2.2.2.2.length c15] 110 ∧ e = [(58, .int .i64 st270.1), (57, .int .i64 (p0.2.2.2.2.1.length : Int)), (56, .slice a14 p0.2.2.2.2.1.length c14), (8, .slice a201 l200.length c201), (9, .int .i64 st188.1), (7, .slice a209 st270.2.length c209), (0, .pointer (some ⟨b16, 0, none⟩)), (2, .int .i64 p2)] ∧ w = s273.w) eo270 ⟨s202, a30, c30, m0, h14, h201, h30, h1, h2, h3, h4, h5, h6, h7, h8, h9, h10, h11, h12, h13, h15, bx16, R, R⟩ (Sub.rf R) ?_
   rintro st270 res270 hm ih270 ho270 _ _ ⟨s273, a209, c209, m0, h14, h201, h209, h1, h2, h3, h4, h5, h6, h7, h8, h9, h10, h11, h12, h13, h15, bx16, rfl, rfl⟩
   unfold m_scan_task_bursts_l2 at hm
   refine ER (L.bi Y R R R R (LN (E.seq ?_)))
   rcases ifS hm with ⟨hc, hm⟩ | ⟨hc, hm⟩
   ·refine E.cT R hc (E.skip (X.seqN (E.seqJ (fun e w => ∃ (s278 : Sig) (l276 : List (Int × List Int)) (a277 : Option Addr) (c277 : Nat), m_scan_task_bursts_j3 st270 l276 = some res270 ∧ Mv (Up N No) s s278 ∧ RowT (rP qI (rL qI)) s278 (N + 2) 173 a277 c277 l276 ∧ RdL qI s278 a14 c14 p0.2.2.2.2.1 ∧ RowT (rL qI) s278 (N + 0) 22 a201 c201 l200 ∧ RdL qI s278 a1 c1 p0.1.1.1 ∧ RdL qI s278 a2 c2 p0.1.1.2.2.1 ∧ RdL qT s278 a3 c3 p0.1.1.2.2.2 ∧ MapD kvP qI s278 y4 c4 p0.1.2 ∧ RdL qI s278 a5 c5 p0.2.1.1.1 ∧ RdL qI s278 a6 c6 p0.2.1.1.2.2.1 ∧ RdL qT s278 a7 c7 p0.2.1.1.2.2.2 ∧ MapD kvP qI s278 y8 c8 p0.2.1.2 ∧ RdL qI s278 a9 c9 p0.2.2.1.1.1 ∧ RdL qI s278 a10 c10 p0.2.2.1.1.2.2.1 ∧ RdL qT s278 a11 c11 p0.2.2.1.1.2.2.2 ∧ MapD kvP qI s278 y12 c12 p0.2.2.1.2 ∧ RdL (rL qI) s278 a13 c13 p0.2.2.2.1 ∧ RdL qI s278 a15 c15 p0.2.2.2.2.2 ∧ Bx s278 t0 b16 #[.slice a1 p0.1.1.1.length c1, .int .i64 p0.1.1.2.1, .slice a2 p0.1.1.2.2.1.length c2, .slice a3 p0.1.1.2.2.2.length c3, .map y4, .slice a5 p0.2.1.1.1.length c5, .int .i64 p0.2.1.1.2.1, .slice a6 p0.2.1.1.2.2.1.length c6, .slice a7 p0.2.1.1.2.2.2.length c7, .map y8, .slice a9 p0.2.2.1.1.1.length c9, .int .i64 p0.2.2.1.1.2.1, .slice a10 p0.2.2.1.1.2.2.1.length c10, .slice a11 p0.2.2.1.1.2.2.2.length c11, .map y12, .slice a13 p0.2.2.2.1.length c13, .slice a14 p0.2.2.2.2.1.length c14, .slice a15 p0.2.2.2.2.2.length c15] 110 ∧ e = [(7, .slice a277 l276.length c277), (58, .int .i64 st270.1), (57, .int .i64 (p0.2.2.2.2.1.length : Int)), (56, .slice a14 p0.2.2.2.2.1.length c14), (8, .slice a201 l200.length c201), (9, .int .i64 st188.1), (0, .pointer (some ⟨b16, 0, none⟩)), (2, .int .i64 p2)] ∧ w = s278.w) ?_ ?_)))
    ·rintro _ _ ⟨s278, l276, a277, c277, hm, m0, h277, h14, h201, h1, h2, h3, h4, h5, h6, h7, h8, h9, h10, h11, h12, h13, h15, bx16, rfl, rfl⟩
     unfold m_scan_task_bursts_j3 at hm
     exact E.reg (L.bi Y R R R R (L.mv Y R R (L.nil (X.sub (ih270 _ (oi hm).symm _ _ ⟨s278, a277, c277, m0, h14, h201, h277, h1, h2, h3, h4, h5, h6, h7, h8, h9, h10, h11, h12, h13, h15, bx16, R, R⟩) (Sub.rf R)))))
    intro Jj279
    refine E.block (E.seq (E.reg ?_))
    obtain ⟨x280, ex280, hm⟩ := bindS hm
    refine L.ix (r := qI) sl22 h14 Y R R ex280 R fun b281 o281 cc281 me281 rd281 => ?_
    obtain rfl := rd281
    refine L.ld (j := 0) me281 nag3 Y R R R R (L.as Y R R (LN (E.seq ?_)))
    obtain ⟨x289, ex289, hm⟩ := bindS hm
    obtain ⟨r296, er296, hm⟩ := bindS hm
    refine E.draw [[], [0], [0, 1], [0, 1, 2], [], [], [4, 5], [4, 5, 6], [4, 5, 6, 7], [], [0, 1, 2, 3, 4, 5, 6, 7, 8, 9], [0, 1, 2, 3, 4, 5, 6, 7, 8, 9, 10]] (fun D e sx => Mv No s273 sx ∧ Sub [(11, .int .i64 x280), (58, .int .i64 st270.1), (57, .int .i64 (p0.2.2.2.2.1.length : Int)), (56, .slice a14 p0.2.2.2.2.1.length c14), (8, .slice a201 l200.length c201), (9, .int .i64 st188.1), (7, .slice a209 st270.2.length c209), (0, .pointer (some ⟨b16, 0, none⟩)), (2, .int .i64 p2)] e ∧ AllP [G D e 0 62 (.pointer (some ⟨b16, 0, none⟩)), G D e 1 63 (.pointer (some ⟨b16, 0, none⟩)), G D e 2 64 (.pointer (some ⟨b16, 0, none⟩)), G D e 3 65 (.agg #[.slice a1 p0.1.1.1.length c1, .int .i64 p0.1.1.2.1, .slice a2 p0.1.1.2.2.1.length c2, .slice a3 p0.1.1.2.2.2.length c3, .map y4]), G D e 4 66 (.slice a209 st270.2.length c209), G D e 5 67 (.int .i64 st188.1), D 6 = true → (∃ (b290 : Nat) (o290 : Nat) (a291 : Option Addr) (c291 : Nat), Env.get e 68 = some (.pointer (some ⟨b290, o290, none⟩)) ∧ Mem sx (N + 2) b290 o290 [.int .i64 x289.1, .slice a291 x289.2.length c291] ∧ RdL qI sx a291 c291 x289.2 ∧ Spot a209 (rP qI (rL qI)).sz (st188.1).toNat b290 o290), D 7 = true → ∀ (b290 : Nat) (o290 : Nat) (a291 : Option Addr) (c291 : Nat), Env.get e 68 = some (.pointer (some ⟨b290, o290, none⟩)) → (Env.get e 69 = some (.pointer (some ⟨b290, o290 + 0, none⟩))), G D e 8 70 (.int .i64 x289.1), G D e 9 71 (.int .i64 x280), G D e 10 72 (.int .i64 r296), G D e 11 12 (.int .i64 r296)]) (by kernel_rfl) (by kernel_rfl) (by kernel_rfl) ?_ ?_ ?_
    ·intro sz mz
     exact ⟨mz, (Sub.rf R), nofun, nofun, nofun, nofun, nofun, nofun, nofun, nofun, nofun, nofun, nofun, nofun, trivial⟩
    ·refine ⟨?_, ?_, ?_, ?_, ?_, ?_, ?_, ?_, ?_, ?_, ?_, ?_, trivial⟩
     ·rintro D e s282 ⟨im, ib, i⟩ hk hf ha
      have kn := K1 (ib 0 _ R)
      exact kn.g (L.mv Y R R (L.nil (X.dk kn ⟨im, Sub.fresh ib R, i.u 0 (fun _ => R)⟩)))
     ·rintro D e s283 ⟨im, ib, i⟩ hk hf ha
      have kn := K1 ((i.p 0) (ha.at 0 R))
      exact kn.g (L.nc Y R R (L.nil (X.dk kn ⟨im, Sub.fresh ib R, i.u 1 (fun _ => R)⟩)))
     ·rintro D e s284 ⟨im, ib, i⟩ hk hf ha
      have kn := K1 ((i.p 1) (ha.at 1 R))
      exact kn.g (L.fa fa110_0 Y R R (L.nil (X.dk kn ⟨im, Sub.fresh ib R, i.u 2 (fun _ => R)⟩)))
     ·rintro D e s285 ⟨im, ib, i⟩ hk hf ha
      have bx16 := bx16.mv im no_No
      have kn := K1 ((i.p 2) (ha.at 2 R))
      exact kn.g (L.lg (j := 0) (cs := [.slice a1 p0.1.1.1.length c1, .int .i64 p0.1.1.2.1, .slice a2 p0.1.1.2.2.1.length c2, .slice a3 p0.1.1.2.2.2.length c3, .map y4]) bx16.mem ag108 Y R R R R R (L.nil (X.dk kn ⟨im, Sub.fresh ib R, i.u 3 (fun _ => R)⟩)))
     ·rintro D e s286 ⟨im, ib, i⟩ hk hf ha
      have kn := K1 (ib 7 _ R)
      exact kn.g (L.mv Y R R (L.nil (X.dk kn ⟨im, Sub.fresh ib R, i.u 4 (fun _ => R)⟩)))
     ·rintro D e s287 ⟨im, ib, i⟩ hk hf ha
      have kn := K1 (ib 9 _ R)
      exact kn.g (L.mv Y R R (L.nil (X.dk kn ⟨im, Sub.fresh ib R, i.u 5 (fun _ => R)⟩)))
     ·rintro D e s288 ⟨im, ib, i⟩ hk hf ha
      have h209 := h209.mv im no_No no_No
      have kn := K2 ((i.p 4) (ha.at 4 R)) ((i.p 5) (ha.at 5 R))
      refine kn.g (L.ir (r := (rP qI (rL qI))) sl174 h209 Y R R ex289 R fun b290 o290 cc290 me290 rd290 sp290 => ?_)
      obtain ⟨_, _, rfl, rfl, ⟨a291, c291, rfl, h291⟩⟩ := rd290
      exact L.nil (X.dk kn ⟨im, Sub.fresh ib R, (i.u 6 (fun _ => ⟨b290, o290, a291, c291, R, me290, h291, sp290⟩)).u 7 (fun z => Bool.noConfusion ((hf 7 (nb R) R).symm.trans z))⟩)
     ·rintro D e s292 ⟨im, ib, i⟩ hk hf ha
      obtain ⟨b290, o290, a291, c291, g6_, me290, h291, sp290⟩ := (i.p 6) (ha.at 6 R)
      have kn := K1 g6_
      exact kn.g (L.fa fa173_0 Y R R (L.nil (X.dk kn ⟨im, Sub.fresh ib R, i.u 7 (fun _ _ _ _ _ q6 => by cases g6_.symm.trans q6; exact R)⟩)))
     ·rintro D e s293 ⟨im, ib, i⟩ hk hf ha
      obtain ⟨b290, o290, a291, c291, g6_, me290, h291, sp290⟩ := (i.p 6) (ha.at 6 R)
      have g7_ := (i.p 7) (ha.at 7 R) b290 o290 a291 c291 g6_
      have kn := K1 g7_
      exact kn.g (L.ld (j := 0) me290 nag3 Y R R R R (L.nil (X.dk kn ⟨im, Sub.fresh ib R, i.u 8 (fun _ => R)⟩)))
     ·rintro D e s294 ⟨im, ib, i⟩ hk hf ha
      have kn := K1 (ib 11 _ R)
      exact kn.g (L.mv Y R R (L.nil (X.dk kn ⟨im, Sub.fresh ib R, i.u 9 (fun _ => R)⟩)))
     ·rintro D e s295 ⟨im, ib, i⟩ hk hf ha
      have h1 := h1.mono im.z
      have h2 := h2.mono im.z
      have h3 := h3.mono im.z
      have h4 := h4.mono im.z
      have kn := K3 ((i.p 3) (ha.at 3 R)) ((i.p 8) (ha.at 8 R)) ((i.p 9) (ha.at 9 R))
      refine kn.g (L.ca cf106 R R Y R (m_scan_graph_to_c (s := s295) (p0 := p0.1) (p1 := x289.1) (p2 := x280) h1 h2 h3 h4 er296) R ?_)
      rintro _ s297 m298 rfl
      exact L.nil (X.dk kn ⟨im.trans m298.no, Sub.fresh ib R, (i.u 6 (fun z => let ⟨b290, o290, a291, c291, q, me290, h291, sp290⟩ := (i.p 6) z; ⟨b290, o290, a291, c291, q, (me290.mv m298 no_No), (h291.mono m298.z), sp290⟩)).u 10 (fun _ => R)⟩)
     rintro D e s299 ⟨im, ib, i⟩ hk hf ha
     have kn := K1 ((i.p 10) (ha.at 10 R))
     exact kn.g (L.as Y R R (L.nil (X.dk kn ⟨im, Sub.fresh ib R, i.u 11 (fun _ => R)⟩)))
    rintro D e s300 hD ⟨im, ib, i⟩
    have g11_ := (i.p 11) (hD 11 R)
    have h14 := h14.mono im.z
    have h201 := h201.mv im no_No no_No
    have h209 := h209.mv im no_No no_No
    have bx16 := bx16.mv im no_No
    have h1 := h1.mono im.z
    have h2 := h2.mono im.z
    have h3 := h3.mono im.z
    have h4 := h4.mono im.z
    have h5 := h5.mono im.z
    have h6 := h6.mono im.z
    have h7 := h7.mono im.z
    have h8 := h8.mono im.z
    have h9 := h9.mono im.z
    have h10 := h10.mono im.z
    have h11 := h11.mono im.z
    have h12 := h12.mono im.z
    have h13 := h13.mono im.z
    have h15 := h15.mono im.z
    have m0 := m0.trans im.no
    refine X.sub (e' := [(12, .int .i64 r296), (11, .int .i64 x280), (58, .int .i64 st270.1), (57, .int .i64 (p0.2.2.2.2.1.length : Int)), (56, .slice a14 p0.2.2.2.2.1.length c14), (8, .slice a201 l200.length c201), (9, .int .i64 st188.1), (7, .slice a209 st270.2.length c209), (0, .pointer (some ⟨b16, 0, none⟩)), (2, .int .i64 p2)]) ?_ (Sub.cons g11_ (Sub.cons (ib 11 _ R) (Sub.cons (ib 58 _ R) (Sub.cons (ib 57 _ R) (Sub.cons (ib 56 _ R) (Sub.cons (ib 8 _ R) (Sub.cons (ib 9 _ R) (Sub.cons (ib 7 _ R) (Sub.cons (ib 0 _ R) (Sub.cons (ib 2 _ R) Sub.nil))))))))))
    refine X.seqN (ER (L.mv Y R R (L.bi Y R R R R (L.mv Y R R ?_))))
    obtain ⟨b301, eb301, hm⟩ := bindS hm
    refine L.cut 9 (fun e w => ∃ (s303 : Sig) (v302 : Bool), b301 = v302 ∧ Mv (Up N No) s s303 ∧ RdL qI s303 a14 c14 p0.2.2.2.2.1 ∧ RowT (rL qI) s303 (N + 0) 22 a201 c201 l200 ∧ RowT (rP qI (rL qI)) s303 (N + 2) 173 a209 c209 st270.2 ∧ RdL qI s303 a1 c1 p0.1.1.1 ∧ RdL qI s303 a2 c2 p0.1.1.2.2.1 ∧ RdL qT s303 a3 c3 p0.1.1.2.2.2 ∧ MapD kvP qI s303 y4 c4 p0.1.2 ∧ RdL qI s303 a5 c5 p0.2.1.1.1 ∧ RdL qI s303 a6 c6 p0.2.1.1.2.2.1 ∧ RdL qT s303 a7 c7 p0.2.1.1.2.2.2 ∧ MapD kvP qI s303 y8 c8 p0.2.1.2 ∧ RdL qI s303 a9 c9 p0.2.2.1.1.1 ∧ RdL qI s303 a10 c10 p0.2.2.1.1.2.2.1 ∧ RdL qT s303 a11 c11 p0.2.2.1.1.2.2.2 ∧ MapD kvP qI s303 y12 c12 p0.2.2.1.2 ∧ RdL (rL qI) s303 a13 c13 p0.2.2.2.1 ∧ RdL qI s303 a15 c15 p0.2.2.2.2.2 ∧ Bx s303 t0 b16 #[.slice a1 p0.1.1.1.length c1, .int .i64 p0.1.1.2.1, .slice a2 p0.1.1.2.2.1.length c2, .slice a3 p0.1.1.2.2.2.length c3, .map y4, .slice a5 p0.2.1.1.1.length c5, .int .i64 p0.2.1.1.2.1, .slice a6 p0.2.1.1.2.2.1.length c6, .slice a7 p0.2.1.1.2.2.2.length c7, .map y8, .slice a9 p0.2.2.1.1.1.length c9, .int .i64 p0.2.2.1.1.2.1, .slice a10 p0.2.2.1.1.2.2.1.length c10, .slice a11 p0.2.2.1.1.2.2.2.length c11, .map y12, .slice a13 p0.2.2.2.1.length c13, .slice a14 p0.2.2.2.2.1.length c14, .slice a15 p0.2.2.2.2.2.length c15] 110 ∧ e = (84, .bool v302) :: [(12, .int .i64 r296), (11, .int .i64 x280), (58, .int .i64 st270.1), (57, .int .i64 (p0.2.2.2.2.1.length : Int)), (56, .slice a14 p0.2.2.2.2.1.length c14), (8, .slice a201 l200.length c201), (9, .int .i64 st188.1), (7, .slice a209 st270.2.length c209), (0, .pointer (some ⟨b16, 0, none⟩)), (2, .int .i64 p2)] ∧ w = s303.w) ?_ ?_
    ·rintro _ _ ⟨s303, v302, rfl, m0, h14, h201, h209, h1, h2, h3, h4, h5, h6, h7, h8, h9, h10, h11, h12, h13, h15, bx16, rfl, rfl⟩
     refine L.nil (X.seqN ?_)
     rcases ifS hm with ⟨hc, hm⟩ | ⟨hc, hm⟩
     ·refine E.cT R hc (E.reg (L.mv Y R R (L.mv Y R R (L.mv Y R R (L.mv Y R R ?_)))))
      obtain ⟨x304, ex304, hm⟩ := bindS hm
      refine L.ir (r := (rP qI (rL qI))) sl174 h209 Y R R ex304 R fun b305 o305 cc305 me305 rd305 sp305 => ?_
      obtain ⟨_, _, rfl, rfl, ⟨a306, c306, rfl, h306⟩⟩ := rd305
      refine L.fa fa173_1 Y R R (L.ld (j := 1) me305 nag22 Y R R R R ?_)
      obtain ⟨r307, er307, hm⟩ := bindS hm
      refine L.ca cf83 R R Y R (m_slices_Clone_int_c (s := s303) (p0 := x304.2) (u0 := (N + 1)) h306 er307) R ?_
      rintro _ s308 m309 ⟨a310, c310, rfl, h310⟩
      refine L.mv Y R R (L.bsE (k := 1) (cs := [.int .i64 x280]) 0 bs22 (nb R) Y R R R R fun b311 s312 m313 bx311 => ?_)
      replace h310 := h310.mv m313 no_No no_No
      have h311 := Bx.rdL (r := qI) (xs := ([x280] : List Int)) bx311 ⟨[.int .i64 x280], _, R, R, R⟩ (nb R)
      obtain ⟨x314, ex314, hm⟩ := bindS hm
      refine L.ap (r := qI) Tryz.underlying22 el3 R (tgp hN) h310 h311.wk Y R R ex314 R fun a315 c315 s316 m317 h315 => ?_
      refine L.bu (cs := [.int .i64 r296, .slice a315 x314.length c315]) pl173 Y R R R ?_
      have m318 := Sig.fz_mv (N + 1) s316
      refine L.toR (s' := (Sig.fz (N + 1) s316)) R (L.bsE (k := 1) (cs := [.int .i64 r296, .slice a315 x314.length c315]) 0 bs174 (nb R) Y R R R R fun b319 s320 m321 bx319 => ?_)
      replace h209 := ((((h209.mv m309 no_No no_No).mv m313 no_No no_No).mv m317 (tq R) (tg0 hN)).mv m318 (tq R) (tg0 hN)).mv m321 no_No no_No
      replace h315 := (h315.fz (tgn hN)).mono m321.z
      have h319 := Bx.rdL (r := (rP qI (rL qI))) (xs := ([(r296, x314)] : List (Int × List Int))) bx319 ⟨[.int .i64 r296, .slice a315 x314.length c315], _, R, ⟨[.int .i64 r296], [.slice a315 x314.length c315], R, R, ⟨_, _, R, h315⟩⟩, R⟩ (nb R)
      obtain ⟨x322, ex322, hm⟩ := bindS hm
      refine L.ap (r := (rP qI (rL qI))) Tryz.underlying174 el173 R (tgp hN) h209 h319.wk Y R R ex322 R fun a323 c323 s324 m325 h323 => ?_
      replace m0 := (((((m0.trans m309.no).trans m313.no).trans (m317.one up)).trans (m318.one up)).trans m321.no).trans (m325.one up)
      replace h201 := (((((h201.mv m309 no_No no_No).mv m313 no_No no_No).mv m317 (tq R) (tg0 hN)).mv m318 (tq R) (tg0 hN)).mv m321 no_No no_No).mv m325 (tq R) (tg0 hN)
      replace h14 := (((((h14.mono m309.z).mono m313.z).mono (m317.le (tg0 hN))).mono (m318.le (tg0 hN))).mono m321.z).mono (m325.le (tg0 hN))
      replace bx16 := (((((bx16.mv m309 no_No).mv m313 no_No).mv m317 (tgV lt0)).mv m318 (tgV lt0)).mv m321 no_No).mv m325 (tgV lt0)
      replace h1 := (((((h1.mono m309.z).mono m313.z).mono (m317.le (tg0 hN))).mono (m318.le (tg0 hN))).mono m321.z).mono (m325.le (tg0 hN))
      replace h2 := (((((h2.mono m309.z).mono m313.z).mono (m317.le (tg0 hN))).mono (m318.le (tg0 hN))).mono m321.z).mono (m325.le (tg0 hN))
      replace h3 := (((((h3.mono m309.z).mono m313.z).mono (m317.le (tg0 hN))).mono (m318.le (tg0 hN))).mono m321.z).mono (m325.le (tg0 hN))
      replace h4 := (((((h4.mono m309.z).mono m313.z).mono (m317.le (tg0 hN))).mono (m318.le (tg0 hN))).mono m321.z).mono (m325.le (tg0 hN))
      replace h5 := (((((h5.mono m309.z).mono m313.z).mono (m317.le (tg0 hN))).mono (m318.le (tg0 hN))).mono m321.z).mono (m325.le (tg0 hN))
      replace h6 := (((((h6.mono m309.z).mono m313.z).mono (m317.le (tg0 hN))).mono (m318.le (tg0 hN))).mono m321.z).mono (m325.le (tg0 hN))
      replace h7 := (((((h7.mono m309.z).mono m313.z).mono (m317.le (tg0 hN))).mono (m318.le (tg0 hN))).mono m321.z).mono (m325.le (tg0 hN))
      replace h8 := (((((h8.mono m309.z).mono m313.z).mono (m317.le (tg0 hN))).mono (m318.le (tg0 hN))).mono m321.z).mono (m325.le (tg0 hN))
      replace h9 := (((((h9.mono m309.z).mono m313.z).mono (m317.le (tg0 hN))).mono (m318.le (tg0 hN))).mono m321.z).mono (m325.le (tg0 hN))
      replace h10 := (((((h10.mono m309.z).mono m313.z).mono (m317.le (tg0 hN))).mono (m318.le (tg0 hN))).mono m321.z).mono (m325.le (tg0 hN))
      replace h11 := (((((h11.mono m309.z).mono m313.z).mono (m317.le (tg0 hN))).mono (m318.le (tg0 hN))).mono m321.z).mono (m325.le (tg0 hN))
      replace h12 := (((((h12.mono m309.z).mono m313.z).mono (m317.le (tg0 hN))).mono (m318.le (tg0 hN))).mono m321.z).mono (m325.le (tg0 hN))
      replace h13 := (((((h13.mono m309.z).mono m313.z).mono (m317.le (tg0 hN))).mono (m318.le (tg0 hN))).mono m321.z).mono (m325.le (tg0 hN))
      replace h15 := (((((h15.mono m309.z).mono m313.z).mono (m317.le (tg0 hN))).mono (m318.le (tg0 hN))).mono m321.z).mono (m325.le (tg0 hN))
      exact L.as Y R R (L.nil (X.blkN (X.sub (Jj279 _ _ ⟨s324, x322, a323, c323, hm, m0, h323, h14, h201, h1, h2, h3, h4, h5, h6, h7, h8, h9, h10, h11, h12, h13, h15, bx16, R, R⟩) (Sub.rf R))))
     exact E.cF R hc (E.skip (X.blkN (X.sub (Jj279 _ _ ⟨s303, st270.2, a209, c209, hm, m0, h209, h14, h201, h1, h2, h3, h4, h5, h6, h7, h8, h9, h10, h11, h12, h13, h15, bx16, R, R⟩) (Sub.rf R))))
    intro J326
    rcases ifS eb301 with ⟨hc, hm⟩ | ⟨hc, hm⟩
    ·refine L.know (d := 75) R hc (L.mv (Wt.mk R R) R R (L.mv (Wt.mk R R) R R ?_))
     obtain ⟨x327, ex327, hm⟩ := bindS hm
     refine L.ir (r := (rP qI (rL qI))) sl174 h209 (Wt.mk R R) R R ex327 R fun b328 o328 cc328 me328 rd328 sp328 => ?_
     obtain ⟨_, _, rfl, rfl, ⟨a329, c329, rfl, h329⟩⟩ := rd328
     refine L.fa fa173_1 (Wt.mk R R) R R (L.ld (j := 1) me328 nag22 (Wt.mk R R) R R R R (L.mv (Wt.mk R R) R R ?_))
     obtain ⟨r330, er330, hm⟩ := bindS hm
     refine L.ca cf84 R R (Wt.mk R R) R (m_slices_Contains_int_c (s := s300) (p0 := x327.2) (p1 := x280) h329 er330) R ?_
     rintro _ s331 m332 rfl
     replace m0 := m0.trans m332.no
     replace h209 := h209.mv m332 no_No no_No
     replace h201 := h201.mv m332 no_No no_No
     replace h14 := h14.mono m332.z
     replace bx16 := bx16.mv m332 no_No
     replace h1 := h1.mono m332.z
     replace h2 := h2.mono m332.z
     replace h3 := h3.mono m332.z
     replace h4 := h4.mono m332.z
     replace h5 := h5.mono m332.z
     replace h6 := h6.mono m332.z
     replace h7 := h7.mono m332.z
     replace h8 := h8.mono m332.z
     replace h9 := h9.mono m332.z
     replace h10 := h10.mono m332.z
     replace h11 := h11.mono m332.z
     replace h12 := h12.mono m332.z
     replace h13 := h13.mono m332.z
     replace h15 := h15.mono m332.z
     exact L.not (Wt.mk R R) R R (L.pkT Y R R R R (L.sb (J326 _ _ ⟨s331, (!r330), (oi hm).symm, m0, h14, h201, h209, h1, h2, h3, h4, h5, h6, h7, h8, h9, h10, h11, h12, h13, h15, bx16, R, R⟩) R))
    exact L.know (d := 75) R hc (L.skip R R R R (L.skip R R R R (L.skip R R R R (L.skip R R R R (L.skip R R R R (L.skip R R R R (L.skip R R R R (L.skip R R R R (L.pkF Y R R R R (L.sb (J326 _ _ ⟨s300, false, (oi hm).symm, m0, h14, h201, h209, h1, h2, h3, h4, h5, h6, h7, h8, h9, h10, h11, h12, h13, h15, bx16, R, R⟩) R))))))))))
   refine E.cF R hc (E.exit (X.seqX (X.seqX ?_)))
   have hx := ho270 _ (oi hm).symm
   subst hx
   exact X.sub (K275 _ _ ⟨s273, a209, c209, m0, h201, h209, h1, h2, h3, h4, h5, h6, h7, h8, h9, h10, h11, h12, h13, h14, h15, bx16, R, R⟩) (Sub.rf R)
  intro Jj203
  refine ER (L.mv Y R R (L.mv Y R R ?_))
  obtain ⟨x333, ex333, hm⟩ := bindS hm
  refine L.ir (r := (rP qI (rL qI))) sl174 h30 Y R R ex333 R fun b334 o334 cc334 me334 rd334 sp334 => ?_
  obtain ⟨_, _, rfl, rfl, ⟨a335, c335, rfl, h335⟩⟩ := rd334
  refine L.fa fa173_1 Y R R (L.ld (j := 1) me334 nag22 Y R R R R (L.len sl22 Y R R (L.bi Y R R R R (L.nil (X.seqN ?_)))))
  rcases ifS hm with ⟨hc, hm⟩ | ⟨hc, hm⟩
  ·refine E.cT R hc (E.reg (L.mv Y R R (L.mv Y R R (L.mv Y R R ?_))))
   obtain ⟨x336, ex336, hm⟩ := bindS hm
   refine L.ir (r := (rP qI (rL qI))) sl174 h30 Y R R ex336 R fun b337 o337 cc337 me337 rd337 sp337 => ?_
   obtain ⟨_, _, rfl, rfl, ⟨a338, c338, rfl, h338⟩⟩ := rd337
   refine L.fa fa173_1 Y R R (L.ld (j := 1) me337 nag22 Y R R R R (L.bsE (k := 1) (cs := [.slice a338 x336.2.length c338]) 0 bs34 (nb R) Y R R R R fun b339 s340 m341 bx339 => ?_))
   replace h28 := h28.mv m341 no_No no_No
   replace h338 := h338.mono m341.z
   have h339 := Bx.rdL (r := (rL qI)) (xs := ([x336.2] : List (List Int))) bx339 ⟨[.slice a338 x336.2.length c338], _, R, ⟨_, _, R, h338⟩, R⟩ (nb R)
   obtain ⟨x342, ex342, hm⟩ := bindS hm
   refine L.ap (r := (rL qI)) Tryz.underlying34 el22 R (tgp hN) h28 h339.wk Y R R ex342 R fun a343 c343 s344 m345 h343 => ?_
   replace m0 := (m0.trans m341.no).trans (m345.one up)
   replace h30 := (h30.mv m341 no_No no_No).mv m345 (tq R) (tg0 hN)
   replace bx16 := (bx16.mv m341 no_No).mv m345 (tgV lt0)
   replace h1 := (h1.mono m341.z).mono (m345.le (tg0 hN))
   replace h2 := (h2.mono m341.z).mono (m345.le (tg0 hN))
   replace h3 := (h3.mono m341.z).mono (m345.le (tg0 hN))
   replace h4 := (h4.mono m341.z).mono (m345.le (tg0 hN))
   replace h5 := (h5.mono m341.z).mono (m345.le (tg0 hN))
   replace h6 := (h6.mono m341.z).mono (m345.le (tg0 hN))
   replace h7 := (h7.mono m341.z).mono (m345.le (tg0 hN))
   replace h8 := (h8.mono m341.z).mono (m345.le (tg0 hN))
   replace h9 := (h9.mono m341.z).mono (m345.le (tg0 hN))
   replace h10 := (h10.mono m341.z).mono (m345.le (tg0 hN))
   replace h11 := (h11.mono m341.z).mono (m345.le (tg0 hN))
   replace h12 := (h12.mono m341.z).mono (m345.le (tg0 hN))
   replace h13 := (h13.mono m341.z).mono (m345.le (tg0 hN))
   replace h14 := (h14.mono m341.z).mono (m345.le (tg0 hN))
   replace h15 := (h15.mono m341.z).mono (m345.le (tg0 hN))
   exact L.as Y R R (L.nil (X.sub (Jj203 _ _ ⟨s344, x342, a343, c343, hm, m0, h343, h30, h1, h2, h3, h4, h5, h6, h7, h8, h9, h10, h11, h12, h13, h14, h15, bx16, R, R⟩) (Sub.rf R)))
  exact E.cF R hc (E.skip (X.sub (Jj203 _ _ ⟨s191, st188.2.1, a28, c28, hm, m0, h28, h30, h1, h2, h3, h4, h5, h6, h7, h8, h9, h10, h11, h12, h13, h14, h15, bx16, R, R⟩) (Sub.rf R)))
 refine E.cF R hc (E.exit (X.seqX (X.seqX ?_)))
 have hx := ho188 _ (oi hm).symm
 subst hx
 exact X.sub (K193 _ _ ⟨s191, a28, c28, m0, h28, h1, h2, h3, h4, h5, h6, h7, h8, h9, h10, h11, h12, h13, h14, h15, bx16, R, R⟩) (Sub.rf R)

end Go.Proofs.YtidakgbibobbdaaGreatDoor

namespace Go.Proofs.YtidakgbibobbdaaGreatDoor
open Go Go.RowKit
theorem fa108_0 : FA Tryz.prog 108 0 0 := FA.mk Tryz.underlying108 rfl rfl ⟨4, by decide, by kernel_rfl⟩
theorem fa110_1 : FA Tryz.prog 110 1 5 := FA.mk Tryz.underlying110 rfl rfl ⟨5, by decide, by kernel_rfl⟩
noncomputable def m_scan_task_handle_j1 (st33 : Int × Int) (n44 : Int) : Option ((Int × Int) ⊕ (Int ⊕ (Int × Int))) :=
 some (.inl (W (st33.1 + 1), n44))
noncomputable def m_scan_task_handle_l1 (p0 : (AutT × (List ((Int × Int) × Int))) × (AutT × (List ((Int × Int) × Int))) × (AutT × (List ((Int × Int) × Int))) × List (List Int) × List Int × List Int) (p2 : List Int) (st33 : Int × Int) : Option ((Int × Int) ⊕ (Int ⊕ (Int × Int))) :=
 if decide (st33.1 < (p2.length : Int)) then
  (idx p2 st33.1).bind fun x47 =>
  (m_alphabet_Contains p0.2.1.1.1 x47).bind fun r49 =>
  if (!r49) then
   m_scan_task_handle_j1 st33 st33.2
  else
   (m_scan_graph_to p0.2.1 st33.2 x47).bind fun r52 =>
   if (r52 == (-1)) then
    some (.inr (.inr (st33)))
   else
    m_scan_task_handle_j1 st33 r52
 else
  some (.inr (.inl st33.2))
noncomputable def m_scan_task_handle (p0 : (AutT × (List ((Int × Int) × Int))) × (AutT × (List ((Int × Int) × Int))) × (AutT × (List ((Int × Int) × Int))) × List (List Int) × List Int × List Int) (p1 : Int) (p2 : List Int) : Option (Int × Int) :=
 (iter (m_scan_task_handle_l1 p0 p2) (0, p1)).bind fun o33 =>
 match o33 with
 | .inl u38 =>
  some (u38, (p2.length : Int))
 | .inr (u41) =>
  some (u41.2, u41.1)
theorem m_scan_task_handle_c {s : Sig} {p0 : (AutT × (List ((Int × Int) × Int))) × (AutT × (List ((Int × Int) × Int))) × (AutT × (List ((Int × Int) × Int))) × List (List Int) × List Int × List Int} {p1 : Int} {p2 : List Int} {t0 : Nat} {a1 : Option Addr} {c1 : Nat} {a2 : Option Addr} {c2 : Nat} {a3 : Option Addr} {c3 : Nat} {y4 : Option Nat} {c4 : Nat} {a5 : Option Addr} {c5 : Nat} {a6 : Option Addr} {c6 : Nat} {a7 : Option Addr} {c7 : Nat} {y8 : Option Nat} {c8 : Nat} {a9 : Option Addr} {c9 : Nat} {a10 : Option Addr} {c10 : Nat} {a11 : Option Addr} {c11 : Nat} {y12 : Option Nat} {c12 : Nat} {a13 : Option Addr} {c13 : Nat} {a14 : Option Addr} {c14 : Nat} {a15 : Option Addr} {c15 : Nat} {b16 : Nat} {a17 : Option Addr} {c17 : Nat} {r : Int × Int} (h1 : RdL qI s a1 c1 p0.1.1.1) (h2 : RdL qI s a2 c2 p0.1.1.2.2.1) (h3 : RdL qT s a3 c3 p0.1.1.2.2.2) (h4 : MapD kvP qI s y4 c4 p0.1.2) (h5 : RdL qI s a5 c5 p0.2.1.1.1) (h6 : RdL qI s a6 c6 p0.2.1.1.2.2.1) (h7 : RdL qT s a7 c7 p0.2.1.1.2.2.2) (h8 : MapD kvP qI s y8 c8 p0.2.1.2) (h9 : RdL qI s a9 c9 p0.2.2.1.1.1) (h10 : RdL qI s a10 c10 p0.2.2.1.1.2.2.1) (h11 : RdL qT s a11 c11 p0.2.2.1.1.2.2.2) (h12 : MapD kvP qI s y12 c12 p0.2.2.1.2) (h13 : RdL (rL qI) s a13 c13 p0.2.2.2.1) (h14 : RdL qI s a14 c14 p0.2.2.2.2.1) (h15 : RdL qI s a15 c15 p0.2.2.2.2.2) (bx16 : Bx s t0 b16 #[.slice a1 p0.1.1.1.length c1, .int .i64 p0.1.1.2.1, .slice a2 p0.1.1.2.2.1.length c2, .slice a3 p0.1.1.2.2.2.length c3, .map y4, .slice a5 p0.2.1.1.1.length c5, .int .i64 p0.2.1.1.2.1, .slice a6 p0.2.1.1.2.2.1.length c6, .slice a7 p0.2.1.1.2.2.2.length c7, .map y8, .slice a9 p0.2.2.1.1.1.length c9, .int .i64 p0.2.2.1.1.2.1, .slice a10 p0.2.2.1.1.2.2.1.length c10, .slice a11 p0.2.2.1.1.2.2.2.length c11, .map y12, .slice a13 p0.2.2.2.1.length c13, .slice a14 p0.2.2.2.2.1.length c14, .slice a15 p0.2.2.2.2.2.length c15] 110) (h17 : RdL qI s a17 c17 p2) (hm : m_scan_task_handle p0 p1 p2 = some r) :
    Calls Tryz.prog 54 #[.pointer (some ⟨b16, 0, none⟩), .int .i64 p1, .slice a17 p2.length c17] s.w (RetS No s fun v s' => v = .tuple #[.int .i64 r.1, .int .i64 r.2]) := by
 unfold m_scan_task_handle at hm
 obtain ⟨N, hN, hNb, lt0, -⟩ := s.freshL [t0]
 have m0 : Mv (Up N No) s s := Mv.refl _ _
 refine E.entry Tryz.func54 R Tryz.ntmps54 R R (ER (L.as Y R R (L.as Y R R (LN (E.seq (ER (L.mv Y R R (L.len sl22 Y R R (L.mv Y R R (LN (E.block ?_)))))))))))
 obtain ⟨o33, eo33, hm⟩ := bindS hm
 refine E.cut (x := .exit 0) (fun e w => ∃ (s39 : Sig) (u38 : Int), o33 = .inl u38 ∧ Mv (Up N No) s s39 ∧ RdL qI s39 a17 c17 p2 ∧ RdL qI s39 a1 c1 p0.1.1.1 ∧ RdL qI s39 a2 c2 p0.1.1.2.2.1 ∧ RdL qT s39 a3 c3 p0.1.1.2.2.2 ∧ MapD kvP qI s39 y4 c4 p0.1.2 ∧ RdL qI s39 a5 c5 p0.2.1.1.1 ∧ RdL qI s39 a6 c6 p0.2.1.1.2.2.1 ∧ RdL qT s39 a7 c7 p0.2.1.1.2.2.2 ∧ MapD kvP qI s39 y8 c8 p0.2.1.2 ∧ RdL qI s39 a9 c9 p0.2.2.1.1.1 ∧ RdL qI s39 a10 c10 p0.2.2.1.1.2.2.1 ∧ RdL qT s39 a11 c11 p0.2.2.1.1.2.2.2 ∧ MapD kvP qI s39 y12 c12 p0.2.2.1.2 ∧ RdL (rL qI) s39 a13 c13 p0.2.2.2.1 ∧ RdL qI s39 a14 c14 p0.2.2.2.2.1 ∧ RdL qI s39 a15 c15 p0.2.2.2.2.2 ∧ Bx s39 t0 b16 #[.slice a1 p0.1.1.1.length c1, .int .i64 p0.1.1.2.1, .slice a2 p0.1.1.2.2.1.length c2, .slice a3 p0.1.1.2.2.2.length c3, .map y4, .slice a5 p0.2.1.1.1.length c5, .int .i64 p0.2.1.1.2.1, .slice a6 p0.2.1.1.2.2.1.length c6, .slice a7 p0.2.1.1.2.2.2.length c7, .map y8, .slice a9 p0.2.2.1.1.1.length c9, .int .i64 p0.2.2.1.1.2.1, .slice a10 p0.2.2.1.1.2.2.1.length c10, .slice a11 p0.2.2.1.1.2.2.2.length c11, .map y12, .slice a13 p0.2.2.2.1.length c13, .slice a14 p0.2.2.2.2.1.length c14, .slice a15 p0.2.2.2.2.2.length c15] 110 ∧ e = [(1, .int .i64 u38), (2, .slice a17 p2.length c17)] ∧ w = s39.w) ?_ ?_
 ·rintro _ _ ⟨s39, u38, rfl, m0, h17, h1, h2, h3, h4, h5, h6, h7, h8, h9, h10, h11, h12, h13, h14, h15, bx16, rfl, rfl⟩
  dsimp only at hm
  refine X.blkE (X.seqN (ER (L.mv Y R R (L.mv Y R R (L.len sl22 Y R R (L.as Y R R (L.as Y R R (LN (E.ret ?_)))))))))
  obtain rfl := oi hm
  exact X.rt (.inl R) Tryz.results54 (Rs.tmp R (Rs.tmp R Rs.nil)) R ⟨_, (s39).ren N (fun _ => 0), R, R, m0.ren hNb, R⟩
 intro K40
 refine E.cut (x := .ret) (fun e w => ∃ (s42 : Sig) (u41 : Int × Int), o33 = .inr (u41) ∧ Mv (Up N No) s s42 ∧ RdL qI s42 a1 c1 p0.1.1.1 ∧ RdL qI s42 a2 c2 p0.1.1.2.2.1 ∧ RdL qT s42 a3 c3 p0.1.1.2.2.2 ∧ MapD kvP qI s42 y4 c4 p0.1.2 ∧ RdL qI s42 a5 c5 p0.2.1.1.1 ∧ RdL qI s42 a6 c6 p0.2.1.1.2.2.1 ∧ RdL qT s42 a7 c7 p0.2.1.1.2.2.2 ∧ MapD kvP qI s42 y8 c8 p0.2.1.2 ∧ RdL qI s42 a9 c9 p0.2.2.1.1.1 ∧ RdL qI s42 a10 c10 p0.2.2.1.1.2.2.1 ∧ RdL qT s42 a11 c11 p0.2.2.1.1.2.2.2 ∧ MapD kvP qI s42 y12 c12 p0.2.2.1.2 ∧ RdL (rL qI) s42 a13 c13 p0.2.2.2.1 ∧ RdL qI s42 a14 c14 p0.2.2.2.2.1 ∧ RdL qI s42 a15 c15 p0.2.2.2.2.2 ∧ Bx s42 t0 b16 #[.slice a1 p0.1.1.1.length c1, .int .i64 p0.1.1.2.1, .slice a2 p0.1.1.2.2.1.length c2, .slice a3 p0.1.1.2.2.2.length c3, .map y4, .slice a5 p0.2.1.1.1.length c5, .int .i64 p0.2.1.1.2.1, .slice a6 p0.2.1.1.2.2.1.length c6, .slice a7 p0.2.1.1.2.2.2.length c7, .map y8, .slice a9 p0.2.2.1.1.1.length c9, .int .i64 p0.2.2.1.1.2.1, .slice a10 p0.2.2.1.1.2.2.1.length c10, .slice a11 p0.2.2.1.1.2.2.2.length c11, .map y12, .slice a13 p0.2.2.2.1.length c13, .slice a14 p0.2.2.2.2.1.length c14, .slice a15 p0.2.2.2.2.2.length c15] 110 ∧ e = [(7, .int .i64 u41.1), (6, .int .i64 u41.2)] ∧ w = s42.w) ?_ ?_
 ·rintro _ _ ⟨s42, u41, rfl, m0, h1, h2, h3, h4, h5, h6, h7, h8, h9, h10, h11, h12, h13, h14, h15, bx16, rfl, rfl⟩
  dsimp only at hm
  refine X.blkR (X.seqR ?_)
  obtain rfl := oi hm
  exact X.rt (.inl R) Tryz.results54 (Rs.tmp R (Rs.tmp R Rs.nil)) R ⟨_, (s42).ren N (fun _ => 0), R, R, m0.ren hNb, R⟩
 intro K43
 refine E.iter (fun (st33 : Int × Int) (e : List (Nat × Value)) (w : World) => ∃ (s37 : Sig), Mv (Up N No) s s37 ∧ RdL qI s37 a17 c17 p2 ∧ RdL qI s37 a1 c1 p0.1.1.1 ∧ RdL qI s37 a2 c2 p0.1.1.2.2.1 ∧ RdL qT s37 a3 c3 p0.1.1.2.2.2 ∧ MapD kvP qI s37 y4 c4 p0.1.2 ∧ RdL qI s37 a5 c5 p0.2.1.1.1 ∧ RdL qI s37 a6 c6 p0.2.1.1.2.2.1 ∧ RdL qT s37 a7 c7 p0.2.1.1.2.2.2 ∧ MapD kvP qI s37 y8 c8 p0.2.1.2 ∧ RdL qI s37 a9 c9 p0.2.2.1.1.1 ∧ RdL qI s37 a10 c10 p0.2.2.1.1.2.2.1 ∧ RdL qT s37 a11 c11 p0.2.2.1.1.2.2.2 ∧ MapD kvP qI s37 y12 c12 p0.2.2.1.2 ∧ RdL (rL qI) s37 a13 c13 p0.2.2.2.1 ∧ RdL qI s37 a14 c14 p0.2.2.2.2.1 ∧ RdL qI s37 a15 c15 p0.2.2.2.2.2 ∧ Bx s37 t0 b16 #[.slice a1 p0.1.1.1.length c1, .int .i64 p0.1.1.2.1, .slice a2 p0.1.1.2.2.1.length c2, .slice a3 p0.1.1.2.2.2.length c3, .map y4, .slice a5 p0.2.1.1.1.length c5, .int .i64 p0.2.1.1.2.1, .slice a6 p0.2.1.1.2.2.1.length c6, .slice a7 p0.2.1.1.2.2.2.length c7, .map y8, .slice a9 p0.2.2.1.1.1.length c9, .int .i64 p0.2.2.1.1.2.1, .slice a10 p0.2.2.1.1.2.2.1.length c10, .slice a11 p0.2.2.1.1.2.2.2.length c11, .map y12, .slice a13 p0.2.2.2.1.length c13, .slice a14 p0.2.2.2.2.1.length c14, .slice a15 p0.2.2.2.2.2.length c15] 110 ∧ e = [(13, .int .i64 st33.1), (12, .int .i64 (p2.length : Int)), (11, .slice a17 p2.length c17), (0, .pointer (some ⟨b16, 0, none⟩)), (1, .int .i64 st33.2), (2, .slice a17 p2.length c17)] ∧ w = s37.w) eo33 ⟨s, m0, h17, h1, h2, h3, h4, h5, h6, h7, h8, h9, h10, h11, h12, h13, h14, h15, bx16, R, R⟩ (Sub.rf R) ?_
 rintro st33 res33 hm ih33 ho33 _ _ ⟨s37, m0, h17, h1, h2, h3, h4, h5, h6, h7, h8, h9, h10, h11, h12, h13, h14, h15, bx16, rfl, rfl⟩
 unfold m_scan_task_handle_l1 at hm
 refine ER (L.bi Y R R R R (LN (E.seq ?_)))
 rcases ifS hm with ⟨hc, hm⟩ | ⟨hc, hm⟩
 ·refine E.cT R hc (E.skip (X.seqN (E.seqJ (fun e w => ∃ (s45 : Sig) (n44 : Int), m_scan_task_handle_j1 st33 n44 = some res33 ∧ Mv (Up N No) s s45 ∧ RdL qI s45 a17 c17 p2 ∧ RdL qI s45 a1 c1 p0.1.1.1 ∧ RdL qI s45 a2 c2 p0.1.1.2.2.1 ∧ RdL qT s45 a3 c3 p0.1.1.2.2.2 ∧ MapD kvP qI s45 y4 c4 p0.1.2 ∧ RdL qI s45 a5 c5 p0.2.1.1.1 ∧ RdL qI s45 a6 c6 p0.2.1.1.2.2.1 ∧ RdL qT s45 a7 c7 p0.2.1.1.2.2.2 ∧ MapD kvP qI s45 y8 c8 p0.2.1.2 ∧ RdL qI s45 a9 c9 p0.2.2.1.1.1 ∧ RdL qI s45 a10 c10 p0.2.2.1.1.2.2.1 ∧ RdL qT s45 a11 c11 p0.2.2.1.1.2.2.2 ∧ MapD kvP qI s45 y12 c12 p0.2.2.1.2 ∧ RdL (rL qI) s45 a13 c13 p0.2.2.2.1 ∧ RdL qI s45 a14 c14 p0.2.2.2.2.1 ∧ RdL qI s45 a15 c15 p0.2.2.2.2.2 ∧ Bx s45 t0 b16 #[.slice a1 p0.1.1.1.length c1, .int .i64 p0.1.1.2.1, .slice a2 p0.1.1.2.2.1.length c2, .slice a3 p0.1.1.2.2.2.length c3, .map y4, .slice a5 p0.2.1.1.1.length c5, .int .i64 p0.2.1.1.2.1, .slice a6 p0.2.1.1.2.2.1.length c6, .slice a7 p0.2.1.1.2.2.2.length c7, .map y8, .slice a9 p0.2.2.1.1.1.length c9, .int .i64 p0.2.2.1.1.2.1, .slice a10 p0.2.2.1.1.2.2.1.length c10, .slice a11 p0.2.2.1.1.2.2.2.length c11, .map y12, .slice a13 p0.2.2.2.1.length c13, .slice a14 p0.2.2.2.2.1.length c14, .slice a15 p0.2.2.2.2.2.length c15] 110 ∧ e = [(13, .int .i64 st33.1), (12, .int .i64 (p2.length : Int)), (11, .slice a17 p2.length c17), (0, .pointer (some ⟨b16, 0, none⟩)), (1, .int .i64 n44), (2, .slice a17 p2.length c17)] ∧ w = s45.w) ?_ ?_)))
  ·rintro _ _ ⟨s45, n44, hm, m0, h17, h1, h2, h3, h4, h5, h6, h7, h8, h9, h10, h11, h12, h13, h14, h15, bx16, rfl, rfl⟩
   unfold m_scan_task_handle_j1 at hm
   exact E.reg (L.bi Y R R R R (L.mv Y R R (L.nil (X.sub (ih33 _ (oi hm).symm _ _ ⟨s45, m0, h17, h1, h2, h3, h4, h5, h6, h7, h8, h9, h10, h11, h12, h13, h14, h15, bx16, R, R⟩) (Sub.rf R)))))
  intro Jj46
  refine E.block (ER (L.mv Y R R ?_))
  obtain ⟨x47, ex47, hm⟩ := bindS hm
  refine L.ix (r := qI) sl22 h17 Y R R ex47 R fun b48 o48 cc48 me48 rd48 => ?_
  obtain rfl := rd48
  refine L.ld (j := 0) me48 nag3 Y R R R R (L.as Y R R (L.as Y R R (LN (E.seq (ER (L.mv Y R R (L.nc Y R R (L.fa fa110_1 Y R R (L.fa fa108_0 Y R R (L.fa fa25_0 Y R R (L.ld (j := 5) bx16.mem nag22 Y R R R R (L.mv Y R R ?_))))))))))))
  obtain ⟨r49, er49, hm⟩ := bindS hm
  refine L.ca cf68 R R Y R (m_alphabet_Contains_c (s := s37) (p0 := p0.2.1.1.1) (p1 := x47) h5 er49) R ?_
  rintro _ s50 m51 rfl
  replace m0 := m0.trans m51.no
  replace h17 := h17.mono m51.z
  replace bx16 := bx16.mv m51 no_No
  replace h1 := h1.mono m51.z
  replace h2 := h2.mono m51.z
  replace h3 := h3.mono m51.z
  replace h4 := h4.mono m51.z
  replace h5 := h5.mono m51.z
  replace h6 := h6.mono m51.z
  replace h7 := h7.mono m51.z
  replace h8 := h8.mono m51.z
  replace h9 := h9.mono m51.z
  replace h10 := h10.mono m51.z
  replace h11 := h11.mono m51.z
  replace h12 := h12.mono m51.z
  replace h13 := h13.mono m51.z
  replace h14 := h14.mono m51.z
  replace h15 := h15.mono m51.z
  refine L.not Y R R (L.nil (X.seqN ?_))
  rcases ifS hm with ⟨hc, hm⟩ | ⟨hc, hm⟩
  ·exact E.cT R hc (E.exit (X.seqX (X.blkE (X.sub (Jj46 _ _ ⟨s50, st33.2, hm, m0, h17, h1, h2, h3, h4, h5, h6, h7, h8, h9, h10, h11, h12, h13, h14, h15, bx16, R, R⟩) (Sub.rf R)))))
  refine E.cF R hc (E.skip (X.seqN (ER (L.mv Y R R (L.nc Y R R (L.fa fa110_1 Y R R (L.lg (j := 5) (cs := [.slice a5 p0.2.1.1.1.length c5, .int .i64 p0.2.1.1.2.1, .slice a6 p0.2.1.1.2.2.1.length c6, .slice a7 p0.2.1.1.2.2.2.length c7, .map y8]) bx16.mem ag108 Y R R R R R (L.mv Y R R (L.mv Y R R ?_)))))))))
  obtain ⟨r52, er52, hm⟩ := bindS hm
  refine L.ca cf106 R R Y R (m_scan_graph_to_c (s := s50) (p0 := p0.2.1) (p1 := st33.2) (p2 := x47) h5 h6 h7 h8 er52) R ?_
  rintro _ s53 m54 rfl
  replace m0 := m0.trans m54.no
  replace h17 := h17.mono m54.z
  replace bx16 := bx16.mv m54 no_No
  replace h1 := h1.mono m54.z
  replace h2 := h2.mono m54.z
  replace h3 := h3.mono m54.z
  replace h4 := h4.mono m54.z
  replace h5 := h5.mono m54.z
  replace h6 := h6.mono m54.z
  replace h7 := h7.mono m54.z
  replace h8 := h8.mono m54.z
  replace h9 := h9.mono m54.z
  replace h10 := h10.mono m54.z
  replace h11 := h11.mono m54.z
  replace h12 := h12.mono m54.z
  replace h13 := h13.mono m54.z
  replace h14 := h14.mono m54.z
  replace h15 := h15.mono m54.z
  refine L.as Y R R (LN (E.seq (ER (L.mv Y R R (L.bi Y R R R R (L.nil (X.seqN ?_)))))))
  rcases ifS hm with ⟨hc, hm⟩ | ⟨hc, hm⟩
  ·refine E.cT R hc (ER (L.mv Y R R (L.mv Y R R (L.as Y R R (L.as Y R R (LN (E.ret (X.seqR (X.blkR (X.seqR (X.seqR ?_)))))))))))
   have hx := ho33 _ (oi hm).symm
   exact X.sub (K43 _ _ ⟨s53, st33, hx.symm, m0, h1, h2, h3, h4, h5, h6, h7, h8, h9, h10, h11, h12, h13, h14, h15, bx16, R, R⟩) (Sub.rf R)
  exact E.cF R hc (E.skip (X.seqN (E.reg (L.mv Y R R (L.as Y R R (L.nil (X.blkN (X.sub (Jj46 _ _ ⟨s53, r52, hm, m0, h17, h1, h2, h3, h4, h5, h6, h7, h8, h9, h10, h11, h12, h13, h14, h15, bx16, R, R⟩) (Sub.rf R)))))))))
 refine E.cF R hc (E.exit (X.seqX (X.seqX ?_)))
 have hx := ho33 _ (oi hm).symm
 exact X.sub (K40 _ _ ⟨s37, st33.2, hx.symm, m0, h17, h1, h2, h3, h4, h5, h6, h7, h8, h9, h10, h11, h12, h13, h14, h15, bx16, R, R⟩) (Sub.rf R)

noncomputable def m_slices_AppendSeq_int_l1 (x22 : Int) (st20 : List Int) : Option (List Int) :=
 (app st20 ([x22] : List Int)).bind fun x32 =>
 some x32
noncomputable def m_slices_AppendSeq_int (p0 : List Int) (p1 : List (Int)) : Option (List Int) :=
 (rngF (fun k => m_slices_AppendSeq_int_l1 (p1.getD k 0)) p1.length 0 p0).bind fun o20 =>
 some o20
theorem m_slices_AppendSeq_int_c {s : Sig} {p0 : List Int} {p1 : List (Int)} {t0 : Nat} {a1 : Option Addr} {c1 : Nat} {vp1 : Value} {r : List Int} (zt0 : 0 < t0) (h1 : RowT qI s t0 3 a1 c1 p0) (hp1 : FI Tryz.prog s vp1 p1.length (fun k => encI (p1.getD k 0))) (hm : m_slices_AppendSeq_int p0 p1 = some r) :
    Calls Tryz.prog 168 #[.slice a1 p0.length c1, vp1] s.w (RetS (One t0) s fun v s' => ∃ (a2 : Option Addr) (c2 : Nat), v = .slice a2 r.length c2 ∧ RowT qI s' t0 3 a2 c2 r) := by
 unfold m_slices_AppendSeq_int at hm
 obtain ⟨N, hN, hNb, lt0, -⟩ := s.freshL [t0]
 have m0 : Mv (Up N (One t0)) s s := Mv.refl _ _
 have mk0 : Mks s (N + 0) [] := Mks.nil
 refine E.entryM (vs := [.slice a1 p0.length c1, vp1]) (e := [(0, .slice a1 p0.length c1), (1, vp1)]) Tryz.func168 R Tryz.ntmps168 R R (ER (L.box (N + 1) Y R R R fun b3 s4 m5 bx3 => ?_))
 replace m0 := m0.trans m5.no
 replace hp1 := hp1.mono m5.z
 replace mk0 := mk0.mv m5 no_No
 replace h1 := h1.mv m5 no_No no_No
 refine L.as Y R R (LN (E.seq (ER (L.mv Y R R (LN (E.block ?_))))))
 obtain ⟨o20, eo20, hm⟩ := bindS hm
 have mko20 := mk0.old
 refine E.range (N + 2) (N + 0) (tgn hN) (by omega) (fun (k : Nat) (s21 : Sig) => ∃ (st20 : List Int) (a7 : Option Addr) (c7 : Nat), rngF (fun k => m_slices_AppendSeq_int_l1 (p1.getD k 0)) (p1.length - k) k st20 = some o20 ∧ Mv (Up N (One t0)) s s21 ∧ RowT qI s21 t0 3 a7 c7 st20 ∧ Mks s21 (N + 0) [] ∧ Bx s21 (N + 1) b3 #[.slice a7 st20.length c7] 22) R hp1 (fun _ => R) (by decide) ⟨p0, a1, c1, eo20, m0, h1, mk0, bx3⟩ ?_ ?_
 ·rintro k20 D20 r20 s21 s23 hk20 ⟨st20, a7, c7, hj20, m0, h7, mk0, bx3⟩ m24 rc25 hr20
  obtain ⟨res20, hm, hj20⟩ := rng_step hk20 hj20
  have hm : m_slices_AppendSeq_int_l1 (p1.getD k20 0) st20 = some res20 := hm
  show E _ _ _ _ _ (Env.zp _ (encI (p1.getD k20 0)) _) _
  generalize p1.getD k20 0 = x22 at hm ⊢
  refine E.sub (e' := [(2, .pointer (some ⟨b3, 0, none⟩)), (7, .int .i64 x22)]) (Sub.rf R) ?_
  unfold m_slices_AppendSeq_int_l1 at hm
  have h26 : Lf s23 s23 := Le.refl _
  refine E.reg (L.as Y R R (L.nil (X.beg rc25 hr20 fun s27 m28 rc25 => ?_)))
  replace bx3 := (bx3.mv m24 (tq R)).mv m28 (tq R)
  refine E.block (E.reg (L.ld (j := 0) bx3.mem nag22 Y R R R R (L.mv Y R R (L.bsE (k := 1) (cs := [.int .i64 x22]) 0 bs22 (nb R) Y R R R R fun b29 s30 m31 bx29 => ?_))))
  replace h7 := ((h7.mv m24 (tgV lt0) (tg0 hN)).mv m28 (tgV lt0) (tg0 hN)).mv m31 no_No no_No
  have h29 := Bx.rdL (r := qI) (xs := ([x22] : List Int)) bx29 ⟨[.int .i64 x22], _, R, R, R⟩ (nb R)
  obtain ⟨x32, ex32, hm⟩ := bindS hm
  refine L.ap (r := qI) Tryz.underlying22 el3 R (tgpV zt0) h7 h29.wk Y R R ex32 R fun a33 c33 s34 m35 h33 => ?_
  replace bx3 := (bx3.mv m31 no_No).mv m35 (tgW lt0)
  refine L.st (c := [.slice a33 x32.length c33]) (cs' := #[.slice a33 x32.length c33]) bx3 nag22.sz Y R R R R R (nb R) R fun s36 m37 bx3 => ?_
  replace m0 := ((((m0.trans (m24.one up)).trans (m28.one up)).trans m31.no).trans (m35.one (.inr R))).trans (m37.one up)
  replace mk0 := ((((mk0.mv m24 (tq R)).mv m28 (tq R)).mv m31 no_No).mv m35 (tgW lt0)).mv m37 (tq R)
  replace h26 := (((h26.mono (m28.le (tg0 hN))).mono m31.z).mono (m35.le (tgz zt0))).mono (m37.le (tg0 hN))
  replace rc25 := ((rc25.mv m31 no_No no_No).mv m35 (tgW lt0) (tgW lt0)).mv m37 (tq R) (tq R)
  replace h33 := h33.mv m37 (tgV lt0) (tg0 hN)
  refine L.nil (X.blkN ?_)
  obtain rfl := oi hm
  exact X.rnd ⟨⟨x32, a33, c33, hj20, m0, h33, mk0, bx3⟩, rc25, h26⟩
 rintro D20 s21 s23 hD20 ⟨st20, a7, c7, hj20, m0, h7, mk0, bx3⟩ m24 mk20
 have hx := (rng_end hj20).symm
 subst hx
 replace bx3 := bx3.mv m24 (tq R)
 replace mk0 := (mk0.mv m24 (tq R)).cons mko20 hD20 mk20
 refine X.blkN (X.seqN (ER (L.ld (j := 0) bx3.mem nag22 Y R R R R (L.as Y R R (LN (E.ret (X.lv (.inl R) mk0 fun s38 m39 => ?_)))))))
 replace m0 := (m0.trans (m24.one up)).trans (m39.one up)
 replace h7 := (h7.mv m24 (tgV lt0) (tg0 hN)).mv m39 (tgV lt0) (tg0 hN)
 obtain rfl := oi hm
 exact X.rt (.inl R) Tryz.results168 (Rs.tmp R Rs.nil) R ⟨_, (s38).ren N (fun _ => 0), R, R, m0.ren hNb, ⟨a7, c7, R, (h7.renV hN lt0)⟩⟩

theorem cf168 : Cf Tryz.prog 168 := Cf.mk Tryz.func168 (by kernel_rfl) (by kernel_rfl)
noncomputable def m_slices_Collect_int (p0 : List (Int)) : Option (List Int) :=
 (m_slices_AppendSeq_int ([] : List Int) p0).bind fun r2 =>
 some r2
theorem m_slices_Collect_int_c {s : Sig} {p0 : List (Int)} {vp0 : Value} {u0 : Nat} {r : List Int} (hp0 : FI Tryz.prog s vp0 p0.length (fun k => encI (p0.getD k 0))) (hm : m_slices_Collect_int p0 = some r) :
    Calls Tryz.prog 146 #[vp0] s.w (RetS No s fun v s' => ∃ (a1 : Option Addr) (c1 : Nat), v = .slice a1 r.length c1 ∧ RowT qI s' u0 3 a1 c1 r) := by
 unfold m_slices_Collect_int at hm
 obtain ⟨N, hN, hNb⟩ := s.fresh
 have m0 : Mv (Up N No) s s := Mv.refl _ _
 refine E.entry Tryz.func146 R Tryz.ntmps146 R R (ER (L.as Y R R (LN (ER (L.mv Y R R ?_)))))
 obtain ⟨r2, er2, hm⟩ := bindS hm
 refine L.ca cf168 R R Y R (m_slices_AppendSeq_int_c (s := s) (p0 := ([] : List Int)) (p1 := p0) (t0 := (N + 0)) (tpos hN) RowT.nil hp0 er2) R ?_
 rintro _ s3 m4 ⟨a5, c5, rfl, h5⟩
 replace m0 := m0.trans (m4.one up)
 refine L.as Y R R (LN (E.ret ?_))
 obtain rfl := oi hm
 exact X.rt (.inl R) Tryz.results146 (Rs.tmp R Rs.nil) R ⟨_, (s3).ren N (fun k => cond (Nat.beq k 0) u0 (0)), R, R, m0.ren hNb, ⟨a5, c5, R, (h5.ren hN)⟩⟩

theorem cf146 : Cf Tryz.prog 146 := Cf.mk Tryz.func146 (by kernel_rfl) (by kernel_rfl)
theorem cf147 : Cf Tryz.prog 147 := Cf.mk Tryz.func147 (by kernel_rfl) (by kernel_rfl)
noncomputable def m_slices_Sorted_int (p0 : List (Int)) : Option (List Int) :=
 (m_slices_Collect_int p0).bind fun r2 =>
 (m_slices_Sort_int r2).bind fun r6 =>
 (lenEq r6 r2).bind fun _ =>
 some r6
theorem m_slices_Sorted_int_c {s : Sig} {p0 : List (Int)} {vp0 : Value} {u0 : Nat} {r : List Int} (hp0 : FI Tryz.prog s vp0 p0.length (fun k => encI (p0.getD k 0))) (hm : m_slices_Sorted_int p0 = some r) :
    Calls Tryz.prog 108 #[vp0] s.w (RetS No s fun v s' => ∃ (a1 : Option Addr) (c1 : Nat), v = .slice a1 r.length c1 ∧ RowT qI s' u0 3 a1 c1 r) := by
 unfold m_slices_Sorted_int at hm
 obtain ⟨N, hN, hNb⟩ := s.fresh
 have m0 : Mv (Up N No) s s := Mv.refl _ _
 refine E.entry Tryz.func108 R Tryz.ntmps108 R R (ER (L.as Y R R (LN (ER (L.mv Y R R ?_)))))
 obtain ⟨r2, er2, hm⟩ := bindS hm
 refine L.ca cf146 R R Y R (m_slices_Collect_int_c (s := s) (p0 := p0) (u0 := (N + 0)) hp0 er2) R ?_
 rintro _ s3 m4 ⟨a5, c5, rfl, h5⟩
 refine L.as Y R R (LN (ER (L.mv Y R R ?_)))
 obtain ⟨r6, er6, hm⟩ := bindS hm
 refine L.ca cf147 R R Y R (m_slices_Sort_int_c (s := s3) (p0 := r2) (t0 := (N + 0)) (tpos hN) h5 er6) R ?_
 rintro _ s7 m8 ⟨rfl, h5⟩
 obtain ⟨_, qz9, hm⟩ := bindS hm
 have elz9 := len_some qz9
 replace m0 := (m0.trans m4.no).trans (m8.one up)
 refine L.reval (d := 3) R elz9 (LN (ER (L.mv Y R R (L.as Y R R (LN (E.ret ?_))))))
 obtain rfl := oi hm
 exact X.rt (.inl R) Tryz.results108 (Rs.tmp R Rs.nil) R ⟨_, (s7).ren N (fun k => cond (Nat.beq k 0) u0 (0)), R, R, m0.ren hNb, ⟨a5, c5, R, (h5.ren hN)⟩⟩

theorem cf108 : Cf Tryz.prog 108 := Cf.mk Tryz.func108 (by kernel_rfl) (by kernel_rfl)
theorem cf109 : Cf Tryz.prog 109 := Cf.mk Tryz.func109 (by kernel_rfl) (by kernel_rfl)
theorem cf54 : Cf Tryz.prog 54 := Cf.mk Tryz.func54 (by kernel_rfl) (by kernel_rfl)
noncomputable def m_scan_task_ordered (p0 : (AutT × (List ((Int × Int) × Int))) × (AutT × (List ((Int × Int) × Int))) × (AutT × (List ((Int × Int) × Int))) × List (List Int) × List Int × List Int) (p1 : Int) (p2 : List Int) : Option Bool :=
 (idx p0.2.2.2.1 p1).bind fun x18 =>
 (idx x18 1).bind fun x21 =>
 (m_scan_task_handle p0 x21 p2).bind fun r23 =>
 (m_slices_Values_int p2).bind fun r26 =>
 (m_slices_Sorted_int r26).bind fun r30 =>
 (m_scan_task_handle p0 x21 r30).bind fun r34 =>
 some (((r23.2 == (p2.length : Int)) && (r34.2 == (p2.length : Int))) && (r23.1 == r34.1))
theorem m_scan_task_ordered_c {s : Sig} {p0 : (AutT × (List ((Int × Int) × Int))) × (AutT × (List ((Int × Int) × Int))) × (AutT × (List ((Int × Int) × Int))) × List (List Int) × List Int × List Int} {p1 : Int} {p2 : List Int} {t0 : Nat} {a1 : Option Addr} {c1 : Nat} {a2 : Option Addr} {c2 : Nat} {a3 : Option Addr} {c3 : Nat} {y4 : Option Nat} {c4 : Nat} {a5 : Option Addr} {c5 : Nat} {a6 : Option Addr} {c6 : Nat} {a7 : Option Addr} {c7 : Nat} {y8 : Option Nat} {c8 : Nat} {a9 : Option Addr} {c9 : Nat} {a10 : Option Addr} {c10 : Nat} {a11 : Option Addr} {c11 : Nat} {y12 : Option Nat} {c12 : Nat} {a13 : Option Addr} {c13 : Nat} {a14 : Option Addr} {c14 : Nat} {a15 : Option Addr} {c15 : Nat} {b16 : Nat} {a17 : Option Addr} {c17 : Nat} {r : Bool} (h1 : RdL qI s a1 c1 p0.1.1.1) (h2 : RdL qI s a2 c2 p0.1.1.2.2.1) (h3 : RdL qT s a3 c3 p0.1.1.2.2.2) (h4 : MapD kvP qI s y4 c4 p0.1.2) (h5 : RdL qI s a5 c5 p0.2.1.1.1) (h6 : RdL qI s a6 c6 p0.2.1.1.2.2.1) (h7 : RdL qT s a7 c7 p0.2.1.1.2.2.2) (h8 : MapD kvP qI s y8 c8 p0.2.1.2) (h9 : RdL qI s a9 c9 p0.2.2.1.1.1) (h10 : RdL qI s a10 c10 p0.2.2.1.1.2.2.1) (h11 : RdL qT s a11 c11 p0.2.2.1.1.2.2.2) (h12 : MapD kvP qI s y12 c12 p0.2.2.1.2) (h13 : RdL (rL qI) s a13 c13 p0.2.2.2.1) (h14 : RdL qI s a14 c14 p0.2.2.2.2.1) (h15 : RdL qI s a15 c15 p0.2.2.2.2.2) (bx16 : Bx s t0 b16 #[.slice a1 p0.1.1.1.length c1, .int .i64 p0.1.1.2.1, .slice a2 p0.1.1.2.2.1.length c2, .slice a3 p0.1.1.2.2.2.length c3, .map y4, .slice a5 p0.2.1.1.1.length c5, .int .i64 p0.2.1.1.2.1, .slice a6 p0.2.1.1.2.2.1.length c6, .slice a7 p0.2.1.1.2.2.2.length c7, .map y8, .slice a9 p0.2.2.1.1.1.length c9, .int .i64 p0.2.2.1.1.2.1, .slice a10 p0.2.2.1.1.2.2.1.length c10, .slice a11 p0.2.2.1.1.2.2.2.length c11, .map y12, .slice a13 p0.2.2.2.1.length c13, .slice a14 p0.2.2.2.2.1.length c14, .slice a15 p0.2.2.2.2.2.length c15] 110) (h17 : RdL qI s a17 c17 p2) (hm : m_scan_task_ordered p0 p1 p2 = some r) :
    Calls Tryz.prog 58 #[.pointer (some ⟨b16, 0, none⟩), .int .i64 p1, .slice a17 p2.length c17] s.w (RetS No s fun v s' => v = .bool r) := by
 unfold m_scan_task_ordered at hm
 obtain ⟨N, hN, hNb, lt0, -⟩ := s.freshL [t0]
 have m0 : Mv (Up N No) s s := Mv.refl _ _
 refine E.entry Tryz.func58 R Tryz.ntmps58 R R (ER (L.as Y R R (LN (ER (L.mv Y R R (L.nc Y R R (L.fa fa110_3 Y R R (L.ld (j := 15) bx16.mem nag34 Y R R R R (L.mv Y R R ?_)))))))))
 obtain ⟨x18, ex18, hm⟩ := bindS hm
 refine L.ix (r := (rL qI)) sl34 h13 Y R R ex18 R fun b19 o19 cc19 me19 rd19 => ?_
 obtain ⟨a20, c20, rfl, h20⟩ := rd19
 refine L.ld (j := 0) me19 nag22 Y R R R R ?_
 obtain ⟨x21, ex21, hm⟩ := bindS hm
 refine L.ix (r := qI) sl22 h20 Y R R ex21 R fun b22 o22 cc22 me22 rd22 => ?_
 obtain rfl := rd22
 refine L.ld (j := 0) me22 nag3 Y R R R R (L.as Y R R (LN (ER (L.mv Y R R (L.mv Y R R (L.mv Y R R ?_))))))
 obtain ⟨r23, er23, hm⟩ := bindS hm
 refine L.ca cf54 R R Y R (m_scan_task_handle_c (s := s) (p0 := p0) (p1 := x21) (p2 := p2) (t0 := t0) h1 h2 h3 h4 h5 h6 h7 h8 h9 h10 h11 h12 h13 h14 h15 bx16 h17 er23) R ?_
 rintro _ s24 m25 rfl
 replace h17 := h17.mono m25.z
 refine L.mv Y R R (L.ex Y R R R (L.ex Y R R R (L.as Y R R (L.as Y R R (LN (ER (L.mv Y R R (L.mv Y R R (L.mv Y R R ?_)))))))))
 obtain ⟨r26, er26, hm⟩ := bindS hm
 refine L.ca cf109 R R Y R (m_slices_Values_int_c (s := s24) (p0 := p2) h17 er26) R fun v29 s27 m28 h29 => ?_
 obtain ⟨r30, er30, hm⟩ := bindS hm
 refine L.ca cf108 R R Y R (m_slices_Sorted_int_c (s := s27) (p0 := r26) (u0 := 0) h29 er30) R ?_
 rintro _ s31 m32 ⟨a33, c33, rfl, h33⟩
 replace h33 := h33.p
 replace bx16 := ((bx16.mv m25 no_No).mv m28 no_No).mv m32 no_No
 replace h1 := ((h1.mono m25.z).mono m28.z).mono m32.z
 replace h2 := ((h2.mono m25.z).mono m28.z).mono m32.z
 replace h3 := ((h3.mono m25.z).mono m28.z).mono m32.z
 replace h4 := ((h4.mono m25.z).mono m28.z).mono m32.z
 replace h5 := ((h5.mono m25.z).mono m28.z).mono m32.z
 replace h6 := ((h6.mono m25.z).mono m28.z).mono m32.z
 replace h7 := ((h7.mono m25.z).mono m28.z).mono m32.z
 replace h8 := ((h8.mono m25.z).mono m28.z).mono m32.z
 replace h9 := ((h9.mono m25.z).mono m28.z).mono m32.z
 replace h10 := ((h10.mono m25.z).mono m28.z).mono m32.z
 replace h11 := ((h11.mono m25.z).mono m28.z).mono m32.z
 replace h12 := ((h12.mono m25.z).mono m28.z).mono m32.z
 replace h13 := ((h13.mono m25.z).mono m28.z).mono m32.z
 replace h14 := ((h14.mono m25.z).mono m28.z).mono m32.z
 replace h15 := ((h15.mono m25.z).mono m28.z).mono m32.z
 obtain ⟨r34, er34, hm⟩ := bindS hm
 refine L.ca cf54 R R Y R (m_scan_task_handle_c (s := s31) (p0 := p0) (p1 := x21) (p2 := r30) (t0 := t0) h1 h2 h3 h4 h5 h6 h7 h8 h9 h10 h11 h12 h13 h14 h15 bx16 h33 er34) R ?_
 rintro _ s35 m36 rfl
 replace m0 := (((m0.trans m25.no).trans m28.no).trans m32.no).trans m36.no
 refine L.mv Y R R (L.ex Y R R R (L.ex Y R R R (L.as Y R R (L.as Y R R (LN (ER (L.mv Y R R (L.mv Y R R (L.len sl22 Y R R (L.bi Y R R R R (L.mv Y R R (L.cut 5 (fun e w => ∃ (v37 : Bool), ((r23.2 == (p2.length : Int)) && (r34.2 == (p2.length : Int))) = v37 ∧ e = (46, .bool v37) :: [(10, .int .i64 r34.1), (8, .int .i64 r23.1)] ∧ w = s35.w) ?_ ?_))))))))))))
 ·rintro _ _ ⟨v37, rfl, rfl, rfl⟩
  refine L.mv Y R R (L.cut 4 (fun e w => ∃ (v38 : Bool), (((r23.2 == (p2.length : Int)) && (r34.2 == (p2.length : Int))) && (r23.1 == r34.1)) = v38 ∧ e = (51, .bool v38) :: [] ∧ w = s35.w) ?_ ?_)
  ·rintro _ _ ⟨v38, rfl, rfl, rfl⟩
   refine L.as Y R R (LN (E.ret ?_))
   obtain rfl := oi hm
   exact X.rt (.inl R) Tryz.results58 (Rs.tmp R Rs.nil) R ⟨_, (s35).ren N (fun _ => 0), R, R, m0.ren hNb, R⟩
  intro J39
  rcases Bool.eq_false_or_eq_true ((r23.2 == (p2.length : Int)) && (r34.2 == (p2.length : Int))) with hc | hc
  ·exact L.know (d := 47) R hc (L.mv (Wt.mk R R) R R (L.mv (Wt.mk R R) R R (L.bi (Wt.mk R R) R R R R (L.pkT Y R R R R (L.sb (J39 _ _ ⟨(r23.1 == r34.1), (andT hc).symm, R, R⟩) R)))))
  exact L.know (d := 47) R hc (L.skip R R R R (L.skip R R R R (L.skip R R R R (L.pkF Y R R R R (L.sb (J39 _ _ ⟨false, (andF hc).symm, R, R⟩) R)))))
 intro J40
 rcases Bool.eq_false_or_eq_true (r23.2 == (p2.length : Int)) with hc | hc
 ·exact L.know (d := 41) R hc (L.mv (Wt.mk R R) R R (L.mv (Wt.mk R R) R R (L.len sl22 (Wt.mk R R) R R (L.bi (Wt.mk R R) R R R R (L.pkT Y R R R R (L.sb (J40 _ _ ⟨(r34.2 == (p2.length : Int)), (andT hc).symm, R, R⟩) R))))))
 exact L.know (d := 41) R hc (L.skip R R R R (L.skip R R R R (L.skip R R R R (L.skip R R R R (L.pkF Y R R R R (L.sb (J40 _ _ ⟨false, (andF hc).symm, R, R⟩) R))))))

noncomputable def m_scan_graph_word_1 (q0 : Int) (p0 : Int × Int × Int) : Option Bool :=
 some (p0.2.2 == q0)
theorem m_scan_graph_word_1_c {s : Sig} {q0 : Int} {p0 : Int × Int × Int} {b1 : Nat} {r : Bool} (bx1 : Bx s 0 b1 #[.int .i64 q0] 3) (hm : m_scan_graph_word_1 q0 p0 = some r) :
    Calls Tryz.prog 111 #[.agg #[.int .i64 p0.1, .int .i64 p0.2.1, .int .i64 p0.2.2], .pointer (some ⟨b1, 0, none⟩)] s.w (RetS No s fun v s' => v = .bool r) := by
 unfold m_scan_graph_word_1 at hm
 obtain ⟨N, hN, hNb⟩ := s.fresh
 have m0 : Mv (Up N No) s s := Mv.refl _ _
 refine E.entry Tryz.func111 R Tryz.ntmps111 R R (ER (L.box (N + 0) Y R R R fun b2 s3 m4 bx2 => ?_))
 replace m0 := m0.trans m4.no
 replace bx1 := bx1.mv m4 no_No
 refine L.as Y R R (LN (ER (L.fa fa97_2 Y R R (L.ld (j := 2) bx2.mem nag3 Y R R R R (L.ld (j := 0) bx1.mem nag3 Y R R R R (L.bi Y R R R R (L.as Y R R (LN (E.ret ?_)))))))))
 obtain rfl := oi hm
 exact X.rt (.inl R) Tryz.results111 (Rs.tmp R Rs.nil) R ⟨_, (s3).ren N (fun _ => 0), R, R, m0.ren hNb, R⟩

noncomputable def m_slices_IndexFunc_Edge_l1 (p0 : List (Int × Int × Int)) (p1 : (Int × Int × Int) → Option Bool) (st9 : Int) : Option (Int ⊕ (Unit ⊕ Int)) :=
 if decide (st9 < (p0.length : Int)) then
  (idx p0 st9).bind fun x18 =>
  (p1 x18).bind fun r20 =>
  if r20 then
   some (.inr (.inr (st9)))
  else
   some (.inl (W (st9 + 1)))
 else
  some (.inr (.inl ()))
noncomputable def m_slices_IndexFunc_Edge (p0 : List (Int × Int × Int)) (p1 : (Int × Int × Int) → Option Bool) : Option Int :=
 (iter (m_slices_IndexFunc_Edge_l1 p0 p1) 0).bind fun o9 =>
 match o9 with
 | .inl u12 =>
  some (-1)
 | .inr (u15) =>
  some u15
theorem m_slices_IndexFunc_Edge_c {s : Sig} {p0 : List (Int × Int × Int)} {p1 : (Int × Int × Int) → Option Bool} {a1 : Option Addr} {c1 : Nat} {vp1 : Value} {r : Int} (h1 : RdL qT s a1 c1 p0) (hp1 : FV1 Tryz.prog s vp1 (fun (x0 : Int × Int × Int) => [.agg #[.int .i64 x0.1, .int .i64 x0.2.1, .int .i64 x0.2.2]]) (fun (r : Bool) => .bool r) p1) (hm : m_slices_IndexFunc_Edge p0 p1 = some r) :
    Calls Tryz.prog 110 #[.slice a1 p0.length c1, vp1] s.w (RetS No s fun v s' => v = .int .i64 r) := by
 unfold m_slices_IndexFunc_Edge at hm
 obtain ⟨N, hN, hNb⟩ := s.fresh
 have m0 : Mv (Up N No) s s := Mv.refl _ _
 refine E.entry Tryz.func110 R Tryz.ntmps110 R R (ER (L.as Y R R (LN (E.seq (ER (L.mv Y R R (L.len sl23 Y R R (L.mv Y R R (LN (E.block ?_))))))))))
 obtain ⟨o9, eo9, hm⟩ := bindS hm
 refine E.cut (x := .exit 0) (fun e w => ∃ (s13 : Sig) (u12 : Unit), o9 = .inl u12 ∧ Mv (Up N No) s s13 ∧ e = [] ∧ w = s13.w) ?_ ?_
 ·rintro _ _ ⟨s13, u12, rfl, m0, rfl, rfl⟩
  dsimp only at hm
  refine X.blkE (X.seqN (ER (L.as Y R R (LN (E.ret ?_)))))
  obtain rfl := oi hm
  exact X.rt (.inl R) Tryz.results110 (Rs.tmp R Rs.nil) R ⟨_, (s13).ren N (fun _ => 0), R, R, m0.ren hNb, R⟩
 intro K14
 refine E.cut (x := .ret) (fun e w => ∃ (s16 : Sig) (u15 : Int), o9 = .inr (u15) ∧ Mv (Up N No) s s16 ∧ e = [(4, .int .i64 u15)] ∧ w = s16.w) ?_ ?_
 ·rintro _ _ ⟨s16, u15, rfl, m0, rfl, rfl⟩
  dsimp only at hm
  refine X.blkR (X.seqR ?_)
  obtain rfl := oi hm
  exact X.rt (.inl R) Tryz.results110 (Rs.tmp R Rs.nil) R ⟨_, (s16).ren N (fun _ => 0), R, R, m0.ren hNb, R⟩
 intro K17
 refine E.iter (fun (st9 : Int) (e : List (Nat × Value)) (w : World) => ∃ (s11 : Sig), Mv (Up N No) s s11 ∧ RdL qT s11 a1 c1 p0 ∧ FV1 Tryz.prog s11 vp1 (fun (x0 : Int × Int × Int) => [.agg #[.int .i64 x0.1, .int .i64 x0.2.1, .int .i64 x0.2.2]]) (fun (r : Bool) => .bool r) p1 ∧ e = [(8, .int .i64 st9), (7, .int .i64 (p0.length : Int)), (0, .slice a1 p0.length c1), (1, vp1)] ∧ w = s11.w) eo9 ⟨s, m0, h1, hp1, R, R⟩ (Sub.rf R) ?_
 rintro st9 res9 hm ih9 ho9 _ _ ⟨s11, m0, h1, hp1, rfl, rfl⟩
 unfold m_slices_IndexFunc_Edge_l1 at hm
 refine ER (L.bi Y R R R R (LN (E.seq ?_)))
 rcases ifS hm with ⟨hc, hm⟩ | ⟨hc, hm⟩
 ·refine E.cT R hc (E.skip (X.seqN (E.seq (E.block (ER (L.mv Y R R (L.as Y R R (LN (ER (L.mv Y R R (L.mv Y R R (L.mv Y R R ?_))))))))))))
  obtain ⟨x18, ex18, hm⟩ := bindS hm
  refine L.ix (r := qT) sl23 h1 Y R R ex18 R fun b19 o19 cc19 me19 rd19 => ?_
  obtain ⟨_, _, rfl, rfl, ⟨_, _, rfl, rfl, rfl⟩⟩ := rd19
  refine L.lg (j := 0) (cs := [.int .i64 x18.1, .int .i64 x18.2.1, .int .i64 x18.2.2]) me19 ag97 Y R R R R R ?_
  obtain ⟨r20, er20, hm⟩ := bindS hm
  refine L.fv1 (y := x18) hp1 R R Y R R er20 R fun s21 m22 => ?_
  replace m0 := m0.trans m22.no
  replace h1 := h1.mono m22.z
  replace hp1 := hp1.mono m22.z
  refine L.nil (X.seqN ?_)
  rcases ifS hm with ⟨hc, hm⟩ | ⟨hc, hm⟩
  ·refine E.cT R hc (ER (L.mv Y R R (L.as Y R R (LN (E.ret (X.blkR (X.seqR (X.seqR ?_))))))))
   have hx := ho9 _ (oi hm).symm
   exact X.sub (K17 _ _ ⟨s21, st9, hx.symm, m0, R, R⟩) (Sub.rf R)
  exact E.cF R hc (E.skip (X.blkN (X.seqN (E.reg (L.bi Y R R R R (L.mv Y R R (L.nil (X.sub (ih9 _ (oi hm).symm _ _ ⟨s21, m0, h1, hp1, R, R⟩) (Sub.rf R)))))))))
 refine E.cF R hc (E.exit (X.seqX (X.seqX ?_)))
 have hx := ho9 _ (oi hm).symm
 exact X.sub (K14 _ _ ⟨s11, (), hx.symm, m0, R, R⟩) Sub.nil

theorem cf110 : Cf Tryz.prog 110 := Cf.mk Tryz.func110 (by kernel_rfl) (by kernel_rfl)
theorem cf111 : Cf Tryz.prog 111 := Cf.mk Tryz.func111 (by kernel_rfl) (by kernel_rfl)
theorem cf112 : Cf Tryz.prog 112 := Cf.mk Tryz.func112 (by kernel_rfl) (by kernel_rfl)
noncomputable def m_scan_graph_word_l1 (p0 : AutT × (List ((Int × Int) × Int))) (st35 : List Int × Int) : Option ((List Int × Int) ⊕ (List Int)) :=
 if decide (st35.2 > 0) then
  (m_slices_IndexFunc_Edge p0.1.2.2.2 (m_scan_graph_word_1 st35.2)).bind fun r45 =>
  (idx p0.1.2.2.2 r45).bind fun x49 =>
  (app st35.1 ([x49.2.1] : List Int)).bind fun x54 =>
  (idx p0.1.2.2.2 r45).bind fun x58 =>
  some (.inl (x54, x58.1))
 else
  some (.inr st35.1)
noncomputable def m_scan_graph_word (p0 : AutT × (List ((Int × Int) × Int))) (p1 : Int) : Option (List Int) :=
 (iter (m_scan_graph_word_l1 p0) (([] : List Int), p1)).bind fun o35 =>
 (m_slices_Reverse_int o35).bind fun r40 =>
 (lenEq r40 o35).bind fun _ =>
 some r40
theorem m_scan_graph_word_c {s : Sig} {p0 : AutT × (List ((Int × Int) × Int))} {p1 : Int} {a1 : Option Addr} {c1 : Nat} {a2 : Option Addr} {c2 : Nat} {a3 : Option Addr} {c3 : Nat} {y4 : Option Nat} {c4 : Nat} {u0 : Nat} {r : List Int} (h1 : RdL qI s a1 c1 p0.1.1) (h2 : RdL qI s a2 c2 p0.1.2.2.1) (h3 : RdL qT s a3 c3 p0.1.2.2.2) (h4 : MapD kvP qI s y4 c4 p0.2) (hm : m_scan_graph_word p0 p1 = some r) :
    Calls Tryz.prog 59 #[.agg #[.slice a1 p0.1.1.length c1, .int .i64 p0.1.2.1, .slice a2 p0.1.2.2.1.length c2, .slice a3 p0.1.2.2.2.length c3, .map y4], .int .i64 p1] s.w (RetS No s fun v s' => ∃ (a5 : Option Addr) (c5 : Nat), v = .slice a5 r.length c5 ∧ RowT qI s' u0 3 a5 c5 r) := by
 unfold m_scan_graph_word at hm
 obtain ⟨N, hN, hNb⟩ := s.fresh
 have m0 : Mv (Up N No) s s := Mv.refl _ _
 refine E.entry Tryz.func59 R Tryz.ntmps59 R R (ER (L.box (N + 0) Y R R R fun b6 s7 m8 bx6 => ?_))
 refine L.box (N + 1) Y R R R fun b9 s10 m11 bx9 => ?_
 replace m0 := (m0.trans m8.no).trans m11.no
 replace bx6 := bx6.mv m11 no_No
 replace h1 := (h1.mono m8.z).mono m11.z
 replace h2 := (h2.mono m8.z).mono m11.z
 replace h3 := (h3.mono m8.z).mono m11.z
 replace h4 := (h4.mono m8.z).mono m11.z
 refine L.as Y R R (LN (ER (L.as Y R R (LN (E.seq (E.block ?_))))))
 obtain ⟨o35, eo35, hm⟩ := bindS hm
 refine E.cut (x := .exit 0) (fun e w => ∃ (s39 : Sig) (a37 : Option Addr) (c37 : Nat), Mv (Up N No) s s39 ∧ RowT qI s39 (N + 2) 3 a37 c37 o35 ∧ e = [(5, .slice a37 o35.length c37)] ∧ w = s39.w) ?_ ?_
 ·rintro _ _ ⟨s39, a37, c37, m0, h37, rfl, rfl⟩
  refine X.blkE (X.seqN (ER (L.mv Y R R ?_)))
  obtain ⟨r40, er40, hm⟩ := bindS hm
  refine L.ca cf112 R R Y R (m_slices_Reverse_int_c (s := s39) (p0 := o35) (t0 := (N + 2)) (tpos hN) h37 er40) R ?_
  rintro _ s41 m42 ⟨rfl, h37⟩
  obtain ⟨_, qz43, hm⟩ := bindS hm
  have elz43 := len_some qz43
  replace m0 := m0.trans (m42.one up)
  refine L.reval (d := 5) R elz43 (LN (ER (L.mv Y R R (L.as Y R R (LN (E.ret ?_))))))
  obtain rfl := oi hm
  exact X.rt (.inl R) Tryz.results59 (Rs.tmp R Rs.nil) R ⟨_, (s41).ren N (fun k => cond (Nat.beq k 2) u0 (0)), R, R, m0.ren hNb, ⟨a37, c37, R, (h37.ren hN)⟩⟩
 intro K44
 refine E.iter (fun (st35 : List Int × Int) (e : List (Nat × Value)) (w : World) => ∃ (s38 : Sig) (a13 : Option Addr) (c13 : Nat), Mv (Up N No) s s38 ∧ RowT qI s38 (N + 2) 3 a13 c13 st35.1 ∧ RdL qI s38 a1 c1 p0.1.1 ∧ RdL qI s38 a2 c2 p0.1.2.2.1 ∧ RdL qT s38 a3 c3 p0.1.2.2.2 ∧ MapD kvP qI s38 y4 c4 p0.2 ∧ Bx s38 (N + 0) b6 #[.slice a1 p0.1.1.length c1, .int .i64 p0.1.2.1, .slice a2 p0.1.2.2.1.length c2, .slice a3 p0.1.2.2.2.length c3, .map y4] 108 ∧ Bx s38 (N + 1) b9 #[.int .i64 st35.2] 3 ∧ e = [(5, .slice a13 st35.1.length c13), (3, .pointer (some ⟨b9, 0, none⟩)), (2, .pointer (some ⟨b6, 0, none⟩))] ∧ w = s38.w) eo35 ⟨s10, none, 0, m0, RowT.nil, h1, h2, h3, h4, bx6, bx9, R, R⟩ (Sub.rf R) ?_
 rintro st35 res35 hm ih35 ho35 _ _ ⟨s38, a13, c13, m0, h13, h1, h2, h3, h4, bx6, bx9, rfl, rfl⟩
 unfold m_scan_graph_word_l1 at hm
 refine E.seq (ER (L.ld (j := 0) bx9.mem nag3 Y R R R R (L.bi Y R R R R (L.nil (X.seqN ?_)))))
 rcases ifS hm with ⟨hc, hm⟩ | ⟨hc, hm⟩
 ·refine E.cT R hc (E.skip (X.seqN (E.block (ER (L.fa fa108_0 Y R R (L.fa fa25_3 Y R R (L.ld (j := 3) bx6.mem nag23 Y R R R R (L.mf Y R R R ?_))))))))
  have h46 : FV1 Tryz.prog (Sig.drop N s38) (.func (.func 111) #[] #[.pointer (some ⟨b9, 0, none⟩)]) (fun (x0 : Int × Int × Int) => [.agg #[.int .i64 x0.1, .int .i64 x0.2.1, .int .i64 x0.2.2]]) (fun (r : Bool) => .bool r) (m_scan_graph_word_1 st35.2) := ⟨111, #[], #[.pointer (some ⟨b9, 0, none⟩)], rfl, cf111, fun x0 r hm s' hl => by have hh := m_scan_graph_word_1_c (s := s') (Bx.le bx9.drop hl) hm; simpa using hh⟩
  obtain ⟨r45, er45, hm⟩ := bindS hm
  refine L.ca cf110 R R Y R (Calls.lendG (s0 := (Sig.drop N s38)) (s := s38) R (m_slices_IndexFunc_Edge_c (s := (Sig.drop N s38)) (p0 := p0.1.2.2.2) (p1 := (m_scan_graph_word_1 st35.2)) (h3.mono (Sig.drop_le N _)) h46 er45) (fun v s' h => h)) R ?_
  rintro _ s47 m48 rfl
  replace bx6 := bx6.mv m48 no_No
  replace h3 := h3.mono m48.z
  refine L.as Y R R (LN (ER (L.mv Y R R (L.fa fa108_0 Y R R (L.fa fa25_3 Y R R (L.ld (j := 3) bx6.mem nag23 Y R R R R (L.mv Y R R ?_)))))))
  obtain ⟨x49, ex49, hm⟩ := bindS hm
  refine L.ix (r := qT) sl23 h3 Y R R ex49 R fun b50 o50 cc50 me50 rd50 => ?_
  obtain ⟨_, _, rfl, rfl, ⟨_, _, rfl, rfl, rfl⟩⟩ := rd50
  refine L.fa fa97_1 Y R R (L.ld (j := 1) me50 nag3 Y R R R R (L.bsE (k := 1) (cs := [.int .i64 x49.2.1]) 0 bs22 (nb R) Y R R R R fun b51 s52 m53 bx51 => ?_))
  replace h13 := (h13.mv m48 no_No no_No).mv m53 no_No no_No
  have h51 := Bx.rdL (r := qI) (xs := ([x49.2.1] : List Int)) bx51 ⟨[.int .i64 x49.2.1], _, R, R, R⟩ (nb R)
  obtain ⟨x54, ex54, hm⟩ := bindS hm
  refine L.ap (r := qI) Tryz.underlying22 el3 R (tgp hN) h13 h51.wk Y R R ex54 R fun a55 c55 s56 m57 h55 => ?_
  replace bx6 := (bx6.mv m53 no_No).mv m57 (tq R)
  replace h3 := (h3.mono m53.z).mono (m57.le (tg0 hN))
  replace bx9 := ((bx9.mv m48 no_No).mv m53 no_No).mv m57 (tq R)
  refine L.as Y R R (LN (E.reg (L.fa fa108_0 Y R R (L.fa fa25_3 Y R R (L.ld (j := 3) bx6.mem nag23 Y R R R R (L.mv Y R R ?_))))))
  obtain ⟨x58, ex58, hm⟩ := bindS hm
  refine L.ix (r := qT) sl23 h3 Y R R ex58 R fun b59 o59 cc59 me59 rd59 => ?_
  obtain ⟨_, _, rfl, rfl, ⟨_, _, rfl, rfl, rfl⟩⟩ := rd59
  refine L.fa fa97_0 Y R R (L.ld (j := 0) me59 nag3 Y R R R R (L.st (c := [.int .i64 x58.1]) (cs' := #[.int .i64 x58.1]) bx9 nag3.sz Y R R R R R (nb R) R fun s60 m61 bx9 => ?_))
  replace m0 := (((m0.trans m48.no).trans m53.no).trans (m57.one up)).trans (m61.one up)
  replace h55 := h55.mv m61 (tq R) (tg0 hN)
  replace bx6 := bx6.mv m61 (tq R)
  replace h1 := (((h1.mono m48.z).mono m53.z).mono (m57.le (tg0 hN))).mono (m61.le (tg0 hN))
  replace h2 := (((h2.mono m48.z).mono m53.z).mono (m57.le (tg0 hN))).mono (m61.le (tg0 hN))
  replace h3 := h3.mono (m61.le (tg0 hN))
  replace h4 := (((h4.mono m48.z).mono m53.z).mono (m57.le (tg0 hN))).mono (m61.le (tg0 hN))
  exact L.nil (X.blkN (X.sub (ih35 _ (oi hm).symm _ _ ⟨s60, a55, c55, m0, h55, h1, h2, h3, h4, bx6, bx9, R, R⟩) (Sub.rf R)))
 refine E.cF R hc (E.exit (X.seqX (X.seqX ?_)))
 have hx := ho35 _ (oi hm).symm
 subst hx
 exact X.sub (K44 _ _ ⟨s38, a13, c13, m0, h13, R, R⟩) (Sub.rf R)

end Go.Proofs.YtidakgbibobbdaaGreatDoor

