/- Parts of the proof, without what nothing here names. -/
import Derived.Test.YtfbapajcheammaaGreatDoorProg
import Derived.Test.YtfbapajcheammaaGreatDoorQT2
set_option maxRecDepth 100000
set_option maxHeartbeats 8000000
namespace Go.Proofs.YtfbapajcheammaaGreatDoor
open Go Go.RowKit
theorem eiGa : FA Tryz.prog 91 0 0 := FA.mk Tryz.underlying91 rfl rfl ⟨4, by decide, by kernel_rfl⟩
theorem eiGb : FA Tryz.prog 91 1 4 := FA.mk Tryz.underlying91 rfl rfl ⟨1, by decide, by kernel_rfl⟩
theorem eiAd : FA Tryz.prog 30 3 3 := FA.mk Tryz.underlying30 rfl rfl ⟨1, by decide, by kernel_rfl⟩
theorem eiNe : NAg Tryz.prog 28 := NAg.mk' Tryz.underlying28 rfl (by kernel_rfl)
theorem eiNi : NAg Tryz.prog 27 := NAg.mk' Tryz.underlying27 rfl (by kernel_rfl)
theorem eiNn : NAg Tryz.prog 3 := NAg.mk' Tryz.underlying3 rfl (by kernel_rfl)
theorem eiSi : Sl Tryz.prog 27 3 1 := Sl.mk' Tryz.underlying27 (by kernel_rfl)
theorem eiSe : Sl Tryz.prog 28 62 3 := Sl.mk' Tryz.underlying28 (by kernel_rfl)
theorem eiAe : Ag Tryz.prog 62 3 := Ag.mk' Tryz.underlying62 rfl (by kernel_rfl)
theorem eiZe : (Tryz.prog.info? 62).bind (·.zero) = some (.agg #[.int .i64 0, .int .i64 0, .int .i64 0]) := by kernel_rfl
theorem eiCf : Cf Tryz.prog 96 := Cf.mk Tryz.func96 (by kernel_rfl) (by kernel_rfl)
def encE (x : Int × Int × Int) : List Value := [.agg #[.int .i64 x.1, .int .i64 x.2.1, .int .i64 x.2.2]]
theorem edges1_fi {s : Sig} {q0 : (List Int × Int × List Int × (List (Int × Int × Int))) × List Int} {q1 : Int} {a1 : Option Addr} {c1 : Nat} {a2 : Option Addr} {c2 : Nat} {a3 : Option Addr} {c3 : Nat} {a4 : Option Addr} {c4 : Nat} {b5 : Nat} {b6 : Nat} {x14 x22 : Int} {x26 : List (Int × Int × Int)} (h3 : RdL (rP (rK .i64) (rP (rK .i64) (rK .i64))) s a3 c3 q0.1.2.2.2) (h4 : RdL (rK .i64) s a4 c4 q0.2) (bx5 : Bx s 0 b5 #[.slice a1 q0.1.1.length c1, .int .i64 q0.1.2.1, .slice a2 q0.1.2.2.1.length c2, .slice a3 q0.1.2.2.2.length c3, .slice a4 q0.2.length c4] 91) (bx6 : Bx s 0 b6 #[.int .i64 q1] 3)
    (ex14 : idx q0.2 q1 = some x14) (ex22 : idx q0.2 (W (q1 + 1)) = some x22) (ex26 : slc q0.1.2.2.2 x14 x22 = some x26) (hlen : x26.length ≤ 4294967296) :
    FI Tryz.prog s (.func (.func 96) #[] #[.pointer (some ⟨b5, 0, none⟩), .pointer (some ⟨b6, 0, none⟩)]) x26.length (fun k => encE (x26.getD k (0, 0, 0))) := by
 refine ⟨96, #[.pointer (some ⟨b5, 0, none⟩), .pointer (some ⟨b6, 0, none⟩)], rfl, eiCf, fun l J s1 hle hcl hY h0 => ?_⟩
 replace h3 := h3.mono hle
 replace h4 := h4.mono hle
 replace bx5 := bx5.le hle
 replace bx6 := bx6.le hle
 refine E.entry (vs := [.func (.yield l) #[] #[], .pointer (some ⟨b5, 0, none⟩), .pointer (some ⟨b6, 0, none⟩)]) Tryz.func96 rfl Tryz.ntmps96 rfl rfl (E.seq ?_)
 refine E.draw [[], [0], [0, 1], [], [3], [], [3, 4, 5], [3, 4, 5, 6], [], [8], [], [10], [8, 9, 10, 11], [8, 9, 10, 11, 12], [0, 1, 2, 3, 4, 5, 6, 7, 8, 9, 10, 11, 12, 13], [0, 1, 2, 3, 4, 5, 6, 7, 8, 9, 10, 11, 12, 13, 14], []] (fun D e sx => Mv No s1 sx ∧ Sub [(0, .func (.yield l) #[] #[]), (1, .pointer (some ⟨b5, 0, none⟩)), (2, .pointer (some ⟨b6, 0, none⟩))] e ∧ AllP [G D e 0 6 (.pointer (some ⟨b5, 0, none⟩)), G D e 1 7 (.pointer (some ⟨b5, 3, none⟩)), G D e 2 8 (.slice a3 q0.1.2.2.2.length c3), G D e 3 9 (.pointer (some ⟨b5, 4, none⟩)), G D e 4 10 (.slice a4 q0.2.length c4), G D e 5 11 (.int .i64 q1), D 6 = true → (∃ (b15 : Nat) (o15 : Nat), Env.get e 12 = some (.pointer (some ⟨b15, o15, none⟩)) ∧ Mem sx 0 b15 o15 [.int .i64 x14]), G D e 7 13 (.int .i64 x14), G D e 8 14 (.pointer (some ⟨b5, 4, none⟩)), G D e 9 15 (.slice a4 q0.2.length c4), G D e 10 16 (.int .i64 q1), G D e 11 17 (.int .i64 (W (q1 + 1))), D 12 = true → (∃ (b23 : Nat) (o23 : Nat), Env.get e 18 = some (.pointer (some ⟨b23, o23, none⟩)) ∧ Mem sx 0 b23 o23 [.int .i64 x22]), G D e 13 19 (.int .i64 x22), D 14 = true → (∃ (a27 : Option Addr) (c27 : Nat), Env.get e 20 = some (.slice a27 x26.length c27) ∧ RdL (rP (rK .i64) (rP (rK .i64) (rK .i64))) sx a27 c27 x26), G D e 15 21 (.int .i64 (x26.length : Int)), G D e 16 22 (.int .i64 0)]) (by kernel_rfl) (by kernel_rfl) (by kernel_rfl) ?_ ?_ ?_
 ·intro sz mz
  exact ⟨mz, (Sub.rf rfl), nofun, nofun, nofun, nofun, nofun, nofun, nofun, nofun, nofun, nofun, nofun, nofun, nofun, nofun, nofun, nofun, nofun, trivial⟩
 ·refine ⟨?_, ?_, ?_, ?_, ?_, ?_, ?_, ?_, ?_, ?_, ?_, ?_, ?_, ?_, ?_, ?_, ?_, trivial⟩
  ·rintro D e s7 ⟨im, ib, i⟩ hk hf ha
   have kn := K1 (ib 1 _ rfl)
   exact L.kns _ kn (L.fa eiGa Wt.no rfl rfl (L.nil (X.dk kn ⟨im, Sub.fresh ib rfl, i.u 0 (fun _ => rfl)⟩)))
  ·rintro D e s8 ⟨im, ib, i⟩ hk hf ha
   have kn := K1 ((i.p 0) (ha.at 0 rfl))
   exact L.kns _ kn (L.fa eiAd Wt.no rfl rfl (L.nil (X.dk kn ⟨im, Sub.fresh ib rfl, i.u 1 (fun _ => rfl)⟩)))
  ·rintro D e s9 ⟨im, ib, i⟩ hk hf ha
   have bx5 := bx5.mv im no_No
   have kn := K1 ((i.p 1) (ha.at 1 rfl))
   exact L.kns _ kn (L.ld (j := 3) bx5.mem eiNe Wt.no rfl rfl rfl rfl (L.nil (X.dk kn ⟨im, Sub.fresh ib rfl, i.u 2 (fun _ => rfl)⟩)))
  ·rintro D e s10 ⟨im, ib, i⟩ hk hf ha
   have kn := K1 (ib 1 _ rfl)
   exact L.kns _ kn (L.fa eiGb Wt.no rfl rfl (L.nil (X.dk kn ⟨im, Sub.fresh ib rfl, i.u 3 (fun _ => rfl)⟩)))
  ·rintro D e s11 ⟨im, ib, i⟩ hk hf ha
   have bx5 := bx5.mv im no_No
   have kn := K1 ((i.p 3) (ha.at 3 rfl))
   exact L.kns _ kn (L.ld (j := 4) bx5.mem eiNi Wt.no rfl rfl rfl rfl (L.nil (X.dk kn ⟨im, Sub.fresh ib rfl, i.u 4 (fun _ => rfl)⟩)))
  ·rintro D e s12 ⟨im, ib, i⟩ hk hf ha
   have bx6 := bx6.mv im no_No
   have kn := K1 (ib 2 _ rfl)
   exact L.kns _ kn (L.ld (j := 0) bx6.mem eiNn Wt.no rfl rfl rfl rfl (L.nil (X.dk kn ⟨im, Sub.fresh ib rfl, i.u 5 (fun _ => rfl)⟩)))
  ·rintro D e s13 ⟨im, ib, i⟩ hk hf ha
   have h4 := h4.mono (im.le no_No)
   have kn := K2 ((i.p 4) (ha.at 4 rfl)) ((i.p 5) (ha.at 5 rfl))
   refine L.kns _ kn (L.ix (r := (rK .i64)) eiSi h4 Wt.no rfl rfl ex14 rfl fun b15 o15 cc15 me15 rd15 => ?_)
   obtain rfl := rd15
   exact L.nil (X.dk kn ⟨im, Sub.fresh ib rfl, i.u 6 (fun _ => ⟨b15, o15, rfl, me15⟩)⟩)
  ·rintro D e s16 ⟨im, ib, i⟩ hk hf ha
   obtain ⟨b15, o15, g6_, me15⟩ := (i.p 6) (ha.at 6 rfl)
   have kn := K1 g6_
   exact L.kns _ kn (L.ld (j := 0) me15 eiNn Wt.no rfl rfl rfl rfl (L.nil (X.dk kn ⟨im, Sub.fresh ib rfl, i.u 7 (fun _ => rfl)⟩)))
  ·rintro D e s17 ⟨im, ib, i⟩ hk hf ha
   have kn := K1 (ib 1 _ rfl)
   exact L.kns _ kn (L.fa eiGb Wt.no rfl rfl (L.nil (X.dk kn ⟨im, Sub.fresh ib rfl, i.u 8 (fun _ => rfl)⟩)))
  ·rintro D e s18 ⟨im, ib, i⟩ hk hf ha
   have bx5 := bx5.mv im no_No
   have kn := K1 ((i.p 8) (ha.at 8 rfl))
   exact L.kns _ kn (L.ld (j := 4) bx5.mem eiNi Wt.no rfl rfl rfl rfl (L.nil (X.dk kn ⟨im, Sub.fresh ib rfl, i.u 9 (fun _ => rfl)⟩)))
  ·rintro D e s19 ⟨im, ib, i⟩ hk hf ha
   have bx6 := bx6.mv im no_No
   have kn := K1 (ib 2 _ rfl)
   exact L.kns _ kn (L.ld (j := 0) bx6.mem eiNn Wt.no rfl rfl rfl rfl (L.nil (X.dk kn ⟨im, Sub.fresh ib rfl, i.u 10 (fun _ => rfl)⟩)))
  ·rintro D e s20 ⟨im, ib, i⟩ hk hf ha
   have kn := K1 ((i.p 10) (ha.at 10 rfl))
   exact L.kns _ kn (L.bi Wt.no rfl rfl rfl rfl (L.nil (X.dk kn ⟨im, Sub.fresh ib rfl, i.u 11 (fun _ => rfl)⟩)))
  ·rintro D e s21 ⟨im, ib, i⟩ hk hf ha
   have h4 := h4.mono (im.le no_No)
   have kn := K2 ((i.p 9) (ha.at 9 rfl)) ((i.p 11) (ha.at 11 rfl))
   refine L.kns _ kn (L.ix (r := (rK .i64)) eiSi h4 Wt.no rfl rfl ex22 rfl fun b23 o23 cc23 me23 rd23 => ?_)
   obtain rfl := rd23
   exact L.nil (X.dk kn ⟨im, Sub.fresh ib rfl, i.u 12 (fun _ => ⟨b23, o23, rfl, me23⟩)⟩)
  ·rintro D e s24 ⟨im, ib, i⟩ hk hf ha
   obtain ⟨b23, o23, g12_, me23⟩ := (i.p 12) (ha.at 12 rfl)
   have kn := K1 g12_
   exact L.kns _ kn (L.ld (j := 0) me23 eiNn Wt.no rfl rfl rfl rfl (L.nil (X.dk kn ⟨im, Sub.fresh ib rfl, i.u 13 (fun _ => rfl)⟩)))
  ·rintro D e s25 ⟨im, ib, i⟩ hk hf ha
   have h3 := h3.mono (im.le no_No)
   have kn := K3 ((i.p 2) (ha.at 2 rfl)) ((i.p 7) (ha.at 7 rfl)) ((i.p 13) (ha.at 13 rfl))
   exact L.kns _ kn (L.sl (r := (rP (rK .i64) (rP (rK .i64) (rK .i64)))) eiSe h3 Wt.no rfl rfl rfl ex26 rfl fun a27 c27 h27 => L.nil (X.dk kn ⟨im, Sub.fresh ib rfl, i.u 14 (fun _ => ⟨a27, c27, rfl, h27⟩)⟩))
  ·rintro D e s28 ⟨im, ib, i⟩ hk hf ha
   obtain ⟨a27, c27, g14_, h27⟩ := (i.p 14) (ha.at 14 rfl)
   have kn := K1 g14_
   exact L.kns _ kn (L.len eiSe Wt.no rfl rfl (L.nil (X.dk kn ⟨im, Sub.fresh ib rfl, i.u 15 (fun _ => rfl)⟩)))
  rintro D e s29 ⟨im, ib, i⟩ hk hf ha
  exact L.mv Wt.no rfl rfl (L.nil (X.dr (s := s29) (e' := (22, .int .i64 0) :: e) (Sub.both (Sub.refl)) ⟨im, Sub.fresh ib rfl, i.u 16 (fun _ => rfl)⟩))
 rintro D e s30 hD ⟨im, ib, i⟩
 obtain ⟨a27, c27, g14_, h27⟩ := (i.p 14) (hD 14 rfl)
 have g15_ := (i.p 15) (hD 15 rfl)
 have g16_ := (i.p 16) (hD 16 rfl)
 refine X.sub (e' := [(22, .int .i64 0), (21, .int .i64 (x26.length : Int)), (20, .slice a27 x26.length c27), (0, .func (.yield l) #[] #[])]) ?_ (Sub.cons g16_ (Sub.cons g15_ (Sub.cons g14_ (Sub.cons (ib 0 _ rfl) Sub.nil))))
 refine X.seqN (E.block ?_)
 have h0 := hcl _ _ _ h0 im
 have hN : (x26.length : Int) < 9223372036854775807 := by omega
 have hW : ∀ i : Nat, i < 4294967296 → W ((i : Int) + 1) = ((i + 1 : Nat) : Int) := fun i hi => by rw [show W ((i : Int) + 1) = (i : Int) + 1 from IntWalk.i64_in _ (by omega)]; rfl
 obtain ⟨f, hf⟩ : ∃ f : Int → Option (Int ⊕ Unit), f = fun i => if decide (i < (x26.length : Int)) then some (.inl (W (i + 1))) else some (.inr ()) := ⟨_, rfl⟩
 have hit : iter f 0 = some () := by
  refine iter_run (fun i => (i : Int)) x26.length (by omega) (fun i hi => ?_) ?_
  · rw [hf]
    show (if decide ((i : Int) < (x26.length : Int)) then some (Sum.inl (W ((i : Int) + 1))) else some (Sum.inr ())) = some (Sum.inl (((i + 1 : Nat) : Int)))
    rw [if_pos (by simpa using hi), hW i (by omega)]
  · rw [hf]
    show (if decide ((x26.length : Int) < (x26.length : Int)) then some (Sum.inl (W ((x26.length : Int) + 1))) else some (Sum.inr ())) = some (Sum.inr ())
    rw [if_neg (by simp)]
 refine E.cut (x := .exit 0) (fun e w => ∃ (s46 : Sig), J x26.length s46 ∧ e = [] ∧ w = s46.w) ?_ ?_
 ·rintro _ _ ⟨s46, hJ, rfl, rfl⟩
  refine X.blkE ?_
  exact X.rt (.inr rfl) Tryz.results96 Rs.nil rfl ⟨⟨_, rfl⟩, s46, rfl, hJ⟩
 intro K47
 refine E.iter (fun (st43 : Int) (e : List (Nat × Value)) (w : World) => ∃ (k : Nat) (s44 : Sig), st43 = (k : Int) ∧ k ≤ x26.length ∧ J k s44 ∧ RdL (rP (rK .i64) (rP (rK .i64) (rK .i64))) s44 a27 c27 x26 ∧ e = [(22, .int .i64 st43), (21, .int .i64 (x26.length : Int)), (20, .slice a27 x26.length c27), (0, .func (.yield l) #[] #[])] ∧ w = s44.w) hit ⟨0, s30, rfl, Nat.zero_le _, h0, h27, rfl, rfl⟩ (Sub.rf rfl) ?_
 rintro st43 res43 hm ih43 ho43 _ _ ⟨k, s44, rfl, hk, hJ, h27, rfl, rfl⟩
 rw [hf] at hm
 refine E.seq (E.reg (L.bi Wt.no rfl rfl rfl rfl (L.nil (X.seqN (E.seq ?_)))))
 rcases ifS hm with ⟨hc, hm⟩ | ⟨hc, hm⟩
 ·refine E.cT rfl hc (E.skip (X.seqN (E.seq (E.block (E.seq (E.reg ?_))))))
  have hk2 : k < x26.length := by simpa using hc
  obtain ⟨s45, hs45⟩ : ∃ s45 : Sig, s45 = ⟨s44.w, fun _ => 0⟩ := ⟨_, rfl⟩
  have h27z : RdL (rP (rK .i64) (rP (rK .i64) (rK .i64))) s45 a27 c27 x26 := h27.mono (by rw [hs45]; exact ⟨Nat.le_refl _, fun _ _ _ => ⟨rfl, rfl⟩⟩)
  have hw45 : s44.w = s45.w := by rw [hs45]
  rw [hw45]
  have ex51 : idx x26 (k : Int) = some x26[k] := by unfold idx; rw [if_pos (by omega), Int.toNat_natCast, List.getElem?_eq_getElem hk2]
  generalize hx51 : x26[k] = x51 at ex51
  refine L.ix (r := (rP (rK .i64) (rP (rK .i64) (rK .i64)))) eiSe h27z Wt.no rfl rfl ex51 rfl fun b52 o52 cc52 me52 rd52 => ?_
  obtain ⟨_, _, rfl, rfl, ⟨_, _, rfl, rfl, rfl⟩⟩ := rd52
  refine L.lg (j := 0) (cs := [.int .i64 x51.1, .int .i64 x51.2.1, .int .i64 x51.2.2]) me52 eiAe Wt.no rfl rfl rfl rfl rfl (L.al 1 eiZe rfl Wt.no rfl fun b53 s54 m55 bx53 => ?_)
  refine L.st (c := [.int .i64 x51.1, .int .i64 x51.2.1, .int .i64 x51.2.2]) (cs' := #[.int .i64 x51.1, .int .i64 x51.2.1, .int .i64 x51.2.2]) bx53 eiAe.sz Wt.no rfl rfl rfl rfl rfl (Nat.le_of_ble_eq_true rfl) rfl fun s56 m57 bx53 => ?_
  have hbel : Below s44.w.heap.size s44.w s56.w := by
   refine ⟨?_, ?_, ?_, ?_, fun b hb => ?_⟩
   · rw [m57.os, m55.os, hs45]
   · rw [m57.tape, m55.tape, hs45]
   · rw [m57.output, m55.output, hs45]
   · have := m55.size; have := m57.size; rw [← hw45] at *; omega
   · have hb' : b < s45.w.heap.size := by rw [← hw45]; exact hb
     obtain ⟨g1, g2⟩ := m55.blk b hb' id
     obtain ⟨g3, g4⟩ := m57.blk b (Nat.lt_of_lt_of_le hb' m55.size) (by rw [g2, hs45]; show ¬ (0 = 1); decide)
     rw [g3, g1, hs45]
  obtain ⟨s58, hs58⟩ : ∃ s58 : Sig, s58 = ⟨s56.w, fun b => if b < s44.w.heap.size then s44.tag b else 0⟩ := ⟨_, rfl⟩
  have hm58 : Mv No s44 s58 := by rw [hs58]; exact Below.mv hbel fun b hb => if_pos hb
  have hJ := hcl _ _ _ hJ hm58
  refine L.nil (X.seqN (E.seq (E.reg (L.mv Wt.no rfl rfl (L.lg (j := 0) (cs := [.int .i64 x51.1, .int .i64 x51.2.1, .int .i64 x51.2.2]) bx53.mem eiAe Wt.no rfl rfl rfl rfl rfl ?_)))))
  have hw58 : s56.w = s58.w := by rw [hs58]
  have h27 := h27.mono (hm58.le no_No)
  rw [hw58]
  have henc : encE x51 = encE (x26.getD k (0, 0, 0)) := by rw [List.getD_eq_getElem?_getD, List.getElem?_eq_getElem hk2, hx51]; rfl
  refine L.yd (x := .tmp 26) (xs := [.tmp 27]) hY hk2 hJ rfl rfl Wt.no rfl (by rw [← henc]; rfl) rfl fun s59 hle59 hJ => ?_
  have h27 := h27.mono hle59
  refine L.not Wt.no rfl rfl (L.nil (X.seqN (E.cF rfl rfl (E.skip (X.blkN (X.seqN (E.reg (L.bi Wt.no rfl rfl rfl rfl (L.mv Wt.no rfl rfl (L.nil (X.sub (ih43 _ (Option.some.inj hm).symm _ _ ⟨k + 1, s59, ?_, hk2, hJ, h27, rfl, rfl⟩) (Sub.rf rfl))))))))))))
  exact hW k (by omega)
 refine E.cF rfl hc (E.exit (X.seqX (X.seqX ?_)))
 have hkl : k = x26.length := by simp at hc; omega
 subst hkl
 exact X.sub (K47 _ _ ⟨s44, hJ, rfl, rfl⟩) Sub.nil
def m_reach_graph_edges (p0 : (List Int × Int × List Int × (List (Int × Int × Int))) × List Int) (p1 : Int) : Option (List (Int × Int × Int)) :=
 (idx p0.2 p1).bind fun lo => (idx p0.2 (W (p1 + 1))).bind fun hi => (slc p0.1.2.2.2 lo hi).bind fun xs => if xs.length ≤ 4294967296 then some xs else none
theorem m_reach_graph_edges_c {s : Sig} {p0 : (List Int × Int × List Int × (List (Int × Int × Int))) × List Int} {p1 : Int} {a1 : Option Addr} {c1 : Nat} {a2 : Option Addr} {c2 : Nat} {a3 : Option Addr} {c3 : Nat} {a4 : Option Addr} {c4 : Nat} {r : List (Int × Int × Int)} (_h1 : RdL (rK .i64) s a1 c1 p0.1.1) (_h2 : RdL (rK .i64) s a2 c2 p0.1.2.2.1) (h3 : RdL (rP (rK .i64) (rP (rK .i64) (rK .i64))) s a3 c3 p0.1.2.2.2) (h4 : RdL (rK .i64) s a4 c4 p0.2) (hm : m_reach_graph_edges p0 p1 = some r) :
    Calls Tryz.prog 65 #[.agg #[.slice a1 p0.1.1.length c1, .int .i64 p0.1.2.1, .slice a2 p0.1.2.2.1.length c2, .slice a3 p0.1.2.2.2.length c3, .slice a4 p0.2.length c4], .int .i64 p1] s.w (RetS No s fun v s' => FI Tryz.prog s' v r.length (fun k => encE (r.getD k (0, 0, 0)))) := by
 unfold m_reach_graph_edges at hm
 obtain ⟨lo, e1, hm⟩ := bindS hm
 obtain ⟨hi, e2, hm⟩ := bindS hm
 obtain ⟨xs, e3, hm⟩ := bindS hm
 split at hm
 · rename_i hl
   obtain rfl := Option.some.inj hm
   obtain ⟨N, hN, hNb⟩ := s.fresh
   have m0 : Mv (Up N No) s s := Mv.refl _ _
   refine E.entry (vs := [.agg #[.slice a1 p0.1.1.length c1, .int .i64 p0.1.2.1, .slice a2 p0.1.2.2.1.length c2, .slice a3 p0.1.2.2.2.length c3, .slice a4 p0.2.length c4], .int .i64 p1]) Tryz.func65 rfl Tryz.ntmps65 rfl rfl (E.seq (E.reg (L.box (N + 0) Wt.no rfl rfl rfl fun b1 s2 m3 bx1 => ?_)))
   replace m0 := m0.trans m3.no
   replace h3 := h3.mono (m3.le no_No)
   replace h4 := h4.mono (m3.le no_No)
   refine L.box (N + 1) Wt.no rfl rfl rfl fun b2 s3 m4 bx2 => ?_
   replace m0 := m0.trans m4.no
   replace h3 := h3.mono (m4.le no_No)
   replace h4 := h4.mono (m4.le no_No)
   replace bx1 := bx1.mv m4 no_No
   refine L.as Wt.no rfl rfl (L.nil (X.seqN (E.seq (E.reg (L.mf Wt.no rfl rfl rfl (L.as Wt.no rfl rfl (L.nil (X.seqN (E.ret ?_)))))))))
   refine X.rt (.inl rfl) Tryz.results65 (Rs.tmp rfl Rs.nil) rfl ⟨_, s3.ren N (fun _ => 0), rfl, rfl, m0.ren hNb, ?_⟩
   have hr : ∀ {k b : Nat} {cs : Array Value} {T : TypeId}, Bx s3 (N + k) b cs T → Bx (s3.ren N (fun _ => 0)) 0 b cs T := fun h => ⟨h.heap, by simp [Sig.ren, h.htag]⟩
   exact edges1_fi (h3.ren hN) (h4.ren hN) (hr bx1) (hr bx2) e1 e2 e3 hl
 · cases hm
end Go.Proofs.YtfbapajcheammaaGreatDoor

namespace Go.Proofs.YtfbapajcheammaaGreatDoor
open Go Go.RowKit
theorem ag30 : Ag Tryz.prog 30 4 := Ag.mk' Tryz.underlying30 rfl (by kernel_rfl)
theorem bs27 : Bs Tryz.prog 27 3 1 [.int .i64 0] := Bs.mk' Tryz.underlying27 (by kernel_rfl) (by kernel_rfl) rfl
theorem bs28 : Bs Tryz.prog 28 62 3 [.int .i64 0, .int .i64 0, .int .i64 0] := Bs.mk' Tryz.underlying28 (by kernel_rfl) (by kernel_rfl) rfl
theorem el3 : El Tryz.prog 3 1 8 := El.mk' (z := .int .i64 0) (by kernel_rfl) (by kernel_rfl) (by kernel_rfl) rfl
theorem el62 : El Tryz.prog 62 3 24 := El.mk' (z := .agg #[.int .i64 0, .int .i64 0, .int .i64 0]) (by kernel_rfl) (by kernel_rfl) (by kernel_rfl) rfl
theorem pl30 : Pl Tryz.prog 30 [(0, 1), (1, 1), (2, 1), (3, 1)] [.slice none 0 0, .int .i64 0, .slice none 0 0, .slice none 0 0] := Pl.str Tryz.underlying30 (by kernel_rfl) (by kernel_rfl)
theorem pl62 : Pl Tryz.prog 62 [(0, 1), (1, 1), (2, 1)] [.int .i64 0, .int .i64 0, .int .i64 0] := Pl.str Tryz.underlying62 (by kernel_rfl) (by kernel_rfl)
theorem zz30 : (Tryz.prog.info? 30).bind (·.zero) = some (.agg #[.slice none 0 0, .int .i64 0, .slice none 0 0, .slice none 0 0]) := by kernel_rfl
noncomputable def m_overseerlaw24_example : Option AutT :=
 some (([0, 1, 2] : List Int), 5, ([1] : List Int), ([(0, 0, 1), (0, 1, 2), (0, 2, 4), (2, 0, 3), (3, 0, 2)] : List (Int × Int × Int)))
theorem m_overseerlaw24_example_c {s : Sig} {r : AutT} (hm : m_overseerlaw24_example = some r) :
    Calls Tryz.prog 42 #[] s.w (RetS No s fun v s' => ∃ (a1 : Option Addr) (c1 : Nat) (a2 : Option Addr) (c2 : Nat) (a3 : Option Addr) (c3 : Nat), v = .agg #[.slice a1 r.1.length c1, .int .i64 r.2.1, .slice a2 r.2.2.1.length c2, .slice a3 r.2.2.2.length c3] ∧ RdL qI s' a1 c1 r.1 ∧ RdL qI s' a2 c2 r.2.2.1 ∧ RdL qT s' a3 c3 r.2.2.2) := by
 unfold m_overseerlaw24_example at hm
 obtain ⟨N, hN, hNb⟩ := s.fresh
 have m0 : Mv (Up N No) s s := Mv.refl _ _
 refine E.entry Tryz.func42 R Tryz.ntmps42 R R (ER (L.al (N + 0) zz30 R Y R fun b4 s5 m6 bx4 => ?_))
 refine LN (ER (L.bsE (k := 3) (cs := [.int .i64 0, .int .i64 1, .int .i64 2]) 0 bs27 (nb R) Y R R R R fun b7 s8 m9 bx7 => ?_))
 have h7 := Bx.rdL (r := qI) (xs := ([0, 1, 2] : List Int)) bx7 ⟨[.int .i64 0], _, R, R, ⟨[.int .i64 1], _, R, R, ⟨[.int .i64 2], _, R, R, R⟩⟩⟩ (nb R)
 refine L.bsE (k := 1) (cs := [.int .i64 1]) 0 bs27 (nb R) Y R R R R fun b10 s11 m12 bx10 => ?_
 have h10 := Bx.rdL (r := qI) (xs := ([1] : List Int)) bx10 ⟨[.int .i64 1], _, R, R, R⟩ (nb R)
 refine L.bu (cs := [.int .i64 0, .int .i64 0, .int .i64 1]) pl62 Y R R R (L.bu (cs := [.int .i64 0, .int .i64 1, .int .i64 2]) pl62 Y R R R (L.bu (cs := [.int .i64 0, .int .i64 2, .int .i64 4]) pl62 Y R R R (L.bu (cs := [.int .i64 2, .int .i64 0, .int .i64 3]) pl62 Y R R R (L.bu (cs := [.int .i64 3, .int .i64 0, .int .i64 2]) pl62 Y R R R (L.bsE (k := 5) (cs := [.int .i64 0, .int .i64 0, .int .i64 1, .int .i64 0, .int .i64 1, .int .i64 2, .int .i64 0, .int .i64 2, .int .i64 4, .int .i64 2, .int .i64 0, .int .i64 3, .int .i64 3, .int .i64 0, .int .i64 2]) 0 bs28 (nb R) Y R R R R fun b13 s14 m15 bx13 => ?_)))))
 replace bx4 := ((bx4.mv m9 no_No).mv m12 no_No).mv m15 no_No
 have h13 := Bx.rdL (r := qT) (xs := ([(0, 0, 1), (0, 1, 2), (0, 2, 4), (2, 0, 3), (3, 0, 2)] : List (Int × Int × Int))) bx13 ⟨[.int .i64 0, .int .i64 0, .int .i64 1], _, R, ⟨[.int .i64 0], [.int .i64 0, .int .i64 1], R, R, ⟨[.int .i64 0], [.int .i64 1], R, R, R⟩⟩, ⟨[.int .i64 0, .int .i64 1, .int .i64 2], _, R, ⟨[.int .i64 0], [.int .i64 1, .int .i64 2], R, R, ⟨[.int .i64 1], [.int .i64 2], R, R, R⟩⟩, ⟨[.int .i64 0, .int .i64 2, .int .i64 4], _, R, ⟨[.int .i64 0], [.int .i64 2, .int .i64 4], R, R, ⟨[.int .i64 2], [.int .i64 4], R, R, R⟩⟩, ⟨[.int .i64 2, .int .i64 0, .int .i64 3], _, R, ⟨[.int .i64 2], [.int .i64 0, .int .i64 3], R, R, ⟨[.int .i64 0], [.int .i64 3], R, R, R⟩⟩, ⟨[.int .i64 3, .int .i64 0, .int .i64 2], _, R, ⟨[.int .i64 3], [.int .i64 0, .int .i64 2], R, R, ⟨[.int .i64 0], [.int .i64 2], R, R, R⟩⟩, R⟩⟩⟩⟩⟩ (nb R)
 refine L.bu (cs := [.slice (some ⟨b7, 0, none⟩) ([0, 1, 2] : List Int).length (([0, 1, 2] : List Int).length), .int .i64 5, .slice (some ⟨b10, 0, none⟩) ([1] : List Int).length (([1] : List Int).length), .slice (some ⟨b13, 0, none⟩) ([(0, 0, 1), (0, 1, 2), (0, 2, 4), (2, 0, 3), (3, 0, 2)] : List (Int × Int × Int)).length (([(0, 0, 1), (0, 1, 2), (0, 2, 4), (2, 0, 3), (3, 0, 2)] : List (Int × Int × Int)).length)]) pl30 Y R R R (L.st (c := [.slice (some ⟨b7, 0, none⟩) ([0, 1, 2] : List Int).length (([0, 1, 2] : List Int).length), .int .i64 5, .slice (some ⟨b10, 0, none⟩) ([1] : List Int).length (([1] : List Int).length), .slice (some ⟨b13, 0, none⟩) ([(0, 0, 1), (0, 1, 2), (0, 2, 4), (2, 0, 3), (3, 0, 2)] : List (Int × Int × Int)).length (([(0, 0, 1), (0, 1, 2), (0, 2, 4), (2, 0, 3), (3, 0, 2)] : List (Int × Int × Int)).length)]) (cs' := #[.slice (some ⟨b7, 0, none⟩) ([0, 1, 2] : List Int).length (([0, 1, 2] : List Int).length), .int .i64 5, .slice (some ⟨b10, 0, none⟩) ([1] : List Int).length (([1] : List Int).length), .slice (some ⟨b13, 0, none⟩) ([(0, 0, 1), (0, 1, 2), (0, 2, 4), (2, 0, 3), (3, 0, 2)] : List (Int × Int × Int)).length (([(0, 0, 1), (0, 1, 2), (0, 2, 4), (2, 0, 3), (3, 0, 2)] : List (Int × Int × Int)).length)]) bx4 ag30.sz Y R R R R R (nb R) R fun s16 m17 bx4 => ?_)
 replace m0 := ((((m0.trans m6.no).trans m9.no).trans m12.no).trans m15.no).trans (m17.one up)
 replace h7 := ((h7.mono m12.z).mono m15.z).mono (m17.le (tg0 hN))
 replace h10 := (h10.mono m15.z).mono (m17.le (tg0 hN))
 replace h13 := h13.mono (m17.le (tg0 hN))
 refine LN (E.ret ?_)
 obtain rfl := oi hm
 exact X.rt (.inl R) Tryz.results42 (Rs.cell R bx4 ag30 R Rs.nil) R ⟨_, (s16).ren N (fun _ => 0), R, R, m0.ren hNb, ⟨(some ⟨b7, 0, none⟩), ([0, 1, 2] : List Int).length, (some ⟨b10, 0, none⟩), ([1] : List Int).length, (some ⟨b13, 0, none⟩), ([(0, 0, 1), (0, 1, 2), (0, 2, 4), (2, 0, 3), (3, 0, 2)] : List (Int × Int × Int)).length, R, (h7.ren hN), (h10.ren hN), (h13.ren hN)⟩⟩

theorem nag3 : NAg Tryz.prog 3 := NAg.mk' Tryz.underlying3 rfl (by kernel_rfl)
theorem sl27 : Sl Tryz.prog 27 3 1 := Sl.mk' Tryz.underlying27 (by kernel_rfl)
noncomputable def m_automaton_checkSet_l1 (p0 : List Int) (p1 : Int) (st13 : Int) : Option (Int ⊕ (Unit ⊕ Int)) :=
 if decide (st13 < (p0.length : Int)) then
  (idx p0 st13).bind fun x22 =>
  if ((decide (x22 < 0)) || (decide (x22 ≥ p1))) then
   some (.inr (.inr (2)))
  else
   (if decide (st13 > 0) then
    (idx p0 (W (st13 - 1))).bind fun x28 =>
    some (decide (x22 ≤ x28))
   else
    some false).bind fun b25 =>
   if b25 then
    some (.inr (.inr (5)))
   else
    some (.inl (W (st13 + 1)))
 else
  some (.inr (.inl ()))
noncomputable def m_automaton_checkSet (p0 : List Int) (p1 : Int) : Option Int :=
 (iter (m_automaton_checkSet_l1 p0 p1) 0).bind fun o13 =>
 match o13 with
 | .inl u16 =>
  some 0
 | .inr (u19) =>
  some u19
theorem m_automaton_checkSet_c {s : Sig} {p0 : List Int} {p1 : Int} {a1 : Option Addr} {c1 : Nat} {r : Int} (h1 : RdL qI s a1 c1 p0) (hm : m_automaton_checkSet p0 p1 = some r) :
    Calls Tryz.prog 45 #[.slice a1 p0.length c1, .int .i64 p1] s.w (RetS No s fun v s' => v = .int .i64 r) := by
 unfold m_automaton_checkSet at hm
 obtain ⟨N, hN, hNb⟩ := s.fresh
 have m0 : Mv (Up N No) s s := Mv.refl _ _
 refine E.entry Tryz.func45 R Tryz.ntmps45 R R (ER (L.as Y R R (LN (E.seq (ER (L.mv Y R R (L.len sl27 Y R R (L.mv Y R R (LN (E.block ?_))))))))))
 obtain ⟨o13, eo13, hm⟩ := bindS hm
 refine E.cut (x := .exit 0) (fun e w => ∃ (s17 : Sig) (u16 : Unit), o13 = .inl u16 ∧ Mv (Up N No) s s17 ∧ e = [] ∧ w = s17.w) ?_ ?_
 ·rintro _ _ ⟨s17, u16, rfl, m0, rfl, rfl⟩
  dsimp only at hm
  refine X.blkE (X.seqN (ER (L.as Y R R (LN (E.ret ?_)))))
  obtain rfl := oi hm
  exact X.rt (.inl R) Tryz.results45 (Rs.tmp R Rs.nil) R ⟨_, (s17).ren N (fun _ => 0), R, R, m0.ren hNb, R⟩
 intro K18
 refine E.cut (x := .ret) (fun e w => ∃ (s20 : Sig) (u19 : Int), o13 = .inr (u19) ∧ Mv (Up N No) s s20 ∧ e = [(4, .int .i64 u19)] ∧ w = s20.w) ?_ ?_
 ·rintro _ _ ⟨s20, u19, rfl, m0, rfl, rfl⟩
  dsimp only at hm
  refine X.blkR (X.seqR ?_)
  obtain rfl := oi hm
  exact X.rt (.inl R) Tryz.results45 (Rs.tmp R Rs.nil) R ⟨_, (s20).ren N (fun _ => 0), R, R, m0.ren hNb, R⟩
 intro K21
 refine E.iter (fun (st13 : Int) (e : List (Nat × Value)) (w : World) => ∃ (s15 : Sig), Mv (Up N No) s s15 ∧ RdL qI s15 a1 c1 p0 ∧ e = [(9, .int .i64 st13), (8, .int .i64 (p0.length : Int)), (7, .slice a1 p0.length c1), (0, .slice a1 p0.length c1), (1, .int .i64 p1)] ∧ w = s15.w) eo13 ⟨s, m0, h1, R, R⟩ (Sub.rf R) ?_
 rintro st13 res13 hm ih13 ho13 _ _ ⟨s15, m0, h1, rfl, rfl⟩
 unfold m_automaton_checkSet_l1 at hm
 refine ER (L.bi Y R R R R (LN (E.seq ?_)))
 rcases ifS hm with ⟨hc, hm⟩ | ⟨hc, hm⟩
 ·refine E.cT R hc (E.skip (X.seqN (E.seq (E.block (ER (L.mv Y R R ?_))))))
  obtain ⟨x22, ex22, hm⟩ := bindS hm
  refine L.ix (r := qI) sl27 h1 Y R R ex22 R fun b23 o23 cc23 me23 rd23 => ?_
  obtain rfl := rd23
  refine L.ld (j := 0) me23 nag3 Y R R R R (L.as Y R R (L.as Y R R (LN (E.block (ER (L.mv Y R R (L.bi Y R R R R (L.mv Y R R (L.cut 4 (fun e w => ∃ (v24 : Bool), ((decide (x22 < 0)) || (decide (x22 ≥ p1))) = v24 ∧ e = (21, .bool v24) :: [(6, .int .i64 x22), (5, .int .i64 st13), (9, .int .i64 st13), (8, .int .i64 (p0.length : Int)), (7, .slice a1 p0.length c1), (0, .slice a1 p0.length c1), (1, .int .i64 p1)] ∧ w = s15.w) ?_ ?_)))))))))
  ·rintro _ _ ⟨v24, rfl, rfl, rfl⟩
   refine L.as Y R R (L.nil (X.seqN ?_))
   rcases ifS hm with ⟨hc, hm⟩ | ⟨hc, hm⟩
   ·refine E.cT R hc (ER (L.as Y R R (LN (E.ret (X.blkR (X.blkR (X.seqR (X.seqR ?_))))))))
    have hx := ho13 _ (oi hm).symm
    exact X.sub (K21 _ _ ⟨s15, 2, hx.symm, m0, R, R⟩) (Sub.rf R)
   refine E.cF R hc (ER (L.mv Y R R (L.bi Y R R R R (L.mv Y R R ?_))))
   obtain ⟨b25, eb25, hm⟩ := bindS hm
   refine L.cut 8 (fun e w => ∃ (v26 : Bool), b25 = v26 ∧ e = (33, .bool v26) :: [(9, .int .i64 st13), (8, .int .i64 (p0.length : Int)), (7, .slice a1 p0.length c1), (0, .slice a1 p0.length c1), (1, .int .i64 p1)] ∧ w = s15.w) ?_ ?_
   ·rintro _ _ ⟨v26, rfl, rfl, rfl⟩
    refine L.as Y R R (L.nil (X.seqN ?_))
    rcases ifS hm with ⟨hc, hm⟩ | ⟨hc, hm⟩
    ·refine E.cT R hc (ER (L.as Y R R (LN (E.ret (X.blkR (X.blkR (X.seqR (X.seqR ?_))))))))
     have hx := ho13 _ (oi hm).symm
     exact X.sub (K21 _ _ ⟨s15, 5, hx.symm, m0, R, R⟩) (Sub.rf R)
    exact E.cF R hc (E.skip (X.blkN (X.blkN (X.seqN (E.reg (L.bi Y R R R R (L.mv Y R R (L.nil (X.sub (ih13 _ (oi hm).symm _ _ ⟨s15, m0, h1, R, R⟩) (Sub.rf R))))))))))
   intro J27
   rcases ifS eb25 with ⟨hc, hm⟩ | ⟨hc, hm⟩
   ·refine L.know (d := 25) R hc (L.mv (Wt.mk R R) R R (L.mv (Wt.mk R R) R R (L.mv (Wt.mk R R) R R (L.bi (Wt.mk R R) R R R R ?_))))
    obtain ⟨x28, ex28, hm⟩ := bindS hm
    refine L.ix (r := qI) sl27 h1 (Wt.mk R R) R R ex28 R fun b29 o29 cc29 me29 rd29 => ?_
    obtain rfl := rd29
    exact L.ld (j := 0) me29 nag3 (Wt.mk R R) R R R R (L.bi (Wt.mk R R) R R R R (L.pkT Y R R R R (L.sb (J27 _ _ ⟨(decide (x22 ≤ x28)), (oi hm).symm, R, R⟩) R)))
   exact L.know (d := 25) R hc (L.skip R R R R (L.skip R R R R (L.skip R R R R (L.skip R R R R (L.skip R R R R (L.skip R R R R (L.skip R R R R (L.pkF Y R R R R (L.sb (J27 _ _ ⟨false, (oi hm).symm, R, R⟩) R)))))))))
  intro J30
  rcases Bool.eq_false_or_eq_true (decide (x22 < 0)) with hc | hc
  ·exact L.know (d := 17) R hc (L.skip R R R R (L.skip R R R R (L.skip R R R R (L.pkT Y R R R R (L.sb (J30 _ _ ⟨true, (orT hc).symm, R, R⟩) R)))))
  exact L.know (d := 17) R hc (L.mv (Wt.mk R R) R R (L.mv (Wt.mk R R) R R (L.bi (Wt.mk R R) R R R R (L.pkF Y R R R R (L.sb (J30 _ _ ⟨(decide (x22 ≥ p1)), (orF hc).symm, R, R⟩) R)))))
 refine E.cF R hc (E.exit (X.seqX (X.seqX ?_)))
 have hx := ho13 _ (oi hm).symm
 exact X.sub (K18 _ _ ⟨s15, (), hx.symm, m0, R, R⟩) Sub.nil

noncomputable def m_slices_Index_int_l1 (p0 : List Int) (p1 : Int) (st6 : Int) : Option (Int ⊕ (Unit ⊕ Int)) :=
 if decide (st6 < (p0.length : Int)) then
  (idx p0 st6).bind fun x15 =>
  if (p1 == x15) then
   some (.inr (.inr (st6)))
  else
   some (.inl (W (st6 + 1)))
 else
  some (.inr (.inl ()))
noncomputable def m_slices_Index_int (p0 : List Int) (p1 : Int) : Option Int :=
 (iter (m_slices_Index_int_l1 p0 p1) 0).bind fun o6 =>
 match o6 with
 | .inl u9 =>
  some (-1)
 | .inr (u12) =>
  some u12
theorem m_slices_Index_int_c {s : Sig} {p0 : List Int} {p1 : Int} {a1 : Option Addr} {c1 : Nat} {r : Int} (h1 : RdL qI s a1 c1 p0) (hm : m_slices_Index_int p0 p1 = some r) :
    Calls Tryz.prog 79 #[.slice a1 p0.length c1, .int .i64 p1] s.w (RetS No s fun v s' => v = .int .i64 r) := by
 unfold m_slices_Index_int at hm
 obtain ⟨N, hN, hNb⟩ := s.fresh
 have m0 : Mv (Up N No) s s := Mv.refl _ _
 refine E.entry Tryz.func79 R Tryz.ntmps79 R R (ER (L.as Y R R (LN (E.seq (ER (L.mv Y R R (L.len sl27 Y R R (L.mv Y R R (LN (E.block ?_))))))))))
 obtain ⟨o6, eo6, hm⟩ := bindS hm
 refine E.cut (x := .exit 0) (fun e w => ∃ (s10 : Sig) (u9 : Unit), o6 = .inl u9 ∧ Mv (Up N No) s s10 ∧ e = [] ∧ w = s10.w) ?_ ?_
 ·rintro _ _ ⟨s10, u9, rfl, m0, rfl, rfl⟩
  dsimp only at hm
  refine X.blkE (X.seqN (ER (L.as Y R R (LN (E.ret ?_)))))
  obtain rfl := oi hm
  exact X.rt (.inl R) Tryz.results79 (Rs.tmp R Rs.nil) R ⟨_, (s10).ren N (fun _ => 0), R, R, m0.ren hNb, R⟩
 intro K11
 refine E.cut (x := .ret) (fun e w => ∃ (s13 : Sig) (u12 : Int), o6 = .inr (u12) ∧ Mv (Up N No) s s13 ∧ e = [(4, .int .i64 u12)] ∧ w = s13.w) ?_ ?_
 ·rintro _ _ ⟨s13, u12, rfl, m0, rfl, rfl⟩
  dsimp only at hm
  refine X.blkR (X.seqR ?_)
  obtain rfl := oi hm
  exact X.rt (.inl R) Tryz.results79 (Rs.tmp R Rs.nil) R ⟨_, (s13).ren N (fun _ => 0), R, R, m0.ren hNb, R⟩
 intro K14
 refine E.iter (fun (st6 : Int) (e : List (Nat × Value)) (w : World) => ∃ (s8 : Sig), Mv (Up N No) s s8 ∧ RdL qI s8 a1 c1 p0 ∧ e = [(8, .int .i64 st6), (7, .int .i64 (p0.length : Int)), (0, .slice a1 p0.length c1), (1, .int .i64 p1)] ∧ w = s8.w) eo6 ⟨s, m0, h1, R, R⟩ (Sub.rf R) ?_
 rintro st6 res6 hm ih6 ho6 _ _ ⟨s8, m0, h1, rfl, rfl⟩
 unfold m_slices_Index_int_l1 at hm
 refine ER (L.bi Y R R R R (LN (E.seq ?_)))
 rcases ifS hm with ⟨hc, hm⟩ | ⟨hc, hm⟩
 ·refine E.cT R hc (E.skip (X.seqN (E.seq (E.block (ER (L.mv Y R R (L.as Y R R (LN (ER (L.mv Y R R (L.mv Y R R (L.mv Y R R ?_))))))))))))
  obtain ⟨x15, ex15, hm⟩ := bindS hm
  refine L.ix (r := qI) sl27 h1 Y R R ex15 R fun b16 o16 cc16 me16 rd16 => ?_
  obtain rfl := rd16
  refine L.ld (j := 0) me16 nag3 Y R R R R (L.bi Y R R R R (L.nil (X.seqN ?_)))
  rcases ifS hm with ⟨hc, hm⟩ | ⟨hc, hm⟩
  ·refine E.cT R hc (ER (L.mv Y R R (L.as Y R R (LN (E.ret (X.blkR (X.seqR (X.seqR ?_))))))))
   have hx := ho6 _ (oi hm).symm
   exact X.sub (K14 _ _ ⟨s8, st6, hx.symm, m0, R, R⟩) (Sub.rf R)
  exact E.cF R hc (E.skip (X.blkN (X.seqN (E.reg (L.bi Y R R R R (L.mv Y R R (L.nil (X.sub (ih6 _ (oi hm).symm _ _ ⟨s8, m0, h1, R, R⟩) (Sub.rf R)))))))))
 refine E.cF R hc (E.exit (X.seqX (X.seqX ?_)))
 have hx := ho6 _ (oi hm).symm
 exact X.sub (K11 _ _ ⟨s8, (), hx.symm, m0, R, R⟩) Sub.nil

theorem cf79 : Cf Tryz.prog 79 := Cf.mk Tryz.func79 (by kernel_rfl) (by kernel_rfl)
noncomputable def m_slices_Contains_int (p0 : List Int) (p1 : Int) : Option Bool :=
 (m_slices_Index_int p0 p1).bind fun r2 =>
 some (decide (r2 ≥ 0))
theorem m_slices_Contains_int_c {s : Sig} {p0 : List Int} {p1 : Int} {a1 : Option Addr} {c1 : Nat} {r : Bool} (h1 : RdL qI s a1 c1 p0) (hm : m_slices_Contains_int p0 p1 = some r) :
    Calls Tryz.prog 40 #[.slice a1 p0.length c1, .int .i64 p1] s.w (RetS No s fun v s' => v = .bool r) := by
 unfold m_slices_Contains_int at hm
 obtain ⟨N, hN, hNb⟩ := s.fresh
 have m0 : Mv (Up N No) s s := Mv.refl _ _
 refine E.entry Tryz.func40 R Tryz.ntmps40 R R (ER (L.as Y R R (LN (ER (L.mv Y R R (L.mv Y R R ?_))))))
 obtain ⟨r2, er2, hm⟩ := bindS hm
 refine L.ca cf79 R R Y R (m_slices_Index_int_c (s := s) (p0 := p0) (p1 := p1) h1 er2) R ?_
 rintro _ s3 m4 rfl
 replace m0 := m0.trans m4.no
 refine L.bi Y R R R R (L.as Y R R (LN (E.ret ?_)))
 obtain rfl := oi hm
 exact X.rt (.inl R) Tryz.results40 (Rs.tmp R Rs.nil) R ⟨_, (s3).ren N (fun _ => 0), R, R, m0.ren hNb, R⟩

theorem ag62 : Ag Tryz.prog 62 3 := Ag.mk' Tryz.underlying62 rfl (by kernel_rfl)
theorem cf40 : Cf Tryz.prog 40 := Cf.mk Tryz.func40 (by kernel_rfl) (by kernel_rfl)
theorem fa30_0 : FA Tryz.prog 30 0 0 := FA.mk Tryz.underlying30 rfl rfl ⟨1, by decide, by kernel_rfl⟩
theorem fa30_1 : FA Tryz.prog 30 1 1 := FA.mk Tryz.underlying30 rfl rfl ⟨1, by decide, by kernel_rfl⟩
theorem fa30_3 : FA Tryz.prog 30 3 3 := FA.mk Tryz.underlying30 rfl rfl ⟨1, by decide, by kernel_rfl⟩
theorem fa62_0 : FA Tryz.prog 62 0 0 := FA.mk Tryz.underlying62 rfl rfl ⟨1, by decide, by kernel_rfl⟩
theorem fa62_1 : FA Tryz.prog 62 1 1 := FA.mk Tryz.underlying62 rfl rfl ⟨1, by decide, by kernel_rfl⟩
theorem fa62_2 : FA Tryz.prog 62 2 2 := FA.mk Tryz.underlying62 rfl rfl ⟨1, by decide, by kernel_rfl⟩
theorem nag27 : NAg Tryz.prog 27 := NAg.mk' Tryz.underlying27 rfl (by kernel_rfl)
theorem nag28 : NAg Tryz.prog 28 := NAg.mk' Tryz.underlying28 rfl (by kernel_rfl)
theorem sl28 : Sl Tryz.prog 28 62 3 := Sl.mk' Tryz.underlying28 (by kernel_rfl)
theorem zz62 : (Tryz.prog.info? 62).bind (·.zero) = some (.agg #[.int .i64 0, .int .i64 0, .int .i64 0]) := by kernel_rfl
noncomputable def m_automaton_checkEdges_j1 (st38 : Int) : Option (Int ⊕ (Unit ⊕ Int)) :=
 some (.inl (W (st38 + 1)))
noncomputable def m_automaton_checkEdges_l1 (p0 : AutT) (st38 : Int) : Option (Int ⊕ (Unit ⊕ Int)) :=
 if decide (st38 < (p0.2.2.2.length : Int)) then
  (idx p0.2.2.2 st38).bind fun x49 =>
  if ((((decide (x49.1 < 0)) || (decide (x49.1 ≥ p0.2.1))) || (decide (x49.2.2 < 0))) || (decide (x49.2.2 ≥ p0.2.1))) then
   some (.inr (.inr (2)))
  else
   (m_slices_Contains_int p0.1 x49.2.1).bind fun r59 =>
   if (!r59) then
    some (.inr (.inr (9)))
   else
    if (st38 == 0) then
     m_automaton_checkEdges_j1 st38
    else
     (idx p0.2.2.2 (W (st38 - 1))).bind fun x62 =>
     if ((decide (x49.1 < x62.1)) || ((x49.1 == x62.1) && (decide (x49.2.1 ≤ x62.2.1)))) then
      some (.inr (.inr (5)))
     else
      m_automaton_checkEdges_j1 st38
 else
  some (.inr (.inl ()))
noncomputable def m_automaton_checkEdges (p0 : AutT) : Option Int :=
 (iter (m_automaton_checkEdges_l1 p0) 0).bind fun o38 =>
 match o38 with
 | .inl u41 =>
  some 0
 | .inr (u44) =>
  some u44
theorem m_automaton_checkEdges_c {s : Sig} {p0 : AutT} {a1 : Option Addr} {c1 : Nat} {a2 : Option Addr} {c2 : Nat} {a3 : Option Addr} {c3 : Nat} {r : Int} (h1 : RdL qI s a1 c1 p0.1) (h2 : RdL qI s a2 c2 p0.2.2.1) (h3 : RdL qT s a3 c3 p0.2.2.2) (hm : m_automaton_checkEdges p0 = some r) :
    Calls Tryz.prog 46 #[.agg #[.slice a1 p0.1.length c1, .int .i64 p0.2.1, .slice a2 p0.2.2.1.length c2, .slice a3 p0.2.2.2.length c3]] s.w (RetS No s fun v s' => v = .int .i64 r) := by
 unfold m_automaton_checkEdges at hm
 obtain ⟨N, hN, hNb⟩ := s.fresh
 have m0 : Mv (Up N No) s s := Mv.refl _ _
 refine E.entry Tryz.func46 R Tryz.ntmps46 R R (ER (L.box (N + 0) Y R R R fun b4 s5 m6 bx4 => ?_))
 replace m0 := m0.trans m6.no
 replace h1 := h1.mono m6.z
 replace h2 := h2.mono m6.z
 replace h3 := h3.mono m6.z
 refine L.as Y R R (LN (E.seq (ER (L.fa fa30_3 Y R R (L.ld (j := 3) bx4.mem nag28 Y R R R R (L.len sl28 Y R R (L.mv Y R R (LN (E.block ?_)))))))))
 obtain ⟨o38, eo38, hm⟩ := bindS hm
 refine E.cut (x := .exit 0) (fun e w => ∃ (s42 : Sig) (u41 : Unit), o38 = .inl u41 ∧ Mv (Up N No) s s42 ∧ e = [] ∧ w = s42.w) ?_ ?_
 ·rintro _ _ ⟨s42, u41, rfl, m0, rfl, rfl⟩
  dsimp only at hm
  refine X.blkE (X.seqN (ER (L.as Y R R (LN (E.ret ?_)))))
  obtain rfl := oi hm
  exact X.rt (.inl R) Tryz.results46 (Rs.tmp R Rs.nil) R ⟨_, (s42).ren N (fun _ => 0), R, R, m0.ren hNb, R⟩
 intro K43
 refine E.cut (x := .ret) (fun e w => ∃ (s45 : Sig) (u44 : Int), o38 = .inr (u44) ∧ Mv (Up N No) s s45 ∧ e = [(2, .int .i64 u44)] ∧ w = s45.w) ?_ ?_
 ·rintro _ _ ⟨s45, u44, rfl, m0, rfl, rfl⟩
  dsimp only at hm
  refine X.blkR (X.seqR ?_)
  obtain rfl := oi hm
  exact X.rt (.inl R) Tryz.results46 (Rs.tmp R Rs.nil) R ⟨_, (s45).ren N (fun _ => 0), R, R, m0.ren hNb, R⟩
 intro K46
 refine E.iter (fun (st38 : Int) (e : List (Nat × Value)) (w : World) => ∃ (s40 : Sig), Mv (Up N No) s s40 ∧ RdL qT s40 a3 c3 p0.2.2.2 ∧ RdL qI s40 a1 c1 p0.1 ∧ RdL qI s40 a2 c2 p0.2.2.1 ∧ Bx s40 (N + 0) b4 #[.slice a1 p0.1.length c1, .int .i64 p0.2.1, .slice a2 p0.2.2.1.length c2, .slice a3 p0.2.2.2.length c3] 30 ∧ e = [(9, .int .i64 st38), (8, .int .i64 (p0.2.2.2.length : Int)), (7, .slice a3 p0.2.2.2.length c3), (1, .pointer (some ⟨b4, 0, none⟩))] ∧ w = s40.w) eo38 ⟨s5, m0, h3, h1, h2, bx4, R, R⟩ (Sub.rf R) ?_
 rintro st38 res38 hm ih38 ho38 _ _ ⟨s40, m0, h3, h1, h2, bx4, rfl, rfl⟩
 unfold m_automaton_checkEdges_l1 at hm
 refine ER (L.bi Y R R R R (LN (E.seq ?_)))
 rcases ifS hm with ⟨hc, hm⟩ | ⟨hc, hm⟩
 ·refine E.cT R hc (E.skip (X.seqN (E.seqJ (fun e w => ∃ (s47 : Sig), m_automaton_checkEdges_j1 st38 = some res38 ∧ Mv (Up N No) s s47 ∧ RdL qT s47 a3 c3 p0.2.2.2 ∧ RdL qI s47 a1 c1 p0.1 ∧ RdL qI s47 a2 c2 p0.2.2.1 ∧ Bx s47 (N + 0) b4 #[.slice a1 p0.1.length c1, .int .i64 p0.2.1, .slice a2 p0.2.2.1.length c2, .slice a3 p0.2.2.2.length c3] 30 ∧ e = [(9, .int .i64 st38), (8, .int .i64 (p0.2.2.2.length : Int)), (7, .slice a3 p0.2.2.2.length c3), (1, .pointer (some ⟨b4, 0, none⟩))] ∧ w = s47.w) ?_ ?_)))
  ·rintro _ _ ⟨s47, hm, m0, h3, h1, h2, bx4, rfl, rfl⟩
   unfold m_automaton_checkEdges_j1 at hm
   exact E.reg (L.bi Y R R R R (L.mv Y R R (L.nil (X.sub (ih38 _ (oi hm).symm _ _ ⟨s47, m0, h3, h1, h2, bx4, R, R⟩) (Sub.rf R)))))
  intro Jj48
  refine E.block (ER (L.mv Y R R ?_))
  obtain ⟨x49, ex49, hm⟩ := bindS hm
  refine L.ix (r := qT) sl28 h3 Y R R ex49 R fun b50 o50 cc50 me50 rd50 => ?_
  obtain ⟨_, _, rfl, rfl, ⟨_, _, rfl, rfl, rfl⟩⟩ := rd50
  refine L.lg (j := 0) (cs := [.int .i64 x49.1, .int .i64 x49.2.1, .int .i64 x49.2.2]) me50 ag62 Y R R R R R (L.al (N + 1) zz62 R Y R fun b51 s52 m53 bx51 => ?_)
  refine L.as Y R R (L.st (c := [.int .i64 x49.1, .int .i64 x49.2.1, .int .i64 x49.2.2]) (cs' := #[.int .i64 x49.1, .int .i64 x49.2.1, .int .i64 x49.2.2]) bx51 ag62.sz Y R R R R R (nb R) R fun s54 m55 bx51 => ?_)
  replace m0 := (m0.trans m53.no).trans (m55.one up)
  replace h3 := (h3.mono m53.z).mono (m55.le (tg0 hN))
  replace bx4 := (bx4.mv m53 no_No).mv m55 (tq R)
  replace h1 := (h1.mono m53.z).mono (m55.le (tg0 hN))
  replace h2 := (h2.mono m53.z).mono (m55.le (tg0 hN))
  refine LN (E.seq (E.block (ER (L.fa fa62_0 Y R R (L.ld (j := 0) bx51.mem nag3 Y R R R R (L.bi Y R R R R (L.mv Y R R (L.cut 6 (fun e w => ∃ (v56 : Bool), ((decide (x49.1 < 0)) || (decide (x49.1 ≥ p0.2.1))) = v56 ∧ e = (24, .bool v56) :: [(3, .int .i64 st38), (4, .pointer (some ⟨b51, 0, none⟩)), (9, .int .i64 st38), (8, .int .i64 (p0.2.2.2.length : Int)), (7, .slice a3 p0.2.2.2.length c3), (1, .pointer (some ⟨b4, 0, none⟩))] ∧ w = s54.w) ?_ ?_))))))))
  ·rintro _ _ ⟨v56, rfl, rfl, rfl⟩
   refine L.mv Y R R (L.cut 4 (fun e w => ∃ (v57 : Bool), (((decide (x49.1 < 0)) || (decide (x49.1 ≥ p0.2.1))) || (decide (x49.2.2 < 0))) = v57 ∧ e = (29, .bool v57) :: [(3, .int .i64 st38), (4, .pointer (some ⟨b51, 0, none⟩)), (9, .int .i64 st38), (8, .int .i64 (p0.2.2.2.length : Int)), (7, .slice a3 p0.2.2.2.length c3), (1, .pointer (some ⟨b4, 0, none⟩))] ∧ w = s54.w) ?_ ?_)
   ·rintro _ _ ⟨v57, rfl, rfl, rfl⟩
    refine L.mv Y R R (L.cut 6 (fun e w => ∃ (v58 : Bool), ((((decide (x49.1 < 0)) || (decide (x49.1 ≥ p0.2.1))) || (decide (x49.2.2 < 0))) || (decide (x49.2.2 ≥ p0.2.1))) = v58 ∧ e = (36, .bool v58) :: [(3, .int .i64 st38), (4, .pointer (some ⟨b51, 0, none⟩)), (9, .int .i64 st38), (8, .int .i64 (p0.2.2.2.length : Int)), (7, .slice a3 p0.2.2.2.length c3), (1, .pointer (some ⟨b4, 0, none⟩))] ∧ w = s54.w) ?_ ?_)
    ·rintro _ _ ⟨v58, rfl, rfl, rfl⟩
     refine L.as Y R R (L.nil (X.seqN ?_))
     rcases ifS hm with ⟨hc, hm⟩ | ⟨hc, hm⟩
     ·refine E.cT R hc (ER (L.as Y R R (LN (E.ret (X.blkR (X.seqR (X.blkR (X.seqR (X.seqR ?_)))))))))
      have hx := ho38 _ (oi hm).symm
      exact X.sub (K46 _ _ ⟨s54, 2, hx.symm, m0, R, R⟩) (Sub.rf R)
     refine E.cF R hc (ER (L.fa fa30_0 Y R R (L.ld (j := 0) bx4.mem nag27 Y R R R R (L.fa fa62_1 Y R R (L.ld (j := 1) bx51.mem nag3 Y R R R R ?_)))))
     obtain ⟨r59, er59, hm⟩ := bindS hm
     refine L.ca cf40 R R Y R (m_slices_Contains_int_c (s := s54) (p0 := p0.1) (p1 := x49.2.1) h1 er59) R ?_
     rintro _ s60 m61 rfl
     replace m0 := m0.trans m61.no
     replace h3 := h3.mono m61.z
     replace bx4 := bx4.mv m61 no_No
     replace h1 := h1.mono m61.z
     replace h2 := h2.mono m61.z
     refine L.not Y R R (L.as Y R R (L.nil (X.seqN ?_)))
     rcases ifS hm with ⟨hc, hm⟩ | ⟨hc, hm⟩
     ·refine E.cT R hc (ER (L.as Y R R (LN (E.ret (X.blkR (X.seqR (X.blkR (X.seqR (X.seqR ?_)))))))))
      have hx := ho38 _ (oi hm).symm
      exact X.sub (K46 _ _ ⟨s60, 9, hx.symm, m0, R, R⟩) (Sub.rf R)
     refine E.cF R hc (E.skip (X.blkN (X.seqN (E.seq (ER (L.mv Y R R (L.bi Y R R R R (L.nil (X.seqN ?_)))))))))
     rcases ifS hm with ⟨hc, hm⟩ | ⟨hc, hm⟩
     ·exact E.cT R hc (E.exit (X.seqX (X.blkE (X.sub (Jj48 _ _ ⟨s60, hm, m0, h3, h1, h2, bx4, R, R⟩) (Sub.rf R)))))
     refine E.cF R hc (E.skip (X.seqN (ER (L.fa fa30_3 Y R R (L.ld (j := 3) bx4.mem nag28 Y R R R R (L.mv Y R R (L.bi Y R R R R ?_)))))))
     obtain ⟨x62, ex62, hm⟩ := bindS hm
     refine L.ix (r := qT) sl28 h3 Y R R ex62 R fun b63 o63 cc63 me63 rd63 => ?_
     obtain ⟨_, _, rfl, rfl, ⟨_, _, rfl, rfl, rfl⟩⟩ := rd63
     refine L.lg (j := 0) (cs := [.int .i64 x62.1, .int .i64 x62.2.1, .int .i64 x62.2.2]) me63 ag62 Y R R R R R (L.al (N + 2) zz62 R Y R fun b64 s65 m66 bx64 => ?_)
     refine L.st (c := [.int .i64 x62.1, .int .i64 x62.2.1, .int .i64 x62.2.2]) (cs' := #[.int .i64 x62.1, .int .i64 x62.2.1, .int .i64 x62.2.2]) bx64 ag62.sz Y R R R R R (nb R) R fun s67 m68 bx64 => ?_
     replace m0 := (m0.trans m66.no).trans (m68.one up)
     replace h3 := (h3.mono m66.z).mono (m68.le (tg0 hN))
     replace bx4 := (bx4.mv m66 no_No).mv m68 (tq R)
     replace h1 := (h1.mono m66.z).mono (m68.le (tg0 hN))
     replace h2 := (h2.mono m66.z).mono (m68.le (tg0 hN))
     replace bx51 := ((bx51.mv m61 no_No).mv m66 no_No).mv m68 (tq R)
     refine LN (ER (L.fa fa62_0 Y R R (L.ld (j := 0) bx51.mem nag3 Y R R R R (L.fa fa62_0 Y R R (L.ld (j := 0) bx64.mem nag3 Y R R R R (L.bi Y R R R R (L.mv Y R R (L.cut 13 (fun e w => ∃ (v69 : Bool), ((decide (x49.1 < x62.1)) || ((x49.1 == x62.1) && (decide (x49.2.1 ≤ x62.2.1)))) = v69 ∧ e = (70, .bool v69) :: [(9, .int .i64 st38), (8, .int .i64 (p0.2.2.2.length : Int)), (7, .slice a3 p0.2.2.2.length c3), (1, .pointer (some ⟨b4, 0, none⟩))] ∧ w = s67.w) ?_ ?_))))))))
     ·rintro _ _ ⟨v69, rfl, rfl, rfl⟩
      refine L.nil (X.seqN ?_)
      rcases ifS hm with ⟨hc, hm⟩ | ⟨hc, hm⟩
      ·refine E.cT R hc (ER (L.as Y R R (LN (E.ret (X.blkR (X.seqR (X.seqR ?_)))))))
       have hx := ho38 _ (oi hm).symm
       exact X.sub (K46 _ _ ⟨s67, 5, hx.symm, m0, R, R⟩) (Sub.rf R)
      exact E.cF R hc (E.skip (X.blkN (X.sub (Jj48 _ _ ⟨s67, hm, m0, h3, h1, h2, bx4, R, R⟩) (Sub.rf R))))
     intro J70
     rcases Bool.eq_false_or_eq_true (decide (x49.1 < x62.1)) with hc | hc
     ·exact L.know (d := 57) R hc (L.skip R R R R (L.skip R R R R (L.skip R R R R (L.skip R R R R (L.skip R R R R (L.skip R R R R (L.skipU R R R (L.skipU R R R (L.skipU R R R (L.skipU R R R (L.skipU R R R (L.skip R R R R (L.pkT Y R R R R (L.sb (J70 _ _ ⟨true, (orT hc).symm, R, R⟩) R))))))))))))))
     refine L.know (d := 57) R hc (L.fa fa62_0 (Wt.mk R R) R R (L.ld (j := 0) bx51.mem nag3 (Wt.mk R R) R R R R (L.fa fa62_0 (Wt.mk R R) R R (L.ld (j := 0) bx64.mem nag3 (Wt.mk R R) R R R R (L.bi (Wt.mk R R) R R R R (L.mv (Wt.mk R R) R R (L.cut 6 (fun e w => ∃ (v71 : Bool), ((x49.1 == x62.1) && (decide (x49.2.1 ≤ x62.2.1))) = v71 ∧ e = (69, .bool v71) :: [(57, .bool false), (9, .int .i64 st38), (8, .int .i64 (p0.2.2.2.length : Int)), (7, .slice a3 p0.2.2.2.length c3), (1, .pointer (some ⟨b4, 0, none⟩))] ∧ w = s67.w) ?_ ?_)))))))
     ·rintro _ _ ⟨v71, rfl, rfl, rfl⟩
      exact L.pkF Y R R R R (L.sb (J70 _ _ ⟨((x49.1 == x62.1) && (decide (x49.2.1 ≤ x62.2.1))), (orF hc).symm, R, R⟩) R)
     intro J72
     rcases Bool.eq_false_or_eq_true (x49.1 == x62.1) with hc | hc
     ·exact L.know (d := 63) R hc (L.fa fa62_1 (Wt.mk R R) R R (L.ld (j := 1) bx51.mem nag3 (Wt.mk R R) R R R R (L.fa fa62_1 (Wt.mk R R) R R (L.ld (j := 1) bx64.mem nag3 (Wt.mk R R) R R R R (L.bi (Wt.mk R R) R R R R (L.pkT (Wt.mk R R) R R R R (L.sb (J72 _ _ ⟨(decide (x49.2.1 ≤ x62.2.1)), (andT hc).symm, R, R⟩) R)))))))
     exact L.know (d := 63) R hc (L.skip R R R R (L.skip R R R R (L.skip R R R R (L.skip R R R R (L.skip R R R R (L.pkF (Wt.mk R R) R R R R (L.sb (J72 _ _ ⟨false, (andF hc).symm, R, R⟩) R)))))))
    intro J73
    rcases Bool.eq_false_or_eq_true (((decide (x49.1 < 0)) || (decide (x49.1 ≥ p0.2.1))) || (decide (x49.2.2 < 0))) with hc | hc
    ·exact L.know (d := 30) R hc (L.skip R R R R (L.skip R R R R (L.skip R R R R (L.skip R R R R (L.skip R R R R (L.pkT Y R R R R (L.sb (J73 _ _ ⟨true, (orT hc).symm, R, R⟩) R)))))))
    exact L.know (d := 30) R hc (L.fa fa62_2 (Wt.mk R R) R R (L.ld (j := 2) bx51.mem nag3 (Wt.mk R R) R R R R (L.fa fa30_1 (Wt.mk R R) R R (L.ld (j := 1) bx4.mem nag3 (Wt.mk R R) R R R R (L.bi (Wt.mk R R) R R R R (L.pkF Y R R R R (L.sb (J73 _ _ ⟨(decide (x49.2.2 ≥ p0.2.1)), (orF hc).symm, R, R⟩) R)))))))
   intro J74
   rcases Bool.eq_false_or_eq_true ((decide (x49.1 < 0)) || (decide (x49.1 ≥ p0.2.1))) with hc | hc
   ·exact L.know (d := 25) R hc (L.skip R R R R (L.skip R R R R (L.skip R R R R (L.pkT Y R R R R (L.sb (J74 _ _ ⟨true, (orT hc).symm, R, R⟩) R)))))
   exact L.know (d := 25) R hc (L.fa fa62_2 (Wt.mk R R) R R (L.ld (j := 2) bx51.mem nag3 (Wt.mk R R) R R R R (L.bi (Wt.mk R R) R R R R (L.pkF Y R R R R (L.sb (J74 _ _ ⟨(decide (x49.2.2 < 0)), (orF hc).symm, R, R⟩) R)))))
  intro J75
  rcases Bool.eq_false_or_eq_true (decide (x49.1 < 0)) with hc | hc
  ·exact L.know (d := 18) R hc (L.skip R R R R (L.skip R R R R (L.skip R R R R (L.skip R R R R (L.skip R R R R (L.pkT Y R R R R (L.sb (J75 _ _ ⟨true, (orT hc).symm, R, R⟩) R)))))))
  exact L.know (d := 18) R hc (L.fa fa62_0 (Wt.mk R R) R R (L.ld (j := 0) bx51.mem nag3 (Wt.mk R R) R R R R (L.fa fa30_1 (Wt.mk R R) R R (L.ld (j := 1) bx4.mem nag3 (Wt.mk R R) R R R R (L.bi (Wt.mk R R) R R R R (L.pkF Y R R R R (L.sb (J75 _ _ ⟨(decide (x49.1 ≥ p0.2.1)), (orF hc).symm, R, R⟩) R)))))))
 refine E.cF R hc (E.exit (X.seqX (X.seqX ?_)))
 have hx := ho38 _ (oi hm).symm
 exact X.sub (K43 _ _ ⟨s40, (), hx.symm, m0, R, R⟩) Sub.nil

theorem cf45 : Cf Tryz.prog 45 := Cf.mk Tryz.func45 (by kernel_rfl) (by kernel_rfl)
theorem cf46 : Cf Tryz.prog 46 := Cf.mk Tryz.func46 (by kernel_rfl) (by kernel_rfl)
theorem fa30_2 : FA Tryz.prog 30 2 2 := FA.mk Tryz.underlying30 rfl rfl ⟨1, by decide, by kernel_rfl⟩
noncomputable def m_automaton_Check (p0 : AutT) : Option Int :=
 (m_automaton_checkSet p0.1 32).bind fun r7 =>
 if (r7 != 0) then
  some r7
 else
  if decide (p0.2.1 < 0) then
   some 2
  else
   if decide (p0.2.1 > 4096) then
    some 3
   else
    (m_automaton_checkSet p0.2.2.1 p0.2.1).bind fun r10 =>
    if (r10 != 0) then
     some r10
    else
     (m_automaton_checkEdges p0).bind fun r13 =>
     some r13
theorem m_automaton_Check_c {s : Sig} {p0 : AutT} {a1 : Option Addr} {c1 : Nat} {a2 : Option Addr} {c2 : Nat} {a3 : Option Addr} {c3 : Nat} {r : Int} (h1 : RdL qI s a1 c1 p0.1) (h2 : RdL qI s a2 c2 p0.2.2.1) (h3 : RdL qT s a3 c3 p0.2.2.2) (hm : m_automaton_Check p0 = some r) :
    Calls Tryz.prog 16 #[.agg #[.slice a1 p0.1.length c1, .int .i64 p0.2.1, .slice a2 p0.2.2.1.length c2, .slice a3 p0.2.2.2.length c3]] s.w (RetS No s fun v s' => v = .int .i64 r) := by
 unfold m_automaton_Check at hm
 obtain ⟨N, hN, hNb⟩ := s.fresh
 have m0 : Mv (Up N No) s s := Mv.refl _ _
 refine E.entry Tryz.func16 R Tryz.ntmps16 R R (ER (L.box (N + 0) Y R R R fun b4 s5 m6 bx4 => ?_))
 replace h1 := h1.mono m6.z
 refine L.as Y R R (LN (E.seq (ER (L.fa fa30_0 Y R R (L.ld (j := 0) bx4.mem nag27 Y R R R R ?_)))))
 obtain ⟨r7, er7, hm⟩ := bindS hm
 refine L.ca cf45 R R Y R (m_automaton_checkSet_c (s := s5) (p0 := p0.1) (p1 := 32) h1 er7) R ?_
 rintro _ s8 m9 rfl
 replace m0 := (m0.trans m6.no).trans m9.no
 replace bx4 := bx4.mv m9 no_No
 replace h2 := (h2.mono m6.z).mono m9.z
 refine L.as Y R R (LN (ER (L.mv Y R R (L.bi Y R R R R (L.nil (X.seqN ?_))))))
 rcases ifS hm with ⟨hc, hm⟩ | ⟨hc, hm⟩
 ·refine E.cT R hc (ER (L.mv Y R R (L.as Y R R (LN (E.ret (X.seqR ?_))))))
  obtain rfl := oi hm
  exact X.rt (.inl R) Tryz.results16 (Rs.tmp R Rs.nil) R ⟨_, (s8).ren N (fun _ => 0), R, R, m0.ren hNb, R⟩
 refine E.cF R hc (E.skip (X.seqN (E.seq (E.block (ER (L.fa fa30_1 Y R R (L.ld (j := 1) bx4.mem nag3 Y R R R R (L.bi Y R R R R (L.as Y R R (L.nil (X.seqN ?_)))))))))))
 rcases ifS hm with ⟨hc, hm⟩ | ⟨hc, hm⟩
 ·refine E.cT R hc (ER (L.as Y R R (LN (E.ret (X.blkR (X.seqR ?_))))))
  obtain rfl := oi hm
  exact X.rt (.inl R) Tryz.results16 (Rs.tmp R Rs.nil) R ⟨_, (s8).ren N (fun _ => 0), R, R, m0.ren hNb, R⟩
 refine E.cF R hc (ER (L.fa fa30_1 Y R R (L.ld (j := 1) bx4.mem nag3 Y R R R R (L.bi Y R R R R (L.as Y R R (L.nil (X.seqN ?_)))))))
 rcases ifS hm with ⟨hc, hm⟩ | ⟨hc, hm⟩
 ·refine E.cT R hc (ER (L.as Y R R (LN (E.ret (X.blkR (X.seqR ?_))))))
  obtain rfl := oi hm
  exact X.rt (.inl R) Tryz.results16 (Rs.tmp R Rs.nil) R ⟨_, (s8).ren N (fun _ => 0), R, R, m0.ren hNb, R⟩
 refine E.cF R hc (E.skip (X.blkN (X.seqN (E.seq (ER (L.fa fa30_2 Y R R (L.ld (j := 2) bx4.mem nag27 Y R R R R (L.fa fa30_1 Y R R (L.ld (j := 1) bx4.mem nag3 Y R R R R ?_)))))))))
 obtain ⟨r10, er10, hm⟩ := bindS hm
 refine L.ca cf45 R R Y R (m_automaton_checkSet_c (s := s8) (p0 := p0.2.2.1) (p1 := p0.2.1) h2 er10) R ?_
 rintro _ s11 m12 rfl
 replace m0 := m0.trans m12.no
 replace bx4 := bx4.mv m12 no_No
 replace h1 := (h1.mono m9.z).mono m12.z
 replace h2 := h2.mono m12.z
 replace h3 := ((h3.mono m6.z).mono m9.z).mono m12.z
 refine L.as Y R R (LN (ER (L.mv Y R R (L.bi Y R R R R (L.nil (X.seqN ?_))))))
 rcases ifS hm with ⟨hc, hm⟩ | ⟨hc, hm⟩
 ·refine E.cT R hc (ER (L.mv Y R R (L.as Y R R (LN (E.ret (X.seqR ?_))))))
  obtain rfl := oi hm
  exact X.rt (.inl R) Tryz.results16 (Rs.tmp R Rs.nil) R ⟨_, (s11).ren N (fun _ => 0), R, R, m0.ren hNb, R⟩
 refine E.cF R hc (E.skip (X.seqN (ER (L.lg (j := 0) (cs := [.slice a1 p0.1.length c1, .int .i64 p0.2.1, .slice a2 p0.2.2.1.length c2, .slice a3 p0.2.2.2.length c3]) bx4.mem ag30 Y R R R R R ?_))))
 obtain ⟨r13, er13, hm⟩ := bindS hm
 refine L.ca cf46 R R Y R (m_automaton_checkEdges_c (s := s11) (p0 := p0) h1 h2 h3 er13) R ?_
 rintro _ s14 m15 rfl
 replace m0 := m0.trans m15.no
 refine L.as Y R R (LN (E.ret ?_))
 obtain rfl := oi hm
 exact X.rt (.inl R) Tryz.results16 (Rs.tmp R Rs.nil) R ⟨_, (s14).ren N (fun _ => 0), R, R, m0.ren hNb, R⟩

noncomputable def m_slices_Clone_int (p0 : List Int) : Option (List Int) :=
 (app ([] : List Int) p0).bind fun x6 =>
 some x6
theorem m_slices_Clone_int_c {s : Sig} {p0 : List Int} {a1 : Option Addr} {c1 : Nat} {u0 : Nat} {r : List Int} (h1 : RdL qI s a1 c1 p0) (hm : m_slices_Clone_int p0 = some r) :
    Calls Tryz.prog 63 #[.slice a1 p0.length c1] s.w (RetS No s fun v s' => ∃ (a2 : Option Addr) (c2 : Nat), v = .slice a2 r.length c2 ∧ RowT qI s' u0 3 a2 c2 r) := by
 unfold m_slices_Clone_int at hm
 obtain ⟨N, hN, hNb⟩ := s.fresh
 have m0 : Mv (Up N No) s s := Mv.refl _ _
 refine E.entry Tryz.func63 R Tryz.ntmps63 R R (ER (L.as Y R R (LN (E.seq (ER (L.mv Y R R (L.nil? Tryz.underlying27 Y R R R (L.nil (X.seqN ?_)))))))))
 rcases isNoneS a1 with hc | hc
 ·refine E.cT R hc ?_
  obtain rfl := h1.eq_nil hc
  replace hm : some ([] : List Int) = some r := by simpa [app, slc] using hm
  refine ER (L.as Y R R (LN (E.ret (X.seqR ?_))))
  obtain rfl := oi hm
  exact X.rt (.inl R) Tryz.results63 (Rs.tmp R Rs.nil) R ⟨_, (s).ren N (fun _ => 0), R, R, m0.ren hNb, ⟨none, 0, R, RowT.nil⟩⟩
 refine E.cF R hc (E.skip (X.seqN (ER (L.bs0 (N + 0) bs27 (nb R) Y R fun b3 s4 m5 bx3 => ?_))))
 replace h1 := h1.mono m5.z
 have h3 := Bx.row (r := qI) (xs := ([] : List Int)) bx3 R (nb R)
 refine L.mv Y R R ?_
 obtain ⟨x6, ex6, hm⟩ := bindS hm
 refine L.ap (r := qI) Tryz.underlying27 el3 R (tgp hN) h3 h1.wk Y R R ex6 R fun a7 c7 s8 m9 h7 => ?_
 replace m0 := (m0.trans m5.no).trans (m9.one up)
 refine L.as Y R R (LN (E.ret ?_))
 obtain rfl := oi hm
 exact X.rt (.inl R) Tryz.results63 (Rs.tmp R Rs.nil) R ⟨_, (s8).ren N (fun k => cond (Nat.beq k 0) u0 (0)), R, R, m0.ren hNb, ⟨a7, c7, R, (h7.ren hN)⟩⟩

end Go.Proofs.YtfbapajcheammaaGreatDoor

namespace Go.Proofs.YtfbapajcheammaaGreatDoor
open Go Go.RowKit
theorem cf63 : Cf Tryz.prog 63 := Cf.mk Tryz.func63 (by kernel_rfl) (by kernel_rfl)
theorem cf70 : Cf Tryz.prog 70 := Cf.mk Tryz.func70 (by kernel_rfl) (by kernel_rfl)
theorem sl46 : Sl Tryz.prog 46 27 1 := Sl.mk' Tryz.underlying46 (by kernel_rfl)
theorem zr3 : Zr Tryz.prog qI 3 8 (0 : Int) := Zr.mk' (v := .int .i64 0) (by kernel_rfl) (by kernel_rfl) (by kernel_rfl) (fun _ => rfl)
noncomputable def m_blocking_spread_j1 (st170 : Int × List Int × List Int) (l177 : List Int) (l179 : List Int) : Option ((Int × List Int × List Int) ⊕ (List Int × List Int)) :=
 some (.inl (W (st170.1 + 1), l177, l179))
noncomputable def m_blocking_spread_l4 (st127 : Int × List Int × List Int) (x134 : List Int) (st170 : Int × List Int × List Int) : Option ((Int × List Int × List Int) ⊕ (List Int × List Int)) :=
 if decide (st170.1 < (x134.length : Int)) then
  (idx x134 st170.1).bind fun x182 =>
  (idx st170.2.2 x182).bind fun x184 =>
  if decide (x184 < 0) then
   (idx st170.2.1 st127.1).bind fun x186 =>
   (idx st170.2.2 x186).bind fun x188 =>
   (idx st170.2.2 x182).bind fun x190 =>
   (upd st170.2.2 x182 (W (x188 + 1))).bind fun x192 =>
   (app st170.2.1 ([x182] : List Int)).bind fun x198 =>
   m_blocking_spread_j1 st170 x198 x192
  else
   m_blocking_spread_j1 st170 st170.2.1 st170.2.2
 else
  some (.inr st170.2)
noncomputable def m_blocking_spread_l3 (r9 : List (List Int)) (st127 : Int × List Int × List Int) : Option ((Int × List Int × List Int) ⊕ (List Int)) :=
 if decide (st127.1 < (st127.2.1.length : Int)) then
  (idx st127.2.1 st127.1).bind fun x132 =>
  (idx r9 x132).bind fun x134 =>
  (iter (m_blocking_spread_l4 st127 x134) (0, st127.2)).bind fun o170 =>
  some (.inl (W (st127.1 + 1), o170))
 else
  some (.inr st127.2.2)
noncomputable def m_blocking_spread_l2 (r30 : List Int) (st45 : Int × List Int) : Option ((Int × List Int) ⊕ (List Int)) :=
 if decide (st45.1 < (r30.length : Int)) then
  (idx r30 st45.1).bind fun x203 =>
  (idx st45.2 x203).bind fun x205 =>
  (upd st45.2 x203 0).bind fun x207 =>
  some (.inl (W (st45.1 + 1), x207))
 else
  some (.inr st45.2)
noncomputable def m_blocking_spread_l1 (x13 : List Int) (st26 : Int × List Int) : Option ((Int × List Int) ⊕ (List Int)) :=
 if decide (st26.1 < (x13.length : Int)) then
  (idx st26.2 st26.1).bind fun x211 =>
  (upd st26.2 st26.1 (-1)).bind fun x213 =>
  some (.inl (W (st26.1 + 1), x213))
 else
  some (.inr st26.2)
noncomputable def m_blocking_spread (p0 : AutT) (p1 : List Int) : Option (List Int) :=
 (m_blocking_into p0).bind fun r9 =>
 (mkL p0.2.1 (0 : Int)).bind fun x13 =>
 (iter (m_blocking_spread_l1 x13) (0, x13)).bind fun o26 =>
 (m_slices_Clone_int p1).bind fun r30 =>
 (iter (m_blocking_spread_l2 r30) (0, o26)).bind fun o45 =>
 (iter (m_blocking_spread_l3 r9) (0, r30, o45)).bind fun o127 =>
 some o127
theorem m_blocking_spread_c {s : Sig} {p0 : AutT} {p1 : List Int} {a1 : Option Addr} {c1 : Nat} {a2 : Option Addr} {c2 : Nat} {a3 : Option Addr} {c3 : Nat} {a4 : Option Addr} {c4 : Nat} {u0 : Nat} {r : List Int} (h1 : RdL qI s a1 c1 p0.1) (h2 : RdL qI s a2 c2 p0.2.2.1) (h3 : RdL qT s a3 c3 p0.2.2.2) (h4 : RdL qI s a4 c4 p1) (hm : m_blocking_spread p0 p1 = some r) :
    Calls Tryz.prog 35 #[.agg #[.slice a1 p0.1.length c1, .int .i64 p0.2.1, .slice a2 p0.2.2.1.length c2, .slice a3 p0.2.2.2.length c3], .slice a4 p1.length c4] s.w (RetS No s fun v s' => ∃ (a5 : Option Addr) (c5 : Nat), v = .slice a5 r.length c5 ∧ RowT qI s' u0 3 a5 c5 r) := by
 unfold m_blocking_spread at hm
 obtain ⟨N, hN, hNb⟩ := s.fresh
 have m0 : Mv (Up N No) s s := Mv.refl _ _
 refine E.entry Tryz.func35 R Tryz.ntmps35 R R (ER (L.box (N + 0) Y R R R fun b6 s7 m8 bx6 => ?_))
 replace h1 := h1.mono m8.z
 replace h2 := h2.mono m8.z
 replace h3 := h3.mono m8.z
 refine L.as Y R R (LN (ER (L.lg (j := 0) (cs := [.slice a1 p0.1.length c1, .int .i64 p0.2.1, .slice a2 p0.2.2.1.length c2, .slice a3 p0.2.2.2.length c3]) bx6.mem ag30 Y R R R R R ?_)))
 obtain ⟨r9, er9, hm⟩ := bindS hm
 refine L.ca cf70 R R Y R (m_blocking_into_c (s := s7) (p0 := p0) h1 h2 h3 er9) R ?_
 rintro _ s10 m11 ⟨a12, c12, rfl, h12⟩
 replace bx6 := bx6.mv m11 no_No
 refine L.as Y R R (LN (ER (L.fa fa30_1 Y R R (L.ld (j := 1) bx6.mem nag3 Y R R R R ?_))))
 obtain ⟨x13, ex13, hm⟩ := bindS hm
 refine L.mk (z := (0 : Int)) (N + 1) Tryz.underlying27 zr3 R Y R R ex13 R fun b14 s15 m16 h14 => ?_
 replace m0 := ((m0.trans m8.no).trans m11.no).trans m16.no
 replace h4 := ((h4.mono m8.z).mono m11.z).mono m16.z
 replace h12 := h12.mono m16.z
 refine L.as Y R R (LN (E.seq (ER (L.mv Y R R (L.len sl27 Y R R (L.mv Y R R (LN (E.block ?_))))))))
 obtain ⟨o26, eo26, hm⟩ := bindS hm
 refine E.cut (x := .exit 0) (fun e w => ∃ (s29 : Sig), Mv (Up N No) s s29 ∧ RowT qI s29 (N + 1) 3 (some ⟨b14, 0, none⟩) x13.length o26 ∧ RdL (rL qI) s29 a12 c12 r9 ∧ RdL qI s29 a4 c4 p1 ∧ e = [(6, .slice (some ⟨b14, 0, none⟩) o26.length x13.length), (5, .slice a12 r9.length c12), (1, .slice a4 p1.length c4)] ∧ w = s29.w) ?_ ?_
 ·rintro _ _ ⟨s29, m0, h14, h12, h4, rfl, rfl⟩
  refine X.blkE (X.seqN (ER (L.mv Y R R ?_)))
  obtain ⟨r30, er30, hm⟩ := bindS hm
  refine L.ca cf63 R R Y R (m_slices_Clone_int_c (s := s29) (p0 := p1) (u0 := (N + 2)) h4 er30) R ?_
  rintro _ s31 m32 ⟨a33, c33, rfl, h33⟩
  replace m0 := m0.trans m32.no
  replace h12 := h12.mono m32.z
  replace h14 := h14.mv m32 no_No no_No
  refine L.as Y R R (LN (E.seq (ER (L.mv Y R R (L.len sl27 Y R R (L.mv Y R R (LN (E.block ?_))))))))
  obtain ⟨o45, eo45, hm⟩ := bindS hm
  refine E.cut (x := .exit 2) (fun e w => ∃ (s48 : Sig), Mv (Up N No) s s48 ∧ RowT qI s48 (N + 2) 3 a33 c33 r30 ∧ RowT qI s48 (N + 1) 3 (some ⟨b14, 0, none⟩) x13.length o45 ∧ RdL (rL qI) s48 a12 c12 r9 ∧ e = [(8, .slice a33 r30.length c33), (6, .slice (some ⟨b14, 0, none⟩) o45.length x13.length), (5, .slice a12 r9.length c12)] ∧ w = s48.w) ?_ ?_
  ·rintro _ _ ⟨s48, m0, h33, h14, h12, rfl, rfl⟩
   refine X.blkE (X.seqN (E.seq (ER (L.as Y R R (LN (E.block ?_))))))
   obtain ⟨o127, eo127, hm⟩ := bindS hm
   refine E.cut (x := .exit 4) (fun e w => ∃ (s130 : Sig), Mv (Up N No) s s130 ∧ RowT qI s130 (N + 1) 3 (some ⟨b14, 0, none⟩) x13.length o127 ∧ e = [(6, .slice (some ⟨b14, 0, none⟩) o127.length x13.length)] ∧ w = s130.w) ?_ ?_
   ·rintro _ _ ⟨s130, m0, h14, rfl, rfl⟩
    refine X.blkE (X.seqN (ER (L.mv Y R R (L.as Y R R (LN (E.ret ?_))))))
    obtain rfl := oi hm
    exact X.rt (.inl R) Tryz.results35 (Rs.tmp R Rs.nil) R ⟨_, (s130).ren N (fun k => cond (Nat.beq k 1) u0 (0)), R, R, m0.ren hNb, ⟨(some ⟨b14, 0, none⟩), x13.length, R, (h14.ren hN)⟩⟩
   intro K131
   refine E.iter (fun (st127 : Int × List Int × List Int) (e : List (Nat × Value)) (w : World) => ∃ (s129 : Sig) (a51 : Option Addr) (c51 : Nat), Mv (Up N No) s s129 ∧ RowT qI s129 (N + 2) 3 a51 c51 st127.2.1 ∧ RowT qI s129 (N + 1) 3 (some ⟨b14, 0, none⟩) x13.length st127.2.2 ∧ RdL (rL qI) s129 a12 c12 r9 ∧ e = [(11, .int .i64 st127.1), (8, .slice a51 st127.2.1.length c51), (6, .slice (some ⟨b14, 0, none⟩) st127.2.2.length x13.length), (5, .slice a12 r9.length c12)] ∧ w = s129.w) eo127 ⟨s48, a33, c33, m0, h33, h14, h12, R, R⟩ (Sub.rf R) ?_
   rintro st127 res127 hm ih127 ho127 _ _ ⟨s129, a51, c51, m0, h51, h14, h12, rfl, rfl⟩
   unfold m_blocking_spread_l3 at hm
   refine E.seq (ER (L.mv Y R R (L.mv Y R R (L.len sl27 Y R R (L.bi Y R R R R (L.nil (X.seqN ?_)))))))
   rcases ifS hm with ⟨hc, hm⟩ | ⟨hc, hm⟩
   ·refine E.cT R hc (E.skip (X.seqN (E.seq (E.block (ER (L.mv Y R R (L.mv Y R R (L.mv Y R R ?_))))))))
    obtain ⟨x132, ex132, hm⟩ := bindS hm
    refine L.ir (r := qI) sl27 h51 Y R R ex132 R fun b133 o133 cc133 me133 rd133 sp133 => ?_
    obtain rfl := rd133
    refine L.ld (j := 0) me133 nag3 Y R R R R ?_
    obtain ⟨x134, ex134, hm⟩ := bindS hm
    refine L.ix (r := (rL qI)) sl46 h12 Y R R ex134 R fun b135 o135 cc135 me135 rd135 => ?_
    obtain ⟨a136, c136, rfl, h136⟩ := rd135
    refine L.ld (j := 0) me135 nag27 Y R R R R (L.len sl27 Y R R (L.mv Y R R (LN (E.block ?_))))
    obtain ⟨o170, eo170, hm⟩ := bindS hm
    refine E.cut (x := .exit 6) (fun e w => ∃ (s175 : Sig) (a172 : Option Addr) (c172 : Nat), Mv (Up N No) s s175 ∧ RowT qI s175 (N + 2) 3 a172 c172 o170.1 ∧ RowT qI s175 (N + 1) 3 (some ⟨b14, 0, none⟩) x13.length o170.2 ∧ RdL (rL qI) s175 a12 c12 r9 ∧ e = [(11, .int .i64 st127.1), (8, .slice a172 o170.1.length c172), (6, .slice (some ⟨b14, 0, none⟩) o170.2.length x13.length), (5, .slice a12 r9.length c12)] ∧ w = s175.w) ?_ ?_
    ·rintro _ _ ⟨s175, a172, c172, m0, h172, h14, h12, rfl, rfl⟩
     exact X.blkE (X.blkN (X.seqN (E.reg (L.mv Y R R (L.bi Y R R R R (L.as Y R R (L.nil (X.sub (ih127 _ (oi hm).symm _ _ ⟨s175, a172, c172, m0, h172, h14, h12, R, R⟩) (Sub.rf R)))))))))
    intro K176
    refine E.iter (fun (st170 : Int × List Int × List Int) (e : List (Nat × Value)) (w : World) => ∃ (s174 : Sig) (a139 : Option Addr) (c139 : Nat), Mv (Up N No) s s174 ∧ RdL qI s174 a136 c136 x134 ∧ RowT qI s174 (N + 2) 3 a139 c139 st170.2.1 ∧ RowT qI s174 (N + 1) 3 (some ⟨b14, 0, none⟩) x13.length st170.2.2 ∧ RdL (rL qI) s174 a12 c12 r9 ∧ e = [(54, .int .i64 st170.1), (53, .int .i64 (x134.length : Int)), (52, .slice a136 x134.length c136), (11, .int .i64 st127.1), (8, .slice a139 st170.2.1.length c139), (6, .slice (some ⟨b14, 0, none⟩) st170.2.2.length x13.length), (5, .slice a12 r9.length c12)] ∧ w = s174.w) eo170 ⟨s129, a51, c51, m0, h136, h51, h14, h12, R, R⟩ (Sub.rf R) ?_
    rintro st170 res170 hm ih170 ho170 _ _ ⟨s174, a139, c139, m0, h136, h139, h14, h12, rfl, rfl⟩
    unfold m_blocking_spread_l4 at hm
    refine ER (L.bi Y R R R R (LN (E.seq ?_)))
    rcases ifS hm with ⟨hc, hm⟩ | ⟨hc, hm⟩
    ·refine E.cT R hc (E.skip (X.seqN (E.seqJ (fun e w => ∃ (s180 : Sig) (l177 : List Int) (l179 : List Int) (a178 : Option Addr) (c178 : Nat), m_blocking_spread_j1 st170 l177 l179 = some res170 ∧ Mv (Up N No) s s180 ∧ RowT qI s180 (N + 2) 3 a178 c178 l177 ∧ RowT qI s180 (N + 1) 3 (some ⟨b14, 0, none⟩) x13.length l179 ∧ RdL qI s180 a136 c136 x134 ∧ RdL (rL qI) s180 a12 c12 r9 ∧ e = [(8, .slice a178 l177.length c178), (6, .slice (some ⟨b14, 0, none⟩) l179.length x13.length), (54, .int .i64 st170.1), (53, .int .i64 (x134.length : Int)), (52, .slice a136 x134.length c136), (11, .int .i64 st127.1), (5, .slice a12 r9.length c12)] ∧ w = s180.w) ?_ ?_)))
     ·rintro _ _ ⟨s180, l177, l179, a178, c178, hm, m0, h178, h14, h136, h12, rfl, rfl⟩
      unfold m_blocking_spread_j1 at hm
      exact E.reg (L.bi Y R R R R (L.mv Y R R (L.nil (X.sub (ih170 _ (oi hm).symm _ _ ⟨s180, a178, c178, m0, h136, h178, h14, h12, R, R⟩) (Sub.rf R)))))
     intro Jj181
     refine E.block (E.seq (E.reg ?_))
     obtain ⟨x182, ex182, hm⟩ := bindS hm
     refine L.ix (r := qI) sl27 h136 Y R R ex182 R fun b183 o183 cc183 me183 rd183 => ?_
     obtain rfl := rd183
     refine L.ld (j := 0) me183 nag3 Y R R R R (L.as Y R R (LN (ER (L.mv Y R R (L.mv Y R R ?_)))))
     obtain ⟨x184, ex184, hm⟩ := bindS hm
     refine L.ir (r := qI) sl27 h14 Y R R ex184 R fun b185 o185 cc185 me185 rd185 sp185 => ?_
     obtain rfl := rd185
     refine L.ld (j := 0) me185 nag3 Y R R R R (L.bi Y R R R R (L.nil (X.seqN ?_)))
     rcases ifS hm with ⟨hc, hm⟩ | ⟨hc, hm⟩
     ·refine E.cT R hc (ER (L.mv Y R R (L.mv Y R R (L.mv Y R R (L.mv Y R R (L.mv Y R R ?_))))))
      obtain ⟨x186, ex186, hm⟩ := bindS hm
      refine L.ir (r := qI) sl27 h139 Y R R ex186 R fun b187 o187 cc187 me187 rd187 sp187 => ?_
      obtain rfl := rd187
      refine L.ld (j := 0) me187 nag3 Y R R R R ?_
      obtain ⟨x188, ex188, hm⟩ := bindS hm
      refine L.ir (r := qI) sl27 h14 Y R R ex188 R fun b189 o189 cc189 me189 rd189 sp189 => ?_
      obtain rfl := rd189
      refine L.ld (j := 0) me189 nag3 Y R R R R (L.bi Y R R R R ?_)
      obtain ⟨x190, ex190, hm⟩ := bindS hm
      refine L.ir (r := qI) sl27 h14 Y R R ex190 R fun b191 o191 cc191 me191 rd191 sp191 => ?_
      obtain rfl := rd191
      obtain ⟨x192, ex192, hm⟩ := bindS hm
      have elx192 := upd_len ex192
      refine L.su (fo := 0) (c := [.int .i64 (W (x188 + 1))]) (z := W (x188 + 1)) h14 sp191 ex190 ex192 (tgp hN) nag3.sz Y R R R R R R (fun c0 hc0 => by obtain rfl := hc0; exact R) fun s193 m194 h14 => ?_
      refine L.reval (d := 6) R elx192 (LN (E.reg (L.mv Y R R (L.mv Y R R (L.bsE (k := 1) (cs := [.int .i64 x182]) 0 bs27 (nb R) Y R R R R fun b195 s196 m197 bx195 => ?_)))))
      replace h139 := (h139.mv m194 (tq R) (tg0 hN)).mv m197 no_No no_No
      have h195 := Bx.rdL (r := qI) (xs := ([x182] : List Int)) bx195 ⟨[.int .i64 x182], _, R, R, R⟩ (nb R)
      obtain ⟨x198, ex198, hm⟩ := bindS hm
      refine L.ap (r := qI) Tryz.underlying27 el3 R (tgp hN) h139 h195.wk Y R R ex198 R fun a199 c199 s200 m201 h199 => ?_
      replace m0 := ((m0.trans (m194.one up)).trans m197.no).trans (m201.one up)
      replace h136 := ((h136.mono (m194.le (tg0 hN))).mono m197.z).mono (m201.le (tg0 hN))
      replace h12 := ((h12.mono (m194.le (tg0 hN))).mono m197.z).mono (m201.le (tg0 hN))
      replace h14 := (h14.mv m197 no_No no_No).mv m201 (tq R) (tg0 hN)
      exact L.as Y R R (L.nil (X.blkN (X.sub (Jj181 _ _ ⟨s200, x198, x192, a199, c199, hm, m0, h199, h14, h136, h12, R, R⟩) (Sub.rf R))))
     exact E.cF R hc (E.skip (X.blkN (X.sub (Jj181 _ _ ⟨s174, st170.2.1, st170.2.2, a139, c139, hm, m0, h139, h14, h136, h12, R, R⟩) (Sub.rf R))))
    refine E.cF R hc (E.exit (X.seqX (X.seqX ?_)))
    have hx := ho170 _ (oi hm).symm
    subst hx
    exact X.sub (K176 _ _ ⟨s174, a139, c139, m0, h139, h14, h12, R, R⟩) (Sub.rf R)
   refine E.cF R hc (E.exit (X.seqX (X.seqX ?_)))
   have hx := ho127 _ (oi hm).symm
   subst hx
   exact X.sub (K131 _ _ ⟨s129, m0, h14, R, R⟩) (Sub.rf R)
  intro K202
  refine E.iter (fun (st45 : Int × List Int) (e : List (Nat × Value)) (w : World) => ∃ (s47 : Sig), Mv (Up N No) s s47 ∧ RowT qI s47 (N + 2) 3 a33 c33 r30 ∧ RowT qI s47 (N + 1) 3 (some ⟨b14, 0, none⟩) x13.length st45.2 ∧ RdL (rL qI) s47 a12 c12 r9 ∧ e = [(32, .int .i64 st45.1), (31, .int .i64 (r30.length : Int)), (30, .slice a33 r30.length c33), (8, .slice a33 r30.length c33), (6, .slice (some ⟨b14, 0, none⟩) st45.2.length x13.length), (5, .slice a12 r9.length c12)] ∧ w = s47.w) eo45 ⟨s31, m0, h33, h14, h12, R, R⟩ (Sub.rf R) ?_
  rintro st45 res45 hm ih45 ho45 _ _ ⟨s47, m0, h33, h14, h12, rfl, rfl⟩
  unfold m_blocking_spread_l2 at hm
  refine ER (L.bi Y R R R R (LN (E.seq ?_)))
  rcases ifS hm with ⟨hc, hm⟩ | ⟨hc, hm⟩
  ·refine E.cT R hc (E.skip (X.seqN (E.seq (E.block (E.seq (E.reg ?_))))))
   obtain ⟨x203, ex203, hm⟩ := bindS hm
   refine L.ir (r := qI) sl27 h33 Y R R ex203 R fun b204 o204 cc204 me204 rd204 sp204 => ?_
   obtain rfl := rd204
   refine L.ld (j := 0) me204 nag3 Y R R R R (L.as Y R R (LN (E.reg (L.mv Y R R (L.mv Y R R ?_)))))
   obtain ⟨x205, ex205, hm⟩ := bindS hm
   refine L.ir (r := qI) sl27 h14 Y R R ex205 R fun b206 o206 cc206 me206 rd206 sp206 => ?_
   obtain rfl := rd206
   obtain ⟨x207, ex207, hm⟩ := bindS hm
   have elx207 := upd_len ex207
   refine L.su (fo := 0) (c := [.int .i64 0]) (z := 0) h14 sp206 ex205 ex207 (tgp hN) nag3.sz Y R R R R R R (fun c0 hc0 => by obtain rfl := hc0; exact R) fun s208 m209 h14 => ?_
   replace m0 := m0.trans (m209.one up)
   replace h12 := h12.mono (m209.le (tg0 hN))
   replace h33 := h33.mv m209 (tq R) (tg0 hN)
   exact L.reval (d := 6) R elx207 (L.nil (X.blkN (X.seqN (E.reg (L.bi Y R R R R (L.mv Y R R (L.nil (X.sub (ih45 _ (oi hm).symm _ _ ⟨s208, m0, h33, h14, h12, R, R⟩) (Sub.rf R)))))))))
  refine E.cF R hc (E.exit (X.seqX (X.seqX ?_)))
  have hx := ho45 _ (oi hm).symm
  subst hx
  exact X.sub (K202 _ _ ⟨s47, m0, h33, h14, h12, R, R⟩) (Sub.rf R)
 intro K210
 refine E.iter (fun (st26 : Int × List Int) (e : List (Nat × Value)) (w : World) => ∃ (s28 : Sig), Mv (Up N No) s s28 ∧ RowT qI s28 (N + 1) 3 (some ⟨b14, 0, none⟩) x13.length st26.2 ∧ RdL (rL qI) s28 a12 c12 r9 ∧ RdL qI s28 a4 c4 p1 ∧ e = [(21, .int .i64 st26.1), (20, .int .i64 (x13.length : Int)), (6, .slice (some ⟨b14, 0, none⟩) st26.2.length x13.length), (5, .slice a12 r9.length c12), (1, .slice a4 p1.length c4)] ∧ w = s28.w) eo26 ⟨s15, m0, h14, h12, h4, R, R⟩ (Sub.rf R) ?_
 rintro st26 res26 hm ih26 ho26 _ _ ⟨s28, m0, h14, h12, h4, rfl, rfl⟩
 unfold m_blocking_spread_l1 at hm
 refine ER (L.bi Y R R R R (LN (E.seq ?_)))
 rcases ifS hm with ⟨hc, hm⟩ | ⟨hc, hm⟩
 ·refine E.cT R hc (E.skip (X.seqN (E.seq (E.block (ER (L.mv Y R R (L.as Y R R (LN (E.reg (L.mv Y R R (L.mv Y R R ?_)))))))))))
  obtain ⟨x211, ex211, hm⟩ := bindS hm
  refine L.ir (r := qI) sl27 h14 Y R R ex211 R fun b212 o212 cc212 me212 rd212 sp212 => ?_
  obtain rfl := rd212
  obtain ⟨x213, ex213, hm⟩ := bindS hm
  have elx213 := upd_len ex213
  refine L.su (fo := 0) (c := [.int .i64 (-1)]) (z := (-1)) h14 sp212 ex211 ex213 (tgp hN) nag3.sz Y R R R R R R (fun c0 hc0 => by obtain rfl := hc0; exact R) fun s214 m215 h14 => ?_
  replace m0 := m0.trans (m215.one up)
  replace h4 := h4.mono (m215.le (tg0 hN))
  replace h12 := h12.mono (m215.le (tg0 hN))
  exact L.reval (d := 6) R elx213 (L.nil (X.blkN (X.seqN (E.reg (L.bi Y R R R R (L.mv Y R R (L.nil (X.sub (ih26 _ (oi hm).symm _ _ ⟨s214, m0, h14, h12, h4, R, R⟩) (Sub.rf R)))))))))
 refine E.cF R hc (E.exit (X.seqX (X.seqX ?_)))
 have hx := ho26 _ (oi hm).symm
 subst hx
 exact X.sub (K210 _ _ ⟨s28, m0, h14, h12, h4, R, R⟩) (Sub.rf R)

noncomputable def m_blocking_kinds_1 (q0 : List Int) (p0 : Int) : Option Bool :=
 (idx q0 p0).bind fun x3 =>
 some (x3 == 0)
theorem m_blocking_kinds_1_c {s : Sig} {q0 : List Int} {p0 : Int} {a1 : Option Addr} {c1 : Nat} {b2 : Nat} {r : Bool} (h1 : RdL qI s a1 c1 q0) (bx2 : Bx s 0 b2 #[.slice a1 q0.length c1] 27) (hm : m_blocking_kinds_1 q0 p0 = some r) :
    Calls Tryz.prog 71 #[.int .i64 p0, .pointer (some ⟨b2, 0, none⟩)] s.w (RetS No s fun v s' => v = .bool r) := by
 unfold m_blocking_kinds_1 at hm
 obtain ⟨N, hN, hNb⟩ := s.fresh
 have m0 : Mv (Up N No) s s := Mv.refl _ _
 refine E.entry Tryz.func71 R Tryz.ntmps71 R R (ER (L.as Y R R (LN (ER (L.ld (j := 0) bx2.mem nag27 Y R R R R (L.mv Y R R ?_))))))
 obtain ⟨x3, ex3, hm⟩ := bindS hm
 refine L.ix (r := qI) sl27 h1 Y R R ex3 R fun b4 o4 cc4 me4 rd4 => ?_
 obtain rfl := rd4
 refine L.ld (j := 0) me4 nag3 Y R R R R (L.bi Y R R R R (L.as Y R R (LN (E.ret ?_))))
 obtain rfl := oi hm
 exact X.rt (.inl R) Tryz.results71 (Rs.tmp R Rs.nil) R ⟨_, (s).ren N (fun _ => 0), R, R, m0.ren hNb, R⟩

noncomputable def m_blocking_kinds_2 (q0 : List Int) (p0 : Int) : Option Bool :=
 (idx q0 p0).bind fun x3 =>
 some (decide (x3 > 0))
theorem m_blocking_kinds_2_c {s : Sig} {q0 : List Int} {p0 : Int} {a1 : Option Addr} {c1 : Nat} {b2 : Nat} {r : Bool} (h1 : RdL qI s a1 c1 q0) (bx2 : Bx s 0 b2 #[.slice a1 q0.length c1] 27) (hm : m_blocking_kinds_2 q0 p0 = some r) :
    Calls Tryz.prog 72 #[.int .i64 p0, .pointer (some ⟨b2, 0, none⟩)] s.w (RetS No s fun v s' => v = .bool r) := by
 unfold m_blocking_kinds_2 at hm
 obtain ⟨N, hN, hNb⟩ := s.fresh
 have m0 : Mv (Up N No) s s := Mv.refl _ _
 refine E.entry Tryz.func72 R Tryz.ntmps72 R R (ER (L.as Y R R (LN (ER (L.ld (j := 0) bx2.mem nag27 Y R R R R (L.mv Y R R ?_))))))
 obtain ⟨x3, ex3, hm⟩ := bindS hm
 refine L.ix (r := qI) sl27 h1 Y R R ex3 R fun b4 o4 cc4 me4 rd4 => ?_
 obtain rfl := rd4
 refine L.ld (j := 0) me4 nag3 Y R R R R (L.bi Y R R R R (L.as Y R R (LN (E.ret ?_))))
 obtain rfl := oi hm
 exact X.rt (.inl R) Tryz.results72 (Rs.tmp R Rs.nil) R ⟨_, (s).ren N (fun _ => 0), R, R, m0.ren hNb, R⟩

noncomputable def m_blocking_kinds_3 (q0 : List Int) (p0 : Int) : Option Bool :=
 (idx q0 p0).bind fun x3 =>
 some (x3 == 0)
theorem m_blocking_kinds_3_c {s : Sig} {q0 : List Int} {p0 : Int} {a1 : Option Addr} {c1 : Nat} {b2 : Nat} {r : Bool} (h1 : RdL qI s a1 c1 q0) (bx2 : Bx s 0 b2 #[.slice a1 q0.length c1] 27) (hm : m_blocking_kinds_3 q0 p0 = some r) :
    Calls Tryz.prog 73 #[.int .i64 p0, .pointer (some ⟨b2, 0, none⟩)] s.w (RetS No s fun v s' => v = .bool r) := by
 unfold m_blocking_kinds_3 at hm
 obtain ⟨N, hN, hNb⟩ := s.fresh
 have m0 : Mv (Up N No) s s := Mv.refl _ _
 refine E.entry Tryz.func73 R Tryz.ntmps73 R R (ER (L.as Y R R (LN (ER (L.ld (j := 0) bx2.mem nag27 Y R R R R (L.mv Y R R ?_))))))
 obtain ⟨x3, ex3, hm⟩ := bindS hm
 refine L.ix (r := qI) sl27 h1 Y R R ex3 R fun b4 o4 cc4 me4 rd4 => ?_
 obtain rfl := rd4
 refine L.ld (j := 0) me4 nag3 Y R R R R (L.bi Y R R R R (L.as Y R R (LN (E.ret ?_))))
 obtain rfl := oi hm
 exact X.rt (.inl R) Tryz.results73 (Rs.tmp R Rs.nil) R ⟨_, (s).ren N (fun _ => 0), R, R, m0.ren hNb, R⟩

noncomputable def m_blocking_kinds_4 (q0 : List Int) (p0 : Int) : Option Bool :=
 (idx q0 p0).bind fun x3 =>
 some (decide (x3 > 0))
theorem m_blocking_kinds_4_c {s : Sig} {q0 : List Int} {p0 : Int} {a1 : Option Addr} {c1 : Nat} {b2 : Nat} {r : Bool} (h1 : RdL qI s a1 c1 q0) (bx2 : Bx s 0 b2 #[.slice a1 q0.length c1] 27) (hm : m_blocking_kinds_4 q0 p0 = some r) :
    Calls Tryz.prog 74 #[.int .i64 p0, .pointer (some ⟨b2, 0, none⟩)] s.w (RetS No s fun v s' => v = .bool r) := by
 unfold m_blocking_kinds_4 at hm
 obtain ⟨N, hN, hNb⟩ := s.fresh
 have m0 : Mv (Up N No) s s := Mv.refl _ _
 refine E.entry Tryz.func74 R Tryz.ntmps74 R R (ER (L.as Y R R (LN (ER (L.ld (j := 0) bx2.mem nag27 Y R R R R (L.mv Y R R ?_))))))
 obtain ⟨x3, ex3, hm⟩ := bindS hm
 refine L.ix (r := qI) sl27 h1 Y R R ex3 R fun b4 o4 cc4 me4 rd4 => ?_
 obtain rfl := rd4
 refine L.ld (j := 0) me4 nag3 Y R R R R (L.bi Y R R R R (L.as Y R R (LN (E.ret ?_))))
 obtain rfl := oi hm
 exact X.rt (.inl R) Tryz.results74 (Rs.tmp R Rs.nil) R ⟨_, (s).ren N (fun _ => 0), R, R, m0.ren hNb, R⟩

noncomputable def m_blocking_kinds_5 (p0 : Int) : Option Bool :=
 some true
theorem m_blocking_kinds_5_c {s : Sig} {p0 : Int} {r : Bool} (hm : m_blocking_kinds_5 p0 = some r) :
    Calls Tryz.prog 75 #[.int .i64 p0] s.w (RetS No s fun v s' => v = .bool r) := by
 unfold m_blocking_kinds_5 at hm
 obtain ⟨N, hN, hNb⟩ := s.fresh
 have m0 : Mv (Up N No) s s := Mv.refl _ _
 refine E.entry Tryz.func75 R Tryz.ntmps75 R R (ER (L.as Y R R (LN (ER (L.as Y R R (LN (E.ret ?_)))))))
 obtain rfl := oi hm
 exact X.rt (.inl R) Tryz.results75 (Rs.tmp R Rs.nil) R ⟨_, (s).ren N (fun _ => 0), R, R, m0.ren hNb, R⟩

theorem fa111_1 : FA Tryz.prog 111 1 1 := FA.mk Tryz.underlying111 rfl rfl ⟨1, by decide, by kernel_rfl⟩
theorem nag72 : NAg Tryz.prog 72 := NAg.mk' Tryz.underlying72 rfl (by kernel_rfl)
noncomputable def m_blocking_kinds_6 (q0 : Int) (p0 : Int × (Option (Int → Option Bool))) : Option Bool :=
 p0.2.bind fun f6 =>
 (f6 q0).bind fun r7 =>
 some r7
theorem m_blocking_kinds_6_c {s : Sig} {q0 : Int} {p0 : Int × (Option (Int → Option Bool))} {v1 : Value} {b2 : Nat} {r : Bool} (h1 : FO1 Tryz.prog s v1 (fun (x0 : Int) => [.int .i64 x0]) (fun (r : Bool) => .bool r) p0.2) (bx2 : Bx s 0 b2 #[.int .i64 q0] 3) (hm : m_blocking_kinds_6 q0 p0 = some r) :
    Calls Tryz.prog 77 #[.agg #[.int .i64 p0.1, v1], .pointer (some ⟨b2, 0, none⟩)] s.w (RetS No s fun v s' => v = .bool r) := by
 unfold m_blocking_kinds_6 at hm
 obtain ⟨N, hN, hNb⟩ := s.fresh
 have m0 : Mv (Up N No) s s := Mv.refl _ _
 refine E.entry Tryz.func77 R Tryz.ntmps77 R R (ER (L.box (N + 0) Y R R R fun b3 s4 m5 bx3 => ?_))
 replace bx2 := bx2.mv m5 no_No
 replace h1 := h1.mono m5.z
 refine L.as Y R R (LN (ER (L.fa fa111_1 Y R R (L.ld (j := 1) bx3.mem nag72 Y R R R R (L.ld (j := 0) bx2.mem nag3 Y R R R R ?_)))))
 obtain ⟨f6, ef6, hm⟩ := bindS hm
 have hf6 := FO1.some h1 ef6
 obtain ⟨r7, er7, hm⟩ := bindS hm
 refine L.fv1 (y := q0) hf6 R R Y R R er7 R fun s8 m9 => ?_
 replace m0 := (m0.trans m5.no).trans m9.no
 refine L.as Y R R (LN (E.ret ?_))
 obtain rfl := oi hm
 exact X.rt (.inl R) Tryz.results77 (Rs.tmp R Rs.nil) R ⟨_, (s8).ren N (fun _ => 0), R, R, m0.ren hNb, R⟩

end Go.Proofs.YtfbapajcheammaaGreatDoor

namespace Go.Proofs.YtfbapajcheammaaGreatDoor
open Go Go.RowKit
theorem ag111 : Ag Tryz.prog 111 2 := Ag.mk' Tryz.underlying111 rfl (by kernel_rfl)
theorem sl112 : Sl Tryz.prog 112 111 2 := Sl.mk' Tryz.underlying112 (by kernel_rfl)
noncomputable def m_slices_IndexFunc_blocking_test_blocking_test_l1 (p0 : List (Int × (Option (Int → Option Bool)))) (p1 : (Int × (Option (Int → Option Bool))) → Option Bool) (st10 : Int) : Option (Int ⊕ (Unit ⊕ Int)) :=
 if decide (st10 < (p0.length : Int)) then
  (idx p0 st10).bind fun x19 =>
  (p1 x19).bind fun r22 =>
  if r22 then
   some (.inr (.inr (st10)))
  else
   some (.inl (W (st10 + 1)))
 else
  some (.inr (.inl ()))
noncomputable def m_slices_IndexFunc_blocking_test_blocking_test (p0 : List (Int × (Option (Int → Option Bool)))) (p1 : (Int × (Option (Int → Option Bool))) → Option Bool) : Option Int :=
 (iter (m_slices_IndexFunc_blocking_test_blocking_test_l1 p0 p1) 0).bind fun o10 =>
 match o10 with
 | .inl u13 =>
  some (-1)
 | .inr (u16) =>
  some u16
theorem m_slices_IndexFunc_blocking_test_blocking_test_c {s : Sig} {p0 : List (Int × (Option (Int → Option Bool)))} {p1 : (Int × (Option (Int → Option Bool))) → Option Bool} {a1 : Option Addr} {c1 : Nat} {vp1 : Value} {r : Int} (h1 : RdL (rP qI (rF1 Tryz.prog (fun (x0 : Int) => [.int .i64 x0]) (fun (r : Bool) => .bool r))) s a1 c1 p0) (hp1 : FW1 Tryz.prog s vp1 (rP qI (rF1 Tryz.prog (fun (x0 : Int) => [.int .i64 x0]) (fun (r : Bool) => .bool r))) (fun (r : Bool) => .bool r) p1) (hm : m_slices_IndexFunc_blocking_test_blocking_test p0 p1 = some r) :
    Calls Tryz.prog 76 #[.slice a1 p0.length c1, vp1] s.w (RetS No s fun v s' => v = .int .i64 r) := by
 unfold m_slices_IndexFunc_blocking_test_blocking_test at hm
 obtain ⟨N, hN, hNb⟩ := s.fresh
 have m0 : Mv (Up N No) s s := Mv.refl _ _
 refine E.entry Tryz.func76 R Tryz.ntmps76 R R (ER (L.as Y R R (LN (E.seq (ER (L.mv Y R R (L.len sl112 Y R R (L.mv Y R R (LN (E.block ?_))))))))))
 obtain ⟨o10, eo10, hm⟩ := bindS hm
 refine E.cut (x := .exit 0) (fun e w => ∃ (s14 : Sig) (u13 : Unit), o10 = .inl u13 ∧ Mv (Up N No) s s14 ∧ e = [] ∧ w = s14.w) ?_ ?_
 ·rintro _ _ ⟨s14, u13, rfl, m0, rfl, rfl⟩
  dsimp only at hm
  refine X.blkE (X.seqN (ER (L.as Y R R (LN (E.ret ?_)))))
  obtain rfl := oi hm
  exact X.rt (.inl R) Tryz.results76 (Rs.tmp R Rs.nil) R ⟨_, (s14).ren N (fun _ => 0), R, R, m0.ren hNb, R⟩
 intro K15
 refine E.cut (x := .ret) (fun e w => ∃ (s17 : Sig) (u16 : Int), o10 = .inr (u16) ∧ Mv (Up N No) s s17 ∧ e = [(4, .int .i64 u16)] ∧ w = s17.w) ?_ ?_
 ·rintro _ _ ⟨s17, u16, rfl, m0, rfl, rfl⟩
  dsimp only at hm
  refine X.blkR (X.seqR ?_)
  obtain rfl := oi hm
  exact X.rt (.inl R) Tryz.results76 (Rs.tmp R Rs.nil) R ⟨_, (s17).ren N (fun _ => 0), R, R, m0.ren hNb, R⟩
 intro K18
 refine E.iter (fun (st10 : Int) (e : List (Nat × Value)) (w : World) => ∃ (s12 : Sig), Mv (Up N No) s s12 ∧ RdL (rP qI (rF1 Tryz.prog (fun (x0 : Int) => [.int .i64 x0]) (fun (r : Bool) => .bool r))) s12 a1 c1 p0 ∧ FW1 Tryz.prog s12 vp1 (rP qI (rF1 Tryz.prog (fun (x0 : Int) => [.int .i64 x0]) (fun (r : Bool) => .bool r))) (fun (r : Bool) => .bool r) p1 ∧ e = [(8, .int .i64 st10), (7, .int .i64 (p0.length : Int)), (0, .slice a1 p0.length c1), (1, vp1)] ∧ w = s12.w) eo10 ⟨s, m0, h1, hp1, R, R⟩ (Sub.rf R) ?_
 rintro st10 res10 hm ih10 ho10 _ _ ⟨s12, m0, h1, hp1, rfl, rfl⟩
 unfold m_slices_IndexFunc_blocking_test_blocking_test_l1 at hm
 refine ER (L.bi Y R R R R (LN (E.seq ?_)))
 rcases ifS hm with ⟨hc, hm⟩ | ⟨hc, hm⟩
 ·refine E.cT R hc (E.skip (X.seqN (E.seq (E.block (ER (L.mv Y R R (L.as Y R R (LN (ER (L.mv Y R R (L.mv Y R R (L.mv Y R R ?_))))))))))))
  obtain ⟨x19, ex19, hm⟩ := bindS hm
  refine L.ix (r := (rP qI (rF1 Tryz.prog (fun (x0 : Int) => [.int .i64 x0]) (fun (r : Bool) => .bool r)))) sl112 h1 Y R R ex19 R fun b20 o20 cc20 me20 rd20 => ?_
  obtain ⟨_, _, rfl, rfl, ⟨v21, rfl, h21⟩⟩ := rd20
  refine L.lg (j := 0) (cs := [.int .i64 x19.1, v21]) me20 ag111 Y R R R R R ?_
  obtain ⟨r22, er22, hm⟩ := bindS hm
  refine L.fw1 (cs := [.int .i64 x19.1, v21]) (y := x19) hp1 ⟨[.int .i64 x19.1], [v21], R, R, ⟨_, R, h21⟩⟩ R R Y R R er22 R fun s23 m24 => ?_
  replace m0 := m0.trans m24.no
  replace h1 := h1.mono m24.z
  replace hp1 := hp1.mono m24.z
  refine L.nil (X.seqN ?_)
  rcases ifS hm with ⟨hc, hm⟩ | ⟨hc, hm⟩
  ·refine E.cT R hc (ER (L.mv Y R R (L.as Y R R (LN (E.ret (X.blkR (X.seqR (X.seqR ?_))))))))
   have hx := ho10 _ (oi hm).symm
   exact X.sub (K18 _ _ ⟨s23, st10, hx.symm, m0, R, R⟩) (Sub.rf R)
  exact E.cF R hc (E.skip (X.blkN (X.seqN (E.reg (L.bi Y R R R R (L.mv Y R R (L.nil (X.sub (ih10 _ (oi hm).symm _ _ ⟨s23, m0, h1, hp1, R, R⟩) (Sub.rf R)))))))))
 refine E.cF R hc (E.exit (X.seqX (X.seqX ?_)))
 have hx := ho10 _ (oi hm).symm
 exact X.sub (K15 _ _ ⟨s12, (), hx.symm, m0, R, R⟩) Sub.nil

theorem bs112 : Bs Tryz.prog 112 111 2 [.int .i64 0, .nilFunc] := Bs.mk' Tryz.underlying112 (by kernel_rfl) (by kernel_rfl) rfl
theorem cf35 : Cf Tryz.prog 35 := Cf.mk Tryz.func35 (by kernel_rfl) (by kernel_rfl)
theorem cf71 : Cf Tryz.prog 71 := Cf.mk Tryz.func71 (by kernel_rfl) (by kernel_rfl)
theorem cf72 : Cf Tryz.prog 72 := Cf.mk Tryz.func72 (by kernel_rfl) (by kernel_rfl)
theorem cf73 : Cf Tryz.prog 73 := Cf.mk Tryz.func73 (by kernel_rfl) (by kernel_rfl)
theorem cf74 : Cf Tryz.prog 74 := Cf.mk Tryz.func74 (by kernel_rfl) (by kernel_rfl)
theorem cf75 : Cf Tryz.prog 75 := Cf.mk Tryz.func75 (by kernel_rfl) (by kernel_rfl)
theorem cf76 : Cf Tryz.prog 76 := Cf.mk Tryz.func76 (by kernel_rfl) (by kernel_rfl)
theorem cf77 : Cf Tryz.prog 77 := Cf.mk Tryz.func77 (by kernel_rfl) (by kernel_rfl)
theorem fa111_0 : FA Tryz.prog 111 0 0 := FA.mk Tryz.underlying111 rfl rfl ⟨1, by decide, by kernel_rfl⟩
theorem nag4 : NAg Tryz.prog 4 := NAg.mk' Tryz.underlying4 rfl (by kernel_rfl)
theorem pl111 : Pl Tryz.prog 111 [(0, 1), (1, 1)] [.int .i64 0, .nilFunc] := Pl.str Tryz.underlying111 (by kernel_rfl) (by kernel_rfl)
theorem sl55 : Sl Tryz.prog 55 4 1 := Sl.mk' Tryz.underlying55 (by kernel_rfl)
theorem zr4 : Zr Tryz.prog rB 4 1 false := Zr.mk' (v := .bool false) (by kernel_rfl) (by kernel_rfl) (by kernel_rfl) (fun _ => rfl)
theorem zz27 : (Tryz.prog.info? 27).bind (·.zero) = some (.slice none 0 0) := by kernel_rfl
theorem zz3 : (Tryz.prog.info? 3).bind (·.zero) = some (.int .i64 0) := by kernel_rfl
theorem fv75 {s : Sig} : FV1 Tryz.prog s (.func (.func 75) #[] #[]) (fun (x0 : Int) => [.int .i64 x0]) (fun r => .bool r) m_blocking_kinds_5 := ⟨75, #[], #[], rfl, cf75, fun x0 r hm s' hl => by have hh := m_blocking_kinds_5_c (s := s') hm; simpa using hh⟩
noncomputable def m_blocking_kinds_l3 (r8 : List Int) (r71 : List Int) (x89 : List Int) (st125 : Int × List Int) : Option ((Int × List Int) ⊕ (List Int)) :=
 if decide (st125.1 < (x89.length : Int)) then
  (m_slices_IndexFunc_blocking_test_blocking_test ([(1, (some (m_blocking_kinds_1 r8))), (2, (some (m_blocking_kinds_2 r8))), (3, (some (m_blocking_kinds_3 r71))), (5, (some (m_blocking_kinds_4 r71))), (4, (some m_blocking_kinds_5))] : List (Int × (Option (Int → Option Bool)))) (m_blocking_kinds_6 st125.1)).bind fun r137 =>
  (idx ([(1, (some (m_blocking_kinds_1 r8))), (2, (some (m_blocking_kinds_2 r8))), (3, (some (m_blocking_kinds_3 r71))), (5, (some (m_blocking_kinds_4 r71))), (4, (some m_blocking_kinds_5))] : List (Int × (Option (Int → Option Bool)))) r137).bind fun x145 =>
  (idx st125.2 st125.1).bind fun x151 =>
  (upd st125.2 st125.1 x145.1).bind fun x154 =>
  some (.inl (W (st125.1 + 1), x154))
 else
  some (.inr st125.2)
noncomputable def m_blocking_kinds_j1 (st65 : Int × List Int) (l159 : List Int) : Option ((Int × List Int) ⊕ (List Int)) :=
 some (.inl (W (st65.1 + 1), l159))
noncomputable def m_blocking_kinds_l2 (r8 : List Int) (o37 : List Bool) (st65 : Int × List Int) : Option ((Int × List Int) ⊕ (List Int)) :=
 if decide (st65.1 < (r8.length : Int)) then
  (idx r8 st65.1).bind fun x163 =>
  (if decide (x163 < 0) then
   (idx o37 st65.1).bind fun x175 =>
   some (!x175)
  else
   some false).bind fun b165 =>
  if b165 then
   (app st65.2 ([st65.1] : List Int)).bind fun x170 =>
   m_blocking_kinds_j1 st65 x170
  else
   m_blocking_kinds_j1 st65 st65.2
 else
  some (.inr st65.2)
noncomputable def m_blocking_kinds_l1 (p0 : AutT) (st37 : Int × List Bool) : Option ((Int × List Bool) ⊕ (List Bool)) :=
 if decide (st37.1 < (p0.2.2.2.length : Int)) then
  (idx p0.2.2.2 st37.1).bind fun x178 =>
  (idx st37.2 x178.1).bind fun x185 =>
  (upd st37.2 x178.1 true).bind fun x187 =>
  some (.inl (W (st37.1 + 1), x187))
 else
  some (.inr st37.2)
noncomputable def m_blocking_kinds (p0 : AutT) : Option (List Int) :=
 (m_blocking_spread p0 p0.2.2.1).bind fun r8 =>
 (mkL p0.2.1 false).bind fun x17 =>
 (iter (m_blocking_kinds_l1 p0) (0, x17)).bind fun o37 =>
 (iter (m_blocking_kinds_l2 r8 o37) (0, ([] : List Int))).bind fun o65 =>
 (m_blocking_spread p0 o65).bind fun r71 =>
 (mkL p0.2.1 (0 : Int)).bind fun x89 =>
 (iter (m_blocking_kinds_l3 r8 r71 x89) (0, x89)).bind fun o125 =>
 some o125
theorem m_blocking_kinds_c {s : Sig} {p0 : AutT} {a1 : Option Addr} {c1 : Nat} {a2 : Option Addr} {c2 : Nat} {a3 : Option Addr} {c3 : Nat} {u0 : Nat} {r : List Int} (h1 : RdL qI s a1 c1 p0.1) (h2 : RdL qI s a2 c2 p0.2.2.1) (h3 : RdL qT s a3 c3 p0.2.2.2) (hm : m_blocking_kinds p0 = some r) :
    Calls Tryz.prog 36 #[.agg #[.slice a1 p0.1.length c1, .int .i64 p0.2.1, .slice a2 p0.2.2.1.length c2, .slice a3 p0.2.2.2.length c3]] s.w (RetS No s fun v s' => ∃ (a4 : Option Addr) (c4 : Nat), v = .slice a4 r.length c4 ∧ RowT qI s' u0 3 a4 c4 r) := by
 unfold m_blocking_kinds at hm
 obtain ⟨N, hN, hNb⟩ := s.fresh
 have m0 : Mv (Up N No) s s := Mv.refl _ _
 refine E.entry Tryz.func36 R Tryz.ntmps36 R R (ER (L.box (N + 0) Y R R R fun b5 s6 m7 bx5 => ?_))
 replace h1 := h1.mono m7.z
 replace h2 := h2.mono m7.z
 replace h3 := h3.mono m7.z
 refine L.as Y R R (LN (ER (L.lg (j := 0) (cs := [.slice a1 p0.1.length c1, .int .i64 p0.2.1, .slice a2 p0.2.2.1.length c2, .slice a3 p0.2.2.2.length c3]) bx5.mem ag30 Y R R R R R (L.fa fa30_2 Y R R (L.ld (j := 2) bx5.mem nag27 Y R R R R ?_)))))
 obtain ⟨r8, er8, hm⟩ := bindS hm
 refine L.ca cf35 R R Y R (m_blocking_spread_c (s := s6) (p0 := p0) (p1 := p0.2.2.1) (u0 := 0) h1 h2 h3 h2 er8) R ?_
 rintro _ s9 m10 ⟨a11, c11, rfl, h11⟩
 refine L.al (N + 1) zz27 R Y R fun b12 s13 m14 bx12 => ?_
 refine L.st (c := [.slice a11 r8.length c11]) (cs' := #[.slice a11 r8.length c11]) bx12 nag27.sz Y R R R R R (nb R) R fun s15 m16 bx12 => ?_
 replace bx5 := ((bx5.mv m10 no_No).mv m14 no_No).mv m16 (tq R)
 refine LN (ER (L.fa fa30_1 Y R R (L.ld (j := 1) bx5.mem nag3 Y R R R R ?_)))
 obtain ⟨x17, ex17, hm⟩ := bindS hm
 refine L.mk (z := false) (N + 2) Tryz.underlying55 zr4 R Y R R ex17 R fun b18 s19 m20 h18 => ?_
 replace m0 := ((((m0.trans m7.no).trans m10.no).trans m14.no).trans (m16.one up)).trans m20.no
 replace bx5 := bx5.mv m20 no_No
 replace h1 := (((h1.mono m10.z).mono m14.z).mono (m16.le (tg0 hN))).mono m20.z
 replace h2 := (((h2.mono m10.z).mono m14.z).mono (m16.le (tg0 hN))).mono m20.z
 replace h3 := (((h3.mono m10.z).mono m14.z).mono (m16.le (tg0 hN))).mono m20.z
 replace bx12 := bx12.mv m20 no_No
 replace h11 := (((h11.p).mono m14.z).mono (m16.le (tg0 hN))).mono m20.z
 refine L.as Y R R (LN (E.seq (ER (L.fa fa30_3 Y R R (L.ld (j := 3) bx5.mem nag28 Y R R R R (L.len sl28 Y R R (L.mv Y R R (LN (E.block ?_)))))))))
 obtain ⟨o37, eo37, hm⟩ := bindS hm
 refine E.cut (x := .exit 0) (fun e w => ∃ (s40 : Sig), Mv (Up N No) s s40 ∧ RowT rB s40 (N + 2) 4 (some ⟨b18, 0, none⟩) x17.length o37 ∧ RdL qI s40 a1 c1 p0.1 ∧ RdL qI s40 a2 c2 p0.2.2.1 ∧ RdL qT s40 a3 c3 p0.2.2.2 ∧ RdL qI s40 a11 c11 r8 ∧ Bx s40 (N + 0) b5 #[.slice a1 p0.1.length c1, .int .i64 p0.2.1, .slice a2 p0.2.2.1.length c2, .slice a3 p0.2.2.2.length c3] 30 ∧ Bx s40 (N + 1) b12 #[.slice a11 r8.length c11] 27 ∧ e = [(4, .slice (some ⟨b18, 0, none⟩) o37.length x17.length), (3, .pointer (some ⟨b12, 0, none⟩)), (1, .pointer (some ⟨b5, 0, none⟩))] ∧ w = s40.w) ?_ ?_
 ·rintro _ _ ⟨s40, m0, h18, h1, h2, h3, h11, bx5, bx12, rfl, rfl⟩
  refine X.blkE (X.seqN (ER (L.as Y R R (LN (E.seq (ER (L.ld (j := 0) bx12.mem nag27 Y R R R R (L.len sl27 Y R R (L.mv Y R R (LN (E.block ?_)))))))))))
  obtain ⟨o65, eo65, hm⟩ := bindS hm
  refine E.cut (x := .exit 2) (fun e w => ∃ (s69 : Sig) (a67 : Option Addr) (c67 : Nat), Mv (Up N No) s s69 ∧ RowT qI s69 (N + 4) 3 a67 c67 o65 ∧ RdL qI s69 a1 c1 p0.1 ∧ RdL qI s69 a2 c2 p0.2.2.1 ∧ RdL qT s69 a3 c3 p0.2.2.2 ∧ RdL qI s69 a11 c11 r8 ∧ Bx s69 (N + 0) b5 #[.slice a1 p0.1.length c1, .int .i64 p0.2.1, .slice a2 p0.2.2.1.length c2, .slice a3 p0.2.2.2.length c3] 30 ∧ Bx s69 (N + 1) b12 #[.slice a11 r8.length c11] 27 ∧ e = [(7, .slice a67 o65.length c67), (3, .pointer (some ⟨b12, 0, none⟩)), (1, .pointer (some ⟨b5, 0, none⟩))] ∧ w = s69.w) ?_ ?_
  ·rintro _ _ ⟨s69, a67, c67, m0, h67, h1, h2, h3, h11, bx5, bx12, rfl, rfl⟩
   refine X.blkE (X.seqN (ER (L.lg (j := 0) (cs := [.slice a1 p0.1.length c1, .int .i64 p0.2.1, .slice a2 p0.2.2.1.length c2, .slice a3 p0.2.2.2.length c3]) bx5.mem ag30 Y R R R R R (L.mv Y R R ?_))))
   have m70 := Sig.fz_mv (N + 4) s69
   replace h67 := h67.fz (tgn hN)
   replace h1 := h1.mono (m70.le (tg0 hN))
   replace h2 := h2.mono (m70.le (tg0 hN))
   replace h3 := h3.mono (m70.le (tg0 hN))
   refine L.toR (s' := (Sig.fz (N + 4) s69)) R ?_
   obtain ⟨r71, er71, hm⟩ := bindS hm
   refine L.ca cf35 R R Y R (m_blocking_spread_c (s := (Sig.fz (N + 4) s69)) (p0 := p0) (p1 := o65) (u0 := 0) h1 h2 h3 h67 er71) R ?_
   rintro _ s72 m73 ⟨a74, c74, rfl, h74⟩
   refine L.al (N + 5) zz27 R Y R fun b75 s76 m77 bx75 => ?_
   refine L.st (c := [.slice a74 r71.length c74]) (cs' := #[.slice a74 r71.length c74]) bx75 nag27.sz Y R R R R R (nb R) R fun s78 m79 bx75 => ?_
   refine LN (E.seq (E.reg ?_))
   have m80 := Sig.fz_mv (N + 1) s78
   replace bx12 := ((((bx12.mv m70 (tq R)).mv m73 no_No).mv m77 no_No).mv m79 (tq R)).fz (tgn hN)
   replace h11 := ((((h11.mono (m70.le (tg0 hN))).mono m73.z).mono m77.z).mono (m79.le (tg0 hN))).mono (m80.le (tg0 hN))
   refine L.toR (s' := (Sig.fz (N + 1) s78)) R ?_
   have h81 : FV1 Tryz.prog (Sig.fz (N + 1) s78) (.func (.func 71) #[] #[.pointer (some ⟨b12, 0, none⟩)]) (fun (x0 : Int) => [.int .i64 x0]) (fun (r : Bool) => .bool r) (m_blocking_kinds_1 r8) := ⟨71, #[], #[.pointer (some ⟨b12, 0, none⟩)], rfl, cf71, fun x0 r hm s' hl => by have hh := m_blocking_kinds_1_c (s := s') (h11.mono hl) (bx12.le hl) hm; simpa using hh⟩
   refine L.mf Y R R R (L.bu (cs := [.int .i64 1, (.func (.func 71) #[] #[.pointer (some ⟨b12, 0, none⟩)])]) pl111 Y R R R ?_)
   have h82 : FV1 Tryz.prog (Sig.fz (N + 1) s78) (.func (.func 72) #[] #[.pointer (some ⟨b12, 0, none⟩)]) (fun (x0 : Int) => [.int .i64 x0]) (fun (r : Bool) => .bool r) (m_blocking_kinds_2 r8) := ⟨72, #[], #[.pointer (some ⟨b12, 0, none⟩)], rfl, cf72, fun x0 r hm s' hl => by have hh := m_blocking_kinds_2_c (s := s') (h11.mono hl) (bx12.le hl) hm; simpa using hh⟩
   refine L.mf Y R R R (L.bu (cs := [.int .i64 2, (.func (.func 72) #[] #[.pointer (some ⟨b12, 0, none⟩)])]) pl111 Y R R R ?_)
   have m83 := Sig.fz_mv (N + 5) (Sig.fz (N + 1) s78)
   replace bx75 := (bx75.mv m80 (tq R)).fz (tgn hN)
   replace h74 := ((((h74.p).mono m77.z).mono (m79.le (tg0 hN))).mono (m80.le (tg0 hN))).mono (m83.le (tg0 hN))
   refine L.toR (s' := (Sig.fz (N + 5) (Sig.fz (N + 1) s78))) R ?_
   have h84 : FV1 Tryz.prog (Sig.fz (N + 5) (Sig.fz (N + 1) s78)) (.func (.func 73) #[] #[.pointer (some ⟨b75, 0, none⟩)]) (fun (x0 : Int) => [.int .i64 x0]) (fun (r : Bool) => .bool r) (m_blocking_kinds_3 r71) := ⟨73, #[], #[.pointer (some ⟨b75, 0, none⟩)], rfl, cf73, fun x0 r hm s' hl => by have hh := m_blocking_kinds_3_c (s := s') (h74.mono hl) (bx75.le hl) hm; simpa using hh⟩
   refine L.mf Y R R R (L.bu (cs := [.int .i64 3, (.func (.func 73) #[] #[.pointer (some ⟨b75, 0, none⟩)])]) pl111 Y R R R ?_)
   have h85 : FV1 Tryz.prog (Sig.fz (N + 5) (Sig.fz (N + 1) s78)) (.func (.func 74) #[] #[.pointer (some ⟨b75, 0, none⟩)]) (fun (x0 : Int) => [.int .i64 x0]) (fun (r : Bool) => .bool r) (m_blocking_kinds_4 r71) := ⟨74, #[], #[.pointer (some ⟨b75, 0, none⟩)], rfl, cf74, fun x0 r hm s' hl => by have hh := m_blocking_kinds_4_c (s := s') (h74.mono hl) (bx75.le hl) hm; simpa using hh⟩
   refine L.mf Y R R R (L.bu (cs := [.int .i64 5, (.func (.func 74) #[] #[.pointer (some ⟨b75, 0, none⟩)])]) pl111 Y R R R (L.bu (cs := [.int .i64 4, (.func (.func 75) #[] #[])]) pl111 Y R R R (L.bsE (k := 5) (cs := [.int .i64 1, (.func (.func 71) #[] #[.pointer (some ⟨b12, 0, none⟩)]), .int .i64 2, (.func (.func 72) #[] #[.pointer (some ⟨b12, 0, none⟩)]), .int .i64 3, (.func (.func 73) #[] #[.pointer (some ⟨b75, 0, none⟩)]), .int .i64 5, (.func (.func 74) #[] #[.pointer (some ⟨b75, 0, none⟩)]), .int .i64 4, (.func (.func 75) #[] #[])]) 0 bs112 (nb R) Y R R R R fun b86 s87 m88 bx86 => ?_)))
   replace bx5 := ((((((bx5.mv m70 (tq R)).mv m73 no_No).mv m77 no_No).mv m79 (tq R)).mv m80 (tq R)).mv m83 (tq R)).mv m88 no_No
   replace h81 := (h81.mono (m83.le (tg0 hN))).mono m88.z
   replace h82 := (h82.mono (m83.le (tg0 hN))).mono m88.z
   replace h84 := h84.mono m88.z
   replace h85 := h85.mono m88.z
   have h86 := Bx.rdL (r := (rP qI (rF1 Tryz.prog (fun (x0 : Int) => [.int .i64 x0]) (fun (r : Bool) => .bool r)))) (xs := ([(1, (some (m_blocking_kinds_1 r8))), (2, (some (m_blocking_kinds_2 r8))), (3, (some (m_blocking_kinds_3 r71))), (5, (some (m_blocking_kinds_4 r71))), (4, (some m_blocking_kinds_5))] : List (Int × (Option (Int → Option Bool))))) bx86 ⟨[.int .i64 1, (.func (.func 71) #[] #[.pointer (some ⟨b12, 0, none⟩)])], _, R, ⟨[.int .i64 1], [(.func (.func 71) #[] #[.pointer (some ⟨b12, 0, none⟩)])], R, R, ⟨_, R, h81⟩⟩, ⟨[.int .i64 2, (.func (.func 72) #[] #[.pointer (some ⟨b12, 0, none⟩)])], _, R, ⟨[.int .i64 2], [(.func (.func 72) #[] #[.pointer (some ⟨b12, 0, none⟩)])], R, R, ⟨_, R, h82⟩⟩, ⟨[.int .i64 3, (.func (.func 73) #[] #[.pointer (some ⟨b75, 0, none⟩)])], _, R, ⟨[.int .i64 3], [(.func (.func 73) #[] #[.pointer (some ⟨b75, 0, none⟩)])], R, R, ⟨_, R, h84⟩⟩, ⟨[.int .i64 5, (.func (.func 74) #[] #[.pointer (some ⟨b75, 0, none⟩)])], _, R, ⟨[.int .i64 5], [(.func (.func 74) #[] #[.pointer (some ⟨b75, 0, none⟩)])], R, R, ⟨_, R, h85⟩⟩, ⟨[.int .i64 4, (.func (.func 75) #[] #[])], _, R, ⟨[.int .i64 4], [(.func (.func 75) #[] #[])], R, R, ⟨_, R, fv75⟩⟩, R⟩⟩⟩⟩⟩ (nb R)
   refine L.as Y R R (LN (ER (L.fa fa30_1 Y R R (L.ld (j := 1) bx5.mem nag3 Y R R R R ?_))))
   obtain ⟨x89, ex89, hm⟩ := bindS hm
   refine L.mk (z := (0 : Int)) (N + 6) Tryz.underlying27 zr3 R Y R R ex89 R fun b90 s91 m92 h90 => ?_
   replace m0 := (((((((m0.trans (m70.one up)).trans m73.no).trans m77.no).trans (m79.one up)).trans (m80.one up)).trans (m83.one up)).trans m88.no).trans m92.no
   replace h86 := h86.mono m92.z
   refine L.as Y R R (LN (E.seq (ER (L.mv Y R R (L.len sl27 Y R R (L.mv Y R R (LN (E.block ?_))))))))
   obtain ⟨o125, eo125, hm⟩ := bindS hm
   refine E.cut (x := .exit 4) (fun e w => ∃ (s128 : Sig), Mv (Up N No) s s128 ∧ RowT qI s128 (N + 6) 3 (some ⟨b90, 0, none⟩) x89.length o125 ∧ e = [(12, .slice (some ⟨b90, 0, none⟩) o125.length x89.length)] ∧ w = s128.w) ?_ ?_
   ·rintro _ _ ⟨s128, m0, h90, rfl, rfl⟩
    refine X.blkE (X.seqN (ER (L.mv Y R R (L.as Y R R (LN (E.ret ?_))))))
    obtain rfl := oi hm
    exact X.rt (.inl R) Tryz.results36 (Rs.tmp R Rs.nil) R ⟨_, (s128).ren N (fun k => cond (Nat.beq k 6) u0 (0)), R, R, m0.ren hNb, ⟨(some ⟨b90, 0, none⟩), x89.length, R, (h90.ren hN)⟩⟩
   intro K129
   refine E.iter (fun (st125 : Int × List Int) (e : List (Nat × Value)) (w : World) => ∃ (s127 : Sig), Mv (Up N No) s s127 ∧ RowT qI s127 (N + 6) 3 (some ⟨b90, 0, none⟩) x89.length st125.2 ∧ RdL (rP qI (rF1 Tryz.prog (fun (x0 : Int) => [.int .i64 x0]) (fun (r : Bool) => .bool r))) s127 (some ⟨b86, 0, none⟩) (([(1, (some (m_blocking_kinds_1 r8))), (2, (some (m_blocking_kinds_2 r8))), (3, (some (m_blocking_kinds_3 r71))), (5, (some (m_blocking_kinds_4 r71))), (4, (some m_blocking_kinds_5))] : List (Int × (Option (Int → Option Bool)))).length) ([(1, (some (m_blocking_kinds_1 r8))), (2, (some (m_blocking_kinds_2 r8))), (3, (some (m_blocking_kinds_3 r71))), (5, (some (m_blocking_kinds_4 r71))), (4, (some m_blocking_kinds_5))] : List (Int × (Option (Int → Option Bool)))) ∧ e = [(73, .int .i64 st125.1), (72, .int .i64 (x89.length : Int)), (12, .slice (some ⟨b90, 0, none⟩) st125.2.length x89.length), (11, .slice (some ⟨b86, 0, none⟩) ([(1, (some (m_blocking_kinds_1 r8))), (2, (some (m_blocking_kinds_2 r8))), (3, (some (m_blocking_kinds_3 r71))), (5, (some (m_blocking_kinds_4 r71))), (4, (some m_blocking_kinds_5))] : List (Int × (Option (Int → Option Bool)))).length (([(1, (some (m_blocking_kinds_1 r8))), (2, (some (m_blocking_kinds_2 r8))), (3, (some (m_blocking_kinds_3 r71))), (5, (some (m_blocking_kinds_4 r71))), (4, (some m_blocking_kinds_5))] : List (Int × (Option (Int → Option Bool)))).length))] ∧ w = s127.w) eo125 ⟨s91, m0, h90, h86, R, R⟩ (Sub.rf R) ?_
   rintro st125 res125 hm ih125 ho125 _ _ ⟨s127, m0, h90, h86, rfl, rfl⟩
   unfold m_blocking_kinds_l3 at hm
   refine ER (L.bi Y R R R R (LN (E.seq ?_)))
   rcases ifS hm with ⟨hc, hm⟩ | ⟨hc, hm⟩
   ·refine E.cT R hc (E.skip (X.seqN (E.seq (E.block (ER (L.mv Y R R (L.al (N + 7) zz3 R Y R fun b130 s131 m132 bx130 => ?_)))))))
    refine L.st (c := [.int .i64 st125.1]) (cs' := #[.int .i64 st125.1]) bx130 nag3.sz Y R R R R R (nb R) R fun s133 m134 bx130 => ?_
    refine LN (ER (L.mv Y R R ?_))
    have m135 := Sig.fz_mv (N + 7) s133
    replace bx130 := bx130.fz (tgn hN)
    replace h86 := ((h86.mono m132.z).mono (m134.le (tg0 hN))).mono (m135.le (tg0 hN))
    refine L.toR (s' := (Sig.fz (N + 7) s133)) R ?_
    have h136 : FW1 Tryz.prog (Sig.fz (N + 7) s133) (.func (.func 77) #[] #[.pointer (some ⟨b130, 0, none⟩)]) (rP qI (rF1 Tryz.prog (fun (x0 : Int) => [.int .i64 x0]) (fun (r : Bool) => .bool r))) (fun (r : Bool) => .bool r) (m_blocking_kinds_6 st125.1) := ⟨77, #[], #[.pointer (some ⟨b130, 0, none⟩)], rfl, cf77, fun x0 r hm s' hl cs hrd => by obtain ⟨_, _, rfl, rfl, ⟨v0, rfl, hv0⟩⟩ := hrd; have hh := m_blocking_kinds_6_c (s := s') hv0 (bx130.le hl) hm; simpa using hh⟩
    refine L.mf Y R R R ?_
    obtain ⟨r137, er137, hm⟩ := bindS hm
    refine L.ca cf76 R R Y R (m_slices_IndexFunc_blocking_test_blocking_test_c (s := (Sig.fz (N + 7) s133)) (p0 := ([(1, (some (m_blocking_kinds_1 r8))), (2, (some (m_blocking_kinds_2 r8))), (3, (some (m_blocking_kinds_3 r71))), (5, (some (m_blocking_kinds_4 r71))), (4, (some m_blocking_kinds_5))] : List (Int × (Option (Int → Option Bool))))) (p1 := (m_blocking_kinds_6 st125.1)) h86 h136 er137) R ?_
    rintro _ s138 m139 rfl
    replace m0 := (((m0.trans m132.no).trans (m134.one up)).trans (m135.one up)).trans m139.no
    replace h86 := h86.mono m139.z
    replace h90 := (((h90.mv m132 no_No no_No).mv m134 (tq R) (tg0 hN)).mv m135 (tq R) (tg0 hN)).mv m139 no_No no_No
    replace bx130 := bx130.mv m139 no_No
    refine L.as Y R R (L.nil (X.seqN ?_))
    obtain ⟨x145, ex145, hm⟩ := bindS hm
    obtain ⟨x151, ex151, hm⟩ := bindS hm
    obtain ⟨x154, ex154, hm⟩ := bindS hm
    have elx154 := upd_len ex154
    refine E.draw [[], [], [], [], [2, 3], [2, 3, 4], [2, 3, 4, 5], [0, 1, 2, 3, 4, 5, 6], [0, 1, 2, 3, 4, 5, 6, 7]] (fun D e sx => Mv (One (N + 6)) s138 sx ∧ Sub [(14, .int .i64 r137), (13, .pointer (some ⟨b130, 0, none⟩)), (73, .int .i64 st125.1), (72, .int .i64 (x89.length : Int)), (12, .slice (some ⟨b90, 0, none⟩) st125.2.length x89.length), (11, .slice (some ⟨b86, 0, none⟩) ([(1, (some (m_blocking_kinds_1 r8))), (2, (some (m_blocking_kinds_2 r8))), (3, (some (m_blocking_kinds_3 r71))), (5, (some (m_blocking_kinds_4 r71))), (4, (some m_blocking_kinds_5))] : List (Int × (Option (Int → Option Bool)))).length (([(1, (some (m_blocking_kinds_1 r8))), (2, (some (m_blocking_kinds_2 r8))), (3, (some (m_blocking_kinds_3 r71))), (5, (some (m_blocking_kinds_4 r71))), (4, (some m_blocking_kinds_5))] : List (Int × (Option (Int → Option Bool)))).length))] e ∧ AllP [G D e 0 79 (.slice (some ⟨b90, 0, none⟩) st125.2.length x89.length), G D e 1 80 (.int .i64 st125.1), G D e 2 81 (.slice (some ⟨b86, 0, none⟩) ([(1, (some (m_blocking_kinds_1 r8))), (2, (some (m_blocking_kinds_2 r8))), (3, (some (m_blocking_kinds_3 r71))), (5, (some (m_blocking_kinds_4 r71))), (4, (some m_blocking_kinds_5))] : List (Int × (Option (Int → Option Bool)))).length (([(1, (some (m_blocking_kinds_1 r8))), (2, (some (m_blocking_kinds_2 r8))), (3, (some (m_blocking_kinds_3 r71))), (5, (some (m_blocking_kinds_4 r71))), (4, (some m_blocking_kinds_5))] : List (Int × (Option (Int → Option Bool)))).length)), G D e 3 82 (.int .i64 r137), D 4 = true → (∃ (b146 : Nat) (o146 : Nat) (v147 : Value), Env.get e 83 = some (.pointer (some ⟨b146, o146, none⟩)) ∧ Mem sx 0 b146 o146 [.int .i64 x145.1, v147] ∧ FO1 Tryz.prog sx v147 (fun (x0 : Int) => [.int .i64 x0]) (fun (r : Bool) => .bool r) x145.2), D 5 = true → ∀ (b146 : Nat) (o146 : Nat) (v147 : Value), Env.get e 83 = some (.pointer (some ⟨b146, o146, none⟩)) → (Env.get e 84 = some (.pointer (some ⟨b146, o146 + 0, none⟩))), G D e 6 85 (.int .i64 x145.1), D 7 = true → (∃ (b152 : Nat) (o152 : Nat), Env.get e 86 = some (.pointer (some ⟨b152, o152, none⟩)) ∧ Spot (some ⟨b90, 0, none⟩) qI.sz (st125.1).toNat b152 o152), D 8 = false → RowT qI sx (N + 6) 3 (some ⟨b90, 0, none⟩) x89.length st125.2, D 8 = true → RowT qI sx (N + 6) 3 (some ⟨b90, 0, none⟩) x89.length x154, D 7 = true → D 8 = false → ∀ (b152 : Nat) (o152 : Nat), Env.get e 86 = some (.pointer (some ⟨b152, o152, none⟩)) → Mem sx (N + 6) b152 o152 [.int .i64 x151]]) (by kernel_rfl) (by kernel_rfl) (by kernel_rfl) ?_ ?_ ?_
    ·intro sz mz
     exact ⟨mz.no, (Sub.rf R), nofun, nofun, nofun, nofun, nofun, nofun, nofun, nofun, fun _ => h90.mv mz no_No no_No, nofun, nofun, trivial⟩
    ·refine ⟨?_, ?_, ?_, ?_, ?_, ?_, ?_, ?_, ?_, trivial⟩
     ·rintro D e s140 ⟨im, ib, i⟩ hk hf ha
      have kn := K1 (ib 12 _ R)
      exact kn.g (L.mv Y R R (L.nil (X.dk kn ⟨im, Sub.fresh ib R, i.u 0 (fun _ => R)⟩)))
     ·rintro D e s141 ⟨im, ib, i⟩ hk hf ha
      have bx130 := bx130.mv im (tg0 hN)
      have kn := K1 (ib 13 _ R)
      exact kn.g (L.ld (j := 0) bx130.mem nag3 Y R R R R (L.nil (X.dk kn ⟨im, Sub.fresh ib R, i.u 1 (fun _ => R)⟩)))
     ·rintro D e s142 ⟨im, ib, i⟩ hk hf ha
      have kn := K1 (ib 11 _ R)
      exact kn.g (L.mv Y R R (L.nil (X.dk kn ⟨im, Sub.fresh ib R, i.u 2 (fun _ => R)⟩)))
     ·rintro D e s143 ⟨im, ib, i⟩ hk hf ha
      have kn := K1 (ib 14 _ R)
      exact kn.g (L.mv Y R R (L.nil (X.dk kn ⟨im, Sub.fresh ib R, i.u 3 (fun _ => R)⟩)))
     ·rintro D e s144 ⟨im, ib, i⟩ hk hf ha
      have h86 := h86.mono (im.le (tg0 hN))
      have kn := K2 ((i.p 2) (ha.at 2 R)) ((i.p 3) (ha.at 3 R))
      refine kn.g (L.ix (r := (rP qI (rF1 Tryz.prog (fun (x0 : Int) => [.int .i64 x0]) (fun (r : Bool) => .bool r)))) sl112 h86 Y R R ex145 R fun b146 o146 cc146 me146 rd146 => ?_)
      obtain ⟨_, _, rfl, rfl, ⟨v147, rfl, h147⟩⟩ := rd146
      exact L.nil (X.dk kn ⟨im, Sub.fresh ib R, (i.u 4 (fun _ => ⟨b146, o146, v147, R, me146, h147⟩)).u 5 (fun z => Bool.noConfusion ((hf 5 (nb R) R).symm.trans z))⟩)
     ·rintro D e s148 ⟨im, ib, i⟩ hk hf ha
      obtain ⟨b146, o146, v147, g4_, me146, h147⟩ := (i.p 4) (ha.at 4 R)
      have kn := K1 g4_
      exact kn.g (L.fa fa111_0 Y R R (L.nil (X.dk kn ⟨im, Sub.fresh ib R, i.u 5 (fun _ _ _ _ q4 => by cases g4_.symm.trans q4; exact R)⟩)))
     ·rintro D e s149 ⟨im, ib, i⟩ hk hf ha
      obtain ⟨b146, o146, v147, g4_, me146, h147⟩ := (i.p 4) (ha.at 4 R)
      have g5_ := (i.p 5) (ha.at 5 R) b146 o146 v147 g4_
      have kn := K1 g5_
      exact kn.g (L.ld (j := 0) me146 nag3 Y R R R R (L.nil (X.dk kn ⟨im, Sub.fresh ib R, i.u 6 (fun _ => R)⟩)))
     ·rintro D e s150 ⟨im, ib, i⟩ hk hf ha
      obtain h90 := (i.p 8) (hf 8 (nb R) R)
      have kn := K2 ((i.p 0) (ha.at 0 R)) ((i.p 1) (ha.at 1 R))
      refine kn.g (L.ir (r := qI) sl27 h90 Y R R ex151 R fun b152 o152 cc152 me152 rd152 sp152 => ?_)
      obtain rfl := rd152
      exact L.nil (X.dk kn ⟨im, Sub.fresh ib R, (i.u 7 (fun _ => ⟨b152, o152, R, sp152⟩)).u 10 (fun _ _ _ _ q7 => by cases (show some (.pointer (some ⟨b152, o152, none⟩) : Value) = some _ from q7); exact me152)⟩)
     rintro D e s153 ⟨im, ib, i⟩ hk hf ha
     obtain ⟨b152, o152, g7_, sp152⟩ := (i.p 7) (ha.at 7 R)
     obtain h90 := (i.p 8) hk
     have kn := K2 g7_ ((i.p 6) (ha.at 6 R))
     exact kn.g (L.su (fo := 0) (c := [.int .i64 x145.1]) (z := x145.1) h90 sp152 ex151 ex154 (tgp hN) nag3.sz Y R R R R R R (fun c0 hc0 => by obtain rfl := hc0; exact R) fun s155 m156 h90 => L.nil (X.dn kn ⟨im.trans (m156.one R), ib, ((((i.u 4 (fun z => let ⟨b146, o146, v147, q, me146, h147⟩ := (i.p 4) z; ⟨b146, o146, v147, q, (me146.mv m156 (tg0 hN)), (h147.mono (m156.le (tg0 hN)))⟩)).u 7 (fun z => let ⟨b152, o152, q, sp152⟩ := (i.p 7) z; ⟨b152, o152, q, sp152⟩)).u 8 (fun z => Bool.noConfusion (show true = false from z))).u 9 (fun _ => by exact h90)).u 10 (fun _ y8 => Bool.noConfusion (show true = false from y8))⟩))
    rintro D e s157 hD ⟨im, ib, i⟩
    obtain h90 := (i.p 9) (hD 8 R)
    have h86 := h86.mono (im.le (tg0 hN))
    have m0 := m0.trans (im.one up)
    refine X.sub (e' := [(73, .int .i64 st125.1), (72, .int .i64 (x89.length : Int)), (12, .slice (some ⟨b90, 0, none⟩) st125.2.length x89.length), (11, .slice (some ⟨b86, 0, none⟩) ([(1, (some (m_blocking_kinds_1 r8))), (2, (some (m_blocking_kinds_2 r8))), (3, (some (m_blocking_kinds_3 r71))), (5, (some (m_blocking_kinds_4 r71))), (4, (some m_blocking_kinds_5))] : List (Int × (Option (Int → Option Bool)))).length (([(1, (some (m_blocking_kinds_1 r8))), (2, (some (m_blocking_kinds_2 r8))), (3, (some (m_blocking_kinds_3 r71))), (5, (some (m_blocking_kinds_4 r71))), (4, (some m_blocking_kinds_5))] : List (Int × (Option (Int → Option Bool)))).length))]) ?_ (Sub.cons (ib 73 _ R) (Sub.cons (ib 72 _ R) (Sub.cons (ib 12 _ R) (Sub.cons (ib 11 _ R) Sub.nil))))
    exact X.reval (d := 12) R elx154 (X.blkN (X.seqN (E.reg (L.bi Y R R R R (L.mv Y R R (L.nil (X.sub (ih125 _ (oi hm).symm _ _ ⟨s157, m0, h90, h86, R, R⟩) (Sub.rf R))))))))
   refine E.cF R hc (E.exit (X.seqX (X.seqX ?_)))
   have hx := ho125 _ (oi hm).symm
   subst hx
   exact X.sub (K129 _ _ ⟨s127, m0, h90, R, R⟩) (Sub.rf R)
  intro K158
  refine E.iter (fun (st65 : Int × List Int) (e : List (Nat × Value)) (w : World) => ∃ (s68 : Sig) (a43 : Option Addr) (c43 : Nat), Mv (Up N No) s s68 ∧ RdL qI s68 a11 c11 r8 ∧ RowT qI s68 (N + 4) 3 a43 c43 st65.2 ∧ RowT rB s68 (N + 2) 4 (some ⟨b18, 0, none⟩) x17.length o37 ∧ RdL qI s68 a1 c1 p0.1 ∧ RdL qI s68 a2 c2 p0.2.2.1 ∧ RdL qT s68 a3 c3 p0.2.2.2 ∧ Bx s68 (N + 0) b5 #[.slice a1 p0.1.length c1, .int .i64 p0.2.1, .slice a2 p0.2.2.1.length c2, .slice a3 p0.2.2.2.length c3] 30 ∧ Bx s68 (N + 1) b12 #[.slice a11 r8.length c11] 27 ∧ e = [(36, .int .i64 st65.1), (35, .int .i64 (r8.length : Int)), (34, .slice a11 r8.length c11), (7, .slice a43 st65.2.length c43), (4, .slice (some ⟨b18, 0, none⟩) o37.length x17.length), (3, .pointer (some ⟨b12, 0, none⟩)), (1, .pointer (some ⟨b5, 0, none⟩))] ∧ w = s68.w) eo65 ⟨s40, none, 0, m0, h11, RowT.nil, h18, h1, h2, h3, bx5, bx12, R, R⟩ (Sub.rf R) ?_
  rintro st65 res65 hm ih65 ho65 _ _ ⟨s68, a43, c43, m0, h11, h43, h18, h1, h2, h3, bx5, bx12, rfl, rfl⟩
  unfold m_blocking_kinds_l2 at hm
  refine ER (L.bi Y R R R R (LN (E.seq ?_)))
  rcases ifS hm with ⟨hc, hm⟩ | ⟨hc, hm⟩
  ·refine E.cT R hc (E.skip (X.seqN (E.seqJ (fun e w => ∃ (s161 : Sig) (l159 : List Int) (a160 : Option Addr) (c160 : Nat), m_blocking_kinds_j1 st65 l159 = some res65 ∧ Mv (Up N No) s s161 ∧ RowT qI s161 (N + 4) 3 a160 c160 l159 ∧ RdL qI s161 a11 c11 r8 ∧ RowT rB s161 (N + 2) 4 (some ⟨b18, 0, none⟩) x17.length o37 ∧ RdL qI s161 a1 c1 p0.1 ∧ RdL qI s161 a2 c2 p0.2.2.1 ∧ RdL qT s161 a3 c3 p0.2.2.2 ∧ Bx s161 (N + 0) b5 #[.slice a1 p0.1.length c1, .int .i64 p0.2.1, .slice a2 p0.2.2.1.length c2, .slice a3 p0.2.2.2.length c3] 30 ∧ Bx s161 (N + 1) b12 #[.slice a11 r8.length c11] 27 ∧ e = [(7, .slice a160 l159.length c160), (36, .int .i64 st65.1), (35, .int .i64 (r8.length : Int)), (34, .slice a11 r8.length c11), (4, .slice (some ⟨b18, 0, none⟩) o37.length x17.length), (3, .pointer (some ⟨b12, 0, none⟩)), (1, .pointer (some ⟨b5, 0, none⟩))] ∧ w = s161.w) ?_ ?_)))
   ·rintro _ _ ⟨s161, l159, a160, c160, hm, m0, h160, h11, h18, h1, h2, h3, bx5, bx12, rfl, rfl⟩
    unfold m_blocking_kinds_j1 at hm
    exact E.reg (L.bi Y R R R R (L.mv Y R R (L.nil (X.sub (ih65 _ (oi hm).symm _ _ ⟨s161, a160, c160, m0, h11, h160, h18, h1, h2, h3, bx5, bx12, R, R⟩) (Sub.rf R)))))
   intro Jj162
   refine E.block (ER (L.mv Y R R ?_))
   obtain ⟨x163, ex163, hm⟩ := bindS hm
   refine L.ix (r := qI) sl27 h11 Y R R ex163 R fun b164 o164 cc164 me164 rd164 => ?_
   obtain rfl := rd164
   refine L.ld (j := 0) me164 nag3 Y R R R R (L.as Y R R (L.as Y R R (LN (ER (L.mv Y R R (L.bi Y R R R R (L.mv Y R R ?_)))))))
   obtain ⟨b165, eb165, hm⟩ := bindS hm
   refine L.cut 6 (fun e w => ∃ (v166 : Bool), b165 = v166 ∧ e = (49, .bool v166) :: [(8, .int .i64 st65.1), (36, .int .i64 st65.1), (35, .int .i64 (r8.length : Int)), (34, .slice a11 r8.length c11), (7, .slice a43 st65.2.length c43), (4, .slice (some ⟨b18, 0, none⟩) o37.length x17.length), (3, .pointer (some ⟨b12, 0, none⟩)), (1, .pointer (some ⟨b5, 0, none⟩))] ∧ w = s68.w) ?_ ?_
   ·rintro _ _ ⟨v166, rfl, rfl, rfl⟩
    refine L.nil (X.seqN ?_)
    rcases ifS hm with ⟨hc, hm⟩ | ⟨hc, hm⟩
    ·refine E.cT R hc (E.reg (L.mv Y R R (L.mv Y R R (L.bsE (k := 1) (cs := [.int .i64 st65.1]) 0 bs27 (nb R) Y R R R R fun b167 s168 m169 bx167 => ?_))))
     replace h43 := h43.mv m169 no_No no_No
     have h167 := Bx.rdL (r := qI) (xs := ([st65.1] : List Int)) bx167 ⟨[.int .i64 st65.1], _, R, R, R⟩ (nb R)
     obtain ⟨x170, ex170, hm⟩ := bindS hm
     refine L.ap (r := qI) Tryz.underlying27 el3 R (tgp hN) h43 h167.wk Y R R ex170 R fun a171 c171 s172 m173 h171 => ?_
     replace m0 := (m0.trans m169.no).trans (m173.one up)
     replace h11 := (h11.mono m169.z).mono (m173.le (tg0 hN))
     replace h18 := (h18.mv m169 no_No no_No).mv m173 (tq R) (tg0 hN)
     replace bx5 := (bx5.mv m169 no_No).mv m173 (tq R)
     replace h1 := (h1.mono m169.z).mono (m173.le (tg0 hN))
     replace h2 := (h2.mono m169.z).mono (m173.le (tg0 hN))
     replace h3 := (h3.mono m169.z).mono (m173.le (tg0 hN))
     replace bx12 := (bx12.mv m169 no_No).mv m173 (tq R)
     exact L.as Y R R (L.nil (X.blkN (X.sub (Jj162 _ _ ⟨s172, x170, a171, c171, hm, m0, h171, h11, h18, h1, h2, h3, bx5, bx12, R, R⟩) (Sub.rf R))))
    exact E.cF R hc (E.skip (X.blkN (X.sub (Jj162 _ _ ⟨s68, st65.2, a43, c43, hm, m0, h43, h11, h18, h1, h2, h3, bx5, bx12, R, R⟩) (Sub.rf R))))
   intro J174
   rcases ifS eb165 with ⟨hc, hm⟩ | ⟨hc, hm⟩
   ·refine L.know (d := 43) R hc (L.mv (Wt.mk R R) R R (L.mv (Wt.mk R R) R R ?_))
    obtain ⟨x175, ex175, hm⟩ := bindS hm
    refine L.ir (r := rB) sl55 h18 (Wt.mk R R) R R ex175 R fun b176 o176 cc176 me176 rd176 sp176 => ?_
    obtain rfl := rd176
    exact L.ld (j := 0) me176 nag4 (Wt.mk R R) R R R R (L.not (Wt.mk R R) R R (L.pkT Y R R R R (L.sb (J174 _ _ ⟨(!x175), (oi hm).symm, R, R⟩) R)))
   exact L.know (d := 43) R hc (L.skip R R R R (L.skip R R R R (L.skip R R R R (L.skip R R R R (L.skip R R R R (L.pkF Y R R R R (L.sb (J174 _ _ ⟨false, (oi hm).symm, R, R⟩) R)))))))
  refine E.cF R hc (E.exit (X.seqX (X.seqX ?_)))
  have hx := ho65 _ (oi hm).symm
  subst hx
  exact X.sub (K158 _ _ ⟨s68, a43, c43, m0, h43, h1, h2, h3, h11, bx5, bx12, R, R⟩) (Sub.rf R)
 intro K177
 refine E.iter (fun (st37 : Int × List Bool) (e : List (Nat × Value)) (w : World) => ∃ (s39 : Sig), Mv (Up N No) s s39 ∧ RdL qT s39 a3 c3 p0.2.2.2 ∧ RowT rB s39 (N + 2) 4 (some ⟨b18, 0, none⟩) x17.length st37.2 ∧ RdL qI s39 a1 c1 p0.1 ∧ RdL qI s39 a2 c2 p0.2.2.1 ∧ RdL qI s39 a11 c11 r8 ∧ Bx s39 (N + 0) b5 #[.slice a1 p0.1.length c1, .int .i64 p0.2.1, .slice a2 p0.2.2.1.length c2, .slice a3 p0.2.2.2.length c3] 30 ∧ Bx s39 (N + 1) b12 #[.slice a11 r8.length c11] 27 ∧ e = [(25, .int .i64 st37.1), (24, .int .i64 (p0.2.2.2.length : Int)), (23, .slice a3 p0.2.2.2.length c3), (4, .slice (some ⟨b18, 0, none⟩) st37.2.length x17.length), (3, .pointer (some ⟨b12, 0, none⟩)), (1, .pointer (some ⟨b5, 0, none⟩))] ∧ w = s39.w) eo37 ⟨s19, m0, h3, h18, h1, h2, h11, bx5, bx12, R, R⟩ (Sub.rf R) ?_
 rintro st37 res37 hm ih37 ho37 _ _ ⟨s39, m0, h3, h18, h1, h2, h11, bx5, bx12, rfl, rfl⟩
 unfold m_blocking_kinds_l1 at hm
 refine ER (L.bi Y R R R R (LN (E.seq ?_)))
 rcases ifS hm with ⟨hc, hm⟩ | ⟨hc, hm⟩
 ·refine E.cT R hc (E.skip (X.seqN (E.seq (E.block (E.seq (E.reg ?_))))))
  obtain ⟨x178, ex178, hm⟩ := bindS hm
  refine L.ix (r := qT) sl28 h3 Y R R ex178 R fun b179 o179 cc179 me179 rd179 => ?_
  obtain ⟨_, _, rfl, rfl, ⟨_, _, rfl, rfl, rfl⟩⟩ := rd179
  refine L.lg (j := 0) (cs := [.int .i64 x178.1, .int .i64 x178.2.1, .int .i64 x178.2.2]) me179 ag62 Y R R R R R (L.al (N + 3) zz62 R Y R fun b180 s181 m182 bx180 => ?_)
  refine L.st (c := [.int .i64 x178.1, .int .i64 x178.2.1, .int .i64 x178.2.2]) (cs' := #[.int .i64 x178.1, .int .i64 x178.2.1, .int .i64 x178.2.2]) bx180 ag62.sz Y R R R R R (nb R) R fun s183 m184 bx180 => ?_
  replace h18 := (h18.mv m182 no_No no_No).mv m184 (tq R) (tg0 hN)
  refine LN (E.reg (L.mv Y R R (L.fa fa62_0 Y R R (L.ld (j := 0) bx180.mem nag3 Y R R R R ?_))))
  obtain ⟨x185, ex185, hm⟩ := bindS hm
  refine L.ir (r := rB) sl55 h18 Y R R ex185 R fun b186 o186 cc186 me186 rd186 sp186 => ?_
  obtain rfl := rd186
  obtain ⟨x187, ex187, hm⟩ := bindS hm
  have elx187 := upd_len ex187
  refine L.su (fo := 0) (c := [.bool true]) (z := true) h18 sp186 ex185 ex187 (tgp hN) nag4.sz Y R R R R R R (fun c0 hc0 => by obtain rfl := hc0; exact R) fun s188 m189 h18 => ?_
  replace m0 := ((m0.trans m182.no).trans (m184.one up)).trans (m189.one up)
  replace h3 := ((h3.mono m182.z).mono (m184.le (tg0 hN))).mono (m189.le (tg0 hN))
  replace bx5 := ((bx5.mv m182 no_No).mv m184 (tq R)).mv m189 (tq R)
  replace h1 := ((h1.mono m182.z).mono (m184.le (tg0 hN))).mono (m189.le (tg0 hN))
  replace h2 := ((h2.mono m182.z).mono (m184.le (tg0 hN))).mono (m189.le (tg0 hN))
  replace bx12 := ((bx12.mv m182 no_No).mv m184 (tq R)).mv m189 (tq R)
  replace h11 := ((h11.mono m182.z).mono (m184.le (tg0 hN))).mono (m189.le (tg0 hN))
  exact L.reval (d := 4) R elx187 (L.nil (X.blkN (X.seqN (E.reg (L.bi Y R R R R (L.mv Y R R (L.nil (X.sub (ih37 _ (oi hm).symm _ _ ⟨s188, m0, h3, h18, h1, h2, h11, bx5, bx12, R, R⟩) (Sub.rf R)))))))))
 refine E.cF R hc (E.exit (X.seqX (X.seqX ?_)))
 have hx := ho37 _ (oi hm).symm
 subst hx
 exact X.sub (K177 _ _ ⟨s39, m0, h18, h1, h2, h3, h11, bx5, bx12, R, R⟩) (Sub.rf R)

theorem cf16 : Cf Tryz.prog 16 := Cf.mk Tryz.func16 (by kernel_rfl) (by kernel_rfl)
theorem cf36 : Cf Tryz.prog 36 := Cf.mk Tryz.func36 (by kernel_rfl) (by kernel_rfl)
noncomputable def m_blocking_Kinds (p0 : AutT) : Option (List Int × Int) :=
 (m_automaton_Check p0).bind fun r8 =>
 if (r8 != 0) then
  some (([] : List Int), r8)
 else
  (m_blocking_kinds p0).bind fun r11 =>
  some (r11, 0)
theorem m_blocking_Kinds_c {s : Sig} {p0 : AutT} {a1 : Option Addr} {c1 : Nat} {a2 : Option Addr} {c2 : Nat} {a3 : Option Addr} {c3 : Nat} {u0 : Nat} {r : List Int × Int} (h1 : RdL qI s a1 c1 p0.1) (h2 : RdL qI s a2 c2 p0.2.2.1) (h3 : RdL qT s a3 c3 p0.2.2.2) (hm : m_blocking_Kinds p0 = some r) :
    Calls Tryz.prog 17 #[.agg #[.slice a1 p0.1.length c1, .int .i64 p0.2.1, .slice a2 p0.2.2.1.length c2, .slice a3 p0.2.2.2.length c3]] s.w (RetS No s fun v s' => ∃ (a4 : Option Addr) (c4 : Nat), v = .tuple #[.slice a4 r.1.length c4, .int .i64 r.2] ∧ RowT qI s' u0 3 a4 c4 r.1) := by
 unfold m_blocking_Kinds at hm
 obtain ⟨N, hN, hNb⟩ := s.fresh
 have m0 : Mv (Up N No) s s := Mv.refl _ _
 refine E.entry Tryz.func17 R Tryz.ntmps17 R R (ER (L.box (N + 0) Y R R R fun b5 s6 m7 bx5 => ?_))
 replace h1 := h1.mono m7.z
 replace h2 := h2.mono m7.z
 replace h3 := h3.mono m7.z
 refine L.as Y R R (L.as Y R R (LN (E.seq (ER (L.lg (j := 0) (cs := [.slice a1 p0.1.length c1, .int .i64 p0.2.1, .slice a2 p0.2.2.1.length c2, .slice a3 p0.2.2.2.length c3]) bx5.mem ag30 Y R R R R R ?_)))))
 obtain ⟨r8, er8, hm⟩ := bindS hm
 refine L.ca cf16 R R Y R (m_automaton_Check_c (s := s6) (p0 := p0) h1 h2 h3 er8) R ?_
 rintro _ s9 m10 rfl
 replace m0 := (m0.trans m7.no).trans m10.no
 replace bx5 := bx5.mv m10 no_No
 replace h1 := h1.mono m10.z
 replace h2 := h2.mono m10.z
 replace h3 := h3.mono m10.z
 refine L.as Y R R (LN (ER (L.mv Y R R (L.bi Y R R R R (L.nil (X.seqN ?_))))))
 rcases ifS hm with ⟨hc, hm⟩ | ⟨hc, hm⟩
 ·refine E.cT R hc (ER (L.mv Y R R (L.as Y R R (L.as Y R R (LN (E.ret (X.seqR ?_)))))))
  obtain rfl := oi hm
  exact X.rt (.inl R) Tryz.results17 (Rs.tmp R (Rs.tmp R Rs.nil)) R ⟨_, (s9).ren N (fun _ => 0), R, R, m0.ren hNb, ⟨none, 0, R, RowT.nil⟩⟩
 refine E.cF R hc (E.skip (X.seqN (ER (L.lg (j := 0) (cs := [.slice a1 p0.1.length c1, .int .i64 p0.2.1, .slice a2 p0.2.2.1.length c2, .slice a3 p0.2.2.2.length c3]) bx5.mem ag30 Y R R R R R ?_))))
 obtain ⟨r11, er11, hm⟩ := bindS hm
 refine L.ca cf36 R R Y R (m_blocking_kinds_c (s := s9) (p0 := p0) (u0 := (N + 1)) h1 h2 h3 er11) R ?_
 rintro _ s12 m13 ⟨a14, c14, rfl, h14⟩
 replace m0 := m0.trans m13.no
 refine L.as Y R R (L.as Y R R (LN (E.ret ?_)))
 obtain rfl := oi hm
 exact X.rt (.inl R) Tryz.results17 (Rs.tmp R (Rs.tmp R Rs.nil)) R ⟨_, (s12).ren N (fun k => cond (Nat.beq k 1) u0 (0)), R, R, m0.ren hNb, ⟨a14, c14, R, (h14.ren hN)⟩⟩

theorem sl37 : Sl Tryz.prog 37 30 4 := Sl.mk' Tryz.underlying37 (by kernel_rfl)
noncomputable def m_product_Check_l1 (p0 : List AutT) (st17 : Int) : Option (Int ⊕ (Unit ⊕ Int)) :=
 if decide (st17 < (p0.length : Int)) then
  (idx p0 st17).bind fun x26 =>
  (m_automaton_Check x26).bind fun r36 =>
  if (r36 != 0) then
   some (.inr (.inr (r36)))
  else
   some (.inl (W (st17 + 1)))
 else
  some (.inr (.inl ()))
noncomputable def m_product_Check (p0 : List AutT) : Option Int :=
 if decide ((p0.length : Int) > 12) then
  some 3
 else
  (iter (m_product_Check_l1 p0) 0).bind fun o17 =>
  match o17 with
  | .inl u20 =>
   some 0
  | .inr (u23) =>
   some u23
theorem m_product_Check_c {s : Sig} {p0 : List AutT} {a1 : Option Addr} {c1 : Nat} {r : Int} (h1 : RdL (rP (rL qI) (rP qI (rP (rL qI) (rL qT)))) s a1 c1 p0) (hm : m_product_Check p0 = some r) :
    Calls Tryz.prog 47 #[.slice a1 p0.length c1] s.w (RetS No s fun v s' => v = .int .i64 r) := by
 unfold m_product_Check at hm
 obtain ⟨N, hN, hNb⟩ := s.fresh
 have m0 : Mv (Up N No) s s := Mv.refl _ _
 refine E.entry Tryz.func47 R Tryz.ntmps47 R R (ER (L.as Y R R (LN (E.seq (ER (L.mv Y R R (L.len sl37 Y R R (L.bi Y R R R R (L.nil (X.seqN ?_))))))))))
 rcases ifS hm with ⟨hc, hm⟩ | ⟨hc, hm⟩
 ·refine E.cT R hc (ER (L.as Y R R (LN (E.ret (X.seqR ?_)))))
  obtain rfl := oi hm
  exact X.rt (.inl R) Tryz.results47 (Rs.tmp R Rs.nil) R ⟨_, (s).ren N (fun _ => 0), R, R, m0.ren hNb, R⟩
 refine E.cF R hc (E.skip (X.seqN (E.seq (ER (L.mv Y R R (L.len sl37 Y R R (L.mv Y R R (LN (E.block ?_)))))))))
 obtain ⟨o17, eo17, hm⟩ := bindS hm
 refine E.cut (x := .exit 0) (fun e w => ∃ (s21 : Sig) (u20 : Unit), o17 = .inl u20 ∧ Mv (Up N No) s s21 ∧ e = [] ∧ w = s21.w) ?_ ?_
 ·rintro _ _ ⟨s21, u20, rfl, m0, rfl, rfl⟩
  dsimp only at hm
  refine X.blkE (X.seqN (ER (L.as Y R R (LN (E.ret ?_)))))
  obtain rfl := oi hm
  exact X.rt (.inl R) Tryz.results47 (Rs.tmp R Rs.nil) R ⟨_, (s21).ren N (fun _ => 0), R, R, m0.ren hNb, R⟩
 intro K22
 refine E.cut (x := .ret) (fun e w => ∃ (s24 : Sig) (u23 : Int), o17 = .inr (u23) ∧ Mv (Up N No) s s24 ∧ e = [(2, .int .i64 u23)] ∧ w = s24.w) ?_ ?_
 ·rintro _ _ ⟨s24, u23, rfl, m0, rfl, rfl⟩
  dsimp only at hm
  refine X.blkR (X.seqR ?_)
  obtain rfl := oi hm
  exact X.rt (.inl R) Tryz.results47 (Rs.tmp R Rs.nil) R ⟨_, (s24).ren N (fun _ => 0), R, R, m0.ren hNb, R⟩
 intro K25
 refine E.iter (fun (st17 : Int) (e : List (Nat × Value)) (w : World) => ∃ (s19 : Sig), Mv (Up N No) s s19 ∧ RdL (rP (rL qI) (rP qI (rP (rL qI) (rL qT)))) s19 a1 c1 p0 ∧ e = [(11, .int .i64 st17), (10, .int .i64 (p0.length : Int)), (9, .slice a1 p0.length c1)] ∧ w = s19.w) eo17 ⟨s, m0, h1, R, R⟩ (Sub.rf R) ?_
 rintro st17 res17 hm ih17 ho17 _ _ ⟨s19, m0, h1, rfl, rfl⟩
 unfold m_product_Check_l1 at hm
 refine ER (L.bi Y R R R R (LN (E.seq ?_)))
 rcases ifS hm with ⟨hc, hm⟩ | ⟨hc, hm⟩
 ·refine E.cT R hc (E.skip (X.seqN (E.seq (E.block (E.seq (E.reg ?_))))))
  obtain ⟨x26, ex26, hm⟩ := bindS hm
  refine L.ix (r := (rP (rL qI) (rP qI (rP (rL qI) (rL qT))))) sl37 h1 Y R R ex26 R fun b27 o27 cc27 me27 rd27 => ?_
  obtain ⟨_, _, rfl, ⟨a28, c28, rfl, h28⟩, ⟨_, _, rfl, rfl, ⟨_, _, rfl, ⟨a29, c29, rfl, h29⟩, ⟨a30, c30, rfl, h30⟩⟩⟩⟩ := rd27
  refine L.lg (j := 0) (cs := [.slice a28 x26.1.length c28, .int .i64 x26.2.1, .slice a29 x26.2.2.1.length c29, .slice a30 x26.2.2.2.length c30]) me27 ag30 Y R R R R R (L.al (N + 0) zz30 R Y R fun b31 s32 m33 bx31 => ?_)
  refine L.st (c := [.slice a28 x26.1.length c28, .int .i64 x26.2.1, .slice a29 x26.2.2.1.length c29, .slice a30 x26.2.2.2.length c30]) (cs' := #[.slice a28 x26.1.length c28, .int .i64 x26.2.1, .slice a29 x26.2.2.1.length c29, .slice a30 x26.2.2.2.length c30]) bx31 ag30.sz Y R R R R R (nb R) R fun s34 m35 bx31 => ?_
  replace h28 := (h28.mono m33.z).mono (m35.le (tg0 hN))
  replace h29 := (h29.mono m33.z).mono (m35.le (tg0 hN))
  replace h30 := (h30.mono m33.z).mono (m35.le (tg0 hN))
  refine LN (ER (L.lg (j := 0) (cs := [.slice a28 x26.1.length c28, .int .i64 x26.2.1, .slice a29 x26.2.2.1.length c29, .slice a30 x26.2.2.2.length c30]) bx31.mem ag30 Y R R R R R ?_))
  obtain ⟨r36, er36, hm⟩ := bindS hm
  refine L.ca cf16 R R Y R (m_automaton_Check_c (s := s34) (p0 := x26) h28 h29 h30 er36) R ?_
  rintro _ s37 m38 rfl
  replace m0 := ((m0.trans m33.no).trans (m35.one up)).trans m38.no
  replace h1 := ((h1.mono m33.z).mono (m35.le (tg0 hN))).mono m38.z
  refine L.as Y R R (LN (ER (L.mv Y R R (L.bi Y R R R R (L.nil (X.seqN ?_))))))
  rcases ifS hm with ⟨hc, hm⟩ | ⟨hc, hm⟩
  ·refine E.cT R hc (ER (L.mv Y R R (L.as Y R R (LN (E.ret (X.blkR (X.seqR (X.seqR ?_))))))))
   have hx := ho17 _ (oi hm).symm
   exact X.sub (K25 _ _ ⟨s37, r36, hx.symm, m0, R, R⟩) (Sub.rf R)
  exact E.cF R hc (E.skip (X.blkN (X.seqN (E.reg (L.bi Y R R R R (L.mv Y R R (L.nil (X.sub (ih17 _ (oi hm).symm _ _ ⟨s37, m0, h1, R, R⟩) (Sub.rf R)))))))))
 refine E.cF R hc (E.exit (X.seqX (X.seqX ?_)))
 have hx := ho17 _ (oi hm).symm
 exact X.sub (K22 _ _ ⟨s19, (), hx.symm, m0, R, R⟩) Sub.nil

noncomputable def m_alphabet_merge_j4 (p2 : Bool → Bool → Option Bool) (st170 : List Int × List Int × List Int) (b177 : Bool) (b180 : Bool) (l183 : List Int) (l188 : List Int) (n190 : Int) : Option ((List Int × List Int × List Int) ⊕ (List Int)) :=
 (p2 b177 b180).bind fun r193 =>
 if r193 then
  (app st170.1 ([n190] : List Int)).bind fun x199 =>
  some (.inl (x199, l183, l188))
 else
  some (.inl (st170.1, l183, l188))
noncomputable def m_alphabet_merge_j3 (p2 : Bool → Bool → Option Bool) (st170 : List Int × List Int × List Int) (b177 : Bool) (b180 : Bool) (l183 : List Int) (n185 : Int) : Option ((List Int × List Int × List Int) ⊕ (List Int)) :=
 if b180 then
  (idx st170.2.2 0).bind fun x205 =>
  (slc st170.2.2 1 (st170.2.2.length : Int)).bind fun x210 =>
  m_alphabet_merge_j4 p2 st170 b177 b180 l183 x210 x205
 else
  m_alphabet_merge_j4 p2 st170 b177 b180 l183 st170.2.2 n185
noncomputable def m_alphabet_merge_j2 (p2 : Bool → Bool → Option Bool) (st170 : List Int × List Int × List Int) (b177 : Bool) (b180 : Bool) : Option ((List Int × List Int × List Int) ⊕ (List Int)) :=
 if b177 then
  (idx st170.2.1 0).bind fun x217 =>
  (slc st170.2.1 1 (st170.2.1.length : Int)).bind fun x222 =>
  m_alphabet_merge_j3 p2 st170 b177 b180 x222 x217
 else
  m_alphabet_merge_j3 p2 st170 b177 b180 st170.2.1 0
noncomputable def m_alphabet_merge_j1 (p2 : Bool → Bool → Option Bool) (st170 : List Int × List Int × List Int) (b177 : Bool) : Option ((List Int × List Int × List Int) ⊕ (List Int)) :=
 if decide ((st170.2.2.length : Int) > 0) then
  if ((st170.2.1.length : Int) == 0) then
   m_alphabet_merge_j2 p2 st170 b177 true
  else
   (idx st170.2.2 0).bind fun x250 =>
   (idx st170.2.1 0).bind fun x255 =>
   m_alphabet_merge_j2 p2 st170 b177 (decide (x250 ≤ x255))
 else
  m_alphabet_merge_j2 p2 st170 b177 false
noncomputable def m_alphabet_merge_l1 (p2 : Bool → Bool → Option Bool) (st170 : List Int × List Int × List Int) : Option ((List Int × List Int × List Int) ⊕ (List Int)) :=
 if ((decide ((st170.2.1.length : Int) > 0)) || (decide ((st170.2.2.length : Int) > 0))) then
  if decide ((st170.2.1.length : Int) > 0) then
   if ((st170.2.2.length : Int) == 0) then
    m_alphabet_merge_j1 p2 st170 true
   else
    (idx st170.2.1 0).bind fun x301 =>
    (idx st170.2.2 0).bind fun x306 =>
    m_alphabet_merge_j1 p2 st170 (decide (x301 ≤ x306))
  else
   m_alphabet_merge_j1 p2 st170 false
 else
  some (.inr st170.1)
noncomputable def m_alphabet_merge (p0 : List Int) (p1 : List Int) (p2 : Bool → Bool → Option Bool) : Option (List Int) :=
 (iter (m_alphabet_merge_l1 p2) (([] : List Int), p0, p1)).bind fun o170 =>
 some o170
abbrev m_alphabet_merge_w0 : List (List Nat) := [[], [0], [0, 1], [0, 1, 2], [0, 1, 2, 3], [0, 1, 2, 3, 4], [0, 1, 2, 3, 4, 5], [0, 1, 2, 3, 4, 5, 6], [0, 1, 2, 3, 4, 5, 6, 7], [0, 1, 2, 3, 4, 5, 6, 7, 8], [0, 1, 2, 3, 4, 5, 6, 7, 8, 9], [0, 1, 2, 3, 4, 5, 6, 7], [0, 1, 2, 3, 4, 5, 6, 7, 11], [0, 1, 2, 3, 4, 5, 6, 7, 11, 12], [0, 1, 2, 3, 4, 5, 6, 7, 8, 9, 10, 11, 12, 13], [0, 1, 2, 3, 4, 5, 6, 7, 8, 9, 10, 11, 12, 13, 14], [0, 1, 2, 3, 4, 5, 6, 7, 8, 9, 10, 11, 12, 13, 14, 15], [0, 1, 2, 3, 4, 5, 6, 7, 8, 9, 10, 11, 12, 13, 14, 15, 16]]
theorem m_alphabet_merge_c {s : Sig} {p0 : List Int} {p1 : List Int} {p2 : Bool → Bool → Option Bool} {a1 : Option Addr} {c1 : Nat} {a2 : Option Addr} {c2 : Nat} {vp2 : Value} {u0 : Nat} {r : List Int} (h1 : RdL qI s a1 c1 p0) (h2 : RdL qI s a2 c2 p1) (hp2 : FV2 Tryz.prog s vp2 (fun (x0 : Bool) (x1 : Bool) => [.bool x0, .bool x1]) (fun (r : Bool) => .bool r) p2) (hm : m_alphabet_merge p0 p1 p2 = some r) :
    Calls Tryz.prog 132 #[.slice a1 p0.length c1, .slice a2 p1.length c2, vp2] s.w (RetS No s fun v s' => ∃ (a3 : Option Addr) (c3 : Nat), v = .slice a3 r.length c3 ∧ RowT qI s' u0 3 a3 c3 r) := by
 unfold m_alphabet_merge at hm
 obtain ⟨N, hN, hNb⟩ := s.fresh
 have m0 : Mv (Up N No) s s := Mv.refl _ _
 refine E.entry Tryz.func132 R Tryz.ntmps132 R R (ER (L.as Y R R (LN (ER (L.as Y R R (LN (E.seq (E.block ?_))))))))
 obtain ⟨o170, eo170, hm⟩ := bindS hm
 refine E.cut (x := .exit 0) (fun e w => ∃ (s174 : Sig) (a172 : Option Addr) (c172 : Nat), Mv (Up N No) s s174 ∧ RowT qI s174 (N + 0) 3 a172 c172 o170 ∧ e = [(7, .slice a172 o170.length c172)] ∧ w = s174.w) ?_ ?_
 ·rintro _ _ ⟨s174, a172, c172, m0, h172, rfl, rfl⟩
  refine X.blkE (X.seqN (ER (L.mv Y R R (L.as Y R R (LN (E.ret ?_))))))
  obtain rfl := oi hm
  exact X.rt (.inl R) Tryz.results132 (Rs.tmp R Rs.nil) R ⟨_, (s174).ren N (fun k => cond (Nat.beq k 0) u0 (0)), R, R, m0.ren hNb, ⟨a172, c172, R, (h172.ren hN)⟩⟩
 intro K175
 refine E.iter (fun (st170 : List Int × List Int × List Int) (e : List (Nat × Value)) (w : World) => ∃ (s173 : Sig) (a5 : Option Addr) (c5 : Nat) (a7 : Option Addr) (c7 : Nat) (a9 : Option Addr) (c9 : Nat), Mv (Up N No) s s173 ∧ RowT qI s173 (N + 0) 3 a5 c5 st170.1 ∧ RdL qI s173 a7 c7 st170.2.1 ∧ RdL qI s173 a9 c9 st170.2.2 ∧ FV2 Tryz.prog s173 vp2 (fun (x0 : Bool) (x1 : Bool) => [.bool x0, .bool x1]) (fun (r : Bool) => .bool r) p2 ∧ e = [(7, .slice a5 st170.1.length c5), (0, .slice a7 st170.2.1.length c7), (1, .slice a9 st170.2.2.length c9), (2, vp2)] ∧ w = s173.w) eo170 ⟨s, none, 0, a1, c1, a2, c2, m0, RowT.nil, h1, h2, hp2, R, R⟩ (Sub.rf R) ?_
 rintro st170 res170 hm ih170 ho170 _ _ ⟨s173, a5, c5, a7, c7, a9, c9, m0, h5, h7, h9, hp2, rfl, rfl⟩
 unfold m_alphabet_merge_l1 at hm
 refine E.seq (ER (L.mv Y R R (L.len sl27 Y R R (L.bi Y R R R R (L.mv Y R R (L.cut 4 (fun e w => ∃ (v176 : Bool), ((decide ((st170.2.1.length : Int) > 0)) || (decide ((st170.2.2.length : Int) > 0))) = v176 ∧ e = (18, .bool v176) :: [(7, .slice a5 st170.1.length c5), (0, .slice a7 st170.2.1.length c7), (1, .slice a9 st170.2.2.length c9), (2, vp2)] ∧ w = s173.w) ?_ ?_))))))
 ·rintro _ _ ⟨v176, rfl, rfl, rfl⟩
  refine L.nil (X.seqN ?_)
  rcases ifS hm with ⟨hc, hm⟩ | ⟨hc, hm⟩
  ·refine E.cT R hc (E.skip (X.seqN (E.block (E.seqJ (fun e w => ∃ (s178 : Sig) (b177 : Bool), m_alphabet_merge_j1 p2 st170 b177 = some res170 ∧ Mv (Up N No) s s178 ∧ RowT qI s178 (N + 0) 3 a5 c5 st170.1 ∧ RdL qI s178 a7 c7 st170.2.1 ∧ RdL qI s178 a9 c9 st170.2.2 ∧ FV2 Tryz.prog s178 vp2 (fun (x0 : Bool) (x1 : Bool) => [.bool x0, .bool x1]) (fun (r : Bool) => .bool r) p2 ∧ e = [(8, .bool b177), (7, .slice a5 st170.1.length c5), (0, .slice a7 st170.2.1.length c7), (1, .slice a9 st170.2.2.length c9), (2, vp2)] ∧ w = s178.w) ?_ ?_))))
   ·rintro _ _ ⟨s178, b177, hm, m0, h5, h7, h9, hp2, rfl, rfl⟩
    unfold m_alphabet_merge_j1 at hm
    refine E.seqJ (fun e w => ∃ (s181 : Sig) (b180 : Bool), m_alphabet_merge_j2 p2 st170 b177 b180 = some res170 ∧ Mv (Up N No) s s181 ∧ RowT qI s181 (N + 0) 3 a5 c5 st170.1 ∧ RdL qI s181 a7 c7 st170.2.1 ∧ RdL qI s181 a9 c9 st170.2.2 ∧ FV2 Tryz.prog s181 vp2 (fun (x0 : Bool) (x1 : Bool) => [.bool x0, .bool x1]) (fun (r : Bool) => .bool r) p2 ∧ e = [(9, .bool b180), (8, .bool b177), (7, .slice a5 st170.1.length c5), (0, .slice a7 st170.2.1.length c7), (1, .slice a9 st170.2.2.length c9), (2, vp2)] ∧ w = s181.w) ?_ ?_
    ·rintro _ _ ⟨s181, b180, hm, m0, h5, h7, h9, hp2, rfl, rfl⟩
     unfold m_alphabet_merge_j2 at hm
     refine ER (L.as Y R R (LN (E.seqJ (fun e w => ∃ (s186 : Sig) (l183 : List Int) (n185 : Int) (a184 : Option Addr) (c184 : Nat), m_alphabet_merge_j3 p2 st170 b177 b180 l183 n185 = some res170 ∧ Mv (Up N No) s s186 ∧ RdL qI s186 a184 c184 l183 ∧ RowT qI s186 (N + 0) 3 a5 c5 st170.1 ∧ RdL qI s186 a9 c9 st170.2.2 ∧ FV2 Tryz.prog s186 vp2 (fun (x0 : Bool) (x1 : Bool) => [.bool x0, .bool x1]) (fun (r : Bool) => .bool r) p2 ∧ e = [(0, .slice a184 l183.length c184), (10, .int .i64 n185), (9, .bool b180), (8, .bool b177), (7, .slice a5 st170.1.length c5), (1, .slice a9 st170.2.2.length c9), (2, vp2)] ∧ w = s186.w) ?_ ?_)))
     ·rintro _ _ ⟨s186, l183, n185, a184, c184, hm, m0, h184, h5, h9, hp2, rfl, rfl⟩
      unfold m_alphabet_merge_j3 at hm
      refine E.seqJ (fun e w => ∃ (s191 : Sig) (l188 : List Int) (n190 : Int) (a189 : Option Addr) (c189 : Nat), m_alphabet_merge_j4 p2 st170 b177 b180 l183 l188 n190 = some res170 ∧ Mv (Up N No) s s191 ∧ RdL qI s191 a189 c189 l188 ∧ RdL qI s191 a184 c184 l183 ∧ RowT qI s191 (N + 0) 3 a5 c5 st170.1 ∧ FV2 Tryz.prog s191 vp2 (fun (x0 : Bool) (x1 : Bool) => [.bool x0, .bool x1]) (fun (r : Bool) => .bool r) p2 ∧ e = [(1, .slice a189 l188.length c189), (10, .int .i64 n190), (0, .slice a184 l183.length c184), (9, .bool b180), (8, .bool b177), (7, .slice a5 st170.1.length c5), (2, vp2)] ∧ w = s191.w) ?_ ?_
      ·rintro _ _ ⟨s191, l188, n190, a189, c189, hm, m0, h189, h184, h5, hp2, rfl, rfl⟩
       unfold m_alphabet_merge_j4 at hm
       refine ER (L.mv Y R R (L.mv Y R R (L.mv Y R R ?_)))
       obtain ⟨r193, er193, hm⟩ := bindS hm
       refine L.fv2 (y := b177) (z := b180) hp2 R R Y R R er193 R fun s194 m195 => ?_
       replace m0 := m0.trans m195.no
       replace h184 := h184.mono m195.z
       replace h189 := h189.mono m195.z
       replace hp2 := hp2.mono m195.z
       replace h5 := h5.mv m195 no_No no_No
       refine L.nil (X.seqN ?_)
       rcases ifS hm with ⟨hc, hm⟩ | ⟨hc, hm⟩
       ·refine E.cT R hc (E.reg (L.mv Y R R (L.mv Y R R (L.bsE (k := 1) (cs := [.int .i64 n190]) 0 bs27 (nb R) Y R R R R fun b196 s197 m198 bx196 => ?_))))
        replace h5 := h5.mv m198 no_No no_No
        have h196 := Bx.rdL (r := qI) (xs := ([n190] : List Int)) bx196 ⟨[.int .i64 n190], _, R, R, R⟩ (nb R)
        obtain ⟨x199, ex199, hm⟩ := bindS hm
        refine L.ap (r := qI) Tryz.underlying27 el3 R (tgp hN) h5 h196.wk Y R R ex199 R fun a200 c200 s201 m202 h200 => ?_
        replace m0 := (m0.trans m198.no).trans (m202.one up)
        replace h184 := (h184.mono m198.z).mono (m202.le (tg0 hN))
        replace h189 := (h189.mono m198.z).mono (m202.le (tg0 hN))
        replace hp2 := (hp2.mono m198.z).mono (m202.le (tg0 hN))
        exact L.as Y R R (L.nil (X.blkN (X.sub (ih170 _ (oi hm).symm _ _ ⟨s201, a200, c200, a184, c184, a189, c189, m0, h200, h184, h189, hp2, R, R⟩) (Sub.rf R))))
       exact E.cF R hc (E.skip (X.blkN (X.sub (ih170 _ (oi hm).symm _ _ ⟨s194, a5, c5, a184, c184, a189, c189, m0, h5, h184, h189, hp2, R, R⟩) (Sub.rf R))))
      intro Jj192
      refine ER (L.mv Y R R (L.nil (X.seqN ?_)))
      rcases ifS hm with ⟨hc, hm⟩ | ⟨hc, hm⟩
      ·refine E.cT R hc ?_
       obtain ⟨x205, ex205, hm⟩ := bindS hm
       obtain ⟨x210, ex210, hm⟩ := bindS hm
       refine E.draw [[], [0], [0, 1], [], [3], [0, 1, 2], [0, 1, 2, 3, 4, 5]] (fun D e sx => Mv No s186 sx ∧ Sub [(0, .slice a184 l183.length c184), (9, .bool b180), (8, .bool b177), (7, .slice a5 st170.1.length c5), (2, vp2)] e ∧ AllP [D 6 = false → Env.get e 1 = some (.slice a9 st170.2.2.length c9), G D e 0 60 (.slice a9 st170.2.2.length c9), D 1 = true → (∃ (b206 : Nat) (o206 : Nat), Env.get e 61 = some (.pointer (some ⟨b206, o206, none⟩)) ∧ Mem sx 0 b206 o206 [.int .i64 x205]), G D e 2 62 (.int .i64 x205), G D e 3 63 (.slice a9 st170.2.2.length c9), D 4 = true → (∃ (a211 : Option Addr) (c211 : Nat), Env.get e 64 = some (.slice a211 x210.length c211) ∧ RdL qI sx a211 c211 x210), G D e 5 10 (.int .i64 x205), D 6 = true → ∀ (a211 : Option Addr) (c211 : Nat), Env.get e 64 = some (.slice a211 x210.length c211) → (Env.get e 1 = some (.slice a211 x210.length c211))]) (by kernel_rfl) (by kernel_rfl) (by kernel_rfl) ?_ ?_ ?_
       ·intro sz mz
        exact ⟨mz, (Sub.rf R), fun _ => R, nofun, nofun, nofun, nofun, nofun, nofun, nofun, trivial⟩
       ·refine ⟨?_, ?_, ?_, ?_, ?_, ?_, ?_, trivial⟩
        ·rintro D e s203 ⟨im, ib, i⟩ hk hf ha
         have kn := K1 ((i.p 0) (hf 6 (nb R) R))
         exact kn.g (L.mv Y R R (L.nil (X.dk kn ⟨im, Sub.fresh ib R, i.u 1 (fun _ => R)⟩)))
        ·rintro D e s204 ⟨im, ib, i⟩ hk hf ha
         have h9 := h9.mono im.z
         have kn := K1 ((i.p 1) (ha.at 0 R))
         refine kn.g (L.ix (r := qI) sl27 h9 Y R R ex205 R fun b206 o206 cc206 me206 rd206 => ?_)
         obtain rfl := rd206
         exact L.nil (X.dk kn ⟨im, Sub.fresh ib R, i.u 2 (fun _ => ⟨b206, o206, R, me206⟩)⟩)
        ·rintro D e s207 ⟨im, ib, i⟩ hk hf ha
         obtain ⟨b206, o206, g1_, me206⟩ := (i.p 2) (ha.at 1 R)
         have kn := K1 g1_
         exact kn.g (L.ld (j := 0) me206 nag3 Y R R R R (L.nil (X.dk kn ⟨im, Sub.fresh ib R, i.u 3 (fun _ => R)⟩)))
        ·rintro D e s208 ⟨im, ib, i⟩ hk hf ha
         have kn := K1 ((i.p 0) (hf 6 (nb R) R))
         exact kn.g (L.mv Y R R (L.nil (X.dk kn ⟨im, Sub.fresh ib R, i.u 4 (fun _ => R)⟩)))
        ·rintro D e s209 ⟨im, ib, i⟩ hk hf ha
         have h9 := h9.mono im.z
         have kn := K1 ((i.p 4) (ha.at 3 R))
         exact kn.g (L.sf (r := qI) sl27 h9 Y R R ex210 R fun a211 c211 h211 => L.nil (X.dk kn ⟨im, Sub.fresh ib R, (i.u 5 (fun _ => ⟨a211, c211, R, h211⟩)).u 7 (fun z => Bool.noConfusion ((hf 6 (nb R) R).symm.trans z))⟩))
        ·rintro D e s212 ⟨im, ib, i⟩ hk hf ha
         have kn := K1 ((i.p 3) (ha.at 2 R))
         exact kn.g (L.as Y R R (L.nil (X.dk kn ⟨im, Sub.fresh ib R, i.u 6 (fun _ => R)⟩)))
        rintro D e s213 ⟨im, ib, i⟩ hk hf ha
        obtain ⟨a211, c211, g4_, h211⟩ := (i.p 5) (ha.at 4 R)
        have kn := K1 g4_
        exact kn.g (L.as Y R R (L.nil (X.dk kn ⟨im, Sub.fresh ib R, (i.u 0 (fun z => Bool.noConfusion (show true = false from z))).u 7 (fun _ _ _ q4 => by cases g4_.symm.trans q4; exact R)⟩)))
       rintro D e s214 hD ⟨im, ib, i⟩
       obtain ⟨a211, c211, g4_, h211⟩ := (i.p 5) (hD 4 R)
       have g5_ := (i.p 6) (hD 5 R)
       have g6_ := (i.p 7) (hD 6 R) a211 c211 g4_
       have h184 := h184.mono im.z
       have h5 := h5.mv im no_No no_No
       have hp2 := hp2.mono im.z
       have m0 := m0.trans im.no
       refine X.sub (e' := [(1, .slice a211 x210.length c211), (10, .int .i64 x205), (0, .slice a184 l183.length c184), (9, .bool b180), (8, .bool b177), (7, .slice a5 st170.1.length c5), (2, vp2)]) ?_ (Sub.cons g6_ (Sub.cons g5_ (Sub.cons (ib 0 _ R) (Sub.cons (ib 9 _ R) (Sub.cons (ib 8 _ R) (Sub.cons (ib 7 _ R) (Sub.cons (ib 2 _ R) Sub.nil)))))))
       exact X.sub (Jj192 _ _ ⟨s214, x210, x205, a211, c211, hm, m0, h211, h184, h5, hp2, R, R⟩) (Sub.rf R)
      exact E.cF R hc (E.skip (X.sub (Jj192 _ _ ⟨s186, st170.2.2, n185, a9, c9, hm, m0, h9, h184, h5, hp2, R, R⟩) (Sub.rf R)))
     intro Jj187
     refine ER (L.mv Y R R (L.nil (X.seqN ?_)))
     rcases ifS hm with ⟨hc, hm⟩ | ⟨hc, hm⟩
     ·refine E.cT R hc ?_
      obtain ⟨x217, ex217, hm⟩ := bindS hm
      obtain ⟨x222, ex222, hm⟩ := bindS hm
      refine E.draw [[], [0], [0, 1], [], [3], [0, 1, 2], [0, 1, 2, 3, 4, 5]] (fun D e sx => Mv No s181 sx ∧ Sub [(9, .bool b180), (8, .bool b177), (7, .slice a5 st170.1.length c5), (1, .slice a9 st170.2.2.length c9), (2, vp2)] e ∧ AllP [D 6 = false → Env.get e 0 = some (.slice a7 st170.2.1.length c7), G D e 0 54 (.slice a7 st170.2.1.length c7), D 1 = true → (∃ (b218 : Nat) (o218 : Nat), Env.get e 55 = some (.pointer (some ⟨b218, o218, none⟩)) ∧ Mem sx 0 b218 o218 [.int .i64 x217]), G D e 2 56 (.int .i64 x217), G D e 3 57 (.slice a7 st170.2.1.length c7), D 4 = true → (∃ (a223 : Option Addr) (c223 : Nat), Env.get e 58 = some (.slice a223 x222.length c223) ∧ RdL qI sx a223 c223 x222), G D e 5 10 (.int .i64 x217), D 6 = true → ∀ (a223 : Option Addr) (c223 : Nat), Env.get e 58 = some (.slice a223 x222.length c223) → (Env.get e 0 = some (.slice a223 x222.length c223))]) (by kernel_rfl) (by kernel_rfl) (by kernel_rfl) ?_ ?_ ?_
      ·intro sz mz
       exact ⟨mz, (Sub.rf R), fun _ => R, nofun, nofun, nofun, nofun, nofun, nofun, nofun, trivial⟩
      ·refine ⟨?_, ?_, ?_, ?_, ?_, ?_, ?_, trivial⟩
       ·rintro D e s215 ⟨im, ib, i⟩ hk hf ha
        have kn := K1 ((i.p 0) (hf 6 (nb R) R))
        exact kn.g (L.mv Y R R (L.nil (X.dk kn ⟨im, Sub.fresh ib R, i.u 1 (fun _ => R)⟩)))
       ·rintro D e s216 ⟨im, ib, i⟩ hk hf ha
        have h7 := h7.mono im.z
        have kn := K1 ((i.p 1) (ha.at 0 R))
        refine kn.g (L.ix (r := qI) sl27 h7 Y R R ex217 R fun b218 o218 cc218 me218 rd218 => ?_)
        obtain rfl := rd218
        exact L.nil (X.dk kn ⟨im, Sub.fresh ib R, i.u 2 (fun _ => ⟨b218, o218, R, me218⟩)⟩)
       ·rintro D e s219 ⟨im, ib, i⟩ hk hf ha
        obtain ⟨b218, o218, g1_, me218⟩ := (i.p 2) (ha.at 1 R)
        have kn := K1 g1_
        exact kn.g (L.ld (j := 0) me218 nag3 Y R R R R (L.nil (X.dk kn ⟨im, Sub.fresh ib R, i.u 3 (fun _ => R)⟩)))
       ·rintro D e s220 ⟨im, ib, i⟩ hk hf ha
        have kn := K1 ((i.p 0) (hf 6 (nb R) R))
        exact kn.g (L.mv Y R R (L.nil (X.dk kn ⟨im, Sub.fresh ib R, i.u 4 (fun _ => R)⟩)))
       ·rintro D e s221 ⟨im, ib, i⟩ hk hf ha
        have h7 := h7.mono im.z
        have kn := K1 ((i.p 4) (ha.at 3 R))
        exact kn.g (L.sf (r := qI) sl27 h7 Y R R ex222 R fun a223 c223 h223 => L.nil (X.dk kn ⟨im, Sub.fresh ib R, (i.u 5 (fun _ => ⟨a223, c223, R, h223⟩)).u 7 (fun z => Bool.noConfusion ((hf 6 (nb R) R).symm.trans z))⟩))
       ·rintro D e s224 ⟨im, ib, i⟩ hk hf ha
        have kn := K1 ((i.p 3) (ha.at 2 R))
        exact kn.g (L.as Y R R (L.nil (X.dk kn ⟨im, Sub.fresh ib R, i.u 6 (fun _ => R)⟩)))
       rintro D e s225 ⟨im, ib, i⟩ hk hf ha
       obtain ⟨a223, c223, g4_, h223⟩ := (i.p 5) (ha.at 4 R)
       have kn := K1 g4_
       exact kn.g (L.as Y R R (L.nil (X.dk kn ⟨im, Sub.fresh ib R, (i.u 0 (fun z => Bool.noConfusion (show true = false from z))).u 7 (fun _ _ _ q4 => by cases g4_.symm.trans q4; exact R)⟩)))
      rintro D e s226 hD ⟨im, ib, i⟩
      obtain ⟨a223, c223, g4_, h223⟩ := (i.p 5) (hD 4 R)
      have g5_ := (i.p 6) (hD 5 R)
      have g6_ := (i.p 7) (hD 6 R) a223 c223 g4_
      have h5 := h5.mv im no_No no_No
      have h9 := h9.mono im.z
      have hp2 := hp2.mono im.z
      have m0 := m0.trans im.no
      refine X.sub (e' := [(0, .slice a223 x222.length c223), (10, .int .i64 x217), (9, .bool b180), (8, .bool b177), (7, .slice a5 st170.1.length c5), (1, .slice a9 st170.2.2.length c9), (2, vp2)]) ?_ (Sub.cons g6_ (Sub.cons g5_ (Sub.cons (ib 9 _ R) (Sub.cons (ib 8 _ R) (Sub.cons (ib 7 _ R) (Sub.cons (ib 1 _ R) (Sub.cons (ib 2 _ R) Sub.nil)))))))
      exact X.sub (Jj187 _ _ ⟨s226, x222, x217, a223, c223, hm, m0, h223, h5, h9, hp2, R, R⟩) (Sub.rf R)
     exact E.cF R hc (E.skip (X.sub (Jj187 _ _ ⟨s181, st170.2.1, 0, a7, c7, hm, m0, h7, h5, h9, hp2, R, R⟩) (Sub.rf R)))
    intro Jj182
    rcases ifS hm with ⟨hc231, hm⟩ | ⟨hc231, hm⟩
    ·have _ := hN
     rcases ifS hm with ⟨hc236, hm⟩ | ⟨hc236, hm⟩
     ·have _ := hN
      refine E.draw m_alphabet_merge_w0 (fun D e sx => Mv No s178 sx ∧ Sub [(8, .bool b177), (7, .slice a5 st170.1.length c5), (0, .slice a7 st170.2.1.length c7), (1, .slice a9 st170.2.2.length c9), (2, vp2)] e ∧ AllP [G D e 0 36 (.slice a9 st170.2.2.length c9), G D e 1 37 (.int .i64 (st170.2.2.length : Int)), G D e 2 38 (.bool (decide ((st170.2.2.length : Int) > 0))), G D e 3 39 (.bool (decide ((st170.2.2.length : Int) > 0))), G D e 4 40 (.slice a7 st170.2.1.length c7), G D e 5 41 (.int .i64 (st170.2.1.length : Int)), G D e 6 42 (.bool ((st170.2.1.length : Int) == 0)), G D e 7 43 (.bool ((st170.2.1.length : Int) == 0)), G D e 8 44 undef, G D e 9 45 undef, G D e 10 46 undef, G D e 11 47 undef, G D e 12 48 undef, G D e 13 49 undef, G D e 14 50 undef, G D e 15 51 (.bool true), G D e 16 52 (.bool true), G D e 17 9 (.bool true)]) (by kernel_rfl) (by kernel_rfl) (by kernel_rfl) ?_ ?_ ?_
      ·intro sz mz
       exact ⟨mz, (Sub.rf R), nofun, nofun, nofun, nofun, nofun, nofun, nofun, nofun, nofun, nofun, nofun, nofun, nofun, nofun, nofun, nofun, nofun, nofun, trivial⟩
      ·refine ⟨?_, ?_, ?_, ?_, ?_, ?_, ?_, ?_, ?_, ?_, ?_, ?_, ?_, ?_, ?_, ?_, ?_, ?_, trivial⟩
       ·rintro D e s227 ⟨im, ib, i⟩ hk hf ha
        have kn := K1 (ib 1 _ R)
        exact kn.g (L.mv Y R R (L.nil (X.dk kn ⟨im, Sub.fresh ib R, i.u 0 (fun _ => R)⟩)))
       ·rintro D e s228 ⟨im, ib, i⟩ hk hf ha
        have kn := K1 ((i.p 0) (ha.at 0 R))
        exact kn.g (L.len sl27 Y R R (L.nil (X.dk kn ⟨im, Sub.fresh ib R, i.u 1 (fun _ => R)⟩)))
       ·rintro D e s229 ⟨im, ib, i⟩ hk hf ha
        have kn := K1 ((i.p 1) (ha.at 1 R))
        exact kn.g (L.bi Y R R R R (L.nil (X.dk kn ⟨im, Sub.fresh ib R, i.u 2 (fun _ => R)⟩)))
       ·rintro D e s230 ⟨im, ib, i⟩ hk hf ha
        have kn := K1 ((i.p 2) (ha.at 2 R))
        exact kn.g (L.mv Y R R (L.nil (X.dk kn ⟨im, Sub.fresh ib R, i.u 3 (fun _ => R)⟩)))
       ·rintro D e s232 ⟨im, ib, i⟩ hk hf ha
        have g3_ := (i.p 3) (ha.at 3 R)
        rw [hc231] at g3_
        have kn := K2 (ib 0 _ R) g3_
        exact kn.g (L.mv (Wt.mk R R) R R (L.nil (X.dk kn ⟨im, Sub.fresh ib R, i.u 4 (fun _ => R)⟩)))
       ·rintro D e s233 ⟨im, ib, i⟩ hk hf ha
        have g3_ := (i.p 3) (ha.at 3 R)
        rw [hc231] at g3_
        have kn := K2 ((i.p 4) (ha.at 4 R)) g3_
        exact kn.g (L.len sl27 (Wt.mk R R) R R (L.nil (X.dk kn ⟨im, Sub.fresh ib R, i.u 5 (fun _ => R)⟩)))
       ·rintro D e s234 ⟨im, ib, i⟩ hk hf ha
        have g3_ := (i.p 3) (ha.at 3 R)
        rw [hc231] at g3_
        have kn := K2 ((i.p 5) (ha.at 5 R)) g3_
        exact kn.g (L.bi (Wt.mk R R) R R R R (L.nil (X.dk kn ⟨im, Sub.fresh ib R, i.u 6 (fun _ => R)⟩)))
       ·rintro D e s235 ⟨im, ib, i⟩ hk hf ha
        have g3_ := (i.p 3) (ha.at 3 R)
        rw [hc231] at g3_
        have kn := K2 ((i.p 6) (ha.at 6 R)) g3_
        exact kn.g (L.mv (Wt.mk R R) R R (L.nil (X.dk kn ⟨im, Sub.fresh ib R, i.u 7 (fun _ => R)⟩)))
       ·rintro D e s237 ⟨im, ib, i⟩ hk hf ha
        have g7_ := (i.p 7) (ha.at 7 R)
        rw [hc236] at g7_
        have kn := K2 (ib 1 _ R) g7_
        exact kn.g (L.skip R R R R (L.nil (X.dk kn ⟨im, Sub.fresh ib R, i.u 8 (fun _ => R)⟩)))
       ·rintro D e s238 ⟨im, ib, i⟩ hk hf ha
        have g7_ := (i.p 7) (ha.at 7 R)
        rw [hc236] at g7_
        have kn := K2 ((i.p 8) (ha.at 8 R)) g7_
        exact kn.g (L.skip R R R R (L.nil (X.dk kn ⟨im, Sub.fresh ib R, i.u 9 (fun _ => R)⟩)))
       ·rintro D e s239 ⟨im, ib, i⟩ hk hf ha
        have g7_ := (i.p 7) (ha.at 7 R)
        rw [hc236] at g7_
        have kn := K2 ((i.p 9) (ha.at 9 R)) g7_
        exact kn.g (L.skip R R R R (L.nil (X.dk kn ⟨im, Sub.fresh ib R, i.u 10 (fun _ => R)⟩)))
       ·rintro D e s240 ⟨im, ib, i⟩ hk hf ha
        have g7_ := (i.p 7) (ha.at 7 R)
        rw [hc236] at g7_
        have kn := K2 (ib 0 _ R) g7_
        exact kn.g (L.skip R R R R (L.nil (X.dk kn ⟨im, Sub.fresh ib R, i.u 11 (fun _ => R)⟩)))
       ·rintro D e s241 ⟨im, ib, i⟩ hk hf ha
        have g7_ := (i.p 7) (ha.at 7 R)
        rw [hc236] at g7_
        have kn := K2 ((i.p 11) (ha.at 11 R)) g7_
        exact kn.g (L.skip R R R R (L.nil (X.dk kn ⟨im, Sub.fresh ib R, i.u 12 (fun _ => R)⟩)))
       ·rintro D e s242 ⟨im, ib, i⟩ hk hf ha
        have g7_ := (i.p 7) (ha.at 7 R)
        rw [hc236] at g7_
        have kn := K2 ((i.p 12) (ha.at 12 R)) g7_
        exact kn.g (L.skip R R R R (L.nil (X.dk kn ⟨im, Sub.fresh ib R, i.u 13 (fun _ => R)⟩)))
       ·rintro D e s243 ⟨im, ib, i⟩ hk hf ha
        have g7_ := (i.p 7) (ha.at 7 R)
        rw [hc236] at g7_
        have kn := K3 ((i.p 10) (ha.at 10 R)) ((i.p 13) (ha.at 13 R)) g7_
        exact kn.g (L.skip R R R R (L.nil (X.dk kn ⟨im, Sub.fresh ib R, i.u 14 (fun _ => R)⟩)))
       ·rintro D e s244 ⟨im, ib, i⟩ hk hf ha
        have g3_ := (i.p 3) (ha.at 3 R)
        have g7_ := (i.p 7) (ha.at 7 R)
        rw [hc236] at g7_
        rw [hc231] at g3_
        have kn := K3 g7_ ((i.p 14) (ha.at 14 R)) g3_
        exact kn.g (L.pkT (Wt.mk R R) R R R R (L.nil (X.dk kn ⟨im, Sub.fresh ib R, i.u 15 (fun _ => R)⟩)))
       ·rintro D e s245 ⟨im, ib, i⟩ hk hf ha
        have g3_ := (i.p 3) (ha.at 3 R)
        rw [hc231] at g3_
        have kn := K2 g3_ ((i.p 15) (ha.at 15 R))
        exact kn.g (L.pkT Y R R R R (L.nil (X.dk kn ⟨im, Sub.fresh ib R, i.u 16 (fun _ => R)⟩)))
       rintro D e s246 ⟨im, ib, i⟩ hk hf ha
       have kn := K1 ((i.p 16) (ha.at 16 R))
       exact kn.g (L.as Y R R (L.nil (X.dk kn ⟨im, Sub.fresh ib R, i.u 17 (fun _ => R)⟩)))
      rintro D e s247 hD ⟨im, ib, i⟩
      have g17_ := (i.p 17) (hD 17 R)
      have h5 := h5.mv im no_No no_No
      have h7 := h7.mono im.z
      have h9 := h9.mono im.z
      have hp2 := hp2.mono im.z
      have m0 := m0.trans im.no
      refine X.sub (e' := [(9, .bool true), (8, .bool b177), (7, .slice a5 st170.1.length c5), (0, .slice a7 st170.2.1.length c7), (1, .slice a9 st170.2.2.length c9), (2, vp2)]) ?_ (Sub.cons g17_ (Sub.cons (ib 8 _ R) (Sub.cons (ib 7 _ R) (Sub.cons (ib 0 _ R) (Sub.cons (ib 1 _ R) (Sub.cons (ib 2 _ R) Sub.nil))))))
      exact X.sub (Jj182 _ _ ⟨s247, true, hm, m0, h5, h7, h9, hp2, R, R⟩) (Sub.rf R)
     have _ := hN
     obtain ⟨x250, ex250, hm⟩ := bindS hm
     obtain ⟨x255, ex255, hm⟩ := bindS hm
     refine E.draw m_alphabet_merge_w0 (fun D e sx => Mv No s178 sx ∧ Sub [(8, .bool b177), (7, .slice a5 st170.1.length c5), (0, .slice a7 st170.2.1.length c7), (1, .slice a9 st170.2.2.length c9), (2, vp2)] e ∧ AllP [G D e 0 36 (.slice a9 st170.2.2.length c9), G D e 1 37 (.int .i64 (st170.2.2.length : Int)), G D e 2 38 (.bool (decide ((st170.2.2.length : Int) > 0))), G D e 3 39 (.bool (decide ((st170.2.2.length : Int) > 0))), G D e 4 40 (.slice a7 st170.2.1.length c7), G D e 5 41 (.int .i64 (st170.2.1.length : Int)), G D e 6 42 (.bool ((st170.2.1.length : Int) == 0)), G D e 7 43 (.bool ((st170.2.1.length : Int) == 0)), G D e 8 44 (.slice a9 st170.2.2.length c9), D 9 = true → (∃ (b251 : Nat) (o251 : Nat), Env.get e 45 = some (.pointer (some ⟨b251, o251, none⟩)) ∧ Mem sx 0 b251 o251 [.int .i64 x250]), G D e 10 46 (.int .i64 x250), G D e 11 47 (.slice a7 st170.2.1.length c7), D 12 = true → (∃ (b256 : Nat) (o256 : Nat), Env.get e 48 = some (.pointer (some ⟨b256, o256, none⟩)) ∧ Mem sx 0 b256 o256 [.int .i64 x255]), G D e 13 49 (.int .i64 x255), G D e 14 50 (.bool (decide (x250 ≤ x255))), G D e 15 51 (.bool (decide (x250 ≤ x255))), G D e 16 52 (.bool (decide (x250 ≤ x255))), G D e 17 9 (.bool (decide (x250 ≤ x255)))]) (by kernel_rfl) (by kernel_rfl) (by kernel_rfl) ?_ ?_ ?_
     ·intro sz mz
      exact ⟨mz, (Sub.rf R), nofun, nofun, nofun, nofun, nofun, nofun, nofun, nofun, nofun, nofun, nofun, nofun, nofun, nofun, nofun, nofun, nofun, nofun, trivial⟩
     ·refine ⟨?_, ?_, ?_, ?_, ?_, ?_, ?_, ?_, ?_, ?_, ?_, ?_, ?_, ?_, ?_, ?_, ?_, ?_, trivial⟩
      ·rintro D e s227 ⟨im, ib, i⟩ hk hf ha
       have kn := K1 (ib 1 _ R)
       exact kn.g (L.mv Y R R (L.nil (X.dk kn ⟨im, Sub.fresh ib R, i.u 0 (fun _ => R)⟩)))
      ·rintro D e s228 ⟨im, ib, i⟩ hk hf ha
       have kn := K1 ((i.p 0) (ha.at 0 R))
       exact kn.g (L.len sl27 Y R R (L.nil (X.dk kn ⟨im, Sub.fresh ib R, i.u 1 (fun _ => R)⟩)))
      ·rintro D e s229 ⟨im, ib, i⟩ hk hf ha
       have kn := K1 ((i.p 1) (ha.at 1 R))
       exact kn.g (L.bi Y R R R R (L.nil (X.dk kn ⟨im, Sub.fresh ib R, i.u 2 (fun _ => R)⟩)))
      ·rintro D e s230 ⟨im, ib, i⟩ hk hf ha
       have kn := K1 ((i.p 2) (ha.at 2 R))
       exact kn.g (L.mv Y R R (L.nil (X.dk kn ⟨im, Sub.fresh ib R, i.u 3 (fun _ => R)⟩)))
      ·rintro D e s232 ⟨im, ib, i⟩ hk hf ha
       have g3_ := (i.p 3) (ha.at 3 R)
       rw [hc231] at g3_
       have kn := K2 (ib 0 _ R) g3_
       exact kn.g (L.mv (Wt.mk R R) R R (L.nil (X.dk kn ⟨im, Sub.fresh ib R, i.u 4 (fun _ => R)⟩)))
      ·rintro D e s233 ⟨im, ib, i⟩ hk hf ha
       have g3_ := (i.p 3) (ha.at 3 R)
       rw [hc231] at g3_
       have kn := K2 ((i.p 4) (ha.at 4 R)) g3_
       exact kn.g (L.len sl27 (Wt.mk R R) R R (L.nil (X.dk kn ⟨im, Sub.fresh ib R, i.u 5 (fun _ => R)⟩)))
      ·rintro D e s234 ⟨im, ib, i⟩ hk hf ha
       have g3_ := (i.p 3) (ha.at 3 R)
       rw [hc231] at g3_
       have kn := K2 ((i.p 5) (ha.at 5 R)) g3_
       exact kn.g (L.bi (Wt.mk R R) R R R R (L.nil (X.dk kn ⟨im, Sub.fresh ib R, i.u 6 (fun _ => R)⟩)))
      ·rintro D e s235 ⟨im, ib, i⟩ hk hf ha
       have g3_ := (i.p 3) (ha.at 3 R)
       rw [hc231] at g3_
       have kn := K2 ((i.p 6) (ha.at 6 R)) g3_
       exact kn.g (L.mv (Wt.mk R R) R R (L.nil (X.dk kn ⟨im, Sub.fresh ib R, i.u 7 (fun _ => R)⟩)))
      ·rintro D e s248 ⟨im, ib, i⟩ hk hf ha
       have g7_ := (i.p 7) (ha.at 7 R)
       rw [hc236] at g7_
       have kn := K2 (ib 1 _ R) g7_
       exact kn.g (L.mv (Wt.mk R R) R R (L.nil (X.dk kn ⟨im, Sub.fresh ib R, i.u 8 (fun _ => R)⟩)))
      ·rintro D e s249 ⟨im, ib, i⟩ hk hf ha
       have g7_ := (i.p 7) (ha.at 7 R)
       have h9 := h9.mono im.z
       rw [hc236] at g7_
       have kn := K2 ((i.p 8) (ha.at 8 R)) g7_
       refine kn.g (L.ix (r := qI) sl27 h9 (Wt.mk R R) R R ex250 R fun b251 o251 cc251 me251 rd251 => ?_)
       obtain rfl := rd251
       exact L.nil (X.dk kn ⟨im, Sub.fresh ib R, i.u 9 (fun _ => ⟨b251, o251, R, me251⟩)⟩)
      ·rintro D e s252 ⟨im, ib, i⟩ hk hf ha
       have g7_ := (i.p 7) (ha.at 7 R)
       obtain ⟨b251, o251, g9_, me251⟩ := (i.p 9) (ha.at 9 R)
       rw [hc236] at g7_
       have kn := K2 g9_ g7_
       exact kn.g (L.ld (j := 0) me251 nag3 (Wt.mk R R) R R R R (L.nil (X.dk kn ⟨im, Sub.fresh ib R, i.u 10 (fun _ => R)⟩)))
      ·rintro D e s253 ⟨im, ib, i⟩ hk hf ha
       have g7_ := (i.p 7) (ha.at 7 R)
       rw [hc236] at g7_
       have kn := K2 (ib 0 _ R) g7_
       exact kn.g (L.mv (Wt.mk R R) R R (L.nil (X.dk kn ⟨im, Sub.fresh ib R, i.u 11 (fun _ => R)⟩)))
      ·rintro D e s254 ⟨im, ib, i⟩ hk hf ha
       have g7_ := (i.p 7) (ha.at 7 R)
       have h7 := h7.mono im.z
       rw [hc236] at g7_
       have kn := K2 ((i.p 11) (ha.at 11 R)) g7_
       refine kn.g (L.ix (r := qI) sl27 h7 (Wt.mk R R) R R ex255 R fun b256 o256 cc256 me256 rd256 => ?_)
       obtain rfl := rd256
       exact L.nil (X.dk kn ⟨im, Sub.fresh ib R, i.u 12 (fun _ => ⟨b256, o256, R, me256⟩)⟩)
      ·rintro D e s257 ⟨im, ib, i⟩ hk hf ha
       have g7_ := (i.p 7) (ha.at 7 R)
       obtain ⟨b256, o256, g12_, me256⟩ := (i.p 12) (ha.at 12 R)
       rw [hc236] at g7_
       have kn := K2 g12_ g7_
       exact kn.g (L.ld (j := 0) me256 nag3 (Wt.mk R R) R R R R (L.nil (X.dk kn ⟨im, Sub.fresh ib R, i.u 13 (fun _ => R)⟩)))
      ·rintro D e s258 ⟨im, ib, i⟩ hk hf ha
       have g7_ := (i.p 7) (ha.at 7 R)
       rw [hc236] at g7_
       have kn := K3 ((i.p 10) (ha.at 10 R)) ((i.p 13) (ha.at 13 R)) g7_
       exact kn.g (L.bi (Wt.mk R R) R R R R (L.nil (X.dk kn ⟨im, Sub.fresh ib R, i.u 14 (fun _ => R)⟩)))
      ·rintro D e s259 ⟨im, ib, i⟩ hk hf ha
       have g3_ := (i.p 3) (ha.at 3 R)
       have g7_ := (i.p 7) (ha.at 7 R)
       rw [hc236] at g7_
       rw [hc231] at g3_
       have kn := K3 g7_ ((i.p 14) (ha.at 14 R)) g3_
       exact kn.g (L.pkF (Wt.mk R R) R R R R (L.nil (X.dk kn ⟨im, Sub.fresh ib R, i.u 15 (fun _ => R)⟩)))
      ·rintro D e s260 ⟨im, ib, i⟩ hk hf ha
       have g3_ := (i.p 3) (ha.at 3 R)
       rw [hc231] at g3_
       have kn := K2 g3_ ((i.p 15) (ha.at 15 R))
       exact kn.g (L.pkT Y R R R R (L.nil (X.dk kn ⟨im, Sub.fresh ib R, i.u 16 (fun _ => R)⟩)))
      rintro D e s261 ⟨im, ib, i⟩ hk hf ha
      have kn := K1 ((i.p 16) (ha.at 16 R))
      exact kn.g (L.as Y R R (L.nil (X.dk kn ⟨im, Sub.fresh ib R, i.u 17 (fun _ => R)⟩)))
     rintro D e s262 hD ⟨im, ib, i⟩
     have g17_ := (i.p 17) (hD 17 R)
     have h5 := h5.mv im no_No no_No
     have h7 := h7.mono im.z
     have h9 := h9.mono im.z
     have hp2 := hp2.mono im.z
     have m0 := m0.trans im.no
     refine X.sub (e' := [(9, .bool (decide (x250 ≤ x255))), (8, .bool b177), (7, .slice a5 st170.1.length c5), (0, .slice a7 st170.2.1.length c7), (1, .slice a9 st170.2.2.length c9), (2, vp2)]) ?_ (Sub.cons g17_ (Sub.cons (ib 8 _ R) (Sub.cons (ib 7 _ R) (Sub.cons (ib 0 _ R) (Sub.cons (ib 1 _ R) (Sub.cons (ib 2 _ R) Sub.nil))))))
     exact X.sub (Jj182 _ _ ⟨s262, (decide (x250 ≤ x255)), hm, m0, h5, h7, h9, hp2, R, R⟩) (Sub.rf R)
    have _ := hN
    refine E.draw m_alphabet_merge_w0 (fun D e sx => Mv No s178 sx ∧ Sub [(8, .bool b177), (7, .slice a5 st170.1.length c5), (0, .slice a7 st170.2.1.length c7), (1, .slice a9 st170.2.2.length c9), (2, vp2)] e ∧ AllP [G D e 0 36 (.slice a9 st170.2.2.length c9), G D e 1 37 (.int .i64 (st170.2.2.length : Int)), G D e 2 38 (.bool (decide ((st170.2.2.length : Int) > 0))), G D e 3 39 (.bool (decide ((st170.2.2.length : Int) > 0))), G D e 4 40 undef, G D e 5 41 undef, G D e 6 42 undef, G D e 7 43 undef, G D e 8 44 undef, G D e 9 45 undef, G D e 10 46 undef, G D e 11 47 undef, G D e 12 48 undef, G D e 13 49 undef, G D e 14 50 undef, G D e 15 51 undef, G D e 16 52 (.bool false), G D e 17 9 (.bool false)]) (by kernel_rfl) (by kernel_rfl) (by kernel_rfl) ?_ ?_ ?_
    ·intro sz mz
     exact ⟨mz, (Sub.rf R), nofun, nofun, nofun, nofun, nofun, nofun, nofun, nofun, nofun, nofun, nofun, nofun, nofun, nofun, nofun, nofun, nofun, nofun, trivial⟩
    ·refine ⟨?_, ?_, ?_, ?_, ?_, ?_, ?_, ?_, ?_, ?_, ?_, ?_, ?_, ?_, ?_, ?_, ?_, ?_, trivial⟩
     ·rintro D e s227 ⟨im, ib, i⟩ hk hf ha
      have kn := K1 (ib 1 _ R)
      exact kn.g (L.mv Y R R (L.nil (X.dk kn ⟨im, Sub.fresh ib R, i.u 0 (fun _ => R)⟩)))
     ·rintro D e s228 ⟨im, ib, i⟩ hk hf ha
      have kn := K1 ((i.p 0) (ha.at 0 R))
      exact kn.g (L.len sl27 Y R R (L.nil (X.dk kn ⟨im, Sub.fresh ib R, i.u 1 (fun _ => R)⟩)))
     ·rintro D e s229 ⟨im, ib, i⟩ hk hf ha
      have kn := K1 ((i.p 1) (ha.at 1 R))
      exact kn.g (L.bi Y R R R R (L.nil (X.dk kn ⟨im, Sub.fresh ib R, i.u 2 (fun _ => R)⟩)))
     ·rintro D e s230 ⟨im, ib, i⟩ hk hf ha
      have kn := K1 ((i.p 2) (ha.at 2 R))
      exact kn.g (L.mv Y R R (L.nil (X.dk kn ⟨im, Sub.fresh ib R, i.u 3 (fun _ => R)⟩)))
     ·rintro D e s263 ⟨im, ib, i⟩ hk hf ha
      have g3_ := (i.p 3) (ha.at 3 R)
      rw [hc231] at g3_
      have kn := K2 (ib 0 _ R) g3_
      exact kn.g (L.skip R R R R (L.nil (X.dk kn ⟨im, Sub.fresh ib R, i.u 4 (fun _ => R)⟩)))
     ·rintro D e s264 ⟨im, ib, i⟩ hk hf ha
      have g3_ := (i.p 3) (ha.at 3 R)
      rw [hc231] at g3_
      have kn := K2 ((i.p 4) (ha.at 4 R)) g3_
      exact kn.g (L.skip R R R R (L.nil (X.dk kn ⟨im, Sub.fresh ib R, i.u 5 (fun _ => R)⟩)))
     ·rintro D e s265 ⟨im, ib, i⟩ hk hf ha
      have g3_ := (i.p 3) (ha.at 3 R)
      rw [hc231] at g3_
      have kn := K2 ((i.p 5) (ha.at 5 R)) g3_
      exact kn.g (L.skip R R R R (L.nil (X.dk kn ⟨im, Sub.fresh ib R, i.u 6 (fun _ => R)⟩)))
     ·rintro D e s266 ⟨im, ib, i⟩ hk hf ha
      have g3_ := (i.p 3) (ha.at 3 R)
      rw [hc231] at g3_
      have kn := K2 ((i.p 6) (ha.at 6 R)) g3_
      exact kn.g (L.skip R R R R (L.nil (X.dk kn ⟨im, Sub.fresh ib R, i.u 7 (fun _ => R)⟩)))
     ·rintro D e s267 ⟨im, ib, i⟩ hk hf ha
      have kn := K2 (ib 1 _ R) ((i.p 7) (ha.at 7 R))
      exact kn.g (L.skipU R R R (L.nil (X.dk kn ⟨im, Sub.fresh ib R, i.u 8 (fun _ => R)⟩)))
     ·rintro D e s268 ⟨im, ib, i⟩ hk hf ha
      have kn := K2 ((i.p 8) (ha.at 8 R)) ((i.p 7) (ha.at 7 R))
      exact kn.g (L.skipU R R R (L.nil (X.dk kn ⟨im, Sub.fresh ib R, i.u 9 (fun _ => R)⟩)))
     ·rintro D e s269 ⟨im, ib, i⟩ hk hf ha
      have kn := K2 ((i.p 9) (ha.at 9 R)) ((i.p 7) (ha.at 7 R))
      exact kn.g (L.skipU R R R (L.nil (X.dk kn ⟨im, Sub.fresh ib R, i.u 10 (fun _ => R)⟩)))
     ·rintro D e s270 ⟨im, ib, i⟩ hk hf ha
      have kn := K2 (ib 0 _ R) ((i.p 7) (ha.at 7 R))
      exact kn.g (L.skipU R R R (L.nil (X.dk kn ⟨im, Sub.fresh ib R, i.u 11 (fun _ => R)⟩)))
     ·rintro D e s271 ⟨im, ib, i⟩ hk hf ha
      have kn := K2 ((i.p 11) (ha.at 11 R)) ((i.p 7) (ha.at 7 R))
      exact kn.g (L.skipU R R R (L.nil (X.dk kn ⟨im, Sub.fresh ib R, i.u 12 (fun _ => R)⟩)))
     ·rintro D e s272 ⟨im, ib, i⟩ hk hf ha
      have kn := K2 ((i.p 12) (ha.at 12 R)) ((i.p 7) (ha.at 7 R))
      exact kn.g (L.skipU R R R (L.nil (X.dk kn ⟨im, Sub.fresh ib R, i.u 13 (fun _ => R)⟩)))
     ·rintro D e s273 ⟨im, ib, i⟩ hk hf ha
      have kn := K3 ((i.p 10) (ha.at 10 R)) ((i.p 13) (ha.at 13 R)) ((i.p 7) (ha.at 7 R))
      exact kn.g (L.skipU R R R (L.nil (X.dk kn ⟨im, Sub.fresh ib R, i.u 14 (fun _ => R)⟩)))
     ·rintro D e s274 ⟨im, ib, i⟩ hk hf ha
      have g3_ := (i.p 3) (ha.at 3 R)
      rw [hc231] at g3_
      have kn := K3 ((i.p 7) (ha.at 7 R)) ((i.p 14) (ha.at 14 R)) g3_
      exact kn.g (L.skip R R R R (L.nil (X.dk kn ⟨im, Sub.fresh ib R, i.u 15 (fun _ => R)⟩)))
     ·rintro D e s275 ⟨im, ib, i⟩ hk hf ha
      have g3_ := (i.p 3) (ha.at 3 R)
      rw [hc231] at g3_
      have kn := K2 g3_ ((i.p 15) (ha.at 15 R))
      exact kn.g (L.pkF Y R R R R (L.nil (X.dk kn ⟨im, Sub.fresh ib R, i.u 16 (fun _ => R)⟩)))
     rintro D e s276 ⟨im, ib, i⟩ hk hf ha
     have kn := K1 ((i.p 16) (ha.at 16 R))
     exact kn.g (L.as Y R R (L.nil (X.dk kn ⟨im, Sub.fresh ib R, i.u 17 (fun _ => R)⟩)))
    rintro D e s277 hD ⟨im, ib, i⟩
    have g17_ := (i.p 17) (hD 17 R)
    have h5 := h5.mv im no_No no_No
    have h7 := h7.mono im.z
    have h9 := h9.mono im.z
    have hp2 := hp2.mono im.z
    have m0 := m0.trans im.no
    refine X.sub (e' := [(9, .bool false), (8, .bool b177), (7, .slice a5 st170.1.length c5), (0, .slice a7 st170.2.1.length c7), (1, .slice a9 st170.2.2.length c9), (2, vp2)]) ?_ (Sub.cons g17_ (Sub.cons (ib 8 _ R) (Sub.cons (ib 7 _ R) (Sub.cons (ib 0 _ R) (Sub.cons (ib 1 _ R) (Sub.cons (ib 2 _ R) Sub.nil))))))
    exact X.sub (Jj182 _ _ ⟨s277, false, hm, m0, h5, h7, h9, hp2, R, R⟩) (Sub.rf R)
   intro Jj179
   rcases ifS hm with ⟨hc282, hm⟩ | ⟨hc282, hm⟩
   ·have _ := hN
    rcases ifS hm with ⟨hc287, hm⟩ | ⟨hc287, hm⟩
    ·have _ := hN
     refine E.draw m_alphabet_merge_w0 (fun D e sx => Mv No s173 sx ∧ Sub [(7, .slice a5 st170.1.length c5), (0, .slice a7 st170.2.1.length c7), (1, .slice a9 st170.2.2.length c9), (2, vp2)] e ∧ AllP [G D e 0 19 (.slice a7 st170.2.1.length c7), G D e 1 20 (.int .i64 (st170.2.1.length : Int)), G D e 2 21 (.bool (decide ((st170.2.1.length : Int) > 0))), G D e 3 22 (.bool (decide ((st170.2.1.length : Int) > 0))), G D e 4 23 (.slice a9 st170.2.2.length c9), G D e 5 24 (.int .i64 (st170.2.2.length : Int)), G D e 6 25 (.bool ((st170.2.2.length : Int) == 0)), G D e 7 26 (.bool ((st170.2.2.length : Int) == 0)), G D e 8 27 undef, G D e 9 28 undef, G D e 10 29 undef, G D e 11 30 undef, G D e 12 31 undef, G D e 13 32 undef, G D e 14 33 undef, G D e 15 34 (.bool true), G D e 16 35 (.bool true), G D e 17 8 (.bool true)]) (by kernel_rfl) (by kernel_rfl) (by kernel_rfl) ?_ ?_ ?_
     ·intro sz mz
      exact ⟨mz, (Sub.rf R), nofun, nofun, nofun, nofun, nofun, nofun, nofun, nofun, nofun, nofun, nofun, nofun, nofun, nofun, nofun, nofun, nofun, nofun, trivial⟩
     ·refine ⟨?_, ?_, ?_, ?_, ?_, ?_, ?_, ?_, ?_, ?_, ?_, ?_, ?_, ?_, ?_, ?_, ?_, ?_, trivial⟩
      ·rintro D e s278 ⟨im, ib, i⟩ hk hf ha
       have kn := K1 (ib 0 _ R)
       exact kn.g (L.mv Y R R (L.nil (X.dk kn ⟨im, Sub.fresh ib R, i.u 0 (fun _ => R)⟩)))
      ·rintro D e s279 ⟨im, ib, i⟩ hk hf ha
       have kn := K1 ((i.p 0) (ha.at 0 R))
       exact kn.g (L.len sl27 Y R R (L.nil (X.dk kn ⟨im, Sub.fresh ib R, i.u 1 (fun _ => R)⟩)))
      ·rintro D e s280 ⟨im, ib, i⟩ hk hf ha
       have kn := K1 ((i.p 1) (ha.at 1 R))
       exact kn.g (L.bi Y R R R R (L.nil (X.dk kn ⟨im, Sub.fresh ib R, i.u 2 (fun _ => R)⟩)))
      ·rintro D e s281 ⟨im, ib, i⟩ hk hf ha
       have kn := K1 ((i.p 2) (ha.at 2 R))
       exact kn.g (L.mv Y R R (L.nil (X.dk kn ⟨im, Sub.fresh ib R, i.u 3 (fun _ => R)⟩)))
      ·rintro D e s283 ⟨im, ib, i⟩ hk hf ha
       have g3_ := (i.p 3) (ha.at 3 R)
       rw [hc282] at g3_
       have kn := K2 (ib 1 _ R) g3_
       exact kn.g (L.mv (Wt.mk R R) R R (L.nil (X.dk kn ⟨im, Sub.fresh ib R, i.u 4 (fun _ => R)⟩)))
      ·rintro D e s284 ⟨im, ib, i⟩ hk hf ha
       have g3_ := (i.p 3) (ha.at 3 R)
       rw [hc282] at g3_
       have kn := K2 ((i.p 4) (ha.at 4 R)) g3_
       exact kn.g (L.len sl27 (Wt.mk R R) R R (L.nil (X.dk kn ⟨im, Sub.fresh ib R, i.u 5 (fun _ => R)⟩)))
      ·rintro D e s285 ⟨im, ib, i⟩ hk hf ha
       have g3_ := (i.p 3) (ha.at 3 R)
       rw [hc282] at g3_
       have kn := K2 ((i.p 5) (ha.at 5 R)) g3_
       exact kn.g (L.bi (Wt.mk R R) R R R R (L.nil (X.dk kn ⟨im, Sub.fresh ib R, i.u 6 (fun _ => R)⟩)))
      ·rintro D e s286 ⟨im, ib, i⟩ hk hf ha
       have g3_ := (i.p 3) (ha.at 3 R)
       rw [hc282] at g3_
       have kn := K2 ((i.p 6) (ha.at 6 R)) g3_
       exact kn.g (L.mv (Wt.mk R R) R R (L.nil (X.dk kn ⟨im, Sub.fresh ib R, i.u 7 (fun _ => R)⟩)))
      ·rintro D e s288 ⟨im, ib, i⟩ hk hf ha
       have g7_ := (i.p 7) (ha.at 7 R)
       rw [hc287] at g7_
       have kn := K2 (ib 0 _ R) g7_
       exact kn.g (L.skip R R R R (L.nil (X.dk kn ⟨im, Sub.fresh ib R, i.u 8 (fun _ => R)⟩)))
      ·rintro D e s289 ⟨im, ib, i⟩ hk hf ha
       have g7_ := (i.p 7) (ha.at 7 R)
       rw [hc287] at g7_
       have kn := K2 ((i.p 8) (ha.at 8 R)) g7_
       exact kn.g (L.skip R R R R (L.nil (X.dk kn ⟨im, Sub.fresh ib R, i.u 9 (fun _ => R)⟩)))
      ·rintro D e s290 ⟨im, ib, i⟩ hk hf ha
       have g7_ := (i.p 7) (ha.at 7 R)
       rw [hc287] at g7_
       have kn := K2 ((i.p 9) (ha.at 9 R)) g7_
       exact kn.g (L.skip R R R R (L.nil (X.dk kn ⟨im, Sub.fresh ib R, i.u 10 (fun _ => R)⟩)))
      ·rintro D e s291 ⟨im, ib, i⟩ hk hf ha
       have g7_ := (i.p 7) (ha.at 7 R)
       rw [hc287] at g7_
       have kn := K2 (ib 1 _ R) g7_
       exact kn.g (L.skip R R R R (L.nil (X.dk kn ⟨im, Sub.fresh ib R, i.u 11 (fun _ => R)⟩)))
      ·rintro D e s292 ⟨im, ib, i⟩ hk hf ha
       have g7_ := (i.p 7) (ha.at 7 R)
       rw [hc287] at g7_
       have kn := K2 ((i.p 11) (ha.at 11 R)) g7_
       exact kn.g (L.skip R R R R (L.nil (X.dk kn ⟨im, Sub.fresh ib R, i.u 12 (fun _ => R)⟩)))
      ·rintro D e s293 ⟨im, ib, i⟩ hk hf ha
       have g7_ := (i.p 7) (ha.at 7 R)
       rw [hc287] at g7_
       have kn := K2 ((i.p 12) (ha.at 12 R)) g7_
       exact kn.g (L.skip R R R R (L.nil (X.dk kn ⟨im, Sub.fresh ib R, i.u 13 (fun _ => R)⟩)))
      ·rintro D e s294 ⟨im, ib, i⟩ hk hf ha
       have g7_ := (i.p 7) (ha.at 7 R)
       rw [hc287] at g7_
       have kn := K3 ((i.p 10) (ha.at 10 R)) ((i.p 13) (ha.at 13 R)) g7_
       exact kn.g (L.skip R R R R (L.nil (X.dk kn ⟨im, Sub.fresh ib R, i.u 14 (fun _ => R)⟩)))
      ·rintro D e s295 ⟨im, ib, i⟩ hk hf ha
       have g3_ := (i.p 3) (ha.at 3 R)
       have g7_ := (i.p 7) (ha.at 7 R)
       rw [hc287] at g7_
       rw [hc282] at g3_
       have kn := K3 g7_ ((i.p 14) (ha.at 14 R)) g3_
       exact kn.g (L.pkT (Wt.mk R R) R R R R (L.nil (X.dk kn ⟨im, Sub.fresh ib R, i.u 15 (fun _ => R)⟩)))
      ·rintro D e s296 ⟨im, ib, i⟩ hk hf ha
       have g3_ := (i.p 3) (ha.at 3 R)
       rw [hc282] at g3_
       have kn := K2 g3_ ((i.p 15) (ha.at 15 R))
       exact kn.g (L.pkT Y R R R R (L.nil (X.dk kn ⟨im, Sub.fresh ib R, i.u 16 (fun _ => R)⟩)))
      rintro D e s297 ⟨im, ib, i⟩ hk hf ha
      have kn := K1 ((i.p 16) (ha.at 16 R))
      exact kn.g (L.as Y R R (L.nil (X.dk kn ⟨im, Sub.fresh ib R, i.u 17 (fun _ => R)⟩)))
     rintro D e s298 hD ⟨im, ib, i⟩
     have g17_ := (i.p 17) (hD 17 R)
     have h5 := h5.mv im no_No no_No
     have h7 := h7.mono im.z
     have h9 := h9.mono im.z
     have hp2 := hp2.mono im.z
     have m0 := m0.trans im.no
     refine X.sub (e' := [(8, .bool true), (7, .slice a5 st170.1.length c5), (0, .slice a7 st170.2.1.length c7), (1, .slice a9 st170.2.2.length c9), (2, vp2)]) ?_ (Sub.cons g17_ (Sub.cons (ib 7 _ R) (Sub.cons (ib 0 _ R) (Sub.cons (ib 1 _ R) (Sub.cons (ib 2 _ R) Sub.nil)))))
     exact X.sub (Jj179 _ _ ⟨s298, true, hm, m0, h5, h7, h9, hp2, R, R⟩) (Sub.rf R)
    have _ := hN
    obtain ⟨x301, ex301, hm⟩ := bindS hm
    obtain ⟨x306, ex306, hm⟩ := bindS hm
    refine E.draw m_alphabet_merge_w0 (fun D e sx => Mv No s173 sx ∧ Sub [(7, .slice a5 st170.1.length c5), (0, .slice a7 st170.2.1.length c7), (1, .slice a9 st170.2.2.length c9), (2, vp2)] e ∧ AllP [G D e 0 19 (.slice a7 st170.2.1.length c7), G D e 1 20 (.int .i64 (st170.2.1.length : Int)), G D e 2 21 (.bool (decide ((st170.2.1.length : Int) > 0))), G D e 3 22 (.bool (decide ((st170.2.1.length : Int) > 0))), G D e 4 23 (.slice a9 st170.2.2.length c9), G D e 5 24 (.int .i64 (st170.2.2.length : Int)), G D e 6 25 (.bool ((st170.2.2.length : Int) == 0)), G D e 7 26 (.bool ((st170.2.2.length : Int) == 0)), G D e 8 27 (.slice a7 st170.2.1.length c7), D 9 = true → (∃ (b302 : Nat) (o302 : Nat), Env.get e 28 = some (.pointer (some ⟨b302, o302, none⟩)) ∧ Mem sx 0 b302 o302 [.int .i64 x301]), G D e 10 29 (.int .i64 x301), G D e 11 30 (.slice a9 st170.2.2.length c9), D 12 = true → (∃ (b307 : Nat) (o307 : Nat), Env.get e 31 = some (.pointer (some ⟨b307, o307, none⟩)) ∧ Mem sx 0 b307 o307 [.int .i64 x306]), G D e 13 32 (.int .i64 x306), G D e 14 33 (.bool (decide (x301 ≤ x306))), G D e 15 34 (.bool (decide (x301 ≤ x306))), G D e 16 35 (.bool (decide (x301 ≤ x306))), G D e 17 8 (.bool (decide (x301 ≤ x306)))]) (by kernel_rfl) (by kernel_rfl) (by kernel_rfl) ?_ ?_ ?_
    ·intro sz mz
     exact ⟨mz, (Sub.rf R), nofun, nofun, nofun, nofun, nofun, nofun, nofun, nofun, nofun, nofun, nofun, nofun, nofun, nofun, nofun, nofun, nofun, nofun, trivial⟩
    ·refine ⟨?_, ?_, ?_, ?_, ?_, ?_, ?_, ?_, ?_, ?_, ?_, ?_, ?_, ?_, ?_, ?_, ?_, ?_, trivial⟩
     ·rintro D e s278 ⟨im, ib, i⟩ hk hf ha
      have kn := K1 (ib 0 _ R)
      exact kn.g (L.mv Y R R (L.nil (X.dk kn ⟨im, Sub.fresh ib R, i.u 0 (fun _ => R)⟩)))
     ·rintro D e s279 ⟨im, ib, i⟩ hk hf ha
      have kn := K1 ((i.p 0) (ha.at 0 R))
      exact kn.g (L.len sl27 Y R R (L.nil (X.dk kn ⟨im, Sub.fresh ib R, i.u 1 (fun _ => R)⟩)))
     ·rintro D e s280 ⟨im, ib, i⟩ hk hf ha
      have kn := K1 ((i.p 1) (ha.at 1 R))
      exact kn.g (L.bi Y R R R R (L.nil (X.dk kn ⟨im, Sub.fresh ib R, i.u 2 (fun _ => R)⟩)))
     ·rintro D e s281 ⟨im, ib, i⟩ hk hf ha
      have kn := K1 ((i.p 2) (ha.at 2 R))
      exact kn.g (L.mv Y R R (L.nil (X.dk kn ⟨im, Sub.fresh ib R, i.u 3 (fun _ => R)⟩)))
     ·rintro D e s283 ⟨im, ib, i⟩ hk hf ha
      have g3_ := (i.p 3) (ha.at 3 R)
      rw [hc282] at g3_
      have kn := K2 (ib 1 _ R) g3_
      exact kn.g (L.mv (Wt.mk R R) R R (L.nil (X.dk kn ⟨im, Sub.fresh ib R, i.u 4 (fun _ => R)⟩)))
     ·rintro D e s284 ⟨im, ib, i⟩ hk hf ha
      have g3_ := (i.p 3) (ha.at 3 R)
      rw [hc282] at g3_
      have kn := K2 ((i.p 4) (ha.at 4 R)) g3_
      exact kn.g (L.len sl27 (Wt.mk R R) R R (L.nil (X.dk kn ⟨im, Sub.fresh ib R, i.u 5 (fun _ => R)⟩)))
     ·rintro D e s285 ⟨im, ib, i⟩ hk hf ha
      have g3_ := (i.p 3) (ha.at 3 R)
      rw [hc282] at g3_
      have kn := K2 ((i.p 5) (ha.at 5 R)) g3_
      exact kn.g (L.bi (Wt.mk R R) R R R R (L.nil (X.dk kn ⟨im, Sub.fresh ib R, i.u 6 (fun _ => R)⟩)))
     ·rintro D e s286 ⟨im, ib, i⟩ hk hf ha
      have g3_ := (i.p 3) (ha.at 3 R)
      rw [hc282] at g3_
      have kn := K2 ((i.p 6) (ha.at 6 R)) g3_
      exact kn.g (L.mv (Wt.mk R R) R R (L.nil (X.dk kn ⟨im, Sub.fresh ib R, i.u 7 (fun _ => R)⟩)))
     ·rintro D e s299 ⟨im, ib, i⟩ hk hf ha
      have g7_ := (i.p 7) (ha.at 7 R)
      rw [hc287] at g7_
      have kn := K2 (ib 0 _ R) g7_
      exact kn.g (L.mv (Wt.mk R R) R R (L.nil (X.dk kn ⟨im, Sub.fresh ib R, i.u 8 (fun _ => R)⟩)))
     ·rintro D e s300 ⟨im, ib, i⟩ hk hf ha
      have g7_ := (i.p 7) (ha.at 7 R)
      have h7 := h7.mono im.z
      rw [hc287] at g7_
      have kn := K2 ((i.p 8) (ha.at 8 R)) g7_
      refine kn.g (L.ix (r := qI) sl27 h7 (Wt.mk R R) R R ex301 R fun b302 o302 cc302 me302 rd302 => ?_)
      obtain rfl := rd302
      exact L.nil (X.dk kn ⟨im, Sub.fresh ib R, i.u 9 (fun _ => ⟨b302, o302, R, me302⟩)⟩)
     ·rintro D e s303 ⟨im, ib, i⟩ hk hf ha
      have g7_ := (i.p 7) (ha.at 7 R)
      obtain ⟨b302, o302, g9_, me302⟩ := (i.p 9) (ha.at 9 R)
      rw [hc287] at g7_
      have kn := K2 g9_ g7_
      exact kn.g (L.ld (j := 0) me302 nag3 (Wt.mk R R) R R R R (L.nil (X.dk kn ⟨im, Sub.fresh ib R, i.u 10 (fun _ => R)⟩)))
     ·rintro D e s304 ⟨im, ib, i⟩ hk hf ha
      have g7_ := (i.p 7) (ha.at 7 R)
      rw [hc287] at g7_
      have kn := K2 (ib 1 _ R) g7_
      exact kn.g (L.mv (Wt.mk R R) R R (L.nil (X.dk kn ⟨im, Sub.fresh ib R, i.u 11 (fun _ => R)⟩)))
     ·rintro D e s305 ⟨im, ib, i⟩ hk hf ha
      have g7_ := (i.p 7) (ha.at 7 R)
      have h9 := h9.mono im.z
      rw [hc287] at g7_
      have kn := K2 ((i.p 11) (ha.at 11 R)) g7_
      refine kn.g (L.ix (r := qI) sl27 h9 (Wt.mk R R) R R ex306 R fun b307 o307 cc307 me307 rd307 => ?_)
      obtain rfl := rd307
      exact L.nil (X.dk kn ⟨im, Sub.fresh ib R, i.u 12 (fun _ => ⟨b307, o307, R, me307⟩)⟩)
     ·rintro D e s308 ⟨im, ib, i⟩ hk hf ha
      have g7_ := (i.p 7) (ha.at 7 R)
      obtain ⟨b307, o307, g12_, me307⟩ := (i.p 12) (ha.at 12 R)
      rw [hc287] at g7_
      have kn := K2 g12_ g7_
      exact kn.g (L.ld (j := 0) me307 nag3 (Wt.mk R R) R R R R (L.nil (X.dk kn ⟨im, Sub.fresh ib R, i.u 13 (fun _ => R)⟩)))
     ·rintro D e s309 ⟨im, ib, i⟩ hk hf ha
      have g7_ := (i.p 7) (ha.at 7 R)
      rw [hc287] at g7_
      have kn := K3 ((i.p 10) (ha.at 10 R)) ((i.p 13) (ha.at 13 R)) g7_
      exact kn.g (L.bi (Wt.mk R R) R R R R (L.nil (X.dk kn ⟨im, Sub.fresh ib R, i.u 14 (fun _ => R)⟩)))
     ·rintro D e s310 ⟨im, ib, i⟩ hk hf ha
      have g3_ := (i.p 3) (ha.at 3 R)
      have g7_ := (i.p 7) (ha.at 7 R)
      rw [hc287] at g7_
      rw [hc282] at g3_
      have kn := K3 g7_ ((i.p 14) (ha.at 14 R)) g3_
      exact kn.g (L.pkF (Wt.mk R R) R R R R (L.nil (X.dk kn ⟨im, Sub.fresh ib R, i.u 15 (fun _ => R)⟩)))
     ·rintro D e s311 ⟨im, ib, i⟩ hk hf ha
      have g3_ := (i.p 3) (ha.at 3 R)
      rw [hc282] at g3_
      have kn := K2 g3_ ((i.p 15) (ha.at 15 R))
      exact kn.g (L.pkT Y R R R R (L.nil (X.dk kn ⟨im, Sub.fresh ib R, i.u 16 (fun _ => R)⟩)))
     rintro D e s312 ⟨im, ib, i⟩ hk hf ha
     have kn := K1 ((i.p 16) (ha.at 16 R))
     exact kn.g (L.as Y R R (L.nil (X.dk kn ⟨im, Sub.fresh ib R, i.u 17 (fun _ => R)⟩)))
    rintro D e s313 hD ⟨im, ib, i⟩
    have g17_ := (i.p 17) (hD 17 R)
    have h5 := h5.mv im no_No no_No
    have h7 := h7.mono im.z
    have h9 := h9.mono im.z
    have hp2 := hp2.mono im.z
    have m0 := m0.trans im.no
    refine X.sub (e' := [(8, .bool (decide (x301 ≤ x306))), (7, .slice a5 st170.1.length c5), (0, .slice a7 st170.2.1.length c7), (1, .slice a9 st170.2.2.length c9), (2, vp2)]) ?_ (Sub.cons g17_ (Sub.cons (ib 7 _ R) (Sub.cons (ib 0 _ R) (Sub.cons (ib 1 _ R) (Sub.cons (ib 2 _ R) Sub.nil)))))
    exact X.sub (Jj179 _ _ ⟨s313, (decide (x301 ≤ x306)), hm, m0, h5, h7, h9, hp2, R, R⟩) (Sub.rf R)
   have _ := hN
   refine E.draw m_alphabet_merge_w0 (fun D e sx => Mv No s173 sx ∧ Sub [(7, .slice a5 st170.1.length c5), (0, .slice a7 st170.2.1.length c7), (1, .slice a9 st170.2.2.length c9), (2, vp2)] e ∧ AllP [G D e 0 19 (.slice a7 st170.2.1.length c7), G D e 1 20 (.int .i64 (st170.2.1.length : Int)), G D e 2 21 (.bool (decide ((st170.2.1.length : Int) > 0))), G D e 3 22 (.bool (decide ((st170.2.1.length : Int) > 0))), G D e 4 23 undef, G D e 5 24 undef, G D e 6 25 undef, G D e 7 26 undef, G D e 8 27 undef, G D e 9 28 undef, G D e 10 29 undef, G D e 11 30 undef, G D e 12 31 undef, G D e 13 32 undef, G D e 14 33 undef, G D e 15 34 undef, G D e 16 35 (.bool false), G D e 17 8 (.bool false)]) (by kernel_rfl) (by kernel_rfl) (by kernel_rfl) ?_ ?_ ?_
   ·intro sz mz
    exact ⟨mz, (Sub.rf R), nofun, nofun, nofun, nofun, nofun, nofun, nofun, nofun, nofun, nofun, nofun, nofun, nofun, nofun, nofun, nofun, nofun, nofun, trivial⟩
   ·refine ⟨?_, ?_, ?_, ?_, ?_, ?_, ?_, ?_, ?_, ?_, ?_, ?_, ?_, ?_, ?_, ?_, ?_, ?_, trivial⟩
    ·rintro D e s278 ⟨im, ib, i⟩ hk hf ha
     have kn := K1 (ib 0 _ R)
     exact kn.g (L.mv Y R R (L.nil (X.dk kn ⟨im, Sub.fresh ib R, i.u 0 (fun _ => R)⟩)))
    ·rintro D e s279 ⟨im, ib, i⟩ hk hf ha
     have kn := K1 ((i.p 0) (ha.at 0 R))
     exact kn.g (L.len sl27 Y R R (L.nil (X.dk kn ⟨im, Sub.fresh ib R, i.u 1 (fun _ => R)⟩)))
    ·rintro D e s280 ⟨im, ib, i⟩ hk hf ha
     have kn := K1 ((i.p 1) (ha.at 1 R))
     exact kn.g (L.bi Y R R R R (L.nil (X.dk kn ⟨im, Sub.fresh ib R, i.u 2 (fun _ => R)⟩)))
    ·rintro D e s281 ⟨im, ib, i⟩ hk hf ha
     have kn := K1 ((i.p 2) (ha.at 2 R))
     exact kn.g (L.mv Y R R (L.nil (X.dk kn ⟨im, Sub.fresh ib R, i.u 3 (fun _ => R)⟩)))
    ·rintro D e s314 ⟨im, ib, i⟩ hk hf ha
     have g3_ := (i.p 3) (ha.at 3 R)
     rw [hc282] at g3_
     have kn := K2 (ib 1 _ R) g3_
     exact kn.g (L.skip R R R R (L.nil (X.dk kn ⟨im, Sub.fresh ib R, i.u 4 (fun _ => R)⟩)))
    ·rintro D e s315 ⟨im, ib, i⟩ hk hf ha
     have g3_ := (i.p 3) (ha.at 3 R)
     rw [hc282] at g3_
     have kn := K2 ((i.p 4) (ha.at 4 R)) g3_
     exact kn.g (L.skip R R R R (L.nil (X.dk kn ⟨im, Sub.fresh ib R, i.u 5 (fun _ => R)⟩)))
    ·rintro D e s316 ⟨im, ib, i⟩ hk hf ha
     have g3_ := (i.p 3) (ha.at 3 R)
     rw [hc282] at g3_
     have kn := K2 ((i.p 5) (ha.at 5 R)) g3_
     exact kn.g (L.skip R R R R (L.nil (X.dk kn ⟨im, Sub.fresh ib R, i.u 6 (fun _ => R)⟩)))
    ·rintro D e s317 ⟨im, ib, i⟩ hk hf ha
     have g3_ := (i.p 3) (ha.at 3 R)
     rw [hc282] at g3_
     have kn := K2 ((i.p 6) (ha.at 6 R)) g3_
     exact kn.g (L.skip R R R R (L.nil (X.dk kn ⟨im, Sub.fresh ib R, i.u 7 (fun _ => R)⟩)))
    ·rintro D e s318 ⟨im, ib, i⟩ hk hf ha
     have kn := K2 (ib 0 _ R) ((i.p 7) (ha.at 7 R))
     exact kn.g (L.skipU R R R (L.nil (X.dk kn ⟨im, Sub.fresh ib R, i.u 8 (fun _ => R)⟩)))
    ·rintro D e s319 ⟨im, ib, i⟩ hk hf ha
     have kn := K2 ((i.p 8) (ha.at 8 R)) ((i.p 7) (ha.at 7 R))
     exact kn.g (L.skipU R R R (L.nil (X.dk kn ⟨im, Sub.fresh ib R, i.u 9 (fun _ => R)⟩)))
    ·rintro D e s320 ⟨im, ib, i⟩ hk hf ha
     have kn := K2 ((i.p 9) (ha.at 9 R)) ((i.p 7) (ha.at 7 R))
     exact kn.g (L.skipU R R R (L.nil (X.dk kn ⟨im, Sub.fresh ib R, i.u 10 (fun _ => R)⟩)))
    ·rintro D e s321 ⟨im, ib, i⟩ hk hf ha
     have kn := K2 (ib 1 _ R) ((i.p 7) (ha.at 7 R))
     exact kn.g (L.skipU R R R (L.nil (X.dk kn ⟨im, Sub.fresh ib R, i.u 11 (fun _ => R)⟩)))
    ·rintro D e s322 ⟨im, ib, i⟩ hk hf ha
     have kn := K2 ((i.p 11) (ha.at 11 R)) ((i.p 7) (ha.at 7 R))
     exact kn.g (L.skipU R R R (L.nil (X.dk kn ⟨im, Sub.fresh ib R, i.u 12 (fun _ => R)⟩)))
    ·rintro D e s323 ⟨im, ib, i⟩ hk hf ha
     have kn := K2 ((i.p 12) (ha.at 12 R)) ((i.p 7) (ha.at 7 R))
     exact kn.g (L.skipU R R R (L.nil (X.dk kn ⟨im, Sub.fresh ib R, i.u 13 (fun _ => R)⟩)))
    ·rintro D e s324 ⟨im, ib, i⟩ hk hf ha
     have kn := K3 ((i.p 10) (ha.at 10 R)) ((i.p 13) (ha.at 13 R)) ((i.p 7) (ha.at 7 R))
     exact kn.g (L.skipU R R R (L.nil (X.dk kn ⟨im, Sub.fresh ib R, i.u 14 (fun _ => R)⟩)))
    ·rintro D e s325 ⟨im, ib, i⟩ hk hf ha
     have g3_ := (i.p 3) (ha.at 3 R)
     rw [hc282] at g3_
     have kn := K3 ((i.p 7) (ha.at 7 R)) ((i.p 14) (ha.at 14 R)) g3_
     exact kn.g (L.skip R R R R (L.nil (X.dk kn ⟨im, Sub.fresh ib R, i.u 15 (fun _ => R)⟩)))
    ·rintro D e s326 ⟨im, ib, i⟩ hk hf ha
     have g3_ := (i.p 3) (ha.at 3 R)
     rw [hc282] at g3_
     have kn := K2 g3_ ((i.p 15) (ha.at 15 R))
     exact kn.g (L.pkF Y R R R R (L.nil (X.dk kn ⟨im, Sub.fresh ib R, i.u 16 (fun _ => R)⟩)))
    rintro D e s327 ⟨im, ib, i⟩ hk hf ha
    have kn := K1 ((i.p 16) (ha.at 16 R))
    exact kn.g (L.as Y R R (L.nil (X.dk kn ⟨im, Sub.fresh ib R, i.u 17 (fun _ => R)⟩)))
   rintro D e s328 hD ⟨im, ib, i⟩
   have g17_ := (i.p 17) (hD 17 R)
   have h5 := h5.mv im no_No no_No
   have h7 := h7.mono im.z
   have h9 := h9.mono im.z
   have hp2 := hp2.mono im.z
   have m0 := m0.trans im.no
   refine X.sub (e' := [(8, .bool false), (7, .slice a5 st170.1.length c5), (0, .slice a7 st170.2.1.length c7), (1, .slice a9 st170.2.2.length c9), (2, vp2)]) ?_ (Sub.cons g17_ (Sub.cons (ib 7 _ R) (Sub.cons (ib 0 _ R) (Sub.cons (ib 1 _ R) (Sub.cons (ib 2 _ R) Sub.nil)))))
   exact X.sub (Jj179 _ _ ⟨s328, false, hm, m0, h5, h7, h9, hp2, R, R⟩) (Sub.rf R)
  refine E.cF R hc (E.exit (X.seqX (X.seqX ?_)))
  have hx := ho170 _ (oi hm).symm
  subst hx
  exact X.sub (K175 _ _ ⟨s173, a5, c5, m0, h5, R, R⟩) (Sub.rf R)
 intro J329
 rcases Bool.eq_false_or_eq_true (decide ((st170.2.1.length : Int) > 0)) with hc | hc
 ·exact L.know (d := 14) R hc (L.skip R R R R (L.skip R R R R (L.skip R R R R (L.pkT Y R R R R (L.sb (J329 _ _ ⟨true, (orT hc).symm, R, R⟩) R)))))
 exact L.know (d := 14) R hc (L.mv (Wt.mk R R) R R (L.len sl27 (Wt.mk R R) R R (L.bi (Wt.mk R R) R R R R (L.pkF Y R R R R (L.sb (J329 _ _ ⟨(decide ((st170.2.2.length : Int) > 0)), (orF hc).symm, R, R⟩) R)))))

noncomputable def m_alphabet_Union_1 (p0 : Bool) (p1 : Bool) : Option Bool :=
 some (p0 || p1)
theorem m_alphabet_Union_1_c {s : Sig} {p0 : Bool} {p1 : Bool} {r : Bool} (hm : m_alphabet_Union_1 p0 p1 = some r) :
    Calls Tryz.prog 133 #[.bool p0, .bool p1] s.w (RetS No s fun v s' => v = .bool r) := by
 unfold m_alphabet_Union_1 at hm
 obtain ⟨N, hN, hNb⟩ := s.fresh
 have m0 : Mv (Up N No) s s := Mv.refl _ _
 refine E.entry Tryz.func133 R Tryz.ntmps133 R R (ER (L.as Y R R (LN (ER (L.mv Y R R (L.mv Y R R (L.cut 2 (fun e w => ∃ (v1 : Bool), (p0 || p1) = v1 ∧ e = (8, .bool v1) :: [] ∧ w = s.w) ?_ ?_)))))))
 ·rintro _ _ ⟨v1, rfl, rfl, rfl⟩
  refine L.as Y R R (LN (E.ret ?_))
  obtain rfl := oi hm
  exact X.rt (.inl R) Tryz.results133 (Rs.tmp R Rs.nil) R ⟨_, (s).ren N (fun _ => 0), R, R, m0.ren hNb, R⟩
 intro J2
 rcases Bool.eq_false_or_eq_true p0 with hc | hc
 ·exact L.know (d := 6) R hc (L.skip R R R R (L.pkT Y R R R R (L.sb (J2 _ _ ⟨true, (orT hc).symm, R, R⟩) R)))
 exact L.know (d := 6) R hc (L.mv (Wt.mk R R) R R (L.pkF Y R R R R (L.sb (J2 _ _ ⟨p1, (orF hc).symm, R, R⟩) R)))

theorem cf132 : Cf Tryz.prog 132 := Cf.mk Tryz.func132 (by kernel_rfl) (by kernel_rfl)
theorem cf133 : Cf Tryz.prog 133 := Cf.mk Tryz.func133 (by kernel_rfl) (by kernel_rfl)
theorem fv133 {s : Sig} : FV2 Tryz.prog s (.func (.func 133) #[] #[]) (fun (x0 : Bool) (x1 : Bool) => [.bool x0, .bool x1]) (fun r => .bool r) m_alphabet_Union_1 := ⟨133, #[], #[], rfl, cf133, fun x0 x1 r hm s' hl => by have hh := m_alphabet_Union_1_c (s := s') hm; simpa using hh⟩
noncomputable def m_alphabet_Union (p0 : List Int) (p1 : List Int) : Option (List Int) :=
 (m_alphabet_merge p0 p1 m_alphabet_Union_1).bind fun r4 =>
 some r4
theorem m_alphabet_Union_c {s : Sig} {p0 : List Int} {p1 : List Int} {a1 : Option Addr} {c1 : Nat} {a2 : Option Addr} {c2 : Nat} {u0 : Nat} {r : List Int} (h1 : RdL qI s a1 c1 p0) (h2 : RdL qI s a2 c2 p1) (hm : m_alphabet_Union p0 p1 = some r) :
    Calls Tryz.prog 107 #[.slice a1 p0.length c1, .slice a2 p1.length c2] s.w (RetS No s fun v s' => ∃ (a3 : Option Addr) (c3 : Nat), v = .slice a3 r.length c3 ∧ RowT qI s' u0 3 a3 c3 r) := by
 unfold m_alphabet_Union at hm
 obtain ⟨N, hN, hNb⟩ := s.fresh
 have m0 : Mv (Up N No) s s := Mv.refl _ _
 refine E.entry Tryz.func107 R Tryz.ntmps107 R R (ER (L.as Y R R (LN (ER (L.mv Y R R (L.mv Y R R ?_))))))
 obtain ⟨r4, er4, hm⟩ := bindS hm
 refine L.ca cf132 R R Y R (m_alphabet_merge_c (s := s) (p0 := p0) (p1 := p1) (p2 := m_alphabet_Union_1) (u0 := (N + 0)) h1 h2 fv133 er4) R ?_
 rintro _ s5 m6 ⟨a7, c7, rfl, h7⟩
 replace m0 := m0.trans m6.no
 refine L.as Y R R (LN (E.ret ?_))
 obtain rfl := oi hm
 exact X.rt (.inl R) Tryz.results107 (Rs.tmp R Rs.nil) R ⟨_, (s5).ren N (fun k => cond (Nat.beq k 0) u0 (0)), R, R, m0.ren hNb, ⟨a7, c7, R, (h7.ren hN)⟩⟩

end Go.Proofs.YtfbapajcheammaaGreatDoor

namespace Go.Proofs.YtfbapajcheammaaGreatDoor
open Go Go.RowKit
theorem cf107 : Cf Tryz.prog 107 := Cf.mk Tryz.func107 (by kernel_rfl) (by kernel_rfl)
noncomputable def m_product_events_l1 (p0 : List AutT) (st24 : Int × List Int) : Option ((Int × List Int) ⊕ (List Int)) :=
 if decide (st24.1 < (p0.length : Int)) then
  (idx p0 st24.1).bind fun x30 =>
  (m_alphabet_Union st24.2 x30.1).bind fun r41 =>
  some (.inl (W (st24.1 + 1), r41))
 else
  some (.inr st24.2)
noncomputable def m_product_events (p0 : List AutT) : Option (List Int) :=
 (iter (m_product_events_l1 p0) (0, ([] : List Int))).bind fun o24 =>
 some o24
theorem m_product_events_c {s : Sig} {p0 : List AutT} {a1 : Option Addr} {c1 : Nat} {u0 : Nat} {r : List Int} (h1 : RdL (rP (rL qI) (rP qI (rP (rL qI) (rL qT)))) s a1 c1 p0) (hm : m_product_events p0 = some r) :
    Calls Tryz.prog 81 #[.slice a1 p0.length c1] s.w (RetS No s fun v s' => ∃ (a2 : Option Addr) (c2 : Nat), v = .slice a2 r.length c2 ∧ RowT qI s' u0 3 a2 c2 r) := by
 unfold m_product_events at hm
 obtain ⟨N, hN, hNb⟩ := s.fresh
 have m0 : Mv (Up N No) s s := Mv.refl _ _
 refine E.entry Tryz.func81 R Tryz.ntmps81 R R (ER (L.as Y R R (LN (ER (L.as Y R R (LN (E.seq (ER (L.mv Y R R (L.len sl37 Y R R (L.mv Y R R (LN (E.block ?_)))))))))))))
 obtain ⟨o24, eo24, hm⟩ := bindS hm
 refine E.cut (x := .exit 0) (fun e w => ∃ (s28 : Sig) (a26 : Option Addr) (c26 : Nat), Mv (Up N No) s s28 ∧ RowT qI s28 (N + 1) 3 a26 c26 o24 ∧ e = [(3, .slice a26 o24.length c26)] ∧ w = s28.w) ?_ ?_
 ·rintro _ _ ⟨s28, a26, c26, m0, h26, rfl, rfl⟩
  refine X.blkE (X.seqN (ER (L.mv Y R R (L.as Y R R (LN (E.ret ?_))))))
  obtain rfl := oi hm
  exact X.rt (.inl R) Tryz.results81 (Rs.tmp R Rs.nil) R ⟨_, (s28).ren N (fun k => cond (Nat.beq k 1) u0 (0)), R, R, m0.ren hNb, ⟨a26, c26, R, (h26.ren hN)⟩⟩
 intro K29
 refine E.iter (fun (st24 : Int × List Int) (e : List (Nat × Value)) (w : World) => ∃ (s27 : Sig) (a5 : Option Addr) (c5 : Nat), Mv (Up N No) s s27 ∧ RdL (rP (rL qI) (rP qI (rP (rL qI) (rL qT)))) s27 a1 c1 p0 ∧ RowT qI s27 (N + 1) 3 a5 c5 st24.2 ∧ e = [(8, .int .i64 st24.1), (7, .int .i64 (p0.length : Int)), (6, .slice a1 p0.length c1), (3, .slice a5 st24.2.length c5)] ∧ w = s27.w) eo24 ⟨s, none, 0, m0, h1, RowT.nil, R, R⟩ (Sub.rf R) ?_
 rintro st24 res24 hm ih24 ho24 _ _ ⟨s27, a5, c5, m0, h1, h5, rfl, rfl⟩
 unfold m_product_events_l1 at hm
 refine ER (L.bi Y R R R R (LN (E.seq ?_)))
 rcases ifS hm with ⟨hc, hm⟩ | ⟨hc, hm⟩
 ·refine E.cT R hc (E.skip (X.seqN (E.seq (E.block (E.seq (E.reg ?_))))))
  obtain ⟨x30, ex30, hm⟩ := bindS hm
  refine L.ix (r := (rP (rL qI) (rP qI (rP (rL qI) (rL qT))))) sl37 h1 Y R R ex30 R fun b31 o31 cc31 me31 rd31 => ?_
  obtain ⟨_, _, rfl, ⟨a32, c32, rfl, h32⟩, ⟨_, _, rfl, rfl, ⟨_, _, rfl, ⟨a33, c33, rfl, h33⟩, ⟨a34, c34, rfl, h34⟩⟩⟩⟩ := rd31
  refine L.lg (j := 0) (cs := [.slice a32 x30.1.length c32, .int .i64 x30.2.1, .slice a33 x30.2.2.1.length c33, .slice a34 x30.2.2.2.length c34]) me31 ag30 Y R R R R R (L.al (N + 0) zz30 R Y R fun b35 s36 m37 bx35 => ?_)
  refine L.st (c := [.slice a32 x30.1.length c32, .int .i64 x30.2.1, .slice a33 x30.2.2.1.length c33, .slice a34 x30.2.2.2.length c34]) (cs' := #[.slice a32 x30.1.length c32, .int .i64 x30.2.1, .slice a33 x30.2.2.1.length c33, .slice a34 x30.2.2.2.length c34]) bx35 ag30.sz Y R R R R R (nb R) R fun s38 m39 bx35 => ?_
  refine LN (E.reg (L.mv Y R R (L.fa fa30_0 Y R R (L.ld (j := 0) bx35.mem nag27 Y R R R R ?_))))
  have m40 := Sig.fz_mv (N + 1) s38
  replace h5 := ((h5.mv m37 no_No no_No).mv m39 (tq R) (tg0 hN)).fz (tgn hN)
  replace h32 := ((h32.mono m37.z).mono (m39.le (tg0 hN))).mono (m40.le (tg0 hN))
  refine L.toR (s' := (Sig.fz (N + 1) s38)) R ?_
  obtain ⟨r41, er41, hm⟩ := bindS hm
  refine L.ca cf107 R R Y R (m_alphabet_Union_c (s := (Sig.fz (N + 1) s38)) (p0 := st24.2) (p1 := x30.1) (u0 := (N + 1)) h5 h32 er41) R ?_
  rintro _ s42 m43 ⟨a44, c44, rfl, h44⟩
  replace m0 := (((m0.trans m37.no).trans (m39.one up)).trans (m40.one up)).trans m43.no
  replace h1 := (((h1.mono m37.z).mono (m39.le (tg0 hN))).mono (m40.le (tg0 hN))).mono m43.z
  exact L.as Y R R (L.nil (X.blkN (X.seqN (E.reg (L.bi Y R R R R (L.mv Y R R (L.nil (X.sub (ih24 _ (oi hm).symm _ _ ⟨s42, a44, c44, m0, h1, h44, R, R⟩) (Sub.rf R)))))))))
 refine E.cF R hc (E.exit (X.seqX (X.seqX ?_)))
 have hx := ho24 _ (oi hm).symm
 subst hx
 exact X.sub (K29 _ _ ⟨s27, a5, c5, m0, h5, R, R⟩) (Sub.rf R)

theorem ag82 : Ag Tryz.prog 82 3 := Ag.mk' Tryz.underlying82 rfl (by kernel_rfl)
theorem bs80 : Bs Tryz.prog 80 119 1 [.map none] := Bs.mk' Tryz.underlying80 (by kernel_rfl) (by kernel_rfl) rfl
theorem cf81 : Cf Tryz.prog 81 := Cf.mk Tryz.func81 (by kernel_rfl) (by kernel_rfl)
theorem el119 : El Tryz.prog 119 1 8 := El.mk' (z := .map none) (by kernel_rfl) (by kernel_rfl) (by kernel_rfl) rfl
theorem fa82_2 : FA Tryz.prog 82 2 2 := FA.mk Tryz.underlying82 rfl rfl ⟨1, by decide, by kernel_rfl⟩
theorem md119 : Md Tryz.prog 119 120 3 kvP qI 0 (.int .i64 0) := Md.mk' Tryz.underlying119 (KE.pair' Tryz.underlying120 (by kernel_rfl) Tryz.underlying3 (by kernel_rfl) (NAg.mk' Tryz.underlying3 rfl (by kernel_rfl)).agg) (by kernel_rfl) (fun _ => rfl)
theorem nag80 : NAg Tryz.prog 80 := NAg.mk' Tryz.underlying80 rfl (by kernel_rfl)
theorem pl120 : Pl Tryz.prog 120 (plK 1 2 0) [.int .i64 0, .int .i64 0] := Pl.arr Tryz.underlying120 (by kernel_rfl) (by kernel_rfl)
theorem pl82 : Pl Tryz.prog 82 [(0, 1), (1, 1), (2, 1)] [.slice none 0 0, .slice none 0 0, .slice none 0 0] := Pl.str Tryz.underlying82 (by kernel_rfl) (by kernel_rfl)
theorem zz82 : (Tryz.prog.info? 82).bind (·.zero) = some (.agg #[.slice none 0 0, .slice none 0 0, .slice none 0 0]) := by kernel_rfl
noncomputable def m_product_open_l2 (x81 : AutT) (st107 : Int × (List ((Int × Int) × Int))) : Option ((Int × (List ((Int × Int) × Int))) ⊕ (List ((Int × Int) × Int))) :=
 if decide (st107.1 < (x81.2.2.2.length : Int)) then
  (idx x81.2.2.2 st107.1).bind fun x122 =>
  some (.inl (W (st107.1 + 1), (kput st107.2 (x122.1, x122.2.1) x122.2.2)))
 else
  some (.inr st107.2)
noncomputable def m_product_open_l1 (p0 : List AutT) (st73 : Int × (List (List ((Int × Int) × Int)))) : Option ((Int × (List (List ((Int × Int) × Int)))) ⊕ (List (List ((Int × Int) × Int)))) :=
 if decide (st73.1 < (p0.length : Int)) then
  (idx p0 st73.1).bind fun x81 =>
  (iter (m_product_open_l2 x81) (0, ([] : List ((Int × Int) × Int)))).bind fun o107 =>
  (app st73.2 ([o107] : List (List ((Int × Int) × Int)))).bind fun x115 =>
  some (.inl (W (st73.1 + 1), x115))
 else
  some (.inr st73.2)
noncomputable def m_product_open (p0 : List AutT) : Option ((List AutT) × List Int × (List (List ((Int × Int) × Int)))) :=
 (m_product_events p0).bind fun r8 =>
 (iter (m_product_open_l1 p0) (0, ([] : List (List ((Int × Int) × Int))))).bind fun o73 =>
 some (p0, r8, o73)
theorem m_product_open_c {s : Sig} {p0 : List AutT} {a1 : Option Addr} {c1 : Nat} {u1 : Nat} {u2 : Nat} {r : ((List AutT) × List Int × (List (List ((Int × Int) × Int))))} (h1 : RdL (rP (rL qI) (rP qI (rP (rL qI) (rL qT)))) s a1 c1 p0) (hm : m_product_open p0 = some r) :
    Calls Tryz.prog 48 #[.slice a1 p0.length c1] s.w (RetS No s fun v s' => ∃ (a2 : Option Addr) (c2 : Nat) (a3 : Option Addr) (c3 : Nat) (a4 : Option Addr) (c4 : Nat), v = .agg #[.slice a2 r.1.length c2, .slice a3 r.2.1.length c3, .slice a4 r.2.2.length c4] ∧ RdL (rP (rL qI) (rP qI (rP (rL qI) (rL qT)))) s' a2 c2 r.1 ∧ RowT qI s' u1 3 a3 c3 r.2.1 ∧ RowT (rM kvP qI) s' u2 119 a4 c4 r.2.2) := by
 unfold m_product_open at hm
 obtain ⟨N, hN, hNb⟩ := s.fresh
 have m0 : Mv (Up N No) s s := Mv.refl _ _
 refine E.entry Tryz.func48 R Tryz.ntmps48 R R (ER (L.al (N + 0) zz82 R Y R fun b5 s6 m7 bx5 => ?_))
 replace h1 := h1.mono m7.z
 refine LN (ER (L.mv Y R R (L.mv Y R R ?_)))
 obtain ⟨r8, er8, hm⟩ := bindS hm
 refine L.ca cf81 R R Y R (m_product_events_c (s := s6) (p0 := p0) (u0 := (N + 6)) h1 er8) R ?_
 rintro _ s9 m10 ⟨a11, c11, rfl, h11⟩
 refine L.bu (cs := [.slice a1 p0.length c1, .slice a11 r8.length c11, .slice none 0 0]) pl82 Y R R R (L.al (N + 1) zz82 R Y R fun b12 s13 m14 bx12 => ?_)
 refine L.st (c := [.slice a1 p0.length c1, .slice a11 r8.length c11, .slice none 0 0]) (cs' := #[.slice a1 p0.length c1, .slice a11 r8.length c11, .slice none 0 0]) bx12 ag82.sz Y R R R R R (nb R) R fun s15 m16 bx12 => ?_
 replace m0 := (((m0.trans m7.no).trans m10.no).trans m14.no).trans (m16.one up)
 replace h1 := ((h1.mono m10.z).mono m14.z).mono (m16.le (tg0 hN))
 replace bx5 := ((bx5.mv m10 no_No).mv m14 no_No).mv m16 (tq R)
 replace h11 := (h11.mv m14 no_No no_No).mv m16 (tq R) (tg0 hN)
 refine LN (E.seq (ER (L.mv Y R R (L.len sl37 Y R R (L.mv Y R R (LN (E.block ?_)))))))
 obtain ⟨o73, eo73, hm⟩ := bindS hm
 refine E.cut (x := .exit 0) (fun e w => ∃ (s77 : Sig) (a75 : Option Addr) (c75 : Nat), Mv (Up N No) s s77 ∧ RdL (rP (rL qI) (rP qI (rP (rL qI) (rL qT)))) s77 a1 c1 p0 ∧ RowT qI s77 (N + 6) 3 a11 c11 r8 ∧ RowT (rM kvP qI) s77 (N + 5) 119 a75 c75 o73 ∧ Bx s77 (N + 0) b5 #[.slice none 0 0, .slice none 0 0, .slice none 0 0] 82 ∧ Bx s77 (N + 1) b12 #[.slice a1 p0.length c1, .slice a11 r8.length c11, .slice a75 o73.length c75] 82 ∧ e = [(3, .pointer (some ⟨b12, 0, none⟩)), (2, .pointer (some ⟨b5, 0, none⟩))] ∧ w = s77.w) ?_ ?_
 ·rintro _ _ ⟨s77, a75, c75, m0, h1, h11, h75, bx5, bx12, rfl, rfl⟩
  refine X.blkE (X.seqN (ER (L.lg (j := 0) (cs := [.slice a1 p0.length c1, .slice a11 r8.length c11, .slice a75 o73.length c75]) bx12.mem ag82 Y R R R R R (L.st (c := [.slice a1 p0.length c1, .slice a11 r8.length c11, .slice a75 o73.length c75]) (cs' := #[.slice a1 p0.length c1, .slice a11 r8.length c11, .slice a75 o73.length c75]) bx5 ag82.sz Y R R R R R (nb R) R fun s78 m79 bx5 => ?_))))
  replace m0 := m0.trans (m79.one up)
  replace h1 := h1.mono (m79.le (tg0 hN))
  replace h11 := h11.mv m79 (tq R) (tg0 hN)
  replace h75 := h75.mv m79 (tq R) (tg0 hN)
  refine LN (E.ret ?_)
  obtain rfl := oi hm
  exact X.rt (.inl R) Tryz.results48 (Rs.cell R bx5 ag82 R Rs.nil) R ⟨_, (s78).ren N (fun k => cond (Nat.beq k 6) u1 (cond (Nat.beq k 5) u2 (0))), R, R, m0.ren hNb, ⟨a1, c1, a11, c11, a75, c75, R, (h1.ren hN), (h11.ren hN), (h75.ren hN)⟩⟩
 intro K80
 refine E.iter (fun (st73 : Int × (List (List ((Int × Int) × Int)))) (e : List (Nat × Value)) (w : World) => ∃ (s76 : Sig) (a19 : Option Addr) (c19 : Nat), Mv (Up N No) s s76 ∧ RdL (rP (rL qI) (rP qI (rP (rL qI) (rL qT)))) s76 a1 c1 p0 ∧ RowT qI s76 (N + 6) 3 a11 c11 r8 ∧ RowT (rM kvP qI) s76 (N + 5) 119 a19 c19 st73.2 ∧ Bx s76 (N + 0) b5 #[.slice none 0 0, .slice none 0 0, .slice none 0 0] 82 ∧ Bx s76 (N + 1) b12 #[.slice a1 p0.length c1, .slice a11 r8.length c11, .slice a19 st73.2.length c19] 82 ∧ e = [(15, .int .i64 st73.1), (14, .int .i64 (p0.length : Int)), (13, .slice a1 p0.length c1), (3, .pointer (some ⟨b12, 0, none⟩)), (2, .pointer (some ⟨b5, 0, none⟩))] ∧ w = s76.w) eo73 ⟨s15, none, 0, m0, h1, h11, RowT.nil, bx5, bx12, R, R⟩ (Sub.rf R) ?_
 rintro st73 res73 hm ih73 ho73 _ _ ⟨s76, a19, c19, m0, h1, h11, h19, bx5, bx12, rfl, rfl⟩
 unfold m_product_open_l1 at hm
 refine ER (L.bi Y R R R R (LN (E.seq ?_)))
 rcases ifS hm with ⟨hc, hm⟩ | ⟨hc, hm⟩
 ·refine E.cT R hc (E.skip (X.seqN (E.seq (E.block (E.seq (E.reg ?_))))))
  obtain ⟨x81, ex81, hm⟩ := bindS hm
  refine L.ix (r := (rP (rL qI) (rP qI (rP (rL qI) (rL qT))))) sl37 h1 Y R R ex81 R fun b82 o82 cc82 me82 rd82 => ?_
  obtain ⟨_, _, rfl, ⟨a83, c83, rfl, h83⟩, ⟨_, _, rfl, rfl, ⟨_, _, rfl, ⟨a84, c84, rfl, h84⟩, ⟨a85, c85, rfl, h85⟩⟩⟩⟩ := rd82
  refine L.lg (j := 0) (cs := [.slice a83 x81.1.length c83, .int .i64 x81.2.1, .slice a84 x81.2.2.1.length c84, .slice a85 x81.2.2.2.length c85]) me82 ag30 Y R R R R R (L.al (N + 2) zz30 R Y R fun b86 s87 m88 bx86 => ?_)
  refine L.st (c := [.slice a83 x81.1.length c83, .int .i64 x81.2.1, .slice a84 x81.2.2.1.length c84, .slice a85 x81.2.2.2.length c85]) (cs' := #[.slice a83 x81.1.length c83, .int .i64 x81.2.1, .slice a84 x81.2.2.1.length c84, .slice a85 x81.2.2.2.length c85]) bx86 ag30.sz Y R R R R R (nb R) R fun s89 m90 bx86 => ?_
  refine LN (ER (L.mk2 (kv := kvP) (r := qI) (T := 119) (N + 3) R Y fun y91 c91 s92 m93 h91 => ?_))
  replace h91 := h91.as (T' := 0) (Le.refl _) R (fun _ e => e)
  replace m0 := ((m0.trans m88.no).trans (m90.one up)).trans m93.no
  replace h1 := ((h1.mono m88.z).mono (m90.le (tg0 hN))).mono m93.z
  replace bx5 := ((bx5.mv m88 no_No).mv m90 (tq R)).mv m93 no_No
  replace bx12 := ((bx12.mv m88 no_No).mv m90 (tq R)).mv m93 no_No
  replace h11 := ((h11.mv m88 no_No no_No).mv m90 (tq R) (tg0 hN)).mv m93 no_No no_No
  replace h19 := ((h19.mv m88 no_No no_No).mv m90 (tq R) (tg0 hN)).mv m93 no_No no_No
  replace bx86 := bx86.mv m93 no_No
  replace h85 := ((h85.mono m88.z).mono (m90.le (tg0 hN))).mono m93.z
  refine L.as Y R R (LN (E.seq (ER (L.fa fa30_3 Y R R (L.ld (j := 3) bx86.mem nag28 Y R R R R (L.len sl28 Y R R (L.mv Y R R (LN (E.block ?_)))))))))
  obtain ⟨o107, eo107, hm⟩ := bindS hm
  refine E.cut (x := .exit 2) (fun e w => ∃ (s110 : Sig), Mv (Up N No) s s110 ∧ MapO kvP qI s110 (N + 3) 0 y91 c91 o107 ∧ RdL (rP (rL qI) (rP qI (rP (rL qI) (rL qT)))) s110 a1 c1 p0 ∧ RowT qI s110 (N + 6) 3 a11 c11 r8 ∧ RowT (rM kvP qI) s110 (N + 5) 119 a19 c19 st73.2 ∧ Bx s110 (N + 0) b5 #[.slice none 0 0, .slice none 0 0, .slice none 0 0] 82 ∧ Bx s110 (N + 1) b12 #[.slice a1 p0.length c1, .slice a11 r8.length c11, .slice a19 st73.2.length c19] 82 ∧ e = [(6, .map y91), (15, .int .i64 st73.1), (14, .int .i64 (p0.length : Int)), (13, .slice a1 p0.length c1), (3, .pointer (some ⟨b12, 0, none⟩)), (2, .pointer (some ⟨b5, 0, none⟩))] ∧ w = s110.w) ?_ ?_
  ·rintro _ _ ⟨s110, m0, h91, h1, h11, h19, bx5, bx12, rfl, rfl⟩
   refine X.blkE (X.seqN (E.reg (L.fa fa82_2 Y R R (L.ld (j := 2) bx12.mem nag80 Y R R R R (L.mv Y R R ?_)))))
   have m111 := Sig.fz_mv (N + 3) s110
   refine L.toR (s' := (Sig.fz (N + 3) s110)) R (L.bsE (k := 1) (cs := [.map y91]) 0 bs80 (nb R) Y R R R R fun b112 s113 m114 bx112 => ?_)
   replace h19 := (h19.mv m111 (tq R) (tg0 hN)).mv m114 no_No no_No
   replace h91 := (h91.fz (tgn hN)).mono m114.z
   have h112 := Bx.rdL (r := (rM kvP qI)) (xs := ([o107] : List (List ((Int × Int) × Int)))) bx112 ⟨[.map y91], _, R, ⟨_, _, R, h91⟩, R⟩ (nb R)
   obtain ⟨x115, ex115, hm⟩ := bindS hm
   refine L.ap (r := (rM kvP qI)) Tryz.underlying80 el119 R (tgp hN) h19 h112.wk Y R R ex115 R fun a116 c116 s117 m118 h116 => ?_
   replace bx12 := ((bx12.mv m111 (tq R)).mv m114 no_No).mv m118 (tq R)
   refine L.fa fa82_2 Y R R (L.st (c := [.slice a116 x115.length c116]) (cs' := #[.slice a1 p0.length c1, .slice a11 r8.length c11, .slice a116 x115.length c116]) bx12 nag80.sz Y R R R R R (nb R) R fun s119 m120 bx12 => ?_)
   replace m0 := (((m0.trans (m111.one up)).trans m114.no).trans (m118.one up)).trans (m120.one up)
   replace h1 := (((h1.mono (m111.le (tg0 hN))).mono m114.z).mono (m118.le (tg0 hN))).mono (m120.le (tg0 hN))
   replace bx5 := (((bx5.mv m111 (tq R)).mv m114 no_No).mv m118 (tq R)).mv m120 (tq R)
   replace h11 := (((h11.mv m111 (tq R) (tg0 hN)).mv m114 no_No no_No).mv m118 (tq R) (tg0 hN)).mv m120 (tq R) (tg0 hN)
   replace h116 := h116.mv m120 (tq R) (tg0 hN)
   exact L.nil (X.blkN (X.seqN (E.reg (L.bi Y R R R R (L.mv Y R R (L.nil (X.sub (ih73 _ (oi hm).symm _ _ ⟨s119, a116, c116, m0, h1, h11, h116, bx5, bx12, R, R⟩) (Sub.rf R))))))))
  intro K121
  refine E.iter (fun (st107 : Int × (List ((Int × Int) × Int))) (e : List (Nat × Value)) (w : World) => ∃ (s109 : Sig), Mv (Up N No) s s109 ∧ RdL qT s109 a85 c85 x81.2.2.2 ∧ MapO kvP qI s109 (N + 3) 0 y91 c91 st107.2 ∧ RdL (rP (rL qI) (rP qI (rP (rL qI) (rL qT)))) s109 a1 c1 p0 ∧ RowT qI s109 (N + 6) 3 a11 c11 r8 ∧ RowT (rM kvP qI) s109 (N + 5) 119 a19 c19 st73.2 ∧ Bx s109 (N + 0) b5 #[.slice none 0 0, .slice none 0 0, .slice none 0 0] 82 ∧ Bx s109 (N + 1) b12 #[.slice a1 p0.length c1, .slice a11 r8.length c11, .slice a19 st73.2.length c19] 82 ∧ e = [(23, .int .i64 st107.1), (22, .int .i64 (x81.2.2.2.length : Int)), (21, .slice a85 x81.2.2.2.length c85), (6, .map y91), (15, .int .i64 st73.1), (14, .int .i64 (p0.length : Int)), (13, .slice a1 p0.length c1), (3, .pointer (some ⟨b12, 0, none⟩)), (2, .pointer (some ⟨b5, 0, none⟩))] ∧ w = s109.w) eo107 ⟨s92, m0, h85, h91, h1, h11, h19, bx5, bx12, R, R⟩ (Sub.rf R) ?_
  rintro st107 res107 hm ih107 ho107 _ _ ⟨s109, m0, h85, h91, h1, h11, h19, bx5, bx12, rfl, rfl⟩
  unfold m_product_open_l2 at hm
  refine ER (L.bi Y R R R R (LN (E.seq ?_)))
  rcases ifS hm with ⟨hc, hm⟩ | ⟨hc, hm⟩
  ·refine E.cT R hc (E.skip (X.seqN (E.seq (E.block (E.seq (E.reg ?_))))))
   obtain ⟨x122, ex122, hm⟩ := bindS hm
   refine L.ix (r := qT) sl28 h85 Y R R ex122 R fun b123 o123 cc123 me123 rd123 => ?_
   obtain ⟨_, _, rfl, rfl, ⟨_, _, rfl, rfl, rfl⟩⟩ := rd123
   refine L.lg (j := 0) (cs := [.int .i64 x122.1, .int .i64 x122.2.1, .int .i64 x122.2.2]) me123 ag62 Y R R R R R (L.al (N + 4) zz62 R Y R fun b124 s125 m126 bx124 => ?_)
   refine L.st (c := [.int .i64 x122.1, .int .i64 x122.2.1, .int .i64 x122.2.2]) (cs' := #[.int .i64 x122.1, .int .i64 x122.2.1, .int .i64 x122.2.2]) bx124 ag62.sz Y R R R R R (nb R) R fun s127 m128 bx124 => ?_
   replace h91 := (h91.mv m126 no_No no_No).mv m128 (tq R) (tg0 hN)
   refine LN (E.reg (L.mv Y R R (L.fa fa62_0 Y R R (L.ld (j := 0) bx124.mem nag3 Y R R R R (L.fa fa62_1 Y R R (L.ld (j := 1) bx124.mem nag3 Y R R R R (L.bu (cs := [.int .i64 x122.1, .int .i64 x122.2.1]) pl120 Y R R R (L.fa fa62_2 Y R R (L.ld (j := 2) bx124.mem nag3 Y R R R R (L.mu (k := (x122.1, x122.2.1)) (v := x122.2.2) md119 h91 R (tpos hN) (fun _ _ => eqP) Y R R R fun s129 m130 h91 => ?_))))))))))
   replace m0 := ((m0.trans m126.no).trans (m128.one up)).trans (m130.one up)
   replace h1 := ((h1.mono m126.z).mono (m128.le (tg0 hN))).mono (m130.le (tg0 hN))
   replace h85 := ((h85.mono m126.z).mono (m128.le (tg0 hN))).mono (m130.le (tg0 hN))
   replace bx5 := ((bx5.mv m126 no_No).mv m128 (tq R)).mv m130 (tq R)
   replace bx12 := ((bx12.mv m126 no_No).mv m128 (tq R)).mv m130 (tq R)
   replace h11 := ((h11.mv m126 no_No no_No).mv m128 (tq R) (tg0 hN)).mv m130 (tq R) (tg0 hN)
   replace h19 := ((h19.mv m126 no_No no_No).mv m128 (tq R) (tg0 hN)).mv m130 (tq R) (tg0 hN)
   exact L.nil (X.blkN (X.seqN (E.reg (L.bi Y R R R R (L.mv Y R R (L.nil (X.sub (ih107 _ (oi hm).symm _ _ ⟨s129, m0, h85, h91, h1, h11, h19, bx5, bx12, R, R⟩) (Sub.rf R))))))))
  refine E.cF R hc (E.exit (X.seqX (X.seqX ?_)))
  have hx := ho107 _ (oi hm).symm
  subst hx
  exact X.sub (K121 _ _ ⟨s109, m0, h91, h1, h11, h19, bx5, bx12, R, R⟩) (Sub.rf R)
 refine E.cF R hc (E.exit (X.seqX (X.seqX ?_)))
 have hx := ho73 _ (oi hm).symm
 subst hx
 exact X.sub (K80 _ _ ⟨s76, a19, c19, m0, h1, h11, h19, bx5, bx12, R, R⟩) (Sub.rf R)

theorem fa82_0 : FA Tryz.prog 82 0 0 := FA.mk Tryz.underlying82 rfl rfl ⟨1, by decide, by kernel_rfl⟩
theorem nag37 : NAg Tryz.prog 37 := NAg.mk' Tryz.underlying37 rfl (by kernel_rfl)
noncomputable def m_product_machine_initial_l1 (p0 : (List AutT) × List Int × (List (List ((Int × Int) × Int)))) (st20 : Int) : Option (Int ⊕ (Unit ⊕ Unit)) :=
 if decide (st20 < (p0.1.length : Int)) then
  (idx p0.1 st20).bind fun x32 =>
  if (x32.2.1 == 0) then
   some (.inr (.inr (())))
  else
   some (.inl (W (st20 + 1)))
 else
  some (.inr (.inl ()))
noncomputable def m_product_machine_initial (p0 : (List AutT) × List Int × (List (List ((Int × Int) × Int)))) : Option (List Int × Bool) :=
 (iter (m_product_machine_initial_l1 p0) 0).bind fun o20 =>
 match o20 with
 | .inl u22 =>
  (mkL (p0.1.length : Int) (0 : Int)).bind fun x24 =>
  some (x24, true)
 | .inr (u29) =>
  some (([] : List Int), false)
theorem m_product_machine_initial_c {s : Sig} {p0 : (List AutT) × List Int × (List (List ((Int × Int) × Int)))} {a1 : Option Addr} {c1 : Nat} {a2 : Option Addr} {c2 : Nat} {a3 : Option Addr} {c3 : Nat} {u0 : Nat} {r : List Int × Bool} (h1 : RdL (rP (rL qI) (rP qI (rP (rL qI) (rL qT)))) s a1 c1 p0.1) (h2 : RdL qI s a2 c2 p0.2.1) (h3 : RdL (rM kvP qI) s a3 c3 p0.2.2) (hm : m_product_machine_initial p0 = some r) :
    Calls Tryz.prog 49 #[.agg #[.slice a1 p0.1.length c1, .slice a2 p0.2.1.length c2, .slice a3 p0.2.2.length c3]] s.w (RetS No s fun v s' => ∃ (a4 : Option Addr) (c4 : Nat), v = .tuple #[.slice a4 r.1.length c4, .bool r.2] ∧ RowT qI s' u0 3 a4 c4 r.1) := by
 unfold m_product_machine_initial at hm
 obtain ⟨N, hN, hNb⟩ := s.fresh
 have m0 : Mv (Up N No) s s := Mv.refl _ _
 refine E.entry Tryz.func49 R Tryz.ntmps49 R R (ER (L.box (N + 0) Y R R R fun b5 s6 m7 bx5 => ?_))
 replace m0 := m0.trans m7.no
 replace h1 := h1.mono m7.z
 replace h2 := h2.mono m7.z
 replace h3 := h3.mono m7.z
 refine L.as Y R R (L.as Y R R (LN (E.seq (ER (L.fa fa82_0 Y R R (L.ld (j := 0) bx5.mem nag37 Y R R R R (L.len sl37 Y R R (L.mv Y R R (LN (E.block ?_))))))))))
 obtain ⟨o20, eo20, hm⟩ := bindS hm
 refine E.cut (x := .exit 0) (fun e w => ∃ (s23 : Sig) (u22 : Unit), o20 = .inl u22 ∧ Mv (Up N No) s s23 ∧ RdL (rP (rL qI) (rP qI (rP (rL qI) (rL qT)))) s23 a1 c1 p0.1 ∧ RdL qI s23 a2 c2 p0.2.1 ∧ RdL (rM kvP qI) s23 a3 c3 p0.2.2 ∧ Bx s23 (N + 0) b5 #[.slice a1 p0.1.length c1, .slice a2 p0.2.1.length c2, .slice a3 p0.2.2.length c3] 82 ∧ e = [(1, .pointer (some ⟨b5, 0, none⟩))] ∧ w = s23.w) ?_ ?_
 ·rintro _ _ ⟨s23, u22, rfl, m0, h1, h2, h3, bx5, rfl, rfl⟩
  dsimp only at hm
  refine X.blkE (X.seqN (ER (L.fa fa82_0 Y R R (L.ld (j := 0) bx5.mem nag37 Y R R R R (L.len sl37 Y R R ?_)))))
  obtain ⟨x24, ex24, hm⟩ := bindS hm
  refine L.mk (z := (0 : Int)) (N + 2) Tryz.underlying27 zr3 R Y R R ex24 R fun b25 s26 m27 h25 => ?_
  replace m0 := m0.trans m27.no
  refine L.as Y R R (L.as Y R R (LN (E.ret ?_)))
  obtain rfl := oi hm
  exact X.rt (.inl R) Tryz.results49 (Rs.tmp R (Rs.tmp R Rs.nil)) R ⟨_, (s26).ren N (fun k => cond (Nat.beq k 2) u0 (0)), R, R, m0.ren hNb, ⟨(some ⟨b25, 0, none⟩), x24.length, R, (h25.ren hN)⟩⟩
 intro K28
 refine E.cut (x := .ret) (fun e w => ∃ (s30 : Sig) (u29 : Unit), o20 = .inr (u29) ∧ Mv (Up N No) s s30 ∧ e = [(3, .bool false), (2, .slice none 0 0)] ∧ w = s30.w) ?_ ?_
 ·rintro _ _ ⟨s30, u29, rfl, m0, rfl, rfl⟩
  dsimp only at hm
  refine X.blkR (X.seqR ?_)
  obtain rfl := oi hm
  exact X.rt (.inl R) Tryz.results49 (Rs.tmp R (Rs.tmp R Rs.nil)) R ⟨_, (s30).ren N (fun _ => 0), R, R, m0.ren hNb, ⟨none, 0, R, RowT.nil⟩⟩
 intro K31
 refine E.iter (fun (st20 : Int) (e : List (Nat × Value)) (w : World) => ∃ (s21 : Sig), Mv (Up N No) s s21 ∧ RdL (rP (rL qI) (rP qI (rP (rL qI) (rL qT)))) s21 a1 c1 p0.1 ∧ RdL qI s21 a2 c2 p0.2.1 ∧ RdL (rM kvP qI) s21 a3 c3 p0.2.2 ∧ Bx s21 (N + 0) b5 #[.slice a1 p0.1.length c1, .slice a2 p0.2.1.length c2, .slice a3 p0.2.2.length c3] 82 ∧ e = [(9, .int .i64 st20), (8, .int .i64 (p0.1.length : Int)), (7, .slice a1 p0.1.length c1), (1, .pointer (some ⟨b5, 0, none⟩))] ∧ w = s21.w) eo20 ⟨s6, m0, h1, h2, h3, bx5, R, R⟩ (Sub.rf R) ?_
 rintro st20 res20 hm ih20 ho20 _ _ ⟨s21, m0, h1, h2, h3, bx5, rfl, rfl⟩
 unfold m_product_machine_initial_l1 at hm
 refine ER (L.bi Y R R R R (LN (E.seq ?_)))
 rcases ifS hm with ⟨hc, hm⟩ | ⟨hc, hm⟩
 ·refine E.cT R hc (E.skip (X.seqN (E.seq (E.block (E.seq (E.reg ?_))))))
  obtain ⟨x32, ex32, hm⟩ := bindS hm
  refine L.ix (r := (rP (rL qI) (rP qI (rP (rL qI) (rL qT))))) sl37 h1 Y R R ex32 R fun b33 o33 cc33 me33 rd33 => ?_
  obtain ⟨_, _, rfl, ⟨a34, c34, rfl, h34⟩, ⟨_, _, rfl, rfl, ⟨_, _, rfl, ⟨a35, c35, rfl, h35⟩, ⟨a36, c36, rfl, h36⟩⟩⟩⟩ := rd33
  refine L.lg (j := 0) (cs := [.slice a34 x32.1.length c34, .int .i64 x32.2.1, .slice a35 x32.2.2.1.length c35, .slice a36 x32.2.2.2.length c36]) me33 ag30 Y R R R R R (L.al (N + 1) zz30 R Y R fun b37 s38 m39 bx37 => ?_)
  refine L.st (c := [.slice a34 x32.1.length c34, .int .i64 x32.2.1, .slice a35 x32.2.2.1.length c35, .slice a36 x32.2.2.2.length c36]) (cs' := #[.slice a34 x32.1.length c34, .int .i64 x32.2.1, .slice a35 x32.2.2.1.length c35, .slice a36 x32.2.2.2.length c36]) bx37 ag30.sz Y R R R R R (nb R) R fun s40 m41 bx37 => ?_
  replace m0 := (m0.trans m39.no).trans (m41.one up)
  replace h1 := (h1.mono m39.z).mono (m41.le (tg0 hN))
  replace bx5 := (bx5.mv m39 no_No).mv m41 (tq R)
  replace h2 := (h2.mono m39.z).mono (m41.le (tg0 hN))
  replace h3 := (h3.mono m39.z).mono (m41.le (tg0 hN))
  refine LN (ER (L.fa fa30_1 Y R R (L.ld (j := 1) bx37.mem nag3 Y R R R R (L.bi Y R R R R (L.nil (X.seqN ?_))))))
  rcases ifS hm with ⟨hc, hm⟩ | ⟨hc, hm⟩
  ·refine E.cT R hc (ER (L.as Y R R (L.as Y R R (LN (E.ret (X.blkR (X.seqR (X.seqR ?_))))))))
   have hx := ho20 _ (oi hm).symm
   exact X.sub (K31 _ _ ⟨s40, (), hx.symm, m0, R, R⟩) (Sub.rf R)
  exact E.cF R hc (E.skip (X.blkN (X.seqN (E.reg (L.bi Y R R R R (L.mv Y R R (L.nil (X.sub (ih20 _ (oi hm).symm _ _ ⟨s40, m0, h1, h2, h3, bx5, R, R⟩) (Sub.rf R)))))))))
 refine E.cF R hc (E.exit (X.seqX (X.seqX ?_)))
 have hx := ho20 _ (oi hm).symm
 exact X.sub (K28 _ _ ⟨s21, (), hx.symm, m0, h1, h2, h3, bx5, R, R⟩) (Sub.rf R)

noncomputable def m_cmp_isNaN_int (p0 : Int) : Option Bool :=
 some (p0 != p0)
theorem m_cmp_isNaN_int_c {s : Sig} {p0 : Int} {r : Bool} (hm : m_cmp_isNaN_int p0 = some r) :
    Calls Tryz.prog 130 #[.int .i64 p0] s.w (RetS No s fun v s' => v = .bool r) := by
 unfold m_cmp_isNaN_int at hm
 obtain ⟨N, hN, hNb⟩ := s.fresh
 have m0 : Mv (Up N No) s s := Mv.refl _ _
 refine E.entry Tryz.func130 R Tryz.ntmps130 R R (ER (L.as Y R R (LN (ER (L.mv Y R R (L.mv Y R R (L.bi Y R R R R (L.as Y R R (LN (E.ret ?_))))))))))
 obtain rfl := oi hm
 exact X.rt (.inl R) Tryz.results130 (Rs.tmp R Rs.nil) R ⟨_, (s).ren N (fun _ => 0), R, R, m0.ren hNb, R⟩

theorem cf130 : Cf Tryz.prog 130 := Cf.mk Tryz.func130 (by kernel_rfl) (by kernel_rfl)
noncomputable def m_cmp_Less_int (p0 : Int) (p1 : Int) : Option Bool :=
 (m_cmp_isNaN_int p0).bind fun r1 =>
 (if r1 then
  (m_cmp_isNaN_int p1).bind fun r10 =>
  some (!r10)
 else
  some false).bind fun b4 =>
 some (b4 || (decide (p0 < p1)))
theorem m_cmp_Less_int_c {s : Sig} {p0 : Int} {p1 : Int} {r : Bool} (hm : m_cmp_Less_int p0 p1 = some r) :
    Calls Tryz.prog 97 #[.int .i64 p0, .int .i64 p1] s.w (RetS No s fun v s' => v = .bool r) := by
 unfold m_cmp_Less_int at hm
 obtain ⟨N, hN, hNb⟩ := s.fresh
 have m0 : Mv (Up N No) s s := Mv.refl _ _
 refine E.entry Tryz.func97 R Tryz.ntmps97 R R (ER (L.as Y R R (LN (ER (L.mv Y R R ?_)))))
 obtain ⟨r1, er1, hm⟩ := bindS hm
 refine L.ca cf130 R R Y R (m_cmp_isNaN_int_c (s := s) (p0 := p0) er1) R ?_
 rintro _ s2 m3 rfl
 replace m0 := m0.trans m3.no
 refine L.mv Y R R ?_
 obtain ⟨b4, eb4, hm⟩ := bindS hm
 refine L.cut 4 (fun e w => ∃ (s6 : Sig) (v5 : Bool), b4 = v5 ∧ Mv (Up N No) s s6 ∧ e = (11, .bool v5) :: [(0, .int .i64 p0), (1, .int .i64 p1)] ∧ w = s6.w) ?_ ?_
 ·rintro _ _ ⟨s6, v5, rfl, m0, rfl, rfl⟩
  refine L.mv Y R R (L.cut 4 (fun e w => ∃ (v7 : Bool), (b4 || (decide (p0 < p1))) = v7 ∧ e = (16, .bool v7) :: [] ∧ w = s6.w) ?_ ?_)
  ·rintro _ _ ⟨v7, rfl, rfl, rfl⟩
   refine L.as Y R R (LN (E.ret ?_))
   obtain rfl := oi hm
   exact X.rt (.inl R) Tryz.results97 (Rs.tmp R Rs.nil) R ⟨_, (s6).ren N (fun _ => 0), R, R, m0.ren hNb, R⟩
  intro J8
  rcases Bool.eq_false_or_eq_true b4 with hc | hc
  ·exact L.know (d := 12) R hc (L.skip R R R R (L.skip R R R R (L.skip R R R R (L.pkT Y R R R R (L.sb (J8 _ _ ⟨true, (orT hc).symm, R, R⟩) R)))))
  exact L.know (d := 12) R hc (L.mv (Wt.mk R R) R R (L.mv (Wt.mk R R) R R (L.bi (Wt.mk R R) R R R R (L.pkF Y R R R R (L.sb (J8 _ _ ⟨(decide (p0 < p1)), (orF hc).symm, R, R⟩) R)))))
 intro J9
 rcases ifS eb4 with ⟨hc, hm⟩ | ⟨hc, hm⟩
 ·refine L.know (d := 7) R hc (L.mv (Wt.mk R R) R R ?_)
  obtain ⟨r10, er10, hm⟩ := bindS hm
  refine L.ca cf130 R R (Wt.mk R R) R (m_cmp_isNaN_int_c (s := s2) (p0 := p1) er10) R ?_
  rintro _ s11 m12 rfl
  replace m0 := m0.trans m12.no
  exact L.not (Wt.mk R R) R R (L.pkT Y R R R R (L.sb (J9 _ _ ⟨s11, (!r10), (oi hm).symm, m0, R, R⟩) R))
 exact L.know (d := 7) R hc (L.skip R R R R (L.skip R R R R (L.skip R R R R (L.pkF Y R R R R (L.sb (J9 _ _ ⟨s2, false, (oi hm).symm, m0, R, R⟩) R)))))

noncomputable def m_slices_isNaN_int (p0 : Int) : Option Bool :=
 some (p0 != p0)
theorem m_slices_isNaN_int_c {s : Sig} {p0 : Int} {r : Bool} (hm : m_slices_isNaN_int p0 = some r) :
    Calls Tryz.prog 98 #[.int .i64 p0] s.w (RetS No s fun v s' => v = .bool r) := by
 unfold m_slices_isNaN_int at hm
 obtain ⟨N, hN, hNb⟩ := s.fresh
 have m0 : Mv (Up N No) s s := Mv.refl _ _
 refine E.entry Tryz.func98 R Tryz.ntmps98 R R (ER (L.as Y R R (LN (ER (L.mv Y R R (L.mv Y R R (L.bi Y R R R R (L.as Y R R (LN (E.ret ?_))))))))))
 obtain rfl := oi hm
 exact X.rt (.inl R) Tryz.results98 (Rs.tmp R Rs.nil) R ⟨_, (s).ren N (fun _ => 0), R, R, m0.ren hNb, R⟩

theorem cf97 : Cf Tryz.prog 97 := Cf.mk Tryz.func97 (by kernel_rfl) (by kernel_rfl)
theorem cf98 : Cf Tryz.prog 98 := Cf.mk Tryz.func98 (by kernel_rfl) (by kernel_rfl)
noncomputable def m_slices_BinarySearch_int_l1 (p0 : List Int) (p1 : Int) (st11 : Int × Int) : Option ((Int × Int) ⊕ Int) :=
 if decide (st11.2 < st11.1) then
  (idx p0 (W ((IntKind.u64.wrap (W (st11.2 + st11.1))).fdiv (2 ^ (min (1 : Int).toNat 64))))).bind fun x38 =>
  (m_cmp_Less_int x38 p1).bind fun r40 =>
  if r40 then
   some (.inl (st11.1, W ((W ((IntKind.u64.wrap (W (st11.2 + st11.1))).fdiv (2 ^ (min (1 : Int).toNat 64)))) + 1)))
  else
   some (.inl (W ((IntKind.u64.wrap (W (st11.2 + st11.1))).fdiv (2 ^ (min (1 : Int).toNat 64))), st11.2))
 else
  some (.inr st11.2)
noncomputable def m_slices_BinarySearch_int (p0 : List Int) (p1 : Int) : Option (Int × Bool) :=
 (iter (m_slices_BinarySearch_int_l1 p0 p1) ((p0.length : Int), 0)).bind fun o11 =>
 (if decide (o11 < (p0.length : Int)) then
  (idx p0 o11).bind fun x19 =>
  (if (x19 == p1) then
   some true
  else
   (idx p0 o11).bind fun x25 =>
   (m_slices_isNaN_int x25).bind fun r27 =>
   (if r27 then
    (m_slices_isNaN_int p1).bind fun r34 =>
    some r34
   else
    some false).bind fun b30 =>
   some b30).bind fun b21 =>
  some b21
 else
  some false).bind fun b15 =>
 some (o11, b15)
theorem m_slices_BinarySearch_int_c {s : Sig} {p0 : List Int} {p1 : Int} {a1 : Option Addr} {c1 : Nat} {r : Int × Bool} (h1 : RdL qI s a1 c1 p0) (hm : m_slices_BinarySearch_int p0 p1 = some r) :
    Calls Tryz.prog 66 #[.slice a1 p0.length c1, .int .i64 p1] s.w (RetS No s fun v s' => v = .tuple #[.int .i64 r.1, .bool r.2]) := by
 unfold m_slices_BinarySearch_int at hm
 obtain ⟨N, hN, hNb⟩ := s.fresh
 have m0 : Mv (Up N No) s s := Mv.refl _ _
 refine E.entry Tryz.func66 R Tryz.ntmps66 R R (ER (L.as Y R R (L.as Y R R (LN (ER (L.mv Y R R (L.len sl27 Y R R (L.as Y R R (LN (ER (L.mv Y R R (L.as Y R R (L.as Y R R (LN (E.seq (E.block ?_))))))))))))))))
 obtain ⟨o11, eo11, hm⟩ := bindS hm
 refine E.cut (x := .exit 0) (fun e w => ∃ (s14 : Sig), Mv (Up N No) s s14 ∧ RdL qI s14 a1 c1 p0 ∧ e = [(7, .int .i64 o11), (6, .int .i64 (p0.length : Int)), (0, .slice a1 p0.length c1), (1, .int .i64 p1)] ∧ w = s14.w) ?_ ?_
 ·rintro _ _ ⟨s14, m0, h1, rfl, rfl⟩
  refine X.blkE (X.seqN (ER (L.mv Y R R (L.mv Y R R (L.mv Y R R (L.bi Y R R R R (L.mv Y R R ?_)))))))
  obtain ⟨b15, eb15, hm⟩ := bindS hm
  refine L.cut 18 (fun e w => ∃ (s17 : Sig) (v16 : Bool), b15 = v16 ∧ Mv (Up N No) s s17 ∧ e = (53, .bool v16) :: [(31, .int .i64 o11)] ∧ w = s17.w) ?_ ?_
  ·rintro _ _ ⟨s17, v16, rfl, m0, rfl, rfl⟩
   refine L.as Y R R (L.as Y R R (LN (E.ret ?_)))
   obtain rfl := oi hm
   exact X.rt (.inl R) Tryz.results66 (Rs.tmp R (Rs.tmp R Rs.nil)) R ⟨_, (s17).ren N (fun _ => 0), R, R, m0.ren hNb, R⟩
  intro J18
  rcases ifS eb15 with ⟨hc, hm⟩ | ⟨hc, hm⟩
  ·refine L.know (d := 35) R hc (L.mv (Wt.mk R R) R R (L.mv (Wt.mk R R) R R ?_))
   obtain ⟨x19, ex19, hm⟩ := bindS hm
   refine L.ix (r := qI) sl27 h1 (Wt.mk R R) R R ex19 R fun b20 o20 cc20 me20 rd20 => ?_
   obtain rfl := rd20
   refine L.ld (j := 0) me20 nag3 (Wt.mk R R) R R R R (L.mv (Wt.mk R R) R R (L.bi (Wt.mk R R) R R R R (L.mv (Wt.mk R R) R R ?_)))
   obtain ⟨b21, eb21, hm⟩ := bindS hm
   refine L.cut 10 (fun e w => ∃ (s23 : Sig) (v22 : Bool), b21 = v22 ∧ Mv (Up N No) s s23 ∧ e = (52, .bool v22) :: [(35, .bool true), (31, .int .i64 o11)] ∧ w = s23.w) ?_ ?_
   ·rintro _ _ ⟨s23, v22, rfl, m0, rfl, rfl⟩
    exact L.pkT Y R R R R (L.sb (J18 _ _ ⟨s23, b21, (oi hm).symm, m0, R, R⟩) R)
   intro J24
   rcases ifS eb21 with ⟨hc, hm⟩ | ⟨hc, hm⟩
   ·exact L.know (d := 42) R hc (L.skip R R R R (L.skip R R R R (L.skip R R R R (L.skip R R R R (L.skip R R R R (L.skip R R R R (L.skipU R R R (L.skipU R R R (L.skip R R R R (L.pkT (Wt.mk R R) R R R R (L.sb (J24 _ _ ⟨s14, true, (oi hm).symm, m0, R, R⟩) R)))))))))))
   refine L.know (d := 42) R hc (L.mv (Wt.mk R R) R R (L.mv (Wt.mk R R) R R ?_))
   obtain ⟨x25, ex25, hm⟩ := bindS hm
   refine L.ix (r := qI) sl27 h1 (Wt.mk R R) R R ex25 R fun b26 o26 cc26 me26 rd26 => ?_
   obtain rfl := rd26
   refine L.ld (j := 0) me26 nag3 (Wt.mk R R) R R R R ?_
   obtain ⟨r27, er27, hm⟩ := bindS hm
   refine L.ca cf98 R R (Wt.mk R R) R (m_slices_isNaN_int_c (s := s14) (p0 := x25) er27) R ?_
   rintro _ s28 m29 rfl
   replace m0 := m0.trans m29.no
   refine L.mv (Wt.mk R R) R R ?_
   obtain ⟨b30, eb30, hm⟩ := bindS hm
   refine L.cut 3 (fun e w => ∃ (s32 : Sig) (v31 : Bool), b30 = v31 ∧ Mv (Up N No) s s32 ∧ e = (51, .bool v31) :: [(42, .bool false), (35, .bool true), (31, .int .i64 o11)] ∧ w = s32.w) ?_ ?_
   ·rintro _ _ ⟨s32, v31, rfl, m0, rfl, rfl⟩
    exact L.pkF (Wt.mk R R) R R R R (L.sb (J24 _ _ ⟨s32, b30, (oi hm).symm, m0, R, R⟩) R)
   intro J33
   rcases ifS eb30 with ⟨hc, hm⟩ | ⟨hc, hm⟩
   ·refine L.know (d := 48) R hc (L.mv (Wt.mk R R) R R ?_)
    obtain ⟨r34, er34, hm⟩ := bindS hm
    refine L.ca cf98 R R (Wt.mk R R) R (m_slices_isNaN_int_c (s := s28) (p0 := p1) er34) R ?_
    rintro _ s35 m36 rfl
    replace m0 := m0.trans m36.no
    exact L.pkT (Wt.mk R R) R R R R (L.sb (J33 _ _ ⟨s35, r34, (oi hm).symm, m0, R, R⟩) R)
   exact L.know (d := 48) R hc (L.skip R R R R (L.skip R R R R (L.pkF (Wt.mk R R) R R R R (L.sb (J33 _ _ ⟨s28, false, (oi hm).symm, m0, R, R⟩) R))))
  exact L.know (d := 35) R hc (L.skip R R R R (L.skip R R R R (L.skip R R R R (L.skip R R R R (L.skip R R R R (L.skip R R R R (L.skip R R R R (L.skipU R R R (L.skipU R R R (L.skipU R R R (L.skipU R R R (L.skipU R R R (L.skipU R R R (L.skipU R R R (L.skipU R R R (L.skipU R R R (L.skip R R R R (L.pkF Y R R R R (L.sb (J18 _ _ ⟨s14, false, (oi hm).symm, m0, R, R⟩) R)))))))))))))))))))
 intro K37
 refine E.iter (fun (st11 : Int × Int) (e : List (Nat × Value)) (w : World) => ∃ (s13 : Sig), Mv (Up N No) s s13 ∧ RdL qI s13 a1 c1 p0 ∧ e = [(8, .int .i64 st11.1), (7, .int .i64 st11.2), (6, .int .i64 (p0.length : Int)), (0, .slice a1 p0.length c1), (1, .int .i64 p1)] ∧ w = s13.w) eo11 ⟨s, m0, h1, R, R⟩ (Sub.rf R) ?_
 rintro st11 res11 hm ih11 ho11 _ _ ⟨s13, m0, h1, rfl, rfl⟩
 unfold m_slices_BinarySearch_int_l1 at hm
 refine E.seq (ER (L.mv Y R R (L.mv Y R R (L.bi Y R R R R (L.nil (X.seqN ?_))))))
 rcases ifS hm with ⟨hc, hm⟩ | ⟨hc, hm⟩
 ·refine E.cT R hc (E.skip (X.seqN (E.block (ER (L.mv Y R R (L.mv Y R R (L.bi Y R R R R (L.cv Tryz.underlying3 Tryz.underlying139 Y R R (L.shr Y R R (by decide) R (L.cv Tryz.underlying139 Tryz.underlying3 Y R R (L.as Y R R (LN (ER (L.mv Y R R (L.mv Y R R ?_)))))))))))))))
  obtain ⟨x38, ex38, hm⟩ := bindS hm
  refine L.ix (r := qI) sl27 h1 Y R R ex38 R fun b39 o39 cc39 me39 rd39 => ?_
  obtain rfl := rd39
  refine L.ld (j := 0) me39 nag3 Y R R R R (L.mv Y R R ?_)
  obtain ⟨r40, er40, hm⟩ := bindS hm
  refine L.ca cf97 R R Y R (m_cmp_Less_int_c (s := s13) (p0 := x38) (p1 := p1) er40) R ?_
  rintro _ s41 m42 rfl
  replace m0 := m0.trans m42.no
  replace h1 := h1.mono m42.z
  refine L.nil (X.seqN ?_)
  rcases ifS hm with ⟨hc, hm⟩ | ⟨hc, hm⟩
  ·exact E.cT R hc (E.reg (L.mv Y R R (L.bi Y R R R R (L.as Y R R (L.nil (X.blkN (X.sub (ih11 _ (oi hm).symm _ _ ⟨s41, m0, h1, R, R⟩) (Sub.rf R))))))))
  exact E.cF R hc (E.reg (L.mv Y R R (L.as Y R R (L.nil (X.blkN (X.sub (ih11 _ (oi hm).symm _ _ ⟨s41, m0, h1, R, R⟩) (Sub.rf R)))))))
 refine E.cF R hc (E.exit (X.seqX (X.seqX ?_)))
 have hx := ho11 _ (oi hm).symm
 subst hx
 exact X.sub (K37 _ _ ⟨s13, m0, h1, R, R⟩) (Sub.rf R)

end Go.Proofs.YtfbapajcheammaaGreatDoor

