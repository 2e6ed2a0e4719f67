/- What some functions compute, as plain functions (m_..), and that the code computes it. Written by gen.py. -/
import Derived.Test.YtkkemchihllklaaG1
import Derived.Test.YtkkemchihllklaaProg
namespace Go.Proofs.Ytkkemchihllklaa
open Go Go.RowKit
noncomputable def m_alphabet_merge_j4 (p2 : Bool → Bool → Option Bool) (st170 : List Int × List Int × List Int) (b177 : Bool) (b180 : Bool) (l183 : List Int) (l188 : List Int) (n190 : Int) : Option ((List Int × List Int × List Int) ⊕ (List Int)) :=
  (p2 b177 b180).bind fun r193 =>
  if r193 then
    (app st170.1 ([n190] : List Int)).bind fun x199 =>
    some (.inl (x199, l183, l188))
  else
    some (.inl (st170.1, l183, l188))
noncomputable def m_alphabet_merge_j3 (p2 : Bool → Bool → Option Bool) (st170 : List Int × List Int × List Int) (b177 : Bool) (b180 : Bool) (l183 : List Int) (n185 : Int) : Option ((List Int × List Int × List Int) ⊕ (List Int)) :=
  if b180 then
    (idx st170.2.2 0).bind fun x205 =>
    (slc st170.2.2 1 (st170.2.2.length : Int)).bind fun x210 =>
    m_alphabet_merge_j4 p2 st170 b177 b180 l183 x210 x205
  else
    m_alphabet_merge_j4 p2 st170 b177 b180 l183 st170.2.2 n185
noncomputable def m_alphabet_merge_j2 (p2 : Bool → Bool → Option Bool) (st170 : List Int × List Int × List Int) (b177 : Bool) (b180 : Bool) : Option ((List Int × List Int × List Int) ⊕ (List Int)) :=
  if b177 then
    (idx st170.2.1 0).bind fun x217 =>
    (slc st170.2.1 1 (st170.2.1.length : Int)).bind fun x222 =>
    m_alphabet_merge_j3 p2 st170 b177 b180 x222 x217
  else
    m_alphabet_merge_j3 p2 st170 b177 b180 st170.2.1 0
noncomputable def m_alphabet_merge_j1 (p2 : Bool → Bool → Option Bool) (st170 : List Int × List Int × List Int) (b177 : Bool) : Option ((List Int × List Int × List Int) ⊕ (List Int)) :=
  if decide ((st170.2.2.length : Int) > 0) then
    if ((st170.2.1.length : Int) == 0) then
      m_alphabet_merge_j2 p2 st170 b177 true
    else
      (idx st170.2.2 0).bind fun x250 =>
      (idx st170.2.1 0).bind fun x255 =>
      m_alphabet_merge_j2 p2 st170 b177 (decide (x250 ≤ x255))
  else
    m_alphabet_merge_j2 p2 st170 b177 false
noncomputable def m_alphabet_merge_l1 (p2 : Bool → Bool → Option Bool) (st170 : List Int × List Int × List Int) : Option ((List Int × List Int × List Int) ⊕ (List Int)) :=
  if ((decide ((st170.2.1.length : Int) > 0)) || (decide ((st170.2.2.length : Int) > 0))) then
    if decide ((st170.2.1.length : Int) > 0) then
      if ((st170.2.2.length : Int) == 0) then
        m_alphabet_merge_j1 p2 st170 true
      else
        (idx st170.2.1 0).bind fun x301 =>
        (idx st170.2.2 0).bind fun x306 =>
        m_alphabet_merge_j1 p2 st170 (decide (x301 ≤ x306))
    else
      m_alphabet_merge_j1 p2 st170 false
  else
    some (.inr st170.1)
/-- What alphabet.merge computes. -/
noncomputable def m_alphabet_merge (p0 : List Int) (p1 : List Int) (p2 : Bool → Bool → Option Bool) : Option (List Int) :=
  (iter (m_alphabet_merge_l1 p2) (([] : List Int), p0, p1)).bind fun o170 =>
  some o170
set_option maxRecDepth 100000 in
set_option maxHeartbeats 8000000 in
theorem m_alphabet_merge_c {s : Sig} {p0 : List Int} {p1 : List Int} {p2 : Bool → Bool → Option Bool} {a1 : Option Addr} {c1 : Nat} {a2 : Option Addr} {c2 : Nat} {vp2 : Value} {u0 : Nat} {r : List Int} (h1 : RdL (rK .i64) s a1 c1 p0) (h2 : RdL (rK .i64) s a2 c2 p1) (hp2 : FV2 Try.prog s vp2 (fun (x0 : Bool) (x1 : Bool) => [.bool x0, .bool x1]) (fun (r : Bool) => .bool r) p2) (hm : m_alphabet_merge p0 p1 p2 = some r) :
    Calls Try.prog 78 #[.slice a1 p0.length c1, .slice a2 p1.length c2, vp2] s.w (RetS No s fun v s' => ∃ (a3 : Option Addr) (c3 : Nat), v = .slice a3 r.length c3 ∧ RowT (rK .i64) s' u0 3 a3 c3 r) := by
  unfold m_alphabet_merge at hm
  obtain ⟨N, hN, hNb⟩ := s.fresh
  have m0 : Mv (Up N No) s s := Mv.refl _ _
  refine E.entry (vs := [.slice a1 p0.length c1, .slice a2 p1.length c2, vp2]) (e := [(0, .slice a1 p0.length c1), (1, .slice a2 p1.length c2), (2, vp2)]) Try.func78 rfl Try.ntmps78 rfl rfl ?_
  refine E.seq ?_
  refine E.reg ?_
  refine L.as Wt.no rfl rfl ?_
  refine L.nil ?_
  refine X.seqN ?_
  refine E.seq ?_
  refine E.reg ?_
  refine L.as Wt.no rfl rfl ?_
  refine L.nil ?_
  refine X.seqN ?_
  refine E.seq ?_
  refine E.block ?_
  obtain ⟨o170, eo170, hm⟩ := bindS hm
  refine E.cut (x := .exit 0) (fun e w => ∃ (s174 : Sig) (a172 : Option Addr) (c172 : Nat), Mv (Up N No) s s174 ∧ RowT (rK .i64) s174 (N + 0) 3 a172 c172 o170 ∧ e = [(7, .slice a172 o170.length c172)] ∧ w = s174.w) ?_ ?_
  · rintro _ _ ⟨s174, a172, c172, m0, h172, rfl, rfl⟩
    refine X.blkE ?_
    refine X.seqN ?_
    refine E.seq ?_
    refine E.reg ?_
    refine L.mv Wt.no rfl rfl ?_
    refine L.as Wt.no rfl rfl ?_
    refine L.nil ?_
    refine X.seqN ?_
    refine E.ret ?_
    obtain rfl := Option.some.inj hm
    exact X.rt (.inl rfl) Try.results78 (Rs.tmp rfl Rs.nil) rfl ⟨_, (s174).ren N (fun k => cond (Nat.beq k 0) u0 (0)), rfl, rfl, m0.ren hNb, ⟨a172, c172, rfl, (h172.ren hN)⟩⟩
  intro K175
  refine E.iter (fun (st170 : List Int × List Int × List Int) (e : List (Nat × Value)) (w : World) => ∃ (s173 : Sig) (a5 : Option Addr) (c5 : Nat) (a7 : Option Addr) (c7 : Nat) (a9 : Option Addr) (c9 : Nat), Mv (Up N No) s s173 ∧ RowT (rK .i64) s173 (N + 0) 3 a5 c5 st170.1 ∧ RdL (rK .i64) s173 a7 c7 st170.2.1 ∧ RdL (rK .i64) s173 a9 c9 st170.2.2 ∧ FV2 Try.prog s173 vp2 (fun (x0 : Bool) (x1 : Bool) => [.bool x0, .bool x1]) (fun (r : Bool) => .bool r) p2 ∧ e = [(7, .slice a5 st170.1.length c5), (0, .slice a7 st170.2.1.length c7), (1, .slice a9 st170.2.2.length c9), (2, vp2)] ∧ w = s173.w) eo170 ⟨s, none, 0, a1, c1, a2, c2, m0, RowT.nil, h1, h2, hp2, rfl, rfl⟩ (Sub.cons rfl (Sub.cons rfl (Sub.cons rfl (Sub.cons rfl Sub.nil)))) ?_
  rintro st170 res170 hm ih170 ho170 _ _ ⟨s173, a5, c5, a7, c7, a9, c9, m0, h5, h7, h9, hp2, rfl, rfl⟩
  unfold m_alphabet_merge_l1 at hm
  refine E.seq ?_
  refine E.seq ?_
  refine E.reg ?_
  refine L.mv Wt.no rfl rfl ?_
  refine L.len sl23 Wt.no rfl rfl ?_
  refine L.bi Wt.no rfl rfl rfl rfl ?_
  refine L.mv Wt.no rfl rfl ?_
  refine L.cut 4 (fun e w => ∃ (v176 : Bool), ((decide ((st170.2.1.length : Int) > 0)) || (decide ((st170.2.2.length : Int) > 0))) = v176 ∧ e = (18, .bool v176) :: [(7, .slice a5 st170.1.length c5), (0, .slice a7 st170.2.1.length c7), (1, .slice a9 st170.2.2.length c9), (2, vp2)] ∧ w = s173.w) ?_ ?_
  · rintro _ _ ⟨v176, rfl, rfl, rfl⟩
    refine L.nil ?_
    refine X.seqN ?_
    rcases ifS hm with ⟨hc, hm⟩ | ⟨hc, hm⟩
    · refine E.cT rfl hc ?_
      refine E.skip ?_
      refine X.seqN ?_
      refine E.block ?_
      refine E.seqJ (fun e w => ∃ (s178 : Sig) (b177 : Bool), m_alphabet_merge_j1 p2 st170 b177 = some res170 ∧ Mv (Up N No) s s178 ∧ RowT (rK .i64) s178 (N + 0) 3 a5 c5 st170.1 ∧ RdL (rK .i64) s178 a7 c7 st170.2.1 ∧ RdL (rK .i64) s178 a9 c9 st170.2.2 ∧ FV2 Try.prog s178 vp2 (fun (x0 : Bool) (x1 : Bool) => [.bool x0, .bool x1]) (fun (r : Bool) => .bool r) p2 ∧ e = [(8, .bool b177), (7, .slice a5 st170.1.length c5), (0, .slice a7 st170.2.1.length c7), (1, .slice a9 st170.2.2.length c9), (2, vp2)] ∧ w = s178.w) ?_ ?_
      · rintro _ _ ⟨s178, b177, hm, m0, h5, h7, h9, hp2, rfl, rfl⟩
        unfold m_alphabet_merge_j1 at hm
        refine E.seqJ (fun e w => ∃ (s181 : Sig) (b180 : Bool), m_alphabet_merge_j2 p2 st170 b177 b180 = some res170 ∧ Mv (Up N No) s s181 ∧ RowT (rK .i64) s181 (N + 0) 3 a5 c5 st170.1 ∧ RdL (rK .i64) s181 a7 c7 st170.2.1 ∧ RdL (rK .i64) s181 a9 c9 st170.2.2 ∧ FV2 Try.prog s181 vp2 (fun (x0 : Bool) (x1 : Bool) => [.bool x0, .bool x1]) (fun (r : Bool) => .bool r) p2 ∧ e = [(9, .bool b180), (8, .bool b177), (7, .slice a5 st170.1.length c5), (0, .slice a7 st170.2.1.length c7), (1, .slice a9 st170.2.2.length c9), (2, vp2)] ∧ w = s181.w) ?_ ?_
        · rintro _ _ ⟨s181, b180, hm, m0, h5, h7, h9, hp2, rfl, rfl⟩
          unfold m_alphabet_merge_j2 at hm
          refine E.seq ?_
          refine E.reg ?_
          refine L.as Wt.no rfl rfl ?_
          refine L.nil ?_
          refine X.seqN ?_
          refine E.seqJ (fun e w => ∃ (s186 : Sig) (l183 : List Int) (n185 : Int) (a184 : Option Addr) (c184 : Nat), m_alphabet_merge_j3 p2 st170 b177 b180 l183 n185 = some res170 ∧ Mv (Up N No) s s186 ∧ RdL (rK .i64) s186 a184 c184 l183 ∧ RowT (rK .i64) s186 (N + 0) 3 a5 c5 st170.1 ∧ RdL (rK .i64) s186 a9 c9 st170.2.2 ∧ FV2 Try.prog s186 vp2 (fun (x0 : Bool) (x1 : Bool) => [.bool x0, .bool x1]) (fun (r : Bool) => .bool r) p2 ∧ e = [(0, .slice a184 l183.length c184), (10, .int .i64 n185), (9, .bool b180), (8, .bool b177), (7, .slice a5 st170.1.length c5), (1, .slice a9 st170.2.2.length c9), (2, vp2)] ∧ w = s186.w) ?_ ?_
          · rintro _ _ ⟨s186, l183, n185, a184, c184, hm, m0, h184, h5, h9, hp2, rfl, rfl⟩
            unfold m_alphabet_merge_j3 at hm
            refine E.seqJ (fun e w => ∃ (s191 : Sig) (l188 : List Int) (n190 : Int) (a189 : Option Addr) (c189 : Nat), m_alphabet_merge_j4 p2 st170 b177 b180 l183 l188 n190 = some res170 ∧ Mv (Up N No) s s191 ∧ RdL (rK .i64) s191 a189 c189 l188 ∧ RdL (rK .i64) s191 a184 c184 l183 ∧ RowT (rK .i64) s191 (N + 0) 3 a5 c5 st170.1 ∧ FV2 Try.prog s191 vp2 (fun (x0 : Bool) (x1 : Bool) => [.bool x0, .bool x1]) (fun (r : Bool) => .bool r) p2 ∧ e = [(1, .slice a189 l188.length c189), (10, .int .i64 n190), (0, .slice a184 l183.length c184), (9, .bool b180), (8, .bool b177), (7, .slice a5 st170.1.length c5), (2, vp2)] ∧ w = s191.w) ?_ ?_
            · rintro _ _ ⟨s191, l188, n190, a189, c189, hm, m0, h189, h184, h5, hp2, rfl, rfl⟩
              unfold m_alphabet_merge_j4 at hm
              refine E.seq ?_
              refine E.reg ?_
              refine L.mv Wt.no rfl rfl ?_
              refine L.mv Wt.no rfl rfl ?_
              refine L.mv Wt.no rfl rfl ?_
              obtain ⟨r193, er193, hm⟩ := bindS hm
              refine L.fv2 (y := b177) (z := b180) hp2 rfl rfl Wt.no rfl rfl er193 rfl ?_
              intro s194 m195
              replace m0 := m0.trans m195.no
              replace h184 := h184.mono (m195.le no_No)
              replace h189 := h189.mono (m195.le no_No)
              replace hp2 := hp2.mono (m195.le no_No)
              replace h5 := h5.mv m195 no_No no_No
              refine L.nil ?_
              refine X.seqN ?_
              rcases ifS hm with ⟨hc, hm⟩ | ⟨hc, hm⟩
              · refine E.cT rfl hc ?_
                refine E.reg ?_
                refine L.mv Wt.no rfl rfl ?_
                refine L.mv Wt.no rfl rfl ?_
                refine L.bsE (k := 1) (cs := [.int .i64 n190]) 0 bs23 (Nat.le_of_ble_eq_true rfl) Wt.no rfl rfl rfl rfl ?_
                intro b196 s197 m198 bx196
                replace m0 := m0.trans m198.no
                replace h184 := h184.mono (m198.le no_No)
                replace h189 := h189.mono (m198.le no_No)
                replace hp2 := hp2.mono (m198.le no_No)
                replace h5 := h5.mv m198 no_No no_No
                have h196 := Bx.rdL (r := (rK .i64)) (xs := ([n190] : List Int)) bx196 ⟨[.int .i64 n190], _, rfl, rfl, rfl⟩ (Nat.le_of_ble_eq_true rfl)
                obtain ⟨x199, ex199, hm⟩ := bindS hm
                refine L.ap (r := (rK .i64)) Try.underlying23 el3 rfl (tgp hN) h5 h196.wk Wt.no rfl rfl ex199 rfl ?_
                intro a200 c200 s201 m202 h200
                replace m0 := m0.trans (m202.one up)
                replace h184 := h184.mono (m202.le (tg0 hN))
                replace h189 := h189.mono (m202.le (tg0 hN))
                replace hp2 := hp2.mono (m202.le (tg0 hN))
                refine L.as Wt.no rfl rfl ?_
                refine L.nil ?_
                refine X.blkN ?_
                exact X.sub (ih170 _ (Option.some.inj hm).symm _ _ ⟨s201, a200, c200, a184, c184, a189, c189, m0, h200, h184, h189, hp2, rfl, rfl⟩) (Sub.cons rfl (Sub.cons rfl (Sub.cons rfl (Sub.cons rfl Sub.nil))))
              · refine E.cF rfl hc ?_
                refine E.skip ?_
                refine X.blkN ?_
                exact X.sub (ih170 _ (Option.some.inj hm).symm _ _ ⟨s194, a5, c5, a184, c184, a189, c189, m0, h5, h184, h189, hp2, rfl, rfl⟩) (Sub.cons rfl (Sub.cons rfl (Sub.cons rfl (Sub.cons rfl Sub.nil))))
            · intro Jj192
              refine E.seq ?_
              refine E.reg ?_
              refine L.mv Wt.no rfl rfl ?_
              refine L.nil ?_
              refine X.seqN ?_
              rcases ifS hm with ⟨hc, hm⟩ | ⟨hc, hm⟩
              · refine E.cT rfl hc ?_
                obtain ⟨x205, ex205, hm⟩ := bindS hm
                obtain ⟨x210, ex210, hm⟩ := bindS hm
                refine E.draw [[], [0], [0, 1], [], [3], [0, 1, 2], [0, 1, 2, 3, 4, 5]] (fun D e sx => Mv No s186 sx ∧ Sub [(0, .slice a184 l183.length c184), (9, .bool b180), (8, .bool b177), (7, .slice a5 st170.1.length c5), (2, vp2)] e ∧ (D 6 = false → Env.get e 1 = some (.slice a9 st170.2.2.length c9)) ∧ (D 0 = true → (Env.get e 60 = some (.slice a9 st170.2.2.length c9))) ∧ (D 1 = true → (∃ (b206 : Nat) (o206 : Nat), Env.get e 61 = some (.pointer (some ⟨b206, o206, none⟩)) ∧ Mem sx 0 b206 o206 [.int .i64 x205])) ∧ (D 2 = true → (Env.get e 62 = some (.int .i64 x205))) ∧ (D 3 = true → (Env.get e 63 = some (.slice a9 st170.2.2.length c9))) ∧ (D 4 = true → (∃ (a211 : Option Addr) (c211 : Nat), Env.get e 64 = some (.slice a211 x210.length c211) ∧ RdL (rK .i64) sx a211 c211 x210)) ∧ (D 5 = true → (Env.get e 10 = some (.int .i64 x205))) ∧ (D 6 = true → ∀ (a211 : Option Addr) (c211 : Nat), Env.get e 64 = some (.slice a211 x210.length c211) → (Env.get e 1 = some (.slice a211 x210.length c211)))) (by kernel_rfl) (by kernel_rfl) (by kernel_rfl) ?_ ?_ ?_
                · intro sz mz
                  exact ⟨mz, (Sub.cons rfl (Sub.cons rfl (Sub.cons rfl (Sub.cons rfl (Sub.cons rfl Sub.nil))))), fun _ => rfl, nofun, nofun, nofun, nofun, nofun, nofun, nofun⟩
                · refine ⟨?_, ?_, ?_, ?_, ?_, ?_, ?_, trivial⟩
                  · rintro D e s203 ⟨im, ib, i0, i1, i2, i3, i4, i5, i6, i7⟩ hk hf ha
                    refine L.kns [(1, .slice a9 st170.2.2.length c9)] ⟨(i0 (hf 6 (Nat.le_of_ble_eq_true rfl) rfl)), trivial⟩ ?_
                    refine L.mv Wt.no rfl rfl ?_
                    refine L.nil ?_
                    refine X.dr (s := s203) (e' := (60, .slice a9 st170.2.2.length c9) :: e) (Sub.both (Kn.sup ⟨(i0 (hf 6 (Nat.le_of_ble_eq_true rfl) rfl)), trivial⟩)) ⟨im, Sub.fresh ib rfl, i0, fun _ => rfl, i2, i3, i4, i5, i6, i7⟩
                  · rintro D e s204 ⟨im, ib, i0, i1, i2, i3, i4, i5, i6, i7⟩ hk hf ha
                    obtain ⟨d0, -⟩ := ha
                    have g0_ := i1 d0
                    have h9 := h9.mono (im.le no_No)
                    refine L.kns [(60, .slice a9 st170.2.2.length c9)] ⟨g0_, trivial⟩ ?_
                    refine L.ix (r := (rK .i64)) sl23 h9 Wt.no rfl rfl ex205 rfl ?_
                    rintro b206 o206 cc206 me206 rd206
                    obtain rfl := rd206
                    refine L.nil ?_
                    refine X.dr (s := s204) (e' := (61, .pointer (some ⟨b206, o206, none⟩)) :: e) (Sub.both (Kn.sup ⟨g0_, trivial⟩)) ⟨im, Sub.fresh ib rfl, i0, i1, fun _ => ⟨b206, o206, rfl, me206⟩, i3, i4, i5, i6, i7⟩
                  · rintro D e s207 ⟨im, ib, i0, i1, i2, i3, i4, i5, i6, i7⟩ hk hf ha
                    obtain ⟨d0, d1, -⟩ := ha
                    obtain ⟨b206, o206, g1_, me206⟩ := i2 d1
                    refine L.kns [(61, .pointer (some ⟨b206, o206, none⟩))] ⟨g1_, trivial⟩ ?_
                    refine L.ld (j := 0) me206 nag3 Wt.no rfl rfl rfl rfl ?_
                    refine L.nil ?_
                    refine X.dr (s := s207) (e' := (62, .int .i64 x205) :: e) (Sub.both (Kn.sup ⟨g1_, trivial⟩)) ⟨im, Sub.fresh ib rfl, i0, i1, i2, fun _ => rfl, i4, i5, i6, i7⟩
                  · rintro D e s208 ⟨im, ib, i0, i1, i2, i3, i4, i5, i6, i7⟩ hk hf ha
                    refine L.kns [(1, .slice a9 st170.2.2.length c9)] ⟨(i0 (hf 6 (Nat.le_of_ble_eq_true rfl) rfl)), trivial⟩ ?_
                    refine L.mv Wt.no rfl rfl ?_
                    refine L.nil ?_
                    refine X.dr (s := s208) (e' := (63, .slice a9 st170.2.2.length c9) :: e) (Sub.both (Kn.sup ⟨(i0 (hf 6 (Nat.le_of_ble_eq_true rfl) rfl)), trivial⟩)) ⟨im, Sub.fresh ib rfl, i0, i1, i2, i3, fun _ => rfl, i5, i6, i7⟩
                  · rintro D e s209 ⟨im, ib, i0, i1, i2, i3, i4, i5, i6, i7⟩ hk hf ha
                    obtain ⟨d3, -⟩ := ha
                    have g3_ := i4 d3
                    have h9 := h9.mono (im.le no_No)
                    refine L.kns [(63, .slice a9 st170.2.2.length c9)] ⟨g3_, trivial⟩ ?_
                    refine L.sf (r := (rK .i64)) sl23 h9 Wt.no rfl rfl ex210 rfl ?_
                    intro a211 c211 h211
                    refine L.nil ?_
                    refine X.dr (s := s209) (e' := (64, .slice a211 x210.length c211) :: e) (Sub.both (Kn.sup ⟨g3_, trivial⟩)) ⟨im, Sub.fresh ib rfl, i0, i1, i2, i3, i4, fun _ => ⟨a211, c211, rfl, h211⟩, i6, fun z => Bool.noConfusion ((hf 6 (Nat.le_of_ble_eq_true rfl) rfl).symm.trans z)⟩
                  · rintro D e s212 ⟨im, ib, i0, i1, i2, i3, i4, i5, i6, i7⟩ hk hf ha
                    obtain ⟨d0, d1, d2, -⟩ := ha
                    have g2_ := i3 d2
                    refine L.kns [(62, .int .i64 x205)] ⟨g2_, trivial⟩ ?_
                    refine L.as Wt.no rfl rfl ?_
                    refine L.nil ?_
                    refine X.dr (s := s212) (e' := (10, .int .i64 x205) :: e) (Sub.both (Kn.sup ⟨g2_, trivial⟩)) ⟨im, Sub.fresh ib rfl, i0, i1, i2, i3, i4, i5, fun _ => rfl, i7⟩
                  · rintro D e s213 ⟨im, ib, i0, i1, i2, i3, i4, i5, i6, i7⟩ hk hf ha
                    obtain ⟨d0, d1, d2, d3, d4, d5, -⟩ := ha
                    obtain ⟨a211, c211, g4_, h211⟩ := i5 d4
                    refine L.kns [(64, .slice a211 x210.length c211)] ⟨g4_, trivial⟩ ?_
                    refine L.as Wt.no rfl rfl ?_
                    refine L.nil ?_
                    refine X.dr (s := s213) (e' := (1, .slice a211 x210.length c211) :: e) (Sub.both (Kn.sup ⟨g4_, trivial⟩)) ⟨im, Sub.fresh ib rfl, fun z => Bool.noConfusion (show true = false from z), i1, i2, i3, i4, i5, i6, fun _ _ _ q4 => by cases g4_.symm.trans q4; exact rfl⟩
                · rintro D e s214 hD ⟨im, ib, i0, i1, i2, i3, i4, i5, i6, i7⟩
                  obtain ⟨a211, c211, g4_, h211⟩ := i5 (hD 4 rfl)
                  have g5_ := i6 (hD 5 rfl)
                  have g6_ := i7 (hD 6 rfl) a211 c211 g4_
                  have h184 := h184.mono (im.le no_No)
                  have h5 := h5.mv im no_No no_No
                  have hp2 := hp2.mono (im.le no_No)
                  have m0 := m0.trans im.no
                  refine X.sub (e' := [(1, .slice a211 x210.length c211), (10, .int .i64 x205), (0, .slice a184 l183.length c184), (9, .bool b180), (8, .bool b177), (7, .slice a5 st170.1.length c5), (2, vp2)]) ?_ (Sub.cons g6_ (Sub.cons g5_ (Sub.cons (ib 0 _ rfl) (Sub.cons (ib 9 _ rfl) (Sub.cons (ib 8 _ rfl) (Sub.cons (ib 7 _ rfl) (Sub.cons (ib 2 _ rfl) Sub.nil)))))))
                  exact X.sub (Jj192 _ _ ⟨s214, x210, x205, a211, c211, hm, m0, h211, h184, h5, hp2, rfl, rfl⟩) (Sub.cons rfl (Sub.cons rfl (Sub.cons rfl (Sub.cons rfl (Sub.cons rfl (Sub.cons rfl (Sub.cons rfl Sub.nil)))))))
              · refine E.cF rfl hc ?_
                refine E.skip ?_
                exact X.sub (Jj192 _ _ ⟨s186, st170.2.2, n185, a9, c9, hm, m0, h9, h184, h5, hp2, rfl, rfl⟩) (Sub.cons rfl (Sub.cons rfl (Sub.cons rfl (Sub.cons rfl (Sub.cons rfl (Sub.cons rfl (Sub.cons rfl Sub.nil)))))))
          · intro Jj187
            refine E.seq ?_
            refine E.reg ?_
            refine L.mv Wt.no rfl rfl ?_
            refine L.nil ?_
            refine X.seqN ?_
            rcases ifS hm with ⟨hc, hm⟩ | ⟨hc, hm⟩
            · refine E.cT rfl hc ?_
              obtain ⟨x217, ex217, hm⟩ := bindS hm
              obtain ⟨x222, ex222, hm⟩ := bindS hm
              refine E.draw [[], [0], [0, 1], [], [3], [0, 1, 2], [0, 1, 2, 3, 4, 5]] (fun D e sx => Mv No s181 sx ∧ Sub [(9, .bool b180), (8, .bool b177), (7, .slice a5 st170.1.length c5), (1, .slice a9 st170.2.2.length c9), (2, vp2)] e ∧ (D 6 = false → Env.get e 0 = some (.slice a7 st170.2.1.length c7)) ∧ (D 0 = true → (Env.get e 54 = some (.slice a7 st170.2.1.length c7))) ∧ (D 1 = true → (∃ (b218 : Nat) (o218 : Nat), Env.get e 55 = some (.pointer (some ⟨b218, o218, none⟩)) ∧ Mem sx 0 b218 o218 [.int .i64 x217])) ∧ (D 2 = true → (Env.get e 56 = some (.int .i64 x217))) ∧ (D 3 = true → (Env.get e 57 = some (.slice a7 st170.2.1.length c7))) ∧ (D 4 = true → (∃ (a223 : Option Addr) (c223 : Nat), Env.get e 58 = some (.slice a223 x222.length c223) ∧ RdL (rK .i64) sx a223 c223 x222)) ∧ (D 5 = true → (Env.get e 10 = some (.int .i64 x217))) ∧ (D 6 = true → ∀ (a223 : Option Addr) (c223 : Nat), Env.get e 58 = some (.slice a223 x222.length c223) → (Env.get e 0 = some (.slice a223 x222.length c223)))) (by kernel_rfl) (by kernel_rfl) (by kernel_rfl) ?_ ?_ ?_
              · intro sz mz
                exact ⟨mz, (Sub.cons rfl (Sub.cons rfl (Sub.cons rfl (Sub.cons rfl (Sub.cons rfl Sub.nil))))), fun _ => rfl, nofun, nofun, nofun, nofun, nofun, nofun, nofun⟩
              · refine ⟨?_, ?_, ?_, ?_, ?_, ?_, ?_, trivial⟩
                · rintro D e s215 ⟨im, ib, i0, i1, i2, i3, i4, i5, i6, i7⟩ hk hf ha
                  refine L.kns [(0, .slice a7 st170.2.1.length c7)] ⟨(i0 (hf 6 (Nat.le_of_ble_eq_true rfl) rfl)), trivial⟩ ?_
                  refine L.mv Wt.no rfl rfl ?_
                  refine L.nil ?_
                  refine X.dr (s := s215) (e' := (54, .slice a7 st170.2.1.length c7) :: e) (Sub.both (Kn.sup ⟨(i0 (hf 6 (Nat.le_of_ble_eq_true rfl) rfl)), trivial⟩)) ⟨im, Sub.fresh ib rfl, i0, fun _ => rfl, i2, i3, i4, i5, i6, i7⟩
                · rintro D e s216 ⟨im, ib, i0, i1, i2, i3, i4, i5, i6, i7⟩ hk hf ha
                  obtain ⟨d0, -⟩ := ha
                  have g0_ := i1 d0
                  have h7 := h7.mono (im.le no_No)
                  refine L.kns [(54, .slice a7 st170.2.1.length c7)] ⟨g0_, trivial⟩ ?_
                  refine L.ix (r := (rK .i64)) sl23 h7 Wt.no rfl rfl ex217 rfl ?_
                  rintro b218 o218 cc218 me218 rd218
                  obtain rfl := rd218
                  refine L.nil ?_
                  refine X.dr (s := s216) (e' := (55, .pointer (some ⟨b218, o218, none⟩)) :: e) (Sub.both (Kn.sup ⟨g0_, trivial⟩)) ⟨im, Sub.fresh ib rfl, i0, i1, fun _ => ⟨b218, o218, rfl, me218⟩, i3, i4, i5, i6, i7⟩
                · rintro D e s219 ⟨im, ib, i0, i1, i2, i3, i4, i5, i6, i7⟩ hk hf ha
                  obtain ⟨d0, d1, -⟩ := ha
                  obtain ⟨b218, o218, g1_, me218⟩ := i2 d1
                  refine L.kns [(55, .pointer (some ⟨b218, o218, none⟩))] ⟨g1_, trivial⟩ ?_
                  refine L.ld (j := 0) me218 nag3 Wt.no rfl rfl rfl rfl ?_
                  refine L.nil ?_
                  refine X.dr (s := s219) (e' := (56, .int .i64 x217) :: e) (Sub.both (Kn.sup ⟨g1_, trivial⟩)) ⟨im, Sub.fresh ib rfl, i0, i1, i2, fun _ => rfl, i4, i5, i6, i7⟩
                · rintro D e s220 ⟨im, ib, i0, i1, i2, i3, i4, i5, i6, i7⟩ hk hf ha
                  refine L.kns [(0, .slice a7 st170.2.1.length c7)] ⟨(i0 (hf 6 (Nat.le_of_ble_eq_true rfl) rfl)), trivial⟩ ?_
                  refine L.mv Wt.no rfl rfl ?_
                  refine L.nil ?_
                  refine X.dr (s := s220) (e' := (57, .slice a7 st170.2.1.length c7) :: e) (Sub.both (Kn.sup ⟨(i0 (hf 6 (Nat.le_of_ble_eq_true rfl) rfl)), trivial⟩)) ⟨im, Sub.fresh ib rfl, i0, i1, i2, i3, fun _ => rfl, i5, i6, i7⟩
                · rintro D e s221 ⟨im, ib, i0, i1, i2, i3, i4, i5, i6, i7⟩ hk hf ha
                  obtain ⟨d3, -⟩ := ha
                  have g3_ := i4 d3
                  have h7 := h7.mono (im.le no_No)
                  refine L.kns [(57, .slice a7 st170.2.1.length c7)] ⟨g3_, trivial⟩ ?_
                  refine L.sf (r := (rK .i64)) sl23 h7 Wt.no rfl rfl ex222 rfl ?_
                  intro a223 c223 h223
                  refine L.nil ?_
                  refine X.dr (s := s221) (e' := (58, .slice a223 x222.length c223) :: e) (Sub.both (Kn.sup ⟨g3_, trivial⟩)) ⟨im, Sub.fresh ib rfl, i0, i1, i2, i3, i4, fun _ => ⟨a223, c223, rfl, h223⟩, i6, fun z => Bool.noConfusion ((hf 6 (Nat.le_of_ble_eq_true rfl) rfl).symm.trans z)⟩
                · rintro D e s224 ⟨im, ib, i0, i1, i2, i3, i4, i5, i6, i7⟩ hk hf ha
                  obtain ⟨d0, d1, d2, -⟩ := ha
                  have g2_ := i3 d2
                  refine L.kns [(56, .int .i64 x217)] ⟨g2_, trivial⟩ ?_
                  refine L.as Wt.no rfl rfl ?_
                  refine L.nil ?_
                  refine X.dr (s := s224) (e' := (10, .int .i64 x217) :: e) (Sub.both (Kn.sup ⟨g2_, trivial⟩)) ⟨im, Sub.fresh ib rfl, i0, i1, i2, i3, i4, i5, fun _ => rfl, i7⟩
                · rintro D e s225 ⟨im, ib, i0, i1, i2, i3, i4, i5, i6, i7⟩ hk hf ha
                  obtain ⟨d0, d1, d2, d3, d4, d5, -⟩ := ha
                  obtain ⟨a223, c223, g4_, h223⟩ := i5 d4
                  refine L.kns [(58, .slice a223 x222.length c223)] ⟨g4_, trivial⟩ ?_
                  refine L.as Wt.no rfl rfl ?_
                  refine L.nil ?_
                  refine X.dr (s := s225) (e' := (0, .slice a223 x222.length c223) :: e) (Sub.both (Kn.sup ⟨g4_, trivial⟩)) ⟨im, Sub.fresh ib rfl, fun z => Bool.noConfusion (show true = false from z), i1, i2, i3, i4, i5, i6, fun _ _ _ q4 => by cases g4_.symm.trans q4; exact rfl⟩
              · rintro D e s226 hD ⟨im, ib, i0, i1, i2, i3, i4, i5, i6, i7⟩
                obtain ⟨a223, c223, g4_, h223⟩ := i5 (hD 4 rfl)
                have g5_ := i6 (hD 5 rfl)
                have g6_ := i7 (hD 6 rfl) a223 c223 g4_
                have h5 := h5.mv im no_No no_No
                have h9 := h9.mono (im.le no_No)
                have hp2 := hp2.mono (im.le no_No)
                have m0 := m0.trans im.no
                refine X.sub (e' := [(0, .slice a223 x222.length c223), (10, .int .i64 x217), (9, .bool b180), (8, .bool b177), (7, .slice a5 st170.1.length c5), (1, .slice a9 st170.2.2.length c9), (2, vp2)]) ?_ (Sub.cons g6_ (Sub.cons g5_ (Sub.cons (ib 9 _ rfl) (Sub.cons (ib 8 _ rfl) (Sub.cons (ib 7 _ rfl) (Sub.cons (ib 1 _ rfl) (Sub.cons (ib 2 _ rfl) Sub.nil)))))))
                exact X.sub (Jj187 _ _ ⟨s226, x222, x217, a223, c223, hm, m0, h223, h5, h9, hp2, rfl, rfl⟩) (Sub.cons rfl (Sub.cons rfl (Sub.cons rfl (Sub.cons rfl (Sub.cons rfl (Sub.cons rfl (Sub.cons rfl Sub.nil)))))))
            · refine E.cF rfl hc ?_
              refine E.skip ?_
              exact X.sub (Jj187 _ _ ⟨s181, st170.2.1, 0, a7, c7, hm, m0, h7, h5, h9, hp2, rfl, rfl⟩) (Sub.cons rfl (Sub.cons rfl (Sub.cons rfl (Sub.cons rfl (Sub.cons rfl (Sub.cons rfl (Sub.cons rfl Sub.nil)))))))
        · intro Jj182
          rcases ifS hm with ⟨hc231, hm⟩ | ⟨hc231, hm⟩
          · have _ := hN
            rcases ifS hm with ⟨hc236, hm⟩ | ⟨hc236, hm⟩
            · have _ := hN
              refine E.draw [[], [0], [0, 1], [0, 1, 2], [0, 1, 2, 3], [0, 1, 2, 3, 4], [0, 1, 2, 3, 4, 5], [0, 1, 2, 3, 4, 5, 6], [0, 1, 2, 3, 4, 5, 6, 7], [0, 1, 2, 3, 4, 5, 6, 7, 8], [0, 1, 2, 3, 4, 5, 6, 7, 8, 9], [0, 1, 2, 3, 4, 5, 6, 7], [0, 1, 2, 3, 4, 5, 6, 7, 11], [0, 1, 2, 3, 4, 5, 6, 7, 11, 12], [0, 1, 2, 3, 4, 5, 6, 7, 8, 9, 10, 11, 12, 13], [0, 1, 2, 3, 4, 5, 6, 7, 8, 9, 10, 11, 12, 13, 14], [0, 1, 2, 3, 4, 5, 6, 7, 8, 9, 10, 11, 12, 13, 14, 15], [0, 1, 2, 3, 4, 5, 6, 7, 8, 9, 10, 11, 12, 13, 14, 15, 16]] (fun D e sx => Mv No s178 sx ∧ Sub [(8, .bool b177), (7, .slice a5 st170.1.length c5), (0, .slice a7 st170.2.1.length c7), (1, .slice a9 st170.2.2.length c9), (2, vp2)] e ∧ (D 0 = true → (Env.get e 36 = some (.slice a9 st170.2.2.length c9))) ∧ (D 1 = true → (Env.get e 37 = some (.int .i64 (st170.2.2.length : Int)))) ∧ (D 2 = true → (Env.get e 38 = some (.bool (decide ((st170.2.2.length : Int) > 0))))) ∧ (D 3 = true → (Env.get e 39 = some (.bool (decide ((st170.2.2.length : Int) > 0))))) ∧ (D 4 = true → (Env.get e 40 = some (.slice a7 st170.2.1.length c7))) ∧ (D 5 = true → (Env.get e 41 = some (.int .i64 (st170.2.1.length : Int)))) ∧ (D 6 = true → (Env.get e 42 = some (.bool ((st170.2.1.length : Int) == 0)))) ∧ (D 7 = true → (Env.get e 43 = some (.bool ((st170.2.1.length : Int) == 0)))) ∧ (D 8 = true → (Env.get e 44 = some undef)) ∧ (D 9 = true → (Env.get e 45 = some undef)) ∧ (D 10 = true → (Env.get e 46 = some undef)) ∧ (D 11 = true → (Env.get e 47 = some undef)) ∧ (D 12 = true → (Env.get e 48 = some undef)) ∧ (D 13 = true → (Env.get e 49 = some undef)) ∧ (D 14 = true → (Env.get e 50 = some undef)) ∧ (D 15 = true → (Env.get e 51 = some (.bool true))) ∧ (D 16 = true → (Env.get e 52 = some (.bool true))) ∧ (D 17 = true → (Env.get e 9 = some (.bool true)))) (by kernel_rfl) (by kernel_rfl) (by kernel_rfl) ?_ ?_ ?_
              · intro sz mz
                exact ⟨mz, (Sub.cons rfl (Sub.cons rfl (Sub.cons rfl (Sub.cons rfl (Sub.cons rfl Sub.nil))))), nofun, nofun, nofun, nofun, nofun, nofun, nofun, nofun, nofun, nofun, nofun, nofun, nofun, nofun, nofun, nofun, nofun, nofun⟩
              · refine ⟨?_, ?_, ?_, ?_, ?_, ?_, ?_, ?_, ?_, ?_, ?_, ?_, ?_, ?_, ?_, ?_, ?_, ?_, trivial⟩
                · rintro D e s227 ⟨im, ib, i0, i1, i2, i3, i4, i5, i6, i7, i8, i9, i10, i11, i12, i13, i14, i15, i16, i17⟩ hk hf ha
                  refine L.kns [(1, .slice a9 st170.2.2.length c9)] ⟨(ib 1 _ rfl), trivial⟩ ?_
                  refine L.mv Wt.no rfl rfl ?_
                  refine L.nil ?_
                  refine X.dr (s := s227) (e' := (36, .slice a9 st170.2.2.length c9) :: e) (Sub.both (Kn.sup ⟨(ib 1 _ rfl), trivial⟩)) ⟨im, Sub.fresh ib rfl, fun _ => rfl, i1, i2, i3, i4, i5, i6, i7, i8, i9, i10, i11, i12, i13, i14, i15, i16, i17⟩
                · rintro D e s228 ⟨im, ib, i0, i1, i2, i3, i4, i5, i6, i7, i8, i9, i10, i11, i12, i13, i14, i15, i16, i17⟩ hk hf ha
                  obtain ⟨d0, -⟩ := ha
                  have g0_ := i0 d0
                  refine L.kns [(36, .slice a9 st170.2.2.length c9)] ⟨g0_, trivial⟩ ?_
                  refine L.len sl23 Wt.no rfl rfl ?_
                  refine L.nil ?_
                  refine X.dr (s := s228) (e' := (37, .int .i64 (st170.2.2.length : Int)) :: e) (Sub.both (Kn.sup ⟨g0_, trivial⟩)) ⟨im, Sub.fresh ib rfl, i0, fun _ => rfl, i2, i3, i4, i5, i6, i7, i8, i9, i10, i11, i12, i13, i14, i15, i16, i17⟩
                · rintro D e s229 ⟨im, ib, i0, i1, i2, i3, i4, i5, i6, i7, i8, i9, i10, i11, i12, i13, i14, i15, i16, i17⟩ hk hf ha
                  obtain ⟨d0, d1, -⟩ := ha
                  have g1_ := i1 d1
                  refine L.kns [(37, .int .i64 (st170.2.2.length : Int))] ⟨g1_, trivial⟩ ?_
                  refine L.bi Wt.no rfl rfl rfl rfl ?_
                  refine L.nil ?_
                  refine X.dr (s := s229) (e' := (38, .bool (decide ((st170.2.2.length : Int) > 0))) :: e) (Sub.both (Kn.sup ⟨g1_, trivial⟩)) ⟨im, Sub.fresh ib rfl, i0, i1, fun _ => rfl, i3, i4, i5, i6, i7, i8, i9, i10, i11, i12, i13, i14, i15, i16, i17⟩
                · rintro D e s230 ⟨im, ib, i0, i1, i2, i3, i4, i5, i6, i7, i8, i9, i10, i11, i12, i13, i14, i15, i16, i17⟩ hk hf ha
                  obtain ⟨d0, d1, d2, -⟩ := ha
                  have g2_ := i2 d2
                  refine L.kns [(38, .bool (decide ((st170.2.2.length : Int) > 0)))] ⟨g2_, trivial⟩ ?_
                  refine L.mv Wt.no rfl rfl ?_
                  refine L.nil ?_
                  refine X.dr (s := s230) (e' := (39, .bool (decide ((st170.2.2.length : Int) > 0))) :: e) (Sub.both (Kn.sup ⟨g2_, trivial⟩)) ⟨im, Sub.fresh ib rfl, i0, i1, i2, fun _ => rfl, i4, i5, i6, i7, i8, i9, i10, i11, i12, i13, i14, i15, i16, i17⟩
                · rintro D e s232 ⟨im, ib, i0, i1, i2, i3, i4, i5, i6, i7, i8, i9, i10, i11, i12, i13, i14, i15, i16, i17⟩ hk hf ha
                  obtain ⟨d0, d1, d2, d3, -⟩ := ha
                  have g3_ := i3 d3
                  rw [hc231] at g3_
                  refine L.kns [(0, .slice a7 st170.2.1.length c7), (39, .bool true)] ⟨(ib 0 _ rfl), g3_, trivial⟩ ?_
                  refine L.mv (Wt.mk rfl rfl) rfl rfl ?_
                  refine L.nil ?_
                  refine X.dr (s := s232) (e' := (40, .slice a7 st170.2.1.length c7) :: e) (Sub.both (Kn.sup ⟨(ib 0 _ rfl), g3_, trivial⟩)) ⟨im, Sub.fresh ib rfl, i0, i1, i2, i3, fun _ => rfl, i5, i6, i7, i8, i9, i10, i11, i12, i13, i14, i15, i16, i17⟩
                · rintro D e s233 ⟨im, ib, i0, i1, i2, i3, i4, i5, i6, i7, i8, i9, i10, i11, i12, i13, i14, i15, i16, i17⟩ hk hf ha
                  obtain ⟨d0, d1, d2, d3, d4, -⟩ := ha
                  have g3_ := i3 d3
                  have g4_ := i4 d4
                  rw [hc231] at g3_
                  refine L.kns [(40, .slice a7 st170.2.1.length c7), (39, .bool true)] ⟨g4_, g3_, trivial⟩ ?_
                  refine L.len sl23 (Wt.mk rfl rfl) rfl rfl ?_
                  refine L.nil ?_
                  refine X.dr (s := s233) (e' := (41, .int .i64 (st170.2.1.length : Int)) :: e) (Sub.both (Kn.sup ⟨g4_, g3_, trivial⟩)) ⟨im, Sub.fresh ib rfl, i0, i1, i2, i3, i4, fun _ => rfl, i6, i7, i8, i9, i10, i11, i12, i13, i14, i15, i16, i17⟩
                · rintro D e s234 ⟨im, ib, i0, i1, i2, i3, i4, i5, i6, i7, i8, i9, i10, i11, i12, i13, i14, i15, i16, i17⟩ hk hf ha
                  obtain ⟨d0, d1, d2, d3, d4, d5, -⟩ := ha
                  have g3_ := i3 d3
                  have g5_ := i5 d5
                  rw [hc231] at g3_
                  refine L.kns [(41, .int .i64 (st170.2.1.length : Int)), (39, .bool true)] ⟨g5_, g3_, trivial⟩ ?_
                  refine L.bi (Wt.mk rfl rfl) rfl rfl rfl rfl ?_
                  refine L.nil ?_
                  refine X.dr (s := s234) (e' := (42, .bool ((st170.2.1.length : Int) == 0)) :: e) (Sub.both (Kn.sup ⟨g5_, g3_, trivial⟩)) ⟨im, Sub.fresh ib rfl, i0, i1, i2, i3, i4, i5, fun _ => rfl, i7, i8, i9, i10, i11, i12, i13, i14, i15, i16, i17⟩
                · rintro D e s235 ⟨im, ib, i0, i1, i2, i3, i4, i5, i6, i7, i8, i9, i10, i11, i12, i13, i14, i15, i16, i17⟩ hk hf ha
                  obtain ⟨d0, d1, d2, d3, d4, d5, d6, -⟩ := ha
                  have g3_ := i3 d3
                  have g6_ := i6 d6
                  rw [hc231] at g3_
                  refine L.kns [(42, .bool ((st170.2.1.length : Int) == 0)), (39, .bool true)] ⟨g6_, g3_, trivial⟩ ?_
                  refine L.mv (Wt.mk rfl rfl) rfl rfl ?_
                  refine L.nil ?_
                  refine X.dr (s := s235) (e' := (43, .bool ((st170.2.1.length : Int) == 0)) :: e) (Sub.both (Kn.sup ⟨g6_, g3_, trivial⟩)) ⟨im, Sub.fresh ib rfl, i0, i1, i2, i3, i4, i5, i6, fun _ => rfl, i8, i9, i10, i11, i12, i13, i14, i15, i16, i17⟩
                · rintro D e s237 ⟨im, ib, i0, i1, i2, i3, i4, i5, i6, i7, i8, i9, i10, i11, i12, i13, i14, i15, i16, i17⟩ hk hf ha
                  obtain ⟨d0, d1, d2, d3, d4, d5, d6, d7, -⟩ := ha
                  have g7_ := i7 d7
                  rw [hc236] at g7_
                  refine L.kns [(1, .slice a9 st170.2.2.length c9), (43, .bool true)] ⟨(ib 1 _ rfl), g7_, trivial⟩ ?_
                  refine L.skip rfl rfl rfl rfl ?_
                  refine L.nil ?_
                  refine X.dr (s := s237) (e' := (44, undef) :: e) (Sub.both (Kn.sup ⟨(ib 1 _ rfl), g7_, trivial⟩)) ⟨im, Sub.fresh ib rfl, i0, i1, i2, i3, i4, i5, i6, i7, fun _ => rfl, i9, i10, i11, i12, i13, i14, i15, i16, i17⟩
                · rintro D e s238 ⟨im, ib, i0, i1, i2, i3, i4, i5, i6, i7, i8, i9, i10, i11, i12, i13, i14, i15, i16, i17⟩ hk hf ha
                  obtain ⟨d0, d1, d2, d3, d4, d5, d6, d7, d8, -⟩ := ha
                  have g7_ := i7 d7
                  have g8_ := i8 d8
                  rw [hc236] at g7_
                  refine L.kns [(44, undef), (43, .bool true)] ⟨g8_, g7_, trivial⟩ ?_
                  refine L.skip rfl rfl rfl rfl ?_
                  refine L.nil ?_
                  refine X.dr (s := s238) (e' := (45, undef) :: e) (Sub.both (Kn.sup ⟨g8_, g7_, trivial⟩)) ⟨im, Sub.fresh ib rfl, i0, i1, i2, i3, i4, i5, i6, i7, i8, fun _ => rfl, i10, i11, i12, i13, i14, i15, i16, i17⟩
                · rintro D e s239 ⟨im, ib, i0, i1, i2, i3, i4, i5, i6, i7, i8, i9, i10, i11, i12, i13, i14, i15, i16, i17⟩ hk hf ha
                  obtain ⟨d0, d1, d2, d3, d4, d5, d6, d7, d8, d9, -⟩ := ha
                  have g7_ := i7 d7
                  have g9_ := i9 d9
                  rw [hc236] at g7_
                  refine L.kns [(45, undef), (43, .bool true)] ⟨g9_, g7_, trivial⟩ ?_
                  refine L.skip rfl rfl rfl rfl ?_
                  refine L.nil ?_
                  refine X.dr (s := s239) (e' := (46, undef) :: e) (Sub.both (Kn.sup ⟨g9_, g7_, trivial⟩)) ⟨im, Sub.fresh ib rfl, i0, i1, i2, i3, i4, i5, i6, i7, i8, i9, fun _ => rfl, i11, i12, i13, i14, i15, i16, i17⟩
                · rintro D e s240 ⟨im, ib, i0, i1, i2, i3, i4, i5, i6, i7, i8, i9, i10, i11, i12, i13, i14, i15, i16, i17⟩ hk hf ha
                  obtain ⟨d0, d1, d2, d3, d4, d5, d6, d7, -⟩ := ha
                  have g7_ := i7 d7
                  rw [hc236] at g7_
                  refine L.kns [(0, .slice a7 st170.2.1.length c7), (43, .bool true)] ⟨(ib 0 _ rfl), g7_, trivial⟩ ?_
                  refine L.skip rfl rfl rfl rfl ?_
                  refine L.nil ?_
                  refine X.dr (s := s240) (e' := (47, undef) :: e) (Sub.both (Kn.sup ⟨(ib 0 _ rfl), g7_, trivial⟩)) ⟨im, Sub.fresh ib rfl, i0, i1, i2, i3, i4, i5, i6, i7, i8, i9, i10, fun _ => rfl, i12, i13, i14, i15, i16, i17⟩
                · rintro D e s241 ⟨im, ib, i0, i1, i2, i3, i4, i5, i6, i7, i8, i9, i10, i11, i12, i13, i14, i15, i16, i17⟩ hk hf ha
                  obtain ⟨d0, d1, d2, d3, d4, d5, d6, d7, d11, -⟩ := ha
                  have g7_ := i7 d7
                  have g11_ := i11 d11
                  rw [hc236] at g7_
                  refine L.kns [(47, undef), (43, .bool true)] ⟨g11_, g7_, trivial⟩ ?_
                  refine L.skip rfl rfl rfl rfl ?_
                  refine L.nil ?_
                  refine X.dr (s := s241) (e' := (48, undef) :: e) (Sub.both (Kn.sup ⟨g11_, g7_, trivial⟩)) ⟨im, Sub.fresh ib rfl, i0, i1, i2, i3, i4, i5, i6, i7, i8, i9, i10, i11, fun _ => rfl, i13, i14, i15, i16, i17⟩
                · rintro D e s242 ⟨im, ib, i0, i1, i2, i3, i4, i5, i6, i7, i8, i9, i10, i11, i12, i13, i14, i15, i16, i17⟩ hk hf ha
                  obtain ⟨d0, d1, d2, d3, d4, d5, d6, d7, d11, d12, -⟩ := ha
                  have g7_ := i7 d7
                  have g12_ := i12 d12
                  rw [hc236] at g7_
                  refine L.kns [(48, undef), (43, .bool true)] ⟨g12_, g7_, trivial⟩ ?_
                  refine L.skip rfl rfl rfl rfl ?_
                  refine L.nil ?_
                  refine X.dr (s := s242) (e' := (49, undef) :: e) (Sub.both (Kn.sup ⟨g12_, g7_, trivial⟩)) ⟨im, Sub.fresh ib rfl, i0, i1, i2, i3, i4, i5, i6, i7, i8, i9, i10, i11, i12, fun _ => rfl, i14, i15, i16, i17⟩
                · rintro D e s243 ⟨im, ib, i0, i1, i2, i3, i4, i5, i6, i7, i8, i9, i10, i11, i12, i13, i14, i15, i16, i17⟩ hk hf ha
                  obtain ⟨d0, d1, d2, d3, d4, d5, d6, d7, d8, d9, d10, d11, d12, d13, -⟩ := ha
                  have g7_ := i7 d7
                  have g10_ := i10 d10
                  have g13_ := i13 d13
                  rw [hc236] at g7_
                  refine L.kns [(46, undef), (49, undef), (43, .bool true)] ⟨g10_, g13_, g7_, trivial⟩ ?_
                  refine L.skip rfl rfl rfl rfl ?_
                  refine L.nil ?_
                  refine X.dr (s := s243) (e' := (50, undef) :: e) (Sub.both (Kn.sup ⟨g10_, g13_, g7_, trivial⟩)) ⟨im, Sub.fresh ib rfl, i0, i1, i2, i3, i4, i5, i6, i7, i8, i9, i10, i11, i12, i13, fun _ => rfl, i15, i16, i17⟩
                · rintro D e s244 ⟨im, ib, i0, i1, i2, i3, i4, i5, i6, i7, i8, i9, i10, i11, i12, i13, i14, i15, i16, i17⟩ hk hf ha
                  obtain ⟨d0, d1, d2, d3, d4, d5, d6, d7, d8, d9, d10, d11, d12, d13, d14, -⟩ := ha
                  have g3_ := i3 d3
                  have g7_ := i7 d7
                  have g14_ := i14 d14
                  rw [hc236] at g7_
                  rw [hc231] at g3_
                  refine L.kns [(43, .bool true), (50, undef), (39, .bool true)] ⟨g7_, g14_, g3_, trivial⟩ ?_
                  refine L.pkT (Wt.mk rfl rfl) rfl rfl rfl rfl ?_
                  refine L.nil ?_
                  refine X.dr (s := s244) (e' := (51, .bool true) :: e) (Sub.both (Kn.sup ⟨g7_, g14_, g3_, trivial⟩)) ⟨im, Sub.fresh ib rfl, i0, i1, i2, i3, i4, i5, i6, i7, i8, i9, i10, i11, i12, i13, i14, fun _ => rfl, i16, i17⟩
                · rintro D e s245 ⟨im, ib, i0, i1, i2, i3, i4, i5, i6, i7, i8, i9, i10, i11, i12, i13, i14, i15, i16, i17⟩ hk hf ha
                  obtain ⟨d0, d1, d2, d3, d4, d5, d6, d7, d8, d9, d10, d11, d12, d13, d14, d15, -⟩ := ha
                  have g3_ := i3 d3
                  have g15_ := i15 d15
                  rw [hc231] at g3_
                  refine L.kns [(39, .bool true), (51, .bool true)] ⟨g3_, g15_, trivial⟩ ?_
                  refine L.pkT Wt.no rfl rfl rfl rfl ?_
                  refine L.nil ?_
                  refine X.dr (s := s245) (e' := (52, .bool true) :: e) (Sub.both (Kn.sup ⟨g3_, g15_, trivial⟩)) ⟨im, Sub.fresh ib rfl, i0, i1, i2, i3, i4, i5, i6, i7, i8, i9, i10, i11, i12, i13, i14, i15, fun _ => rfl, i17⟩
                · rintro D e s246 ⟨im, ib, i0, i1, i2, i3, i4, i5, i6, i7, i8, i9, i10, i11, i12, i13, i14, i15, i16, i17⟩ hk hf ha
                  obtain ⟨d0, d1, d2, d3, d4, d5, d6, d7, d8, d9, d10, d11, d12, d13, d14, d15, d16, -⟩ := ha
                  have g16_ := i16 d16
                  refine L.kns [(52, .bool true)] ⟨g16_, trivial⟩ ?_
                  refine L.as Wt.no rfl rfl ?_
                  refine L.nil ?_
                  refine X.dr (s := s246) (e' := (9, .bool true) :: e) (Sub.both (Kn.sup ⟨g16_, trivial⟩)) ⟨im, Sub.fresh ib rfl, i0, i1, i2, i3, i4, i5, i6, i7, i8, i9, i10, i11, i12, i13, i14, i15, i16, fun _ => rfl⟩
              · rintro D e s247 hD ⟨im, ib, i0, i1, i2, i3, i4, i5, i6, i7, i8, i9, i10, i11, i12, i13, i14, i15, i16, i17⟩
                have g17_ := i17 (hD 17 rfl)
                have h5 := h5.mv im no_No no_No
                have h7 := h7.mono (im.le no_No)
                have h9 := h9.mono (im.le no_No)
                have hp2 := hp2.mono (im.le no_No)
                have m0 := m0.trans im.no
                refine X.sub (e' := [(9, .bool true), (8, .bool b177), (7, .slice a5 st170.1.length c5), (0, .slice a7 st170.2.1.length c7), (1, .slice a9 st170.2.2.length c9), (2, vp2)]) ?_ (Sub.cons g17_ (Sub.cons (ib 8 _ rfl) (Sub.cons (ib 7 _ rfl) (Sub.cons (ib 0 _ rfl) (Sub.cons (ib 1 _ rfl) (Sub.cons (ib 2 _ rfl) Sub.nil))))))
                exact X.sub (Jj182 _ _ ⟨s247, true, hm, m0, h5, h7, h9, hp2, rfl, rfl⟩) (Sub.cons rfl (Sub.cons rfl (Sub.cons rfl (Sub.cons rfl (Sub.cons rfl (Sub.cons rfl Sub.nil))))))
            · have _ := hN
              obtain ⟨x250, ex250, hm⟩ := bindS hm
              obtain ⟨x255, ex255, hm⟩ := bindS hm
              refine E.draw [[], [0], [0, 1], [0, 1, 2], [0, 1, 2, 3], [0, 1, 2, 3, 4], [0, 1, 2, 3, 4, 5], [0, 1, 2, 3, 4, 5, 6], [0, 1, 2, 3, 4, 5, 6, 7], [0, 1, 2, 3, 4, 5, 6, 7, 8], [0, 1, 2, 3, 4, 5, 6, 7, 8, 9], [0, 1, 2, 3, 4, 5, 6, 7], [0, 1, 2, 3, 4, 5, 6, 7, 11], [0, 1, 2, 3, 4, 5, 6, 7, 11, 12], [0, 1, 2, 3, 4, 5, 6, 7, 8, 9, 10, 11, 12, 13], [0, 1, 2, 3, 4, 5, 6, 7, 8, 9, 10, 11, 12, 13, 14], [0, 1, 2, 3, 4, 5, 6, 7, 8, 9, 10, 11, 12, 13, 14, 15], [0, 1, 2, 3, 4, 5, 6, 7, 8, 9, 10, 11, 12, 13, 14, 15, 16]] (fun D e sx => Mv No s178 sx ∧ Sub [(8, .bool b177), (7, .slice a5 st170.1.length c5), (0, .slice a7 st170.2.1.length c7), (1, .slice a9 st170.2.2.length c9), (2, vp2)] e ∧ (D 0 = true → (Env.get e 36 = some (.slice a9 st170.2.2.length c9))) ∧ (D 1 = true → (Env.get e 37 = some (.int .i64 (st170.2.2.length : Int)))) ∧ (D 2 = true → (Env.get e 38 = some (.bool (decide ((st170.2.2.length : Int) > 0))))) ∧ (D 3 = true → (Env.get e 39 = some (.bool (decide ((st170.2.2.length : Int) > 0))))) ∧ (D 4 = true → (Env.get e 40 = some (.slice a7 st170.2.1.length c7))) ∧ (D 5 = true → (Env.get e 41 = some (.int .i64 (st170.2.1.length : Int)))) ∧ (D 6 = true → (Env.get e 42 = some (.bool ((st170.2.1.length : Int) == 0)))) ∧ (D 7 = true → (Env.get e 43 = some (.bool ((st170.2.1.length : Int) == 0)))) ∧ (D 8 = true → (Env.get e 44 = some (.slice a9 st170.2.2.length c9))) ∧ (D 9 = true → (∃ (b251 : Nat) (o251 : Nat), Env.get e 45 = some (.pointer (some ⟨b251, o251, none⟩)) ∧ Mem sx 0 b251 o251 [.int .i64 x250])) ∧ (D 10 = true → (Env.get e 46 = some (.int .i64 x250))) ∧ (D 11 = true → (Env.get e 47 = some (.slice a7 st170.2.1.length c7))) ∧ (D 12 = true → (∃ (b256 : Nat) (o256 : Nat), Env.get e 48 = some (.pointer (some ⟨b256, o256, none⟩)) ∧ Mem sx 0 b256 o256 [.int .i64 x255])) ∧ (D 13 = true → (Env.get e 49 = some (.int .i64 x255))) ∧ (D 14 = true → (Env.get e 50 = some (.bool (decide (x250 ≤ x255))))) ∧ (D 15 = true → (Env.get e 51 = some (.bool (decide (x250 ≤ x255))))) ∧ (D 16 = true → (Env.get e 52 = some (.bool (decide (x250 ≤ x255))))) ∧ (D 17 = true → (Env.get e 9 = some (.bool (decide (x250 ≤ x255)))))) (by kernel_rfl) (by kernel_rfl) (by kernel_rfl) ?_ ?_ ?_
              · intro sz mz
                exact ⟨mz, (Sub.cons rfl (Sub.cons rfl (Sub.cons rfl (Sub.cons rfl (Sub.cons rfl Sub.nil))))), nofun, nofun, nofun, nofun, nofun, nofun, nofun, nofun, nofun, nofun, nofun, nofun, nofun, nofun, nofun, nofun, nofun, nofun⟩
              · refine ⟨?_, ?_, ?_, ?_, ?_, ?_, ?_, ?_, ?_, ?_, ?_, ?_, ?_, ?_, ?_, ?_, ?_, ?_, trivial⟩
                · rintro D e s227 ⟨im, ib, i0, i1, i2, i3, i4, i5, i6, i7, i8, i9, i10, i11, i12, i13, i14, i15, i16, i17⟩ hk hf ha
                  refine L.kns [(1, .slice a9 st170.2.2.length c9)] ⟨(ib 1 _ rfl), trivial⟩ ?_
                  refine L.mv Wt.no rfl rfl ?_
                  refine L.nil ?_
                  refine X.dr (s := s227) (e' := (36, .slice a9 st170.2.2.length c9) :: e) (Sub.both (Kn.sup ⟨(ib 1 _ rfl), trivial⟩)) ⟨im, Sub.fresh ib rfl, fun _ => rfl, i1, i2, i3, i4, i5, i6, i7, i8, i9, i10, i11, i12, i13, i14, i15, i16, i17⟩
                · rintro D e s228 ⟨im, ib, i0, i1, i2, i3, i4, i5, i6, i7, i8, i9, i10, i11, i12, i13, i14, i15, i16, i17⟩ hk hf ha
                  obtain ⟨d0, -⟩ := ha
                  have g0_ := i0 d0
                  refine L.kns [(36, .slice a9 st170.2.2.length c9)] ⟨g0_, trivial⟩ ?_
                  refine L.len sl23 Wt.no rfl rfl ?_
                  refine L.nil ?_
                  refine X.dr (s := s228) (e' := (37, .int .i64 (st170.2.2.length : Int)) :: e) (Sub.both (Kn.sup ⟨g0_, trivial⟩)) ⟨im, Sub.fresh ib rfl, i0, fun _ => rfl, i2, i3, i4, i5, i6, i7, i8, i9, i10, i11, i12, i13, i14, i15, i16, i17⟩
                · rintro D e s229 ⟨im, ib, i0, i1, i2, i3, i4, i5, i6, i7, i8, i9, i10, i11, i12, i13, i14, i15, i16, i17⟩ hk hf ha
                  obtain ⟨d0, d1, -⟩ := ha
                  have g1_ := i1 d1
                  refine L.kns [(37, .int .i64 (st170.2.2.length : Int))] ⟨g1_, trivial⟩ ?_
                  refine L.bi Wt.no rfl rfl rfl rfl ?_
                  refine L.nil ?_
                  refine X.dr (s := s229) (e' := (38, .bool (decide ((st170.2.2.length : Int) > 0))) :: e) (Sub.both (Kn.sup ⟨g1_, trivial⟩)) ⟨im, Sub.fresh ib rfl, i0, i1, fun _ => rfl, i3, i4, i5, i6, i7, i8, i9, i10, i11, i12, i13, i14, i15, i16, i17⟩
                · rintro D e s230 ⟨im, ib, i0, i1, i2, i3, i4, i5, i6, i7, i8, i9, i10, i11, i12, i13, i14, i15, i16, i17⟩ hk hf ha
                  obtain ⟨d0, d1, d2, -⟩ := ha
                  have g2_ := i2 d2
                  refine L.kns [(38, .bool (decide ((st170.2.2.length : Int) > 0)))] ⟨g2_, trivial⟩ ?_
                  refine L.mv Wt.no rfl rfl ?_
                  refine L.nil ?_
                  refine X.dr (s := s230) (e' := (39, .bool (decide ((st170.2.2.length : Int) > 0))) :: e) (Sub.both (Kn.sup ⟨g2_, trivial⟩)) ⟨im, Sub.fresh ib rfl, i0, i1, i2, fun _ => rfl, i4, i5, i6, i7, i8, i9, i10, i11, i12, i13, i14, i15, i16, i17⟩
                · rintro D e s232 ⟨im, ib, i0, i1, i2, i3, i4, i5, i6, i7, i8, i9, i10, i11, i12, i13, i14, i15, i16, i17⟩ hk hf ha
                  obtain ⟨d0, d1, d2, d3, -⟩ := ha
                  have g3_ := i3 d3
                  rw [hc231] at g3_
                  refine L.kns [(0, .slice a7 st170.2.1.length c7), (39, .bool true)] ⟨(ib 0 _ rfl), g3_, trivial⟩ ?_
                  refine L.mv (Wt.mk rfl rfl) rfl rfl ?_
                  refine L.nil ?_
                  refine X.dr (s := s232) (e' := (40, .slice a7 st170.2.1.length c7) :: e) (Sub.both (Kn.sup ⟨(ib 0 _ rfl), g3_, trivial⟩)) ⟨im, Sub.fresh ib rfl, i0, i1, i2, i3, fun _ => rfl, i5, i6, i7, i8, i9, i10, i11, i12, i13, i14, i15, i16, i17⟩
                · rintro D e s233 ⟨im, ib, i0, i1, i2, i3, i4, i5, i6, i7, i8, i9, i10, i11, i12, i13, i14, i15, i16, i17⟩ hk hf ha
                  obtain ⟨d0, d1, d2, d3, d4, -⟩ := ha
                  have g3_ := i3 d3
                  have g4_ := i4 d4
                  rw [hc231] at g3_
                  refine L.kns [(40, .slice a7 st170.2.1.length c7), (39, .bool true)] ⟨g4_, g3_, trivial⟩ ?_
                  refine L.len sl23 (Wt.mk rfl rfl) rfl rfl ?_
                  refine L.nil ?_
                  refine X.dr (s := s233) (e' := (41, .int .i64 (st170.2.1.length : Int)) :: e) (Sub.both (Kn.sup ⟨g4_, g3_, trivial⟩)) ⟨im, Sub.fresh ib rfl, i0, i1, i2, i3, i4, fun _ => rfl, i6, i7, i8, i9, i10, i11, i12, i13, i14, i15, i16, i17⟩
                · rintro D e s234 ⟨im, ib, i0, i1, i2, i3, i4, i5, i6, i7, i8, i9, i10, i11, i12, i13, i14, i15, i16, i17⟩ hk hf ha
                  obtain ⟨d0, d1, d2, d3, d4, d5, -⟩ := ha
                  have g3_ := i3 d3
                  have g5_ := i5 d5
                  rw [hc231] at g3_
                  refine L.kns [(41, .int .i64 (st170.2.1.length : Int)), (39, .bool true)] ⟨g5_, g3_, trivial⟩ ?_
                  refine L.bi (Wt.mk rfl rfl) rfl rfl rfl rfl ?_
                  refine L.nil ?_
                  refine X.dr (s := s234) (e' := (42, .bool ((st170.2.1.length : Int) == 0)) :: e) (Sub.both (Kn.sup ⟨g5_, g3_, trivial⟩)) ⟨im, Sub.fresh ib rfl, i0, i1, i2, i3, i4, i5, fun _ => rfl, i7, i8, i9, i10, i11, i12, i13, i14, i15, i16, i17⟩
                · rintro D e s235 ⟨im, ib, i0, i1, i2, i3, i4, i5, i6, i7, i8, i9, i10, i11, i12, i13, i14, i15, i16, i17⟩ hk hf ha
                  obtain ⟨d0, d1, d2, d3, d4, d5, d6, -⟩ := ha
                  have g3_ := i3 d3
                  have g6_ := i6 d6
                  rw [hc231] at g3_
                  refine L.kns [(42, .bool ((st170.2.1.length : Int) == 0)), (39, .bool true)] ⟨g6_, g3_, trivial⟩ ?_
                  refine L.mv (Wt.mk rfl rfl) rfl rfl ?_
                  refine L.nil ?_
                  refine X.dr (s := s235) (e' := (43, .bool ((st170.2.1.length : Int) == 0)) :: e) (Sub.both (Kn.sup ⟨g6_, g3_, trivial⟩)) ⟨im, Sub.fresh ib rfl, i0, i1, i2, i3, i4, i5, i6, fun _ => rfl, i8, i9, i10, i11, i12, i13, i14, i15, i16, i17⟩
                · rintro D e s248 ⟨im, ib, i0, i1, i2, i3, i4, i5, i6, i7, i8, i9, i10, i11, i12, i13, i14, i15, i16, i17⟩ hk hf ha
                  obtain ⟨d0, d1, d2, d3, d4, d5, d6, d7, -⟩ := ha
                  have g7_ := i7 d7
                  rw [hc236] at g7_
                  refine L.kns [(1, .slice a9 st170.2.2.length c9), (43, .bool false)] ⟨(ib 1 _ rfl), g7_, trivial⟩ ?_
                  refine L.mv (Wt.mk rfl rfl) rfl rfl ?_
                  refine L.nil ?_
                  refine X.dr (s := s248) (e' := (44, .slice a9 st170.2.2.length c9) :: e) (Sub.both (Kn.sup ⟨(ib 1 _ rfl), g7_, trivial⟩)) ⟨im, Sub.fresh ib rfl, i0, i1, i2, i3, i4, i5, i6, i7, fun _ => rfl, i9, i10, i11, i12, i13, i14, i15, i16, i17⟩
                · rintro D e s249 ⟨im, ib, i0, i1, i2, i3, i4, i5, i6, i7, i8, i9, i10, i11, i12, i13, i14, i15, i16, i17⟩ hk hf ha
                  obtain ⟨d0, d1, d2, d3, d4, d5, d6, d7, d8, -⟩ := ha
                  have g7_ := i7 d7
                  have g8_ := i8 d8
                  have h9 := h9.mono (im.le no_No)
                  rw [hc236] at g7_
                  refine L.kns [(44, .slice a9 st170.2.2.length c9), (43, .bool false)] ⟨g8_, g7_, trivial⟩ ?_
                  refine L.ix (r := (rK .i64)) sl23 h9 (Wt.mk rfl rfl) rfl rfl ex250 rfl ?_
                  rintro b251 o251 cc251 me251 rd251
                  obtain rfl := rd251
                  refine L.nil ?_
                  refine X.dr (s := s249) (e' := (45, .pointer (some ⟨b251, o251, none⟩)) :: e) (Sub.both (Kn.sup ⟨g8_, g7_, trivial⟩)) ⟨im, Sub.fresh ib rfl, i0, i1, i2, i3, i4, i5, i6, i7, i8, fun _ => ⟨b251, o251, rfl, me251⟩, i10, i11, i12, i13, i14, i15, i16, i17⟩
                · rintro D e s252 ⟨im, ib, i0, i1, i2, i3, i4, i5, i6, i7, i8, i9, i10, i11, i12, i13, i14, i15, i16, i17⟩ hk hf ha
                  obtain ⟨d0, d1, d2, d3, d4, d5, d6, d7, d8, d9, -⟩ := ha
                  have g7_ := i7 d7
                  obtain ⟨b251, o251, g9_, me251⟩ := i9 d9
                  rw [hc236] at g7_
                  refine L.kns [(45, .pointer (some ⟨b251, o251, none⟩)), (43, .bool false)] ⟨g9_, g7_, trivial⟩ ?_
                  refine L.ld (j := 0) me251 nag3 (Wt.mk rfl rfl) rfl rfl rfl rfl ?_
                  refine L.nil ?_
                  refine X.dr (s := s252) (e' := (46, .int .i64 x250) :: e) (Sub.both (Kn.sup ⟨g9_, g7_, trivial⟩)) ⟨im, Sub.fresh ib rfl, i0, i1, i2, i3, i4, i5, i6, i7, i8, i9, fun _ => rfl, i11, i12, i13, i14, i15, i16, i17⟩
                · rintro D e s253 ⟨im, ib, i0, i1, i2, i3, i4, i5, i6, i7, i8, i9, i10, i11, i12, i13, i14, i15, i16, i17⟩ hk hf ha
                  obtain ⟨d0, d1, d2, d3, d4, d5, d6, d7, -⟩ := ha
                  have g7_ := i7 d7
                  rw [hc236] at g7_
                  refine L.kns [(0, .slice a7 st170.2.1.length c7), (43, .bool false)] ⟨(ib 0 _ rfl), g7_, trivial⟩ ?_
                  refine L.mv (Wt.mk rfl rfl) rfl rfl ?_
                  refine L.nil ?_
                  refine X.dr (s := s253) (e' := (47, .slice a7 st170.2.1.length c7) :: e) (Sub.both (Kn.sup ⟨(ib 0 _ rfl), g7_, trivial⟩)) ⟨im, Sub.fresh ib rfl, i0, i1, i2, i3, i4, i5, i6, i7, i8, i9, i10, fun _ => rfl, i12, i13, i14, i15, i16, i17⟩
                · rintro D e s254 ⟨im, ib, i0, i1, i2, i3, i4, i5, i6, i7, i8, i9, i10, i11, i12, i13, i14, i15, i16, i17⟩ hk hf ha
                  obtain ⟨d0, d1, d2, d3, d4, d5, d6, d7, d11, -⟩ := ha
                  have g7_ := i7 d7
                  have g11_ := i11 d11
                  have h7 := h7.mono (im.le no_No)
                  rw [hc236] at g7_
                  refine L.kns [(47, .slice a7 st170.2.1.length c7), (43, .bool false)] ⟨g11_, g7_, trivial⟩ ?_
                  refine L.ix (r := (rK .i64)) sl23 h7 (Wt.mk rfl rfl) rfl rfl ex255 rfl ?_
                  rintro b256 o256 cc256 me256 rd256
                  obtain rfl := rd256
                  refine L.nil ?_
                  refine X.dr (s := s254) (e' := (48, .pointer (some ⟨b256, o256, none⟩)) :: e) (Sub.both (Kn.sup ⟨g11_, g7_, trivial⟩)) ⟨im, Sub.fresh ib rfl, i0, i1, i2, i3, i4, i5, i6, i7, i8, i9, i10, i11, fun _ => ⟨b256, o256, rfl, me256⟩, i13, i14, i15, i16, i17⟩
                · rintro D e s257 ⟨im, ib, i0, i1, i2, i3, i4, i5, i6, i7, i8, i9, i10, i11, i12, i13, i14, i15, i16, i17⟩ hk hf ha
                  obtain ⟨d0, d1, d2, d3, d4, d5, d6, d7, d11, d12, -⟩ := ha
                  have g7_ := i7 d7
                  obtain ⟨b256, o256, g12_, me256⟩ := i12 d12
                  rw [hc236] at g7_
                  refine L.kns [(48, .pointer (some ⟨b256, o256, none⟩)), (43, .bool false)] ⟨g12_, g7_, trivial⟩ ?_
                  refine L.ld (j := 0) me256 nag3 (Wt.mk rfl rfl) rfl rfl rfl rfl ?_
                  refine L.nil ?_
                  refine X.dr (s := s257) (e' := (49, .int .i64 x255) :: e) (Sub.both (Kn.sup ⟨g12_, g7_, trivial⟩)) ⟨im, Sub.fresh ib rfl, i0, i1, i2, i3, i4, i5, i6, i7, i8, i9, i10, i11, i12, fun _ => rfl, i14, i15, i16, i17⟩
                · rintro D e s258 ⟨im, ib, i0, i1, i2, i3, i4, i5, i6, i7, i8, i9, i10, i11, i12, i13, i14, i15, i16, i17⟩ hk hf ha
                  obtain ⟨d0, d1, d2, d3, d4, d5, d6, d7, d8, d9, d10, d11, d12, d13, -⟩ := ha
                  have g7_ := i7 d7
                  have g10_ := i10 d10
                  have g13_ := i13 d13
                  rw [hc236] at g7_
                  refine L.kns [(46, .int .i64 x250), (49, .int .i64 x255), (43, .bool false)] ⟨g10_, g13_, g7_, trivial⟩ ?_
                  refine L.bi (Wt.mk rfl rfl) rfl rfl rfl rfl ?_
                  refine L.nil ?_
                  refine X.dr (s := s258) (e' := (50, .bool (decide (x250 ≤ x255))) :: e) (Sub.both (Kn.sup ⟨g10_, g13_, g7_, trivial⟩)) ⟨im, Sub.fresh ib rfl, i0, i1, i2, i3, i4, i5, i6, i7, i8, i9, i10, i11, i12, i13, fun _ => rfl, i15, i16, i17⟩
                · rintro D e s259 ⟨im, ib, i0, i1, i2, i3, i4, i5, i6, i7, i8, i9, i10, i11, i12, i13, i14, i15, i16, i17⟩ hk hf ha
                  obtain ⟨d0, d1, d2, d3, d4, d5, d6, d7, d8, d9, d10, d11, d12, d13, d14, -⟩ := ha
                  have g3_ := i3 d3
                  have g7_ := i7 d7
                  have g14_ := i14 d14
                  rw [hc236] at g7_
                  rw [hc231] at g3_
                  refine L.kns [(43, .bool false), (50, .bool (decide (x250 ≤ x255))), (39, .bool true)] ⟨g7_, g14_, g3_, trivial⟩ ?_
                  refine L.pkF (Wt.mk rfl rfl) rfl rfl rfl rfl ?_
                  refine L.nil ?_
                  refine X.dr (s := s259) (e' := (51, .bool (decide (x250 ≤ x255))) :: e) (Sub.both (Kn.sup ⟨g7_, g14_, g3_, trivial⟩)) ⟨im, Sub.fresh ib rfl, i0, i1, i2, i3, i4, i5, i6, i7, i8, i9, i10, i11, i12, i13, i14, fun _ => rfl, i16, i17⟩
                · rintro D e s260 ⟨im, ib, i0, i1, i2, i3, i4, i5, i6, i7, i8, i9, i10, i11, i12, i13, i14, i15, i16, i17⟩ hk hf ha
                  obtain ⟨d0, d1, d2, d3, d4, d5, d6, d7, d8, d9, d10, d11, d12, d13, d14, d15, -⟩ := ha
                  have g3_ := i3 d3
                  have g15_ := i15 d15
                  rw [hc231] at g3_
                  refine L.kns [(39, .bool true), (51, .bool (decide (x250 ≤ x255)))] ⟨g3_, g15_, trivial⟩ ?_
                  refine L.pkT Wt.no rfl rfl rfl rfl ?_
                  refine L.nil ?_
                  refine X.dr (s := s260) (e' := (52, .bool (decide (x250 ≤ x255))) :: e) (Sub.both (Kn.sup ⟨g3_, g15_, trivial⟩)) ⟨im, Sub.fresh ib rfl, i0, i1, i2, i3, i4, i5, i6, i7, i8, i9, i10, i11, i12, i13, i14, i15, fun _ => rfl, i17⟩
                · rintro D e s261 ⟨im, ib, i0, i1, i2, i3, i4, i5, i6, i7, i8, i9, i10, i11, i12, i13, i14, i15, i16, i17⟩ hk hf ha
                  obtain ⟨d0, d1, d2, d3, d4, d5, d6, d7, d8, d9, d10, d11, d12, d13, d14, d15, d16, -⟩ := ha
                  have g16_ := i16 d16
                  refine L.kns [(52, .bool (decide (x250 ≤ x255)))] ⟨g16_, trivial⟩ ?_
                  refine L.as Wt.no rfl rfl ?_
                  refine L.nil ?_
                  refine X.dr (s := s261) (e' := (9, .bool (decide (x250 ≤ x255))) :: e) (Sub.both (Kn.sup ⟨g16_, trivial⟩)) ⟨im, Sub.fresh ib rfl, i0, i1, i2, i3, i4, i5, i6, i7, i8, i9, i10, i11, i12, i13, i14, i15, i16, fun _ => rfl⟩
              · rintro D e s262 hD ⟨im, ib, i0, i1, i2, i3, i4, i5, i6, i7, i8, i9, i10, i11, i12, i13, i14, i15, i16, i17⟩
                have g17_ := i17 (hD 17 rfl)
                have h5 := h5.mv im no_No no_No
                have h7 := h7.mono (im.le no_No)
                have h9 := h9.mono (im.le no_No)
                have hp2 := hp2.mono (im.le no_No)
                have m0 := m0.trans im.no
                refine X.sub (e' := [(9, .bool (decide (x250 ≤ x255))), (8, .bool b177), (7, .slice a5 st170.1.length c5), (0, .slice a7 st170.2.1.length c7), (1, .slice a9 st170.2.2.length c9), (2, vp2)]) ?_ (Sub.cons g17_ (Sub.cons (ib 8 _ rfl) (Sub.cons (ib 7 _ rfl) (Sub.cons (ib 0 _ rfl) (Sub.cons (ib 1 _ rfl) (Sub.cons (ib 2 _ rfl) Sub.nil))))))
                exact X.sub (Jj182 _ _ ⟨s262, (decide (x250 ≤ x255)), hm, m0, h5, h7, h9, hp2, rfl, rfl⟩) (Sub.cons rfl (Sub.cons rfl (Sub.cons rfl (Sub.cons rfl (Sub.cons rfl (Sub.cons rfl Sub.nil))))))
          · have _ := hN
            refine E.draw [[], [0], [0, 1], [0, 1, 2], [0, 1, 2, 3], [0, 1, 2, 3, 4], [0, 1, 2, 3, 4, 5], [0, 1, 2, 3, 4, 5, 6], [0, 1, 2, 3, 4, 5, 6, 7], [0, 1, 2, 3, 4, 5, 6, 7, 8], [0, 1, 2, 3, 4, 5, 6, 7, 8, 9], [0, 1, 2, 3, 4, 5, 6, 7], [0, 1, 2, 3, 4, 5, 6, 7, 11], [0, 1, 2, 3, 4, 5, 6, 7, 11, 12], [0, 1, 2, 3, 4, 5, 6, 7, 8, 9, 10, 11, 12, 13], [0, 1, 2, 3, 4, 5, 6, 7, 8, 9, 10, 11, 12, 13, 14], [0, 1, 2, 3, 4, 5, 6, 7, 8, 9, 10, 11, 12, 13, 14, 15], [0, 1, 2, 3, 4, 5, 6, 7, 8, 9, 10, 11, 12, 13, 14, 15, 16]] (fun D e sx => Mv No s178 sx ∧ Sub [(8, .bool b177), (7, .slice a5 st170.1.length c5), (0, .slice a7 st170.2.1.length c7), (1, .slice a9 st170.2.2.length c9), (2, vp2)] e ∧ (D 0 = true → (Env.get e 36 = some (.slice a9 st170.2.2.length c9))) ∧ (D 1 = true → (Env.get e 37 = some (.int .i64 (st170.2.2.length : Int)))) ∧ (D 2 = true → (Env.get e 38 = some (.bool (decide ((st170.2.2.length : Int) > 0))))) ∧ (D 3 = true → (Env.get e 39 = some (.bool (decide ((st170.2.2.length : Int) > 0))))) ∧ (D 4 = true → (Env.get e 40 = some undef)) ∧ (D 5 = true → (Env.get e 41 = some undef)) ∧ (D 6 = true → (Env.get e 42 = some undef)) ∧ (D 7 = true → (Env.get e 43 = some undef)) ∧ (D 8 = true → (Env.get e 44 = some undef)) ∧ (D 9 = true → (Env.get e 45 = some undef)) ∧ (D 10 = true → (Env.get e 46 = some undef)) ∧ (D 11 = true → (Env.get e 47 = some undef)) ∧ (D 12 = true → (Env.get e 48 = some undef)) ∧ (D 13 = true → (Env.get e 49 = some undef)) ∧ (D 14 = true → (Env.get e 50 = some undef)) ∧ (D 15 = true → (Env.get e 51 = some undef)) ∧ (D 16 = true → (Env.get e 52 = some (.bool false))) ∧ (D 17 = true → (Env.get e 9 = some (.bool false)))) (by kernel_rfl) (by kernel_rfl) (by kernel_rfl) ?_ ?_ ?_
            · intro sz mz
              exact ⟨mz, (Sub.cons rfl (Sub.cons rfl (Sub.cons rfl (Sub.cons rfl (Sub.cons rfl Sub.nil))))), nofun, nofun, nofun, nofun, nofun, nofun, nofun, nofun, nofun, nofun, nofun, nofun, nofun, nofun, nofun, nofun, nofun, nofun⟩
            · refine ⟨?_, ?_, ?_, ?_, ?_, ?_, ?_, ?_, ?_, ?_, ?_, ?_, ?_, ?_, ?_, ?_, ?_, ?_, trivial⟩
              · rintro D e s227 ⟨im, ib, i0, i1, i2, i3, i4, i5, i6, i7, i8, i9, i10, i11, i12, i13, i14, i15, i16, i17⟩ hk hf ha
                refine L.kns [(1, .slice a9 st170.2.2.length c9)] ⟨(ib 1 _ rfl), trivial⟩ ?_
                refine L.mv Wt.no rfl rfl ?_
                refine L.nil ?_
                refine X.dr (s := s227) (e' := (36, .slice a9 st170.2.2.length c9) :: e) (Sub.both (Kn.sup ⟨(ib 1 _ rfl), trivial⟩)) ⟨im, Sub.fresh ib rfl, fun _ => rfl, i1, i2, i3, i4, i5, i6, i7, i8, i9, i10, i11, i12, i13, i14, i15, i16, i17⟩
              · rintro D e s228 ⟨im, ib, i0, i1, i2, i3, i4, i5, i6, i7, i8, i9, i10, i11, i12, i13, i14, i15, i16, i17⟩ hk hf ha
                obtain ⟨d0, -⟩ := ha
                have g0_ := i0 d0
                refine L.kns [(36, .slice a9 st170.2.2.length c9)] ⟨g0_, trivial⟩ ?_
                refine L.len sl23 Wt.no rfl rfl ?_
                refine L.nil ?_
                refine X.dr (s := s228) (e' := (37, .int .i64 (st170.2.2.length : Int)) :: e) (Sub.both (Kn.sup ⟨g0_, trivial⟩)) ⟨im, Sub.fresh ib rfl, i0, fun _ => rfl, i2, i3, i4, i5, i6, i7, i8, i9, i10, i11, i12, i13, i14, i15, i16, i17⟩
              · rintro D e s229 ⟨im, ib, i0, i1, i2, i3, i4, i5, i6, i7, i8, i9, i10, i11, i12, i13, i14, i15, i16, i17⟩ hk hf ha
                obtain ⟨d0, d1, -⟩ := ha
                have g1_ := i1 d1
                refine L.kns [(37, .int .i64 (st170.2.2.length : Int))] ⟨g1_, trivial⟩ ?_
                refine L.bi Wt.no rfl rfl rfl rfl ?_
                refine L.nil ?_
                refine X.dr (s := s229) (e' := (38, .bool (decide ((st170.2.2.length : Int) > 0))) :: e) (Sub.both (Kn.sup ⟨g1_, trivial⟩)) ⟨im, Sub.fresh ib rfl, i0, i1, fun _ => rfl, i3, i4, i5, i6, i7, i8, i9, i10, i11, i12, i13, i14, i15, i16, i17⟩
              · rintro D e s230 ⟨im, ib, i0, i1, i2, i3, i4, i5, i6, i7, i8, i9, i10, i11, i12, i13, i14, i15, i16, i17⟩ hk hf ha
                obtain ⟨d0, d1, d2, -⟩ := ha
                have g2_ := i2 d2
                refine L.kns [(38, .bool (decide ((st170.2.2.length : Int) > 0)))] ⟨g2_, trivial⟩ ?_
                refine L.mv Wt.no rfl rfl ?_
                refine L.nil ?_
                refine X.dr (s := s230) (e' := (39, .bool (decide ((st170.2.2.length : Int) > 0))) :: e) (Sub.both (Kn.sup ⟨g2_, trivial⟩)) ⟨im, Sub.fresh ib rfl, i0, i1, i2, fun _ => rfl, i4, i5, i6, i7, i8, i9, i10, i11, i12, i13, i14, i15, i16, i17⟩
              · rintro D e s263 ⟨im, ib, i0, i1, i2, i3, i4, i5, i6, i7, i8, i9, i10, i11, i12, i13, i14, i15, i16, i17⟩ hk hf ha
                obtain ⟨d0, d1, d2, d3, -⟩ := ha
                have g3_ := i3 d3
                rw [hc231] at g3_
                refine L.kns [(0, .slice a7 st170.2.1.length c7), (39, .bool false)] ⟨(ib 0 _ rfl), g3_, trivial⟩ ?_
                refine L.skip rfl rfl rfl rfl ?_
                refine L.nil ?_
                refine X.dr (s := s263) (e' := (40, undef) :: e) (Sub.both (Kn.sup ⟨(ib 0 _ rfl), g3_, trivial⟩)) ⟨im, Sub.fresh ib rfl, i0, i1, i2, i3, fun _ => rfl, i5, i6, i7, i8, i9, i10, i11, i12, i13, i14, i15, i16, i17⟩
              · rintro D e s264 ⟨im, ib, i0, i1, i2, i3, i4, i5, i6, i7, i8, i9, i10, i11, i12, i13, i14, i15, i16, i17⟩ hk hf ha
                obtain ⟨d0, d1, d2, d3, d4, -⟩ := ha
                have g3_ := i3 d3
                have g4_ := i4 d4
                rw [hc231] at g3_
                refine L.kns [(40, undef), (39, .bool false)] ⟨g4_, g3_, trivial⟩ ?_
                refine L.skip rfl rfl rfl rfl ?_
                refine L.nil ?_
                refine X.dr (s := s264) (e' := (41, undef) :: e) (Sub.both (Kn.sup ⟨g4_, g3_, trivial⟩)) ⟨im, Sub.fresh ib rfl, i0, i1, i2, i3, i4, fun _ => rfl, i6, i7, i8, i9, i10, i11, i12, i13, i14, i15, i16, i17⟩
              · rintro D e s265 ⟨im, ib, i0, i1, i2, i3, i4, i5, i6, i7, i8, i9, i10, i11, i12, i13, i14, i15, i16, i17⟩ hk hf ha
                obtain ⟨d0, d1, d2, d3, d4, d5, -⟩ := ha
                have g3_ := i3 d3
                have g5_ := i5 d5
                rw [hc231] at g3_
                refine L.kns [(41, undef), (39, .bool false)] ⟨g5_, g3_, trivial⟩ ?_
                refine L.skip rfl rfl rfl rfl ?_
                refine L.nil ?_
                refine X.dr (s := s265) (e' := (42, undef) :: e) (Sub.both (Kn.sup ⟨g5_, g3_, trivial⟩)) ⟨im, Sub.fresh ib rfl, i0, i1, i2, i3, i4, i5, fun _ => rfl, i7, i8, i9, i10, i11, i12, i13, i14, i15, i16, i17⟩
              · rintro D e s266 ⟨im, ib, i0, i1, i2, i3, i4, i5, i6, i7, i8, i9, i10, i11, i12, i13, i14, i15, i16, i17⟩ hk hf ha
                obtain ⟨d0, d1, d2, d3, d4, d5, d6, -⟩ := ha
                have g3_ := i3 d3
                have g6_ := i6 d6
                rw [hc231] at g3_
                refine L.kns [(42, undef), (39, .bool false)] ⟨g6_, g3_, trivial⟩ ?_
                refine L.skip rfl rfl rfl rfl ?_
                refine L.nil ?_
                refine X.dr (s := s266) (e' := (43, undef) :: e) (Sub.both (Kn.sup ⟨g6_, g3_, trivial⟩)) ⟨im, Sub.fresh ib rfl, i0, i1, i2, i3, i4, i5, i6, fun _ => rfl, i8, i9, i10, i11, i12, i13, i14, i15, i16, i17⟩
              · rintro D e s267 ⟨im, ib, i0, i1, i2, i3, i4, i5, i6, i7, i8, i9, i10, i11, i12, i13, i14, i15, i16, i17⟩ hk hf ha
                obtain ⟨d0, d1, d2, d3, d4, d5, d6, d7, -⟩ := ha
                have g7_ := i7 d7
                refine L.kns [(1, .slice a9 st170.2.2.length c9), (43, undef)] ⟨(ib 1 _ rfl), g7_, trivial⟩ ?_
                refine L.skipU rfl rfl rfl ?_
                refine L.nil ?_
                refine X.dr (s := s267) (e' := (44, undef) :: e) (Sub.both (Kn.sup ⟨(ib 1 _ rfl), g7_, trivial⟩)) ⟨im, Sub.fresh ib rfl, i0, i1, i2, i3, i4, i5, i6, i7, fun _ => rfl, i9, i10, i11, i12, i13, i14, i15, i16, i17⟩
              · rintro D e s268 ⟨im, ib, i0, i1, i2, i3, i4, i5, i6, i7, i8, i9, i10, i11, i12, i13, i14, i15, i16, i17⟩ hk hf ha
                obtain ⟨d0, d1, d2, d3, d4, d5, d6, d7, d8, -⟩ := ha
                have g7_ := i7 d7
                have g8_ := i8 d8
                refine L.kns [(44, undef), (43, undef)] ⟨g8_, g7_, trivial⟩ ?_
                refine L.skipU rfl rfl rfl ?_
                refine L.nil ?_
                refine X.dr (s := s268) (e' := (45, undef) :: e) (Sub.both (Kn.sup ⟨g8_, g7_, trivial⟩)) ⟨im, Sub.fresh ib rfl, i0, i1, i2, i3, i4, i5, i6, i7, i8, fun _ => rfl, i10, i11, i12, i13, i14, i15, i16, i17⟩
              · rintro D e s269 ⟨im, ib, i0, i1, i2, i3, i4, i5, i6, i7, i8, i9, i10, i11, i12, i13, i14, i15, i16, i17⟩ hk hf ha
                obtain ⟨d0, d1, d2, d3, d4, d5, d6, d7, d8, d9, -⟩ := ha
                have g7_ := i7 d7
                have g9_ := i9 d9
                refine L.kns [(45, undef), (43, undef)] ⟨g9_, g7_, trivial⟩ ?_
                refine L.skipU rfl rfl rfl ?_
                refine L.nil ?_
                refine X.dr (s := s269) (e' := (46, undef) :: e) (Sub.both (Kn.sup ⟨g9_, g7_, trivial⟩)) ⟨im, Sub.fresh ib rfl, i0, i1, i2, i3, i4, i5, i6, i7, i8, i9, fun _ => rfl, i11, i12, i13, i14, i15, i16, i17⟩
              · rintro D e s270 ⟨im, ib, i0, i1, i2, i3, i4, i5, i6, i7, i8, i9, i10, i11, i12, i13, i14, i15, i16, i17⟩ hk hf ha
                obtain ⟨d0, d1, d2, d3, d4, d5, d6, d7, -⟩ := ha
                have g7_ := i7 d7
                refine L.kns [(0, .slice a7 st170.2.1.length c7), (43, undef)] ⟨(ib 0 _ rfl), g7_, trivial⟩ ?_
                refine L.skipU rfl rfl rfl ?_
                refine L.nil ?_
                refine X.dr (s := s270) (e' := (47, undef) :: e) (Sub.both (Kn.sup ⟨(ib 0 _ rfl), g7_, trivial⟩)) ⟨im, Sub.fresh ib rfl, i0, i1, i2, i3, i4, i5, i6, i7, i8, i9, i10, fun _ => rfl, i12, i13, i14, i15, i16, i17⟩
              · rintro D e s271 ⟨im, ib, i0, i1, i2, i3, i4, i5, i6, i7, i8, i9, i10, i11, i12, i13, i14, i15, i16, i17⟩ hk hf ha
                obtain ⟨d0, d1, d2, d3, d4, d5, d6, d7, d11, -⟩ := ha
                have g7_ := i7 d7
                have g11_ := i11 d11
                refine L.kns [(47, undef), (43, undef)] ⟨g11_, g7_, trivial⟩ ?_
                refine L.skipU rfl rfl rfl ?_
                refine L.nil ?_
                refine X.dr (s := s271) (e' := (48, undef) :: e) (Sub.both (Kn.sup ⟨g11_, g7_, trivial⟩)) ⟨im, Sub.fresh ib rfl, i0, i1, i2, i3, i4, i5, i6, i7, i8, i9, i10, i11, fun _ => rfl, i13, i14, i15, i16, i17⟩
              · rintro D e s272 ⟨im, ib, i0, i1, i2, i3, i4, i5, i6, i7, i8, i9, i10, i11, i12, i13, i14, i15, i16, i17⟩ hk hf ha
                obtain ⟨d0, d1, d2, d3, d4, d5, d6, d7, d11, d12, -⟩ := ha
                have g7_ := i7 d7
                have g12_ := i12 d12
                refine L.kns [(48, undef), (43, undef)] ⟨g12_, g7_, trivial⟩ ?_
                refine L.skipU rfl rfl rfl ?_
                refine L.nil ?_
                refine X.dr (s := s272) (e' := (49, undef) :: e) (Sub.both (Kn.sup ⟨g12_, g7_, trivial⟩)) ⟨im, Sub.fresh ib rfl, i0, i1, i2, i3, i4, i5, i6, i7, i8, i9, i10, i11, i12, fun _ => rfl, i14, i15, i16, i17⟩
              · rintro D e s273 ⟨im, ib, i0, i1, i2, i3, i4, i5, i6, i7, i8, i9, i10, i11, i12, i13, i14, i15, i16, i17⟩ hk hf ha
                obtain ⟨d0, d1, d2, d3, d4, d5, d6, d7, d8, d9, d10, d11, d12, d13, -⟩ := ha
                have g7_ := i7 d7
                have g10_ := i10 d10
                have g13_ := i13 d13
                refine L.kns [(46, undef), (49, undef), (43, undef)] ⟨g10_, g13_, g7_, trivial⟩ ?_
                refine L.skipU rfl rfl rfl ?_
                refine L.nil ?_
                refine X.dr (s := s273) (e' := (50, undef) :: e) (Sub.both (Kn.sup ⟨g10_, g13_, g7_, trivial⟩)) ⟨im, Sub.fresh ib rfl, i0, i1, i2, i3, i4, i5, i6, i7, i8, i9, i10, i11, i12, i13, fun _ => rfl, i15, i16, i17⟩
              · rintro D e s274 ⟨im, ib, i0, i1, i2, i3, i4, i5, i6, i7, i8, i9, i10, i11, i12, i13, i14, i15, i16, i17⟩ hk hf ha
                obtain ⟨d0, d1, d2, d3, d4, d5, d6, d7, d8, d9, d10, d11, d12, d13, d14, -⟩ := ha
                have g3_ := i3 d3
                have g7_ := i7 d7
                have g14_ := i14 d14
                rw [hc231] at g3_
                refine L.kns [(43, undef), (50, undef), (39, .bool false)] ⟨g7_, g14_, g3_, trivial⟩ ?_
                refine L.skip rfl rfl rfl rfl ?_
                refine L.nil ?_
                refine X.dr (s := s274) (e' := (51, undef) :: e) (Sub.both (Kn.sup ⟨g7_, g14_, g3_, trivial⟩)) ⟨im, Sub.fresh ib rfl, i0, i1, i2, i3, i4, i5, i6, i7, i8, i9, i10, i11, i12, i13, i14, fun _ => rfl, i16, i17⟩
              · rintro D e s275 ⟨im, ib, i0, i1, i2, i3, i4, i5, i6, i7, i8, i9, i10, i11, i12, i13, i14, i15, i16, i17⟩ hk hf ha
                obtain ⟨d0, d1, d2, d3, d4, d5, d6, d7, d8, d9, d10, d11, d12, d13, d14, d15, -⟩ := ha
                have g3_ := i3 d3
                have g15_ := i15 d15
                rw [hc231] at g3_
                refine L.kns [(39, .bool false), (51, undef)] ⟨g3_, g15_, trivial⟩ ?_
                refine L.pkF Wt.no rfl rfl rfl rfl ?_
                refine L.nil ?_
                refine X.dr (s := s275) (e' := (52, .bool false) :: e) (Sub.both (Kn.sup ⟨g3_, g15_, trivial⟩)) ⟨im, Sub.fresh ib rfl, i0, i1, i2, i3, i4, i5, i6, i7, i8, i9, i10, i11, i12, i13, i14, i15, fun _ => rfl, i17⟩
              · rintro D e s276 ⟨im, ib, i0, i1, i2, i3, i4, i5, i6, i7, i8, i9, i10, i11, i12, i13, i14, i15, i16, i17⟩ hk hf ha
                obtain ⟨d0, d1, d2, d3, d4, d5, d6, d7, d8, d9, d10, d11, d12, d13, d14, d15, d16, -⟩ := ha
                have g16_ := i16 d16
                refine L.kns [(52, .bool false)] ⟨g16_, trivial⟩ ?_
                refine L.as Wt.no rfl rfl ?_
                refine L.nil ?_
                refine X.dr (s := s276) (e' := (9, .bool false) :: e) (Sub.both (Kn.sup ⟨g16_, trivial⟩)) ⟨im, Sub.fresh ib rfl, i0, i1, i2, i3, i4, i5, i6, i7, i8, i9, i10, i11, i12, i13, i14, i15, i16, fun _ => rfl⟩
            · rintro D e s277 hD ⟨im, ib, i0, i1, i2, i3, i4, i5, i6, i7, i8, i9, i10, i11, i12, i13, i14, i15, i16, i17⟩
              have g17_ := i17 (hD 17 rfl)
              have h5 := h5.mv im no_No no_No
              have h7 := h7.mono (im.le no_No)
              have h9 := h9.mono (im.le no_No)
              have hp2 := hp2.mono (im.le no_No)
              have m0 := m0.trans im.no
              refine X.sub (e' := [(9, .bool false), (8, .bool b177), (7, .slice a5 st170.1.length c5), (0, .slice a7 st170.2.1.length c7), (1, .slice a9 st170.2.2.length c9), (2, vp2)]) ?_ (Sub.cons g17_ (Sub.cons (ib 8 _ rfl) (Sub.cons (ib 7 _ rfl) (Sub.cons (ib 0 _ rfl) (Sub.cons (ib 1 _ rfl) (Sub.cons (ib 2 _ rfl) Sub.nil))))))
              exact X.sub (Jj182 _ _ ⟨s277, false, hm, m0, h5, h7, h9, hp2, rfl, rfl⟩) (Sub.cons rfl (Sub.cons rfl (Sub.cons rfl (Sub.cons rfl (Sub.cons rfl (Sub.cons rfl Sub.nil))))))
      · intro Jj179
        rcases ifS hm with ⟨hc282, hm⟩ | ⟨hc282, hm⟩
        · have _ := hN
          rcases ifS hm with ⟨hc287, hm⟩ | ⟨hc287, hm⟩
          · have _ := hN
            refine E.draw [[], [0], [0, 1], [0, 1, 2], [0, 1, 2, 3], [0, 1, 2, 3, 4], [0, 1, 2, 3, 4, 5], [0, 1, 2, 3, 4, 5, 6], [0, 1, 2, 3, 4, 5, 6, 7], [0, 1, 2, 3, 4, 5, 6, 7, 8], [0, 1, 2, 3, 4, 5, 6, 7, 8, 9], [0, 1, 2, 3, 4, 5, 6, 7], [0, 1, 2, 3, 4, 5, 6, 7, 11], [0, 1, 2, 3, 4, 5, 6, 7, 11, 12], [0, 1, 2, 3, 4, 5, 6, 7, 8, 9, 10, 11, 12, 13], [0, 1, 2, 3, 4, 5, 6, 7, 8, 9, 10, 11, 12, 13, 14], [0, 1, 2, 3, 4, 5, 6, 7, 8, 9, 10, 11, 12, 13, 14, 15], [0, 1, 2, 3, 4, 5, 6, 7, 8, 9, 10, 11, 12, 13, 14, 15, 16]] (fun D e sx => Mv No s173 sx ∧ Sub [(7, .slice a5 st170.1.length c5), (0, .slice a7 st170.2.1.length c7), (1, .slice a9 st170.2.2.length c9), (2, vp2)] e ∧ (D 0 = true → (Env.get e 19 = some (.slice a7 st170.2.1.length c7))) ∧ (D 1 = true → (Env.get e 20 = some (.int .i64 (st170.2.1.length : Int)))) ∧ (D 2 = true → (Env.get e 21 = some (.bool (decide ((st170.2.1.length : Int) > 0))))) ∧ (D 3 = true → (Env.get e 22 = some (.bool (decide ((st170.2.1.length : Int) > 0))))) ∧ (D 4 = true → (Env.get e 23 = some (.slice a9 st170.2.2.length c9))) ∧ (D 5 = true → (Env.get e 24 = some (.int .i64 (st170.2.2.length : Int)))) ∧ (D 6 = true → (Env.get e 25 = some (.bool ((st170.2.2.length : Int) == 0)))) ∧ (D 7 = true → (Env.get e 26 = some (.bool ((st170.2.2.length : Int) == 0)))) ∧ (D 8 = true → (Env.get e 27 = some undef)) ∧ (D 9 = true → (Env.get e 28 = some undef)) ∧ (D 10 = true → (Env.get e 29 = some undef)) ∧ (D 11 = true → (Env.get e 30 = some undef)) ∧ (D 12 = true → (Env.get e 31 = some undef)) ∧ (D 13 = true → (Env.get e 32 = some undef)) ∧ (D 14 = true → (Env.get e 33 = some undef)) ∧ (D 15 = true → (Env.get e 34 = some (.bool true))) ∧ (D 16 = true → (Env.get e 35 = some (.bool true))) ∧ (D 17 = true → (Env.get e 8 = some (.bool true)))) (by kernel_rfl) (by kernel_rfl) (by kernel_rfl) ?_ ?_ ?_
            · intro sz mz
              exact ⟨mz, (Sub.cons rfl (Sub.cons rfl (Sub.cons rfl (Sub.cons rfl Sub.nil)))), nofun, nofun, nofun, nofun, nofun, nofun, nofun, nofun, nofun, nofun, nofun, nofun, nofun, nofun, nofun, nofun, nofun, nofun⟩
            · refine ⟨?_, ?_, ?_, ?_, ?_, ?_, ?_, ?_, ?_, ?_, ?_, ?_, ?_, ?_, ?_, ?_, ?_, ?_, trivial⟩
              · rintro D e s278 ⟨im, ib, i0, i1, i2, i3, i4, i5, i6, i7, i8, i9, i10, i11, i12, i13, i14, i15, i16, i17⟩ hk hf ha
                refine L.kns [(0, .slice a7 st170.2.1.length c7)] ⟨(ib 0 _ rfl), trivial⟩ ?_
                refine L.mv Wt.no rfl rfl ?_
                refine L.nil ?_
                refine X.dr (s := s278) (e' := (19, .slice a7 st170.2.1.length c7) :: e) (Sub.both (Kn.sup ⟨(ib 0 _ rfl), trivial⟩)) ⟨im, Sub.fresh ib rfl, fun _ => rfl, i1, i2, i3, i4, i5, i6, i7, i8, i9, i10, i11, i12, i13, i14, i15, i16, i17⟩
              · rintro D e s279 ⟨im, ib, i0, i1, i2, i3, i4, i5, i6, i7, i8, i9, i10, i11, i12, i13, i14, i15, i16, i17⟩ hk hf ha
                obtain ⟨d0, -⟩ := ha
                have g0_ := i0 d0
                refine L.kns [(19, .slice a7 st170.2.1.length c7)] ⟨g0_, trivial⟩ ?_
                refine L.len sl23 Wt.no rfl rfl ?_
                refine L.nil ?_
                refine X.dr (s := s279) (e' := (20, .int .i64 (st170.2.1.length : Int)) :: e) (Sub.both (Kn.sup ⟨g0_, trivial⟩)) ⟨im, Sub.fresh ib rfl, i0, fun _ => rfl, i2, i3, i4, i5, i6, i7, i8, i9, i10, i11, i12, i13, i14, i15, i16, i17⟩
              · rintro D e s280 ⟨im, ib, i0, i1, i2, i3, i4, i5, i6, i7, i8, i9, i10, i11, i12, i13, i14, i15, i16, i17⟩ hk hf ha
                obtain ⟨d0, d1, -⟩ := ha
                have g1_ := i1 d1
                refine L.kns [(20, .int .i64 (st170.2.1.length : Int))] ⟨g1_, trivial⟩ ?_
                refine L.bi Wt.no rfl rfl rfl rfl ?_
                refine L.nil ?_
                refine X.dr (s := s280) (e' := (21, .bool (decide ((st170.2.1.length : Int) > 0))) :: e) (Sub.both (Kn.sup ⟨g1_, trivial⟩)) ⟨im, Sub.fresh ib rfl, i0, i1, fun _ => rfl, i3, i4, i5, i6, i7, i8, i9, i10, i11, i12, i13, i14, i15, i16, i17⟩
              · rintro D e s281 ⟨im, ib, i0, i1, i2, i3, i4, i5, i6, i7, i8, i9, i10, i11, i12, i13, i14, i15, i16, i17⟩ hk hf ha
                obtain ⟨d0, d1, d2, -⟩ := ha
                have g2_ := i2 d2
                refine L.kns [(21, .bool (decide ((st170.2.1.length : Int) > 0)))] ⟨g2_, trivial⟩ ?_
                refine L.mv Wt.no rfl rfl ?_
                refine L.nil ?_
                refine X.dr (s := s281) (e' := (22, .bool (decide ((st170.2.1.length : Int) > 0))) :: e) (Sub.both (Kn.sup ⟨g2_, trivial⟩)) ⟨im, Sub.fresh ib rfl, i0, i1, i2, fun _ => rfl, i4, i5, i6, i7, i8, i9, i10, i11, i12, i13, i14, i15, i16, i17⟩
              · rintro D e s283 ⟨im, ib, i0, i1, i2, i3, i4, i5, i6, i7, i8, i9, i10, i11, i12, i13, i14, i15, i16, i17⟩ hk hf ha
                obtain ⟨d0, d1, d2, d3, -⟩ := ha
                have g3_ := i3 d3
                rw [hc282] at g3_
                refine L.kns [(1, .slice a9 st170.2.2.length c9), (22, .bool true)] ⟨(ib 1 _ rfl), g3_, trivial⟩ ?_
                refine L.mv (Wt.mk rfl rfl) rfl rfl ?_
                refine L.nil ?_
                refine X.dr (s := s283) (e' := (23, .slice a9 st170.2.2.length c9) :: e) (Sub.both (Kn.sup ⟨(ib 1 _ rfl), g3_, trivial⟩)) ⟨im, Sub.fresh ib rfl, i0, i1, i2, i3, fun _ => rfl, i5, i6, i7, i8, i9, i10, i11, i12, i13, i14, i15, i16, i17⟩
              · rintro D e s284 ⟨im, ib, i0, i1, i2, i3, i4, i5, i6, i7, i8, i9, i10, i11, i12, i13, i14, i15, i16, i17⟩ hk hf ha
                obtain ⟨d0, d1, d2, d3, d4, -⟩ := ha
                have g3_ := i3 d3
                have g4_ := i4 d4
                rw [hc282] at g3_
                refine L.kns [(23, .slice a9 st170.2.2.length c9), (22, .bool true)] ⟨g4_, g3_, trivial⟩ ?_
                refine L.len sl23 (Wt.mk rfl rfl) rfl rfl ?_
                refine L.nil ?_
                refine X.dr (s := s284) (e' := (24, .int .i64 (st170.2.2.length : Int)) :: e) (Sub.both (Kn.sup ⟨g4_, g3_, trivial⟩)) ⟨im, Sub.fresh ib rfl, i0, i1, i2, i3, i4, fun _ => rfl, i6, i7, i8, i9, i10, i11, i12, i13, i14, i15, i16, i17⟩
              · rintro D e s285 ⟨im, ib, i0, i1, i2, i3, i4, i5, i6, i7, i8, i9, i10, i11, i12, i13, i14, i15, i16, i17⟩ hk hf ha
                obtain ⟨d0, d1, d2, d3, d4, d5, -⟩ := ha
                have g3_ := i3 d3
                have g5_ := i5 d5
                rw [hc282] at g3_
                refine L.kns [(24, .int .i64 (st170.2.2.length : Int)), (22, .bool true)] ⟨g5_, g3_, trivial⟩ ?_
                refine L.bi (Wt.mk rfl rfl) rfl rfl rfl rfl ?_
                refine L.nil ?_
                refine X.dr (s := s285) (e' := (25, .bool ((st170.2.2.length : Int) == 0)) :: e) (Sub.both (Kn.sup ⟨g5_, g3_, trivial⟩)) ⟨im, Sub.fresh ib rfl, i0, i1, i2, i3, i4, i5, fun _ => rfl, i7, i8, i9, i10, i11, i12, i13, i14, i15, i16, i17⟩
              · rintro D e s286 ⟨im, ib, i0, i1, i2, i3, i4, i5, i6, i7, i8, i9, i10, i11, i12, i13, i14, i15, i16, i17⟩ hk hf ha
                obtain ⟨d0, d1, d2, d3, d4, d5, d6, -⟩ := ha
                have g3_ := i3 d3
                have g6_ := i6 d6
                rw [hc282] at g3_
                refine L.kns [(25, .bool ((st170.2.2.length : Int) == 0)), (22, .bool true)] ⟨g6_, g3_, trivial⟩ ?_
                refine L.mv (Wt.mk rfl rfl) rfl rfl ?_
                refine L.nil ?_
                refine X.dr (s := s286) (e' := (26, .bool ((st170.2.2.length : Int) == 0)) :: e) (Sub.both (Kn.sup ⟨g6_, g3_, trivial⟩)) ⟨im, Sub.fresh ib rfl, i0, i1, i2, i3, i4, i5, i6, fun _ => rfl, i8, i9, i10, i11, i12, i13, i14, i15, i16, i17⟩
              · rintro D e s288 ⟨im, ib, i0, i1, i2, i3, i4, i5, i6, i7, i8, i9, i10, i11, i12, i13, i14, i15, i16, i17⟩ hk hf ha
                obtain ⟨d0, d1, d2, d3, d4, d5, d6, d7, -⟩ := ha
                have g7_ := i7 d7
                rw [hc287] at g7_
                refine L.kns [(0, .slice a7 st170.2.1.length c7), (26, .bool true)] ⟨(ib 0 _ rfl), g7_, trivial⟩ ?_
                refine L.skip rfl rfl rfl rfl ?_
                refine L.nil ?_
                refine X.dr (s := s288) (e' := (27, undef) :: e) (Sub.both (Kn.sup ⟨(ib 0 _ rfl), g7_, trivial⟩)) ⟨im, Sub.fresh ib rfl, i0, i1, i2, i3, i4, i5, i6, i7, fun _ => rfl, i9, i10, i11, i12, i13, i14, i15, i16, i17⟩
              · rintro D e s289 ⟨im, ib, i0, i1, i2, i3, i4, i5, i6, i7, i8, i9, i10, i11, i12, i13, i14, i15, i16, i17⟩ hk hf ha
                obtain ⟨d0, d1, d2, d3, d4, d5, d6, d7, d8, -⟩ := ha
                have g7_ := i7 d7
                have g8_ := i8 d8
                rw [hc287] at g7_
                refine L.kns [(27, undef), (26, .bool true)] ⟨g8_, g7_, trivial⟩ ?_
                refine L.skip rfl rfl rfl rfl ?_
                refine L.nil ?_
                refine X.dr (s := s289) (e' := (28, undef) :: e) (Sub.both (Kn.sup ⟨g8_, g7_, trivial⟩)) ⟨im, Sub.fresh ib rfl, i0, i1, i2, i3, i4, i5, i6, i7, i8, fun _ => rfl, i10, i11, i12, i13, i14, i15, i16, i17⟩
              · rintro D e s290 ⟨im, ib, i0, i1, i2, i3, i4, i5, i6, i7, i8, i9, i10, i11, i12, i13, i14, i15, i16, i17⟩ hk hf ha
                obtain ⟨d0, d1, d2, d3, d4, d5, d6, d7, d8, d9, -⟩ := ha
                have g7_ := i7 d7
                have g9_ := i9 d9
                rw [hc287] at g7_
                refine L.kns [(28, undef), (26, .bool true)] ⟨g9_, g7_, trivial⟩ ?_
                refine L.skip rfl rfl rfl rfl ?_
                refine L.nil ?_
                refine X.dr (s := s290) (e' := (29, undef) :: e) (Sub.both (Kn.sup ⟨g9_, g7_, trivial⟩)) ⟨im, Sub.fresh ib rfl, i0, i1, i2, i3, i4, i5, i6, i7, i8, i9, fun _ => rfl, i11, i12, i13, i14, i15, i16, i17⟩
              · rintro D e s291 ⟨im, ib, i0, i1, i2, i3, i4, i5, i6, i7, i8, i9, i10, i11, i12, i13, i14, i15, i16, i17⟩ hk hf ha
                obtain ⟨d0, d1, d2, d3, d4, d5, d6, d7, -⟩ := ha
                have g7_ := i7 d7
                rw [hc287] at g7_
                refine L.kns [(1, .slice a9 st170.2.2.length c9), (26, .bool true)] ⟨(ib 1 _ rfl), g7_, trivial⟩ ?_
                refine L.skip rfl rfl rfl rfl ?_
                refine L.nil ?_
                refine X.dr (s := s291) (e' := (30, undef) :: e) (Sub.both (Kn.sup ⟨(ib 1 _ rfl), g7_, trivial⟩)) ⟨im, Sub.fresh ib rfl, i0, i1, i2, i3, i4, i5, i6, i7, i8, i9, i10, fun _ => rfl, i12, i13, i14, i15, i16, i17⟩
              · rintro D e s292 ⟨im, ib, i0, i1, i2, i3, i4, i5, i6, i7, i8, i9, i10, i11, i12, i13, i14, i15, i16, i17⟩ hk hf ha
                obtain ⟨d0, d1, d2, d3, d4, d5, d6, d7, d11, -⟩ := ha
                have g7_ := i7 d7
                have g11_ := i11 d11
                rw [hc287] at g7_
                refine L.kns [(30, undef), (26, .bool true)] ⟨g11_, g7_, trivial⟩ ?_
                refine L.skip rfl rfl rfl rfl ?_
                refine L.nil ?_
                refine X.dr (s := s292) (e' := (31, undef) :: e) (Sub.both (Kn.sup ⟨g11_, g7_, trivial⟩)) ⟨im, Sub.fresh ib rfl, i0, i1, i2, i3, i4, i5, i6, i7, i8, i9, i10, i11, fun _ => rfl, i13, i14, i15, i16, i17⟩
              · rintro D e s293 ⟨im, ib, i0, i1, i2, i3, i4, i5, i6, i7, i8, i9, i10, i11, i12, i13, i14, i15, i16, i17⟩ hk hf ha
                obtain ⟨d0, d1, d2, d3, d4, d5, d6, d7, d11, d12, -⟩ := ha
                have g7_ := i7 d7
                have g12_ := i12 d12
                rw [hc287] at g7_
                refine L.kns [(31, undef), (26, .bool true)] ⟨g12_, g7_, trivial⟩ ?_
                refine L.skip rfl rfl rfl rfl ?_
                refine L.nil ?_
                refine X.dr (s := s293) (e' := (32, undef) :: e) (Sub.both (Kn.sup ⟨g12_, g7_, trivial⟩)) ⟨im, Sub.fresh ib rfl, i0, i1, i2, i3, i4, i5, i6, i7, i8, i9, i10, i11, i12, fun _ => rfl, i14, i15, i16, i17⟩
              · rintro D e s294 ⟨im, ib, i0, i1, i2, i3, i4, i5, i6, i7, i8, i9, i10, i11, i12, i13, i14, i15, i16, i17⟩ hk hf ha
                obtain ⟨d0, d1, d2, d3, d4, d5, d6, d7, d8, d9, d10, d11, d12, d13, -⟩ := ha
                have g7_ := i7 d7
                have g10_ := i10 d10
                have g13_ := i13 d13
                rw [hc287] at g7_
                refine L.kns [(29, undef), (32, undef), (26, .bool true)] ⟨g10_, g13_, g7_, trivial⟩ ?_
                refine L.skip rfl rfl rfl rfl ?_
                refine L.nil ?_
                refine X.dr (s := s294) (e' := (33, undef) :: e) (Sub.both (Kn.sup ⟨g10_, g13_, g7_, trivial⟩)) ⟨im, Sub.fresh ib rfl, i0, i1, i2, i3, i4, i5, i6, i7, i8, i9, i10, i11, i12, i13, fun _ => rfl, i15, i16, i17⟩
              · rintro D e s295 ⟨im, ib, i0, i1, i2, i3, i4, i5, i6, i7, i8, i9, i10, i11, i12, i13, i14, i15, i16, i17⟩ hk hf ha
                obtain ⟨d0, d1, d2, d3, d4, d5, d6, d7, d8, d9, d10, d11, d12, d13, d14, -⟩ := ha
                have g3_ := i3 d3
                have g7_ := i7 d7
                have g14_ := i14 d14
                rw [hc287] at g7_
                rw [hc282] at g3_
                refine L.kns [(26, .bool true), (33, undef), (22, .bool true)] ⟨g7_, g14_, g3_, trivial⟩ ?_
                refine L.pkT (Wt.mk rfl rfl) rfl rfl rfl rfl ?_
                refine L.nil ?_
                refine X.dr (s := s295) (e' := (34, .bool true) :: e) (Sub.both (Kn.sup ⟨g7_, g14_, g3_, trivial⟩)) ⟨im, Sub.fresh ib rfl, i0, i1, i2, i3, i4, i5, i6, i7, i8, i9, i10, i11, i12, i13, i14, fun _ => rfl, i16, i17⟩
              · rintro D e s296 ⟨im, ib, i0, i1, i2, i3, i4, i5, i6, i7, i8, i9, i10, i11, i12, i13, i14, i15, i16, i17⟩ hk hf ha
                obtain ⟨d0, d1, d2, d3, d4, d5, d6, d7, d8, d9, d10, d11, d12, d13, d14, d15, -⟩ := ha
                have g3_ := i3 d3
                have g15_ := i15 d15
                rw [hc282] at g3_
                refine L.kns [(22, .bool true), (34, .bool true)] ⟨g3_, g15_, trivial⟩ ?_
                refine L.pkT Wt.no rfl rfl rfl rfl ?_
                refine L.nil ?_
                refine X.dr (s := s296) (e' := (35, .bool true) :: e) (Sub.both (Kn.sup ⟨g3_, g15_, trivial⟩)) ⟨im, Sub.fresh ib rfl, i0, i1, i2, i3, i4, i5, i6, i7, i8, i9, i10, i11, i12, i13, i14, i15, fun _ => rfl, i17⟩
              · rintro D e s297 ⟨im, ib, i0, i1, i2, i3, i4, i5, i6, i7, i8, i9, i10, i11, i12, i13, i14, i15, i16, i17⟩ hk hf ha
                obtain ⟨d0, d1, d2, d3, d4, d5, d6, d7, d8, d9, d10, d11, d12, d13, d14, d15, d16, -⟩ := ha
                have g16_ := i16 d16
                refine L.kns [(35, .bool true)] ⟨g16_, trivial⟩ ?_
                refine L.as Wt.no rfl rfl ?_
                refine L.nil ?_
                refine X.dr (s := s297) (e' := (8, .bool true) :: e) (Sub.both (Kn.sup ⟨g16_, trivial⟩)) ⟨im, Sub.fresh ib rfl, i0, i1, i2, i3, i4, i5, i6, i7, i8, i9, i10, i11, i12, i13, i14, i15, i16, fun _ => rfl⟩
            · rintro D e s298 hD ⟨im, ib, i0, i1, i2, i3, i4, i5, i6, i7, i8, i9, i10, i11, i12, i13, i14, i15, i16, i17⟩
              have g17_ := i17 (hD 17 rfl)
              have h5 := h5.mv im no_No no_No
              have h7 := h7.mono (im.le no_No)
              have h9 := h9.mono (im.le no_No)
              have hp2 := hp2.mono (im.le no_No)
              have m0 := m0.trans im.no
              refine X.sub (e' := [(8, .bool true), (7, .slice a5 st170.1.length c5), (0, .slice a7 st170.2.1.length c7), (1, .slice a9 st170.2.2.length c9), (2, vp2)]) ?_ (Sub.cons g17_ (Sub.cons (ib 7 _ rfl) (Sub.cons (ib 0 _ rfl) (Sub.cons (ib 1 _ rfl) (Sub.cons (ib 2 _ rfl) Sub.nil)))))
              exact X.sub (Jj179 _ _ ⟨s298, true, hm, m0, h5, h7, h9, hp2, rfl, rfl⟩) (Sub.cons rfl (Sub.cons rfl (Sub.cons rfl (Sub.cons rfl (Sub.cons rfl Sub.nil)))))
          · have _ := hN
            obtain ⟨x301, ex301, hm⟩ := bindS hm
            obtain ⟨x306, ex306, hm⟩ := bindS hm
            refine E.draw [[], [0], [0, 1], [0, 1, 2], [0, 1, 2, 3], [0, 1, 2, 3, 4], [0, 1, 2, 3, 4, 5], [0, 1, 2, 3, 4, 5, 6], [0, 1, 2, 3, 4, 5, 6, 7], [0, 1, 2, 3, 4, 5, 6, 7, 8], [0, 1, 2, 3, 4, 5, 6, 7, 8, 9], [0, 1, 2, 3, 4, 5, 6, 7], [0, 1, 2, 3, 4, 5, 6, 7, 11], [0, 1, 2, 3, 4, 5, 6, 7, 11, 12], [0, 1, 2, 3, 4, 5, 6, 7, 8, 9, 10, 11, 12, 13], [0, 1, 2, 3, 4, 5, 6, 7, 8, 9, 10, 11, 12, 13, 14], [0, 1, 2, 3, 4, 5, 6, 7, 8, 9, 10, 11, 12, 13, 14, 15], [0, 1, 2, 3, 4, 5, 6, 7, 8, 9, 10, 11, 12, 13, 14, 15, 16]] (fun D e sx => Mv No s173 sx ∧ Sub [(7, .slice a5 st170.1.length c5), (0, .slice a7 st170.2.1.length c7), (1, .slice a9 st170.2.2.length c9), (2, vp2)] e ∧ (D 0 = true → (Env.get e 19 = some (.slice a7 st170.2.1.length c7))) ∧ (D 1 = true → (Env.get e 20 = some (.int .i64 (st170.2.1.length : Int)))) ∧ (D 2 = true → (Env.get e 21 = some (.bool (decide ((st170.2.1.length : Int) > 0))))) ∧ (D 3 = true → (Env.get e 22 = some (.bool (decide ((st170.2.1.length : Int) > 0))))) ∧ (D 4 = true → (Env.get e 23 = some (.slice a9 st170.2.2.length c9))) ∧ (D 5 = true → (Env.get e 24 = some (.int .i64 (st170.2.2.length : Int)))) ∧ (D 6 = true → (Env.get e 25 = some (.bool ((st170.2.2.length : Int) == 0)))) ∧ (D 7 = true → (Env.get e 26 = some (.bool ((st170.2.2.length : Int) == 0)))) ∧ (D 8 = true → (Env.get e 27 = some (.slice a7 st170.2.1.length c7))) ∧ (D 9 = true → (∃ (b302 : Nat) (o302 : Nat), Env.get e 28 = some (.pointer (some ⟨b302, o302, none⟩)) ∧ Mem sx 0 b302 o302 [.int .i64 x301])) ∧ (D 10 = true → (Env.get e 29 = some (.int .i64 x301))) ∧ (D 11 = true → (Env.get e 30 = some (.slice a9 st170.2.2.length c9))) ∧ (D 12 = true → (∃ (b307 : Nat) (o307 : Nat), Env.get e 31 = some (.pointer (some ⟨b307, o307, none⟩)) ∧ Mem sx 0 b307 o307 [.int .i64 x306])) ∧ (D 13 = true → (Env.get e 32 = some (.int .i64 x306))) ∧ (D 14 = true → (Env.get e 33 = some (.bool (decide (x301 ≤ x306))))) ∧ (D 15 = true → (Env.get e 34 = some (.bool (decide (x301 ≤ x306))))) ∧ (D 16 = true → (Env.get e 35 = some (.bool (decide (x301 ≤ x306))))) ∧ (D 17 = true → (Env.get e 8 = some (.bool (decide (x301 ≤ x306)))))) (by kernel_rfl) (by kernel_rfl) (by kernel_rfl) ?_ ?_ ?_
            · intro sz mz
              exact ⟨mz, (Sub.cons rfl (Sub.cons rfl (Sub.cons rfl (Sub.cons rfl Sub.nil)))), nofun, nofun, nofun, nofun, nofun, nofun, nofun, nofun, nofun, nofun, nofun, nofun, nofun, nofun, nofun, nofun, nofun, nofun⟩
            · refine ⟨?_, ?_, ?_, ?_, ?_, ?_, ?_, ?_, ?_, ?_, ?_, ?_, ?_, ?_, ?_, ?_, ?_, ?_, trivial⟩
              · rintro D e s278 ⟨im, ib, i0, i1, i2, i3, i4, i5, i6, i7, i8, i9, i10, i11, i12, i13, i14, i15, i16, i17⟩ hk hf ha
                refine L.kns [(0, .slice a7 st170.2.1.length c7)] ⟨(ib 0 _ rfl), trivial⟩ ?_
                refine L.mv Wt.no rfl rfl ?_
                refine L.nil ?_
                refine X.dr (s := s278) (e' := (19, .slice a7 st170.2.1.length c7) :: e) (Sub.both (Kn.sup ⟨(ib 0 _ rfl), trivial⟩)) ⟨im, Sub.fresh ib rfl, fun _ => rfl, i1, i2, i3, i4, i5, i6, i7, i8, i9, i10, i11, i12, i13, i14, i15, i16, i17⟩
              · rintro D e s279 ⟨im, ib, i0, i1, i2, i3, i4, i5, i6, i7, i8, i9, i10, i11, i12, i13, i14, i15, i16, i17⟩ hk hf ha
                obtain ⟨d0, -⟩ := ha
                have g0_ := i0 d0
                refine L.kns [(19, .slice a7 st170.2.1.length c7)] ⟨g0_, trivial⟩ ?_
                refine L.len sl23 Wt.no rfl rfl ?_
                refine L.nil ?_
                refine X.dr (s := s279) (e' := (20, .int .i64 (st170.2.1.length : Int)) :: e) (Sub.both (Kn.sup ⟨g0_, trivial⟩)) ⟨im, Sub.fresh ib rfl, i0, fun _ => rfl, i2, i3, i4, i5, i6, i7, i8, i9, i10, i11, i12, i13, i14, i15, i16, i17⟩
              · rintro D e s280 ⟨im, ib, i0, i1, i2, i3, i4, i5, i6, i7, i8, i9, i10, i11, i12, i13, i14, i15, i16, i17⟩ hk hf ha
                obtain ⟨d0, d1, -⟩ := ha
                have g1_ := i1 d1
                refine L.kns [(20, .int .i64 (st170.2.1.length : Int))] ⟨g1_, trivial⟩ ?_
                refine L.bi Wt.no rfl rfl rfl rfl ?_
                refine L.nil ?_
                refine X.dr (s := s280) (e' := (21, .bool (decide ((st170.2.1.length : Int) > 0))) :: e) (Sub.both (Kn.sup ⟨g1_, trivial⟩)) ⟨im, Sub.fresh ib rfl, i0, i1, fun _ => rfl, i3, i4, i5, i6, i7, i8, i9, i10, i11, i12, i13, i14, i15, i16, i17⟩
              · rintro D e s281 ⟨im, ib, i0, i1, i2, i3, i4, i5, i6, i7, i8, i9, i10, i11, i12, i13, i14, i15, i16, i17⟩ hk hf ha
                obtain ⟨d0, d1, d2, -⟩ := ha
                have g2_ := i2 d2
                refine L.kns [(21, .bool (decide ((st170.2.1.length : Int) > 0)))] ⟨g2_, trivial⟩ ?_
                refine L.mv Wt.no rfl rfl ?_
                refine L.nil ?_
                refine X.dr (s := s281) (e' := (22, .bool (decide ((st170.2.1.length : Int) > 0))) :: e) (Sub.both (Kn.sup ⟨g2_, trivial⟩)) ⟨im, Sub.fresh ib rfl, i0, i1, i2, fun _ => rfl, i4, i5, i6, i7, i8, i9, i10, i11, i12, i13, i14, i15, i16, i17⟩
              · rintro D e s283 ⟨im, ib, i0, i1, i2, i3, i4, i5, i6, i7, i8, i9, i10, i11, i12, i13, i14, i15, i16, i17⟩ hk hf ha
                obtain ⟨d0, d1, d2, d3, -⟩ := ha
                have g3_ := i3 d3
                rw [hc282] at g3_
                refine L.kns [(1, .slice a9 st170.2.2.length c9), (22, .bool true)] ⟨(ib 1 _ rfl), g3_, trivial⟩ ?_
                refine L.mv (Wt.mk rfl rfl) rfl rfl ?_
                refine L.nil ?_
                refine X.dr (s := s283) (e' := (23, .slice a9 st170.2.2.length c9) :: e) (Sub.both (Kn.sup ⟨(ib 1 _ rfl), g3_, trivial⟩)) ⟨im, Sub.fresh ib rfl, i0, i1, i2, i3, fun _ => rfl, i5, i6, i7, i8, i9, i10, i11, i12, i13, i14, i15, i16, i17⟩
              · rintro D e s284 ⟨im, ib, i0, i1, i2, i3, i4, i5, i6, i7, i8, i9, i10, i11, i12, i13, i14, i15, i16, i17⟩ hk hf ha
                obtain ⟨d0, d1, d2, d3, d4, -⟩ := ha
                have g3_ := i3 d3
                have g4_ := i4 d4
                rw [hc282] at g3_
                refine L.kns [(23, .slice a9 st170.2.2.length c9), (22, .bool true)] ⟨g4_, g3_, trivial⟩ ?_
                refine L.len sl23 (Wt.mk rfl rfl) rfl rfl ?_
                refine L.nil ?_
                refine X.dr (s := s284) (e' := (24, .int .i64 (st170.2.2.length : Int)) :: e) (Sub.both (Kn.sup ⟨g4_, g3_, trivial⟩)) ⟨im, Sub.fresh ib rfl, i0, i1, i2, i3, i4, fun _ => rfl, i6, i7, i8, i9, i10, i11, i12, i13, i14, i15, i16, i17⟩
              · rintro D e s285 ⟨im, ib, i0, i1, i2, i3, i4, i5, i6, i7, i8, i9, i10, i11, i12, i13, i14, i15, i16, i17⟩ hk hf ha
                obtain ⟨d0, d1, d2, d3, d4, d5, -⟩ := ha
                have g3_ := i3 d3
                have g5_ := i5 d5
                rw [hc282] at g3_
                refine L.kns [(24, .int .i64 (st170.2.2.length : Int)), (22, .bool true)] ⟨g5_, g3_, trivial⟩ ?_
                refine L.bi (Wt.mk rfl rfl) rfl rfl rfl rfl ?_
                refine L.nil ?_
                refine X.dr (s := s285) (e' := (25, .bool ((st170.2.2.length : Int) == 0)) :: e) (Sub.both (Kn.sup ⟨g5_, g3_, trivial⟩)) ⟨im, Sub.fresh ib rfl, i0, i1, i2, i3, i4, i5, fun _ => rfl, i7, i8, i9, i10, i11, i12, i13, i14, i15, i16, i17⟩
              · rintro D e s286 ⟨im, ib, i0, i1, i2, i3, i4, i5, i6, i7, i8, i9, i10, i11, i12, i13, i14, i15, i16, i17⟩ hk hf ha
                obtain ⟨d0, d1, d2, d3, d4, d5, d6, -⟩ := ha
                have g3_ := i3 d3
                have g6_ := i6 d6
                rw [hc282] at g3_
                refine L.kns [(25, .bool ((st170.2.2.length : Int) == 0)), (22, .bool true)] ⟨g6_, g3_, trivial⟩ ?_
                refine L.mv (Wt.mk rfl rfl) rfl rfl ?_
                refine L.nil ?_
                refine X.dr (s := s286) (e' := (26, .bool ((st170.2.2.length : Int) == 0)) :: e) (Sub.both (Kn.sup ⟨g6_, g3_, trivial⟩)) ⟨im, Sub.fresh ib rfl, i0, i1, i2, i3, i4, i5, i6, fun _ => rfl, i8, i9, i10, i11, i12, i13, i14, i15, i16, i17⟩
              · rintro D e s299 ⟨im, ib, i0, i1, i2, i3, i4, i5, i6, i7, i8, i9, i10, i11, i12, i13, i14, i15, i16, i17⟩ hk hf ha
                obtain ⟨d0, d1, d2, d3, d4, d5, d6, d7, -⟩ := ha
                have g7_ := i7 d7
                rw [hc287] at g7_
                refine L.kns [(0, .slice a7 st170.2.1.length c7), (26, .bool false)] ⟨(ib 0 _ rfl), g7_, trivial⟩ ?_
                refine L.mv (Wt.mk rfl rfl) rfl rfl ?_
                refine L.nil ?_
                refine X.dr (s := s299) (e' := (27, .slice a7 st170.2.1.length c7) :: e) (Sub.both (Kn.sup ⟨(ib 0 _ rfl), g7_, trivial⟩)) ⟨im, Sub.fresh ib rfl, i0, i1, i2, i3, i4, i5, i6, i7, fun _ => rfl, i9, i10, i11, i12, i13, i14, i15, i16, i17⟩
              · rintro D e s300 ⟨im, ib, i0, i1, i2, i3, i4, i5, i6, i7, i8, i9, i10, i11, i12, i13, i14, i15, i16, i17⟩ hk hf ha
                obtain ⟨d0, d1, d2, d3, d4, d5, d6, d7, d8, -⟩ := ha
                have g7_ := i7 d7
                have g8_ := i8 d8
                have h7 := h7.mono (im.le no_No)
                rw [hc287] at g7_
                refine L.kns [(27, .slice a7 st170.2.1.length c7), (26, .bool false)] ⟨g8_, g7_, trivial⟩ ?_
                refine L.ix (r := (rK .i64)) sl23 h7 (Wt.mk rfl rfl) rfl rfl ex301 rfl ?_
                rintro b302 o302 cc302 me302 rd302
                obtain rfl := rd302
                refine L.nil ?_
                refine X.dr (s := s300) (e' := (28, .pointer (some ⟨b302, o302, none⟩)) :: e) (Sub.both (Kn.sup ⟨g8_, g7_, trivial⟩)) ⟨im, Sub.fresh ib rfl, i0, i1, i2, i3, i4, i5, i6, i7, i8, fun _ => ⟨b302, o302, rfl, me302⟩, i10, i11, i12, i13, i14, i15, i16, i17⟩
              · rintro D e s303 ⟨im, ib, i0, i1, i2, i3, i4, i5, i6, i7, i8, i9, i10, i11, i12, i13, i14, i15, i16, i17⟩ hk hf ha
                obtain ⟨d0, d1, d2, d3, d4, d5, d6, d7, d8, d9, -⟩ := ha
                have g7_ := i7 d7
                obtain ⟨b302, o302, g9_, me302⟩ := i9 d9
                rw [hc287] at g7_
                refine L.kns [(28, .pointer (some ⟨b302, o302, none⟩)), (26, .bool false)] ⟨g9_, g7_, trivial⟩ ?_
                refine L.ld (j := 0) me302 nag3 (Wt.mk rfl rfl) rfl rfl rfl rfl ?_
                refine L.nil ?_
                refine X.dr (s := s303) (e' := (29, .int .i64 x301) :: e) (Sub.both (Kn.sup ⟨g9_, g7_, trivial⟩)) ⟨im, Sub.fresh ib rfl, i0, i1, i2, i3, i4, i5, i6, i7, i8, i9, fun _ => rfl, i11, i12, i13, i14, i15, i16, i17⟩
              · rintro D e s304 ⟨im, ib, i0, i1, i2, i3, i4, i5, i6, i7, i8, i9, i10, i11, i12, i13, i14, i15, i16, i17⟩ hk hf ha
                obtain ⟨d0, d1, d2, d3, d4, d5, d6, d7, -⟩ := ha
                have g7_ := i7 d7
                rw [hc287] at g7_
                refine L.kns [(1, .slice a9 st170.2.2.length c9), (26, .bool false)] ⟨(ib 1 _ rfl), g7_, trivial⟩ ?_
                refine L.mv (Wt.mk rfl rfl) rfl rfl ?_
                refine L.nil ?_
                refine X.dr (s := s304) (e' := (30, .slice a9 st170.2.2.length c9) :: e) (Sub.both (Kn.sup ⟨(ib 1 _ rfl), g7_, trivial⟩)) ⟨im, Sub.fresh ib rfl, i0, i1, i2, i3, i4, i5, i6, i7, i8, i9, i10, fun _ => rfl, i12, i13, i14, i15, i16, i17⟩
              · rintro D e s305 ⟨im, ib, i0, i1, i2, i3, i4, i5, i6, i7, i8, i9, i10, i11, i12, i13, i14, i15, i16, i17⟩ hk hf ha
                obtain ⟨d0, d1, d2, d3, d4, d5, d6, d7, d11, -⟩ := ha
                have g7_ := i7 d7
                have g11_ := i11 d11
                have h9 := h9.mono (im.le no_No)
                rw [hc287] at g7_
                refine L.kns [(30, .slice a9 st170.2.2.length c9), (26, .bool false)] ⟨g11_, g7_, trivial⟩ ?_
                refine L.ix (r := (rK .i64)) sl23 h9 (Wt.mk rfl rfl) rfl rfl ex306 rfl ?_
                rintro b307 o307 cc307 me307 rd307
                obtain rfl := rd307
                refine L.nil ?_
                refine X.dr (s := s305) (e' := (31, .pointer (some ⟨b307, o307, none⟩)) :: e) (Sub.both (Kn.sup ⟨g11_, g7_, trivial⟩)) ⟨im, Sub.fresh ib rfl, i0, i1, i2, i3, i4, i5, i6, i7, i8, i9, i10, i11, fun _ => ⟨b307, o307, rfl, me307⟩, i13, i14, i15, i16, i17⟩
              · rintro D e s308 ⟨im, ib, i0, i1, i2, i3, i4, i5, i6, i7, i8, i9, i10, i11, i12, i13, i14, i15, i16, i17⟩ hk hf ha
                obtain ⟨d0, d1, d2, d3, d4, d5, d6, d7, d11, d12, -⟩ := ha
                have g7_ := i7 d7
                obtain ⟨b307, o307, g12_, me307⟩ := i12 d12
                rw [hc287] at g7_
                refine L.kns [(31, .pointer (some ⟨b307, o307, none⟩)), (26, .bool false)] ⟨g12_, g7_, trivial⟩ ?_
                refine L.ld (j := 0) me307 nag3 (Wt.mk rfl rfl) rfl rfl rfl rfl ?_
                refine L.nil ?_
                refine X.dr (s := s308) (e' := (32, .int .i64 x306) :: e) (Sub.both (Kn.sup ⟨g12_, g7_, trivial⟩)) ⟨im, Sub.fresh ib rfl, i0, i1, i2, i3, i4, i5, i6, i7, i8, i9, i10, i11, i12, fun _ => rfl, i14, i15, i16, i17⟩
              · rintro D e s309 ⟨im, ib, i0, i1, i2, i3, i4, i5, i6, i7, i8, i9, i10, i11, i12, i13, i14, i15, i16, i17⟩ hk hf ha
                obtain ⟨d0, d1, d2, d3, d4, d5, d6, d7, d8, d9, d10, d11, d12, d13, -⟩ := ha
                have g7_ := i7 d7
                have g10_ := i10 d10
                have g13_ := i13 d13
                rw [hc287] at g7_
                refine L.kns [(29, .int .i64 x301), (32, .int .i64 x306), (26, .bool false)] ⟨g10_, g13_, g7_, trivial⟩ ?_
                refine L.bi (Wt.mk rfl rfl) rfl rfl rfl rfl ?_
                refine L.nil ?_
                refine X.dr (s := s309) (e' := (33, .bool (decide (x301 ≤ x306))) :: e) (Sub.both (Kn.sup ⟨g10_, g13_, g7_, trivial⟩)) ⟨im, Sub.fresh ib rfl, i0, i1, i2, i3, i4, i5, i6, i7, i8, i9, i10, i11, i12, i13, fun _ => rfl, i15, i16, i17⟩
              · rintro D e s310 ⟨im, ib, i0, i1, i2, i3, i4, i5, i6, i7, i8, i9, i10, i11, i12, i13, i14, i15, i16, i17⟩ hk hf ha
                obtain ⟨d0, d1, d2, d3, d4, d5, d6, d7, d8, d9, d10, d11, d12, d13, d14, -⟩ := ha
                have g3_ := i3 d3
                have g7_ := i7 d7
                have g14_ := i14 d14
                rw [hc287] at g7_
                rw [hc282] at g3_
                refine L.kns [(26, .bool false), (33, .bool (decide (x301 ≤ x306))), (22, .bool true)] ⟨g7_, g14_, g3_, trivial⟩ ?_
                refine L.pkF (Wt.mk rfl rfl) rfl rfl rfl rfl ?_
                refine L.nil ?_
                refine X.dr (s := s310) (e' := (34, .bool (decide (x301 ≤ x306))) :: e) (Sub.both (Kn.sup ⟨g7_, g14_, g3_, trivial⟩)) ⟨im, Sub.fresh ib rfl, i0, i1, i2, i3, i4, i5, i6, i7, i8, i9, i10, i11, i12, i13, i14, fun _ => rfl, i16, i17⟩
              · rintro D e s311 ⟨im, ib, i0, i1, i2, i3, i4, i5, i6, i7, i8, i9, i10, i11, i12, i13, i14, i15, i16, i17⟩ hk hf ha
                obtain ⟨d0, d1, d2, d3, d4, d5, d6, d7, d8, d9, d10, d11, d12, d13, d14, d15, -⟩ := ha
                have g3_ := i3 d3
                have g15_ := i15 d15
                rw [hc282] at g3_
                refine L.kns [(22, .bool true), (34, .bool (decide (x301 ≤ x306)))] ⟨g3_, g15_, trivial⟩ ?_
                refine L.pkT Wt.no rfl rfl rfl rfl ?_
                refine L.nil ?_
                refine X.dr (s := s311) (e' := (35, .bool (decide (x301 ≤ x306))) :: e) (Sub.both (Kn.sup ⟨g3_, g15_, trivial⟩)) ⟨im, Sub.fresh ib rfl, i0, i1, i2, i3, i4, i5, i6, i7, i8, i9, i10, i11, i12, i13, i14, i15, fun _ => rfl, i17⟩
              · rintro D e s312 ⟨im, ib, i0, i1, i2, i3, i4, i5, i6, i7, i8, i9, i10, i11, i12, i13, i14, i15, i16, i17⟩ hk hf ha
                obtain ⟨d0, d1, d2, d3, d4, d5, d6, d7, d8, d9, d10, d11, d12, d13, d14, d15, d16, -⟩ := ha
                have g16_ := i16 d16
                refine L.kns [(35, .bool (decide (x301 ≤ x306)))] ⟨g16_, trivial⟩ ?_
                refine L.as Wt.no rfl rfl ?_
                refine L.nil ?_
                refine X.dr (s := s312) (e' := (8, .bool (decide (x301 ≤ x306))) :: e) (Sub.both (Kn.sup ⟨g16_, trivial⟩)) ⟨im, Sub.fresh ib rfl, i0, i1, i2, i3, i4, i5, i6, i7, i8, i9, i10, i11, i12, i13, i14, i15, i16, fun _ => rfl⟩
            · rintro D e s313 hD ⟨im, ib, i0, i1, i2, i3, i4, i5, i6, i7, i8, i9, i10, i11, i12, i13, i14, i15, i16, i17⟩
              have g17_ := i17 (hD 17 rfl)
              have h5 := h5.mv im no_No no_No
              have h7 := h7.mono (im.le no_No)
              have h9 := h9.mono (im.le no_No)
              have hp2 := hp2.mono (im.le no_No)
              have m0 := m0.trans im.no
              refine X.sub (e' := [(8, .bool (decide (x301 ≤ x306))), (7, .slice a5 st170.1.length c5), (0, .slice a7 st170.2.1.length c7), (1, .slice a9 st170.2.2.length c9), (2, vp2)]) ?_ (Sub.cons g17_ (Sub.cons (ib 7 _ rfl) (Sub.cons (ib 0 _ rfl) (Sub.cons (ib 1 _ rfl) (Sub.cons (ib 2 _ rfl) Sub.nil)))))
              exact X.sub (Jj179 _ _ ⟨s313, (decide (x301 ≤ x306)), hm, m0, h5, h7, h9, hp2, rfl, rfl⟩) (Sub.cons rfl (Sub.cons rfl (Sub.cons rfl (Sub.cons rfl (Sub.cons rfl Sub.nil)))))
        · have _ := hN
          refine E.draw [[], [0], [0, 1], [0, 1, 2], [0, 1, 2, 3], [0, 1, 2, 3, 4], [0, 1, 2, 3, 4, 5], [0, 1, 2, 3, 4, 5, 6], [0, 1, 2, 3, 4, 5, 6, 7], [0, 1, 2, 3, 4, 5, 6, 7, 8], [0, 1, 2, 3, 4, 5, 6, 7, 8, 9], [0, 1, 2, 3, 4, 5, 6, 7], [0, 1, 2, 3, 4, 5, 6, 7, 11], [0, 1, 2, 3, 4, 5, 6, 7, 11, 12], [0, 1, 2, 3, 4, 5, 6, 7, 8, 9, 10, 11, 12, 13], [0, 1, 2, 3, 4, 5, 6, 7, 8, 9, 10, 11, 12, 13, 14], [0, 1, 2, 3, 4, 5, 6, 7, 8, 9, 10, 11, 12, 13, 14, 15], [0, 1, 2, 3, 4, 5, 6, 7, 8, 9, 10, 11, 12, 13, 14, 15, 16]] (fun D e sx => Mv No s173 sx ∧ Sub [(7, .slice a5 st170.1.length c5), (0, .slice a7 st170.2.1.length c7), (1, .slice a9 st170.2.2.length c9), (2, vp2)] e ∧ (D 0 = true → (Env.get e 19 = some (.slice a7 st170.2.1.length c7))) ∧ (D 1 = true → (Env.get e 20 = some (.int .i64 (st170.2.1.length : Int)))) ∧ (D 2 = true → (Env.get e 21 = some (.bool (decide ((st170.2.1.length : Int) > 0))))) ∧ (D 3 = true → (Env.get e 22 = some (.bool (decide ((st170.2.1.length : Int) > 0))))) ∧ (D 4 = true → (Env.get e 23 = some undef)) ∧ (D 5 = true → (Env.get e 24 = some undef)) ∧ (D 6 = true → (Env.get e 25 = some undef)) ∧ (D 7 = true → (Env.get e 26 = some undef)) ∧ (D 8 = true → (Env.get e 27 = some undef)) ∧ (D 9 = true → (Env.get e 28 = some undef)) ∧ (D 10 = true → (Env.get e 29 = some undef)) ∧ (D 11 = true → (Env.get e 30 = some undef)) ∧ (D 12 = true → (Env.get e 31 = some undef)) ∧ (D 13 = true → (Env.get e 32 = some undef)) ∧ (D 14 = true → (Env.get e 33 = some undef)) ∧ (D 15 = true → (Env.get e 34 = some undef)) ∧ (D 16 = true → (Env.get e 35 = some (.bool false))) ∧ (D 17 = true → (Env.get e 8 = some (.bool false)))) (by kernel_rfl) (by kernel_rfl) (by kernel_rfl) ?_ ?_ ?_
          · intro sz mz
            exact ⟨mz, (Sub.cons rfl (Sub.cons rfl (Sub.cons rfl (Sub.cons rfl Sub.nil)))), nofun, nofun, nofun, nofun, nofun, nofun, nofun, nofun, nofun, nofun, nofun, nofun, nofun, nofun, nofun, nofun, nofun, nofun⟩
          · refine ⟨?_, ?_, ?_, ?_, ?_, ?_, ?_, ?_, ?_, ?_, ?_, ?_, ?_, ?_, ?_, ?_, ?_, ?_, trivial⟩
            · rintro D e s278 ⟨im, ib, i0, i1, i2, i3, i4, i5, i6, i7, i8, i9, i10, i11, i12, i13, i14, i15, i16, i17⟩ hk hf ha
              refine L.kns [(0, .slice a7 st170.2.1.length c7)] ⟨(ib 0 _ rfl), trivial⟩ ?_
              refine L.mv Wt.no rfl rfl ?_
              refine L.nil ?_
              refine X.dr (s := s278) (e' := (19, .slice a7 st170.2.1.length c7) :: e) (Sub.both (Kn.sup ⟨(ib 0 _ rfl), trivial⟩)) ⟨im, Sub.fresh ib rfl, fun _ => rfl, i1, i2, i3, i4, i5, i6, i7, i8, i9, i10, i11, i12, i13, i14, i15, i16, i17⟩
            · rintro D e s279 ⟨im, ib, i0, i1, i2, i3, i4, i5, i6, i7, i8, i9, i10, i11, i12, i13, i14, i15, i16, i17⟩ hk hf ha
              obtain ⟨d0, -⟩ := ha
              have g0_ := i0 d0
              refine L.kns [(19, .slice a7 st170.2.1.length c7)] ⟨g0_, trivial⟩ ?_
              refine L.len sl23 Wt.no rfl rfl ?_
              refine L.nil ?_
              refine X.dr (s := s279) (e' := (20, .int .i64 (st170.2.1.length : Int)) :: e) (Sub.both (Kn.sup ⟨g0_, trivial⟩)) ⟨im, Sub.fresh ib rfl, i0, fun _ => rfl, i2, i3, i4, i5, i6, i7, i8, i9, i10, i11, i12, i13, i14, i15, i16, i17⟩
            · rintro D e s280 ⟨im, ib, i0, i1, i2, i3, i4, i5, i6, i7, i8, i9, i10, i11, i12, i13, i14, i15, i16, i17⟩ hk hf ha
              obtain ⟨d0, d1, -⟩ := ha
              have g1_ := i1 d1
              refine L.kns [(20, .int .i64 (st170.2.1.length : Int))] ⟨g1_, trivial⟩ ?_
              refine L.bi Wt.no rfl rfl rfl rfl ?_
              refine L.nil ?_
              refine X.dr (s := s280) (e' := (21, .bool (decide ((st170.2.1.length : Int) > 0))) :: e) (Sub.both (Kn.sup ⟨g1_, trivial⟩)) ⟨im, Sub.fresh ib rfl, i0, i1, fun _ => rfl, i3, i4, i5, i6, i7, i8, i9, i10, i11, i12, i13, i14, i15, i16, i17⟩
            · rintro D e s281 ⟨im, ib, i0, i1, i2, i3, i4, i5, i6, i7, i8, i9, i10, i11, i12, i13, i14, i15, i16, i17⟩ hk hf ha
              obtain ⟨d0, d1, d2, -⟩ := ha
              have g2_ := i2 d2
              refine L.kns [(21, .bool (decide ((st170.2.1.length : Int) > 0)))] ⟨g2_, trivial⟩ ?_
              refine L.mv Wt.no rfl rfl ?_
              refine L.nil ?_
              refine X.dr (s := s281) (e' := (22, .bool (decide ((st170.2.1.length : Int) > 0))) :: e) (Sub.both (Kn.sup ⟨g2_, trivial⟩)) ⟨im, Sub.fresh ib rfl, i0, i1, i2, fun _ => rfl, i4, i5, i6, i7, i8, i9, i10, i11, i12, i13, i14, i15, i16, i17⟩
            · rintro D e s314 ⟨im, ib, i0, i1, i2, i3, i4, i5, i6, i7, i8, i9, i10, i11, i12, i13, i14, i15, i16, i17⟩ hk hf ha
              obtain ⟨d0, d1, d2, d3, -⟩ := ha
              have g3_ := i3 d3
              rw [hc282] at g3_
              refine L.kns [(1, .slice a9 st170.2.2.length c9), (22, .bool false)] ⟨(ib 1 _ rfl), g3_, trivial⟩ ?_
              refine L.skip rfl rfl rfl rfl ?_
              refine L.nil ?_
              refine X.dr (s := s314) (e' := (23, undef) :: e) (Sub.both (Kn.sup ⟨(ib 1 _ rfl), g3_, trivial⟩)) ⟨im, Sub.fresh ib rfl, i0, i1, i2, i3, fun _ => rfl, i5, i6, i7, i8, i9, i10, i11, i12, i13, i14, i15, i16, i17⟩
            · rintro D e s315 ⟨im, ib, i0, i1, i2, i3, i4, i5, i6, i7, i8, i9, i10, i11, i12, i13, i14, i15, i16, i17⟩ hk hf ha
              obtain ⟨d0, d1, d2, d3, d4, -⟩ := ha
              have g3_ := i3 d3
              have g4_ := i4 d4
              rw [hc282] at g3_
              refine L.kns [(23, undef), (22, .bool false)] ⟨g4_, g3_, trivial⟩ ?_
              refine L.skip rfl rfl rfl rfl ?_
              refine L.nil ?_
              refine X.dr (s := s315) (e' := (24, undef) :: e) (Sub.both (Kn.sup ⟨g4_, g3_, trivial⟩)) ⟨im, Sub.fresh ib rfl, i0, i1, i2, i3, i4, fun _ => rfl, i6, i7, i8, i9, i10, i11, i12, i13, i14, i15, i16, i17⟩
            · rintro D e s316 ⟨im, ib, i0, i1, i2, i3, i4, i5, i6, i7, i8, i9, i10, i11, i12, i13, i14, i15, i16, i17⟩ hk hf ha
              obtain ⟨d0, d1, d2, d3, d4, d5, -⟩ := ha
              have g3_ := i3 d3
              have g5_ := i5 d5
              rw [hc282] at g3_
              refine L.kns [(24, undef), (22, .bool false)] ⟨g5_, g3_, trivial⟩ ?_
              refine L.skip rfl rfl rfl rfl ?_
              refine L.nil ?_
              refine X.dr (s := s316) (e' := (25, undef) :: e) (Sub.both (Kn.sup ⟨g5_, g3_, trivial⟩)) ⟨im, Sub.fresh ib rfl, i0, i1, i2, i3, i4, i5, fun _ => rfl, i7, i8, i9, i10, i11, i12, i13, i14, i15, i16, i17⟩
            · rintro D e s317 ⟨im, ib, i0, i1, i2, i3, i4, i5, i6, i7, i8, i9, i10, i11, i12, i13, i14, i15, i16, i17⟩ hk hf ha
              obtain ⟨d0, d1, d2, d3, d4, d5, d6, -⟩ := ha
              have g3_ := i3 d3
              have g6_ := i6 d6
              rw [hc282] at g3_
              refine L.kns [(25, undef), (22, .bool false)] ⟨g6_, g3_, trivial⟩ ?_
              refine L.skip rfl rfl rfl rfl ?_
              refine L.nil ?_
              refine X.dr (s := s317) (e' := (26, undef) :: e) (Sub.both (Kn.sup ⟨g6_, g3_, trivial⟩)) ⟨im, Sub.fresh ib rfl, i0, i1, i2, i3, i4, i5, i6, fun _ => rfl, i8, i9, i10, i11, i12, i13, i14, i15, i16, i17⟩
            · rintro D e s318 ⟨im, ib, i0, i1, i2, i3, i4, i5, i6, i7, i8, i9, i10, i11, i12, i13, i14, i15, i16, i17⟩ hk hf ha
              obtain ⟨d0, d1, d2, d3, d4, d5, d6, d7, -⟩ := ha
              have g7_ := i7 d7
              refine L.kns [(0, .slice a7 st170.2.1.length c7), (26, undef)] ⟨(ib 0 _ rfl), g7_, trivial⟩ ?_
              refine L.skipU rfl rfl rfl ?_
              refine L.nil ?_
              refine X.dr (s := s318) (e' := (27, undef) :: e) (Sub.both (Kn.sup ⟨(ib 0 _ rfl), g7_, trivial⟩)) ⟨im, Sub.fresh ib rfl, i0, i1, i2, i3, i4, i5, i6, i7, fun _ => rfl, i9, i10, i11, i12, i13, i14, i15, i16, i17⟩
            · rintro D e s319 ⟨im, ib, i0, i1, i2, i3, i4, i5, i6, i7, i8, i9, i10, i11, i12, i13, i14, i15, i16, i17⟩ hk hf ha
              obtain ⟨d0, d1, d2, d3, d4, d5, d6, d7, d8, -⟩ := ha
              have g7_ := i7 d7
              have g8_ := i8 d8
              refine L.kns [(27, undef), (26, undef)] ⟨g8_, g7_, trivial⟩ ?_
              refine L.skipU rfl rfl rfl ?_
              refine L.nil ?_
              refine X.dr (s := s319) (e' := (28, undef) :: e) (Sub.both (Kn.sup ⟨g8_, g7_, trivial⟩)) ⟨im, Sub.fresh ib rfl, i0, i1, i2, i3, i4, i5, i6, i7, i8, fun _ => rfl, i10, i11, i12, i13, i14, i15, i16, i17⟩
            · rintro D e s320 ⟨im, ib, i0, i1, i2, i3, i4, i5, i6, i7, i8, i9, i10, i11, i12, i13, i14, i15, i16, i17⟩ hk hf ha
              obtain ⟨d0, d1, d2, d3, d4, d5, d6, d7, d8, d9, -⟩ := ha
              have g7_ := i7 d7
              have g9_ := i9 d9
              refine L.kns [(28, undef), (26, undef)] ⟨g9_, g7_, trivial⟩ ?_
              refine L.skipU rfl rfl rfl ?_
              refine L.nil ?_
              refine X.dr (s := s320) (e' := (29, undef) :: e) (Sub.both (Kn.sup ⟨g9_, g7_, trivial⟩)) ⟨im, Sub.fresh ib rfl, i0, i1, i2, i3, i4, i5, i6, i7, i8, i9, fun _ => rfl, i11, i12, i13, i14, i15, i16, i17⟩
            · rintro D e s321 ⟨im, ib, i0, i1, i2, i3, i4, i5, i6, i7, i8, i9, i10, i11, i12, i13, i14, i15, i16, i17⟩ hk hf ha
              obtain ⟨d0, d1, d2, d3, d4, d5, d6, d7, -⟩ := ha
              have g7_ := i7 d7
              refine L.kns [(1, .slice a9 st170.2.2.length c9), (26, undef)] ⟨(ib 1 _ rfl), g7_, trivial⟩ ?_
              refine L.skipU rfl rfl rfl ?_
              refine L.nil ?_
              refine X.dr (s := s321) (e' := (30, undef) :: e) (Sub.both (Kn.sup ⟨(ib 1 _ rfl), g7_, trivial⟩)) ⟨im, Sub.fresh ib rfl, i0, i1, i2, i3, i4, i5, i6, i7, i8, i9, i10, fun _ => rfl, i12, i13, i14, i15, i16, i17⟩
            · rintro D e s322 ⟨im, ib, i0, i1, i2, i3, i4, i5, i6, i7, i8, i9, i10, i11, i12, i13, i14, i15, i16, i17⟩ hk hf ha
              obtain ⟨d0, d1, d2, d3, d4, d5, d6, d7, d11, -⟩ := ha
              have g7_ := i7 d7
              have g11_ := i11 d11
              refine L.kns [(30, undef), (26, undef)] ⟨g11_, g7_, trivial⟩ ?_
              refine L.skipU rfl rfl rfl ?_
              refine L.nil ?_
              refine X.dr (s := s322) (e' := (31, undef) :: e) (Sub.both (Kn.sup ⟨g11_, g7_, trivial⟩)) ⟨im, Sub.fresh ib rfl, i0, i1, i2, i3, i4, i5, i6, i7, i8, i9, i10, i11, fun _ => rfl, i13, i14, i15, i16, i17⟩
            · rintro D e s323 ⟨im, ib, i0, i1, i2, i3, i4, i5, i6, i7, i8, i9, i10, i11, i12, i13, i14, i15, i16, i17⟩ hk hf ha
              obtain ⟨d0, d1, d2, d3, d4, d5, d6, d7, d11, d12, -⟩ := ha
              have g7_ := i7 d7
              have g12_ := i12 d12
              refine L.kns [(31, undef), (26, undef)] ⟨g12_, g7_, trivial⟩ ?_
              refine L.skipU rfl rfl rfl ?_
              refine L.nil ?_
              refine X.dr (s := s323) (e' := (32, undef) :: e) (Sub.both (Kn.sup ⟨g12_, g7_, trivial⟩)) ⟨im, Sub.fresh ib rfl, i0, i1, i2, i3, i4, i5, i6, i7, i8, i9, i10, i11, i12, fun _ => rfl, i14, i15, i16, i17⟩
            · rintro D e s324 ⟨im, ib, i0, i1, i2, i3, i4, i5, i6, i7, i8, i9, i10, i11, i12, i13, i14, i15, i16, i17⟩ hk hf ha
              obtain ⟨d0, d1, d2, d3, d4, d5, d6, d7, d8, d9, d10, d11, d12, d13, -⟩ := ha
              have g7_ := i7 d7
              have g10_ := i10 d10
              have g13_ := i13 d13
              refine L.kns [(29, undef), (32, undef), (26, undef)] ⟨g10_, g13_, g7_, trivial⟩ ?_
              refine L.skipU rfl rfl rfl ?_
              refine L.nil ?_
              refine X.dr (s := s324) (e' := (33, undef) :: e) (Sub.both (Kn.sup ⟨g10_, g13_, g7_, trivial⟩)) ⟨im, Sub.fresh ib rfl, i0, i1, i2, i3, i4, i5, i6, i7, i8, i9, i10, i11, i12, i13, fun _ => rfl, i15, i16, i17⟩
            · rintro D e s325 ⟨im, ib, i0, i1, i2, i3, i4, i5, i6, i7, i8, i9, i10, i11, i12, i13, i14, i15, i16, i17⟩ hk hf ha
              obtain ⟨d0, d1, d2, d3, d4, d5, d6, d7, d8, d9, d10, d11, d12, d13, d14, -⟩ := ha
              have g3_ := i3 d3
              have g7_ := i7 d7
              have g14_ := i14 d14
              rw [hc282] at g3_
              refine L.kns [(26, undef), (33, undef), (22, .bool false)] ⟨g7_, g14_, g3_, trivial⟩ ?_
              refine L.skip rfl rfl rfl rfl ?_
              refine L.nil ?_
              refine X.dr (s := s325) (e' := (34, undef) :: e) (Sub.both (Kn.sup ⟨g7_, g14_, g3_, trivial⟩)) ⟨im, Sub.fresh ib rfl, i0, i1, i2, i3, i4, i5, i6, i7, i8, i9, i10, i11, i12, i13, i14, fun _ => rfl, i16, i17⟩
            · rintro D e s326 ⟨im, ib, i0, i1, i2, i3, i4, i5, i6, i7, i8, i9, i10, i11, i12, i13, i14, i15, i16, i17⟩ hk hf ha
              obtain ⟨d0, d1, d2, d3, d4, d5, d6, d7, d8, d9, d10, d11, d12, d13, d14, d15, -⟩ := ha
              have g3_ := i3 d3
              have g15_ := i15 d15
              rw [hc282] at g3_
              refine L.kns [(22, .bool false), (34, undef)] ⟨g3_, g15_, trivial⟩ ?_
              refine L.pkF Wt.no rfl rfl rfl rfl ?_
              refine L.nil ?_
              refine X.dr (s := s326) (e' := (35, .bool false) :: e) (Sub.both (Kn.sup ⟨g3_, g15_, trivial⟩)) ⟨im, Sub.fresh ib rfl, i0, i1, i2, i3, i4, i5, i6, i7, i8, i9, i10, i11, i12, i13, i14, i15, fun _ => rfl, i17⟩
            · rintro D e s327 ⟨im, ib, i0, i1, i2, i3, i4, i5, i6, i7, i8, i9, i10, i11, i12, i13, i14, i15, i16, i17⟩ hk hf ha
              obtain ⟨d0, d1, d2, d3, d4, d5, d6, d7, d8, d9, d10, d11, d12, d13, d14, d15, d16, -⟩ := ha
              have g16_ := i16 d16
              refine L.kns [(35, .bool false)] ⟨g16_, trivial⟩ ?_
              refine L.as Wt.no rfl rfl ?_
              refine L.nil ?_
              refine X.dr (s := s327) (e' := (8, .bool false) :: e) (Sub.both (Kn.sup ⟨g16_, trivial⟩)) ⟨im, Sub.fresh ib rfl, i0, i1, i2, i3, i4, i5, i6, i7, i8, i9, i10, i11, i12, i13, i14, i15, i16, fun _ => rfl⟩
          · rintro D e s328 hD ⟨im, ib, i0, i1, i2, i3, i4, i5, i6, i7, i8, i9, i10, i11, i12, i13, i14, i15, i16, i17⟩
            have g17_ := i17 (hD 17 rfl)
            have h5 := h5.mv im no_No no_No
            have h7 := h7.mono (im.le no_No)
            have h9 := h9.mono (im.le no_No)
            have hp2 := hp2.mono (im.le no_No)
            have m0 := m0.trans im.no
            refine X.sub (e' := [(8, .bool false), (7, .slice a5 st170.1.length c5), (0, .slice a7 st170.2.1.length c7), (1, .slice a9 st170.2.2.length c9), (2, vp2)]) ?_ (Sub.cons g17_ (Sub.cons (ib 7 _ rfl) (Sub.cons (ib 0 _ rfl) (Sub.cons (ib 1 _ rfl) (Sub.cons (ib 2 _ rfl) Sub.nil)))))
            exact X.sub (Jj179 _ _ ⟨s328, false, hm, m0, h5, h7, h9, hp2, rfl, rfl⟩) (Sub.cons rfl (Sub.cons rfl (Sub.cons rfl (Sub.cons rfl (Sub.cons rfl Sub.nil)))))
    · refine E.cF rfl hc ?_
      refine E.exit ?_
      refine X.seqX ?_
      refine X.seqX ?_
      have hx := ho170 _ (Option.some.inj hm).symm
      subst hx
      exact X.sub (K175 _ _ ⟨s173, a5, c5, m0, h5, rfl, rfl⟩) (Sub.cons rfl Sub.nil)
  · intro J329
    rcases Bool.eq_false_or_eq_true (decide ((st170.2.1.length : Int) > 0)) with hc | hc
    · refine L.know (d := 14) rfl hc ?_
      refine L.skip rfl rfl rfl rfl ?_
      refine L.skip rfl rfl rfl rfl ?_
      refine L.skip rfl rfl rfl rfl ?_
      refine L.pkT Wt.no rfl rfl rfl rfl ?_
      exact L.sub (Sub.cons rfl (Sub.cons rfl (Sub.cons rfl (Sub.cons rfl (Sub.cons rfl Sub.nil))))) (J329 _ _ ⟨true, (orT hc).symm, rfl, rfl⟩)
    · refine L.know (d := 14) rfl hc ?_
      refine L.mv (Wt.mk rfl rfl) rfl rfl ?_
      refine L.len sl23 (Wt.mk rfl rfl) rfl rfl ?_
      refine L.bi (Wt.mk rfl rfl) rfl rfl rfl rfl ?_
      refine L.pkF Wt.no rfl rfl rfl rfl ?_
      exact L.sub (Sub.cons rfl (Sub.cons rfl (Sub.cons rfl (Sub.cons rfl (Sub.cons rfl Sub.nil))))) (J329 _ _ ⟨(decide ((st170.2.2.length : Int) > 0)), (orF hc).symm, rfl, rfl⟩)

/-- What alphabet.Minus$1 computes. -/
noncomputable def m_alphabet_Minus_1 (p0 : Bool) (p1 : Bool) : Option Bool :=
  some (p0 && (!p1))
set_option maxRecDepth 100000 in
set_option maxHeartbeats 8000000 in
theorem m_alphabet_Minus_1_c {s : Sig} {p0 : Bool} {p1 : Bool} {r : Bool} (hm : m_alphabet_Minus_1 p0 p1 = some r) :
    Calls Try.prog 79 #[.bool p0, .bool p1] s.w (RetS No s fun v s' => v = .bool r) := by
  unfold m_alphabet_Minus_1 at hm
  obtain ⟨N, hN, hNb⟩ := s.fresh
  have m0 : Mv (Up N No) s s := Mv.refl _ _
  refine E.entry (vs := [.bool p0, .bool p1]) (e := [(0, .bool p0), (1, .bool p1)]) Try.func79 rfl Try.ntmps79 rfl rfl ?_
  refine E.seq ?_
  refine E.reg ?_
  refine L.as Wt.no rfl rfl ?_
  refine L.nil ?_
  refine X.seqN ?_
  refine E.seq ?_
  refine E.reg ?_
  refine L.mv Wt.no rfl rfl ?_
  refine L.mv Wt.no rfl rfl ?_
  refine L.cut 3 (fun e w => ∃ (v1 : Bool), (p0 && (!p1)) = v1 ∧ e = (9, .bool v1) :: [] ∧ w = s.w) ?_ ?_
  · rintro _ _ ⟨v1, rfl, rfl, rfl⟩
    refine L.as Wt.no rfl rfl ?_
    refine L.nil ?_
    refine X.seqN ?_
    refine E.ret ?_
    obtain rfl := Option.some.inj hm
    exact X.rt (.inl rfl) Try.results79 (Rs.tmp rfl Rs.nil) rfl ⟨_, (s).ren N (fun _ => 0), rfl, rfl, m0.ren hNb, rfl⟩
  · intro J2
    rcases Bool.eq_false_or_eq_true p0 with hc | hc
    · refine L.know (d := 6) rfl hc ?_
      refine L.mv (Wt.mk rfl rfl) rfl rfl ?_
      refine L.not (Wt.mk rfl rfl) rfl rfl ?_
      refine L.pkT Wt.no rfl rfl rfl rfl ?_
      exact L.sub (Sub.cons rfl Sub.nil) (J2 _ _ ⟨(!p1), (andT hc).symm, rfl, rfl⟩)
    · refine L.know (d := 6) rfl hc ?_
      refine L.skip rfl rfl rfl rfl ?_
      refine L.skip rfl rfl rfl rfl ?_
      refine L.pkF Wt.no rfl rfl rfl rfl ?_
      exact L.sub (Sub.cons rfl Sub.nil) (J2 _ _ ⟨false, (andF hc).symm, rfl, rfl⟩)

theorem cf78 : Cf Try.prog 78 := Cf.mk Try.func78 (by kernel_rfl) (by kernel_rfl)
theorem cf79 : Cf Try.prog 79 := Cf.mk Try.func79 (by kernel_rfl) (by kernel_rfl)
theorem fv79 {s : Sig} : FV2 Try.prog s (.func (.func 79) #[] #[]) (fun (x0 : Bool) (x1 : Bool) => [.bool x0, .bool x1]) (fun r => .bool r) m_alphabet_Minus_1 := ⟨79, #[], #[], rfl, cf79, fun x0 x1 r hm s' hl => by have hh := m_alphabet_Minus_1_c (s := s') hm; simpa using hh⟩
/-- What alphabet.Minus computes. -/
noncomputable def m_alphabet_Minus (p0 : List Int) (p1 : List Int) : Option (List Int) :=
  (m_alphabet_merge p0 p1 m_alphabet_Minus_1).bind fun r4 =>
  some r4
set_option maxRecDepth 100000 in
set_option maxHeartbeats 8000000 in
theorem m_alphabet_Minus_c {s : Sig} {p0 : List Int} {p1 : List Int} {a1 : Option Addr} {c1 : Nat} {a2 : Option Addr} {c2 : Nat} {u0 : Nat} {r : List Int} (h1 : RdL (rK .i64) s a1 c1 p0) (h2 : RdL (rK .i64) s a2 c2 p1) (hm : m_alphabet_Minus p0 p1 = some r) :
    Calls Try.prog 68 #[.slice a1 p0.length c1, .slice a2 p1.length c2] s.w (RetS No s fun v s' => ∃ (a3 : Option Addr) (c3 : Nat), v = .slice a3 r.length c3 ∧ RowT (rK .i64) s' u0 3 a3 c3 r) := by
  unfold m_alphabet_Minus at hm
  obtain ⟨N, hN, hNb⟩ := s.fresh
  have m0 : Mv (Up N No) s s := Mv.refl _ _
  refine E.entry (vs := [.slice a1 p0.length c1, .slice a2 p1.length c2]) (e := [(0, .slice a1 p0.length c1), (1, .slice a2 p1.length c2)]) Try.func68 rfl Try.ntmps68 rfl rfl ?_
  refine E.seq ?_
  refine E.reg ?_
  refine L.as Wt.no rfl rfl ?_
  refine L.nil ?_
  refine X.seqN ?_
  refine E.seq ?_
  refine E.reg ?_
  refine L.mv Wt.no rfl rfl ?_
  refine L.mv Wt.no rfl rfl ?_
  obtain ⟨r4, er4, hm⟩ := bindS hm
  refine L.ca (vs := [.slice a1 p0.length c1, .slice a2 p1.length c2, (.func (.func 79) #[] #[])]) cf78 rfl rfl Wt.no rfl (m_alphabet_merge_c (s := s) (p0 := p0) (p1 := p1) (p2 := m_alphabet_Minus_1) (u0 := (N + 0)) h1 h2 fv79 er4) rfl ?_
  rintro _ s5 m6 ⟨a7, c7, rfl, h7⟩
  replace m0 := m0.trans m6.no
  refine L.as Wt.no rfl rfl ?_
  refine L.nil ?_
  refine X.seqN ?_
  refine E.ret ?_
  obtain rfl := Option.some.inj hm
  exact X.rt (.inl rfl) Try.results68 (Rs.tmp rfl Rs.nil) rfl ⟨_, (s5).ren N (fun k => cond (Nat.beq k 0) u0 (0)), rfl, rfl, m0.ren hNb, ⟨a7, c7, rfl, (h7.ren hN)⟩⟩

theorem cf68 : Cf Try.prog 68 := Cf.mk Try.func68 (by kernel_rfl) (by kernel_rfl)
/-- What alphabet.Subset computes. -/
noncomputable def m_alphabet_Subset (p0 : List Int) (p1 : List Int) : Option Bool :=
  (m_alphabet_Minus p0 p1).bind fun r3 =>
  some ((r3.length : Int) == 0)
set_option maxRecDepth 100000 in
set_option maxHeartbeats 8000000 in
theorem m_alphabet_Subset_c {s : Sig} {p0 : List Int} {p1 : List Int} {a1 : Option Addr} {c1 : Nat} {a2 : Option Addr} {c2 : Nat} {r : Bool} (h1 : RdL (rK .i64) s a1 c1 p0) (h2 : RdL (rK .i64) s a2 c2 p1) (hm : m_alphabet_Subset p0 p1 = some r) :
    Calls Try.prog 39 #[.slice a1 p0.length c1, .slice a2 p1.length c2] s.w (RetS No s fun v s' => v = .bool r) := by
  unfold m_alphabet_Subset at hm
  obtain ⟨N, hN, hNb⟩ := s.fresh
  have m0 : Mv (Up N No) s s := Mv.refl _ _
  refine E.entry (vs := [.slice a1 p0.length c1, .slice a2 p1.length c2]) (e := [(0, .slice a1 p0.length c1), (1, .slice a2 p1.length c2)]) Try.func39 rfl Try.ntmps39 rfl rfl ?_
  refine E.seq ?_
  refine E.reg ?_
  refine L.as Wt.no rfl rfl ?_
  refine L.nil ?_
  refine X.seqN ?_
  refine E.seq ?_
  refine E.reg ?_
  refine L.mv Wt.no rfl rfl ?_
  refine L.mv Wt.no rfl rfl ?_
  obtain ⟨r3, er3, hm⟩ := bindS hm
  refine L.ca (vs := [.slice a1 p0.length c1, .slice a2 p1.length c2]) cf68 rfl rfl Wt.no rfl (m_alphabet_Minus_c (s := s) (p0 := p0) (p1 := p1) (u0 := 0) h1 h2 er3) rfl ?_
  rintro _ s4 m5 ⟨a6, c6, rfl, h6⟩
  replace h6 := h6.p
  replace m0 := m0.trans m5.no
  refine L.len sl23 Wt.no rfl rfl ?_
  refine L.bi Wt.no rfl rfl rfl rfl ?_
  refine L.as Wt.no rfl rfl ?_
  refine L.nil ?_
  refine X.seqN ?_
  refine E.ret ?_
  obtain rfl := Option.some.inj hm
  exact X.rt (.inl rfl) Try.results39 (Rs.tmp rfl Rs.nil) rfl ⟨_, (s4).ren N (fun _ => 0), rfl, rfl, m0.ren hNb, rfl⟩

theorem fa90_1 : FA Try.prog 90 1 1 := FA.mk Try.underlying90 rfl rfl ⟨1, by decide, by kernel_rfl⟩
theorem fa90_2 : FA Try.prog 90 2 2 := FA.mk Try.underlying90 rfl rfl ⟨1, by decide, by kernel_rfl⟩
/-- What generate.assembler).memory computes. -/
noncomputable def m_generate_assembler_memory (p0 : (List (Int × Int)) × Int × Int) (p1 : Int) : Option Int :=
  some (W ((W (p0.2.1 + p0.2.2)) + p1))
set_option maxRecDepth 100000 in
set_option maxHeartbeats 8000000 in
theorem m_generate_assembler_memory_c {s : Sig} {p0 : (List (Int × Int)) × Int × Int} {p1 : Int} {t0 : Nat} {a1 : Option Addr} {c1 : Nat} {b2 : Nat} {r : Int} (h1 : RdL (rP (rK .i64) (rK .i64)) s a1 c1 p0.1) (bx2 : Bx s t0 b2 #[.slice a1 p0.1.length c1, .int .i64 p0.2.1, .int .i64 p0.2.2] 90) (hm : m_generate_assembler_memory p0 p1 = some r) :
    Calls Try.prog 41 #[.pointer (some ⟨b2, 0, none⟩), .int .i64 p1] s.w (RetS No s fun v s' => v = .int .i64 r) := by
  unfold m_generate_assembler_memory at hm
  obtain ⟨N, hN, hNb, lt0, -⟩ := s.freshL [t0]
  have m0 : Mv (Up N No) s s := Mv.refl _ _
  refine E.entry (vs := [.pointer (some ⟨b2, 0, none⟩), .int .i64 p1]) (e := [(0, .pointer (some ⟨b2, 0, none⟩)), (1, .int .i64 p1)]) Try.func41 rfl Try.ntmps41 rfl rfl ?_
  refine E.seq ?_
  refine E.reg ?_
  refine L.as Wt.no rfl rfl ?_
  refine L.nil ?_
  refine X.seqN ?_
  refine E.seq ?_
  refine E.draw [[], [0], [0, 1], [0, 1, 2], [], [4], [4, 5], [4, 5, 6], [0, 1, 2, 3, 4, 5, 6, 7], [], [0, 1, 2, 3, 4, 5, 6, 7, 8, 9], [0, 1, 2, 3, 4, 5, 6, 7, 8, 9, 10]] (fun D e sx => Mv No s sx ∧ Sub [(0, .pointer (some ⟨b2, 0, none⟩)), (1, .int .i64 p1)] e ∧ (D 0 = true → (Env.get e 5 = some (.pointer (some ⟨b2, 0, none⟩)))) ∧ (D 1 = true → (Env.get e 6 = some (.pointer (some ⟨b2, 0, none⟩)))) ∧ (D 2 = true → (Env.get e 7 = some (.pointer (some ⟨b2, 1, none⟩)))) ∧ (D 3 = true → (Env.get e 8 = some (.int .i64 p0.2.1))) ∧ (D 4 = true → (Env.get e 9 = some (.pointer (some ⟨b2, 0, none⟩)))) ∧ (D 5 = true → (Env.get e 10 = some (.pointer (some ⟨b2, 0, none⟩)))) ∧ (D 6 = true → (Env.get e 11 = some (.pointer (some ⟨b2, 2, none⟩)))) ∧ (D 7 = true → (Env.get e 12 = some (.int .i64 p0.2.2))) ∧ (D 8 = true → (Env.get e 13 = some (.int .i64 (W (p0.2.1 + p0.2.2))))) ∧ (D 9 = true → (Env.get e 14 = some (.int .i64 p1))) ∧ (D 10 = true → (Env.get e 15 = some (.int .i64 (W ((W (p0.2.1 + p0.2.2)) + p1))))) ∧ (D 11 = true → (Env.get e 4 = some (.int .i64 (W ((W (p0.2.1 + p0.2.2)) + p1)))))) (by kernel_rfl) (by kernel_rfl) (by kernel_rfl) ?_ ?_ ?_
  · intro sz mz
    exact ⟨mz, (Sub.cons rfl (Sub.cons rfl Sub.nil)), nofun, nofun, nofun, nofun, nofun, nofun, nofun, nofun, nofun, nofun, nofun, nofun⟩
  · refine ⟨?_, ?_, ?_, ?_, ?_, ?_, ?_, ?_, ?_, ?_, ?_, ?_, trivial⟩
    · rintro D e s3 ⟨im, ib, i0, i1, i2, i3, i4, i5, i6, i7, i8, i9, i10, i11⟩ hk hf ha
      refine L.kns [(0, .pointer (some ⟨b2, 0, none⟩))] ⟨(ib 0 _ rfl), trivial⟩ ?_
      refine L.mv Wt.no rfl rfl ?_
      refine L.nil ?_
      refine X.dr (s := s3) (e' := (5, .pointer (some ⟨b2, 0, none⟩)) :: e) (Sub.both (Kn.sup ⟨(ib 0 _ rfl), trivial⟩)) ⟨im, Sub.fresh ib rfl, fun _ => rfl, i1, i2, i3, i4, i5, i6, i7, i8, i9, i10, i11⟩
    · rintro D e s4 ⟨im, ib, i0, i1, i2, i3, i4, i5, i6, i7, i8, i9, i10, i11⟩ hk hf ha
      obtain ⟨d0, -⟩ := ha
      have g0_ := i0 d0
      refine L.kns [(5, .pointer (some ⟨b2, 0, none⟩))] ⟨g0_, trivial⟩ ?_
      refine L.nc Wt.no rfl rfl ?_
      refine L.nil ?_
      refine X.dr (s := s4) (e' := (6, .pointer (some ⟨b2, 0, none⟩)) :: e) (Sub.both (Kn.sup ⟨g0_, trivial⟩)) ⟨im, Sub.fresh ib rfl, i0, fun _ => rfl, i2, i3, i4, i5, i6, i7, i8, i9, i10, i11⟩
    · rintro D e s5 ⟨im, ib, i0, i1, i2, i3, i4, i5, i6, i7, i8, i9, i10, i11⟩ hk hf ha
      obtain ⟨d0, d1, -⟩ := ha
      have g1_ := i1 d1
      refine L.kns [(6, .pointer (some ⟨b2, 0, none⟩))] ⟨g1_, trivial⟩ ?_
      refine L.fa fa90_1 Wt.no rfl rfl ?_
      refine L.nil ?_
      refine X.dr (s := s5) (e' := (7, .pointer (some ⟨b2, 1, none⟩)) :: e) (Sub.both (Kn.sup ⟨g1_, trivial⟩)) ⟨im, Sub.fresh ib rfl, i0, i1, fun _ => rfl, i3, i4, i5, i6, i7, i8, i9, i10, i11⟩
    · rintro D e s6 ⟨im, ib, i0, i1, i2, i3, i4, i5, i6, i7, i8, i9, i10, i11⟩ hk hf ha
      obtain ⟨d0, d1, d2, -⟩ := ha
      have g2_ := i2 d2
      have bx2 := bx2.mv im no_No
      refine L.kns [(7, .pointer (some ⟨b2, 1, none⟩))] ⟨g2_, trivial⟩ ?_
      refine L.ld (j := 1) bx2.mem nag3 Wt.no rfl rfl rfl rfl ?_
      refine L.nil ?_
      refine X.dr (s := s6) (e' := (8, .int .i64 p0.2.1) :: e) (Sub.both (Kn.sup ⟨g2_, trivial⟩)) ⟨im, Sub.fresh ib rfl, i0, i1, i2, fun _ => rfl, i4, i5, i6, i7, i8, i9, i10, i11⟩
    · rintro D e s7 ⟨im, ib, i0, i1, i2, i3, i4, i5, i6, i7, i8, i9, i10, i11⟩ hk hf ha
      refine L.kns [(0, .pointer (some ⟨b2, 0, none⟩))] ⟨(ib 0 _ rfl), trivial⟩ ?_
      refine L.mv Wt.no rfl rfl ?_
      refine L.nil ?_
      refine X.dr (s := s7) (e' := (9, .pointer (some ⟨b2, 0, none⟩)) :: e) (Sub.both (Kn.sup ⟨(ib 0 _ rfl), trivial⟩)) ⟨im, Sub.fresh ib rfl, i0, i1, i2, i3, fun _ => rfl, i5, i6, i7, i8, i9, i10, i11⟩
    · rintro D e s8 ⟨im, ib, i0, i1, i2, i3, i4, i5, i6, i7, i8, i9, i10, i11⟩ hk hf ha
      obtain ⟨d4, -⟩ := ha
      have g4_ := i4 d4
      refine L.kns [(9, .pointer (some ⟨b2, 0, none⟩))] ⟨g4_, trivial⟩ ?_
      refine L.nc Wt.no rfl rfl ?_
      refine L.nil ?_
      refine X.dr (s := s8) (e' := (10, .pointer (some ⟨b2, 0, none⟩)) :: e) (Sub.both (Kn.sup ⟨g4_, trivial⟩)) ⟨im, Sub.fresh ib rfl, i0, i1, i2, i3, i4, fun _ => rfl, i6, i7, i8, i9, i10, i11⟩
    · rintro D e s9 ⟨im, ib, i0, i1, i2, i3, i4, i5, i6, i7, i8, i9, i10, i11⟩ hk hf ha
      obtain ⟨d4, d5, -⟩ := ha
      have g5_ := i5 d5
      refine L.kns [(10, .pointer (some ⟨b2, 0, none⟩))] ⟨g5_, trivial⟩ ?_
      refine L.fa fa90_2 Wt.no rfl rfl ?_
      refine L.nil ?_
      refine X.dr (s := s9) (e' := (11, .pointer (some ⟨b2, 2, none⟩)) :: e) (Sub.both (Kn.sup ⟨g5_, trivial⟩)) ⟨im, Sub.fresh ib rfl, i0, i1, i2, i3, i4, i5, fun _ => rfl, i7, i8, i9, i10, i11⟩
    · rintro D e s10 ⟨im, ib, i0, i1, i2, i3, i4, i5, i6, i7, i8, i9, i10, i11⟩ hk hf ha
      obtain ⟨d4, d5, d6, -⟩ := ha
      have g6_ := i6 d6
      have bx2 := bx2.mv im no_No
      refine L.kns [(11, .pointer (some ⟨b2, 2, none⟩))] ⟨g6_, trivial⟩ ?_
      refine L.ld (j := 2) bx2.mem nag3 Wt.no rfl rfl rfl rfl ?_
      refine L.nil ?_
      refine X.dr (s := s10) (e' := (12, .int .i64 p0.2.2) :: e) (Sub.both (Kn.sup ⟨g6_, trivial⟩)) ⟨im, Sub.fresh ib rfl, i0, i1, i2, i3, i4, i5, i6, fun _ => rfl, i8, i9, i10, i11⟩
    · rintro D e s11 ⟨im, ib, i0, i1, i2, i3, i4, i5, i6, i7, i8, i9, i10, i11⟩ hk hf ha
      obtain ⟨d0, d1, d2, d3, d4, d5, d6, d7, -⟩ := ha
      have g3_ := i3 d3
      have g7_ := i7 d7
      refine L.kns [(8, .int .i64 p0.2.1), (12, .int .i64 p0.2.2)] ⟨g3_, g7_, trivial⟩ ?_
      refine L.bi Wt.no rfl rfl rfl rfl ?_
      refine L.nil ?_
      refine X.dr (s := s11) (e' := (13, .int .i64 (W (p0.2.1 + p0.2.2))) :: e) (Sub.both (Kn.sup ⟨g3_, g7_, trivial⟩)) ⟨im, Sub.fresh ib rfl, i0, i1, i2, i3, i4, i5, i6, i7, fun _ => rfl, i9, i10, i11⟩
    · rintro D e s12 ⟨im, ib, i0, i1, i2, i3, i4, i5, i6, i7, i8, i9, i10, i11⟩ hk hf ha
      refine L.kns [(1, .int .i64 p1)] ⟨(ib 1 _ rfl), trivial⟩ ?_
      refine L.mv Wt.no rfl rfl ?_
      refine L.nil ?_
      refine X.dr (s := s12) (e' := (14, .int .i64 p1) :: e) (Sub.both (Kn.sup ⟨(ib 1 _ rfl), trivial⟩)) ⟨im, Sub.fresh ib rfl, i0, i1, i2, i3, i4, i5, i6, i7, i8, fun _ => rfl, i10, i11⟩
    · rintro D e s13 ⟨im, ib, i0, i1, i2, i3, i4, i5, i6, i7, i8, i9, i10, i11⟩ hk hf ha
      obtain ⟨d0, d1, d2, d3, d4, d5, d6, d7, d8, d9, -⟩ := ha
      have g8_ := i8 d8
      have g9_ := i9 d9
      refine L.kns [(13, .int .i64 (W (p0.2.1 + p0.2.2))), (14, .int .i64 p1)] ⟨g8_, g9_, trivial⟩ ?_
      refine L.bi Wt.no rfl rfl rfl rfl ?_
      refine L.nil ?_
      refine X.dr (s := s13) (e' := (15, .int .i64 (W ((W (p0.2.1 + p0.2.2)) + p1))) :: e) (Sub.both (Kn.sup ⟨g8_, g9_, trivial⟩)) ⟨im, Sub.fresh ib rfl, i0, i1, i2, i3, i4, i5, i6, i7, i8, i9, fun _ => rfl, i11⟩
    · rintro D e s14 ⟨im, ib, i0, i1, i2, i3, i4, i5, i6, i7, i8, i9, i10, i11⟩ hk hf ha
      obtain ⟨d0, d1, d2, d3, d4, d5, d6, d7, d8, d9, d10, -⟩ := ha
      have g10_ := i10 d10
      refine L.kns [(15, .int .i64 (W ((W (p0.2.1 + p0.2.2)) + p1)))] ⟨g10_, trivial⟩ ?_
      refine L.as Wt.no rfl rfl ?_
      refine L.nil ?_
      refine X.dr (s := s14) (e' := (4, .int .i64 (W ((W (p0.2.1 + p0.2.2)) + p1))) :: e) (Sub.both (Kn.sup ⟨g10_, trivial⟩)) ⟨im, Sub.fresh ib rfl, i0, i1, i2, i3, i4, i5, i6, i7, i8, i9, i10, fun _ => rfl⟩
  · rintro D e s15 hD ⟨im, ib, i0, i1, i2, i3, i4, i5, i6, i7, i8, i9, i10, i11⟩
    have g11_ := i11 (hD 11 rfl)
    have bx2 := bx2.mv im no_No
    have h1 := h1.mono (im.le no_No)
    have m0 := m0.trans im.no
    refine X.sub (e' := [(4, .int .i64 (W ((W (p0.2.1 + p0.2.2)) + p1)))]) ?_ (Sub.cons g11_ Sub.nil)
    refine X.seqN ?_
    refine E.ret ?_
    obtain rfl := Option.some.inj hm
    exact X.rt (.inl rfl) Try.results41 (Rs.tmp rfl Rs.nil) rfl ⟨_, (s15).ren N (fun _ => 0), rfl, rfl, m0.ren hNb, rfl⟩

/-- What generate.assembler).output computes. -/
noncomputable def m_generate_assembler_output (p0 : (List (Int × Int)) × Int × Int) (p1 : Int) : Option Int :=
  some (W (p0.2.1 + p1))
set_option maxRecDepth 100000 in
set_option maxHeartbeats 8000000 in
theorem m_generate_assembler_output_c {s : Sig} {p0 : (List (Int × Int)) × Int × Int} {p1 : Int} {t0 : Nat} {a1 : Option Addr} {c1 : Nat} {b2 : Nat} {r : Int} (h1 : RdL (rP (rK .i64) (rK .i64)) s a1 c1 p0.1) (bx2 : Bx s t0 b2 #[.slice a1 p0.1.length c1, .int .i64 p0.2.1, .int .i64 p0.2.2] 90) (hm : m_generate_assembler_output p0 p1 = some r) :
    Calls Try.prog 42 #[.pointer (some ⟨b2, 0, none⟩), .int .i64 p1] s.w (RetS No s fun v s' => v = .int .i64 r) := by
  unfold m_generate_assembler_output at hm
  obtain ⟨N, hN, hNb, lt0, -⟩ := s.freshL [t0]
  have m0 : Mv (Up N No) s s := Mv.refl _ _
  refine E.entry (vs := [.pointer (some ⟨b2, 0, none⟩), .int .i64 p1]) (e := [(0, .pointer (some ⟨b2, 0, none⟩)), (1, .int .i64 p1)]) Try.func42 rfl Try.ntmps42 rfl rfl ?_
  refine E.seq ?_
  refine E.reg ?_
  refine L.as Wt.no rfl rfl ?_
  refine L.nil ?_
  refine X.seqN ?_
  refine E.seq ?_
  refine E.reg ?_
  refine L.mv Wt.no rfl rfl ?_
  refine L.nc Wt.no rfl rfl ?_
  refine L.fa fa90_1 Wt.no rfl rfl ?_
  refine L.ld (j := 1) bx2.mem nag3 Wt.no rfl rfl rfl rfl ?_
  refine L.mv Wt.no rfl rfl ?_
  refine L.bi Wt.no rfl rfl rfl rfl ?_
  refine L.as Wt.no rfl rfl ?_
  refine L.nil ?_
  refine X.seqN ?_
  refine E.ret ?_
  obtain rfl := Option.some.inj hm
  exact X.rt (.inl rfl) Try.results42 (Rs.tmp rfl Rs.nil) rfl ⟨_, (s).ren N (fun _ => 0), rfl, rfl, m0.ren hNb, rfl⟩

theorem ag117 : Ag Try.prog 117 2 := Ag.mk' Try.underlying117 rfl (by kernel_rfl)
theorem bs30 : Bs Try.prog 30 119 2 [.int .i64 0, .int .i64 0] := Bs.mk' Try.underlying30 (by kernel_rfl) (by kernel_rfl) rfl
theorem el119 : El Try.prog 119 2 16 := El.mk' (z := .agg #[.int .i64 0, .int .i64 0]) (by kernel_rfl) (by kernel_rfl) (by kernel_rfl) rfl
theorem fa90_0 : FA Try.prog 90 0 0 := FA.mk Try.underlying90 rfl rfl ⟨1, by decide, by kernel_rfl⟩
theorem ia117 : IA Try.prog 117 2 1 := IA.mk Try.underlying117 (by kernel_rfl)
theorem nag30 : NAg Try.prog 30 := NAg.mk' Try.underlying30 rfl (by kernel_rfl)
theorem pl119 : Pl Try.prog 119 [(0, 1), (1, 1)] [.int .i64 0, .int .i64 0] := Pl.str Try.underlying119 (by kernel_rfl) (by kernel_rfl)
theorem sl134 : Sl Try.prog 134 117 2 := Sl.mk' Try.underlying134 (by kernel_rfl)
theorem zz117 : (Try.prog.info? 117).bind (·.zero) = some (.agg #[.int .i64 0, .int .i64 0]) := by kernel_rfl
noncomputable def m_generate_assembler_put_l1 (p1 : List (Int × Int)) (st43 : Int × (List (Int × Int))) : Option ((Int × (List (Int × Int))) ⊕ (List (Int × Int))) :=
  if decide (st43.1 < (p1.length : Int)) then
    (idx p1 st43.1).bind fun x49 =>
    (app st43.2 ([x49] : List (Int × Int))).bind fun x71 =>
    some (.inl (W (st43.1 + 1), x71))
  else
    some (.inr st43.2)
/-- What generate.assembler).put computes. -/
noncomputable def m_generate_assembler_put (p0 : (List (Int × Int)) × Int × Int) (p1 : List (Int × Int)) : Option ((List (Int × Int)) × Int × Int) :=
  (iter (m_generate_assembler_put_l1 p1) (0, p0.1)).bind fun o43 =>
  some (o43, p0.2)
set_option maxRecDepth 100000 in
set_option maxHeartbeats 8000000 in
theorem m_generate_assembler_put_c {s : Sig} {p0 : (List (Int × Int)) × Int × Int} {p1 : List (Int × Int)} {t0 : Nat} {t0_0 : Nat} {a1 : Option Addr} {c1 : Nat} {b2 : Nat} {a3 : Option Addr} {c3 : Nat} {r : ((List (Int × Int)) × Int × Int)} (nt0_t0_0 : t0 ≠ t0_0) (nt0_0_t0 : t0_0 ≠ t0) (zt0 : 0 < t0) (zt0_0 : 0 < t0_0) (h1 : RowT (rP (rK .i64) (rK .i64)) s t0_0 119 a1 c1 p0.1) (bx2 : Bx s t0 b2 #[.slice a1 p0.1.length c1, .int .i64 p0.2.1, .int .i64 p0.2.2] 90) (h3 : RdL (rP (rK .i64) (rK .i64)) s a3 c3 p1) (hm : m_generate_assembler_put p0 p1 = some r) :
    Calls Try.prog 69 #[.pointer (some ⟨b2, 0, none⟩), .slice a3 p1.length c3] s.w (RetS (fun t => t = t0 ∨ t = t0_0) s fun v s' => ∃ (a4 : Option Addr) (c4 : Nat), v = .tuple #[] ∧ Bx s' t0 b2 #[.slice a4 r.1.length c4, .int .i64 r.2.1, .int .i64 r.2.2] 90 ∧ RowT (rP (rK .i64) (rK .i64)) s' t0_0 119 a4 c4 r.1) := by
  unfold m_generate_assembler_put at hm
  obtain ⟨N, hN, hNb, lt0, lt0_0, -⟩ := s.freshL [t0, t0_0]
  have m0 : Mv (Up N (fun t => t = t0 ∨ t = t0_0)) s s := Mv.refl _ _
  refine E.entry (vs := [.pointer (some ⟨b2, 0, none⟩), .slice a3 p1.length c3]) (e := [(0, .pointer (some ⟨b2, 0, none⟩)), (1, .slice a3 p1.length c3)]) Try.func69 rfl Try.ntmps69 rfl rfl ?_
  refine E.seq ?_
  refine E.reg ?_
  refine L.mv Wt.no rfl rfl ?_
  refine L.len sl134 Wt.no rfl rfl ?_
  refine L.mv Wt.no rfl rfl ?_
  refine L.nil ?_
  refine X.seqN ?_
  refine E.block ?_
  obtain ⟨o43, eo43, hm⟩ := bindS hm
  refine E.cut (x := .exit 0) (fun e w => ∃ (s47 : Sig) (a45 : Option Addr) (c45 : Nat), Mv (Up N (fun t => t = t0 ∨ t = t0_0)) s s47 ∧ RowT (rP (rK .i64) (rK .i64)) s47 t0_0 119 a45 c45 o43 ∧ Bx s47 t0 b2 #[.slice a45 o43.length c45, .int .i64 p0.2.1, .int .i64 p0.2.2] 90 ∧ e = [] ∧ w = s47.w) ?_ ?_
  · rintro _ _ ⟨s47, a45, c45, m0, h45, bx2, rfl, rfl⟩
    refine X.blkE ?_
    obtain rfl := Option.some.inj hm
    exact X.rt (.inr rfl) Try.results69 Rs.nil rfl ⟨_, (s47).ren N (fun _ => 0), rfl, rfl, m0.ren hNb, ⟨a45, c45, rfl, (bx2.renV lt0), (h45.renV hN lt0_0)⟩⟩
  intro K48
  refine E.iter (fun (st43 : Int × (List (Int × Int))) (e : List (Nat × Value)) (w : World) => ∃ (s46 : Sig) (a7 : Option Addr) (c7 : Nat), Mv (Up N (fun t => t = t0 ∨ t = t0_0)) s s46 ∧ RdL (rP (rK .i64) (rK .i64)) s46 a3 c3 p1 ∧ RowT (rP (rK .i64) (rK .i64)) s46 t0_0 119 a7 c7 st43.2 ∧ Bx s46 t0 b2 #[.slice a7 st43.2.length c7, .int .i64 p0.2.1, .int .i64 p0.2.2] 90 ∧ e = [(8, .int .i64 st43.1), (7, .int .i64 (p1.length : Int)), (6, .slice a3 p1.length c3), (0, .pointer (some ⟨b2, 0, none⟩))] ∧ w = s46.w) eo43 ⟨s, a1, c1, m0, h3, h1, bx2, rfl, rfl⟩ (Sub.cons rfl (Sub.cons rfl (Sub.cons rfl (Sub.cons rfl Sub.nil)))) ?_
  rintro st43 res43 hm ih43 ho43 _ _ ⟨s46, a7, c7, m0, h3, h7, bx2, rfl, rfl⟩
  unfold m_generate_assembler_put_l1 at hm
  refine E.seq ?_
  refine E.reg ?_
  refine L.bi Wt.no rfl rfl rfl rfl ?_
  refine L.nil ?_
  refine X.seqN ?_
  refine E.seq ?_
  rcases ifS hm with ⟨hc, hm⟩ | ⟨hc, hm⟩
  · refine E.cT rfl hc ?_
    refine E.skip ?_
    refine X.seqN ?_
    refine E.seq ?_
    refine E.block ?_
    refine E.seq ?_
    refine E.reg ?_
    obtain ⟨x49, ex49, hm⟩ := bindS hm
    refine L.ix (r := (rP (rK .i64) (rK .i64))) sl134 h3 Wt.no rfl rfl ex49 rfl ?_
    rintro b50 o50 cc50 me50 rd50
    obtain ⟨_, _, rfl, rfl, rfl⟩ := rd50
    refine L.lg (j := 0) (cs := [.int .i64 x49.1, .int .i64 x49.2]) me50 ag117 Wt.no rfl rfl rfl rfl rfl ?_
    refine L.al (N + 0) zz117 rfl Wt.no rfl ?_
    intro b51 s52 m53 bx51
    replace m0 := m0.trans m53.no
    replace h3 := h3.mono (m53.le no_No)
    replace bx2 := bx2.mv m53 no_No
    replace h7 := h7.mv m53 no_No no_No
    refine L.st (c := [.int .i64 x49.1, .int .i64 x49.2]) (cs' := #[.int .i64 x49.1, .int .i64 x49.2]) bx51 ag117.sz Wt.no rfl rfl rfl rfl rfl (Nat.le_of_ble_eq_true rfl) rfl ?_
    intro s54 m55 bx51
    replace m0 := m0.trans (m55.one up)
    replace h3 := h3.mono (m55.le (tg0 hN))
    replace bx2 := bx2.mv m55 (tgV lt0)
    replace h7 := h7.mv m55 (tgV lt0_0) (tg0 hN)
    refine L.nil ?_
    refine X.seqN ?_
    obtain ⟨x71, ex71, hm⟩ := bindS hm
    refine E.draw [[], [], [1], [1, 2], [1, 2, 3], [], [5], [], [7], [5, 6, 7, 8], [5, 6, 7, 8, 9], [1, 2, 3, 4, 5, 6, 7, 8, 9, 10], [0, 1, 2, 3, 4, 5, 6, 7, 8, 9, 10, 11], [0, 1, 2, 3, 4, 5, 6, 7, 8, 9, 10, 11, 12], [0, 1, 2, 3, 4, 5, 6, 7, 8, 9, 10, 11, 12, 13]] (fun D e sx => Mv (fun t => t = t0 ∨ t = t0_0) s54 sx ∧ Sub [(5, .pointer (some ⟨b51, 0, none⟩)), (8, .int .i64 st43.1), (7, .int .i64 (p1.length : Int)), (6, .slice a3 p1.length c3), (0, .pointer (some ⟨b2, 0, none⟩))] e ∧ (D 0 = true → (Env.get e 12 = some (.pointer (some ⟨b2, 0, none⟩)))) ∧ (D 1 = true → (Env.get e 13 = some (.pointer (some ⟨b2, 0, none⟩)))) ∧ (D 2 = true → (Env.get e 14 = some (.pointer (some ⟨b2, 0, none⟩)))) ∧ (D 3 = true → (Env.get e 15 = some (.pointer (some ⟨b2, 0, none⟩)))) ∧ (D 4 = true → (Env.get e 16 = some (.slice a7 st43.2.length c7))) ∧ (D 5 = true → (Env.get e 17 = some (.pointer (some ⟨b51, 0, none⟩)))) ∧ (D 6 = true → (Env.get e 18 = some (.int .i64 x49.1))) ∧ (D 7 = true → (Env.get e 19 = some (.pointer (some ⟨b51, 1, none⟩)))) ∧ (D 8 = true → (Env.get e 20 = some (.int .i64 x49.2))) ∧ (D 9 = true → (Env.get e 21 = some (.agg #[.int .i64 x49.1, .int .i64 x49.2]))) ∧ (D 10 = true → (∃ (b67 : Nat), Env.get e 22 = some (.slice (some ⟨b67, 0, none⟩) ([x49] : List (Int × Int)).length (([x49] : List (Int × Int)).length)) ∧ RdL (rP (rK .i64) (rK .i64)) sx (some ⟨b67, 0, none⟩) (([x49] : List (Int × Int)).length) ([x49] : List (Int × Int)))) ∧ (D 11 = true → (∃ (a72 : Option Addr) (c72 : Nat), Env.get e 23 = some (.slice a72 x71.length c72))) ∧ (D 12 = true → (Env.get e 24 = some (.pointer (some ⟨b2, 0, none⟩)))) ∧ (D 13 = true → (Env.get e 25 = some (.pointer (some ⟨b2, 0, none⟩)))) ∧ (D 14 = false → Bx sx t0 b2 #[.slice a7 st43.2.length c7, .int .i64 p0.2.1, .int .i64 p0.2.2] 90) ∧ (D 14 = true → ∀ (a72 : Option Addr) (c72 : Nat), Env.get e 23 = some (.slice a72 x71.length c72) → Bx sx t0 b2 #[.slice a72 x71.length c72, .int .i64 p0.2.1, .int .i64 p0.2.2] 90) ∧ (D 11 = false → RowT (rP (rK .i64) (rK .i64)) sx t0_0 119 a7 c7 st43.2) ∧ (D 11 = true → ∀ (a72 : Option Addr) (c72 : Nat), Env.get e 23 = some (.slice a72 x71.length c72) → RowT (rP (rK .i64) (rK .i64)) sx t0_0 119 a72 c72 x71)) (by kernel_rfl) (by kernel_rfl) (by kernel_rfl) ?_ ?_ ?_
    · intro sz mz
      exact ⟨mz.no, (Sub.cons rfl (Sub.cons rfl (Sub.cons rfl (Sub.cons rfl (Sub.cons rfl Sub.nil))))), nofun, nofun, nofun, nofun, nofun, nofun, nofun, nofun, nofun, nofun, nofun, nofun, nofun, nofun, fun _ => bx2.mv mz no_No, nofun, fun _ => h7.mv mz no_No no_No, nofun⟩
    · refine ⟨?_, ?_, ?_, ?_, ?_, ?_, ?_, ?_, ?_, ?_, ?_, ?_, ?_, ?_, ?_, trivial⟩
      · rintro D e s56 ⟨im, ib, i0, i1, i2, i3, i4, i5, i6, i7, i8, i9, i10, i11, i12, i13, i14, i15, i16, i17⟩ hk hf ha
        refine L.kns [(0, .pointer (some ⟨b2, 0, none⟩))] ⟨(ib 0 _ rfl), trivial⟩ ?_
        refine L.mv Wt.no rfl rfl ?_
        refine L.nil ?_
        refine X.dr (s := s56) (e' := (12, .pointer (some ⟨b2, 0, none⟩)) :: e) (Sub.both (Kn.sup ⟨(ib 0 _ rfl), trivial⟩)) ⟨im, Sub.fresh ib rfl, fun _ => rfl, i1, i2, i3, i4, i5, i6, i7, i8, i9, i10, i11, i12, i13, i14, i15, i16, i17⟩
      · rintro D e s57 ⟨im, ib, i0, i1, i2, i3, i4, i5, i6, i7, i8, i9, i10, i11, i12, i13, i14, i15, i16, i17⟩ hk hf ha
        refine L.kns [(0, .pointer (some ⟨b2, 0, none⟩))] ⟨(ib 0 _ rfl), trivial⟩ ?_
        refine L.mv Wt.no rfl rfl ?_
        refine L.nil ?_
        refine X.dr (s := s57) (e' := (13, .pointer (some ⟨b2, 0, none⟩)) :: e) (Sub.both (Kn.sup ⟨(ib 0 _ rfl), trivial⟩)) ⟨im, Sub.fresh ib rfl, i0, fun _ => rfl, i2, i3, i4, i5, i6, i7, i8, i9, i10, i11, i12, i13, i14, i15, i16, i17⟩
      · rintro D e s58 ⟨im, ib, i0, i1, i2, i3, i4, i5, i6, i7, i8, i9, i10, i11, i12, i13, i14, i15, i16, i17⟩ hk hf ha
        obtain ⟨d1, -⟩ := ha
        have g1_ := i1 d1
        refine L.kns [(13, .pointer (some ⟨b2, 0, none⟩))] ⟨g1_, trivial⟩ ?_
        refine L.nc Wt.no rfl rfl ?_
        refine L.nil ?_
        refine X.dr (s := s58) (e' := (14, .pointer (some ⟨b2, 0, none⟩)) :: e) (Sub.both (Kn.sup ⟨g1_, trivial⟩)) ⟨im, Sub.fresh ib rfl, i0, i1, fun _ => rfl, i3, i4, i5, i6, i7, i8, i9, i10, i11, i12, i13, i14, i15, i16, i17⟩
      · rintro D e s59 ⟨im, ib, i0, i1, i2, i3, i4, i5, i6, i7, i8, i9, i10, i11, i12, i13, i14, i15, i16, i17⟩ hk hf ha
        obtain ⟨d1, d2, -⟩ := ha
        have g2_ := i2 d2
        refine L.kns [(14, .pointer (some ⟨b2, 0, none⟩))] ⟨g2_, trivial⟩ ?_
        refine L.fa fa90_0 Wt.no rfl rfl ?_
        refine L.nil ?_
        refine X.dr (s := s59) (e' := (15, .pointer (some ⟨b2, 0, none⟩)) :: e) (Sub.both (Kn.sup ⟨g2_, trivial⟩)) ⟨im, Sub.fresh ib rfl, i0, i1, i2, fun _ => rfl, i4, i5, i6, i7, i8, i9, i10, i11, i12, i13, i14, i15, i16, i17⟩
      · rintro D e s60 ⟨im, ib, i0, i1, i2, i3, i4, i5, i6, i7, i8, i9, i10, i11, i12, i13, i14, i15, i16, i17⟩ hk hf ha
        obtain ⟨d1, d2, d3, -⟩ := ha
        have g3_ := i3 d3
        obtain bx2 := i14 (hf 14 (Nat.le_of_ble_eq_true rfl) rfl)
        refine L.kns [(15, .pointer (some ⟨b2, 0, none⟩))] ⟨g3_, trivial⟩ ?_
        refine L.ld (j := 0) bx2.mem nag30 Wt.no rfl rfl rfl rfl ?_
        refine L.nil ?_
        refine X.dr (s := s60) (e' := (16, .slice a7 st43.2.length c7) :: e) (Sub.both (Kn.sup ⟨g3_, trivial⟩)) ⟨im, Sub.fresh ib rfl, i0, i1, i2, i3, fun _ => rfl, i5, i6, i7, i8, i9, i10, i11, i12, i13, i14, i15, i16, i17⟩
      · rintro D e s61 ⟨im, ib, i0, i1, i2, i3, i4, i5, i6, i7, i8, i9, i10, i11, i12, i13, i14, i15, i16, i17⟩ hk hf ha
        refine L.kns [(5, .pointer (some ⟨b51, 0, none⟩))] ⟨(ib 5 _ rfl), trivial⟩ ?_
        refine L.ia ia117 Wt.no rfl rfl rfl rfl ?_
        refine L.nil ?_
        refine X.dr (s := s61) (e' := (17, .pointer (some ⟨b51, 0, none⟩)) :: e) (Sub.both (Kn.sup ⟨(ib 5 _ rfl), trivial⟩)) ⟨im, Sub.fresh ib rfl, i0, i1, i2, i3, i4, fun _ => rfl, i6, i7, i8, i9, i10, i11, i12, i13, i14, i15, i16, i17⟩
      · rintro D e s62 ⟨im, ib, i0, i1, i2, i3, i4, i5, i6, i7, i8, i9, i10, i11, i12, i13, i14, i15, i16, i17⟩ hk hf ha
        obtain ⟨d5, -⟩ := ha
        have g5_ := i5 d5
        have bx51 := bx51.mv im (nor (tgW lt0) (tgW lt0_0))
        refine L.kns [(17, .pointer (some ⟨b51, 0, none⟩))] ⟨g5_, trivial⟩ ?_
        refine L.ld (j := 0) bx51.mem nag3 Wt.no rfl rfl rfl rfl ?_
        refine L.nil ?_
        refine X.dr (s := s62) (e' := (18, .int .i64 x49.1) :: e) (Sub.both (Kn.sup ⟨g5_, trivial⟩)) ⟨im, Sub.fresh ib rfl, i0, i1, i2, i3, i4, i5, fun _ => rfl, i7, i8, i9, i10, i11, i12, i13, i14, i15, i16, i17⟩
      · rintro D e s63 ⟨im, ib, i0, i1, i2, i3, i4, i5, i6, i7, i8, i9, i10, i11, i12, i13, i14, i15, i16, i17⟩ hk hf ha
        refine L.kns [(5, .pointer (some ⟨b51, 0, none⟩))] ⟨(ib 5 _ rfl), trivial⟩ ?_
        refine L.ia ia117 Wt.no rfl rfl rfl rfl ?_
        refine L.nil ?_
        refine X.dr (s := s63) (e' := (19, .pointer (some ⟨b51, 1, none⟩)) :: e) (Sub.both (Kn.sup ⟨(ib 5 _ rfl), trivial⟩)) ⟨im, Sub.fresh ib rfl, i0, i1, i2, i3, i4, i5, i6, fun _ => rfl, i8, i9, i10, i11, i12, i13, i14, i15, i16, i17⟩
      · rintro D e s64 ⟨im, ib, i0, i1, i2, i3, i4, i5, i6, i7, i8, i9, i10, i11, i12, i13, i14, i15, i16, i17⟩ hk hf ha
        obtain ⟨d7, -⟩ := ha
        have g7_ := i7 d7
        have bx51 := bx51.mv im (nor (tgW lt0) (tgW lt0_0))
        refine L.kns [(19, .pointer (some ⟨b51, 1, none⟩))] ⟨g7_, trivial⟩ ?_
        refine L.ld (j := 1) bx51.mem nag3 Wt.no rfl rfl rfl rfl ?_
        refine L.nil ?_
        refine X.dr (s := s64) (e' := (20, .int .i64 x49.2) :: e) (Sub.both (Kn.sup ⟨g7_, trivial⟩)) ⟨im, Sub.fresh ib rfl, i0, i1, i2, i3, i4, i5, i6, i7, fun _ => rfl, i9, i10, i11, i12, i13, i14, i15, i16, i17⟩
      · rintro D e s65 ⟨im, ib, i0, i1, i2, i3, i4, i5, i6, i7, i8, i9, i10, i11, i12, i13, i14, i15, i16, i17⟩ hk hf ha
        obtain ⟨d5, d6, d7, d8, -⟩ := ha
        have g6_ := i6 d6
        have g8_ := i8 d8
        refine L.kns [(18, .int .i64 x49.1), (20, .int .i64 x49.2)] ⟨g6_, g8_, trivial⟩ ?_
        refine L.bu (cs := [.int .i64 x49.1, .int .i64 x49.2]) pl119 Wt.no rfl rfl rfl ?_
        refine L.nil ?_
        refine X.dr (s := s65) (e' := (21, .agg #[.int .i64 x49.1, .int .i64 x49.2]) :: e) (Sub.both (Kn.sup ⟨g6_, g8_, trivial⟩)) ⟨im, Sub.fresh ib rfl, i0, i1, i2, i3, i4, i5, i6, i7, i8, fun _ => rfl, i10, i11, i12, i13, i14, i15, i16, i17⟩
      · rintro D e s66 ⟨im, ib, i0, i1, i2, i3, i4, i5, i6, i7, i8, i9, i10, i11, i12, i13, i14, i15, i16, i17⟩ hk hf ha
        obtain ⟨d5, d6, d7, d8, d9, -⟩ := ha
        have g9_ := i9 d9
        refine L.kns [(21, .agg #[.int .i64 x49.1, .int .i64 x49.2])] ⟨g9_, trivial⟩ ?_
        refine L.bsE (k := 1) (cs := [.int .i64 x49.1, .int .i64 x49.2]) 0 bs30 (Nat.le_of_ble_eq_true rfl) Wt.no rfl rfl rfl rfl ?_
        intro b67 s68 m69 bx67
        have h67 := Bx.rdL (r := (rP (rK .i64) (rK .i64))) (xs := ([x49] : List (Int × Int))) bx67 ⟨[.int .i64 x49.1, .int .i64 x49.2], _, rfl, ⟨[.int .i64 x49.1], [.int .i64 x49.2], rfl, rfl, rfl⟩, rfl⟩ (Nat.le_of_ble_eq_true rfl)
        refine L.nil ?_
        refine X.dr (s := s68) (e' := (22, .slice (some ⟨b67, 0, none⟩) ([x49] : List (Int × Int)).length (([x49] : List (Int × Int)).length)) :: e) (Sub.both (Kn.sup ⟨g9_, trivial⟩)) ⟨im.trans m69.no, Sub.fresh ib rfl, i0, i1, i2, i3, i4, i5, i6, i7, i8, i9, fun _ => ⟨b67, rfl, h67⟩, i11, i12, i13, fun z2 => ((i14 z2).mv m69 no_No), fun z a72 c72 q11 => ((i15 z a72 c72 q11).mv m69 no_No), fun z2 => ((i16 z2).mv m69 no_No no_No), fun z a72 c72 q11 => ((i17 z a72 c72 q11).mv m69 no_No no_No)⟩
      · rintro D e s70 ⟨im, ib, i0, i1, i2, i3, i4, i5, i6, i7, i8, i9, i10, i11, i12, i13, i14, i15, i16, i17⟩ hk hf ha
        obtain ⟨d1, d2, d3, d4, d5, d6, d7, d8, d9, d10, -⟩ := ha
        have g4_ := i4 d4
        obtain ⟨b67, g10_, h67⟩ := i10 d10
        obtain h7 := i16 hk
        refine L.kns [(16, .slice a7 st43.2.length c7), (22, .slice (some ⟨b67, 0, none⟩) ([x49] : List (Int × Int)).length (([x49] : List (Int × Int)).length))] ⟨g4_, g10_, trivial⟩ ?_
        refine L.ap (r := (rP (rK .i64) (rK .i64))) Try.underlying30 el119 rfl (tgpV zt0_0) h7 h67.wk Wt.no rfl rfl ex71 rfl ?_
        intro a72 c72 s73 m74 h72
        refine L.nil ?_
        refine X.dr (s := s73) (e' := (23, .slice a72 x71.length c72) :: e) (Sub.both (Kn.sup ⟨g4_, g10_, trivial⟩)) ⟨im.trans (m74.one (.inr rfl)), Sub.fresh ib rfl, i0, i1, i2, i3, i4, i5, i6, i7, i8, i9, fun z => let ⟨b67, q, h67⟩ := i10 z; ⟨b67, q, (h67.mono (m74.le (tgz zt0_0)))⟩, fun _ => ⟨a72, c72, rfl⟩, i12, i13, fun z2 => ((i14 z2).mv m74 nt0_t0_0), fun z => Bool.noConfusion ((hf 14 (Nat.le_of_ble_eq_true rfl) rfl).symm.trans z), fun z => Bool.noConfusion (show true = false from z), fun _ _ _ q11 => by cases (show some (.slice a72 x71.length c72 : Value) = some _ from q11); exact h72⟩
      · rintro D e s75 ⟨im, ib, i0, i1, i2, i3, i4, i5, i6, i7, i8, i9, i10, i11, i12, i13, i14, i15, i16, i17⟩ hk hf ha
        obtain ⟨d0, d1, d2, d3, d4, d5, d6, d7, d8, d9, d10, d11, -⟩ := ha
        have g0_ := i0 d0
        refine L.kns [(12, .pointer (some ⟨b2, 0, none⟩))] ⟨g0_, trivial⟩ ?_
        refine L.nc Wt.no rfl rfl ?_
        refine L.nil ?_
        refine X.dr (s := s75) (e' := (24, .pointer (some ⟨b2, 0, none⟩)) :: e) (Sub.both (Kn.sup ⟨g0_, trivial⟩)) ⟨im, Sub.fresh ib rfl, i0, i1, i2, i3, i4, i5, i6, i7, i8, i9, i10, i11, fun _ => rfl, i13, i14, i15, i16, i17⟩
      · rintro D e s76 ⟨im, ib, i0, i1, i2, i3, i4, i5, i6, i7, i8, i9, i10, i11, i12, i13, i14, i15, i16, i17⟩ hk hf ha
        obtain ⟨d0, d1, d2, d3, d4, d5, d6, d7, d8, d9, d10, d11, d12, -⟩ := ha
        have g12_ := i12 d12
        refine L.kns [(24, .pointer (some ⟨b2, 0, none⟩))] ⟨g12_, trivial⟩ ?_
        refine L.fa fa90_0 Wt.no rfl rfl ?_
        refine L.nil ?_
        refine X.dr (s := s76) (e' := (25, .pointer (some ⟨b2, 0, none⟩)) :: e) (Sub.both (Kn.sup ⟨g12_, trivial⟩)) ⟨im, Sub.fresh ib rfl, i0, i1, i2, i3, i4, i5, i6, i7, i8, i9, i10, i11, i12, fun _ => rfl, i14, i15, i16, i17⟩
      · rintro D e s77 ⟨im, ib, i0, i1, i2, i3, i4, i5, i6, i7, i8, i9, i10, i11, i12, i13, i14, i15, i16, i17⟩ hk hf ha
        obtain ⟨d0, d1, d2, d3, d4, d5, d6, d7, d8, d9, d10, d11, d12, d13, -⟩ := ha
        obtain ⟨a72, c72, g11_⟩ := i11 d11
        have g13_ := i13 d13
        obtain bx2 := i14 hk
        refine L.kns [(25, .pointer (some ⟨b2, 0, none⟩)), (23, .slice a72 x71.length c72)] ⟨g13_, g11_, trivial⟩ ?_
        refine L.st (c := [.slice a72 x71.length c72]) (cs' := #[.slice a72 x71.length c72, .int .i64 p0.2.1, .int .i64 p0.2.2]) bx2 nag30.sz Wt.no rfl rfl rfl rfl rfl (Nat.le_of_ble_eq_true rfl) rfl ?_
        intro s78 m79 bx2
        refine L.nil ?_
        refine X.dr (s := s78) (e' := e) (Kn.sup ⟨g13_, g11_, trivial⟩) ⟨im.trans (m79.one (.inl rfl)), ib, i0, i1, i2, i3, i4, i5, i6, i7, i8, i9, fun z => let ⟨b67, q, h67⟩ := i10 z; ⟨b67, q, (h67.mono (m79.le (tgz zt0)))⟩, i11, i12, i13, fun z => Bool.noConfusion (show true = false from z), fun _ _ _ q11 => by cases g11_.symm.trans q11; exact bx2, fun z2 => ((i16 z2).mv m79 nt0_0_t0 (tgz zt0)), fun z a72 c72 q11 => ((i17 z a72 c72 q11).mv m79 nt0_0_t0 (tgz zt0))⟩
    · rintro D e s80 hD ⟨im, ib, i0, i1, i2, i3, i4, i5, i6, i7, i8, i9, i10, i11, i12, i13, i14, i15, i16, i17⟩
      obtain ⟨a72, c72, g11_⟩ := i11 (hD 11 rfl)
      obtain bx2 := i15 (hD 14 rfl) a72 c72 g11_
      obtain h72 := i17 (hD 11 rfl) a72 c72 g11_
      have h3 := h3.mono (im.le (nor (tgz zt0) (tgz zt0_0)))
      have m0 := m0.trans (im.weak fun _ e => by rcases e with e | e; (rw [e]; exact (.inr (.inl rfl))); (rw [e]; exact (.inr (.inr rfl))))
      refine X.sub (e' := [(8, .int .i64 st43.1), (7, .int .i64 (p1.length : Int)), (6, .slice a3 p1.length c3), (0, .pointer (some ⟨b2, 0, none⟩))]) ?_ (Sub.cons (ib 8 _ rfl) (Sub.cons (ib 7 _ rfl) (Sub.cons (ib 6 _ rfl) (Sub.cons (ib 0 _ rfl) Sub.nil))))
      refine X.blkN ?_
      refine X.seqN ?_
      refine E.reg ?_
      refine L.bi Wt.no rfl rfl rfl rfl ?_
      refine L.mv Wt.no rfl rfl ?_
      refine L.nil ?_
      exact X.sub (ih43 _ (Option.some.inj hm).symm _ _ ⟨s80, a72, c72, m0, h3, h72, bx2, rfl, rfl⟩) (Sub.cons rfl (Sub.cons rfl (Sub.cons rfl (Sub.cons rfl Sub.nil))))
  · refine E.cF rfl hc ?_
    refine E.exit ?_
    refine X.seqX ?_
    refine X.seqX ?_
    have hx := ho43 _ (Option.some.inj hm).symm
    subst hx
    exact X.sub (K48 _ _ ⟨s46, a7, c7, m0, h7, bx2, rfl, rfl⟩) Sub.nil

end Go.Proofs.Ytkkemchihllklaa
