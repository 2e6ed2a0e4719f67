/- Parts of the proof, without what nothing here names. -/
import Derived.Test.YtidakgbibobbdaaGreatDoorProg
import Derived.Test.YtidakgbibobbdaaGreatDoorQz1
set_option maxRecDepth 100000
set_option maxHeartbeats 8000000
namespace Go.Proofs.YtidakgbibobbdaaGreatDoor
open Go Go.RowKit
theorem cells_one {v : Value} (h : v.oneCell' = true) : v.cells = #[v] := by cases v <;> first | rfl | cases h
theorem cells1 {v : Value} (h : v.oneCell' = true) : v.cells.toList = [v] := by rw [cells_one h]
section
variable {α : Type} {r : Rep α} {T : TypeId} {s s' : Sig} {v : Value} {x : Option α} {y : α}
def PtO (r : Rep α) (T : TypeId) (s : Sig) (v : Value) (x : Option α) : Prop := match x with
 | none => v = .pointer none
 | some y => ∃ b ds, v = .pointer (some ⟨b, 0, none⟩) ∧ Bx s 0 b ds.toArray T ∧ r.rd s ds y
theorem PtO.mono (h : PtO r T s v x) (hl : Le s s') : PtO r T s' v x := by
 cases x with
 | none => exact h
 | some y =>
  obtain ⟨b, ds, h1, h2, h3⟩ := h
  exact ⟨b, ds, h1, h2.le hl, r.mono hl h3⟩
theorem PtO.nil : PtO r T s (.pointer none) none := rfl
theorem PtO.mk {b : Nat} {cs : List Value} (h : Bx s 0 b cs.toArray T) (hr : r.rd s cs y) : PtO r T s (.pointer (some ⟨b, 0, none⟩)) (some y) := ⟨b, cs, rfl, h, hr⟩
theorem PtO.some (h : PtO r T s v x) (e : x = some y) : ∃ b ds, v = .pointer (some ⟨b, 0, none⟩) ∧ Bx s 0 b ds.toArray T ∧ r.rd s ds y := by
 subst e; exact h
theorem PtO.one (h : PtO r T s v x) : v.oneCell' = true := by
 cases x with
 | none => rw [show v = .pointer none from h]; rfl
 | some y => obtain ⟨b, ds, rfl, _⟩ := h; rfl
end
def encI (x : Int) : List Value := [.int .i64 x]
def kvI (x : Int) : Value := .int .i64 x
theorem eqI {k k' : Int} (h : (k == k') = true) : k = k' := by simpa using h
theorem KeysG.findI {kt : TypeId} : ∀ {es : List MapEntry} {ks : List Int} (i0 : Nat), KeysG kvI es ks → ∀ k, Instr.findNow (.int .i64) (kvI k) es i0 = some ((es[kidx ks k]?).map fun e => (i0 + kidx ks k, e.val))
 | [], [], _, _, _ => rfl
 | e :: es, p :: ks, i0, h, k => by
  rw [kidx_cons]
  simp only [Instr.findNow, h.1, kvI, Instr.sameNow, if_true]
  cases hp : k == p with
  | true => rfl
  | false =>
   dsimp only
   rw [show Value.int .i64 k = kvI k from rfl, KeysG.findI (kt := kt) (i0 + 1) h.2 k, if_neg (by simp), List.getElem?_cons_succ]
   cases es[kidx ks k]? with
   | none => rfl
   | some f => simp only [Option.map_some]; rw [show i0 + 1 + kidx ks k = i0 + (kidx ks k + 1) by omega]
 | [], _ :: _, _, h, _ => h.elim
 | _ :: _, [], _, h, _ => h.elim
theorem KE.int {P : Program} {kt : TypeId} (hu : P.underlying kt = some (.int .i64)) : KE P kt kvI := by
 refine ⟨fun em k w => ?_, fun es ks h k w => ?_, fun k k' w h => ?_⟩
 ·unfold Instr.checkKey
  simp only [Sem.run_bind, run_underlying hu, Result.andThen]
  rfl
 ·have := KeysG.findI (kt := kt) 0 h k
  simp only [Nat.zero_add] at this
  simp [Instr.findKey, run_underlying hu, this]
 ·have h1 : k = k' := eqI h
  subst h1
  simp [Instr.keyThatStays, Instr.sameBits, kvI]
def FS1 {α β : Type} (P : Program) (s : Sig) (v : Value) (r : Rep α) (res : β → Value) (m : α → Option β) : Prop :=
 ∃ f fst cap, v = .func (.func f) fst cap ∧ (∀ args w, (callFunc f args).run P w = .ok (.enter f args) w) ∧ ∀ x y, m x = some y → ∀ s', Le s s' → ∀ cs, r.rd s' cs x → Calls P f (fst ++ cs.toArray ++ cap) s'.w (RetS No s' fun v' _ => v' = res y)
theorem FS1.mono {α β : Type} {P : Program} {s s' : Sig} {v : Value} {r : Rep α} {res : β → Value} {m : α → Option β} (h : FS1 P s v r res m) (hl : Le s s') : FS1 P s' v r res m := by
 obtain ⟨f, fst, cap, h1, h2, h3⟩ := h
 exact ⟨f, fst, cap, h1, h2, fun x r hm s'' hl' => h3 x r hm s'' (hl.trans hl')⟩
theorem L.fs1 {α β : Type} {Φ : Fr} {P : Program} {Q : Exit → Act → World → Prop} {n : Nat} {e : List (Nat × Value)} {s : Sig} {ops : Array Oper} {os : List Oper} {d : Nat} {ty : TypeId} {pos : String} {af : Array Edge} {g : Option (Nat × Bool)}
  {x xo : Operand} {v : Value} {rr : Rep α} {res : β → Value} {m : α → Option β} {u : Value} {y : α} {r : β} {c : Call} (hF : FS1 P s v rr res m) (hrd : rr.rd s [u] y) (hc : c.callee = .value x) (hca : c.args = [xo].toArray) (hw : Wt ops e g)
  (hx : Env.ev e x = some v) (hxs : Env.evs e [xo] = some [u]) (hm : m y = some r) (hd : Nat.blt d n = true) (h : ∀ s', Mv No s s' → L Φ P Q n ops os ((d, res r) :: e) s'.w) : L Φ P Q n ops (⟨some d, .call c, ty, pos, af, g⟩ :: os) e s.w := by
 obtain ⟨f, fst, cap, rfl, h2, h3⟩ := hF
 exact L.fvc h2 hc hca hw hx hxs (h3 y r hm s (Le.refl _) [u] hrd) hd fun v s' m h' => by subst h'; exact h s' m
section
variable {Φ : Fr} {P : Program} {Q : Exit → Act → World → Prop} {n : Nat} {e : List (Nat × Value)} {w : World} {ops : Array Oper} {os : List Oper} {d : Nat} {ty : TypeId} {pos : String} {af : Array Edge} {g : Option (Nat × Bool)}
theorem L.flg {S : TypeId} {x : Operand} {f o m : Nat} {fs : Array Field} {fd : Field} {cs vs : List Value} (hS : P.underlying S = some (.struct fs)) (hf : fs[f]? = some fd) (ho : fd.offset = o) (hT : Ag P fd.type m) (hw : Wt ops e g) (hx : Env.ev e x = some (.agg cs.toArray)) (hv : (cs.drop o).take m = vs) (hd : Nat.blt d n = true)
  (h : L Φ P Q n ops os ((d, .agg vs.toArray) :: e) w) : L Φ P Q n ops (⟨some d, .field S x f, ty, pos, af, g⟩ :: os) e w :=
 L.val hw hd (fun a ha => by
  subst ho
  subst hv
  have hp : (part fd.type cs.toArray fd.offset).run P w = .ok (.agg ((cs.drop fd.offset).take m).toArray) w := by
   simp [part, hT.agg w, hT.sz w, List.extract_toArray, List.extract_eq_drop_take']
  have hag : (asAgg (.agg cs.toArray)).run P w = .ok cs.toArray w := rfl
  simp [execOp, ha.ev hx, Instr.field, run_underlying hS, hf, hag, hp]) h
end
end Go.Proofs.YtidakgbibobbdaaGreatDoor

namespace Go.Proofs.YtidakgbibobbdaaGreatDoor
open Go Go.RowKit
theorem vlNi : NAg Tryz.prog 22 := NAg.mk' Tryz.underlying22 rfl (by kernel_rfl)
theorem vlNn : NAg Tryz.prog 3 := NAg.mk' Tryz.underlying3 rfl (by kernel_rfl)
theorem vlSi : Sl Tryz.prog 22 3 1 := Sl.mk' Tryz.underlying22 (by kernel_rfl)
theorem vlCf : Cf Tryz.prog 148 := Cf.mk Tryz.func148 (by kernel_rfl) (by kernel_rfl)
def m_slices_Values_int (p0 : List Int) : Option (List Int) := if p0.length ≤ 4294967296 then some p0 else none
theorem values1_fi {s : Sig} {q0 : List Int} {a1 : Option Addr} {c1 : Nat} {b2 : Nat} (h1 : RdL (rK .i64) s a1 c1 q0) (bx2 : Bx s 0 b2 #[.slice a1 q0.length c1] 22) (hlen : q0.length ≤ 4294967296) :
    FI Tryz.prog s (.func (.func 148) #[] #[.pointer (some ⟨b2, 0, none⟩)]) q0.length (fun k => encI (q0.getD k 0)) := by
 refine ⟨148, #[.pointer (some ⟨b2, 0, none⟩)], rfl, vlCf, fun l J s1 hle hcl hY h0 => ?_⟩
 replace h1 := h1.mono hle
 replace bx2 := bx2.le hle
 have hW : ∀ i : Nat, i < 4294967296 → W ((i : Int) + 1) = ((i + 1 : Nat) : Int) := fun i hi => by rw [show W ((i : Int) + 1) = (i : Int) + 1 from IntWalk.i64_in _ (by omega)]; rfl
 obtain ⟨f, hf⟩ : ∃ f : Int → Option (Int ⊕ Unit), f = fun i => if decide (i < (q0.length : Int)) then some (.inl (W (i + 1))) else some (.inr ()) := ⟨_, rfl⟩
 have hit : iter f 0 = some () := by
  refine iter_run (fun i => (i : Int)) q0.length (by omega) (fun i hi => ?_) ?_
  · rw [hf]
    show (if decide ((i : Int) < (q0.length : Int)) then some (Sum.inl (W ((i : Int) + 1))) else some (Sum.inr ())) = some (Sum.inl (((i + 1 : Nat) : Int)))
    rw [if_pos (by simpa using hi), hW i (by omega)]
  · rw [hf]
    show (if decide ((q0.length : Int) < (q0.length : Int)) then some (Sum.inl (W ((q0.length : Int) + 1))) else some (Sum.inr ())) = some (Sum.inr ())
    rw [if_neg (by simp)]
 refine E.entry (vs := [.func (.yield l) #[] #[], .pointer (some ⟨b2, 0, none⟩)]) Tryz.func148 rfl Tryz.ntmps148 rfl rfl (E.seq (E.reg (L.ld (j := 0) bx2.mem vlNi Wt.no rfl rfl rfl rfl (L.len vlSi Wt.no rfl rfl (L.mv Wt.no rfl rfl (L.nil (X.seqN (E.block ?_))))))))
 refine E.cut (x := .exit 0) (fun e w => ∃ (s46 : Sig), J q0.length s46 ∧ e = [] ∧ w = s46.w) ?_ ?_
 · rintro _ _ ⟨s46, hJ, rfl, rfl⟩
   refine X.blkE ?_
   exact X.rt (.inr rfl) Tryz.results148 Rs.nil rfl ⟨⟨_, rfl⟩, s46, rfl, hJ⟩
 intro K47
 refine E.iter (fun (st43 : Int) (e : List (Nat × Value)) (w : World) => ∃ (k : Nat) (s44 : Sig), st43 = (k : Int) ∧ k ≤ q0.length ∧ J k s44 ∧ RdL (rK .i64) s44 a1 c1 q0 ∧ e = [(7, .int .i64 st43), (6, .int .i64 (q0.length : Int)), (5, .slice a1 q0.length c1), (0, .func (.yield l) #[] #[])] ∧ w = s44.w) hit ⟨0, s1, rfl, Nat.zero_le _, h0, h1, rfl, rfl⟩ (Sub.rf rfl) ?_
 rintro st43 res43 hm ih43 ho43 _ _ ⟨k, s44, rfl, hk, hJ, h1, rfl, rfl⟩
 rw [hf] at hm
 refine E.seq (E.reg (L.bi Wt.no rfl rfl rfl rfl (L.nil (X.seqN (E.seq ?_)))))
 rcases ifS hm with ⟨hc, hm⟩ | ⟨hc, hm⟩
 · refine E.cT rfl hc (E.skip (X.seqN (E.seq (E.block (E.seq (E.reg ?_))))))
   have hk2 : k < q0.length := by simpa using hc
   have ex18 : idx q0 (k : Int) = some q0[k] := by unfold idx; rw [if_pos (by omega), Int.toNat_natCast, List.getElem?_eq_getElem hk2]
   have henc : [Value.int .i64 q0[k]] = encI (q0.getD k 0) := by rw [List.getD_eq_getElem?_getD, List.getElem?_eq_getElem hk2]; rfl
   generalize q0[k] = x18 at ex18 henc
   refine L.ix (r := (rK .i64)) vlSi h1 Wt.no rfl rfl ex18 rfl fun b19 o19 cc19 me19 rd19 => ?_
   obtain rfl := rd19
   refine L.ld (j := 0) me19 vlNn Wt.no rfl rfl rfl rfl (L.as Wt.no rfl rfl (L.nil (X.seqN (E.seq (E.reg (L.mv Wt.no rfl rfl (L.mv Wt.no rfl rfl ?_)))))))
   refine L.yd (x := .tmp 11) (xs := [.tmp 12]) hY hk2 hJ rfl rfl Wt.no rfl (by rw [← henc]; rfl) rfl fun s59 hle59 hJ => ?_
   have h1 := h1.mono hle59
   refine L.not Wt.no rfl rfl (L.nil (X.seqN (E.cF rfl rfl (E.skip (X.blkN (X.seqN (E.reg (L.bi Wt.no rfl rfl rfl rfl (L.mv Wt.no rfl rfl (L.nil (X.sub (ih43 _ (Option.some.inj hm).symm _ _ ⟨k + 1, s59, ?_, hk2, hJ, h1, rfl, rfl⟩) (Sub.rf rfl))))))))))))
   exact hW k (by omega)
 refine E.cF rfl hc (E.exit (X.seqX (X.seqX ?_)))
 have hkl : k = q0.length := by simp at hc; omega
 subst hkl
 exact X.sub (K47 _ _ ⟨s44, hJ, rfl, rfl⟩) Sub.nil
theorem m_slices_Values_int_c {s : Sig} {p0 : List Int} {a1 : Option Addr} {c1 : Nat} {r : List Int} (h1 : RdL (rK .i64) s a1 c1 p0) (hm : m_slices_Values_int p0 = some r) :
    Calls Tryz.prog 109 #[.slice a1 p0.length c1] s.w (RetS No s fun v s' => FI Tryz.prog s' v r.length (fun k => encI (r.getD k 0))) := by
 obtain ⟨hlen, rfl⟩ : p0.length ≤ 4294967296 ∧ p0 = r := by
  unfold m_slices_Values_int at hm
  split at hm
  · exact ⟨by assumption, Option.some.inj hm⟩
  · cases hm
 obtain ⟨N, hN, hNb⟩ := s.fresh
 have m0 : Mv (Up N No) s s := Mv.refl _ _
 refine E.entry (vs := [.slice a1 p0.length c1]) Tryz.func109 rfl Tryz.ntmps109 rfl rfl (E.seq (E.reg (L.box (N + 0) Wt.no rfl rfl rfl fun b1 s2 m3 bx1 => ?_)))
 replace m0 := m0.trans m3.no
 replace h1 := h1.mono (m3.le no_No)
 refine L.as Wt.no rfl rfl (L.nil (X.seqN (E.seq (E.reg (L.mf Wt.no rfl rfl rfl (L.as Wt.no rfl rfl (L.nil (X.seqN (E.ret ?_)))))))))
 refine X.rt (.inl rfl) Tryz.results109 (Rs.tmp rfl Rs.nil) rfl ⟨_, s2.ren N (fun _ => 0), rfl, rfl, m0.ren hNb, ?_⟩
 have hr : ∀ {k b : Nat} {cs : Array Value} {T : TypeId}, Bx s2 (N + k) b cs T → Bx (s2.ren N (fun _ => 0)) 0 b cs T := fun h => ⟨h.heap, by simp [Sig.ren, h.htag]⟩
 exact values1_fi (h1.ren hN) (hr bx1) hlen
end Go.Proofs.YtidakgbibobbdaaGreatDoor

namespace Go.Proofs.YtidakgbibobbdaaGreatDoor
open Go Go.RowKit
theorem ag25 : Ag Tryz.prog 25 4 := Ag.mk' Tryz.underlying25 rfl (by kernel_rfl)
theorem ag27 : Ag Tryz.prog 27 9 := Ag.mk' Tryz.underlying27 rfl (by kernel_rfl)
theorem bs22 : Bs Tryz.prog 22 3 1 [.int .i64 0] := Bs.mk' Tryz.underlying22 (by kernel_rfl) (by kernel_rfl) rfl
theorem bs23 : Bs Tryz.prog 23 97 3 [.int .i64 0, .int .i64 0, .int .i64 0] := Bs.mk' Tryz.underlying23 (by kernel_rfl) (by kernel_rfl) rfl
theorem el3 : El Tryz.prog 3 1 8 := El.mk' (z := .int .i64 0) (by kernel_rfl) (by kernel_rfl) (by kernel_rfl) rfl
theorem el97 : El Tryz.prog 97 3 24 := El.mk' (z := .agg #[.int .i64 0, .int .i64 0, .int .i64 0]) (by kernel_rfl) (by kernel_rfl) (by kernel_rfl) rfl
theorem pl25 : Pl Tryz.prog 25 [(0, 1), (1, 1), (2, 1), (3, 1)] [.slice none 0 0, .int .i64 0, .slice none 0 0, .slice none 0 0] := Pl.str Tryz.underlying25 (by kernel_rfl) (by kernel_rfl)
theorem pl27 : Pl Tryz.prog 27 [(0, 4), (4, 4), (8, 1)] [.slice none 0 0, .int .i64 0, .slice none 0 0, .slice none 0 0, .slice none 0 0, .int .i64 0, .slice none 0 0, .slice none 0 0, .slice none 0 0] := Pl.str Tryz.underlying27 (by kernel_rfl) (by kernel_rfl)
theorem pl97 : Pl Tryz.prog 97 [(0, 1), (1, 1), (2, 1)] [.int .i64 0, .int .i64 0, .int .i64 0] := Pl.str Tryz.underlying97 (by kernel_rfl) (by kernel_rfl)
theorem zz25 : (Tryz.prog.info? 25).bind (·.zero) = some (.agg #[.slice none 0 0, .int .i64 0, .slice none 0 0, .slice none 0 0]) := by kernel_rfl
theorem zz27 : (Tryz.prog.info? 27).bind (·.zero) = some (.agg #[.slice none 0 0, .int .i64 0, .slice none 0 0, .slice none 0 0, .slice none 0 0, .int .i64 0, .slice none 0 0, .slice none 0 0, .slice none 0 0]) := by kernel_rfl
noncomputable def m_overseerlaw54_race : Option (AutT × AutT × List Int) :=
 some ((([0, 1] : List Int), 4, ([3] : List Int), ([(0, 0, 1), (0, 1, 2), (1, 1, 3), (2, 0, 3)] : List (Int × Int × Int))), (([0, 1] : List Int), 5, ([3, 4] : List Int), ([(0, 0, 1), (0, 1, 2), (1, 1, 3), (2, 0, 4)] : List (Int × Int × Int))), ([0, 1] : List Int))
theorem m_overseerlaw54_race_c {s : Sig} {r : (AutT × AutT × List Int)} (hm : m_overseerlaw54_race = some r) :
    Calls Tryz.prog 50 #[] s.w (RetS No s fun v s' => ∃ (a1 : Option Addr) (c1 : Nat) (a2 : Option Addr) (c2 : Nat) (a3 : Option Addr) (c3 : Nat) (a4 : Option Addr) (c4 : Nat) (a5 : Option Addr) (c5 : Nat) (a6 : Option Addr) (c6 : Nat) (a7 : Option Addr) (c7 : Nat), v = .agg #[.slice a1 r.1.1.length c1, .int .i64 r.1.2.1, .slice a2 r.1.2.2.1.length c2, .slice a3 r.1.2.2.2.length c3, .slice a4 r.2.1.1.length c4, .int .i64 r.2.1.2.1, .slice a5 r.2.1.2.2.1.length c5, .slice a6 r.2.1.2.2.2.length c6, .slice a7 r.2.2.length c7] ∧ RdL qI s' a1 c1 r.1.1 ∧ RdL qI s' a2 c2 r.1.2.2.1 ∧ RdL qT s' a3 c3 r.1.2.2.2 ∧ RdL qI s' a4 c4 r.2.1.1 ∧ RdL qI s' a5 c5 r.2.1.2.2.1 ∧ RdL qT s' a6 c6 r.2.1.2.2.2 ∧ RdL qI s' a7 c7 r.2.2) := by
 unfold m_overseerlaw54_race at hm
 obtain ⟨N, hN, hNb⟩ := s.fresh
 have m0 : Mv (Up N No) s s := Mv.refl _ _
 refine E.entry Tryz.func50 R Tryz.ntmps50 R R (ER (L.al (N + 0) zz27 R Y R fun b8 s9 m10 bx8 => ?_))
 refine LN (ER (L.bsE (k := 2) (cs := [.int .i64 0, .int .i64 1]) 0 bs22 (nb R) Y R R R R fun b11 s12 m13 bx11 => ?_))
 have h11 := Bx.rdL (r := qI) (xs := ([0, 1] : List Int)) bx11 ⟨[.int .i64 0], _, R, R, ⟨[.int .i64 1], _, R, R, R⟩⟩ (nb R)
 refine L.bsE (k := 1) (cs := [.int .i64 3]) 0 bs22 (nb R) Y R R R R fun b14 s15 m16 bx14 => ?_
 have h14 := Bx.rdL (r := qI) (xs := ([3] : List Int)) bx14 ⟨[.int .i64 3], _, R, R, R⟩ (nb R)
 refine L.bu (cs := [.int .i64 0, .int .i64 0, .int .i64 1]) pl97 Y R R R (L.bu (cs := [.int .i64 0, .int .i64 1, .int .i64 2]) pl97 Y R R R (L.bu (cs := [.int .i64 1, .int .i64 1, .int .i64 3]) pl97 Y R R R (L.bu (cs := [.int .i64 2, .int .i64 0, .int .i64 3]) pl97 Y R R R (L.bsE (k := 4) (cs := [.int .i64 0, .int .i64 0, .int .i64 1, .int .i64 0, .int .i64 1, .int .i64 2, .int .i64 1, .int .i64 1, .int .i64 3, .int .i64 2, .int .i64 0, .int .i64 3]) 0 bs23 (nb R) Y R R R R fun b17 s18 m19 bx17 => ?_))))
 have h17 := Bx.rdL (r := qT) (xs := ([(0, 0, 1), (0, 1, 2), (1, 1, 3), (2, 0, 3)] : List (Int × Int × Int))) bx17 ⟨[.int .i64 0, .int .i64 0, .int .i64 1], _, R, ⟨[.int .i64 0], [.int .i64 0, .int .i64 1], R, R, ⟨[.int .i64 0], [.int .i64 1], R, R, R⟩⟩, ⟨[.int .i64 0, .int .i64 1, .int .i64 2], _, R, ⟨[.int .i64 0], [.int .i64 1, .int .i64 2], R, R, ⟨[.int .i64 1], [.int .i64 2], R, R, R⟩⟩, ⟨[.int .i64 1, .int .i64 1, .int .i64 3], _, R, ⟨[.int .i64 1], [.int .i64 1, .int .i64 3], R, R, ⟨[.int .i64 1], [.int .i64 3], R, R, R⟩⟩, ⟨[.int .i64 2, .int .i64 0, .int .i64 3], _, R, ⟨[.int .i64 2], [.int .i64 0, .int .i64 3], R, R, ⟨[.int .i64 0], [.int .i64 3], R, R, R⟩⟩, R⟩⟩⟩⟩ (nb R)
 refine L.bu (cs := [.slice (some ⟨b11, 0, none⟩) ([0, 1] : List Int).length (([0, 1] : List Int).length), .int .i64 4, .slice (some ⟨b14, 0, none⟩) ([3] : List Int).length (([3] : List Int).length), .slice (some ⟨b17, 0, none⟩) ([(0, 0, 1), (0, 1, 2), (1, 1, 3), (2, 0, 3)] : List (Int × Int × Int)).length (([(0, 0, 1), (0, 1, 2), (1, 1, 3), (2, 0, 3)] : List (Int × Int × Int)).length)]) pl25 Y R R R (L.al (N + 1) zz25 R Y R fun b20 s21 m22 bx20 => ?_)
 refine L.st (c := [.slice (some ⟨b11, 0, none⟩) ([0, 1] : List Int).length (([0, 1] : List Int).length), .int .i64 4, .slice (some ⟨b14, 0, none⟩) ([3] : List Int).length (([3] : List Int).length), .slice (some ⟨b17, 0, none⟩) ([(0, 0, 1), (0, 1, 2), (1, 1, 3), (2, 0, 3)] : List (Int × Int × Int)).length (([(0, 0, 1), (0, 1, 2), (1, 1, 3), (2, 0, 3)] : List (Int × Int × Int)).length)]) (cs' := #[.slice (some ⟨b11, 0, none⟩) ([0, 1] : List Int).length (([0, 1] : List Int).length), .int .i64 4, .slice (some ⟨b14, 0, none⟩) ([3] : List Int).length (([3] : List Int).length), .slice (some ⟨b17, 0, none⟩) ([(0, 0, 1), (0, 1, 2), (1, 1, 3), (2, 0, 3)] : List (Int × Int × Int)).length (([(0, 0, 1), (0, 1, 2), (1, 1, 3), (2, 0, 3)] : List (Int × Int × Int)).length)]) bx20 ag25.sz Y R R R R R (nb R) R fun s23 m24 bx20 => ?_
 refine LN (ER (L.bsE (k := 2) (cs := [.int .i64 0, .int .i64 1]) 0 bs22 (nb R) Y R R R R fun b25 s26 m27 bx25 => ?_))
 have h25 := Bx.rdL (r := qI) (xs := ([0, 1] : List Int)) bx25 ⟨[.int .i64 0], _, R, R, ⟨[.int .i64 1], _, R, R, R⟩⟩ (nb R)
 refine L.bsE (k := 2) (cs := [.int .i64 3, .int .i64 4]) 0 bs22 (nb R) Y R R R R fun b28 s29 m30 bx28 => ?_
 have h28 := Bx.rdL (r := qI) (xs := ([3, 4] : List Int)) bx28 ⟨[.int .i64 3], _, R, R, ⟨[.int .i64 4], _, R, R, R⟩⟩ (nb R)
 refine L.bu (cs := [.int .i64 0, .int .i64 0, .int .i64 1]) pl97 Y R R R (L.bu (cs := [.int .i64 0, .int .i64 1, .int .i64 2]) pl97 Y R R R (L.bu (cs := [.int .i64 1, .int .i64 1, .int .i64 3]) pl97 Y R R R (L.bu (cs := [.int .i64 2, .int .i64 0, .int .i64 4]) pl97 Y R R R (L.bsE (k := 4) (cs := [.int .i64 0, .int .i64 0, .int .i64 1, .int .i64 0, .int .i64 1, .int .i64 2, .int .i64 1, .int .i64 1, .int .i64 3, .int .i64 2, .int .i64 0, .int .i64 4]) 0 bs23 (nb R) Y R R R R fun b31 s32 m33 bx31 => ?_))))
 have h31 := Bx.rdL (r := qT) (xs := ([(0, 0, 1), (0, 1, 2), (1, 1, 3), (2, 0, 4)] : List (Int × Int × Int))) bx31 ⟨[.int .i64 0, .int .i64 0, .int .i64 1], _, R, ⟨[.int .i64 0], [.int .i64 0, .int .i64 1], R, R, ⟨[.int .i64 0], [.int .i64 1], R, R, R⟩⟩, ⟨[.int .i64 0, .int .i64 1, .int .i64 2], _, R, ⟨[.int .i64 0], [.int .i64 1, .int .i64 2], R, R, ⟨[.int .i64 1], [.int .i64 2], R, R, R⟩⟩, ⟨[.int .i64 1, .int .i64 1, .int .i64 3], _, R, ⟨[.int .i64 1], [.int .i64 1, .int .i64 3], R, R, ⟨[.int .i64 1], [.int .i64 3], R, R, R⟩⟩, ⟨[.int .i64 2, .int .i64 0, .int .i64 4], _, R, ⟨[.int .i64 2], [.int .i64 0, .int .i64 4], R, R, ⟨[.int .i64 0], [.int .i64 4], R, R, R⟩⟩, R⟩⟩⟩⟩ (nb R)
 refine L.bu (cs := [.slice (some ⟨b25, 0, none⟩) ([0, 1] : List Int).length (([0, 1] : List Int).length), .int .i64 5, .slice (some ⟨b28, 0, none⟩) ([3, 4] : List Int).length (([3, 4] : List Int).length), .slice (some ⟨b31, 0, none⟩) ([(0, 0, 1), (0, 1, 2), (1, 1, 3), (2, 0, 4)] : List (Int × Int × Int)).length (([(0, 0, 1), (0, 1, 2), (1, 1, 3), (2, 0, 4)] : List (Int × Int × Int)).length)]) pl25 Y R R R (L.al (N + 2) zz25 R Y R fun b34 s35 m36 bx34 => ?_)
 refine L.st (c := [.slice (some ⟨b25, 0, none⟩) ([0, 1] : List Int).length (([0, 1] : List Int).length), .int .i64 5, .slice (some ⟨b28, 0, none⟩) ([3, 4] : List Int).length (([3, 4] : List Int).length), .slice (some ⟨b31, 0, none⟩) ([(0, 0, 1), (0, 1, 2), (1, 1, 3), (2, 0, 4)] : List (Int × Int × Int)).length (([(0, 0, 1), (0, 1, 2), (1, 1, 3), (2, 0, 4)] : List (Int × Int × Int)).length)]) (cs' := #[.slice (some ⟨b25, 0, none⟩) ([0, 1] : List Int).length (([0, 1] : List Int).length), .int .i64 5, .slice (some ⟨b28, 0, none⟩) ([3, 4] : List Int).length (([3, 4] : List Int).length), .slice (some ⟨b31, 0, none⟩) ([(0, 0, 1), (0, 1, 2), (1, 1, 3), (2, 0, 4)] : List (Int × Int × Int)).length (([(0, 0, 1), (0, 1, 2), (1, 1, 3), (2, 0, 4)] : List (Int × Int × Int)).length)]) bx34 ag25.sz Y R R R R R (nb R) R fun s37 m38 bx34 => ?_
 replace bx20 := ((((bx20.mv m27 no_No).mv m30 no_No).mv m33 no_No).mv m36 no_No).mv m38 (tq R)
 refine LN (ER (L.lg (j := 0) (cs := [.slice (some ⟨b11, 0, none⟩) ([0, 1] : List Int).length (([0, 1] : List Int).length), .int .i64 4, .slice (some ⟨b14, 0, none⟩) ([3] : List Int).length (([3] : List Int).length), .slice (some ⟨b17, 0, none⟩) ([(0, 0, 1), (0, 1, 2), (1, 1, 3), (2, 0, 3)] : List (Int × Int × Int)).length (([(0, 0, 1), (0, 1, 2), (1, 1, 3), (2, 0, 3)] : List (Int × Int × Int)).length)]) bx20.mem ag25 Y R R R R R (L.lg (j := 0) (cs := [.slice (some ⟨b25, 0, none⟩) ([0, 1] : List Int).length (([0, 1] : List Int).length), .int .i64 5, .slice (some ⟨b28, 0, none⟩) ([3, 4] : List Int).length (([3, 4] : List Int).length), .slice (some ⟨b31, 0, none⟩) ([(0, 0, 1), (0, 1, 2), (1, 1, 3), (2, 0, 4)] : List (Int × Int × Int)).length (([(0, 0, 1), (0, 1, 2), (1, 1, 3), (2, 0, 4)] : List (Int × Int × Int)).length)]) bx34.mem ag25 Y R R R R R (L.bsE (k := 2) (cs := [.int .i64 0, .int .i64 1]) 0 bs22 (nb R) Y R R R R fun b39 s40 m41 bx39 => ?_))))
 replace bx8 := ((((((((((bx8.mv m13 no_No).mv m16 no_No).mv m19 no_No).mv m22 no_No).mv m24 (tq R)).mv m27 no_No).mv m30 no_No).mv m33 no_No).mv m36 no_No).mv m38 (tq R)).mv m41 no_No
 have h39 := Bx.rdL (r := qI) (xs := ([0, 1] : List Int)) bx39 ⟨[.int .i64 0], _, R, R, ⟨[.int .i64 1], _, R, R, R⟩⟩ (nb R)
 refine L.bu (cs := [.slice (some ⟨b11, 0, none⟩) ([0, 1] : List Int).length (([0, 1] : List Int).length), .int .i64 4, .slice (some ⟨b14, 0, none⟩) ([3] : List Int).length (([3] : List Int).length), .slice (some ⟨b17, 0, none⟩) ([(0, 0, 1), (0, 1, 2), (1, 1, 3), (2, 0, 3)] : List (Int × Int × Int)).length (([(0, 0, 1), (0, 1, 2), (1, 1, 3), (2, 0, 3)] : List (Int × Int × Int)).length), .slice (some ⟨b25, 0, none⟩) ([0, 1] : List Int).length (([0, 1] : List Int).length), .int .i64 5, .slice (some ⟨b28, 0, none⟩) ([3, 4] : List Int).length (([3, 4] : List Int).length), .slice (some ⟨b31, 0, none⟩) ([(0, 0, 1), (0, 1, 2), (1, 1, 3), (2, 0, 4)] : List (Int × Int × Int)).length (([(0, 0, 1), (0, 1, 2), (1, 1, 3), (2, 0, 4)] : List (Int × Int × Int)).length), .slice (some ⟨b39, 0, none⟩) ([0, 1] : List Int).length (([0, 1] : List Int).length)]) pl27 Y R R R (L.st (c := [.slice (some ⟨b11, 0, none⟩) ([0, 1] : List Int).length (([0, 1] : List Int).length), .int .i64 4, .slice (some ⟨b14, 0, none⟩) ([3] : List Int).length (([3] : List Int).length), .slice (some ⟨b17, 0, none⟩) ([(0, 0, 1), (0, 1, 2), (1, 1, 3), (2, 0, 3)] : List (Int × Int × Int)).length (([(0, 0, 1), (0, 1, 2), (1, 1, 3), (2, 0, 3)] : List (Int × Int × Int)).length), .slice (some ⟨b25, 0, none⟩) ([0, 1] : List Int).length (([0, 1] : List Int).length), .int .i64 5, .slice (some ⟨b28, 0, none⟩) ([3, 4] : List Int).length (([3, 4] : List Int).length), .slice (some ⟨b31, 0, none⟩) ([(0, 0, 1), (0, 1, 2), (1, 1, 3), (2, 0, 4)] : List (Int × Int × Int)).length (([(0, 0, 1), (0, 1, 2), (1, 1, 3), (2, 0, 4)] : List (Int × Int × Int)).length), .slice (some ⟨b39, 0, none⟩) ([0, 1] : List Int).length (([0, 1] : List Int).length)]) (cs' := #[.slice (some ⟨b11, 0, none⟩) ([0, 1] : List Int).length (([0, 1] : List Int).length), .int .i64 4, .slice (some ⟨b14, 0, none⟩) ([3] : List Int).length (([3] : List Int).length), .slice (some ⟨b17, 0, none⟩) ([(0, 0, 1), (0, 1, 2), (1, 1, 3), (2, 0, 3)] : List (Int × Int × Int)).length (([(0, 0, 1), (0, 1, 2), (1, 1, 3), (2, 0, 3)] : List (Int × Int × Int)).length), .slice (some ⟨b25, 0, none⟩) ([0, 1] : List Int).length (([0, 1] : List Int).length), .int .i64 5, .slice (some ⟨b28, 0, none⟩) ([3, 4] : List Int).length (([3, 4] : List Int).length), .slice (some ⟨b31, 0, none⟩) ([(0, 0, 1), (0, 1, 2), (1, 1, 3), (2, 0, 4)] : List (Int × Int × Int)).length (([(0, 0, 1), (0, 1, 2), (1, 1, 3), (2, 0, 4)] : List (Int × Int × Int)).length), .slice (some ⟨b39, 0, none⟩) ([0, 1] : List Int).length (([0, 1] : List Int).length)]) bx8 ag27.sz Y R R R R R (nb R) R fun s42 m43 bx8 => ?_)
 replace m0 := ((((((((((((m0.trans m10.no).trans m13.no).trans m16.no).trans m19.no).trans m22.no).trans (m24.one up)).trans m27.no).trans m30.no).trans m33.no).trans m36.no).trans (m38.one up)).trans m41.no).trans (m43.one up)
 replace h11 := ((((((((((h11.mono m16.z).mono m19.z).mono m22.z).mono (m24.le (tg0 hN))).mono m27.z).mono m30.z).mono m33.z).mono m36.z).mono (m38.le (tg0 hN))).mono m41.z).mono (m43.le (tg0 hN))
 replace h14 := (((((((((h14.mono m19.z).mono m22.z).mono (m24.le (tg0 hN))).mono m27.z).mono m30.z).mono m33.z).mono m36.z).mono (m38.le (tg0 hN))).mono m41.z).mono (m43.le (tg0 hN))
 replace h17 := ((((((((h17.mono m22.z).mono (m24.le (tg0 hN))).mono m27.z).mono m30.z).mono m33.z).mono m36.z).mono (m38.le (tg0 hN))).mono m41.z).mono (m43.le (tg0 hN))
 replace h25 := (((((h25.mono m30.z).mono m33.z).mono m36.z).mono (m38.le (tg0 hN))).mono m41.z).mono (m43.le (tg0 hN))
 replace h28 := ((((h28.mono m33.z).mono m36.z).mono (m38.le (tg0 hN))).mono m41.z).mono (m43.le (tg0 hN))
 replace h31 := (((h31.mono m36.z).mono (m38.le (tg0 hN))).mono m41.z).mono (m43.le (tg0 hN))
 replace h39 := h39.mono (m43.le (tg0 hN))
 refine LN (E.ret ?_)
 obtain rfl := oi hm
 exact X.rt (.inl R) Tryz.results50 (Rs.cell R bx8 ag27 R Rs.nil) R ⟨_, (s42).ren N (fun _ => 0), R, R, m0.ren hNb, ⟨(some ⟨b11, 0, none⟩), ([0, 1] : List Int).length, (some ⟨b14, 0, none⟩), ([3] : List Int).length, (some ⟨b17, 0, none⟩), ([(0, 0, 1), (0, 1, 2), (1, 1, 3), (2, 0, 3)] : List (Int × Int × Int)).length, (some ⟨b25, 0, none⟩), ([0, 1] : List Int).length, (some ⟨b28, 0, none⟩), ([3, 4] : List Int).length, (some ⟨b31, 0, none⟩), ([(0, 0, 1), (0, 1, 2), (1, 1, 3), (2, 0, 4)] : List (Int × Int × Int)).length, (some ⟨b39, 0, none⟩), ([0, 1] : List Int).length, R, (h11.ren hN), (h14.ren hN), (h17.ren hN), (h25.ren hN), (h28.ren hN), (h31.ren hN), (h39.ren hN)⟩⟩

theorem nag3 : NAg Tryz.prog 3 := NAg.mk' Tryz.underlying3 rfl (by kernel_rfl)
theorem sl22 : Sl Tryz.prog 22 3 1 := Sl.mk' Tryz.underlying22 (by kernel_rfl)
noncomputable def m_automaton_checkSet_l1 (p0 : List Int) (p1 : Int) (st13 : Int) : Option (Int ⊕ (Unit ⊕ Int)) :=
 if decide (st13 < (p0.length : Int)) then
  (idx p0 st13).bind fun x22 =>
  if ((decide (x22 < 0)) || (decide (x22 ≥ p1))) then
   some (.inr (.inr (2)))
  else
   (if decide (st13 > 0) then
    (idx p0 (W (st13 - 1))).bind fun x28 =>
    some (decide (x22 ≤ x28))
   else
    some false).bind fun b25 =>
   if b25 then
    some (.inr (.inr (5)))
   else
    some (.inl (W (st13 + 1)))
 else
  some (.inr (.inl ()))
noncomputable def m_automaton_checkSet (p0 : List Int) (p1 : Int) : Option Int :=
 (iter (m_automaton_checkSet_l1 p0 p1) 0).bind fun o13 =>
 match o13 with
 | .inl u16 =>
  some 0
 | .inr (u19) =>
  some u19
theorem m_automaton_checkSet_c {s : Sig} {p0 : List Int} {p1 : Int} {a1 : Option Addr} {c1 : Nat} {r : Int} (h1 : RdL qI s a1 c1 p0) (hm : m_automaton_checkSet p0 p1 = some r) :
    Calls Tryz.prog 102 #[.slice a1 p0.length c1, .int .i64 p1] s.w (RetS No s fun v s' => v = .int .i64 r) := by
 unfold m_automaton_checkSet at hm
 obtain ⟨N, hN, hNb⟩ := s.fresh
 have m0 : Mv (Up N No) s s := Mv.refl _ _
 refine E.entry Tryz.func102 R Tryz.ntmps102 R R (ER (L.as Y R R (LN (E.seq (ER (L.mv Y R R (L.len sl22 Y R R (L.mv Y R R (LN (E.block ?_))))))))))
 obtain ⟨o13, eo13, hm⟩ := bindS hm
 refine E.cut (x := .exit 0) (fun e w => ∃ (s17 : Sig) (u16 : Unit), o13 = .inl u16 ∧ Mv (Up N No) s s17 ∧ e = [] ∧ w = s17.w) ?_ ?_
 ·rintro _ _ ⟨s17, u16, rfl, m0, rfl, rfl⟩
  dsimp only at hm
  refine X.blkE (X.seqN (ER (L.as Y R R (LN (E.ret ?_)))))
  obtain rfl := oi hm
  exact X.rt (.inl R) Tryz.results102 (Rs.tmp R Rs.nil) R ⟨_, (s17).ren N (fun _ => 0), R, R, m0.ren hNb, R⟩
 intro K18
 refine E.cut (x := .ret) (fun e w => ∃ (s20 : Sig) (u19 : Int), o13 = .inr (u19) ∧ Mv (Up N No) s s20 ∧ e = [(4, .int .i64 u19)] ∧ w = s20.w) ?_ ?_
 ·rintro _ _ ⟨s20, u19, rfl, m0, rfl, rfl⟩
  dsimp only at hm
  refine X.blkR (X.seqR ?_)
  obtain rfl := oi hm
  exact X.rt (.inl R) Tryz.results102 (Rs.tmp R Rs.nil) R ⟨_, (s20).ren N (fun _ => 0), R, R, m0.ren hNb, R⟩
 intro K21
 refine E.iter (fun (st13 : Int) (e : List (Nat × Value)) (w : World) => ∃ (s15 : Sig), Mv (Up N No) s s15 ∧ RdL qI s15 a1 c1 p0 ∧ e = [(9, .int .i64 st13), (8, .int .i64 (p0.length : Int)), (7, .slice a1 p0.length c1), (0, .slice a1 p0.length c1), (1, .int .i64 p1)] ∧ w = s15.w) eo13 ⟨s, m0, h1, R, R⟩ (Sub.rf R) ?_
 rintro st13 res13 hm ih13 ho13 _ _ ⟨s15, m0, h1, rfl, rfl⟩
 unfold m_automaton_checkSet_l1 at hm
 refine ER (L.bi Y R R R R (LN (E.seq ?_)))
 rcases ifS hm with ⟨hc, hm⟩ | ⟨hc, hm⟩
 ·refine E.cT R hc (E.skip (X.seqN (E.seq (E.block (ER (L.mv Y R R ?_))))))
  obtain ⟨x22, ex22, hm⟩ := bindS hm
  refine L.ix (r := qI) sl22 h1 Y R R ex22 R fun b23 o23 cc23 me23 rd23 => ?_
  obtain rfl := rd23
  refine L.ld (j := 0) me23 nag3 Y R R R R (L.as Y R R (L.as Y R R (LN (E.block (ER (L.mv Y R R (L.bi Y R R R R (L.mv Y R R (L.cut 4 (fun e w => ∃ (v24 : Bool), ((decide (x22 < 0)) || (decide (x22 ≥ p1))) = v24 ∧ e = (21, .bool v24) :: [(6, .int .i64 x22), (5, .int .i64 st13), (9, .int .i64 st13), (8, .int .i64 (p0.length : Int)), (7, .slice a1 p0.length c1), (0, .slice a1 p0.length c1), (1, .int .i64 p1)] ∧ w = s15.w) ?_ ?_)))))))))
  ·rintro _ _ ⟨v24, rfl, rfl, rfl⟩
   refine L.as Y R R (L.nil (X.seqN ?_))
   rcases ifS hm with ⟨hc, hm⟩ | ⟨hc, hm⟩
   ·refine E.cT R hc (ER (L.as Y R R (LN (E.ret (X.blkR (X.blkR (X.seqR (X.seqR ?_))))))))
    have hx := ho13 _ (oi hm).symm
    exact X.sub (K21 _ _ ⟨s15, 2, hx.symm, m0, R, R⟩) (Sub.rf R)
   refine E.cF R hc (ER (L.mv Y R R (L.bi Y R R R R (L.mv Y R R ?_))))
   obtain ⟨b25, eb25, hm⟩ := bindS hm
   refine L.cut 8 (fun e w => ∃ (v26 : Bool), b25 = v26 ∧ e = (33, .bool v26) :: [(9, .int .i64 st13), (8, .int .i64 (p0.length : Int)), (7, .slice a1 p0.length c1), (0, .slice a1 p0.length c1), (1, .int .i64 p1)] ∧ w = s15.w) ?_ ?_
   ·rintro _ _ ⟨v26, rfl, rfl, rfl⟩
    refine L.as Y R R (L.nil (X.seqN ?_))
    rcases ifS hm with ⟨hc, hm⟩ | ⟨hc, hm⟩
    ·refine E.cT R hc (ER (L.as Y R R (LN (E.ret (X.blkR (X.blkR (X.seqR (X.seqR ?_))))))))
     have hx := ho13 _ (oi hm).symm
     exact X.sub (K21 _ _ ⟨s15, 5, hx.symm, m0, R, R⟩) (Sub.rf R)
    exact E.cF R hc (E.skip (X.blkN (X.blkN (X.seqN (E.reg (L.bi Y R R R R (L.mv Y R R (L.nil (X.sub (ih13 _ (oi hm).symm _ _ ⟨s15, m0, h1, R, R⟩) (Sub.rf R))))))))))
   intro J27
   rcases ifS eb25 with ⟨hc, hm⟩ | ⟨hc, hm⟩
   ·refine L.know (d := 25) R hc (L.mv (Wt.mk R R) R R (L.mv (Wt.mk R R) R R (L.mv (Wt.mk R R) R R (L.bi (Wt.mk R R) R R R R ?_))))
    obtain ⟨x28, ex28, hm⟩ := bindS hm
    refine L.ix (r := qI) sl22 h1 (Wt.mk R R) R R ex28 R fun b29 o29 cc29 me29 rd29 => ?_
    obtain rfl := rd29
    exact L.ld (j := 0) me29 nag3 (Wt.mk R R) R R R R (L.bi (Wt.mk R R) R R R R (L.pkT Y R R R R (L.sb (J27 _ _ ⟨(decide (x22 ≤ x28)), (oi hm).symm, R, R⟩) R)))
   exact L.know (d := 25) R hc (L.skip R R R R (L.skip R R R R (L.skip R R R R (L.skip R R R R (L.skip R R R R (L.skip R R R R (L.skip R R R R (L.pkF Y R R R R (L.sb (J27 _ _ ⟨false, (oi hm).symm, R, R⟩) R)))))))))
  intro J30
  rcases Bool.eq_false_or_eq_true (decide (x22 < 0)) with hc | hc
  ·exact L.know (d := 17) R hc (L.skip R R R R (L.skip R R R R (L.skip R R R R (L.pkT Y R R R R (L.sb (J30 _ _ ⟨true, (orT hc).symm, R, R⟩) R)))))
  exact L.know (d := 17) R hc (L.mv (Wt.mk R R) R R (L.mv (Wt.mk R R) R R (L.bi (Wt.mk R R) R R R R (L.pkF Y R R R R (L.sb (J30 _ _ ⟨(decide (x22 ≥ p1)), (orF hc).symm, R, R⟩) R)))))
 refine E.cF R hc (E.exit (X.seqX (X.seqX ?_)))
 have hx := ho13 _ (oi hm).symm
 exact X.sub (K18 _ _ ⟨s15, (), hx.symm, m0, R, R⟩) Sub.nil

noncomputable def m_slices_Index_int_l1 (p0 : List Int) (p1 : Int) (st6 : Int) : Option (Int ⊕ (Unit ⊕ Int)) :=
 if decide (st6 < (p0.length : Int)) then
  (idx p0 st6).bind fun x15 =>
  if (p1 == x15) then
   some (.inr (.inr (st6)))
  else
   some (.inl (W (st6 + 1)))
 else
  some (.inr (.inl ()))
noncomputable def m_slices_Index_int (p0 : List Int) (p1 : Int) : Option Int :=
 (iter (m_slices_Index_int_l1 p0 p1) 0).bind fun o6 =>
 match o6 with
 | .inl u9 =>
  some (-1)
 | .inr (u12) =>
  some u12
theorem m_slices_Index_int_c {s : Sig} {p0 : List Int} {p1 : Int} {a1 : Option Addr} {c1 : Nat} {r : Int} (h1 : RdL qI s a1 c1 p0) (hm : m_slices_Index_int p0 p1 = some r) :
    Calls Tryz.prog 131 #[.slice a1 p0.length c1, .int .i64 p1] s.w (RetS No s fun v s' => v = .int .i64 r) := by
 unfold m_slices_Index_int at hm
 obtain ⟨N, hN, hNb⟩ := s.fresh
 have m0 : Mv (Up N No) s s := Mv.refl _ _
 refine E.entry Tryz.func131 R Tryz.ntmps131 R R (ER (L.as Y R R (LN (E.seq (ER (L.mv Y R R (L.len sl22 Y R R (L.mv Y R R (LN (E.block ?_))))))))))
 obtain ⟨o6, eo6, hm⟩ := bindS hm
 refine E.cut (x := .exit 0) (fun e w => ∃ (s10 : Sig) (u9 : Unit), o6 = .inl u9 ∧ Mv (Up N No) s s10 ∧ e = [] ∧ w = s10.w) ?_ ?_
 ·rintro _ _ ⟨s10, u9, rfl, m0, rfl, rfl⟩
  dsimp only at hm
  refine X.blkE (X.seqN (ER (L.as Y R R (LN (E.ret ?_)))))
  obtain rfl := oi hm
  exact X.rt (.inl R) Tryz.results131 (Rs.tmp R Rs.nil) R ⟨_, (s10).ren N (fun _ => 0), R, R, m0.ren hNb, R⟩
 intro K11
 refine E.cut (x := .ret) (fun e w => ∃ (s13 : Sig) (u12 : Int), o6 = .inr (u12) ∧ Mv (Up N No) s s13 ∧ e = [(4, .int .i64 u12)] ∧ w = s13.w) ?_ ?_
 ·rintro _ _ ⟨s13, u12, rfl, m0, rfl, rfl⟩
  dsimp only at hm
  refine X.blkR (X.seqR ?_)
  obtain rfl := oi hm
  exact X.rt (.inl R) Tryz.results131 (Rs.tmp R Rs.nil) R ⟨_, (s13).ren N (fun _ => 0), R, R, m0.ren hNb, R⟩
 intro K14
 refine E.iter (fun (st6 : Int) (e : List (Nat × Value)) (w : World) => ∃ (s8 : Sig), Mv (Up N No) s s8 ∧ RdL qI s8 a1 c1 p0 ∧ e = [(8, .int .i64 st6), (7, .int .i64 (p0.length : Int)), (0, .slice a1 p0.length c1), (1, .int .i64 p1)] ∧ w = s8.w) eo6 ⟨s, m0, h1, R, R⟩ (Sub.rf R) ?_
 rintro st6 res6 hm ih6 ho6 _ _ ⟨s8, m0, h1, rfl, rfl⟩
 unfold m_slices_Index_int_l1 at hm
 refine ER (L.bi Y R R R R (LN (E.seq ?_)))
 rcases ifS hm with ⟨hc, hm⟩ | ⟨hc, hm⟩
 ·refine E.cT R hc (E.skip (X.seqN (E.seq (E.block (ER (L.mv Y R R (L.as Y R R (LN (ER (L.mv Y R R (L.mv Y R R (L.mv Y R R ?_))))))))))))
  obtain ⟨x15, ex15, hm⟩ := bindS hm
  refine L.ix (r := qI) sl22 h1 Y R R ex15 R fun b16 o16 cc16 me16 rd16 => ?_
  obtain rfl := rd16
  refine L.ld (j := 0) me16 nag3 Y R R R R (L.bi Y R R R R (L.nil (X.seqN ?_)))
  rcases ifS hm with ⟨hc, hm⟩ | ⟨hc, hm⟩
  ·refine E.cT R hc (ER (L.mv Y R R (L.as Y R R (LN (E.ret (X.blkR (X.seqR (X.seqR ?_))))))))
   have hx := ho6 _ (oi hm).symm
   exact X.sub (K14 _ _ ⟨s8, st6, hx.symm, m0, R, R⟩) (Sub.rf R)
  exact E.cF R hc (E.skip (X.blkN (X.seqN (E.reg (L.bi Y R R R R (L.mv Y R R (L.nil (X.sub (ih6 _ (oi hm).symm _ _ ⟨s8, m0, h1, R, R⟩) (Sub.rf R)))))))))
 refine E.cF R hc (E.exit (X.seqX (X.seqX ?_)))
 have hx := ho6 _ (oi hm).symm
 exact X.sub (K11 _ _ ⟨s8, (), hx.symm, m0, R, R⟩) Sub.nil

theorem cf131 : Cf Tryz.prog 131 := Cf.mk Tryz.func131 (by kernel_rfl) (by kernel_rfl)
noncomputable def m_slices_Contains_int (p0 : List Int) (p1 : Int) : Option Bool :=
 (m_slices_Index_int p0 p1).bind fun r2 =>
 some (decide (r2 ≥ 0))
theorem m_slices_Contains_int_c {s : Sig} {p0 : List Int} {p1 : Int} {a1 : Option Addr} {c1 : Nat} {r : Bool} (h1 : RdL qI s a1 c1 p0) (hm : m_slices_Contains_int p0 p1 = some r) :
    Calls Tryz.prog 84 #[.slice a1 p0.length c1, .int .i64 p1] s.w (RetS No s fun v s' => v = .bool r) := by
 unfold m_slices_Contains_int at hm
 obtain ⟨N, hN, hNb⟩ := s.fresh
 have m0 : Mv (Up N No) s s := Mv.refl _ _
 refine E.entry Tryz.func84 R Tryz.ntmps84 R R (ER (L.as Y R R (LN (ER (L.mv Y R R (L.mv Y R R ?_))))))
 obtain ⟨r2, er2, hm⟩ := bindS hm
 refine L.ca cf131 R R Y R (m_slices_Index_int_c (s := s) (p0 := p0) (p1 := p1) h1 er2) R ?_
 rintro _ s3 m4 rfl
 replace m0 := m0.trans m4.no
 refine L.bi Y R R R R (L.as Y R R (LN (E.ret ?_)))
 obtain rfl := oi hm
 exact X.rt (.inl R) Tryz.results84 (Rs.tmp R Rs.nil) R ⟨_, (s3).ren N (fun _ => 0), R, R, m0.ren hNb, R⟩

theorem ag97 : Ag Tryz.prog 97 3 := Ag.mk' Tryz.underlying97 rfl (by kernel_rfl)
theorem cf84 : Cf Tryz.prog 84 := Cf.mk Tryz.func84 (by kernel_rfl) (by kernel_rfl)
theorem fa25_0 : FA Tryz.prog 25 0 0 := FA.mk Tryz.underlying25 rfl rfl ⟨1, by decide, by kernel_rfl⟩
theorem fa25_1 : FA Tryz.prog 25 1 1 := FA.mk Tryz.underlying25 rfl rfl ⟨1, by decide, by kernel_rfl⟩
theorem fa25_3 : FA Tryz.prog 25 3 3 := FA.mk Tryz.underlying25 rfl rfl ⟨1, by decide, by kernel_rfl⟩
theorem fa97_0 : FA Tryz.prog 97 0 0 := FA.mk Tryz.underlying97 rfl rfl ⟨1, by decide, by kernel_rfl⟩
theorem fa97_1 : FA Tryz.prog 97 1 1 := FA.mk Tryz.underlying97 rfl rfl ⟨1, by decide, by kernel_rfl⟩
theorem fa97_2 : FA Tryz.prog 97 2 2 := FA.mk Tryz.underlying97 rfl rfl ⟨1, by decide, by kernel_rfl⟩
theorem nag22 : NAg Tryz.prog 22 := NAg.mk' Tryz.underlying22 rfl (by kernel_rfl)
theorem nag23 : NAg Tryz.prog 23 := NAg.mk' Tryz.underlying23 rfl (by kernel_rfl)
theorem sl23 : Sl Tryz.prog 23 97 3 := Sl.mk' Tryz.underlying23 (by kernel_rfl)
theorem zz97 : (Tryz.prog.info? 97).bind (·.zero) = some (.agg #[.int .i64 0, .int .i64 0, .int .i64 0]) := by kernel_rfl
noncomputable def m_automaton_checkEdges_j1 (st38 : Int) : Option (Int ⊕ (Unit ⊕ Int)) :=
 some (.inl (W (st38 + 1)))
noncomputable def m_automaton_checkEdges_l1 (p0 : AutT) (st38 : Int) : Option (Int ⊕ (Unit ⊕ Int)) :=
 if decide (st38 < (p0.2.2.2.length : Int)) then
  (idx p0.2.2.2 st38).bind fun x49 =>
  if ((((decide (x49.1 < 0)) || (decide (x49.1 ≥ p0.2.1))) || (decide (x49.2.2 < 0))) || (decide (x49.2.2 ≥ p0.2.1))) then
   some (.inr (.inr (2)))
  else
   (m_slices_Contains_int p0.1 x49.2.1).bind fun r59 =>
   if (!r59) then
    some (.inr (.inr (9)))
   else
    if (st38 == 0) then
     m_automaton_checkEdges_j1 st38
    else
     (idx p0.2.2.2 (W (st38 - 1))).bind fun x62 =>
     if ((decide (x49.1 < x62.1)) || ((x49.1 == x62.1) && (decide (x49.2.1 ≤ x62.2.1)))) then
      some (.inr (.inr (5)))
     else
      m_automaton_checkEdges_j1 st38
 else
  some (.inr (.inl ()))
noncomputable def m_automaton_checkEdges (p0 : AutT) : Option Int :=
 (iter (m_automaton_checkEdges_l1 p0) 0).bind fun o38 =>
 match o38 with
 | .inl u41 =>
  some 0
 | .inr (u44) =>
  some u44
theorem m_automaton_checkEdges_c {s : Sig} {p0 : AutT} {a1 : Option Addr} {c1 : Nat} {a2 : Option Addr} {c2 : Nat} {a3 : Option Addr} {c3 : Nat} {r : Int} (h1 : RdL qI s a1 c1 p0.1) (h2 : RdL qI s a2 c2 p0.2.2.1) (h3 : RdL qT s a3 c3 p0.2.2.2) (hm : m_automaton_checkEdges p0 = some r) :
    Calls Tryz.prog 103 #[.agg #[.slice a1 p0.1.length c1, .int .i64 p0.2.1, .slice a2 p0.2.2.1.length c2, .slice a3 p0.2.2.2.length c3]] s.w (RetS No s fun v s' => v = .int .i64 r) := by
 unfold m_automaton_checkEdges at hm
 obtain ⟨N, hN, hNb⟩ := s.fresh
 have m0 : Mv (Up N No) s s := Mv.refl _ _
 refine E.entry Tryz.func103 R Tryz.ntmps103 R R (ER (L.box (N + 0) Y R R R fun b4 s5 m6 bx4 => ?_))
 replace m0 := m0.trans m6.no
 replace h1 := h1.mono m6.z
 replace h2 := h2.mono m6.z
 replace h3 := h3.mono m6.z
 refine L.as Y R R (LN (E.seq (ER (L.fa fa25_3 Y R R (L.ld (j := 3) bx4.mem nag23 Y R R R R (L.len sl23 Y R R (L.mv Y R R (LN (E.block ?_)))))))))
 obtain ⟨o38, eo38, hm⟩ := bindS hm
 refine E.cut (x := .exit 0) (fun e w => ∃ (s42 : Sig) (u41 : Unit), o38 = .inl u41 ∧ Mv (Up N No) s s42 ∧ e = [] ∧ w = s42.w) ?_ ?_
 ·rintro _ _ ⟨s42, u41, rfl, m0, rfl, rfl⟩
  dsimp only at hm
  refine X.blkE (X.seqN (ER (L.as Y R R (LN (E.ret ?_)))))
  obtain rfl := oi hm
  exact X.rt (.inl R) Tryz.results103 (Rs.tmp R Rs.nil) R ⟨_, (s42).ren N (fun _ => 0), R, R, m0.ren hNb, R⟩
 intro K43
 refine E.cut (x := .ret) (fun e w => ∃ (s45 : Sig) (u44 : Int), o38 = .inr (u44) ∧ Mv (Up N No) s s45 ∧ e = [(2, .int .i64 u44)] ∧ w = s45.w) ?_ ?_
 ·rintro _ _ ⟨s45, u44, rfl, m0, rfl, rfl⟩
  dsimp only at hm
  refine X.blkR (X.seqR ?_)
  obtain rfl := oi hm
  exact X.rt (.inl R) Tryz.results103 (Rs.tmp R Rs.nil) R ⟨_, (s45).ren N (fun _ => 0), R, R, m0.ren hNb, R⟩
 intro K46
 refine E.iter (fun (st38 : Int) (e : List (Nat × Value)) (w : World) => ∃ (s40 : Sig), Mv (Up N No) s s40 ∧ RdL qT s40 a3 c3 p0.2.2.2 ∧ RdL qI s40 a1 c1 p0.1 ∧ RdL qI s40 a2 c2 p0.2.2.1 ∧ Bx s40 (N + 0) b4 #[.slice a1 p0.1.length c1, .int .i64 p0.2.1, .slice a2 p0.2.2.1.length c2, .slice a3 p0.2.2.2.length c3] 25 ∧ e = [(9, .int .i64 st38), (8, .int .i64 (p0.2.2.2.length : Int)), (7, .slice a3 p0.2.2.2.length c3), (1, .pointer (some ⟨b4, 0, none⟩))] ∧ w = s40.w) eo38 ⟨s5, m0, h3, h1, h2, bx4, R, R⟩ (Sub.rf R) ?_
 rintro st38 res38 hm ih38 ho38 _ _ ⟨s40, m0, h3, h1, h2, bx4, rfl, rfl⟩
 unfold m_automaton_checkEdges_l1 at hm
 refine ER (L.bi Y R R R R (LN (E.seq ?_)))
 rcases ifS hm with ⟨hc, hm⟩ | ⟨hc, hm⟩
 ·refine E.cT R hc (E.skip (X.seqN (E.seqJ (fun e w => ∃ (s47 : Sig), m_automaton_checkEdges_j1 st38 = some res38 ∧ Mv (Up N No) s s47 ∧ RdL qT s47 a3 c3 p0.2.2.2 ∧ RdL qI s47 a1 c1 p0.1 ∧ RdL qI s47 a2 c2 p0.2.2.1 ∧ Bx s47 (N + 0) b4 #[.slice a1 p0.1.length c1, .int .i64 p0.2.1, .slice a2 p0.2.2.1.length c2, .slice a3 p0.2.2.2.length c3] 25 ∧ e = [(9, .int .i64 st38), (8, .int .i64 (p0.2.2.2.length : Int)), (7, .slice a3 p0.2.2.2.length c3), (1, .pointer (some ⟨b4, 0, none⟩))] ∧ w = s47.w) ?_ ?_)))
  ·rintro _ _ ⟨s47, hm, m0, h3, h1, h2, bx4, rfl, rfl⟩
   unfold m_automaton_checkEdges_j1 at hm
   exact E.reg (L.bi Y R R R R (L.mv Y R R (L.nil (X.sub (ih38 _ (oi hm).symm _ _ ⟨s47, m0, h3, h1, h2, bx4, R, R⟩) (Sub.rf R)))))
  intro Jj48
  refine E.block (ER (L.mv Y R R ?_))
  obtain ⟨x49, ex49, hm⟩ := bindS hm
  refine L.ix (r := qT) sl23 h3 Y R R ex49 R fun b50 o50 cc50 me50 rd50 => ?_
  obtain ⟨_, _, rfl, rfl, ⟨_, _, rfl, rfl, rfl⟩⟩ := rd50
  refine L.lg (j := 0) (cs := [.int .i64 x49.1, .int .i64 x49.2.1, .int .i64 x49.2.2]) me50 ag97 Y R R R R R (L.al (N + 1) zz97 R Y R fun b51 s52 m53 bx51 => ?_)
  refine L.as Y R R (L.st (c := [.int .i64 x49.1, .int .i64 x49.2.1, .int .i64 x49.2.2]) (cs' := #[.int .i64 x49.1, .int .i64 x49.2.1, .int .i64 x49.2.2]) bx51 ag97.sz Y R R R R R (nb R) R fun s54 m55 bx51 => ?_)
  replace m0 := (m0.trans m53.no).trans (m55.one up)
  replace h3 := (h3.mono m53.z).mono (m55.le (tg0 hN))
  replace bx4 := (bx4.mv m53 no_No).mv m55 (tq R)
  replace h1 := (h1.mono m53.z).mono (m55.le (tg0 hN))
  replace h2 := (h2.mono m53.z).mono (m55.le (tg0 hN))
  refine LN (E.seq (E.block (ER (L.fa fa97_0 Y R R (L.ld (j := 0) bx51.mem nag3 Y R R R R (L.bi Y R R R R (L.mv Y R R (L.cut 6 (fun e w => ∃ (v56 : Bool), ((decide (x49.1 < 0)) || (decide (x49.1 ≥ p0.2.1))) = v56 ∧ e = (24, .bool v56) :: [(3, .int .i64 st38), (4, .pointer (some ⟨b51, 0, none⟩)), (9, .int .i64 st38), (8, .int .i64 (p0.2.2.2.length : Int)), (7, .slice a3 p0.2.2.2.length c3), (1, .pointer (some ⟨b4, 0, none⟩))] ∧ w = s54.w) ?_ ?_))))))))
  ·rintro _ _ ⟨v56, rfl, rfl, rfl⟩
   refine L.mv Y R R (L.cut 4 (fun e w => ∃ (v57 : Bool), (((decide (x49.1 < 0)) || (decide (x49.1 ≥ p0.2.1))) || (decide (x49.2.2 < 0))) = v57 ∧ e = (29, .bool v57) :: [(3, .int .i64 st38), (4, .pointer (some ⟨b51, 0, none⟩)), (9, .int .i64 st38), (8, .int .i64 (p0.2.2.2.length : Int)), (7, .slice a3 p0.2.2.2.length c3), (1, .pointer (some ⟨b4, 0, none⟩))] ∧ w = s54.w) ?_ ?_)
   ·rintro _ _ ⟨v57, rfl, rfl, rfl⟩
    refine L.mv Y R R (L.cut 6 (fun e w => ∃ (v58 : Bool), ((((decide (x49.1 < 0)) || (decide (x49.1 ≥ p0.2.1))) || (decide (x49.2.2 < 0))) || (decide (x49.2.2 ≥ p0.2.1))) = v58 ∧ e = (36, .bool v58) :: [(3, .int .i64 st38), (4, .pointer (some ⟨b51, 0, none⟩)), (9, .int .i64 st38), (8, .int .i64 (p0.2.2.2.length : Int)), (7, .slice a3 p0.2.2.2.length c3), (1, .pointer (some ⟨b4, 0, none⟩))] ∧ w = s54.w) ?_ ?_)
    ·rintro _ _ ⟨v58, rfl, rfl, rfl⟩
     refine L.as Y R R (L.nil (X.seqN ?_))
     rcases ifS hm with ⟨hc, hm⟩ | ⟨hc, hm⟩
     ·refine E.cT R hc (ER (L.as Y R R (LN (E.ret (X.blkR (X.seqR (X.blkR (X.seqR (X.seqR ?_)))))))))
      have hx := ho38 _ (oi hm).symm
      exact X.sub (K46 _ _ ⟨s54, 2, hx.symm, m0, R, R⟩) (Sub.rf R)
     refine E.cF R hc (ER (L.fa fa25_0 Y R R (L.ld (j := 0) bx4.mem nag22 Y R R R R (L.fa fa97_1 Y R R (L.ld (j := 1) bx51.mem nag3 Y R R R R ?_)))))
     obtain ⟨r59, er59, hm⟩ := bindS hm
     refine L.ca cf84 R R Y R (m_slices_Contains_int_c (s := s54) (p0 := p0.1) (p1 := x49.2.1) h1 er59) R ?_
     rintro _ s60 m61 rfl
     replace m0 := m0.trans m61.no
     replace h3 := h3.mono m61.z
     replace bx4 := bx4.mv m61 no_No
     replace h1 := h1.mono m61.z
     replace h2 := h2.mono m61.z
     refine L.not Y R R (L.as Y R R (L.nil (X.seqN ?_)))
     rcases ifS hm with ⟨hc, hm⟩ | ⟨hc, hm⟩
     ·refine E.cT R hc (ER (L.as Y R R (LN (E.ret (X.blkR (X.seqR (X.blkR (X.seqR (X.seqR ?_)))))))))
      have hx := ho38 _ (oi hm).symm
      exact X.sub (K46 _ _ ⟨s60, 9, hx.symm, m0, R, R⟩) (Sub.rf R)
     refine E.cF R hc (E.skip (X.blkN (X.seqN (E.seq (ER (L.mv Y R R (L.bi Y R R R R (L.nil (X.seqN ?_)))))))))
     rcases ifS hm with ⟨hc, hm⟩ | ⟨hc, hm⟩
     ·exact E.cT R hc (E.exit (X.seqX (X.blkE (X.sub (Jj48 _ _ ⟨s60, hm, m0, h3, h1, h2, bx4, R, R⟩) (Sub.rf R)))))
     refine E.cF R hc (E.skip (X.seqN (ER (L.fa fa25_3 Y R R (L.ld (j := 3) bx4.mem nag23 Y R R R R (L.mv Y R R (L.bi Y R R R R ?_)))))))
     obtain ⟨x62, ex62, hm⟩ := bindS hm
     refine L.ix (r := qT) sl23 h3 Y R R ex62 R fun b63 o63 cc63 me63 rd63 => ?_
     obtain ⟨_, _, rfl, rfl, ⟨_, _, rfl, rfl, rfl⟩⟩ := rd63
     refine L.lg (j := 0) (cs := [.int .i64 x62.1, .int .i64 x62.2.1, .int .i64 x62.2.2]) me63 ag97 Y R R R R R (L.al (N + 2) zz97 R Y R fun b64 s65 m66 bx64 => ?_)
     refine L.st (c := [.int .i64 x62.1, .int .i64 x62.2.1, .int .i64 x62.2.2]) (cs' := #[.int .i64 x62.1, .int .i64 x62.2.1, .int .i64 x62.2.2]) bx64 ag97.sz Y R R R R R (nb R) R fun s67 m68 bx64 => ?_
     replace m0 := (m0.trans m66.no).trans (m68.one up)
     replace h3 := (h3.mono m66.z).mono (m68.le (tg0 hN))
     replace bx4 := (bx4.mv m66 no_No).mv m68 (tq R)
     replace h1 := (h1.mono m66.z).mono (m68.le (tg0 hN))
     replace h2 := (h2.mono m66.z).mono (m68.le (tg0 hN))
     replace bx51 := ((bx51.mv m61 no_No).mv m66 no_No).mv m68 (tq R)
     refine LN (ER (L.fa fa97_0 Y R R (L.ld (j := 0) bx51.mem nag3 Y R R R R (L.fa fa97_0 Y R R (L.ld (j := 0) bx64.mem nag3 Y R R R R (L.bi Y R R R R (L.mv Y R R (L.cut 13 (fun e w => ∃ (v69 : Bool), ((decide (x49.1 < x62.1)) || ((x49.1 == x62.1) && (decide (x49.2.1 ≤ x62.2.1)))) = v69 ∧ e = (70, .bool v69) :: [(9, .int .i64 st38), (8, .int .i64 (p0.2.2.2.length : Int)), (7, .slice a3 p0.2.2.2.length c3), (1, .pointer (some ⟨b4, 0, none⟩))] ∧ w = s67.w) ?_ ?_))))))))
     ·rintro _ _ ⟨v69, rfl, rfl, rfl⟩
      refine L.nil (X.seqN ?_)
      rcases ifS hm with ⟨hc, hm⟩ | ⟨hc, hm⟩
      ·refine E.cT R hc (ER (L.as Y R R (LN (E.ret (X.blkR (X.seqR (X.seqR ?_)))))))
       have hx := ho38 _ (oi hm).symm
       exact X.sub (K46 _ _ ⟨s67, 5, hx.symm, m0, R, R⟩) (Sub.rf R)
      exact E.cF R hc (E.skip (X.blkN (X.sub (Jj48 _ _ ⟨s67, hm, m0, h3, h1, h2, bx4, R, R⟩) (Sub.rf R))))
     intro J70
     rcases Bool.eq_false_or_eq_true (decide (x49.1 < x62.1)) with hc | hc
     ·exact L.know (d := 57) R hc (L.skip R R R R (L.skip R R R R (L.skip R R R R (L.skip R R R R (L.skip R R R R (L.skip R R R R (L.skipU R R R (L.skipU R R R (L.skipU R R R (L.skipU R R R (L.skipU R R R (L.skip R R R R (L.pkT Y R R R R (L.sb (J70 _ _ ⟨true, (orT hc).symm, R, R⟩) R))))))))))))))
     refine L.know (d := 57) R hc (L.fa fa97_0 (Wt.mk R R) R R (L.ld (j := 0) bx51.mem nag3 (Wt.mk R R) R R R R (L.fa fa97_0 (Wt.mk R R) R R (L.ld (j := 0) bx64.mem nag3 (Wt.mk R R) R R R R (L.bi (Wt.mk R R) R R R R (L.mv (Wt.mk R R) R R (L.cut 6 (fun e w => ∃ (v71 : Bool), ((x49.1 == x62.1) && (decide (x49.2.1 ≤ x62.2.1))) = v71 ∧ e = (69, .bool v71) :: [(57, .bool false), (9, .int .i64 st38), (8, .int .i64 (p0.2.2.2.length : Int)), (7, .slice a3 p0.2.2.2.length c3), (1, .pointer (some ⟨b4, 0, none⟩))] ∧ w = s67.w) ?_ ?_)))))))
     ·rintro _ _ ⟨v71, rfl, rfl, rfl⟩
      exact L.pkF Y R R R R (L.sb (J70 _ _ ⟨((x49.1 == x62.1) && (decide (x49.2.1 ≤ x62.2.1))), (orF hc).symm, R, R⟩) R)
     intro J72
     rcases Bool.eq_false_or_eq_true (x49.1 == x62.1) with hc | hc
     ·exact L.know (d := 63) R hc (L.fa fa97_1 (Wt.mk R R) R R (L.ld (j := 1) bx51.mem nag3 (Wt.mk R R) R R R R (L.fa fa97_1 (Wt.mk R R) R R (L.ld (j := 1) bx64.mem nag3 (Wt.mk R R) R R R R (L.bi (Wt.mk R R) R R R R (L.pkT (Wt.mk R R) R R R R (L.sb (J72 _ _ ⟨(decide (x49.2.1 ≤ x62.2.1)), (andT hc).symm, R, R⟩) R)))))))
     exact L.know (d := 63) R hc (L.skip R R R R (L.skip R R R R (L.skip R R R R (L.skip R R R R (L.skip R R R R (L.pkF (Wt.mk R R) R R R R (L.sb (J72 _ _ ⟨false, (andF hc).symm, R, R⟩) R)))))))
    intro J73
    rcases Bool.eq_false_or_eq_true (((decide (x49.1 < 0)) || (decide (x49.1 ≥ p0.2.1))) || (decide (x49.2.2 < 0))) with hc | hc
    ·exact L.know (d := 30) R hc (L.skip R R R R (L.skip R R R R (L.skip R R R R (L.skip R R R R (L.skip R R R R (L.pkT Y R R R R (L.sb (J73 _ _ ⟨true, (orT hc).symm, R, R⟩) R)))))))
    exact L.know (d := 30) R hc (L.fa fa97_2 (Wt.mk R R) R R (L.ld (j := 2) bx51.mem nag3 (Wt.mk R R) R R R R (L.fa fa25_1 (Wt.mk R R) R R (L.ld (j := 1) bx4.mem nag3 (Wt.mk R R) R R R R (L.bi (Wt.mk R R) R R R R (L.pkF Y R R R R (L.sb (J73 _ _ ⟨(decide (x49.2.2 ≥ p0.2.1)), (orF hc).symm, R, R⟩) R)))))))
   intro J74
   rcases Bool.eq_false_or_eq_true ((decide (x49.1 < 0)) || (decide (x49.1 ≥ p0.2.1))) with hc | hc
   ·exact L.know (d := 25) R hc (L.skip R R R R (L.skip R R R R (L.skip R R R R (L.pkT Y R R R R (L.sb (J74 _ _ ⟨true, (orT hc).symm, R, R⟩) R)))))
   exact L.know (d := 25) R hc (L.fa fa97_2 (Wt.mk R R) R R (L.ld (j := 2) bx51.mem nag3 (Wt.mk R R) R R R R (L.bi (Wt.mk R R) R R R R (L.pkF Y R R R R (L.sb (J74 _ _ ⟨(decide (x49.2.2 < 0)), (orF hc).symm, R, R⟩) R)))))
  intro J75
  rcases Bool.eq_false_or_eq_true (decide (x49.1 < 0)) with hc | hc
  ·exact L.know (d := 18) R hc (L.skip R R R R (L.skip R R R R (L.skip R R R R (L.skip R R R R (L.skip R R R R (L.pkT Y R R R R (L.sb (J75 _ _ ⟨true, (orT hc).symm, R, R⟩) R)))))))
  exact L.know (d := 18) R hc (L.fa fa97_0 (Wt.mk R R) R R (L.ld (j := 0) bx51.mem nag3 (Wt.mk R R) R R R R (L.fa fa25_1 (Wt.mk R R) R R (L.ld (j := 1) bx4.mem nag3 (Wt.mk R R) R R R R (L.bi (Wt.mk R R) R R R R (L.pkF Y R R R R (L.sb (J75 _ _ ⟨(decide (x49.1 ≥ p0.2.1)), (orF hc).symm, R, R⟩) R)))))))
 refine E.cF R hc (E.exit (X.seqX (X.seqX ?_)))
 have hx := ho38 _ (oi hm).symm
 exact X.sub (K43 _ _ ⟨s40, (), hx.symm, m0, R, R⟩) Sub.nil

theorem cf102 : Cf Tryz.prog 102 := Cf.mk Tryz.func102 (by kernel_rfl) (by kernel_rfl)
theorem cf103 : Cf Tryz.prog 103 := Cf.mk Tryz.func103 (by kernel_rfl) (by kernel_rfl)
theorem fa25_2 : FA Tryz.prog 25 2 2 := FA.mk Tryz.underlying25 rfl rfl ⟨1, by decide, by kernel_rfl⟩
noncomputable def m_automaton_Check (p0 : AutT) : Option Int :=
 (m_automaton_checkSet p0.1 32).bind fun r7 =>
 if (r7 != 0) then
  some r7
 else
  if decide (p0.2.1 < 0) then
   some 2
  else
   if decide (p0.2.1 > 4096) then
    some 3
   else
    (m_automaton_checkSet p0.2.2.1 p0.2.1).bind fun r10 =>
    if (r10 != 0) then
     some r10
    else
     (m_automaton_checkEdges p0).bind fun r13 =>
     some r13
theorem m_automaton_Check_c {s : Sig} {p0 : AutT} {a1 : Option Addr} {c1 : Nat} {a2 : Option Addr} {c2 : Nat} {a3 : Option Addr} {c3 : Nat} {r : Int} (h1 : RdL qI s a1 c1 p0.1) (h2 : RdL qI s a2 c2 p0.2.2.1) (h3 : RdL qT s a3 c3 p0.2.2.2) (hm : m_automaton_Check p0 = some r) :
    Calls Tryz.prog 51 #[.agg #[.slice a1 p0.1.length c1, .int .i64 p0.2.1, .slice a2 p0.2.2.1.length c2, .slice a3 p0.2.2.2.length c3]] s.w (RetS No s fun v s' => v = .int .i64 r) := by
 unfold m_automaton_Check at hm
 obtain ⟨N, hN, hNb⟩ := s.fresh
 have m0 : Mv (Up N No) s s := Mv.refl _ _
 refine E.entry Tryz.func51 R Tryz.ntmps51 R R (ER (L.box (N + 0) Y R R R fun b4 s5 m6 bx4 => ?_))
 replace h1 := h1.mono m6.z
 refine L.as Y R R (LN (E.seq (ER (L.fa fa25_0 Y R R (L.ld (j := 0) bx4.mem nag22 Y R R R R ?_)))))
 obtain ⟨r7, er7, hm⟩ := bindS hm
 refine L.ca cf102 R R Y R (m_automaton_checkSet_c (s := s5) (p0 := p0.1) (p1 := 32) h1 er7) R ?_
 rintro _ s8 m9 rfl
 replace m0 := (m0.trans m6.no).trans m9.no
 replace bx4 := bx4.mv m9 no_No
 replace h2 := (h2.mono m6.z).mono m9.z
 refine L.as Y R R (LN (ER (L.mv Y R R (L.bi Y R R R R (L.nil (X.seqN ?_))))))
 rcases ifS hm with ⟨hc, hm⟩ | ⟨hc, hm⟩
 ·refine E.cT R hc (ER (L.mv Y R R (L.as Y R R (LN (E.ret (X.seqR ?_))))))
  obtain rfl := oi hm
  exact X.rt (.inl R) Tryz.results51 (Rs.tmp R Rs.nil) R ⟨_, (s8).ren N (fun _ => 0), R, R, m0.ren hNb, R⟩
 refine E.cF R hc (E.skip (X.seqN (E.seq (E.block (ER (L.fa fa25_1 Y R R (L.ld (j := 1) bx4.mem nag3 Y R R R R (L.bi Y R R R R (L.as Y R R (L.nil (X.seqN ?_)))))))))))
 rcases ifS hm with ⟨hc, hm⟩ | ⟨hc, hm⟩
 ·refine E.cT R hc (ER (L.as Y R R (LN (E.ret (X.blkR (X.seqR ?_))))))
  obtain rfl := oi hm
  exact X.rt (.inl R) Tryz.results51 (Rs.tmp R Rs.nil) R ⟨_, (s8).ren N (fun _ => 0), R, R, m0.ren hNb, R⟩
 refine E.cF R hc (ER (L.fa fa25_1 Y R R (L.ld (j := 1) bx4.mem nag3 Y R R R R (L.bi Y R R R R (L.as Y R R (L.nil (X.seqN ?_)))))))
 rcases ifS hm with ⟨hc, hm⟩ | ⟨hc, hm⟩
 ·refine E.cT R hc (ER (L.as Y R R (LN (E.ret (X.blkR (X.seqR ?_))))))
  obtain rfl := oi hm
  exact X.rt (.inl R) Tryz.results51 (Rs.tmp R Rs.nil) R ⟨_, (s8).ren N (fun _ => 0), R, R, m0.ren hNb, R⟩
 refine E.cF R hc (E.skip (X.blkN (X.seqN (E.seq (ER (L.fa fa25_2 Y R R (L.ld (j := 2) bx4.mem nag22 Y R R R R (L.fa fa25_1 Y R R (L.ld (j := 1) bx4.mem nag3 Y R R R R ?_)))))))))
 obtain ⟨r10, er10, hm⟩ := bindS hm
 refine L.ca cf102 R R Y R (m_automaton_checkSet_c (s := s8) (p0 := p0.2.2.1) (p1 := p0.2.1) h2 er10) R ?_
 rintro _ s11 m12 rfl
 replace m0 := m0.trans m12.no
 replace bx4 := bx4.mv m12 no_No
 replace h1 := (h1.mono m9.z).mono m12.z
 replace h2 := h2.mono m12.z
 replace h3 := ((h3.mono m6.z).mono m9.z).mono m12.z
 refine L.as Y R R (LN (ER (L.mv Y R R (L.bi Y R R R R (L.nil (X.seqN ?_))))))
 rcases ifS hm with ⟨hc, hm⟩ | ⟨hc, hm⟩
 ·refine E.cT R hc (ER (L.mv Y R R (L.as Y R R (LN (E.ret (X.seqR ?_))))))
  obtain rfl := oi hm
  exact X.rt (.inl R) Tryz.results51 (Rs.tmp R Rs.nil) R ⟨_, (s11).ren N (fun _ => 0), R, R, m0.ren hNb, R⟩
 refine E.cF R hc (E.skip (X.seqN (ER (L.lg (j := 0) (cs := [.slice a1 p0.1.length c1, .int .i64 p0.2.1, .slice a2 p0.2.2.1.length c2, .slice a3 p0.2.2.2.length c3]) bx4.mem ag25 Y R R R R R ?_))))
 obtain ⟨r13, er13, hm⟩ := bindS hm
 refine L.ca cf103 R R Y R (m_automaton_checkEdges_c (s := s11) (p0 := p0) h1 h2 h3 er13) R ?_
 rintro _ s14 m15 rfl
 replace m0 := m0.trans m15.no
 refine L.as Y R R (LN (E.ret ?_))
 obtain rfl := oi hm
 exact X.rt (.inl R) Tryz.results51 (Rs.tmp R Rs.nil) R ⟨_, (s14).ren N (fun _ => 0), R, R, m0.ren hNb, R⟩

noncomputable def m_alphabet_merge_j4 (p2 : Bool → Bool → Option Bool) (st170 : List Int × List Int × List Int) (b177 : Bool) (b180 : Bool) (l183 : List Int) (l188 : List Int) (n190 : Int) : Option ((List Int × List Int × List Int) ⊕ (List Int)) :=
 (p2 b177 b180).bind fun r193 =>
 if r193 then
  (app st170.1 ([n190] : List Int)).bind fun x199 =>
  some (.inl (x199, l183, l188))
 else
  some (.inl (st170.1, l183, l188))
noncomputable def m_alphabet_merge_j3 (p2 : Bool → Bool → Option Bool) (st170 : List Int × List Int × List Int) (b177 : Bool) (b180 : Bool) (l183 : List Int) (n185 : Int) : Option ((List Int × List Int × List Int) ⊕ (List Int)) :=
 if b180 then
  (idx st170.2.2 0).bind fun x205 =>
  (slc st170.2.2 1 (st170.2.2.length : Int)).bind fun x210 =>
  m_alphabet_merge_j4 p2 st170 b177 b180 l183 x210 x205
 else
  m_alphabet_merge_j4 p2 st170 b177 b180 l183 st170.2.2 n185
noncomputable def m_alphabet_merge_j2 (p2 : Bool → Bool → Option Bool) (st170 : List Int × List Int × List Int) (b177 : Bool) (b180 : Bool) : Option ((List Int × List Int × List Int) ⊕ (List Int)) :=
 if b177 then
  (idx st170.2.1 0).bind fun x217 =>
  (slc st170.2.1 1 (st170.2.1.length : Int)).bind fun x222 =>
  m_alphabet_merge_j3 p2 st170 b177 b180 x222 x217
 else
  m_alphabet_merge_j3 p2 st170 b177 b180 st170.2.1 0
noncomputable def m_alphabet_merge_j1 (p2 : Bool → Bool → Option Bool) (st170 : List Int × List Int × List Int) (b177 : Bool) : Option ((List Int × List Int × List Int) ⊕ (List Int)) :=
 if decide ((st170.2.2.length : Int) > 0) then
  if ((st170.2.1.length : Int) == 0) then
   m_alphabet_merge_j2 p2 st170 b177 true
  else
   (idx st170.2.2 0).bind fun x250 =>
   (idx st170.2.1 0).bind fun x255 =>
   m_alphabet_merge_j2 p2 st170 b177 (decide (x250 ≤ x255))
 else
  m_alphabet_merge_j2 p2 st170 b177 false
noncomputable def m_alphabet_merge_l1 (p2 : Bool → Bool → Option Bool) (st170 : List Int × List Int × List Int) : Option ((List Int × List Int × List Int) ⊕ (List Int)) :=
 if ((decide ((st170.2.1.length : Int) > 0)) || (decide ((st170.2.2.length : Int) > 0))) then
  if decide ((st170.2.1.length : Int) > 0) then
   if ((st170.2.2.length : Int) == 0) then
    m_alphabet_merge_j1 p2 st170 true
   else
    (idx st170.2.1 0).bind fun x301 =>
    (idx st170.2.2 0).bind fun x306 =>
    m_alphabet_merge_j1 p2 st170 (decide (x301 ≤ x306))
  else
   m_alphabet_merge_j1 p2 st170 false
 else
  some (.inr st170.1)
noncomputable def m_alphabet_merge (p0 : List Int) (p1 : List Int) (p2 : Bool → Bool → Option Bool) : Option (List Int) :=
 (iter (m_alphabet_merge_l1 p2) (([] : List Int), p0, p1)).bind fun o170 =>
 some o170
abbrev m_alphabet_merge_w0 : List (List Nat) := [[], [0], [0, 1], [0, 1, 2], [0, 1, 2, 3], [0, 1, 2, 3, 4], [0, 1, 2, 3, 4, 5], [0, 1, 2, 3, 4, 5, 6], [0, 1, 2, 3, 4, 5, 6, 7], [0, 1, 2, 3, 4, 5, 6, 7, 8], [0, 1, 2, 3, 4, 5, 6, 7, 8, 9], [0, 1, 2, 3, 4, 5, 6, 7], [0, 1, 2, 3, 4, 5, 6, 7, 11], [0, 1, 2, 3, 4, 5, 6, 7, 11, 12], [0, 1, 2, 3, 4, 5, 6, 7, 8, 9, 10, 11, 12, 13], [0, 1, 2, 3, 4, 5, 6, 7, 8, 9, 10, 11, 12, 13, 14], [0, 1, 2, 3, 4, 5, 6, 7, 8, 9, 10, 11, 12, 13, 14, 15], [0, 1, 2, 3, 4, 5, 6, 7, 8, 9, 10, 11, 12, 13, 14, 15, 16]]
theorem m_alphabet_merge_c {s : Sig} {p0 : List Int} {p1 : List Int} {p2 : Bool → Bool → Option Bool} {a1 : Option Addr} {c1 : Nat} {a2 : Option Addr} {c2 : Nat} {vp2 : Value} {u0 : Nat} {r : List Int} (h1 : RdL qI s a1 c1 p0) (h2 : RdL qI s a2 c2 p1) (hp2 : FV2 Tryz.prog s vp2 (fun (x0 : Bool) (x1 : Bool) => [.bool x0, .bool x1]) (fun (r : Bool) => .bool r) p2) (hm : m_alphabet_merge p0 p1 p2 = some r) :
    Calls Tryz.prog 72 #[.slice a1 p0.length c1, .slice a2 p1.length c2, vp2] s.w (RetS No s fun v s' => ∃ (a3 : Option Addr) (c3 : Nat), v = .slice a3 r.length c3 ∧ RowT qI s' u0 3 a3 c3 r) := by
 unfold m_alphabet_merge at hm
 obtain ⟨N, hN, hNb⟩ := s.fresh
 have m0 : Mv (Up N No) s s := Mv.refl _ _
 refine E.entry Tryz.func72 R Tryz.ntmps72 R R (ER (L.as Y R R (LN (ER (L.as Y R R (LN (E.seq (E.block ?_))))))))
 obtain ⟨o170, eo170, hm⟩ := bindS hm
 refine E.cut (x := .exit 0) (fun e w => ∃ (s174 : Sig) (a172 : Option Addr) (c172 : Nat), Mv (Up N No) s s174 ∧ RowT qI s174 (N + 0) 3 a172 c172 o170 ∧ e = [(7, .slice a172 o170.length c172)] ∧ w = s174.w) ?_ ?_
 ·rintro _ _ ⟨s174, a172, c172, m0, h172, rfl, rfl⟩
  refine X.blkE (X.seqN (ER (L.mv Y R R (L.as Y R R (LN (E.ret ?_))))))
  obtain rfl := oi hm
  exact X.rt (.inl R) Tryz.results72 (Rs.tmp R Rs.nil) R ⟨_, (s174).ren N (fun k => cond (Nat.beq k 0) u0 (0)), R, R, m0.ren hNb, ⟨a172, c172, R, (h172.ren hN)⟩⟩
 intro K175
 refine E.iter (fun (st170 : List Int × List Int × List Int) (e : List (Nat × Value)) (w : World) => ∃ (s173 : Sig) (a5 : Option Addr) (c5 : Nat) (a7 : Option Addr) (c7 : Nat) (a9 : Option Addr) (c9 : Nat), Mv (Up N No) s s173 ∧ RowT qI s173 (N + 0) 3 a5 c5 st170.1 ∧ RdL qI s173 a7 c7 st170.2.1 ∧ RdL qI s173 a9 c9 st170.2.2 ∧ FV2 Tryz.prog s173 vp2 (fun (x0 : Bool) (x1 : Bool) => [.bool x0, .bool x1]) (fun (r : Bool) => .bool r) p2 ∧ e = [(7, .slice a5 st170.1.length c5), (0, .slice a7 st170.2.1.length c7), (1, .slice a9 st170.2.2.length c9), (2, vp2)] ∧ w = s173.w) eo170 ⟨s, none, 0, a1, c1, a2, c2, m0, RowT.nil, h1, h2, hp2, R, R⟩ (Sub.rf R) ?_
 rintro st170 res170 hm ih170 ho170 _ _ ⟨s173, a5, c5, a7, c7, a9, c9, m0, h5, h7, h9, hp2, rfl, rfl⟩
 unfold m_alphabet_merge_l1 at hm
 refine E.seq (ER (L.mv Y R R (L.len sl22 Y R R (L.bi Y R R R R (L.mv Y R R (L.cut 4 (fun e w => ∃ (v176 : Bool), ((decide ((st170.2.1.length : Int) > 0)) || (decide ((st170.2.2.length : Int) > 0))) = v176 ∧ e = (18, .bool v176) :: [(7, .slice a5 st170.1.length c5), (0, .slice a7 st170.2.1.length c7), (1, .slice a9 st170.2.2.length c9), (2, vp2)] ∧ w = s173.w) ?_ ?_))))))
 ·rintro _ _ ⟨v176, rfl, rfl, rfl⟩
  refine L.nil (X.seqN ?_)
  rcases ifS hm with ⟨hc, hm⟩ | ⟨hc, hm⟩
  ·refine E.cT R hc (E.skip (X.seqN (E.block (E.seqJ (fun e w => ∃ (s178 : Sig) (b177 : Bool), m_alphabet_merge_j1 p2 st170 b177 = some res170 ∧ Mv (Up N No) s s178 ∧ RowT qI s178 (N + 0) 3 a5 c5 st170.1 ∧ RdL qI s178 a7 c7 st170.2.1 ∧ RdL qI s178 a9 c9 st170.2.2 ∧ FV2 Tryz.prog s178 vp2 (fun (x0 : Bool) (x1 : Bool) => [.bool x0, .bool x1]) (fun (r : Bool) => .bool r) p2 ∧ e = [(8, .bool b177), (7, .slice a5 st170.1.length c5), (0, .slice a7 st170.2.1.length c7), (1, .slice a9 st170.2.2.length c9), (2, vp2)] ∧ w = s178.w) ?_ ?_))))
   ·rintro _ _ ⟨s178, b177, hm, m0, h5, h7, h9, hp2, rfl, rfl⟩
    unfold m_alphabet_merge_j1 at hm
    refine E.seqJ (fun e w => ∃ (s181 : Sig) (b180 : Bool), m_alphabet_merge_j2 p2 st170 b177 b180 = some res170 ∧ Mv (Up N No) s s181 ∧ RowT qI s181 (N + 0) 3 a5 c5 st170.1 ∧ RdL qI s181 a7 c7 st170.2.1 ∧ RdL qI s181 a9 c9 st170.2.2 ∧ FV2 Tryz.prog s181 vp2 (fun (x0 : Bool) (x1 : Bool) => [.bool x0, .bool x1]) (fun (r : Bool) => .bool r) p2 ∧ e = [(9, .bool b180), (8, .bool b177), (7, .slice a5 st170.1.length c5), (0, .slice a7 st170.2.1.length c7), (1, .slice a9 st170.2.2.length c9), (2, vp2)] ∧ w = s181.w) ?_ ?_
    ·rintro _ _ ⟨s181, b180, hm, m0, h5, h7, h9, hp2, rfl, rfl⟩
     unfold m_alphabet_merge_j2 at hm
     refine ER (L.as Y R R (LN (E.seqJ (fun e w => ∃ (s186 : Sig) (l183 : List Int) (n185 : Int) (a184 : Option Addr) (c184 : Nat), m_alphabet_merge_j3 p2 st170 b177 b180 l183 n185 = some res170 ∧ Mv (Up N No) s s186 ∧ RdL qI s186 a184 c184 l183 ∧ RowT qI s186 (N + 0) 3 a5 c5 st170.1 ∧ RdL qI s186 a9 c9 st170.2.2 ∧ FV2 Tryz.prog s186 vp2 (fun (x0 : Bool) (x1 : Bool) => [.bool x0, .bool x1]) (fun (r : Bool) => .bool r) p2 ∧ e = [(0, .slice a184 l183.length c184), (10, .int .i64 n185), (9, .bool b180), (8, .bool b177), (7, .slice a5 st170.1.length c5), (1, .slice a9 st170.2.2.length c9), (2, vp2)] ∧ w = s186.w) ?_ ?_)))
     ·rintro _ _ ⟨s186, l183, n185, a184, c184, hm, m0, h184, h5, h9, hp2, rfl, rfl⟩
      unfold m_alphabet_merge_j3 at hm
      refine E.seqJ (fun e w => ∃ (s191 : Sig) (l188 : List Int) (n190 : Int) (a189 : Option Addr) (c189 : Nat), m_alphabet_merge_j4 p2 st170 b177 b180 l183 l188 n190 = some res170 ∧ Mv (Up N No) s s191 ∧ RdL qI s191 a189 c189 l188 ∧ RdL qI s191 a184 c184 l183 ∧ RowT qI s191 (N + 0) 3 a5 c5 st170.1 ∧ FV2 Tryz.prog s191 vp2 (fun (x0 : Bool) (x1 : Bool) => [.bool x0, .bool x1]) (fun (r : Bool) => .bool r) p2 ∧ e = [(1, .slice a189 l188.length c189), (10, .int .i64 n190), (0, .slice a184 l183.length c184), (9, .bool b180), (8, .bool b177), (7, .slice a5 st170.1.length c5), (2, vp2)] ∧ w = s191.w) ?_ ?_
      ·rintro _ _ ⟨s191, l188, n190, a189, c189, hm, m0, h189, h184, h5, hp2, rfl, rfl⟩
       unfold m_alphabet_merge_j4 at hm
       refine ER (L.mv Y R R (L.mv Y R R (L.mv Y R R ?_)))
       obtain ⟨r193, er193, hm⟩ := bindS hm
       refine L.fv2 (y := b177) (z := b180) hp2 R R Y R R er193 R fun s194 m195 => ?_
       replace m0 := m0.trans m195.no
       replace h184 := h184.mono m195.z
       replace h189 := h189.mono m195.z
       replace hp2 := hp2.mono m195.z
       replace h5 := h5.mv m195 no_No no_No
       refine L.nil (X.seqN ?_)
       rcases ifS hm with ⟨hc, hm⟩ | ⟨hc, hm⟩
       ·refine E.cT R hc (E.reg (L.mv Y R R (L.mv Y R R (L.bsE (k := 1) (cs := [.int .i64 n190]) 0 bs22 (nb R) Y R R R R fun b196 s197 m198 bx196 => ?_))))
        replace h5 := h5.mv m198 no_No no_No
        have h196 := Bx.rdL (r := qI) (xs := ([n190] : List Int)) bx196 ⟨[.int .i64 n190], _, R, R, R⟩ (nb R)
        obtain ⟨x199, ex199, hm⟩ := bindS hm
        refine L.ap (r := qI) Tryz.underlying22 el3 R (tgp hN) h5 h196.wk Y R R ex199 R fun a200 c200 s201 m202 h200 => ?_
        replace m0 := (m0.trans m198.no).trans (m202.one up)
        replace h184 := (h184.mono m198.z).mono (m202.le (tg0 hN))
        replace h189 := (h189.mono m198.z).mono (m202.le (tg0 hN))
        replace hp2 := (hp2.mono m198.z).mono (m202.le (tg0 hN))
        exact L.as Y R R (L.nil (X.blkN (X.sub (ih170 _ (oi hm).symm _ _ ⟨s201, a200, c200, a184, c184, a189, c189, m0, h200, h184, h189, hp2, R, R⟩) (Sub.rf R))))
       exact E.cF R hc (E.skip (X.blkN (X.sub (ih170 _ (oi hm).symm _ _ ⟨s194, a5, c5, a184, c184, a189, c189, m0, h5, h184, h189, hp2, R, R⟩) (Sub.rf R))))
      intro Jj192
      refine ER (L.mv Y R R (L.nil (X.seqN ?_)))
      rcases ifS hm with ⟨hc, hm⟩ | ⟨hc, hm⟩
      ·refine E.cT R hc ?_
       obtain ⟨x205, ex205, hm⟩ := bindS hm
       obtain ⟨x210, ex210, hm⟩ := bindS hm
       refine E.draw [[], [0], [0, 1], [], [3], [0, 1, 2], [0, 1, 2, 3, 4, 5]] (fun D e sx => Mv No s186 sx ∧ Sub [(0, .slice a184 l183.length c184), (9, .bool b180), (8, .bool b177), (7, .slice a5 st170.1.length c5), (2, vp2)] e ∧ AllP [D 6 = false → Env.get e 1 = some (.slice a9 st170.2.2.length c9), G D e 0 60 (.slice a9 st170.2.2.length c9), D 1 = true → (∃ (b206 : Nat) (o206 : Nat), Env.get e 61 = some (.pointer (some ⟨b206, o206, none⟩)) ∧ Mem sx 0 b206 o206 [.int .i64 x205]), G D e 2 62 (.int .i64 x205), G D e 3 63 (.slice a9 st170.2.2.length c9), D 4 = true → (∃ (a211 : Option Addr) (c211 : Nat), Env.get e 64 = some (.slice a211 x210.length c211) ∧ RdL qI sx a211 c211 x210), G D e 5 10 (.int .i64 x205), D 6 = true → ∀ (a211 : Option Addr) (c211 : Nat), Env.get e 64 = some (.slice a211 x210.length c211) → (Env.get e 1 = some (.slice a211 x210.length c211))]) (by kernel_rfl) (by kernel_rfl) (by kernel_rfl) ?_ ?_ ?_
       ·intro sz mz
        exact ⟨mz, (Sub.rf R), fun _ => R, nofun, nofun, nofun, nofun, nofun, nofun, nofun, trivial⟩
       ·refine ⟨?_, ?_, ?_, ?_, ?_, ?_, ?_, trivial⟩
        ·rintro D e s203 ⟨im, ib, i⟩ hk hf ha
         have kn := K1 ((i.p 0) (hf 6 (nb R) R))
         exact kn.g (L.mv Y R R (L.nil (X.dk kn ⟨im, Sub.fresh ib R, i.u 1 (fun _ => R)⟩)))
        ·rintro D e s204 ⟨im, ib, i⟩ hk hf ha
         have h9 := h9.mono im.z
         have kn := K1 ((i.p 1) (ha.at 0 R))
         refine kn.g (L.ix (r := qI) sl22 h9 Y R R ex205 R fun b206 o206 cc206 me206 rd206 => ?_)
         obtain rfl := rd206
         exact L.nil (X.dk kn ⟨im, Sub.fresh ib R, i.u 2 (fun _ => ⟨b206, o206, R, me206⟩)⟩)
        ·rintro D e s207 ⟨im, ib, i⟩ hk hf ha
         obtain ⟨b206, o206, g1_, me206⟩ := (i.p 2) (ha.at 1 R)
         have kn := K1 g1_
         exact kn.g (L.ld (j := 0) me206 nag3 Y R R R R (L.nil (X.dk kn ⟨im, Sub.fresh ib R, i.u 3 (fun _ => R)⟩)))
        ·rintro D e s208 ⟨im, ib, i⟩ hk hf ha
         have kn := K1 ((i.p 0) (hf 6 (nb R) R))
         exact kn.g (L.mv Y R R (L.nil (X.dk kn ⟨im, Sub.fresh ib R, i.u 4 (fun _ => R)⟩)))
        ·rintro D e s209 ⟨im, ib, i⟩ hk hf ha
         have h9 := h9.mono im.z
         have kn := K1 ((i.p 4) (ha.at 3 R))
         exact kn.g (L.sf (r := qI) sl22 h9 Y R R ex210 R fun a211 c211 h211 => L.nil (X.dk kn ⟨im, Sub.fresh ib R, (i.u 5 (fun _ => ⟨a211, c211, R, h211⟩)).u 7 (fun z => Bool.noConfusion ((hf 6 (nb R) R).symm.trans z))⟩))
        ·rintro D e s212 ⟨im, ib, i⟩ hk hf ha
         have kn := K1 ((i.p 3) (ha.at 2 R))
         exact kn.g (L.as Y R R (L.nil (X.dk kn ⟨im, Sub.fresh ib R, i.u 6 (fun _ => R)⟩)))
        rintro D e s213 ⟨im, ib, i⟩ hk hf ha
        obtain ⟨a211, c211, g4_, h211⟩ := (i.p 5) (ha.at 4 R)
        have kn := K1 g4_
        exact kn.g (L.as Y R R (L.nil (X.dk kn ⟨im, Sub.fresh ib R, (i.u 0 (fun z => Bool.noConfusion (show true = false from z))).u 7 (fun _ _ _ q4 => by cases g4_.symm.trans q4; exact R)⟩)))
       rintro D e s214 hD ⟨im, ib, i⟩
       obtain ⟨a211, c211, g4_, h211⟩ := (i.p 5) (hD 4 R)
       have g5_ := (i.p 6) (hD 5 R)
       have g6_ := (i.p 7) (hD 6 R) a211 c211 g4_
       have h184 := h184.mono im.z
       have h5 := h5.mv im no_No no_No
       have hp2 := hp2.mono im.z
       have m0 := m0.trans im.no
       refine X.sub (e' := [(1, .slice a211 x210.length c211), (10, .int .i64 x205), (0, .slice a184 l183.length c184), (9, .bool b180), (8, .bool b177), (7, .slice a5 st170.1.length c5), (2, vp2)]) ?_ (Sub.cons g6_ (Sub.cons g5_ (Sub.cons (ib 0 _ R) (Sub.cons (ib 9 _ R) (Sub.cons (ib 8 _ R) (Sub.cons (ib 7 _ R) (Sub.cons (ib 2 _ R) Sub.nil)))))))
       exact X.sub (Jj192 _ _ ⟨s214, x210, x205, a211, c211, hm, m0, h211, h184, h5, hp2, R, R⟩) (Sub.rf R)
      exact E.cF R hc (E.skip (X.sub (Jj192 _ _ ⟨s186, st170.2.2, n185, a9, c9, hm, m0, h9, h184, h5, hp2, R, R⟩) (Sub.rf R)))
     intro Jj187
     refine ER (L.mv Y R R (L.nil (X.seqN ?_)))
     rcases ifS hm with ⟨hc, hm⟩ | ⟨hc, hm⟩
     ·refine E.cT R hc ?_
      obtain ⟨x217, ex217, hm⟩ := bindS hm
      obtain ⟨x222, ex222, hm⟩ := bindS hm
      refine E.draw [[], [0], [0, 1], [], [3], [0, 1, 2], [0, 1, 2, 3, 4, 5]] (fun D e sx => Mv No s181 sx ∧ Sub [(9, .bool b180), (8, .bool b177), (7, .slice a5 st170.1.length c5), (1, .slice a9 st170.2.2.length c9), (2, vp2)] e ∧ AllP [D 6 = false → Env.get e 0 = some (.slice a7 st170.2.1.length c7), G D e 0 54 (.slice a7 st170.2.1.length c7), D 1 = true → (∃ (b218 : Nat) (o218 : Nat), Env.get e 55 = some (.pointer (some ⟨b218, o218, none⟩)) ∧ Mem sx 0 b218 o218 [.int .i64 x217]), G D e 2 56 (.int .i64 x217), G D e 3 57 (.slice a7 st170.2.1.length c7), D 4 = true → (∃ (a223 : Option Addr) (c223 : Nat), Env.get e 58 = some (.slice a223 x222.length c223) ∧ RdL qI sx a223 c223 x222), G D e 5 10 (.int .i64 x217), D 6 = true → ∀ (a223 : Option Addr) (c223 : Nat), Env.get e 58 = some (.slice a223 x222.length c223) → (Env.get e 0 = some (.slice a223 x222.length c223))]) (by kernel_rfl) (by kernel_rfl) (by kernel_rfl) ?_ ?_ ?_
      ·intro sz mz
       exact ⟨mz, (Sub.rf R), fun _ => R, nofun, nofun, nofun, nofun, nofun, nofun, nofun, trivial⟩
      ·refine ⟨?_, ?_, ?_, ?_, ?_, ?_, ?_, trivial⟩
       ·rintro D e s215 ⟨im, ib, i⟩ hk hf ha
        have kn := K1 ((i.p 0) (hf 6 (nb R) R))
        exact kn.g (L.mv Y R R (L.nil (X.dk kn ⟨im, Sub.fresh ib R, i.u 1 (fun _ => R)⟩)))
       ·rintro D e s216 ⟨im, ib, i⟩ hk hf ha
        have h7 := h7.mono im.z
        have kn := K1 ((i.p 1) (ha.at 0 R))
        refine kn.g (L.ix (r := qI) sl22 h7 Y R R ex217 R fun b218 o218 cc218 me218 rd218 => ?_)
        obtain rfl := rd218
        exact L.nil (X.dk kn ⟨im, Sub.fresh ib R, i.u 2 (fun _ => ⟨b218, o218, R, me218⟩)⟩)
       ·rintro D e s219 ⟨im, ib, i⟩ hk hf ha
        obtain ⟨b218, o218, g1_, me218⟩ := (i.p 2) (ha.at 1 R)
        have kn := K1 g1_
        exact kn.g (L.ld (j := 0) me218 nag3 Y R R R R (L.nil (X.dk kn ⟨im, Sub.fresh ib R, i.u 3 (fun _ => R)⟩)))
       ·rintro D e s220 ⟨im, ib, i⟩ hk hf ha
        have kn := K1 ((i.p 0) (hf 6 (nb R) R))
        exact kn.g (L.mv Y R R (L.nil (X.dk kn ⟨im, Sub.fresh ib R, i.u 4 (fun _ => R)⟩)))
       ·rintro D e s221 ⟨im, ib, i⟩ hk hf ha
        have h7 := h7.mono im.z
        have kn := K1 ((i.p 4) (ha.at 3 R))
        exact kn.g (L.sf (r := qI) sl22 h7 Y R R ex222 R fun a223 c223 h223 => L.nil (X.dk kn ⟨im, Sub.fresh ib R, (i.u 5 (fun _ => ⟨a223, c223, R, h223⟩)).u 7 (fun z => Bool.noConfusion ((hf 6 (nb R) R).symm.trans z))⟩))
       ·rintro D e s224 ⟨im, ib, i⟩ hk hf ha
        have kn := K1 ((i.p 3) (ha.at 2 R))
        exact kn.g (L.as Y R R (L.nil (X.dk kn ⟨im, Sub.fresh ib R, i.u 6 (fun _ => R)⟩)))
       rintro D e s225 ⟨im, ib, i⟩ hk hf ha
       obtain ⟨a223, c223, g4_, h223⟩ := (i.p 5) (ha.at 4 R)
       have kn := K1 g4_
       exact kn.g (L.as Y R R (L.nil (X.dk kn ⟨im, Sub.fresh ib R, (i.u 0 (fun z => Bool.noConfusion (show true = false from z))).u 7 (fun _ _ _ q4 => by cases g4_.symm.trans q4; exact R)⟩)))
      rintro D e s226 hD ⟨im, ib, i⟩
      obtain ⟨a223, c223, g4_, h223⟩ := (i.p 5) (hD 4 R)
      have g5_ := (i.p 6) (hD 5 R)
      have g6_ := (i.p 7) (hD 6 R) a223 c223 g4_
      have h5 := h5.mv im no_No no_No
      have h9 := h9.mono im.z
      have hp2 := hp2.mono im.z
      have m0 := m0.trans im.no
      refine X.sub (e' := [(0, .slice a223 x222.length c223), (10, .int .i64 x217), (9, .bool b180), (8, .bool b177), (7, .slice a5 st170.1.length c5), (1, .slice a9 st170.2.2.length c9), (2, vp2)]) ?_ (Sub.cons g6_ (Sub.cons g5_ (Sub.cons (ib 9 _ R) (Sub.cons (ib 8 _ R) (Sub.cons (ib 7 _ R) (Sub.cons (ib 1 _ R) (Sub.cons (ib 2 _ R) Sub.nil)))))))
      exact X.sub (Jj187 _ _ ⟨s226, x222, x217, a223, c223, hm, m0, h223, h5, h9, hp2, R, R⟩) (Sub.rf R)
     exact E.cF R hc (E.skip (X.sub (Jj187 _ _ ⟨s181, st170.2.1, 0, a7, c7, hm, m0, h7, h5, h9, hp2, R, R⟩) (Sub.rf R)))
    intro Jj182
    rcases ifS hm with ⟨hc231, hm⟩ | ⟨hc231, hm⟩
    ·have _ := hN
     rcases ifS hm with ⟨hc236, hm⟩ | ⟨hc236, hm⟩
     ·have _ := hN
      refine E.draw m_alphabet_merge_w0 (fun D e sx => Mv No s178 sx ∧ Sub [(8, .bool b177), (7, .slice a5 st170.1.length c5), (0, .slice a7 st170.2.1.length c7), (1, .slice a9 st170.2.2.length c9), (2, vp2)] e ∧ AllP [G D e 0 36 (.slice a9 st170.2.2.length c9), G D e 1 37 (.int .i64 (st170.2.2.length : Int)), G D e 2 38 (.bool (decide ((st170.2.2.length : Int) > 0))), G D e 3 39 (.bool (decide ((st170.2.2.length : Int) > 0))), G D e 4 40 (.slice a7 st170.2.1.length c7), G D e 5 41 (.int .i64 (st170.2.1.length : Int)), G D e 6 42 (.bool ((st170.2.1.length : Int) == 0)), G D e 7 43 (.bool ((st170.2.1.length : Int) == 0)), G D e 8 44 undef, G D e 9 45 undef, G D e 10 46 undef, G D e 11 47 undef, G D e 12 48 undef, G D e 13 49 undef, G D e 14 50 undef, G D e 15 51 (.bool true), G D e 16 52 (.bool true), G D e 17 9 (.bool true)]) (by kernel_rfl) (by kernel_rfl) (by kernel_rfl) ?_ ?_ ?_
      ·intro sz mz
       exact ⟨mz, (Sub.rf R), nofun, nofun, nofun, nofun, nofun, nofun, nofun, nofun, nofun, nofun, nofun, nofun, nofun, nofun, nofun, nofun, nofun, nofun, trivial⟩
      ·refine ⟨?_, ?_, ?_, ?_, ?_, ?_, ?_, ?_, ?_, ?_, ?_, ?_, ?_, ?_, ?_, ?_, ?_, ?_, trivial⟩
       ·rintro D e s227 ⟨im, ib, i⟩ hk hf ha
        have kn := K1 (ib 1 _ R)
        exact kn.g (L.mv Y R R (L.nil (X.dk kn ⟨im, Sub.fresh ib R, i.u 0 (fun _ => R)⟩)))
       ·rintro D e s228 ⟨im, ib, i⟩ hk hf ha
        have kn := K1 ((i.p 0) (ha.at 0 R))
        exact kn.g (L.len sl22 Y R R (L.nil (X.dk kn ⟨im, Sub.fresh ib R, i.u 1 (fun _ => R)⟩)))
       ·rintro D e s229 ⟨im, ib, i⟩ hk hf ha
        have kn := K1 ((i.p 1) (ha.at 1 R))
        exact kn.g (L.bi Y R R R R (L.nil (X.dk kn ⟨im, Sub.fresh ib R, i.u 2 (fun _ => R)⟩)))
       ·rintro D e s230 ⟨im, ib, i⟩ hk hf ha
        have kn := K1 ((i.p 2) (ha.at 2 R))
        exact kn.g (L.mv Y R R (L.nil (X.dk kn ⟨im, Sub.fresh ib R, i.u 3 (fun _ => R)⟩)))
       ·rintro D e s232 ⟨im, ib, i⟩ hk hf ha
        have g3_ := (i.p 3) (ha.at 3 R)
        rw [hc231] at g3_
        have kn := K2 (ib 0 _ R) g3_
        exact kn.g (L.mv (Wt.mk R R) R R (L.nil (X.dk kn ⟨im, Sub.fresh ib R, i.u 4 (fun _ => R)⟩)))
       ·rintro D e s233 ⟨im, ib, i⟩ hk hf ha
        have g3_ := (i.p 3) (ha.at 3 R)
        rw [hc231] at g3_
        have kn := K2 ((i.p 4) (ha.at 4 R)) g3_
        exact kn.g (L.len sl22 (Wt.mk R R) R R (L.nil (X.dk kn ⟨im, Sub.fresh ib R, i.u 5 (fun _ => R)⟩)))
       ·rintro D e s234 ⟨im, ib, i⟩ hk hf ha
        have g3_ := (i.p 3) (ha.at 3 R)
        rw [hc231] at g3_
        have kn := K2 ((i.p 5) (ha.at 5 R)) g3_
        exact kn.g (L.bi (Wt.mk R R) R R R R (L.nil (X.dk kn ⟨im, Sub.fresh ib R, i.u 6 (fun _ => R)⟩)))
       ·rintro D e s235 ⟨im, ib, i⟩ hk hf ha
        have g3_ := (i.p 3) (ha.at 3 R)
        rw [hc231] at g3_
        have kn := K2 ((i.p 6) (ha.at 6 R)) g3_
        exact kn.g (L.mv (Wt.mk R R) R R (L.nil (X.dk kn ⟨im, Sub.fresh ib R, i.u 7 (fun _ => R)⟩)))
       ·rintro D e s237 ⟨im, ib, i⟩ hk hf ha
        have g7_ := (i.p 7) (ha.at 7 R)
        rw [hc236] at g7_
        have kn := K2 (ib 1 _ R) g7_
        exact kn.g (L.skip R R R R (L.nil (X.dk kn ⟨im, Sub.fresh ib R, i.u 8 (fun _ => R)⟩)))
       ·rintro D e s238 ⟨im, ib, i⟩ hk hf ha
        have g7_ := (i.p 7) (ha.at 7 R)
        rw [hc236] at g7_
        have kn := K2 ((i.p 8) (ha.at 8 R)) g7_
        exact kn.g (L.skip R R R R (L.nil (X.dk kn ⟨im, Sub.fresh ib R, i.u 9 (fun _ => R)⟩)))
       ·rintro D e s239 ⟨im, ib, i⟩ hk hf ha
        have g7_ := (i.p 7) (ha.at 7 R)
        rw [hc236] at g7_
        have kn := K2 ((i.p 9) (ha.at 9 R)) g7_
        exact kn.g (L.skip R R R R (L.nil (X.dk kn ⟨im, Sub.fresh ib R, i.u 10 (fun _ => R)⟩)))
       ·rintro D e s240 ⟨im, ib, i⟩ hk hf ha
        have g7_ := (i.p 7) (ha.at 7 R)
        rw [hc236] at g7_
        have kn := K2 (ib 0 _ R) g7_
        exact kn.g (L.skip R R R R (L.nil (X.dk kn ⟨im, Sub.fresh ib R, i.u 11 (fun _ => R)⟩)))
       ·rintro D e s241 ⟨im, ib, i⟩ hk hf ha
        have g7_ := (i.p 7) (ha.at 7 R)
        rw [hc236] at g7_
        have kn := K2 ((i.p 11) (ha.at 11 R)) g7_
        exact kn.g (L.skip R R R R (L.nil (X.dk kn ⟨im, Sub.fresh ib R, i.u 12 (fun _ => R)⟩)))
       ·rintro D e s242 ⟨im, ib, i⟩ hk hf ha
        have g7_ := (i.p 7) (ha.at 7 R)
        rw [hc236] at g7_
        have kn := K2 ((i.p 12) (ha.at 12 R)) g7_
        exact kn.g (L.skip R R R R (L.nil (X.dk kn ⟨im, Sub.fresh ib R, i.u 13 (fun _ => R)⟩)))
       ·rintro D e s243 ⟨im, ib, i⟩ hk hf ha
        have g7_ := (i.p 7) (ha.at 7 R)
        rw [hc236] at g7_
        have kn := K3 ((i.p 10) (ha.at 10 R)) ((i.p 13) (ha.at 13 R)) g7_
        exact kn.g (L.skip R R R R (L.nil (X.dk kn ⟨im, Sub.fresh ib R, i.u 14 (fun _ => R)⟩)))
       ·rintro D e s244 ⟨im, ib, i⟩ hk hf ha
        have g3_ := (i.p 3) (ha.at 3 R)
        have g7_ := (i.p 7) (ha.at 7 R)
        rw [hc236] at g7_
        rw [hc231] at g3_
        have kn := K3 g7_ ((i.p 14) (ha.at 14 R)) g3_
        exact kn.g (L.pkT (Wt.mk R R) R R R R (L.nil (X.dk kn ⟨im, Sub.fresh ib R, i.u 15 (fun _ => R)⟩)))
       ·rintro D e s245 ⟨im, ib, i⟩ hk hf ha
        have g3_ := (i.p 3) (ha.at 3 R)
        rw [hc231] at g3_
        have kn := K2 g3_ ((i.p 15) (ha.at 15 R))
        exact kn.g (L.pkT Y R R R R (L.nil (X.dk kn ⟨im, Sub.fresh ib R, i.u 16 (fun _ => R)⟩)))
       rintro D e s246 ⟨im, ib, i⟩ hk hf ha
       have kn := K1 ((i.p 16) (ha.at 16 R))
       exact kn.g (L.as Y R R (L.nil (X.dk kn ⟨im, Sub.fresh ib R, i.u 17 (fun _ => R)⟩)))
      rintro D e s247 hD ⟨im, ib, i⟩
      have g17_ := (i.p 17) (hD 17 R)
      have h5 := h5.mv im no_No no_No
      have h7 := h7.mono im.z
      have h9 := h9.mono im.z
      have hp2 := hp2.mono im.z
      have m0 := m0.trans im.no
      refine X.sub (e' := [(9, .bool true), (8, .bool b177), (7, .slice a5 st170.1.length c5), (0, .slice a7 st170.2.1.length c7), (1, .slice a9 st170.2.2.length c9), (2, vp2)]) ?_ (Sub.cons g17_ (Sub.cons (ib 8 _ R) (Sub.cons (ib 7 _ R) (Sub.cons (ib 0 _ R) (Sub.cons (ib 1 _ R) (Sub.cons (ib 2 _ R) Sub.nil))))))
      exact X.sub (Jj182 _ _ ⟨s247, true, hm, m0, h5, h7, h9, hp2, R, R⟩) (Sub.rf R)
     have _ := hN
     obtain ⟨x250, ex250, hm⟩ := bindS hm
     obtain ⟨x255, ex255, hm⟩ := bindS hm
     refine E.draw m_alphabet_merge_w0 (fun D e sx => Mv No s178 sx ∧ Sub [(8, .bool b177), (7, .slice a5 st170.1.length c5), (0, .slice a7 st170.2.1.length c7), (1, .slice a9 st170.2.2.length c9), (2, vp2)] e ∧ AllP [G D e 0 36 (.slice a9 st170.2.2.length c9), G D e 1 37 (.int .i64 (st170.2.2.length : Int)), G D e 2 38 (.bool (decide ((st170.2.2.length : Int) > 0))), G D e 3 39 (.bool (decide ((st170.2.2.length : Int) > 0))), G D e 4 40 (.slice a7 st170.2.1.length c7), G D e 5 41 (.int .i64 (st170.2.1.length : Int)), G D e 6 42 (.bool ((st170.2.1.length : Int) == 0)), G D e 7 43 (.bool ((st170.2.1.length : Int) == 0)), G D e 8 44 (.slice a9 st170.2.2.length c9), D 9 = true → (∃ (b251 : Nat) (o251 : Nat), Env.get e 45 = some (.pointer (some ⟨b251, o251, none⟩)) ∧ Mem sx 0 b251 o251 [.int .i64 x250]), G D e 10 46 (.int .i64 x250), G D e 11 47 (.slice a7 st170.2.1.length c7), D 12 = true → (∃ (b256 : Nat) (o256 : Nat), Env.get e 48 = some (.pointer (some ⟨b256, o256, none⟩)) ∧ Mem sx 0 b256 o256 [.int .i64 x255]), G D e 13 49 (.int .i64 x255), G D e 14 50 (.bool (decide (x250 ≤ x255))), G D e 15 51 (.bool (decide (x250 ≤ x255))), G D e 16 52 (.bool (decide (x250 ≤ x255))), G D e 17 9 (.bool (decide (x250 ≤ x255)))]) (by kernel_rfl) (by kernel_rfl) (by kernel_rfl) ?_ ?_ ?_
     ·intro sz mz
      exact ⟨mz, (Sub.rf R), nofun, nofun, nofun, nofun, nofun, nofun, nofun, nofun, nofun, nofun, nofun, nofun, nofun, nofun, nofun, nofun, nofun, nofun, trivial⟩
     ·refine ⟨?_, ?_, ?_, ?_, ?_, ?_, ?_, ?_, ?_, ?_, ?_, ?_, ?_, ?_, ?_, ?_, ?_, ?_, trivial⟩
      ·rintro D e s227 ⟨im, ib, i⟩ hk hf ha
       have kn := K1 (ib 1 _ R)
       exact kn.g (L.mv Y R R (L.nil (X.dk kn ⟨im, Sub.fresh ib R, i.u 0 (fun _ => R)⟩)))
      ·rintro D e s228 ⟨im, ib, i⟩ hk hf ha
       have kn := K1 ((i.p 0) (ha.at 0 R))
       exact kn.g (L.len sl22 Y R R (L.nil (X.dk kn ⟨im, Sub.fresh ib R, i.u 1 (fun _ => R)⟩)))
      ·rintro D e s229 ⟨im, ib, i⟩ hk hf ha
       have kn := K1 ((i.p 1) (ha.at 1 R))
       exact kn.g (L.bi Y R R R R (L.nil (X.dk kn ⟨im, Sub.fresh ib R, i.u 2 (fun _ => R)⟩)))
      ·rintro D e s230 ⟨im, ib, i⟩ hk hf ha
       have kn := K1 ((i.p 2) (ha.at 2 R))
       exact kn.g (L.mv Y R R (L.nil (X.dk kn ⟨im, Sub.fresh ib R, i.u 3 (fun _ => R)⟩)))
      ·rintro D e s232 ⟨im, ib, i⟩ hk hf ha
       have g3_ := (i.p 3) (ha.at 3 R)
       rw [hc231] at g3_
       have kn := K2 (ib 0 _ R) g3_
       exact kn.g (L.mv (Wt.mk R R) R R (L.nil (X.dk kn ⟨im, Sub.fresh ib R, i.u 4 (fun _ => R)⟩)))
      ·rintro D e s233 ⟨im, ib, i⟩ hk hf ha
       have g3_ := (i.p 3) (ha.at 3 R)
       rw [hc231] at g3_
       have kn := K2 ((i.p 4) (ha.at 4 R)) g3_
       exact kn.g (L.len sl22 (Wt.mk R R) R R (L.nil (X.dk kn ⟨im, Sub.fresh ib R, i.u 5 (fun _ => R)⟩)))
      ·rintro D e s234 ⟨im, ib, i⟩ hk hf ha
       have g3_ := (i.p 3) (ha.at 3 R)
       rw [hc231] at g3_
       have kn := K2 ((i.p 5) (ha.at 5 R)) g3_
       exact kn.g (L.bi (Wt.mk R R) R R R R (L.nil (X.dk kn ⟨im, Sub.fresh ib R, i.u 6 (fun _ => R)⟩)))
      ·rintro D e s235 ⟨im, ib, i⟩ hk hf ha
       have g3_ := (i.p 3) (ha.at 3 R)
       rw [hc231] at g3_
       have kn := K2 ((i.p 6) (ha.at 6 R)) g3_
       exact kn.g (L.mv (Wt.mk R R) R R (L.nil (X.dk kn ⟨im, Sub.fresh ib R, i.u 7 (fun _ => R)⟩)))
      ·rintro D e s248 ⟨im, ib, i⟩ hk hf ha
       have g7_ := (i.p 7) (ha.at 7 R)
       rw [hc236] at g7_
       have kn := K2 (ib 1 _ R) g7_
       exact kn.g (L.mv (Wt.mk R R) R R (L.nil (X.dk kn ⟨im, Sub.fresh ib R, i.u 8 (fun _ => R)⟩)))
      ·rintro D e s249 ⟨im, ib, i⟩ hk hf ha
       have g7_ := (i.p 7) (ha.at 7 R)
       have h9 := h9.mono im.z
       rw [hc236] at g7_
       have kn := K2 ((i.p 8) (ha.at 8 R)) g7_
       refine kn.g (L.ix (r := qI) sl22 h9 (Wt.mk R R) R R ex250 R fun b251 o251 cc251 me251 rd251 => ?_)
       obtain rfl := rd251
       exact L.nil (X.dk kn ⟨im, Sub.fresh ib R, i.u 9 (fun _ => ⟨b251, o251, R, me251⟩)⟩)
      ·rintro D e s252 ⟨im, ib, i⟩ hk hf ha
       have g7_ := (i.p 7) (ha.at 7 R)
       obtain ⟨b251, o251, g9_, me251⟩ := (i.p 9) (ha.at 9 R)
       rw [hc236] at g7_
       have kn := K2 g9_ g7_
       exact kn.g (L.ld (j := 0) me251 nag3 (Wt.mk R R) R R R R (L.nil (X.dk kn ⟨im, Sub.fresh ib R, i.u 10 (fun _ => R)⟩)))
      ·rintro D e s253 ⟨im, ib, i⟩ hk hf ha
       have g7_ := (i.p 7) (ha.at 7 R)
       rw [hc236] at g7_
       have kn := K2 (ib 0 _ R) g7_
       exact kn.g (L.mv (Wt.mk R R) R R (L.nil (X.dk kn ⟨im, Sub.fresh ib R, i.u 11 (fun _ => R)⟩)))
      ·rintro D e s254 ⟨im, ib, i⟩ hk hf ha
       have g7_ := (i.p 7) (ha.at 7 R)
       have h7 := h7.mono im.z
       rw [hc236] at g7_
       have kn := K2 ((i.p 11) (ha.at 11 R)) g7_
       refine kn.g (L.ix (r := qI) sl22 h7 (Wt.mk R R) R R ex255 R fun b256 o256 cc256 me256 rd256 => ?_)
       obtain rfl := rd256
       exact L.nil (X.dk kn ⟨im, Sub.fresh ib R, i.u 12 (fun _ => ⟨b256, o256, R, me256⟩)⟩)
      ·rintro D e s257 ⟨im, ib, i⟩ hk hf ha
       have g7_ := (i.p 7) (ha.at 7 R)
       obtain ⟨b256, o256, g12_, me256⟩ := (i.p 12) (ha.at 12 R)
       rw [hc236] at g7_
       have kn := K2 g12_ g7_
       exact kn.g (L.ld (j := 0) me256 nag3 (Wt.mk R R) R R R R (L.nil (X.dk kn ⟨im, Sub.fresh ib R, i.u 13 (fun _ => R)⟩)))
      ·rintro D e s258 ⟨im, ib, i⟩ hk hf ha
       have g7_ := (i.p 7) (ha.at 7 R)
       rw [hc236] at g7_
       have kn := K3 ((i.p 10) (ha.at 10 R)) ((i.p 13) (ha.at 13 R)) g7_
       exact kn.g (L.bi (Wt.mk R R) R R R R (L.nil (X.dk kn ⟨im, Sub.fresh ib R, i.u 14 (fun _ => R)⟩)))
      ·rintro D e s259 ⟨im, ib, i⟩ hk hf ha
       have g3_ := (i.p 3) (ha.at 3 R)
       have g7_ := (i.p 7) (ha.at 7 R)
       rw [hc236] at g7_
       rw [hc231] at g3_
       have kn := K3 g7_ ((i.p 14) (ha.at 14 R)) g3_
       exact kn.g (L.pkF (Wt.mk R R) R R R R (L.nil (X.dk kn ⟨im, Sub.fresh ib R, i.u 15 (fun _ => R)⟩)))
      ·rintro D e s260 ⟨im, ib, i⟩ hk hf ha
       have g3_ := (i.p 3) (ha.at 3 R)
       rw [hc231] at g3_
       have kn := K2 g3_ ((i.p 15) (ha.at 15 R))
       exact kn.g (L.pkT Y R R R R (L.nil (X.dk kn ⟨im, Sub.fresh ib R, i.u 16 (fun _ => R)⟩)))
      rintro D e s261 ⟨im, ib, i⟩ hk hf ha
      have kn := K1 ((i.p 16) (ha.at 16 R))
      exact kn.g (L.as Y R R (L.nil (X.dk kn ⟨im, Sub.fresh ib R, i.u 17 (fun _ => R)⟩)))
     rintro D e s262 hD ⟨im, ib, i⟩
     have g17_ := (i.p 17) (hD 17 R)
     have h5 := h5.mv im no_No no_No
     have h7 := h7.mono im.z
     have h9 := h9.mono im.z
     have hp2 := hp2.mono im.z
     have m0 := m0.trans im.no
     refine X.sub (e' := [(9, .bool (decide (x250 ≤ x255))), (8, .bool b177), (7, .slice a5 st170.1.length c5), (0, .slice a7 st170.2.1.length c7), (1, .slice a9 st170.2.2.length c9), (2, vp2)]) ?_ (Sub.cons g17_ (Sub.cons (ib 8 _ R) (Sub.cons (ib 7 _ R) (Sub.cons (ib 0 _ R) (Sub.cons (ib 1 _ R) (Sub.cons (ib 2 _ R) Sub.nil))))))
     exact X.sub (Jj182 _ _ ⟨s262, (decide (x250 ≤ x255)), hm, m0, h5, h7, h9, hp2, R, R⟩) (Sub.rf R)
    have _ := hN
    refine E.draw m_alphabet_merge_w0 (fun D e sx => Mv No s178 sx ∧ Sub [(8, .bool b177), (7, .slice a5 st170.1.length c5), (0, .slice a7 st170.2.1.length c7), (1, .slice a9 st170.2.2.length c9), (2, vp2)] e ∧ AllP [G D e 0 36 (.slice a9 st170.2.2.length c9), G D e 1 37 (.int .i64 (st170.2.2.length : Int)), G D e 2 38 (.bool (decide ((st170.2.2.length : Int) > 0))), G D e 3 39 (.bool (decide ((st170.2.2.length : Int) > 0))), G D e 4 40 undef, G D e 5 41 undef, G D e 6 42 undef, G D e 7 43 undef, G D e 8 44 undef, G D e 9 45 undef, G D e 10 46 undef, G D e 11 47 undef, G D e 12 48 undef, G D e 13 49 undef, G D e 14 50 undef, G D e 15 51 undef, G D e 16 52 (.bool false), G D e 17 9 (.bool false)]) (by kernel_rfl) (by kernel_rfl) (by kernel_rfl) ?_ ?_ ?_
    ·intro sz mz
     exact ⟨mz, (Sub.rf R), nofun, nofun, nofun, nofun, nofun, nofun, nofun, nofun, nofun, nofun, nofun, nofun, nofun, nofun, nofun, nofun, nofun, nofun, trivial⟩
    ·refine ⟨?_, ?_, ?_, ?_, ?_, ?_, ?_, ?_, ?_, ?_, ?_, ?_, ?_, ?_, ?_, ?_, ?_, ?_, trivial⟩
     ·rintro D e s227 ⟨im, ib, i⟩ hk hf ha
      have kn := K1 (ib 1 _ R)
      exact kn.g (L.mv Y R R (L.nil (X.dk kn ⟨im, Sub.fresh ib R, i.u 0 (fun _ => R)⟩)))
     ·rintro D e s228 ⟨im, ib, i⟩ hk hf ha
      have kn := K1 ((i.p 0) (ha.at 0 R))
      exact kn.g (L.len sl22 Y R R (L.nil (X.dk kn ⟨im, Sub.fresh ib R, i.u 1 (fun _ => R)⟩)))
     ·rintro D e s229 ⟨im, ib, i⟩ hk hf ha
      have kn := K1 ((i.p 1) (ha.at 1 R))
      exact kn.g (L.bi Y R R R R (L.nil (X.dk kn ⟨im, Sub.fresh ib R, i.u 2 (fun _ => R)⟩)))
     ·rintro D e s230 ⟨im, ib, i⟩ hk hf ha
      have kn := K1 ((i.p 2) (ha.at 2 R))
      exact kn.g (L.mv Y R R (L.nil (X.dk kn ⟨im, Sub.fresh ib R, i.u 3 (fun _ => R)⟩)))
     ·rintro D e s263 ⟨im, ib, i⟩ hk hf ha
      have g3_ := (i.p 3) (ha.at 3 R)
      rw [hc231] at g3_
      have kn := K2 (ib 0 _ R) g3_
      exact kn.g (L.skip R R R R (L.nil (X.dk kn ⟨im, Sub.fresh ib R, i.u 4 (fun _ => R)⟩)))
     ·rintro D e s264 ⟨im, ib, i⟩ hk hf ha
      have g3_ := (i.p 3) (ha.at 3 R)
      rw [hc231] at g3_
      have kn := K2 ((i.p 4) (ha.at 4 R)) g3_
      exact kn.g (L.skip R R R R (L.nil (X.dk kn ⟨im, Sub.fresh ib R, i.u 5 (fun _ => R)⟩)))
     ·rintro D e s265 ⟨im, ib, i⟩ hk hf ha
      have g3_ := (i.p 3) (ha.at 3 R)
      rw [hc231] at g3_
      have kn := K2 ((i.p 5) (ha.at 5 R)) g3_
      exact kn.g (L.skip R R R R (L.nil (X.dk kn ⟨im, Sub.fresh ib R, i.u 6 (fun _ => R)⟩)))
     ·rintro D e s266 ⟨im, ib, i⟩ hk hf ha
      have g3_ := (i.p 3) (ha.at 3 R)
      rw [hc231] at g3_
      have kn := K2 ((i.p 6) (ha.at 6 R)) g3_
      exact kn.g (L.skip R R R R (L.nil (X.dk kn ⟨im, Sub.fresh ib R, i.u 7 (fun _ => R)⟩)))
     ·rintro D e s267 ⟨im, ib, i⟩ hk hf ha
      have kn := K2 (ib 1 _ R) ((i.p 7) (ha.at 7 R))
      exact kn.g (L.skipU R R R (L.nil (X.dk kn ⟨im, Sub.fresh ib R, i.u 8 (fun _ => R)⟩)))
     ·rintro D e s268 ⟨im, ib, i⟩ hk hf ha
      have kn := K2 ((i.p 8) (ha.at 8 R)) ((i.p 7) (ha.at 7 R))
      exact kn.g (L.skipU R R R (L.nil (X.dk kn ⟨im, Sub.fresh ib R, i.u 9 (fun _ => R)⟩)))
     ·rintro D e s269 ⟨im, ib, i⟩ hk hf ha
      have kn := K2 ((i.p 9) (ha.at 9 R)) ((i.p 7) (ha.at 7 R))
      exact kn.g (L.skipU R R R (L.nil (X.dk kn ⟨im, Sub.fresh ib R, i.u 10 (fun _ => R)⟩)))
     ·rintro D e s270 ⟨im, ib, i⟩ hk hf ha
      have kn := K2 (ib 0 _ R) ((i.p 7) (ha.at 7 R))
      exact kn.g (L.skipU R R R (L.nil (X.dk kn ⟨im, Sub.fresh ib R, i.u 11 (fun _ => R)⟩)))
     ·rintro D e s271 ⟨im, ib, i⟩ hk hf ha
      have kn := K2 ((i.p 11) (ha.at 11 R)) ((i.p 7) (ha.at 7 R))
      exact kn.g (L.skipU R R R (L.nil (X.dk kn ⟨im, Sub.fresh ib R, i.u 12 (fun _ => R)⟩)))
     ·rintro D e s272 ⟨im, ib, i⟩ hk hf ha
      have kn := K2 ((i.p 12) (ha.at 12 R)) ((i.p 7) (ha.at 7 R))
      exact kn.g (L.skipU R R R (L.nil (X.dk kn ⟨im, Sub.fresh ib R, i.u 13 (fun _ => R)⟩)))
     ·rintro D e s273 ⟨im, ib, i⟩ hk hf ha
      have kn := K3 ((i.p 10) (ha.at 10 R)) ((i.p 13) (ha.at 13 R)) ((i.p 7) (ha.at 7 R))
      exact kn.g (L.skipU R R R (L.nil (X.dk kn ⟨im, Sub.fresh ib R, i.u 14 (fun _ => R)⟩)))
     ·rintro D e s274 ⟨im, ib, i⟩ hk hf ha
      have g3_ := (i.p 3) (ha.at 3 R)
      rw [hc231] at g3_
      have kn := K3 ((i.p 7) (ha.at 7 R)) ((i.p 14) (ha.at 14 R)) g3_
      exact kn.g (L.skip R R R R (L.nil (X.dk kn ⟨im, Sub.fresh ib R, i.u 15 (fun _ => R)⟩)))
     ·rintro D e s275 ⟨im, ib, i⟩ hk hf ha
      have g3_ := (i.p 3) (ha.at 3 R)
      rw [hc231] at g3_
      have kn := K2 g3_ ((i.p 15) (ha.at 15 R))
      exact kn.g (L.pkF Y R R R R (L.nil (X.dk kn ⟨im, Sub.fresh ib R, i.u 16 (fun _ => R)⟩)))
     rintro D e s276 ⟨im, ib, i⟩ hk hf ha
     have kn := K1 ((i.p 16) (ha.at 16 R))
     exact kn.g (L.as Y R R (L.nil (X.dk kn ⟨im, Sub.fresh ib R, i.u 17 (fun _ => R)⟩)))
    rintro D e s277 hD ⟨im, ib, i⟩
    have g17_ := (i.p 17) (hD 17 R)
    have h5 := h5.mv im no_No no_No
    have h7 := h7.mono im.z
    have h9 := h9.mono im.z
    have hp2 := hp2.mono im.z
    have m0 := m0.trans im.no
    refine X.sub (e' := [(9, .bool false), (8, .bool b177), (7, .slice a5 st170.1.length c5), (0, .slice a7 st170.2.1.length c7), (1, .slice a9 st170.2.2.length c9), (2, vp2)]) ?_ (Sub.cons g17_ (Sub.cons (ib 8 _ R) (Sub.cons (ib 7 _ R) (Sub.cons (ib 0 _ R) (Sub.cons (ib 1 _ R) (Sub.cons (ib 2 _ R) Sub.nil))))))
    exact X.sub (Jj182 _ _ ⟨s277, false, hm, m0, h5, h7, h9, hp2, R, R⟩) (Sub.rf R)
   intro Jj179
   rcases ifS hm with ⟨hc282, hm⟩ | ⟨hc282, hm⟩
   ·have _ := hN
    rcases ifS hm with ⟨hc287, hm⟩ | ⟨hc287, hm⟩
    ·have _ := hN
     refine E.draw m_alphabet_merge_w0 (fun D e sx => Mv No s173 sx ∧ Sub [(7, .slice a5 st170.1.length c5), (0, .slice a7 st170.2.1.length c7), (1, .slice a9 st170.2.2.length c9), (2, vp2)] e ∧ AllP [G D e 0 19 (.slice a7 st170.2.1.length c7), G D e 1 20 (.int .i64 (st170.2.1.length : Int)), G D e 2 21 (.bool (decide ((st170.2.1.length : Int) > 0))), G D e 3 22 (.bool (decide ((st170.2.1.length : Int) > 0))), G D e 4 23 (.slice a9 st170.2.2.length c9), G D e 5 24 (.int .i64 (st170.2.2.length : Int)), G D e 6 25 (.bool ((st170.2.2.length : Int) == 0)), G D e 7 26 (.bool ((st170.2.2.length : Int) == 0)), G D e 8 27 undef, G D e 9 28 undef, G D e 10 29 undef, G D e 11 30 undef, G D e 12 31 undef, G D e 13 32 undef, G D e 14 33 undef, G D e 15 34 (.bool true), G D e 16 35 (.bool true), G D e 17 8 (.bool true)]) (by kernel_rfl) (by kernel_rfl) (by kernel_rfl) ?_ ?_ ?_
     ·intro sz mz
      exact ⟨mz, (Sub.rf R), nofun, nofun, nofun, nofun, nofun, nofun, nofun, nofun, nofun, nofun, nofun, nofun, nofun, nofun, nofun, nofun, nofun, nofun, trivial⟩
     ·refine ⟨?_, ?_, ?_, ?_, ?_, ?_, ?_, ?_, ?_, ?_, ?_, ?_, ?_, ?_, ?_, ?_, ?_, ?_, trivial⟩
      ·rintro D e s278 ⟨im, ib, i⟩ hk hf ha
       have kn := K1 (ib 0 _ R)
       exact kn.g (L.mv Y R R (L.nil (X.dk kn ⟨im, Sub.fresh ib R, i.u 0 (fun _ => R)⟩)))
      ·rintro D e s279 ⟨im, ib, i⟩ hk hf ha
       have kn := K1 ((i.p 0) (ha.at 0 R))
       exact kn.g (L.len sl22 Y R R (L.nil (X.dk kn ⟨im, Sub.fresh ib R, i.u 1 (fun _ => R)⟩)))
      ·rintro D e s280 ⟨im, ib, i⟩ hk hf ha
       have kn := K1 ((i.p 1) (ha.at 1 R))
       exact kn.g (L.bi Y R R R R (L.nil (X.dk kn ⟨im, Sub.fresh ib R, i.u 2 (fun _ => R)⟩)))
      ·rintro D e s281 ⟨im, ib, i⟩ hk hf ha
       have kn := K1 ((i.p 2) (ha.at 2 R))
       exact kn.g (L.mv Y R R (L.nil (X.dk kn ⟨im, Sub.fresh ib R, i.u 3 (fun _ => R)⟩)))
      ·rintro D e s283 ⟨im, ib, i⟩ hk hf ha
       have g3_ := (i.p 3) (ha.at 3 R)
       rw [hc282] at g3_
       have kn := K2 (ib 1 _ R) g3_
       exact kn.g (L.mv (Wt.mk R R) R R (L.nil (X.dk kn ⟨im, Sub.fresh ib R, i.u 4 (fun _ => R)⟩)))
      ·rintro D e s284 ⟨im, ib, i⟩ hk hf ha
       have g3_ := (i.p 3) (ha.at 3 R)
       rw [hc282] at g3_
       have kn := K2 ((i.p 4) (ha.at 4 R)) g3_
       exact kn.g (L.len sl22 (Wt.mk R R) R R (L.nil (X.dk kn ⟨im, Sub.fresh ib R, i.u 5 (fun _ => R)⟩)))
      ·rintro D e s285 ⟨im, ib, i⟩ hk hf ha
       have g3_ := (i.p 3) (ha.at 3 R)
       rw [hc282] at g3_
       have kn := K2 ((i.p 5) (ha.at 5 R)) g3_
       exact kn.g (L.bi (Wt.mk R R) R R R R (L.nil (X.dk kn ⟨im, Sub.fresh ib R, i.u 6 (fun _ => R)⟩)))
      ·rintro D e s286 ⟨im, ib, i⟩ hk hf ha
       have g3_ := (i.p 3) (ha.at 3 R)
       rw [hc282] at g3_
       have kn := K2 ((i.p 6) (ha.at 6 R)) g3_
       exact kn.g (L.mv (Wt.mk R R) R R (L.nil (X.dk kn ⟨im, Sub.fresh ib R, i.u 7 (fun _ => R)⟩)))
      ·rintro D e s288 ⟨im, ib, i⟩ hk hf ha
       have g7_ := (i.p 7) (ha.at 7 R)
       rw [hc287] at g7_
       have kn := K2 (ib 0 _ R) g7_
       exact kn.g (L.skip R R R R (L.nil (X.dk kn ⟨im, Sub.fresh ib R, i.u 8 (fun _ => R)⟩)))
      ·rintro D e s289 ⟨im, ib, i⟩ hk hf ha
       have g7_ := (i.p 7) (ha.at 7 R)
       rw [hc287] at g7_
       have kn := K2 ((i.p 8) (ha.at 8 R)) g7_
       exact kn.g (L.skip R R R R (L.nil (X.dk kn ⟨im, Sub.fresh ib R, i.u 9 (fun _ => R)⟩)))
      ·rintro D e s290 ⟨im, ib, i⟩ hk hf ha
       have g7_ := (i.p 7) (ha.at 7 R)
       rw [hc287] at g7_
       have kn := K2 ((i.p 9) (ha.at 9 R)) g7_
       exact kn.g (L.skip R R R R (L.nil (X.dk kn ⟨im, Sub.fresh ib R, i.u 10 (fun _ => R)⟩)))
      ·rintro D e s291 ⟨im, ib, i⟩ hk hf ha
       have g7_ := (i.p 7) (ha.at 7 R)
       rw [hc287] at g7_
       have kn := K2 (ib 1 _ R) g7_
       exact kn.g (L.skip R R R R (L.nil (X.dk kn ⟨im, Sub.fresh ib R, i.u 11 (fun _ => R)⟩)))
      ·rintro D e s292 ⟨im, ib, i⟩ hk hf ha
       have g7_ := (i.p 7) (ha.at 7 R)
       rw [hc287] at g7_
       have kn := K2 ((i.p 11) (ha.at 11 R)) g7_
       exact kn.g (L.skip R R R R (L.nil (X.dk kn ⟨im, Sub.fresh ib R, i.u 12 (fun _ => R)⟩)))
      ·rintro D e s293 ⟨im, ib, i⟩ hk hf ha
       have g7_ := (i.p 7) (ha.at 7 R)
       rw [hc287] at g7_
       have kn := K2 ((i.p 12) (ha.at 12 R)) g7_
       exact kn.g (L.skip R R R R (L.nil (X.dk kn ⟨im, Sub.fresh ib R, i.u 13 (fun _ => R)⟩)))
      ·rintro D e s294 ⟨im, ib, i⟩ hk hf ha
       have g7_ := (i.p 7) (ha.at 7 R)
       rw [hc287] at g7_
       have kn := K3 ((i.p 10) (ha.at 10 R)) ((i.p 13) (ha.at 13 R)) g7_
       exact kn.g (L.skip R R R R (L.nil (X.dk kn ⟨im, Sub.fresh ib R, i.u 14 (fun _ => R)⟩)))
      ·rintro D e s295 ⟨im, ib, i⟩ hk hf ha
       have g3_ := (i.p 3) (ha.at 3 R)
       have g7_ := (i.p 7) (ha.at 7 R)
       rw [hc287] at g7_
       rw [hc282] at g3_
       have kn := K3 g7_ ((i.p 14) (ha.at 14 R)) g3_
       exact kn.g (L.pkT (Wt.mk R R) R R R R (L.nil (X.dk kn ⟨im, Sub.fresh ib R, i.u 15 (fun _ => R)⟩)))
      ·rintro D e s296 ⟨im, ib, i⟩ hk hf ha
       have g3_ := (i.p 3) (ha.at 3 R)
       rw [hc282] at g3_
       have kn := K2 g3_ ((i.p 15) (ha.at 15 R))
       exact kn.g (L.pkT Y R R R R (L.nil (X.dk kn ⟨im, Sub.fresh ib R, i.u 16 (fun _ => R)⟩)))
      rintro D e s297 ⟨im, ib, i⟩ hk hf ha
      have kn := K1 ((i.p 16) (ha.at 16 R))
      exact kn.g (L.as Y R R (L.nil (X.dk kn ⟨im, Sub.fresh ib R, i.u 17 (fun _ => R)⟩)))
     rintro D e s298 hD ⟨im, ib, i⟩
     have g17_ := (i.p 17) (hD 17 R)
     have h5 := h5.mv im no_No no_No
     have h7 := h7.mono im.z
     have h9 := h9.mono im.z
     have hp2 := hp2.mono im.z
     have m0 := m0.trans im.no
     refine X.sub (e' := [(8, .bool true), (7, .slice a5 st170.1.length c5), (0, .slice a7 st170.2.1.length c7), (1, .slice a9 st170.2.2.length c9), (2, vp2)]) ?_ (Sub.cons g17_ (Sub.cons (ib 7 _ R) (Sub.cons (ib 0 _ R) (Sub.cons (ib 1 _ R) (Sub.cons (ib 2 _ R) Sub.nil)))))
     exact X.sub (Jj179 _ _ ⟨s298, true, hm, m0, h5, h7, h9, hp2, R, R⟩) (Sub.rf R)
    have _ := hN
    obtain ⟨x301, ex301, hm⟩ := bindS hm
    obtain ⟨x306, ex306, hm⟩ := bindS hm
    refine E.draw m_alphabet_merge_w0 (fun D e sx => Mv No s173 sx ∧ Sub [(7, .slice a5 st170.1.length c5), (0, .slice a7 st170.2.1.length c7), (1, .slice a9 st170.2.2.length c9), (2, vp2)] e ∧ AllP [G D e 0 19 (.slice a7 st170.2.1.length c7), G D e 1 20 (.int .i64 (st170.2.1.length : Int)), G D e 2 21 (.bool (decide ((st170.2.1.length : Int) > 0))), G D e 3 22 (.bool (decide ((st170.2.1.length : Int) > 0))), G D e 4 23 (.slice a9 st170.2.2.length c9), G D e 5 24 (.int .i64 (st170.2.2.length : Int)), G D e 6 25 (.bool ((st170.2.2.length : Int) == 0)), G D e 7 26 (.bool ((st170.2.2.length : Int) == 0)), G D e 8 27 (.slice a7 st170.2.1.length c7), D 9 = true → (∃ (b302 : Nat) (o302 : Nat), Env.get e 28 = some (.pointer (some ⟨b302, o302, none⟩)) ∧ Mem sx 0 b302 o302 [.int .i64 x301]), G D e 10 29 (.int .i64 x301), G D e 11 30 (.slice a9 st170.2.2.length c9), D 12 = true → (∃ (b307 : Nat) (o307 : Nat), Env.get e 31 = some (.pointer (some ⟨b307, o307, none⟩)) ∧ Mem sx 0 b307 o307 [.int .i64 x306]), G D e 13 32 (.int .i64 x306), G D e 14 33 (.bool (decide (x301 ≤ x306))), G D e 15 34 (.bool (decide (x301 ≤ x306))), G D e 16 35 (.bool (decide (x301 ≤ x306))), G D e 17 8 (.bool (decide (x301 ≤ x306)))]) (by kernel_rfl) (by kernel_rfl) (by kernel_rfl) ?_ ?_ ?_
    ·intro sz mz
     exact ⟨mz, (Sub.rf R), nofun, nofun, nofun, nofun, nofun, nofun, nofun, nofun, nofun, nofun, nofun, nofun, nofun, nofun, nofun, nofun, nofun, nofun, trivial⟩
    ·refine ⟨?_, ?_, ?_, ?_, ?_, ?_, ?_, ?_, ?_, ?_, ?_, ?_, ?_, ?_, ?_, ?_, ?_, ?_, trivial⟩
     ·rintro D e s278 ⟨im, ib, i⟩ hk hf ha
      have kn := K1 (ib 0 _ R)
      exact kn.g (L.mv Y R R (L.nil (X.dk kn ⟨im, Sub.fresh ib R, i.u 0 (fun _ => R)⟩)))
     ·rintro D e s279 ⟨im, ib, i⟩ hk hf ha
      have kn := K1 ((i.p 0) (ha.at 0 R))
      exact kn.g (L.len sl22 Y R R (L.nil (X.dk kn ⟨im, Sub.fresh ib R, i.u 1 (fun _ => R)⟩)))
     ·rintro D e s280 ⟨im, ib, i⟩ hk hf ha
      have kn := K1 ((i.p 1) (ha.at 1 R))
      exact kn.g (L.bi Y R R R R (L.nil (X.dk kn ⟨im, Sub.fresh ib R, i.u 2 (fun _ => R)⟩)))
     ·rintro D e s281 ⟨im, ib, i⟩ hk hf ha
      have kn := K1 ((i.p 2) (ha.at 2 R))
      exact kn.g (L.mv Y R R (L.nil (X.dk kn ⟨im, Sub.fresh ib R, i.u 3 (fun _ => R)⟩)))
     ·rintro D e s283 ⟨im, ib, i⟩ hk hf ha
      have g3_ := (i.p 3) (ha.at 3 R)
      rw [hc282] at g3_
      have kn := K2 (ib 1 _ R) g3_
      exact kn.g (L.mv (Wt.mk R R) R R (L.nil (X.dk kn ⟨im, Sub.fresh ib R, i.u 4 (fun _ => R)⟩)))
     ·rintro D e s284 ⟨im, ib, i⟩ hk hf ha
      have g3_ := (i.p 3) (ha.at 3 R)
      rw [hc282] at g3_
      have kn := K2 ((i.p 4) (ha.at 4 R)) g3_
      exact kn.g (L.len sl22 (Wt.mk R R) R R (L.nil (X.dk kn ⟨im, Sub.fresh ib R, i.u 5 (fun _ => R)⟩)))
     ·rintro D e s285 ⟨im, ib, i⟩ hk hf ha
      have g3_ := (i.p 3) (ha.at 3 R)
      rw [hc282] at g3_
      have kn := K2 ((i.p 5) (ha.at 5 R)) g3_
      exact kn.g (L.bi (Wt.mk R R) R R R R (L.nil (X.dk kn ⟨im, Sub.fresh ib R, i.u 6 (fun _ => R)⟩)))
     ·rintro D e s286 ⟨im, ib, i⟩ hk hf ha
      have g3_ := (i.p 3) (ha.at 3 R)
      rw [hc282] at g3_
      have kn := K2 ((i.p 6) (ha.at 6 R)) g3_
      exact kn.g (L.mv (Wt.mk R R) R R (L.nil (X.dk kn ⟨im, Sub.fresh ib R, i.u 7 (fun _ => R)⟩)))
     ·rintro D e s299 ⟨im, ib, i⟩ hk hf ha
      have g7_ := (i.p 7) (ha.at 7 R)
      rw [hc287] at g7_
      have kn := K2 (ib 0 _ R) g7_
      exact kn.g (L.mv (Wt.mk R R) R R (L.nil (X.dk kn ⟨im, Sub.fresh ib R, i.u 8 (fun _ => R)⟩)))
     ·rintro D e s300 ⟨im, ib, i⟩ hk hf ha
      have g7_ := (i.p 7) (ha.at 7 R)
      have h7 := h7.mono im.z
      rw [hc287] at g7_
      have kn := K2 ((i.p 8) (ha.at 8 R)) g7_
      refine kn.g (L.ix (r := qI) sl22 h7 (Wt.mk R R) R R ex301 R fun b302 o302 cc302 me302 rd302 => ?_)
      obtain rfl := rd302
      exact L.nil (X.dk kn ⟨im, Sub.fresh ib R, i.u 9 (fun _ => ⟨b302, o302, R, me302⟩)⟩)
     ·rintro D e s303 ⟨im, ib, i⟩ hk hf ha
      have g7_ := (i.p 7) (ha.at 7 R)
      obtain ⟨b302, o302, g9_, me302⟩ := (i.p 9) (ha.at 9 R)
      rw [hc287] at g7_
      have kn := K2 g9_ g7_
      exact kn.g (L.ld (j := 0) me302 nag3 (Wt.mk R R) R R R R (L.nil (X.dk kn ⟨im, Sub.fresh ib R, i.u 10 (fun _ => R)⟩)))
     ·rintro D e s304 ⟨im, ib, i⟩ hk hf ha
      have g7_ := (i.p 7) (ha.at 7 R)
      rw [hc287] at g7_
      have kn := K2 (ib 1 _ R) g7_
      exact kn.g (L.mv (Wt.mk R R) R R (L.nil (X.dk kn ⟨im, Sub.fresh ib R, i.u 11 (fun _ => R)⟩)))
     ·rintro D e s305 ⟨im, ib, i⟩ hk hf ha
      have g7_ := (i.p 7) (ha.at 7 R)
      have h9 := h9.mono im.z
      rw [hc287] at g7_
      have kn := K2 ((i.p 11) (ha.at 11 R)) g7_
      refine kn.g (L.ix (r := qI) sl22 h9 (Wt.mk R R) R R ex306 R fun b307 o307 cc307 me307 rd307 => ?_)
      obtain rfl := rd307
      exact L.nil (X.dk kn ⟨im, Sub.fresh ib R, i.u 12 (fun _ => ⟨b307, o307, R, me307⟩)⟩)
     ·rintro D e s308 ⟨im, ib, i⟩ hk hf ha
      have g7_ := (i.p 7) (ha.at 7 R)
      obtain ⟨b307, o307, g12_, me307⟩ := (i.p 12) (ha.at 12 R)
      rw [hc287] at g7_
      have kn := K2 g12_ g7_
      exact kn.g (L.ld (j := 0) me307 nag3 (Wt.mk R R) R R R R (L.nil (X.dk kn ⟨im, Sub.fresh ib R, i.u 13 (fun _ => R)⟩)))
     ·rintro D e s309 ⟨im, ib, i⟩ hk hf ha
      have g7_ := (i.p 7) (ha.at 7 R)
      rw [hc287] at g7_
      have kn := K3 ((i.p 10) (ha.at 10 R)) ((i.p 13) (ha.at 13 R)) g7_
      exact kn.g (L.bi (Wt.mk R R) R R R R (L.nil (X.dk kn ⟨im, Sub.fresh ib R, i.u 14 (fun _ => R)⟩)))
     ·rintro D e s310 ⟨im, ib, i⟩ hk hf ha
      have g3_ := (i.p 3) (ha.at 3 R)
      have g7_ := (i.p 7) (ha.at 7 R)
      rw [hc287] at g7_
      rw [hc282] at g3_
      have kn := K3 g7_ ((i.p 14) (ha.at 14 R)) g3_
      exact kn.g (L.pkF (Wt.mk R R) R R R R (L.nil (X.dk kn ⟨im, Sub.fresh ib R, i.u 15 (fun _ => R)⟩)))
     ·rintro D e s311 ⟨im, ib, i⟩ hk hf ha
      have g3_ := (i.p 3) (ha.at 3 R)
      rw [hc282] at g3_
      have kn := K2 g3_ ((i.p 15) (ha.at 15 R))
      exact kn.g (L.pkT Y R R R R (L.nil (X.dk kn ⟨im, Sub.fresh ib R, i.u 16 (fun _ => R)⟩)))
     rintro D e s312 ⟨im, ib, i⟩ hk hf ha
     have kn := K1 ((i.p 16) (ha.at 16 R))
     exact kn.g (L.as Y R R (L.nil (X.dk kn ⟨im, Sub.fresh ib R, i.u 17 (fun _ => R)⟩)))
    rintro D e s313 hD ⟨im, ib, i⟩
    have g17_ := (i.p 17) (hD 17 R)
    have h5 := h5.mv im no_No no_No
    have h7 := h7.mono im.z
    have h9 := h9.mono im.z
    have hp2 := hp2.mono im.z
    have m0 := m0.trans im.no
    refine X.sub (e' := [(8, .bool (decide (x301 ≤ x306))), (7, .slice a5 st170.1.length c5), (0, .slice a7 st170.2.1.length c7), (1, .slice a9 st170.2.2.length c9), (2, vp2)]) ?_ (Sub.cons g17_ (Sub.cons (ib 7 _ R) (Sub.cons (ib 0 _ R) (Sub.cons (ib 1 _ R) (Sub.cons (ib 2 _ R) Sub.nil)))))
    exact X.sub (Jj179 _ _ ⟨s313, (decide (x301 ≤ x306)), hm, m0, h5, h7, h9, hp2, R, R⟩) (Sub.rf R)
   have _ := hN
   refine E.draw m_alphabet_merge_w0 (fun D e sx => Mv No s173 sx ∧ Sub [(7, .slice a5 st170.1.length c5), (0, .slice a7 st170.2.1.length c7), (1, .slice a9 st170.2.2.length c9), (2, vp2)] e ∧ AllP [G D e 0 19 (.slice a7 st170.2.1.length c7), G D e 1 20 (.int .i64 (st170.2.1.length : Int)), G D e 2 21 (.bool (decide ((st170.2.1.length : Int) > 0))), G D e 3 22 (.bool (decide ((st170.2.1.length : Int) > 0))), G D e 4 23 undef, G D e 5 24 undef, G D e 6 25 undef, G D e 7 26 undef, G D e 8 27 undef, G D e 9 28 undef, G D e 10 29 undef, G D e 11 30 undef, G D e 12 31 undef, G D e 13 32 undef, G D e 14 33 undef, G D e 15 34 undef, G D e 16 35 (.bool false), G D e 17 8 (.bool false)]) (by kernel_rfl) (by kernel_rfl) (by kernel_rfl) ?_ ?_ ?_
   ·intro sz mz
    exact ⟨mz, (Sub.rf R), nofun, nofun, nofun, nofun, nofun, nofun, nofun, nofun, nofun, nofun, nofun, nofun, nofun, nofun, nofun, nofun, nofun, nofun, trivial⟩
   ·refine ⟨?_, ?_, ?_, ?_, ?_, ?_, ?_, ?_, ?_, ?_, ?_, ?_, ?_, ?_, ?_, ?_, ?_, ?_, trivial⟩
    ·rintro D e s278 ⟨im, ib, i⟩ hk hf ha
     have kn := K1 (ib 0 _ R)
     exact kn.g (L.mv Y R R (L.nil (X.dk kn ⟨im, Sub.fresh ib R, i.u 0 (fun _ => R)⟩)))
    ·rintro D e s279 ⟨im, ib, i⟩ hk hf ha
     have kn := K1 ((i.p 0) (ha.at 0 R))
     exact kn.g (L.len sl22 Y R R (L.nil (X.dk kn ⟨im, Sub.fresh ib R, i.u 1 (fun _ => R)⟩)))
    ·rintro D e s280 ⟨im, ib, i⟩ hk hf ha
     have kn := K1 ((i.p 1) (ha.at 1 R))
     exact kn.g (L.bi Y R R R R (L.nil (X.dk kn ⟨im, Sub.fresh ib R, i.u 2 (fun _ => R)⟩)))
    ·rintro D e s281 ⟨im, ib, i⟩ hk hf ha
     have kn := K1 ((i.p 2) (ha.at 2 R))
     exact kn.g (L.mv Y R R (L.nil (X.dk kn ⟨im, Sub.fresh ib R, i.u 3 (fun _ => R)⟩)))
    ·rintro D e s314 ⟨im, ib, i⟩ hk hf ha
     have g3_ := (i.p 3) (ha.at 3 R)
     rw [hc282] at g3_
     have kn := K2 (ib 1 _ R) g3_
     exact kn.g (L.skip R R R R (L.nil (X.dk kn ⟨im, Sub.fresh ib R, i.u 4 (fun _ => R)⟩)))
    ·rintro D e s315 ⟨im, ib, i⟩ hk hf ha
     have g3_ := (i.p 3) (ha.at 3 R)
     rw [hc282] at g3_
     have kn := K2 ((i.p 4) (ha.at 4 R)) g3_
     exact kn.g (L.skip R R R R (L.nil (X.dk kn ⟨im, Sub.fresh ib R, i.u 5 (fun _ => R)⟩)))
    ·rintro D e s316 ⟨im, ib, i⟩ hk hf ha
     have g3_ := (i.p 3) (ha.at 3 R)
     rw [hc282] at g3_
     have kn := K2 ((i.p 5) (ha.at 5 R)) g3_
     exact kn.g (L.skip R R R R (L.nil (X.dk kn ⟨im, Sub.fresh ib R, i.u 6 (fun _ => R)⟩)))
    ·rintro D e s317 ⟨im, ib, i⟩ hk hf ha
     have g3_ := (i.p 3) (ha.at 3 R)
     rw [hc282] at g3_
     have kn := K2 ((i.p 6) (ha.at 6 R)) g3_
     exact kn.g (L.skip R R R R (L.nil (X.dk kn ⟨im, Sub.fresh ib R, i.u 7 (fun _ => R)⟩)))
    ·rintro D e s318 ⟨im, ib, i⟩ hk hf ha
     have kn := K2 (ib 0 _ R) ((i.p 7) (ha.at 7 R))
     exact kn.g (L.skipU R R R (L.nil (X.dk kn ⟨im, Sub.fresh ib R, i.u 8 (fun _ => R)⟩)))
    ·rintro D e s319 ⟨im, ib, i⟩ hk hf ha
     have kn := K2 ((i.p 8) (ha.at 8 R)) ((i.p 7) (ha.at 7 R))
     exact kn.g (L.skipU R R R (L.nil (X.dk kn ⟨im, Sub.fresh ib R, i.u 9 (fun _ => R)⟩)))
    ·rintro D e s320 ⟨im, ib, i⟩ hk hf ha
     have kn := K2 ((i.p 9) (ha.at 9 R)) ((i.p 7) (ha.at 7 R))
     exact kn.g (L.skipU R R R (L.nil (X.dk kn ⟨im, Sub.fresh ib R, i.u 10 (fun _ => R)⟩)))
    ·rintro D e s321 ⟨im, ib, i⟩ hk hf ha
     have kn := K2 (ib 1 _ R) ((i.p 7) (ha.at 7 R))
     exact kn.g (L.skipU R R R (L.nil (X.dk kn ⟨im, Sub.fresh ib R, i.u 11 (fun _ => R)⟩)))
    ·rintro D e s322 ⟨im, ib, i⟩ hk hf ha
     have kn := K2 ((i.p 11) (ha.at 11 R)) ((i.p 7) (ha.at 7 R))
     exact kn.g (L.skipU R R R (L.nil (X.dk kn ⟨im, Sub.fresh ib R, i.u 12 (fun _ => R)⟩)))
    ·rintro D e s323 ⟨im, ib, i⟩ hk hf ha
     have kn := K2 ((i.p 12) (ha.at 12 R)) ((i.p 7) (ha.at 7 R))
     exact kn.g (L.skipU R R R (L.nil (X.dk kn ⟨im, Sub.fresh ib R, i.u 13 (fun _ => R)⟩)))
    ·rintro D e s324 ⟨im, ib, i⟩ hk hf ha
     have kn := K3 ((i.p 10) (ha.at 10 R)) ((i.p 13) (ha.at 13 R)) ((i.p 7) (ha.at 7 R))
     exact kn.g (L.skipU R R R (L.nil (X.dk kn ⟨im, Sub.fresh ib R, i.u 14 (fun _ => R)⟩)))
    ·rintro D e s325 ⟨im, ib, i⟩ hk hf ha
     have g3_ := (i.p 3) (ha.at 3 R)
     rw [hc282] at g3_
     have kn := K3 ((i.p 7) (ha.at 7 R)) ((i.p 14) (ha.at 14 R)) g3_
     exact kn.g (L.skip R R R R (L.nil (X.dk kn ⟨im, Sub.fresh ib R, i.u 15 (fun _ => R)⟩)))
    ·rintro D e s326 ⟨im, ib, i⟩ hk hf ha
     have g3_ := (i.p 3) (ha.at 3 R)
     rw [hc282] at g3_
     have kn := K2 g3_ ((i.p 15) (ha.at 15 R))
     exact kn.g (L.pkF Y R R R R (L.nil (X.dk kn ⟨im, Sub.fresh ib R, i.u 16 (fun _ => R)⟩)))
    rintro D e s327 ⟨im, ib, i⟩ hk hf ha
    have kn := K1 ((i.p 16) (ha.at 16 R))
    exact kn.g (L.as Y R R (L.nil (X.dk kn ⟨im, Sub.fresh ib R, i.u 17 (fun _ => R)⟩)))
   rintro D e s328 hD ⟨im, ib, i⟩
   have g17_ := (i.p 17) (hD 17 R)
   have h5 := h5.mv im no_No no_No
   have h7 := h7.mono im.z
   have h9 := h9.mono im.z
   have hp2 := hp2.mono im.z
   have m0 := m0.trans im.no
   refine X.sub (e' := [(8, .bool false), (7, .slice a5 st170.1.length c5), (0, .slice a7 st170.2.1.length c7), (1, .slice a9 st170.2.2.length c9), (2, vp2)]) ?_ (Sub.cons g17_ (Sub.cons (ib 7 _ R) (Sub.cons (ib 0 _ R) (Sub.cons (ib 1 _ R) (Sub.cons (ib 2 _ R) Sub.nil)))))
   exact X.sub (Jj179 _ _ ⟨s328, false, hm, m0, h5, h7, h9, hp2, R, R⟩) (Sub.rf R)
  refine E.cF R hc (E.exit (X.seqX (X.seqX ?_)))
  have hx := ho170 _ (oi hm).symm
  subst hx
  exact X.sub (K175 _ _ ⟨s173, a5, c5, m0, h5, R, R⟩) (Sub.rf R)
 intro J329
 rcases Bool.eq_false_or_eq_true (decide ((st170.2.1.length : Int) > 0)) with hc | hc
 ·exact L.know (d := 14) R hc (L.skip R R R R (L.skip R R R R (L.skip R R R R (L.pkT Y R R R R (L.sb (J329 _ _ ⟨true, (orT hc).symm, R, R⟩) R)))))
 exact L.know (d := 14) R hc (L.mv (Wt.mk R R) R R (L.len sl22 (Wt.mk R R) R R (L.bi (Wt.mk R R) R R R R (L.pkF Y R R R R (L.sb (J329 _ _ ⟨(decide ((st170.2.2.length : Int) > 0)), (orF hc).symm, R, R⟩) R)))))

noncomputable def m_alphabet_Minus_1 (p0 : Bool) (p1 : Bool) : Option Bool :=
 some (p0 && (!p1))
theorem m_alphabet_Minus_1_c {s : Sig} {p0 : Bool} {p1 : Bool} {r : Bool} (hm : m_alphabet_Minus_1 p0 p1 = some r) :
    Calls Tryz.prog 73 #[.bool p0, .bool p1] s.w (RetS No s fun v s' => v = .bool r) := by
 unfold m_alphabet_Minus_1 at hm
 obtain ⟨N, hN, hNb⟩ := s.fresh
 have m0 : Mv (Up N No) s s := Mv.refl _ _
 refine E.entry Tryz.func73 R Tryz.ntmps73 R R (ER (L.as Y R R (LN (ER (L.mv Y R R (L.mv Y R R (L.cut 3 (fun e w => ∃ (v1 : Bool), (p0 && (!p1)) = v1 ∧ e = (9, .bool v1) :: [] ∧ w = s.w) ?_ ?_)))))))
 ·rintro _ _ ⟨v1, rfl, rfl, rfl⟩
  refine L.as Y R R (LN (E.ret ?_))
  obtain rfl := oi hm
  exact X.rt (.inl R) Tryz.results73 (Rs.tmp R Rs.nil) R ⟨_, (s).ren N (fun _ => 0), R, R, m0.ren hNb, R⟩
 intro J2
 rcases Bool.eq_false_or_eq_true p0 with hc | hc
 ·exact L.know (d := 6) R hc (L.mv (Wt.mk R R) R R (L.not (Wt.mk R R) R R (L.pkT Y R R R R (L.sb (J2 _ _ ⟨(!p1), (andT hc).symm, R, R⟩) R))))
 exact L.know (d := 6) R hc (L.skip R R R R (L.skip R R R R (L.pkF Y R R R R (L.sb (J2 _ _ ⟨false, (andF hc).symm, R, R⟩) R))))

end Go.Proofs.YtidakgbibobbdaaGreatDoor

namespace Go.Proofs.YtidakgbibobbdaaGreatDoor
open Go Go.RowKit
theorem cf72 : Cf Tryz.prog 72 := Cf.mk Tryz.func72 (by kernel_rfl) (by kernel_rfl)
theorem cf73 : Cf Tryz.prog 73 := Cf.mk Tryz.func73 (by kernel_rfl) (by kernel_rfl)
theorem fv73 {s : Sig} : FV2 Tryz.prog s (.func (.func 73) #[] #[]) (fun (x0 : Bool) (x1 : Bool) => [.bool x0, .bool x1]) (fun r => .bool r) m_alphabet_Minus_1 := ⟨73, #[], #[], rfl, cf73, fun x0 x1 r hm s' hl => by have hh := m_alphabet_Minus_1_c (s := s') hm; simpa using hh⟩
noncomputable def m_alphabet_Minus (p0 : List Int) (p1 : List Int) : Option (List Int) :=
 (m_alphabet_merge p0 p1 m_alphabet_Minus_1).bind fun r4 =>
 some r4
theorem m_alphabet_Minus_c {s : Sig} {p0 : List Int} {p1 : List Int} {a1 : Option Addr} {c1 : Nat} {a2 : Option Addr} {c2 : Nat} {u0 : Nat} {r : List Int} (h1 : RdL qI s a1 c1 p0) (h2 : RdL qI s a2 c2 p1) (hm : m_alphabet_Minus p0 p1 = some r) :
    Calls Tryz.prog 26 #[.slice a1 p0.length c1, .slice a2 p1.length c2] s.w (RetS No s fun v s' => ∃ (a3 : Option Addr) (c3 : Nat), v = .slice a3 r.length c3 ∧ RowT qI s' u0 3 a3 c3 r) := by
 unfold m_alphabet_Minus at hm
 obtain ⟨N, hN, hNb⟩ := s.fresh
 have m0 : Mv (Up N No) s s := Mv.refl _ _
 refine E.entry Tryz.func26 R Tryz.ntmps26 R R (ER (L.as Y R R (LN (ER (L.mv Y R R (L.mv Y R R ?_))))))
 obtain ⟨r4, er4, hm⟩ := bindS hm
 refine L.ca cf72 R R Y R (m_alphabet_merge_c (s := s) (p0 := p0) (p1 := p1) (p2 := m_alphabet_Minus_1) (u0 := (N + 0)) h1 h2 fv73 er4) R ?_
 rintro _ s5 m6 ⟨a7, c7, rfl, h7⟩
 replace m0 := m0.trans m6.no
 refine L.as Y R R (LN (E.ret ?_))
 obtain rfl := oi hm
 exact X.rt (.inl R) Tryz.results26 (Rs.tmp R Rs.nil) R ⟨_, (s5).ren N (fun k => cond (Nat.beq k 0) u0 (0)), R, R, m0.ren hNb, ⟨a7, c7, R, (h7.ren hN)⟩⟩

theorem cf26 : Cf Tryz.prog 26 := Cf.mk Tryz.func26 (by kernel_rfl) (by kernel_rfl)
noncomputable def m_alphabet_Subset (p0 : List Int) (p1 : List Int) : Option Bool :=
 (m_alphabet_Minus p0 p1).bind fun r3 =>
 some ((r3.length : Int) == 0)
theorem m_alphabet_Subset_c {s : Sig} {p0 : List Int} {p1 : List Int} {a1 : Option Addr} {c1 : Nat} {a2 : Option Addr} {c2 : Nat} {r : Bool} (h1 : RdL qI s a1 c1 p0) (h2 : RdL qI s a2 c2 p1) (hm : m_alphabet_Subset p0 p1 = some r) :
    Calls Tryz.prog 30 #[.slice a1 p0.length c1, .slice a2 p1.length c2] s.w (RetS No s fun v s' => v = .bool r) := by
 unfold m_alphabet_Subset at hm
 obtain ⟨N, hN, hNb⟩ := s.fresh
 have m0 : Mv (Up N No) s s := Mv.refl _ _
 refine E.entry Tryz.func30 R Tryz.ntmps30 R R (ER (L.as Y R R (LN (ER (L.mv Y R R (L.mv Y R R ?_))))))
 obtain ⟨r3, er3, hm⟩ := bindS hm
 refine L.ca cf26 R R Y R (m_alphabet_Minus_c (s := s) (p0 := p0) (p1 := p1) (u0 := 0) h1 h2 er3) R ?_
 rintro _ s4 m5 ⟨a6, c6, rfl, h6⟩
 replace h6 := h6.p
 replace m0 := m0.trans m5.no
 refine L.len sl22 Y R R (L.bi Y R R R R (L.as Y R R (LN (E.ret ?_))))
 obtain rfl := oi hm
 exact X.rt (.inl R) Tryz.results30 (Rs.tmp R Rs.nil) R ⟨_, (s4).ren N (fun _ => 0), R, R, m0.ren hNb, R⟩

noncomputable def m_alphabet_CheckSet_l1 (p0 : List Int) (p1 : Int) (st13 : Int) : Option (Int ⊕ (Unit ⊕ Int)) :=
 if decide (st13 < (p0.length : Int)) then
  (idx p0 st13).bind fun x22 =>
  if ((decide (x22 < 0)) || (decide (x22 ≥ p1))) then
   some (.inr (.inr (2)))
  else
   (if decide (st13 > 0) then
    (idx p0 (W (st13 - 1))).bind fun x28 =>
    some (decide (x22 ≤ x28))
   else
    some false).bind fun b25 =>
   if b25 then
    some (.inr (.inr (5)))
   else
    some (.inl (W (st13 + 1)))
 else
  some (.inr (.inl ()))
noncomputable def m_alphabet_CheckSet (p0 : List Int) (p1 : Int) : Option Int :=
 (iter (m_alphabet_CheckSet_l1 p0 p1) 0).bind fun o13 =>
 match o13 with
 | .inl u16 =>
  some 0
 | .inr (u19) =>
  some u19
theorem m_alphabet_CheckSet_c {s : Sig} {p0 : List Int} {p1 : Int} {a1 : Option Addr} {c1 : Nat} {r : Int} (h1 : RdL qI s a1 c1 p0) (hm : m_alphabet_CheckSet p0 p1 = some r) :
    Calls Tryz.prog 29 #[.slice a1 p0.length c1, .int .i64 p1] s.w (RetS No s fun v s' => v = .int .i64 r) := by
 unfold m_alphabet_CheckSet at hm
 obtain ⟨N, hN, hNb⟩ := s.fresh
 have m0 : Mv (Up N No) s s := Mv.refl _ _
 refine E.entry Tryz.func29 R Tryz.ntmps29 R R (ER (L.as Y R R (LN (E.seq (ER (L.mv Y R R (L.len sl22 Y R R (L.mv Y R R (LN (E.block ?_))))))))))
 obtain ⟨o13, eo13, hm⟩ := bindS hm
 refine E.cut (x := .exit 0) (fun e w => ∃ (s17 : Sig) (u16 : Unit), o13 = .inl u16 ∧ Mv (Up N No) s s17 ∧ e = [] ∧ w = s17.w) ?_ ?_
 ·rintro _ _ ⟨s17, u16, rfl, m0, rfl, rfl⟩
  dsimp only at hm
  refine X.blkE (X.seqN (ER (L.as Y R R (LN (E.ret ?_)))))
  obtain rfl := oi hm
  exact X.rt (.inl R) Tryz.results29 (Rs.tmp R Rs.nil) R ⟨_, (s17).ren N (fun _ => 0), R, R, m0.ren hNb, R⟩
 intro K18
 refine E.cut (x := .ret) (fun e w => ∃ (s20 : Sig) (u19 : Int), o13 = .inr (u19) ∧ Mv (Up N No) s s20 ∧ e = [(4, .int .i64 u19)] ∧ w = s20.w) ?_ ?_
 ·rintro _ _ ⟨s20, u19, rfl, m0, rfl, rfl⟩
  dsimp only at hm
  refine X.blkR (X.seqR ?_)
  obtain rfl := oi hm
  exact X.rt (.inl R) Tryz.results29 (Rs.tmp R Rs.nil) R ⟨_, (s20).ren N (fun _ => 0), R, R, m0.ren hNb, R⟩
 intro K21
 refine E.iter (fun (st13 : Int) (e : List (Nat × Value)) (w : World) => ∃ (s15 : Sig), Mv (Up N No) s s15 ∧ RdL qI s15 a1 c1 p0 ∧ e = [(9, .int .i64 st13), (8, .int .i64 (p0.length : Int)), (7, .slice a1 p0.length c1), (0, .slice a1 p0.length c1), (1, .int .i64 p1)] ∧ w = s15.w) eo13 ⟨s, m0, h1, R, R⟩ (Sub.rf R) ?_
 rintro st13 res13 hm ih13 ho13 _ _ ⟨s15, m0, h1, rfl, rfl⟩
 unfold m_alphabet_CheckSet_l1 at hm
 refine ER (L.bi Y R R R R (LN (E.seq ?_)))
 rcases ifS hm with ⟨hc, hm⟩ | ⟨hc, hm⟩
 ·refine E.cT R hc (E.skip (X.seqN (E.seq (E.block (ER (L.mv Y R R ?_))))))
  obtain ⟨x22, ex22, hm⟩ := bindS hm
  refine L.ix (r := qI) sl22 h1 Y R R ex22 R fun b23 o23 cc23 me23 rd23 => ?_
  obtain rfl := rd23
  refine L.ld (j := 0) me23 nag3 Y R R R R (L.as Y R R (L.as Y R R (LN (E.seq (ER (L.mv Y R R (L.bi Y R R R R (L.mv Y R R (L.cut 4 (fun e w => ∃ (v24 : Bool), ((decide (x22 < 0)) || (decide (x22 ≥ p1))) = v24 ∧ e = (20, .bool v24) :: [(6, .int .i64 x22), (5, .int .i64 st13), (9, .int .i64 st13), (8, .int .i64 (p0.length : Int)), (7, .slice a1 p0.length c1), (0, .slice a1 p0.length c1), (1, .int .i64 p1)] ∧ w = s15.w) ?_ ?_)))))))))
  ·rintro _ _ ⟨v24, rfl, rfl, rfl⟩
   refine L.nil (X.seqN ?_)
   rcases ifS hm with ⟨hc, hm⟩ | ⟨hc, hm⟩
   ·refine E.cT R hc (ER (L.as Y R R (LN (E.ret (X.seqR (X.blkR (X.seqR (X.seqR ?_))))))))
    have hx := ho13 _ (oi hm).symm
    exact X.sub (K21 _ _ ⟨s15, 2, hx.symm, m0, R, R⟩) (Sub.rf R)
   refine E.cF R hc (E.skip (X.seqN (ER (L.mv Y R R (L.bi Y R R R R (L.mv Y R R ?_))))))
   obtain ⟨b25, eb25, hm⟩ := bindS hm
   refine L.cut 8 (fun e w => ∃ (v26 : Bool), b25 = v26 ∧ e = (31, .bool v26) :: [(9, .int .i64 st13), (8, .int .i64 (p0.length : Int)), (7, .slice a1 p0.length c1), (0, .slice a1 p0.length c1), (1, .int .i64 p1)] ∧ w = s15.w) ?_ ?_
   ·rintro _ _ ⟨v26, rfl, rfl, rfl⟩
    refine L.nil (X.seqN ?_)
    rcases ifS hm with ⟨hc, hm⟩ | ⟨hc, hm⟩
    ·refine E.cT R hc (ER (L.as Y R R (LN (E.ret (X.blkR (X.seqR (X.seqR ?_)))))))
     have hx := ho13 _ (oi hm).symm
     exact X.sub (K21 _ _ ⟨s15, 5, hx.symm, m0, R, R⟩) (Sub.rf R)
    exact E.cF R hc (E.skip (X.blkN (X.seqN (E.reg (L.bi Y R R R R (L.mv Y R R (L.nil (X.sub (ih13 _ (oi hm).symm _ _ ⟨s15, m0, h1, R, R⟩) (Sub.rf R)))))))))
   intro J27
   rcases ifS eb25 with ⟨hc, hm⟩ | ⟨hc, hm⟩
   ·refine L.know (d := 23) R hc (L.mv (Wt.mk R R) R R (L.mv (Wt.mk R R) R R (L.mv (Wt.mk R R) R R (L.bi (Wt.mk R R) R R R R ?_))))
    obtain ⟨x28, ex28, hm⟩ := bindS hm
    refine L.ix (r := qI) sl22 h1 (Wt.mk R R) R R ex28 R fun b29 o29 cc29 me29 rd29 => ?_
    obtain rfl := rd29
    exact L.ld (j := 0) me29 nag3 (Wt.mk R R) R R R R (L.bi (Wt.mk R R) R R R R (L.pkT Y R R R R (L.sb (J27 _ _ ⟨(decide (x22 ≤ x28)), (oi hm).symm, R, R⟩) R)))
   exact L.know (d := 23) R hc (L.skip R R R R (L.skip R R R R (L.skip R R R R (L.skip R R R R (L.skip R R R R (L.skip R R R R (L.skip R R R R (L.pkF Y R R R R (L.sb (J27 _ _ ⟨false, (oi hm).symm, R, R⟩) R)))))))))
  intro J30
  rcases Bool.eq_false_or_eq_true (decide (x22 < 0)) with hc | hc
  ·exact L.know (d := 16) R hc (L.skip R R R R (L.skip R R R R (L.skip R R R R (L.pkT Y R R R R (L.sb (J30 _ _ ⟨true, (orT hc).symm, R, R⟩) R)))))
  exact L.know (d := 16) R hc (L.mv (Wt.mk R R) R R (L.mv (Wt.mk R R) R R (L.bi (Wt.mk R R) R R R R (L.pkF Y R R R R (L.sb (J30 _ _ ⟨(decide (x22 ≥ p1)), (orF hc).symm, R, R⟩) R)))))
 refine E.cF R hc (E.exit (X.seqX (X.seqX ?_)))
 have hx := ho13 _ (oi hm).symm
 exact X.sub (K18 _ _ ⟨s15, (), hx.symm, m0, R, R⟩) Sub.nil

theorem cf51 : Cf Tryz.prog 51 := Cf.mk Tryz.func51 (by kernel_rfl) (by kernel_rfl)
theorem sl73 : Sl Tryz.prog 73 25 4 := Sl.mk' Tryz.underlying73 (by kernel_rfl)
noncomputable def m_product_Check_l1 (p0 : List AutT) (st17 : Int) : Option (Int ⊕ (Unit ⊕ Int)) :=
 if decide (st17 < (p0.length : Int)) then
  (idx p0 st17).bind fun x26 =>
  (m_automaton_Check x26).bind fun r36 =>
  if (r36 != 0) then
   some (.inr (.inr (r36)))
  else
   some (.inl (W (st17 + 1)))
 else
  some (.inr (.inl ()))
noncomputable def m_product_Check (p0 : List AutT) : Option Int :=
 if decide ((p0.length : Int) > 12) then
  some 3
 else
  (iter (m_product_Check_l1 p0) 0).bind fun o17 =>
  match o17 with
  | .inl u20 =>
   some 0
  | .inr (u23) =>
   some u23
theorem m_product_Check_c {s : Sig} {p0 : List AutT} {a1 : Option Addr} {c1 : Nat} {r : Int} (h1 : RdL (rP (rL qI) (rP qI (rP (rL qI) (rL qT)))) s a1 c1 p0) (hm : m_product_Check p0 = some r) :
    Calls Tryz.prog 76 #[.slice a1 p0.length c1] s.w (RetS No s fun v s' => v = .int .i64 r) := by
 unfold m_product_Check at hm
 obtain ⟨N, hN, hNb⟩ := s.fresh
 have m0 : Mv (Up N No) s s := Mv.refl _ _
 refine E.entry Tryz.func76 R Tryz.ntmps76 R R (ER (L.as Y R R (LN (E.seq (ER (L.mv Y R R (L.len sl73 Y R R (L.bi Y R R R R (L.nil (X.seqN ?_))))))))))
 rcases ifS hm with ⟨hc, hm⟩ | ⟨hc, hm⟩
 ·refine E.cT R hc (ER (L.as Y R R (LN (E.ret (X.seqR ?_)))))
  obtain rfl := oi hm
  exact X.rt (.inl R) Tryz.results76 (Rs.tmp R Rs.nil) R ⟨_, (s).ren N (fun _ => 0), R, R, m0.ren hNb, R⟩
 refine E.cF R hc (E.skip (X.seqN (E.seq (ER (L.mv Y R R (L.len sl73 Y R R (L.mv Y R R (LN (E.block ?_)))))))))
 obtain ⟨o17, eo17, hm⟩ := bindS hm
 refine E.cut (x := .exit 0) (fun e w => ∃ (s21 : Sig) (u20 : Unit), o17 = .inl u20 ∧ Mv (Up N No) s s21 ∧ e = [] ∧ w = s21.w) ?_ ?_
 ·rintro _ _ ⟨s21, u20, rfl, m0, rfl, rfl⟩
  dsimp only at hm
  refine X.blkE (X.seqN (ER (L.as Y R R (LN (E.ret ?_)))))
  obtain rfl := oi hm
  exact X.rt (.inl R) Tryz.results76 (Rs.tmp R Rs.nil) R ⟨_, (s21).ren N (fun _ => 0), R, R, m0.ren hNb, R⟩
 intro K22
 refine E.cut (x := .ret) (fun e w => ∃ (s24 : Sig) (u23 : Int), o17 = .inr (u23) ∧ Mv (Up N No) s s24 ∧ e = [(2, .int .i64 u23)] ∧ w = s24.w) ?_ ?_
 ·rintro _ _ ⟨s24, u23, rfl, m0, rfl, rfl⟩
  dsimp only at hm
  refine X.blkR (X.seqR ?_)
  obtain rfl := oi hm
  exact X.rt (.inl R) Tryz.results76 (Rs.tmp R Rs.nil) R ⟨_, (s24).ren N (fun _ => 0), R, R, m0.ren hNb, R⟩
 intro K25
 refine E.iter (fun (st17 : Int) (e : List (Nat × Value)) (w : World) => ∃ (s19 : Sig), Mv (Up N No) s s19 ∧ RdL (rP (rL qI) (rP qI (rP (rL qI) (rL qT)))) s19 a1 c1 p0 ∧ e = [(11, .int .i64 st17), (10, .int .i64 (p0.length : Int)), (9, .slice a1 p0.length c1)] ∧ w = s19.w) eo17 ⟨s, m0, h1, R, R⟩ (Sub.rf R) ?_
 rintro st17 res17 hm ih17 ho17 _ _ ⟨s19, m0, h1, rfl, rfl⟩
 unfold m_product_Check_l1 at hm
 refine ER (L.bi Y R R R R (LN (E.seq ?_)))
 rcases ifS hm with ⟨hc, hm⟩ | ⟨hc, hm⟩
 ·refine E.cT R hc (E.skip (X.seqN (E.seq (E.block (E.seq (E.reg ?_))))))
  obtain ⟨x26, ex26, hm⟩ := bindS hm
  refine L.ix (r := (rP (rL qI) (rP qI (rP (rL qI) (rL qT))))) sl73 h1 Y R R ex26 R fun b27 o27 cc27 me27 rd27 => ?_
  obtain ⟨_, _, rfl, ⟨a28, c28, rfl, h28⟩, ⟨_, _, rfl, rfl, ⟨_, _, rfl, ⟨a29, c29, rfl, h29⟩, ⟨a30, c30, rfl, h30⟩⟩⟩⟩ := rd27
  refine L.lg (j := 0) (cs := [.slice a28 x26.1.length c28, .int .i64 x26.2.1, .slice a29 x26.2.2.1.length c29, .slice a30 x26.2.2.2.length c30]) me27 ag25 Y R R R R R (L.al (N + 0) zz25 R Y R fun b31 s32 m33 bx31 => ?_)
  refine L.st (c := [.slice a28 x26.1.length c28, .int .i64 x26.2.1, .slice a29 x26.2.2.1.length c29, .slice a30 x26.2.2.2.length c30]) (cs' := #[.slice a28 x26.1.length c28, .int .i64 x26.2.1, .slice a29 x26.2.2.1.length c29, .slice a30 x26.2.2.2.length c30]) bx31 ag25.sz Y R R R R R (nb R) R fun s34 m35 bx31 => ?_
  replace h28 := (h28.mono m33.z).mono (m35.le (tg0 hN))
  replace h29 := (h29.mono m33.z).mono (m35.le (tg0 hN))
  replace h30 := (h30.mono m33.z).mono (m35.le (tg0 hN))
  refine LN (ER (L.lg (j := 0) (cs := [.slice a28 x26.1.length c28, .int .i64 x26.2.1, .slice a29 x26.2.2.1.length c29, .slice a30 x26.2.2.2.length c30]) bx31.mem ag25 Y R R R R R ?_))
  obtain ⟨r36, er36, hm⟩ := bindS hm
  refine L.ca cf51 R R Y R (m_automaton_Check_c (s := s34) (p0 := x26) h28 h29 h30 er36) R ?_
  rintro _ s37 m38 rfl
  replace m0 := ((m0.trans m33.no).trans (m35.one up)).trans m38.no
  replace h1 := ((h1.mono m33.z).mono (m35.le (tg0 hN))).mono m38.z
  refine L.as Y R R (LN (ER (L.mv Y R R (L.bi Y R R R R (L.nil (X.seqN ?_))))))
  rcases ifS hm with ⟨hc, hm⟩ | ⟨hc, hm⟩
  ·refine E.cT R hc (ER (L.mv Y R R (L.as Y R R (LN (E.ret (X.blkR (X.seqR (X.seqR ?_))))))))
   have hx := ho17 _ (oi hm).symm
   exact X.sub (K25 _ _ ⟨s37, r36, hx.symm, m0, R, R⟩) (Sub.rf R)
  exact E.cF R hc (E.skip (X.blkN (X.seqN (E.reg (L.bi Y R R R R (L.mv Y R R (L.nil (X.sub (ih17 _ (oi hm).symm _ _ ⟨s37, m0, h1, R, R⟩) (Sub.rf R)))))))))
 refine E.cF R hc (E.exit (X.seqX (X.seqX ?_)))
 have hx := ho17 _ (oi hm).symm
 exact X.sub (K22 _ _ ⟨s19, (), hx.symm, m0, R, R⟩) Sub.nil

noncomputable def m_alphabet_Union_1 (p0 : Bool) (p1 : Bool) : Option Bool :=
 some (p0 || p1)
theorem m_alphabet_Union_1_c {s : Sig} {p0 : Bool} {p1 : Bool} {r : Bool} (hm : m_alphabet_Union_1 p0 p1 = some r) :
    Calls Tryz.prog 178 #[.bool p0, .bool p1] s.w (RetS No s fun v s' => v = .bool r) := by
 unfold m_alphabet_Union_1 at hm
 obtain ⟨N, hN, hNb⟩ := s.fresh
 have m0 : Mv (Up N No) s s := Mv.refl _ _
 refine E.entry Tryz.func178 R Tryz.ntmps178 R R (ER (L.as Y R R (LN (ER (L.mv Y R R (L.mv Y R R (L.cut 2 (fun e w => ∃ (v1 : Bool), (p0 || p1) = v1 ∧ e = (8, .bool v1) :: [] ∧ w = s.w) ?_ ?_)))))))
 ·rintro _ _ ⟨v1, rfl, rfl, rfl⟩
  refine L.as Y R R (LN (E.ret ?_))
  obtain rfl := oi hm
  exact X.rt (.inl R) Tryz.results178 (Rs.tmp R Rs.nil) R ⟨_, (s).ren N (fun _ => 0), R, R, m0.ren hNb, R⟩
 intro J2
 rcases Bool.eq_false_or_eq_true p0 with hc | hc
 ·exact L.know (d := 6) R hc (L.skip R R R R (L.pkT Y R R R R (L.sb (J2 _ _ ⟨true, (orT hc).symm, R, R⟩) R)))
 exact L.know (d := 6) R hc (L.mv (Wt.mk R R) R R (L.pkF Y R R R R (L.sb (J2 _ _ ⟨p1, (orF hc).symm, R, R⟩) R)))

theorem cf178 : Cf Tryz.prog 178 := Cf.mk Tryz.func178 (by kernel_rfl) (by kernel_rfl)
theorem fv178 {s : Sig} : FV2 Tryz.prog s (.func (.func 178) #[] #[]) (fun (x0 : Bool) (x1 : Bool) => [.bool x0, .bool x1]) (fun r => .bool r) m_alphabet_Union_1 := ⟨178, #[], #[], rfl, cf178, fun x0 x1 r hm s' hl => by have hh := m_alphabet_Union_1_c (s := s') hm; simpa using hh⟩
noncomputable def m_alphabet_Union (p0 : List Int) (p1 : List Int) : Option (List Int) :=
 (m_alphabet_merge p0 p1 m_alphabet_Union_1).bind fun r4 =>
 some r4
theorem m_alphabet_Union_c {s : Sig} {p0 : List Int} {p1 : List Int} {a1 : Option Addr} {c1 : Nat} {a2 : Option Addr} {c2 : Nat} {u0 : Nat} {r : List Int} (h1 : RdL qI s a1 c1 p0) (h2 : RdL qI s a2 c2 p1) (hm : m_alphabet_Union p0 p1 = some r) :
    Calls Tryz.prog 160 #[.slice a1 p0.length c1, .slice a2 p1.length c2] s.w (RetS No s fun v s' => ∃ (a3 : Option Addr) (c3 : Nat), v = .slice a3 r.length c3 ∧ RowT qI s' u0 3 a3 c3 r) := by
 unfold m_alphabet_Union at hm
 obtain ⟨N, hN, hNb⟩ := s.fresh
 have m0 : Mv (Up N No) s s := Mv.refl _ _
 refine E.entry Tryz.func160 R Tryz.ntmps160 R R (ER (L.as Y R R (LN (ER (L.mv Y R R (L.mv Y R R ?_))))))
 obtain ⟨r4, er4, hm⟩ := bindS hm
 refine L.ca cf72 R R Y R (m_alphabet_merge_c (s := s) (p0 := p0) (p1 := p1) (p2 := m_alphabet_Union_1) (u0 := (N + 0)) h1 h2 fv178 er4) R ?_
 rintro _ s5 m6 ⟨a7, c7, rfl, h7⟩
 replace m0 := m0.trans m6.no
 refine L.as Y R R (LN (E.ret ?_))
 obtain rfl := oi hm
 exact X.rt (.inl R) Tryz.results160 (Rs.tmp R Rs.nil) R ⟨_, (s5).ren N (fun k => cond (Nat.beq k 0) u0 (0)), R, R, m0.ren hNb, ⟨a7, c7, R, (h7.ren hN)⟩⟩

theorem cf160 : Cf Tryz.prog 160 := Cf.mk Tryz.func160 (by kernel_rfl) (by kernel_rfl)
noncomputable def m_product_events_l1 (p0 : List AutT) (st24 : Int × List Int) : Option ((Int × List Int) ⊕ (List Int)) :=
 if decide (st24.1 < (p0.length : Int)) then
  (idx p0 st24.1).bind fun x30 =>
  (m_alphabet_Union st24.2 x30.1).bind fun r41 =>
  some (.inl (W (st24.1 + 1), r41))
 else
  some (.inr st24.2)
noncomputable def m_product_events (p0 : List AutT) : Option (List Int) :=
 (iter (m_product_events_l1 p0) (0, ([] : List Int))).bind fun o24 =>
 some o24
theorem m_product_events_c {s : Sig} {p0 : List AutT} {a1 : Option Addr} {c1 : Nat} {u0 : Nat} {r : List Int} (h1 : RdL (rP (rL qI) (rP qI (rP (rL qI) (rL qT)))) s a1 c1 p0) (hm : m_product_events p0 = some r) :
    Calls Tryz.prog 123 #[.slice a1 p0.length c1] s.w (RetS No s fun v s' => ∃ (a2 : Option Addr) (c2 : Nat), v = .slice a2 r.length c2 ∧ RowT qI s' u0 3 a2 c2 r) := by
 unfold m_product_events at hm
 obtain ⟨N, hN, hNb⟩ := s.fresh
 have m0 : Mv (Up N No) s s := Mv.refl _ _
 refine E.entry Tryz.func123 R Tryz.ntmps123 R R (ER (L.as Y R R (LN (ER (L.as Y R R (LN (E.seq (ER (L.mv Y R R (L.len sl73 Y R R (L.mv Y R R (LN (E.block ?_)))))))))))))
 obtain ⟨o24, eo24, hm⟩ := bindS hm
 refine E.cut (x := .exit 0) (fun e w => ∃ (s28 : Sig) (a26 : Option Addr) (c26 : Nat), Mv (Up N No) s s28 ∧ RowT qI s28 (N + 1) 3 a26 c26 o24 ∧ e = [(3, .slice a26 o24.length c26)] ∧ w = s28.w) ?_ ?_
 ·rintro _ _ ⟨s28, a26, c26, m0, h26, rfl, rfl⟩
  refine X.blkE (X.seqN (ER (L.mv Y R R (L.as Y R R (LN (E.ret ?_))))))
  obtain rfl := oi hm
  exact X.rt (.inl R) Tryz.results123 (Rs.tmp R Rs.nil) R ⟨_, (s28).ren N (fun k => cond (Nat.beq k 1) u0 (0)), R, R, m0.ren hNb, ⟨a26, c26, R, (h26.ren hN)⟩⟩
 intro K29
 refine E.iter (fun (st24 : Int × List Int) (e : List (Nat × Value)) (w : World) => ∃ (s27 : Sig) (a5 : Option Addr) (c5 : Nat), Mv (Up N No) s s27 ∧ RdL (rP (rL qI) (rP qI (rP (rL qI) (rL qT)))) s27 a1 c1 p0 ∧ RowT qI s27 (N + 1) 3 a5 c5 st24.2 ∧ e = [(8, .int .i64 st24.1), (7, .int .i64 (p0.length : Int)), (6, .slice a1 p0.length c1), (3, .slice a5 st24.2.length c5)] ∧ w = s27.w) eo24 ⟨s, none, 0, m0, h1, RowT.nil, R, R⟩ (Sub.rf R) ?_
 rintro st24 res24 hm ih24 ho24 _ _ ⟨s27, a5, c5, m0, h1, h5, rfl, rfl⟩
 unfold m_product_events_l1 at hm
 refine ER (L.bi Y R R R R (LN (E.seq ?_)))
 rcases ifS hm with ⟨hc, hm⟩ | ⟨hc, hm⟩
 ·refine E.cT R hc (E.skip (X.seqN (E.seq (E.block (E.seq (E.reg ?_))))))
  obtain ⟨x30, ex30, hm⟩ := bindS hm
  refine L.ix (r := (rP (rL qI) (rP qI (rP (rL qI) (rL qT))))) sl73 h1 Y R R ex30 R fun b31 o31 cc31 me31 rd31 => ?_
  obtain ⟨_, _, rfl, ⟨a32, c32, rfl, h32⟩, ⟨_, _, rfl, rfl, ⟨_, _, rfl, ⟨a33, c33, rfl, h33⟩, ⟨a34, c34, rfl, h34⟩⟩⟩⟩ := rd31
  refine L.lg (j := 0) (cs := [.slice a32 x30.1.length c32, .int .i64 x30.2.1, .slice a33 x30.2.2.1.length c33, .slice a34 x30.2.2.2.length c34]) me31 ag25 Y R R R R R (L.al (N + 0) zz25 R Y R fun b35 s36 m37 bx35 => ?_)
  refine L.st (c := [.slice a32 x30.1.length c32, .int .i64 x30.2.1, .slice a33 x30.2.2.1.length c33, .slice a34 x30.2.2.2.length c34]) (cs' := #[.slice a32 x30.1.length c32, .int .i64 x30.2.1, .slice a33 x30.2.2.1.length c33, .slice a34 x30.2.2.2.length c34]) bx35 ag25.sz Y R R R R R (nb R) R fun s38 m39 bx35 => ?_
  refine LN (E.reg (L.mv Y R R (L.fa fa25_0 Y R R (L.ld (j := 0) bx35.mem nag22 Y R R R R ?_))))
  have m40 := Sig.fz_mv (N + 1) s38
  replace h5 := ((h5.mv m37 no_No no_No).mv m39 (tq R) (tg0 hN)).fz (tgn hN)
  replace h32 := ((h32.mono m37.z).mono (m39.le (tg0 hN))).mono (m40.le (tg0 hN))
  refine L.toR (s' := (Sig.fz (N + 1) s38)) R ?_
  obtain ⟨r41, er41, hm⟩ := bindS hm
  refine L.ca cf160 R R Y R (m_alphabet_Union_c (s := (Sig.fz (N + 1) s38)) (p0 := st24.2) (p1 := x30.1) (u0 := (N + 1)) h5 h32 er41) R ?_
  rintro _ s42 m43 ⟨a44, c44, rfl, h44⟩
  replace m0 := (((m0.trans m37.no).trans (m39.one up)).trans (m40.one up)).trans m43.no
  replace h1 := (((h1.mono m37.z).mono (m39.le (tg0 hN))).mono (m40.le (tg0 hN))).mono m43.z
  exact L.as Y R R (L.nil (X.blkN (X.seqN (E.reg (L.bi Y R R R R (L.mv Y R R (L.nil (X.sub (ih24 _ (oi hm).symm _ _ ⟨s42, a44, c44, m0, h1, h44, R, R⟩) (Sub.rf R)))))))))
 refine E.cF R hc (E.exit (X.seqX (X.seqX ?_)))
 have hx := ho24 _ (oi hm).symm
 subst hx
 exact X.sub (K29 _ _ ⟨s27, a5, c5, m0, h5, R, R⟩) (Sub.rf R)

theorem ag138 : Ag Tryz.prog 138 3 := Ag.mk' Tryz.underlying138 rfl (by kernel_rfl)
theorem bs136 : Bs Tryz.prog 136 106 1 [.map none] := Bs.mk' Tryz.underlying136 (by kernel_rfl) (by kernel_rfl) rfl
theorem cf123 : Cf Tryz.prog 123 := Cf.mk Tryz.func123 (by kernel_rfl) (by kernel_rfl)
theorem el106 : El Tryz.prog 106 1 8 := El.mk' (z := .map none) (by kernel_rfl) (by kernel_rfl) (by kernel_rfl) rfl
theorem fa138_2 : FA Tryz.prog 138 2 2 := FA.mk Tryz.underlying138 rfl rfl ⟨1, by decide, by kernel_rfl⟩
theorem md106 : Md Tryz.prog 106 190 3 kvP qI 0 (.int .i64 0) := Md.mk' Tryz.underlying106 (KE.pair' Tryz.underlying190 (by kernel_rfl) Tryz.underlying3 (by kernel_rfl) (NAg.mk' Tryz.underlying3 rfl (by kernel_rfl)).agg) (by kernel_rfl) (fun _ => rfl)
theorem nag136 : NAg Tryz.prog 136 := NAg.mk' Tryz.underlying136 rfl (by kernel_rfl)
theorem pl138 : Pl Tryz.prog 138 [(0, 1), (1, 1), (2, 1)] [.slice none 0 0, .slice none 0 0, .slice none 0 0] := Pl.str Tryz.underlying138 (by kernel_rfl) (by kernel_rfl)
theorem pl190 : Pl Tryz.prog 190 (plK 1 2 0) [.int .i64 0, .int .i64 0] := Pl.arr Tryz.underlying190 (by kernel_rfl) (by kernel_rfl)
theorem zz138 : (Tryz.prog.info? 138).bind (·.zero) = some (.agg #[.slice none 0 0, .slice none 0 0, .slice none 0 0]) := by kernel_rfl
noncomputable def m_product_open_l2 (x81 : AutT) (st107 : Int × (List ((Int × Int) × Int))) : Option ((Int × (List ((Int × Int) × Int))) ⊕ (List ((Int × Int) × Int))) :=
 if decide (st107.1 < (x81.2.2.2.length : Int)) then
  (idx x81.2.2.2 st107.1).bind fun x122 =>
  some (.inl (W (st107.1 + 1), (kput st107.2 (x122.1, x122.2.1) x122.2.2)))
 else
  some (.inr st107.2)
noncomputable def m_product_open_l1 (p0 : List AutT) (st73 : Int × (List (List ((Int × Int) × Int)))) : Option ((Int × (List (List ((Int × Int) × Int)))) ⊕ (List (List ((Int × Int) × Int)))) :=
 if decide (st73.1 < (p0.length : Int)) then
  (idx p0 st73.1).bind fun x81 =>
  (iter (m_product_open_l2 x81) (0, ([] : List ((Int × Int) × Int)))).bind fun o107 =>
  (app st73.2 ([o107] : List (List ((Int × Int) × Int)))).bind fun x115 =>
  some (.inl (W (st73.1 + 1), x115))
 else
  some (.inr st73.2)
noncomputable def m_product_open (p0 : List AutT) : Option ((List AutT) × List Int × (List (List ((Int × Int) × Int)))) :=
 (m_product_events p0).bind fun r8 =>
 (iter (m_product_open_l1 p0) (0, ([] : List (List ((Int × Int) × Int))))).bind fun o73 =>
 some (p0, r8, o73)
theorem m_product_open_c {s : Sig} {p0 : List AutT} {a1 : Option Addr} {c1 : Nat} {u1 : Nat} {u2 : Nat} {r : ((List AutT) × List Int × (List (List ((Int × Int) × Int))))} (h1 : RdL (rP (rL qI) (rP qI (rP (rL qI) (rL qT)))) s a1 c1 p0) (hm : m_product_open p0 = some r) :
    Calls Tryz.prog 77 #[.slice a1 p0.length c1] s.w (RetS No s fun v s' => ∃ (a2 : Option Addr) (c2 : Nat) (a3 : Option Addr) (c3 : Nat) (a4 : Option Addr) (c4 : Nat), v = .agg #[.slice a2 r.1.length c2, .slice a3 r.2.1.length c3, .slice a4 r.2.2.length c4] ∧ RdL (rP (rL qI) (rP qI (rP (rL qI) (rL qT)))) s' a2 c2 r.1 ∧ RowT qI s' u1 3 a3 c3 r.2.1 ∧ RowT (rM kvP qI) s' u2 106 a4 c4 r.2.2) := by
 unfold m_product_open at hm
 obtain ⟨N, hN, hNb⟩ := s.fresh
 have m0 : Mv (Up N No) s s := Mv.refl _ _
 refine E.entry Tryz.func77 R Tryz.ntmps77 R R (ER (L.al (N + 0) zz138 R Y R fun b5 s6 m7 bx5 => ?_))
 replace h1 := h1.mono m7.z
 refine LN (ER (L.mv Y R R (L.mv Y R R ?_)))
 obtain ⟨r8, er8, hm⟩ := bindS hm
 refine L.ca cf123 R R Y R (m_product_events_c (s := s6) (p0 := p0) (u0 := (N + 6)) h1 er8) R ?_
 rintro _ s9 m10 ⟨a11, c11, rfl, h11⟩
 refine L.bu (cs := [.slice a1 p0.length c1, .slice a11 r8.length c11, .slice none 0 0]) pl138 Y R R R (L.al (N + 1) zz138 R Y R fun b12 s13 m14 bx12 => ?_)
 refine L.st (c := [.slice a1 p0.length c1, .slice a11 r8.length c11, .slice none 0 0]) (cs' := #[.slice a1 p0.length c1, .slice a11 r8.length c11, .slice none 0 0]) bx12 ag138.sz Y R R R R R (nb R) R fun s15 m16 bx12 => ?_
 replace m0 := (((m0.trans m7.no).trans m10.no).trans m14.no).trans (m16.one up)
 replace h1 := ((h1.mono m10.z).mono m14.z).mono (m16.le (tg0 hN))
 replace bx5 := ((bx5.mv m10 no_No).mv m14 no_No).mv m16 (tq R)
 replace h11 := (h11.mv m14 no_No no_No).mv m16 (tq R) (tg0 hN)
 refine LN (E.seq (ER (L.mv Y R R (L.len sl73 Y R R (L.mv Y R R (LN (E.block ?_)))))))
 obtain ⟨o73, eo73, hm⟩ := bindS hm
 refine E.cut (x := .exit 0) (fun e w => ∃ (s77 : Sig) (a75 : Option Addr) (c75 : Nat), Mv (Up N No) s s77 ∧ RdL (rP (rL qI) (rP qI (rP (rL qI) (rL qT)))) s77 a1 c1 p0 ∧ RowT qI s77 (N + 6) 3 a11 c11 r8 ∧ RowT (rM kvP qI) s77 (N + 5) 106 a75 c75 o73 ∧ Bx s77 (N + 0) b5 #[.slice none 0 0, .slice none 0 0, .slice none 0 0] 138 ∧ Bx s77 (N + 1) b12 #[.slice a1 p0.length c1, .slice a11 r8.length c11, .slice a75 o73.length c75] 138 ∧ e = [(3, .pointer (some ⟨b12, 0, none⟩)), (2, .pointer (some ⟨b5, 0, none⟩))] ∧ w = s77.w) ?_ ?_
 ·rintro _ _ ⟨s77, a75, c75, m0, h1, h11, h75, bx5, bx12, rfl, rfl⟩
  refine X.blkE (X.seqN (ER (L.lg (j := 0) (cs := [.slice a1 p0.length c1, .slice a11 r8.length c11, .slice a75 o73.length c75]) bx12.mem ag138 Y R R R R R (L.st (c := [.slice a1 p0.length c1, .slice a11 r8.length c11, .slice a75 o73.length c75]) (cs' := #[.slice a1 p0.length c1, .slice a11 r8.length c11, .slice a75 o73.length c75]) bx5 ag138.sz Y R R R R R (nb R) R fun s78 m79 bx5 => ?_))))
  replace m0 := m0.trans (m79.one up)
  replace h1 := h1.mono (m79.le (tg0 hN))
  replace h11 := h11.mv m79 (tq R) (tg0 hN)
  replace h75 := h75.mv m79 (tq R) (tg0 hN)
  refine LN (E.ret ?_)
  obtain rfl := oi hm
  exact X.rt (.inl R) Tryz.results77 (Rs.cell R bx5 ag138 R Rs.nil) R ⟨_, (s78).ren N (fun k => cond (Nat.beq k 6) u1 (cond (Nat.beq k 5) u2 (0))), R, R, m0.ren hNb, ⟨a1, c1, a11, c11, a75, c75, R, (h1.ren hN), (h11.ren hN), (h75.ren hN)⟩⟩
 intro K80
 refine E.iter (fun (st73 : Int × (List (List ((Int × Int) × Int)))) (e : List (Nat × Value)) (w : World) => ∃ (s76 : Sig) (a19 : Option Addr) (c19 : Nat), Mv (Up N No) s s76 ∧ RdL (rP (rL qI) (rP qI (rP (rL qI) (rL qT)))) s76 a1 c1 p0 ∧ RowT qI s76 (N + 6) 3 a11 c11 r8 ∧ RowT (rM kvP qI) s76 (N + 5) 106 a19 c19 st73.2 ∧ Bx s76 (N + 0) b5 #[.slice none 0 0, .slice none 0 0, .slice none 0 0] 138 ∧ Bx s76 (N + 1) b12 #[.slice a1 p0.length c1, .slice a11 r8.length c11, .slice a19 st73.2.length c19] 138 ∧ e = [(15, .int .i64 st73.1), (14, .int .i64 (p0.length : Int)), (13, .slice a1 p0.length c1), (3, .pointer (some ⟨b12, 0, none⟩)), (2, .pointer (some ⟨b5, 0, none⟩))] ∧ w = s76.w) eo73 ⟨s15, none, 0, m0, h1, h11, RowT.nil, bx5, bx12, R, R⟩ (Sub.rf R) ?_
 rintro st73 res73 hm ih73 ho73 _ _ ⟨s76, a19, c19, m0, h1, h11, h19, bx5, bx12, rfl, rfl⟩
 unfold m_product_open_l1 at hm
 refine ER (L.bi Y R R R R (LN (E.seq ?_)))
 rcases ifS hm with ⟨hc, hm⟩ | ⟨hc, hm⟩
 ·refine E.cT R hc (E.skip (X.seqN (E.seq (E.block (E.seq (E.reg ?_))))))
  obtain ⟨x81, ex81, hm⟩ := bindS hm
  refine L.ix (r := (rP (rL qI) (rP qI (rP (rL qI) (rL qT))))) sl73 h1 Y R R ex81 R fun b82 o82 cc82 me82 rd82 => ?_
  obtain ⟨_, _, rfl, ⟨a83, c83, rfl, h83⟩, ⟨_, _, rfl, rfl, ⟨_, _, rfl, ⟨a84, c84, rfl, h84⟩, ⟨a85, c85, rfl, h85⟩⟩⟩⟩ := rd82
  refine L.lg (j := 0) (cs := [.slice a83 x81.1.length c83, .int .i64 x81.2.1, .slice a84 x81.2.2.1.length c84, .slice a85 x81.2.2.2.length c85]) me82 ag25 Y R R R R R (L.al (N + 2) zz25 R Y R fun b86 s87 m88 bx86 => ?_)
  refine L.st (c := [.slice a83 x81.1.length c83, .int .i64 x81.2.1, .slice a84 x81.2.2.1.length c84, .slice a85 x81.2.2.2.length c85]) (cs' := #[.slice a83 x81.1.length c83, .int .i64 x81.2.1, .slice a84 x81.2.2.1.length c84, .slice a85 x81.2.2.2.length c85]) bx86 ag25.sz Y R R R R R (nb R) R fun s89 m90 bx86 => ?_
  refine LN (ER (L.mk2 (kv := kvP) (r := qI) (T := 106) (N + 3) R Y fun y91 c91 s92 m93 h91 => ?_))
  replace h91 := h91.as (T' := 0) (Le.refl _) R (fun _ e => e)
  replace m0 := ((m0.trans m88.no).trans (m90.one up)).trans m93.no
  replace h1 := ((h1.mono m88.z).mono (m90.le (tg0 hN))).mono m93.z
  replace bx5 := ((bx5.mv m88 no_No).mv m90 (tq R)).mv m93 no_No
  replace bx12 := ((bx12.mv m88 no_No).mv m90 (tq R)).mv m93 no_No
  replace h11 := ((h11.mv m88 no_No no_No).mv m90 (tq R) (tg0 hN)).mv m93 no_No no_No
  replace h19 := ((h19.mv m88 no_No no_No).mv m90 (tq R) (tg0 hN)).mv m93 no_No no_No
  replace bx86 := bx86.mv m93 no_No
  replace h85 := ((h85.mono m88.z).mono (m90.le (tg0 hN))).mono m93.z
  refine L.as Y R R (LN (E.seq (ER (L.fa fa25_3 Y R R (L.ld (j := 3) bx86.mem nag23 Y R R R R (L.len sl23 Y R R (L.mv Y R R (LN (E.block ?_)))))))))
  obtain ⟨o107, eo107, hm⟩ := bindS hm
  refine E.cut (x := .exit 2) (fun e w => ∃ (s110 : Sig), Mv (Up N No) s s110 ∧ MapO kvP qI s110 (N + 3) 0 y91 c91 o107 ∧ RdL (rP (rL qI) (rP qI (rP (rL qI) (rL qT)))) s110 a1 c1 p0 ∧ RowT qI s110 (N + 6) 3 a11 c11 r8 ∧ RowT (rM kvP qI) s110 (N + 5) 106 a19 c19 st73.2 ∧ Bx s110 (N + 0) b5 #[.slice none 0 0, .slice none 0 0, .slice none 0 0] 138 ∧ Bx s110 (N + 1) b12 #[.slice a1 p0.length c1, .slice a11 r8.length c11, .slice a19 st73.2.length c19] 138 ∧ e = [(6, .map y91), (15, .int .i64 st73.1), (14, .int .i64 (p0.length : Int)), (13, .slice a1 p0.length c1), (3, .pointer (some ⟨b12, 0, none⟩)), (2, .pointer (some ⟨b5, 0, none⟩))] ∧ w = s110.w) ?_ ?_
  ·rintro _ _ ⟨s110, m0, h91, h1, h11, h19, bx5, bx12, rfl, rfl⟩
   refine X.blkE (X.seqN (E.reg (L.fa fa138_2 Y R R (L.ld (j := 2) bx12.mem nag136 Y R R R R (L.mv Y R R ?_)))))
   have m111 := Sig.fz_mv (N + 3) s110
   refine L.toR (s' := (Sig.fz (N + 3) s110)) R (L.bsE (k := 1) (cs := [.map y91]) 0 bs136 (nb R) Y R R R R fun b112 s113 m114 bx112 => ?_)
   replace h19 := (h19.mv m111 (tq R) (tg0 hN)).mv m114 no_No no_No
   replace h91 := (h91.fz (tgn hN)).mono m114.z
   have h112 := Bx.rdL (r := (rM kvP qI)) (xs := ([o107] : List (List ((Int × Int) × Int)))) bx112 ⟨[.map y91], _, R, ⟨_, _, R, h91⟩, R⟩ (nb R)
   obtain ⟨x115, ex115, hm⟩ := bindS hm
   refine L.ap (r := (rM kvP qI)) Tryz.underlying136 el106 R (tgp hN) h19 h112.wk Y R R ex115 R fun a116 c116 s117 m118 h116 => ?_
   replace bx12 := ((bx12.mv m111 (tq R)).mv m114 no_No).mv m118 (tq R)
   refine L.fa fa138_2 Y R R (L.st (c := [.slice a116 x115.length c116]) (cs' := #[.slice a1 p0.length c1, .slice a11 r8.length c11, .slice a116 x115.length c116]) bx12 nag136.sz Y R R R R R (nb R) R fun s119 m120 bx12 => ?_)
   replace m0 := (((m0.trans (m111.one up)).trans m114.no).trans (m118.one up)).trans (m120.one up)
   replace h1 := (((h1.mono (m111.le (tg0 hN))).mono m114.z).mono (m118.le (tg0 hN))).mono (m120.le (tg0 hN))
   replace bx5 := (((bx5.mv m111 (tq R)).mv m114 no_No).mv m118 (tq R)).mv m120 (tq R)
   replace h11 := (((h11.mv m111 (tq R) (tg0 hN)).mv m114 no_No no_No).mv m118 (tq R) (tg0 hN)).mv m120 (tq R) (tg0 hN)
   replace h116 := h116.mv m120 (tq R) (tg0 hN)
   exact L.nil (X.blkN (X.seqN (E.reg (L.bi Y R R R R (L.mv Y R R (L.nil (X.sub (ih73 _ (oi hm).symm _ _ ⟨s119, a116, c116, m0, h1, h11, h116, bx5, bx12, R, R⟩) (Sub.rf R))))))))
  intro K121
  refine E.iter (fun (st107 : Int × (List ((Int × Int) × Int))) (e : List (Nat × Value)) (w : World) => ∃ (s109 : Sig), Mv (Up N No) s s109 ∧ RdL qT s109 a85 c85 x81.2.2.2 ∧ MapO kvP qI s109 (N + 3) 0 y91 c91 st107.2 ∧ RdL (rP (rL qI) (rP qI (rP (rL qI) (rL qT)))) s109 a1 c1 p0 ∧ RowT qI s109 (N + 6) 3 a11 c11 r8 ∧ RowT (rM kvP qI) s109 (N + 5) 106 a19 c19 st73.2 ∧ Bx s109 (N + 0) b5 #[.slice none 0 0, .slice none 0 0, .slice none 0 0] 138 ∧ Bx s109 (N + 1) b12 #[.slice a1 p0.length c1, .slice a11 r8.length c11, .slice a19 st73.2.length c19] 138 ∧ e = [(23, .int .i64 st107.1), (22, .int .i64 (x81.2.2.2.length : Int)), (21, .slice a85 x81.2.2.2.length c85), (6, .map y91), (15, .int .i64 st73.1), (14, .int .i64 (p0.length : Int)), (13, .slice a1 p0.length c1), (3, .pointer (some ⟨b12, 0, none⟩)), (2, .pointer (some ⟨b5, 0, none⟩))] ∧ w = s109.w) eo107 ⟨s92, m0, h85, h91, h1, h11, h19, bx5, bx12, R, R⟩ (Sub.rf R) ?_
  rintro st107 res107 hm ih107 ho107 _ _ ⟨s109, m0, h85, h91, h1, h11, h19, bx5, bx12, rfl, rfl⟩
  unfold m_product_open_l2 at hm
  refine ER (L.bi Y R R R R (LN (E.seq ?_)))
  rcases ifS hm with ⟨hc, hm⟩ | ⟨hc, hm⟩
  ·refine E.cT R hc (E.skip (X.seqN (E.seq (E.block (E.seq (E.reg ?_))))))
   obtain ⟨x122, ex122, hm⟩ := bindS hm
   refine L.ix (r := qT) sl23 h85 Y R R ex122 R fun b123 o123 cc123 me123 rd123 => ?_
   obtain ⟨_, _, rfl, rfl, ⟨_, _, rfl, rfl, rfl⟩⟩ := rd123
   refine L.lg (j := 0) (cs := [.int .i64 x122.1, .int .i64 x122.2.1, .int .i64 x122.2.2]) me123 ag97 Y R R R R R (L.al (N + 4) zz97 R Y R fun b124 s125 m126 bx124 => ?_)
   refine L.st (c := [.int .i64 x122.1, .int .i64 x122.2.1, .int .i64 x122.2.2]) (cs' := #[.int .i64 x122.1, .int .i64 x122.2.1, .int .i64 x122.2.2]) bx124 ag97.sz Y R R R R R (nb R) R fun s127 m128 bx124 => ?_
   replace h91 := (h91.mv m126 no_No no_No).mv m128 (tq R) (tg0 hN)
   refine LN (E.reg (L.mv Y R R (L.fa fa97_0 Y R R (L.ld (j := 0) bx124.mem nag3 Y R R R R (L.fa fa97_1 Y R R (L.ld (j := 1) bx124.mem nag3 Y R R R R (L.bu (cs := [.int .i64 x122.1, .int .i64 x122.2.1]) pl190 Y R R R (L.fa fa97_2 Y R R (L.ld (j := 2) bx124.mem nag3 Y R R R R (L.mu (k := (x122.1, x122.2.1)) (v := x122.2.2) md106 h91 R (tpos hN) (fun _ _ => eqP) Y R R R fun s129 m130 h91 => ?_))))))))))
   replace m0 := ((m0.trans m126.no).trans (m128.one up)).trans (m130.one up)
   replace h1 := ((h1.mono m126.z).mono (m128.le (tg0 hN))).mono (m130.le (tg0 hN))
   replace h85 := ((h85.mono m126.z).mono (m128.le (tg0 hN))).mono (m130.le (tg0 hN))
   replace bx5 := ((bx5.mv m126 no_No).mv m128 (tq R)).mv m130 (tq R)
   replace bx12 := ((bx12.mv m126 no_No).mv m128 (tq R)).mv m130 (tq R)
   replace h11 := ((h11.mv m126 no_No no_No).mv m128 (tq R) (tg0 hN)).mv m130 (tq R) (tg0 hN)
   replace h19 := ((h19.mv m126 no_No no_No).mv m128 (tq R) (tg0 hN)).mv m130 (tq R) (tg0 hN)
   exact L.nil (X.blkN (X.seqN (E.reg (L.bi Y R R R R (L.mv Y R R (L.nil (X.sub (ih107 _ (oi hm).symm _ _ ⟨s129, m0, h85, h91, h1, h11, h19, bx5, bx12, R, R⟩) (Sub.rf R))))))))
  refine E.cF R hc (E.exit (X.seqX (X.seqX ?_)))
  have hx := ho107 _ (oi hm).symm
  subst hx
  exact X.sub (K121 _ _ ⟨s109, m0, h91, h1, h11, h19, bx5, bx12, R, R⟩) (Sub.rf R)
 refine E.cF R hc (E.exit (X.seqX (X.seqX ?_)))
 have hx := ho73 _ (oi hm).symm
 subst hx
 exact X.sub (K80 _ _ ⟨s76, a19, c19, m0, h1, h11, h19, bx5, bx12, R, R⟩) (Sub.rf R)

end Go.Proofs.YtidakgbibobbdaaGreatDoor

namespace Go.Proofs.YtidakgbibobbdaaGreatDoor
open Go Go.RowKit
theorem fa138_0 : FA Tryz.prog 138 0 0 := FA.mk Tryz.underlying138 rfl rfl ⟨1, by decide, by kernel_rfl⟩
theorem nag73 : NAg Tryz.prog 73 := NAg.mk' Tryz.underlying73 rfl (by kernel_rfl)
theorem zr3 : Zr Tryz.prog qI 3 8 (0 : Int) := Zr.mk' (v := .int .i64 0) (by kernel_rfl) (by kernel_rfl) (by kernel_rfl) (fun _ => rfl)
noncomputable def m_product_machine_initial_l1 (p0 : (List AutT) × List Int × (List (List ((Int × Int) × Int)))) (st20 : Int) : Option (Int ⊕ (Unit ⊕ Unit)) :=
 if decide (st20 < (p0.1.length : Int)) then
  (idx p0.1 st20).bind fun x32 =>
  if (x32.2.1 == 0) then
   some (.inr (.inr (())))
  else
   some (.inl (W (st20 + 1)))
 else
  some (.inr (.inl ()))
noncomputable def m_product_machine_initial (p0 : (List AutT) × List Int × (List (List ((Int × Int) × Int)))) : Option (List Int × Bool) :=
 (iter (m_product_machine_initial_l1 p0) 0).bind fun o20 =>
 match o20 with
 | .inl u22 =>
  (mkL (p0.1.length : Int) (0 : Int)).bind fun x24 =>
  some (x24, true)
 | .inr (u29) =>
  some (([] : List Int), false)
theorem m_product_machine_initial_c {s : Sig} {p0 : (List AutT) × List Int × (List (List ((Int × Int) × Int)))} {a1 : Option Addr} {c1 : Nat} {a2 : Option Addr} {c2 : Nat} {a3 : Option Addr} {c3 : Nat} {u0 : Nat} {r : List Int × Bool} (h1 : RdL (rP (rL qI) (rP qI (rP (rL qI) (rL qT)))) s a1 c1 p0.1) (h2 : RdL qI s a2 c2 p0.2.1) (h3 : RdL (rM kvP qI) s a3 c3 p0.2.2) (hm : m_product_machine_initial p0 = some r) :
    Calls Tryz.prog 78 #[.agg #[.slice a1 p0.1.length c1, .slice a2 p0.2.1.length c2, .slice a3 p0.2.2.length c3]] s.w (RetS No s fun v s' => ∃ (a4 : Option Addr) (c4 : Nat), v = .tuple #[.slice a4 r.1.length c4, .bool r.2] ∧ RowT qI s' u0 3 a4 c4 r.1) := by
 unfold m_product_machine_initial at hm
 obtain ⟨N, hN, hNb⟩ := s.fresh
 have m0 : Mv (Up N No) s s := Mv.refl _ _
 refine E.entry Tryz.func78 R Tryz.ntmps78 R R (ER (L.box (N + 0) Y R R R fun b5 s6 m7 bx5 => ?_))
 replace m0 := m0.trans m7.no
 replace h1 := h1.mono m7.z
 replace h2 := h2.mono m7.z
 replace h3 := h3.mono m7.z
 refine L.as Y R R (L.as Y R R (LN (E.seq (ER (L.fa fa138_0 Y R R (L.ld (j := 0) bx5.mem nag73 Y R R R R (L.len sl73 Y R R (L.mv Y R R (LN (E.block ?_))))))))))
 obtain ⟨o20, eo20, hm⟩ := bindS hm
 refine E.cut (x := .exit 0) (fun e w => ∃ (s23 : Sig) (u22 : Unit), o20 = .inl u22 ∧ Mv (Up N No) s s23 ∧ RdL (rP (rL qI) (rP qI (rP (rL qI) (rL qT)))) s23 a1 c1 p0.1 ∧ RdL qI s23 a2 c2 p0.2.1 ∧ RdL (rM kvP qI) s23 a3 c3 p0.2.2 ∧ Bx s23 (N + 0) b5 #[.slice a1 p0.1.length c1, .slice a2 p0.2.1.length c2, .slice a3 p0.2.2.length c3] 138 ∧ e = [(1, .pointer (some ⟨b5, 0, none⟩))] ∧ w = s23.w) ?_ ?_
 ·rintro _ _ ⟨s23, u22, rfl, m0, h1, h2, h3, bx5, rfl, rfl⟩
  dsimp only at hm
  refine X.blkE (X.seqN (ER (L.fa fa138_0 Y R R (L.ld (j := 0) bx5.mem nag73 Y R R R R (L.len sl73 Y R R ?_)))))
  obtain ⟨x24, ex24, hm⟩ := bindS hm
  refine L.mk (z := (0 : Int)) (N + 2) Tryz.underlying22 zr3 R Y R R ex24 R fun b25 s26 m27 h25 => ?_
  replace m0 := m0.trans m27.no
  refine L.as Y R R (L.as Y R R (LN (E.ret ?_)))
  obtain rfl := oi hm
  exact X.rt (.inl R) Tryz.results78 (Rs.tmp R (Rs.tmp R Rs.nil)) R ⟨_, (s26).ren N (fun k => cond (Nat.beq k 2) u0 (0)), R, R, m0.ren hNb, ⟨(some ⟨b25, 0, none⟩), x24.length, R, (h25.ren hN)⟩⟩
 intro K28
 refine E.cut (x := .ret) (fun e w => ∃ (s30 : Sig) (u29 : Unit), o20 = .inr (u29) ∧ Mv (Up N No) s s30 ∧ e = [(3, .bool false), (2, .slice none 0 0)] ∧ w = s30.w) ?_ ?_
 ·rintro _ _ ⟨s30, u29, rfl, m0, rfl, rfl⟩
  dsimp only at hm
  refine X.blkR (X.seqR ?_)
  obtain rfl := oi hm
  exact X.rt (.inl R) Tryz.results78 (Rs.tmp R (Rs.tmp R Rs.nil)) R ⟨_, (s30).ren N (fun _ => 0), R, R, m0.ren hNb, ⟨none, 0, R, RowT.nil⟩⟩
 intro K31
 refine E.iter (fun (st20 : Int) (e : List (Nat × Value)) (w : World) => ∃ (s21 : Sig), Mv (Up N No) s s21 ∧ RdL (rP (rL qI) (rP qI (rP (rL qI) (rL qT)))) s21 a1 c1 p0.1 ∧ RdL qI s21 a2 c2 p0.2.1 ∧ RdL (rM kvP qI) s21 a3 c3 p0.2.2 ∧ Bx s21 (N + 0) b5 #[.slice a1 p0.1.length c1, .slice a2 p0.2.1.length c2, .slice a3 p0.2.2.length c3] 138 ∧ e = [(9, .int .i64 st20), (8, .int .i64 (p0.1.length : Int)), (7, .slice a1 p0.1.length c1), (1, .pointer (some ⟨b5, 0, none⟩))] ∧ w = s21.w) eo20 ⟨s6, m0, h1, h2, h3, bx5, R, R⟩ (Sub.rf R) ?_
 rintro st20 res20 hm ih20 ho20 _ _ ⟨s21, m0, h1, h2, h3, bx5, rfl, rfl⟩
 unfold m_product_machine_initial_l1 at hm
 refine ER (L.bi Y R R R R (LN (E.seq ?_)))
 rcases ifS hm with ⟨hc, hm⟩ | ⟨hc, hm⟩
 ·refine E.cT R hc (E.skip (X.seqN (E.seq (E.block (E.seq (E.reg ?_))))))
  obtain ⟨x32, ex32, hm⟩ := bindS hm
  refine L.ix (r := (rP (rL qI) (rP qI (rP (rL qI) (rL qT))))) sl73 h1 Y R R ex32 R fun b33 o33 cc33 me33 rd33 => ?_
  obtain ⟨_, _, rfl, ⟨a34, c34, rfl, h34⟩, ⟨_, _, rfl, rfl, ⟨_, _, rfl, ⟨a35, c35, rfl, h35⟩, ⟨a36, c36, rfl, h36⟩⟩⟩⟩ := rd33
  refine L.lg (j := 0) (cs := [.slice a34 x32.1.length c34, .int .i64 x32.2.1, .slice a35 x32.2.2.1.length c35, .slice a36 x32.2.2.2.length c36]) me33 ag25 Y R R R R R (L.al (N + 1) zz25 R Y R fun b37 s38 m39 bx37 => ?_)
  refine L.st (c := [.slice a34 x32.1.length c34, .int .i64 x32.2.1, .slice a35 x32.2.2.1.length c35, .slice a36 x32.2.2.2.length c36]) (cs' := #[.slice a34 x32.1.length c34, .int .i64 x32.2.1, .slice a35 x32.2.2.1.length c35, .slice a36 x32.2.2.2.length c36]) bx37 ag25.sz Y R R R R R (nb R) R fun s40 m41 bx37 => ?_
  replace m0 := (m0.trans m39.no).trans (m41.one up)
  replace h1 := (h1.mono m39.z).mono (m41.le (tg0 hN))
  replace bx5 := (bx5.mv m39 no_No).mv m41 (tq R)
  replace h2 := (h2.mono m39.z).mono (m41.le (tg0 hN))
  replace h3 := (h3.mono m39.z).mono (m41.le (tg0 hN))
  refine LN (ER (L.fa fa25_1 Y R R (L.ld (j := 1) bx37.mem nag3 Y R R R R (L.bi Y R R R R (L.nil (X.seqN ?_))))))
  rcases ifS hm with ⟨hc, hm⟩ | ⟨hc, hm⟩
  ·refine E.cT R hc (ER (L.as Y R R (L.as Y R R (LN (E.ret (X.blkR (X.seqR (X.seqR ?_))))))))
   have hx := ho20 _ (oi hm).symm
   exact X.sub (K31 _ _ ⟨s40, (), hx.symm, m0, R, R⟩) (Sub.rf R)
  exact E.cF R hc (E.skip (X.blkN (X.seqN (E.reg (L.bi Y R R R R (L.mv Y R R (L.nil (X.sub (ih20 _ (oi hm).symm _ _ ⟨s40, m0, h1, h2, h3, bx5, R, R⟩) (Sub.rf R)))))))))
 refine E.cF R hc (E.exit (X.seqX (X.seqX ?_)))
 have hx := ho20 _ (oi hm).symm
 exact X.sub (K28 _ _ ⟨s21, (), hx.symm, m0, h1, h2, h3, bx5, R, R⟩) (Sub.rf R)

noncomputable def m_cmp_isNaN_int (p0 : Int) : Option Bool :=
 some (p0 != p0)
theorem m_cmp_isNaN_int_c {s : Sig} {p0 : Int} {r : Bool} (hm : m_cmp_isNaN_int p0 = some r) :
    Calls Tryz.prog 164 #[.int .i64 p0] s.w (RetS No s fun v s' => v = .bool r) := by
 unfold m_cmp_isNaN_int at hm
 obtain ⟨N, hN, hNb⟩ := s.fresh
 have m0 : Mv (Up N No) s s := Mv.refl _ _
 refine E.entry Tryz.func164 R Tryz.ntmps164 R R (ER (L.as Y R R (LN (ER (L.mv Y R R (L.mv Y R R (L.bi Y R R R R (L.as Y R R (LN (E.ret ?_))))))))))
 obtain rfl := oi hm
 exact X.rt (.inl R) Tryz.results164 (Rs.tmp R Rs.nil) R ⟨_, (s).ren N (fun _ => 0), R, R, m0.ren hNb, R⟩

theorem cf164 : Cf Tryz.prog 164 := Cf.mk Tryz.func164 (by kernel_rfl) (by kernel_rfl)
noncomputable def m_cmp_Less_int (p0 : Int) (p1 : Int) : Option Bool :=
 (m_cmp_isNaN_int p0).bind fun r1 =>
 (if r1 then
  (m_cmp_isNaN_int p1).bind fun r10 =>
  some (!r10)
 else
  some false).bind fun b4 =>
 some (b4 || (decide (p0 < p1)))
theorem m_cmp_Less_int_c {s : Sig} {p0 : Int} {p1 : Int} {r : Bool} (hm : m_cmp_Less_int p0 p1 = some r) :
    Calls Tryz.prog 150 #[.int .i64 p0, .int .i64 p1] s.w (RetS No s fun v s' => v = .bool r) := by
 unfold m_cmp_Less_int at hm
 obtain ⟨N, hN, hNb⟩ := s.fresh
 have m0 : Mv (Up N No) s s := Mv.refl _ _
 refine E.entry Tryz.func150 R Tryz.ntmps150 R R (ER (L.as Y R R (LN (ER (L.mv Y R R ?_)))))
 obtain ⟨r1, er1, hm⟩ := bindS hm
 refine L.ca cf164 R R Y R (m_cmp_isNaN_int_c (s := s) (p0 := p0) er1) R ?_
 rintro _ s2 m3 rfl
 replace m0 := m0.trans m3.no
 refine L.mv Y R R ?_
 obtain ⟨b4, eb4, hm⟩ := bindS hm
 refine L.cut 4 (fun e w => ∃ (s6 : Sig) (v5 : Bool), b4 = v5 ∧ Mv (Up N No) s s6 ∧ e = (11, .bool v5) :: [(0, .int .i64 p0), (1, .int .i64 p1)] ∧ w = s6.w) ?_ ?_
 ·rintro _ _ ⟨s6, v5, rfl, m0, rfl, rfl⟩
  refine L.mv Y R R (L.cut 4 (fun e w => ∃ (v7 : Bool), (b4 || (decide (p0 < p1))) = v7 ∧ e = (16, .bool v7) :: [] ∧ w = s6.w) ?_ ?_)
  ·rintro _ _ ⟨v7, rfl, rfl, rfl⟩
   refine L.as Y R R (LN (E.ret ?_))
   obtain rfl := oi hm
   exact X.rt (.inl R) Tryz.results150 (Rs.tmp R Rs.nil) R ⟨_, (s6).ren N (fun _ => 0), R, R, m0.ren hNb, R⟩
  intro J8
  rcases Bool.eq_false_or_eq_true b4 with hc | hc
  ·exact L.know (d := 12) R hc (L.skip R R R R (L.skip R R R R (L.skip R R R R (L.pkT Y R R R R (L.sb (J8 _ _ ⟨true, (orT hc).symm, R, R⟩) R)))))
  exact L.know (d := 12) R hc (L.mv (Wt.mk R R) R R (L.mv (Wt.mk R R) R R (L.bi (Wt.mk R R) R R R R (L.pkF Y R R R R (L.sb (J8 _ _ ⟨(decide (p0 < p1)), (orF hc).symm, R, R⟩) R)))))
 intro J9
 rcases ifS eb4 with ⟨hc, hm⟩ | ⟨hc, hm⟩
 ·refine L.know (d := 7) R hc (L.mv (Wt.mk R R) R R ?_)
  obtain ⟨r10, er10, hm⟩ := bindS hm
  refine L.ca cf164 R R (Wt.mk R R) R (m_cmp_isNaN_int_c (s := s2) (p0 := p1) er10) R ?_
  rintro _ s11 m12 rfl
  replace m0 := m0.trans m12.no
  exact L.not (Wt.mk R R) R R (L.pkT Y R R R R (L.sb (J9 _ _ ⟨s11, (!r10), (oi hm).symm, m0, R, R⟩) R))
 exact L.know (d := 7) R hc (L.skip R R R R (L.skip R R R R (L.skip R R R R (L.pkF Y R R R R (L.sb (J9 _ _ ⟨s2, false, (oi hm).symm, m0, R, R⟩) R)))))

noncomputable def m_slices_isNaN_int (p0 : Int) : Option Bool :=
 some (p0 != p0)
theorem m_slices_isNaN_int_c {s : Sig} {p0 : Int} {r : Bool} (hm : m_slices_isNaN_int p0 = some r) :
    Calls Tryz.prog 151 #[.int .i64 p0] s.w (RetS No s fun v s' => v = .bool r) := by
 unfold m_slices_isNaN_int at hm
 obtain ⟨N, hN, hNb⟩ := s.fresh
 have m0 : Mv (Up N No) s s := Mv.refl _ _
 refine E.entry Tryz.func151 R Tryz.ntmps151 R R (ER (L.as Y R R (LN (ER (L.mv Y R R (L.mv Y R R (L.bi Y R R R R (L.as Y R R (LN (E.ret ?_))))))))))
 obtain rfl := oi hm
 exact X.rt (.inl R) Tryz.results151 (Rs.tmp R Rs.nil) R ⟨_, (s).ren N (fun _ => 0), R, R, m0.ren hNb, R⟩

theorem cf150 : Cf Tryz.prog 150 := Cf.mk Tryz.func150 (by kernel_rfl) (by kernel_rfl)
theorem cf151 : Cf Tryz.prog 151 := Cf.mk Tryz.func151 (by kernel_rfl) (by kernel_rfl)
noncomputable def m_slices_BinarySearch_int_l1 (p0 : List Int) (p1 : Int) (st11 : Int × Int) : Option ((Int × Int) ⊕ Int) :=
 if decide (st11.2 < st11.1) then
  (idx p0 (W ((IntKind.u64.wrap (W (st11.2 + st11.1))).fdiv (2 ^ (min (1 : Int).toNat 64))))).bind fun x38 =>
  (m_cmp_Less_int x38 p1).bind fun r40 =>
  if r40 then
   some (.inl (st11.1, W ((W ((IntKind.u64.wrap (W (st11.2 + st11.1))).fdiv (2 ^ (min (1 : Int).toNat 64)))) + 1)))
  else
   some (.inl (W ((IntKind.u64.wrap (W (st11.2 + st11.1))).fdiv (2 ^ (min (1 : Int).toNat 64))), st11.2))
 else
  some (.inr st11.2)
noncomputable def m_slices_BinarySearch_int (p0 : List Int) (p1 : Int) : Option (Int × Bool) :=
 (iter (m_slices_BinarySearch_int_l1 p0 p1) ((p0.length : Int), 0)).bind fun o11 =>
 (if decide (o11 < (p0.length : Int)) then
  (idx p0 o11).bind fun x19 =>
  (if (x19 == p1) then
   some true
  else
   (idx p0 o11).bind fun x25 =>
   (m_slices_isNaN_int x25).bind fun r27 =>
   (if r27 then
    (m_slices_isNaN_int p1).bind fun r34 =>
    some r34
   else
    some false).bind fun b30 =>
   some b30).bind fun b21 =>
  some b21
 else
  some false).bind fun b15 =>
 some (o11, b15)
theorem m_slices_BinarySearch_int_c {s : Sig} {p0 : List Int} {p1 : Int} {a1 : Option Addr} {c1 : Nat} {r : Int × Bool} (h1 : RdL qI s a1 c1 p0) (hm : m_slices_BinarySearch_int p0 p1 = some r) :
    Calls Tryz.prog 118 #[.slice a1 p0.length c1, .int .i64 p1] s.w (RetS No s fun v s' => v = .tuple #[.int .i64 r.1, .bool r.2]) := by
 unfold m_slices_BinarySearch_int at hm
 obtain ⟨N, hN, hNb⟩ := s.fresh
 have m0 : Mv (Up N No) s s := Mv.refl _ _
 refine E.entry Tryz.func118 R Tryz.ntmps118 R R (ER (L.as Y R R (L.as Y R R (LN (ER (L.mv Y R R (L.len sl22 Y R R (L.as Y R R (LN (ER (L.mv Y R R (L.as Y R R (L.as Y R R (LN (E.seq (E.block ?_))))))))))))))))
 obtain ⟨o11, eo11, hm⟩ := bindS hm
 refine E.cut (x := .exit 0) (fun e w => ∃ (s14 : Sig), Mv (Up N No) s s14 ∧ RdL qI s14 a1 c1 p0 ∧ e = [(7, .int .i64 o11), (6, .int .i64 (p0.length : Int)), (0, .slice a1 p0.length c1), (1, .int .i64 p1)] ∧ w = s14.w) ?_ ?_
 ·rintro _ _ ⟨s14, m0, h1, rfl, rfl⟩
  refine X.blkE (X.seqN (ER (L.mv Y R R (L.mv Y R R (L.mv Y R R (L.bi Y R R R R (L.mv Y R R ?_)))))))
  obtain ⟨b15, eb15, hm⟩ := bindS hm
  refine L.cut 18 (fun e w => ∃ (s17 : Sig) (v16 : Bool), b15 = v16 ∧ Mv (Up N No) s s17 ∧ e = (53, .bool v16) :: [(31, .int .i64 o11)] ∧ w = s17.w) ?_ ?_
  ·rintro _ _ ⟨s17, v16, rfl, m0, rfl, rfl⟩
   refine L.as Y R R (L.as Y R R (LN (E.ret ?_)))
   obtain rfl := oi hm
   exact X.rt (.inl R) Tryz.results118 (Rs.tmp R (Rs.tmp R Rs.nil)) R ⟨_, (s17).ren N (fun _ => 0), R, R, m0.ren hNb, R⟩
  intro J18
  rcases ifS eb15 with ⟨hc, hm⟩ | ⟨hc, hm⟩
  ·refine L.know (d := 35) R hc (L.mv (Wt.mk R R) R R (L.mv (Wt.mk R R) R R ?_))
   obtain ⟨x19, ex19, hm⟩ := bindS hm
   refine L.ix (r := qI) sl22 h1 (Wt.mk R R) R R ex19 R fun b20 o20 cc20 me20 rd20 => ?_
   obtain rfl := rd20
   refine L.ld (j := 0) me20 nag3 (Wt.mk R R) R R R R (L.mv (Wt.mk R R) R R (L.bi (Wt.mk R R) R R R R (L.mv (Wt.mk R R) R R ?_)))
   obtain ⟨b21, eb21, hm⟩ := bindS hm
   refine L.cut 10 (fun e w => ∃ (s23 : Sig) (v22 : Bool), b21 = v22 ∧ Mv (Up N No) s s23 ∧ e = (52, .bool v22) :: [(35, .bool true), (31, .int .i64 o11)] ∧ w = s23.w) ?_ ?_
   ·rintro _ _ ⟨s23, v22, rfl, m0, rfl, rfl⟩
    exact L.pkT Y R R R R (L.sb (J18 _ _ ⟨s23, b21, (oi hm).symm, m0, R, R⟩) R)
   intro J24
   rcases ifS eb21 with ⟨hc, hm⟩ | ⟨hc, hm⟩
   ·exact L.know (d := 42) R hc (L.skip R R R R (L.skip R R R R (L.skip R R R R (L.skip R R R R (L.skip R R R R (L.skip R R R R (L.skipU R R R (L.skipU R R R (L.skip R R R R (L.pkT (Wt.mk R R) R R R R (L.sb (J24 _ _ ⟨s14, true, (oi hm).symm, m0, R, R⟩) R)))))))))))
   refine L.know (d := 42) R hc (L.mv (Wt.mk R R) R R (L.mv (Wt.mk R R) R R ?_))
   obtain ⟨x25, ex25, hm⟩ := bindS hm
   refine L.ix (r := qI) sl22 h1 (Wt.mk R R) R R ex25 R fun b26 o26 cc26 me26 rd26 => ?_
   obtain rfl := rd26
   refine L.ld (j := 0) me26 nag3 (Wt.mk R R) R R R R ?_
   obtain ⟨r27, er27, hm⟩ := bindS hm
   refine L.ca cf151 R R (Wt.mk R R) R (m_slices_isNaN_int_c (s := s14) (p0 := x25) er27) R ?_
   rintro _ s28 m29 rfl
   replace m0 := m0.trans m29.no
   refine L.mv (Wt.mk R R) R R ?_
   obtain ⟨b30, eb30, hm⟩ := bindS hm
   refine L.cut 3 (fun e w => ∃ (s32 : Sig) (v31 : Bool), b30 = v31 ∧ Mv (Up N No) s s32 ∧ e = (51, .bool v31) :: [(42, .bool false), (35, .bool true), (31, .int .i64 o11)] ∧ w = s32.w) ?_ ?_
   ·rintro _ _ ⟨s32, v31, rfl, m0, rfl, rfl⟩
    exact L.pkF (Wt.mk R R) R R R R (L.sb (J24 _ _ ⟨s32, b30, (oi hm).symm, m0, R, R⟩) R)
   intro J33
   rcases ifS eb30 with ⟨hc, hm⟩ | ⟨hc, hm⟩
   ·refine L.know (d := 48) R hc (L.mv (Wt.mk R R) R R ?_)
    obtain ⟨r34, er34, hm⟩ := bindS hm
    refine L.ca cf151 R R (Wt.mk R R) R (m_slices_isNaN_int_c (s := s28) (p0 := p1) er34) R ?_
    rintro _ s35 m36 rfl
    replace m0 := m0.trans m36.no
    exact L.pkT (Wt.mk R R) R R R R (L.sb (J33 _ _ ⟨s35, r34, (oi hm).symm, m0, R, R⟩) R)
   exact L.know (d := 48) R hc (L.skip R R R R (L.skip R R R R (L.pkF (Wt.mk R R) R R R R (L.sb (J33 _ _ ⟨s28, false, (oi hm).symm, m0, R, R⟩) R))))
  exact L.know (d := 35) R hc (L.skip R R R R (L.skip R R R R (L.skip R R R R (L.skip R R R R (L.skip R R R R (L.skip R R R R (L.skip R R R R (L.skipU R R R (L.skipU R R R (L.skipU R R R (L.skipU R R R (L.skipU R R R (L.skipU R R R (L.skipU R R R (L.skipU R R R (L.skipU R R R (L.skip R R R R (L.pkF Y R R R R (L.sb (J18 _ _ ⟨s14, false, (oi hm).symm, m0, R, R⟩) R)))))))))))))))))))
 intro K37
 refine E.iter (fun (st11 : Int × Int) (e : List (Nat × Value)) (w : World) => ∃ (s13 : Sig), Mv (Up N No) s s13 ∧ RdL qI s13 a1 c1 p0 ∧ e = [(8, .int .i64 st11.1), (7, .int .i64 st11.2), (6, .int .i64 (p0.length : Int)), (0, .slice a1 p0.length c1), (1, .int .i64 p1)] ∧ w = s13.w) eo11 ⟨s, m0, h1, R, R⟩ (Sub.rf R) ?_
 rintro st11 res11 hm ih11 ho11 _ _ ⟨s13, m0, h1, rfl, rfl⟩
 unfold m_slices_BinarySearch_int_l1 at hm
 refine E.seq (ER (L.mv Y R R (L.mv Y R R (L.bi Y R R R R (L.nil (X.seqN ?_))))))
 rcases ifS hm with ⟨hc, hm⟩ | ⟨hc, hm⟩
 ·refine E.cT R hc (E.skip (X.seqN (E.block (ER (L.mv Y R R (L.mv Y R R (L.bi Y R R R R (L.cv Tryz.underlying3 Tryz.underlying216 Y R R (L.shr Y R R (by decide) R (L.cv Tryz.underlying216 Tryz.underlying3 Y R R (L.as Y R R (LN (ER (L.mv Y R R (L.mv Y R R ?_)))))))))))))))
  obtain ⟨x38, ex38, hm⟩ := bindS hm
  refine L.ix (r := qI) sl22 h1 Y R R ex38 R fun b39 o39 cc39 me39 rd39 => ?_
  obtain rfl := rd39
  refine L.ld (j := 0) me39 nag3 Y R R R R (L.mv Y R R ?_)
  obtain ⟨r40, er40, hm⟩ := bindS hm
  refine L.ca cf150 R R Y R (m_cmp_Less_int_c (s := s13) (p0 := x38) (p1 := p1) er40) R ?_
  rintro _ s41 m42 rfl
  replace m0 := m0.trans m42.no
  replace h1 := h1.mono m42.z
  refine L.nil (X.seqN ?_)
  rcases ifS hm with ⟨hc, hm⟩ | ⟨hc, hm⟩
  ·exact E.cT R hc (E.reg (L.mv Y R R (L.bi Y R R R R (L.as Y R R (L.nil (X.blkN (X.sub (ih11 _ (oi hm).symm _ _ ⟨s41, m0, h1, R, R⟩) (Sub.rf R))))))))
  exact E.cF R hc (E.reg (L.mv Y R R (L.as Y R R (L.nil (X.blkN (X.sub (ih11 _ (oi hm).symm _ _ ⟨s41, m0, h1, R, R⟩) (Sub.rf R)))))))
 refine E.cF R hc (E.exit (X.seqX (X.seqX ?_)))
 have hx := ho11 _ (oi hm).symm
 subst hx
 exact X.sub (K37 _ _ ⟨s13, m0, h1, R, R⟩) (Sub.rf R)

theorem cf118 : Cf Tryz.prog 118 := Cf.mk Tryz.func118 (by kernel_rfl) (by kernel_rfl)
noncomputable def m_alphabet_Contains (p0 : List Int) (p1 : Int) : Option Bool :=
 (m_slices_BinarySearch_int p0 p1).bind fun r2 =>
 some r2.2
theorem m_alphabet_Contains_c {s : Sig} {p0 : List Int} {p1 : Int} {a1 : Option Addr} {c1 : Nat} {r : Bool} (h1 : RdL qI s a1 c1 p0) (hm : m_alphabet_Contains p0 p1 = some r) :
    Calls Tryz.prog 68 #[.slice a1 p0.length c1, .int .i64 p1] s.w (RetS No s fun v s' => v = .bool r) := by
 unfold m_alphabet_Contains at hm
 obtain ⟨N, hN, hNb⟩ := s.fresh
 have m0 : Mv (Up N No) s s := Mv.refl _ _
 refine E.entry Tryz.func68 R Tryz.ntmps68 R R (ER (L.as Y R R (LN (ER (L.mv Y R R (L.mv Y R R ?_))))))
 obtain ⟨r2, er2, hm⟩ := bindS hm
 refine L.ca cf118 R R Y R (m_slices_BinarySearch_int_c (s := s) (p0 := p0) (p1 := p1) h1 er2) R ?_
 rintro _ s3 m4 rfl
 replace m0 := m0.trans m4.no
 refine L.mv Y R R (L.ex Y R R R (L.ex Y R R R (L.as Y R R (L.as Y R R (LN (ER (L.mv Y R R (L.as Y R R (LN (E.ret ?_))))))))))
 obtain rfl := oi hm
 exact X.rt (.inl R) Tryz.results68 (Rs.tmp R Rs.nil) R ⟨_, (s3).ren N (fun _ => 0), R, R, m0.ren hNb, R⟩

theorem cf68 : Cf Tryz.prog 68 := Cf.mk Tryz.func68 (by kernel_rfl) (by kernel_rfl)
noncomputable def m_product_machine_marked_l1 (p0 : (List AutT) × List Int × (List (List ((Int × Int) × Int)))) (p1 : List Int) (st34 : Int) : Option (Int ⊕ (Unit ⊕ Unit)) :=
 if decide (st34 < (p0.1.length : Int)) then
  (idx p0.1 st34).bind fun x42 =>
  (idx p1 st34).bind fun x57 =>
  (m_alphabet_Contains x42.2.2.1 x57).bind fun r61 =>
  if (!r61) then
   some (.inr (.inr (())))
  else
   some (.inl (W (st34 + 1)))
 else
  some (.inr (.inl ()))
noncomputable def m_product_machine_marked (p0 : (List AutT) × List Int × (List (List ((Int × Int) × Int)))) (p1 : List Int) : Option Bool :=
 (iter (m_product_machine_marked_l1 p0 p1) 0).bind fun o34 =>
 match o34 with
 | .inl u36 =>
  some true
 | .inr (u39) =>
  some false
theorem m_product_machine_marked_c {s : Sig} {p0 : (List AutT) × List Int × (List (List ((Int × Int) × Int)))} {p1 : List Int} {a1 : Option Addr} {c1 : Nat} {a2 : Option Addr} {c2 : Nat} {a3 : Option Addr} {c3 : Nat} {a4 : Option Addr} {c4 : Nat} {r : Bool} (h1 : RdL (rP (rL qI) (rP qI (rP (rL qI) (rL qT)))) s a1 c1 p0.1) (h2 : RdL qI s a2 c2 p0.2.1) (h3 : RdL (rM kvP qI) s a3 c3 p0.2.2) (h4 : RdL qI s a4 c4 p1) (hm : m_product_machine_marked p0 p1 = some r) :
    Calls Tryz.prog 80 #[.agg #[.slice a1 p0.1.length c1, .slice a2 p0.2.1.length c2, .slice a3 p0.2.2.length c3], .slice a4 p1.length c4] s.w (RetS No s fun v s' => v = .bool r) := by
 unfold m_product_machine_marked at hm
 obtain ⟨N, hN, hNb⟩ := s.fresh
 have m0 : Mv (Up N No) s s := Mv.refl _ _
 refine E.entry Tryz.func80 R Tryz.ntmps80 R R (ER (L.box (N + 0) Y R R R fun b5 s6 m7 bx5 => ?_))
 replace m0 := m0.trans m7.no
 replace h4 := h4.mono m7.z
 replace h1 := h1.mono m7.z
 refine L.as Y R R (LN (E.seq (ER (L.fa fa138_0 Y R R (L.ld (j := 0) bx5.mem nag73 Y R R R R (L.len sl73 Y R R (L.mv Y R R (LN (E.block ?_)))))))))
 obtain ⟨o34, eo34, hm⟩ := bindS hm
 refine E.cut (x := .exit 0) (fun e w => ∃ (s37 : Sig) (u36 : Unit), o34 = .inl u36 ∧ Mv (Up N No) s s37 ∧ e = [] ∧ w = s37.w) ?_ ?_
 ·rintro _ _ ⟨s37, u36, rfl, m0, rfl, rfl⟩
  dsimp only at hm
  refine X.blkE (X.seqN (ER (L.as Y R R (LN (E.ret ?_)))))
  obtain rfl := oi hm
  exact X.rt (.inl R) Tryz.results80 (Rs.tmp R Rs.nil) R ⟨_, (s37).ren N (fun _ => 0), R, R, m0.ren hNb, R⟩
 intro K38
 refine E.cut (x := .ret) (fun e w => ∃ (s40 : Sig) (u39 : Unit), o34 = .inr (u39) ∧ Mv (Up N No) s s40 ∧ e = [(4, .bool false)] ∧ w = s40.w) ?_ ?_
 ·rintro _ _ ⟨s40, u39, rfl, m0, rfl, rfl⟩
  dsimp only at hm
  refine X.blkR (X.seqR ?_)
  obtain rfl := oi hm
  exact X.rt (.inl R) Tryz.results80 (Rs.tmp R Rs.nil) R ⟨_, (s40).ren N (fun _ => 0), R, R, m0.ren hNb, R⟩
 intro K41
 refine E.iter (fun (st34 : Int) (e : List (Nat × Value)) (w : World) => ∃ (s35 : Sig), Mv (Up N No) s s35 ∧ RdL (rP (rL qI) (rP qI (rP (rL qI) (rL qT)))) s35 a1 c1 p0.1 ∧ RdL qI s35 a4 c4 p1 ∧ e = [(10, .int .i64 st34), (9, .int .i64 (p0.1.length : Int)), (8, .slice a1 p0.1.length c1), (1, .slice a4 p1.length c4)] ∧ w = s35.w) eo34 ⟨s6, m0, h1, h4, R, R⟩ (Sub.rf R) ?_
 rintro st34 res34 hm ih34 ho34 _ _ ⟨s35, m0, h1, h4, rfl, rfl⟩
 unfold m_product_machine_marked_l1 at hm
 refine ER (L.bi Y R R R R (LN (E.seq ?_)))
 rcases ifS hm with ⟨hc, hm⟩ | ⟨hc, hm⟩
 ·refine E.cT R hc (E.skip (X.seqN (E.seq (E.block (ER (L.mv Y R R ?_))))))
  obtain ⟨x42, ex42, hm⟩ := bindS hm
  refine L.ix (r := (rP (rL qI) (rP qI (rP (rL qI) (rL qT))))) sl73 h1 Y R R ex42 R fun b43 o43 cc43 me43 rd43 => ?_
  obtain ⟨_, _, rfl, ⟨a44, c44, rfl, h44⟩, ⟨_, _, rfl, rfl, ⟨_, _, rfl, ⟨a45, c45, rfl, h45⟩, ⟨a46, c46, rfl, h46⟩⟩⟩⟩ := rd43
  refine L.lg (j := 0) (cs := [.slice a44 x42.1.length c44, .int .i64 x42.2.1, .slice a45 x42.2.2.1.length c45, .slice a46 x42.2.2.2.length c46]) me43 ag25 Y R R R R R (L.al (N + 1) zz25 R Y R fun b47 s48 m49 bx47 => ?_)
  refine L.as Y R R (L.st (c := [.slice a44 x42.1.length c44, .int .i64 x42.2.1, .slice a45 x42.2.2.1.length c45, .slice a46 x42.2.2.2.length c46]) (cs' := #[.slice a44 x42.1.length c44, .int .i64 x42.2.1, .slice a45 x42.2.2.1.length c45, .slice a46 x42.2.2.2.length c46]) bx47 ag25.sz Y R R R R R (nb R) R fun s50 m51 bx47 => ?_)
  replace m0 := (m0.trans m49.no).trans (m51.one up)
  replace h4 := (h4.mono m49.z).mono (m51.le (tg0 hN))
  replace h1 := (h1.mono m49.z).mono (m51.le (tg0 hN))
  replace h45 := (h45.mono m49.z).mono (m51.le (tg0 hN))
  refine LN (E.seq ?_)
  obtain ⟨x57, ex57, hm⟩ := bindS hm
  obtain ⟨r61, er61, hm⟩ := bindS hm
  refine E.draw [[], [0], [], [], [2, 3], [2, 3, 4], [0, 1, 2, 3, 4, 5], [0, 1, 2, 3, 4, 5, 6]] (fun D e sx => Mv No s50 sx ∧ Sub [(5, .int .i64 st34), (6, .pointer (some ⟨b47, 0, none⟩)), (10, .int .i64 st34), (9, .int .i64 (p0.1.length : Int)), (8, .slice a1 p0.1.length c1), (1, .slice a4 p1.length c4)] e ∧ AllP [G D e 0 15 (.pointer (some ⟨b47, 2, none⟩)), G D e 1 16 (.slice a45 x42.2.2.1.length c45), G D e 2 17 (.slice a4 p1.length c4), G D e 3 18 (.int .i64 st34), D 4 = true → (∃ (b58 : Nat) (o58 : Nat), Env.get e 19 = some (.pointer (some ⟨b58, o58, none⟩)) ∧ Mem sx 0 b58 o58 [.int .i64 x57]), G D e 5 20 (.int .i64 x57), G D e 6 21 (.bool r61), G D e 7 22 (.bool (!r61))]) (by kernel_rfl) (by kernel_rfl) (by kernel_rfl) ?_ ?_ ?_
  ·intro sz mz
   exact ⟨mz, (Sub.rf R), nofun, nofun, nofun, nofun, nofun, nofun, nofun, nofun, trivial⟩
  ·refine ⟨?_, ?_, ?_, ?_, ?_, ?_, ?_, ?_, trivial⟩
   ·rintro D e s52 ⟨im, ib, i⟩ hk hf ha
    have kn := K1 (ib 6 _ R)
    exact kn.g (L.fa fa25_2 Y R R (L.nil (X.dk kn ⟨im, Sub.fresh ib R, i.u 0 (fun _ => R)⟩)))
   ·rintro D e s53 ⟨im, ib, i⟩ hk hf ha
    have bx47 := bx47.mv im no_No
    have kn := K1 ((i.p 0) (ha.at 0 R))
    exact kn.g (L.ld (j := 2) bx47.mem nag22 Y R R R R (L.nil (X.dk kn ⟨im, Sub.fresh ib R, i.u 1 (fun _ => R)⟩)))
   ·rintro D e s54 ⟨im, ib, i⟩ hk hf ha
    have kn := K1 (ib 1 _ R)
    exact kn.g (L.mv Y R R (L.nil (X.dk kn ⟨im, Sub.fresh ib R, i.u 2 (fun _ => R)⟩)))
   ·rintro D e s55 ⟨im, ib, i⟩ hk hf ha
    have kn := K1 (ib 5 _ R)
    exact kn.g (L.mv Y R R (L.nil (X.dk kn ⟨im, Sub.fresh ib R, i.u 3 (fun _ => R)⟩)))
   ·rintro D e s56 ⟨im, ib, i⟩ hk hf ha
    have h4 := h4.mono im.z
    have kn := K2 ((i.p 2) (ha.at 2 R)) ((i.p 3) (ha.at 3 R))
    refine kn.g (L.ix (r := qI) sl22 h4 Y R R ex57 R fun b58 o58 cc58 me58 rd58 => ?_)
    obtain rfl := rd58
    exact L.nil (X.dk kn ⟨im, Sub.fresh ib R, i.u 4 (fun _ => ⟨b58, o58, R, me58⟩)⟩)
   ·rintro D e s59 ⟨im, ib, i⟩ hk hf ha
    obtain ⟨b58, o58, g4_, me58⟩ := (i.p 4) (ha.at 4 R)
    have kn := K1 g4_
    exact kn.g (L.ld (j := 0) me58 nag3 Y R R R R (L.nil (X.dk kn ⟨im, Sub.fresh ib R, i.u 5 (fun _ => R)⟩)))
   ·rintro D e s60 ⟨im, ib, i⟩ hk hf ha
    have h45 := h45.mono im.z
    have kn := K2 ((i.p 1) (ha.at 1 R)) ((i.p 5) (ha.at 5 R))
    refine kn.g (L.ca cf68 R R Y R (m_alphabet_Contains_c (s := s60) (p0 := x42.2.2.1) (p1 := x57) h45 er61) R ?_)
    rintro _ s62 m63 rfl
    exact L.nil (X.dk kn ⟨im.trans m63.no, Sub.fresh ib R, (i.u 4 (fun z => let ⟨b58, o58, q, me58⟩ := (i.p 4) z; ⟨b58, o58, q, (me58.mv m63 no_No)⟩)).u 6 (fun _ => R)⟩)
   rintro D e s64 ⟨im, ib, i⟩ hk hf ha
   have kn := K1 ((i.p 6) (ha.at 6 R))
   exact kn.g (L.not Y R R (L.nil (X.dk kn ⟨im, Sub.fresh ib R, i.u 7 (fun _ => R)⟩)))
  rintro D e s65 hD ⟨im, ib, i⟩
  have g7_ := (i.p 7) (hD 7 R)
  have h1 := h1.mono im.z
  have h4 := h4.mono im.z
  have m0 := m0.trans im.no
  refine X.sub (e' := [(22, .bool (!r61)), (10, .int .i64 st34), (9, .int .i64 (p0.1.length : Int)), (8, .slice a1 p0.1.length c1), (1, .slice a4 p1.length c4)]) ?_ (Sub.cons g7_ (Sub.cons (ib 10 _ R) (Sub.cons (ib 9 _ R) (Sub.cons (ib 8 _ R) (Sub.cons (ib 1 _ R) Sub.nil)))))
  refine X.seqN ?_
  rcases ifS hm with ⟨hc, hm⟩ | ⟨hc, hm⟩
  ·refine E.cT R hc (ER (L.as Y R R (LN (E.ret (X.blkR (X.seqR (X.seqR ?_)))))))
   have hx := ho34 _ (oi hm).symm
   exact X.sub (K41 _ _ ⟨s65, (), hx.symm, m0, R, R⟩) (Sub.rf R)
  exact E.cF R hc (E.skip (X.blkN (X.seqN (E.reg (L.bi Y R R R R (L.mv Y R R (L.nil (X.sub (ih34 _ (oi hm).symm _ _ ⟨s65, m0, h1, h4, R, R⟩) (Sub.rf R)))))))))
 refine E.cF R hc (E.exit (X.seqX (X.seqX ?_)))
 have hx := ho34 _ (oi hm).symm
 exact X.sub (K38 _ _ ⟨s35, (), hx.symm, m0, R, R⟩) Sub.nil

noncomputable def m_slices_Clone_int (p0 : List Int) : Option (List Int) :=
 (app ([] : List Int) p0).bind fun x6 =>
 some x6
theorem m_slices_Clone_int_c {s : Sig} {p0 : List Int} {a1 : Option Addr} {c1 : Nat} {u0 : Nat} {r : List Int} (h1 : RdL qI s a1 c1 p0) (hm : m_slices_Clone_int p0 = some r) :
    Calls Tryz.prog 83 #[.slice a1 p0.length c1] s.w (RetS No s fun v s' => ∃ (a2 : Option Addr) (c2 : Nat), v = .slice a2 r.length c2 ∧ RowT qI s' u0 3 a2 c2 r) := by
 unfold m_slices_Clone_int at hm
 obtain ⟨N, hN, hNb⟩ := s.fresh
 have m0 : Mv (Up N No) s s := Mv.refl _ _
 refine E.entry Tryz.func83 R Tryz.ntmps83 R R (ER (L.as Y R R (LN (E.seq (ER (L.mv Y R R (L.nil? Tryz.underlying22 Y R R R (L.nil (X.seqN ?_)))))))))
 rcases isNoneS a1 with hc | hc
 ·refine E.cT R hc ?_
  obtain rfl := h1.eq_nil hc
  replace hm : some ([] : List Int) = some r := by simpa [app, slc] using hm
  refine ER (L.as Y R R (LN (E.ret (X.seqR ?_))))
  obtain rfl := oi hm
  exact X.rt (.inl R) Tryz.results83 (Rs.tmp R Rs.nil) R ⟨_, (s).ren N (fun _ => 0), R, R, m0.ren hNb, ⟨none, 0, R, RowT.nil⟩⟩
 refine E.cF R hc (E.skip (X.seqN (ER (L.bs0 (N + 0) bs22 (nb R) Y R fun b3 s4 m5 bx3 => ?_))))
 replace h1 := h1.mono m5.z
 have h3 := Bx.row (r := qI) (xs := ([] : List Int)) bx3 R (nb R)
 refine L.mv Y R R ?_
 obtain ⟨x6, ex6, hm⟩ := bindS hm
 refine L.ap (r := qI) Tryz.underlying22 el3 R (tgp hN) h3 h1.wk Y R R ex6 R fun a7 c7 s8 m9 h7 => ?_
 replace m0 := (m0.trans m5.no).trans (m9.one up)
 refine L.as Y R R (LN (E.ret ?_))
 obtain rfl := oi hm
 exact X.rt (.inl R) Tryz.results83 (Rs.tmp R Rs.nil) R ⟨_, (s8).ren N (fun k => cond (Nat.beq k 0) u0 (0)), R, R, m0.ren hNb, ⟨a7, c7, R, (h7.ren hN)⟩⟩

end Go.Proofs.YtidakgbibobbdaaGreatDoor

