/- Texts joined: Round, Cycle, RInterior. Each is introduced by its own sentence. -/
import Derived.Deep.DeepCutAuto
import Derived.Test.YthchkddhibhenaaCyc6
import Derived.Test.YthchkddhibhenaaCyc7
import Derived.Test.YthchkddhibhenaaCyc8
import Derived.Test.YthchkddhibhenaaCyc10
import Derived.Test.YthchkddhibhenaaCyc11
import Derived.Test.YthchkddhibhenaaCyc12
/- The contract of round. -/
namespace Go.Proofs.Ythchkddhibhenaa
open Go.RowKit Go.Shelf
attribute [local go_sem] Oper.semAt_some

theorem round1_any (bs : Nat) (s t : Int) (w : World) (hb : w.cell? ⟨bs, 0, none⟩ = some (.int .i64 s)) :
    Calls Try.prog 82 #[.int .i64 t, .pointer (some ⟨bs, 0, none⟩)] w fun e w' => e = .returned (.bool (t == s)) ∧ Below w.heap.size w w' := by
  have hbl := World.block_lt_of_cell? w _ hb
  dsimp only at hbl
  go_enter Try.func82, Try.ntmps82
  go_wp2
  go_ret
  exact ⟨rfl, Below.refl _ _⟩

theorem rowcons {w : World} {B : Nat} {tag : Nat → Nat} {k : Nat} {t : TypeId} {v : Value} {e : Int} {r : List Int} (h : Row w B tag k t 1 v ([Value.int .i64 e].length + r.length) ([Value.int .i64 e] ++ ints r)) : Row w B tag k t 1 v (e :: r).length (ints (e :: r)) := by
  have h2 : [Value.int .i64 e].length + r.length = (e :: r).length := by simp; omega
  rw [h2] at h
  exact h

set_option maxRecDepth 100000 in
set_option maxHeartbeats 4000000 in
theorem round_any (aa am ae af : Option Addr) (la lm ca cm ce cf : Nat) (n : Nat) (es : List Ed) (fp : FuncId) (capp : Array Value) (perm : Ed → Bool) (s : Int) (w : World)
    (hre : RdS w 3 ae es.length ce (edCells es)) (hrf : RdS w 1 af (n + 1) cf (ints (firsts n es))) (hl : es.length ≤ 1000000) (hn : n ≤ 1000000) (hs0 : 0 ≤ s) (hs1 : s < (n : Int)) (hin : ∀ x ∈ es, 0 ≤ x.t ∧ x.t < (n : Int))
    (hep : Enters Try.prog fp)
    (hp : ∀ (x : Ed) (W : World), x ∈ es → Below w.heap.size w W → Calls Try.prog fp (#[x.val] ++ capp) W fun e w' => e = .returned (.bool (perm x)) ∧ Below W.heap.size W w') :
    Calls Try.prog 63 #[.agg #[.slice aa la ca, .int .i64 n, .slice am lm cm, .slice ae es.length ce, .slice af (n + 1) cf], .int .i64 s, .func (.func fp) #[] capp] w
      (Ret w fun u w' => PathPost (roundF n es perm s) u w') := by
  have hrf0 := hrf
  obtain ⟨bf, offf, rfl, hcf⟩ := hrf.at_elem 0 (by omega)
  have Hcf := Lib.hid hcf
  have Hp := Lib.hid hp
  have Hin := Lib.hid hin
  have Hep := Lib.hid hep
  have Hre := Lib.hid hre
  have Hrf := Lib.hid hrf0
  clear hcf hp hin hep hrf hrf0
  generalize hR0 : roundF n es perm s = R
  have HR := Lib.hid hR0.symm
  clear hR0
  refine calls_of_marks Try.func63 rfl ?_
  simp only [Try.ntmps63, List.size_toArray, List.length_cons, List.length_nil, Nat.reduceAdd, Nat.reduceSub, Array.replicate_succ, Array.replicate_zero, List.push_toArray, List.append_toArray, List.nil_append, List.cons_append]
  go_wp2_with fail
  generalize hw0 : ((((w.alloc (.cells #[.slice aa la ca, .int .i64 n, .slice am lm cm, .slice ae es.length ce, .slice (some ⟨bf, offf, none⟩) (n + 1) cf] 80)).alloc (.cells #[.int .i64 s] 3)).alloc (.cells #[(.func (.func fp) #[] capp)] 90)).alloc (.cells #[.slice none 0 0] 28)).alloc (.cells #[.bool false] 4) = w0 at *
  have hI0 : GInv w #[.slice aa la ca, .int .i64 n, .slice am lm cm, .slice ae es.length ce, .slice (some ⟨bf, offf, none⟩) (n + 1) cf] (.func (.func fp) #[] capp) s w0 (fun b => if b ≤ w.heap.size + 1 + 1 then 0 else if b = w.heap.size + 1 + 1 + 1 then 3 else 4) (.slice none 0 0) none := by
    rw [← hw0]
    refine ⟨by (repeat (first | with_reducible exact Below.refl _ _ | with_reducible exact Hre | (with_reducible refine belCall ?_ Hre (by first | omega | (simp; done) | (simp; omega) | (simp at *; omega))) | (with_reducible refine Below.alloc ?_ (by first | omega | (simp; done) | (simp; omega) | (simp at *; omega)) _) | (with_reducible refine Below.drew ?_) | (with_reducible refine Below.setCell ?_ (by first | omega | (simp; done) | (simp; omega) | (simp at *; omega)) _))), ⟨(by repeat (first | with_reducible assumption | (with_reducible refine heap_at ?_; (first | (simp; done) | (simp; omega))) | (with_reducible refine heap_past ?_ ?_; (next => first | omega | (simp; done) | (simp; omega))))), if_pos (by omega), by omega⟩, ⟨(by repeat (first | with_reducible assumption | (with_reducible refine heap_at ?_; (first | (simp; done) | (simp; omega))) | (with_reducible refine heap_past ?_ ?_; (next => first | omega | (simp; done) | (simp; omega))))), if_pos (by omega), by omega⟩, ⟨(by repeat (first | with_reducible assumption | (with_reducible refine heap_at ?_; (first | (simp; done) | (simp; omega))) | (with_reducible refine heap_past ?_ ?_; (next => first | omega | (simp; done) | (simp; omega))))), if_pos (by omega), by omega⟩, ⟨(by repeat (first | with_reducible assumption | (with_reducible refine heap_at ?_; (first | (simp; done) | (simp; omega))) | (with_reducible refine heap_past ?_ ?_; (next => first | omega | (simp; done) | (simp; omega))))), by rw [if_neg (by omega), if_pos rfl], by omega⟩, ⟨show _ = some (Obj.cells #[Value.bool false] 4 (0, 0)) from (by repeat (first | with_reducible assumption | (with_reducible refine heap_at ?_; (first | (simp; done) | (simp; omega))) | (with_reducible refine heap_past ?_ ?_; (next => first | omega | (simp; done) | (simp; omega))))), by rw [if_neg (by omega), if_neg (by omega)], by omega⟩, Row.nil _ _ _ _ _ _, fun _ => rfl⟩
  clear hw0
  refine (edges_any _ _ _ _ _ _ _ _ _ _ _ _ _ _ _).mono ?_
  rintro e w3 ⟨rfl, rfl⟩
  go_wp2_with fail
  have hI4 := (hI0.call (bel_alloc w0 (.cells #[.slice aa la ca, .int .i64 n, .slice am lm cm, .slice ae es.length ce, .slice (some ⟨bf, offf, none⟩) (n + 1) cf] 80))).call (bel_alloc _ (.cells #[.int .i64 s] 3))
  have hg3 : ((w0.alloc (.cells #[.slice aa la ca, .int .i64 n, .slice am lm cm, .slice ae es.length ce, .slice (some ⟨bf, offf, none⟩) (n + 1) cf] 80)).alloc (.cells #[.int .i64 s] 3)).cell? ⟨w0.heap.size, 3, none⟩ = some (.slice ae es.length ce) := by simp [go_sem]
  have hg4 : ((w0.alloc (.cells #[.slice aa la ca, .int .i64 n, .slice am lm cm, .slice ae es.length ce, .slice (some ⟨bf, offf, none⟩) (n + 1) cf] 80)).alloc (.cells #[.int .i64 s] 3)).cell? ⟨w0.heap.size, 4, none⟩ = some (.slice (some ⟨bf, offf, none⟩) (n + 1) cf) := by simp [go_sem]
  have hg5 : ((w0.alloc (.cells #[.slice aa la ca, .int .i64 n, .slice am lm cm, .slice ae es.length ce, .slice (some ⟨bf, offf, none⟩) (n + 1) cf] 80)).alloc (.cells #[.int .i64 s] 3)).cell? ⟨w0.heap.size + 1, 0, none⟩ = some (.int .i64 s) := by simp [go_sem]
  clear hI0
  generalize (w0.alloc (.cells #[.slice aa la ca, .int .i64 n, .slice am lm cm, .slice ae es.length ce, .slice (some ⟨bf, offf, none⟩) (n + 1) cf] 80)).alloc (.cells #[.int .i64 s] 3) = w3 at *
  have hfc : ∀ j : Nat, j ≤ n → w3.cell? ⟨bf, offf + j, none⟩ = some (.int .i64 (fstN es j)) := by
    intro j hj
    have h1 := Hcf.out j (by simp [firsts]; omega)
    have h2 := firsts_get n es j hj
    rw [List.getElem?_eq_getElem (by simp [firsts]; omega)] at h2
    rw [Option.some.inj h2] at h1
    exact keep0 hI4.below h1
  have hseq := edges_stops w0.heap.size (w0.heap.size + 1) w.heap.size ae (some ⟨bf, offf, none⟩) ce (n + 1) cf s es (fstN es s) (fstN es (s + 1)) (fstN_mono es _ _ (by omega)) (fstN_le es _) hl w3 hI4.below.size hg3 hg4 hg5 hs0 (by omega) bf offf rfl (by omega)
    (by have := hfc s.toNat (by omega); rwa [Int.toNat_of_nonneg hs0] at this) (by have := hfc (s + 1).toNat (by omega); rwa [Int.toNat_of_nonneg (by omega)] at this) (hre.mono hI4.below) (fun h0 ad e => World.block_lt_of_cell? w ⟨ad.block, ad.off + 0, none⟩ (hre.cell ad e 0 (by rw [hre.hlen]; omega)))
  clear hg3 hg4 hg5 hfc
  refine wp_edges (bg := w0.heap.size) (bs := w0.heap.size + 1) (n₀ := w.heap.size) rfl hseq (Below.refl _ _) hI4.below.size rfl
    (fun pre W => ∃ tag vb, GInv w #[.slice aa la ca, .int .i64 n, .slice am lm cm, .slice ae es.length ce, .slice (some ⟨bf, offf, none⟩) (n + 1) cf] (.func (.func fp) #[] capp) s W tag vb (pre.foldl (rStep n es perm s) none))
    ?hI ⟨_, _, hI4⟩
    (fun x a' W => ∃ Bx : Nat, w.heap.size ≤ Bx ∧ W.heap[Bx]? = some (.cells #[.int .i64 x.f, .int .i64 x.e, .int .i64 x.t] 45 (0, 0)) ∧ a' = { tmps := #[Value.agg #[.slice aa la ca, .int .i64 n, .slice am lm cm, .slice ae es.length ce, .slice (some ⟨bf, offf, none⟩) (n + 1) cf], Value.int .i64 s, Value.func (.func fp) #[] capp, Value.pointer (some ⟨w.heap.size, 0, none⟩), Value.pointer (some ⟨w.heap.size + 1, 0, none⟩), Value.pointer (some ⟨w.heap.size + 1 + 1, 0, none⟩), Value.slice none 0 0, Value.bool false, Value.pointer (some ⟨w.heap.size + 1 + 1 + 1, 0, none⟩), Value.pointer (some ⟨w.heap.size + 1 + 1 + 1 + 1, 0, none⟩), Value.pointer (some ⟨Bx, 0, none⟩), undef, undef, Value.agg #[.slice aa la ca, .int .i64 n, .slice am lm cm, .slice ae es.length ce, .slice (some ⟨bf, offf, none⟩) (n + 1) cf], Value.int .i64 s, Value.func (.func 84) #[] #[.pointer (some ⟨w0.heap.size, 0, none⟩), .pointer (some ⟨w0.heap.size + 1, 0, none⟩)], Value.agg #[.int .i64 x.f, .int .i64 x.e, .int .i64 x.t], undef, undef, undef, undef, undef, undef, undef, undef, undef, undef, undef, undef, undef, undef, undef, undef, undef, undef, undef, undef, undef, undef, undef, undef, undef, undef, undef, undef, undef, undef, undef, undef, undef], defers := [] })
    ?hAx ?assign ?body ?done
  case hI =>
    intro pre W W' row h1 hg hr
    obtain ⟨tag, vs, h2⟩ := h1
    exact ⟨tag, vs, h2.others hg hI4.below.size hr⟩
  case hAx =>
    intro x a' u W W' row h1 hg hr
    obtain ⟨Bx, h1, h2, h3⟩ := h1
    refine ⟨Bx, h1, (hg.block Bx (Array.getElem?_eq_some_iff.1 h2).1 (fun e => ?_)).trans h2, h3⟩
    obtain ⟨o, ho, hc⟩ := (hr Bx e.symm).2
    rw [h2] at ho
    cases ho
    cases hc
  case assign =>
    intro l pre x W K hx hiW hK
    dsimp only [Ed.val]
    gi_wp2
    refine hK _ _ ((KeepsOthers.alloc _ _).from _) ((Below.refl _ W).alloc ?_ _) ?_ ⟨W.heap.size, ?_, (by repeat (first | with_reducible assumption | (refine heap_drewp ?_) | (refine heap_at ?_; (first | rfl | (simp; done) | (simp; omega))) | (refine heap_past ?_ ?_; (next => first | omega | (simp; done) | (simp; omega))))), rfl⟩
    · obtain ⟨_, _, h2⟩ := hiW; exact h2.below.size
    · obtain ⟨tag, vs, h2⟩ := hiW; exact ⟨tag, vs, h2.call (bel_alloc _ _)⟩
    · obtain ⟨_, _, h2⟩ := hiW; exact h2.below.size
  case body =>
    rintro l pre x a' W hx hl0 ⟨tag, vb, hJ⟩ ⟨Bx, hBx, hbx, rfl⟩
    have hJ2 := hJ.retag hbx
    have hOx : Own W w.heap.size (tagUp tag Bx 5) 5 Bx #[.int .i64 x.f, .int .i64 x.e, .int .i64 x.t] 45 := ⟨hbx, tagUp_at _ _ _, hBx⟩
    have hxe := subOf_mem hx
    have hxr := Hin.out x hxe
    obtain ⟨xf, xe, xt⟩ := x
    dsimp only at *
    obtain ⟨t, rfl⟩ := Int.eq_ofNat_of_zero_le hxr.1
    have ht : t < n := by omega
    have Hacc : Hid ((pre ++ [(⟨xf, xe, (t : Int)⟩ : Ed)]).foldl (rStep n es perm s) none = rStep n es perm s (pre.foldl (rStep n es perm s) none) (⟨xf, xe, (t : Int)⟩ : Ed)) := by
      show _ = _
      rw [List.foldl_append]; rfl
    clear hx hJ
    generalize pre.foldl (rStep n es perm s) none = acc at *
    have hBW := hJ2.below.size
    have hBxl := hOx.lt
    have x0 : W.cell? ⟨Bx, 0, none⟩ = some (.int .i64 xf) := hOx.cell 0
    have x1 : W.cell? ⟨Bx, 1, none⟩ = some (.int .i64 xe) := hOx.cell 1
    have x2 : W.cell? ⟨Bx, 2, none⟩ = some (.int .i64 (t : Int)) := hOx.cell 2
    have e2 : W.cell? ⟨w.heap.size + 1 + 1, 0, none⟩ = some (.func (.func fp) #[] capp) := hJ2.fp.cell 0
    have hHep : Hid (∀ args W, (callFunc fp args).run Try.prog W = .ok (.enter fp args) W) := Hep.out
    cases hpx : perm ⟨xf, xe, t⟩
    · have Hpx := Lib.hid hpx
      clear hpx
      gi_wp2_with fail
      refine ⟨trivial, ?_⟩
      rw [hHep.out, Oper.uponIn_enter]
      refine ⟨fun _ => by decide, ?_⟩
      refine (CallsIn.inRound l (callsIn_wide.2 (Hp.out ⟨xf, xe, t⟩ W hxe hJ2.below))).mono ?_
      rintro e w4 ⟨he, hb4⟩
      rw [Hpx.out] at he
      subst he
      dsimp only
      gi_wp2
      refine ⟨(keepsBelow hb4), belCall (Below.refl _ _) hb4 hJ2.below.size, tagUp tag Bx 5, vb, ?_⟩
      rw [Hacc.out, rStep_not Hpx.out]
      exact hJ2.call hb4
    · have Hpx := Lib.hid hpx
      clear hpx
      gi_wp2_with fail
      refine ⟨trivial, ?_⟩
      rw [hHep.out, Oper.uponIn_enter]
      refine ⟨fun _ => by decide, ?_⟩
      refine (CallsIn.inRound l (callsIn_wide.2 (Hp.out ⟨xf, xe, t⟩ W hxe hJ2.below))).mono ?_
      rintro e w4 ⟨he, hb4⟩
      rw [Hpx.out] at he
      subst he
      dsimp only
      have hJ4 := hJ2.call hb4
      have hO4 := hOx.below hb4
      clear x0 x1 x2 e2 hJ2 hOx
      have g0 : w4.cell? ⟨w.heap.size, 0, none⟩ = some (Value.slice aa la ca) := hJ4.g.cell 0
      have g1 : w4.cell? ⟨w.heap.size, 1, none⟩ = some (Value.int .i64 n) := hJ4.g.cell 1
      have g2 : w4.cell? ⟨w.heap.size, 2, none⟩ = some (Value.slice am lm cm) := hJ4.g.cell 2
      have g3 : w4.cell? ⟨w.heap.size, 3, none⟩ = some (Value.slice ae es.length ce) := hJ4.g.cell 3
      have g4 : w4.cell? ⟨w.heap.size, 4, none⟩ = some (Value.slice (some ⟨bf, offf, none⟩) (n + 1) cf) := hJ4.g.cell 4
      have x2 : w4.cell? ⟨Bx, 2, none⟩ = some (.int .i64 (t : Int)) := hO4.cell 2
      have e2 : w4.cell? ⟨w.heap.size + 1 + 1, 0, none⟩ = some (.func (.func fp) #[] capp) := hJ4.fp.cell 0
      gi_wp2_with fail
      refine ⟨trivial, ?_⟩
      have hsc : w4.cell? ⟨w.heap.size + 1, 0, none⟩ = some (.int .i64 s) := hJ4.sb.cell 0
      refine (CallsIn.inRound l (callsIn_wide.2 (path_any aa am ae (some ⟨bf, offf, none⟩) la lm ca cm ce cf n t es 82 fp #[.pointer (some ⟨w.heap.size + 1, 0, none⟩)] capp (fun t => t == s) perm w4 (Hre.out.mono hJ4.below) (Hrf.out.mono hJ4.below) hl hn ht Hin.out (enters_of Try.func82 (by kernel_rfl) rfl) Hep.out (fun t' W' _ _ hb' => round1_any _ s t' W' (keep0 hb' hsc)) (fun y W' hy hb' => Hp.out y W' hy (hJ4.below.trans (hb'.mono hJ4.below.size)))))).mono ?_
      rintro e w5 ⟨u5, rfl, hp5, hb5⟩
      have hJ5 := hJ4.call hb5
      have hO5 := hO4.below hb5
      clear g0 g1 g2 g3 g4 x2 e2 hsc hJ4 hO4
      have hB5 : Below w.heap.size W w5 := belCall (belCall (Below.refl _ _) hb4 hBW) hb5 (Nat.le_trans hBW hb4.size)
      have hK5 : KeepsFrom w3.heap.size W w5 := (keepsBelow hb4).trans (keepsBelow hb5)
      clear hb4 hb5
      cases hpf : pathF n es (fun t => t == s) perm t with
      | none =>
        rw [hpf] at hp5
        obtain rfl : u5 = _ := hp5
        have Hpf := Lib.hid hpf
        clear hpf
        gi_wp2_with fail
        all_goals first
          | (rename_i h1 h2; exact absurd h1 (by simp [undef]))
          | (refine ⟨hK5, hB5, tagUp tag Bx 5, vb, ?_⟩
             rw [Hacc.out, rStep_none Hpx.out Hpf.out]
             exact hJ5)
      | some r =>
        rw [hpf] at hp5
        obtain ⟨v5, rfl, hr5⟩ := hp5
        have hrl := pathF_len hpf
        have Hpf := Lib.hid hpf
        have Hr5 := Lib.hid hr5
        obtain ⟨a5, c5, rfl, hr5'⟩ := hr5
        clear hpf hr5'
        have k9 : w5.cell? ⟨w.heap.size + 1 + 1 + 1 + 1, 0, none⟩ = some (.bool acc.isSome) := hJ5.fb.cell 0
        have k8 : w5.cell? ⟨w.heap.size + 1 + 1 + 1, 0, none⟩ = some vb := hJ5.bb.cell 0
        obtain ⟨av, cv, rfl⟩ := hJ5.ro.val
        have k1 : w5.cell? ⟨Bx, 1, none⟩ = some (.int .i64 xe) := hO5.cell 1
        obtain ⟨i1, hi1, hw0, hw1, hw2⟩ := info_parts Try.info_int
        have hJ6 := hJ5.up (.cells #[.int .i64 xe] 3) 2
        have hsrc : (a5 = none → r.length = 0 ∧ c5 = 0) ∧ ∀ ad, a5 = some ad → ∀ j u, (ints r)[j]? = some u → (w5.alloc (.cells #[.int .i64 xe] 3)).cell? (ad.add j) = some u := by
          obtain ⟨a9, c9, e9, hrd⟩ := Hr5.out.mono (bel_alloc w5 (.cells #[.int .i64 xe] 3))
          cases e9
          exact hrd.src
        have Hsrc := Lib.hid hsrc
        clear hsrc
        cases acc with
        | none =>
          replace k9 : w5.cell? ⟨w.heap.size + 1 + 1 + 1 + 1, 0, none⟩ = some (.bool false) := k9
          gi_wp2_with (gi_at_builtin; (refine wpListIn_append_row rfl _ _ 28 rfl 3 i1 (.int .i64 0) 8 Try.underlying28 hi1 hw0 hw1 hw2 rfl rfl (Row.fresh w5 w.heap.size (tagUp tag Bx 5) 2 3 [.int .i64 xe] hJ5.below.size (by show 1 ≤ maxLen; decide)) a5 r.length c5 (ints r) rfl (by simp) Hsrc.out.1 Hsrc.out.2 (ints_oneCell .i64 _) (by show 1 + r.length ≤ maxLen; unfold maxLen; omega) (by show (1 + r.length) * 8 ≤ _; omega) hJ6.below.size ?_); intro v6 w6 tag6 hr6 ht6; have HP6 := Lib.hid (hJ6.put ht6 (rowcons hr6)); have s6 := hJ6.bb.turn ht6 (by decide); have s7 := hJ6.fb.turn ht6 (by decide); obtain ⟨a6, c6, rfl⟩ := hr6.val; have z0 := s6.cell 0; have z1 := s6.frozen 0; have z2 := s7.cell 0; have z3 := s7.frozen 0; have t1 := Turn.setCell s6 0 (.slice a6 (1 + r.length) c6); have s8 := s7.turn t1 (by decide); have z4 := s8.cell 0; have z5 := s8.frozen 0; simp at z0 z2 z4; clear s6 s7 s8 t1 hr6 ht6)
          have hfin := HP6.out.1
          have hq9 : (pre ++ [(⟨xf, xe, (t : Int)⟩ : Ed)]).foldl (rStep n es perm s) none = some (xe :: r) := by
            rw [Hacc.out]; exact rStep_first Hpx.out Hpf.out
          rw [← hq9] at hfin
          exact ⟨hK5.trans ((keepsBelow (bel_alloc w5 _)).trans (HP6.out.2.2 _)), (belCall hB5 (bel_alloc w5 _) (Nat.le_trans hBW hB5.size)).trans HP6.out.2.1, tag6, _, hfin⟩
        | some b =>
          replace k9 : w5.cell? ⟨w.heap.size + 1 + 1 + 1 + 1, 0, none⟩ = some (.bool true) := k9
          replace k8 : w5.cell? ⟨w.heap.size + 1 + 1 + 1, 0, none⟩ = some (.slice av b.length cv) := k8
          by_cases hlt : r.length + 1 < b.length
          · have hltI : (r.length : Int) + 1 < (b.length : Int) := by omega
            gi_wp2_with (gi_at_builtin; (refine wpListIn_append_row rfl _ _ 28 rfl 3 i1 (.int .i64 0) 8 Try.underlying28 hi1 hw0 hw1 hw2 rfl rfl (Row.fresh w5 w.heap.size (tagUp tag Bx 5) 2 3 [.int .i64 xe] hJ5.below.size (by show 1 ≤ maxLen; decide)) a5 r.length c5 (ints r) rfl (by simp) Hsrc.out.1 Hsrc.out.2 (ints_oneCell .i64 _) (by show 1 + r.length ≤ maxLen; unfold maxLen; omega) (by show (1 + r.length) * 8 ≤ _; omega) hJ6.below.size ?_); intro v6 w6 tag6 hr6 ht6; have HP6 := Lib.hid (hJ6.put ht6 (rowcons hr6)); have s6 := hJ6.bb.turn ht6 (by decide); have s7 := hJ6.fb.turn ht6 (by decide); obtain ⟨a6, c6, rfl⟩ := hr6.val; have z0 := s6.cell 0; have z1 := s6.frozen 0; have z2 := s7.cell 0; have z3 := s7.frozen 0; have t1 := Turn.setCell s6 0 (.slice a6 (1 + r.length) c6); have s8 := s7.turn t1 (by decide); have z4 := s8.cell 0; have z5 := s8.frozen 0; simp at z0 z2 z4; clear s6 s7 s8 t1 hr6 ht6)
            have hfin := HP6.out.1
            have hq9 : (pre ++ [(⟨xf, xe, (t : Int)⟩ : Ed)]).foldl (rStep n es perm s) none = some (xe :: r) := by
              rw [Hacc.out]; exact rStep_less Hpx.out Hpf.out hlt
            rw [← hq9] at hfin
            exact ⟨hK5.trans ((keepsBelow (bel_alloc w5 _)).trans (HP6.out.2.2 _)), (belCall hB5 (bel_alloc w5 _) (Nat.le_trans hBW hB5.size)).trans HP6.out.2.1, tag6, _, hfin⟩
          · have hltI : ¬ (r.length : Int) + 1 < (b.length : Int) := by omega
            gi_wp2_with fail
            refine ⟨hK5, hB5, tagUp tag Bx 5, .slice av b.length cv, ?_⟩
            rw [Hacc.out, rStep_more Hpx.out Hpf.out hlt]
            exact hJ5
  case done =>
    rintro D W hD ⟨tag', vb', hW⟩ hd
    have hm := Marks.cons (Marks.nil w.heap.size W) (s := w.heap.size) (fun D' h => by cases h) (Nat.le_trans hI4.below.size hD) (Nat.le_trans hI4.below.size hD) hd
    have hW0 : ∃ acc, R = acc ∧ GInv w #[.slice aa la ca, .int .i64 n, .slice am lm cm, .slice ae es.length ce, .slice (some ⟨bf, offf, none⟩) (n + 1) cf] (.func (.func fp) #[] capp) s W tag' vb' acc := ⟨_, HR.out, hW⟩
    clear hW HR
    obtain ⟨acc, rfl, hW⟩ := hW0
    have k9 : W.cell? ⟨w.heap.size + 1 + 1 + 1 + 1, 0, none⟩ = some (.bool R.isSome) := hW.fb.cell 0
    have k8 : W.cell? ⟨w.heap.size + 1 + 1 + 1, 0, none⟩ = some vb' := hW.bb.cell 0
    obtain ⟨av, cv, rfl⟩ := hW.ro.val
    have HW := Lib.hid (hW.call (bel_drew W))
    have HM := Lib.hid (hm.below (bel_drew W))
    clear hd hm hW hseq hI4
    go_wp2_with fail
    go_region
    go_wp2_with fail
    refine bodyPostM_ret HM.out (fun w' hq => ⟨.tuple #[.slice av (R.getD []).length cv, .bool R.isSome], by simp [results, Try.results63, go_sem], _, rfl, ?_, HW.out.below.trans hq.below⟩)
    have hro := hq.row HW.out.ro
    have hnl := HW.out.nl
    clear k8 k9
    cases R with
    | none =>
      have h := hnl rfl
      rw [h]
      rfl
    | some r => exact ⟨_, rfl, hro.rdI⟩
end Go.Proofs.Ythchkddhibhenaa

/- The contract of reach.Cycle. -/
namespace Go.Proofs.Ythchkddhibhenaa
open Go.RowKit

set_option maxRecDepth 100000 in
set_option maxHeartbeats 4000000 in
theorem cycle_any (v vv : Value) (a : Aut) (evs : List Int) (w : World) (ha : RdA w v a) (hs : a.small) (h2 : RdI w vv evs) (hl2 : evs.length ≤ 1000000) :
    Calls Try.prog 32 #[v, vv] w (Ret w (CycPost (err2 a.err (setErr 32 none evs)) (cycI a.n.toNat a.es (fun x => hasB evs x.e) (reachF a.n.toNat a.es) 0))) := by
  have ha0 := ha
  obtain ⟨va, vm, ve, rfl, ⟨aa, ca, rfl, hra⟩, ⟨am, cm, rfl, hrm⟩, ⟨ae, ce, rfl, hre⟩⟩ := ha
  have Ha0 := Lib.hid ha0
  have Hs := Lib.hid hs
  have Hr2 := Lib.hid h2
  obtain ⟨av, cv, rfl, hrv⟩ := h2
  clear ha0 hs
  go_enter Try.func32, Try.ntmps32
  go_wp2_with fail
  refine (check_any _ a _ (Ha0.out.mono (by (repeat (first | with_reducible exact Below.refl _ _ | with_reducible exact Ha0 | (with_reducible refine belCall ?_ Ha0 (by first | omega | (simp; done) | (simp; omega) | (simp at *; omega))) | (with_reducible refine Below.alloc ?_ (by first | omega | (simp; done) | (simp; omega) | (simp at *; omega)) _) | (with_reducible refine Below.drew ?_) | (with_reducible refine Below.setCell ?_ (by first | omega | (simp; done) | (simp; omega) | (simp at *; omega)) _))))) Hs.out).mono ?_
  rintro e w1 ⟨_, rfl, rfl, hb1⟩
  have hW1 : Below w.heap.size w w1 := ((Below.refl _ _).alloc (Nat.le_refl _) _).trans (hb1.mono (by simp))
  have hbx := box4 hb1
  clear hb1
  by_cases h1 : a.err = 0
  · have H1 := Lib.hid h1
    rw [h1]
    obtain ⟨x0, x1, x2, x3, x4⟩ := hbx
    by_cases h3 : setErr 32 none evs = 0
    · have hok := Aut.ok_of h1
      have hev := Aut.ev_of h1
      have hin := setErr_zero h3
      have H3 := Lib.hid h3
      have hn0 := hok.n0
      have hn1 := hok.n1
      have Hes := Lib.hid hok.es
      have Hev := Lib.hid hev
      have Hin := Lib.hid hin
      have hae := Hs.out.es
      clear hok hev hin h1 h3
      generalize hn : a.n = an at *
      obtain ⟨n, rfl⟩ := Int.eq_ofNat_of_zero_le hn0
      have Hn := Lib.hid hn
      clear hn hn0
      go_wp2_with fail
      refine (rcheckSet_any _ _ _ _ (Hr2.out.mono hW1) hl2).mono ?_
      rintro e w2 ⟨rfl, rfl⟩
      rw [H3.out]
      go_wp2_with fail
      refine (newGraph_any _ _ _ _ _ _ _ n a.es _ (RdE.mono ⟨ae, ce, rfl, hre⟩ hW1) hae (by omega) (fun x hx => ⟨(Hes.out x hx).1, (Hes.out x hx).2.1⟩)).mono ?_
      rintro e w3 ⟨_, rfl, ⟨af, cf, rfl, hrf⟩, hb3⟩
      have hW3 := hW1.trans (hb3.mono hW1.size)
      clear x0 x1 x2 x3 x4 hb3
      generalize hR0 : cycI n a.es (fun x => hasB evs x.e) (reachF n a.es) 0 = R
      have HR : Hid (R = cycI n a.es (fun x => hasB evs x.e) (reachF n a.es) 0) := Lib.hid hR0.symm
      have HR0 : Hid (cycI a.n.toNat a.es (fun x => hasB evs x.e) (reachF a.n.toNat a.es) 0 = R) := by show _ = _; rw [Hn.out, Int.toNat_natCast]; exact hR0
      clear hR0
      go_wp2_with fail
      have hg0 : Own ((w3.alloc (.cells #[.slice aa a.al.length ca, .int .i64 n, .slice am a.ms.length cm, .slice ae a.es.length ce, .slice af (n + 1) cf] 80)).alloc (.cells (bools (List.replicate 32 false)).toArray 98)) w3.heap.size (fun b => if b = w3.heap.size then 0 else 1) 0 w3.heap.size #[.slice aa a.al.length ca, .int .i64 n, .slice am a.ms.length cm, .slice ae a.es.length ce, .slice af (n + 1) cf] 80 := ⟨heap_past (by simp) (heap_at rfl), if_pos rfl, Nat.le_refl _⟩
      have ha0 : Own ((w3.alloc (.cells #[.slice aa a.al.length ca, .int .i64 n, .slice am a.ms.length cm, .slice ae a.es.length ce, .slice af (n + 1) cf] 80)).alloc (.cells (bools (List.replicate 32 false)).toArray 98)) w3.heap.size (fun b => if b = w3.heap.size then 0 else 1) 1 (w3.heap.size + 1) (bools (List.replicate 32 false)).toArray 98 := ⟨heap_at (by simp), if_neg (by omega), by omega⟩
      have hb0 : Below w3.heap.size w3 ((w3.alloc (.cells #[.slice aa a.al.length ca, .int .i64 n, .slice am a.ms.length cm, .slice ae a.es.length ce, .slice af (n + 1) cf] 80)).alloc (.cells (bools (List.replicate 32 false)).toArray 98)) := ((Below.refl _ _).alloc (Nat.le_refl _) _).alloc (by simp) _
      replace hg0 := Lib.hid hg0
      replace ha0 := Lib.hid ha0
      replace hb0 := Lib.hid hb0
      go_loopw [13, 31] (fun _ i wr => ∃ k : Nat, i = .int .i64 k ∧ k ≤ evs.length ∧ Below w3.heap.size w3 wr ∧ Own wr w3.heap.size (fun b => if b = w3.heap.size then 0 else 1) 0 w3.heap.size #[.slice aa a.al.length ca, .int .i64 n, .slice am a.ms.length cm, .slice ae a.es.length ce, .slice af (n + 1) cf] 80 ∧ Own wr w3.heap.size (fun b => if b = w3.heap.size then 0 else 1) 1 (w3.heap.size + 1) (bools ((evs.take k).foldl (fun F x => F.set x.toNat true) (List.replicate 32 false))).toArray 98) (fun _ i _ => evs.length - (intOf i).toNat)
      case atStart => exact ⟨0, rfl, Nat.zero_le _, hb0.out, hg0.out, ha0.out⟩
      case round =>
        clear hg0 ha0 hb0
        obtain ⟨k, rfl, hk, hB, hg, harr⟩ := hrel
        by_cases hlt : k < evs.length
        · have hltI : (k : Int) < (evs.length : Int) := by omega
          obtain ⟨b, off, rfl, hc⟩ := hrv.at_int k hlt
          have hxi := Hin.out _ (List.getElem_mem hlt)
          have hc3 := keep0 hB (keep0 hW3 hc)
          have hbl := World.block_lt_of_cell? _ _ hc3
          dsimp only at hbl
          have Htk : Hid ((evs.take (k + 1)).foldl (fun F x => F.set x.toNat true) (List.replicate 32 false) = ((evs.take k).foldl (fun F x => F.set x.toNat true) (List.replicate 32 false)).set (evs[k]).toNat true) := by
            show _ = _
            rw [List.take_succ_eq_append_getElem hlt, List.foldl_append]; rfl
          have hFl := (byF_aux (evs.take k) (List.replicate 32 false) (by simp) (fun x hx => Hin.out x (List.mem_of_mem_take hx))).1
          generalize (evs.take k).foldl (fun F x => F.set x.toNat true) (List.replicate 32 false) = F at *
          generalize evs[k] = y at *
          obtain ⟨j, rfl⟩ := Int.eq_ofNat_of_zero_le hxi.1
          have hj : j < 32 := by omega
          have k1 : wr.cell? ⟨w3.heap.size + 1, j, none⟩ = some (.bool (F[j]'(by omega))) := by
            rw [harr.cell, List.getElem?_toArray, List.getElem?_map, List.getElem?_eq_getElem (by omega)]; rfl
          have k2 := harr.frozen j
          have T := Lib.hid (Turn.setCell harr j (.bool true))
          have hset := harr.set j (.bool true)
          have hset2 : Own (wr.setCell ⟨w3.heap.size + 1, j, none⟩ (.bool true)) w3.heap.size (fun b => if b = w3.heap.size then 0 else 1) 1 (w3.heap.size + 1) (bools (F.set j true)).toArray 98 := by
            rw [show (bools (F.set j true)).toArray = (bools F).toArray.setIfInBounds j (.bool true) by simp [List.map_set]]
            exact hset
          have Hset := Lib.hid hset2
          have Hg := Lib.hid (hg.turn T.out (by decide))
          have HB := Lib.hid (belTurn hB T.out hB.size)
          clear hset hset2 harr hg hB hc
          go_wp2_with fail
          go_roundw
          case rel =>
            refine ⟨k + 1, by go_num, by omega, HB.out, Hg.out, ?_⟩
            rw [Htk.out]
            exact Hset.out
          case measure => simp [intOf]; omega
        · have hke : k = evs.length := by omega
          have hnl : ¬ (k : Int) < (evs.length : Int) := by omega
          rw [hke, List.take_length] at harr
          have harr2 : ∀ j : Nat, j < 32 → wr.cell? ⟨w3.heap.size + 1, j, none⟩ = some (.bool ((byF evs).getD j false)) := by
            intro j hj
            have hl := byF_length Hin.out
            rw [harr.cell, List.getElem?_toArray, List.getElem?_map, List.getD_eq_getElem?_getD]
            show Option.map _ (byF evs)[j]? = _
            rw [List.getElem?_eq_getElem (by omega)]; rfl
          have Harr := Lib.hid harr2
          have g0 : wr.cell? ⟨w3.heap.size, 0, none⟩ = some (.slice aa a.al.length ca) := hg.cell 0
          have g1 : wr.cell? ⟨w3.heap.size, 1, none⟩ = some (.int .i64 n) := hg.cell 1
          have g2 : wr.cell? ⟨w3.heap.size, 2, none⟩ = some (.slice am a.ms.length cm) := hg.cell 2
          have g3 : wr.cell? ⟨w3.heap.size, 3, none⟩ = some (.slice ae a.es.length ce) := hg.cell 3
          have g4 : wr.cell? ⟨w3.heap.size, 4, none⟩ = some (.slice af (n + 1) cf) := hg.cell 4
          have hgl := hg.lt
          have HB := Lib.hid hB
          have hW4 := hW3.trans (hB.mono hW3.size)
          clear harr harr2 hg hke
          go_wp2_with fail
          refine (reachable_any aa am ae af _ _ ca cm ce cf n a.es _ (hre.mono hW4) (hrf.mono hB) hae (by omega) (fun x hx => (Hes.out x hx).2.2)).mono ?_
          rintro e w4 ⟨v4, rfl, hr4, hb4⟩
          have hW5 := hW4.trans (hb4.mono hW4.size)
          have hB5 := hB.trans (hb4.mono hB.size)
          have HE : Hid (err2 a.err (setErr 32 none evs) = 0) := by show _ = _; rw [err2, if_pos H1.out]; exact H3.out
          have hfl : (reachF n a.es).length = n := by
            unfold reachF
            split
            · rename_i h6; rw [h6]; rfl
            · rename_i h6
              exact forwardF_length (perm := fun _ => true) n a.es [0] (fun x hx => (Hes.out x hx).2.2) (fun s hs => by rw [List.mem_singleton.1 hs]; omega)
          generalize reachF n a.es = fl at *
          obtain ⟨a4, c4, rfl, hr5⟩ := hr4
          rw [hfl] at hr5 ⊢
          replace g0 := keep0 hb4 g0
          replace g1 := keep0 hb4 g1
          replace g2 := keep0 hb4 g2
          replace g3 := keep0 hb4 g3
          replace g4 := keep0 hb4 g4
          have hgl4 : w3.heap.size < w4.heap.size := Nat.lt_of_lt_of_le hgl hb4.size
          have Harr4 : Hid (∀ j : Nat, j < 32 → w4.cell? ⟨w3.heap.size + 1, j, none⟩ = some (.bool ((byF evs).getD j false))) := fun j hj => keep0 hb4 (Harr.out j hj)
          have hcell : ∀ k : Nat, k < n → ∃ bb oo, a4 = some ⟨bb, oo, none⟩ ∧ w4.cell? ⟨bb, oo + k, none⟩ = some (.bool (fl.getD k false)) := by
            intro k hk
            rw [← hfl] at hr5
            obtain ⟨bb, oo, e, h9⟩ := hr5.at_bool k (by omega)
            refine ⟨bb, oo, e, ?_⟩
            rw [h9, List.getD_eq_getElem?_getD, List.getElem?_eq_getElem (by omega)]; rfl
          have Hcell := Lib.hid hcell
          have Hfl := Lib.hid hfl
          have HB5 := Lib.hid hB5
          clear hb4 hcell hr5 hfl Harr hB HB hB5
          have hHR : Hid (R = cycI n a.es (fun x => hasB evs x.e) (fl.drop 0) 0) := HR.out
          go_wp2_with fail
          go_loopw [42] (fun i wr' => ∃ k : Nat, i = .int .i64 k ∧ k ≤ n ∧ Below w4.heap.size w4 wr' ∧ Hid (R = cycI n a.es (fun x => hasB evs x.e) (fl.drop k) k)) (fun i _ => n - (intOf i).toNat)
          case atStart => exact ⟨0, rfl, Nat.zero_le _, Below.refl _ _, hHR⟩
          case round =>
            obtain ⟨k, rfl, hk, hB, hRk⟩ := hrel
            by_cases hlt : k < n
            · have hltI : (k : Int) < (n : Int) := by omega
              obtain ⟨bb, oo, rfl, hck⟩ := Hcell.out k hlt
              have hck' := keep0 hB hck
              have hbl := World.block_lt_of_cell? _ _ hck'
              dsimp only at hbl
              have hlf : k < fl.length := by have := Hfl.out; omega
              have Hd : Hid (R = cycI n a.es (fun x => hasB evs x.e) (fl.getD k false :: fl.drop (k + 1)) k) := by
                show _ = _
                rw [hRk.out, List.drop_eq_getElem_cons hlf, List.getD_eq_getElem?_getD, List.getElem?_eq_getElem hlf]; rfl
              have z0 := keep0 hB g0
              have z1 := keep0 hB g1
              have z2 := keep0 hB g2
              have z3 := keep0 hB g3
              have z4 := keep0 hB g4
              have hzl : w3.heap.size < wr.heap.size := Nat.lt_of_lt_of_le hgl4 hB.size
              clear hRk hck
              cases hx : fl.getD k false with
              | false =>
                rw [hx] at hck' Hd
                have HZ : Hid (R = cycI n a.es (fun x => hasB evs x.e) (fl.drop (k + 1)) (k + 1)) := by show _ = _; rw [Hd.out, cycI_skip]
                clear Hd hx
                go_wp2_with fail
                go_roundw
                case rel => exact ⟨k + 1, by go_num, by omega, hB.alloc hB.size _, HZ.out⟩
                case measure => simp [intOf]; omega
              | true =>
                rw [hx] at hck' Hd
                clear hx
                have hbw := hB.alloc hB.size (.cells #[.int .i64 (k : Int)] 3)
                have hbox : (wr.alloc (.cells #[.int .i64 (k : Int)] 3)).cell? ⟨wr.heap.size, 0, none⟩ = some (.int .i64 k) := by simp [go_sem]
                have hbxl : wr.heap.size < (wr.alloc (.cells #[.int .i64 (k : Int)] 3)).heap.size := by simp
                have y0 := keep0 (bel_alloc wr (.cells #[.int .i64 (k : Int)] 3)) z0
                have y1 := keep0 (bel_alloc wr (.cells #[.int .i64 (k : Int)] 3)) z1
                have y2 := keep0 (bel_alloc wr (.cells #[.int .i64 (k : Int)] 3)) z2
                have y3 := keep0 (bel_alloc wr (.cells #[.int .i64 (k : Int)] 3)) z3
                have y4 := keep0 (bel_alloc wr (.cells #[.int .i64 (k : Int)] 3)) z4
                have hp : ∀ (x : Ed) (W : World), x ∈ a.es → Below w4.heap.size w4 W → Calls Try.prog 62 (#[x.val] ++ #[.pointer (some ⟨w3.heap.size + 1, 0, none⟩)]) W fun e w' => e = .returned (.bool (hasB evs x.e)) ∧ Below W.heap.size W w' := by
                  intro x W hx hb
                  have he := Hev.out x hx
                  have h := cyc1_any (w3.heap.size + 1) (byF evs) x W (fun j hj => keep0 hb (Harr4.out j hj)) he.1 he.2
                  rwa [byF_has Hin.out x.e he.1 he.2] at h
                have Hp := Lib.hid hp
                have hW6 := hW5.trans (hbw.mono hW5.size)
                clear hp z0 z1 z2 z3 z4
                go_wp2_with fail
                generalize wr.alloc (.cells #[.int .i64 (k : Int)] 3) = w6 at *
                refine (round_any aa am ae af _ _ ca cm ce cf n a.es 62 #[.pointer (some ⟨w3.heap.size + 1, 0, none⟩)] (fun x => hasB evs x.e) k w6 (hre.mono hW6) (hrf.mono (HB5.out.trans (hbw.mono HB5.out.size))) hae (by omega) (by omega) (by omega) (fun x hx => (Hes.out x hx).2.2) (enters_of Try.func62 (by kernel_rfl) rfl) (fun x W hx hb => Hp.out x W hx (hbw.trans (hb.mono hbw.size)))).mono ?_
                rintro e w7 ⟨v7, rfl, hp7, hb7⟩
                have hbw7 := hbw.trans (hb7.mono hbw.size)
                have hW7 := hW6.trans (hb7.mono hW6.size)
                replace y0 := keep0 hb7 y0
                replace y1 := keep0 hb7 y1
                replace y2 := keep0 hb7 y2
                replace y3 := keep0 hb7 y3
                replace y4 := keep0 hb7 y4
                have hbox7 := keep hb7 hbox hbxl
                cases hrf2 : roundF n a.es (fun x => hasB evs x.e) k with
                | none =>
                  rw [hrf2] at hp7
                  obtain rfl : v7 = _ := hp7
                  have HZ : Hid (R = cycI n a.es (fun x => hasB evs x.e) (fl.drop (k + 1)) (k + 1)) := by show _ = _; rw [Hd.out, cycI_none hrf2]
                  clear Hd hrf2 hbox hbxl hb7
                  go_wp2_with fail
                  go_roundw
                  case rel => exact ⟨k + 1, by go_num, by omega, hbw7, HZ.out⟩
                  case measure => simp [intOf]; omega
                | some c =>
                  rw [hrf2] at hp7
                  obtain ⟨v8, rfl, hr8⟩ := hp7
                  have Hr8 := Lib.hid hr8
                  obtain ⟨a8, c8, rfl, hr8'⟩ := hr8
                  have HZ : Hid (R = some ((pathF n a.es (fun t => t == (k : Int)) (fun _ => true) 0).getD [], c)) := by show _ = _; rw [Hd.out, cycI_some hrf2]
                  clear Hd hrf2 hbox hbxl hb7 hr8'
                  go_wp2_with fail
                  refine (path_any aa am ae af _ _ ca cm ce cf n 0 a.es 64 65 #[.pointer (some ⟨wr.heap.size, 0, none⟩)] #[] (fun t => t == (k : Int)) (fun _ => true) w7 (hre.mono hW7) (hrf.mono (HB5.out.trans (hbw7.mono HB5.out.size))) hae (by omega) (by omega) (fun x hx => (Hes.out x hx).2.2) (enters_of Try.func64 (by kernel_rfl) rfl) (fun _ _ => by kernel_rfl) (fun t' W' _ _ hb' => cyc2_any _ k t' W' (keep0 hb' hbox7)) (fun y W' _ _ => anyEdge_any y W')).mono ?_
                  rintro e w9 ⟨u9, rfl, hp9, hb9⟩
                  have hW9 := hW7.trans (hb9.mono hW7.size)
                  have Hr9 := Lib.hid (Hr8.out.mono hb9)
                  cases hpf : pathF n a.es (fun t => t == (k : Int)) (fun _ => true) 0 with
                  | none =>
                    rw [hpf] at hp9
                    obtain rfl : u9 = _ := hp9
                    have HQ : Hid (R = some ([], c)) := by show _ = _; rw [HZ.out, hpf]; rfl
                    clear HZ hpf hb9
                    go_wp2_with fail
                    refine bodyPost_ret (v := .tuple #[.slice none 0 0, .slice a8 c.length c8, .bool true, .int .i64 0]) (by simp [results, Try.results32, go_sem]) rfl ⟨_, rfl, ?_, hW9⟩
                    exact CycPost.some' HE.out (HR0.out.trans HQ.out) (RdI.nil0 _) Hr9.out
                  | some p =>
                    rw [hpf] at hp9
                    obtain ⟨v10, rfl, hr10⟩ := hp9
                    have Hr10 := Lib.hid hr10
                    obtain ⟨a10, c10, rfl, hr10'⟩ := hr10
                    have HQ : Hid (R = some (p, c)) := by show _ = _; rw [HZ.out, hpf]; rfl
                    clear HZ hpf hb9 hr10'
                    go_wp2_with fail
                    refine bodyPost_ret (v := .tuple #[.slice a10 p.length c10, .slice a8 c.length c8, .bool true, .int .i64 0]) (by simp [results, Try.results32, go_sem]) rfl ⟨_, rfl, ?_, hW9⟩
                    exact CycPost.some' HE.out (HR0.out.trans HQ.out) Hr10.out Hr9.out
            · have hnl : ¬ (k : Int) < (n : Int) := by omega
              have HQ : Hid (R = none) := by
                show _ = _
                rw [hRk.out, List.drop_of_length_le (by have := Hfl.out; omega)]; rfl
              have hW6 := hW5.trans (hB.mono hW5.size)
              clear hRk
              go_wp2_with fail
              refine bodyPost_ret (v := .tuple #[.slice none 0 0, .slice none 0 0, .bool false, .int .i64 0]) (by simp [results, Try.results32, go_sem]) rfl ⟨_, rfl, ?_, hW6⟩
              exact CycPost.none' HE.out (HR0.out.trans HQ.out)
    · have h3' : (setErr 32 none evs != 0) = true := by simpa using h3
      have H3 := Lib.hid h3
      clear h3 h1
      go_wp2_with fail
      refine (rcheckSet_any _ _ _ _ (Hr2.out.mono hW1) hl2).mono ?_
      rintro e w2 ⟨rfl, rfl⟩
      go_wp2_with fail
      refine bodyPost_ret (v := .tuple #[.slice none 0 0, .slice none 0 0, .bool false, .int .i64 (setErr 32 none evs)]) (by simp [results, Try.results32, go_sem]) rfl ⟨_, rfl, ?_, hW1⟩
      rw [show err2 a.err (setErr 32 none evs) = setErr 32 none evs by rw [err2, if_pos H1.out]]
      exact CycPost.err H3.out
  · have H1 := Lib.hid h1
    have h1' : (a.err != 0) = true := by simpa using h1
    clear h1
    go_wp2_with fail
    refine bodyPost_ret (v := .tuple #[.slice none 0 0, .slice none 0 0, .bool false, .int .i64 a.err]) (by simp [results, Try.results32, go_sem]) rfl ⟨_, rfl, ?_, hW1⟩
    rw [show err2 a.err (setErr 32 none evs) = a.err by rw [err2, if_neg H1.out]]
    exact CycPost.err H1.out
end Go.Proofs.Ythchkddhibhenaa

/- The contract of the reference's Interior. -/
namespace Go.Proofs.Ythchkddhibhenaa
open Go Go.RowKit

/-- What holds of the slots of the call of From. -/
def IR (A sv vv : Value) (n k : Nat) (s : Int) (bs os B : Nat) (F : List Int) : Nat → Value → World → Prop
  | 0, v, _ => v = A
  | 1, v, _ => v = sv
  | 2, v, _ => v = .int .i64 k
  | 3, v, _ => v = .pointer (some ⟨bs, os + k, none⟩)
  | 4, v, _ => v = .int .i64 s
  | 5, v, W => ∃ b, v = .slice (some ⟨b, 0, none⟩) 1 1 ∧ RdI W v [s]
  | 6, v, _ => v = .pointer (some ⟨B, 1, none⟩)
  | 7, v, _ => v = .int .i64 n
  | 8, v, W => ∃ a c, v = .slice a (allL n).length c ∧ RdI W v (allL n)
  | 9, v, _ => v = vv
  | 10, v, W => ∃ a c, v = .slice a F.length c ∧ RdI W v F
  | 11, v, W => ∃ a c, v = .slice a F.length c ∧ RdI W v F
  | _, _, _ => False
theorem IR_mono {A sv vv : Value} {n k : Nat} {s : Int} {bs os B : Nat} {F : List Int} : ∀ j v W W', Below W.heap.size W W' → IR A sv vv n k s bs os B F j v W → IR A sv vv n k s bs os B F j v W'
  | 0, _, _, _, _, h => h
  | 1, _, _, _, _, h => h
  | 2, _, _, _, _, h => h
  | 3, _, _, _, _, h => h
  | 4, _, _, _, _, h => h
  | 5, _, _, _, hb, ⟨b, h1, h2⟩ => ⟨b, h1, h2.mono hb⟩
  | 6, _, _, _, _, h => h
  | 7, _, _, _, _, h => h
  | 8, _, _, _, hb, ⟨a, c, h1, h2⟩ => ⟨a, c, h1, h2.mono hb⟩
  | 9, _, _, _, _, h => h
  | 10, _, _, _, hb, ⟨a, c, h1, h2⟩ => ⟨a, c, h1, h2.mono hb⟩
  | 11, _, _, _, hb, ⟨a, c, h1, h2⟩ => ⟨a, c, h1, h2.mono hb⟩
  | _ + 12, _, _, _, _, h => h.elim
theorem list12 {us : List Value} (h : us.length = 12) : ∃ u0 u1 u2 u3 u4 u5 u6 u7 u8 u9 u10 u11, us = [u0, u1, u2, u3, u4, u5, u6, u7, u8, u9, u10, u11] := by
  match us, h with
  | [u0, u1, u2, u3, u4, u5, u6, u7, u8, u9, u10, u11], _ => exact ⟨_, _, _, _, _, _, _, _, _, _, _, _, rfl⟩

/-- Whether no word of some events leads out of a set. -/
def stays (es : List Ed) (n : Nat) (set evs : List Int) (s : Int) : Bool := (fromL es [s] (allL n) evs).all (hasB set)
/-- What the reference's Interior returns. -/
def rintL (es : List Ed) (n : Nat) (set evs : List Int) : List Int := set.filter (stays es n set evs)

set_option maxRecDepth 100000 in
set_option maxHeartbeats 2400000 in
theorem rinterior_any (v vs vv : Value) (al ms set evs : List Int) (n : Nat) (es : List Ed) (w : World) (ha : RdA w v ⟨al, n, ms, es⟩) (hs : (⟨al, n, ms, es⟩ : Aut).small) (h1 : RdI w vs set) (h2 : RdI w vv evs) (hl1 : set.length ≤ 1000000) (hl2 : evs.length ≤ 1000000) (hes : es.length ≤ 100000) (hn : n ≤ 100000) :
    Calls Try.prog 25 #[v, vs, vv] w (Ret w fun u w' => RdI w' u (rintL es n set evs)) := by
  have Ha := Lib.hid ha
  obtain ⟨va, vm, ve, rfl, ⟨aa, ca, rfl, hra⟩, ⟨am, cm, rfl, hrm⟩, ⟨ae, ce, rfl, hre⟩⟩ := ha
  dsimp only at *
  have Hs := Lib.hid hs
  have H1 := Lib.hid h1
  have H2 := Lib.hid h2
  obtain ⟨a0, c0, rfl, hrs⟩ := h1
  obtain ⟨i0, hi, hz0, hz1, hz2⟩ := info_parts Try.info_int
  clear hs hra hrm h2 hre
  go_enter Try.func25, Try.ntmps25
  go_wp2_with fail
  go_loopw [7, 8] (fun o i wr => ∃ k : Nat, k ≤ set.length ∧ i = .int .i64 k ∧ Below (w.heap.size + 1) (w.alloc (.cells #[.slice aa al.length ca, .int .i64 n, .slice am ms.length cm, .slice ae es.length ce] 31)) wr ∧
    ∃ tag, Row wr (w.heap.size + 1) tag 1 3 1 o ((set.take k).filter (stays es n set evs)).length (ints ((set.take k).filter (stays es n set evs)))) (fun _ i _ => set.length - (intOf i).toNat)
  case atStart => exact ⟨0, Nat.zero_le _, rfl, Below.refl _ _, fun _ => 1, Row.nil _ _ _ _ _ _⟩
  case round =>
    obtain ⟨k, hk, rfl, hB, tag, hrow⟩ := hrel
    have hB0 : Below w.heap.size w wr := ((Below.refl _ _).alloc (Nat.le_refl _) _).trans (hB.mono (Nat.le_succ _))
    have hsz := hB.size
    simp only [World.size_alloc] at hsz
    have hle : ((set.take k).filter (stays es n set evs)).length ≤ k := Nat.le_trans (List.length_filter_le _ _) (List.length_take_le _ _)
    by_cases hlt : k < set.length
    · obtain ⟨bs, os, rfl, hc0⟩ := hrs.at_int k hlt
      have hc := keep0 hB0 hc0
      have hbsw := World.block_lt_of_cell? _ _ hc
      have Hts : Hid ((set.take (k + 1)).filter (stays es n set evs) = if stays es n set evs set[k] = true then (set.take k).filter (stays es n set evs) ++ [set[k]] else (set.take k).filter (stays es n set evs)) := by
        show _ = _
        rw [take_snoc set k hlt, List.filter_append]
        by_cases h : stays es n set evs set[k] = true
        · rw [if_pos h, List.filter_cons_of_pos h]; rfl
        · rw [if_neg h, List.filter_cons_of_neg h, List.filter_nil, List.append_nil]
      dsimp only at hbsw
      generalize set[k] = s at *
      generalize (set.take k).filter (stays es n set evs) = O at *
      have HF0 : Hid (stays es n set evs s = (fromL es [s] (allL n) evs).all (hasB set)) := rfl
      generalize hF : fromL es [s] (allL n) evs = F at *
      have HF := Lib.hid hF
      clear hF
      have hzw : w.heap.size < wr.heap.size := by omega
      have z0 : wr.cell? ⟨w.heap.size, 0, none⟩ = some (.slice aa al.length ca) := (hB.cell (p := ⟨w.heap.size, 0, none⟩) (by simp)).trans (by simp [go_sem])
      have z1 : wr.cell? ⟨w.heap.size, 1, none⟩ = some (.int .i64 n) := (hB.cell (p := ⟨w.heap.size, 1, none⟩) (by simp)).trans (by simp [go_sem])
      have z2 : wr.cell? ⟨w.heap.size, 2, none⟩ = some (.slice am ms.length cm) := (hB.cell (p := ⟨w.heap.size, 2, none⟩) (by simp)).trans (by simp [go_sem])
      have z3 : wr.cell? ⟨w.heap.size, 3, none⟩ = some (.slice ae es.length ce) := (hB.cell (p := ⟨w.heap.size, 3, none⟩) (by simp)).trans (by simp [go_sem])
      have hW1d := hB0.drew
      obtain ⟨ao, co, rfl⟩ := hrow.val
      have hlti : (k : Int) < set.length := by omega
      go_upto_region 5 with fail
      go_cut [9] (fun s9 wx => ∃ a c, s9 = .slice a F.length c ∧ RdI wx s9 F ∧ Below wr.heap.size wr wx)
      case first =>
        refine wp_region_mono (IR (.agg #[.slice aa al.length ca, .int .i64 n, .slice am ms.length cm, .slice ae es.length ce]) (.slice (some ⟨bs, os, none⟩) set.length c0) vv n k s bs os w.heap.size F) [18, 19, 20, 21, 22, 23, 24, 25, 26, 27, 28, 9] IR_mono rfl (by kernel_rfl) (by kernel_rfl) ?_ ?_
        · skip
          refine Steps.cons rfl ?_ ?_
          · intro l us W hl hI hd hn K' hK
            have hHas := hI.has
            have hbel := hI.bel
            have hlen := hI.len
            obtain ⟨u0, u1, u2, u3, u4, u5, u6, u7, u8, u9, u10, u11, rfl⟩ := list12 hlen
            have HK : Hid (∀ v W', Below W.heap.size W W' → IR (.agg #[.slice aa al.length ca, .int .i64 n, .slice am ms.length cm, .slice ae es.length ce]) (.slice (some ⟨bs, os, none⟩) set.length c0) vv n k s bs os w.heap.size F 0 v W' → ∀ a', puts _ _ [v, u1, u2, u3, u4, u5, u6, u7, u8, u9, u10, u11] = a' → K' a' W') := fun v W' hb hv a' e => hK _ a' W' e (hI.step IR_mono hl hb hv)
            have hWW := hW1d.trans (hbel.mono hW1d.size)
            have y0 := keep hbel z0 hzw
            have y1 := keep hbel z1 hzw
            have y2 := keep hbel z2 hzw
            have y3 := keep hbel z3 hzw
            clear hl hI hd hn hK hHas hbel hlen
            refine StepG.mk ?_
            simp only [puts, Act.put]
            go_simp
            exact HK.out (.agg #[.slice aa al.length ca, .int .i64 n, .slice am ms.length cm, .slice ae es.length ce]) _ (Below.refl _ _) rfl _ (by simp [puts, Act.put])
          refine Steps.cons rfl ?_ ?_
          · intro l us W hl hI hd hn K' hK
            have hHas := hI.has
            have hbel := hI.bel
            have hlen := hI.len
            obtain ⟨u0, u1, u2, u3, u4, u5, u6, u7, u8, u9, u10, u11, rfl⟩ := list12 hlen
            have HK : Hid (∀ v W', Below W.heap.size W W' → IR (.agg #[.slice aa al.length ca, .int .i64 n, .slice am ms.length cm, .slice ae es.length ce]) (.slice (some ⟨bs, os, none⟩) set.length c0) vv n k s bs os w.heap.size F 1 v W' → ∀ a', puts _ _ [u0, v, u2, u3, u4, u5, u6, u7, u8, u9, u10, u11] = a' → K' a' W') := fun v W' hb hv a' e => hK _ a' W' e (hI.step IR_mono hl hb hv)
            have hWW := hW1d.trans (hbel.mono hW1d.size)
            clear hl hI hd hn hK hHas hbel hlen
            refine StepG.mk ?_
            simp only [puts, Act.put]
            go_simp
            exact HK.out (.slice (some ⟨bs, os, none⟩) set.length c0) _ (Below.refl _ _) rfl _ (by simp [puts, Act.put])
          refine Steps.cons rfl ?_ ?_
          · intro l us W hl hI hd hn K' hK
            have hHas := hI.has
            have hbel := hI.bel
            have hlen := hI.len
            obtain ⟨u0, u1, u2, u3, u4, u5, u6, u7, u8, u9, u10, u11, rfl⟩ := list12 hlen
            have HK : Hid (∀ v W', Below W.heap.size W W' → IR (.agg #[.slice aa al.length ca, .int .i64 n, .slice am ms.length cm, .slice ae es.length ce]) (.slice (some ⟨bs, os, none⟩) set.length c0) vv n k s bs os w.heap.size F 2 v W' → ∀ a', puts _ _ [u0, u1, v, u3, u4, u5, u6, u7, u8, u9, u10, u11] = a' → K' a' W') := fun v W' hb hv a' e => hK _ a' W' e (hI.step IR_mono hl hb hv)
            have hWW := hW1d.trans (hbel.mono hW1d.size)
            clear hl hI hd hn hK hHas hbel hlen
            refine StepG.mk ?_
            simp only [puts, Act.put]
            go_simp
            exact HK.out (.int .i64 k) _ (Below.refl _ _) rfl _ (by simp [puts, Act.put])
          refine Steps.cons rfl ?_ ?_
          · intro l us W hl hI hd hn K' hK
            have hHas := hI.has
            have hbel := hI.bel
            have hlen := hI.len
            obtain ⟨u0, u1, u2, u3, u4, u5, u6, u7, u8, u9, u10, u11, rfl⟩ := list12 hlen
            have HK : Hid (∀ v W', Below W.heap.size W W' → IR (.agg #[.slice aa al.length ca, .int .i64 n, .slice am ms.length cm, .slice ae es.length ce]) (.slice (some ⟨bs, os, none⟩) set.length c0) vv n k s bs os w.heap.size F 3 v W' → ∀ a', puts _ _ [u0, u1, u2, v, u4, u5, u6, u7, u8, u9, u10, u11] = a' → K' a' W') := fun v W' hb hv a' e => hK _ a' W' e (hI.step IR_mono hl hb hv)
            have hWW := hW1d.trans (hbel.mono hW1d.size)
            have d : l.getD 1 false = true ∧ l.getD 2 false = true := by
              simp [Region.binds] at hd
              exact ⟨by simp [hd], by simp [hd]⟩
            have e1 : u1 = _ := hHas 1 (by decide) d.1
            have e2 : u2 = _ := hHas 2 (by decide) d.2
            subst e1
            subst e2
            clear d
            clear hl hI hd hn hK hHas hbel hlen
            refine StepG.mk ?_
            simp only [puts, Act.put]
            go_simp
            exact HK.out (.pointer (some ⟨bs, os + k, none⟩)) _ (Below.refl _ _) rfl _ (by simp [puts, Act.put])
          refine Steps.cons rfl ?_ ?_
          · intro l us W hl hI hd hn K' hK
            have hHas := hI.has
            have hbel := hI.bel
            have hlen := hI.len
            obtain ⟨u0, u1, u2, u3, u4, u5, u6, u7, u8, u9, u10, u11, rfl⟩ := list12 hlen
            have HK : Hid (∀ v W', Below W.heap.size W W' → IR (.agg #[.slice aa al.length ca, .int .i64 n, .slice am ms.length cm, .slice ae es.length ce]) (.slice (some ⟨bs, os, none⟩) set.length c0) vv n k s bs os w.heap.size F 4 v W' → ∀ a', puts _ _ [u0, u1, u2, u3, v, u5, u6, u7, u8, u9, u10, u11] = a' → K' a' W') := fun v W' hb hv a' e => hK _ a' W' e (hI.step IR_mono hl hb hv)
            have hWW := hW1d.trans (hbel.mono hW1d.size)
            have d : l.getD 3 false = true := by simpa [Region.binds] using hd
            have e3 : u3 = _ := hHas 3 (by decide) d
            subst e3
            have hcs := keep hbel hc hbsw
            clear d
            clear hl hI hd hn hK hHas hbel hlen
            refine StepG.mk ?_
            simp only [puts, Act.put]
            go_simp
            exact HK.out (.int .i64 s) _ (Below.refl _ _) rfl _ (by simp [puts, Act.put])
          refine Steps.cons rfl ?_ ?_
          · intro l us W hl hI hd hn K' hK
            have hHas := hI.has
            have hbel := hI.bel
            have hlen := hI.len
            obtain ⟨u0, u1, u2, u3, u4, u5, u6, u7, u8, u9, u10, u11, rfl⟩ := list12 hlen
            have HK : Hid (∀ v W', Below W.heap.size W W' → IR (.agg #[.slice aa al.length ca, .int .i64 n, .slice am ms.length cm, .slice ae es.length ce]) (.slice (some ⟨bs, os, none⟩) set.length c0) vv n k s bs os w.heap.size F 5 v W' → ∀ a', puts _ _ [u0, u1, u2, u3, u4, v, u6, u7, u8, u9, u10, u11] = a' → K' a' W') := fun v W' hb hv a' e => hK _ a' W' e (hI.step IR_mono hl hb hv)
            have hWW := hW1d.trans (hbel.mono hW1d.size)
            have d : l.getD 4 false = true := by simpa [Region.binds] using hd
            have e4 : u4 = _ := hHas 4 (by decide) d
            subst e4
            clear d
            clear hl hI hd hn hK hHas hbel hlen
            refine StepG.mk ?_
            simp only [puts, Act.put]
            go_simp
            exact HK.out (.slice (some ⟨W.heap.size, 0, none⟩) 1 1) _ (bel_alloc _ _) ⟨W.heap.size, rfl, ⟨_, 1, rfl, RdS.lit (cs := #[.int .i64 s]) (heap_at rfl) rfl (by show 1 ≤ 1000000; decide)⟩⟩ _ (by simp [puts, Act.put])
          refine Steps.cons rfl ?_ ?_
          · intro l us W hl hI hd hn K' hK
            have hHas := hI.has
            have hbel := hI.bel
            have hlen := hI.len
            obtain ⟨u0, u1, u2, u3, u4, u5, u6, u7, u8, u9, u10, u11, rfl⟩ := list12 hlen
            have HK : Hid (∀ v W', Below W.heap.size W W' → IR (.agg #[.slice aa al.length ca, .int .i64 n, .slice am ms.length cm, .slice ae es.length ce]) (.slice (some ⟨bs, os, none⟩) set.length c0) vv n k s bs os w.heap.size F 6 v W' → ∀ a', puts _ _ [u0, u1, u2, u3, u4, u5, v, u7, u8, u9, u10, u11] = a' → K' a' W') := fun v W' hb hv a' e => hK _ a' W' e (hI.step IR_mono hl hb hv)
            have hWW := hW1d.trans (hbel.mono hW1d.size)
            clear hl hI hd hn hK hHas hbel hlen
            refine StepG.mk ?_
            simp only [puts, Act.put]
            go_simp
            exact HK.out (.pointer (some ⟨w.heap.size, 1, none⟩)) _ (Below.refl _ _) rfl _ (by simp [puts, Act.put])
          refine Steps.cons rfl ?_ ?_
          · intro l us W hl hI hd hn K' hK
            have hHas := hI.has
            have hbel := hI.bel
            have hlen := hI.len
            obtain ⟨u0, u1, u2, u3, u4, u5, u6, u7, u8, u9, u10, u11, rfl⟩ := list12 hlen
            have HK : Hid (∀ v W', Below W.heap.size W W' → IR (.agg #[.slice aa al.length ca, .int .i64 n, .slice am ms.length cm, .slice ae es.length ce]) (.slice (some ⟨bs, os, none⟩) set.length c0) vv n k s bs os w.heap.size F 7 v W' → ∀ a', puts _ _ [u0, u1, u2, u3, u4, u5, u6, v, u8, u9, u10, u11] = a' → K' a' W') := fun v W' hb hv a' e => hK _ a' W' e (hI.step IR_mono hl hb hv)
            have hWW := hW1d.trans (hbel.mono hW1d.size)
            have d : l.getD 6 false = true := by simpa [Region.binds] using hd
            have e6 : u6 = _ := hHas 6 (by decide) d
            subst e6
            have y1 := keep hbel z1 hzw
            clear d
            clear hl hI hd hn hK hHas hbel hlen
            refine StepG.mk ?_
            simp only [puts, Act.put]
            go_simp
            exact HK.out (.int .i64 n) _ (Below.refl _ _) rfl _ (by simp [puts, Act.put])
          refine Steps.cons rfl ?_ ?_
          · intro l us W hl hI hd hn K' hK
            have hHas := hI.has
            have hbel := hI.bel
            have hlen := hI.len
            obtain ⟨u0, u1, u2, u3, u4, u5, u6, u7, u8, u9, u10, u11, rfl⟩ := list12 hlen
            have HK : Hid (∀ v W', Below W.heap.size W W' → IR (.agg #[.slice aa al.length ca, .int .i64 n, .slice am ms.length cm, .slice ae es.length ce]) (.slice (some ⟨bs, os, none⟩) set.length c0) vv n k s bs os w.heap.size F 8 v W' → ∀ a', puts _ _ [u0, u1, u2, u3, u4, u5, u6, u7, v, u9, u10, u11] = a' → K' a' W') := fun v W' hb hv a' e => hK _ a' W' e (hI.step IR_mono hl hb hv)
            have hWW := hW1d.trans (hbel.mono hW1d.size)
            have d : l.getD 7 false = true := by simpa [Region.binds] using hd
            have e7 : u7 = _ := hHas 7 (by decide) d
            subst e7
            clear d
            clear hl hI hd hn hK hHas hbel hlen
            refine StepG.mk ?_
            simp only [puts, Act.put]
            go_simp
            refine (all_any n _ (by omega)).mono ?_
            rintro e w5 ⟨v5, rfl, hown5, hb5⟩
            have HA5 := RdI.of_own hown5
            obtain ⟨a5, c5, rfl, hr5⟩ := RdS.of_own hown5
            go_simp
            exact HK.out (.slice a5 (allL n).length c5) _ hb5 ⟨a5, c5, rfl, HA5⟩ _ (by simp [puts, Act.put])
          refine Steps.cons rfl ?_ ?_
          · intro l us W hl hI hd hn K' hK
            have hHas := hI.has
            have hbel := hI.bel
            have hlen := hI.len
            obtain ⟨u0, u1, u2, u3, u4, u5, u6, u7, u8, u9, u10, u11, rfl⟩ := list12 hlen
            have HK : Hid (∀ v W', Below W.heap.size W W' → IR (.agg #[.slice aa al.length ca, .int .i64 n, .slice am ms.length cm, .slice ae es.length ce]) (.slice (some ⟨bs, os, none⟩) set.length c0) vv n k s bs os w.heap.size F 9 v W' → ∀ a', puts _ _ [u0, u1, u2, u3, u4, u5, u6, u7, u8, v, u10, u11] = a' → K' a' W') := fun v W' hb hv a' e => hK _ a' W' e (hI.step IR_mono hl hb hv)
            have hWW := hW1d.trans (hbel.mono hW1d.size)
            clear hl hI hd hn hK hHas hbel hlen
            refine StepG.mk ?_
            simp only [puts, Act.put]
            go_simp
            exact HK.out (vv) _ (Below.refl _ _) rfl _ (by simp [puts, Act.put])
          refine Steps.cons rfl ?_ ?_
          · intro l us W hl hI hd hn K' hK
            have hHas := hI.has
            have hbel := hI.bel
            have hlen := hI.len
            obtain ⟨u0, u1, u2, u3, u4, u5, u6, u7, u8, u9, u10, u11, rfl⟩ := list12 hlen
            have HK : Hid (∀ v W', Below W.heap.size W W' → IR (.agg #[.slice aa al.length ca, .int .i64 n, .slice am ms.length cm, .slice ae es.length ce]) (.slice (some ⟨bs, os, none⟩) set.length c0) vv n k s bs os w.heap.size F 10 v W' → ∀ a', puts _ _ [u0, u1, u2, u3, u4, u5, u6, u7, u8, u9, v, u11] = a' → K' a' W') := fun v W' hb hv a' e => hK _ a' W' e (hI.step IR_mono hl hb hv)
            have hWW := hW1d.trans (hbel.mono hW1d.size)
            have d : l.getD 0 false = true ∧ l.getD 5 false = true ∧ l.getD 8 false = true ∧ l.getD 9 false = true := by
              simp [Region.binds] at hd
              exact ⟨by simp [hd], by simp [hd], by simp [hd], by simp [hd]⟩
            have e0 : u0 = _ := hHas 0 (by decide) d.1
            have e9 : u9 = _ := hHas 9 (by decide) d.2.2.2
            subst e0
            subst e9
            obtain ⟨b5, e5, hr5⟩ : ∃ b, u5 = .slice (some ⟨b, 0, none⟩) 1 1 ∧ RdI W u5 [s] := hHas 5 (by decide) d.2.1
            obtain ⟨a8, c8, e8, hr8⟩ : ∃ a c, u8 = .slice a (allL n).length c ∧ RdI W u8 (allL n) := hHas 8 (by decide) d.2.2.1
            subst e5
            subst e8
            have Hr5 := Lib.hid hr5
            have Hr8 := Lib.hid hr8
            clear d hr5 hr8
            clear hl hI hd hn hK hHas hbel hlen
            refine StepG.mk ?_
            simp only [puts, Act.put]
            go_simp
            refine (from_any _ _ _ _ ⟨al, n, ms, es⟩ [s] (allL n) evs W (Ha.out.mono hWW) Hs.out Hr5.out Hr8.out (H2.out.mono hWW) (by simp; omega) (by rw [allL_length]; omega) hl2).mono ?_
            rintro e w6 ⟨v6, rfl, hr6, hb6⟩
            rw [show fromL (⟨al, n, ms, es⟩ : Aut).es [s] (allL n) evs = F from HF.out] at hr6
            have Hr6 := Lib.hid hr6
            obtain ⟨a6, c6, rfl, hr6'⟩ := hr6
            clear hr6'
            go_simp
            exact HK.out (.slice a6 F.length c6) _ hb6 ⟨a6, c6, rfl, Hr6.out⟩ _ (by simp [puts, Act.put])
          refine Steps.cons rfl ?_ ?_
          · intro l us W hl hI hd hn K' hK
            have hHas := hI.has
            have hbel := hI.bel
            have hlen := hI.len
            obtain ⟨u0, u1, u2, u3, u4, u5, u6, u7, u8, u9, u10, u11, rfl⟩ := list12 hlen
            have HK : Hid (∀ v W', Below W.heap.size W W' → IR (.agg #[.slice aa al.length ca, .int .i64 n, .slice am ms.length cm, .slice ae es.length ce]) (.slice (some ⟨bs, os, none⟩) set.length c0) vv n k s bs os w.heap.size F 11 v W' → ∀ a', puts _ _ [u0, u1, u2, u3, u4, u5, u6, u7, u8, u9, u10, v] = a' → K' a' W') := fun v W' hb hv a' e => hK _ a' W' e (hI.step IR_mono hl hb hv)
            have hWW := hW1d.trans (hbel.mono hW1d.size)
            have d : l.getD 10 false = true := by
              simp [Region.binds] at hd
              simp [hd]
            obtain ⟨a10, c10, e10, hr10⟩ : ∃ a c, u10 = .slice a F.length c ∧ RdI W u10 F := hHas 10 (by decide) d
            subst e10
            have Hr10 := Lib.hid hr10
            clear d hr10
            clear hl hI hd hn hK hHas hbel hlen
            refine StepG.mk ?_
            simp only [puts, Act.put]
            go_simp
            exact HK.out (.slice a10 F.length c10) _ (Below.refl _ _) ⟨a10, c10, rfl, Hr10.out⟩ _ (by simp [puts, Act.put])
          exact Steps.nil (Nat.le_refl _)
        · intro us W hlen hbel hall
          obtain ⟨u0, u1, u2, u3, u4, u5, u6, u7, u8, u9, u10, u11, rfl⟩ := list12 hlen
          obtain ⟨a11, c11, e11, hr11⟩ : ∃ a c, u11 = .slice a F.length c ∧ RdI W u11 F := hall 11 (by decide)
          subst e11
          have Hr11 := Lib.hid hr11
          clear hall hlen hr11
          simp only [puts, Act.put, List.setIfInBounds_toArray, List.set_cons_succ, List.set_cons_zero]
          go_wp2_with fail
          go_meet
          exact ⟨a11, c11, rfl, Hr11.out, (bel_drew wr).trans hbel⟩
      case rest =>
        obtain ⟨a9, c9, rfl, hr9, hb9⟩ := hcut
        have hrow9 := hrow.below hb9
        have hB9 := hB.trans (hb9.mono (by omega))
        have hB90 := hB0.trans (hb9.mono hB0.size)
        have hs9 := hb9.size
        have Hr9 := Lib.hid hr9
        obtain ⟨a9', c9', e9, hrd9⟩ := hr9
        cases e9
        have hFl : F.length ≤ 100001 := by
          rw [← HF.out]
          have := fromL_len es [s] (allL n) evs
          simp at this; omega
        go_wp2_with fail
        go_loop [10, 11] (fun ins j => ∃ (m : Nat) (b : Bool), ins = .bool b ∧ j = .int .i64 m ∧ m ≤ F.length ∧ Hid (b = (F.take m).all (hasB set))) (fun _ j => F.length - (intOf j).toNat)
        case atStart => exact ⟨0, true, rfl, rfl, Nat.zero_le _, rfl⟩
        case round =>
          obtain ⟨m, b, rfl, rfl, hm, hb⟩ := hrel
          by_cases hltm : m < F.length
          · obtain ⟨bf, of, rfl, hcf⟩ := hrd9.at_int m hltm
            have Hts2 : Hid ((F.take (m + 1)).all (hasB set) = ((F.take m).all (hasB set) && hasB set F[m])) := by
              show _ = _
              rw [take_snoc F m hltm, List.all_append]; simp
            generalize F[m] = y at *
            have hltmi : (m : Int) < F.length := by omega
            cases b with
            | false =>
              have Hb : Hid (false = (F.take (m + 1)).all (hasB set)) := by show _ = _; rw [Hts2.out, ← hb.out]; rfl
              clear hb
              go_wp2_with fail
              go_round
              case rel => exact ⟨m + 1, false, rfl, by go_num, by omega, Hb.out⟩
              case measure => simp [intOf]; omega
            | true =>
              have Hb : Hid (hasB set y = (F.take (m + 1)).all (hasB set)) := by show _ = _; rw [Hts2.out, ← hb.out]; rfl
              clear hb
              go_wp2_with fail
              refine (has_any _ set y _ (H1.out.mono hB90) hl1).mono ?_
              rintro e w1 ⟨rfl, rfl⟩
              have Hgen : Hid (∃ bb, hasB set y = bb) := ⟨_, rfl⟩
              go_wp2_with fail
              go_round
              case rel => exact ⟨m + 1, hasB set y, rfl, by go_num, by omega, Hb.out⟩
              case measure => simp [intOf]; omega
          · have Hst : Hid (stays es n set evs s = b) := by
              show _ = _
              rw [HF0.out, hb.out, List.take_of_length_le (by omega)]
            clear hb
            cases b with
            | false =>
              have HO : Hid ((set.take (k + 1)).filter (stays es n set evs) = O) := by show _ = _; rw [Hts.out, if_neg (by rw [Hst.out]; simp)]
              go_wp2_with fail
              go_roundw
              case rel => exact ⟨k + 1, by omega, by go_num, hB9, tag, by rw [HO.out]; exact hrow9⟩
              case measure => simp [intOf]; omega
            | true =>
              have HO : Hid ((set.take (k + 1)).filter (stays es n set evs) = O ++ [s]) := by show _ = _; rw [Hts.out, if_pos Hst.out]
              have hcs := keep0 hb9 hc
              have hrow10 := hrow9.below (bel_alloc wc (.cells #[.int .i64 s] 3))
              have hszc : w.heap.size + 1 ≤ wc.heap.size := by omega
              go_wp2_with (at_builtin; refine wpList_append_row rfl _ _ 28 rfl 3 i0 (.int .i64 0) 8 Try.underlying28 hi hz0 hz1 hz2 rfl rfl hrow10 (some ⟨_, 0, none⟩) 1 1 [.int .i64 s] rfl (by simp) (fun e => by cases e) (fun ad e => by cases e; exact new_cells_at _ _ rfl) (by simp [Value.oneCell']) (by unfold maxLen; omega) (by omega) (by simp; omega) ?_; intro v6 w6 tag6 hr6 ht6; obtain ⟨a6, c6, rfl⟩ := hr6.val)
              go_roundw
              case rel =>
                refine ⟨k + 1, by omega, by go_num, belTurn (hB9.alloc (by omega) _) ht6 (by simp; omega), tag6, ?_⟩
                rw [HO.out, List.length_append]
                have := hr6
                simpa [ints] using this
              case measure => simp [intOf]; omega
    · have e : set.take k = set := List.take_of_length_le (by omega)
      rw [e] at hrow
      obtain ⟨ao, co, rfl⟩ := hrow.val
      have Hrow := Lib.hid hrow
      have HR : Hid (rintL es n set evs = set.filter (stays es n set evs)) := rfl
      generalize set.filter (stays es n set evs) = O at *
      have hge : (set.length : Int) ≤ k := by omega
      clear e hrow
      go_wp2_with fail
      go_ret
      exact ⟨_, rfl, by rw [HR.out]; exact Hrow.out.rdI, hB0⟩
end Go.Proofs.Ythchkddhibhenaa
