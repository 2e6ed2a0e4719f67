/- Parts of the proof, without what nothing here names. -/
import Derived.Shelf.Sort.Plain
import Derived.Shelf.Slices.In.SortNone
import Derived.Shelf.SlSortCmp.NoneTotal
import Derived.Ground.SlsfProg
import Derived.Test.YtfbapajcheammaaGreatDoorProg
import Derived.Test.YtfbapajcheammaaGreatDoorQcy2
set_option maxRecDepth 100000
set_option maxHeartbeats 8000000
namespace Go.Proofs.YtfbapajcheammaaGreatDoor
open Go Go.RowKit
structure RowAt {α : Type} (r : Rep α) (s : Sig) (t : Nat) (T : TypeId) (b off cap : Nat) (cur : Array Value) (vs : List Value) (xs : List α) : Prop where
 heap : s.w.heap[b]? = some (.cells cur T (0, 0))
 tag : s.tag b = t
 cap : xs.length ≤ cap ∧ cap ≤ maxLen ∧ off + cap ≤ cur.size
 len : vs.length = xs.length
 cell : ∀ j (h : j < vs.length), cur[off + j]? = some vs[j]
 rd : ∀ j (h : j < vs.length) (h2 : j < xs.length), r.rd s [vs[j]] xs[j]
section
variable {α β : Type} {r : Rep α} {s : Sig} {t : Nat} {T : TypeId} {a : Option Addr} {cap : Nat} {xs ys : List α}
theorem RowT.seen (h : RowT r s t T a cap xs) (h1 : r.sz = 1) : (a = none ∧ cap = 0 ∧ xs = []) ∨ ∃ b off cur vs, a = some ⟨b, off, none⟩ ∧ RowAt r s t T b off cap cur vs xs := by
 obtain ⟨cs, ⟨hl, hrow⟩, hc⟩ := h
 rw [h1, Nat.mul_one] at hl
 rcases hrow with ⟨e, hn⟩ | ⟨b, off, cap', cur, e, ho, k1, k2, k3, k4⟩
 ·simp only [Value.slice.injEq] at e
  exact .inl ⟨e.1, e.2.2, List.eq_nil_of_length_eq_zero hn⟩
 ·simp only [Value.slice.injEq, true_and] at e
  obtain ⟨rfl, rfl⟩ := e
  rw [h1, Nat.mul_one] at k3 k4
  refine .inr ⟨b, off, cur, cs, rfl, ho.heap, ho.htag, ⟨k1, k2, k3⟩, hl, fun j hj => ?_, fun j hj hj2 => ?_⟩
  ·have e2 : cs[j]? = cur.toList[off + j]? := by rw [← k4, List.getElem?_take, if_pos (by omega), List.getElem?_drop]
   rw [List.getElem?_eq_getElem hj] at e2
   rw [← Array.getElem?_toList]
   exact e2.symm
  ·have := hc.at j hj2
   rw [h1, Nat.mul_one, List.drop_eq_getElem_cons hj] at this
   exact this
theorem Cells.of {s : Sig} (h1 : r.sz = 1) : ∀ {cs : List Value} {xs : List α}, cs.length = xs.length → (∀ j (h : j < cs.length) (h2 : j < xs.length), r.rd s [cs[j]] xs[j]) → Cells r s cs xs
 | [], [], _, _ => rfl
 | [], _ :: _, h, _ => by cases h
 | _ :: _, [], h, _ => by cases h
 | c :: cs, x :: xs, h, hr => ⟨[c], cs, rfl, hr 0 (by simp) (by simp), Cells.of h1 (by simpa using h) fun j hj hj2 => hr (j + 1) (by simpa using hj) (by simpa using hj2)⟩
end
def rNil {α : Type} : Rep (List α) := ⟨1, fun _ cs x => cs = [.slice none 0 0] ∧ x = [], fun h => by rw [h.1]; rfl, fun _ h => h, fun h u hu => by rw [h.1] at hu; rw [List.mem_singleton.1 hu]; rfl⟩
section
variable {α : Type}
structure RowR (r : Rep α) (s : Sig) (N q t : Nat) (T U : TypeId) (a : Option Addr) (cap n : Nat) (xss : List (List α)) (out : Option Nat) : Prop where
 is : xss.length = n ∧ ∃ (b off : Nat) (cur : Array Value) (vs : List Value), a = some ⟨b, off, none⟩ ∧ s.w.heap[b]? = some (.cells cur T (0, 0)) ∧ s.tag b = t ∧ n ≤ cap ∧ cap ≤ maxLen ∧ off + cap ≤ cur.size ∧ vs.length = n ∧ (∀ j (h : j < vs.length), cur[off + j]? = some vs[j]) ∧
  ∀ j (h : j < vs.length) (h2 : j < xss.length), out = some j ∨ ∃ ai ci, vs[j] = .slice ai xss[j].length ci ∧ RowT r s (fam N q j) U ai ci xss[j]
variable {r : Rep α} {s s' : Sig} {N q t cap n : Nat} {T U : TypeId} {a : Option Addr} {xss yss : List (List α)} {out : Option Nat} {S : Nat → Prop}
theorem RowR.mv (h : RowR r s N q t T U a cap n xss out) (m : Mv S s s') (ht : ¬ S t) (h0 : ¬ S 0) (hr : ∀ i, (∀ k, out = some k → i ≠ k) → ¬ S (fam N q i)) : RowR r s' N q t T U a cap n xss out := by
 obtain ⟨hn, b, off, cur, vs, ha, h1, h2, h3, h4, h5, h6, h7, h8⟩ := h.is
 obtain ⟨g1, g2⟩ := m.blk b (Array.getElem?_eq_some_iff.1 h1).1 (by rw [h2]; exact ht)
 refine ⟨hn, b, off, cur, vs, ha, g1.trans h1, g2.trans h2, h3, h4, h5, h6, h7, fun j hj hj2 => ?_⟩
 by_cases ho : out = some j
 ·exact .inl ho
 ·obtain ⟨ai, ci, e, g⟩ := (h8 j hj hj2).resolve_left ho
  exact .inr ⟨ai, ci, e, g.mv m (hr j fun k hk e2 => ho (by rw [hk, e2])) h0⟩
theorem RowR.start (h : RowT (rNil (α := α)) s t T a cap xss) (ha : a ≠ none) : RowR r s N q t T U a cap xss.length xss none := by
 rcases h.seen rfl with ⟨e, _⟩ | ⟨b, off, cur, vs, e, g⟩
 ·exact absurd e ha
 ·refine ⟨rfl, b, off, cur, vs, e, g.heap, g.tag, g.cap.1, g.cap.2.1, g.cap.2.2, g.len, g.cell, fun j hj hj2 => .inr ?_⟩
  obtain ⟨e1, e2⟩ := g.rd j hj hj2
  have e1 := List.head_eq_of_cons_eq e1
  rw [e2, e1]
  exact ⟨none, 0, rfl, RowT.nil⟩
theorem RowR.fz {p : Nat → Bool} (h : RowR r s N q t T U a cap n xss none) (h0 : p 0 = false) (ht : p t = true) (hr : ∀ i, p (fam N q i) = true) : RdL (rL r) (s.fzP p) a cap xss := by
 obtain ⟨hn, b, off, cur, vs, rfl, h1, h2, h3, h4, h5, h6, h7, h8⟩ := h.is
 have hle : Le s (s.fzP p) := (Sig.fzP_mv p s).le (by show ¬ p 0 = true; rw [h0]; simp)
 refine ⟨vs, ⟨by show vs.length = xss.length * 1; omega, by omega, h4, fun e => (by cases e), fun ad e => (by cases e; rfl), fun ad e j hj => ?_⟩, fun ad e _ => ?_, Cells.of rfl (by omega) fun j hj hj2 => ?_⟩
 ·cases e
  show World.cell? s.w _ = _
  unfold World.cell?
  rw [h1]
  exact h7 j hj
 ·cases e
  show (if p (s.tag b) then 0 else s.tag b) = 0
  rw [h2, ht]; rfl
 ·obtain ⟨ai, ci, e, g⟩ := (h8 j hj hj2).resolve_left (by simp)
  exact ⟨ai, ci, by rw [e], g.rd hle rfl fun b' hb => by simp [Sig.fzP, hb, hr j]⟩
end
section
variable {Φ : Fr} {P : Program} {Q : Exit → Act → World → Prop} {m : Nat} {e : List (Nat × Value)} {s : Sig} {ops : Array Oper} {os : List Oper} {d : Nat} {ty : TypeId} {pos : String} {af : Array Edge} {g : Option (Nat × Bool)}
variable {α : Type} {r : Rep α} {N q t cap n b off : Nat} {T U W T' : TypeId} {a : Option Addr} {xss yss : List (List α)} {y zs : List α} {out : Option Nat} {j : Int} {k : IntKind} {ai : Option Addr} {ci : Nat}
theorem L.irR {x i : Operand} (hS : Sl P W T 1) (hR : RowR r s N q t T U a cap n xss out) (hw : Wt ops e g) (hx : Env.ev e x = some (.slice a n cap)) (hi : Env.ev e i = some (.int k j)) (hy : idx xss j = some y) (hd : Nat.blt d m = true)
  (h : ∀ b off, Spot a 1 j.toNat b off → L Φ P Q m ops os ((d, .pointer (some ⟨b, off, none⟩)) :: e) s.w) : L Φ P Q m ops (⟨some d, .indexAddr W x i, ty, pos, af, g⟩ :: os) e s.w := by
 obtain ⟨h0, hk, rfl⟩ := idx_some hy
 obtain ⟨hn, b, off, cur, vs, rfl, h1, h2, h3, h4, h5, h6, h7, h8⟩ := hR.is
 refine L.val hw hd (v := .pointer (some ⟨b, off + j.toNat * 1, none⟩)) (fun ac ha => ?_) (h _ _ ⟨off, rfl, rfl⟩)
 have hlt : j < n := by omega
 simp [execOp, Instr.indexAt, ha.ev hx, ha.ev hi, asIntOf, run_underlying hS.und, hS.sz, h0, hlt, Addr.add_lit]
theorem L.ldR {x : Operand} (hR : RowR r s N q t T U a cap n xss none) (hsp : Spot a 1 j.toNat b off) (hy : idx xss j = some y) (hN : NAg P T) (hw : Wt ops e g) (hx : Env.ev e x = some (.pointer (some ⟨b, off, none⟩))) (hd : Nat.blt d m = true)
  (h : ∀ ai ci, RowT r s (fam N q j.toNat) U ai ci y → RowR r s N q t T U a cap n xss (some j.toNat) → L Φ P Q m ops os ((d, .slice ai y.length ci) :: e) s.w) : L Φ P Q m ops (⟨some d, .load T x, ty, pos, af, g⟩ :: os) e s.w := by
 obtain ⟨h0, hk, rfl⟩ := idx_some hy
 obtain ⟨hn, b', off', cur, vs, rfl, h1, h2, h3, h4, h5, h6, h7, h8⟩ := hR.is
 obtain ⟨o, e1, rfl⟩ := hsp.is
 simp only [Option.some.injEq, Addr.mk.injEq, and_true] at e1
 obtain ⟨rfl, rfl⟩ := e1
 obtain ⟨ai, ci, e2, g2⟩ := (h8 j.toNat (by omega) hk).resolve_left (by simp)
 have hmem : Mem s t b' (off' + j.toNat * 1) [.slice ai xss[j.toNat].length ci] := ⟨fun _ => h2, fun i hi => by
  have hi0 : i = 0 := by simpa using hi
  subst hi0
  unfold World.cell?
  rw [h1]
  show cur[off' + j.toNat * 1 + 0]? = _
  rw [Nat.mul_one, Nat.add_zero, h7 j.toNat (by omega), e2]
  rfl⟩
 exact L.ld (j := 0) hmem hN hw hx rfl rfl hd (h ai ci g2 ⟨hn, b', off', cur, vs, rfl, h1, h2, h3, h4, h5, h6, h7, fun i hi hi2 => .inr ((h8 i hi hi2).resolve_left (by simp))⟩)
theorem L.suR {x z : Operand} (hR : RowR r s N q t T U a cap n xss (some j.toNat)) (hZ : RowT r s (fam N q j.toNat) U ai ci zs) (hsp : Spot a 1 j.toNat b off) (hi : idx xss j = some y) (hu : upd xss j zs = some yss) (ht : Nat.blt 0 t = true) (htf : ∀ i, fam N q i ≠ t) (hT : ∀ w, (sizeOf T').run P w = .ok 1 w) (hw : Wt ops e g) (hx : Env.ev e x = some (.pointer (some ⟨b, off, none⟩))) (hz : Env.ev e z = some (.slice ai zs.length ci))
  (h : ∀ s', Mv (One t) s s' → RowR r s' N q t T U a cap n yss none → L Φ P Q m ops os e s'.w) : L Φ P Q m ops (⟨none, .store T' x z, ty, pos, af, g⟩ :: os) e s.w := by
 obtain ⟨h0, hk, rfl⟩ := upd_some hu
 obtain ⟨hn, b', off', cur, vs, rfl, h1, h2, h3, h4, h5, h6, h7, h8⟩ := hR.is
 obtain ⟨o, e1, rfl⟩ := hsp.is
 simp only [Option.some.injEq, Addr.mk.injEq, and_true] at e1
 obtain ⟨rfl, rfl⟩ := e1
 have ht' : 0 < t := by simpa using ht
 have hst := run_storeCells_at P b' (off' + j.toNat) T [.slice ai zs.length ci] 0 cur s.w h1 (by simp; omega) (fun u hu => by rw [List.mem_singleton.1 hu]; rfl)
 simp only [Nat.add_zero] at hst
 refine L.unit hw (w' := s.w.setRow b' (cur.toList.take (off' + j.toNat) ++ [Value.slice ai zs.length ci] ++ cur.toList.drop (off' + j.toNat + 1)).toArray) (fun ac ha => ?_) ?_
 ·have hst' := hst
  simp [execOp, Instr.storeAt, Instr.sureAddr, storeVar, ha.ev hx, ha.ev hz, hT, Value.cells]
  simp at hst'
  rw [hst']
  simp [Result.andThen]
 ·have hmv : Mv (One t) s ⟨s.w.setRow b' (cur.toList.take (off' + j.toNat) ++ [Value.slice ai zs.length ci] ++ cur.toList.drop (off' + j.toNat + 1)).toArray, s.tag⟩ :=
   ⟨rfl, rfl, rfl, by simp, fun b2 hb hn => ⟨setRow_other _ _ _ _ (by rintro rfl; exact hn h2), rfl⟩⟩
  refine h _ hmv ?_
  have hf : ∀ i, ¬ One t (fam N q i) := fun i e => htf i e
  have hz0 : ¬ One t 0 := fun e => by have : 0 = t := e; omega
  refine ⟨by rw [List.length_set]; exact hn, b', off', _, vs.set j.toNat (.slice ai zs.length ci), rfl, setRow_heap _ _ _ _ _ _ h1, h2, h3, h4, ?_, by rw [List.length_set]; exact h6, fun i hi => ?_, fun i hi hi2 => ?_⟩
  ·simp only [List.size_toArray, List.length_append, List.length_take, List.length_drop, Array.length_toList, List.length_singleton]
   omega
  ·have hi' : i < vs.length := by simpa using hi
   have hsp2 := get_splice (l := cur.toList) (c := [Value.slice ai zs.length ci]) (i := off' + j.toNat) (by simp; omega) (off' + i)
   rw [List.length_singleton] at hsp2
   rw [List.getElem?_toArray, hsp2, List.getElem_set]
   by_cases e2 : j.toNat = i
   ·rw [if_pos e2, if_pos (by omega), ← e2, Nat.sub_self]; rfl
   ·rw [if_neg e2, if_neg (by omega), Array.getElem?_toList]
    exact h7 i hi'
  ·right
   have hi' : i < vs.length := by simpa using hi
   have hi2' : i < xss.length := by simpa using hi2
   by_cases e2 : j.toNat = i
   ·subst e2
    refine ⟨ai, ci, ?_, ?_⟩
    ·rw [List.getElem_set_self, List.getElem_set_self]
    ·rw [List.getElem_set_self]; exact hZ.mv hmv (hf _) hz0
   ·obtain ⟨aj, cj, e3, g3⟩ := (h8 i hi' hi2').resolve_left (by simpa using e2)
    refine ⟨aj, cj, ?_, ?_⟩
    ·rw [List.getElem_set_ne e2, List.getElem_set_ne e2, e3]
    ·rw [List.getElem_set_ne e2]; exact g3.mv hmv (hf _) hz0
end
end Go.Proofs.YtfbapajcheammaaGreatDoor

namespace Go.Proofs
open Go.Shelf
def Tryz.lays189_ren : Go.Shelf.Ren := ⟨fun | 189 => 56 | 125 => 89 | 257 => 88 | 128 => 118 | 129 => 119 | 294 => 110 | 295 => 111 | 296 => 112 | 297 => 113 | 298 => 114 | 299 => 115 | 216 => 97 | 300 => 116 | 301 => 117 | 328 => 136 | 329 => 137 | 330 => 138 | 331 => 139 | 332 => 140 | 215 => 130 | 343 => 148 | n => n, fun | 28 => 27 | 3 => 3 | 46 => 139 | 0 => 0 | 51 => 159 | 53 => 161 | 4 => 4 | 183 => 153 | 182 => 152 | 131 => 89 | 5 => 5 | 9 => 9 | 218 => 177 | 222 => 181 | 228 => 189 | 229 => 73 | n => n, fun | n => n⟩
theorem Tryz.lays189 : Go.Proofs.Lays.n189 Tryz.prog Tryz.lays189_ren := {
 mixed := by kernel_rfl
 f125 := Tryz.func89.trans (congrArg some (by kernel_rfl))
 f128 := Tryz.func118.trans (congrArg some (by kernel_rfl))
 f129 := Tryz.func119.trans (congrArg some (by kernel_rfl))
 f189 := Tryz.func56.trans (congrArg some (by kernel_rfl))
 f215 := Tryz.func130.trans (congrArg some (by kernel_rfl))
 f216 := Tryz.func97.trans (congrArg some (by kernel_rfl))
 f257 := Tryz.func88.trans (congrArg some (by kernel_rfl))
 f294 := Tryz.func110.trans (congrArg some (by kernel_rfl))
 f295 := Tryz.func111.trans (congrArg some (by kernel_rfl))
 f296 := Tryz.func112.trans (congrArg some (by kernel_rfl))
 f297 := Tryz.func113.trans (congrArg some (by kernel_rfl))
 f298 := Tryz.func114.trans (congrArg some (by kernel_rfl))
 f299 := Tryz.func115.trans (congrArg some (by kernel_rfl))
 f300 := Tryz.func116.trans (congrArg some (by kernel_rfl))
 f301 := Tryz.func117.trans (congrArg some (by kernel_rfl))
 f328 := Tryz.func136.trans (congrArg some (by kernel_rfl))
 f329 := Tryz.func137.trans (congrArg some (by kernel_rfl))
 f330 := Tryz.func138.trans (congrArg some (by kernel_rfl))
 f331 := Tryz.func139.trans (congrArg some (by kernel_rfl))
 f332 := Tryz.func140.trans (congrArg some (by kernel_rfl))
 f343 := Tryz.func148.trans (congrArg some (by kernel_rfl))
 t0 := Tryz.underlying0
 a0 := Tryz.isAgg0
 z0 := Tryz.sizeOf0
 v0 := Tryz.zeroValue0
 t3 := Tryz.underlying3
 a3 := Tryz.isAgg3
 z3 := Tryz.sizeOf3
 v3 := Tryz.zeroValue3
 t4 := Tryz.underlying4
 a4 := Tryz.isAgg4
 z4 := Tryz.sizeOf4
 v4 := Tryz.zeroValue4
 t5 := Tryz.underlying5
 a5 := Tryz.isAgg5
 z5 := Tryz.sizeOf5
 v5 := Tryz.zeroValue5
 t9 := Tryz.underlying9
 a9 := Tryz.isAgg9
 z9 := Tryz.sizeOf9
 v9 := Tryz.zeroValue9
 t28 := Tryz.underlying27
 a28 := Tryz.isAgg27
 z28 := Tryz.sizeOf27
 v28 := Tryz.zeroValue27
 t46 := Tryz.underlying139
 a46 := Tryz.isAgg139
 z46 := Tryz.sizeOf139
 v46 := Tryz.zeroValue139
 t51 := Tryz.underlying159
 a51 := Tryz.isAgg159
 z51 := Tryz.sizeOf159
 v51 := Tryz.zeroValue159
 t53 := Tryz.underlying161
 a53 := Tryz.isAgg161
 z53 := Tryz.sizeOf161
 v53 := Tryz.zeroValue161
 t131 := Tryz.underlying89
 a131 := Tryz.isAgg89
 z131 := Tryz.sizeOf89
 v131 := Tryz.zeroValue89
 t182 := Tryz.underlying152
 a182 := Tryz.isAgg152
 z182 := Tryz.sizeOf152
 v182 := Tryz.zeroValue152
 t183 := Tryz.underlying153
 a183 := Tryz.isAgg153
 z183 := Tryz.sizeOf153
 v183 := Tryz.zeroValue153
 t218 := Tryz.underlying177
 a218 := Tryz.isAgg177
 z218 := Tryz.sizeOf177
 v218 := Tryz.zeroValue177
 t222 := Tryz.underlying181
 a222 := Tryz.isAgg181
 z222 := Tryz.sizeOf181
 v222 := Tryz.zeroValue181
 t228 := Tryz.underlying189
 a228 := Tryz.isAgg189
 z228 := Tryz.sizeOf189
 v228 := Tryz.zeroValue189
 t229 := Tryz.underlying73
 a229 := Tryz.isAgg73
 z229 := Tryz.sizeOf73
 v229 := Tryz.zeroValue73 }
open Go.RowKit Go.Sort Go.Lib in
theorem Tryz.slices_Sort_int (blk off cap : Nat) (zs : List Int) (w : World) (hH : Holds (Value.int .i64) w blk off zs.toArray) (hblk : blk < w.heap.size) (hsz : zs.length < 4611686018427387904) :
  Calls Tryz.prog 56 #[.slice (some ⟨blk, off, none⟩) zs.length cap] w fun e w' => e = .returned (.tuple #[]) ∧ ∃ n os, w' = grow (putRow (Value.int .i64) (Sort.ahead w n) blk off (zs.mergeSort fun x y => decide (x ≤ y)).toArray) os := Any.slices_Sort_int Tryz.lays189 blk off cap zs w hH hblk hsz
open Go.RowKit Go.Sort Go.Lib in
theorem Tryz.slices_Sort_int_none (p : Option Addr) (cap : Nat) (w : World) :
  Calls Tryz.prog 56 #[.slice p 0 cap] w fun e w' => e = .returned (.tuple #[]) ∧ w' = w := Any.slices_Sort_int_none Tryz.lays189 p cap w
def Tryz.sortL_ren : Go.Shelf.Ren := ⟨fun | 6 => 57 | 15 => 89 | 14 => 90 | 28 => 118 | 29 => 119 | 20 => 120 | 21 => 121 | 22 => 122 | 23 => 123 | 24 => 124 | 25 => 125 | 26 => 126 | 27 => 127 | 46 => 141 | 47 => 137 | 48 => 138 | 49 => 142 | 50 => 143 | 57 => 149 | n => n, fun | 22 => 46 | 24 => 27 | 25 => 99 | 3 => 3 | 39 => 139 | 0 => 0 | 53 => 159 | 55 => 161 | 4 => 4 | 46 => 153 | 45 => 152 | 50 => 89 | 5 => 5 | 9 => 9 | 66 => 177 | 70 => 181 | 76 => 189 | 77 => 73 | n => n, fun | n => n⟩
theorem Tryz.sortL : Go.Proofs.SlLaysF.n6 Tryz.prog Tryz.sortL_ren := {
 mixed := by kernel_rfl
 f6 := ⟨Tryz.f57.name, by decide, Tryz.func57.trans (congrArg some (by kernel_rfl))⟩
 f14 := ⟨Tryz.f90.name, by decide, Tryz.func90.trans (congrArg some (by kernel_rfl))⟩
 f15 := Tryz.func89.trans (congrArg some (by kernel_rfl))
 f20 := ⟨Tryz.f120.name, by decide, Tryz.func120.trans (congrArg some (by kernel_rfl))⟩
 f21 := ⟨Tryz.f121.name, by decide, Tryz.func121.trans (congrArg some (by kernel_rfl))⟩
 f22 := ⟨Tryz.f122.name, by decide, Tryz.func122.trans (congrArg some (by kernel_rfl))⟩
 f23 := ⟨Tryz.f123.name, by decide, Tryz.func123.trans (congrArg some (by kernel_rfl))⟩
 f24 := ⟨Tryz.f124.name, by decide, Tryz.func124.trans (congrArg some (by kernel_rfl))⟩
 f25 := ⟨Tryz.f125.name, by decide, Tryz.func125.trans (congrArg some (by kernel_rfl))⟩
 f26 := ⟨Tryz.f126.name, by decide, Tryz.func126.trans (congrArg some (by kernel_rfl))⟩
 f27 := ⟨Tryz.f127.name, by decide, Tryz.func127.trans (congrArg some (by kernel_rfl))⟩
 f28 := Tryz.func118.trans (congrArg some (by kernel_rfl))
 f29 := Tryz.func119.trans (congrArg some (by kernel_rfl))
 f46 := ⟨Tryz.f141.name, by decide, Tryz.func141.trans (congrArg some (by kernel_rfl))⟩
 f47 := Tryz.func137.trans (congrArg some (by kernel_rfl))
 f48 := Tryz.func138.trans (congrArg some (by kernel_rfl))
 f49 := ⟨Tryz.f142.name, by decide, Tryz.func142.trans (congrArg some (by kernel_rfl))⟩
 f50 := ⟨Tryz.f143.name, by decide, Tryz.func143.trans (congrArg some (by kernel_rfl))⟩
 f57 := ⟨Tryz.f149.name, by decide, Tryz.func149.trans (congrArg some (by kernel_rfl))⟩
 t0 := Tryz.underlying0
 a0 := Tryz.isAgg0
 z0 := Tryz.sizeOf0
 v0 := Tryz.zeroValue0
 t3 := Tryz.underlying3
 a3 := Tryz.isAgg3
 z3 := Tryz.sizeOf3
 v3 := Tryz.zeroValue3
 t4 := Tryz.underlying4
 a4 := Tryz.isAgg4
 z4 := Tryz.sizeOf4
 v4 := Tryz.zeroValue4
 t5 := Tryz.underlying5
 a5 := Tryz.isAgg5
 z5 := Tryz.sizeOf5
 v5 := Tryz.zeroValue5
 t9 := Tryz.underlying9
 a9 := Tryz.isAgg9
 z9 := Tryz.sizeOf9
 v9 := Tryz.zeroValue9
 t22 := Tryz.underlying46
 a22 := Tryz.isAgg46
 z22 := Tryz.sizeOf46
 v22 := Tryz.zeroValue46
 a24 := Tryz.isAgg27
 z24 := Tryz.sizeOf27
 t25 := Tryz.underlying99
 a25 := Tryz.isAgg99
 z25 := Tryz.sizeOf99
 v25 := Tryz.zeroValue99
 t39 := Tryz.underlying139
 a39 := Tryz.isAgg139
 z39 := Tryz.sizeOf139
 v39 := Tryz.zeroValue139
 t45 := Tryz.underlying152
 a45 := Tryz.isAgg152
 z45 := Tryz.sizeOf152
 v45 := Tryz.zeroValue152
 t46 := Tryz.underlying153
 a46 := Tryz.isAgg153
 z46 := Tryz.sizeOf153
 v46 := Tryz.zeroValue153
 t50 := Tryz.underlying89
 a50 := Tryz.isAgg89
 z50 := Tryz.sizeOf89
 v50 := Tryz.zeroValue89
 t53 := Tryz.underlying159
 a53 := Tryz.isAgg159
 z53 := Tryz.sizeOf159
 v53 := Tryz.zeroValue159
 t55 := Tryz.underlying161
 a55 := Tryz.isAgg161
 z55 := Tryz.sizeOf161
 v55 := Tryz.zeroValue161
 t66 := Tryz.underlying177
 a66 := Tryz.isAgg177
 z66 := Tryz.sizeOf177
 v66 := Tryz.zeroValue177
 t70 := Tryz.underlying181
 a70 := Tryz.isAgg181
 z70 := Tryz.sizeOf181
 v70 := Tryz.zeroValue181
 t76 := Tryz.underlying189
 a76 := Tryz.isAgg189
 z76 := Tryz.sizeOf189
 v76 := Tryz.zeroValue189
 t77 := Tryz.underlying73
 a77 := Tryz.isAgg73
 z77 := Tryz.sizeOf73
 v77 := Tryz.zeroValue73 }
end Go.Proofs

namespace Go.Proofs.YtfbapajcheammaaGreatDoor
open Go Go.RowKit Go.Sort
section
variable {α β : Type} {r : Rep α} {s : Sig} {t : Nat} {T : TypeId} {a : Option Addr} {cap : Nat} {xs ys : List α}
theorem put_block {enc : β → Value} [Inhabited β] {w : World} {b off n : Nat} {d : Array β} {os : Array Obj} {cur : Array Value} {fr : Nat × Nat} (h : w.heap[b]? = some (.cells cur T fr)) : (grow (putRow enc (Sort.ahead w n) b off d) os).heap[b]? = some (.cells (putCells enc off d cur) T fr) := by
 have hb : b < w.heap.size := (Array.getElem?_eq_some_iff.1 h).1
 show ((w.heap.modify b (onCells (putCells enc off d))) ++ os)[b]? = _
 rw [Array.getElem?_append_left (by simpa using hb), Array.getElem?_modify, if_pos rfl, h]
 rfl
theorem put_other {enc : β → Value} [Inhabited β] {w : World} {b b' off n : Nat} {d : Array β} {os : Array Obj} (hb : b' < w.heap.size) (hne : b' ≠ b) : (grow (putRow enc (Sort.ahead w n) b off d) os).heap[b']? = w.heap[b']? := by
 show ((w.heap.modify b (onCells (putCells enc off d))) ++ os)[b']? = _
 rw [Array.getElem?_append_left (by simpa using hb), Array.getElem?_modify, if_neg (Ne.symm hne)]
theorem RowAt.put {b off : Nat} {cur : Array Value} {vs : List Value} (h : RowAt r s t T b off cap cur vs xs) (h1 : r.sz = 1) (ht : 0 < t) {enc : β → Value} [Inhabited β] {d : Array β} (hd : d.size = xs.length) (hy : ys.length = xs.length) (hr : ∀ j, j < d.size → ∀ h2 : j < ys.length, r.rd s [enc d[j]!] ys[j]) {w' : World} (hw : ∃ n os, w' = grow (putRow enc (Sort.ahead s.w n) b off d) os) :
  ∃ s', w' = s'.w ∧ Mv (One t) s s' ∧ RowT r s' t T (some ⟨b, off, none⟩) cap ys := by
 obtain ⟨n, os, rfl⟩ := hw
 have hb : b < s.w.heap.size := (Array.getElem?_eq_some_iff.1 h.heap).1
 refine ⟨⟨_, fun b => if b < s.w.heap.size then s.tag b else 0⟩, rfl, ⟨rfl, rfl, rfl, ?_, fun b' hb' hn => ⟨put_other hb' fun e => hn (by rw [e]; exact h.tag), if_pos hb'⟩⟩, ?_⟩
 ·show _ ≤ ((s.w.heap.modify b _) ++ os).size
  simp
 ·have hm : Mv (One t) s ⟨grow (putRow enc (Sort.ahead s.w n) b off d) os, fun b => if b < s.w.heap.size then s.tag b else 0⟩ := ⟨rfl, rfl, rfl, (by show _ ≤ ((s.w.heap.modify b _) ++ os).size; simp), fun b' hb' hn => ⟨put_other hb' fun e => hn (by rw [e]; exact h.tag), if_pos hb'⟩⟩
  have hle := hm.le (by show ¬ 0 = t; omega)
  have hcap := h.cap
  have hcs : ((putCells enc off d cur).toList.drop off).take (ys.length * 1) = (d.toList.map enc) := by
   rw [Nat.mul_one]
   apply List.ext_getElem?
   intro j
   rw [List.getElem?_take, List.getElem?_drop, List.getElem?_map]
   by_cases hj : j < ys.length
   ·rw [if_pos hj, Array.getElem?_toList, putCells, Array.getElem?_mapIdx, Array.getElem?_eq_getElem (by omega), Option.map_some, if_pos ⟨by omega, by omega⟩, Nat.add_sub_cancel_left, Array.getElem?_toList, Array.getElem?_eq_getElem (by omega), Option.map_some, getElem!_pos _ _ (by omega)]
   ·rw [if_neg hj, Array.getElem?_toList, Array.getElem?_eq_none (by omega)]; rfl
  refine ⟨d.toList.map enc, ⟨by rw [h1, Nat.mul_one, List.length_map, Array.length_toList]; omega, .inr ⟨b, off, cap, putCells enc off d cur, rfl, ⟨put_block h.heap, ?_, Nat.zero_le _⟩, by omega, hcap.2.1, ?_, by rw [h1]; exact hcs⟩⟩, Cells.of h1 (by simp; omega) fun j hj hj2 => ?_⟩
  ·show (if b < s.w.heap.size then s.tag b else 0) = t
   rw [if_pos hb]; exact h.tag
  ·rw [h1, Nat.mul_one, putCells, Array.size_mapIdx]; exact hcap.2.2
  ·have hjd : j < d.size := by simpa using hj
   have := hr j hjd hj2
   rw [getElem!_pos d j hjd] at this
   rw [List.getElem_map, Array.getElem_toList]
   exact r.mono hle this
theorem RowAt.holds {b off : Nat} {cur : Array Value} {vs : List Value} (h : RowAt r s t T b off cap cur vs xs) {enc : β → Value} [Inhabited β] {d : Array β} (hd : d.size = vs.length) (he : ∀ j (h : j < vs.length), enc d[j]! = vs[j]) : Holds enc s.w b off d := fun j hj => by
 have hc := h.cell j (by omega)
 refine ⟨?_, ?_⟩
 ·unfold World.cell?
  rw [h.heap]
  show cur[off + j]? = _
  rw [hc, he j (by omega)]
 ·unfold World.frozen?
  rw [h.heap]
  show (decide (0 ≤ off + j) && decide (off + j < 0)) = false
  simp
end
def m_slices_Sort_int (p0 : List Int) : Option (List Int) := if p0.length ≤ 4294967296 then some (p0.mergeSort fun x y => decide (x ≤ y)) else none
theorem m_slices_Sort_int_c {s : Sig} {p0 : List Int} {t0 : Nat} {a1 : Option Addr} {c1 : Nat} {r : List Int} (zt0 : 0 < t0) (h1 : RowT (rK .i64) s t0 3 a1 c1 p0) (hm : m_slices_Sort_int p0 = some r) :
  Calls Tryz.prog 56 #[.slice a1 p0.length c1] s.w (RetS (One t0) s fun v s' => v = .tuple #[] ∧ RowT (rK .i64) s' t0 3 a1 c1 r) := by
 obtain ⟨hl, rfl⟩ : p0.length ≤ 4294967296 ∧ p0.mergeSort (fun x y => decide (x ≤ y)) = r := by
  unfold m_slices_Sort_int at hm
  split at hm
  ·exact ⟨by assumption, Option.some.inj hm⟩
  ·cases hm
 rcases h1.seen rfl with ⟨rfl, rfl, rfl⟩ | ⟨b, off, cur, vs, rfl, h⟩
 ·refine (Tryz.slices_Sort_int_none none 0 s.w).mono ?_
  rintro e w' ⟨rfl, rfl⟩
  exact ⟨_, s, rfl, rfl, Mv.refl _ _, rfl, by simpa using RowT.nil⟩
 ·have hv : ∀ j (h2 : j < vs.length) (h3 : j < p0.length), vs[j] = .int .i64 p0[j] := fun j h2 h3 => by
   have := h.rd j h2 h3
   exact List.head_eq_of_cons_eq this
  have hlen := h.len
  have hb : b < s.w.heap.size := (Array.getElem?_eq_some_iff.1 h.heap).1
  refine (Tryz.slices_Sort_int b off c1 p0 s.w (h.holds (by simp [hlen]) fun j hj => ?_) hb (by omega)).mono ?_
  ·rw [hv j hj (by omega), getElem!_pos _ _ (by simp; omega)]
   simp
  ·rintro e w' ⟨rfl, hw⟩
   obtain ⟨s', hw', hm, hr⟩ := h.put rfl zt0 (ys := p0.mergeSort fun x y => decide (x ≤ y)) (by simp) (by simp) (fun j hj h2 => by
    have e := getElem!_pos (p0.mergeSort fun x y => decide (x ≤ y)).toArray j hj
    rw [e]
    show [_] = [_]
    simp) hw
   exact ⟨_, s', hw', rfl, hm, rfl, hr⟩
set_option maxHeartbeats 2000000 in
/-- The comparison of two groups by their first elements. -/
theorem first_cmp (b1 o1 n1 c1 b2 o2 n2 c2 : Nat) (x y : Int) (w : World) (h1 : w.cell? ⟨b1, o1, none⟩ = some (.int .i64 x)) (h2 : w.cell? ⟨b2, o2, none⟩ = some (.int .i64 y)) (l1 : 0 < n1) (l2 : 0 < n2) (hx : 0 ≤ x ∧ x < 4294967296) (hy : 0 ≤ y ∧ y < 4294967296) :
  Calls Tryz.prog 58 #[.slice (some ⟨b1, o1, none⟩) n1 c1, .slice (some ⟨b2, o2, none⟩) n2 c2] w fun e w' => e = .returned (.int .i64 (x - y)) ∧ ∃ q, w' = w.drewN q := by
 go_enter Tryz.func58, Tryz.ntmps58
 go_wp2_with fail
 go_region
 go_wp2_with fail
 go_ret
 exact ⟨rfl, 1, rfl⟩
def hd0 (l : List Int) : Int := l.headD 0
theorem hd0_get : ∀ {l : List Int} (h : 0 < l.length), l[0] = hd0 l
 | _ :: _, _ => rfl
def m_slices_SortFunc_int (p0 : List (List Int)) : Option (List (List Int)) :=
 if (∀ l ∈ p0, l ≠ [] ∧ 0 ≤ hd0 l ∧ hd0 l < 4294967296) ∧ (p0.map hd0).Nodup ∧ p0.length ≤ 4294967296 then some (((List.finRange p0.length).mergeSort fun x y => !decide (hd0 (p0.get y) - hd0 (p0.get x) < 0)).map p0.get) else none
theorem m_slices_SortFunc_int_c {s : Sig} {p0 : List (List Int)} {t0 : Nat} {a1 : Option Addr} {c1 : Nat} {r : List (List Int)} (zt0 : 0 < t0) (h1 : RowT (rL (rK .i64)) s t0 27 a1 c1 p0) (hm : m_slices_SortFunc_int p0 = some r) :
  Calls Tryz.prog 57 #[.slice a1 p0.length c1, .func (.func 58) #[] #[]] s.w (RetS (One t0) s fun v s' => v = .tuple #[] ∧ RowT (rL (rK .i64)) s' t0 27 a1 c1 r) := by
 obtain ⟨⟨hne, hnd, hl⟩, rfl⟩ : ((∀ l ∈ p0, l ≠ [] ∧ 0 ≤ hd0 l ∧ hd0 l < 4294967296) ∧ (p0.map hd0).Nodup ∧ p0.length ≤ 4294967296) ∧ ((List.finRange p0.length).mergeSort fun x y => !decide (hd0 (p0.get y) - hd0 (p0.get x) < 0)).map p0.get = r := by
  unfold m_slices_SortFunc_int at hm
  split at hm
  ·exact ⟨by assumption, Option.some.inj hm⟩
  ·cases hm
 have hnone : ∀ (p : Option Addr) (cap : Nat), Calls Tryz.prog 57 #[.slice p 0 cap, .func (.func 58) #[] #[]] s.w fun e w' => e = .returned (.tuple #[]) ∧ w' = s.w := fun p cap => AnyF.slices_SortFunc_none (P := Tryz.prog) (ρ := Tryz.sortL_ren) { Tryz.sortL with } p cap (.func (.func 58) #[] #[]) s.w
 by_cases h0 : p0 = []
 ·subst h0
  refine (hnone a1 c1).mono ?_
  rintro e w' ⟨rfl, rfl⟩
  exact ⟨_, s, rfl, rfl, Mv.refl _ _, rfl, by simpa using h1⟩
 rcases h1.seen rfl with ⟨rfl, rfl, rfl⟩ | ⟨b, off, cur, vs, rfl, h⟩
 ·exact absurd rfl h0
 have hlen := h.len
 have hb : b < s.w.heap.size := (Array.getElem?_eq_some_iff.1 h.heap).1
 have hpos : 0 < p0.length := List.length_pos_iff.2 h0
 haveI : Inhabited (Fin p0.length) := ⟨⟨0, hpos⟩⟩
 have hin : ∀ i : Fin p0.length, p0.get i ∈ p0 := fun i => List.get_mem _ _
 -- what lies in a place of the row
 have hel : ∀ i : Fin p0.length, ∃ bi oi ci, vs[i.1]'(by omega) = .slice (some ⟨bi, oi, none⟩) (p0.get i).length ci ∧ 0 < (p0.get i).length ∧ ∀ W : World, (∀ b', b' < s.w.heap.size → b' ≠ b → W.heap[b']? = s.w.heap[b']?) → W.cell? ⟨bi, oi, none⟩ = some (.int .i64 (hd0 (p0.get i))) := fun i => by
  obtain ⟨a, ci, e, hrd⟩ := h.rd i.1 (by omega) i.2
  obtain ⟨hn, h2, h3⟩ := hne _ (hin i)
  have hp : 0 < (p0.get i).length := List.length_pos_iff.2 hn
  obtain ⟨bi, oi, c, ea, hmem, hc⟩ := hrd.at 0 hp
  have hc2 : c = [.int .i64 (hd0 (p0.get i))] := by
   have e2 : (p0.get i)[0] = hd0 (p0.get i) := hd0_get hp
   have : c = [.int .i64 (p0.get i)[0]] := hc
   rw [this, e2]
  subst ea hc2
  have hcell := hmem.2 0 (by simp)
  have ht := hmem.1 (by simp)
  refine ⟨bi, oi, ci, List.head_eq_of_cons_eq e, hp, fun W hW => ?_⟩
  have hcell : s.w.cell? ⟨bi, oi, none⟩ = some (.int .i64 (hd0 (p0.get i))) := by simpa using hcell
  have hlt := World.block_lt_of_cell? _ _ hcell
  rw [← hcell]
  exact World.cell?_of_block (w := s.w) (a := ⟨bi, oi, none⟩) (hW bi hlt fun e => by rw [e, h.tag] at ht; omega)
 obtain ⟨enc, henc⟩ : ∃ enc : Fin p0.length → Value, enc = fun i => vs[i.1]'(by omega) := ⟨_, rfl⟩
 obtain ⟨cf, hcf⟩ : ∃ cf : Fin p0.length → Fin p0.length → Int, cf = fun i j => hd0 (p0.get i) - hd0 (p0.get j) := ⟨_, rfl⟩
 have hlt : ∀ i j, Go.Proofs.ltOf cf i j = decide (hd0 (p0.get i) - hd0 (p0.get j) < 0) := fun i j => by rw [hcf]; rfl
 have hinj : ∀ i j : Fin p0.length, hd0 (p0.get i) = hd0 (p0.get j) → i = j := fun i j e => by
  have hp := List.pairwise_iff_getElem.1 hnd
  refine Fin.ext ?_
  rcases Nat.lt_trichotomy i.1 j.1 with g | g | g
  ·exact absurd (by simpa using e) (hp i.1 j.1 (by simp) (by simp) g)
  ·exact g
  ·exact absurd (by simpa using e.symm) (hp j.1 i.1 (by simp) (by simp) g)
 have hO : SWO (Go.Proofs.ltOf cf) := ⟨fun i => by rw [hlt]; simp, fun i j k g1 g2 => by rw [hlt] at *; simp at *; omega, fun i j k g1 g2 => by rw [hlt] at *; simp at *; omega⟩
 have hT : ∀ i j, Go.Proofs.ltOf cf i j = false → Go.Proofs.ltOf cf j i = false → i = j := fun i j g1 g2 => hinj i j (by rw [hlt] at *; simp at *; omega)
 have hcmp : CmpReads Tryz.prog 58 #[] enc cf b off p0.length s.w := fun m os dk hdk i j => by
  obtain ⟨bi, oi, ci, ei, li, gi⟩ := hel i
  obtain ⟨bj, oj, cj, ej, lj, gj⟩ := hel j
  have hW : ∀ b', b' < s.w.heap.size → b' ≠ b → (sortWorld enc s.w b off m dk os).heap[b']? = s.w.heap[b']? := fun b' h1 h2 => put_other h1 h2
  have hci := hne _ (hin i)
  have hcj := hne _ (hin j)
  have hw : hd0 (p0.get i) - hd0 (p0.get j) = cf i j := by rw [hcf]
  have hq := first_cmp bi oi _ ci bj oj _ cj _ _ _ (gi _ hW) (gj _ hW) li lj hci.2 hcj.2
  rw [hw] at hq
  rw [henc]
  dsimp only
  rw [ei, ej]
  rw [henc] at hq
  exact hq
 have eg : ∀ args w, (callFunc 58 args).run Tryz.prog w = .ok (.enter 58 args) w := enters_of Tryz.func58 (by kernel_rfl) rfl
 have hd : ∀ j (g : j < vs.length), enc ((List.finRange p0.length).toArray[j]!) = vs[j] := fun j g => by
  have e := getElem!_pos (List.finRange p0.length).toArray j (by simp; omega)
  rw [e, henc]
  simp
 have hS := Any.slices_SortFunc_total Tryz.sortL enc (fun i => by obtain ⟨bi, oi, ci, ei, _⟩ := hel i; rw [henc]; dsimp only; rw [ei]; rfl) cf hO 58 #[] b off c1 (List.finRange p0.length).toArray s.w eg (by have := hcmp.lays; simpa using this) (h.holds (by simp [hlen]) hd) hb (by simp; omega) hT
 have hsz : (List.finRange p0.length).toArray.size = p0.length := by simp
 rw [hsz] at hS
 have hS : Calls Tryz.prog 57 #[.slice (some ⟨b, off, none⟩) p0.length c1, .func (.func 58) #[] #[]] s.w _ := hS
 refine hS.mono ?_
 rintro e w' ⟨rfl, hw⟩
 have hfun : (fun x y : Fin p0.length => !(Go.Proofs.ltOf cf) y x) = fun x y => !decide (hd0 (p0.get y) - hd0 (p0.get x) < 0) := by funext x y; rw [hlt]
 rw [hfun] at hw
 obtain ⟨s', hw', hm, hr⟩ := h.put rfl zt0 (ys := ((List.finRange p0.length).mergeSort fun x y => !decide (hd0 (p0.get y) - hd0 (p0.get x) < 0)).map p0.get) (d := ((List.finRange p0.length).mergeSort fun x y => !decide (hd0 (p0.get y) - hd0 (p0.get x) < 0)).toArray) (enc := enc) (by simp) (by simp) (fun j hj h2 => by
  have e := getElem!_pos ((List.finRange p0.length).mergeSort fun x y => !decide (hd0 (p0.get y) - hd0 (p0.get x) < 0)).toArray j hj
  rw [e, List.getElem_map, henc]
  exact h.rd _ _ _) (by obtain ⟨n, os, hw⟩ := hw; exact ⟨n, os, hw⟩)
 have hrl : (((List.finRange p0.length).mergeSort fun x y => !decide (hd0 (p0.get y) - hd0 (p0.get x) < 0)).map p0.get).length = p0.length := by simp
 exact ⟨_, s', hw', rfl, hm, rfl, hr⟩
end Go.Proofs.YtfbapajcheammaaGreatDoor

namespace Go.Proofs.YtfbapajcheammaaGreatDoor
open Go Go.RowKit
theorem ag30 : Ag Tryz.prog 30 4 := Ag.mk' Tryz.underlying30 rfl (by kernel_rfl)
theorem bs27 : Bs Tryz.prog 27 3 1 [.int .i64 0] := Bs.mk' Tryz.underlying27 (by kernel_rfl) (by kernel_rfl) rfl
theorem bs28 : Bs Tryz.prog 28 62 3 [.int .i64 0, .int .i64 0, .int .i64 0] := Bs.mk' Tryz.underlying28 (by kernel_rfl) (by kernel_rfl) rfl
theorem el3 : El Tryz.prog 3 1 8 := El.mk' (z := .int .i64 0) (by kernel_rfl) (by kernel_rfl) (by kernel_rfl) rfl
theorem el62 : El Tryz.prog 62 3 24 := El.mk' (z := .agg #[.int .i64 0, .int .i64 0, .int .i64 0]) (by kernel_rfl) (by kernel_rfl) (by kernel_rfl) rfl
theorem pl30 : Pl Tryz.prog 30 [(0, 1), (1, 1), (2, 1), (3, 1)] [.slice none 0 0, .int .i64 0, .slice none 0 0, .slice none 0 0] := Pl.str Tryz.underlying30 (by kernel_rfl) (by kernel_rfl)
theorem pl62 : Pl Tryz.prog 62 [(0, 1), (1, 1), (2, 1)] [.int .i64 0, .int .i64 0, .int .i64 0] := Pl.str Tryz.underlying62 (by kernel_rfl) (by kernel_rfl)
theorem zz30 : (Tryz.prog.info? 30).bind (·.zero) = some (.agg #[.slice none 0 0, .int .i64 0, .slice none 0 0, .slice none 0 0]) := by kernel_rfl
noncomputable def m_overseerlaw24_example : Option AutT :=
 some (([0, 1, 2] : List Int), 5, ([1] : List Int), ([(0, 0, 1), (0, 1, 2), (0, 2, 4), (2, 0, 3), (3, 0, 2)] : List (Int × Int × Int)))
theorem m_overseerlaw24_example_c {s : Sig} {r : AutT} (hm : m_overseerlaw24_example = some r) :
    Calls Tryz.prog 42 #[] s.w (RetS No s fun v s' => ∃ (a1 : Option Addr) (c1 : Nat) (a2 : Option Addr) (c2 : Nat) (a3 : Option Addr) (c3 : Nat), v = .agg #[.slice a1 r.1.length c1, .int .i64 r.2.1, .slice a2 r.2.2.1.length c2, .slice a3 r.2.2.2.length c3] ∧ RdL qI s' a1 c1 r.1 ∧ RdL qI s' a2 c2 r.2.2.1 ∧ RdL qT s' a3 c3 r.2.2.2) := by
 unfold m_overseerlaw24_example at hm
 obtain ⟨N, hN, hNb⟩ := s.fresh
 have m0 : Mv (Up N No) s s := Mv.refl _ _
 refine E.entry Tryz.func42 R Tryz.ntmps42 R R (ER (L.al (N + 0) zz30 R Y R fun b4 s5 m6 bx4 => ?_))
 refine LN (ER (L.bsE (k := 3) (cs := [.int .i64 0, .int .i64 1, .int .i64 2]) 0 bs27 (nb R) Y R R R R fun b7 s8 m9 bx7 => ?_))
 have h7 := Bx.rdL (r := qI) (xs := ([0, 1, 2] : List Int)) bx7 ⟨[.int .i64 0], _, R, R, ⟨[.int .i64 1], _, R, R, ⟨[.int .i64 2], _, R, R, R⟩⟩⟩ (nb R)
 refine L.bsE (k := 1) (cs := [.int .i64 1]) 0 bs27 (nb R) Y R R R R fun b10 s11 m12 bx10 => ?_
 have h10 := Bx.rdL (r := qI) (xs := ([1] : List Int)) bx10 ⟨[.int .i64 1], _, R, R, R⟩ (nb R)
 refine L.bu (cs := [.int .i64 0, .int .i64 0, .int .i64 1]) pl62 Y R R R (L.bu (cs := [.int .i64 0, .int .i64 1, .int .i64 2]) pl62 Y R R R (L.bu (cs := [.int .i64 0, .int .i64 2, .int .i64 4]) pl62 Y R R R (L.bu (cs := [.int .i64 2, .int .i64 0, .int .i64 3]) pl62 Y R R R (L.bu (cs := [.int .i64 3, .int .i64 0, .int .i64 2]) pl62 Y R R R (L.bsE (k := 5) (cs := [.int .i64 0, .int .i64 0, .int .i64 1, .int .i64 0, .int .i64 1, .int .i64 2, .int .i64 0, .int .i64 2, .int .i64 4, .int .i64 2, .int .i64 0, .int .i64 3, .int .i64 3, .int .i64 0, .int .i64 2]) 0 bs28 (nb R) Y R R R R fun b13 s14 m15 bx13 => ?_)))))
 replace bx4 := ((bx4.mv m9 no_No).mv m12 no_No).mv m15 no_No
 have h13 := Bx.rdL (r := qT) (xs := ([(0, 0, 1), (0, 1, 2), (0, 2, 4), (2, 0, 3), (3, 0, 2)] : List (Int × Int × Int))) bx13 ⟨[.int .i64 0, .int .i64 0, .int .i64 1], _, R, ⟨[.int .i64 0], [.int .i64 0, .int .i64 1], R, R, ⟨[.int .i64 0], [.int .i64 1], R, R, R⟩⟩, ⟨[.int .i64 0, .int .i64 1, .int .i64 2], _, R, ⟨[.int .i64 0], [.int .i64 1, .int .i64 2], R, R, ⟨[.int .i64 1], [.int .i64 2], R, R, R⟩⟩, ⟨[.int .i64 0, .int .i64 2, .int .i64 4], _, R, ⟨[.int .i64 0], [.int .i64 2, .int .i64 4], R, R, ⟨[.int .i64 2], [.int .i64 4], R, R, R⟩⟩, ⟨[.int .i64 2, .int .i64 0, .int .i64 3], _, R, ⟨[.int .i64 2], [.int .i64 0, .int .i64 3], R, R, ⟨[.int .i64 0], [.int .i64 3], R, R, R⟩⟩, ⟨[.int .i64 3, .int .i64 0, .int .i64 2], _, R, ⟨[.int .i64 3], [.int .i64 0, .int .i64 2], R, R, ⟨[.int .i64 0], [.int .i64 2], R, R, R⟩⟩, R⟩⟩⟩⟩⟩ (nb R)
 refine L.bu (cs := [.slice (some ⟨b7, 0, none⟩) ([0, 1, 2] : List Int).length (([0, 1, 2] : List Int).length), .int .i64 5, .slice (some ⟨b10, 0, none⟩) ([1] : List Int).length (([1] : List Int).length), .slice (some ⟨b13, 0, none⟩) ([(0, 0, 1), (0, 1, 2), (0, 2, 4), (2, 0, 3), (3, 0, 2)] : List (Int × Int × Int)).length (([(0, 0, 1), (0, 1, 2), (0, 2, 4), (2, 0, 3), (3, 0, 2)] : List (Int × Int × Int)).length)]) pl30 Y R R R (L.st (c := [.slice (some ⟨b7, 0, none⟩) ([0, 1, 2] : List Int).length (([0, 1, 2] : List Int).length), .int .i64 5, .slice (some ⟨b10, 0, none⟩) ([1] : List Int).length (([1] : List Int).length), .slice (some ⟨b13, 0, none⟩) ([(0, 0, 1), (0, 1, 2), (0, 2, 4), (2, 0, 3), (3, 0, 2)] : List (Int × Int × Int)).length (([(0, 0, 1), (0, 1, 2), (0, 2, 4), (2, 0, 3), (3, 0, 2)] : List (Int × Int × Int)).length)]) (cs' := #[.slice (some ⟨b7, 0, none⟩) ([0, 1, 2] : List Int).length (([0, 1, 2] : List Int).length), .int .i64 5, .slice (some ⟨b10, 0, none⟩) ([1] : List Int).length (([1] : List Int).length), .slice (some ⟨b13, 0, none⟩) ([(0, 0, 1), (0, 1, 2), (0, 2, 4), (2, 0, 3), (3, 0, 2)] : List (Int × Int × Int)).length (([(0, 0, 1), (0, 1, 2), (0, 2, 4), (2, 0, 3), (3, 0, 2)] : List (Int × Int × Int)).length)]) bx4 ag30.sz Y R R R R R (nb R) R fun s16 m17 bx4 => ?_)
 replace m0 := ((((m0.trans m6.no).trans m9.no).trans m12.no).trans m15.no).trans (m17.one up)
 replace h7 := ((h7.mono m12.z).mono m15.z).mono (m17.le (tg0 hN))
 replace h10 := (h10.mono m15.z).mono (m17.le (tg0 hN))
 replace h13 := h13.mono (m17.le (tg0 hN))
 refine LN (E.ret ?_)
 obtain rfl := oi hm
 exact X.rt (.inl R) Tryz.results42 (Rs.cell R bx4 ag30 R Rs.nil) R ⟨_, (s16).ren N (fun _ => 0), R, R, m0.ren hNb, ⟨(some ⟨b7, 0, none⟩), ([0, 1, 2] : List Int).length, (some ⟨b10, 0, none⟩), ([1] : List Int).length, (some ⟨b13, 0, none⟩), ([(0, 0, 1), (0, 1, 2), (0, 2, 4), (2, 0, 3), (3, 0, 2)] : List (Int × Int × Int)).length, R, (h7.ren hN), (h10.ren hN), (h13.ren hN)⟩⟩

theorem nag3 : NAg Tryz.prog 3 := NAg.mk' Tryz.underlying3 rfl (by kernel_rfl)
theorem sl27 : Sl Tryz.prog 27 3 1 := Sl.mk' Tryz.underlying27 (by kernel_rfl)
noncomputable def m_automaton_checkSet_l1 (p0 : List Int) (p1 : Int) (st13 : Int) : Option (Int ⊕ (Unit ⊕ Int)) :=
 if decide (st13 < (p0.length : Int)) then
  (idx p0 st13).bind fun x22 =>
  if ((decide (x22 < 0)) || (decide (x22 ≥ p1))) then
   some (.inr (.inr (2)))
  else
   (if decide (st13 > 0) then
    (idx p0 (W (st13 - 1))).bind fun x28 =>
    some (decide (x22 ≤ x28))
   else
    some false).bind fun b25 =>
   if b25 then
    some (.inr (.inr (5)))
   else
    some (.inl (W (st13 + 1)))
 else
  some (.inr (.inl ()))
noncomputable def m_automaton_checkSet (p0 : List Int) (p1 : Int) : Option Int :=
 (iter (m_automaton_checkSet_l1 p0 p1) 0).bind fun o13 =>
 match o13 with
 | .inl u16 =>
  some 0
 | .inr (u19) =>
  some u19
theorem m_automaton_checkSet_c {s : Sig} {p0 : List Int} {p1 : Int} {a1 : Option Addr} {c1 : Nat} {r : Int} (h1 : RdL qI s a1 c1 p0) (hm : m_automaton_checkSet p0 p1 = some r) :
    Calls Tryz.prog 45 #[.slice a1 p0.length c1, .int .i64 p1] s.w (RetS No s fun v s' => v = .int .i64 r) := by
 unfold m_automaton_checkSet at hm
 obtain ⟨N, hN, hNb⟩ := s.fresh
 have m0 : Mv (Up N No) s s := Mv.refl _ _
 refine E.entry Tryz.func45 R Tryz.ntmps45 R R (ER (L.as Y R R (LN (E.seq (ER (L.mv Y R R (L.len sl27 Y R R (L.mv Y R R (LN (E.block ?_))))))))))
 obtain ⟨o13, eo13, hm⟩ := bindS hm
 refine E.cut (x := .exit 0) (fun e w => ∃ (s17 : Sig) (u16 : Unit), o13 = .inl u16 ∧ Mv (Up N No) s s17 ∧ e = [] ∧ w = s17.w) ?_ ?_
 ·rintro _ _ ⟨s17, u16, rfl, m0, rfl, rfl⟩
  dsimp only at hm
  refine X.blkE (X.seqN (ER (L.as Y R R (LN (E.ret ?_)))))
  obtain rfl := oi hm
  exact X.rt (.inl R) Tryz.results45 (Rs.tmp R Rs.nil) R ⟨_, (s17).ren N (fun _ => 0), R, R, m0.ren hNb, R⟩
 intro K18
 refine E.cut (x := .ret) (fun e w => ∃ (s20 : Sig) (u19 : Int), o13 = .inr (u19) ∧ Mv (Up N No) s s20 ∧ e = [(4, .int .i64 u19)] ∧ w = s20.w) ?_ ?_
 ·rintro _ _ ⟨s20, u19, rfl, m0, rfl, rfl⟩
  dsimp only at hm
  refine X.blkR (X.seqR ?_)
  obtain rfl := oi hm
  exact X.rt (.inl R) Tryz.results45 (Rs.tmp R Rs.nil) R ⟨_, (s20).ren N (fun _ => 0), R, R, m0.ren hNb, R⟩
 intro K21
 refine E.iter (fun (st13 : Int) (e : List (Nat × Value)) (w : World) => ∃ (s15 : Sig), Mv (Up N No) s s15 ∧ RdL qI s15 a1 c1 p0 ∧ e = [(9, .int .i64 st13), (8, .int .i64 (p0.length : Int)), (7, .slice a1 p0.length c1), (0, .slice a1 p0.length c1), (1, .int .i64 p1)] ∧ w = s15.w) eo13 ⟨s, m0, h1, R, R⟩ (Sub.rf R) ?_
 rintro st13 res13 hm ih13 ho13 _ _ ⟨s15, m0, h1, rfl, rfl⟩
 unfold m_automaton_checkSet_l1 at hm
 refine ER (L.bi Y R R R R (LN (E.seq ?_)))
 rcases ifS hm with ⟨hc, hm⟩ | ⟨hc, hm⟩
 ·refine E.cT R hc (E.skip (X.seqN (E.seq (E.block (ER (L.mv Y R R ?_))))))
  obtain ⟨x22, ex22, hm⟩ := bindS hm
  refine L.ix (r := qI) sl27 h1 Y R R ex22 R fun b23 o23 cc23 me23 rd23 => ?_
  obtain rfl := rd23
  refine L.ld (j := 0) me23 nag3 Y R R R R (L.as Y R R (L.as Y R R (LN (E.block (ER (L.mv Y R R (L.bi Y R R R R (L.mv Y R R (L.cut 4 (fun e w => ∃ (v24 : Bool), ((decide (x22 < 0)) || (decide (x22 ≥ p1))) = v24 ∧ e = (21, .bool v24) :: [(6, .int .i64 x22), (5, .int .i64 st13), (9, .int .i64 st13), (8, .int .i64 (p0.length : Int)), (7, .slice a1 p0.length c1), (0, .slice a1 p0.length c1), (1, .int .i64 p1)] ∧ w = s15.w) ?_ ?_)))))))))
  ·rintro _ _ ⟨v24, rfl, rfl, rfl⟩
   refine L.as Y R R (L.nil (X.seqN ?_))
   rcases ifS hm with ⟨hc, hm⟩ | ⟨hc, hm⟩
   ·refine E.cT R hc (ER (L.as Y R R (LN (E.ret (X.blkR (X.blkR (X.seqR (X.seqR ?_))))))))
    have hx := ho13 _ (oi hm).symm
    exact X.sub (K21 _ _ ⟨s15, 2, hx.symm, m0, R, R⟩) (Sub.rf R)
   refine E.cF R hc (ER (L.mv Y R R (L.bi Y R R R R (L.mv Y R R ?_))))
   obtain ⟨b25, eb25, hm⟩ := bindS hm
   refine L.cut 8 (fun e w => ∃ (v26 : Bool), b25 = v26 ∧ e = (33, .bool v26) :: [(9, .int .i64 st13), (8, .int .i64 (p0.length : Int)), (7, .slice a1 p0.length c1), (0, .slice a1 p0.length c1), (1, .int .i64 p1)] ∧ w = s15.w) ?_ ?_
   ·rintro _ _ ⟨v26, rfl, rfl, rfl⟩
    refine L.as Y R R (L.nil (X.seqN ?_))
    rcases ifS hm with ⟨hc, hm⟩ | ⟨hc, hm⟩
    ·refine E.cT R hc (ER (L.as Y R R (LN (E.ret (X.blkR (X.blkR (X.seqR (X.seqR ?_))))))))
     have hx := ho13 _ (oi hm).symm
     exact X.sub (K21 _ _ ⟨s15, 5, hx.symm, m0, R, R⟩) (Sub.rf R)
    exact E.cF R hc (E.skip (X.blkN (X.blkN (X.seqN (E.reg (L.bi Y R R R R (L.mv Y R R (L.nil (X.sub (ih13 _ (oi hm).symm _ _ ⟨s15, m0, h1, R, R⟩) (Sub.rf R))))))))))
   intro J27
   rcases ifS eb25 with ⟨hc, hm⟩ | ⟨hc, hm⟩
   ·refine L.know (d := 25) R hc (L.mv (Wt.mk R R) R R (L.mv (Wt.mk R R) R R (L.mv (Wt.mk R R) R R (L.bi (Wt.mk R R) R R R R ?_))))
    obtain ⟨x28, ex28, hm⟩ := bindS hm
    refine L.ix (r := qI) sl27 h1 (Wt.mk R R) R R ex28 R fun b29 o29 cc29 me29 rd29 => ?_
    obtain rfl := rd29
    exact L.ld (j := 0) me29 nag3 (Wt.mk R R) R R R R (L.bi (Wt.mk R R) R R R R (L.pkT Y R R R R (L.sb (J27 _ _ ⟨(decide (x22 ≤ x28)), (oi hm).symm, R, R⟩) R)))
   exact L.know (d := 25) R hc (L.skip R R R R (L.skip R R R R (L.skip R R R R (L.skip R R R R (L.skip R R R R (L.skip R R R R (L.skip R R R R (L.pkF Y R R R R (L.sb (J27 _ _ ⟨false, (oi hm).symm, R, R⟩) R)))))))))
  intro J30
  rcases Bool.eq_false_or_eq_true (decide (x22 < 0)) with hc | hc
  ·exact L.know (d := 17) R hc (L.skip R R R R (L.skip R R R R (L.skip R R R R (L.pkT Y R R R R (L.sb (J30 _ _ ⟨true, (orT hc).symm, R, R⟩) R)))))
  exact L.know (d := 17) R hc (L.mv (Wt.mk R R) R R (L.mv (Wt.mk R R) R R (L.bi (Wt.mk R R) R R R R (L.pkF Y R R R R (L.sb (J30 _ _ ⟨(decide (x22 ≥ p1)), (orF hc).symm, R, R⟩) R)))))
 refine E.cF R hc (E.exit (X.seqX (X.seqX ?_)))
 have hx := ho13 _ (oi hm).symm
 exact X.sub (K18 _ _ ⟨s15, (), hx.symm, m0, R, R⟩) Sub.nil

noncomputable def m_slices_Index_int_l1 (p0 : List Int) (p1 : Int) (st6 : Int) : Option (Int ⊕ (Unit ⊕ Int)) :=
 if decide (st6 < (p0.length : Int)) then
  (idx p0 st6).bind fun x15 =>
  if (p1 == x15) then
   some (.inr (.inr (st6)))
  else
   some (.inl (W (st6 + 1)))
 else
  some (.inr (.inl ()))
noncomputable def m_slices_Index_int (p0 : List Int) (p1 : Int) : Option Int :=
 (iter (m_slices_Index_int_l1 p0 p1) 0).bind fun o6 =>
 match o6 with
 | .inl u9 =>
  some (-1)
 | .inr (u12) =>
  some u12
theorem m_slices_Index_int_c {s : Sig} {p0 : List Int} {p1 : Int} {a1 : Option Addr} {c1 : Nat} {r : Int} (h1 : RdL qI s a1 c1 p0) (hm : m_slices_Index_int p0 p1 = some r) :
    Calls Tryz.prog 79 #[.slice a1 p0.length c1, .int .i64 p1] s.w (RetS No s fun v s' => v = .int .i64 r) := by
 unfold m_slices_Index_int at hm
 obtain ⟨N, hN, hNb⟩ := s.fresh
 have m0 : Mv (Up N No) s s := Mv.refl _ _
 refine E.entry Tryz.func79 R Tryz.ntmps79 R R (ER (L.as Y R R (LN (E.seq (ER (L.mv Y R R (L.len sl27 Y R R (L.mv Y R R (LN (E.block ?_))))))))))
 obtain ⟨o6, eo6, hm⟩ := bindS hm
 refine E.cut (x := .exit 0) (fun e w => ∃ (s10 : Sig) (u9 : Unit), o6 = .inl u9 ∧ Mv (Up N No) s s10 ∧ e = [] ∧ w = s10.w) ?_ ?_
 ·rintro _ _ ⟨s10, u9, rfl, m0, rfl, rfl⟩
  dsimp only at hm
  refine X.blkE (X.seqN (ER (L.as Y R R (LN (E.ret ?_)))))
  obtain rfl := oi hm
  exact X.rt (.inl R) Tryz.results79 (Rs.tmp R Rs.nil) R ⟨_, (s10).ren N (fun _ => 0), R, R, m0.ren hNb, R⟩
 intro K11
 refine E.cut (x := .ret) (fun e w => ∃ (s13 : Sig) (u12 : Int), o6 = .inr (u12) ∧ Mv (Up N No) s s13 ∧ e = [(4, .int .i64 u12)] ∧ w = s13.w) ?_ ?_
 ·rintro _ _ ⟨s13, u12, rfl, m0, rfl, rfl⟩
  dsimp only at hm
  refine X.blkR (X.seqR ?_)
  obtain rfl := oi hm
  exact X.rt (.inl R) Tryz.results79 (Rs.tmp R Rs.nil) R ⟨_, (s13).ren N (fun _ => 0), R, R, m0.ren hNb, R⟩
 intro K14
 refine E.iter (fun (st6 : Int) (e : List (Nat × Value)) (w : World) => ∃ (s8 : Sig), Mv (Up N No) s s8 ∧ RdL qI s8 a1 c1 p0 ∧ e = [(8, .int .i64 st6), (7, .int .i64 (p0.length : Int)), (0, .slice a1 p0.length c1), (1, .int .i64 p1)] ∧ w = s8.w) eo6 ⟨s, m0, h1, R, R⟩ (Sub.rf R) ?_
 rintro st6 res6 hm ih6 ho6 _ _ ⟨s8, m0, h1, rfl, rfl⟩
 unfold m_slices_Index_int_l1 at hm
 refine ER (L.bi Y R R R R (LN (E.seq ?_)))
 rcases ifS hm with ⟨hc, hm⟩ | ⟨hc, hm⟩
 ·refine E.cT R hc (E.skip (X.seqN (E.seq (E.block (ER (L.mv Y R R (L.as Y R R (LN (ER (L.mv Y R R (L.mv Y R R (L.mv Y R R ?_))))))))))))
  obtain ⟨x15, ex15, hm⟩ := bindS hm
  refine L.ix (r := qI) sl27 h1 Y R R ex15 R fun b16 o16 cc16 me16 rd16 => ?_
  obtain rfl := rd16
  refine L.ld (j := 0) me16 nag3 Y R R R R (L.bi Y R R R R (L.nil (X.seqN ?_)))
  rcases ifS hm with ⟨hc, hm⟩ | ⟨hc, hm⟩
  ·refine E.cT R hc (ER (L.mv Y R R (L.as Y R R (LN (E.ret (X.blkR (X.seqR (X.seqR ?_))))))))
   have hx := ho6 _ (oi hm).symm
   exact X.sub (K14 _ _ ⟨s8, st6, hx.symm, m0, R, R⟩) (Sub.rf R)
  exact E.cF R hc (E.skip (X.blkN (X.seqN (E.reg (L.bi Y R R R R (L.mv Y R R (L.nil (X.sub (ih6 _ (oi hm).symm _ _ ⟨s8, m0, h1, R, R⟩) (Sub.rf R)))))))))
 refine E.cF R hc (E.exit (X.seqX (X.seqX ?_)))
 have hx := ho6 _ (oi hm).symm
 exact X.sub (K11 _ _ ⟨s8, (), hx.symm, m0, R, R⟩) Sub.nil

theorem cf79 : Cf Tryz.prog 79 := Cf.mk Tryz.func79 (by kernel_rfl) (by kernel_rfl)
noncomputable def m_slices_Contains_int (p0 : List Int) (p1 : Int) : Option Bool :=
 (m_slices_Index_int p0 p1).bind fun r2 =>
 some (decide (r2 ≥ 0))
theorem m_slices_Contains_int_c {s : Sig} {p0 : List Int} {p1 : Int} {a1 : Option Addr} {c1 : Nat} {r : Bool} (h1 : RdL qI s a1 c1 p0) (hm : m_slices_Contains_int p0 p1 = some r) :
    Calls Tryz.prog 40 #[.slice a1 p0.length c1, .int .i64 p1] s.w (RetS No s fun v s' => v = .bool r) := by
 unfold m_slices_Contains_int at hm
 obtain ⟨N, hN, hNb⟩ := s.fresh
 have m0 : Mv (Up N No) s s := Mv.refl _ _
 refine E.entry Tryz.func40 R Tryz.ntmps40 R R (ER (L.as Y R R (LN (ER (L.mv Y R R (L.mv Y R R ?_))))))
 obtain ⟨r2, er2, hm⟩ := bindS hm
 refine L.ca cf79 R R Y R (m_slices_Index_int_c (s := s) (p0 := p0) (p1 := p1) h1 er2) R ?_
 rintro _ s3 m4 rfl
 replace m0 := m0.trans m4.no
 refine L.bi Y R R R R (L.as Y R R (LN (E.ret ?_)))
 obtain rfl := oi hm
 exact X.rt (.inl R) Tryz.results40 (Rs.tmp R Rs.nil) R ⟨_, (s3).ren N (fun _ => 0), R, R, m0.ren hNb, R⟩

theorem ag62 : Ag Tryz.prog 62 3 := Ag.mk' Tryz.underlying62 rfl (by kernel_rfl)
theorem cf40 : Cf Tryz.prog 40 := Cf.mk Tryz.func40 (by kernel_rfl) (by kernel_rfl)
theorem fa30_0 : FA Tryz.prog 30 0 0 := FA.mk Tryz.underlying30 rfl rfl ⟨1, by decide, by kernel_rfl⟩
theorem fa30_1 : FA Tryz.prog 30 1 1 := FA.mk Tryz.underlying30 rfl rfl ⟨1, by decide, by kernel_rfl⟩
theorem fa30_3 : FA Tryz.prog 30 3 3 := FA.mk Tryz.underlying30 rfl rfl ⟨1, by decide, by kernel_rfl⟩
theorem fa62_0 : FA Tryz.prog 62 0 0 := FA.mk Tryz.underlying62 rfl rfl ⟨1, by decide, by kernel_rfl⟩
theorem fa62_1 : FA Tryz.prog 62 1 1 := FA.mk Tryz.underlying62 rfl rfl ⟨1, by decide, by kernel_rfl⟩
theorem fa62_2 : FA Tryz.prog 62 2 2 := FA.mk Tryz.underlying62 rfl rfl ⟨1, by decide, by kernel_rfl⟩
theorem nag27 : NAg Tryz.prog 27 := NAg.mk' Tryz.underlying27 rfl (by kernel_rfl)
theorem nag28 : NAg Tryz.prog 28 := NAg.mk' Tryz.underlying28 rfl (by kernel_rfl)
theorem sl28 : Sl Tryz.prog 28 62 3 := Sl.mk' Tryz.underlying28 (by kernel_rfl)
theorem zz62 : (Tryz.prog.info? 62).bind (·.zero) = some (.agg #[.int .i64 0, .int .i64 0, .int .i64 0]) := by kernel_rfl
noncomputable def m_automaton_checkEdges_j1 (st38 : Int) : Option (Int ⊕ (Unit ⊕ Int)) :=
 some (.inl (W (st38 + 1)))
noncomputable def m_automaton_checkEdges_l1 (p0 : AutT) (st38 : Int) : Option (Int ⊕ (Unit ⊕ Int)) :=
 if decide (st38 < (p0.2.2.2.length : Int)) then
  (idx p0.2.2.2 st38).bind fun x49 =>
  if ((((decide (x49.1 < 0)) || (decide (x49.1 ≥ p0.2.1))) || (decide (x49.2.2 < 0))) || (decide (x49.2.2 ≥ p0.2.1))) then
   some (.inr (.inr (2)))
  else
   (m_slices_Contains_int p0.1 x49.2.1).bind fun r59 =>
   if (!r59) then
    some (.inr (.inr (9)))
   else
    if (st38 == 0) then
     m_automaton_checkEdges_j1 st38
    else
     (idx p0.2.2.2 (W (st38 - 1))).bind fun x62 =>
     if ((decide (x49.1 < x62.1)) || ((x49.1 == x62.1) && (decide (x49.2.1 ≤ x62.2.1)))) then
      some (.inr (.inr (5)))
     else
      m_automaton_checkEdges_j1 st38
 else
  some (.inr (.inl ()))
noncomputable def m_automaton_checkEdges (p0 : AutT) : Option Int :=
 (iter (m_automaton_checkEdges_l1 p0) 0).bind fun o38 =>
 match o38 with
 | .inl u41 =>
  some 0
 | .inr (u44) =>
  some u44
theorem m_automaton_checkEdges_c {s : Sig} {p0 : AutT} {a1 : Option Addr} {c1 : Nat} {a2 : Option Addr} {c2 : Nat} {a3 : Option Addr} {c3 : Nat} {r : Int} (h1 : RdL qI s a1 c1 p0.1) (h2 : RdL qI s a2 c2 p0.2.2.1) (h3 : RdL qT s a3 c3 p0.2.2.2) (hm : m_automaton_checkEdges p0 = some r) :
    Calls Tryz.prog 46 #[.agg #[.slice a1 p0.1.length c1, .int .i64 p0.2.1, .slice a2 p0.2.2.1.length c2, .slice a3 p0.2.2.2.length c3]] s.w (RetS No s fun v s' => v = .int .i64 r) := by
 unfold m_automaton_checkEdges at hm
 obtain ⟨N, hN, hNb⟩ := s.fresh
 have m0 : Mv (Up N No) s s := Mv.refl _ _
 refine E.entry Tryz.func46 R Tryz.ntmps46 R R (ER (L.box (N + 0) Y R R R fun b4 s5 m6 bx4 => ?_))
 replace m0 := m0.trans m6.no
 replace h1 := h1.mono m6.z
 replace h2 := h2.mono m6.z
 replace h3 := h3.mono m6.z
 refine L.as Y R R (LN (E.seq (ER (L.fa fa30_3 Y R R (L.ld (j := 3) bx4.mem nag28 Y R R R R (L.len sl28 Y R R (L.mv Y R R (LN (E.block ?_)))))))))
 obtain ⟨o38, eo38, hm⟩ := bindS hm
 refine E.cut (x := .exit 0) (fun e w => ∃ (s42 : Sig) (u41 : Unit), o38 = .inl u41 ∧ Mv (Up N No) s s42 ∧ e = [] ∧ w = s42.w) ?_ ?_
 ·rintro _ _ ⟨s42, u41, rfl, m0, rfl, rfl⟩
  dsimp only at hm
  refine X.blkE (X.seqN (ER (L.as Y R R (LN (E.ret ?_)))))
  obtain rfl := oi hm
  exact X.rt (.inl R) Tryz.results46 (Rs.tmp R Rs.nil) R ⟨_, (s42).ren N (fun _ => 0), R, R, m0.ren hNb, R⟩
 intro K43
 refine E.cut (x := .ret) (fun e w => ∃ (s45 : Sig) (u44 : Int), o38 = .inr (u44) ∧ Mv (Up N No) s s45 ∧ e = [(2, .int .i64 u44)] ∧ w = s45.w) ?_ ?_
 ·rintro _ _ ⟨s45, u44, rfl, m0, rfl, rfl⟩
  dsimp only at hm
  refine X.blkR (X.seqR ?_)
  obtain rfl := oi hm
  exact X.rt (.inl R) Tryz.results46 (Rs.tmp R Rs.nil) R ⟨_, (s45).ren N (fun _ => 0), R, R, m0.ren hNb, R⟩
 intro K46
 refine E.iter (fun (st38 : Int) (e : List (Nat × Value)) (w : World) => ∃ (s40 : Sig), Mv (Up N No) s s40 ∧ RdL qT s40 a3 c3 p0.2.2.2 ∧ RdL qI s40 a1 c1 p0.1 ∧ RdL qI s40 a2 c2 p0.2.2.1 ∧ Bx s40 (N + 0) b4 #[.slice a1 p0.1.length c1, .int .i64 p0.2.1, .slice a2 p0.2.2.1.length c2, .slice a3 p0.2.2.2.length c3] 30 ∧ e = [(9, .int .i64 st38), (8, .int .i64 (p0.2.2.2.length : Int)), (7, .slice a3 p0.2.2.2.length c3), (1, .pointer (some ⟨b4, 0, none⟩))] ∧ w = s40.w) eo38 ⟨s5, m0, h3, h1, h2, bx4, R, R⟩ (Sub.rf R) ?_
 rintro st38 res38 hm ih38 ho38 _ _ ⟨s40, m0, h3, h1, h2, bx4, rfl, rfl⟩
 unfold m_automaton_checkEdges_l1 at hm
 refine ER (L.bi Y R R R R (LN (E.seq ?_)))
 rcases ifS hm with ⟨hc, hm⟩ | ⟨hc, hm⟩
 ·refine E.cT R hc (E.skip (X.seqN (E.seqJ (fun e w => ∃ (s47 : Sig), m_automaton_checkEdges_j1 st38 = some res38 ∧ Mv (Up N No) s s47 ∧ RdL qT s47 a3 c3 p0.2.2.2 ∧ RdL qI s47 a1 c1 p0.1 ∧ RdL qI s47 a2 c2 p0.2.2.1 ∧ Bx s47 (N + 0) b4 #[.slice a1 p0.1.length c1, .int .i64 p0.2.1, .slice a2 p0.2.2.1.length c2, .slice a3 p0.2.2.2.length c3] 30 ∧ e = [(9, .int .i64 st38), (8, .int .i64 (p0.2.2.2.length : Int)), (7, .slice a3 p0.2.2.2.length c3), (1, .pointer (some ⟨b4, 0, none⟩))] ∧ w = s47.w) ?_ ?_)))
  ·rintro _ _ ⟨s47, hm, m0, h3, h1, h2, bx4, rfl, rfl⟩
   unfold m_automaton_checkEdges_j1 at hm
   exact E.reg (L.bi Y R R R R (L.mv Y R R (L.nil (X.sub (ih38 _ (oi hm).symm _ _ ⟨s47, m0, h3, h1, h2, bx4, R, R⟩) (Sub.rf R)))))
  intro Jj48
  refine E.block (ER (L.mv Y R R ?_))
  obtain ⟨x49, ex49, hm⟩ := bindS hm
  refine L.ix (r := qT) sl28 h3 Y R R ex49 R fun b50 o50 cc50 me50 rd50 => ?_
  obtain ⟨_, _, rfl, rfl, ⟨_, _, rfl, rfl, rfl⟩⟩ := rd50
  refine L.lg (j := 0) (cs := [.int .i64 x49.1, .int .i64 x49.2.1, .int .i64 x49.2.2]) me50 ag62 Y R R R R R (L.al (N + 1) zz62 R Y R fun b51 s52 m53 bx51 => ?_)
  refine L.as Y R R (L.st (c := [.int .i64 x49.1, .int .i64 x49.2.1, .int .i64 x49.2.2]) (cs' := #[.int .i64 x49.1, .int .i64 x49.2.1, .int .i64 x49.2.2]) bx51 ag62.sz Y R R R R R (nb R) R fun s54 m55 bx51 => ?_)
  replace m0 := (m0.trans m53.no).trans (m55.one up)
  replace h3 := (h3.mono m53.z).mono (m55.le (tg0 hN))
  replace bx4 := (bx4.mv m53 no_No).mv m55 (tq R)
  replace h1 := (h1.mono m53.z).mono (m55.le (tg0 hN))
  replace h2 := (h2.mono m53.z).mono (m55.le (tg0 hN))
  refine LN (E.seq (E.block (ER (L.fa fa62_0 Y R R (L.ld (j := 0) bx51.mem nag3 Y R R R R (L.bi Y R R R R (L.mv Y R R (L.cut 6 (fun e w => ∃ (v56 : Bool), ((decide (x49.1 < 0)) || (decide (x49.1 ≥ p0.2.1))) = v56 ∧ e = (24, .bool v56) :: [(3, .int .i64 st38), (4, .pointer (some ⟨b51, 0, none⟩)), (9, .int .i64 st38), (8, .int .i64 (p0.2.2.2.length : Int)), (7, .slice a3 p0.2.2.2.length c3), (1, .pointer (some ⟨b4, 0, none⟩))] ∧ w = s54.w) ?_ ?_))))))))
  ·rintro _ _ ⟨v56, rfl, rfl, rfl⟩
   refine L.mv Y R R (L.cut 4 (fun e w => ∃ (v57 : Bool), (((decide (x49.1 < 0)) || (decide (x49.1 ≥ p0.2.1))) || (decide (x49.2.2 < 0))) = v57 ∧ e = (29, .bool v57) :: [(3, .int .i64 st38), (4, .pointer (some ⟨b51, 0, none⟩)), (9, .int .i64 st38), (8, .int .i64 (p0.2.2.2.length : Int)), (7, .slice a3 p0.2.2.2.length c3), (1, .pointer (some ⟨b4, 0, none⟩))] ∧ w = s54.w) ?_ ?_)
   ·rintro _ _ ⟨v57, rfl, rfl, rfl⟩
    refine L.mv Y R R (L.cut 6 (fun e w => ∃ (v58 : Bool), ((((decide (x49.1 < 0)) || (decide (x49.1 ≥ p0.2.1))) || (decide (x49.2.2 < 0))) || (decide (x49.2.2 ≥ p0.2.1))) = v58 ∧ e = (36, .bool v58) :: [(3, .int .i64 st38), (4, .pointer (some ⟨b51, 0, none⟩)), (9, .int .i64 st38), (8, .int .i64 (p0.2.2.2.length : Int)), (7, .slice a3 p0.2.2.2.length c3), (1, .pointer (some ⟨b4, 0, none⟩))] ∧ w = s54.w) ?_ ?_)
    ·rintro _ _ ⟨v58, rfl, rfl, rfl⟩
     refine L.as Y R R (L.nil (X.seqN ?_))
     rcases ifS hm with ⟨hc, hm⟩ | ⟨hc, hm⟩
     ·refine E.cT R hc (ER (L.as Y R R (LN (E.ret (X.blkR (X.seqR (X.blkR (X.seqR (X.seqR ?_)))))))))
      have hx := ho38 _ (oi hm).symm
      exact X.sub (K46 _ _ ⟨s54, 2, hx.symm, m0, R, R⟩) (Sub.rf R)
     refine E.cF R hc (ER (L.fa fa30_0 Y R R (L.ld (j := 0) bx4.mem nag27 Y R R R R (L.fa fa62_1 Y R R (L.ld (j := 1) bx51.mem nag3 Y R R R R ?_)))))
     obtain ⟨r59, er59, hm⟩ := bindS hm
     refine L.ca cf40 R R Y R (m_slices_Contains_int_c (s := s54) (p0 := p0.1) (p1 := x49.2.1) h1 er59) R ?_
     rintro _ s60 m61 rfl
     replace m0 := m0.trans m61.no
     replace h3 := h3.mono m61.z
     replace bx4 := bx4.mv m61 no_No
     replace h1 := h1.mono m61.z
     replace h2 := h2.mono m61.z
     refine L.not Y R R (L.as Y R R (L.nil (X.seqN ?_)))
     rcases ifS hm with ⟨hc, hm⟩ | ⟨hc, hm⟩
     ·refine E.cT R hc (ER (L.as Y R R (LN (E.ret (X.blkR (X.seqR (X.blkR (X.seqR (X.seqR ?_)))))))))
      have hx := ho38 _ (oi hm).symm
      exact X.sub (K46 _ _ ⟨s60, 9, hx.symm, m0, R, R⟩) (Sub.rf R)
     refine E.cF R hc (E.skip (X.blkN (X.seqN (E.seq (ER (L.mv Y R R (L.bi Y R R R R (L.nil (X.seqN ?_)))))))))
     rcases ifS hm with ⟨hc, hm⟩ | ⟨hc, hm⟩
     ·exact E.cT R hc (E.exit (X.seqX (X.blkE (X.sub (Jj48 _ _ ⟨s60, hm, m0, h3, h1, h2, bx4, R, R⟩) (Sub.rf R)))))
     refine E.cF R hc (E.skip (X.seqN (ER (L.fa fa30_3 Y R R (L.ld (j := 3) bx4.mem nag28 Y R R R R (L.mv Y R R (L.bi Y R R R R ?_)))))))
     obtain ⟨x62, ex62, hm⟩ := bindS hm
     refine L.ix (r := qT) sl28 h3 Y R R ex62 R fun b63 o63 cc63 me63 rd63 => ?_
     obtain ⟨_, _, rfl, rfl, ⟨_, _, rfl, rfl, rfl⟩⟩ := rd63
     refine L.lg (j := 0) (cs := [.int .i64 x62.1, .int .i64 x62.2.1, .int .i64 x62.2.2]) me63 ag62 Y R R R R R (L.al (N + 2) zz62 R Y R fun b64 s65 m66 bx64 => ?_)
     refine L.st (c := [.int .i64 x62.1, .int .i64 x62.2.1, .int .i64 x62.2.2]) (cs' := #[.int .i64 x62.1, .int .i64 x62.2.1, .int .i64 x62.2.2]) bx64 ag62.sz Y R R R R R (nb R) R fun s67 m68 bx64 => ?_
     replace m0 := (m0.trans m66.no).trans (m68.one up)
     replace h3 := (h3.mono m66.z).mono (m68.le (tg0 hN))
     replace bx4 := (bx4.mv m66 no_No).mv m68 (tq R)
     replace h1 := (h1.mono m66.z).mono (m68.le (tg0 hN))
     replace h2 := (h2.mono m66.z).mono (m68.le (tg0 hN))
     replace bx51 := ((bx51.mv m61 no_No).mv m66 no_No).mv m68 (tq R)
     refine LN (ER (L.fa fa62_0 Y R R (L.ld (j := 0) bx51.mem nag3 Y R R R R (L.fa fa62_0 Y R R (L.ld (j := 0) bx64.mem nag3 Y R R R R (L.bi Y R R R R (L.mv Y R R (L.cut 13 (fun e w => ∃ (v69 : Bool), ((decide (x49.1 < x62.1)) || ((x49.1 == x62.1) && (decide (x49.2.1 ≤ x62.2.1)))) = v69 ∧ e = (70, .bool v69) :: [(9, .int .i64 st38), (8, .int .i64 (p0.2.2.2.length : Int)), (7, .slice a3 p0.2.2.2.length c3), (1, .pointer (some ⟨b4, 0, none⟩))] ∧ w = s67.w) ?_ ?_))))))))
     ·rintro _ _ ⟨v69, rfl, rfl, rfl⟩
      refine L.nil (X.seqN ?_)
      rcases ifS hm with ⟨hc, hm⟩ | ⟨hc, hm⟩
      ·refine E.cT R hc (ER (L.as Y R R (LN (E.ret (X.blkR (X.seqR (X.seqR ?_)))))))
       have hx := ho38 _ (oi hm).symm
       exact X.sub (K46 _ _ ⟨s67, 5, hx.symm, m0, R, R⟩) (Sub.rf R)
      exact E.cF R hc (E.skip (X.blkN (X.sub (Jj48 _ _ ⟨s67, hm, m0, h3, h1, h2, bx4, R, R⟩) (Sub.rf R))))
     intro J70
     rcases Bool.eq_false_or_eq_true (decide (x49.1 < x62.1)) with hc | hc
     ·exact L.know (d := 57) R hc (L.skip R R R R (L.skip R R R R (L.skip R R R R (L.skip R R R R (L.skip R R R R (L.skip R R R R (L.skipU R R R (L.skipU R R R (L.skipU R R R (L.skipU R R R (L.skipU R R R (L.skip R R R R (L.pkT Y R R R R (L.sb (J70 _ _ ⟨true, (orT hc).symm, R, R⟩) R))))))))))))))
     refine L.know (d := 57) R hc (L.fa fa62_0 (Wt.mk R R) R R (L.ld (j := 0) bx51.mem nag3 (Wt.mk R R) R R R R (L.fa fa62_0 (Wt.mk R R) R R (L.ld (j := 0) bx64.mem nag3 (Wt.mk R R) R R R R (L.bi (Wt.mk R R) R R R R (L.mv (Wt.mk R R) R R (L.cut 6 (fun e w => ∃ (v71 : Bool), ((x49.1 == x62.1) && (decide (x49.2.1 ≤ x62.2.1))) = v71 ∧ e = (69, .bool v71) :: [(57, .bool false), (9, .int .i64 st38), (8, .int .i64 (p0.2.2.2.length : Int)), (7, .slice a3 p0.2.2.2.length c3), (1, .pointer (some ⟨b4, 0, none⟩))] ∧ w = s67.w) ?_ ?_)))))))
     ·rintro _ _ ⟨v71, rfl, rfl, rfl⟩
      exact L.pkF Y R R R R (L.sb (J70 _ _ ⟨((x49.1 == x62.1) && (decide (x49.2.1 ≤ x62.2.1))), (orF hc).symm, R, R⟩) R)
     intro J72
     rcases Bool.eq_false_or_eq_true (x49.1 == x62.1) with hc | hc
     ·exact L.know (d := 63) R hc (L.fa fa62_1 (Wt.mk R R) R R (L.ld (j := 1) bx51.mem nag3 (Wt.mk R R) R R R R (L.fa fa62_1 (Wt.mk R R) R R (L.ld (j := 1) bx64.mem nag3 (Wt.mk R R) R R R R (L.bi (Wt.mk R R) R R R R (L.pkT (Wt.mk R R) R R R R (L.sb (J72 _ _ ⟨(decide (x49.2.1 ≤ x62.2.1)), (andT hc).symm, R, R⟩) R)))))))
     exact L.know (d := 63) R hc (L.skip R R R R (L.skip R R R R (L.skip R R R R (L.skip R R R R (L.skip R R R R (L.pkF (Wt.mk R R) R R R R (L.sb (J72 _ _ ⟨false, (andF hc).symm, R, R⟩) R)))))))
    intro J73
    rcases Bool.eq_false_or_eq_true (((decide (x49.1 < 0)) || (decide (x49.1 ≥ p0.2.1))) || (decide (x49.2.2 < 0))) with hc | hc
    ·exact L.know (d := 30) R hc (L.skip R R R R (L.skip R R R R (L.skip R R R R (L.skip R R R R (L.skip R R R R (L.pkT Y R R R R (L.sb (J73 _ _ ⟨true, (orT hc).symm, R, R⟩) R)))))))
    exact L.know (d := 30) R hc (L.fa fa62_2 (Wt.mk R R) R R (L.ld (j := 2) bx51.mem nag3 (Wt.mk R R) R R R R (L.fa fa30_1 (Wt.mk R R) R R (L.ld (j := 1) bx4.mem nag3 (Wt.mk R R) R R R R (L.bi (Wt.mk R R) R R R R (L.pkF Y R R R R (L.sb (J73 _ _ ⟨(decide (x49.2.2 ≥ p0.2.1)), (orF hc).symm, R, R⟩) R)))))))
   intro J74
   rcases Bool.eq_false_or_eq_true ((decide (x49.1 < 0)) || (decide (x49.1 ≥ p0.2.1))) with hc | hc
   ·exact L.know (d := 25) R hc (L.skip R R R R (L.skip R R R R (L.skip R R R R (L.pkT Y R R R R (L.sb (J74 _ _ ⟨true, (orT hc).symm, R, R⟩) R)))))
   exact L.know (d := 25) R hc (L.fa fa62_2 (Wt.mk R R) R R (L.ld (j := 2) bx51.mem nag3 (Wt.mk R R) R R R R (L.bi (Wt.mk R R) R R R R (L.pkF Y R R R R (L.sb (J74 _ _ ⟨(decide (x49.2.2 < 0)), (orF hc).symm, R, R⟩) R)))))
  intro J75
  rcases Bool.eq_false_or_eq_true (decide (x49.1 < 0)) with hc | hc
  ·exact L.know (d := 18) R hc (L.skip R R R R (L.skip R R R R (L.skip R R R R (L.skip R R R R (L.skip R R R R (L.pkT Y R R R R (L.sb (J75 _ _ ⟨true, (orT hc).symm, R, R⟩) R)))))))
  exact L.know (d := 18) R hc (L.fa fa62_0 (Wt.mk R R) R R (L.ld (j := 0) bx51.mem nag3 (Wt.mk R R) R R R R (L.fa fa30_1 (Wt.mk R R) R R (L.ld (j := 1) bx4.mem nag3 (Wt.mk R R) R R R R (L.bi (Wt.mk R R) R R R R (L.pkF Y R R R R (L.sb (J75 _ _ ⟨(decide (x49.1 ≥ p0.2.1)), (orF hc).symm, R, R⟩) R)))))))
 refine E.cF R hc (E.exit (X.seqX (X.seqX ?_)))
 have hx := ho38 _ (oi hm).symm
 exact X.sub (K43 _ _ ⟨s40, (), hx.symm, m0, R, R⟩) Sub.nil

theorem cf45 : Cf Tryz.prog 45 := Cf.mk Tryz.func45 (by kernel_rfl) (by kernel_rfl)
theorem cf46 : Cf Tryz.prog 46 := Cf.mk Tryz.func46 (by kernel_rfl) (by kernel_rfl)
theorem fa30_2 : FA Tryz.prog 30 2 2 := FA.mk Tryz.underlying30 rfl rfl ⟨1, by decide, by kernel_rfl⟩
noncomputable def m_automaton_Check (p0 : AutT) : Option Int :=
 (m_automaton_checkSet p0.1 32).bind fun r7 =>
 if (r7 != 0) then
  some r7
 else
  if decide (p0.2.1 < 0) then
   some 2
  else
   if decide (p0.2.1 > 4096) then
    some 3
   else
    (m_automaton_checkSet p0.2.2.1 p0.2.1).bind fun r10 =>
    if (r10 != 0) then
     some r10
    else
     (m_automaton_checkEdges p0).bind fun r13 =>
     some r13
theorem m_automaton_Check_c {s : Sig} {p0 : AutT} {a1 : Option Addr} {c1 : Nat} {a2 : Option Addr} {c2 : Nat} {a3 : Option Addr} {c3 : Nat} {r : Int} (h1 : RdL qI s a1 c1 p0.1) (h2 : RdL qI s a2 c2 p0.2.2.1) (h3 : RdL qT s a3 c3 p0.2.2.2) (hm : m_automaton_Check p0 = some r) :
    Calls Tryz.prog 16 #[.agg #[.slice a1 p0.1.length c1, .int .i64 p0.2.1, .slice a2 p0.2.2.1.length c2, .slice a3 p0.2.2.2.length c3]] s.w (RetS No s fun v s' => v = .int .i64 r) := by
 unfold m_automaton_Check at hm
 obtain ⟨N, hN, hNb⟩ := s.fresh
 have m0 : Mv (Up N No) s s := Mv.refl _ _
 refine E.entry Tryz.func16 R Tryz.ntmps16 R R (ER (L.box (N + 0) Y R R R fun b4 s5 m6 bx4 => ?_))
 replace h1 := h1.mono m6.z
 refine L.as Y R R (LN (E.seq (ER (L.fa fa30_0 Y R R (L.ld (j := 0) bx4.mem nag27 Y R R R R ?_)))))
 obtain ⟨r7, er7, hm⟩ := bindS hm
 refine L.ca cf45 R R Y R (m_automaton_checkSet_c (s := s5) (p0 := p0.1) (p1 := 32) h1 er7) R ?_
 rintro _ s8 m9 rfl
 replace m0 := (m0.trans m6.no).trans m9.no
 replace bx4 := bx4.mv m9 no_No
 replace h2 := (h2.mono m6.z).mono m9.z
 refine L.as Y R R (LN (ER (L.mv Y R R (L.bi Y R R R R (L.nil (X.seqN ?_))))))
 rcases ifS hm with ⟨hc, hm⟩ | ⟨hc, hm⟩
 ·refine E.cT R hc (ER (L.mv Y R R (L.as Y R R (LN (E.ret (X.seqR ?_))))))
  obtain rfl := oi hm
  exact X.rt (.inl R) Tryz.results16 (Rs.tmp R Rs.nil) R ⟨_, (s8).ren N (fun _ => 0), R, R, m0.ren hNb, R⟩
 refine E.cF R hc (E.skip (X.seqN (E.seq (E.block (ER (L.fa fa30_1 Y R R (L.ld (j := 1) bx4.mem nag3 Y R R R R (L.bi Y R R R R (L.as Y R R (L.nil (X.seqN ?_)))))))))))
 rcases ifS hm with ⟨hc, hm⟩ | ⟨hc, hm⟩
 ·refine E.cT R hc (ER (L.as Y R R (LN (E.ret (X.blkR (X.seqR ?_))))))
  obtain rfl := oi hm
  exact X.rt (.inl R) Tryz.results16 (Rs.tmp R Rs.nil) R ⟨_, (s8).ren N (fun _ => 0), R, R, m0.ren hNb, R⟩
 refine E.cF R hc (ER (L.fa fa30_1 Y R R (L.ld (j := 1) bx4.mem nag3 Y R R R R (L.bi Y R R R R (L.as Y R R (L.nil (X.seqN ?_)))))))
 rcases ifS hm with ⟨hc, hm⟩ | ⟨hc, hm⟩
 ·refine E.cT R hc (ER (L.as Y R R (LN (E.ret (X.blkR (X.seqR ?_))))))
  obtain rfl := oi hm
  exact X.rt (.inl R) Tryz.results16 (Rs.tmp R Rs.nil) R ⟨_, (s8).ren N (fun _ => 0), R, R, m0.ren hNb, R⟩
 refine E.cF R hc (E.skip (X.blkN (X.seqN (E.seq (ER (L.fa fa30_2 Y R R (L.ld (j := 2) bx4.mem nag27 Y R R R R (L.fa fa30_1 Y R R (L.ld (j := 1) bx4.mem nag3 Y R R R R ?_)))))))))
 obtain ⟨r10, er10, hm⟩ := bindS hm
 refine L.ca cf45 R R Y R (m_automaton_checkSet_c (s := s8) (p0 := p0.2.2.1) (p1 := p0.2.1) h2 er10) R ?_
 rintro _ s11 m12 rfl
 replace m0 := m0.trans m12.no
 replace bx4 := bx4.mv m12 no_No
 replace h1 := (h1.mono m9.z).mono m12.z
 replace h2 := h2.mono m12.z
 replace h3 := ((h3.mono m6.z).mono m9.z).mono m12.z
 refine L.as Y R R (LN (ER (L.mv Y R R (L.bi Y R R R R (L.nil (X.seqN ?_))))))
 rcases ifS hm with ⟨hc, hm⟩ | ⟨hc, hm⟩
 ·refine E.cT R hc (ER (L.mv Y R R (L.as Y R R (LN (E.ret (X.seqR ?_))))))
  obtain rfl := oi hm
  exact X.rt (.inl R) Tryz.results16 (Rs.tmp R Rs.nil) R ⟨_, (s11).ren N (fun _ => 0), R, R, m0.ren hNb, R⟩
 refine E.cF R hc (E.skip (X.seqN (ER (L.lg (j := 0) (cs := [.slice a1 p0.1.length c1, .int .i64 p0.2.1, .slice a2 p0.2.2.1.length c2, .slice a3 p0.2.2.2.length c3]) bx4.mem ag30 Y R R R R R ?_))))
 obtain ⟨r13, er13, hm⟩ := bindS hm
 refine L.ca cf46 R R Y R (m_automaton_checkEdges_c (s := s11) (p0 := p0) h1 h2 h3 er13) R ?_
 rintro _ s14 m15 rfl
 replace m0 := m0.trans m15.no
 refine L.as Y R R (LN (E.ret ?_))
 obtain rfl := oi hm
 exact X.rt (.inl R) Tryz.results16 (Rs.tmp R Rs.nil) R ⟨_, (s14).ren N (fun _ => 0), R, R, m0.ren hNb, R⟩

noncomputable def m_slices_Clone_int (p0 : List Int) : Option (List Int) :=
 (app ([] : List Int) p0).bind fun x6 =>
 some x6
theorem m_slices_Clone_int_c {s : Sig} {p0 : List Int} {a1 : Option Addr} {c1 : Nat} {u0 : Nat} {r : List Int} (h1 : RdL qI s a1 c1 p0) (hm : m_slices_Clone_int p0 = some r) :
    Calls Tryz.prog 63 #[.slice a1 p0.length c1] s.w (RetS No s fun v s' => ∃ (a2 : Option Addr) (c2 : Nat), v = .slice a2 r.length c2 ∧ RowT qI s' u0 3 a2 c2 r) := by
 unfold m_slices_Clone_int at hm
 obtain ⟨N, hN, hNb⟩ := s.fresh
 have m0 : Mv (Up N No) s s := Mv.refl _ _
 refine E.entry Tryz.func63 R Tryz.ntmps63 R R (ER (L.as Y R R (LN (E.seq (ER (L.mv Y R R (L.nil? Tryz.underlying27 Y R R R (L.nil (X.seqN ?_)))))))))
 rcases isNoneS a1 with hc | hc
 ·refine E.cT R hc ?_
  obtain rfl := h1.eq_nil hc
  replace hm : some ([] : List Int) = some r := by simpa [app, slc] using hm
  refine ER (L.as Y R R (LN (E.ret (X.seqR ?_))))
  obtain rfl := oi hm
  exact X.rt (.inl R) Tryz.results63 (Rs.tmp R Rs.nil) R ⟨_, (s).ren N (fun _ => 0), R, R, m0.ren hNb, ⟨none, 0, R, RowT.nil⟩⟩
 refine E.cF R hc (E.skip (X.seqN (ER (L.bs0 (N + 0) bs27 (nb R) Y R fun b3 s4 m5 bx3 => ?_))))
 replace h1 := h1.mono m5.z
 have h3 := Bx.row (r := qI) (xs := ([] : List Int)) bx3 R (nb R)
 refine L.mv Y R R ?_
 obtain ⟨x6, ex6, hm⟩ := bindS hm
 refine L.ap (r := qI) Tryz.underlying27 el3 R (tgp hN) h3 h1.wk Y R R ex6 R fun a7 c7 s8 m9 h7 => ?_
 replace m0 := (m0.trans m5.no).trans (m9.one up)
 refine L.as Y R R (LN (E.ret ?_))
 obtain rfl := oi hm
 exact X.rt (.inl R) Tryz.results63 (Rs.tmp R Rs.nil) R ⟨_, (s8).ren N (fun k => cond (Nat.beq k 0) u0 (0)), R, R, m0.ren hNb, ⟨a7, c7, R, (h7.ren hN)⟩⟩

end Go.Proofs.YtfbapajcheammaaGreatDoor

namespace Go.Proofs.YtfbapajcheammaaGreatDoor
open Go Go.RowKit
theorem cf63 : Cf Tryz.prog 63 := Cf.mk Tryz.func63 (by kernel_rfl) (by kernel_rfl)
theorem cf70 : Cf Tryz.prog 70 := Cf.mk Tryz.func70 (by kernel_rfl) (by kernel_rfl)
theorem sl46 : Sl Tryz.prog 46 27 1 := Sl.mk' Tryz.underlying46 (by kernel_rfl)
theorem zr3 : Zr Tryz.prog qI 3 8 (0 : Int) := Zr.mk' (v := .int .i64 0) (by kernel_rfl) (by kernel_rfl) (by kernel_rfl) (fun _ => rfl)
noncomputable def m_blocking_spread_j1 (st170 : Int × List Int × List Int) (l177 : List Int) (l179 : List Int) : Option ((Int × List Int × List Int) ⊕ (List Int × List Int)) :=
 some (.inl (W (st170.1 + 1), l177, l179))
noncomputable def m_blocking_spread_l4 (st127 : Int × List Int × List Int) (x134 : List Int) (st170 : Int × List Int × List Int) : Option ((Int × List Int × List Int) ⊕ (List Int × List Int)) :=
 if decide (st170.1 < (x134.length : Int)) then
  (idx x134 st170.1).bind fun x182 =>
  (idx st170.2.2 x182).bind fun x184 =>
  if decide (x184 < 0) then
   (idx st170.2.1 st127.1).bind fun x186 =>
   (idx st170.2.2 x186).bind fun x188 =>
   (idx st170.2.2 x182).bind fun x190 =>
   (upd st170.2.2 x182 (W (x188 + 1))).bind fun x192 =>
   (app st170.2.1 ([x182] : List Int)).bind fun x198 =>
   m_blocking_spread_j1 st170 x198 x192
  else
   m_blocking_spread_j1 st170 st170.2.1 st170.2.2
 else
  some (.inr st170.2)
noncomputable def m_blocking_spread_l3 (r9 : List (List Int)) (st127 : Int × List Int × List Int) : Option ((Int × List Int × List Int) ⊕ (List Int)) :=
 if decide (st127.1 < (st127.2.1.length : Int)) then
  (idx st127.2.1 st127.1).bind fun x132 =>
  (idx r9 x132).bind fun x134 =>
  (iter (m_blocking_spread_l4 st127 x134) (0, st127.2)).bind fun o170 =>
  some (.inl (W (st127.1 + 1), o170))
 else
  some (.inr st127.2.2)
noncomputable def m_blocking_spread_l2 (r30 : List Int) (st45 : Int × List Int) : Option ((Int × List Int) ⊕ (List Int)) :=
 if decide (st45.1 < (r30.length : Int)) then
  (idx r30 st45.1).bind fun x203 =>
  (idx st45.2 x203).bind fun x205 =>
  (upd st45.2 x203 0).bind fun x207 =>
  some (.inl (W (st45.1 + 1), x207))
 else
  some (.inr st45.2)
noncomputable def m_blocking_spread_l1 (x13 : List Int) (st26 : Int × List Int) : Option ((Int × List Int) ⊕ (List Int)) :=
 if decide (st26.1 < (x13.length : Int)) then
  (idx st26.2 st26.1).bind fun x211 =>
  (upd st26.2 st26.1 (-1)).bind fun x213 =>
  some (.inl (W (st26.1 + 1), x213))
 else
  some (.inr st26.2)
noncomputable def m_blocking_spread (p0 : AutT) (p1 : List Int) : Option (List Int) :=
 (m_blocking_into p0).bind fun r9 =>
 (mkL p0.2.1 (0 : Int)).bind fun x13 =>
 (iter (m_blocking_spread_l1 x13) (0, x13)).bind fun o26 =>
 (m_slices_Clone_int p1).bind fun r30 =>
 (iter (m_blocking_spread_l2 r30) (0, o26)).bind fun o45 =>
 (iter (m_blocking_spread_l3 r9) (0, r30, o45)).bind fun o127 =>
 some o127
theorem m_blocking_spread_c {s : Sig} {p0 : AutT} {p1 : List Int} {a1 : Option Addr} {c1 : Nat} {a2 : Option Addr} {c2 : Nat} {a3 : Option Addr} {c3 : Nat} {a4 : Option Addr} {c4 : Nat} {u0 : Nat} {r : List Int} (h1 : RdL qI s a1 c1 p0.1) (h2 : RdL qI s a2 c2 p0.2.2.1) (h3 : RdL qT s a3 c3 p0.2.2.2) (h4 : RdL qI s a4 c4 p1) (hm : m_blocking_spread p0 p1 = some r) :
    Calls Tryz.prog 35 #[.agg #[.slice a1 p0.1.length c1, .int .i64 p0.2.1, .slice a2 p0.2.2.1.length c2, .slice a3 p0.2.2.2.length c3], .slice a4 p1.length c4] s.w (RetS No s fun v s' => ∃ (a5 : Option Addr) (c5 : Nat), v = .slice a5 r.length c5 ∧ RowT qI s' u0 3 a5 c5 r) := by
 unfold m_blocking_spread at hm
 obtain ⟨N, hN, hNb⟩ := s.fresh
 have m0 : Mv (Up N No) s s := Mv.refl _ _
 refine E.entry Tryz.func35 R Tryz.ntmps35 R R (ER (L.box (N + 0) Y R R R fun b6 s7 m8 bx6 => ?_))
 replace h1 := h1.mono m8.z
 replace h2 := h2.mono m8.z
 replace h3 := h3.mono m8.z
 refine L.as Y R R (LN (ER (L.lg (j := 0) (cs := [.slice a1 p0.1.length c1, .int .i64 p0.2.1, .slice a2 p0.2.2.1.length c2, .slice a3 p0.2.2.2.length c3]) bx6.mem ag30 Y R R R R R ?_)))
 obtain ⟨r9, er9, hm⟩ := bindS hm
 refine L.ca cf70 R R Y R (m_blocking_into_c (s := s7) (p0 := p0) h1 h2 h3 er9) R ?_
 rintro _ s10 m11 ⟨a12, c12, rfl, h12⟩
 replace bx6 := bx6.mv m11 no_No
 refine L.as Y R R (LN (ER (L.fa fa30_1 Y R R (L.ld (j := 1) bx6.mem nag3 Y R R R R ?_))))
 obtain ⟨x13, ex13, hm⟩ := bindS hm
 refine L.mk (z := (0 : Int)) (N + 1) Tryz.underlying27 zr3 R Y R R ex13 R fun b14 s15 m16 h14 => ?_
 replace m0 := ((m0.trans m8.no).trans m11.no).trans m16.no
 replace h4 := ((h4.mono m8.z).mono m11.z).mono m16.z
 replace h12 := h12.mono m16.z
 refine L.as Y R R (LN (E.seq (ER (L.mv Y R R (L.len sl27 Y R R (L.mv Y R R (LN (E.block ?_))))))))
 obtain ⟨o26, eo26, hm⟩ := bindS hm
 refine E.cut (x := .exit 0) (fun e w => ∃ (s29 : Sig), Mv (Up N No) s s29 ∧ RowT qI s29 (N + 1) 3 (some ⟨b14, 0, none⟩) x13.length o26 ∧ RdL (rL qI) s29 a12 c12 r9 ∧ RdL qI s29 a4 c4 p1 ∧ e = [(6, .slice (some ⟨b14, 0, none⟩) o26.length x13.length), (5, .slice a12 r9.length c12), (1, .slice a4 p1.length c4)] ∧ w = s29.w) ?_ ?_
 ·rintro _ _ ⟨s29, m0, h14, h12, h4, rfl, rfl⟩
  refine X.blkE (X.seqN (ER (L.mv Y R R ?_)))
  obtain ⟨r30, er30, hm⟩ := bindS hm
  refine L.ca cf63 R R Y R (m_slices_Clone_int_c (s := s29) (p0 := p1) (u0 := (N + 2)) h4 er30) R ?_
  rintro _ s31 m32 ⟨a33, c33, rfl, h33⟩
  replace m0 := m0.trans m32.no
  replace h12 := h12.mono m32.z
  replace h14 := h14.mv m32 no_No no_No
  refine L.as Y R R (LN (E.seq (ER (L.mv Y R R (L.len sl27 Y R R (L.mv Y R R (LN (E.block ?_))))))))
  obtain ⟨o45, eo45, hm⟩ := bindS hm
  refine E.cut (x := .exit 2) (fun e w => ∃ (s48 : Sig), Mv (Up N No) s s48 ∧ RowT qI s48 (N + 2) 3 a33 c33 r30 ∧ RowT qI s48 (N + 1) 3 (some ⟨b14, 0, none⟩) x13.length o45 ∧ RdL (rL qI) s48 a12 c12 r9 ∧ e = [(8, .slice a33 r30.length c33), (6, .slice (some ⟨b14, 0, none⟩) o45.length x13.length), (5, .slice a12 r9.length c12)] ∧ w = s48.w) ?_ ?_
  ·rintro _ _ ⟨s48, m0, h33, h14, h12, rfl, rfl⟩
   refine X.blkE (X.seqN (E.seq (ER (L.as Y R R (LN (E.block ?_))))))
   obtain ⟨o127, eo127, hm⟩ := bindS hm
   refine E.cut (x := .exit 4) (fun e w => ∃ (s130 : Sig), Mv (Up N No) s s130 ∧ RowT qI s130 (N + 1) 3 (some ⟨b14, 0, none⟩) x13.length o127 ∧ e = [(6, .slice (some ⟨b14, 0, none⟩) o127.length x13.length)] ∧ w = s130.w) ?_ ?_
   ·rintro _ _ ⟨s130, m0, h14, rfl, rfl⟩
    refine X.blkE (X.seqN (ER (L.mv Y R R (L.as Y R R (LN (E.ret ?_))))))
    obtain rfl := oi hm
    exact X.rt (.inl R) Tryz.results35 (Rs.tmp R Rs.nil) R ⟨_, (s130).ren N (fun k => cond (Nat.beq k 1) u0 (0)), R, R, m0.ren hNb, ⟨(some ⟨b14, 0, none⟩), x13.length, R, (h14.ren hN)⟩⟩
   intro K131
   refine E.iter (fun (st127 : Int × List Int × List Int) (e : List (Nat × Value)) (w : World) => ∃ (s129 : Sig) (a51 : Option Addr) (c51 : Nat), Mv (Up N No) s s129 ∧ RowT qI s129 (N + 2) 3 a51 c51 st127.2.1 ∧ RowT qI s129 (N + 1) 3 (some ⟨b14, 0, none⟩) x13.length st127.2.2 ∧ RdL (rL qI) s129 a12 c12 r9 ∧ e = [(11, .int .i64 st127.1), (8, .slice a51 st127.2.1.length c51), (6, .slice (some ⟨b14, 0, none⟩) st127.2.2.length x13.length), (5, .slice a12 r9.length c12)] ∧ w = s129.w) eo127 ⟨s48, a33, c33, m0, h33, h14, h12, R, R⟩ (Sub.rf R) ?_
   rintro st127 res127 hm ih127 ho127 _ _ ⟨s129, a51, c51, m0, h51, h14, h12, rfl, rfl⟩
   unfold m_blocking_spread_l3 at hm
   refine E.seq (ER (L.mv Y R R (L.mv Y R R (L.len sl27 Y R R (L.bi Y R R R R (L.nil (X.seqN ?_)))))))
   rcases ifS hm with ⟨hc, hm⟩ | ⟨hc, hm⟩
   ·refine E.cT R hc (E.skip (X.seqN (E.seq (E.block (ER (L.mv Y R R (L.mv Y R R (L.mv Y R R ?_))))))))
    obtain ⟨x132, ex132, hm⟩ := bindS hm
    refine L.ir (r := qI) sl27 h51 Y R R ex132 R fun b133 o133 cc133 me133 rd133 sp133 => ?_
    obtain rfl := rd133
    refine L.ld (j := 0) me133 nag3 Y R R R R ?_
    obtain ⟨x134, ex134, hm⟩ := bindS hm
    refine L.ix (r := (rL qI)) sl46 h12 Y R R ex134 R fun b135 o135 cc135 me135 rd135 => ?_
    obtain ⟨a136, c136, rfl, h136⟩ := rd135
    refine L.ld (j := 0) me135 nag27 Y R R R R (L.len sl27 Y R R (L.mv Y R R (LN (E.block ?_))))
    obtain ⟨o170, eo170, hm⟩ := bindS hm
    refine E.cut (x := .exit 6) (fun e w => ∃ (s175 : Sig) (a172 : Option Addr) (c172 : Nat), Mv (Up N No) s s175 ∧ RowT qI s175 (N + 2) 3 a172 c172 o170.1 ∧ RowT qI s175 (N + 1) 3 (some ⟨b14, 0, none⟩) x13.length o170.2 ∧ RdL (rL qI) s175 a12 c12 r9 ∧ e = [(11, .int .i64 st127.1), (8, .slice a172 o170.1.length c172), (6, .slice (some ⟨b14, 0, none⟩) o170.2.length x13.length), (5, .slice a12 r9.length c12)] ∧ w = s175.w) ?_ ?_
    ·rintro _ _ ⟨s175, a172, c172, m0, h172, h14, h12, rfl, rfl⟩
     exact X.blkE (X.blkN (X.seqN (E.reg (L.mv Y R R (L.bi Y R R R R (L.as Y R R (L.nil (X.sub (ih127 _ (oi hm).symm _ _ ⟨s175, a172, c172, m0, h172, h14, h12, R, R⟩) (Sub.rf R)))))))))
    intro K176
    refine E.iter (fun (st170 : Int × List Int × List Int) (e : List (Nat × Value)) (w : World) => ∃ (s174 : Sig) (a139 : Option Addr) (c139 : Nat), Mv (Up N No) s s174 ∧ RdL qI s174 a136 c136 x134 ∧ RowT qI s174 (N + 2) 3 a139 c139 st170.2.1 ∧ RowT qI s174 (N + 1) 3 (some ⟨b14, 0, none⟩) x13.length st170.2.2 ∧ RdL (rL qI) s174 a12 c12 r9 ∧ e = [(54, .int .i64 st170.1), (53, .int .i64 (x134.length : Int)), (52, .slice a136 x134.length c136), (11, .int .i64 st127.1), (8, .slice a139 st170.2.1.length c139), (6, .slice (some ⟨b14, 0, none⟩) st170.2.2.length x13.length), (5, .slice a12 r9.length c12)] ∧ w = s174.w) eo170 ⟨s129, a51, c51, m0, h136, h51, h14, h12, R, R⟩ (Sub.rf R) ?_
    rintro st170 res170 hm ih170 ho170 _ _ ⟨s174, a139, c139, m0, h136, h139, h14, h12, rfl, rfl⟩
    unfold m_blocking_spread_l4 at hm
    refine ER (L.bi Y R R R R (LN (E.seq ?_)))
    rcases ifS hm with ⟨hc, hm⟩ | ⟨hc, hm⟩
    ·refine E.cT R hc (E.skip (X.seqN (E.seqJ (fun e w => ∃ (s180 : Sig) (l177 : List Int) (l179 : List Int) (a178 : Option Addr) (c178 : Nat), m_blocking_spread_j1 st170 l177 l179 = some res170 ∧ Mv (Up N No) s s180 ∧ RowT qI s180 (N + 2) 3 a178 c178 l177 ∧ RowT qI s180 (N + 1) 3 (some ⟨b14, 0, none⟩) x13.length l179 ∧ RdL qI s180 a136 c136 x134 ∧ RdL (rL qI) s180 a12 c12 r9 ∧ e = [(8, .slice a178 l177.length c178), (6, .slice (some ⟨b14, 0, none⟩) l179.length x13.length), (54, .int .i64 st170.1), (53, .int .i64 (x134.length : Int)), (52, .slice a136 x134.length c136), (11, .int .i64 st127.1), (5, .slice a12 r9.length c12)] ∧ w = s180.w) ?_ ?_)))
     ·rintro _ _ ⟨s180, l177, l179, a178, c178, hm, m0, h178, h14, h136, h12, rfl, rfl⟩
      unfold m_blocking_spread_j1 at hm
      exact E.reg (L.bi Y R R R R (L.mv Y R R (L.nil (X.sub (ih170 _ (oi hm).symm _ _ ⟨s180, a178, c178, m0, h136, h178, h14, h12, R, R⟩) (Sub.rf R)))))
     intro Jj181
     refine E.block (E.seq (E.reg ?_))
     obtain ⟨x182, ex182, hm⟩ := bindS hm
     refine L.ix (r := qI) sl27 h136 Y R R ex182 R fun b183 o183 cc183 me183 rd183 => ?_
     obtain rfl := rd183
     refine L.ld (j := 0) me183 nag3 Y R R R R (L.as Y R R (LN (ER (L.mv Y R R (L.mv Y R R ?_)))))
     obtain ⟨x184, ex184, hm⟩ := bindS hm
     refine L.ir (r := qI) sl27 h14 Y R R ex184 R fun b185 o185 cc185 me185 rd185 sp185 => ?_
     obtain rfl := rd185
     refine L.ld (j := 0) me185 nag3 Y R R R R (L.bi Y R R R R (L.nil (X.seqN ?_)))
     rcases ifS hm with ⟨hc, hm⟩ | ⟨hc, hm⟩
     ·refine E.cT R hc (ER (L.mv Y R R (L.mv Y R R (L.mv Y R R (L.mv Y R R (L.mv Y R R ?_))))))
      obtain ⟨x186, ex186, hm⟩ := bindS hm
      refine L.ir (r := qI) sl27 h139 Y R R ex186 R fun b187 o187 cc187 me187 rd187 sp187 => ?_
      obtain rfl := rd187
      refine L.ld (j := 0) me187 nag3 Y R R R R ?_
      obtain ⟨x188, ex188, hm⟩ := bindS hm
      refine L.ir (r := qI) sl27 h14 Y R R ex188 R fun b189 o189 cc189 me189 rd189 sp189 => ?_
      obtain rfl := rd189
      refine L.ld (j := 0) me189 nag3 Y R R R R (L.bi Y R R R R ?_)
      obtain ⟨x190, ex190, hm⟩ := bindS hm
      refine L.ir (r := qI) sl27 h14 Y R R ex190 R fun b191 o191 cc191 me191 rd191 sp191 => ?_
      obtain rfl := rd191
      obtain ⟨x192, ex192, hm⟩ := bindS hm
      have elx192 := upd_len ex192
      refine L.su (fo := 0) (c := [.int .i64 (W (x188 + 1))]) (z := W (x188 + 1)) h14 sp191 ex190 ex192 (tgp hN) nag3.sz Y R R R R R R (fun c0 hc0 => by obtain rfl := hc0; exact R) fun s193 m194 h14 => ?_
      refine L.reval (d := 6) R elx192 (LN (E.reg (L.mv Y R R (L.mv Y R R (L.bsE (k := 1) (cs := [.int .i64 x182]) 0 bs27 (nb R) Y R R R R fun b195 s196 m197 bx195 => ?_)))))
      replace h139 := (h139.mv m194 (tq R) (tg0 hN)).mv m197 no_No no_No
      have h195 := Bx.rdL (r := qI) (xs := ([x182] : List Int)) bx195 ⟨[.int .i64 x182], _, R, R, R⟩ (nb R)
      obtain ⟨x198, ex198, hm⟩ := bindS hm
      refine L.ap (r := qI) Tryz.underlying27 el3 R (tgp hN) h139 h195.wk Y R R ex198 R fun a199 c199 s200 m201 h199 => ?_
      replace m0 := ((m0.trans (m194.one up)).trans m197.no).trans (m201.one up)
      replace h136 := ((h136.mono (m194.le (tg0 hN))).mono m197.z).mono (m201.le (tg0 hN))
      replace h12 := ((h12.mono (m194.le (tg0 hN))).mono m197.z).mono (m201.le (tg0 hN))
      replace h14 := (h14.mv m197 no_No no_No).mv m201 (tq R) (tg0 hN)
      exact L.as Y R R (L.nil (X.blkN (X.sub (Jj181 _ _ ⟨s200, x198, x192, a199, c199, hm, m0, h199, h14, h136, h12, R, R⟩) (Sub.rf R))))
     exact E.cF R hc (E.skip (X.blkN (X.sub (Jj181 _ _ ⟨s174, st170.2.1, st170.2.2, a139, c139, hm, m0, h139, h14, h136, h12, R, R⟩) (Sub.rf R))))
    refine E.cF R hc (E.exit (X.seqX (X.seqX ?_)))
    have hx := ho170 _ (oi hm).symm
    subst hx
    exact X.sub (K176 _ _ ⟨s174, a139, c139, m0, h139, h14, h12, R, R⟩) (Sub.rf R)
   refine E.cF R hc (E.exit (X.seqX (X.seqX ?_)))
   have hx := ho127 _ (oi hm).symm
   subst hx
   exact X.sub (K131 _ _ ⟨s129, m0, h14, R, R⟩) (Sub.rf R)
  intro K202
  refine E.iter (fun (st45 : Int × List Int) (e : List (Nat × Value)) (w : World) => ∃ (s47 : Sig), Mv (Up N No) s s47 ∧ RowT qI s47 (N + 2) 3 a33 c33 r30 ∧ RowT qI s47 (N + 1) 3 (some ⟨b14, 0, none⟩) x13.length st45.2 ∧ RdL (rL qI) s47 a12 c12 r9 ∧ e = [(32, .int .i64 st45.1), (31, .int .i64 (r30.length : Int)), (30, .slice a33 r30.length c33), (8, .slice a33 r30.length c33), (6, .slice (some ⟨b14, 0, none⟩) st45.2.length x13.length), (5, .slice a12 r9.length c12)] ∧ w = s47.w) eo45 ⟨s31, m0, h33, h14, h12, R, R⟩ (Sub.rf R) ?_
  rintro st45 res45 hm ih45 ho45 _ _ ⟨s47, m0, h33, h14, h12, rfl, rfl⟩
  unfold m_blocking_spread_l2 at hm
  refine ER (L.bi Y R R R R (LN (E.seq ?_)))
  rcases ifS hm with ⟨hc, hm⟩ | ⟨hc, hm⟩
  ·refine E.cT R hc (E.skip (X.seqN (E.seq (E.block (E.seq (E.reg ?_))))))
   obtain ⟨x203, ex203, hm⟩ := bindS hm
   refine L.ir (r := qI) sl27 h33 Y R R ex203 R fun b204 o204 cc204 me204 rd204 sp204 => ?_
   obtain rfl := rd204
   refine L.ld (j := 0) me204 nag3 Y R R R R (L.as Y R R (LN (E.reg (L.mv Y R R (L.mv Y R R ?_)))))
   obtain ⟨x205, ex205, hm⟩ := bindS hm
   refine L.ir (r := qI) sl27 h14 Y R R ex205 R fun b206 o206 cc206 me206 rd206 sp206 => ?_
   obtain rfl := rd206
   obtain ⟨x207, ex207, hm⟩ := bindS hm
   have elx207 := upd_len ex207
   refine L.su (fo := 0) (c := [.int .i64 0]) (z := 0) h14 sp206 ex205 ex207 (tgp hN) nag3.sz Y R R R R R R (fun c0 hc0 => by obtain rfl := hc0; exact R) fun s208 m209 h14 => ?_
   replace m0 := m0.trans (m209.one up)
   replace h12 := h12.mono (m209.le (tg0 hN))
   replace h33 := h33.mv m209 (tq R) (tg0 hN)
   exact L.reval (d := 6) R elx207 (L.nil (X.blkN (X.seqN (E.reg (L.bi Y R R R R (L.mv Y R R (L.nil (X.sub (ih45 _ (oi hm).symm _ _ ⟨s208, m0, h33, h14, h12, R, R⟩) (Sub.rf R)))))))))
  refine E.cF R hc (E.exit (X.seqX (X.seqX ?_)))
  have hx := ho45 _ (oi hm).symm
  subst hx
  exact X.sub (K202 _ _ ⟨s47, m0, h33, h14, h12, R, R⟩) (Sub.rf R)
 intro K210
 refine E.iter (fun (st26 : Int × List Int) (e : List (Nat × Value)) (w : World) => ∃ (s28 : Sig), Mv (Up N No) s s28 ∧ RowT qI s28 (N + 1) 3 (some ⟨b14, 0, none⟩) x13.length st26.2 ∧ RdL (rL qI) s28 a12 c12 r9 ∧ RdL qI s28 a4 c4 p1 ∧ e = [(21, .int .i64 st26.1), (20, .int .i64 (x13.length : Int)), (6, .slice (some ⟨b14, 0, none⟩) st26.2.length x13.length), (5, .slice a12 r9.length c12), (1, .slice a4 p1.length c4)] ∧ w = s28.w) eo26 ⟨s15, m0, h14, h12, h4, R, R⟩ (Sub.rf R) ?_
 rintro st26 res26 hm ih26 ho26 _ _ ⟨s28, m0, h14, h12, h4, rfl, rfl⟩
 unfold m_blocking_spread_l1 at hm
 refine ER (L.bi Y R R R R (LN (E.seq ?_)))
 rcases ifS hm with ⟨hc, hm⟩ | ⟨hc, hm⟩
 ·refine E.cT R hc (E.skip (X.seqN (E.seq (E.block (ER (L.mv Y R R (L.as Y R R (LN (E.reg (L.mv Y R R (L.mv Y R R ?_)))))))))))
  obtain ⟨x211, ex211, hm⟩ := bindS hm
  refine L.ir (r := qI) sl27 h14 Y R R ex211 R fun b212 o212 cc212 me212 rd212 sp212 => ?_
  obtain rfl := rd212
  obtain ⟨x213, ex213, hm⟩ := bindS hm
  have elx213 := upd_len ex213
  refine L.su (fo := 0) (c := [.int .i64 (-1)]) (z := (-1)) h14 sp212 ex211 ex213 (tgp hN) nag3.sz Y R R R R R R (fun c0 hc0 => by obtain rfl := hc0; exact R) fun s214 m215 h14 => ?_
  replace m0 := m0.trans (m215.one up)
  replace h4 := h4.mono (m215.le (tg0 hN))
  replace h12 := h12.mono (m215.le (tg0 hN))
  exact L.reval (d := 6) R elx213 (L.nil (X.blkN (X.seqN (E.reg (L.bi Y R R R R (L.mv Y R R (L.nil (X.sub (ih26 _ (oi hm).symm _ _ ⟨s214, m0, h14, h12, h4, R, R⟩) (Sub.rf R)))))))))
 refine E.cF R hc (E.exit (X.seqX (X.seqX ?_)))
 have hx := ho26 _ (oi hm).symm
 subst hx
 exact X.sub (K210 _ _ ⟨s28, m0, h14, h12, h4, R, R⟩) (Sub.rf R)

noncomputable def m_blocking_kinds_1 (q0 : List Int) (p0 : Int) : Option Bool :=
 (idx q0 p0).bind fun x3 =>
 some (x3 == 0)
theorem m_blocking_kinds_1_c {s : Sig} {q0 : List Int} {p0 : Int} {a1 : Option Addr} {c1 : Nat} {b2 : Nat} {r : Bool} (h1 : RdL qI s a1 c1 q0) (bx2 : Bx s 0 b2 #[.slice a1 q0.length c1] 27) (hm : m_blocking_kinds_1 q0 p0 = some r) :
    Calls Tryz.prog 71 #[.int .i64 p0, .pointer (some ⟨b2, 0, none⟩)] s.w (RetS No s fun v s' => v = .bool r) := by
 unfold m_blocking_kinds_1 at hm
 obtain ⟨N, hN, hNb⟩ := s.fresh
 have m0 : Mv (Up N No) s s := Mv.refl _ _
 refine E.entry Tryz.func71 R Tryz.ntmps71 R R (ER (L.as Y R R (LN (ER (L.ld (j := 0) bx2.mem nag27 Y R R R R (L.mv Y R R ?_))))))
 obtain ⟨x3, ex3, hm⟩ := bindS hm
 refine L.ix (r := qI) sl27 h1 Y R R ex3 R fun b4 o4 cc4 me4 rd4 => ?_
 obtain rfl := rd4
 refine L.ld (j := 0) me4 nag3 Y R R R R (L.bi Y R R R R (L.as Y R R (LN (E.ret ?_))))
 obtain rfl := oi hm
 exact X.rt (.inl R) Tryz.results71 (Rs.tmp R Rs.nil) R ⟨_, (s).ren N (fun _ => 0), R, R, m0.ren hNb, R⟩

noncomputable def m_blocking_kinds_2 (q0 : List Int) (p0 : Int) : Option Bool :=
 (idx q0 p0).bind fun x3 =>
 some (decide (x3 > 0))
theorem m_blocking_kinds_2_c {s : Sig} {q0 : List Int} {p0 : Int} {a1 : Option Addr} {c1 : Nat} {b2 : Nat} {r : Bool} (h1 : RdL qI s a1 c1 q0) (bx2 : Bx s 0 b2 #[.slice a1 q0.length c1] 27) (hm : m_blocking_kinds_2 q0 p0 = some r) :
    Calls Tryz.prog 72 #[.int .i64 p0, .pointer (some ⟨b2, 0, none⟩)] s.w (RetS No s fun v s' => v = .bool r) := by
 unfold m_blocking_kinds_2 at hm
 obtain ⟨N, hN, hNb⟩ := s.fresh
 have m0 : Mv (Up N No) s s := Mv.refl _ _
 refine E.entry Tryz.func72 R Tryz.ntmps72 R R (ER (L.as Y R R (LN (ER (L.ld (j := 0) bx2.mem nag27 Y R R R R (L.mv Y R R ?_))))))
 obtain ⟨x3, ex3, hm⟩ := bindS hm
 refine L.ix (r := qI) sl27 h1 Y R R ex3 R fun b4 o4 cc4 me4 rd4 => ?_
 obtain rfl := rd4
 refine L.ld (j := 0) me4 nag3 Y R R R R (L.bi Y R R R R (L.as Y R R (LN (E.ret ?_))))
 obtain rfl := oi hm
 exact X.rt (.inl R) Tryz.results72 (Rs.tmp R Rs.nil) R ⟨_, (s).ren N (fun _ => 0), R, R, m0.ren hNb, R⟩

noncomputable def m_blocking_kinds_3 (q0 : List Int) (p0 : Int) : Option Bool :=
 (idx q0 p0).bind fun x3 =>
 some (x3 == 0)
theorem m_blocking_kinds_3_c {s : Sig} {q0 : List Int} {p0 : Int} {a1 : Option Addr} {c1 : Nat} {b2 : Nat} {r : Bool} (h1 : RdL qI s a1 c1 q0) (bx2 : Bx s 0 b2 #[.slice a1 q0.length c1] 27) (hm : m_blocking_kinds_3 q0 p0 = some r) :
    Calls Tryz.prog 73 #[.int .i64 p0, .pointer (some ⟨b2, 0, none⟩)] s.w (RetS No s fun v s' => v = .bool r) := by
 unfold m_blocking_kinds_3 at hm
 obtain ⟨N, hN, hNb⟩ := s.fresh
 have m0 : Mv (Up N No) s s := Mv.refl _ _
 refine E.entry Tryz.func73 R Tryz.ntmps73 R R (ER (L.as Y R R (LN (ER (L.ld (j := 0) bx2.mem nag27 Y R R R R (L.mv Y R R ?_))))))
 obtain ⟨x3, ex3, hm⟩ := bindS hm
 refine L.ix (r := qI) sl27 h1 Y R R ex3 R fun b4 o4 cc4 me4 rd4 => ?_
 obtain rfl := rd4
 refine L.ld (j := 0) me4 nag3 Y R R R R (L.bi Y R R R R (L.as Y R R (LN (E.ret ?_))))
 obtain rfl := oi hm
 exact X.rt (.inl R) Tryz.results73 (Rs.tmp R Rs.nil) R ⟨_, (s).ren N (fun _ => 0), R, R, m0.ren hNb, R⟩

noncomputable def m_blocking_kinds_4 (q0 : List Int) (p0 : Int) : Option Bool :=
 (idx q0 p0).bind fun x3 =>
 some (decide (x3 > 0))
theorem m_blocking_kinds_4_c {s : Sig} {q0 : List Int} {p0 : Int} {a1 : Option Addr} {c1 : Nat} {b2 : Nat} {r : Bool} (h1 : RdL qI s a1 c1 q0) (bx2 : Bx s 0 b2 #[.slice a1 q0.length c1] 27) (hm : m_blocking_kinds_4 q0 p0 = some r) :
    Calls Tryz.prog 74 #[.int .i64 p0, .pointer (some ⟨b2, 0, none⟩)] s.w (RetS No s fun v s' => v = .bool r) := by
 unfold m_blocking_kinds_4 at hm
 obtain ⟨N, hN, hNb⟩ := s.fresh
 have m0 : Mv (Up N No) s s := Mv.refl _ _
 refine E.entry Tryz.func74 R Tryz.ntmps74 R R (ER (L.as Y R R (LN (ER (L.ld (j := 0) bx2.mem nag27 Y R R R R (L.mv Y R R ?_))))))
 obtain ⟨x3, ex3, hm⟩ := bindS hm
 refine L.ix (r := qI) sl27 h1 Y R R ex3 R fun b4 o4 cc4 me4 rd4 => ?_
 obtain rfl := rd4
 refine L.ld (j := 0) me4 nag3 Y R R R R (L.bi Y R R R R (L.as Y R R (LN (E.ret ?_))))
 obtain rfl := oi hm
 exact X.rt (.inl R) Tryz.results74 (Rs.tmp R Rs.nil) R ⟨_, (s).ren N (fun _ => 0), R, R, m0.ren hNb, R⟩

noncomputable def m_blocking_kinds_5 (p0 : Int) : Option Bool :=
 some true
theorem m_blocking_kinds_5_c {s : Sig} {p0 : Int} {r : Bool} (hm : m_blocking_kinds_5 p0 = some r) :
    Calls Tryz.prog 75 #[.int .i64 p0] s.w (RetS No s fun v s' => v = .bool r) := by
 unfold m_blocking_kinds_5 at hm
 obtain ⟨N, hN, hNb⟩ := s.fresh
 have m0 : Mv (Up N No) s s := Mv.refl _ _
 refine E.entry Tryz.func75 R Tryz.ntmps75 R R (ER (L.as Y R R (LN (ER (L.as Y R R (LN (E.ret ?_)))))))
 obtain rfl := oi hm
 exact X.rt (.inl R) Tryz.results75 (Rs.tmp R Rs.nil) R ⟨_, (s).ren N (fun _ => 0), R, R, m0.ren hNb, R⟩

theorem fa111_1 : FA Tryz.prog 111 1 1 := FA.mk Tryz.underlying111 rfl rfl ⟨1, by decide, by kernel_rfl⟩
theorem nag72 : NAg Tryz.prog 72 := NAg.mk' Tryz.underlying72 rfl (by kernel_rfl)
noncomputable def m_blocking_kinds_6 (q0 : Int) (p0 : Int × (Option (Int → Option Bool))) : Option Bool :=
 p0.2.bind fun f6 =>
 (f6 q0).bind fun r7 =>
 some r7
theorem m_blocking_kinds_6_c {s : Sig} {q0 : Int} {p0 : Int × (Option (Int → Option Bool))} {v1 : Value} {b2 : Nat} {r : Bool} (h1 : FO1 Tryz.prog s v1 (fun (x0 : Int) => [.int .i64 x0]) (fun (r : Bool) => .bool r) p0.2) (bx2 : Bx s 0 b2 #[.int .i64 q0] 3) (hm : m_blocking_kinds_6 q0 p0 = some r) :
    Calls Tryz.prog 77 #[.agg #[.int .i64 p0.1, v1], .pointer (some ⟨b2, 0, none⟩)] s.w (RetS No s fun v s' => v = .bool r) := by
 unfold m_blocking_kinds_6 at hm
 obtain ⟨N, hN, hNb⟩ := s.fresh
 have m0 : Mv (Up N No) s s := Mv.refl _ _
 refine E.entry Tryz.func77 R Tryz.ntmps77 R R (ER (L.box (N + 0) Y R R R fun b3 s4 m5 bx3 => ?_))
 replace bx2 := bx2.mv m5 no_No
 replace h1 := h1.mono m5.z
 refine L.as Y R R (LN (ER (L.fa fa111_1 Y R R (L.ld (j := 1) bx3.mem nag72 Y R R R R (L.ld (j := 0) bx2.mem nag3 Y R R R R ?_)))))
 obtain ⟨f6, ef6, hm⟩ := bindS hm
 have hf6 := FO1.some h1 ef6
 obtain ⟨r7, er7, hm⟩ := bindS hm
 refine L.fv1 (y := q0) hf6 R R Y R R er7 R fun s8 m9 => ?_
 replace m0 := (m0.trans m5.no).trans m9.no
 refine L.as Y R R (LN (E.ret ?_))
 obtain rfl := oi hm
 exact X.rt (.inl R) Tryz.results77 (Rs.tmp R Rs.nil) R ⟨_, (s8).ren N (fun _ => 0), R, R, m0.ren hNb, R⟩

end Go.Proofs.YtfbapajcheammaaGreatDoor

namespace Go.Proofs.YtfbapajcheammaaGreatDoor
open Go Go.RowKit
theorem ag111 : Ag Tryz.prog 111 2 := Ag.mk' Tryz.underlying111 rfl (by kernel_rfl)
theorem sl112 : Sl Tryz.prog 112 111 2 := Sl.mk' Tryz.underlying112 (by kernel_rfl)
noncomputable def m_slices_IndexFunc_blocking_test_blocking_test_l1 (p0 : List (Int × (Option (Int → Option Bool)))) (p1 : (Int × (Option (Int → Option Bool))) → Option Bool) (st10 : Int) : Option (Int ⊕ (Unit ⊕ Int)) :=
 if decide (st10 < (p0.length : Int)) then
  (idx p0 st10).bind fun x19 =>
  (p1 x19).bind fun r22 =>
  if r22 then
   some (.inr (.inr (st10)))
  else
   some (.inl (W (st10 + 1)))
 else
  some (.inr (.inl ()))
noncomputable def m_slices_IndexFunc_blocking_test_blocking_test (p0 : List (Int × (Option (Int → Option Bool)))) (p1 : (Int × (Option (Int → Option Bool))) → Option Bool) : Option Int :=
 (iter (m_slices_IndexFunc_blocking_test_blocking_test_l1 p0 p1) 0).bind fun o10 =>
 match o10 with
 | .inl u13 =>
  some (-1)
 | .inr (u16) =>
  some u16
theorem m_slices_IndexFunc_blocking_test_blocking_test_c {s : Sig} {p0 : List (Int × (Option (Int → Option Bool)))} {p1 : (Int × (Option (Int → Option Bool))) → Option Bool} {a1 : Option Addr} {c1 : Nat} {vp1 : Value} {r : Int} (h1 : RdL (rP qI (rF1 Tryz.prog (fun (x0 : Int) => [.int .i64 x0]) (fun (r : Bool) => .bool r))) s a1 c1 p0) (hp1 : FW1 Tryz.prog s vp1 (rP qI (rF1 Tryz.prog (fun (x0 : Int) => [.int .i64 x0]) (fun (r : Bool) => .bool r))) (fun (r : Bool) => .bool r) p1) (hm : m_slices_IndexFunc_blocking_test_blocking_test p0 p1 = some r) :
    Calls Tryz.prog 76 #[.slice a1 p0.length c1, vp1] s.w (RetS No s fun v s' => v = .int .i64 r) := by
 unfold m_slices_IndexFunc_blocking_test_blocking_test at hm
 obtain ⟨N, hN, hNb⟩ := s.fresh
 have m0 : Mv (Up N No) s s := Mv.refl _ _
 refine E.entry Tryz.func76 R Tryz.ntmps76 R R (ER (L.as Y R R (LN (E.seq (ER (L.mv Y R R (L.len sl112 Y R R (L.mv Y R R (LN (E.block ?_))))))))))
 obtain ⟨o10, eo10, hm⟩ := bindS hm
 refine E.cut (x := .exit 0) (fun e w => ∃ (s14 : Sig) (u13 : Unit), o10 = .inl u13 ∧ Mv (Up N No) s s14 ∧ e = [] ∧ w = s14.w) ?_ ?_
 ·rintro _ _ ⟨s14, u13, rfl, m0, rfl, rfl⟩
  dsimp only at hm
  refine X.blkE (X.seqN (ER (L.as Y R R (LN (E.ret ?_)))))
  obtain rfl := oi hm
  exact X.rt (.inl R) Tryz.results76 (Rs.tmp R Rs.nil) R ⟨_, (s14).ren N (fun _ => 0), R, R, m0.ren hNb, R⟩
 intro K15
 refine E.cut (x := .ret) (fun e w => ∃ (s17 : Sig) (u16 : Int), o10 = .inr (u16) ∧ Mv (Up N No) s s17 ∧ e = [(4, .int .i64 u16)] ∧ w = s17.w) ?_ ?_
 ·rintro _ _ ⟨s17, u16, rfl, m0, rfl, rfl⟩
  dsimp only at hm
  refine X.blkR (X.seqR ?_)
  obtain rfl := oi hm
  exact X.rt (.inl R) Tryz.results76 (Rs.tmp R Rs.nil) R ⟨_, (s17).ren N (fun _ => 0), R, R, m0.ren hNb, R⟩
 intro K18
 refine E.iter (fun (st10 : Int) (e : List (Nat × Value)) (w : World) => ∃ (s12 : Sig), Mv (Up N No) s s12 ∧ RdL (rP qI (rF1 Tryz.prog (fun (x0 : Int) => [.int .i64 x0]) (fun (r : Bool) => .bool r))) s12 a1 c1 p0 ∧ FW1 Tryz.prog s12 vp1 (rP qI (rF1 Tryz.prog (fun (x0 : Int) => [.int .i64 x0]) (fun (r : Bool) => .bool r))) (fun (r : Bool) => .bool r) p1 ∧ e = [(8, .int .i64 st10), (7, .int .i64 (p0.length : Int)), (0, .slice a1 p0.length c1), (1, vp1)] ∧ w = s12.w) eo10 ⟨s, m0, h1, hp1, R, R⟩ (Sub.rf R) ?_
 rintro st10 res10 hm ih10 ho10 _ _ ⟨s12, m0, h1, hp1, rfl, rfl⟩
 unfold m_slices_IndexFunc_blocking_test_blocking_test_l1 at hm
 refine ER (L.bi Y R R R R (LN (E.seq ?_)))
 rcases ifS hm with ⟨hc, hm⟩ | ⟨hc, hm⟩
 ·refine E.cT R hc (E.skip (X.seqN (E.seq (E.block (ER (L.mv Y R R (L.as Y R R (LN (ER (L.mv Y R R (L.mv Y R R (L.mv Y R R ?_))))))))))))
  obtain ⟨x19, ex19, hm⟩ := bindS hm
  refine L.ix (r := (rP qI (rF1 Tryz.prog (fun (x0 : Int) => [.int .i64 x0]) (fun (r : Bool) => .bool r)))) sl112 h1 Y R R ex19 R fun b20 o20 cc20 me20 rd20 => ?_
  obtain ⟨_, _, rfl, rfl, ⟨v21, rfl, h21⟩⟩ := rd20
  refine L.lg (j := 0) (cs := [.int .i64 x19.1, v21]) me20 ag111 Y R R R R R ?_
  obtain ⟨r22, er22, hm⟩ := bindS hm
  refine L.fw1 (cs := [.int .i64 x19.1, v21]) (y := x19) hp1 ⟨[.int .i64 x19.1], [v21], R, R, ⟨_, R, h21⟩⟩ R R Y R R er22 R fun s23 m24 => ?_
  replace m0 := m0.trans m24.no
  replace h1 := h1.mono m24.z
  replace hp1 := hp1.mono m24.z
  refine L.nil (X.seqN ?_)
  rcases ifS hm with ⟨hc, hm⟩ | ⟨hc, hm⟩
  ·refine E.cT R hc (ER (L.mv Y R R (L.as Y R R (LN (E.ret (X.blkR (X.seqR (X.seqR ?_))))))))
   have hx := ho10 _ (oi hm).symm
   exact X.sub (K18 _ _ ⟨s23, st10, hx.symm, m0, R, R⟩) (Sub.rf R)
  exact E.cF R hc (E.skip (X.blkN (X.seqN (E.reg (L.bi Y R R R R (L.mv Y R R (L.nil (X.sub (ih10 _ (oi hm).symm _ _ ⟨s23, m0, h1, hp1, R, R⟩) (Sub.rf R)))))))))
 refine E.cF R hc (E.exit (X.seqX (X.seqX ?_)))
 have hx := ho10 _ (oi hm).symm
 exact X.sub (K15 _ _ ⟨s12, (), hx.symm, m0, R, R⟩) Sub.nil

theorem bs112 : Bs Tryz.prog 112 111 2 [.int .i64 0, .nilFunc] := Bs.mk' Tryz.underlying112 (by kernel_rfl) (by kernel_rfl) rfl
theorem cf35 : Cf Tryz.prog 35 := Cf.mk Tryz.func35 (by kernel_rfl) (by kernel_rfl)
theorem cf71 : Cf Tryz.prog 71 := Cf.mk Tryz.func71 (by kernel_rfl) (by kernel_rfl)
theorem cf72 : Cf Tryz.prog 72 := Cf.mk Tryz.func72 (by kernel_rfl) (by kernel_rfl)
theorem cf73 : Cf Tryz.prog 73 := Cf.mk Tryz.func73 (by kernel_rfl) (by kernel_rfl)
theorem cf74 : Cf Tryz.prog 74 := Cf.mk Tryz.func74 (by kernel_rfl) (by kernel_rfl)
theorem cf75 : Cf Tryz.prog 75 := Cf.mk Tryz.func75 (by kernel_rfl) (by kernel_rfl)
theorem cf76 : Cf Tryz.prog 76 := Cf.mk Tryz.func76 (by kernel_rfl) (by kernel_rfl)
theorem cf77 : Cf Tryz.prog 77 := Cf.mk Tryz.func77 (by kernel_rfl) (by kernel_rfl)
theorem fa111_0 : FA Tryz.prog 111 0 0 := FA.mk Tryz.underlying111 rfl rfl ⟨1, by decide, by kernel_rfl⟩
theorem nag4 : NAg Tryz.prog 4 := NAg.mk' Tryz.underlying4 rfl (by kernel_rfl)
theorem pl111 : Pl Tryz.prog 111 [(0, 1), (1, 1)] [.int .i64 0, .nilFunc] := Pl.str Tryz.underlying111 (by kernel_rfl) (by kernel_rfl)
theorem sl55 : Sl Tryz.prog 55 4 1 := Sl.mk' Tryz.underlying55 (by kernel_rfl)
theorem zr4 : Zr Tryz.prog rB 4 1 false := Zr.mk' (v := .bool false) (by kernel_rfl) (by kernel_rfl) (by kernel_rfl) (fun _ => rfl)
theorem zz27 : (Tryz.prog.info? 27).bind (·.zero) = some (.slice none 0 0) := by kernel_rfl
theorem zz3 : (Tryz.prog.info? 3).bind (·.zero) = some (.int .i64 0) := by kernel_rfl
theorem fv75 {s : Sig} : FV1 Tryz.prog s (.func (.func 75) #[] #[]) (fun (x0 : Int) => [.int .i64 x0]) (fun r => .bool r) m_blocking_kinds_5 := ⟨75, #[], #[], rfl, cf75, fun x0 r hm s' hl => by have hh := m_blocking_kinds_5_c (s := s') hm; simpa using hh⟩
noncomputable def m_blocking_kinds_l3 (r8 : List Int) (r71 : List Int) (x89 : List Int) (st125 : Int × List Int) : Option ((Int × List Int) ⊕ (List Int)) :=
 if decide (st125.1 < (x89.length : Int)) then
  (m_slices_IndexFunc_blocking_test_blocking_test ([(1, (some (m_blocking_kinds_1 r8))), (2, (some (m_blocking_kinds_2 r8))), (3, (some (m_blocking_kinds_3 r71))), (5, (some (m_blocking_kinds_4 r71))), (4, (some m_blocking_kinds_5))] : List (Int × (Option (Int → Option Bool)))) (m_blocking_kinds_6 st125.1)).bind fun r137 =>
  (idx ([(1, (some (m_blocking_kinds_1 r8))), (2, (some (m_blocking_kinds_2 r8))), (3, (some (m_blocking_kinds_3 r71))), (5, (some (m_blocking_kinds_4 r71))), (4, (some m_blocking_kinds_5))] : List (Int × (Option (Int → Option Bool)))) r137).bind fun x145 =>
  (idx st125.2 st125.1).bind fun x151 =>
  (upd st125.2 st125.1 x145.1).bind fun x154 =>
  some (.inl (W (st125.1 + 1), x154))
 else
  some (.inr st125.2)
noncomputable def m_blocking_kinds_j1 (st65 : Int × List Int) (l159 : List Int) : Option ((Int × List Int) ⊕ (List Int)) :=
 some (.inl (W (st65.1 + 1), l159))
noncomputable def m_blocking_kinds_l2 (r8 : List Int) (o37 : List Bool) (st65 : Int × List Int) : Option ((Int × List Int) ⊕ (List Int)) :=
 if decide (st65.1 < (r8.length : Int)) then
  (idx r8 st65.1).bind fun x163 =>
  (if decide (x163 < 0) then
   (idx o37 st65.1).bind fun x175 =>
   some (!x175)
  else
   some false).bind fun b165 =>
  if b165 then
   (app st65.2 ([st65.1] : List Int)).bind fun x170 =>
   m_blocking_kinds_j1 st65 x170
  else
   m_blocking_kinds_j1 st65 st65.2
 else
  some (.inr st65.2)
noncomputable def m_blocking_kinds_l1 (p0 : AutT) (st37 : Int × List Bool) : Option ((Int × List Bool) ⊕ (List Bool)) :=
 if decide (st37.1 < (p0.2.2.2.length : Int)) then
  (idx p0.2.2.2 st37.1).bind fun x178 =>
  (idx st37.2 x178.1).bind fun x185 =>
  (upd st37.2 x178.1 true).bind fun x187 =>
  some (.inl (W (st37.1 + 1), x187))
 else
  some (.inr st37.2)
noncomputable def m_blocking_kinds (p0 : AutT) : Option (List Int) :=
 (m_blocking_spread p0 p0.2.2.1).bind fun r8 =>
 (mkL p0.2.1 false).bind fun x17 =>
 (iter (m_blocking_kinds_l1 p0) (0, x17)).bind fun o37 =>
 (iter (m_blocking_kinds_l2 r8 o37) (0, ([] : List Int))).bind fun o65 =>
 (m_blocking_spread p0 o65).bind fun r71 =>
 (mkL p0.2.1 (0 : Int)).bind fun x89 =>
 (iter (m_blocking_kinds_l3 r8 r71 x89) (0, x89)).bind fun o125 =>
 some o125
theorem m_blocking_kinds_c {s : Sig} {p0 : AutT} {a1 : Option Addr} {c1 : Nat} {a2 : Option Addr} {c2 : Nat} {a3 : Option Addr} {c3 : Nat} {u0 : Nat} {r : List Int} (h1 : RdL qI s a1 c1 p0.1) (h2 : RdL qI s a2 c2 p0.2.2.1) (h3 : RdL qT s a3 c3 p0.2.2.2) (hm : m_blocking_kinds p0 = some r) :
    Calls Tryz.prog 36 #[.agg #[.slice a1 p0.1.length c1, .int .i64 p0.2.1, .slice a2 p0.2.2.1.length c2, .slice a3 p0.2.2.2.length c3]] s.w (RetS No s fun v s' => ∃ (a4 : Option Addr) (c4 : Nat), v = .slice a4 r.length c4 ∧ RowT qI s' u0 3 a4 c4 r) := by
 unfold m_blocking_kinds at hm
 obtain ⟨N, hN, hNb⟩ := s.fresh
 have m0 : Mv (Up N No) s s := Mv.refl _ _
 refine E.entry Tryz.func36 R Tryz.ntmps36 R R (ER (L.box (N + 0) Y R R R fun b5 s6 m7 bx5 => ?_))
 replace h1 := h1.mono m7.z
 replace h2 := h2.mono m7.z
 replace h3 := h3.mono m7.z
 refine L.as Y R R (LN (ER (L.lg (j := 0) (cs := [.slice a1 p0.1.length c1, .int .i64 p0.2.1, .slice a2 p0.2.2.1.length c2, .slice a3 p0.2.2.2.length c3]) bx5.mem ag30 Y R R R R R (L.fa fa30_2 Y R R (L.ld (j := 2) bx5.mem nag27 Y R R R R ?_)))))
 obtain ⟨r8, er8, hm⟩ := bindS hm
 refine L.ca cf35 R R Y R (m_blocking_spread_c (s := s6) (p0 := p0) (p1 := p0.2.2.1) (u0 := 0) h1 h2 h3 h2 er8) R ?_
 rintro _ s9 m10 ⟨a11, c11, rfl, h11⟩
 refine L.al (N + 1) zz27 R Y R fun b12 s13 m14 bx12 => ?_
 refine L.st (c := [.slice a11 r8.length c11]) (cs' := #[.slice a11 r8.length c11]) bx12 nag27.sz Y R R R R R (nb R) R fun s15 m16 bx12 => ?_
 replace bx5 := ((bx5.mv m10 no_No).mv m14 no_No).mv m16 (tq R)
 refine LN (ER (L.fa fa30_1 Y R R (L.ld (j := 1) bx5.mem nag3 Y R R R R ?_)))
 obtain ⟨x17, ex17, hm⟩ := bindS hm
 refine L.mk (z := false) (N + 2) Tryz.underlying55 zr4 R Y R R ex17 R fun b18 s19 m20 h18 => ?_
 replace m0 := ((((m0.trans m7.no).trans m10.no).trans m14.no).trans (m16.one up)).trans m20.no
 replace bx5 := bx5.mv m20 no_No
 replace h1 := (((h1.mono m10.z).mono m14.z).mono (m16.le (tg0 hN))).mono m20.z
 replace h2 := (((h2.mono m10.z).mono m14.z).mono (m16.le (tg0 hN))).mono m20.z
 replace h3 := (((h3.mono m10.z).mono m14.z).mono (m16.le (tg0 hN))).mono m20.z
 replace bx12 := bx12.mv m20 no_No
 replace h11 := (((h11.p).mono m14.z).mono (m16.le (tg0 hN))).mono m20.z
 refine L.as Y R R (LN (E.seq (ER (L.fa fa30_3 Y R R (L.ld (j := 3) bx5.mem nag28 Y R R R R (L.len sl28 Y R R (L.mv Y R R (LN (E.block ?_)))))))))
 obtain ⟨o37, eo37, hm⟩ := bindS hm
 refine E.cut (x := .exit 0) (fun e w => ∃ (s40 : Sig), Mv (Up N No) s s40 ∧ RowT rB s40 (N + 2) 4 (some ⟨b18, 0, none⟩) x17.length o37 ∧ RdL qI s40 a1 c1 p0.1 ∧ RdL qI s40 a2 c2 p0.2.2.1 ∧ RdL qT s40 a3 c3 p0.2.2.2 ∧ RdL qI s40 a11 c11 r8 ∧ Bx s40 (N + 0) b5 #[.slice a1 p0.1.length c1, .int .i64 p0.2.1, .slice a2 p0.2.2.1.length c2, .slice a3 p0.2.2.2.length c3] 30 ∧ Bx s40 (N + 1) b12 #[.slice a11 r8.length c11] 27 ∧ e = [(4, .slice (some ⟨b18, 0, none⟩) o37.length x17.length), (3, .pointer (some ⟨b12, 0, none⟩)), (1, .pointer (some ⟨b5, 0, none⟩))] ∧ w = s40.w) ?_ ?_
 ·rintro _ _ ⟨s40, m0, h18, h1, h2, h3, h11, bx5, bx12, rfl, rfl⟩
  refine X.blkE (X.seqN (ER (L.as Y R R (LN (E.seq (ER (L.ld (j := 0) bx12.mem nag27 Y R R R R (L.len sl27 Y R R (L.mv Y R R (LN (E.block ?_)))))))))))
  obtain ⟨o65, eo65, hm⟩ := bindS hm
  refine E.cut (x := .exit 2) (fun e w => ∃ (s69 : Sig) (a67 : Option Addr) (c67 : Nat), Mv (Up N No) s s69 ∧ RowT qI s69 (N + 4) 3 a67 c67 o65 ∧ RdL qI s69 a1 c1 p0.1 ∧ RdL qI s69 a2 c2 p0.2.2.1 ∧ RdL qT s69 a3 c3 p0.2.2.2 ∧ RdL qI s69 a11 c11 r8 ∧ Bx s69 (N + 0) b5 #[.slice a1 p0.1.length c1, .int .i64 p0.2.1, .slice a2 p0.2.2.1.length c2, .slice a3 p0.2.2.2.length c3] 30 ∧ Bx s69 (N + 1) b12 #[.slice a11 r8.length c11] 27 ∧ e = [(7, .slice a67 o65.length c67), (3, .pointer (some ⟨b12, 0, none⟩)), (1, .pointer (some ⟨b5, 0, none⟩))] ∧ w = s69.w) ?_ ?_
  ·rintro _ _ ⟨s69, a67, c67, m0, h67, h1, h2, h3, h11, bx5, bx12, rfl, rfl⟩
   refine X.blkE (X.seqN (ER (L.lg (j := 0) (cs := [.slice a1 p0.1.length c1, .int .i64 p0.2.1, .slice a2 p0.2.2.1.length c2, .slice a3 p0.2.2.2.length c3]) bx5.mem ag30 Y R R R R R (L.mv Y R R ?_))))
   have m70 := Sig.fz_mv (N + 4) s69
   replace h67 := h67.fz (tgn hN)
   replace h1 := h1.mono (m70.le (tg0 hN))
   replace h2 := h2.mono (m70.le (tg0 hN))
   replace h3 := h3.mono (m70.le (tg0 hN))
   refine L.toR (s' := (Sig.fz (N + 4) s69)) R ?_
   obtain ⟨r71, er71, hm⟩ := bindS hm
   refine L.ca cf35 R R Y R (m_blocking_spread_c (s := (Sig.fz (N + 4) s69)) (p0 := p0) (p1 := o65) (u0 := 0) h1 h2 h3 h67 er71) R ?_
   rintro _ s72 m73 ⟨a74, c74, rfl, h74⟩
   refine L.al (N + 5) zz27 R Y R fun b75 s76 m77 bx75 => ?_
   refine L.st (c := [.slice a74 r71.length c74]) (cs' := #[.slice a74 r71.length c74]) bx75 nag27.sz Y R R R R R (nb R) R fun s78 m79 bx75 => ?_
   refine LN (E.seq (E.reg ?_))
   have m80 := Sig.fz_mv (N + 1) s78
   replace bx12 := ((((bx12.mv m70 (tq R)).mv m73 no_No).mv m77 no_No).mv m79 (tq R)).fz (tgn hN)
   replace h11 := ((((h11.mono (m70.le (tg0 hN))).mono m73.z).mono m77.z).mono (m79.le (tg0 hN))).mono (m80.le (tg0 hN))
   refine L.toR (s' := (Sig.fz (N + 1) s78)) R ?_
   have h81 : FV1 Tryz.prog (Sig.fz (N + 1) s78) (.func (.func 71) #[] #[.pointer (some ⟨b12, 0, none⟩)]) (fun (x0 : Int) => [.int .i64 x0]) (fun (r : Bool) => .bool r) (m_blocking_kinds_1 r8) := ⟨71, #[], #[.pointer (some ⟨b12, 0, none⟩)], rfl, cf71, fun x0 r hm s' hl => by have hh := m_blocking_kinds_1_c (s := s') (h11.mono hl) (bx12.le hl) hm; simpa using hh⟩
   refine L.mf Y R R R (L.bu (cs := [.int .i64 1, (.func (.func 71) #[] #[.pointer (some ⟨b12, 0, none⟩)])]) pl111 Y R R R ?_)
   have h82 : FV1 Tryz.prog (Sig.fz (N + 1) s78) (.func (.func 72) #[] #[.pointer (some ⟨b12, 0, none⟩)]) (fun (x0 : Int) => [.int .i64 x0]) (fun (r : Bool) => .bool r) (m_blocking_kinds_2 r8) := ⟨72, #[], #[.pointer (some ⟨b12, 0, none⟩)], rfl, cf72, fun x0 r hm s' hl => by have hh := m_blocking_kinds_2_c (s := s') (h11.mono hl) (bx12.le hl) hm; simpa using hh⟩
   refine L.mf Y R R R (L.bu (cs := [.int .i64 2, (.func (.func 72) #[] #[.pointer (some ⟨b12, 0, none⟩)])]) pl111 Y R R R ?_)
   have m83 := Sig.fz_mv (N + 5) (Sig.fz (N + 1) s78)
   replace bx75 := (bx75.mv m80 (tq R)).fz (tgn hN)
   replace h74 := ((((h74.p).mono m77.z).mono (m79.le (tg0 hN))).mono (m80.le (tg0 hN))).mono (m83.le (tg0 hN))
   refine L.toR (s' := (Sig.fz (N + 5) (Sig.fz (N + 1) s78))) R ?_
   have h84 : FV1 Tryz.prog (Sig.fz (N + 5) (Sig.fz (N + 1) s78)) (.func (.func 73) #[] #[.pointer (some ⟨b75, 0, none⟩)]) (fun (x0 : Int) => [.int .i64 x0]) (fun (r : Bool) => .bool r) (m_blocking_kinds_3 r71) := ⟨73, #[], #[.pointer (some ⟨b75, 0, none⟩)], rfl, cf73, fun x0 r hm s' hl => by have hh := m_blocking_kinds_3_c (s := s') (h74.mono hl) (bx75.le hl) hm; simpa using hh⟩
   refine L.mf Y R R R (L.bu (cs := [.int .i64 3, (.func (.func 73) #[] #[.pointer (some ⟨b75, 0, none⟩)])]) pl111 Y R R R ?_)
   have h85 : FV1 Tryz.prog (Sig.fz (N + 5) (Sig.fz (N + 1) s78)) (.func (.func 74) #[] #[.pointer (some ⟨b75, 0, none⟩)]) (fun (x0 : Int) => [.int .i64 x0]) (fun (r : Bool) => .bool r) (m_blocking_kinds_4 r71) := ⟨74, #[], #[.pointer (some ⟨b75, 0, none⟩)], rfl, cf74, fun x0 r hm s' hl => by have hh := m_blocking_kinds_4_c (s := s') (h74.mono hl) (bx75.le hl) hm; simpa using hh⟩
   refine L.mf Y R R R (L.bu (cs := [.int .i64 5, (.func (.func 74) #[] #[.pointer (some ⟨b75, 0, none⟩)])]) pl111 Y R R R (L.bu (cs := [.int .i64 4, (.func (.func 75) #[] #[])]) pl111 Y R R R (L.bsE (k := 5) (cs := [.int .i64 1, (.func (.func 71) #[] #[.pointer (some ⟨b12, 0, none⟩)]), .int .i64 2, (.func (.func 72) #[] #[.pointer (some ⟨b12, 0, none⟩)]), .int .i64 3, (.func (.func 73) #[] #[.pointer (some ⟨b75, 0, none⟩)]), .int .i64 5, (.func (.func 74) #[] #[.pointer (some ⟨b75, 0, none⟩)]), .int .i64 4, (.func (.func 75) #[] #[])]) 0 bs112 (nb R) Y R R R R fun b86 s87 m88 bx86 => ?_)))
   replace bx5 := ((((((bx5.mv m70 (tq R)).mv m73 no_No).mv m77 no_No).mv m79 (tq R)).mv m80 (tq R)).mv m83 (tq R)).mv m88 no_No
   replace h81 := (h81.mono (m83.le (tg0 hN))).mono m88.z
   replace h82 := (h82.mono (m83.le (tg0 hN))).mono m88.z
   replace h84 := h84.mono m88.z
   replace h85 := h85.mono m88.z
   have h86 := Bx.rdL (r := (rP qI (rF1 Tryz.prog (fun (x0 : Int) => [.int .i64 x0]) (fun (r : Bool) => .bool r)))) (xs := ([(1, (some (m_blocking_kinds_1 r8))), (2, (some (m_blocking_kinds_2 r8))), (3, (some (m_blocking_kinds_3 r71))), (5, (some (m_blocking_kinds_4 r71))), (4, (some m_blocking_kinds_5))] : List (Int × (Option (Int → Option Bool))))) bx86 ⟨[.int .i64 1, (.func (.func 71) #[] #[.pointer (some ⟨b12, 0, none⟩)])], _, R, ⟨[.int .i64 1], [(.func (.func 71) #[] #[.pointer (some ⟨b12, 0, none⟩)])], R, R, ⟨_, R, h81⟩⟩, ⟨[.int .i64 2, (.func (.func 72) #[] #[.pointer (some ⟨b12, 0, none⟩)])], _, R, ⟨[.int .i64 2], [(.func (.func 72) #[] #[.pointer (some ⟨b12, 0, none⟩)])], R, R, ⟨_, R, h82⟩⟩, ⟨[.int .i64 3, (.func (.func 73) #[] #[.pointer (some ⟨b75, 0, none⟩)])], _, R, ⟨[.int .i64 3], [(.func (.func 73) #[] #[.pointer (some ⟨b75, 0, none⟩)])], R, R, ⟨_, R, h84⟩⟩, ⟨[.int .i64 5, (.func (.func 74) #[] #[.pointer (some ⟨b75, 0, none⟩)])], _, R, ⟨[.int .i64 5], [(.func (.func 74) #[] #[.pointer (some ⟨b75, 0, none⟩)])], R, R, ⟨_, R, h85⟩⟩, ⟨[.int .i64 4, (.func (.func 75) #[] #[])], _, R, ⟨[.int .i64 4], [(.func (.func 75) #[] #[])], R, R, ⟨_, R, fv75⟩⟩, R⟩⟩⟩⟩⟩ (nb R)
   refine L.as Y R R (LN (ER (L.fa fa30_1 Y R R (L.ld (j := 1) bx5.mem nag3 Y R R R R ?_))))
   obtain ⟨x89, ex89, hm⟩ := bindS hm
   refine L.mk (z := (0 : Int)) (N + 6) Tryz.underlying27 zr3 R Y R R ex89 R fun b90 s91 m92 h90 => ?_
   replace m0 := (((((((m0.trans (m70.one up)).trans m73.no).trans m77.no).trans (m79.one up)).trans (m80.one up)).trans (m83.one up)).trans m88.no).trans m92.no
   replace h86 := h86.mono m92.z
   refine L.as Y R R (LN (E.seq (ER (L.mv Y R R (L.len sl27 Y R R (L.mv Y R R (LN (E.block ?_))))))))
   obtain ⟨o125, eo125, hm⟩ := bindS hm
   refine E.cut (x := .exit 4) (fun e w => ∃ (s128 : Sig), Mv (Up N No) s s128 ∧ RowT qI s128 (N + 6) 3 (some ⟨b90, 0, none⟩) x89.length o125 ∧ e = [(12, .slice (some ⟨b90, 0, none⟩) o125.length x89.length)] ∧ w = s128.w) ?_ ?_
   ·rintro _ _ ⟨s128, m0, h90, rfl, rfl⟩
    refine X.blkE (X.seqN (ER (L.mv Y R R (L.as Y R R (LN (E.ret ?_))))))
    obtain rfl := oi hm
    exact X.rt (.inl R) Tryz.results36 (Rs.tmp R Rs.nil) R ⟨_, (s128).ren N (fun k => cond (Nat.beq k 6) u0 (0)), R, R, m0.ren hNb, ⟨(some ⟨b90, 0, none⟩), x89.length, R, (h90.ren hN)⟩⟩
   intro K129
   refine E.iter (fun (st125 : Int × List Int) (e : List (Nat × Value)) (w : World) => ∃ (s127 : Sig), Mv (Up N No) s s127 ∧ RowT qI s127 (N + 6) 3 (some ⟨b90, 0, none⟩) x89.length st125.2 ∧ RdL (rP qI (rF1 Tryz.prog (fun (x0 : Int) => [.int .i64 x0]) (fun (r : Bool) => .bool r))) s127 (some ⟨b86, 0, none⟩) (([(1, (some (m_blocking_kinds_1 r8))), (2, (some (m_blocking_kinds_2 r8))), (3, (some (m_blocking_kinds_3 r71))), (5, (some (m_blocking_kinds_4 r71))), (4, (some m_blocking_kinds_5))] : List (Int × (Option (Int → Option Bool)))).length) ([(1, (some (m_blocking_kinds_1 r8))), (2, (some (m_blocking_kinds_2 r8))), (3, (some (m_blocking_kinds_3 r71))), (5, (some (m_blocking_kinds_4 r71))), (4, (some m_blocking_kinds_5))] : List (Int × (Option (Int → Option Bool)))) ∧ e = [(73, .int .i64 st125.1), (72, .int .i64 (x89.length : Int)), (12, .slice (some ⟨b90, 0, none⟩) st125.2.length x89.length), (11, .slice (some ⟨b86, 0, none⟩) ([(1, (some (m_blocking_kinds_1 r8))), (2, (some (m_blocking_kinds_2 r8))), (3, (some (m_blocking_kinds_3 r71))), (5, (some (m_blocking_kinds_4 r71))), (4, (some m_blocking_kinds_5))] : List (Int × (Option (Int → Option Bool)))).length (([(1, (some (m_blocking_kinds_1 r8))), (2, (some (m_blocking_kinds_2 r8))), (3, (some (m_blocking_kinds_3 r71))), (5, (some (m_blocking_kinds_4 r71))), (4, (some m_blocking_kinds_5))] : List (Int × (Option (Int → Option Bool)))).length))] ∧ w = s127.w) eo125 ⟨s91, m0, h90, h86, R, R⟩ (Sub.rf R) ?_
   rintro st125 res125 hm ih125 ho125 _ _ ⟨s127, m0, h90, h86, rfl, rfl⟩
   unfold m_blocking_kinds_l3 at hm
   refine ER (L.bi Y R R R R (LN (E.seq ?_)))
   rcases ifS hm with ⟨hc, hm⟩ | ⟨hc, hm⟩
   ·refine E.cT R hc (E.skip (X.seqN (E.seq (E.block (ER (L.mv Y R R (L.al (N + 7) zz3 R Y R fun b130 s131 m132 bx130 => ?_)))))))
    refine L.st (c := [.int .i64 st125.1]) (cs' := #[.int .i64 st125.1]) bx130 nag3.sz Y R R R R R (nb R) R fun s133 m134 bx130 => ?_
    refine LN (ER (L.mv Y R R ?_))
    have m135 := Sig.fz_mv (N + 7) s133
    replace bx130 := bx130.fz (tgn hN)
    replace h86 := ((h86.mono m132.z).mono (m134.le (tg0 hN))).mono (m135.le (tg0 hN))
    refine L.toR (s' := (Sig.fz (N + 7) s133)) R ?_
    have h136 : FW1 Tryz.prog (Sig.fz (N + 7) s133) (.func (.func 77) #[] #[.pointer (some ⟨b130, 0, none⟩)]) (rP qI (rF1 Tryz.prog (fun (x0 : Int) => [.int .i64 x0]) (fun (r : Bool) => .bool r))) (fun (r : Bool) => .bool r) (m_blocking_kinds_6 st125.1) := ⟨77, #[], #[.pointer (some ⟨b130, 0, none⟩)], rfl, cf77, fun x0 r hm s' hl cs hrd => by obtain ⟨_, _, rfl, rfl, ⟨v0, rfl, hv0⟩⟩ := hrd; have hh := m_blocking_kinds_6_c (s := s') hv0 (bx130.le hl) hm; simpa using hh⟩
    refine L.mf Y R R R ?_
    obtain ⟨r137, er137, hm⟩ := bindS hm
    refine L.ca cf76 R R Y R (m_slices_IndexFunc_blocking_test_blocking_test_c (s := (Sig.fz (N + 7) s133)) (p0 := ([(1, (some (m_blocking_kinds_1 r8))), (2, (some (m_blocking_kinds_2 r8))), (3, (some (m_blocking_kinds_3 r71))), (5, (some (m_blocking_kinds_4 r71))), (4, (some m_blocking_kinds_5))] : List (Int × (Option (Int → Option Bool))))) (p1 := (m_blocking_kinds_6 st125.1)) h86 h136 er137) R ?_
    rintro _ s138 m139 rfl
    replace m0 := (((m0.trans m132.no).trans (m134.one up)).trans (m135.one up)).trans m139.no
    replace h86 := h86.mono m139.z
    replace h90 := (((h90.mv m132 no_No no_No).mv m134 (tq R) (tg0 hN)).mv m135 (tq R) (tg0 hN)).mv m139 no_No no_No
    replace bx130 := bx130.mv m139 no_No
    refine L.as Y R R (L.nil (X.seqN ?_))
    obtain ⟨x145, ex145, hm⟩ := bindS hm
    obtain ⟨x151, ex151, hm⟩ := bindS hm
    obtain ⟨x154, ex154, hm⟩ := bindS hm
    have elx154 := upd_len ex154
    refine E.draw [[], [], [], [], [2, 3], [2, 3, 4], [2, 3, 4, 5], [0, 1, 2, 3, 4, 5, 6], [0, 1, 2, 3, 4, 5, 6, 7]] (fun D e sx => Mv (One (N + 6)) s138 sx ∧ Sub [(14, .int .i64 r137), (13, .pointer (some ⟨b130, 0, none⟩)), (73, .int .i64 st125.1), (72, .int .i64 (x89.length : Int)), (12, .slice (some ⟨b90, 0, none⟩) st125.2.length x89.length), (11, .slice (some ⟨b86, 0, none⟩) ([(1, (some (m_blocking_kinds_1 r8))), (2, (some (m_blocking_kinds_2 r8))), (3, (some (m_blocking_kinds_3 r71))), (5, (some (m_blocking_kinds_4 r71))), (4, (some m_blocking_kinds_5))] : List (Int × (Option (Int → Option Bool)))).length (([(1, (some (m_blocking_kinds_1 r8))), (2, (some (m_blocking_kinds_2 r8))), (3, (some (m_blocking_kinds_3 r71))), (5, (some (m_blocking_kinds_4 r71))), (4, (some m_blocking_kinds_5))] : List (Int × (Option (Int → Option Bool)))).length))] e ∧ AllP [G D e 0 79 (.slice (some ⟨b90, 0, none⟩) st125.2.length x89.length), G D e 1 80 (.int .i64 st125.1), G D e 2 81 (.slice (some ⟨b86, 0, none⟩) ([(1, (some (m_blocking_kinds_1 r8))), (2, (some (m_blocking_kinds_2 r8))), (3, (some (m_blocking_kinds_3 r71))), (5, (some (m_blocking_kinds_4 r71))), (4, (some m_blocking_kinds_5))] : List (Int × (Option (Int → Option Bool)))).length (([(1, (some (m_blocking_kinds_1 r8))), (2, (some (m_blocking_kinds_2 r8))), (3, (some (m_blocking_kinds_3 r71))), (5, (some (m_blocking_kinds_4 r71))), (4, (some m_blocking_kinds_5))] : List (Int × (Option (Int → Option Bool)))).length)), G D e 3 82 (.int .i64 r137), D 4 = true → (∃ (b146 : Nat) (o146 : Nat) (v147 : Value), Env.get e 83 = some (.pointer (some ⟨b146, o146, none⟩)) ∧ Mem sx 0 b146 o146 [.int .i64 x145.1, v147] ∧ FO1 Tryz.prog sx v147 (fun (x0 : Int) => [.int .i64 x0]) (fun (r : Bool) => .bool r) x145.2), D 5 = true → ∀ (b146 : Nat) (o146 : Nat) (v147 : Value), Env.get e 83 = some (.pointer (some ⟨b146, o146, none⟩)) → (Env.get e 84 = some (.pointer (some ⟨b146, o146 + 0, none⟩))), G D e 6 85 (.int .i64 x145.1), D 7 = true → (∃ (b152 : Nat) (o152 : Nat), Env.get e 86 = some (.pointer (some ⟨b152, o152, none⟩)) ∧ Spot (some ⟨b90, 0, none⟩) qI.sz (st125.1).toNat b152 o152), D 8 = false → RowT qI sx (N + 6) 3 (some ⟨b90, 0, none⟩) x89.length st125.2, D 8 = true → RowT qI sx (N + 6) 3 (some ⟨b90, 0, none⟩) x89.length x154, D 7 = true → D 8 = false → ∀ (b152 : Nat) (o152 : Nat), Env.get e 86 = some (.pointer (some ⟨b152, o152, none⟩)) → Mem sx (N + 6) b152 o152 [.int .i64 x151]]) (by kernel_rfl) (by kernel_rfl) (by kernel_rfl) ?_ ?_ ?_
    ·intro sz mz
     exact ⟨mz.no, (Sub.rf R), nofun, nofun, nofun, nofun, nofun, nofun, nofun, nofun, fun _ => h90.mv mz no_No no_No, nofun, nofun, trivial⟩
    ·refine ⟨?_, ?_, ?_, ?_, ?_, ?_, ?_, ?_, ?_, trivial⟩
     ·rintro D e s140 ⟨im, ib, i⟩ hk hf ha
      have kn := K1 (ib 12 _ R)
      exact kn.g (L.mv Y R R (L.nil (X.dk kn ⟨im, Sub.fresh ib R, i.u 0 (fun _ => R)⟩)))
     ·rintro D e s141 ⟨im, ib, i⟩ hk hf ha
      have bx130 := bx130.mv im (tg0 hN)
      have kn := K1 (ib 13 _ R)
      exact kn.g (L.ld (j := 0) bx130.mem nag3 Y R R R R (L.nil (X.dk kn ⟨im, Sub.fresh ib R, i.u 1 (fun _ => R)⟩)))
     ·rintro D e s142 ⟨im, ib, i⟩ hk hf ha
      have kn := K1 (ib 11 _ R)
      exact kn.g (L.mv Y R R (L.nil (X.dk kn ⟨im, Sub.fresh ib R, i.u 2 (fun _ => R)⟩)))
     ·rintro D e s143 ⟨im, ib, i⟩ hk hf ha
      have kn := K1 (ib 14 _ R)
      exact kn.g (L.mv Y R R (L.nil (X.dk kn ⟨im, Sub.fresh ib R, i.u 3 (fun _ => R)⟩)))
     ·rintro D e s144 ⟨im, ib, i⟩ hk hf ha
      have h86 := h86.mono (im.le (tg0 hN))
      have kn := K2 ((i.p 2) (ha.at 2 R)) ((i.p 3) (ha.at 3 R))
      refine kn.g (L.ix (r := (rP qI (rF1 Tryz.prog (fun (x0 : Int) => [.int .i64 x0]) (fun (r : Bool) => .bool r)))) sl112 h86 Y R R ex145 R fun b146 o146 cc146 me146 rd146 => ?_)
      obtain ⟨_, _, rfl, rfl, ⟨v147, rfl, h147⟩⟩ := rd146
      exact L.nil (X.dk kn ⟨im, Sub.fresh ib R, (i.u 4 (fun _ => ⟨b146, o146, v147, R, me146, h147⟩)).u 5 (fun z => Bool.noConfusion ((hf 5 (nb R) R).symm.trans z))⟩)
     ·rintro D e s148 ⟨im, ib, i⟩ hk hf ha
      obtain ⟨b146, o146, v147, g4_, me146, h147⟩ := (i.p 4) (ha.at 4 R)
      have kn := K1 g4_
      exact kn.g (L.fa fa111_0 Y R R (L.nil (X.dk kn ⟨im, Sub.fresh ib R, i.u 5 (fun _ _ _ _ q4 => by cases g4_.symm.trans q4; exact R)⟩)))
     ·rintro D e s149 ⟨im, ib, i⟩ hk hf ha
      obtain ⟨b146, o146, v147, g4_, me146, h147⟩ := (i.p 4) (ha.at 4 R)
      have g5_ := (i.p 5) (ha.at 5 R) b146 o146 v147 g4_
      have kn := K1 g5_
      exact kn.g (L.ld (j := 0) me146 nag3 Y R R R R (L.nil (X.dk kn ⟨im, Sub.fresh ib R, i.u 6 (fun _ => R)⟩)))
     ·rintro D e s150 ⟨im, ib, i⟩ hk hf ha
      obtain h90 := (i.p 8) (hf 8 (nb R) R)
      have kn := K2 ((i.p 0) (ha.at 0 R)) ((i.p 1) (ha.at 1 R))
      refine kn.g (L.ir (r := qI) sl27 h90 Y R R ex151 R fun b152 o152 cc152 me152 rd152 sp152 => ?_)
      obtain rfl := rd152
      exact L.nil (X.dk kn ⟨im, Sub.fresh ib R, (i.u 7 (fun _ => ⟨b152, o152, R, sp152⟩)).u 10 (fun _ _ _ _ q7 => by cases (show some (.pointer (some ⟨b152, o152, none⟩) : Value) = some _ from q7); exact me152)⟩)
     rintro D e s153 ⟨im, ib, i⟩ hk hf ha
     obtain ⟨b152, o152, g7_, sp152⟩ := (i.p 7) (ha.at 7 R)
     obtain h90 := (i.p 8) hk
     have kn := K2 g7_ ((i.p 6) (ha.at 6 R))
     exact kn.g (L.su (fo := 0) (c := [.int .i64 x145.1]) (z := x145.1) h90 sp152 ex151 ex154 (tgp hN) nag3.sz Y R R R R R R (fun c0 hc0 => by obtain rfl := hc0; exact R) fun s155 m156 h90 => L.nil (X.dn kn ⟨im.trans (m156.one R), ib, ((((i.u 4 (fun z => let ⟨b146, o146, v147, q, me146, h147⟩ := (i.p 4) z; ⟨b146, o146, v147, q, (me146.mv m156 (tg0 hN)), (h147.mono (m156.le (tg0 hN)))⟩)).u 7 (fun z => let ⟨b152, o152, q, sp152⟩ := (i.p 7) z; ⟨b152, o152, q, sp152⟩)).u 8 (fun z => Bool.noConfusion (show true = false from z))).u 9 (fun _ => by exact h90)).u 10 (fun _ y8 => Bool.noConfusion (show true = false from y8))⟩))
    rintro D e s157 hD ⟨im, ib, i⟩
    obtain h90 := (i.p 9) (hD 8 R)
    have h86 := h86.mono (im.le (tg0 hN))
    have m0 := m0.trans (im.one up)
    refine X.sub (e' := [(73, .int .i64 st125.1), (72, .int .i64 (x89.length : Int)), (12, .slice (some ⟨b90, 0, none⟩) st125.2.length x89.length), (11, .slice (some ⟨b86, 0, none⟩) ([(1, (some (m_blocking_kinds_1 r8))), (2, (some (m_blocking_kinds_2 r8))), (3, (some (m_blocking_kinds_3 r71))), (5, (some (m_blocking_kinds_4 r71))), (4, (some m_blocking_kinds_5))] : List (Int × (Option (Int → Option Bool)))).length (([(1, (some (m_blocking_kinds_1 r8))), (2, (some (m_blocking_kinds_2 r8))), (3, (some (m_blocking_kinds_3 r71))), (5, (some (m_blocking_kinds_4 r71))), (4, (some m_blocking_kinds_5))] : List (Int × (Option (Int → Option Bool)))).length))]) ?_ (Sub.cons (ib 73 _ R) (Sub.cons (ib 72 _ R) (Sub.cons (ib 12 _ R) (Sub.cons (ib 11 _ R) Sub.nil))))
    exact X.reval (d := 12) R elx154 (X.blkN (X.seqN (E.reg (L.bi Y R R R R (L.mv Y R R (L.nil (X.sub (ih125 _ (oi hm).symm _ _ ⟨s157, m0, h90, h86, R, R⟩) (Sub.rf R))))))))
   refine E.cF R hc (E.exit (X.seqX (X.seqX ?_)))
   have hx := ho125 _ (oi hm).symm
   subst hx
   exact X.sub (K129 _ _ ⟨s127, m0, h90, R, R⟩) (Sub.rf R)
  intro K158
  refine E.iter (fun (st65 : Int × List Int) (e : List (Nat × Value)) (w : World) => ∃ (s68 : Sig) (a43 : Option Addr) (c43 : Nat), Mv (Up N No) s s68 ∧ RdL qI s68 a11 c11 r8 ∧ RowT qI s68 (N + 4) 3 a43 c43 st65.2 ∧ RowT rB s68 (N + 2) 4 (some ⟨b18, 0, none⟩) x17.length o37 ∧ RdL qI s68 a1 c1 p0.1 ∧ RdL qI s68 a2 c2 p0.2.2.1 ∧ RdL qT s68 a3 c3 p0.2.2.2 ∧ Bx s68 (N + 0) b5 #[.slice a1 p0.1.length c1, .int .i64 p0.2.1, .slice a2 p0.2.2.1.length c2, .slice a3 p0.2.2.2.length c3] 30 ∧ Bx s68 (N + 1) b12 #[.slice a11 r8.length c11] 27 ∧ e = [(36, .int .i64 st65.1), (35, .int .i64 (r8.length : Int)), (34, .slice a11 r8.length c11), (7, .slice a43 st65.2.length c43), (4, .slice (some ⟨b18, 0, none⟩) o37.length x17.length), (3, .pointer (some ⟨b12, 0, none⟩)), (1, .pointer (some ⟨b5, 0, none⟩))] ∧ w = s68.w) eo65 ⟨s40, none, 0, m0, h11, RowT.nil, h18, h1, h2, h3, bx5, bx12, R, R⟩ (Sub.rf R) ?_
  rintro st65 res65 hm ih65 ho65 _ _ ⟨s68, a43, c43, m0, h11, h43, h18, h1, h2, h3, bx5, bx12, rfl, rfl⟩
  unfold m_blocking_kinds_l2 at hm
  refine ER (L.bi Y R R R R (LN (E.seq ?_)))
  rcases ifS hm with ⟨hc, hm⟩ | ⟨hc, hm⟩
  ·refine E.cT R hc (E.skip (X.seqN (E.seqJ (fun e w => ∃ (s161 : Sig) (l159 : List Int) (a160 : Option Addr) (c160 : Nat), m_blocking_kinds_j1 st65 l159 = some res65 ∧ Mv (Up N No) s s161 ∧ RowT qI s161 (N + 4) 3 a160 c160 l159 ∧ RdL qI s161 a11 c11 r8 ∧ RowT rB s161 (N + 2) 4 (some ⟨b18, 0, none⟩) x17.length o37 ∧ RdL qI s161 a1 c1 p0.1 ∧ RdL qI s161 a2 c2 p0.2.2.1 ∧ RdL qT s161 a3 c3 p0.2.2.2 ∧ Bx s161 (N + 0) b5 #[.slice a1 p0.1.length c1, .int .i64 p0.2.1, .slice a2 p0.2.2.1.length c2, .slice a3 p0.2.2.2.length c3] 30 ∧ Bx s161 (N + 1) b12 #[.slice a11 r8.length c11] 27 ∧ e = [(7, .slice a160 l159.length c160), (36, .int .i64 st65.1), (35, .int .i64 (r8.length : Int)), (34, .slice a11 r8.length c11), (4, .slice (some ⟨b18, 0, none⟩) o37.length x17.length), (3, .pointer (some ⟨b12, 0, none⟩)), (1, .pointer (some ⟨b5, 0, none⟩))] ∧ w = s161.w) ?_ ?_)))
   ·rintro _ _ ⟨s161, l159, a160, c160, hm, m0, h160, h11, h18, h1, h2, h3, bx5, bx12, rfl, rfl⟩
    unfold m_blocking_kinds_j1 at hm
    exact E.reg (L.bi Y R R R R (L.mv Y R R (L.nil (X.sub (ih65 _ (oi hm).symm _ _ ⟨s161, a160, c160, m0, h11, h160, h18, h1, h2, h3, bx5, bx12, R, R⟩) (Sub.rf R)))))
   intro Jj162
   refine E.block (ER (L.mv Y R R ?_))
   obtain ⟨x163, ex163, hm⟩ := bindS hm
   refine L.ix (r := qI) sl27 h11 Y R R ex163 R fun b164 o164 cc164 me164 rd164 => ?_
   obtain rfl := rd164
   refine L.ld (j := 0) me164 nag3 Y R R R R (L.as Y R R (L.as Y R R (LN (ER (L.mv Y R R (L.bi Y R R R R (L.mv Y R R ?_)))))))
   obtain ⟨b165, eb165, hm⟩ := bindS hm
   refine L.cut 6 (fun e w => ∃ (v166 : Bool), b165 = v166 ∧ e = (49, .bool v166) :: [(8, .int .i64 st65.1), (36, .int .i64 st65.1), (35, .int .i64 (r8.length : Int)), (34, .slice a11 r8.length c11), (7, .slice a43 st65.2.length c43), (4, .slice (some ⟨b18, 0, none⟩) o37.length x17.length), (3, .pointer (some ⟨b12, 0, none⟩)), (1, .pointer (some ⟨b5, 0, none⟩))] ∧ w = s68.w) ?_ ?_
   ·rintro _ _ ⟨v166, rfl, rfl, rfl⟩
    refine L.nil (X.seqN ?_)
    rcases ifS hm with ⟨hc, hm⟩ | ⟨hc, hm⟩
    ·refine E.cT R hc (E.reg (L.mv Y R R (L.mv Y R R (L.bsE (k := 1) (cs := [.int .i64 st65.1]) 0 bs27 (nb R) Y R R R R fun b167 s168 m169 bx167 => ?_))))
     replace h43 := h43.mv m169 no_No no_No
     have h167 := Bx.rdL (r := qI) (xs := ([st65.1] : List Int)) bx167 ⟨[.int .i64 st65.1], _, R, R, R⟩ (nb R)
     obtain ⟨x170, ex170, hm⟩ := bindS hm
     refine L.ap (r := qI) Tryz.underlying27 el3 R (tgp hN) h43 h167.wk Y R R ex170 R fun a171 c171 s172 m173 h171 => ?_
     replace m0 := (m0.trans m169.no).trans (m173.one up)
     replace h11 := (h11.mono m169.z).mono (m173.le (tg0 hN))
     replace h18 := (h18.mv m169 no_No no_No).mv m173 (tq R) (tg0 hN)
     replace bx5 := (bx5.mv m169 no_No).mv m173 (tq R)
     replace h1 := (h1.mono m169.z).mono (m173.le (tg0 hN))
     replace h2 := (h2.mono m169.z).mono (m173.le (tg0 hN))
     replace h3 := (h3.mono m169.z).mono (m173.le (tg0 hN))
     replace bx12 := (bx12.mv m169 no_No).mv m173 (tq R)
     exact L.as Y R R (L.nil (X.blkN (X.sub (Jj162 _ _ ⟨s172, x170, a171, c171, hm, m0, h171, h11, h18, h1, h2, h3, bx5, bx12, R, R⟩) (Sub.rf R))))
    exact E.cF R hc (E.skip (X.blkN (X.sub (Jj162 _ _ ⟨s68, st65.2, a43, c43, hm, m0, h43, h11, h18, h1, h2, h3, bx5, bx12, R, R⟩) (Sub.rf R))))
   intro J174
   rcases ifS eb165 with ⟨hc, hm⟩ | ⟨hc, hm⟩
   ·refine L.know (d := 43) R hc (L.mv (Wt.mk R R) R R (L.mv (Wt.mk R R) R R ?_))
    obtain ⟨x175, ex175, hm⟩ := bindS hm
    refine L.ir (r := rB) sl55 h18 (Wt.mk R R) R R ex175 R fun b176 o176 cc176 me176 rd176 sp176 => ?_
    obtain rfl := rd176
    exact L.ld (j := 0) me176 nag4 (Wt.mk R R) R R R R (L.not (Wt.mk R R) R R (L.pkT Y R R R R (L.sb (J174 _ _ ⟨(!x175), (oi hm).symm, R, R⟩) R)))
   exact L.know (d := 43) R hc (L.skip R R R R (L.skip R R R R (L.skip R R R R (L.skip R R R R (L.skip R R R R (L.pkF Y R R R R (L.sb (J174 _ _ ⟨false, (oi hm).symm, R, R⟩) R)))))))
  refine E.cF R hc (E.exit (X.seqX (X.seqX ?_)))
  have hx := ho65 _ (oi hm).symm
  subst hx
  exact X.sub (K158 _ _ ⟨s68, a43, c43, m0, h43, h1, h2, h3, h11, bx5, bx12, R, R⟩) (Sub.rf R)
 intro K177
 refine E.iter (fun (st37 : Int × List Bool) (e : List (Nat × Value)) (w : World) => ∃ (s39 : Sig), Mv (Up N No) s s39 ∧ RdL qT s39 a3 c3 p0.2.2.2 ∧ RowT rB s39 (N + 2) 4 (some ⟨b18, 0, none⟩) x17.length st37.2 ∧ RdL qI s39 a1 c1 p0.1 ∧ RdL qI s39 a2 c2 p0.2.2.1 ∧ RdL qI s39 a11 c11 r8 ∧ Bx s39 (N + 0) b5 #[.slice a1 p0.1.length c1, .int .i64 p0.2.1, .slice a2 p0.2.2.1.length c2, .slice a3 p0.2.2.2.length c3] 30 ∧ Bx s39 (N + 1) b12 #[.slice a11 r8.length c11] 27 ∧ e = [(25, .int .i64 st37.1), (24, .int .i64 (p0.2.2.2.length : Int)), (23, .slice a3 p0.2.2.2.length c3), (4, .slice (some ⟨b18, 0, none⟩) st37.2.length x17.length), (3, .pointer (some ⟨b12, 0, none⟩)), (1, .pointer (some ⟨b5, 0, none⟩))] ∧ w = s39.w) eo37 ⟨s19, m0, h3, h18, h1, h2, h11, bx5, bx12, R, R⟩ (Sub.rf R) ?_
 rintro st37 res37 hm ih37 ho37 _ _ ⟨s39, m0, h3, h18, h1, h2, h11, bx5, bx12, rfl, rfl⟩
 unfold m_blocking_kinds_l1 at hm
 refine ER (L.bi Y R R R R (LN (E.seq ?_)))
 rcases ifS hm with ⟨hc, hm⟩ | ⟨hc, hm⟩
 ·refine E.cT R hc (E.skip (X.seqN (E.seq (E.block (E.seq (E.reg ?_))))))
  obtain ⟨x178, ex178, hm⟩ := bindS hm
  refine L.ix (r := qT) sl28 h3 Y R R ex178 R fun b179 o179 cc179 me179 rd179 => ?_
  obtain ⟨_, _, rfl, rfl, ⟨_, _, rfl, rfl, rfl⟩⟩ := rd179
  refine L.lg (j := 0) (cs := [.int .i64 x178.1, .int .i64 x178.2.1, .int .i64 x178.2.2]) me179 ag62 Y R R R R R (L.al (N + 3) zz62 R Y R fun b180 s181 m182 bx180 => ?_)
  refine L.st (c := [.int .i64 x178.1, .int .i64 x178.2.1, .int .i64 x178.2.2]) (cs' := #[.int .i64 x178.1, .int .i64 x178.2.1, .int .i64 x178.2.2]) bx180 ag62.sz Y R R R R R (nb R) R fun s183 m184 bx180 => ?_
  replace h18 := (h18.mv m182 no_No no_No).mv m184 (tq R) (tg0 hN)
  refine LN (E.reg (L.mv Y R R (L.fa fa62_0 Y R R (L.ld (j := 0) bx180.mem nag3 Y R R R R ?_))))
  obtain ⟨x185, ex185, hm⟩ := bindS hm
  refine L.ir (r := rB) sl55 h18 Y R R ex185 R fun b186 o186 cc186 me186 rd186 sp186 => ?_
  obtain rfl := rd186
  obtain ⟨x187, ex187, hm⟩ := bindS hm
  have elx187 := upd_len ex187
  refine L.su (fo := 0) (c := [.bool true]) (z := true) h18 sp186 ex185 ex187 (tgp hN) nag4.sz Y R R R R R R (fun c0 hc0 => by obtain rfl := hc0; exact R) fun s188 m189 h18 => ?_
  replace m0 := ((m0.trans m182.no).trans (m184.one up)).trans (m189.one up)
  replace h3 := ((h3.mono m182.z).mono (m184.le (tg0 hN))).mono (m189.le (tg0 hN))
  replace bx5 := ((bx5.mv m182 no_No).mv m184 (tq R)).mv m189 (tq R)
  replace h1 := ((h1.mono m182.z).mono (m184.le (tg0 hN))).mono (m189.le (tg0 hN))
  replace h2 := ((h2.mono m182.z).mono (m184.le (tg0 hN))).mono (m189.le (tg0 hN))
  replace bx12 := ((bx12.mv m182 no_No).mv m184 (tq R)).mv m189 (tq R)
  replace h11 := ((h11.mono m182.z).mono (m184.le (tg0 hN))).mono (m189.le (tg0 hN))
  exact L.reval (d := 4) R elx187 (L.nil (X.blkN (X.seqN (E.reg (L.bi Y R R R R (L.mv Y R R (L.nil (X.sub (ih37 _ (oi hm).symm _ _ ⟨s188, m0, h3, h18, h1, h2, h11, bx5, bx12, R, R⟩) (Sub.rf R)))))))))
 refine E.cF R hc (E.exit (X.seqX (X.seqX ?_)))
 have hx := ho37 _ (oi hm).symm
 subst hx
 exact X.sub (K177 _ _ ⟨s39, m0, h18, h1, h2, h3, h11, bx5, bx12, R, R⟩) (Sub.rf R)

theorem cf16 : Cf Tryz.prog 16 := Cf.mk Tryz.func16 (by kernel_rfl) (by kernel_rfl)
theorem cf36 : Cf Tryz.prog 36 := Cf.mk Tryz.func36 (by kernel_rfl) (by kernel_rfl)
noncomputable def m_blocking_Kinds (p0 : AutT) : Option (List Int × Int) :=
 (m_automaton_Check p0).bind fun r8 =>
 if (r8 != 0) then
  some (([] : List Int), r8)
 else
  (m_blocking_kinds p0).bind fun r11 =>
  some (r11, 0)
theorem m_blocking_Kinds_c {s : Sig} {p0 : AutT} {a1 : Option Addr} {c1 : Nat} {a2 : Option Addr} {c2 : Nat} {a3 : Option Addr} {c3 : Nat} {u0 : Nat} {r : List Int × Int} (h1 : RdL qI s a1 c1 p0.1) (h2 : RdL qI s a2 c2 p0.2.2.1) (h3 : RdL qT s a3 c3 p0.2.2.2) (hm : m_blocking_Kinds p0 = some r) :
    Calls Tryz.prog 17 #[.agg #[.slice a1 p0.1.length c1, .int .i64 p0.2.1, .slice a2 p0.2.2.1.length c2, .slice a3 p0.2.2.2.length c3]] s.w (RetS No s fun v s' => ∃ (a4 : Option Addr) (c4 : Nat), v = .tuple #[.slice a4 r.1.length c4, .int .i64 r.2] ∧ RowT qI s' u0 3 a4 c4 r.1) := by
 unfold m_blocking_Kinds at hm
 obtain ⟨N, hN, hNb⟩ := s.fresh
 have m0 : Mv (Up N No) s s := Mv.refl _ _
 refine E.entry Tryz.func17 R Tryz.ntmps17 R R (ER (L.box (N + 0) Y R R R fun b5 s6 m7 bx5 => ?_))
 replace h1 := h1.mono m7.z
 replace h2 := h2.mono m7.z
 replace h3 := h3.mono m7.z
 refine L.as Y R R (L.as Y R R (LN (E.seq (ER (L.lg (j := 0) (cs := [.slice a1 p0.1.length c1, .int .i64 p0.2.1, .slice a2 p0.2.2.1.length c2, .slice a3 p0.2.2.2.length c3]) bx5.mem ag30 Y R R R R R ?_)))))
 obtain ⟨r8, er8, hm⟩ := bindS hm
 refine L.ca cf16 R R Y R (m_automaton_Check_c (s := s6) (p0 := p0) h1 h2 h3 er8) R ?_
 rintro _ s9 m10 rfl
 replace m0 := (m0.trans m7.no).trans m10.no
 replace bx5 := bx5.mv m10 no_No
 replace h1 := h1.mono m10.z
 replace h2 := h2.mono m10.z
 replace h3 := h3.mono m10.z
 refine L.as Y R R (LN (ER (L.mv Y R R (L.bi Y R R R R (L.nil (X.seqN ?_))))))
 rcases ifS hm with ⟨hc, hm⟩ | ⟨hc, hm⟩
 ·refine E.cT R hc (ER (L.mv Y R R (L.as Y R R (L.as Y R R (LN (E.ret (X.seqR ?_)))))))
  obtain rfl := oi hm
  exact X.rt (.inl R) Tryz.results17 (Rs.tmp R (Rs.tmp R Rs.nil)) R ⟨_, (s9).ren N (fun _ => 0), R, R, m0.ren hNb, ⟨none, 0, R, RowT.nil⟩⟩
 refine E.cF R hc (E.skip (X.seqN (ER (L.lg (j := 0) (cs := [.slice a1 p0.1.length c1, .int .i64 p0.2.1, .slice a2 p0.2.2.1.length c2, .slice a3 p0.2.2.2.length c3]) bx5.mem ag30 Y R R R R R ?_))))
 obtain ⟨r11, er11, hm⟩ := bindS hm
 refine L.ca cf36 R R Y R (m_blocking_kinds_c (s := s9) (p0 := p0) (u0 := (N + 1)) h1 h2 h3 er11) R ?_
 rintro _ s12 m13 ⟨a14, c14, rfl, h14⟩
 replace m0 := m0.trans m13.no
 refine L.as Y R R (L.as Y R R (LN (E.ret ?_)))
 obtain rfl := oi hm
 exact X.rt (.inl R) Tryz.results17 (Rs.tmp R (Rs.tmp R Rs.nil)) R ⟨_, (s12).ren N (fun k => cond (Nat.beq k 1) u0 (0)), R, R, m0.ren hNb, ⟨a14, c14, R, (h14.ren hN)⟩⟩

theorem sl37 : Sl Tryz.prog 37 30 4 := Sl.mk' Tryz.underlying37 (by kernel_rfl)
noncomputable def m_product_Check_l1 (p0 : List AutT) (st17 : Int) : Option (Int ⊕ (Unit ⊕ Int)) :=
 if decide (st17 < (p0.length : Int)) then
  (idx p0 st17).bind fun x26 =>
  (m_automaton_Check x26).bind fun r36 =>
  if (r36 != 0) then
   some (.inr (.inr (r36)))
  else
   some (.inl (W (st17 + 1)))
 else
  some (.inr (.inl ()))
noncomputable def m_product_Check (p0 : List AutT) : Option Int :=
 if decide ((p0.length : Int) > 12) then
  some 3
 else
  (iter (m_product_Check_l1 p0) 0).bind fun o17 =>
  match o17 with
  | .inl u20 =>
   some 0
  | .inr (u23) =>
   some u23
theorem m_product_Check_c {s : Sig} {p0 : List AutT} {a1 : Option Addr} {c1 : Nat} {r : Int} (h1 : RdL (rP (rL qI) (rP qI (rP (rL qI) (rL qT)))) s a1 c1 p0) (hm : m_product_Check p0 = some r) :
    Calls Tryz.prog 47 #[.slice a1 p0.length c1] s.w (RetS No s fun v s' => v = .int .i64 r) := by
 unfold m_product_Check at hm
 obtain ⟨N, hN, hNb⟩ := s.fresh
 have m0 : Mv (Up N No) s s := Mv.refl _ _
 refine E.entry Tryz.func47 R Tryz.ntmps47 R R (ER (L.as Y R R (LN (E.seq (ER (L.mv Y R R (L.len sl37 Y R R (L.bi Y R R R R (L.nil (X.seqN ?_))))))))))
 rcases ifS hm with ⟨hc, hm⟩ | ⟨hc, hm⟩
 ·refine E.cT R hc (ER (L.as Y R R (LN (E.ret (X.seqR ?_)))))
  obtain rfl := oi hm
  exact X.rt (.inl R) Tryz.results47 (Rs.tmp R Rs.nil) R ⟨_, (s).ren N (fun _ => 0), R, R, m0.ren hNb, R⟩
 refine E.cF R hc (E.skip (X.seqN (E.seq (ER (L.mv Y R R (L.len sl37 Y R R (L.mv Y R R (LN (E.block ?_)))))))))
 obtain ⟨o17, eo17, hm⟩ := bindS hm
 refine E.cut (x := .exit 0) (fun e w => ∃ (s21 : Sig) (u20 : Unit), o17 = .inl u20 ∧ Mv (Up N No) s s21 ∧ e = [] ∧ w = s21.w) ?_ ?_
 ·rintro _ _ ⟨s21, u20, rfl, m0, rfl, rfl⟩
  dsimp only at hm
  refine X.blkE (X.seqN (ER (L.as Y R R (LN (E.ret ?_)))))
  obtain rfl := oi hm
  exact X.rt (.inl R) Tryz.results47 (Rs.tmp R Rs.nil) R ⟨_, (s21).ren N (fun _ => 0), R, R, m0.ren hNb, R⟩
 intro K22
 refine E.cut (x := .ret) (fun e w => ∃ (s24 : Sig) (u23 : Int), o17 = .inr (u23) ∧ Mv (Up N No) s s24 ∧ e = [(2, .int .i64 u23)] ∧ w = s24.w) ?_ ?_
 ·rintro _ _ ⟨s24, u23, rfl, m0, rfl, rfl⟩
  dsimp only at hm
  refine X.blkR (X.seqR ?_)
  obtain rfl := oi hm
  exact X.rt (.inl R) Tryz.results47 (Rs.tmp R Rs.nil) R ⟨_, (s24).ren N (fun _ => 0), R, R, m0.ren hNb, R⟩
 intro K25
 refine E.iter (fun (st17 : Int) (e : List (Nat × Value)) (w : World) => ∃ (s19 : Sig), Mv (Up N No) s s19 ∧ RdL (rP (rL qI) (rP qI (rP (rL qI) (rL qT)))) s19 a1 c1 p0 ∧ e = [(11, .int .i64 st17), (10, .int .i64 (p0.length : Int)), (9, .slice a1 p0.length c1)] ∧ w = s19.w) eo17 ⟨s, m0, h1, R, R⟩ (Sub.rf R) ?_
 rintro st17 res17 hm ih17 ho17 _ _ ⟨s19, m0, h1, rfl, rfl⟩
 unfold m_product_Check_l1 at hm
 refine ER (L.bi Y R R R R (LN (E.seq ?_)))
 rcases ifS hm with ⟨hc, hm⟩ | ⟨hc, hm⟩
 ·refine E.cT R hc (E.skip (X.seqN (E.seq (E.block (E.seq (E.reg ?_))))))
  obtain ⟨x26, ex26, hm⟩ := bindS hm
  refine L.ix (r := (rP (rL qI) (rP qI (rP (rL qI) (rL qT))))) sl37 h1 Y R R ex26 R fun b27 o27 cc27 me27 rd27 => ?_
  obtain ⟨_, _, rfl, ⟨a28, c28, rfl, h28⟩, ⟨_, _, rfl, rfl, ⟨_, _, rfl, ⟨a29, c29, rfl, h29⟩, ⟨a30, c30, rfl, h30⟩⟩⟩⟩ := rd27
  refine L.lg (j := 0) (cs := [.slice a28 x26.1.length c28, .int .i64 x26.2.1, .slice a29 x26.2.2.1.length c29, .slice a30 x26.2.2.2.length c30]) me27 ag30 Y R R R R R (L.al (N + 0) zz30 R Y R fun b31 s32 m33 bx31 => ?_)
  refine L.st (c := [.slice a28 x26.1.length c28, .int .i64 x26.2.1, .slice a29 x26.2.2.1.length c29, .slice a30 x26.2.2.2.length c30]) (cs' := #[.slice a28 x26.1.length c28, .int .i64 x26.2.1, .slice a29 x26.2.2.1.length c29, .slice a30 x26.2.2.2.length c30]) bx31 ag30.sz Y R R R R R (nb R) R fun s34 m35 bx31 => ?_
  replace h28 := (h28.mono m33.z).mono (m35.le (tg0 hN))
  replace h29 := (h29.mono m33.z).mono (m35.le (tg0 hN))
  replace h30 := (h30.mono m33.z).mono (m35.le (tg0 hN))
  refine LN (ER (L.lg (j := 0) (cs := [.slice a28 x26.1.length c28, .int .i64 x26.2.1, .slice a29 x26.2.2.1.length c29, .slice a30 x26.2.2.2.length c30]) bx31.mem ag30 Y R R R R R ?_))
  obtain ⟨r36, er36, hm⟩ := bindS hm
  refine L.ca cf16 R R Y R (m_automaton_Check_c (s := s34) (p0 := x26) h28 h29 h30 er36) R ?_
  rintro _ s37 m38 rfl
  replace m0 := ((m0.trans m33.no).trans (m35.one up)).trans m38.no
  replace h1 := ((h1.mono m33.z).mono (m35.le (tg0 hN))).mono m38.z
  refine L.as Y R R (LN (ER (L.mv Y R R (L.bi Y R R R R (L.nil (X.seqN ?_))))))
  rcases ifS hm with ⟨hc, hm⟩ | ⟨hc, hm⟩
  ·refine E.cT R hc (ER (L.mv Y R R (L.as Y R R (LN (E.ret (X.blkR (X.seqR (X.seqR ?_))))))))
   have hx := ho17 _ (oi hm).symm
   exact X.sub (K25 _ _ ⟨s37, r36, hx.symm, m0, R, R⟩) (Sub.rf R)
  exact E.cF R hc (E.skip (X.blkN (X.seqN (E.reg (L.bi Y R R R R (L.mv Y R R (L.nil (X.sub (ih17 _ (oi hm).symm _ _ ⟨s37, m0, h1, R, R⟩) (Sub.rf R)))))))))
 refine E.cF R hc (E.exit (X.seqX (X.seqX ?_)))
 have hx := ho17 _ (oi hm).symm
 exact X.sub (K22 _ _ ⟨s19, (), hx.symm, m0, R, R⟩) Sub.nil

noncomputable def m_alphabet_merge_j4 (p2 : Bool → Bool → Option Bool) (st170 : List Int × List Int × List Int) (b177 : Bool) (b180 : Bool) (l183 : List Int) (l188 : List Int) (n190 : Int) : Option ((List Int × List Int × List Int) ⊕ (List Int)) :=
 (p2 b177 b180).bind fun r193 =>
 if r193 then
  (app st170.1 ([n190] : List Int)).bind fun x199 =>
  some (.inl (x199, l183, l188))
 else
  some (.inl (st170.1, l183, l188))
noncomputable def m_alphabet_merge_j3 (p2 : Bool → Bool → Option Bool) (st170 : List Int × List Int × List Int) (b177 : Bool) (b180 : Bool) (l183 : List Int) (n185 : Int) : Option ((List Int × List Int × List Int) ⊕ (List Int)) :=
 if b180 then
  (idx st170.2.2 0).bind fun x205 =>
  (slc st170.2.2 1 (st170.2.2.length : Int)).bind fun x210 =>
  m_alphabet_merge_j4 p2 st170 b177 b180 l183 x210 x205
 else
  m_alphabet_merge_j4 p2 st170 b177 b180 l183 st170.2.2 n185
noncomputable def m_alphabet_merge_j2 (p2 : Bool → Bool → Option Bool) (st170 : List Int × List Int × List Int) (b177 : Bool) (b180 : Bool) : Option ((List Int × List Int × List Int) ⊕ (List Int)) :=
 if b177 then
  (idx st170.2.1 0).bind fun x217 =>
  (slc st170.2.1 1 (st170.2.1.length : Int)).bind fun x222 =>
  m_alphabet_merge_j3 p2 st170 b177 b180 x222 x217
 else
  m_alphabet_merge_j3 p2 st170 b177 b180 st170.2.1 0
noncomputable def m_alphabet_merge_j1 (p2 : Bool → Bool → Option Bool) (st170 : List Int × List Int × List Int) (b177 : Bool) : Option ((List Int × List Int × List Int) ⊕ (List Int)) :=
 if decide ((st170.2.2.length : Int) > 0) then
  if ((st170.2.1.length : Int) == 0) then
   m_alphabet_merge_j2 p2 st170 b177 true
  else
   (idx st170.2.2 0).bind fun x250 =>
   (idx st170.2.1 0).bind fun x255 =>
   m_alphabet_merge_j2 p2 st170 b177 (decide (x250 ≤ x255))
 else
  m_alphabet_merge_j2 p2 st170 b177 false
noncomputable def m_alphabet_merge_l1 (p2 : Bool → Bool → Option Bool) (st170 : List Int × List Int × List Int) : Option ((List Int × List Int × List Int) ⊕ (List Int)) :=
 if ((decide ((st170.2.1.length : Int) > 0)) || (decide ((st170.2.2.length : Int) > 0))) then
  if decide ((st170.2.1.length : Int) > 0) then
   if ((st170.2.2.length : Int) == 0) then
    m_alphabet_merge_j1 p2 st170 true
   else
    (idx st170.2.1 0).bind fun x301 =>
    (idx st170.2.2 0).bind fun x306 =>
    m_alphabet_merge_j1 p2 st170 (decide (x301 ≤ x306))
  else
   m_alphabet_merge_j1 p2 st170 false
 else
  some (.inr st170.1)
noncomputable def m_alphabet_merge (p0 : List Int) (p1 : List Int) (p2 : Bool → Bool → Option Bool) : Option (List Int) :=
 (iter (m_alphabet_merge_l1 p2) (([] : List Int), p0, p1)).bind fun o170 =>
 some o170
abbrev m_alphabet_merge_w0 : List (List Nat) := [[], [0], [0, 1], [0, 1, 2], [0, 1, 2, 3], [0, 1, 2, 3, 4], [0, 1, 2, 3, 4, 5], [0, 1, 2, 3, 4, 5, 6], [0, 1, 2, 3, 4, 5, 6, 7], [0, 1, 2, 3, 4, 5, 6, 7, 8], [0, 1, 2, 3, 4, 5, 6, 7, 8, 9], [0, 1, 2, 3, 4, 5, 6, 7], [0, 1, 2, 3, 4, 5, 6, 7, 11], [0, 1, 2, 3, 4, 5, 6, 7, 11, 12], [0, 1, 2, 3, 4, 5, 6, 7, 8, 9, 10, 11, 12, 13], [0, 1, 2, 3, 4, 5, 6, 7, 8, 9, 10, 11, 12, 13, 14], [0, 1, 2, 3, 4, 5, 6, 7, 8, 9, 10, 11, 12, 13, 14, 15], [0, 1, 2, 3, 4, 5, 6, 7, 8, 9, 10, 11, 12, 13, 14, 15, 16]]
theorem m_alphabet_merge_c {s : Sig} {p0 : List Int} {p1 : List Int} {p2 : Bool → Bool → Option Bool} {a1 : Option Addr} {c1 : Nat} {a2 : Option Addr} {c2 : Nat} {vp2 : Value} {u0 : Nat} {r : List Int} (h1 : RdL qI s a1 c1 p0) (h2 : RdL qI s a2 c2 p1) (hp2 : FV2 Tryz.prog s vp2 (fun (x0 : Bool) (x1 : Bool) => [.bool x0, .bool x1]) (fun (r : Bool) => .bool r) p2) (hm : m_alphabet_merge p0 p1 p2 = some r) :
    Calls Tryz.prog 132 #[.slice a1 p0.length c1, .slice a2 p1.length c2, vp2] s.w (RetS No s fun v s' => ∃ (a3 : Option Addr) (c3 : Nat), v = .slice a3 r.length c3 ∧ RowT qI s' u0 3 a3 c3 r) := by
 unfold m_alphabet_merge at hm
 obtain ⟨N, hN, hNb⟩ := s.fresh
 have m0 : Mv (Up N No) s s := Mv.refl _ _
 refine E.entry Tryz.func132 R Tryz.ntmps132 R R (ER (L.as Y R R (LN (ER (L.as Y R R (LN (E.seq (E.block ?_))))))))
 obtain ⟨o170, eo170, hm⟩ := bindS hm
 refine E.cut (x := .exit 0) (fun e w => ∃ (s174 : Sig) (a172 : Option Addr) (c172 : Nat), Mv (Up N No) s s174 ∧ RowT qI s174 (N + 0) 3 a172 c172 o170 ∧ e = [(7, .slice a172 o170.length c172)] ∧ w = s174.w) ?_ ?_
 ·rintro _ _ ⟨s174, a172, c172, m0, h172, rfl, rfl⟩
  refine X.blkE (X.seqN (ER (L.mv Y R R (L.as Y R R (LN (E.ret ?_))))))
  obtain rfl := oi hm
  exact X.rt (.inl R) Tryz.results132 (Rs.tmp R Rs.nil) R ⟨_, (s174).ren N (fun k => cond (Nat.beq k 0) u0 (0)), R, R, m0.ren hNb, ⟨a172, c172, R, (h172.ren hN)⟩⟩
 intro K175
 refine E.iter (fun (st170 : List Int × List Int × List Int) (e : List (Nat × Value)) (w : World) => ∃ (s173 : Sig) (a5 : Option Addr) (c5 : Nat) (a7 : Option Addr) (c7 : Nat) (a9 : Option Addr) (c9 : Nat), Mv (Up N No) s s173 ∧ RowT qI s173 (N + 0) 3 a5 c5 st170.1 ∧ RdL qI s173 a7 c7 st170.2.1 ∧ RdL qI s173 a9 c9 st170.2.2 ∧ FV2 Tryz.prog s173 vp2 (fun (x0 : Bool) (x1 : Bool) => [.bool x0, .bool x1]) (fun (r : Bool) => .bool r) p2 ∧ e = [(7, .slice a5 st170.1.length c5), (0, .slice a7 st170.2.1.length c7), (1, .slice a9 st170.2.2.length c9), (2, vp2)] ∧ w = s173.w) eo170 ⟨s, none, 0, a1, c1, a2, c2, m0, RowT.nil, h1, h2, hp2, R, R⟩ (Sub.rf R) ?_
 rintro st170 res170 hm ih170 ho170 _ _ ⟨s173, a5, c5, a7, c7, a9, c9, m0, h5, h7, h9, hp2, rfl, rfl⟩
 unfold m_alphabet_merge_l1 at hm
 refine E.seq (ER (L.mv Y R R (L.len sl27 Y R R (L.bi Y R R R R (L.mv Y R R (L.cut 4 (fun e w => ∃ (v176 : Bool), ((decide ((st170.2.1.length : Int) > 0)) || (decide ((st170.2.2.length : Int) > 0))) = v176 ∧ e = (18, .bool v176) :: [(7, .slice a5 st170.1.length c5), (0, .slice a7 st170.2.1.length c7), (1, .slice a9 st170.2.2.length c9), (2, vp2)] ∧ w = s173.w) ?_ ?_))))))
 ·rintro _ _ ⟨v176, rfl, rfl, rfl⟩
  refine L.nil (X.seqN ?_)
  rcases ifS hm with ⟨hc, hm⟩ | ⟨hc, hm⟩
  ·refine E.cT R hc (E.skip (X.seqN (E.block (E.seqJ (fun e w => ∃ (s178 : Sig) (b177 : Bool), m_alphabet_merge_j1 p2 st170 b177 = some res170 ∧ Mv (Up N No) s s178 ∧ RowT qI s178 (N + 0) 3 a5 c5 st170.1 ∧ RdL qI s178 a7 c7 st170.2.1 ∧ RdL qI s178 a9 c9 st170.2.2 ∧ FV2 Tryz.prog s178 vp2 (fun (x0 : Bool) (x1 : Bool) => [.bool x0, .bool x1]) (fun (r : Bool) => .bool r) p2 ∧ e = [(8, .bool b177), (7, .slice a5 st170.1.length c5), (0, .slice a7 st170.2.1.length c7), (1, .slice a9 st170.2.2.length c9), (2, vp2)] ∧ w = s178.w) ?_ ?_))))
   ·rintro _ _ ⟨s178, b177, hm, m0, h5, h7, h9, hp2, rfl, rfl⟩
    unfold m_alphabet_merge_j1 at hm
    refine E.seqJ (fun e w => ∃ (s181 : Sig) (b180 : Bool), m_alphabet_merge_j2 p2 st170 b177 b180 = some res170 ∧ Mv (Up N No) s s181 ∧ RowT qI s181 (N + 0) 3 a5 c5 st170.1 ∧ RdL qI s181 a7 c7 st170.2.1 ∧ RdL qI s181 a9 c9 st170.2.2 ∧ FV2 Tryz.prog s181 vp2 (fun (x0 : Bool) (x1 : Bool) => [.bool x0, .bool x1]) (fun (r : Bool) => .bool r) p2 ∧ e = [(9, .bool b180), (8, .bool b177), (7, .slice a5 st170.1.length c5), (0, .slice a7 st170.2.1.length c7), (1, .slice a9 st170.2.2.length c9), (2, vp2)] ∧ w = s181.w) ?_ ?_
    ·rintro _ _ ⟨s181, b180, hm, m0, h5, h7, h9, hp2, rfl, rfl⟩
     unfold m_alphabet_merge_j2 at hm
     refine ER (L.as Y R R (LN (E.seqJ (fun e w => ∃ (s186 : Sig) (l183 : List Int) (n185 : Int) (a184 : Option Addr) (c184 : Nat), m_alphabet_merge_j3 p2 st170 b177 b180 l183 n185 = some res170 ∧ Mv (Up N No) s s186 ∧ RdL qI s186 a184 c184 l183 ∧ RowT qI s186 (N + 0) 3 a5 c5 st170.1 ∧ RdL qI s186 a9 c9 st170.2.2 ∧ FV2 Tryz.prog s186 vp2 (fun (x0 : Bool) (x1 : Bool) => [.bool x0, .bool x1]) (fun (r : Bool) => .bool r) p2 ∧ e = [(0, .slice a184 l183.length c184), (10, .int .i64 n185), (9, .bool b180), (8, .bool b177), (7, .slice a5 st170.1.length c5), (1, .slice a9 st170.2.2.length c9), (2, vp2)] ∧ w = s186.w) ?_ ?_)))
     ·rintro _ _ ⟨s186, l183, n185, a184, c184, hm, m0, h184, h5, h9, hp2, rfl, rfl⟩
      unfold m_alphabet_merge_j3 at hm
      refine E.seqJ (fun e w => ∃ (s191 : Sig) (l188 : List Int) (n190 : Int) (a189 : Option Addr) (c189 : Nat), m_alphabet_merge_j4 p2 st170 b177 b180 l183 l188 n190 = some res170 ∧ Mv (Up N No) s s191 ∧ RdL qI s191 a189 c189 l188 ∧ RdL qI s191 a184 c184 l183 ∧ RowT qI s191 (N + 0) 3 a5 c5 st170.1 ∧ FV2 Tryz.prog s191 vp2 (fun (x0 : Bool) (x1 : Bool) => [.bool x0, .bool x1]) (fun (r : Bool) => .bool r) p2 ∧ e = [(1, .slice a189 l188.length c189), (10, .int .i64 n190), (0, .slice a184 l183.length c184), (9, .bool b180), (8, .bool b177), (7, .slice a5 st170.1.length c5), (2, vp2)] ∧ w = s191.w) ?_ ?_
      ·rintro _ _ ⟨s191, l188, n190, a189, c189, hm, m0, h189, h184, h5, hp2, rfl, rfl⟩
       unfold m_alphabet_merge_j4 at hm
       refine ER (L.mv Y R R (L.mv Y R R (L.mv Y R R ?_)))
       obtain ⟨r193, er193, hm⟩ := bindS hm
       refine L.fv2 (y := b177) (z := b180) hp2 R R Y R R er193 R fun s194 m195 => ?_
       replace m0 := m0.trans m195.no
       replace h184 := h184.mono m195.z
       replace h189 := h189.mono m195.z
       replace hp2 := hp2.mono m195.z
       replace h5 := h5.mv m195 no_No no_No
       refine L.nil (X.seqN ?_)
       rcases ifS hm with ⟨hc, hm⟩ | ⟨hc, hm⟩
       ·refine E.cT R hc (E.reg (L.mv Y R R (L.mv Y R R (L.bsE (k := 1) (cs := [.int .i64 n190]) 0 bs27 (nb R) Y R R R R fun b196 s197 m198 bx196 => ?_))))
        replace h5 := h5.mv m198 no_No no_No
        have h196 := Bx.rdL (r := qI) (xs := ([n190] : List Int)) bx196 ⟨[.int .i64 n190], _, R, R, R⟩ (nb R)
        obtain ⟨x199, ex199, hm⟩ := bindS hm
        refine L.ap (r := qI) Tryz.underlying27 el3 R (tgp hN) h5 h196.wk Y R R ex199 R fun a200 c200 s201 m202 h200 => ?_
        replace m0 := (m0.trans m198.no).trans (m202.one up)
        replace h184 := (h184.mono m198.z).mono (m202.le (tg0 hN))
        replace h189 := (h189.mono m198.z).mono (m202.le (tg0 hN))
        replace hp2 := (hp2.mono m198.z).mono (m202.le (tg0 hN))
        exact L.as Y R R (L.nil (X.blkN (X.sub (ih170 _ (oi hm).symm _ _ ⟨s201, a200, c200, a184, c184, a189, c189, m0, h200, h184, h189, hp2, R, R⟩) (Sub.rf R))))
       exact E.cF R hc (E.skip (X.blkN (X.sub (ih170 _ (oi hm).symm _ _ ⟨s194, a5, c5, a184, c184, a189, c189, m0, h5, h184, h189, hp2, R, R⟩) (Sub.rf R))))
      intro Jj192
      refine ER (L.mv Y R R (L.nil (X.seqN ?_)))
      rcases ifS hm with ⟨hc, hm⟩ | ⟨hc, hm⟩
      ·refine E.cT R hc ?_
       obtain ⟨x205, ex205, hm⟩ := bindS hm
       obtain ⟨x210, ex210, hm⟩ := bindS hm
       refine E.draw [[], [0], [0, 1], [], [3], [0, 1, 2], [0, 1, 2, 3, 4, 5]] (fun D e sx => Mv No s186 sx ∧ Sub [(0, .slice a184 l183.length c184), (9, .bool b180), (8, .bool b177), (7, .slice a5 st170.1.length c5), (2, vp2)] e ∧ AllP [D 6 = false → Env.get e 1 = some (.slice a9 st170.2.2.length c9), G D e 0 60 (.slice a9 st170.2.2.length c9), D 1 = true → (∃ (b206 : Nat) (o206 : Nat), Env.get e 61 = some (.pointer (some ⟨b206, o206, none⟩)) ∧ Mem sx 0 b206 o206 [.int .i64 x205]), G D e 2 62 (.int .i64 x205), G D e 3 63 (.slice a9 st170.2.2.length c9), D 4 = true → (∃ (a211 : Option Addr) (c211 : Nat), Env.get e 64 = some (.slice a211 x210.length c211) ∧ RdL qI sx a211 c211 x210), G D e 5 10 (.int .i64 x205), D 6 = true → ∀ (a211 : Option Addr) (c211 : Nat), Env.get e 64 = some (.slice a211 x210.length c211) → (Env.get e 1 = some (.slice a211 x210.length c211))]) (by kernel_rfl) (by kernel_rfl) (by kernel_rfl) ?_ ?_ ?_
       ·intro sz mz
        exact ⟨mz, (Sub.rf R), fun _ => R, nofun, nofun, nofun, nofun, nofun, nofun, nofun, trivial⟩
       ·refine ⟨?_, ?_, ?_, ?_, ?_, ?_, ?_, trivial⟩
        ·rintro D e s203 ⟨im, ib, i⟩ hk hf ha
         have kn := K1 ((i.p 0) (hf 6 (nb R) R))
         exact kn.g (L.mv Y R R (L.nil (X.dk kn ⟨im, Sub.fresh ib R, i.u 1 (fun _ => R)⟩)))
        ·rintro D e s204 ⟨im, ib, i⟩ hk hf ha
         have h9 := h9.mono im.z
         have kn := K1 ((i.p 1) (ha.at 0 R))
         refine kn.g (L.ix (r := qI) sl27 h9 Y R R ex205 R fun b206 o206 cc206 me206 rd206 => ?_)
         obtain rfl := rd206
         exact L.nil (X.dk kn ⟨im, Sub.fresh ib R, i.u 2 (fun _ => ⟨b206, o206, R, me206⟩)⟩)
        ·rintro D e s207 ⟨im, ib, i⟩ hk hf ha
         obtain ⟨b206, o206, g1_, me206⟩ := (i.p 2) (ha.at 1 R)
         have kn := K1 g1_
         exact kn.g (L.ld (j := 0) me206 nag3 Y R R R R (L.nil (X.dk kn ⟨im, Sub.fresh ib R, i.u 3 (fun _ => R)⟩)))
        ·rintro D e s208 ⟨im, ib, i⟩ hk hf ha
         have kn := K1 ((i.p 0) (hf 6 (nb R) R))
         exact kn.g (L.mv Y R R (L.nil (X.dk kn ⟨im, Sub.fresh ib R, i.u 4 (fun _ => R)⟩)))
        ·rintro D e s209 ⟨im, ib, i⟩ hk hf ha
         have h9 := h9.mono im.z
         have kn := K1 ((i.p 4) (ha.at 3 R))
         exact kn.g (L.sf (r := qI) sl27 h9 Y R R ex210 R fun a211 c211 h211 => L.nil (X.dk kn ⟨im, Sub.fresh ib R, (i.u 5 (fun _ => ⟨a211, c211, R, h211⟩)).u 7 (fun z => Bool.noConfusion ((hf 6 (nb R) R).symm.trans z))⟩))
        ·rintro D e s212 ⟨im, ib, i⟩ hk hf ha
         have kn := K1 ((i.p 3) (ha.at 2 R))
         exact kn.g (L.as Y R R (L.nil (X.dk kn ⟨im, Sub.fresh ib R, i.u 6 (fun _ => R)⟩)))
        rintro D e s213 ⟨im, ib, i⟩ hk hf ha
        obtain ⟨a211, c211, g4_, h211⟩ := (i.p 5) (ha.at 4 R)
        have kn := K1 g4_
        exact kn.g (L.as Y R R (L.nil (X.dk kn ⟨im, Sub.fresh ib R, (i.u 0 (fun z => Bool.noConfusion (show true = false from z))).u 7 (fun _ _ _ q4 => by cases g4_.symm.trans q4; exact R)⟩)))
       rintro D e s214 hD ⟨im, ib, i⟩
       obtain ⟨a211, c211, g4_, h211⟩ := (i.p 5) (hD 4 R)
       have g5_ := (i.p 6) (hD 5 R)
       have g6_ := (i.p 7) (hD 6 R) a211 c211 g4_
       have h184 := h184.mono im.z
       have h5 := h5.mv im no_No no_No
       have hp2 := hp2.mono im.z
       have m0 := m0.trans im.no
       refine X.sub (e' := [(1, .slice a211 x210.length c211), (10, .int .i64 x205), (0, .slice a184 l183.length c184), (9, .bool b180), (8, .bool b177), (7, .slice a5 st170.1.length c5), (2, vp2)]) ?_ (Sub.cons g6_ (Sub.cons g5_ (Sub.cons (ib 0 _ R) (Sub.cons (ib 9 _ R) (Sub.cons (ib 8 _ R) (Sub.cons (ib 7 _ R) (Sub.cons (ib 2 _ R) Sub.nil)))))))
       exact X.sub (Jj192 _ _ ⟨s214, x210, x205, a211, c211, hm, m0, h211, h184, h5, hp2, R, R⟩) (Sub.rf R)
      exact E.cF R hc (E.skip (X.sub (Jj192 _ _ ⟨s186, st170.2.2, n185, a9, c9, hm, m0, h9, h184, h5, hp2, R, R⟩) (Sub.rf R)))
     intro Jj187
     refine ER (L.mv Y R R (L.nil (X.seqN ?_)))
     rcases ifS hm with ⟨hc, hm⟩ | ⟨hc, hm⟩
     ·refine E.cT R hc ?_
      obtain ⟨x217, ex217, hm⟩ := bindS hm
      obtain ⟨x222, ex222, hm⟩ := bindS hm
      refine E.draw [[], [0], [0, 1], [], [3], [0, 1, 2], [0, 1, 2, 3, 4, 5]] (fun D e sx => Mv No s181 sx ∧ Sub [(9, .bool b180), (8, .bool b177), (7, .slice a5 st170.1.length c5), (1, .slice a9 st170.2.2.length c9), (2, vp2)] e ∧ AllP [D 6 = false → Env.get e 0 = some (.slice a7 st170.2.1.length c7), G D e 0 54 (.slice a7 st170.2.1.length c7), D 1 = true → (∃ (b218 : Nat) (o218 : Nat), Env.get e 55 = some (.pointer (some ⟨b218, o218, none⟩)) ∧ Mem sx 0 b218 o218 [.int .i64 x217]), G D e 2 56 (.int .i64 x217), G D e 3 57 (.slice a7 st170.2.1.length c7), D 4 = true → (∃ (a223 : Option Addr) (c223 : Nat), Env.get e 58 = some (.slice a223 x222.length c223) ∧ RdL qI sx a223 c223 x222), G D e 5 10 (.int .i64 x217), D 6 = true → ∀ (a223 : Option Addr) (c223 : Nat), Env.get e 58 = some (.slice a223 x222.length c223) → (Env.get e 0 = some (.slice a223 x222.length c223))]) (by kernel_rfl) (by kernel_rfl) (by kernel_rfl) ?_ ?_ ?_
      ·intro sz mz
       exact ⟨mz, (Sub.rf R), fun _ => R, nofun, nofun, nofun, nofun, nofun, nofun, nofun, trivial⟩
      ·refine ⟨?_, ?_, ?_, ?_, ?_, ?_, ?_, trivial⟩
       ·rintro D e s215 ⟨im, ib, i⟩ hk hf ha
        have kn := K1 ((i.p 0) (hf 6 (nb R) R))
        exact kn.g (L.mv Y R R (L.nil (X.dk kn ⟨im, Sub.fresh ib R, i.u 1 (fun _ => R)⟩)))
       ·rintro D e s216 ⟨im, ib, i⟩ hk hf ha
        have h7 := h7.mono im.z
        have kn := K1 ((i.p 1) (ha.at 0 R))
        refine kn.g (L.ix (r := qI) sl27 h7 Y R R ex217 R fun b218 o218 cc218 me218 rd218 => ?_)
        obtain rfl := rd218
        exact L.nil (X.dk kn ⟨im, Sub.fresh ib R, i.u 2 (fun _ => ⟨b218, o218, R, me218⟩)⟩)
       ·rintro D e s219 ⟨im, ib, i⟩ hk hf ha
        obtain ⟨b218, o218, g1_, me218⟩ := (i.p 2) (ha.at 1 R)
        have kn := K1 g1_
        exact kn.g (L.ld (j := 0) me218 nag3 Y R R R R (L.nil (X.dk kn ⟨im, Sub.fresh ib R, i.u 3 (fun _ => R)⟩)))
       ·rintro D e s220 ⟨im, ib, i⟩ hk hf ha
        have kn := K1 ((i.p 0) (hf 6 (nb R) R))
        exact kn.g (L.mv Y R R (L.nil (X.dk kn ⟨im, Sub.fresh ib R, i.u 4 (fun _ => R)⟩)))
       ·rintro D e s221 ⟨im, ib, i⟩ hk hf ha
        have h7 := h7.mono im.z
        have kn := K1 ((i.p 4) (ha.at 3 R))
        exact kn.g (L.sf (r := qI) sl27 h7 Y R R ex222 R fun a223 c223 h223 => L.nil (X.dk kn ⟨im, Sub.fresh ib R, (i.u 5 (fun _ => ⟨a223, c223, R, h223⟩)).u 7 (fun z => Bool.noConfusion ((hf 6 (nb R) R).symm.trans z))⟩))
       ·rintro D e s224 ⟨im, ib, i⟩ hk hf ha
        have kn := K1 ((i.p 3) (ha.at 2 R))
        exact kn.g (L.as Y R R (L.nil (X.dk kn ⟨im, Sub.fresh ib R, i.u 6 (fun _ => R)⟩)))
       rintro D e s225 ⟨im, ib, i⟩ hk hf ha
       obtain ⟨a223, c223, g4_, h223⟩ := (i.p 5) (ha.at 4 R)
       have kn := K1 g4_
       exact kn.g (L.as Y R R (L.nil (X.dk kn ⟨im, Sub.fresh ib R, (i.u 0 (fun z => Bool.noConfusion (show true = false from z))).u 7 (fun _ _ _ q4 => by cases g4_.symm.trans q4; exact R)⟩)))
      rintro D e s226 hD ⟨im, ib, i⟩
      obtain ⟨a223, c223, g4_, h223⟩ := (i.p 5) (hD 4 R)
      have g5_ := (i.p 6) (hD 5 R)
      have g6_ := (i.p 7) (hD 6 R) a223 c223 g4_
      have h5 := h5.mv im no_No no_No
      have h9 := h9.mono im.z
      have hp2 := hp2.mono im.z
      have m0 := m0.trans im.no
      refine X.sub (e' := [(0, .slice a223 x222.length c223), (10, .int .i64 x217), (9, .bool b180), (8, .bool b177), (7, .slice a5 st170.1.length c5), (1, .slice a9 st170.2.2.length c9), (2, vp2)]) ?_ (Sub.cons g6_ (Sub.cons g5_ (Sub.cons (ib 9 _ R) (Sub.cons (ib 8 _ R) (Sub.cons (ib 7 _ R) (Sub.cons (ib 1 _ R) (Sub.cons (ib 2 _ R) Sub.nil)))))))
      exact X.sub (Jj187 _ _ ⟨s226, x222, x217, a223, c223, hm, m0, h223, h5, h9, hp2, R, R⟩) (Sub.rf R)
     exact E.cF R hc (E.skip (X.sub (Jj187 _ _ ⟨s181, st170.2.1, 0, a7, c7, hm, m0, h7, h5, h9, hp2, R, R⟩) (Sub.rf R)))
    intro Jj182
    rcases ifS hm with ⟨hc231, hm⟩ | ⟨hc231, hm⟩
    ·have _ := hN
     rcases ifS hm with ⟨hc236, hm⟩ | ⟨hc236, hm⟩
     ·have _ := hN
      refine E.draw m_alphabet_merge_w0 (fun D e sx => Mv No s178 sx ∧ Sub [(8, .bool b177), (7, .slice a5 st170.1.length c5), (0, .slice a7 st170.2.1.length c7), (1, .slice a9 st170.2.2.length c9), (2, vp2)] e ∧ AllP [G D e 0 36 (.slice a9 st170.2.2.length c9), G D e 1 37 (.int .i64 (st170.2.2.length : Int)), G D e 2 38 (.bool (decide ((st170.2.2.length : Int) > 0))), G D e 3 39 (.bool (decide ((st170.2.2.length : Int) > 0))), G D e 4 40 (.slice a7 st170.2.1.length c7), G D e 5 41 (.int .i64 (st170.2.1.length : Int)), G D e 6 42 (.bool ((st170.2.1.length : Int) == 0)), G D e 7 43 (.bool ((st170.2.1.length : Int) == 0)), G D e 8 44 undef, G D e 9 45 undef, G D e 10 46 undef, G D e 11 47 undef, G D e 12 48 undef, G D e 13 49 undef, G D e 14 50 undef, G D e 15 51 (.bool true), G D e 16 52 (.bool true), G D e 17 9 (.bool true)]) (by kernel_rfl) (by kernel_rfl) (by kernel_rfl) ?_ ?_ ?_
      ·intro sz mz
       exact ⟨mz, (Sub.rf R), nofun, nofun, nofun, nofun, nofun, nofun, nofun, nofun, nofun, nofun, nofun, nofun, nofun, nofun, nofun, nofun, nofun, nofun, trivial⟩
      ·refine ⟨?_, ?_, ?_, ?_, ?_, ?_, ?_, ?_, ?_, ?_, ?_, ?_, ?_, ?_, ?_, ?_, ?_, ?_, trivial⟩
       ·rintro D e s227 ⟨im, ib, i⟩ hk hf ha
        have kn := K1 (ib 1 _ R)
        exact kn.g (L.mv Y R R (L.nil (X.dk kn ⟨im, Sub.fresh ib R, i.u 0 (fun _ => R)⟩)))
       ·rintro D e s228 ⟨im, ib, i⟩ hk hf ha
        have kn := K1 ((i.p 0) (ha.at 0 R))
        exact kn.g (L.len sl27 Y R R (L.nil (X.dk kn ⟨im, Sub.fresh ib R, i.u 1 (fun _ => R)⟩)))
       ·rintro D e s229 ⟨im, ib, i⟩ hk hf ha
        have kn := K1 ((i.p 1) (ha.at 1 R))
        exact kn.g (L.bi Y R R R R (L.nil (X.dk kn ⟨im, Sub.fresh ib R, i.u 2 (fun _ => R)⟩)))
       ·rintro D e s230 ⟨im, ib, i⟩ hk hf ha
        have kn := K1 ((i.p 2) (ha.at 2 R))
        exact kn.g (L.mv Y R R (L.nil (X.dk kn ⟨im, Sub.fresh ib R, i.u 3 (fun _ => R)⟩)))
       ·rintro D e s232 ⟨im, ib, i⟩ hk hf ha
        have g3_ := (i.p 3) (ha.at 3 R)
        rw [hc231] at g3_
        have kn := K2 (ib 0 _ R) g3_
        exact kn.g (L.mv (Wt.mk R R) R R (L.nil (X.dk kn ⟨im, Sub.fresh ib R, i.u 4 (fun _ => R)⟩)))
       ·rintro D e s233 ⟨im, ib, i⟩ hk hf ha
        have g3_ := (i.p 3) (ha.at 3 R)
        rw [hc231] at g3_
        have kn := K2 ((i.p 4) (ha.at 4 R)) g3_
        exact kn.g (L.len sl27 (Wt.mk R R) R R (L.nil (X.dk kn ⟨im, Sub.fresh ib R, i.u 5 (fun _ => R)⟩)))
       ·rintro D e s234 ⟨im, ib, i⟩ hk hf ha
        have g3_ := (i.p 3) (ha.at 3 R)
        rw [hc231] at g3_
        have kn := K2 ((i.p 5) (ha.at 5 R)) g3_
        exact kn.g (L.bi (Wt.mk R R) R R R R (L.nil (X.dk kn ⟨im, Sub.fresh ib R, i.u 6 (fun _ => R)⟩)))
       ·rintro D e s235 ⟨im, ib, i⟩ hk hf ha
        have g3_ := (i.p 3) (ha.at 3 R)
        rw [hc231] at g3_
        have kn := K2 ((i.p 6) (ha.at 6 R)) g3_
        exact kn.g (L.mv (Wt.mk R R) R R (L.nil (X.dk kn ⟨im, Sub.fresh ib R, i.u 7 (fun _ => R)⟩)))
       ·rintro D e s237 ⟨im, ib, i⟩ hk hf ha
        have g7_ := (i.p 7) (ha.at 7 R)
        rw [hc236] at g7_
        have kn := K2 (ib 1 _ R) g7_
        exact kn.g (L.skip R R R R (L.nil (X.dk kn ⟨im, Sub.fresh ib R, i.u 8 (fun _ => R)⟩)))
       ·rintro D e s238 ⟨im, ib, i⟩ hk hf ha
        have g7_ := (i.p 7) (ha.at 7 R)
        rw [hc236] at g7_
        have kn := K2 ((i.p 8) (ha.at 8 R)) g7_
        exact kn.g (L.skip R R R R (L.nil (X.dk kn ⟨im, Sub.fresh ib R, i.u 9 (fun _ => R)⟩)))
       ·rintro D e s239 ⟨im, ib, i⟩ hk hf ha
        have g7_ := (i.p 7) (ha.at 7 R)
        rw [hc236] at g7_
        have kn := K2 ((i.p 9) (ha.at 9 R)) g7_
        exact kn.g (L.skip R R R R (L.nil (X.dk kn ⟨im, Sub.fresh ib R, i.u 10 (fun _ => R)⟩)))
       ·rintro D e s240 ⟨im, ib, i⟩ hk hf ha
        have g7_ := (i.p 7) (ha.at 7 R)
        rw [hc236] at g7_
        have kn := K2 (ib 0 _ R) g7_
        exact kn.g (L.skip R R R R (L.nil (X.dk kn ⟨im, Sub.fresh ib R, i.u 11 (fun _ => R)⟩)))
       ·rintro D e s241 ⟨im, ib, i⟩ hk hf ha
        have g7_ := (i.p 7) (ha.at 7 R)
        rw [hc236] at g7_
        have kn := K2 ((i.p 11) (ha.at 11 R)) g7_
        exact kn.g (L.skip R R R R (L.nil (X.dk kn ⟨im, Sub.fresh ib R, i.u 12 (fun _ => R)⟩)))
       ·rintro D e s242 ⟨im, ib, i⟩ hk hf ha
        have g7_ := (i.p 7) (ha.at 7 R)
        rw [hc236] at g7_
        have kn := K2 ((i.p 12) (ha.at 12 R)) g7_
        exact kn.g (L.skip R R R R (L.nil (X.dk kn ⟨im, Sub.fresh ib R, i.u 13 (fun _ => R)⟩)))
       ·rintro D e s243 ⟨im, ib, i⟩ hk hf ha
        have g7_ := (i.p 7) (ha.at 7 R)
        rw [hc236] at g7_
        have kn := K3 ((i.p 10) (ha.at 10 R)) ((i.p 13) (ha.at 13 R)) g7_
        exact kn.g (L.skip R R R R (L.nil (X.dk kn ⟨im, Sub.fresh ib R, i.u 14 (fun _ => R)⟩)))
       ·rintro D e s244 ⟨im, ib, i⟩ hk hf ha
        have g3_ := (i.p 3) (ha.at 3 R)
        have g7_ := (i.p 7) (ha.at 7 R)
        rw [hc236] at g7_
        rw [hc231] at g3_
        have kn := K3 g7_ ((i.p 14) (ha.at 14 R)) g3_
        exact kn.g (L.pkT (Wt.mk R R) R R R R (L.nil (X.dk kn ⟨im, Sub.fresh ib R, i.u 15 (fun _ => R)⟩)))
       ·rintro D e s245 ⟨im, ib, i⟩ hk hf ha
        have g3_ := (i.p 3) (ha.at 3 R)
        rw [hc231] at g3_
        have kn := K2 g3_ ((i.p 15) (ha.at 15 R))
        exact kn.g (L.pkT Y R R R R (L.nil (X.dk kn ⟨im, Sub.fresh ib R, i.u 16 (fun _ => R)⟩)))
       rintro D e s246 ⟨im, ib, i⟩ hk hf ha
       have kn := K1 ((i.p 16) (ha.at 16 R))
       exact kn.g (L.as Y R R (L.nil (X.dk kn ⟨im, Sub.fresh ib R, i.u 17 (fun _ => R)⟩)))
      rintro D e s247 hD ⟨im, ib, i⟩
      have g17_ := (i.p 17) (hD 17 R)
      have h5 := h5.mv im no_No no_No
      have h7 := h7.mono im.z
      have h9 := h9.mono im.z
      have hp2 := hp2.mono im.z
      have m0 := m0.trans im.no
      refine X.sub (e' := [(9, .bool true), (8, .bool b177), (7, .slice a5 st170.1.length c5), (0, .slice a7 st170.2.1.length c7), (1, .slice a9 st170.2.2.length c9), (2, vp2)]) ?_ (Sub.cons g17_ (Sub.cons (ib 8 _ R) (Sub.cons (ib 7 _ R) (Sub.cons (ib 0 _ R) (Sub.cons (ib 1 _ R) (Sub.cons (ib 2 _ R) Sub.nil))))))
      exact X.sub (Jj182 _ _ ⟨s247, true, hm, m0, h5, h7, h9, hp2, R, R⟩) (Sub.rf R)
     have _ := hN
     obtain ⟨x250, ex250, hm⟩ := bindS hm
     obtain ⟨x255, ex255, hm⟩ := bindS hm
     refine E.draw m_alphabet_merge_w0 (fun D e sx => Mv No s178 sx ∧ Sub [(8, .bool b177), (7, .slice a5 st170.1.length c5), (0, .slice a7 st170.2.1.length c7), (1, .slice a9 st170.2.2.length c9), (2, vp2)] e ∧ AllP [G D e 0 36 (.slice a9 st170.2.2.length c9), G D e 1 37 (.int .i64 (st170.2.2.length : Int)), G D e 2 38 (.bool (decide ((st170.2.2.length : Int) > 0))), G D e 3 39 (.bool (decide ((st170.2.2.length : Int) > 0))), G D e 4 40 (.slice a7 st170.2.1.length c7), G D e 5 41 (.int .i64 (st170.2.1.length : Int)), G D e 6 42 (.bool ((st170.2.1.length : Int) == 0)), G D e 7 43 (.bool ((st170.2.1.length : Int) == 0)), G D e 8 44 (.slice a9 st170.2.2.length c9), D 9 = true → (∃ (b251 : Nat) (o251 : Nat), Env.get e 45 = some (.pointer (some ⟨b251, o251, none⟩)) ∧ Mem sx 0 b251 o251 [.int .i64 x250]), G D e 10 46 (.int .i64 x250), G D e 11 47 (.slice a7 st170.2.1.length c7), D 12 = true → (∃ (b256 : Nat) (o256 : Nat), Env.get e 48 = some (.pointer (some ⟨b256, o256, none⟩)) ∧ Mem sx 0 b256 o256 [.int .i64 x255]), G D e 13 49 (.int .i64 x255), G D e 14 50 (.bool (decide (x250 ≤ x255))), G D e 15 51 (.bool (decide (x250 ≤ x255))), G D e 16 52 (.bool (decide (x250 ≤ x255))), G D e 17 9 (.bool (decide (x250 ≤ x255)))]) (by kernel_rfl) (by kernel_rfl) (by kernel_rfl) ?_ ?_ ?_
     ·intro sz mz
      exact ⟨mz, (Sub.rf R), nofun, nofun, nofun, nofun, nofun, nofun, nofun, nofun, nofun, nofun, nofun, nofun, nofun, nofun, nofun, nofun, nofun, nofun, trivial⟩
     ·refine ⟨?_, ?_, ?_, ?_, ?_, ?_, ?_, ?_, ?_, ?_, ?_, ?_, ?_, ?_, ?_, ?_, ?_, ?_, trivial⟩
      ·rintro D e s227 ⟨im, ib, i⟩ hk hf ha
       have kn := K1 (ib 1 _ R)
       exact kn.g (L.mv Y R R (L.nil (X.dk kn ⟨im, Sub.fresh ib R, i.u 0 (fun _ => R)⟩)))
      ·rintro D e s228 ⟨im, ib, i⟩ hk hf ha
       have kn := K1 ((i.p 0) (ha.at 0 R))
       exact kn.g (L.len sl27 Y R R (L.nil (X.dk kn ⟨im, Sub.fresh ib R, i.u 1 (fun _ => R)⟩)))
      ·rintro D e s229 ⟨im, ib, i⟩ hk hf ha
       have kn := K1 ((i.p 1) (ha.at 1 R))
       exact kn.g (L.bi Y R R R R (L.nil (X.dk kn ⟨im, Sub.fresh ib R, i.u 2 (fun _ => R)⟩)))
      ·rintro D e s230 ⟨im, ib, i⟩ hk hf ha
       have kn := K1 ((i.p 2) (ha.at 2 R))
       exact kn.g (L.mv Y R R (L.nil (X.dk kn ⟨im, Sub.fresh ib R, i.u 3 (fun _ => R)⟩)))
      ·rintro D e s232 ⟨im, ib, i⟩ hk hf ha
       have g3_ := (i.p 3) (ha.at 3 R)
       rw [hc231] at g3_
       have kn := K2 (ib 0 _ R) g3_
       exact kn.g (L.mv (Wt.mk R R) R R (L.nil (X.dk kn ⟨im, Sub.fresh ib R, i.u 4 (fun _ => R)⟩)))
      ·rintro D e s233 ⟨im, ib, i⟩ hk hf ha
       have g3_ := (i.p 3) (ha.at 3 R)
       rw [hc231] at g3_
       have kn := K2 ((i.p 4) (ha.at 4 R)) g3_
       exact kn.g (L.len sl27 (Wt.mk R R) R R (L.nil (X.dk kn ⟨im, Sub.fresh ib R, i.u 5 (fun _ => R)⟩)))
      ·rintro D e s234 ⟨im, ib, i⟩ hk hf ha
       have g3_ := (i.p 3) (ha.at 3 R)
       rw [hc231] at g3_
       have kn := K2 ((i.p 5) (ha.at 5 R)) g3_
       exact kn.g (L.bi (Wt.mk R R) R R R R (L.nil (X.dk kn ⟨im, Sub.fresh ib R, i.u 6 (fun _ => R)⟩)))
      ·rintro D e s235 ⟨im, ib, i⟩ hk hf ha
       have g3_ := (i.p 3) (ha.at 3 R)
       rw [hc231] at g3_
       have kn := K2 ((i.p 6) (ha.at 6 R)) g3_
       exact kn.g (L.mv (Wt.mk R R) R R (L.nil (X.dk kn ⟨im, Sub.fresh ib R, i.u 7 (fun _ => R)⟩)))
      ·rintro D e s248 ⟨im, ib, i⟩ hk hf ha
       have g7_ := (i.p 7) (ha.at 7 R)
       rw [hc236] at g7_
       have kn := K2 (ib 1 _ R) g7_
       exact kn.g (L.mv (Wt.mk R R) R R (L.nil (X.dk kn ⟨im, Sub.fresh ib R, i.u 8 (fun _ => R)⟩)))
      ·rintro D e s249 ⟨im, ib, i⟩ hk hf ha
       have g7_ := (i.p 7) (ha.at 7 R)
       have h9 := h9.mono im.z
       rw [hc236] at g7_
       have kn := K2 ((i.p 8) (ha.at 8 R)) g7_
       refine kn.g (L.ix (r := qI) sl27 h9 (Wt.mk R R) R R ex250 R fun b251 o251 cc251 me251 rd251 => ?_)
       obtain rfl := rd251
       exact L.nil (X.dk kn ⟨im, Sub.fresh ib R, i.u 9 (fun _ => ⟨b251, o251, R, me251⟩)⟩)
      ·rintro D e s252 ⟨im, ib, i⟩ hk hf ha
       have g7_ := (i.p 7) (ha.at 7 R)
       obtain ⟨b251, o251, g9_, me251⟩ := (i.p 9) (ha.at 9 R)
       rw [hc236] at g7_
       have kn := K2 g9_ g7_
       exact kn.g (L.ld (j := 0) me251 nag3 (Wt.mk R R) R R R R (L.nil (X.dk kn ⟨im, Sub.fresh ib R, i.u 10 (fun _ => R)⟩)))
      ·rintro D e s253 ⟨im, ib, i⟩ hk hf ha
       have g7_ := (i.p 7) (ha.at 7 R)
       rw [hc236] at g7_
       have kn := K2 (ib 0 _ R) g7_
       exact kn.g (L.mv (Wt.mk R R) R R (L.nil (X.dk kn ⟨im, Sub.fresh ib R, i.u 11 (fun _ => R)⟩)))
      ·rintro D e s254 ⟨im, ib, i⟩ hk hf ha
       have g7_ := (i.p 7) (ha.at 7 R)
       have h7 := h7.mono im.z
       rw [hc236] at g7_
       have kn := K2 ((i.p 11) (ha.at 11 R)) g7_
       refine kn.g (L.ix (r := qI) sl27 h7 (Wt.mk R R) R R ex255 R fun b256 o256 cc256 me256 rd256 => ?_)
       obtain rfl := rd256
       exact L.nil (X.dk kn ⟨im, Sub.fresh ib R, i.u 12 (fun _ => ⟨b256, o256, R, me256⟩)⟩)
      ·rintro D e s257 ⟨im, ib, i⟩ hk hf ha
       have g7_ := (i.p 7) (ha.at 7 R)
       obtain ⟨b256, o256, g12_, me256⟩ := (i.p 12) (ha.at 12 R)
       rw [hc236] at g7_
       have kn := K2 g12_ g7_
       exact kn.g (L.ld (j := 0) me256 nag3 (Wt.mk R R) R R R R (L.nil (X.dk kn ⟨im, Sub.fresh ib R, i.u 13 (fun _ => R)⟩)))
      ·rintro D e s258 ⟨im, ib, i⟩ hk hf ha
       have g7_ := (i.p 7) (ha.at 7 R)
       rw [hc236] at g7_
       have kn := K3 ((i.p 10) (ha.at 10 R)) ((i.p 13) (ha.at 13 R)) g7_
       exact kn.g (L.bi (Wt.mk R R) R R R R (L.nil (X.dk kn ⟨im, Sub.fresh ib R, i.u 14 (fun _ => R)⟩)))
      ·rintro D e s259 ⟨im, ib, i⟩ hk hf ha
       have g3_ := (i.p 3) (ha.at 3 R)
       have g7_ := (i.p 7) (ha.at 7 R)
       rw [hc236] at g7_
       rw [hc231] at g3_
       have kn := K3 g7_ ((i.p 14) (ha.at 14 R)) g3_
       exact kn.g (L.pkF (Wt.mk R R) R R R R (L.nil (X.dk kn ⟨im, Sub.fresh ib R, i.u 15 (fun _ => R)⟩)))
      ·rintro D e s260 ⟨im, ib, i⟩ hk hf ha
       have g3_ := (i.p 3) (ha.at 3 R)
       rw [hc231] at g3_
       have kn := K2 g3_ ((i.p 15) (ha.at 15 R))
       exact kn.g (L.pkT Y R R R R (L.nil (X.dk kn ⟨im, Sub.fresh ib R, i.u 16 (fun _ => R)⟩)))
      rintro D e s261 ⟨im, ib, i⟩ hk hf ha
      have kn := K1 ((i.p 16) (ha.at 16 R))
      exact kn.g (L.as Y R R (L.nil (X.dk kn ⟨im, Sub.fresh ib R, i.u 17 (fun _ => R)⟩)))
     rintro D e s262 hD ⟨im, ib, i⟩
     have g17_ := (i.p 17) (hD 17 R)
     have h5 := h5.mv im no_No no_No
     have h7 := h7.mono im.z
     have h9 := h9.mono im.z
     have hp2 := hp2.mono im.z
     have m0 := m0.trans im.no
     refine X.sub (e' := [(9, .bool (decide (x250 ≤ x255))), (8, .bool b177), (7, .slice a5 st170.1.length c5), (0, .slice a7 st170.2.1.length c7), (1, .slice a9 st170.2.2.length c9), (2, vp2)]) ?_ (Sub.cons g17_ (Sub.cons (ib 8 _ R) (Sub.cons (ib 7 _ R) (Sub.cons (ib 0 _ R) (Sub.cons (ib 1 _ R) (Sub.cons (ib 2 _ R) Sub.nil))))))
     exact X.sub (Jj182 _ _ ⟨s262, (decide (x250 ≤ x255)), hm, m0, h5, h7, h9, hp2, R, R⟩) (Sub.rf R)
    have _ := hN
    refine E.draw m_alphabet_merge_w0 (fun D e sx => Mv No s178 sx ∧ Sub [(8, .bool b177), (7, .slice a5 st170.1.length c5), (0, .slice a7 st170.2.1.length c7), (1, .slice a9 st170.2.2.length c9), (2, vp2)] e ∧ AllP [G D e 0 36 (.slice a9 st170.2.2.length c9), G D e 1 37 (.int .i64 (st170.2.2.length : Int)), G D e 2 38 (.bool (decide ((st170.2.2.length : Int) > 0))), G D e 3 39 (.bool (decide ((st170.2.2.length : Int) > 0))), G D e 4 40 undef, G D e 5 41 undef, G D e 6 42 undef, G D e 7 43 undef, G D e 8 44 undef, G D e 9 45 undef, G D e 10 46 undef, G D e 11 47 undef, G D e 12 48 undef, G D e 13 49 undef, G D e 14 50 undef, G D e 15 51 undef, G D e 16 52 (.bool false), G D e 17 9 (.bool false)]) (by kernel_rfl) (by kernel_rfl) (by kernel_rfl) ?_ ?_ ?_
    ·intro sz mz
     exact ⟨mz, (Sub.rf R), nofun, nofun, nofun, nofun, nofun, nofun, nofun, nofun, nofun, nofun, nofun, nofun, nofun, nofun, nofun, nofun, nofun, nofun, trivial⟩
    ·refine ⟨?_, ?_, ?_, ?_, ?_, ?_, ?_, ?_, ?_, ?_, ?_, ?_, ?_, ?_, ?_, ?_, ?_, ?_, trivial⟩
     ·rintro D e s227 ⟨im, ib, i⟩ hk hf ha
      have kn := K1 (ib 1 _ R)
      exact kn.g (L.mv Y R R (L.nil (X.dk kn ⟨im, Sub.fresh ib R, i.u 0 (fun _ => R)⟩)))
     ·rintro D e s228 ⟨im, ib, i⟩ hk hf ha
      have kn := K1 ((i.p 0) (ha.at 0 R))
      exact kn.g (L.len sl27 Y R R (L.nil (X.dk kn ⟨im, Sub.fresh ib R, i.u 1 (fun _ => R)⟩)))
     ·rintro D e s229 ⟨im, ib, i⟩ hk hf ha
      have kn := K1 ((i.p 1) (ha.at 1 R))
      exact kn.g (L.bi Y R R R R (L.nil (X.dk kn ⟨im, Sub.fresh ib R, i.u 2 (fun _ => R)⟩)))
     ·rintro D e s230 ⟨im, ib, i⟩ hk hf ha
      have kn := K1 ((i.p 2) (ha.at 2 R))
      exact kn.g (L.mv Y R R (L.nil (X.dk kn ⟨im, Sub.fresh ib R, i.u 3 (fun _ => R)⟩)))
     ·rintro D e s263 ⟨im, ib, i⟩ hk hf ha
      have g3_ := (i.p 3) (ha.at 3 R)
      rw [hc231] at g3_
      have kn := K2 (ib 0 _ R) g3_
      exact kn.g (L.skip R R R R (L.nil (X.dk kn ⟨im, Sub.fresh ib R, i.u 4 (fun _ => R)⟩)))
     ·rintro D e s264 ⟨im, ib, i⟩ hk hf ha
      have g3_ := (i.p 3) (ha.at 3 R)
      rw [hc231] at g3_
      have kn := K2 ((i.p 4) (ha.at 4 R)) g3_
      exact kn.g (L.skip R R R R (L.nil (X.dk kn ⟨im, Sub.fresh ib R, i.u 5 (fun _ => R)⟩)))
     ·rintro D e s265 ⟨im, ib, i⟩ hk hf ha
      have g3_ := (i.p 3) (ha.at 3 R)
      rw [hc231] at g3_
      have kn := K2 ((i.p 5) (ha.at 5 R)) g3_
      exact kn.g (L.skip R R R R (L.nil (X.dk kn ⟨im, Sub.fresh ib R, i.u 6 (fun _ => R)⟩)))
     ·rintro D e s266 ⟨im, ib, i⟩ hk hf ha
      have g3_ := (i.p 3) (ha.at 3 R)
      rw [hc231] at g3_
      have kn := K2 ((i.p 6) (ha.at 6 R)) g3_
      exact kn.g (L.skip R R R R (L.nil (X.dk kn ⟨im, Sub.fresh ib R, i.u 7 (fun _ => R)⟩)))
     ·rintro D e s267 ⟨im, ib, i⟩ hk hf ha
      have kn := K2 (ib 1 _ R) ((i.p 7) (ha.at 7 R))
      exact kn.g (L.skipU R R R (L.nil (X.dk kn ⟨im, Sub.fresh ib R, i.u 8 (fun _ => R)⟩)))
     ·rintro D e s268 ⟨im, ib, i⟩ hk hf ha
      have kn := K2 ((i.p 8) (ha.at 8 R)) ((i.p 7) (ha.at 7 R))
      exact kn.g (L.skipU R R R (L.nil (X.dk kn ⟨im, Sub.fresh ib R, i.u 9 (fun _ => R)⟩)))
     ·rintro D e s269 ⟨im, ib, i⟩ hk hf ha
      have kn := K2 ((i.p 9) (ha.at 9 R)) ((i.p 7) (ha.at 7 R))
      exact kn.g (L.skipU R R R (L.nil (X.dk kn ⟨im, Sub.fresh ib R, i.u 10 (fun _ => R)⟩)))
     ·rintro D e s270 ⟨im, ib, i⟩ hk hf ha
      have kn := K2 (ib 0 _ R) ((i.p 7) (ha.at 7 R))
      exact kn.g (L.skipU R R R (L.nil (X.dk kn ⟨im, Sub.fresh ib R, i.u 11 (fun _ => R)⟩)))
     ·rintro D e s271 ⟨im, ib, i⟩ hk hf ha
      have kn := K2 ((i.p 11) (ha.at 11 R)) ((i.p 7) (ha.at 7 R))
      exact kn.g (L.skipU R R R (L.nil (X.dk kn ⟨im, Sub.fresh ib R, i.u 12 (fun _ => R)⟩)))
     ·rintro D e s272 ⟨im, ib, i⟩ hk hf ha
      have kn := K2 ((i.p 12) (ha.at 12 R)) ((i.p 7) (ha.at 7 R))
      exact kn.g (L.skipU R R R (L.nil (X.dk kn ⟨im, Sub.fresh ib R, i.u 13 (fun _ => R)⟩)))
     ·rintro D e s273 ⟨im, ib, i⟩ hk hf ha
      have kn := K3 ((i.p 10) (ha.at 10 R)) ((i.p 13) (ha.at 13 R)) ((i.p 7) (ha.at 7 R))
      exact kn.g (L.skipU R R R (L.nil (X.dk kn ⟨im, Sub.fresh ib R, i.u 14 (fun _ => R)⟩)))
     ·rintro D e s274 ⟨im, ib, i⟩ hk hf ha
      have g3_ := (i.p 3) (ha.at 3 R)
      rw [hc231] at g3_
      have kn := K3 ((i.p 7) (ha.at 7 R)) ((i.p 14) (ha.at 14 R)) g3_
      exact kn.g (L.skip R R R R (L.nil (X.dk kn ⟨im, Sub.fresh ib R, i.u 15 (fun _ => R)⟩)))
     ·rintro D e s275 ⟨im, ib, i⟩ hk hf ha
      have g3_ := (i.p 3) (ha.at 3 R)
      rw [hc231] at g3_
      have kn := K2 g3_ ((i.p 15) (ha.at 15 R))
      exact kn.g (L.pkF Y R R R R (L.nil (X.dk kn ⟨im, Sub.fresh ib R, i.u 16 (fun _ => R)⟩)))
     rintro D e s276 ⟨im, ib, i⟩ hk hf ha
     have kn := K1 ((i.p 16) (ha.at 16 R))
     exact kn.g (L.as Y R R (L.nil (X.dk kn ⟨im, Sub.fresh ib R, i.u 17 (fun _ => R)⟩)))
    rintro D e s277 hD ⟨im, ib, i⟩
    have g17_ := (i.p 17) (hD 17 R)
    have h5 := h5.mv im no_No no_No
    have h7 := h7.mono im.z
    have h9 := h9.mono im.z
    have hp2 := hp2.mono im.z
    have m0 := m0.trans im.no
    refine X.sub (e' := [(9, .bool false), (8, .bool b177), (7, .slice a5 st170.1.length c5), (0, .slice a7 st170.2.1.length c7), (1, .slice a9 st170.2.2.length c9), (2, vp2)]) ?_ (Sub.cons g17_ (Sub.cons (ib 8 _ R) (Sub.cons (ib 7 _ R) (Sub.cons (ib 0 _ R) (Sub.cons (ib 1 _ R) (Sub.cons (ib 2 _ R) Sub.nil))))))
    exact X.sub (Jj182 _ _ ⟨s277, false, hm, m0, h5, h7, h9, hp2, R, R⟩) (Sub.rf R)
   intro Jj179
   rcases ifS hm with ⟨hc282, hm⟩ | ⟨hc282, hm⟩
   ·have _ := hN
    rcases ifS hm with ⟨hc287, hm⟩ | ⟨hc287, hm⟩
    ·have _ := hN
     refine E.draw m_alphabet_merge_w0 (fun D e sx => Mv No s173 sx ∧ Sub [(7, .slice a5 st170.1.length c5), (0, .slice a7 st170.2.1.length c7), (1, .slice a9 st170.2.2.length c9), (2, vp2)] e ∧ AllP [G D e 0 19 (.slice a7 st170.2.1.length c7), G D e 1 20 (.int .i64 (st170.2.1.length : Int)), G D e 2 21 (.bool (decide ((st170.2.1.length : Int) > 0))), G D e 3 22 (.bool (decide ((st170.2.1.length : Int) > 0))), G D e 4 23 (.slice a9 st170.2.2.length c9), G D e 5 24 (.int .i64 (st170.2.2.length : Int)), G D e 6 25 (.bool ((st170.2.2.length : Int) == 0)), G D e 7 26 (.bool ((st170.2.2.length : Int) == 0)), G D e 8 27 undef, G D e 9 28 undef, G D e 10 29 undef, G D e 11 30 undef, G D e 12 31 undef, G D e 13 32 undef, G D e 14 33 undef, G D e 15 34 (.bool true), G D e 16 35 (.bool true), G D e 17 8 (.bool true)]) (by kernel_rfl) (by kernel_rfl) (by kernel_rfl) ?_ ?_ ?_
     ·intro sz mz
      exact ⟨mz, (Sub.rf R), nofun, nofun, nofun, nofun, nofun, nofun, nofun, nofun, nofun, nofun, nofun, nofun, nofun, nofun, nofun, nofun, nofun, nofun, trivial⟩
     ·refine ⟨?_, ?_, ?_, ?_, ?_, ?_, ?_, ?_, ?_, ?_, ?_, ?_, ?_, ?_, ?_, ?_, ?_, ?_, trivial⟩
      ·rintro D e s278 ⟨im, ib, i⟩ hk hf ha
       have kn := K1 (ib 0 _ R)
       exact kn.g (L.mv Y R R (L.nil (X.dk kn ⟨im, Sub.fresh ib R, i.u 0 (fun _ => R)⟩)))
      ·rintro D e s279 ⟨im, ib, i⟩ hk hf ha
       have kn := K1 ((i.p 0) (ha.at 0 R))
       exact kn.g (L.len sl27 Y R R (L.nil (X.dk kn ⟨im, Sub.fresh ib R, i.u 1 (fun _ => R)⟩)))
      ·rintro D e s280 ⟨im, ib, i⟩ hk hf ha
       have kn := K1 ((i.p 1) (ha.at 1 R))
       exact kn.g (L.bi Y R R R R (L.nil (X.dk kn ⟨im, Sub.fresh ib R, i.u 2 (fun _ => R)⟩)))
      ·rintro D e s281 ⟨im, ib, i⟩ hk hf ha
       have kn := K1 ((i.p 2) (ha.at 2 R))
       exact kn.g (L.mv Y R R (L.nil (X.dk kn ⟨im, Sub.fresh ib R, i.u 3 (fun _ => R)⟩)))
      ·rintro D e s283 ⟨im, ib, i⟩ hk hf ha
       have g3_ := (i.p 3) (ha.at 3 R)
       rw [hc282] at g3_
       have kn := K2 (ib 1 _ R) g3_
       exact kn.g (L.mv (Wt.mk R R) R R (L.nil (X.dk kn ⟨im, Sub.fresh ib R, i.u 4 (fun _ => R)⟩)))
      ·rintro D e s284 ⟨im, ib, i⟩ hk hf ha
       have g3_ := (i.p 3) (ha.at 3 R)
       rw [hc282] at g3_
       have kn := K2 ((i.p 4) (ha.at 4 R)) g3_
       exact kn.g (L.len sl27 (Wt.mk R R) R R (L.nil (X.dk kn ⟨im, Sub.fresh ib R, i.u 5 (fun _ => R)⟩)))
      ·rintro D e s285 ⟨im, ib, i⟩ hk hf ha
       have g3_ := (i.p 3) (ha.at 3 R)
       rw [hc282] at g3_
       have kn := K2 ((i.p 5) (ha.at 5 R)) g3_
       exact kn.g (L.bi (Wt.mk R R) R R R R (L.nil (X.dk kn ⟨im, Sub.fresh ib R, i.u 6 (fun _ => R)⟩)))
      ·rintro D e s286 ⟨im, ib, i⟩ hk hf ha
       have g3_ := (i.p 3) (ha.at 3 R)
       rw [hc282] at g3_
       have kn := K2 ((i.p 6) (ha.at 6 R)) g3_
       exact kn.g (L.mv (Wt.mk R R) R R (L.nil (X.dk kn ⟨im, Sub.fresh ib R, i.u 7 (fun _ => R)⟩)))
      ·rintro D e s288 ⟨im, ib, i⟩ hk hf ha
       have g7_ := (i.p 7) (ha.at 7 R)
       rw [hc287] at g7_
       have kn := K2 (ib 0 _ R) g7_
       exact kn.g (L.skip R R R R (L.nil (X.dk kn ⟨im, Sub.fresh ib R, i.u 8 (fun _ => R)⟩)))
      ·rintro D e s289 ⟨im, ib, i⟩ hk hf ha
       have g7_ := (i.p 7) (ha.at 7 R)
       rw [hc287] at g7_
       have kn := K2 ((i.p 8) (ha.at 8 R)) g7_
       exact kn.g (L.skip R R R R (L.nil (X.dk kn ⟨im, Sub.fresh ib R, i.u 9 (fun _ => R)⟩)))
      ·rintro D e s290 ⟨im, ib, i⟩ hk hf ha
       have g7_ := (i.p 7) (ha.at 7 R)
       rw [hc287] at g7_
       have kn := K2 ((i.p 9) (ha.at 9 R)) g7_
       exact kn.g (L.skip R R R R (L.nil (X.dk kn ⟨im, Sub.fresh ib R, i.u 10 (fun _ => R)⟩)))
      ·rintro D e s291 ⟨im, ib, i⟩ hk hf ha
       have g7_ := (i.p 7) (ha.at 7 R)
       rw [hc287] at g7_
       have kn := K2 (ib 1 _ R) g7_
       exact kn.g (L.skip R R R R (L.nil (X.dk kn ⟨im, Sub.fresh ib R, i.u 11 (fun _ => R)⟩)))
      ·rintro D e s292 ⟨im, ib, i⟩ hk hf ha
       have g7_ := (i.p 7) (ha.at 7 R)
       rw [hc287] at g7_
       have kn := K2 ((i.p 11) (ha.at 11 R)) g7_
       exact kn.g (L.skip R R R R (L.nil (X.dk kn ⟨im, Sub.fresh ib R, i.u 12 (fun _ => R)⟩)))
      ·rintro D e s293 ⟨im, ib, i⟩ hk hf ha
       have g7_ := (i.p 7) (ha.at 7 R)
       rw [hc287] at g7_
       have kn := K2 ((i.p 12) (ha.at 12 R)) g7_
       exact kn.g (L.skip R R R R (L.nil (X.dk kn ⟨im, Sub.fresh ib R, i.u 13 (fun _ => R)⟩)))
      ·rintro D e s294 ⟨im, ib, i⟩ hk hf ha
       have g7_ := (i.p 7) (ha.at 7 R)
       rw [hc287] at g7_
       have kn := K3 ((i.p 10) (ha.at 10 R)) ((i.p 13) (ha.at 13 R)) g7_
       exact kn.g (L.skip R R R R (L.nil (X.dk kn ⟨im, Sub.fresh ib R, i.u 14 (fun _ => R)⟩)))
      ·rintro D e s295 ⟨im, ib, i⟩ hk hf ha
       have g3_ := (i.p 3) (ha.at 3 R)
       have g7_ := (i.p 7) (ha.at 7 R)
       rw [hc287] at g7_
       rw [hc282] at g3_
       have kn := K3 g7_ ((i.p 14) (ha.at 14 R)) g3_
       exact kn.g (L.pkT (Wt.mk R R) R R R R (L.nil (X.dk kn ⟨im, Sub.fresh ib R, i.u 15 (fun _ => R)⟩)))
      ·rintro D e s296 ⟨im, ib, i⟩ hk hf ha
       have g3_ := (i.p 3) (ha.at 3 R)
       rw [hc282] at g3_
       have kn := K2 g3_ ((i.p 15) (ha.at 15 R))
       exact kn.g (L.pkT Y R R R R (L.nil (X.dk kn ⟨im, Sub.fresh ib R, i.u 16 (fun _ => R)⟩)))
      rintro D e s297 ⟨im, ib, i⟩ hk hf ha
      have kn := K1 ((i.p 16) (ha.at 16 R))
      exact kn.g (L.as Y R R (L.nil (X.dk kn ⟨im, Sub.fresh ib R, i.u 17 (fun _ => R)⟩)))
     rintro D e s298 hD ⟨im, ib, i⟩
     have g17_ := (i.p 17) (hD 17 R)
     have h5 := h5.mv im no_No no_No
     have h7 := h7.mono im.z
     have h9 := h9.mono im.z
     have hp2 := hp2.mono im.z
     have m0 := m0.trans im.no
     refine X.sub (e' := [(8, .bool true), (7, .slice a5 st170.1.length c5), (0, .slice a7 st170.2.1.length c7), (1, .slice a9 st170.2.2.length c9), (2, vp2)]) ?_ (Sub.cons g17_ (Sub.cons (ib 7 _ R) (Sub.cons (ib 0 _ R) (Sub.cons (ib 1 _ R) (Sub.cons (ib 2 _ R) Sub.nil)))))
     exact X.sub (Jj179 _ _ ⟨s298, true, hm, m0, h5, h7, h9, hp2, R, R⟩) (Sub.rf R)
    have _ := hN
    obtain ⟨x301, ex301, hm⟩ := bindS hm
    obtain ⟨x306, ex306, hm⟩ := bindS hm
    refine E.draw m_alphabet_merge_w0 (fun D e sx => Mv No s173 sx ∧ Sub [(7, .slice a5 st170.1.length c5), (0, .slice a7 st170.2.1.length c7), (1, .slice a9 st170.2.2.length c9), (2, vp2)] e ∧ AllP [G D e 0 19 (.slice a7 st170.2.1.length c7), G D e 1 20 (.int .i64 (st170.2.1.length : Int)), G D e 2 21 (.bool (decide ((st170.2.1.length : Int) > 0))), G D e 3 22 (.bool (decide ((st170.2.1.length : Int) > 0))), G D e 4 23 (.slice a9 st170.2.2.length c9), G D e 5 24 (.int .i64 (st170.2.2.length : Int)), G D e 6 25 (.bool ((st170.2.2.length : Int) == 0)), G D e 7 26 (.bool ((st170.2.2.length : Int) == 0)), G D e 8 27 (.slice a7 st170.2.1.length c7), D 9 = true → (∃ (b302 : Nat) (o302 : Nat), Env.get e 28 = some (.pointer (some ⟨b302, o302, none⟩)) ∧ Mem sx 0 b302 o302 [.int .i64 x301]), G D e 10 29 (.int .i64 x301), G D e 11 30 (.slice a9 st170.2.2.length c9), D 12 = true → (∃ (b307 : Nat) (o307 : Nat), Env.get e 31 = some (.pointer (some ⟨b307, o307, none⟩)) ∧ Mem sx 0 b307 o307 [.int .i64 x306]), G D e 13 32 (.int .i64 x306), G D e 14 33 (.bool (decide (x301 ≤ x306))), G D e 15 34 (.bool (decide (x301 ≤ x306))), G D e 16 35 (.bool (decide (x301 ≤ x306))), G D e 17 8 (.bool (decide (x301 ≤ x306)))]) (by kernel_rfl) (by kernel_rfl) (by kernel_rfl) ?_ ?_ ?_
    ·intro sz mz
     exact ⟨mz, (Sub.rf R), nofun, nofun, nofun, nofun, nofun, nofun, nofun, nofun, nofun, nofun, nofun, nofun, nofun, nofun, nofun, nofun, nofun, nofun, trivial⟩
    ·refine ⟨?_, ?_, ?_, ?_, ?_, ?_, ?_, ?_, ?_, ?_, ?_, ?_, ?_, ?_, ?_, ?_, ?_, ?_, trivial⟩
     ·rintro D e s278 ⟨im, ib, i⟩ hk hf ha
      have kn := K1 (ib 0 _ R)
      exact kn.g (L.mv Y R R (L.nil (X.dk kn ⟨im, Sub.fresh ib R, i.u 0 (fun _ => R)⟩)))
     ·rintro D e s279 ⟨im, ib, i⟩ hk hf ha
      have kn := K1 ((i.p 0) (ha.at 0 R))
      exact kn.g (L.len sl27 Y R R (L.nil (X.dk kn ⟨im, Sub.fresh ib R, i.u 1 (fun _ => R)⟩)))
     ·rintro D e s280 ⟨im, ib, i⟩ hk hf ha
      have kn := K1 ((i.p 1) (ha.at 1 R))
      exact kn.g (L.bi Y R R R R (L.nil (X.dk kn ⟨im, Sub.fresh ib R, i.u 2 (fun _ => R)⟩)))
     ·rintro D e s281 ⟨im, ib, i⟩ hk hf ha
      have kn := K1 ((i.p 2) (ha.at 2 R))
      exact kn.g (L.mv Y R R (L.nil (X.dk kn ⟨im, Sub.fresh ib R, i.u 3 (fun _ => R)⟩)))
     ·rintro D e s283 ⟨im, ib, i⟩ hk hf ha
      have g3_ := (i.p 3) (ha.at 3 R)
      rw [hc282] at g3_
      have kn := K2 (ib 1 _ R) g3_
      exact kn.g (L.mv (Wt.mk R R) R R (L.nil (X.dk kn ⟨im, Sub.fresh ib R, i.u 4 (fun _ => R)⟩)))
     ·rintro D e s284 ⟨im, ib, i⟩ hk hf ha
      have g3_ := (i.p 3) (ha.at 3 R)
      rw [hc282] at g3_
      have kn := K2 ((i.p 4) (ha.at 4 R)) g3_
      exact kn.g (L.len sl27 (Wt.mk R R) R R (L.nil (X.dk kn ⟨im, Sub.fresh ib R, i.u 5 (fun _ => R)⟩)))
     ·rintro D e s285 ⟨im, ib, i⟩ hk hf ha
      have g3_ := (i.p 3) (ha.at 3 R)
      rw [hc282] at g3_
      have kn := K2 ((i.p 5) (ha.at 5 R)) g3_
      exact kn.g (L.bi (Wt.mk R R) R R R R (L.nil (X.dk kn ⟨im, Sub.fresh ib R, i.u 6 (fun _ => R)⟩)))
     ·rintro D e s286 ⟨im, ib, i⟩ hk hf ha
      have g3_ := (i.p 3) (ha.at 3 R)
      rw [hc282] at g3_
      have kn := K2 ((i.p 6) (ha.at 6 R)) g3_
      exact kn.g (L.mv (Wt.mk R R) R R (L.nil (X.dk kn ⟨im, Sub.fresh ib R, i.u 7 (fun _ => R)⟩)))
     ·rintro D e s299 ⟨im, ib, i⟩ hk hf ha
      have g7_ := (i.p 7) (ha.at 7 R)
      rw [hc287] at g7_
      have kn := K2 (ib 0 _ R) g7_
      exact kn.g (L.mv (Wt.mk R R) R R (L.nil (X.dk kn ⟨im, Sub.fresh ib R, i.u 8 (fun _ => R)⟩)))
     ·rintro D e s300 ⟨im, ib, i⟩ hk hf ha
      have g7_ := (i.p 7) (ha.at 7 R)
      have h7 := h7.mono im.z
      rw [hc287] at g7_
      have kn := K2 ((i.p 8) (ha.at 8 R)) g7_
      refine kn.g (L.ix (r := qI) sl27 h7 (Wt.mk R R) R R ex301 R fun b302 o302 cc302 me302 rd302 => ?_)
      obtain rfl := rd302
      exact L.nil (X.dk kn ⟨im, Sub.fresh ib R, i.u 9 (fun _ => ⟨b302, o302, R, me302⟩)⟩)
     ·rintro D e s303 ⟨im, ib, i⟩ hk hf ha
      have g7_ := (i.p 7) (ha.at 7 R)
      obtain ⟨b302, o302, g9_, me302⟩ := (i.p 9) (ha.at 9 R)
      rw [hc287] at g7_
      have kn := K2 g9_ g7_
      exact kn.g (L.ld (j := 0) me302 nag3 (Wt.mk R R) R R R R (L.nil (X.dk kn ⟨im, Sub.fresh ib R, i.u 10 (fun _ => R)⟩)))
     ·rintro D e s304 ⟨im, ib, i⟩ hk hf ha
      have g7_ := (i.p 7) (ha.at 7 R)
      rw [hc287] at g7_
      have kn := K2 (ib 1 _ R) g7_
      exact kn.g (L.mv (Wt.mk R R) R R (L.nil (X.dk kn ⟨im, Sub.fresh ib R, i.u 11 (fun _ => R)⟩)))
     ·rintro D e s305 ⟨im, ib, i⟩ hk hf ha
      have g7_ := (i.p 7) (ha.at 7 R)
      have h9 := h9.mono im.z
      rw [hc287] at g7_
      have kn := K2 ((i.p 11) (ha.at 11 R)) g7_
      refine kn.g (L.ix (r := qI) sl27 h9 (Wt.mk R R) R R ex306 R fun b307 o307 cc307 me307 rd307 => ?_)
      obtain rfl := rd307
      exact L.nil (X.dk kn ⟨im, Sub.fresh ib R, i.u 12 (fun _ => ⟨b307, o307, R, me307⟩)⟩)
     ·rintro D e s308 ⟨im, ib, i⟩ hk hf ha
      have g7_ := (i.p 7) (ha.at 7 R)
      obtain ⟨b307, o307, g12_, me307⟩ := (i.p 12) (ha.at 12 R)
      rw [hc287] at g7_
      have kn := K2 g12_ g7_
      exact kn.g (L.ld (j := 0) me307 nag3 (Wt.mk R R) R R R R (L.nil (X.dk kn ⟨im, Sub.fresh ib R, i.u 13 (fun _ => R)⟩)))
     ·rintro D e s309 ⟨im, ib, i⟩ hk hf ha
      have g7_ := (i.p 7) (ha.at 7 R)
      rw [hc287] at g7_
      have kn := K3 ((i.p 10) (ha.at 10 R)) ((i.p 13) (ha.at 13 R)) g7_
      exact kn.g (L.bi (Wt.mk R R) R R R R (L.nil (X.dk kn ⟨im, Sub.fresh ib R, i.u 14 (fun _ => R)⟩)))
     ·rintro D e s310 ⟨im, ib, i⟩ hk hf ha
      have g3_ := (i.p 3) (ha.at 3 R)
      have g7_ := (i.p 7) (ha.at 7 R)
      rw [hc287] at g7_
      rw [hc282] at g3_
      have kn := K3 g7_ ((i.p 14) (ha.at 14 R)) g3_
      exact kn.g (L.pkF (Wt.mk R R) R R R R (L.nil (X.dk kn ⟨im, Sub.fresh ib R, i.u 15 (fun _ => R)⟩)))
     ·rintro D e s311 ⟨im, ib, i⟩ hk hf ha
      have g3_ := (i.p 3) (ha.at 3 R)
      rw [hc282] at g3_
      have kn := K2 g3_ ((i.p 15) (ha.at 15 R))
      exact kn.g (L.pkT Y R R R R (L.nil (X.dk kn ⟨im, Sub.fresh ib R, i.u 16 (fun _ => R)⟩)))
     rintro D e s312 ⟨im, ib, i⟩ hk hf ha
     have kn := K1 ((i.p 16) (ha.at 16 R))
     exact kn.g (L.as Y R R (L.nil (X.dk kn ⟨im, Sub.fresh ib R, i.u 17 (fun _ => R)⟩)))
    rintro D e s313 hD ⟨im, ib, i⟩
    have g17_ := (i.p 17) (hD 17 R)
    have h5 := h5.mv im no_No no_No
    have h7 := h7.mono im.z
    have h9 := h9.mono im.z
    have hp2 := hp2.mono im.z
    have m0 := m0.trans im.no
    refine X.sub (e' := [(8, .bool (decide (x301 ≤ x306))), (7, .slice a5 st170.1.length c5), (0, .slice a7 st170.2.1.length c7), (1, .slice a9 st170.2.2.length c9), (2, vp2)]) ?_ (Sub.cons g17_ (Sub.cons (ib 7 _ R) (Sub.cons (ib 0 _ R) (Sub.cons (ib 1 _ R) (Sub.cons (ib 2 _ R) Sub.nil)))))
    exact X.sub (Jj179 _ _ ⟨s313, (decide (x301 ≤ x306)), hm, m0, h5, h7, h9, hp2, R, R⟩) (Sub.rf R)
   have _ := hN
   refine E.draw m_alphabet_merge_w0 (fun D e sx => Mv No s173 sx ∧ Sub [(7, .slice a5 st170.1.length c5), (0, .slice a7 st170.2.1.length c7), (1, .slice a9 st170.2.2.length c9), (2, vp2)] e ∧ AllP [G D e 0 19 (.slice a7 st170.2.1.length c7), G D e 1 20 (.int .i64 (st170.2.1.length : Int)), G D e 2 21 (.bool (decide ((st170.2.1.length : Int) > 0))), G D e 3 22 (.bool (decide ((st170.2.1.length : Int) > 0))), G D e 4 23 undef, G D e 5 24 undef, G D e 6 25 undef, G D e 7 26 undef, G D e 8 27 undef, G D e 9 28 undef, G D e 10 29 undef, G D e 11 30 undef, G D e 12 31 undef, G D e 13 32 undef, G D e 14 33 undef, G D e 15 34 undef, G D e 16 35 (.bool false), G D e 17 8 (.bool false)]) (by kernel_rfl) (by kernel_rfl) (by kernel_rfl) ?_ ?_ ?_
   ·intro sz mz
    exact ⟨mz, (Sub.rf R), nofun, nofun, nofun, nofun, nofun, nofun, nofun, nofun, nofun, nofun, nofun, nofun, nofun, nofun, nofun, nofun, nofun, nofun, trivial⟩
   ·refine ⟨?_, ?_, ?_, ?_, ?_, ?_, ?_, ?_, ?_, ?_, ?_, ?_, ?_, ?_, ?_, ?_, ?_, ?_, trivial⟩
    ·rintro D e s278 ⟨im, ib, i⟩ hk hf ha
     have kn := K1 (ib 0 _ R)
     exact kn.g (L.mv Y R R (L.nil (X.dk kn ⟨im, Sub.fresh ib R, i.u 0 (fun _ => R)⟩)))
    ·rintro D e s279 ⟨im, ib, i⟩ hk hf ha
     have kn := K1 ((i.p 0) (ha.at 0 R))
     exact kn.g (L.len sl27 Y R R (L.nil (X.dk kn ⟨im, Sub.fresh ib R, i.u 1 (fun _ => R)⟩)))
    ·rintro D e s280 ⟨im, ib, i⟩ hk hf ha
     have kn := K1 ((i.p 1) (ha.at 1 R))
     exact kn.g (L.bi Y R R R R (L.nil (X.dk kn ⟨im, Sub.fresh ib R, i.u 2 (fun _ => R)⟩)))
    ·rintro D e s281 ⟨im, ib, i⟩ hk hf ha
     have kn := K1 ((i.p 2) (ha.at 2 R))
     exact kn.g (L.mv Y R R (L.nil (X.dk kn ⟨im, Sub.fresh ib R, i.u 3 (fun _ => R)⟩)))
    ·rintro D e s314 ⟨im, ib, i⟩ hk hf ha
     have g3_ := (i.p 3) (ha.at 3 R)
     rw [hc282] at g3_
     have kn := K2 (ib 1 _ R) g3_
     exact kn.g (L.skip R R R R (L.nil (X.dk kn ⟨im, Sub.fresh ib R, i.u 4 (fun _ => R)⟩)))
    ·rintro D e s315 ⟨im, ib, i⟩ hk hf ha
     have g3_ := (i.p 3) (ha.at 3 R)
     rw [hc282] at g3_
     have kn := K2 ((i.p 4) (ha.at 4 R)) g3_
     exact kn.g (L.skip R R R R (L.nil (X.dk kn ⟨im, Sub.fresh ib R, i.u 5 (fun _ => R)⟩)))
    ·rintro D e s316 ⟨im, ib, i⟩ hk hf ha
     have g3_ := (i.p 3) (ha.at 3 R)
     rw [hc282] at g3_
     have kn := K2 ((i.p 5) (ha.at 5 R)) g3_
     exact kn.g (L.skip R R R R (L.nil (X.dk kn ⟨im, Sub.fresh ib R, i.u 6 (fun _ => R)⟩)))
    ·rintro D e s317 ⟨im, ib, i⟩ hk hf ha
     have g3_ := (i.p 3) (ha.at 3 R)
     rw [hc282] at g3_
     have kn := K2 ((i.p 6) (ha.at 6 R)) g3_
     exact kn.g (L.skip R R R R (L.nil (X.dk kn ⟨im, Sub.fresh ib R, i.u 7 (fun _ => R)⟩)))
    ·rintro D e s318 ⟨im, ib, i⟩ hk hf ha
     have kn := K2 (ib 0 _ R) ((i.p 7) (ha.at 7 R))
     exact kn.g (L.skipU R R R (L.nil (X.dk kn ⟨im, Sub.fresh ib R, i.u 8 (fun _ => R)⟩)))
    ·rintro D e s319 ⟨im, ib, i⟩ hk hf ha
     have kn := K2 ((i.p 8) (ha.at 8 R)) ((i.p 7) (ha.at 7 R))
     exact kn.g (L.skipU R R R (L.nil (X.dk kn ⟨im, Sub.fresh ib R, i.u 9 (fun _ => R)⟩)))
    ·rintro D e s320 ⟨im, ib, i⟩ hk hf ha
     have kn := K2 ((i.p 9) (ha.at 9 R)) ((i.p 7) (ha.at 7 R))
     exact kn.g (L.skipU R R R (L.nil (X.dk kn ⟨im, Sub.fresh ib R, i.u 10 (fun _ => R)⟩)))
    ·rintro D e s321 ⟨im, ib, i⟩ hk hf ha
     have kn := K2 (ib 1 _ R) ((i.p 7) (ha.at 7 R))
     exact kn.g (L.skipU R R R (L.nil (X.dk kn ⟨im, Sub.fresh ib R, i.u 11 (fun _ => R)⟩)))
    ·rintro D e s322 ⟨im, ib, i⟩ hk hf ha
     have kn := K2 ((i.p 11) (ha.at 11 R)) ((i.p 7) (ha.at 7 R))
     exact kn.g (L.skipU R R R (L.nil (X.dk kn ⟨im, Sub.fresh ib R, i.u 12 (fun _ => R)⟩)))
    ·rintro D e s323 ⟨im, ib, i⟩ hk hf ha
     have kn := K2 ((i.p 12) (ha.at 12 R)) ((i.p 7) (ha.at 7 R))
     exact kn.g (L.skipU R R R (L.nil (X.dk kn ⟨im, Sub.fresh ib R, i.u 13 (fun _ => R)⟩)))
    ·rintro D e s324 ⟨im, ib, i⟩ hk hf ha
     have kn := K3 ((i.p 10) (ha.at 10 R)) ((i.p 13) (ha.at 13 R)) ((i.p 7) (ha.at 7 R))
     exact kn.g (L.skipU R R R (L.nil (X.dk kn ⟨im, Sub.fresh ib R, i.u 14 (fun _ => R)⟩)))
    ·rintro D e s325 ⟨im, ib, i⟩ hk hf ha
     have g3_ := (i.p 3) (ha.at 3 R)
     rw [hc282] at g3_
     have kn := K3 ((i.p 7) (ha.at 7 R)) ((i.p 14) (ha.at 14 R)) g3_
     exact kn.g (L.skip R R R R (L.nil (X.dk kn ⟨im, Sub.fresh ib R, i.u 15 (fun _ => R)⟩)))
    ·rintro D e s326 ⟨im, ib, i⟩ hk hf ha
     have g3_ := (i.p 3) (ha.at 3 R)
     rw [hc282] at g3_
     have kn := K2 g3_ ((i.p 15) (ha.at 15 R))
     exact kn.g (L.pkF Y R R R R (L.nil (X.dk kn ⟨im, Sub.fresh ib R, i.u 16 (fun _ => R)⟩)))
    rintro D e s327 ⟨im, ib, i⟩ hk hf ha
    have kn := K1 ((i.p 16) (ha.at 16 R))
    exact kn.g (L.as Y R R (L.nil (X.dk kn ⟨im, Sub.fresh ib R, i.u 17 (fun _ => R)⟩)))
   rintro D e s328 hD ⟨im, ib, i⟩
   have g17_ := (i.p 17) (hD 17 R)
   have h5 := h5.mv im no_No no_No
   have h7 := h7.mono im.z
   have h9 := h9.mono im.z
   have hp2 := hp2.mono im.z
   have m0 := m0.trans im.no
   refine X.sub (e' := [(8, .bool false), (7, .slice a5 st170.1.length c5), (0, .slice a7 st170.2.1.length c7), (1, .slice a9 st170.2.2.length c9), (2, vp2)]) ?_ (Sub.cons g17_ (Sub.cons (ib 7 _ R) (Sub.cons (ib 0 _ R) (Sub.cons (ib 1 _ R) (Sub.cons (ib 2 _ R) Sub.nil)))))
   exact X.sub (Jj179 _ _ ⟨s328, false, hm, m0, h5, h7, h9, hp2, R, R⟩) (Sub.rf R)
  refine E.cF R hc (E.exit (X.seqX (X.seqX ?_)))
  have hx := ho170 _ (oi hm).symm
  subst hx
  exact X.sub (K175 _ _ ⟨s173, a5, c5, m0, h5, R, R⟩) (Sub.rf R)
 intro J329
 rcases Bool.eq_false_or_eq_true (decide ((st170.2.1.length : Int) > 0)) with hc | hc
 ·exact L.know (d := 14) R hc (L.skip R R R R (L.skip R R R R (L.skip R R R R (L.pkT Y R R R R (L.sb (J329 _ _ ⟨true, (orT hc).symm, R, R⟩) R)))))
 exact L.know (d := 14) R hc (L.mv (Wt.mk R R) R R (L.len sl27 (Wt.mk R R) R R (L.bi (Wt.mk R R) R R R R (L.pkF Y R R R R (L.sb (J329 _ _ ⟨(decide ((st170.2.2.length : Int) > 0)), (orF hc).symm, R, R⟩) R)))))

noncomputable def m_alphabet_Union_1 (p0 : Bool) (p1 : Bool) : Option Bool :=
 some (p0 || p1)
theorem m_alphabet_Union_1_c {s : Sig} {p0 : Bool} {p1 : Bool} {r : Bool} (hm : m_alphabet_Union_1 p0 p1 = some r) :
    Calls Tryz.prog 133 #[.bool p0, .bool p1] s.w (RetS No s fun v s' => v = .bool r) := by
 unfold m_alphabet_Union_1 at hm
 obtain ⟨N, hN, hNb⟩ := s.fresh
 have m0 : Mv (Up N No) s s := Mv.refl _ _
 refine E.entry Tryz.func133 R Tryz.ntmps133 R R (ER (L.as Y R R (LN (ER (L.mv Y R R (L.mv Y R R (L.cut 2 (fun e w => ∃ (v1 : Bool), (p0 || p1) = v1 ∧ e = (8, .bool v1) :: [] ∧ w = s.w) ?_ ?_)))))))
 ·rintro _ _ ⟨v1, rfl, rfl, rfl⟩
  refine L.as Y R R (LN (E.ret ?_))
  obtain rfl := oi hm
  exact X.rt (.inl R) Tryz.results133 (Rs.tmp R Rs.nil) R ⟨_, (s).ren N (fun _ => 0), R, R, m0.ren hNb, R⟩
 intro J2
 rcases Bool.eq_false_or_eq_true p0 with hc | hc
 ·exact L.know (d := 6) R hc (L.skip R R R R (L.pkT Y R R R R (L.sb (J2 _ _ ⟨true, (orT hc).symm, R, R⟩) R)))
 exact L.know (d := 6) R hc (L.mv (Wt.mk R R) R R (L.pkF Y R R R R (L.sb (J2 _ _ ⟨p1, (orF hc).symm, R, R⟩) R)))

theorem cf132 : Cf Tryz.prog 132 := Cf.mk Tryz.func132 (by kernel_rfl) (by kernel_rfl)
theorem cf133 : Cf Tryz.prog 133 := Cf.mk Tryz.func133 (by kernel_rfl) (by kernel_rfl)
theorem fv133 {s : Sig} : FV2 Tryz.prog s (.func (.func 133) #[] #[]) (fun (x0 : Bool) (x1 : Bool) => [.bool x0, .bool x1]) (fun r => .bool r) m_alphabet_Union_1 := ⟨133, #[], #[], rfl, cf133, fun x0 x1 r hm s' hl => by have hh := m_alphabet_Union_1_c (s := s') hm; simpa using hh⟩
noncomputable def m_alphabet_Union (p0 : List Int) (p1 : List Int) : Option (List Int) :=
 (m_alphabet_merge p0 p1 m_alphabet_Union_1).bind fun r4 =>
 some r4
theorem m_alphabet_Union_c {s : Sig} {p0 : List Int} {p1 : List Int} {a1 : Option Addr} {c1 : Nat} {a2 : Option Addr} {c2 : Nat} {u0 : Nat} {r : List Int} (h1 : RdL qI s a1 c1 p0) (h2 : RdL qI s a2 c2 p1) (hm : m_alphabet_Union p0 p1 = some r) :
    Calls Tryz.prog 107 #[.slice a1 p0.length c1, .slice a2 p1.length c2] s.w (RetS No s fun v s' => ∃ (a3 : Option Addr) (c3 : Nat), v = .slice a3 r.length c3 ∧ RowT qI s' u0 3 a3 c3 r) := by
 unfold m_alphabet_Union at hm
 obtain ⟨N, hN, hNb⟩ := s.fresh
 have m0 : Mv (Up N No) s s := Mv.refl _ _
 refine E.entry Tryz.func107 R Tryz.ntmps107 R R (ER (L.as Y R R (LN (ER (L.mv Y R R (L.mv Y R R ?_))))))
 obtain ⟨r4, er4, hm⟩ := bindS hm
 refine L.ca cf132 R R Y R (m_alphabet_merge_c (s := s) (p0 := p0) (p1 := p1) (p2 := m_alphabet_Union_1) (u0 := (N + 0)) h1 h2 fv133 er4) R ?_
 rintro _ s5 m6 ⟨a7, c7, rfl, h7⟩
 replace m0 := m0.trans m6.no
 refine L.as Y R R (LN (E.ret ?_))
 obtain rfl := oi hm
 exact X.rt (.inl R) Tryz.results107 (Rs.tmp R Rs.nil) R ⟨_, (s5).ren N (fun k => cond (Nat.beq k 0) u0 (0)), R, R, m0.ren hNb, ⟨a7, c7, R, (h7.ren hN)⟩⟩

end Go.Proofs.YtfbapajcheammaaGreatDoor

