/- The contract of Make. -/
import Derived.Test.YthchkddhibhenaaBits
import Derived.Test.YthchkddhibhenaaRegInv
import Derived.Test.YthchkddhibhenaaExample
import Derived.Deep.LoopGhost
import Derived.Deep.DeepCutAuto
namespace Go.Proofs.Ythchkddhibhenaa
open Go.RowKit

/-- A description: 26 numbers below 256. -/
structure Desc (xs : List Int) : Prop where
  len : xs.length = 26
  rng : ∀ x ∈ xs, 0 ≤ x ∧ x < 256
abbrev bytes8 (xs : List Int) : Array Value := (xs.map (Value.int .u8)).toArray
theorem Desc.get {xs : List Int} (h : Desc xs) (k : Nat) (hk : k < 26) : (bytes8 xs)[k]? = some (.int .u8 (xs.getD k 0)) ∧ 0 ≤ xs.getD k 0 ∧ xs.getD k 0 < 256 := by
  have hl := h.len
  have e : xs.getD k 0 = xs[k] := by rw [List.getD_eq_getElem?_getD, List.getElem?_eq_getElem (by omega)]; rfl
  rw [e]
  refine ⟨?_, h.rng _ (List.getElem_mem _)⟩
  simp [bytes8, List.getElem?_eq_getElem (show k < xs.length by omega)]
/-- How many states it has. -/
def mkN (xs : List Int) : Nat := (xs.getD 0 0 % 6).toNat + 1
/-- Where the edge of state i by event e leads, or what is no state. -/
def mkTo (xs : List Int) (i e : Nat) : Int := xs.getD (2 + 4 * i + e) 0 % 7 - 1
def mkRow (xs : List Int) (i e : Nat) : List Ed := (List.range e).filterMap fun j => if 0 ≤ mkTo xs i j ∧ mkTo xs i j < mkN xs then some ⟨i, j, mkTo xs i j⟩ else none
def mkEs (xs : List Int) (k : Nat) : List Ed := (List.range k).flatMap fun i => mkRow xs i 4
def mkMs (xs : List Int) (k : Nat) : List Int := bitsL (xs.getD 1 0) k
/-- The automaton of a description. -/
def mkA (xs : List Int) : Aut := ⟨[0, 1, 2, 3], mkN xs, mkMs xs (mkN xs), mkEs xs (mkN xs)⟩
theorem mkN_le (xs : List Int) : 1 ≤ mkN xs ∧ mkN xs ≤ 6 := by unfold mkN; omega
theorem mkRow_le (xs : List Int) (i e : Nat) : (mkRow xs i e).length ≤ e := by
  unfold mkRow
  exact Nat.le_trans (List.length_filterMap_le _ _) (by simp)
theorem mkRow_yes {xs : List Int} {i e : Nat} (h : 0 ≤ mkTo xs i e ∧ mkTo xs i e < mkN xs) : mkRow xs i (e + 1) = mkRow xs i e ++ [⟨i, e, mkTo xs i e⟩] := by
  simp [mkRow, List.range_succ, List.filterMap_append, h]
theorem mkRow_no {xs : List Int} {i e : Nat} (h : ¬ (0 ≤ mkTo xs i e ∧ mkTo xs i e < mkN xs)) : mkRow xs i (e + 1) = mkRow xs i e := by
  simp [mkRow, List.range_succ, List.filterMap_append, h]
theorem mkEs_succ (xs : List Int) (k : Nat) : mkEs xs (k + 1) = mkEs xs k ++ mkRow xs k 4 := by
  simp [mkEs, List.range_succ, List.flatMap_append]
theorem mkEs_le (xs : List Int) (k : Nat) : (mkEs xs k).length ≤ 4 * k := by
  induction k with
  | zero => simp [mkEs]
  | succ k ih => rw [mkEs_succ, List.length_append]; have := mkRow_le xs k 4; omega

/-- What holds while Make works. -/
structure MInv (w : World) (cs : Array Value) (N : Int) (wr : World) (tag : Nat → Nat) (vm : Value) (ms : List Int) (ve : Value) (es : List Ed) : Prop where
  bel : Below w.heap.size w wr
  sm : Own wr w.heap.size tag 0 w.heap.size cs 25
  rs : Own wr w.heap.size tag 4 (w.heap.size + 1) #[.slice none 0 0, .int .i64 0, .slice none 0 0, .slice none 0 0] 31
  al : Own wr w.heap.size tag 0 (w.heap.size + 1 + 1) #[.int .i64 0, .int .i64 1, .int .i64 2, .int .i64 3] 3
  ab : Own wr w.heap.size tag 3 (w.heap.size + 1 + 1 + 1) #[.slice (some ⟨w.heap.size + 1 + 1, 0, none⟩) 4 4, .int .i64 N, vm, ve] 31
  ms : Row wr w.heap.size tag 1 3 1 vm ms.length (ints ms)
  es : Row wr w.heap.size tag 2 45 3 ve es.length (edCells es)
section
variable {w : World} {cs : Array Value} {N : Int} {wr wr' : World} {tag tag' : Nat → Nat} {vm vm' : Value} {ms : List Int} {ve ve' : Value} {es : List Ed}
theorem MInv.call (h : MInv w cs N wr tag vm ms ve es) (hb : Below wr.heap.size wr wr') : MInv w cs N wr' tag vm ms ve es :=
  ⟨h.bel.trans (hb.mono h.bel.size), h.sm.below hb, h.rs.below hb, h.al.below hb, h.ab.below hb, h.ms.below hb, h.es.below hb⟩
theorem MInv.pushM (h : MInv w cs N wr tag vm ms ve es) {x : Int} (hr : Row wr' w.heap.size tag' 1 3 1 vm' (ms.length + 1) (ints ms ++ [.int .i64 x])) (ht : Turn w.heap.size tag tag' 1 wr wr') :
    MInv w cs N (wr'.setCell ⟨w.heap.size + 1 + 1 + 1, 2, none⟩ vm') tag' vm' (ms ++ [x]) ve es := by
  have hab := h.ab.turn ht (by decide)
  have ht2 : Turn w.heap.size tag' tag' 3 wr' (wr'.setCell ⟨w.heap.size + 1 + 1 + 1, 2, none⟩ vm') := Turn.setCell hab 2 vm'
  have hsz := h.bel.size
  refine ⟨belTurn (belTurn h.bel ht hsz) ht2 (Nat.le_trans hsz ht.size), (h.sm.turn ht (by decide)).turn ht2 (by decide), (h.rs.turn ht (by decide)).turn ht2 (by decide), (h.al.turn ht (by decide)).turn ht2 (by decide), ?_, ?_, (h.es.turn ht (by decide)).turn ht2 (by decide)⟩
  · simpa using hab.set 2 vm'
  · have := hr.turn ht2 (by decide)
    rw [List.length_append, List.length_singleton]
    simpa [ints] using this
theorem MInv.pushE (h : MInv w cs N wr tag vm ms ve es) {x : Ed} (hr : Row wr' w.heap.size tag' 2 45 3 ve' (es.length + 1) (edCells es ++ [.int .i64 x.f, .int .i64 x.e, .int .i64 x.t])) (ht : Turn w.heap.size tag tag' 2 wr wr') :
    MInv w cs N (wr'.setCell ⟨w.heap.size + 1 + 1 + 1, 3, none⟩ ve') tag' vm ms ve' (es ++ [x]) := by
  have hab := h.ab.turn ht (by decide)
  have ht2 : Turn w.heap.size tag' tag' 3 wr' (wr'.setCell ⟨w.heap.size + 1 + 1 + 1, 3, none⟩ ve') := Turn.setCell hab 3 ve'
  have hsz := h.bel.size
  refine ⟨belTurn (belTurn h.bel ht hsz) ht2 (Nat.le_trans hsz ht.size), (h.sm.turn ht (by decide)).turn ht2 (by decide), (h.rs.turn ht (by decide)).turn ht2 (by decide), (h.al.turn ht (by decide)).turn ht2 (by decide), ?_, (h.ms.turn ht (by decide)).turn ht2 (by decide), ?_⟩
  · simpa using hab.set 3 ve'
  · have := hr.turn ht2 (by decide)
    rw [List.length_append, List.length_singleton]
    simpa [edCells, Ed.cells] using this
end
theorem Try.info_edge : (Try.prog.info? 45).map (fun i => (i.zero, i.size, i.bytes)) = some (some (.agg #[.int .i64 0, .int .i64 0, .int .i64 0]), 3, 24) := by kernel_rfl
theorem mkTo_def (xs : List Int) (i e : Nat) : mkTo xs i e = xs.getD (2 + 4 * i + e) 0 % 7 - 1 := rfl

set_option maxRecDepth 100000 in
set_option maxHeartbeats 1600000 in
theorem make_any (xs : List Int) (w : World) (hd : Desc xs) :
    Calls Try.prog 13 #[.agg (bytes8 xs)] w (Ret w fun u w' => RdA w' u (mkA xs)) := by
  obtain ⟨i0, hi, hz0, hz1, hz2⟩ := info_parts Try.info_int
  obtain ⟨g0, g1, g2⟩ := hd.get 0 (by omega)
  have hmk : ((mkN xs : Nat) : Int) = 1 + xs.getD 0 0 % 6 := by unfold mkN; omega
  have Hd := Lib.hid hd
  have Hmk := Lib.hid hmk
  clear hd hmk
  generalize hcs : bytes8 xs = cs at *
  generalize hS : xs.getD 0 0 = S at *
  have Hcs := Lib.hid hcs
  have HS := Lib.hid hS
  clear hcs hS
  go_enter Try.func13, Try.ntmps13
  go_wp2_with fail
  obtain ⟨i1, hi1, hw0, hw1, hw2⟩ := info_parts Try.info_edge
  go_loopw [4] (fun i wr => ∃ (k : Nat) (vm ve : Value) (tag : Nat → Nat), i = .int .i64 k ∧ k ≤ mkN xs ∧ MInv w cs (1 + S % 6) wr tag vm (mkMs xs k) ve (mkEs xs k)) (fun i _ => mkN xs - (intOf i).toNat)
  case atStart =>
    refine ⟨0, _, _, fun b => if b = w.heap.size + 1 + 1 + 1 then 3 else if b = w.heap.size + 1 then 4 else 0, rfl, Nat.zero_le _, ⟨(by (repeat (first | with_reducible exact Below.refl _ _ | with_reducible exact Hd | (with_reducible refine belCall ?_ Hd (by first | omega | (simp; done) | (simp; omega) | (simp at *; omega))) | (with_reducible refine Below.alloc ?_ (by first | omega | (simp; done) | (simp; omega) | (simp at *; omega)) _) | (with_reducible refine Below.drew ?_) | (with_reducible refine Below.setCell ?_ (by first | omega | (simp; done) | (simp; omega) | (simp at *; omega)) _)))), ⟨(by repeat (first | with_reducible assumption | (with_reducible refine heap_at ?_; (first | (simp; done) | (simp; omega))) | (with_reducible refine heap_past ?_ ?_; (next => first | omega | (simp; done) | (simp; omega))))), (by (try dsimp only); (repeat' split); all_goals omega), by omega⟩, ⟨(by repeat (first | with_reducible assumption | (with_reducible refine heap_at ?_; (first | (simp; done) | (simp; omega))) | (with_reducible refine heap_past ?_ ?_; (next => first | omega | (simp; done) | (simp; omega))))), (by (try dsimp only); (repeat' split); all_goals omega), by omega⟩, ⟨(by repeat (first | with_reducible assumption | (with_reducible refine heap_at ?_; (first | (simp; done) | (simp; omega))) | (with_reducible refine heap_past ?_ ?_; (next => first | omega | (simp; done) | (simp; omega))))), (by (try dsimp only); (repeat' split); all_goals omega), by omega⟩, ⟨(by repeat (first | with_reducible assumption | (with_reducible refine heap_at ?_; (first | (simp; done) | (simp; omega))) | (with_reducible refine heap_past ?_ ?_; (next => first | omega | (simp; done) | (simp; omega))))), (by (try dsimp only); (repeat' split); all_goals omega), by omega⟩, ?_, ?_⟩⟩
    · exact Row.nil _ _ _ _ _ _
    · exact Row.nil _ _ _ _ _ _
  case round =>
    obtain ⟨k, vm, ve, tag, rfl, hk, hI⟩ := hrel
    have hN := mkN_le xs
    have c1 : wr.cell? ⟨w.heap.size + 1 + 1 + 1, 1, none⟩ = some (.int .i64 (1 + S % 6)) := hI.ab.cell 1
    have hmsl := bitsL_le (xs.getD 1 0) k
    have hesl := mkEs_le xs k
    by_cases hlt : k < mkN xs
    · have hltI : (k : Int) < 1 + S % 6 := by have := Hmk.out; omega
      obtain ⟨m0, m1, m2⟩ := Hd.out.get 1 (by omega)
      rw [Hcs.out] at m0
      have c2 : wr.cell? ⟨w.heap.size, 1, none⟩ = some (.int .u8 (xs.getD 1 0)) := (hI.sm.cell 1).trans m0
      have c3 : wr.cell? ⟨w.heap.size + 1 + 1 + 1, 2, none⟩ = some vm := hI.ab.cell 2
      have f3 : wr.frozen? ⟨w.heap.size + 1 + 1 + 1, 2, none⟩ = false := hI.ab.frozen 2
      obtain ⟨am, cm, rfl⟩ := hI.ms.val
      obtain ⟨ae, ce, rfl⟩ := hI.es.val
      have Hms := Lib.hid hmsl
      clear m0
      have hmsl2 : (mkMs xs k).length ≤ k := hmsl
      have hsM : Hid (∀ b, bitB (xs.getD 1 0) k = b → mkMs xs (k + 1) = if b = true then mkMs xs k ++ [(k : Int)] else mkMs xs k) := by
        intro b hb
        cases b with
        | false => exact bitsL_false hb
        | true => exact bitsL_true hb
      clear hmsl Hms
      generalize xs.getD 1 0 = M at *
      have hk8 : k < 8 := by omega
      have hk0 : (0 : Int) ≤ k := by omega
      have hk9 : (k : Int) < 8 := by omega
      go_upto_if 25 with fail
      go_cut [31] (fun _ wx => ∃ (vm : Value) (tag : Nat → Nat), MInv w cs (1 + S % 6) wx tag vm (mkMs xs (k + 1)) (.slice ae (mkEs xs k).length ce) (mkEs xs k))
      case first =>
        have hbits : bits .and .u8 (M / 2 ^ k) 1 = M / 2 ^ k % 2 := by
          have q0 : 0 ≤ M / 2 ^ k := Int.ediv_nonneg m1 (by have := Int.pow_pos (n := (2 : Int)) (m := k) (by decide); omega)
          have q1 : M / 2 ^ k < 256 := Int.lt_of_le_of_lt (Int.ediv_le_self _ m1) m2
          rw [u8_and _ 1 q0 q1 (by decide) (by decide), show Int.toNat 1 = 1 from rfl, Nat.and_one_is_mod]
          omega
        cases hx : bitB (M) k with
        | false =>
          have hs := Lib.hid (hsM.out _ hx)
          rw [if_neg (by decide)] at hs
          have hx' : (bits .and .u8 (M / 2 ^ k) 1 == 1) = false := by rw [hbits]; exact hx
          have HI := Lib.hid hI
          clear hx hbits hI hesl hmsl2
          go_wp2_with fail
          go_meet
          exact ⟨_, _, by rw [hs.out]; exact HI.out⟩
        | true =>
          have hs := Lib.hid (hsM.out _ hx)
          rw [if_pos rfl] at hs
          have hx' : (bits .and .u8 (M / 2 ^ k) 1 == 1) = true := by rw [hbits]; exact hx
          have hI2 := hI.call (bel_alloc wr (.cells #[.int .i64 k] 3))
          clear hx hbits hesl
          go_wp2_with (at_builtin; refine wpList_append_row rfl _ _ 28 rfl 3 i0 (.int .i64 0) 8 Try.underlying28 hi hz0 hz1 hz2 rfl rfl hI2.ms (some ⟨_, 0, none⟩) 1 1 [.int .i64 k] rfl (by simp) (fun e => by cases e) (fun ad e => by cases e; exact new_cells_at _ _ rfl) (by simp [Value.oneCell']) (by unfold maxLen; omega) (by omega) hI2.bel.size ?_; intro v6 w6 tag6 hr6 ht6; have hab6 := hI2.ab.turn ht6 (by decide); have q0 := hab6.cell 2; have q1 := hab6.frozen 2; simp at q0; obtain ⟨a6, c6, rfl⟩ := hr6.val)
          go_meet
          exact ⟨_, tag6, by rw [hs.out]; exact hI2.pushM hr6 ht6⟩
      case rest =>
        obtain ⟨vm, tag, hI⟩ := hcut
        have HM := Lib.hid hsM
        clear c1 c2 c3 f3 hsM
        go_wp2_with fail
        go_loopw [5] (fun j wr => ∃ (e : Nat) (ve : Value) (tag : Nat → Nat), j = .int .i64 e ∧ e ≤ 4 ∧ MInv w cs (1 + S % 6) wr tag vm (mkMs xs (k + 1)) ve (mkEs xs k ++ mkRow xs k e)) (fun j _ => 4 - (intOf j).toNat)
        case atStart => exact ⟨0, _, tag, rfl, by omega, by simpa [mkRow] using hI⟩
        case round =>
          clear hI
          obtain ⟨e, ve, tag, rfl, he, hI⟩ := hrel
          have hrl := mkRow_le xs k e
          have hal : (mkEs xs k ++ mkRow xs k e).length ≤ 100 := by rw [List.length_append]; omega
          by_cases hlt4 : e < 4
          · obtain ⟨m0, b1, b2⟩ := Hd.out.get (2 + 4 * k + e) (by omega)
            rw [Hcs.out] at m0
            have hto := mkTo_def xs k e
            have hyes : 0 ≤ mkTo xs k e ∧ mkTo xs k e < mkN xs → mkEs xs k ++ mkRow xs k (e + 1) = (mkEs xs k ++ mkRow xs k e) ++ [⟨k, e, mkTo xs k e⟩] := fun h => by rw [mkRow_yes h, List.append_assoc]
            have hno : ¬ (0 ≤ mkTo xs k e ∧ mkTo xs k e < mkN xs) → mkEs xs k ++ mkRow xs k (e + 1) = mkEs xs k ++ mkRow xs k e := fun h => by rw [mkRow_no h]
            generalize mkTo xs k e = to_ at *
            have c1 : wr.cell? ⟨w.heap.size + 1 + 1 + 1, 1, none⟩ = some (.int .i64 (1 + S % 6)) := hI.ab.cell 1
            have c2 : wr.cell? ⟨w.heap.size, 2 + k * 4 + e, none⟩ = some (.int .u8 (xs.getD (2 + 4 * k + e) 0)) := by
              rw [show 2 + k * 4 + e = 2 + 4 * k + e by omega]
              exact (hI.sm.cell _).trans m0
            have c3 : wr.cell? ⟨w.heap.size + 1 + 1 + 1, 3, none⟩ = some ve := hI.ab.cell 3
            have f3 : wr.frozen? ⟨w.heap.size + 1 + 1 + 1, 3, none⟩ = false := hI.ab.frozen 3
            generalize xs.getD (2 + 4 * k + e) 0 = b at *
            have Hto := Lib.hid hto
            have Hyes := Lib.hid hyes
            have Hno := Lib.hid hno
            clear m0 hto hyes hno
            obtain ⟨av, cv, rfl⟩ := hI.es.val
            clear hrl
            generalize mkEs xs k ++ mkRow xs k e = E at *
            by_cases ht0 : 1 ≤ b % 7
            · by_cases ht1 : b % 7 - 1 < 1 + S % 6
              · have hI2 := hI.call (bel_alloc wr (.cells #[.int .i64 k, .int .i64 e, .int .i64 (b % 7 - 1)] 45))
                go_wp2_with (at_builtin; refine wpList_append_row rfl _ _ 29 rfl 45 i1 (.agg #[.int .i64 0, .int .i64 0, .int .i64 0]) 24 Try.underlying29 hi1 hw0 hw1 hw2 rfl rfl hI2.es (some ⟨_, 0, none⟩) 1 1 [.int .i64 k, .int .i64 e, .int .i64 (b % 7 - 1)] rfl rfl (fun e => by cases e) (fun ad e => by cases e; exact new_cells_at _ _ rfl) (by simp [Value.oneCell']) (by unfold maxLen; omega) (by omega) hI2.bel.size ?_; intro v6 w6 tag6 hr6 ht6; have hab6 := hI2.ab.turn ht6 (by decide); have q0 := hab6.cell 3; have q1 := hab6.frozen 3; simp at q0; obtain ⟨a6, c6, rfl⟩ := hr6.val)
                go_roundw
                case rel =>
                  refine ⟨e + 1, .slice a6 (E.length + 1) c6, tag6, by go_num, by omega, ?_⟩
                  rw [Hyes.out ⟨by have := Hto.out; omega, by have := Hto.out; have := Hmk.out; omega⟩, Hto.out]
                  exact hI2.pushE (x := ⟨k, e, b % 7 - 1⟩) hr6 ht6
                case measure => simp [intOf]; omega
              · go_wp2_with fail
                go_roundw
                case rel =>
                  refine ⟨e + 1, .slice av E.length cv, tag, by go_num, by omega, ?_⟩
                  rw [Hno.out (by have := Hto.out; have := Hmk.out; omega)]
                  exact hI
                case measure => simp [intOf]; omega
            · have ht2 : b % 7 < 1 := by omega
              go_wp2_with fail
              go_roundw
              case rel =>
                refine ⟨e + 1, .slice av E.length cv, tag, by go_num, by omega, ?_⟩
                rw [Hno.out (by have := Hto.out; omega)]
                exact hI
              case measure => simp [intOf]; omega
          · obtain rfl : e = 4 := by omega
            go_wp2_with fail
            go_roundw
            case rel => exact ⟨k + 1, _, _, tag, by go_num, by omega, by rw [mkEs_succ]; exact hI⟩
            case measure => simp [intOf]; omega
    · have hkN : k = mkN xs := by omega
      have hge : 1 + S % 6 ≤ k := by have := Hmk.out; omega
      have x0 := hI.ab.cell 0
      have x2 := hI.ab.cell 2
      have x3 := hI.ab.cell 3
      simp at x0 x2 x3
      have r0 := hI.rs.cell 0
      have r1 := hI.rs.cell 1
      have r2 := hI.rs.cell 2
      have r3 := hI.rs.cell 3
      simp at r0 r1 r2 r3
      have f0 := hI.rs.frozen 0
      have f1 := hI.rs.frozen 1
      have f2 := hI.rs.frozen 2
      have f3 := hI.rs.frozen 3
      obtain ⟨am, cm, rfl⟩ := hI.ms.val
      obtain ⟨ae, ce, rfl⟩ := hI.es.val
      have HkN := Lib.hid hkN
      clear hkN
      go_wp2_with fail
      have o1 := hI.rs.set 0 (.slice (some ⟨w.heap.size + 1 + 1, 0, none⟩) 4 4)
      have o2 := o1.set 1 (.int .i64 (1 + S % 6))
      have o3 := o2.set 2 (.slice am (mkMs xs k).length cm)
      have o4 := o3.set 3 (.slice ae (mkEs xs k).length ce)
      have T := (((Turn.setCell (tag := tag) hI.rs 0 (.slice (some ⟨w.heap.size + 1 + 1, 0, none⟩) 4 4)).trans (Turn.setCell o1 1 (.int .i64 (1 + S % 6)))).trans (Turn.setCell o2 2 (.slice am (mkMs xs k).length cm))).trans (Turn.setCell o3 3 (.slice ae (mkEs xs k).length ce))
      have p0 := o4.cell 0
      have p1 := o4.cell 1
      have p2 := o4.cell 2
      have p3 := o4.cell 3
      simp at p0 p1 p2 p3
      refine bodyPost_ret (v := .agg #[.slice (some ⟨w.heap.size + 1 + 1, 0, none⟩) 4 4, .int .i64 (1 + S % 6), .slice am (mkMs xs k).length cm, .slice ae (mkEs xs k).length ce]) (by simp [results, Try.results13, go_sem, p0, p1, p2, p3]) rfl ⟨_, rfl, ?_, belTurn hI.bel T hI.bel.size⟩
      have hal := (hI.al.turn T (by decide)).heap
      have hms := (hI.ms.turn T (by decide)).rdI
      have hes := (hI.es.turn T (by decide)).rd
      have e := HkN.out
      subst e
      clear T o1 o2 o3 o4 p0 p1 p2 p3
      generalize World.setCell _ _ _ = wf at *
      refine ⟨_, _, _, by rw [show (mkA xs).n = 1 + S % 6 from Hmk.out], ?_, hms, ?_⟩
      · exact ⟨_, _, rfl, RdS.lit (cs := #[.int .i64 0, .int .i64 1, .int .i64 2, .int .i64 3]) hal rfl (by show 4 ≤ 1000000; decide)⟩
      · obtain ⟨a9, c9, e9, h9⟩ := hes
        cases e9
        exact ⟨_, _, rfl, h9⟩
end Go.Proofs.Ythchkddhibhenaa
