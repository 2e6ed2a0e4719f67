/- Texts joined: Make, Clone, Graph. Each is introduced by its own sentence. -/
import Derived.Deep.LoopGhost
import Derived.Deep.DeepCutAuto
import Derived.Lib.SliceRun
import Derived.Test.YthchkddhibhenaaRS1
/- The contract of Make. -/
namespace Go.Proofs.Ythchkddhibhenaa
open Go.RowKit

/-- A description: 26 numbers below 256. -/
structure Desc (xs : List Int) : Prop where
  len : xs.length = 26
  rng : ∀ x ∈ xs, 0 ≤ x ∧ x < 256
abbrev bytes8 (xs : List Int) : Array Value := (xs.map (Value.int .u8)).toArray
theorem Desc.get {xs : List Int} (h : Desc xs) (k : Nat) (hk : k < 26) : (bytes8 xs)[k]? = some (.int .u8 (xs.getD k 0)) ∧ 0 ≤ xs.getD k 0 ∧ xs.getD k 0 < 256 := by
  have hl := h.len
  have e : xs.getD k 0 = xs[k] := by rw [List.getD_eq_getElem?_getD, List.getElem?_eq_getElem (by omega)]; rfl
  rw [e]
  refine ⟨?_, h.rng _ (List.getElem_mem _)⟩
  simp [bytes8, List.getElem?_eq_getElem (show k < xs.length by omega)]
/-- How many states it has. -/
def mkN (xs : List Int) : Nat := (xs.getD 0 0 % 6).toNat + 1
/-- Where the edge of state i by event e leads, or what is no state. -/
def mkTo (xs : List Int) (i e : Nat) : Int := xs.getD (2 + 4 * i + e) 0 % 7 - 1
def mkRow (xs : List Int) (i e : Nat) : List Ed := (List.range e).filterMap fun j => if 0 ≤ mkTo xs i j ∧ mkTo xs i j < mkN xs then some ⟨i, j, mkTo xs i j⟩ else none
def mkEs (xs : List Int) (k : Nat) : List Ed := (List.range k).flatMap fun i => mkRow xs i 4
def mkMs (xs : List Int) (k : Nat) : List Int := bitsL (xs.getD 1 0) k
/-- The automaton of a description. -/
def mkA (xs : List Int) : Aut := ⟨[0, 1, 2, 3], mkN xs, mkMs xs (mkN xs), mkEs xs (mkN xs)⟩
theorem mkN_le (xs : List Int) : 1 ≤ mkN xs ∧ mkN xs ≤ 6 := by unfold mkN; omega
theorem mkRow_le (xs : List Int) (i e : Nat) : (mkRow xs i e).length ≤ e := by
  unfold mkRow
  exact Nat.le_trans (List.length_filterMap_le _ _) (by simp)
theorem mkRow_yes {xs : List Int} {i e : Nat} (h : 0 ≤ mkTo xs i e ∧ mkTo xs i e < mkN xs) : mkRow xs i (e + 1) = mkRow xs i e ++ [⟨i, e, mkTo xs i e⟩] := by
  simp [mkRow, List.range_succ, List.filterMap_append, h]
theorem mkRow_no {xs : List Int} {i e : Nat} (h : ¬ (0 ≤ mkTo xs i e ∧ mkTo xs i e < mkN xs)) : mkRow xs i (e + 1) = mkRow xs i e := by
  simp [mkRow, List.range_succ, List.filterMap_append, h]
theorem mkEs_succ (xs : List Int) (k : Nat) : mkEs xs (k + 1) = mkEs xs k ++ mkRow xs k 4 := by
  simp [mkEs, List.range_succ, List.flatMap_append]
theorem mkEs_le (xs : List Int) (k : Nat) : (mkEs xs k).length ≤ 4 * k := by
  induction k with
  | zero => simp [mkEs]
  | succ k ih => rw [mkEs_succ, List.length_append]; have := mkRow_le xs k 4; omega

/-- What holds while Make works. -/
structure MInv (w : World) (cs : Array Value) (N : Int) (wr : World) (tag : Nat → Nat) (vm : Value) (ms : List Int) (ve : Value) (es : List Ed) : Prop where
  bel : Below w.heap.size w wr
  sm : Own wr w.heap.size tag 0 w.heap.size cs 25
  rs : Own wr w.heap.size tag 4 (w.heap.size + 1) #[.slice none 0 0, .int .i64 0, .slice none 0 0, .slice none 0 0] 31
  al : Own wr w.heap.size tag 0 (w.heap.size + 1 + 1) #[.int .i64 0, .int .i64 1, .int .i64 2, .int .i64 3] 3
  ab : Own wr w.heap.size tag 3 (w.heap.size + 1 + 1 + 1) #[.slice (some ⟨w.heap.size + 1 + 1, 0, none⟩) 4 4, .int .i64 N, vm, ve] 31
  ms : Row wr w.heap.size tag 1 3 1 vm ms.length (ints ms)
  es : Row wr w.heap.size tag 2 45 3 ve es.length (edCells es)
section
variable {w : World} {cs : Array Value} {N : Int} {wr wr' : World} {tag tag' : Nat → Nat} {vm vm' : Value} {ms : List Int} {ve ve' : Value} {es : List Ed}
theorem MInv.call (h : MInv w cs N wr tag vm ms ve es) (hb : Below wr.heap.size wr wr') : MInv w cs N wr' tag vm ms ve es :=
  ⟨h.bel.trans (hb.mono h.bel.size), h.sm.below hb, h.rs.below hb, h.al.below hb, h.ab.below hb, h.ms.below hb, h.es.below hb⟩
theorem MInv.pushM (h : MInv w cs N wr tag vm ms ve es) {x : Int} (hr : Row wr' w.heap.size tag' 1 3 1 vm' (ms.length + 1) (ints ms ++ [.int .i64 x])) (ht : Turn w.heap.size tag tag' 1 wr wr') :
    MInv w cs N (wr'.setCell ⟨w.heap.size + 1 + 1 + 1, 2, none⟩ vm') tag' vm' (ms ++ [x]) ve es := by
  have hab := h.ab.turn ht (by decide)
  have ht2 : Turn w.heap.size tag' tag' 3 wr' (wr'.setCell ⟨w.heap.size + 1 + 1 + 1, 2, none⟩ vm') := Turn.setCell hab 2 vm'
  have hsz := h.bel.size
  refine ⟨belTurn (belTurn h.bel ht hsz) ht2 (Nat.le_trans hsz ht.size), (h.sm.turn ht (by decide)).turn ht2 (by decide), (h.rs.turn ht (by decide)).turn ht2 (by decide), (h.al.turn ht (by decide)).turn ht2 (by decide), ?_, ?_, (h.es.turn ht (by decide)).turn ht2 (by decide)⟩
  · simpa using hab.set 2 vm'
  · have := hr.turn ht2 (by decide)
    rw [List.length_append, List.length_singleton]
    simpa [ints] using this
theorem MInv.pushE (h : MInv w cs N wr tag vm ms ve es) {x : Ed} (hr : Row wr' w.heap.size tag' 2 45 3 ve' (es.length + 1) (edCells es ++ [.int .i64 x.f, .int .i64 x.e, .int .i64 x.t])) (ht : Turn w.heap.size tag tag' 2 wr wr') :
    MInv w cs N (wr'.setCell ⟨w.heap.size + 1 + 1 + 1, 3, none⟩ ve') tag' vm ms ve' (es ++ [x]) := by
  have hab := h.ab.turn ht (by decide)
  have ht2 : Turn w.heap.size tag' tag' 3 wr' (wr'.setCell ⟨w.heap.size + 1 + 1 + 1, 3, none⟩ ve') := Turn.setCell hab 3 ve'
  have hsz := h.bel.size
  refine ⟨belTurn (belTurn h.bel ht hsz) ht2 (Nat.le_trans hsz ht.size), (h.sm.turn ht (by decide)).turn ht2 (by decide), (h.rs.turn ht (by decide)).turn ht2 (by decide), (h.al.turn ht (by decide)).turn ht2 (by decide), ?_, (h.ms.turn ht (by decide)).turn ht2 (by decide), ?_⟩
  · simpa using hab.set 3 ve'
  · have := hr.turn ht2 (by decide)
    rw [List.length_append, List.length_singleton]
    simpa [edCells, Ed.cells] using this
end
theorem Try.info_edge : (Try.prog.info? 45).map (fun i => (i.zero, i.size, i.bytes)) = some (some (.agg #[.int .i64 0, .int .i64 0, .int .i64 0]), 3, 24) := by kernel_rfl
theorem mkTo_def (xs : List Int) (i e : Nat) : mkTo xs i e = xs.getD (2 + 4 * i + e) 0 % 7 - 1 := rfl

set_option maxRecDepth 100000 in
set_option maxHeartbeats 1600000 in
theorem make_any (xs : List Int) (w : World) (hd : Desc xs) :
    Calls Try.prog 13 #[.agg (bytes8 xs)] w (Ret w fun u w' => RdA w' u (mkA xs)) := by
  obtain ⟨i0, hi, hz0, hz1, hz2⟩ := info_parts Try.info_int
  obtain ⟨g0, g1, g2⟩ := hd.get 0 (by omega)
  have hmk : ((mkN xs : Nat) : Int) = 1 + xs.getD 0 0 % 6 := by unfold mkN; omega
  have Hd := Lib.hid hd
  have Hmk := Lib.hid hmk
  clear hd hmk
  generalize hcs : bytes8 xs = cs at *
  generalize hS : xs.getD 0 0 = S at *
  have Hcs := Lib.hid hcs
  have HS := Lib.hid hS
  clear hcs hS
  go_enter Try.func13, Try.ntmps13
  go_wp2_with fail
  obtain ⟨i1, hi1, hw0, hw1, hw2⟩ := info_parts Try.info_edge
  go_loopw [4] (fun i wr => ∃ (k : Nat) (vm ve : Value) (tag : Nat → Nat), i = .int .i64 k ∧ k ≤ mkN xs ∧ MInv w cs (1 + S % 6) wr tag vm (mkMs xs k) ve (mkEs xs k)) (fun i _ => mkN xs - (intOf i).toNat)
  case atStart =>
    refine ⟨0, _, _, fun b => if b = w.heap.size + 1 + 1 + 1 then 3 else if b = w.heap.size + 1 then 4 else 0, rfl, Nat.zero_le _, ⟨(by (repeat (first | with_reducible exact Below.refl _ _ | with_reducible exact Hd | (with_reducible refine belCall ?_ Hd (by first | omega | (simp; done) | (simp; omega) | (simp at *; omega))) | (with_reducible refine Below.alloc ?_ (by first | omega | (simp; done) | (simp; omega) | (simp at *; omega)) _) | (with_reducible refine Below.drew ?_) | (with_reducible refine Below.setCell ?_ (by first | omega | (simp; done) | (simp; omega) | (simp at *; omega)) _)))), ⟨(by repeat (first | with_reducible assumption | (with_reducible refine heap_at ?_; (first | (simp; done) | (simp; omega))) | (with_reducible refine heap_past ?_ ?_; (next => first | omega | (simp; done) | (simp; omega))))), (by (try dsimp only); (repeat' split); all_goals omega), by omega⟩, ⟨(by repeat (first | with_reducible assumption | (with_reducible refine heap_at ?_; (first | (simp; done) | (simp; omega))) | (with_reducible refine heap_past ?_ ?_; (next => first | omega | (simp; done) | (simp; omega))))), (by (try dsimp only); (repeat' split); all_goals omega), by omega⟩, ⟨(by repeat (first | with_reducible assumption | (with_reducible refine heap_at ?_; (first | (simp; done) | (simp; omega))) | (with_reducible refine heap_past ?_ ?_; (next => first | omega | (simp; done) | (simp; omega))))), (by (try dsimp only); (repeat' split); all_goals omega), by omega⟩, ⟨(by repeat (first | with_reducible assumption | (with_reducible refine heap_at ?_; (first | (simp; done) | (simp; omega))) | (with_reducible refine heap_past ?_ ?_; (next => first | omega | (simp; done) | (simp; omega))))), (by (try dsimp only); (repeat' split); all_goals omega), by omega⟩, ?_, ?_⟩⟩
    · exact Row.nil _ _ _ _ _ _
    · exact Row.nil _ _ _ _ _ _
  case round =>
    obtain ⟨k, vm, ve, tag, rfl, hk, hI⟩ := hrel
    have hN := mkN_le xs
    have c1 : wr.cell? ⟨w.heap.size + 1 + 1 + 1, 1, none⟩ = some (.int .i64 (1 + S % 6)) := hI.ab.cell 1
    have hmsl := bitsL_le (xs.getD 1 0) k
    have hesl := mkEs_le xs k
    by_cases hlt : k < mkN xs
    · have hltI : (k : Int) < 1 + S % 6 := by have := Hmk.out; omega
      obtain ⟨m0, m1, m2⟩ := Hd.out.get 1 (by omega)
      rw [Hcs.out] at m0
      have c2 : wr.cell? ⟨w.heap.size, 1, none⟩ = some (.int .u8 (xs.getD 1 0)) := (hI.sm.cell 1).trans m0
      have c3 : wr.cell? ⟨w.heap.size + 1 + 1 + 1, 2, none⟩ = some vm := hI.ab.cell 2
      have f3 : wr.frozen? ⟨w.heap.size + 1 + 1 + 1, 2, none⟩ = false := hI.ab.frozen 2
      obtain ⟨am, cm, rfl⟩ := hI.ms.val
      obtain ⟨ae, ce, rfl⟩ := hI.es.val
      have Hms := Lib.hid hmsl
      clear m0
      have hmsl2 : (mkMs xs k).length ≤ k := hmsl
      have hsM : Hid (∀ b, bitB (xs.getD 1 0) k = b → mkMs xs (k + 1) = if b = true then mkMs xs k ++ [(k : Int)] else mkMs xs k) := by
        intro b hb
        cases b with
        | false => exact bitsL_false hb
        | true => exact bitsL_true hb
      clear hmsl Hms
      generalize xs.getD 1 0 = M at *
      have hk8 : k < 8 := by omega
      have hk0 : (0 : Int) ≤ k := by omega
      have hk9 : (k : Int) < 8 := by omega
      go_upto_if 25 with fail
      go_cut [31] (fun _ wx => ∃ (vm : Value) (tag : Nat → Nat), MInv w cs (1 + S % 6) wx tag vm (mkMs xs (k + 1)) (.slice ae (mkEs xs k).length ce) (mkEs xs k))
      case first =>
        have hbits : bits .and .u8 (M / 2 ^ k) 1 = M / 2 ^ k % 2 := by
          have q0 : 0 ≤ M / 2 ^ k := Int.ediv_nonneg m1 (by have := Int.pow_pos (n := (2 : Int)) (m := k) (by decide); omega)
          have q1 : M / 2 ^ k < 256 := Int.lt_of_le_of_lt (Int.ediv_le_self _ m1) m2
          rw [u8_and _ 1 q0 q1 (by decide) (by decide), show Int.toNat 1 = 1 from rfl, Nat.and_one_is_mod]
          omega
        cases hx : bitB (M) k with
        | false =>
          have hs := Lib.hid (hsM.out _ hx)
          rw [if_neg (by decide)] at hs
          have hx' : (bits .and .u8 (M / 2 ^ k) 1 == 1) = false := by rw [hbits]; exact hx
          have HI := Lib.hid hI
          clear hx hbits hI hesl hmsl2
          go_wp2_with fail
          go_meet
          exact ⟨_, _, by rw [hs.out]; exact HI.out⟩
        | true =>
          have hs := Lib.hid (hsM.out _ hx)
          rw [if_pos rfl] at hs
          have hx' : (bits .and .u8 (M / 2 ^ k) 1 == 1) = true := by rw [hbits]; exact hx
          have hI2 := hI.call (bel_alloc wr (.cells #[.int .i64 k] 3))
          clear hx hbits hesl
          go_wp2_with (at_builtin; refine wpList_append_row rfl _ _ 28 rfl 3 i0 (.int .i64 0) 8 Try.underlying28 hi hz0 hz1 hz2 rfl rfl hI2.ms (some ⟨_, 0, none⟩) 1 1 [.int .i64 k] rfl (by simp) (fun e => by cases e) (fun ad e => by cases e; exact new_cells_at _ _ rfl) (by simp [Value.oneCell']) (by unfold maxLen; omega) (by omega) hI2.bel.size ?_; intro v6 w6 tag6 hr6 ht6; have hab6 := hI2.ab.turn ht6 (by decide); have q0 := hab6.cell 2; have q1 := hab6.frozen 2; simp at q0; obtain ⟨a6, c6, rfl⟩ := hr6.val)
          go_meet
          exact ⟨_, tag6, by rw [hs.out]; exact hI2.pushM hr6 ht6⟩
      case rest =>
        obtain ⟨vm, tag, hI⟩ := hcut
        have HM := Lib.hid hsM
        clear c1 c2 c3 f3 hsM
        go_wp2_with fail
        go_loopw [5] (fun j wr => ∃ (e : Nat) (ve : Value) (tag : Nat → Nat), j = .int .i64 e ∧ e ≤ 4 ∧ MInv w cs (1 + S % 6) wr tag vm (mkMs xs (k + 1)) ve (mkEs xs k ++ mkRow xs k e)) (fun j _ => 4 - (intOf j).toNat)
        case atStart => exact ⟨0, _, tag, rfl, by omega, by simpa [mkRow] using hI⟩
        case round =>
          clear hI
          obtain ⟨e, ve, tag, rfl, he, hI⟩ := hrel
          have hrl := mkRow_le xs k e
          have hal : (mkEs xs k ++ mkRow xs k e).length ≤ 100 := by rw [List.length_append]; omega
          by_cases hlt4 : e < 4
          · obtain ⟨m0, b1, b2⟩ := Hd.out.get (2 + 4 * k + e) (by omega)
            rw [Hcs.out] at m0
            have hto := mkTo_def xs k e
            have hyes : 0 ≤ mkTo xs k e ∧ mkTo xs k e < mkN xs → mkEs xs k ++ mkRow xs k (e + 1) = (mkEs xs k ++ mkRow xs k e) ++ [⟨k, e, mkTo xs k e⟩] := fun h => by rw [mkRow_yes h, List.append_assoc]
            have hno : ¬ (0 ≤ mkTo xs k e ∧ mkTo xs k e < mkN xs) → mkEs xs k ++ mkRow xs k (e + 1) = mkEs xs k ++ mkRow xs k e := fun h => by rw [mkRow_no h]
            generalize mkTo xs k e = to_ at *
            have c1 : wr.cell? ⟨w.heap.size + 1 + 1 + 1, 1, none⟩ = some (.int .i64 (1 + S % 6)) := hI.ab.cell 1
            have c2 : wr.cell? ⟨w.heap.size, 2 + k * 4 + e, none⟩ = some (.int .u8 (xs.getD (2 + 4 * k + e) 0)) := by
              rw [show 2 + k * 4 + e = 2 + 4 * k + e by omega]
              exact (hI.sm.cell _).trans m0
            have c3 : wr.cell? ⟨w.heap.size + 1 + 1 + 1, 3, none⟩ = some ve := hI.ab.cell 3
            have f3 : wr.frozen? ⟨w.heap.size + 1 + 1 + 1, 3, none⟩ = false := hI.ab.frozen 3
            generalize xs.getD (2 + 4 * k + e) 0 = b at *
            have Hto := Lib.hid hto
            have Hyes := Lib.hid hyes
            have Hno := Lib.hid hno
            clear m0 hto hyes hno
            obtain ⟨av, cv, rfl⟩ := hI.es.val
            clear hrl
            generalize mkEs xs k ++ mkRow xs k e = E at *
            by_cases ht0 : 1 ≤ b % 7
            · by_cases ht1 : b % 7 - 1 < 1 + S % 6
              · have hI2 := hI.call (bel_alloc wr (.cells #[.int .i64 k, .int .i64 e, .int .i64 (b % 7 - 1)] 45))
                go_wp2_with (at_builtin; refine wpList_append_row rfl _ _ 29 rfl 45 i1 (.agg #[.int .i64 0, .int .i64 0, .int .i64 0]) 24 Try.underlying29 hi1 hw0 hw1 hw2 rfl rfl hI2.es (some ⟨_, 0, none⟩) 1 1 [.int .i64 k, .int .i64 e, .int .i64 (b % 7 - 1)] rfl rfl (fun e => by cases e) (fun ad e => by cases e; exact new_cells_at _ _ rfl) (by simp [Value.oneCell']) (by unfold maxLen; omega) (by omega) hI2.bel.size ?_; intro v6 w6 tag6 hr6 ht6; have hab6 := hI2.ab.turn ht6 (by decide); have q0 := hab6.cell 3; have q1 := hab6.frozen 3; simp at q0; obtain ⟨a6, c6, rfl⟩ := hr6.val)
                go_roundw
                case rel =>
                  refine ⟨e + 1, .slice a6 (E.length + 1) c6, tag6, by go_num, by omega, ?_⟩
                  rw [Hyes.out ⟨by have := Hto.out; omega, by have := Hto.out; have := Hmk.out; omega⟩, Hto.out]
                  exact hI2.pushE (x := ⟨k, e, b % 7 - 1⟩) hr6 ht6
                case measure => simp [intOf]; omega
              · go_wp2_with fail
                go_roundw
                case rel =>
                  refine ⟨e + 1, .slice av E.length cv, tag, by go_num, by omega, ?_⟩
                  rw [Hno.out (by have := Hto.out; have := Hmk.out; omega)]
                  exact hI
                case measure => simp [intOf]; omega
            · have ht2 : b % 7 < 1 := by omega
              go_wp2_with fail
              go_roundw
              case rel =>
                refine ⟨e + 1, .slice av E.length cv, tag, by go_num, by omega, ?_⟩
                rw [Hno.out (by have := Hto.out; omega)]
                exact hI
              case measure => simp [intOf]; omega
          · obtain rfl : e = 4 := by omega
            go_wp2_with fail
            go_roundw
            case rel => exact ⟨k + 1, _, _, tag, by go_num, by omega, by rw [mkEs_succ]; exact hI⟩
            case measure => simp [intOf]; omega
    · have hkN : k = mkN xs := by omega
      have hge : 1 + S % 6 ≤ k := by have := Hmk.out; omega
      have x0 := hI.ab.cell 0
      have x2 := hI.ab.cell 2
      have x3 := hI.ab.cell 3
      simp at x0 x2 x3
      have r0 := hI.rs.cell 0
      have r1 := hI.rs.cell 1
      have r2 := hI.rs.cell 2
      have r3 := hI.rs.cell 3
      simp at r0 r1 r2 r3
      have f0 := hI.rs.frozen 0
      have f1 := hI.rs.frozen 1
      have f2 := hI.rs.frozen 2
      have f3 := hI.rs.frozen 3
      obtain ⟨am, cm, rfl⟩ := hI.ms.val
      obtain ⟨ae, ce, rfl⟩ := hI.es.val
      have HkN := Lib.hid hkN
      clear hkN
      go_wp2_with fail
      have o1 := hI.rs.set 0 (.slice (some ⟨w.heap.size + 1 + 1, 0, none⟩) 4 4)
      have o2 := o1.set 1 (.int .i64 (1 + S % 6))
      have o3 := o2.set 2 (.slice am (mkMs xs k).length cm)
      have o4 := o3.set 3 (.slice ae (mkEs xs k).length ce)
      have T := (((Turn.setCell (tag := tag) hI.rs 0 (.slice (some ⟨w.heap.size + 1 + 1, 0, none⟩) 4 4)).trans (Turn.setCell o1 1 (.int .i64 (1 + S % 6)))).trans (Turn.setCell o2 2 (.slice am (mkMs xs k).length cm))).trans (Turn.setCell o3 3 (.slice ae (mkEs xs k).length ce))
      have p0 := o4.cell 0
      have p1 := o4.cell 1
      have p2 := o4.cell 2
      have p3 := o4.cell 3
      simp at p0 p1 p2 p3
      refine bodyPost_ret (v := .agg #[.slice (some ⟨w.heap.size + 1 + 1, 0, none⟩) 4 4, .int .i64 (1 + S % 6), .slice am (mkMs xs k).length cm, .slice ae (mkEs xs k).length ce]) (by simp [results, Try.results13, go_sem, p0, p1, p2, p3]) rfl ⟨_, rfl, ?_, belTurn hI.bel T hI.bel.size⟩
      have hal := (hI.al.turn T (by decide)).heap
      have hms := (hI.ms.turn T (by decide)).rdI
      have hes := (hI.es.turn T (by decide)).rd
      have e := HkN.out
      subst e
      clear T o1 o2 o3 o4 p0 p1 p2 p3
      generalize World.setCell _ _ _ = wf at *
      refine ⟨_, _, _, by rw [show (mkA xs).n = 1 + S % 6 from Hmk.out], ?_, hms, ?_⟩
      · exact ⟨_, _, rfl, RdS.lit (cs := #[.int .i64 0, .int .i64 1, .int .i64 2, .int .i64 3]) hal rfl (by show 4 ≤ 1000000; decide)⟩
      · obtain ⟨a9, c9, e9, h9⟩ := hes
        cases e9
        exact ⟨_, _, rfl, h9⟩
end Go.Proofs.Ythchkddhibhenaa

/- The contract of slices.Clone at ints. -/
namespace Go.Proofs.Ythchkddhibhenaa
open Go.RowKit

theorem clone_any (v : Value) (xs : List Int) (w : World) (hr : RdI w v xs) (hl : xs.length ≤ 1000000) :
    Calls Try.prog 67 #[v] w (Ret w fun u w' => w'.ownsRow w.heap.size 3 1 u xs.length (ints xs)) := by
  obtain ⟨a, cap, rfl, hr⟩ := hr
  obtain ⟨i0, hi, hz0, hz1, hz2⟩ := info_parts Try.info_int
  cases a with
  | none =>
    obtain rfl : cap = 0 := hr.hnil rfl
    have h0 : xs = [] := List.eq_nil_of_length_eq_zero (by have := hr.hcap; omega)
    subst h0
    have he := Lib.run_eql_slice_nil (P := Try.prog) w 28 3 none 0 0 0 0 Try.underlying28
    go_enter Try.func67, Try.ntmps67
    go_wp2
    go_ret
    exact ⟨_, rfl, World.ownsRow_nil _ _ _ _, Below.refl _ _⟩
  | some ad =>
    obtain ⟨b, off, sp⟩ := ad
    obtain rfl : sp = none := hr.spot _ rfl
    have he := Lib.run_eql_slice_nil (P := Try.prog) w 28 3 (some ⟨b, off, none⟩) xs.length cap 0 0 Try.underlying28
    have hnil := World.ownsRow_lit (e := 3) (size := 1) (base := w.heap.size) w #[] 0 (Nat.le_refl _) (by simp [maxLen]) rfl
    have Hnew := Lib.hid (own_src hr)
    have Hone := Lib.hid (ints_oneCell .i64 xs)
    go_enter Try.func67, Try.ntmps67
    go_wp2_with (at_builtin; (refine wpList_append_own _ rfl _ _ 28 rfl w.heap.size 3 i0 (.int .i64 0) 1 8 Try.underlying28 hi hz0 hz1 hz2 rfl (by decide) _ 0 _ rfl hnil ⟨b, off, none⟩ xs.length cap (ints xs) rfl (by simp) (fun j u h => keep0 (w := w) (by (repeat (first | with_reducible exact Below.refl _ _ | with_reducible exact hr | (with_reducible refine belCall ?_ hr (by first | omega | (simp; done) | (simp; omega) | (simp at *; omega))) | (with_reducible refine Below.alloc ?_ (by first | omega | (simp; done) | (simp; omega) | (simp at *; omega)) _) | (with_reducible refine Below.drew ?_) | (with_reducible refine Below.setCell ?_ (by first | omega | (simp; done) | (simp; omega) | (simp at *; omega)) _)))) (Hnew.out j u h)) Hone.out (by unfold maxLen; omega) (by omega) (by simp) ?_); intro v1 w1 hown hgrow _)
    go_ret
    refine ⟨_, rfl, by simpa using hown, Below.grown (by (repeat (first | with_reducible exact Below.refl _ _ | with_reducible exact hr | (with_reducible refine belCall ?_ hr (by first | omega | (simp; done) | (simp; omega) | (simp at *; omega))) | (with_reducible refine Below.alloc ?_ (by first | omega | (simp; done) | (simp; omega) | (simp at *; omega)) _) | (with_reducible refine Below.drew ?_) | (with_reducible refine Below.setCell ?_ (by first | omega | (simp; done) | (simp; omega) | (simp at *; omega)) _)))) hgrow (by simp) (fun k e => ?_)⟩
    exact (hnil.lt k e).1
end Go.Proofs.Ythchkddhibhenaa

/- The contract of newGraph. -/
namespace Go.Proofs.Ythchkddhibhenaa
open Go.RowKit

/-- After the first loop: how many edges begin just before s. -/
def cnt1 (n : Nat) (es : List Ed) : List Int := (List.range (n + 1)).map fun (s : Nat) => ((es.countP fun x => decide (x.f + 1 = (s : Int)) : Nat) : Int)
/-- Where the edges of each state begin. -/
def firsts (n : Nat) (es : List Ed) : List Int := (List.range (n + 1)).map fun (s : Nat) => ((es.countP fun x => decide (x.f < (s : Int)) : Nat) : Int)
def cnt2 (n : Nat) (es : List Ed) (j : Nat) : List Int := (List.range (n + 1)).map fun (s : Nat) => if s ≤ j then ((es.countP fun x => decide (x.f < (s : Int)) : Nat) : Int) else ((es.countP fun x => decide (x.f + 1 = (s : Int)) : Nat) : Int)
theorem cnt1_length (n : Nat) (es : List Ed) : (cnt1 n es).length = n + 1 := by simp [cnt1]
theorem cnt2_length (n : Nat) (es : List Ed) (j : Nat) : (cnt2 n es j).length = n + 1 := by simp [cnt2]
theorem firsts_length (n : Nat) (es : List Ed) : (firsts n es).length = n + 1 := by simp [firsts]
theorem cnt1_nil (n : Nat) : ints (cnt1 n []) = List.replicate (n + 1) (.int .i64 0) := by
  apply List.ext_getElem
  · simp [cnt1]
  · intro i h1 h2; simp [cnt1]
theorem cnt1_snoc (n : Nat) (es : List Ed) (x : Ed) (h0 : 0 ≤ x.f) (h1 : x.f < n) : ∃ c : Int, 0 ≤ c ∧ c ≤ es.length ∧ (ints (cnt1 n es))[(x.f + 1).toNat]? = some (.int .i64 c) ∧ ints (cnt1 n (es ++ [x])) = (ints (cnt1 n es)).set (x.f + 1).toNat (.int .i64 (c + 1)) := by
  refine ⟨((es.countP fun y => decide (y.f + 1 = (((x.f + 1).toNat : Nat) : Int)) : Nat) : Int), by omega, by have := List.countP_le_length (p := fun y : Ed => decide (y.f + 1 = (((x.f + 1).toNat : Nat) : Int))) (l := es); omega, ?_, ?_⟩
  · rw [List.getElem?_map, cnt1, List.getElem?_map, List.getElem?_range (by omega)]; rfl
  · apply List.ext_getElem
    · simp [cnt1]
    · intro i g1 g2
      rw [List.getElem_set]
      simp only [cnt1, List.getElem_map, List.getElem_range, List.countP_append, List.countP_singleton]
      by_cases hi : (x.f + 1).toNat = i
      · rw [if_pos hi, hi]
        have : x.f + 1 = (i : Int) := by omega
        simp [this]
      · rw [if_neg hi]
        have : ¬ x.f + 1 = (i : Int) := by omega
        simp [this]
theorem cnt2_zero (n : Nat) (es : List Ed) (h : ∀ x ∈ es, 0 ≤ x.f) : cnt2 n es 0 = cnt1 n es := by
  apply List.map_congr_left
  intro s _
  split
  · have hs : s = 0 := by omega
    subst hs
    congr 1
    apply List.countP_congr
    intro x hx
    have := h x hx
    simp only [decide_eq_true_eq]
    constructor <;> intro <;> omega
  · rfl
theorem cnt2_last (n : Nat) (es : List Ed) : cnt2 n es n = firsts n es := by
  apply List.map_congr_left
  intro s hs
  rw [if_pos (by simp at hs; omega)]
theorem cnt2_step (n : Nat) (es : List Ed) (j : Nat) (hj : j < n) : ∃ c d : Int, 0 ≤ c ∧ 0 ≤ d ∧ c ≤ es.length ∧ d ≤ es.length ∧ (ints (cnt2 n es j))[j + 1]? = some (.int .i64 c) ∧ (ints (cnt2 n es j))[j]? = some (.int .i64 d) ∧ ints (cnt2 n es (j + 1)) = (ints (cnt2 n es j)).set (j + 1) (.int .i64 (c + d)) := by
  refine ⟨((es.countP fun y => decide (y.f + 1 = ((j + 1 : Nat) : Int)) : Nat) : Int), ((es.countP fun y => decide (y.f < (j : Int)) : Nat) : Int), by omega, by omega, ?_, ?_, ?_, ?_, ?_⟩
  · have := List.countP_le_length (p := fun y : Ed => decide (y.f + 1 = ((j + 1 : Nat) : Int))) (l := es); omega
  · have := List.countP_le_length (p := fun y : Ed => decide (y.f < (j : Int))) (l := es); omega
  · rw [List.getElem?_map, cnt2, List.getElem?_map, List.getElem?_range (by omega)]
    simp only [Option.map_some]
    rw [if_neg (by omega)]
  · rw [List.getElem?_map, cnt2, List.getElem?_map, List.getElem?_range (by omega)]
    simp
  · apply List.ext_getElem
    · simp [cnt2]
    · intro i g1 g2
      rw [List.getElem_set]
      simp only [cnt2, List.getElem_map, List.getElem_range]
      by_cases hi : j + 1 = i
      · subst hi
        rw [if_pos rfl, if_pos (by omega)]
        congr 1
        rw [← Int.natCast_add]
        congr 1
        clear g1 g2 hj
        induction es with
        | nil => rfl
        | cons x xs ih =>
          simp only [List.countP_cons]
          rw [ih]
          by_cases h1 : x.f < (j : Int)
          · have h2 : x.f < ((j + 1 : Nat) : Int) := by omega
            have h3 : ¬ x.f + 1 = ((j + 1 : Nat) : Int) := by omega
            simp only [h1, h2, h3, decide_true, decide_false]; simp; omega
          · by_cases h3 : x.f + 1 = ((j + 1 : Nat) : Int)
            · have h2 : x.f < ((j + 1 : Nat) : Int) := by omega
              simp only [h1, h2, h3, decide_true, decide_false]; simp; omega
            · have h2 : ¬ x.f < ((j + 1 : Nat) : Int) := by omega
              simp only [h1, h2, h3, decide_false]; simp
      · rw [if_neg hi]
        by_cases h1 : i ≤ j
        · rw [if_pos h1, if_pos (by omega)]
        · rw [if_neg h1, if_neg (by omega)]

theorem newGraph_any (aa am : Option Addr) (la lm ca cm : Nat) (ve : Value) (n : Nat) (es : List Ed) (w : World) (hr : RdE w ve es) (hl : es.length ≤ 1000000) (hn : n ≤ 1000000) (hin : ∀ x ∈ es, 0 ≤ x.f ∧ x.f < n) :
    Calls Try.prog 48 #[.agg #[.slice aa la ca, .int .i64 n, .slice am lm cm, ve]] w (Ret w fun u w' => ∃ af cf, u = .agg #[.slice aa la ca, .int .i64 n, .slice am lm cm, ve, .slice af (n + 1) cf] ∧ RdS w' 1 af (n + 1) cf (ints (firsts n es))) := by
  obtain ⟨a, cap, rfl, hr⟩ := hr
  obtain ⟨i0, hi, hz0, hz1, hz2⟩ := info_parts Try.info_int
  have Hin := Lib.hid hin
  clear hin
  have hmk := fun W : World => run_make (P := Try.prog) W 28 3 i0 (.int .i64 0) Try.underlying28 hi hz0 .i64 .i64 ((n : Int) + 1) ((n : Int) + 1) (by omega) (by omega) (by rw [hz2]; omega) (by omega)
  have hwr : IntKind.i64.wrap ((n : Int) + 1) = (n : Int) + 1 := IntWalk.i64_in _ (by omega)
  go_enter Try.func48, Try.ntmps48
  go_upto_region 1 with fail
  go_cut [3] (fun s3 wx => ∃ (g r : Nat) (tag : Nat → Nat), s3 = .pointer (some ⟨g, 0, none⟩) ∧ Below w.heap.size w wx ∧
    Own wx w.heap.size tag 0 w.heap.size #[.slice aa la ca, .int .i64 n, .slice am lm cm, .slice a es.length cap] 31 ∧
    Own wx w.heap.size tag 0 (w.heap.size + 1) #[.slice none 0 0, .int .i64 0, .slice none 0 0, .slice none 0 0, .slice none 0 0] 80 ∧
    Own wx w.heap.size tag 0 g #[.slice aa la ca, .int .i64 n, .slice am lm cm, .slice a es.length cap, .slice (some ⟨r, 0, none⟩) (n + 1) (n + 1)] 80 ∧
    Row wx w.heap.size tag 1 3 1 (.slice (some ⟨r, 0, none⟩) (n + 1) (n + 1)) (n + 1) (List.replicate (n + 1) (.int .i64 0)))
  case first =>
    go_region
    all_goals go_wp2
    all_goals go_meet
    all_goals
      first
      | exact ⟨w.heap.size + 2, w.heap.size + 3, fun b => if b = w.heap.size + 3 then 1 else 0, rfl, (by (repeat (first | with_reducible exact Below.refl _ _ | with_reducible exact hr | (with_reducible refine belCall ?_ hr (by first | omega | (simp; done) | (simp; omega) | (simp at *; omega))) | (with_reducible refine Below.alloc ?_ (by first | omega | (simp; done) | (simp; omega) | (simp at *; omega)) _) | (with_reducible refine Below.drew ?_) | (with_reducible refine Below.setCell ?_ (by first | omega | (simp; done) | (simp; omega) | (simp at *; omega)) _)))), ⟨(by repeat (first | with_reducible assumption | (refine heap_drewp ?_) | (refine heap_at ?_; (first | rfl | (simp; done) | (simp; omega))) | (refine heap_past ?_ ?_; (next => first | omega | (simp; done) | (simp; omega))))), by simp, by omega⟩, ⟨(by repeat (first | with_reducible assumption | (refine heap_drewp ?_) | (refine heap_at ?_; (first | rfl | (simp; done) | (simp; omega))) | (refine heap_past ?_ ?_; (next => first | omega | (simp; done) | (simp; omega))))), by simp, by omega⟩, ⟨(by repeat (first | with_reducible assumption | (refine heap_drewp ?_) | (refine heap_at ?_; (first | rfl | (simp; done) | (simp; omega))) | (refine heap_past ?_ ?_; (next => first | omega | (simp; done) | (simp; omega))))), by simp, by omega⟩, ⟨by simp, .inr ⟨_, 0, _, madeCells #[.int .i64 0] (n + 1), rfl, ⟨(by repeat (first | with_reducible assumption | (refine heap_drewp ?_) | (refine heap_at ?_; (first | rfl | (simp; done) | (simp; omega))) | (refine heap_past ?_ ?_; (next => first | omega | (simp; done) | (simp; omega))))), by simp, by omega⟩, by omega, by unfold maxLen; omega, by simp [size_madeCells], by simp [toList_madeCells_one]⟩⟩⟩
      | exact ⟨w.heap.size + 3, w.heap.size + 2, fun b => if b = w.heap.size + 2 then 1 else 0, rfl, (by (repeat (first | with_reducible exact Below.refl _ _ | with_reducible exact hr | (with_reducible refine belCall ?_ hr (by first | omega | (simp; done) | (simp; omega) | (simp at *; omega))) | (with_reducible refine Below.alloc ?_ (by first | omega | (simp; done) | (simp; omega) | (simp at *; omega)) _) | (with_reducible refine Below.drew ?_) | (with_reducible refine Below.setCell ?_ (by first | omega | (simp; done) | (simp; omega) | (simp at *; omega)) _)))), ⟨(by repeat (first | with_reducible assumption | (refine heap_drewp ?_) | (refine heap_at ?_; (first | rfl | (simp; done) | (simp; omega))) | (refine heap_past ?_ ?_; (next => first | omega | (simp; done) | (simp; omega))))), by simp, by omega⟩, ⟨(by repeat (first | with_reducible assumption | (refine heap_drewp ?_) | (refine heap_at ?_; (first | rfl | (simp; done) | (simp; omega))) | (refine heap_past ?_ ?_; (next => first | omega | (simp; done) | (simp; omega))))), by simp, by omega⟩, ⟨(by repeat (first | with_reducible assumption | (refine heap_drewp ?_) | (refine heap_at ?_; (first | rfl | (simp; done) | (simp; omega))) | (refine heap_past ?_ ?_; (next => first | omega | (simp; done) | (simp; omega))))), by simp, by omega⟩, ⟨by simp, .inr ⟨_, 0, _, madeCells #[.int .i64 0] (n + 1), rfl, ⟨(by repeat (first | with_reducible assumption | (refine heap_drewp ?_) | (refine heap_at ?_; (first | rfl | (simp; done) | (simp; omega))) | (refine heap_past ?_ ?_; (next => first | omega | (simp; done) | (simp; omega))))), by simp, by omega⟩, by omega, by unfold maxLen; omega, by simp [size_madeCells], by simp [toList_madeCells_one]⟩⟩⟩
  case rest =>
    obtain ⟨g, r, tag, rfl, hB, hb0, hb1, hg, hrow⟩ := hcut
    clear hmk
    have e3 : wc.cell? ⟨w.heap.size, 3, none⟩ = some (.slice a es.length cap) := hb0.cell 3
    go_wp2_with fail
    clear e3
    go_loopw [16] (fun j wr => ∃ (k : Nat) (tag : Nat → Nat), k ≤ es.length ∧ j = .int .i64 k ∧ Below w.heap.size w wr ∧
      Own wr w.heap.size tag 0 w.heap.size #[.slice aa la ca, .int .i64 n, .slice am lm cm, .slice a es.length cap] 31 ∧
      Own wr w.heap.size tag 0 (w.heap.size + 1) #[.slice none 0 0, .int .i64 0, .slice none 0 0, .slice none 0 0, .slice none 0 0] 80 ∧
      Own wr w.heap.size tag 0 g #[.slice aa la ca, .int .i64 n, .slice am lm cm, .slice a es.length cap, .slice (some ⟨r, 0, none⟩) (n + 1) (n + 1)] 80 ∧
      Row wr w.heap.size tag 1 3 1 (.slice (some ⟨r, 0, none⟩) (n + 1) (n + 1)) (n + 1) (ints (cnt1 n (es.take k)))) (fun j _ => es.length - (intOf j).toNat)
    case atStart => exact ⟨0, tag, Nat.zero_le _, rfl, hB, hb0, hb1, hg, by rw [List.take_zero, cnt1_nil]; exact hrow⟩
    case round =>
      clear hB hb0 hb1 hg hrow
      obtain ⟨k, tag, hk, rfl, hB, hb0, hb1, hg, hrow⟩ := hrel
      by_cases hlt : k < es.length
      · obtain ⟨b, off, rfl, c0, c1, c2⟩ := hr.at_edge k hlt
        obtain ⟨hx0, hx1⟩ := Hin.out es[k] (List.getElem_mem hlt)
        replace c0 := keep0 hB c0
        replace c1 := keep0 hB c1
        replace c2 := keep0 hB c2
        obtain ⟨c, d0, d1, d2, d3⟩ := cnt1_snoc n (es.take k) es[k] hx0 hx1
        have hlk : (es.take k).length ≤ 1000000 := by simp; omega
        have hgl := hg.lt
        have e4 : wr.cell? ⟨g, 4, none⟩ = some (.slice (some ⟨r, 0, none⟩) (n + 1) (n + 1)) := hg.cell 4
        have e5 := hrow.cellAt (es[k].f + 1).toNat (by omega)
        rw [d2, Nat.zero_add] at e5
        have e6 := hrow.frozenAt (es[k].f + 1).toNat
        obtain ⟨_, _, _, e7, hrl, _⟩ := hrow.addr (by omega)
        cases e7
        have hst := hrow.set (es[k].f + 1).toNat (.int .i64 (c + 1))
        rw [Nat.zero_add, ← d3, ← take_snoc es k hlt] at hst
        have Hst := Lib.hid hst
        clear d2 d3 hst
        go_wp2
        go_roundw
        case rel => exact ⟨k + 1, tag, by omega, by go_num, (belTurn hB Hst.out.2 hB.size).alloc (by simp; exact hB.size) _, (hb0.turn Hst.out.2 (by decide)).below (bel_alloc _ _), (hb1.turn Hst.out.2 (by decide)).below (bel_alloc _ _), (hg.turn Hst.out.2 (by decide)).below (bel_alloc _ _), Hst.out.1.below (bel_alloc _ _)⟩
        case measure => simp [intOf]; omega
      · obtain rfl : k = es.length := by omega
        rw [List.take_length] at hrow
        have e1 : wr.cell? ⟨w.heap.size, 1, none⟩ = some (.int .i64 n) := hb0.cell 1
        rw [← cnt2_zero n es (fun x hx => (Hin.out x hx).1)] at hrow
        go_wp2_with fail
        clear e1
        go_loopw [32] (fun j wr => ∃ (k : Nat) (tag : Nat → Nat), k ≤ n ∧ j = .int .i64 k ∧ Below w.heap.size w wr ∧
          Own wr w.heap.size tag 0 (w.heap.size + 1) #[.slice none 0 0, .int .i64 0, .slice none 0 0, .slice none 0 0, .slice none 0 0] 80 ∧
          Own wr w.heap.size tag 0 g #[.slice aa la ca, .int .i64 n, .slice am lm cm, .slice a es.length cap, .slice (some ⟨r, 0, none⟩) (n + 1) (n + 1)] 80 ∧
          Row wr w.heap.size tag 1 3 1 (.slice (some ⟨r, 0, none⟩) (n + 1) (n + 1)) (n + 1) (ints (cnt2 n es k))) (fun j _ => n - (intOf j).toNat)
        case atStart => exact ⟨0, tag, Nat.zero_le _, rfl, hB, hb1, hg, hrow⟩
        case round =>
          clear hB hb0 hb1 hg hrow
          obtain ⟨k, tag, hk, rfl, hB, hb1, hg, hrow⟩ := hrel
          by_cases hlt : k < n
          · obtain ⟨c, d, d0, d1, d2, d3, d4, d5, d6⟩ := cnt2_step n es k hlt
            have hgl := hg.lt
            have e4 : wr.cell? ⟨g, 4, none⟩ = some (.slice (some ⟨r, 0, none⟩) (n + 1) (n + 1)) := hg.cell 4
            have e5 := hrow.cellAt (k + 1) (by omega)
            have e6 := hrow.cellAt k (by omega)
            rw [d4, Nat.zero_add] at e5
            rw [d5, Nat.zero_add] at e6
            have e7 := hrow.frozenAt (k + 1)
            obtain ⟨_, _, _, e8, hrl, _⟩ := hrow.addr (by omega)
            cases e8
            have hst := hrow.set (k + 1) (.int .i64 (c + d))
            rw [Nat.zero_add, ← d6] at hst
            have Hst := Lib.hid hst
            clear d4 d5 d6 hst
            go_wp2
            go_region
            go_wp2
            go_roundw
            case rel => exact ⟨k + 1, tag, by omega, by go_num, (belTurn hB Hst.out.2 hB.size).drew, (hb1.turn Hst.out.2 (by decide)).below (bel_drew _), (hg.turn Hst.out.2 (by decide)).below (bel_drew _), Hst.out.1.below (bel_drew _)⟩
            case measure => simp [intOf]; omega
          · obtain rfl : n = k := by omega
            have g0 : wr.cell? ⟨g, 0, none⟩ = some (Value.slice aa la ca) := hg.cell 0
            have g1 : wr.cell? ⟨g, 1, none⟩ = some (Value.int .i64 n) := hg.cell 1
            have g2 : wr.cell? ⟨g, 2, none⟩ = some (Value.slice am lm cm) := hg.cell 2
            have g3 : wr.cell? ⟨g, 3, none⟩ = some (Value.slice a es.length cap) := hg.cell 3
            have g4 : wr.cell? ⟨g, 4, none⟩ = some (Value.slice (some ⟨r, 0, none⟩) (n + 1) (n + 1)) := hg.cell 4
            have z0 : wr.cell? ⟨w.heap.size + 1, 0, none⟩ = some (Value.slice none 0 0) := hb1.cell 0
            have y0 := hb1.frozen 0
            have z1 : wr.cell? ⟨w.heap.size + 1, 1, none⟩ = some (Value.int .i64 0) := hb1.cell 1
            have y1 := hb1.frozen 1
            have z2 : wr.cell? ⟨w.heap.size + 1, 2, none⟩ = some (Value.slice none 0 0) := hb1.cell 2
            have y2 := hb1.frozen 2
            have z3 : wr.cell? ⟨w.heap.size + 1, 3, none⟩ = some (Value.slice none 0 0) := hb1.cell 3
            have y3 := hb1.frozen 3
            have z4 : wr.cell? ⟨w.heap.size + 1, 4, none⟩ = some (Value.slice none 0 0) := hb1.cell 4
            have y4 := hb1.frozen 4
            go_wp2
            have t0 := Turn.setCell hb1 0 (Value.slice aa la ca)
            have b0 := hb1.set 0 (Value.slice aa la ca)
            have t1 := Turn.setCell b0 1 (Value.int .i64 n)
            have b1 := b0.set 1 (Value.int .i64 n)
            have t2 := Turn.setCell b1 2 (Value.slice am lm cm)
            have b2 := b1.set 2 (Value.slice am lm cm)
            have t3 := Turn.setCell b2 3 (Value.slice a es.length cap)
            have b3 := b2.set 3 (Value.slice a es.length cap)
            have t4 := Turn.setCell b3 4 (Value.slice (some ⟨r, 0, none⟩) (n + 1) (n + 1))
            have b4 := b3.set 4 (Value.slice (some ⟨r, 0, none⟩) (n + 1) (n + 1))
            have T := t0.trans (t1.trans (t2.trans (t3.trans t4)))
            have hrow' := hrow.turn T (by decide)
            rw [cnt2_last] at hrow'
            obtain ⟨_, _, e9, hrd⟩ := hrow'.rd
            cases e9
            exact bodyPost_ret (v := .agg #[.slice aa la ca, .int .i64 n, .slice am lm cm, .slice a es.length cap, .slice (some ⟨r, 0, none⟩) (n + 1) (n + 1)]) (by simp [results, Try.results48, go_sem, z0, z1, z2, z3, z4]) rfl ⟨_, rfl, ⟨_, _, rfl, hrd⟩, belTurn hB T hB.size⟩
end Go.Proofs.Ythchkddhibhenaa
