/- The contracts of anyEdge, reachable and Reachable. -/
import Derived.Test.YthchkddhibhenaaForward
import Derived.Test.YthchkddhibhenaaReach
import Derived.Test.YthchkddhibhenaaExample
namespace Go.Proofs.Ythchkddhibhenaa
open Go.RowKit

theorem anyEdge_any (x : Ed) (w : World) : Calls Try.prog 65 #[x.val] w fun e w' => e = .returned (.bool true) ∧ Below w.heap.size w w' := by
  dsimp only [Ed.val]
  go_enter Try.func65, Try.ntmps65
  go_wp2
  go_ret
  exact ⟨rfl, by first | exact Below.refl _ _ | exact bel_alloc _ _⟩

/-- The flags that reachable returns. -/
def reachF (n : Nat) (es : List Ed) : List Bool := if n = 0 then [] else forwardF n es (fun _ => true) [0]

set_option maxRecDepth 100000 in
set_option maxHeartbeats 1600000 in
theorem reachable_any (aa am ae af : Option Addr) (la lm ca cm ce cf : Nat) (n : Nat) (es : List Ed) (w : World)
    (hre : RdS w 3 ae es.length ce (edCells es)) (hrf : RdS w 1 af (n + 1) cf (ints (firsts n es))) (hl : es.length ≤ 1000000) (hn : n ≤ 100000) (hin : ∀ x ∈ es, 0 ≤ x.t ∧ x.t < (n : Int)) :
    Calls Try.prog 60 #[.agg #[.slice aa la ca, .int .i64 n, .slice am lm cm, .slice ae es.length ce, .slice af (n + 1) cf]] w (Ret w fun u w' => RdB w' u (reachF n es)) := by
  have HR : Hid (reachF n es = if n = 0 then [] else forwardF n es (fun _ => true) [0]) := rfl
  generalize reachF n es = R at *
  have Hin := Lib.hid hin
  clear hin
  go_enter Try.func60, Try.ntmps60
  by_cases h0 : n = 0
  · subst h0
    go_wp2_with fail
    go_ret
    refine ⟨_, rfl, ?_, (Below.refl _ _).alloc (Nat.le_refl _) _⟩
    rw [HR.out, if_pos (by trivial)]
    exact ⟨none, 0, rfl, ⟨rfl, Nat.le_refl _, by simp [maxLen], fun _ => rfl, fun _ e => (by cases e), fun _ e => (by cases e)⟩⟩
  · have hn0 : ((n : Int) == 0) = false := by simp; omega
    have HR2 : Hid (R = forwardF n es (fun _ => true) [0]) := by show _ = _; rw [HR.out, if_neg h0]
    have hpos : 0 < n := by omega
    clear h0 HR
    go_wp2_with fail
    have hbw := (bel_alloc w (.cells #[.slice aa la ca, .int .i64 n, .slice am lm cm, .slice ae es.length ce, .slice af (n + 1) cf] 80)).trans ((bel_alloc _ (.cells #[.int .i64 0] 3)).mono (by simp))
    refine (forward_any aa am ae af la lm ca cm ce cf n es 65 #[] (fun _ => true) _ [0] _ (hre.mono hbw) (hrf.mono hbw) ⟨_, 1, rfl, RdS.lit (cs := #[.int .i64 0]) (heap_at (by simp)) rfl (by decide)⟩ hl (by simp; omega) hpos (fun s hs => by rw [List.mem_singleton.1 hs]; omega) Hin.out (fun _ _ => by kernel_rfl) (fun x W _ _ => anyEdge_any x W)).mono ?_
    rintro e w3 ⟨v3, rfl, hr3, hb3⟩
    have Hr3 := Lib.hid hr3
    obtain ⟨a3, c3, rfl, hr3'⟩ := hr3
    clear hr3'
    go_wp2_with fail
    go_ret
    exact ⟨_, rfl, by rw [HR2.out]; exact Hr3.out, hbw.trans (hb3.mono hbw.size)⟩

set_option maxRecDepth 100000 in
set_option maxHeartbeats 1600000 in
theorem reachables_any (v : Value) (a : Aut) (w : World) (ha : RdA w v a) (hs : a.small) :
    Calls Try.prog 26 #[v] w (Ret w (ListPost a.err (listL (reachF a.n.toNat a.es)))) := by
  have ha0 := ha
  obtain ⟨va, vm, ve, rfl, ⟨aa, ca, rfl, hra⟩, ⟨am, cm, rfl, hrm⟩, ⟨ae, ce, rfl, hre⟩⟩ := ha
  have Ha0 := Lib.hid ha0
  have Hs := Lib.hid hs
  clear ha0 hs
  go_enter Try.func26, Try.ntmps26
  go_wp2_with fail
  refine (check_any _ a _ (Ha0.out.mono (by (repeat (first | with_reducible exact Below.refl _ _ | with_reducible exact Ha0 | (with_reducible refine belCall ?_ Ha0 (by first | omega | (simp; done) | (simp; omega) | (simp at *; omega))) | (with_reducible refine Below.alloc ?_ (by first | omega | (simp; done) | (simp; omega) | (simp at *; omega)) _) | (with_reducible refine Below.drew ?_) | (with_reducible refine Below.setCell ?_ (by first | omega | (simp; done) | (simp; omega) | (simp at *; omega)) _))))) Hs.out).mono ?_
  rintro e w1 ⟨_, rfl, rfl, hb1⟩
  have hW1 : Below w.heap.size w w1 := ((Below.refl _ _).alloc (Nat.le_refl _) _).trans (hb1.mono (by simp))
  have hbx := box4 hb1
  clear hb1
  by_cases h1 : a.err = 0
  · have hok := Aut.ok_of h1
    have H1 := Lib.hid h1
    rw [h1]
    clear h1
    have hn0 := hok.n0
    have hn1 := hok.n1
    have Hes := Lib.hid hok.es
    have hae := Hs.out.es
    clear hok
    generalize hn : a.n = an at *
    obtain ⟨n, rfl⟩ := Int.eq_ofNat_of_zero_le hn0
    have Hn := Lib.hid hn
    obtain ⟨x0, x1, x2, x3, x4⟩ := hbx
    clear hn hn0
    go_wp2_with fail
    refine (newGraph_any _ _ _ _ _ _ _ n a.es _ (RdE.mono ⟨ae, ce, rfl, hre⟩ hW1) hae (by omega) (fun x hx => ⟨(Hes.out x hx).1, (Hes.out x hx).2.1⟩)).mono ?_
    rintro e w3 ⟨_, rfl, ⟨af, cf, rfl, hrf⟩, hb3⟩
    have hW3 := hW1.trans (hb3.mono hW1.size)
    clear x0 x1 x2 x3 x4 hb3
    go_wp2_with fail
    refine (reachable_any aa am ae af _ _ ca cm ce cf n a.es _ (hre.mono hW3) hrf hae (by omega) (fun x hx => (Hes.out x hx).2.2)).mono ?_
    rintro e w4 ⟨v4, rfl, hr4, hb4⟩
    have hW4 := hW3.trans (hb4.mono hW3.size)
    have hfl : (reachF n a.es).length ≤ 1000000 := by
      obtain ⟨a4, c4, _, h5⟩ := hr4
      unfold reachF
      split
      · simp
      · rename_i h6
        have := forwardF_length (perm := fun _ => true) n a.es [0] (fun x hx => (Hes.out x hx).2.2) (fun s hs => by rw [List.mem_singleton.1 hs]; omega)
        omega
    have Hr4 := Lib.hid hr4
    obtain ⟨a4, c4, rfl, hr4'⟩ := hr4
    clear hr4' hb4
    go_wp2_with fail
    refine (list_any _ _ _ Hr4.out hfl).mono ?_
    rintro e w5 ⟨v5, rfl, hown5, hb5⟩
    have H5 := Lib.hid (RdI.of_own hown5)
    obtain ⟨a5, c5, rfl, hr5⟩ := RdS.of_own hown5
    clear hr5 hown5
    go_wp2_with fail
    go_ret2
    refine ⟨_, rfl, ?_, hW4.trans (hb5.mono hW4.size)⟩
    rw [ListPost, if_pos H1.out]
    exact ⟨_, rfl, H5.out⟩
  · have H1 := Lib.hid h1
    have h1' : (a.err != 0) = true := by simpa using h1
    clear h1
    go_wp2_with fail
    go_ret2
    refine ⟨_, rfl, ?_, hW1⟩
    rw [ListPost, if_neg H1.out]
    rfl
end Go.Proofs.Ythchkddhibhenaa
