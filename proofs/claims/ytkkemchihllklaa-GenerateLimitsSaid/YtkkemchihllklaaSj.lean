/- A scan follows the supervisor. -/
import Derived.Test.YtkkemchihllklaaSi
namespace Go.Proofs.Ytkkemchihllklaa
open Go Go.RowKit

/-- What a state shows of state s, alarm al. -/
structure Shows (a : Aut) (ctrl : List Int) (n : Nat) (s : Nat) (al : Bool) (st : List Bool × List Bool) : Prop where
  ho : st.1.length = ctrl.length + 1
  hm : st.2.length = n + 1
  hs : s < n
  hq : ∀ k, k < n → st.2.getD k false = decide (k = s)
  ha : st.1.getD ctrl.length false = al
theorem subB_mem {us vs : List Int} (h : subB us vs = true) : ∀ x ∈ us, x ∈ vs := fun x hx => hasB_true.1 (List.all_eq_true.1 h x hx)
theorem view_scan {a : Aut} {ctrl : List Int} {n : Nat} (h : GenIn a ctrl n) (ia : Inc a.al) (ic : Inc ctrl) {ev : List Int} (ie : Inc ev) (hl : ev.length < 4294967296) (he : setErr 32 none ev = 0) (hsub : subB ev a.al = true) {st : List Bool × List Bool} {s : Nat} {al : Bool} (hv : Shows a ctrl n s al st) :
    ∃ st', m_generate_Scan (codeP a ctrl n) st ev = some (st', 0) ∧ Shows a ctrl n (ev.foldl (folStep a.es) (s, al)).1 (ev.foldl (folStep a.es) (s, al)).2 st' ∧
      ∀ k, k < ctrl.length → st'.1.getD k false = (stepF a.es (ev.foldl (folStep a.es) (s, al)).1 (ctrl.getD k 0)).isSome := by
  have h1 := gscan_eq h ia ic ie hl he hsub (out := st.1) (mem := st.2) hv.ho hv.hm
  have v0 := view_of (m := a.al.length) (inp := a.al.map (hasB ev)) (by simp) hv.ho hv.hm hv.hq hv.ha
  obtain ⟨v1, v2, v3⟩ := gen_scan h.hn h.ed ia ie (subB_mem hsub) hv.hs v0
  refine ⟨_, h1, ⟨v1.out.1, v1.mem.1, v2, v1.mem.2, v1.out.2.1⟩, fun k hk => ?_⟩
  rw [← v3 k hk]
  exact v1.out.2.2 k (by omega)
theorem Shows.start {a : Aut} {ctrl : List Int} {n : Nat} (h0 : 0 < n) : Shows a ctrl n 0 false (List.replicate (ctrl.length + 1) false, true :: List.replicate n false) := by
  refine ⟨by simp, by simp, h0, fun k hk => ?_, ?_⟩
  · cases k with
    | zero => rfl
    | succ k =>
      show (true :: List.replicate n false).getD (k + 1) false = _
      rw [List.getD_cons_succ, List.getD_eq_getElem?_getD, List.getElem?_replicate]
      split <;> simp
  · show (List.replicate (ctrl.length + 1) false).getD ctrl.length false = _
    rw [List.getD_eq_getElem?_getD, List.getElem?_replicate]
    split <;> rfl
theorem Shows.says {a : Aut} {ctrl : List Int} {n : Nat} (h : GenIn a ctrl n) {s : Nat} {al p6 : Bool} {st : List Bool × List Bool} (hv : Shows a ctrl n s al st) (hc : ∀ k, k < ctrl.length → st.1.getD k false = (p6 && (stepF a.es s (ctrl.getD k 0)).isSome)) :
    m_overseerlaw53_shows (autP a) ctrl (codeP a ctrl n) st (s : Int) al p6 = some true := shows_eq (out := st.1) (mem := st.2) h hv.ho hv.hm hv.hs hv.hq hv.ha hc
theorem gstart_eq {a : Aut} {ctrl : List Int} {n : Nat} (h : GenIn a ctrl n) (ia : Inc a.al) (ic : Inc ctrl) : m_instruction_Start (codeP a ctrl n).1 = some ((List.replicate (ctrl.length + 1) false, true :: List.replicate n false), 0) := start_eq (genP_in h ia ic)
end Go.Proofs.Ytkkemchihllklaa
