/- Parts of an earlier seat, for this one: InsL GenL Check CheckB BfsSpec Small Facts FromL GenSpec GenOk GenLen SetL GenRing GenWords. -/
import Derived.Test.YtkkemchihllklaaRegTwo
namespace Go.Proofs.Ytkkemchihllklaa

/-- An instruction: its operation and its operand. -/
structure Ins where
  op : Int
  arg : Int
/-- The next place. -/
def insNext (x : Ins) (i : Nat) (acc : Bool) : Nat :=
  if 1 ≤ x.op ∧ x.op ≤ 10 then i + 1 else if x.op = 11 then x.arg.toNat else if x.op = 12 then (if acc = true then x.arg.toNat else i + 1) else (if acc = true then i + 1 else x.arg.toNat)
/-- The accumulator, where the operand's bit is v. -/
def insAcc (x : Ins) (acc v : Bool) : Bool :=
  if x.op = 1 then v else if x.op = 2 then !v else if x.op = 3 then acc && v else if x.op = 4 then acc && !v else if x.op = 5 then acc || v else if x.op = 6 then acc || !v else acc
/-- The bits. -/
def insBits (x : Ins) (acc : Bool) (b : List Bool) : List Bool :=
  if x.op = 7 then b.set x.arg.toNat acc else if x.op = 8 then b.set x.arg.toNat (!acc) else if x.op = 9 then b.set x.arg.toNat (b.getD x.arg.toNat false || acc) else if x.op = 10 then b.set x.arg.toNat (b.getD x.arg.toNat false && !acc) else b
/-- One instruction at place i: the next place, the accumulator, the bits. -/
def insStep (x : Ins) (i : Nat) (acc : Bool) (b : List Bool) : Nat × Bool × List Bool := (insNext x i acc, insAcc x acc (b.getD x.arg.toNat false), insBits x acc b)
def runL (P : List Ins) : Nat → Nat → Bool → List Bool → List Bool
  | 0, _, _, b => b
  | f + 1, i, acc, b => match P[i]? with
    | none => b
    | some x => runL P f (insStep x i acc b).1 (insStep x i acc b).2.1 (insStep x i acc b).2.2
/-- Jumps lead forward. -/
def Fwd (P : List Ins) : Prop := ∀ (i : Nat) (x : Ins), P[i]? = some x → (x.op < 1 ∨ 11 ≤ x.op) → (i : Int) < x.arg
theorem insStep_gt {P : List Ins} (hP : Fwd P) {i : Nat} {x : Ins} (hx : P[i]? = some x) (acc : Bool) (b : List Bool) : i < (insStep x i acc b).1 := by
  have h := hP i x hx
  show i < insNext x i acc
  unfold insNext
  by_cases h1 : 1 ≤ x.op ∧ x.op ≤ 10
  · rw [if_pos h1]; omega
  · rw [if_neg h1]
    have h2 := h (by omega)
    split
    · omega
    · split
      · split <;> omega
      · split <;> omega
theorem runL_fuel {P : List Ins} (hP : Fwd P) : ∀ (f f' i : Nat) (acc : Bool) (b : List Bool), P.length < i + f → P.length < i + f' → runL P f i acc b = runL P f' i acc b
  | 0, 0, _, _, _, _, _ => rfl
  | 0, f' + 1, i, acc, b, h, _ => by
    rw [runL, runL, List.getElem?_eq_none (by omega)]
  | f + 1, 0, i, acc, b, _, h => by
    rw [runL, runL, List.getElem?_eq_none (by omega)]
  | f + 1, f' + 1, i, acc, b, h, h' => by
    rw [runL, runL]
    cases hx : P[i]? with
    | none => rfl
    | some x =>
      have := insStep_gt hP hx acc b
      exact runL_fuel hP f f' _ _ _ (by omega) (by omega)
/-- What is left to do from place i on. -/
def evalAt (P : List Ins) (i : Nat) (acc : Bool) (b : List Bool) : List Bool := runL P (P.length + 1 - i) i acc b
theorem evalAt_step {P : List Ins} (hP : Fwd P) {i : Nat} {x : Ins} (hx : P[i]? = some x) (acc : Bool) (b : List Bool) : evalAt P i acc b = evalAt P (insStep x i acc b).1 (insStep x i acc b).2.1 (insStep x i acc b).2.2 := by
  have hi := (List.getElem?_eq_some_iff.1 hx).1
  have hg := insStep_gt hP hx acc b
  unfold evalAt
  rw [show P.length + 1 - i = (P.length - i) + 1 by omega, runL, hx]
  exact runL_fuel hP _ _ _ _ _ (by omega) (by omega)
theorem evalAt_end {P : List Ins} {i : Nat} (hi : P.length ≤ i) (acc : Bool) (b : List Bool) : evalAt P i acc b = b := by
  unfold evalAt
  cases h : P.length + 1 - i with
  | zero => rfl
  | succ f => rw [runL, List.getElem?_eq_none hi]
/-- The instructions L lie at place s. -/
def LiesAt (P : List Ins) (s : Nat) (L : List Ins) : Prop := ∀ (k : Nat) (x : Ins), L[k]? = some x → P[s + k]? = some x
theorem LiesAt.left {P : List Ins} {s : Nat} {L M : List Ins} (h : LiesAt P s (L ++ M)) : LiesAt P s L := fun k x hx => h k x (by rw [List.getElem?_append_left (List.getElem?_eq_some_iff.1 hx).1]; exact hx)
theorem LiesAt.right {P : List Ins} {s : Nat} {L M : List Ins} (h : LiesAt P s (L ++ M)) : LiesAt P (s + L.length) M := fun k x hx => by
  have := h (L.length + k) x (by rw [List.getElem?_append_right (by omega), Nat.add_sub_cancel_left]; exact hx)
  rwa [← Nat.add_assoc] at this
theorem LiesAt.at0 {P : List Ins} {s : Nat} {x : Ins} {L : List Ins} (h : LiesAt P s (x :: L)) : P[s]? = some x := h 0 x rfl
theorem LiesAt.tail {P : List Ins} {s : Nat} {x : Ins} {L : List Ins} (h : LiesAt P s (x :: L)) : LiesAt P (s + 1) L := fun k y hy => by
  have := h (k + 1) y hy
  rwa [show s + (k + 1) = s + 1 + k by omega] at this

section
variable {P : List Ins} {s : Nat} {L : List Ins} {acc : Bool} {b : List Bool}
theorem ev_ld (hP : Fwd P) {k : Nat} (h : P[s]? = some ⟨1, k⟩) : evalAt P s acc b = evalAt P (s + 1) (b.getD k false) b := by rw [evalAt_step hP h]; rfl
theorem ev_ldn (hP : Fwd P) {k : Nat} (h : P[s]? = some ⟨2, k⟩) : evalAt P s acc b = evalAt P (s + 1) (!b.getD k false) b := by rw [evalAt_step hP h]; rfl
theorem ev_andn (hP : Fwd P) {k : Nat} (h : P[s]? = some ⟨4, k⟩) : evalAt P s acc b = evalAt P (s + 1) (acc && !b.getD k false) b := by rw [evalAt_step hP h]; rfl
theorem ev_or (hP : Fwd P) {k : Nat} (h : P[s]? = some ⟨5, k⟩) : evalAt P s acc b = evalAt P (s + 1) (acc || b.getD k false) b := by rw [evalAt_step hP h]; rfl
theorem ev_st (hP : Fwd P) {k : Nat} (h : P[s]? = some ⟨7, k⟩) : evalAt P s acc b = evalAt P (s + 1) acc (b.set k acc) := by rw [evalAt_step hP h]; rfl
theorem ev_set (hP : Fwd P) {k : Nat} (h : P[s]? = some ⟨9, k⟩) : evalAt P s acc b = evalAt P (s + 1) acc (b.set k (b.getD k false || acc)) := by rw [evalAt_step hP h]; rfl
theorem ev_reset (hP : Fwd P) {k : Nat} (h : P[s]? = some ⟨10, k⟩) : evalAt P s acc b = evalAt P (s + 1) acc (b.set k (b.getD k false && !acc)) := by rw [evalAt_step hP h]; rfl
theorem ev_jmpc (hP : Fwd P) {k : Nat} (h : P[s]? = some ⟨12, k⟩) : evalAt P s acc b = evalAt P (if acc = true then k else s + 1) acc b := by rw [evalAt_step hP h]; rfl
end

/-- How an edge is followed: instructions. -/
def edgeI (moved : Nat) (e : Nat × Nat) : List Ins := [⟨1, e.1⟩, ⟨4, moved⟩, ⟨10, e.1⟩, ⟨9, e.2⟩, ⟨9, moved⟩]
/-- How an edge is followed: bits. -/
def edgeB (moved : Nat) (b : List Bool) (e : Nat × Nat) : List Bool :=
  if (b.getD e.1 false && !b.getD moved false) = true then (((b.set e.1 false).set e.2 true).set moved true) else b
theorem set_same {b : List Bool} {k : Nat} : b.set k (b.getD k false) = b := by
  by_cases h : k < b.length
  · apply List.ext_getElem?
    intro j
    rw [List.getElem?_set]
    split
    · rename_i e
      subst e
      rw [List.getD_eq_getElem?_getD, List.getElem?_eq_getElem h]; rfl
    · rfl
  · rw [List.set_eq_of_length_le (by omega)]
theorem edge_eval {P : List Ins} (hP : Fwd P) {moved : Nat} {e : Nat × Nat} {s : Nat} (h : LiesAt P s (edgeI moved e)) (acc : Bool) (b : List Bool) : ∃ acc', evalAt P s acc b = evalAt P (s + 5) acc' (edgeB moved b e) := by
  have h0 := h.at0
  have h1 := h.tail.at0
  have h2 := h.tail.tail.at0
  have h3 := h.tail.tail.tail.at0
  have h4 := h.tail.tail.tail.tail.at0
  refine ⟨b.getD e.1 false && !b.getD moved false, ?_⟩
  rw [ev_ld hP h0, ev_andn hP h1, ev_reset hP h2, ev_set hP h3, ev_set hP h4]
  unfold edgeB
  cases hc : (b.getD e.1 false && !b.getD moved false) with
  | false =>
    rw [if_neg (by simp)]
    simp only [Bool.not_false, Bool.and_true, Bool.or_false, set_same]
  | true =>
    rw [if_pos rfl]
    simp only [Bool.not_true, Bool.and_false, Bool.or_true]
theorem edges_eval {P : List Ins} (hP : Fwd P) {moved : Nat} : ∀ (es : List (Nat × Nat)) {s : Nat}, LiesAt P s (es.flatMap (edgeI moved)) → ∀ (acc : Bool) (b : List Bool), ∃ acc', evalAt P s acc b = evalAt P (s + 5 * es.length) acc' (es.foldl (edgeB moved) b)
  | [], s, _, acc, b => ⟨acc, rfl⟩
  | e :: es, s, h, acc, b => by
    rw [List.flatMap_cons] at h
    obtain ⟨a1, h1⟩ := edge_eval hP h.left acc b
    obtain ⟨a2, h2⟩ := edges_eval hP es h.right a1 (edgeB moved b e)
    refine ⟨a2, ?_⟩
    rw [h1, List.foldl_cons, List.length_cons, show s + 5 * (es.length + 1) = s + (edgeI moved e).length + 5 * es.length by simp [edgeI]; omega]
    exact h2
/-- How an event is handled, where the list so far has s instructions. -/
def eventI (input moved alarm : Nat) (es : List (Nat × Nat)) (s : Nat) : List Ins :=
  [⟨2, input⟩, ⟨12, ((s + 6 + 5 * es.length : Nat) : Int)⟩, ⟨1, input⟩, ⟨10, moved⟩] ++ (es.flatMap (edgeI moved) ++ [⟨2, moved⟩, ⟨9, alarm⟩])
def eventB (input moved alarm : Nat) (es : List (Nat × Nat)) (b : List Bool) : List Bool :=
  if b.getD input false = true then
    (es.foldl (edgeB moved) (b.set moved false)).set alarm ((es.foldl (edgeB moved) (b.set moved false)).getD alarm false || !(es.foldl (edgeB moved) (b.set moved false)).getD moved false)
  else b
theorem flatMap_len5 (moved : Nat) : ∀ es : List (Nat × Nat), (es.flatMap (edgeI moved)).length = 5 * es.length
  | [] => rfl
  | e :: es => by rw [List.flatMap_cons, List.length_append, flatMap_len5 moved es, List.length_cons]; simp [edgeI]; omega
theorem eventI_len (input moved alarm : Nat) (es : List (Nat × Nat)) (s : Nat) : (eventI input moved alarm es s).length = 6 + 5 * es.length := by
  unfold eventI
  rw [List.length_append, List.length_append, flatMap_len5]
  simp
  omega
theorem event_eval {P : List Ins} (hP : Fwd P) {input moved alarm : Nat} {es : List (Nat × Nat)} {s : Nat} (h : LiesAt P s (eventI input moved alarm es s)) (acc : Bool) (b : List Bool) : ∃ acc', evalAt P s acc b = evalAt P (s + (6 + 5 * es.length)) acc' (eventB input moved alarm es b) := by
  unfold eventI at h
  have hl := h.left
  have h0 := hl.at0
  have h1 := hl.tail.at0
  have h2 := hl.tail.tail.at0
  have h3 := hl.tail.tail.tail.at0
  have hr := h.right
  have he := hr.left
  have ht := hr.right
  rw [flatMap_len5] at ht
  have h4 := ht.at0
  have h5 := ht.tail.at0
  unfold eventB
  cases hi : b.getD input false with
  | false =>
    rw [if_neg (by simp)]
    refine ⟨true, ?_⟩
    rw [ev_ldn hP h0, hi, ev_jmpc hP h1, if_pos (by rfl)]
    rw [show s + 6 + 5 * es.length = s + (6 + 5 * es.length) by omega]
    rfl
  | true =>
    rw [if_pos rfl]
    rw [ev_ldn hP h0, hi, ev_jmpc hP h1, if_neg (by decide), ev_ld hP h2, hi, ev_reset hP h3]
    simp only [Bool.not_true, Bool.and_false]
    obtain ⟨a1, h6⟩ := edges_eval hP es he true (b.set moved false)
    refine ⟨!(es.foldl (edgeB moved) (b.set moved false)).getD moved false, ?_⟩
    rw [show s + 1 + 1 + 1 + 1 = s + [(⟨2, input⟩ : Ins), ⟨12, ((s + 6 + 5 * es.length : Nat) : Int)⟩, ⟨1, input⟩, ⟨10, moved⟩].length from rfl, h6, ev_ldn hP h4, ev_set hP h5]
    congr 1
    simp
    omega
end Go.Proofs.Ytkkemchihllklaa

namespace Go.Proofs.Ytkkemchihllklaa

/-- An output that is set in some states: instructions. -/
def commandI (o : Nat) : List Nat → List Ins
  | [] => [⟨1, o⟩, ⟨4, o⟩, ⟨7, o⟩]
  | m :: ms => ⟨1, m⟩ :: (ms.map (fun k : Nat => (⟨5, k⟩ : Ins)) ++ [⟨7, o⟩])
def commandB (o : Nat) (ms : List Nat) (b : List Bool) : List Bool := b.set o (ms.any fun m => b.getD m false)
theorem ors_eval {P : List Ins} (hP : Fwd P) {b : List Bool} : ∀ (ms : List Nat) {s : Nat} (acc : Bool), LiesAt P s (ms.map fun k : Nat => (⟨5, k⟩ : Ins)) → evalAt P s acc b = evalAt P (s + ms.length) (acc || ms.any fun m => b.getD m false) b
  | [], s, acc, _ => by simp
  | m :: ms, s, acc, h => by
    rw [List.map_cons] at h
    rw [ev_or hP h.at0, ors_eval hP ms _ h.tail, List.any_cons, List.length_cons, Bool.or_assoc, show s + (ms.length + 1) = s + 1 + ms.length by omega]
theorem command_eval {P : List Ins} (hP : Fwd P) {o : Nat} {ms : List Nat} {s : Nat} (h : LiesAt P s (commandI o ms)) (acc : Bool) (b : List Bool) : ∃ acc', evalAt P s acc b = evalAt P (s + (commandI o ms).length) acc' (commandB o ms b) := by
  cases ms with
  | nil =>
    have h0 := h.at0
    have h1 := h.tail.at0
    have h2 := h.tail.tail.at0
    refine ⟨false, ?_⟩
    rw [ev_ld hP h0, ev_andn hP h1, ev_st hP h2, Bool.and_not_self]
    rfl
  | cons m ms =>
    have h0 := h.at0
    have ht : LiesAt P (s + 1) (ms.map (fun k : Nat => (⟨5, k⟩ : Ins)) ++ [⟨7, o⟩]) := h.tail
    have h2 := ht.right.at0
    rw [List.length_map] at h2
    refine ⟨b.getD m false || ms.any fun m => b.getD m false, ?_⟩
    rw [ev_ld hP h0, ors_eval hP ms _ ht.left, ev_st hP h2]
    congr 1
    simp [commandI]
    omega
/-- All events, and all commands. -/
def eventsI (moved alarm : Nat) : List (Nat × List (Nat × Nat)) → Nat → List Ins
  | [], _ => []
  | (i, es) :: l, s => eventI i moved alarm es s ++ eventsI moved alarm l (s + (6 + 5 * es.length))
theorem events_eval {P : List Ins} (hP : Fwd P) {moved alarm : Nat} : ∀ (l : List (Nat × List (Nat × Nat))) {s : Nat}, LiesAt P s (eventsI moved alarm l s) → ∀ (acc : Bool) (b : List Bool), ∃ acc', evalAt P s acc b = evalAt P (s + (eventsI moved alarm l s).length) acc' (l.foldl (fun b e => eventB e.1 moved alarm e.2 b) b)
  | [], s, _, acc, b => ⟨acc, rfl⟩
  | (i, es) :: l, s, h, acc, b => by
    rw [eventsI] at h
    obtain ⟨a1, h1⟩ := event_eval hP h.left acc b
    have hr := h.right
    rw [eventI_len] at hr
    obtain ⟨a2, h2⟩ := events_eval hP l hr a1 (eventB i moved alarm es b)
    refine ⟨a2, ?_⟩
    rw [h1, List.foldl_cons, eventsI, List.length_append, eventI_len, h2, Nat.add_assoc]
def commandsI (l : List (Nat × List Nat)) : List Ins := l.flatMap fun c => commandI c.1 c.2
theorem commands_eval {P : List Ins} (hP : Fwd P) : ∀ (l : List (Nat × List Nat)) {s : Nat}, LiesAt P s (commandsI l) → ∀ (acc : Bool) (b : List Bool), ∃ acc', evalAt P s acc b = evalAt P (s + (commandsI l).length) acc' (l.foldl (fun b c => commandB c.1 c.2 b) b)
  | [], s, _, acc, b => ⟨acc, rfl⟩
  | c :: l, s, h, acc, b => by
    have hs : commandsI (c :: l) = commandI c.1 c.2 ++ commandsI l := by simp [commandsI]
    rw [hs] at h ⊢
    obtain ⟨a1, h1⟩ := command_eval hP h.left acc b
    obtain ⟨a2, h2⟩ := commands_eval hP l h.right a1 (commandB c.1 c.2 b)
    refine ⟨a2, ?_⟩
    rw [h1, List.foldl_cons, List.length_append, h2, Nat.add_assoc]
/-- Jumps lead forward, in a list that lies at place s. -/
def LocFwd (s : Nat) (L : List Ins) : Prop := ∀ (k : Nat) (x : Ins), L[k]? = some x → (x.op < 1 ∨ 11 ≤ x.op) → ((s + k : Nat) : Int) < x.arg
theorem LocFwd.append {s : Nat} {L M : List Ins} (h : LocFwd s L) (h' : LocFwd (s + L.length) M) : LocFwd s (L ++ M) := by
  intro k x hx ho
  by_cases hk : k < L.length
  · exact h k x (by rwa [List.getElem?_append_left hk] at hx) ho
  · rw [List.getElem?_append_right (by omega)] at hx
    have := h' (k - L.length) x hx ho
    omega
theorem LocFwd.plain {s : Nat} {L : List Ins} (h : ∀ x ∈ L, 1 ≤ x.op ∧ x.op < 11) : LocFwd s L := by
  intro k x hx ho
  have := h x (List.mem_of_getElem? hx)
  omega
theorem eventI_fwd (i moved alarm : Nat) (es : List (Nat × Nat)) (s : Nat) : LocFwd s (eventI i moved alarm es s) := by
  unfold eventI
  refine LocFwd.append ?_ (LocFwd.plain ?_)
  · intro k x hx ho
    match k, hx with
    | 0, hx => cases hx; simp at ho
    | 1, hx => cases hx; show ((s + 1 : Nat) : Int) < ((s + 6 + 5 * es.length : Nat) : Int); omega
    | 2, hx => cases hx; simp at ho
    | 3, hx => cases hx; simp at ho
    | k + 4, hx => cases hx
  · intro x hx
    rcases List.mem_append.1 hx with h | h
    · obtain ⟨e, _, h⟩ := List.mem_flatMap.1 h
      simp [edgeI] at h
      rcases h with rfl | rfl | rfl | rfl | rfl <;> simp
    · simp at h
      rcases h with rfl | rfl <;> simp
theorem eventsI_fwd (moved alarm : Nat) : ∀ (l : List (Nat × List (Nat × Nat))) (s : Nat), LocFwd s (eventsI moved alarm l s)
  | [], s => fun k x hx => by cases hx
  | (i, es) :: l, s => by
    rw [eventsI]
    refine (eventI_fwd i moved alarm es s).append ?_
    rw [eventI_len]
    exact eventsI_fwd moved alarm l _
theorem commandsI_ops (l : List (Nat × List Nat)) : ∀ x ∈ commandsI l, 1 ≤ x.op ∧ x.op < 11 := by
  intro x hx
  obtain ⟨c, _, h⟩ := List.mem_flatMap.1 hx
  obtain ⟨o, ms⟩ := c
  cases ms with
  | nil => simp [commandI] at h; rcases h with rfl | rfl | rfl <;> simp
  | cons m ms =>
    simp [commandI] at h
    rcases h with rfl | ⟨k, _, rfl⟩ | rfl <;> simp
/-- The whole list. -/
def genI (moved alarm : Nat) (evs : List (Nat × List (Nat × Nat))) (cms : List (Nat × List Nat)) : List Ins := eventsI moved alarm evs 0 ++ commandsI cms
theorem genI_fwd (moved alarm : Nat) (evs : List (Nat × List (Nat × Nat))) (cms : List (Nat × List Nat)) : Fwd (genI moved alarm evs cms) := by
  have h := (eventsI_fwd moved alarm evs 0).append (LocFwd.plain (s := 0 + (eventsI moved alarm evs 0).length) (commandsI_ops cms))
  intro i x hx ho
  have := h i x hx ho
  rwa [Nat.zero_add] at this
/-- A scan. -/
theorem gen_eval (moved alarm : Nat) (evs : List (Nat × List (Nat × Nat))) (cms : List (Nat × List Nat)) (b : List Bool) :
    evalAt (genI moved alarm evs cms) 0 false b = cms.foldl (fun b c => commandB c.1 c.2 b) (evs.foldl (fun b e => eventB e.1 moved alarm e.2 b) b) := by
  have hP := genI_fwd moved alarm evs cms
  have h : LiesAt (genI moved alarm evs cms) 0 (eventsI moved alarm evs 0 ++ commandsI cms) := fun k x hx => by rw [Nat.zero_add]; exact hx
  obtain ⟨a1, h1⟩ := events_eval hP evs h.left false b
  obtain ⟨a2, h2⟩ := commands_eval hP cms h.right a1 (evs.foldl (fun b e => eventB e.1 moved alarm e.2 b) b)
  rw [h1, h2, evalAt_end]
  unfold genI
  rw [List.length_append]
  omega

/-- What the bits show: the inputs, the state, the alarm; m inputs, c commands, n states. -/
structure View (m c n : Nat) (inp : List Bool) (s : Nat) (al : Bool) (b : List Bool) : Prop where
  len : b.length = m + (c + 1) + (n + 1)
  inp : ∀ j, j < m → b.getD j false = inp.getD j false
  one : ∀ j, j < n → b.getD (m + (c + 1) + j) false = decide (j = s)
  al : b.getD (m + c) false = al
theorem bit_set_eq {b : List Bool} {k : Nat} {v : Bool} (h : k < b.length) : (b.set k v).getD k false = v := by
  rw [List.getD_eq_getElem?_getD, List.getElem?_set_self h]; rfl
theorem bit_set_ne {b : List Bool} {k j : Nat} {v : Bool} (h : k ≠ j) : (b.set k v).getD j false = b.getD j false := by
  rw [List.getD_eq_getElem?_getD, List.getElem?_set_ne h, ← List.getD_eq_getElem?_getD]
theorem edges_moved {moved : Nat} : ∀ (es : List (Nat × Nat)) {b : List Bool}, b.getD moved false = true → es.foldl (edgeB moved) b = b
  | [], _, _ => rfl
  | e :: es, b, h => by
    have he : edgeB moved b e = b := by rw [edgeB, if_neg]; rw [h]; simp
    rw [List.foldl_cons, he]
    exact edges_moved es h
/-- The edges of an event. -/
theorem edges_view {m c n : Nat} {inp : List Bool} {s : Nat} {al : Bool} : ∀ (es : List (Nat × Nat)) {b : List Bool}, View m c n inp s al b → b.getD (m + (c + 1) + n) false = false → s < n → (∀ e ∈ es, e.1 < n ∧ e.2 < n) →
    (∀ e, es.find? (fun e => e.1 == s) = some e → View m c n inp e.2 al ((es.map fun e => (m + (c + 1) + e.1, m + (c + 1) + e.2)).foldl (edgeB (m + (c + 1) + n)) b) ∧ ((es.map fun e => (m + (c + 1) + e.1, m + (c + 1) + e.2)).foldl (edgeB (m + (c + 1) + n)) b).getD (m + (c + 1) + n) false = true) ∧
    (es.find? (fun e => e.1 == s) = none → (es.map fun e => (m + (c + 1) + e.1, m + (c + 1) + e.2)).foldl (edgeB (m + (c + 1) + n)) b = b)
  | [], b, hv, hm, hs, he => ⟨fun e h => (by cases h), fun _ => rfl⟩
  | e :: es, b, hv, hm, hs, he => by
    have h1 := he e (List.mem_cons_self ..)
    have hl := hv.len
    rw [List.map_cons, List.foldl_cons]
    by_cases hf : e.1 = s
    · have hb : edgeB (m + (c + 1) + n) b (m + (c + 1) + e.1, m + (c + 1) + e.2) = ((b.set (m + (c + 1) + e.1) false).set (m + (c + 1) + e.2) true).set (m + (c + 1) + n) true := by
        rw [edgeB, if_pos]
        dsimp only
        rw [hv.one e.1 h1.1, hm, hf]
        simp
      rw [hb, List.find?_cons_of_pos (by simpa using hf)]
      have hmv : (((b.set (m + (c + 1) + e.1) false).set (m + (c + 1) + e.2) true).set (m + (c + 1) + n) true).getD (m + (c + 1) + n) false = true := bit_set_eq (by simp; omega)
      rw [edges_moved _ hmv]
      refine ⟨fun e' h => ?_, fun h => (by cases h)⟩
      cases h
      refine ⟨⟨by simp; omega, fun j hj => ?_, fun j hj => ?_, ?_⟩, hmv⟩
      · rw [bit_set_ne (by omega), bit_set_ne (by omega), bit_set_ne (by omega)]; exact hv.inp j hj
      · rw [bit_set_ne (by omega)]
        by_cases hj2 : j = e.2
        · subst hj2; rw [bit_set_eq (by simp; omega)]; simp
        · rw [bit_set_ne (by omega)]
          by_cases hj3 : j = e.1
          · subst hj3; rw [bit_set_eq (by omega)]; simp [hj2]
          · rw [bit_set_ne (by omega), hv.one j hj]
            rw [hf] at hj3
            simp [hj2, hj3]
      · rw [bit_set_ne (by omega), bit_set_ne (by omega), bit_set_ne (by omega)]; exact hv.al
    · have hb : edgeB (m + (c + 1) + n) b (m + (c + 1) + e.1, m + (c + 1) + e.2) = b := by
        rw [edgeB, if_neg]
        dsimp only
        rw [hv.one e.1 h1.1]
        simp [hf]
      rw [hb, List.find?_cons_of_neg (by simpa using hf)]
      exact edges_view es hv hm hs (fun e' h' => he e' (List.mem_cons_of_mem _ h'))
/-- An event. -/
def evStep (inp : List Bool) (x : Nat × List (Nat × Nat)) (S : Nat × Bool) : Nat × Bool :=
  if inp.getD x.1 false = true then match x.2.find? (fun e => e.1 == S.1) with
    | some e => (e.2, S.2)
    | none => (S.1, true)
  else S
theorem event_view {m c n : Nat} {inp : List Bool} {s : Nat} {al : Bool} {b : List Bool} (hv : View m c n inp s al b) (hs : s < n) {i : Nat} (hi : i < m) {es : List (Nat × Nat)} (he : ∀ e ∈ es, e.1 < n ∧ e.2 < n) :
    View m c n inp (evStep inp (i, es) (s, al)).1 (evStep inp (i, es) (s, al)).2 (eventB i (m + (c + 1) + n) (m + c) (es.map fun e => (m + (c + 1) + e.1, m + (c + 1) + e.2)) b) ∧ (evStep inp (i, es) (s, al)).1 < n := by
  have hl := hv.len
  unfold eventB evStep
  rw [hv.inp i hi]
  by_cases hin : inp.getD i false = true
  · rw [if_pos hin, if_pos hin]
    have hv1 : View m c n inp s al (b.set (m + (c + 1) + n) false) := ⟨by simp; omega, fun j hj => by rw [bit_set_ne (by omega)]; exact hv.inp j hj, fun j hj => by rw [bit_set_ne (by omega)]; exact hv.one j hj, by rw [bit_set_ne (by omega)]; exact hv.al⟩
    have hm1 : (b.set (m + (c + 1) + n) false).getD (m + (c + 1) + n) false = false := bit_set_eq (by omega)
    obtain ⟨h1, h2⟩ := edges_view es hv1 hm1 hs he
    dsimp only
    cases hf : es.find? (fun e => e.1 == s) with
    | none =>
      rw [h2 hf, hm1]
      refine ⟨⟨by simp; omega, fun j hj => ?_, fun j hj => ?_, ?_⟩, hs⟩
      · rw [bit_set_ne (by omega)]; exact hv1.inp j hj
      · rw [bit_set_ne (by omega)]; exact hv1.one j hj
      · rw [bit_set_eq (by simp; omega)]; simp
    | some e =>
      obtain ⟨h3, h4⟩ := h1 e hf
      have h5 := (he e (List.mem_of_find?_eq_some hf)).2
      rw [h4]
      have h6 := h3.al
      generalize (es.map fun e => (m + (c + 1) + e.1, m + (c + 1) + e.2)).foldl (edgeB (m + (c + 1) + n)) (b.set (m + (c + 1) + n) false) = b2 at *
      have hl2 := h3.len
      refine ⟨⟨by simp; omega, fun j hj => ?_, fun j hj => ?_, ?_⟩, h5⟩
      · rw [bit_set_ne (by omega)]; exact h3.inp j hj
      · rw [bit_set_ne (by omega)]; exact h3.one j hj
      · rw [bit_set_eq (by omega), h6]; simp
  · rw [if_neg hin, if_neg hin]
    exact ⟨hv, hs⟩
theorem events_view {m c n : Nat} {inp : List Bool} : ∀ (l : List (Nat × List (Nat × Nat))) {s : Nat} {al : Bool} {b : List Bool}, View m c n inp s al b → s < n → (∀ x ∈ l, x.1 < m ∧ ∀ e ∈ x.2, e.1 < n ∧ e.2 < n) →
    View m c n inp (l.foldl (fun S x => evStep inp x S) (s, al)).1 (l.foldl (fun S x => evStep inp x S) (s, al)).2 (l.foldl (fun b x => eventB x.1 (m + (c + 1) + n) (m + c) (x.2.map fun e => (m + (c + 1) + e.1, m + (c + 1) + e.2)) b) b) ∧ (l.foldl (fun S x => evStep inp x S) (s, al)).1 < n
  | [], s, al, b, hv, hs, _ => ⟨hv, hs⟩
  | x :: l, s, al, b, hv, hs, h => by
    have hx := h x (List.mem_cons_self ..)
    obtain ⟨h1, h2⟩ := event_view hv hs hx.1 hx.2
    exact events_view l h1 h2 (fun y hy => h y (List.mem_cons_of_mem _ hy))
/-- A command's output is set. -/
theorem command_view {m c n : Nat} {inp : List Bool} {s : Nat} {al : Bool} {b : List Bool} (hv : View m c n inp s al b) {k : Nat} (hk : k < c) {ms : List Nat} (hms : ∀ x ∈ ms, x < n) :
    View m c n inp s al (commandB (m + k) (ms.map fun x => m + (c + 1) + x) b) ∧ (commandB (m + k) (ms.map fun x => m + (c + 1) + x) b).getD (m + k) false = ms.contains s ∧ ∀ j, j < c → j ≠ k → (commandB (m + k) (ms.map fun x => m + (c + 1) + x) b).getD (m + j) false = b.getD (m + j) false := by
  have hl := hv.len
  have hany : ((ms.map fun x => m + (c + 1) + x).any fun x => b.getD x false) = ms.contains s := by
    rw [Bool.eq_iff_iff, List.any_map, List.any_eq_true, List.contains_iff_mem]
    constructor
    · rintro ⟨x, hx, h⟩
      have h2 := hv.one x (hms x hx)
      have h : b.getD (m + (c + 1) + x) false = true := h
      rw [h2] at h
      have : x = s := by simpa using h
      rwa [← this]
    · intro h
      refine ⟨s, h, ?_⟩
      show b.getD (m + (c + 1) + s) false = true
      rw [hv.one s (hms s h)]
      simp
  unfold commandB
  rw [hany]
  refine ⟨⟨by simp; omega, fun j hj => ?_, fun j hj => ?_, ?_⟩, bit_set_eq (by omega), fun j hj hjk => bit_set_ne (by omega)⟩
  · rw [bit_set_ne (by omega)]; exact hv.inp j hj
  · rw [bit_set_ne (by omega)]; exact hv.one j hj
  · rw [bit_set_ne (by omega)]; exact hv.al
theorem commands_view {m c n : Nat} {inp : List Bool} {s : Nat} {al : Bool} : ∀ (l : List (Nat × List Nat)) {b : List Bool}, View m c n inp s al b → (∀ x ∈ l, x.1 < c ∧ ∀ y ∈ x.2, y < n) → (l.map (·.1)).Nodup →
    View m c n inp s al (l.foldl (fun b x => commandB (m + x.1) (x.2.map fun y => m + (c + 1) + y) b) b) ∧ (∀ x ∈ l, (l.foldl (fun b x => commandB (m + x.1) (x.2.map fun y => m + (c + 1) + y) b) b).getD (m + x.1) false = x.2.contains s) ∧
    ∀ j, j < c → j ∉ l.map (·.1) → (l.foldl (fun b x => commandB (m + x.1) (x.2.map fun y => m + (c + 1) + y) b) b).getD (m + j) false = b.getD (m + j) false
  | [], b, hv, _, _ => ⟨hv, fun x hx => (by cases hx), fun _ _ _ => rfl⟩
  | x :: l, b, hv, h, hn => by
    have hx := h x (List.mem_cons_self ..)
    rw [List.map_cons, List.nodup_cons] at hn
    obtain ⟨h1, h2, h3⟩ := command_view hv hx.1 hx.2
    obtain ⟨h4, h5, h6⟩ := commands_view l h1 (fun y hy => h y (List.mem_cons_of_mem _ hy)) hn.2
    rw [List.foldl_cons]
    refine ⟨h4, fun y hy => ?_, fun j hj hjl => ?_⟩
    · rcases List.mem_cons.1 hy with rfl | hy
      · rw [h6 _ hx.1 hn.1]; exact h2
      · exact h5 y hy
    · rw [List.map_cons, List.mem_cons, not_or] at hjl
      rw [h6 j hj hjl.2]
      exact h3 j hj hjl.1
end Go.Proofs.Ytkkemchihllklaa

namespace Go.Proofs.Ytkkemchihllklaa
open Go.RowKit

/-- An automaton. -/
structure Aut where
  al : List Int
  n : Int
  ms : List Int
  es : List Ed
/-- The first error of the edges; p is the edge before. -/
def edErr (al : List Int) (n : Int) : Option Ed → List Ed → Int
  | _, [] => 0
  | p, x :: xs => if (x.f < 0 ∨ n ≤ x.f ∨ x.t < 0 ∨ n ≤ x.t) then 2 else if hasB al x.e = false then 9 else if (∃ q, p = some q ∧ (x.f < q.f ∨ (x.f = q.f ∧ x.e ≤ q.e))) then 5 else edErr al n (some x) xs
end Go.Proofs.Ytkkemchihllklaa

namespace Go.Proofs.Ytkkemchihllklaa
open Go.RowKit

/-- The error of an automaton. -/
def Aut.err (a : Aut) : Int :=
  if (setErr 32 none a.al != 0) = true then setErr 32 none a.al else if a.n < 0 then 2 else if 4096 < a.n then 3 else if (setErr a.n none a.ms != 0) = true then setErr a.n none a.ms else edErr a.al a.n none a.es

end Go.Proofs.Ytkkemchihllklaa

namespace Go.Proofs.Ytkkemchihllklaa

/-- One edge stands before another. -/
def edLt (x y : Ed) : Prop := x.f < y.f ∨ (x.f = y.f ∧ x.e < y.e)
def Sorted (es : List Ed) : Prop := es.Pairwise edLt
end Go.Proofs.Ytkkemchihllklaa

namespace Go.Proofs.Ytkkemchihllklaa
open Go.RowKit

def allL (n : Nat) : List Int := (List.range n).map fun (i : Nat) => (i : Int)
end Go.Proofs.Ytkkemchihllklaa

namespace Go.Proofs.Ytkkemchihllklaa

theorem setErr_ok {n : Int} : ∀ {p : Option Int} {xs : List Int}, xs.Pairwise (· < ·) → (∀ x ∈ xs, 0 ≤ x ∧ x < n) → (∀ q, p = some q → ∀ x ∈ xs, q < x) → setErr n p xs = 0
  | _, [], _, _, _ => rfl
  | p, x :: xs, h, hr, hp => by
    obtain ⟨h1, h2⟩ := List.pairwise_cons.1 h
    have h3 := hr x (List.mem_cons_self ..)
    rw [setErr, if_neg (by omega), if_neg ?_]
    · exact setErr_ok h2 (fun y hy => hr y (List.mem_cons_of_mem _ hy)) (fun q hq y hy => by cases hq; exact h1 y hy)
    · rintro ⟨q, hq, hle⟩
      have := hp q hq x (List.mem_cons_self ..)
      omega
theorem edErr_ok {al : List Int} {n : Int} : ∀ {p : Option Ed} {es : List Ed}, Sorted es → (∀ x ∈ es, 0 ≤ x.f ∧ x.f < n ∧ 0 ≤ x.t ∧ x.t < n ∧ hasB al x.e = true) → (∀ q, p = some q → ∀ x ∈ es, edLt q x) → edErr al n p es = 0
  | _, [], _, _, _ => rfl
  | p, x :: xs, h, hr, hp => by
    obtain ⟨h1, h2⟩ := List.pairwise_cons.1 h
    have h3 := hr x (List.mem_cons_self ..)
    rw [edErr, if_neg (by omega), if_neg (by rw [h3.2.2.2.2]; simp), if_neg ?_]
    · exact edErr_ok h2 (fun y hy => hr y (List.mem_cons_of_mem _ hy)) (fun q hq y hy => by cases hq; exact h1 y hy)
    · rintro ⟨q, hq, hle⟩
      have := hp q hq x (List.mem_cons_self ..)
      unfold edLt at this
      omega
theorem range_pairwise (k : Nat) (p : Nat → Bool) : (((List.range k).filter p).map fun (i : Nat) => (i : Int)).Pairwise (· < ·) := by
  rw [List.pairwise_map]
  refine List.Pairwise.filter _ ?_
  exact List.Pairwise.imp (fun {a b} h => by omega) List.pairwise_lt_range
theorem range_in (k : Nat) (p : Nat → Bool) : ∀ x ∈ ((List.range k).filter p).map fun (i : Nat) => (i : Int), 0 ≤ x ∧ x < (k : Int) := by
  intro x hx
  obtain ⟨i, hi, rfl⟩ := List.mem_map.1 hx
  have := List.mem_range.1 (List.mem_filter.1 hi).1
  omega
theorem allL_eq (n : Nat) : allL n = ((List.range n).filter fun _ => true).map fun (i : Nat) => (i : Int) := by
  unfold allL; rw [List.filter_eq_self.2 (by simp)]
theorem allL_mem {n : Nat} {s : Int} (h0 : 0 ≤ s) (h1 : s < n) : hasB (allL n) s = true := by
  rw [hasB_true]; unfold allL
  exact List.mem_map.2 ⟨s.toNat, List.mem_range.2 (by omega), by omega⟩

end Go.Proofs.Ytkkemchihllklaa

namespace Go.Proofs.Ytkkemchihllklaa

open Go.RowKit in
abbrev Inc (xs : List Int) : Prop := xs.Pairwise (· < ·)
/-- Increasing lists with the same elements are one. -/
theorem inc_ext : ∀ {xs ys : List Int}, Inc xs → Inc ys → (∀ x, x ∈ xs ↔ x ∈ ys) → xs = ys
  | [], [], _, _, _ => rfl
  | [], y :: ys, _, _, h => by have := (h y).2 (List.mem_cons_self ..); cases this
  | x :: xs, [], _, _, h => by have := (h x).1 (List.mem_cons_self ..); cases this
  | x :: xs, y :: ys, hx, hy, h => by
    obtain ⟨x1, x2⟩ := List.pairwise_cons.1 hx
    obtain ⟨y1, y2⟩ := List.pairwise_cons.1 hy
    have e : x = y := by
      rcases List.mem_cons.1 ((h x).1 (List.mem_cons_self ..)) with h1 | h1
      · exact h1
      · rcases List.mem_cons.1 ((h y).2 (List.mem_cons_self ..)) with h2 | h2
        · exact h2.symm
        · have := x1 y h2
          have := y1 x h1
          omega
    subst e
    rw [inc_ext x2 y2 (fun z => ?_)]
    constructor
    · intro hz
      rcases List.mem_cons.1 ((h z).1 (List.mem_cons_of_mem _ hz)) with h1 | h1
      · have := x1 z hz; omega
      · exact h1
    · intro hz
      rcases List.mem_cons.1 ((h z).2 (List.mem_cons_of_mem _ hz)) with h1 | h1
      · have := y1 z hz; omega
      · exact h1

end Go.Proofs.Ytkkemchihllklaa

namespace Go.Proofs.Ytkkemchihllklaa

/-- The events with their edges, the commands with their states. -/
def evsOf (a : Aut) : List (Nat × List (Nat × Nat)) := (List.range a.al.length).map fun i => (i, (a.es.filter fun x => x.e == a.al.getD i 0).map fun x => (x.f.toNat, x.t.toNat))
def cmsOf (a : Aut) (ctrl : List Int) : List (Nat × List Nat) := (List.range ctrl.length).map fun k => (k, (a.es.filter fun x => x.e == ctrl.getD k 0).map fun x => x.f.toNat)
/-- The state behind an event. -/
def stepF (es : List Ed) (s : Nat) (e : Int) : Option Nat := (es.find? fun x => x.f == (s : Int) && x.e == e).map fun x => x.t.toNat
/-- The state behind some events, and whether there is an alarm. -/
def folStep (es : List Ed) (S : Nat × Bool) (e : Int) : Nat × Bool := match stepF es S.1 e with
  | some t => (t, S.2)
  | none => (S.1, true)
theorem find_filter_map {es : List Ed} (hes : ∀ x ∈ es, 0 ≤ x.f) (s : Nat) (e : Int) : (((es.filter fun x => x.e == e).map fun x => (x.f.toNat, x.t.toNat)).find? fun p => p.1 == s).map (·.2) = stepF es s e := by
  unfold stepF
  induction es with
  | nil => rfl
  | cons x es ih =>
    have h0 := hes x (List.mem_cons_self ..)
    have ih := ih (fun y hy => hes y (List.mem_cons_of_mem _ hy))
    by_cases he : (x.e == e) = true
    · rw [List.filter_cons_of_pos (p := fun x : Ed => x.e == e) he, List.map_cons]
      by_cases hf : x.f = (s : Int)
      · rw [List.find?_cons_of_pos (by simp; omega), List.find?_cons_of_pos (by simp [hf]; simpa using he)]
        rfl
      · rw [List.find?_cons_of_neg (by simp; omega), List.find?_cons_of_neg (by simp [hf])]
        exact ih
    · rw [List.filter_cons_of_neg (p := fun x : Ed => x.e == e) he, List.find?_cons_of_neg (by simp at he; simp [he])]
      exact ih
theorem evStep_fol {es : List Ed} (hes : ∀ x ∈ es, 0 ≤ x.f) {inp : List Bool} {i : Nat} {e : Int} (S : Nat × Bool) : evStep inp (i, (es.filter fun x => x.e == e).map fun x => (x.f.toNat, x.t.toNat)) S = if inp.getD i false = true then folStep es S e else S := by
  have h := find_filter_map hes S.1 e
  unfold evStep folStep
  split
  · rw [← h]
    cases ((es.filter fun x => x.e == e).map fun x => (x.f.toNat, x.t.toNat)).find? (fun p => p.1 == S.1) <;> rfl
  · rfl
/-- The events of the alphabet, in order. -/
theorem evs_fold {es : List Ed} (hes : ∀ x ∈ es, 0 ≤ x.f) (al : List Int) (p : Int → Bool) : ∀ (k : Nat) (S : Nat × Bool), k ≤ al.length →
    ((List.range k).map fun i => (i, (es.filter fun x => x.e == al.getD i 0).map fun x => (x.f.toNat, x.t.toNat))).foldl (fun S x => evStep (al.map p) x S) S = ((al.take k).filter p).foldl (folStep es) S
  | 0, S, _ => by simp
  | k + 1, S, hk => by
    rw [List.range_succ, List.map_append, List.foldl_append, evs_fold hes al p k S (by omega), List.take_succ_eq_append_getElem (by omega), List.filter_append, List.foldl_append]
    simp only [List.map_cons, List.map_nil, List.foldl_cons, List.foldl_nil]
    rw [evStep_fol hes]
    have hg : al.getD k 0 = al[k] := by rw [List.getD_eq_getElem?_getD, List.getElem?_eq_getElem (by omega)]; rfl
    have hi : (al.map p).getD k false = p al[k] := by rw [List.getD_eq_getElem?_getD, List.getElem?_map, List.getElem?_eq_getElem (by omega)]; rfl
    rw [hg, hi]
    cases hp : p al[k] with
    | true => rw [if_pos rfl, List.filter_cons_of_pos hp]; rfl
    | false => rw [if_neg (by simp), List.filter_cons_of_neg (by rw [hp]; simp)]; rfl
/-- A set of events of the alphabet, picked out of it. -/
theorem pick_events {al ev : List Int} (ha : Inc al) (he : Inc ev) (hsub : ∀ x ∈ ev, x ∈ al) : al.filter (hasB ev) = ev := by
  refine inc_ext (List.Pairwise.filter _ ha) he (fun x => ?_)
  rw [List.mem_filter, hasB_true]
  exact ⟨fun h => h.2, fun h => ⟨hsub x h, h⟩⟩
/-- The list that is generated. -/
def genP (a : Aut) (ctrl : List Int) : List Ins :=
  genI (a.al.length + (ctrl.length + 1) + a.n.toNat) (a.al.length + ctrl.length)
    ((evsOf a).map fun x => (x.1, x.2.map fun e => (a.al.length + (ctrl.length + 1) + e.1, a.al.length + (ctrl.length + 1) + e.2)))
    ((cmsOf a ctrl).map fun x => (a.al.length + x.1, x.2.map fun y => a.al.length + (ctrl.length + 1) + y))
/-- A scan follows the supervisor. -/
theorem gen_scan {a : Aut} {ctrl ev : List Int} {n : Nat} (hn : a.n = n) (hes : ∀ x ∈ a.es, 0 ≤ x.f ∧ x.f < (n : Int) ∧ 0 ≤ x.t ∧ x.t < (n : Int)) (ha : Inc a.al) (he : Inc ev) (hsub : ∀ x ∈ ev, x ∈ a.al)
    {s : Nat} {al : Bool} {b : List Bool} (hs : s < n) (hv : View a.al.length ctrl.length n (a.al.map (hasB ev)) s al b) :
    View a.al.length ctrl.length n (a.al.map (hasB ev)) (ev.foldl (folStep a.es) (s, al)).1 (ev.foldl (folStep a.es) (s, al)).2 (evalAt (genP a ctrl) 0 false b) ∧ (ev.foldl (folStep a.es) (s, al)).1 < n ∧
    ∀ k, k < ctrl.length → (evalAt (genP a ctrl) 0 false b).getD (a.al.length + k) false = (stepF a.es (ev.foldl (folStep a.es) (s, al)).1 (ctrl.getD k 0)).isSome := by
  have hes0 : ∀ x ∈ a.es, 0 ≤ x.f := fun x hx => (hes x hx).1
  have h1 := events_view (evsOf a) hv hs (fun x hx => by
    obtain ⟨i, hi, rfl⟩ := List.mem_map.1 hx
    refine ⟨List.mem_range.1 hi, fun e he' => ?_⟩
    obtain ⟨y, hy, rfl⟩ := List.mem_map.1 he'
    have := hes y (List.mem_filter.1 hy).1
    dsimp only
    omega)
  have h2 : (evsOf a).foldl (fun S x => evStep (a.al.map (hasB ev)) x S) (s, al) = ev.foldl (folStep a.es) (s, al) := by
    unfold evsOf
    rw [evs_fold hes0 a.al (hasB ev) a.al.length (s, al) (Nat.le_refl _), List.take_length, pick_events ha he hsub]
  rw [h2] at h1
  have h3 := commands_view (cmsOf a ctrl) h1.1 (fun x hx => by
    obtain ⟨k, hk, rfl⟩ := List.mem_map.1 hx
    refine ⟨List.mem_range.1 hk, fun y hy => ?_⟩
    obtain ⟨z, hz, rfl⟩ := List.mem_map.1 hy
    have := hes z (List.mem_filter.1 hz).1
    omega) (by
    unfold cmsOf
    rw [List.map_map]
    have : ((fun x : Nat × List Nat => x.1) ∘ fun k => (k, (a.es.filter fun x => x.e == ctrl.getD k 0).map fun x => x.f.toNat)) = fun k : Nat => k := rfl
    rw [this, List.map_id']
    exact List.nodup_range)
  have hev : evalAt (genP a ctrl) 0 false b = (cmsOf a ctrl).foldl (fun b x => commandB (a.al.length + x.1) (x.2.map fun y => a.al.length + (ctrl.length + 1) + y) b) ((evsOf a).foldl (fun b x => eventB x.1 (a.al.length + (ctrl.length + 1) + n) (a.al.length + ctrl.length) (x.2.map fun e => (a.al.length + (ctrl.length + 1) + e.1, a.al.length + (ctrl.length + 1) + e.2)) b) b) := by
    unfold genP
    rw [gen_eval, hn, Int.toNat_natCast, List.foldl_map, List.foldl_map]
  rw [hev]
  refine ⟨h3.1, h1.2, fun k hk => ?_⟩
  have h4 := h3.2.1 (k, (a.es.filter fun x => x.e == ctrl.getD k 0).map fun x => x.f.toNat) (List.mem_map.2 ⟨k, List.mem_range.2 hk, rfl⟩)
  dsimp only at h4
  rw [h4, Bool.eq_iff_iff, List.contains_iff_mem]
  unfold stepF
  rw [Option.isSome_map, List.find?_isSome, List.mem_map]
  constructor
  · rintro ⟨x, hx, hxs⟩
    have h5 := List.mem_filter.1 hx
    have := hes0 x h5.1
    refine ⟨x, h5.1, ?_⟩
    rw [Bool.and_eq_true]
    exact ⟨by simp; omega, h5.2⟩
  · rintro ⟨x, hx, hp⟩
    rw [Bool.and_eq_true] at hp
    refine ⟨x, List.mem_filter.2 ⟨hx, hp.2⟩, ?_⟩
    have := hp.1
    simp at this
    omega
end Go.Proofs.Ytkkemchihllklaa

namespace Go.Proofs.Ytkkemchihllklaa

/-- A right instruction at place i of a list of N, over W bits of which the first m are inputs. -/
structure InsOk (N W m : Nat) (i : Nat) (x : Ins) : Prop where
  op : 1 ≤ x.op ∧ x.op ≤ 13
  jump : 11 ≤ x.op → (i : Int) < x.arg ∧ x.arg ≤ (N : Int)
  bit : x.op ≤ 10 → 0 ≤ x.arg ∧ x.arg < (W : Int)
  store : 7 ≤ x.op → x.op ≤ 10 → (m : Int) ≤ x.arg
def LocOk (N W m : Nat) (s : Nat) (L : List Ins) : Prop := ∀ (k : Nat) (x : Ins), L[k]? = some x → InsOk N W m (s + k) x
theorem LocOk.append {N W m s : Nat} {L M : List Ins} (h : LocOk N W m s L) (h' : LocOk N W m (s + L.length) M) : LocOk N W m s (L ++ M) := by
  intro k x hx
  by_cases hk : k < L.length
  · exact h k x (by rwa [List.getElem?_append_left hk] at hx)
  · rw [List.getElem?_append_right (by omega)] at hx
    have := h' (k - L.length) x hx
    rwa [show s + L.length + (k - L.length) = s + k by omega] at this
theorem LocOk.plain {N W m s : Nat} {L : List Ins} (h : ∀ x ∈ L, 1 ≤ x.op ∧ x.op ≤ 10 ∧ 0 ≤ x.arg ∧ x.arg < (W : Int) ∧ (7 ≤ x.op → (m : Int) ≤ x.arg)) : LocOk N W m s L := by
  intro k x hx
  have h1 := h x (List.mem_of_getElem? hx)
  exact ⟨by omega, fun h2 => by omega, fun _ => ⟨h1.2.2.1, h1.2.2.2.1⟩, fun h2 _ => h1.2.2.2.2 h2⟩
theorem eventI_ok {N W m : Nat} {i moved alarm : Nat} {es : List (Nat × Nat)} {s : Nat} (hN : s + (6 + 5 * es.length) ≤ N) (hi : i < W) (hm : moved < W) (hm2 : m ≤ moved) (ha : alarm < W) (ha2 : m ≤ alarm) (he : ∀ e ∈ es, e.1 < W ∧ m ≤ e.1 ∧ e.2 < W ∧ m ≤ e.2) : LocOk N W m s (eventI i moved alarm es s) := by
  unfold eventI
  refine LocOk.append ?_ (LocOk.plain ?_)
  · intro k x hx
    match k, hx with
    | 0, hx => cases hx; exact ⟨by dsimp only; omega, fun h => by simp at h, fun _ => by dsimp only; omega, fun h => by simp at h⟩
    | 1, hx => cases hx; exact ⟨by dsimp only; omega, fun _ => ⟨by show ((s + 1 : Nat) : Int) < ((s + 6 + 5 * es.length : Nat) : Int); omega, by show ((s + 6 + 5 * es.length : Nat) : Int) ≤ (N : Int); omega⟩, fun h => by simp at h, fun _ h => by simp at h⟩
    | 2, hx => cases hx; exact ⟨by dsimp only; omega, fun h => by simp at h, fun _ => by dsimp only; omega, fun h => by simp at h⟩
    | 3, hx => cases hx; exact ⟨by dsimp only; omega, fun h => by simp at h, fun _ => by dsimp only; omega, fun _ _ => by dsimp only; omega⟩
    | k + 4, hx => cases hx
  · intro x hx
    rcases List.mem_append.1 hx with h | h
    · obtain ⟨e, hee, h⟩ := List.mem_flatMap.1 h
      have := he e hee
      simp [edgeI] at h
      rcases h with rfl | rfl | rfl | rfl | rfl <;> dsimp only <;> omega
    · simp at h
      rcases h with rfl | rfl <;> dsimp only <;> omega
theorem eventsI_ok {N W m : Nat} {moved alarm : Nat} (hm : moved < W) (hm2 : m ≤ moved) (ha : alarm < W) (ha2 : m ≤ alarm) : ∀ (l : List (Nat × List (Nat × Nat))) {s : Nat}, s + (eventsI moved alarm l s).length ≤ N → (∀ x ∈ l, x.1 < W ∧ ∀ e ∈ x.2, e.1 < W ∧ m ≤ e.1 ∧ e.2 < W ∧ m ≤ e.2) → LocOk N W m s (eventsI moved alarm l s)
  | [], s, _, _ => fun k x hx => by cases hx
  | (i, es) :: l, s, hN, h => by
    rw [eventsI] at hN ⊢
    rw [List.length_append, eventI_len] at hN
    have hx := h (i, es) (List.mem_cons_self ..)
    refine (eventI_ok (es := es) (by omega) hx.1 hm hm2 ha ha2 hx.2).append ?_
    rw [eventI_len]
    exact eventsI_ok hm hm2 ha ha2 l (by omega) (fun y hy => h y (List.mem_cons_of_mem _ hy))
theorem commandsI_ok {N W m s : Nat} {l : List (Nat × List Nat)} (h : ∀ x ∈ l, x.1 < W ∧ m ≤ x.1 ∧ ∀ y ∈ x.2, y < W) : LocOk N W m s (commandsI l) := by
  refine LocOk.plain fun x hx => ?_
  obtain ⟨c, hc, h1⟩ := List.mem_flatMap.1 hx
  obtain ⟨o, ms⟩ := c
  have h2 := h _ hc
  dsimp only at h2
  cases ms with
  | nil =>
    simp [commandI] at h1
    rcases h1 with rfl | rfl | rfl <;> dsimp only <;> omega
  | cons y ms =>
    simp [commandI] at h1
    have hy := h2.2.2 y (List.mem_cons_self ..)
    rcases h1 with rfl | ⟨k, hk, rfl⟩ | rfl
    · dsimp only; omega
    · have := h2.2.2 k (List.mem_cons_of_mem _ hk)
      dsimp only; omega
    · dsimp only; omega
/-- The generated list is right. -/
theorem genP_ok {a : Aut} {ctrl : List Int} {n : Nat} (hn : a.n = n) (hes : ∀ x ∈ a.es, 0 ≤ x.f ∧ x.f < (n : Int) ∧ 0 ≤ x.t ∧ x.t < (n : Int)) :
    ∀ (i : Nat) (x : Ins), (genP a ctrl)[i]? = some x → InsOk (genP a ctrl).length (a.al.length + (ctrl.length + 1) + (n + 1)) a.al.length i x := by
  have h1 := eventsI_ok (N := (genP a ctrl).length) (W := a.al.length + (ctrl.length + 1) + (n + 1)) (m := a.al.length) (moved := a.al.length + (ctrl.length + 1) + n) (alarm := a.al.length + ctrl.length) (by omega) (by omega) (by omega) (by omega)
    ((evsOf a).map fun x => (x.1, x.2.map fun e => (a.al.length + (ctrl.length + 1) + e.1, a.al.length + (ctrl.length + 1) + e.2))) (s := 0) (by
      unfold genP genI
      rw [hn, Int.toNat_natCast, List.length_append]
      omega) (fun x hx => by
      obtain ⟨y, hy, rfl⟩ := List.mem_map.1 hx
      obtain ⟨k, hk, rfl⟩ := List.mem_map.1 hy
      refine ⟨by have := List.mem_range.1 hk; dsimp only; omega, fun e he => ?_⟩
      obtain ⟨z, hz, rfl⟩ := List.mem_map.1 he
      obtain ⟨q, hq, rfl⟩ := List.mem_map.1 hz
      have := hes q (List.mem_filter.1 hq).1
      dsimp only
      omega)
  have h2 := commandsI_ok (N := (genP a ctrl).length) (W := a.al.length + (ctrl.length + 1) + (n + 1)) (m := a.al.length)
    (s := 0 + (eventsI (a.al.length + (ctrl.length + 1) + n) (a.al.length + ctrl.length) ((evsOf a).map fun x => (x.1, x.2.map fun e => (a.al.length + (ctrl.length + 1) + e.1, a.al.length + (ctrl.length + 1) + e.2))) 0).length)
    (l := (cmsOf a ctrl).map fun x => (a.al.length + x.1, x.2.map fun y => a.al.length + (ctrl.length + 1) + y)) (fun x hx => by
      obtain ⟨y, hy, rfl⟩ := List.mem_map.1 hx
      obtain ⟨k, hk, rfl⟩ := List.mem_map.1 hy
      have := List.mem_range.1 hk
      refine ⟨by dsimp only; omega, by dsimp only; omega, fun z hz => ?_⟩
      obtain ⟨q, hq, rfl⟩ := List.mem_map.1 hz
      obtain ⟨r, hr, rfl⟩ := List.mem_map.1 hq
      have := hes r (List.mem_filter.1 hr).1
      omega)
  have h3 := h1.append h2
  intro i x hx
  have h4 : genP a ctrl = eventsI (a.al.length + (ctrl.length + 1) + n) (a.al.length + ctrl.length) ((evsOf a).map fun x => (x.1, x.2.map fun e => (a.al.length + (ctrl.length + 1) + e.1, a.al.length + (ctrl.length + 1) + e.2))) 0 ++ commandsI ((cmsOf a ctrl).map fun x => (a.al.length + x.1, x.2.map fun y => a.al.length + (ctrl.length + 1) + y)) := by
    unfold genP genI
    rw [hn, Int.toNat_natCast]
  rw [h4] at hx
  have := h3 i x hx
  rwa [Nat.zero_add] at this
end Go.Proofs.Ytkkemchihllklaa

namespace Go.Proofs.Ytkkemchihllklaa

theorem countP_or {α : Type} (p q : α → Bool) : ∀ (l : List α), (∀ x ∈ l, p x = true → q x = false) → l.countP (fun x => p x || q x) = l.countP p + l.countP q
  | [], _ => rfl
  | x :: l, h => by
    have ih := countP_or p q l (fun y hy => h y (List.mem_cons_of_mem _ hy))
    have hx := h x (List.mem_cons_self ..)
    rw [List.countP_cons, List.countP_cons, List.countP_cons, ih]
    cases hp : p x with
    | true => rw [hx hp]; simp; omega
    | false => cases hq : q x <;> simp; omega
/-- The edges of some events are no more than all. -/
theorem evs_sum {es : List Ed} {al : List Int} (hn : al.Nodup) : ∀ k, k ≤ al.length → ((List.range k).map fun i => (es.filter fun x => x.e == al.getD i 0).length).sum = es.countP fun x => (al.take k).contains x.e
  | 0, _ => by simp
  | k + 1, hk => by
    have ih := evs_sum (es := es) hn k (by omega)
    rw [List.range_succ, List.map_append, List.sum_append, ih]
    simp only [List.map_cons, List.map_nil, List.sum_cons, List.sum_nil, Nat.add_zero]
    rw [← List.countP_eq_length_filter, ← countP_or]
    · apply List.countP_congr
      intro x _
      have ht : al.take (k + 1) = al.take k ++ [al[k]] := List.take_succ_eq_append_getElem (by omega)
      have hg : al.getD k 0 = al[k] := by rw [List.getD_eq_getElem?_getD, List.getElem?_eq_getElem (by omega)]; rfl
      show ((al.take k).contains x.e || x.e == al.getD k 0) = true ↔ (al.take (k + 1)).contains x.e = true
      rw [ht, hg, Bool.or_eq_true, List.contains_iff_mem, List.contains_iff_mem, List.mem_append, List.mem_singleton, beq_iff_eq]
    · intro x _ hp
      have hm : x.e ∈ al.take k := by simpa using hp
      have hg : al.getD k 0 = al[k] := by rw [List.getD_eq_getElem?_getD, List.getElem?_eq_getElem (by omega)]; rfl
      rw [hg, beq_eq_false_iff_ne]
      intro e
      rw [e] at hm
      obtain ⟨j, hj, hje⟩ := List.mem_iff_getElem.1 hm
      rw [List.length_take] at hj
      rw [List.getElem_take] at hje
      exact (List.pairwise_iff_getElem.1 hn j k (by omega) (by omega) (by omega)) hje
theorem eventsI_len (moved alarm : Nat) : ∀ (l : List (Nat × List (Nat × Nat))) (s : Nat), (eventsI moved alarm l s).length = 6 * l.length + 5 * (l.map fun x => x.2.length).sum
  | [], _ => rfl
  | (i, es) :: l, s => by
    rw [eventsI, List.length_append, eventI_len, eventsI_len moved alarm l, List.map_cons, List.sum_cons, List.length_cons]
    dsimp only
    omega
theorem commandsI_len : ∀ (l : List (Nat × List Nat)), (commandsI l).length ≤ 3 * l.length + (l.map fun x => x.2.length).sum
  | [] => Nat.le_refl _
  | c :: l => by
    have hs : commandsI (c :: l) = commandI c.1 c.2 ++ commandsI l := by simp [commandsI]
    have ih := commandsI_len l
    have hc : (commandI c.1 c.2).length ≤ 3 + c.2.length := by
      cases c.2 with
      | nil => simp [commandI]
      | cons m ms => simp [commandI]; omega
    rw [hs, List.length_append, List.map_cons, List.sum_cons, List.length_cons]
    omega
/-- The generated list is short. -/
theorem genP_len {a : Aut} {ctrl : List Int} (ha : Inc a.al) (hc : Inc ctrl) : (genP a ctrl).length ≤ 6 * a.al.length + 3 * ctrl.length + 6 * a.es.length := by
  have hna : a.al.Nodup := List.Pairwise.imp (fun {x y} (h : x < y) => by omega) ha
  have hnc : ctrl.Nodup := List.Pairwise.imp (fun {x y} (h : x < y) => by omega) hc
  have h1 := evs_sum (es := a.es) hna a.al.length (Nat.le_refl _)
  have h2 := evs_sum (es := a.es) hnc ctrl.length (Nat.le_refl _)
  have h3 := List.countP_le_length (p := fun x : Ed => (a.al.take a.al.length).contains x.e) (l := a.es)
  have h4 := List.countP_le_length (p := fun x : Ed => (ctrl.take ctrl.length).contains x.e) (l := a.es)
  unfold genP genI
  rw [List.length_append, eventsI_len]
  have h5 := commandsI_len ((cmsOf a ctrl).map fun x => (a.al.length + x.1, x.2.map fun y => a.al.length + (ctrl.length + 1) + y))
  have e1 : (((evsOf a).map fun x => (x.1, x.2.map fun e => (a.al.length + (ctrl.length + 1) + e.1, a.al.length + (ctrl.length + 1) + e.2))).map fun x => x.2.length).sum = ((List.range a.al.length).map fun i => (a.es.filter fun x => x.e == a.al.getD i 0).length).sum := by
    unfold evsOf
    rw [List.map_map, List.map_map]
    congr 1
    apply List.map_congr_left
    intro i _
    simp
  have e2 : (((cmsOf a ctrl).map fun x => (a.al.length + x.1, x.2.map fun y => a.al.length + (ctrl.length + 1) + y)).map fun x => x.2.length).sum = ((List.range ctrl.length).map fun i => (a.es.filter fun x => x.e == ctrl.getD i 0).length).sum := by
    unfold cmsOf
    rw [List.map_map, List.map_map]
    congr 1
    apply List.map_congr_left
    intro i _
    simp
  rw [e1]
  rw [e2] at h5
  have l1 : (evsOf a).length = a.al.length := by simp [evsOf]
  have l2 : (cmsOf a ctrl).length = ctrl.length := by simp [cmsOf]
  rw [List.length_map, l1]
  rw [List.length_map, l2] at h5
  omega
/-- The bits before a scan. -/
theorem view_of {m c n : Nat} {inp out mem : List Bool} {s : Nat} {al : Bool} (hi : inp.length = m) (ho : out.length = c + 1) (hm : mem.length = n + 1) (hs : ∀ j, j < n → mem.getD j false = decide (j = s)) (ha : out.getD c false = al) : View m c n inp s al (inp ++ out ++ mem) := by
  refine ⟨by simp; omega, fun j hj => ?_, fun j hj => ?_, ?_⟩
  · rw [List.getD_eq_getElem?_getD, List.append_assoc, List.getElem?_append_left (by omega), ← List.getD_eq_getElem?_getD]
  · rw [← hs j hj, List.getD_eq_getElem?_getD, List.getElem?_append_right (by simp; omega), List.getD_eq_getElem?_getD]
    congr 2
    simp; omega
  · rw [← ha, List.getD_eq_getElem?_getD, List.append_assoc, List.getElem?_append_right (by omega), List.getElem?_append_left (by omega), List.getD_eq_getElem?_getD]
    congr 2
    omega
/-- The state behind a scan. -/
theorem View.mem {m c n : Nat} {inp : List Bool} {s : Nat} {al : Bool} {b : List Bool} (h : View m c n inp s al b) : (b.drop (m + (c + 1))).length = n + 1 ∧ (∀ j, j < n → (b.drop (m + (c + 1))).getD j false = decide (j = s)) := by
  have hl := h.len
  refine ⟨by simp; omega, fun j hj => ?_⟩
  rw [← h.one j hj, List.getD_eq_getElem?_getD, List.getElem?_drop, ← List.getD_eq_getElem?_getD]
theorem View.out {m c n : Nat} {inp : List Bool} {s : Nat} {al : Bool} {b : List Bool} (h : View m c n inp s al b) : ((b.drop m).take (c + 1)).length = c + 1 ∧ ((b.drop m).take (c + 1)).getD c false = al ∧ ∀ j, j < c + 1 → ((b.drop m).take (c + 1)).getD j false = b.getD (m + j) false := by
  have hl := h.len
  have hg : ∀ j, j < c + 1 → ((b.drop m).take (c + 1)).getD j false = b.getD (m + j) false := fun j hj => by
    rw [List.getD_eq_getElem?_getD, List.getElem?_take, if_pos hj, List.getElem?_drop, ← List.getD_eq_getElem?_getD]
  exact ⟨by simp; omega, by rw [hg c (by omega)]; exact h.al, hg⟩
end Go.Proofs.Ytkkemchihllklaa

namespace Go.Proofs.Ytkkemchihllklaa

/-- Both sets are gone through in order; what is in the first alone is kept. -/
def minusL : Nat → List Int → List Int → List Int → List Int
  | 0, _, _, out => out
  | _ + 1, [], [], out => out
  | f + 1, [], _ :: vs, out => minusL f [] vs out
  | f + 1, a :: us, [], out => minusL f us [] (out ++ [a])
  | f + 1, a :: us, b :: vs, out => if a < b then minusL f us (b :: vs) (out ++ [a]) else if b < a then minusL f (a :: us) vs out else minusL f us vs out
theorem minusL_says : ∀ (f : Nat) (us vs out : List Int), Inc us → Inc vs → us.length + vs.length ≤ f → minusL f us vs out = out ++ us.filter fun x => !hasB vs x
  | 0, us, vs, out, _, _, h => by
    have ha : us = [] := List.eq_nil_of_length_eq_zero (by omega)
    rw [ha, minusL]; simp
  | f + 1, [], [], out, _, _, _ => by rw [minusL]; simp
  | f + 1, [], b :: vs, out, ha, hb, h => by
    rw [minusL, minusL_says f [] vs out ha (List.pairwise_cons.1 hb).2 (by simp at h ⊢; omega)]
    simp
  | f + 1, a :: us, [], out, ha, hb, h => by
    rw [minusL, minusL_says f us [] _ (List.pairwise_cons.1 ha).2 hb (by simp at h ⊢; omega), List.filter_cons_of_pos (by simp [hasB]), List.append_assoc]
    rfl
  | f + 1, a :: us, b :: vs, out, ha, hb, h => by
    obtain ⟨ha1, ha2⟩ := List.pairwise_cons.1 ha
    obtain ⟨hb1, hb2⟩ := List.pairwise_cons.1 hb
    rw [List.length_cons, List.length_cons] at h
    rw [minusL]
    by_cases h1 : a < b
    · have hn : hasB (b :: vs) a = false := by
        rw [hasB_false]
        intro hm
        rcases List.mem_cons.1 hm with h2 | h2
        · omega
        · have := hb1 a h2; omega
      rw [if_pos h1, minusL_says f us (b :: vs) _ ha2 hb (by rw [List.length_cons]; omega), List.filter_cons_of_pos (by rw [hn]; rfl), List.append_assoc]
      rfl
    · rw [if_neg h1]
      by_cases h2 : b < a
      · rw [if_pos h2, minusL_says f (a :: us) vs out ha hb2 (by rw [List.length_cons]; omega)]
        congr 1
        apply List.filter_congr
        intro x hx
        have hx2 : a ≤ x := by
          rcases List.mem_cons.1 hx with h3 | h3
          · omega
          · have := ha1 x h3; omega
        congr 1
        rw [Bool.eq_iff_iff, hasB_true, hasB_true, List.mem_cons]
        exact ⟨.inr, fun h3 => h3.elim (fun h4 => by omega) id⟩
      · have hab : a = b := by omega
        subst hab
        rw [if_neg h2, minusL_says f us vs out ha2 hb2 (by omega), List.filter_cons_of_neg (by rw [hasB_true.2 (List.mem_cons_self ..)]; simp)]
        congr 1
        apply List.filter_congr
        intro x hx
        have hx2 := ha1 x hx
        congr 1
        rw [Bool.eq_iff_iff, hasB_true, hasB_true, List.mem_cons]
        exact ⟨.inr, fun h3 => h3.elim (fun h4 => by omega) id⟩
/-- Whether one set is part of another. -/
def subB (us vs : List Int) : Bool := us.all (hasB vs)
theorem minus_nil {us vs : List Int} (ha : Inc us) (hb : Inc vs) : (minusL (us.length + vs.length) us vs [] = []) ↔ subB us vs = true := by
  rw [minusL_says _ us vs [] ha hb (Nat.le_refl _), List.nil_append, List.filter_eq_nil_iff, subB, List.all_eq_true]
  exact ⟨fun h x hx => by simpa using h x hx, fun h x hx => by rw [h x hx]; simp⟩
end Go.Proofs.Ytkkemchihllklaa

namespace Go.Proofs.Ytkkemchihllklaa

/-- The edges of state i of a ring of n states with k loops. -/
def ringRow (n k i : Nat) : List Ed := ⟨i, 0, ((i + 1) % n : Nat)⟩ :: (List.range k).map fun e : Nat => ⟨i, (e : Int) + 1, i⟩
def ringEs (n k m : Nat) : List Ed := (List.range m).flatMap (ringRow n k)
def ringA (n k : Nat) : Aut := ⟨allL (k + 1), n, [0], ringEs n k n⟩
theorem ringEs_succ (n k m : Nat) : ringEs n k (m + 1) = ringEs n k m ++ ringRow n k m := by simp [ringEs, List.range_succ]
theorem ringRow_mem {n k i : Nat} {x : Ed} (h : x ∈ ringRow n k i) : x.f = i ∧ 0 ≤ x.e ∧ x.e ≤ k ∧ ((x.e = 0 ∧ x.t = ((i + 1) % n : Nat)) ∨ (1 ≤ x.e ∧ x.t = i)) := by
  rcases List.mem_cons.1 h with rfl | h
  · exact ⟨rfl, Int.le_refl _, by show (0 : Int) ≤ k; omega, .inl ⟨rfl, rfl⟩⟩
  · obtain ⟨e, he, rfl⟩ := List.mem_map.1 h
    have := List.mem_range.1 he
    exact ⟨rfl, by dsimp only; omega, by dsimp only; omega, .inr ⟨by dsimp only; omega, rfl⟩⟩
theorem ringRow_sorted (n k i : Nat) : Sorted (ringRow n k i) := by
  refine List.pairwise_cons.2 ⟨fun x hx => ?_, ?_⟩
  · obtain ⟨e, _, rfl⟩ := List.mem_map.1 hx
    exact .inr ⟨rfl, by dsimp only; omega⟩
  · rw [List.pairwise_map]
    exact List.Pairwise.imp (fun {a b} (h : a < b) => .inr ⟨rfl, by dsimp only; omega⟩) List.pairwise_lt_range
theorem ringEs_mem {n k m : Nat} {x : Ed} (h : x ∈ ringEs n k m) : ∃ i, i < m ∧ x ∈ ringRow n k i := by
  obtain ⟨i, hi, hx⟩ := List.mem_flatMap.1 h
  exact ⟨i, List.mem_range.1 hi, hx⟩
theorem ringEs_sorted (n k : Nat) : ∀ m, Sorted (ringEs n k m)
  | 0 => List.Pairwise.nil
  | m + 1 => by
    rw [ringEs_succ]
    unfold Sorted
    rw [List.pairwise_append]
    refine ⟨ringEs_sorted n k m, ringRow_sorted n k m, fun x hx y hy => ?_⟩
    obtain ⟨i, hi, hx2⟩ := ringEs_mem hx
    have h1 := (ringRow_mem hx2).1
    have h2 := (ringRow_mem hy).1
    left; omega
theorem ringEs_len (n k : Nat) : ∀ m, (ringEs n k m).length = m * (k + 1)
  | 0 => by simp [ringEs]
  | m + 1 => by
    rw [ringEs_succ, List.length_append, ringEs_len n k m, Nat.succ_mul]
    simp [ringRow]
theorem ring_es {n k : Nat} (hn : 0 < n) : ∀ x ∈ (ringA n k).es, 0 ≤ x.f ∧ x.f < (n : Int) ∧ 0 ≤ x.t ∧ x.t < (n : Int) := by
  intro x hx
  obtain ⟨i, hi, hx2⟩ := ringEs_mem hx
  have h := ringRow_mem hx2
  have := Nat.mod_lt (i + 1) hn
  omega
theorem ring_al {n k : Nat} : ∀ x ∈ (ringA n k).es, hasB (ringA n k).al x.e = true := by
  intro x hx
  obtain ⟨i, hi, hx2⟩ := ringEs_mem hx
  have h := ringRow_mem hx2
  exact allL_mem h.2.1 (by omega)
theorem ring_err {n k : Nat} (hn : 0 < n) (hn2 : n ≤ 4096) (hk : k ≤ 31) : (ringA n k).err = 0 := by
  unfold Aut.err
  have h1 : setErr 32 none (ringA n k).al = 0 := setErr_ok (by show (allL (k + 1)).Pairwise (· < ·); rw [allL_eq]; exact range_pairwise _ _) (fun x hx => by
    have hx : x ∈ allL (k + 1) := hx
    rw [allL_eq] at hx
    have := range_in _ _ x hx
    omega) (fun q hq => by cases hq)
  have h2 : setErr (ringA n k).n none (ringA n k).ms = 0 := setErr_ok (List.pairwise_singleton _ _) (fun x hx => by
    rw [List.mem_singleton.1 hx]
    show (0 : Int) ≤ 0 ∧ (0 : Int) < (n : Int)
    omega) (fun q hq => by cases hq)
  rw [h1, if_neg (by decide), if_neg (by show ¬ ((n : Nat) : Int) < 0; omega), if_neg (by show ¬ (4096 : Int) < ((n : Nat) : Int); omega), h2, if_neg (by decide)]
  exact edErr_ok (ringEs_sorted n k n) (fun x hx => ⟨(ring_es hn x hx).1, (ring_es hn x hx).2.1, (ring_es hn x hx).2.2.1, (ring_es hn x hx).2.2.2, ring_al x hx⟩) (fun q hq => by cases hq)
theorem find_append_none {α : Type} {p : α → Bool} {l m : List α} (h : ∀ x ∈ l, p x = false) : (l ++ m).find? p = m.find? p := by
  rw [List.find?_append, List.find?_eq_none.2 (fun x hx => by rw [h x hx]; simp)]; rfl
/-- The event 0 leads to the next state. -/
theorem ring_step {n k : Nat} : ∀ (m s : Nat), s < m → stepF (ringEs n k m) s 0 = some ((s + 1) % n)
  | 0, s, h => absurd h (Nat.not_lt_zero _)
  | m + 1, s, h => by
    unfold stepF
    rw [ringEs_succ]
    by_cases e : s = m
    · subst e
      rw [find_append_none (fun x hx => by
        obtain ⟨i, hi, hx2⟩ := ringEs_mem hx
        have h1 := (ringRow_mem hx2).1
        have : (x.f == (s : Int)) = false := by rw [beq_eq_false_iff_ne]; omega
        rw [this]; rfl)]
      unfold ringRow
      rw [List.find?_cons_of_pos (by simp)]
      rfl
    · have ih := ring_step (n := n) (k := k) m s (by omega)
      unfold stepF at ih
      rw [List.find?_append]
      cases hf : (ringEs n k m).find? (fun x => x.f == (s : Int) && x.e == 0) with
      | none => rw [hf] at ih; cases ih
      | some x => rw [hf] at ih; exact ih
end Go.Proofs.Ytkkemchihllklaa

namespace Go.Proofs.Ytkkemchihllklaa

/-- The state to which the possible part of a word leads, and its length. -/
def runDone (es : List Ed) : Nat → List Int → Nat × Nat
  | s, [] => (s, 0)
  | s, e :: w => match stepF es s e with
    | some t => ((runDone es t w).1, (runDone es t w).2 + 1)
    | none => (s, 0)
theorem fol_alarm {es : List Ed} : ∀ (w : List Int) (s : Nat), (w.foldl (folStep es) (s, true)).2 = true
  | [], _ => rfl
  | e :: w, s => by
    rw [List.foldl_cons]
    unfold folStep
    cases stepF es s e <;> exact fol_alarm w _
theorem words_alarm {es : List Ed} : ∀ (w : List Int) (s i : Nat), i < w.length → ((w.take (i + 1)).foldl (folStep es) (s, false)).2 = decide ((runDone es s w).2 ≤ i)
  | [], _, _, h => absurd h (Nat.not_lt_zero _)
  | e :: w, s, i, h => by
    rw [List.take_succ_cons, List.foldl_cons, runDone]
    cases hs : stepF es s e with
    | none =>
      have h1 : folStep es (s, false) e = (s, true) := by unfold folStep; rw [show (s, false).1 = s from rfl, hs]
      rw [h1, fol_alarm]
      simp
    | some t =>
      have h1 : folStep es (s, false) e = (t, false) := by unfold folStep; rw [show (s, false).1 = s from rfl, hs]
      rw [h1]
      cases i with
      | zero => simp
      | succ i =>
        rw [words_alarm w t i (by simpa using h)]
        simp
theorem words_state {es : List Ed} : ∀ (w : List Int) (s : Nat), (w.take (runDone es s w).2).foldl (folStep es) (s, false) = ((runDone es s w).1, false)
  | [], _ => rfl
  | e :: w, s => by
    rw [runDone]
    cases hs : stepF es s e with
    | none => rfl
    | some t =>
      have h1 : folStep es (s, false) e = (t, false) := by unfold folStep; rw [show (s, false).1 = s from rfl, hs]
      dsimp only
      rw [List.take_succ_cons, List.foldl_cons, h1]
      exact words_state w t
theorem runDone_le {es : List Ed} : ∀ (w : List Int) (s : Nat), (runDone es s w).2 ≤ w.length
  | [], _ => Nat.le_refl _
  | e :: w, s => by
    rw [runDone]
    cases stepF es s e with
    | none => exact Nat.zero_le _
    | some t =>
      have := runDone_le (es := es) w t
      dsimp only
      rw [List.length_cons]
      omega
end Go.Proofs.Ytkkemchihllklaa
