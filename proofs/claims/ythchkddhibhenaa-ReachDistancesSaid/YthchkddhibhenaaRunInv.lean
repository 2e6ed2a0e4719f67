/- What holds of the memory while the reference's Path searches. -/
import Derived.Test.YthchkddhibhenaaPathR
import Derived.Test.YthchkddhibhenaaRegInv
namespace Go.Proofs.Ythchkddhibhenaa
open Go.RowKit

/-- Runs in memory: the word's value, the word, the state. -/
abbrev MRuns := List (Value × List Int × Int)
def runCells (M : MRuns) : List Value := M.flatMap fun m => [m.1, .int .i64 m.2.2]
theorem runCells_length : ∀ M : MRuns, (runCells M).length = M.length * 2
  | [] => rfl
  | m :: M => by
    have := runCells_length M
    simp only [runCells, List.flatMap_cons, List.length_append, List.length_cons, List.length_nil] at this ⊢
    omega
theorem runCells_at : ∀ (M : MRuns) (i : Nat) (h : i < M.length), (runCells M)[i * 2]? = some M[i].1 ∧ (runCells M)[i * 2 + 1]? = some (.int .i64 M[i].2.2)
  | m :: M, 0, _ => ⟨rfl, rfl⟩
  | m :: M, i + 1, h => by
    obtain ⟨h1, h2⟩ := runCells_at M i (by simpa using h)
    have e : (i + 1) * 2 = i * 2 + 2 := by omega
    rw [e]
    exact ⟨h1, h2⟩
theorem runCells_snoc (M : MRuns) (v : Value) (u : List Int) (t : Int) : runCells (M ++ [(v, u, t)]) = runCells M ++ [v, .int .i64 t] := by
  simp [runCells, List.flatMap_append]
/-- The runs without their values. -/
def bare (M : MRuns) : Runs := M.map Prod.snd
theorem bare_snoc (M : MRuns) (v : Value) (u : List Int) (t : Int) : bare (M ++ [(v, u, t)]) = bare M ++ [(u, t)] := by simp [bare]

section
variable {w w' : World} {B : Nat} {tag : Nat → Nat} {k : Nat} {t : TypeId} {sz : Nat} {v : Value} {n : Nat} {cs : List Value}
/-- Tags may be named anew. -/
theorem Row.name (f : Nat → Nat) (h : Row w B tag k t sz v n cs) : Row w B (fun b => f (tag b)) (f k) t sz v n cs :=
  ⟨h.1, h.2.imp id fun ⟨b, off, cap, cur, h1, h2, h3⟩ => ⟨b, off, cap, cur, h1, ⟨h2.heap, by show f (tag b) = f k; rw [h2.htag], h2.base⟩, h3⟩⟩
theorem Box4.name (f : Nat → Nat) (hf : f 0 = 0) {b : Nat} {c0 c1 c2 c3 : Value} (h : Box4 w tag b c0 c1 c2 c3) : Box4 w (fun b => f (tag b)) b c0 c1 c2 c3 :=
  ⟨by show f (tag b) = 0; rw [h.htag, hf], h.lt, h.x0, h.x1, h.x2, h.x3⟩
/-- A callee's row, of a tag that is wanted. -/
theorem Row.of_row {B' : Nat} {tag' : Nat → Nat} {k' : Nat} (h : Row w B' tag' k' t sz v n cs) (hB : B ≤ B') (htag : ∀ b, B' ≤ b → tag b = k) : Row w B tag k t sz v n cs :=
  ⟨h.1, h.2.imp id fun ⟨b, off, cap, cur, h1, h2, h3⟩ => ⟨b, off, cap, cur, h1, ⟨h2.heap, htag b h2.base, Nat.le_trans hB h2.base⟩, h3⟩⟩
end

structure RInv (w : World) (c0 c1 c2 c3 : Value) (wr : World) (tag : Nat → Nat) (vL : Value) (ML : MRuns) (vS : Value) (S : List Int) (vN : Value) (MN : MRuns) : Prop where
  bel : Below w.heap.size w wr
  box : Box4 wr tag w.heap.size c0 c1 c2 c3
  lv : Row wr w.heap.size tag 3 92 2 vL ML.length (runCells ML)
  wl : ∀ m ∈ ML, Row wr w.heap.size tag 2 3 1 m.1 m.2.1.length (ints m.2.1)
  se : Row wr w.heap.size tag 4 3 1 vS S.length (ints S)
  nx : Row wr w.heap.size tag 1 92 2 vN MN.length (runCells MN)
  wn : ∀ m ∈ MN, Row wr w.heap.size tag 2 3 1 m.1 m.2.1.length (ints m.2.1)

section
variable {w : World} {c0 c1 c2 c3 : Value} {wr wr' : World} {tag tag' : Nat → Nat} {vL : Value} {ML : MRuns} {vS : Value} {S : List Int} {vN : Value} {MN : MRuns} {k : Nat}
/-- Other blocks turn. -/
theorem RInv.turn (h : RInv w c0 c1 c2 c3 wr tag vL ML vS S vN MN) (ht : Turn w.heap.size tag tag' k wr wr') (hk : 5 ≤ k) : RInv w c0 c1 c2 c3 wr' tag' vL ML vS S vN MN :=
  ⟨belTurn h.bel ht h.bel.size, h.box.turn ht (by omega), h.lv.turn ht (by omega), fun m hm => (h.wl m hm).turn ht (by omega), h.se.turn ht (by omega), h.nx.turn ht (by omega), fun m hm => (h.wn m hm).turn ht (by omega)⟩
/-- A state more is seen. -/
theorem RInv.see (h : RInv w c0 c1 c2 c3 wr tag vL ML vS S vN MN) (hb : Below wr.heap.size wr wr') {vS' : Value} {S' : List Int} {tg : Nat → Nat} {kk : Nat} (hr : Row wr' wr.heap.size tg kk 3 1 vS' S'.length (ints S')) :
    RInv w c0 c1 c2 c3 wr' (tagFrom tag wr.heap.size 4) vL ML vS' S' vN MN := by
  have ht : Turn w.heap.size tag (tagFrom tag wr.heap.size 4) 4 wr wr' := Turn.call hb
  exact ⟨belTurn h.bel ht h.bel.size, h.box.turn ht (by decide), h.lv.turn ht (by decide), fun m hm => (h.wl m hm).turn ht (by decide), hr.of_row h.bel.size (fun b hb => if_neg (by omega)), h.nx.turn ht (by decide), fun m hm => (h.wn m hm).turn ht (by decide)⟩
/-- A run more, behind a word that was made with the tag 6. -/
theorem RInv.push (h : RInv w c0 c1 c2 c3 wr tag vL ML vS S vN MN) {vw : Value} {u : List Int} {t : Int} (hw : Row wr w.heap.size tag 6 3 1 vw u.length (ints u)) {vN' : Value} (ht : Turn w.heap.size tag tag' 1 wr wr')
    (hr : Row wr' w.heap.size tag' 1 92 2 vN' (MN.length + 1) (runCells MN ++ [vw, .int .i64 t])) :
    RInv w c0 c1 c2 c3 wr' (fun b => (fun j => if j = 6 then 2 else j) (tag' b)) vL ML vS S vN' (MN ++ [(vw, u, t)]) := by
  have f2 : ∀ {v : Value} {n : Nat} {cs : List Value}, Row wr' w.heap.size tag' 2 3 1 v n cs → Row wr' w.heap.size (fun b => (fun j => if j = 6 then 2 else j) (tag' b)) 2 3 1 v n cs := fun h => h.name (fun j => if j = 6 then 2 else j)
  refine ⟨belTurn h.bel ht h.bel.size, (h.box.turn ht (by decide)).name (fun j => if j = 6 then 2 else j) rfl, (h.lv.turn ht (by decide)).name (fun j => if j = 6 then 2 else j), fun m hm => f2 ((h.wl m hm).turn ht (by decide)), (h.se.turn ht (by decide)).name (fun j => if j = 6 then 2 else j), ?_, fun m hm => ?_⟩
  · rw [List.length_append, List.length_singleton, runCells_snoc]
    exact hr.name (fun j => if j = 6 then 2 else j)
  · rcases List.mem_append.1 hm with hm | hm
    · exact f2 ((h.wn m hm).turn ht (by decide))
    · rw [List.mem_singleton.1 hm]
      exact (hw.turn ht (by decide)).name (fun j => if j = 6 then 2 else j)
/-- The next level. -/
theorem RInv.level (h : RInv w c0 c1 c2 c3 wr tag vL ML vS S vN MN) : RInv w c0 c1 c2 c3 wr (fun b => (fun j => if j = 1 then 3 else j) (tag b)) vN MN vS S (.slice none 0 0) [] :=
  ⟨h.bel, h.box.name (fun j => if j = 1 then 3 else j) rfl, h.nx.name (fun j => if j = 1 then 3 else j), fun m hm => (h.wn m hm).name (fun j => if j = 1 then 3 else j), h.se.name (fun j => if j = 1 then 3 else j), Row.nil _ _ _ _ _ _, fun m hm => by cases hm⟩
/-- A run of the level in memory. -/
theorem RInv.at_run (h : RInv w c0 c1 c2 c3 wr tag vL ML vS S vN MN) (i : Nat) (hi : i < ML.length) : ∃ b off cap, vL = .slice (some ⟨b, off, none⟩) ML.length cap ∧ b < wr.heap.size ∧ wr.cell? ⟨b, off + i * 2, none⟩ = some ML[i].1 ∧ wr.cell? ⟨b, off + i * 2 + 1, none⟩ = some (.int .i64 ML[i].2.2) ∧ Row wr w.heap.size tag 2 3 1 ML[i].1 ML[i].2.1.length (ints ML[i].2.1) := by
  obtain ⟨b, off, cap, e, hlt, _, _⟩ := h.lv.addr (by omega)
  have hl := h.lv
  rw [e] at hl
  obtain ⟨h1, h2⟩ := runCells_at ML i hi
  refine ⟨b, off, cap, e, hlt, ?_, ?_, h.wl _ (List.getElem_mem hi)⟩
  · rw [hl.cellAt (i * 2) (by omega), h1]
  · rw [Nat.add_assoc, hl.cellAt (i * 2 + 1) (by omega), h2]
end
end Go.Proofs.Ythchkddhibhenaa
