/- ScanDelays returns true for all arguments, and leaves its arguments as they were. The condition: three tables of Go's library (math/bits, internal/strconv) hold what their source text lays, and the card ties this to the text. -/
import Derived.Deep.Slices
import Derived.ChangeSame
import Derived.ProofKit
import Derived.Test.YtecmobjeeonmaaaGreatDoorRows
import Derived.Test.YtecmobjeeonmaaaGreatDoorTie
import Derived.Test.YtecmobjeeonmaaaGreatDoorCards
import Derived.Test.YtecmobjeeonmaaaGreatDoorProg
import Derived.Lay
import Derived.LaidMore
import Derived.LaidHandle
import Derived.SevenTiedAt
import Derived.Stop.Joined
import Derived.Test.YtecmobjeeonmaaaGreatDoorQd6
set_option maxRecDepth 100000
namespace Go.Proofs.YtecmobjeeonmaaaGreatDoor
open Go Go.RowKit
theorem ydV {q : ProbT} {n1 n : Nat} {A : AutT} {T : List (List Int)} {z : Int} (hP : Right q.1 n1) (hA : Right A n) (hu : q.2.2.length ≤ 32) (hT : ∀ t ∈ T, ∃ x y, t = [x, y]) {i : Nat} (hi : i < T.length) {o : List Int} (ho : o.length ≤ 1000000) :
  ∃ o', iter (y1V q (A, T, z) ((i : Int), o)) 0 = some o' ∧ (o' = o ∨ o' = o ++ [(i : Int)]) := by
 obtain ⟨x, y, hxy⟩ := hT _ (List.getElem_mem hi)
 obtain ⟨o', h1, h2⟩ := yc (f := y1V q (A, T, z) ((i : Int), o)) (fun j c => c = (j : Int) ∧ j ≤ q.2.2.length) (fun o' => o' = o ∨ o' = o ++ [(i : Int)]) q.2.2.length 0 (by omega) (fun j c hj ⟨e1, _⟩ => by
   subst e1
   have hj1 : ∀ b, (∃ s', y1l ((i : Int), o) (j : Int) b = some (.inl s') ∧ s' = ((j + 1 : Nat) : Int) ∧ j + 1 ≤ q.2.2.length) ∨ ∃ o', y1l ((i : Int), o) (j : Int) b = some (.inr o') ∧ (o' = o ∨ o' = o ++ [(i : Int)]) := fun b => by
    rw [y1l]
    cases b with
    | true =>
     right
     rw [if_pos rfl]
     dsimp only
     rw [yO (by simp; omega)]
     exact ⟨_, rfl, .inr rfl⟩
    | false =>
     left
     rw [if_neg (by simp), nxt (by omega)]
     exact ⟨_, rfl, rfl, hj⟩
   rw [y1V]
   dsimp only
   rw [if_pos (ct_lt hj), ya hj, yOb, ya hi, yOb, hxy, show idx [x, y] 0 = some x from rfl, yOb, y8J hP, yOb]
   split
   ·rw [y8J hA, yOb]
    exact hj1 _
   ·exact hj1 _) (fun c ⟨e1, _⟩ => by
   subst e1
   refine ⟨o, ?_, .inl rfl⟩
   rw [y1V]
   dsimp only
   rw [if_neg ct_ge]) (Nat.zero_le _) 0 ⟨rfl, Nat.zero_le _⟩
 exact ⟨o', h1, h2⟩
theorem ydW {q : ProbT} {n1 n : Nat} {A : AutT} {T : List (List Int)} {z : Int} (hP : Right q.1 n1) (hA : Right A n) (hu : q.2.2.length ≤ 32) (hT : ∀ t ∈ T, ∃ x y, t = [x, y]) (hl : T.length ≤ 4000) :
  ∃ o, iter (y1m q (A, T, z)) (0, []) = some o ∧ Inc o ∧ ∀ x ∈ o, 0 ≤ x ∧ x < (T.length : Int) := by
 obtain ⟨o, h1, h2, h3⟩ := yc (f := y1m q (A, T, z)) (fun i s => s.1 = (i : Int) ∧ i ≤ T.length ∧ Inc s.2 ∧ ∀ x ∈ s.2, 0 ≤ x ∧ x < (i : Int)) (fun o => Inc o ∧ ∀ x ∈ o, 0 ≤ x ∧ x < (T.length : Int)) T.length 0 (by omega) (fun i s hi ⟨e1, _, q1, q2⟩ => by
   obtain ⟨c, o⟩ := s
   dsimp only at e1 q1 q2
   subst e1
   have hol := y4c (n := i) (lo := 0) q1 q2 (Int.le_refl _)
   obtain ⟨o', w1, w2⟩ := ydV (z := z) hP hA hu hT hi (o := o) (by omega)
   left
   rw [y1m]
   dsimp only
   rw [if_pos (ct_lt hi), w1, yOb, nxt (by omega)]
   refine ⟨_, rfl, rfl, hi, ?_⟩
   dsimp only
   rcases w2 with rfl | rfl
   ·exact ⟨q1, fun x hx => by have := q2 x hx; omega⟩
   ·refine ⟨?_, fun x hx => ?_⟩
    ·unfold Inc at q1 ⊢
     rw [List.pairwise_append]
     exact ⟨q1, List.pairwise_singleton _ _, fun c hc b hb => by rw [List.mem_singleton.1 hb]; exact (q2 c hc).2⟩
    ·rcases List.mem_append.1 hx with hx | hx
     ·have := q2 x hx; omega
     ·rw [List.mem_singleton.1 hx]; omega) (fun s ⟨e1, _, q1, q2⟩ => by
   obtain ⟨c, o⟩ := s
   dsimp only at e1 q1 q2
   subst e1
   refine ⟨o, ?_, q1, q2⟩
   rw [y1m]
   dsimp only
   rw [if_neg ct_ge]) (Nat.zero_le _) (0, []) ⟨rfl, Nat.zero_le _, List.Pairwise.nil, fun x hx => by cases hx⟩
 exact ⟨o, h1, h2, h3⟩
theorem ydX {q : ProbT} {m1 m2 : Nat} (h : PbOk q m1 m2) (l1 : m1 ≤ 5) (l2 : m2 ≤ 5) : ∃ A T n o z k g r X, yk [q.1, q.2.1] = some (A, T, 0) ∧ iter (y1m q (A, T, 0)) (0, []) = some o ∧ y2c A o q.2.2 = some ((z, k, r, X), 0) ∧ LoopZ q.1 q.2.1 A T n ∧ n ≤ 25 ∧ SynOk A n g r X ∧ PbOk (q.1, r, q.2.2) m1 X.length := by
 obtain ⟨t, A, T, k1, k2, n, _, hk, hs⟩ := h.open
 have hL := hk.loop
 have hn : n ≤ 25 := Nat.le_trans (hL.few h.rP.nn h.rS.nn) (Nat.mul_le_mul l1 l2)
 have hul := Alp.len ⟨h.iu, h.ur⟩
 obtain ⟨o, o1, o2, o3⟩ := ydW (z := 0) h.rP hL.right hul (fun t ht => by
  obtain ⟨x, y, e, _⟩ := hL.tt t ht
  exact ⟨x, y, e⟩) (by rw [hL.tl]; exact hL.le)
 rw [hL.tl] at o3
 obtain ⟨z, k, g, r, X, s1, s2⟩ := yeb hL.right (by omega) o2 o3 h.iu h.ur
 refine ⟨A, T, n, o, z, k, g, r, X, hs, o1, s1, hL, hn, s2, h.rP, s2.can.right, h.l1, by have := s2.le; omega, fun x hx => ?_, h.iu, h.ur⟩
 dsimp only at hx
 rw [s2.can.ale, hL.ev] at hx
 exact hx.elim id (h.sub x)
theorem yc2 {d : Des26} (hd : Des26In d) (keep : Bool) : ∃ q n1 n2, y3q d keep = some q ∧ PbOk q n1 n2 ∧ n1 ≤ 5 ∧ n2 ≤ 25 ∧ ∀ x ∈ q.1.1, 0 ≤ x ∧ x < 5 := by
 obtain ⟨q, n1, n2, h1, h2, h3, h4, h5⟩ := ycy hd
 rw [y3q, h1, yOb]
 cases keep with
 | false =>
  rw [if_pos (show (!false) = true from rfl)]
  exact ⟨q, n1, n2, rfl, h2, h3, by omega, h5⟩
 | true =>
  obtain ⟨A, T, n, o, z, k, g, r, X, s1, s2, s3, s4, s5, s6, s7⟩ := ydX h2 h3 h4
  rw [if_neg (by simp), s1, yOb]
  dsimp only
  rw [s2, yOb, s3]
  exact ⟨_, n1, X.length, rfl, s7, h3, by have := s6.le; omega, h5⟩
structure WF (es : List Ed) (n most i : Nat) (A : List (List Int × Int)) : Prop where
 lead : ∀ r ∈ A, Leads es anyE 0 r.1 r.2
 st : ∀ r ∈ A, 0 ≤ r.2 ∧ r.2 < (n : Int)
 len : ∀ r ∈ A, r.1.length ≤ most
 so : A.Pairwise fun r r' => wval r.1 < wval r'.1
 root : (([] : List Int), (0 : Int)) ∈ A
 clo : ∀ (j : Nat) (r : List Int × Int), j < i → A[j]? = some r → ∀ x ∈ es, x.f = r.2 → (r.1 ++ [x.e], x.t) ∈ A
 bd : ∀ (j : Nat) (r : List Int × Int), i ≤ j → A[j]? = some r → ∀ q ∈ A, wval q.1 ≤ 33 * wval r.1
theorem WF.all {es : List Ed} {n most i : Nat} {A : List (List Int × Int)} (hE : EvEs es) (h : WF es n most i A) (hi : ∀ (j : Nat) (r : List Int × Int), i ≤ j → A[j]? = some r → most ≤ r.1.length) : AllW es most A := by
 refine ⟨h.lead, h.len, h.so, fun u => ?_⟩
 refine y8f (P := fun u => ∀ t, Leads es anyE 0 u t → u.length ≤ most → (u, t) ∈ A) (fun t ht _ => ?_) (fun v e ih t ht hl => ?_) u
 ·have ht : (0 : Int) = t := ht
  subst ht
  exact h.root
 ·obtain ⟨x, hx, hv, he, hxt, _⟩ := ht.of_snoc
  rw [List.length_append, List.length_singleton] at hl
  have hm := ih x.f hv (by omega)
  obtain ⟨j, hj, e2⟩ := List.getElem_of_mem hm
  have ej : A[j]? = some (v, x.f) := by rw [yGe hj, e2]
  by_cases hji : j < i
  ·have := h.clo j _ hji ej x hx rfl
   rw [he, hxt] at this
   exact this
  ·have := hi j _ (by omega) ej
   dsimp only at this
   omega
theorem ydk {p : AutT} {n : Nat} (hr : Right p n) {most : Nat} (hm : most ≤ 4096) {i s : Nat} (hs : s < n) {A : List (List Int × Int)} {w : List Int} (hA : WF (edsOf p) n most i A) (hi : A[i]? = some (w, (s : Int))) (hw : w.length < most) (hl : A.length ≤ 1024) {os : List (Int × Int × Int)} (hos : os = p.2.2.2.filter fun x => x.1 == (s : Int)) :
  ∃ A', iter (y2C ((i : Int), A) os) (0, A) = some A' ∧ WF (edsOf p) n most (i + 1) A' ∧ A.length ≤ A'.length := by
 have hl3 := hr.l3
 have hmem : ∀ x ∈ os, x ∈ p.2.2.2 ∧ x.1 = (s : Int) := fun x hx => by
  rw [hos] at hx
  have := List.mem_filter.1 hx
  exact ⟨this.1, by simpa using this.2⟩
 have hso : os.Pairwise fun x y => x.2.1 < y.2.1 := by
  have h := hr.so.filter (fun x => x.1 == (s : Int))
  rw [← hos] at h
  refine h.imp_of_mem fun {x y} hx hy hxy => ?_
  have := (hmem x hx).2
  have := (hmem y hy).2
  omega
 have hol : os.length ≤ 1000000 := by rw [hos]; exact Nat.le_trans (List.length_filter_le _ _) hl3
 have hil : i < A.length := (List.getElem?_eq_some_iff.1 hi).1
 have hev : ∀ x ∈ os, 0 ≤ x.2.1 ∧ x.2.1 < 32 := fun x hx => hr.alr _ (hr.es x (hmem x hx).1).2.2.2.2
 obtain ⟨A', h1, h2, h3, h4, h5, h6, h7, h8, h9⟩ := yc (f := y2C ((i : Int), A) os)
  (fun k z => z.1 = (k : Int) ∧ k ≤ os.length ∧ (∃ U, z.2 = A ++ U) ∧ z.2.length = A.length + k ∧ (∀ r ∈ z.2, Leads (edsOf p) anyE 0 r.1 r.2) ∧ (∀ r ∈ z.2, 0 ≤ r.2 ∧ r.2 < (n : Int)) ∧ (∀ r ∈ z.2, r.1.length ≤ most) ∧ (z.2.Pairwise fun r r' => wval r.1 < wval r'.1) ∧
   (∀ k' (h : k' < os.length), k ≤ k' → ∀ r ∈ z.2, wval r.1 < 33 * wval w + os[k'].2.1 + 1) ∧ (∀ k' (h : k' < os.length), k' < k → (w ++ [os[k'].2.1], os[k'].2.2) ∈ z.2) ∧ ∀ r ∈ z.2, wval r.1 ≤ 33 * wval w + 32)
  (fun o => (∃ U, o = A ++ U) ∧ (∀ r ∈ o, Leads (edsOf p) anyE 0 r.1 r.2) ∧ (∀ r ∈ o, 0 ≤ r.2 ∧ r.2 < (n : Int)) ∧ (∀ r ∈ o, r.1.length ≤ most) ∧ (o.Pairwise fun r r' => wval r.1 < wval r'.1) ∧
   (∀ k' (h : k' < os.length), (w ++ [os[k'].2.1], os[k'].2.2) ∈ o) ∧ (∀ r ∈ o, wval r.1 ≤ 33 * wval w + 32) ∧ A.length ≤ o.length)
  os.length 0 (by omega) (fun k z hk ⟨e1, _, ⟨U, hU⟩, q0, q1, q2, q3, q4, q5, q6, q7⟩ => by
   obtain ⟨c, B⟩ := z
   dsimp only at e1 hU q0 q1 q2 q3 q4 q5 q6 q7
   subst e1
   have hx := hmem _ (List.getElem_mem hk)
   have hxe := hr.es _ hx.1
   have hxv := hev _ (List.getElem_mem hk)
   have hiB : B[i]? = some (w, (s : Int)) := by rw [hU, List.getElem?_append_left hil]; exact hi
   obtain ⟨hib, eib⟩ := List.getElem?_eq_some_iff.1 hiB
   left
   rw [y2C]
   dsimp only
   rw [if_pos (ct_lt hk), ya hk, yOb, ya hib, yOb, eib]
   dsimp only
   rw [y8g (by omega), yOb, yO (by simp; omega), yOb, yO (by simp; omega), yOb, nxt (by omega)]
   have hw1 : (w, (s : Int)) ∈ B := List.mem_of_getElem? hiB
   have hled : Leads (edsOf p) anyE 0 (w ++ [os[k].2.1]) os[k].2.2 := by
    have := (q1 _ hw1).snoc (x := toEd os[k]) (List.mem_map_of_mem hx.1) hx.2 rfl
    exact this
   have hwv : wval (w ++ [os[k].2.1]) = 33 * wval w + os[k].2.1 + 1 := y5o _ _
   refine ⟨_, rfl, rfl, hk, ⟨U ++ [(w ++ [os[k].2.1], os[k].2.2)], by dsimp only; rw [hU, List.append_assoc]⟩, by simp; omega, fun r hr' => ?_, fun r hr' => ?_, fun r hr' => ?_, ?_, fun k' hk' hkk r hr' => ?_, fun k' hk' hkk => ?_, fun r hr' => ?_⟩
   ·rcases List.mem_append.1 hr' with hr' | hr'
    ·exact q1 r hr'
    ·rw [List.mem_singleton.1 hr']; exact hled
   ·rcases List.mem_append.1 hr' with hr' | hr'
    ·exact q2 r hr'
    ·rw [List.mem_singleton.1 hr']; exact ⟨hxe.2.2.1, hxe.2.2.2.1⟩
   ·rcases List.mem_append.1 hr' with hr' | hr'
    ·exact q3 r hr'
    ·rw [List.mem_singleton.1 hr']; simp; omega
   ·dsimp only
    rw [List.pairwise_append]
    refine ⟨q4, List.pairwise_singleton _ _, fun r hr' r' hr2 => ?_⟩
    rw [List.mem_singleton.1 hr2]
    dsimp only
    rw [hwv]
    exact q5 k hk (Nat.le_refl _) r hr'
   ·rcases List.mem_append.1 hr' with hr' | hr'
    ·exact q5 k' hk' (by omega) r hr'
    ·rw [List.mem_singleton.1 hr']
     dsimp only
     rw [hwv]
     have := List.pairwise_iff_getElem.1 hso k k' hk hk' (by omega)
     omega
   ·by_cases e : k' = k
    ·subst e
     exact List.mem_append_right _ (List.mem_singleton.2 rfl)
    ·exact List.mem_append_left _ (q6 k' hk' (by omega))
   ·rcases List.mem_append.1 hr' with hr' | hr'
    ·exact q7 r hr'
    ·rw [List.mem_singleton.1 hr']
     dsimp only
     rw [hwv]
     omega) (fun z ⟨e1, _, hU, q0, q1, q2, q3, q4, q5, q6, q7⟩ => by
   obtain ⟨c, B⟩ := z
   dsimp only at e1 hU q0 q1 q2 q3 q4 q5 q6 q7
   subst e1
   refine ⟨B, ?_, hU, q1, q2, q3, q4, fun k' hk' => q6 k' hk' hk', q7, by omega⟩
   rw [y2C]
   dsimp only
   rw [if_neg ct_ge]) (Nat.zero_le _) (0, A) ⟨rfl, Nat.zero_le _, ⟨[], (List.append_nil _).symm⟩, rfl, hA.lead, hA.st, hA.len, hA.so, fun k' hk' _ r hr' => by
    have := hA.bd i _ (Nat.le_refl _) hi r hr'
    have := hev _ (List.getElem_mem hk')
    dsimp only at *
    omega, fun k' hk' h => absurd h (Nat.not_lt_zero _), fun r hr' => by
    have := hA.bd i _ (Nat.le_refl _) hi r hr'
    dsimp only at *
    omega⟩
 obtain ⟨U, hU⟩ := h2
 have hiA : A'[i]? = some (w, (s : Int)) := by rw [hU, List.getElem?_append_left hil]; exact hi
 refine ⟨A', h1, ⟨h3, h4, h5, h6, by rw [hU]; exact List.mem_append_left _ hA.root, fun j r hji hj x hx hxr => ?_, fun j r hij hj q hq => ?_⟩, h9⟩
 ·by_cases e : j = i
  ·subst e
   rw [hiA] at hj
   cases hj
   obtain ⟨y, hy, rfl⟩ := List.mem_map.1 hx
   have hy2 : y ∈ os := by
    rw [hos]
    exact List.mem_filter.2 ⟨hy, by have h9 : y.1 = (s : Int) := hxr; simpa using h9⟩
   obtain ⟨k, hk, e⟩ := List.getElem_of_mem hy2
   have := h7 k hk
   rw [e] at this
   exact this
  ·rw [hU, List.getElem?_append_left (by omega)] at hj
   rw [hU]
   exact List.mem_append_left _ (hA.clo j r (by omega) hj x hx hxr)
 ·obtain ⟨hj1, hj2⟩ := List.getElem?_eq_some_iff.1 hj
  obtain ⟨hi1, hi2⟩ := List.getElem?_eq_some_iff.1 hiA
  have := List.pairwise_iff_getElem.1 h6 i j hi1 hj1 (by omega)
  rw [hi2, hj2] at this
  have := h8 q hq
  dsimp only at *
  omega
theorem ydl {p : AutT} {n : Nat} (hr : Right p n) (hn : 0 < n) {most : Nat} (hm : most ≤ 4096) : ∃ l g, y1j p (most : Int) false = some (l, g) ∧ ((∃ L, AllW (edsOf p) most L ∧ l = L.map Prod.fst ∧ g = 0 ∧ L.length ≤ 1024) ∨ (l = [] ∧ g = 3)) := by
 have hnl := hr.nl
 have hE : EvEs (edsOf p) := fun x hx => by
  obtain ⟨y, hy, rfl⟩ := List.mem_map.1 hx
  exact hr.alr _ (hr.es y hy).2.2.2.2
 obtain ⟨o, h1, h2⟩ := yc (f := y3w p (most : Int)) (fun i s => s.1 = (i : Int) ∧ i ≤ s.2.length ∧ s.2.length ≤ 1024 ∧ WF (edsOf p) n most i s.2) (fun o => match o with
  | .inl L => AllW (edsOf p) most L ∧ L.length ≤ 1024
  | .inr _ => True) 1025 0 (by omega) (fun i s hi ⟨e1, hle, hl, hA⟩ => by
   obtain ⟨c, A⟩ := s
   dsimp only at e1 hle hl hA
   subst e1
   by_cases hiA : i < A.length
   ·obtain ⟨s, hs⟩ : ∃ s : Nat, (A[i]).2 = (s : Int) := ⟨(A[i]).2.toNat, by have := hA.st _ (List.getElem_mem hiA); omega⟩
    have hsn := (hA.st _ (List.getElem_mem hiA)).2
    have hlen := hA.len _ (List.getElem_mem hiA)
    have hi2 : A[i]? = some ((A[i]).1, (s : Int)) := by rw [yGe hiA, ← hs]
    rw [y3w]
    dsimp only
    rw [if_pos (ct_lt hiA), ya hiA, yOb]
    by_cases hmo : (A[i]).1.length = most
    ·right
     rw [if_pos (by simp [hmo])]
     refine ⟨_, rfl, hA.all hE fun j r hij hj => ?_, hl⟩
     obtain ⟨hj1, hj2⟩ := List.getElem?_eq_some_iff.1 hj
     rw [← hmo]
     refine yb0 (Leads.evs hE (hA.lead _ (List.getElem_mem hiA))) (Leads.evs hE (hA.lead _ (List.mem_of_getElem? hj))) ?_
     by_cases e : i = j
     ·subst e
      rw [hj2]
      exact Int.le_refl _
     ·have := List.pairwise_iff_getElem.1 hA.so i j hiA hj1 (by omega)
      rw [hj2] at this
      omega
    ·rw [if_neg (by simp; omega), yOb, hs, ybA hr (by omega), yOb]
     obtain ⟨A', w1, w2, w3⟩ := ydk hr hm (by omega) hA hi2 (by omega) hl rfl
     rw [w1, yOb]
     by_cases hlA : A'.length ≤ 1024
     ·left
      rw [if_neg (by simp; omega), nxt (by omega)]
      exact ⟨_, rfl, rfl, by dsimp only; omega, hlA, w2⟩
     ·right
      rw [if_pos (by simp; omega)]
      exact ⟨_, rfl, trivial⟩
   ·right
    obtain rfl : i = A.length := by omega
    refine ⟨.inl A, ?_, hA.all hE fun j r hij hj => ?_, hl⟩
    ·rw [y3w]
     dsimp only
     rw [if_neg ct_ge]
    ·have := (List.getElem?_eq_some_iff.1 hj).1
     omega) (fun s ⟨e1, hle, hl, hA⟩ => by omega) (Nat.zero_le _) (0, [(([] : List Int), (0 : Int))]) ⟨rfl, Nat.zero_le _, by simp, ⟨fun r hr' => by rw [List.mem_singleton.1 hr']; rfl, fun r hr' => by rw [List.mem_singleton.1 hr']; dsimp only; omega, fun r hr' => by rw [List.mem_singleton.1 hr']; simp, List.pairwise_singleton _ _, List.mem_singleton.2 rfl, fun j r hj => absurd hj (Nat.not_lt_zero _), fun j r _ hj q hq => by
    rw [List.mem_singleton.1 (List.mem_of_getElem? hj), List.mem_singleton.1 hq]
    decide⟩⟩
 rw [y1j, y7z hr.l1 hr.l2 hr.l3, hr.err, yOb, if_neg (by simp), if_neg (by simp; omega), if_neg (by rw [hr.nn]; simp; omega), h1, yOb]
 cases o with
 | inr _ => exact ⟨_, _, rfl, .inr ⟨rfl, rfl⟩⟩
 | inl L =>
  dsimp only at h2 ⊢
  obtain ⟨h2, h3⟩ := h2
  obtain ⟨o, w1, w2⟩ := yc (f := y3v p false L) (fun i s => s.1 = (i : Int) ∧ i ≤ L.length ∧ s.2 = (L.take i).map Prod.fst) (fun o => o = L.map Prod.fst) L.length 0 (by omega) (fun i s hi ⟨e1, _, e2⟩ => by
   obtain ⟨c, B⟩ := s
   dsimp only at e1 e2
   subst e1 e2
   have hlw := h2.len _ (List.getElem_mem hi)
   left
   rw [y3v]
   dsimp only
   rw [if_pos (ct_lt hi), ya hi, yOb, if_pos (show (!false) = true from rfl), yOb, if_pos rfl, yO (by simp; omega), yOb, yO (by simp; omega), yOb, y3u]
   dsimp only
   rw [nxt (by omega)]
   refine ⟨_, rfl, rfl, hi, ?_⟩
   dsimp only
   rw [List.take_add_one, yGe hi, List.nil_append, List.map_append]
   rfl) (fun s ⟨e1, _, e2⟩ => by
   obtain ⟨c, B⟩ := s
   dsimp only at e1 e2
   subst e1 e2
   refine ⟨(L.take L.length).map Prod.fst, ?_, by rw [List.take_length]⟩
   rw [y3v]
   dsimp only
   rw [if_neg ct_ge]) (Nat.zero_le _) (0, []) ⟨rfl, Nat.zero_le _, rfl⟩
  rw [w1]
  exact ⟨_, _, rfl, .inl ⟨L, h2, w2, rfl, h3⟩⟩
theorem yc3 {p : AutT} (hr : Right p 0) {most : Nat} (hm : most ≤ 4096) : y1j p (most : Int) false = some ([], 0) := by
 rw [y1j, y7z hr.l1 hr.l2 hr.l3, hr.err, yOb, if_neg (by simp), if_neg (by simp; omega), if_pos (by rw [hr.nn]; rfl)]
def dB (P p : AutT) (T : List (List Int)) (s u c : Int) : Bool := match st1 p s u with
 | none => false
 | some r => (st1 p s c).isSome && (st1 p r c).isNone && (match T[r.toNat]? with
  | some (x :: _) => (st1 P x c).isSome
  | _ => false)
section
variable {q : ProbT} {t : TaskT} {p : AutT} {T : List (List Int)} {n1 n2 n : Nat}
theorem y8R {a : AutT} {m : Nat} (hr : Right a m) (s e : Int) : ((st1 a s e).getD (-1) != -1) = (st1 a s e).isSome := by
 cases hs : st1 a s e with
 | none => rfl
 | some v =>
  have hv := y5v hr hs
  have : v ≠ -1 := by omega
  simpa using this
theorem y9L (h : TaskOk q t p T n1 n2 n) (k : Nat) (u c : Int) : y2L t (k : Int) u c = some (dB q.1 p T (k : Int) u c) := by
 rw [y2L, to_eq h.g3, yOb, y8R h.loop.right, dB]
 cases hs : st1 p (k : Int) u with
 | none => rfl
 | some v =>
  have hv := y5v h.loop.right hs
  have hvt : v.toNat < T.length := by rw [h.loop.tl]; omega
  obtain ⟨x, y, e, _⟩ := h.pair hvt
  have hix : idx t.2.2.2.1 v = some [x, y] := by
   rw [h.tt, ← Int.toNat_of_nonneg hv.2.2.1, y7A, e]
  rw [if_pos (show (some v).isSome = true from rfl), to_eq h.g3, yOb, y8R h.loop.right]
  dsimp only [Option.getD_some]
  rw [e]
  dsimp only
  cases hc : (st1 p (k : Int) c).isSome with
  | false => rw [if_neg (by simp)]; rfl
  | true =>
   rw [if_pos rfl, to_eq h.g3, yOb]
   have h7 : ((st1 p v c).getD (-1) == -1) = (st1 p v c).isNone := by
    have := y8R h.loop.right v c
    cases hq : st1 p v c with
    | none => rfl
    | some w =>
     have := y5v h.loop.right hq
     have : w ≠ -1 := by omega
     simpa using this
   rw [h7]
   cases hn : (st1 p v c).isNone with
   | false => rw [if_neg (by simp)]; rfl
   | true =>
    rw [if_pos rfl, hix, yOb, show idx [x, y] 0 = some x from rfl, yOb, to_eq h.g1, yOb, y8R h.rP]
    rfl
theorem ydY (h : TaskOk q t p T n1 n2 n) {k : Nat} {x y : Int} (hk : T[k]? = some [x, y]) {u c : Int} (hu : u ∈ q.1.1) (hc : c ∈ q.1.1) : y3s q [x, y] u c = some (hasB q.2.2 u && !hasB q.2.2 c && dB q.1 p T (k : Int) u c) := by
 have hal := Alp.len ⟨h.rP.ali, h.rP.alr⟩
 have hul := Alp.len ⟨h.iu, h.ur⟩
 rw [y3s, y8l (by omega), yOb, yb.2 hu, if_neg (by simp), y8l (by omega), yOb, yb.2 hc, yOb, if_neg (by simp), y8l (by omega), yOb, yOb]
 cases hbu : hasB q.2.2 u with
 | false =>
  rw [if_pos (show (!false) = true from rfl), yOb, if_pos rfl]
  rfl
 | true =>
  rw [if_neg (by simp), y8l (by omega), yOb, yOb]
  cases hbc : hasB q.2.2 c with
  | true =>
   rw [if_pos rfl]
   rfl
  | false =>
   rw [if_neg (by simp), dB]
   have hj1 : ∀ r, yu q c r true = some false := fun r => by rw [yu, if_pos rfl]
   rcases h.step hk hu with ⟨g1, g2⟩ | ⟨j, x', y', g1, gT, _, g2⟩
   ·rw [g2, g1, yOb]
    rcases h.step hk hc with ⟨f1, f2⟩ | ⟨i, x2, y2, f1, _, _, f2⟩
    ·rw [f2, yOb, if_neg (by simp), if_neg (by simp), if_pos (by rfl), hj1]
     rfl
    ·rw [f2, yOb, if_neg (by simp), if_neg (by simp), if_pos (by rfl), hj1]
     rfl
   ·rw [g2, g1, yOb]
    dsimp only
    rw [Int.toNat_natCast, gT]
    dsimp only
    rcases h.step hk hc with ⟨f1, f2⟩ | ⟨i, x2, y2, f1, _, _, f2⟩
    ·rw [f2, yOb, if_neg (by simp), if_neg (by simp), if_neg (by simp), if_pos (by rfl), hj1, f1]
     rfl
    ·rw [f2, yOb, if_neg (by simp), if_neg (by simp), if_neg (by simp), if_neg (by simp), show idx [x', y'] 0 = some x' from rfl, yOb, y8J h.rP, yOb, f1]
     cases hx : st1 q.1 x' c with
     | none =>
      rw [show decide ((none : Option Int).getD (-1) < 0) = true from rfl, hj1]
      simp
     | some v =>
      have hv := y5v h.rP hx
      rw [show decide ((some v).getD (-1) < 0) = false by simp; omega, yu, if_neg (by simp)]
      dsimp only
      rcases h.step gT hc with ⟨e1, e2⟩ | ⟨i3, x3, y3, e1, _, _, e2⟩
      ·rw [e2, e1]
       rfl
      ·rw [e2, e1]
       rfl
end
def FD (al : List Int) (L : Int → Int → Bool) : Option (Int × Int) → Prop
 | none => ∀ u ∈ al, ∀ c ∈ al, L u c = false
 | some z => z.1 ∈ al ∧ z.2 ∈ al ∧ L z.1 z.2 = true ∧ (∀ u ∈ al, u < z.1 → ∀ c ∈ al, L u c = false) ∧ ∀ c ∈ al, c < z.2 → L z.1 c = false
theorem FD.unique {al : List Int} {L : Int → Int → Bool} : ∀ {o o' : Option (Int × Int)}, FD al L o → FD al L o' → o = o'
 | none, none, _, _ => rfl
 | none, some z, h, h' => by
  have := h _ h'.1 _ h'.2.1
  rw [h'.2.2.1] at this
  cases this
 | some z, none, h, h' => by
  have := h' _ h.1 _ h.2.1
  rw [h.2.2.1] at this
  cases this
 | some (u, c), some (u', c'), ⟨h1, h2, h3, h4, h5⟩, ⟨g1, g2, g3, g4, g5⟩ => by
  dsimp only at *
  have e : u = u' := by
   rcases Int.lt_trichotomy u u' with h | h | h
   ·have := g4 u h1 h c h2
    rw [h3] at this
    cases this
   ·exact h
   ·have := h4 u' g1 h c' g2
    rw [g3] at this
    cases this
  subst e
  have e : c = c' := by
   rcases Int.lt_trichotomy c c' with h | h | h
   ·have := g5 c h2 h
    rw [h3] at this
    cases this
   ·exact h
   ·have := h5 c' g2 h
    rw [g3] at this
    cases this
  rw [e]
section
variable {q : ProbT} {t : TaskT} {p : AutT} {T : List (List Int)} {n1 n2 n : Nat}
def dL (q : ProbT) (p : AutT) (T : List (List Int)) (s u c : Int) : Bool := hasB q.2.2 u && !hasB q.2.2 c && dB q.1 p T s u c
theorem ycE (h : TaskOk q t p T n1 n2 n) {k : Nat} {x y : Int} (hk : T[k]? = some [x, y]) : ∃ o, FD q.1.1 (dL q p T (k : Int)) o ∧ y1r q [x, y] = some (match o with
  | none => []
  | some z => [z.1, z.2]) := by
 have hal := Alp.len ⟨h.rP.ali, h.rP.alr⟩
 have hin : ∀ u ∈ q.1.1, ∃ o, iter (y1v q [x, y] u) 0 = some o ∧ ((o = .inl () ∧ ∀ i (hi : i < q.1.1.length), dL q p T (k : Int) u q.1.1[i] = false) ∨ ∃ i, ∃ hi : i < q.1.1.length, o = .inr [u, q.1.1[i]] ∧ dL q p T (k : Int) u q.1.1[i] = true ∧ ∀ j (hj : j < q.1.1.length), j < i → dL q p T (k : Int) u q.1.1[j] = false) := fun u hu => by
  have hg : ∀ i (hi : i < q.1.1.length), q.1.1.getD i 0 = q.1.1[i] := fun i hi => by rw [List.getD_eq_getElem?_getD, yGe hi, Option.getD_some]
  obtain ⟨o, h1, h2⟩ := y6i (f := y1v q [x, y] u) (fun i => i) q.1.1.length (by omega) (fun i => dL q p T (k : Int) u (q.1.1.getD i 0)) (fun i => [u, q.1.1.getD i 0]) (fun i hi => by
   rw [y1v, if_pos (ct_lt hi), ya hi, yOb, ydY h hk hu (List.getElem_mem hi), yOb, nxt (by omega), hg i hi]
   rfl) (by rw [y1v, if_neg ct_ge])
  refine ⟨o, h1, ?_⟩
  rcases h2 with ⟨e, h3⟩ | ⟨i, hi, e, h3, h4⟩
  ·exact .inl ⟨e, fun i hi => by rw [← hg i hi]; exact h3 i hi⟩
  ·exact .inr ⟨i, hi, by rw [e, hg i hi], by rw [← hg i hi]; exact h3, fun j hj hji => by rw [← hg j hj]; exact h4 j hji⟩
 obtain ⟨o, h1, o', h2, h3⟩ := yc (f := y2h q [x, y]) (fun i s => s = (i : Int) ∧ i ≤ q.1.1.length ∧ ∀ j (hj : j < q.1.1.length), j < i → ∀ c ∈ q.1.1, dL q p T (k : Int) q.1.1[j] c = false) (fun o => ∃ o', FD q.1.1 (dL q p T (k : Int)) o' ∧ o = (match o' with
  | none => .inl ()
  | some z => .inr [z.1, z.2])) q.1.1.length 0 (by omega) (fun i s hi ⟨e1, _, hz⟩ => by
   subst e1
   obtain ⟨o, w1, w2⟩ := hin _ (List.getElem_mem hi)
   rw [y2h, if_pos (ct_lt hi), ya hi, yOb, w1, yOb]
   rcases w2 with ⟨rfl, w3⟩ | ⟨j, hj, rfl, w3, w4⟩
   ·left
    dsimp only
    rw [nxt (by omega)]
    refine ⟨_, rfl, rfl, hi, fun j hj hji c hc => ?_⟩
    by_cases e : j = i
    ·subst e
     obtain ⟨i', hi', rfl⟩ := List.getElem_of_mem hc
     exact w3 i' hi'
    ·exact hz j hj (by omega) c hc
   ·right
    refine ⟨_, rfl, some (q.1.1[i], q.1.1[j]), ⟨List.getElem_mem hi, List.getElem_mem hj, w3, fun u hu hlt c hc => ?_, fun c hc hlt => ?_⟩, rfl⟩
    ·obtain ⟨i', hi', rfl⟩ := List.getElem_of_mem hu
     refine hz i' hi' (Nat.lt_of_not_le fun hle => ?_) c hc
     dsimp only at hlt
     by_cases e : i = i'
     ·subst e; omega
     ·have := List.pairwise_iff_getElem.1 h.rP.ali i i' hi hi' (by omega)
      omega
    ·obtain ⟨i', hi', rfl⟩ := List.getElem_of_mem hc
     refine w4 i' hi' (Nat.lt_of_not_le fun hle => ?_)
     dsimp only at hlt
     by_cases e : j = i'
     ·subst e; omega
     ·have := List.pairwise_iff_getElem.1 h.rP.ali j i' hj hi' (by omega)
      omega) (fun s ⟨e1, _, hz⟩ => by
   subst e1
   refine ⟨.inl (), by rw [y2h, if_neg ct_ge], none, fun u hu c hc => ?_, rfl⟩
   obtain ⟨i', hi', rfl⟩ := List.getElem_of_mem hu
   exact hz i' hi' hi' c hc) (Nat.zero_le _) 0 ⟨rfl, Nat.zero_le _, fun j hj h0 => absurd h0 (Nat.not_lt_zero _)⟩
 refine ⟨o', h2, ?_⟩
 rw [y1r, h1, yOb]
 subst h3
 cases o' <;> rfl
theorem ycF (h : TaskOk q t p T n1 n2 n) {k : Nat} (hk : k < T.length) : ∃ o, FD q.1.1 (dL q p T (k : Int)) o ∧ iter (y3J t (k : Int)) 0 = some (match o with
  | none => .inl ()
  | some z => .inr (wN (edsOf p) (k : Int), [z.1, z.2])) := by
 obtain ⟨ui, ul, um⟩ := h.uni
 obtain ⟨ci, cl, cm⟩ := h.con
 obtain ⟨U, hU⟩ : ∃ U, U = t.2.2.2.2.1 := ⟨_, rfl⟩
 obtain ⟨V, hV⟩ : ∃ V, V = t.2.2.2.2.2 := ⟨_, rfl⟩
 rw [← hU] at ui ul um
 rw [← hV] at ci cl cm
 have hLu : ∀ u ∈ U, ∀ c ∈ V, dL q p T (k : Int) u c = dB q.1 p T (k : Int) u c := fun u hu c hc => by
  have h1 := yb.2 ((um u).1 hu).2
  have h2 : hasB q.2.2 c = false := by
   cases hb : hasB q.2.2 c with
   | false => rfl
   | true => exact absurd (yb.1 hb) ((cm c).1 hc).2
  rw [dL, h1, h2]
  rfl
 have hLn : ∀ u ∈ q.1.1, ∀ c ∈ q.1.1, (u ∈ U → c ∈ V → dB q.1 p T (k : Int) u c = false) → dL q p T (k : Int) u c = false := fun u hu c hc hd => by
  by_cases h1 : u ∈ q.2.2
  ·by_cases h2 : c ∈ q.2.2
   ·rw [dL, yb.2 h2]
    simp
   ·have hu' := (um u).2 ⟨hu, h1⟩
    have hc' := (cm c).2 ⟨hc, h2⟩
    rw [hLu u hu' c hc']
    exact hd hu' hc'
  ·have : hasB q.2.2 u = false := by
    cases hb : hasB q.2.2 u with
    | false => rfl
    | true => exact absurd (yb.1 hb) h1
   rw [dL, this]
   rfl
 have hin : ∀ u ∈ U, ∃ o, iter (y3I t (k : Int) u) 0 = some o ∧ ((o = .inl () ∧ ∀ c ∈ V, dB q.1 p T (k : Int) u c = false) ∨ ∃ i, ∃ hi : i < V.length, o = .inr (wN (edsOf p) (k : Int), [u, V[i]]) ∧ dB q.1 p T (k : Int) u V[i] = true ∧ ∀ j (hj : j < V.length), j < i → dB q.1 p T (k : Int) u V[j] = false) := fun u hu => by
  have hg : ∀ i (hi : i < V.length), V.getD i 0 = V[i] := fun i hi => by rw [List.getD_eq_getElem?_getD, yGe hi, Option.getD_some]
  obtain ⟨o, h1, h2⟩ := y6i (f := y3I t (k : Int) u) (fun i => i) V.length (by omega) (fun i => dB q.1 p T (k : Int) u (V.getD i 0)) (fun i => (wN (edsOf p) (k : Int), [u, V.getD i 0])) (fun i hi => by
   rw [y3I, ← hV, if_pos (ct_lt hi), ya hi, yOb, y9L h, yOb, nxt (by omega), hg i hi, h.word hk, yOb]) (by rw [y3I, ← hV, if_neg ct_ge])
  refine ⟨o, h1, ?_⟩
  rcases h2 with ⟨e, h3⟩ | ⟨i, hi, e, h3, h4⟩
  ·refine .inl ⟨e, fun c hc => ?_⟩
   obtain ⟨i, hi, rfl⟩ := List.getElem_of_mem hc
   rw [← hg i hi]
   exact h3 i hi
  ·exact .inr ⟨i, hi, by rw [e, hg i hi], by rw [← hg i hi]; exact h3, fun j hj hji => by rw [← hg j hj]; exact h4 j hji⟩
 obtain ⟨o, h1, o', h2, h3⟩ := yc (f := y3J t (k : Int)) (fun i s => s = (i : Int) ∧ i ≤ U.length ∧ ∀ j (hj : j < U.length), j < i → ∀ c ∈ V, dB q.1 p T (k : Int) U[j] c = false) (fun o => ∃ o', FD q.1.1 (dL q p T (k : Int)) o' ∧ o = (match o' with
  | none => .inl ()
  | some z => .inr (wN (edsOf p) (k : Int), [z.1, z.2]))) U.length 0 (by omega) (fun i s hi ⟨e1, _, hz⟩ => by
   subst e1
   obtain ⟨o, w1, w2⟩ := hin _ (List.getElem_mem hi)
   rw [y3J, ← hU, if_pos (ct_lt hi), ya hi, yOb, w1, yOb]
   rcases w2 with ⟨rfl, w3⟩ | ⟨j, hj, rfl, w3, w4⟩
   ·left
    dsimp only
    rw [nxt (by omega)]
    refine ⟨_, rfl, rfl, hi, fun j hj hji c hc => ?_⟩
    by_cases e : j = i
    ·subst e
     exact w3 c hc
    ·exact hz j hj (by omega) c hc
   ·right
    have hUi := List.getElem_mem hi
    have hVj := List.getElem_mem hj
    refine ⟨_, rfl, some (U[i], V[j]), ⟨((um _).1 hUi).1, ((cm _).1 hVj).1, by dsimp only; rw [hLu _ hUi _ hVj]; exact w3, fun u hu hlt c hc => hLn u hu c hc fun hu' hc' => ?_, fun c hc hlt => hLn _ ((um _).1 hUi).1 c hc fun _ hc' => ?_⟩, rfl⟩
    ·obtain ⟨i', hi', rfl⟩ := List.getElem_of_mem hu'
     refine hz i' hi' (Nat.lt_of_not_le fun hle => ?_) c hc'
     dsimp only at hlt
     by_cases e : i = i'
     ·subst e; omega
     ·have := List.pairwise_iff_getElem.1 ui i i' hi hi' (by omega)
      omega
    ·obtain ⟨i', hi', rfl⟩ := List.getElem_of_mem hc'
     refine w4 i' hi' (Nat.lt_of_not_le fun hle => ?_)
     dsimp only at hlt
     by_cases e : j = i'
     ·subst e; omega
     ·have := List.pairwise_iff_getElem.1 ci j i' hj hi' (by omega)
      omega) (fun s ⟨e1, _, hz⟩ => by
   subst e1
   refine ⟨.inl (), by rw [y3J, ← hU, if_neg ct_ge], none, fun u hu c hc => hLn u hu c hc fun hu' hc' => ?_, rfl⟩
   obtain ⟨i', hi', rfl⟩ := List.getElem_of_mem hu'
   exact hz i' hi' hi' c hc') (Nat.zero_le _) 0 ⟨rfl, Nat.zero_le _, fun j hj h0 => absurd h0 (Nat.not_lt_zero _)⟩
 exact ⟨o', h2, by rw [h1, h3]⟩
theorem ycG (h : TaskOk q t p T n1 n2 n) (ho : y2N q = some (some t, 0)) : ∃ r, y4W q = some r ∧ ((r = ((0, [], []), true, 0) ∧ ∀ k, k < T.length → FD q.1.1 (dL q p T (k : Int)) none) ∨ ∃ (k : Nat) (z : Int × Int), k < T.length ∧ FD q.1.1 (dL q p T (k : Int)) (some z) ∧ (∀ j, j < k → FD q.1.1 (dL q p T (j : Int)) none) ∧ r = ((2, wN (edsOf p) (k : Int), [z.1, z.2]), false, 0)) := by
 have htl := h.loop.tl
 have hle := h.loop.le
 obtain ⟨o, h1, h2⟩ := yc (f := y4t t) (fun i s => s = (i : Int) ∧ i ≤ T.length ∧ ∀ j, j < i → FD q.1.1 (dL q p T (j : Int)) none) (fun o => (o = .inl () ∧ ∀ k, k < T.length → FD q.1.1 (dL q p T (k : Int)) none) ∨ ∃ (k : Nat) (z : Int × Int), k < T.length ∧ FD q.1.1 (dL q p T (k : Int)) (some z) ∧ (∀ j, j < k → FD q.1.1 (dL q p T (j : Int)) none) ∧ o = .inr (wN (edsOf p) (k : Int), [z.1, z.2])) T.length 0 (by omega) (fun i s hi ⟨e1, _, hz⟩ => by
   subst e1
   obtain ⟨o, w1, w2⟩ := ycF h hi
   rw [y4t, h.tt, if_pos (ct_lt hi), w2, yOb]
   cases o with
   | none =>
    left
    dsimp only
    rw [nxt (by omega)]
    refine ⟨_, rfl, rfl, hi, fun j hj => ?_⟩
    by_cases e : j = i
    ·subst e; exact w1
    ·exact hz j (by omega)
   | some z =>
    right
    exact ⟨_, rfl, .inr ⟨i, z, hi, w1, hz, rfl⟩⟩) (fun s ⟨e1, _, hz⟩ => by
   subst e1
   exact ⟨.inl (), by rw [y4t, h.tt, if_neg ct_ge], .inl ⟨rfl, hz⟩⟩) (Nat.zero_le _) 0 ⟨rfl, Nat.zero_le _, fun j hj => absurd hj (Nat.not_lt_zero _)⟩
 rw [y4W, ho, yOb, if_neg (by simp), yOb, h1, yOb]
 rcases h2 with ⟨rfl, h3⟩ | ⟨k, z, hk, h3, h4, rfl⟩
 ·exact ⟨_, rfl, .inl ⟨rfl, h3⟩⟩
 ·exact ⟨_, rfl, .inr ⟨k, z, hk, h3, h4, rfl⟩⟩
end
def folP (a : AutT) : Int → List Int → Int × Nat
 | s, [] => (s, 0)
 | s, e :: u => match st1 a s e with
  | some r => ((folP a r u).1, (folP a r u).2 + 1)
  | none => (s, 0)
theorem yau {a : AutT} : ∀ {u : List Int} {s t : Int}, stw (st1 a) s u = some t → folP a s u = (t, u.length)
 | [], s, t, h => by
  have h : some s = some t := h
  cases h
  rfl
 | e :: u, s, t, h => by
  rw [stw] at h
  obtain ⟨r, h1, h2⟩ := Option.bind_eq_some_iff.1 h
  rw [folP, h1]
  dsimp only
  rw [yau h2]
  rfl
section
variable {a : AutT} {n : Nat}
theorem ycH (hr : Right a n) : ∀ {u : List Int} {s t : Int}, stw (st1 a) s u = some t → 0 ≤ s → s < (n : Int) → 0 ≤ t ∧ t < (n : Int) ∧ ∀ e ∈ u, e ∈ a.1
 | [], s, t, h, h0, h1 => by
  have h : some s = some t := h
  cases h
  exact ⟨h0, h1, fun e he => by cases he⟩
 | e :: u, s, t, h, h0, h1 => by
  rw [stw] at h
  obtain ⟨r, g1, g2⟩ := Option.bind_eq_some_iff.1 h
  have g3 := y5v hr g1
  obtain ⟨k1, k2, k3⟩ := ycH hr g2 g3.2.2.1 g3.2.2.2.1
  refine ⟨k1, k2, fun x hx => ?_⟩
  rcases List.mem_cons.1 hx with rfl | hx
  ·exact g3.2.2.2.2
  ·exact k3 x hx
theorem ydm (hr : Right a n) {s : Nat} (hs : s < n) (e : Int) : y4u a (s : Int) e = some ((st1 a (s : Int) e).getD (-1)) := by
 have hl3 := hr.l3
 obtain ⟨os, hos⟩ : ∃ os, os = a.2.2.2.filter fun x => x.1 == (s : Int) := ⟨_, rfl⟩
 have hol : os.length ≤ 1000000 := by rw [hos]; exact Nat.le_trans (List.length_filter_le _ _) hl3
 have hmem : ∀ x ∈ os, x ∈ a.2.2.2 ∧ x.1 = (s : Int) := fun x hx => by
  rw [hos] at hx
  have := List.mem_filter.1 hx
  exact ⟨this.1, by simpa using this.2⟩
 obtain ⟨r, h1, h2⟩ := ybH (xs := os) (f := y3R e) (g := fun x => x.2.1 == e) (fun x _ => rfl) (by omega)
 rw [y4u, ybA hr hs, yOb, ← hos, h1, yOb]
 rcases h2 with ⟨rfl, h3⟩ | ⟨k, hk, rfl, h3, h4⟩
 ·rw [if_pos (by simp), yb5 fun x hx hxx => ?_]
  ·rfl
  ·have := h3 x (by rw [hos]; exact List.mem_filter.2 ⟨hx, by simp [hxx.1]⟩)
   simp [hxx.2] at this
 ·have hm := hmem _ (List.getElem_mem hk)
  have h3 : os[k].2.1 = e := by simpa using h3
  have : st1 a (s : Int) e = some os[k].2.2 := by
   rw [y4V hr, ← hm.2, ← h3]
   exact hm.1
  rw [if_neg (by simp), ya hk, yOb, this]
  rfl
theorem ycI (hr : Right a n) {s : Int} (s0 : 0 ≤ s) (s1 : s < (n : Int)) {u : List Int} (hl : u.length ≤ 1000000) : y3S a s u = some ((folP a s u).1, ((folP a s u).2 : Int)) := by
 obtain ⟨o, h1, h2⟩ := yc (f := y3a a u) (fun i st => st.1 = (i : Int) ∧ 0 ≤ st.2 ∧ st.2 < (n : Int) ∧ (folP a st.2 (u.drop i)).1 = (folP a s u).1 ∧ (folP a st.2 (u.drop i)).2 + i = (folP a s u).2)
   (fun o => (∃ t, o = .inl t ∧ t = (folP a s u).1 ∧ u.length = (folP a s u).2) ∨ ∃ t, o = .inr (((folP a s u).2 : Int), t) ∧ t = (folP a s u).1) u.length 0 (by omega) (fun i st hi ⟨e1, g0, g1, g2, g3⟩ => by
   obtain ⟨c, x⟩ := st
   dsimp only at e1 g0 g1 g2 g3
   subst e1
   obtain ⟨k, hk⟩ : ∃ k : Nat, x = (k : Int) := ⟨x.toNat, by omega⟩
   subst hk
   rw [List.drop_eq_getElem_cons hi, folP] at g2 g3
   rw [y3a]
   dsimp only
   rw [if_pos (ct_lt hi), ya hi, yOb, ydm hr (by omega), yOb]
   cases hst : st1 a (k : Int) u[i] with
   | none =>
    rw [hst] at g2 g3
    dsimp only at g2 g3
    right
    rw [if_pos (by simp)]
    exact ⟨_, rfl, .inr ⟨(k : Int), by rw [← g3, Nat.zero_add], g2⟩⟩
   | some t =>
    rw [hst] at g2 g3
    dsimp only at g2 g3
    have ht := y5v hr hst
    left
    rw [Option.getD_some, if_neg (by simp; omega), nxt (by omega)]
    exact ⟨_, rfl, rfl, ht.2.2.1, ht.2.2.2.1, g2, by dsimp only; omega⟩) (fun st ⟨e1, g0, g1, g2, g3⟩ => by
   obtain ⟨c, x⟩ := st
   dsimp only at e1 g0 g1 g2 g3
   subst e1
   rw [List.drop_length, folP] at g2 g3
   rw [y3a]
   dsimp only
   rw [if_neg ct_ge]
   exact ⟨_, rfl, .inl ⟨x, rfl, g2, by dsimp only at g3; omega⟩⟩) (Nat.zero_le _) (0, s) ⟨rfl, s0, s1, by rw [List.drop_zero], by rw [List.drop_zero]; rfl⟩
 rw [y3S, h1, yOb]
 rcases h2 with ⟨t, rfl, h3, h4⟩ | ⟨t, rfl, h3⟩
 ·rw [h3, ← h4]
 ·rw [h3]
theorem ydn (hr : Right a n) (h0 : 0 < n) {u : List Int} (hl : u.length ≤ 1000000) {t : Int} (hs : stw (st1 a) 0 u = some t) : y4K a 0 u = some (t, (u.length : Int), 0) := by
 have hl1 := hr.l1
 have hin := ycH hr hs (Int.le_refl _) (by omega)
 obtain ⟨r, h1, h2⟩ := ydO (xs := u) (f := y3y a) (g := fun x => !hasB a.1 x) (fun x _ => by rw [y3y, y5F (by omega), yOb]) (by omega)
 have hr1 : r = -1 := by
  rcases h2 with ⟨h, _⟩ | ⟨k, hk, _, h3, _⟩
  ·exact h
  ·have := yb.2 (hin.2.2 _ (List.getElem_mem hk))
   rw [this] at h3
   cases h3
 subst hr1
 rw [y4K, y3O, hr.check, yOb, if_neg (by simp), if_neg (by rw [hr.nn]; simp; omega), yOb, if_neg (by simp), y3j, h1, yOb, yOb, if_neg (by simp), ycI hr (by omega) (by omega) hl, yau hs, yOb]
theorem ydo {g : GrT} (hg : GrOk g a) (hr : Right a n) {u : List Int} (hl : u.length ≤ 1000000) : y2u g u = some (if n = 0 then -1 else (stw (st1 a) 0 u).getD (-1)) := by
 rw [y2u, hg.1, hr.nn]
 by_cases h0 : n = 0
 ·rw [if_pos (by simpa using h0), if_pos h0]
 ·rw [if_neg (by simpa using h0), if_neg h0]
  obtain ⟨o, h1, h2⟩ := yc (f := y2Z g u) (fun i st => st.1 = (i : Int) ∧ stw (st1 a) st.2 (u.drop i) = stw (st1 a) 0 u) (fun o => (∃ t, o = .inl t ∧ stw (st1 a) 0 u = some t) ∨ (o = .inr () ∧ stw (st1 a) 0 u = none)) u.length 0 (by omega) (fun i st hi ⟨e1, g1⟩ => by
    obtain ⟨c, x⟩ := st
    dsimp only at e1 g1
    subst e1
    rw [List.drop_eq_getElem_cons hi, stw] at g1
    rw [y2Z]
    dsimp only
    rw [if_pos (ct_lt hi), ya hi, yOb, to_eq hg, yOb]
    cases hst : st1 a x u[i] with
    | none =>
     rw [hst] at g1
     right
     rw [if_pos (by simp)]
     exact ⟨_, rfl, .inr ⟨rfl, g1.symm⟩⟩
    | some t =>
     rw [hst, yOb] at g1
     have ht := y5v hr hst
     left
     rw [Option.getD_some, if_neg (by simp; omega), nxt (by omega)]
     exact ⟨_, rfl, rfl, g1⟩) (fun st ⟨e1, g1⟩ => by
    obtain ⟨c, x⟩ := st
    dsimp only at e1 g1
    subst e1
    rw [List.drop_length] at g1
    rw [y2Z]
    dsimp only
    rw [if_neg ct_ge]
    exact ⟨_, rfl, .inl ⟨x, rfl, g1.symm⟩⟩) (Nat.zero_le _) (0, 0) ⟨rfl, by rw [List.drop_zero]⟩
  rw [h1, yOb]
  rcases h2 with ⟨t, rfl, h3⟩ | ⟨rfl, h3⟩
  ·rw [h3]; rfl
  ·rw [h3]; rfl
end
theorem ybf {xs : List Int} (hl : xs.length ≤ 1000000) : y2U xs xs = some true := by
 have h : iter (y2j xs xs) 0 = some (.inl ()) := by
  obtain ⟨o, h1, rfl⟩ := yc (f := y2j xs xs) (fun i s => s = (i : Int)) (fun o => o = .inl ()) xs.length 0 (by omega) (fun i s hi e1 => by
   subst e1
   left
   rw [y2j, if_pos (ct_lt hi), ya hi, yOb, yOb, if_neg (by simp), nxt (by omega)]
   exact ⟨_, rfl, rfl⟩) (fun s e1 => by
   subst e1
   rw [y2j, if_neg ct_ge]
   exact ⟨_, rfl, rfl⟩) (Nat.zero_le _) 0 rfl
  exact h1
 rw [y2U, if_neg (by simp), h]
 rfl
section
variable {q : ProbT} {t : TaskT} {p : AutT} {T : List (List Int)} {n1 n2 n : Nat}
theorem ydZ {es : List Ed} {N : Nat} (h : Num es N) : ∀ k : Nat, k < N → (wN es (k : Int)).length ≤ k := by
 intro k
 induction k using Nat.strongRecOn with
 | ind k ih =>
  intro hk
  by_cases h0 : k = 0
  ·subst h0; exact Nat.le_of_eq rfl
  ·obtain ⟨x, hm, _, _, hf0, hfk, e⟩ := h.step (k := k) (by omega) hk
   rw [e, List.length_append, List.length_singleton]
   have := ih x.f.toNat (by omega) (by omega)
   rw [Int.toNat_of_nonneg hf0] at this
   omega
end
theorem y8K {a : AutT} {n : Nat} (hr : Right a n) : ∀ {u : List Int} {s t : Int}, Leads (edsOf a) anyE s u t → stw (st1 a) s u = some t
 | [], s, t, h => by
  have h : s = t := h
  rw [h]
  rfl
 | e :: u, s, t, ⟨x, hx, h1, h2, _, h4⟩ => by
  obtain ⟨y, hy, rfl⟩ := List.mem_map.1 hx
  have : st1 a s e = some y.2.2 := by
   rw [y4V hr, ← h1, ← h2]
   exact hy
  rw [stw, this]
  exact y8K hr h4
theorem y9b {u : List Int} (hu : u.length ≤ 1000000) : y2O u u = some true := by
 rw [y2O, ybf hu]
 rfl
section
variable {q : ProbT} {t : TaskT} {p : AutT} {T : List (List Int)} {n1 n2 n : Nat}
def dNo (q : ProbT) (p : AutT) (T : List (List Int)) (s : Int) : Prop := FD q.1.1 (dL q p T s) none
theorem yav (h : TaskOk q t p T n1 n2 n) {k : Nat} (hk : k < T.length) : ∃ w o, T[k]? = some w ∧ FD q.1.1 (dL q p T (k : Int)) o ∧ y1r q w = some (match o with
  | none => []
  | some z => [z.1, z.2]) := by
 obtain ⟨x, y, e, _⟩ := h.pair hk
 obtain ⟨o, h1, h2⟩ := ycE h e
 exact ⟨_, o, e, h1, h2⟩
theorem ycJ (h : TaskOk q t p T n1 n2 n) : ∃ b, iter (yZ q (p, T, 0)) (0, false) = some b ∧ (b = false ↔ ∀ k, k < T.length → dNo q p T (k : Int)) := by
 have htl := h.loop.tl
 have hle := h.loop.le
 obtain ⟨b, h1, h2⟩ := yc (f := yZ q (p, T, 0)) (fun i s => s.1 = (i : Int) ∧ i ≤ T.length ∧ (s.2 = false ↔ ∀ k, k < i → dNo q p T (k : Int))) (fun b => b = false ↔ ∀ k, k < T.length → dNo q p T (k : Int)) T.length 0 (by omega) (fun i s hi ⟨e1, _, hz⟩ => by
   obtain ⟨c, b⟩ := s
   dsimp only at e1 hz
   subst e1
   left
   rw [yZ]
   dsimp only
   rw [if_pos (ct_lt hi)]
   cases b with
   | true =>
    rw [if_pos rfl, yY]
    dsimp only
    rw [nxt (by omega)]
    refine ⟨_, rfl, rfl, hi, ⟨fun hb => (by simp at hb), fun hh => ?_⟩⟩
    exact hz.2 fun k hk => hh k (by omega)
   | false =>
    obtain ⟨w, o, ew, hf, h3⟩ := yav h hi
    rw [if_neg (by simp), y7A, ew, yOb, h3, yOb, yY]
    dsimp only
    rw [nxt (by omega)]
    refine ⟨_, rfl, rfl, hi, fun hb k hk => ?_, fun hh => ?_⟩
    ·by_cases e : k = i
     ·subst e
      cases o with
      | none => exact hf
      | some z => simp at hb
     ·exact hz.1 rfl k (by omega)
    ·have := FD.unique (hh i (Nat.lt_succ_self i)) hf
     subst this
     rfl) (fun s ⟨e1, _, hz⟩ => by
   obtain ⟨c, b⟩ := s
   dsimp only at e1 hz
   subst e1
   refine ⟨b, ?_, hz⟩
   rw [yZ]
   dsimp only
   rw [if_neg ct_ge]) (Nat.zero_le _) (0, false) ⟨rfl, Nat.zero_le _, fun _ k hk => absurd hk (Nat.not_lt_zero _), fun _ => rfl⟩
 exact ⟨b, h1, h2⟩
theorem y8L (h : TaskOk q t p T n1 n2 n) (hn : 0 < n) {L : List (List Int × Int)} (hL : AllW (edsOf p) 3 L) (hl : L.length ≤ 4000000) (r : (Int × List Int × List Int) × Bool × Int)
  (hw : (∀ x ∈ L, dNo q p T x.2) ∨ ∃ (i : Nat) (x : List Int × Int) (z : Int × Int), L[i]? = some x ∧ FD q.1.1 (dL q p T x.2) (some z) ∧ (∀ j y, j < i → L[j]? = some y → dNo q p T y.2) ∧ r.1.2.1 = x.1 ∧ r.1.2.2 = [z.1, z.2]) :
  ∃ o, iter (yt q r (p, T, 0) (L.map Prod.fst, 0)) 0 = some o ∧ ((o = .inl () ∧ ∀ x ∈ L, dNo q p T x.2) ∨ o = .inr true) := by
 have htl := h.loop.tl
 have hR := h.loop.right
 have hE : EvEs (edsOf p) := fun x hx => by
  obtain ⟨y, hy, rfl⟩ := List.mem_map.1 hx
  exact hR.alr _ (hR.es y hy).2.2.2.2
 obtain ⟨o, h1, h2⟩ := yc (f := yt q r (p, T, 0) (L.map Prod.fst, 0)) (fun i c => c = (i : Int) ∧ i ≤ L.length ∧ ∀ j y, j < i → L[j]? = some y → dNo q p T y.2) (fun o => (o = .inl () ∧ ∀ x ∈ L, dNo q p T x.2) ∨ o = .inr true) L.length 0 (by omega) (fun i c hi ⟨e1, _, hz⟩ => by
   subst e1
   have hx := List.getElem_mem hi
   have hled := hL.lead _ hx
   have hlen := hL.len _ hx
   have hst := Leads.in (n := n) (fun x hx => by
    obtain ⟨y, hy, rfl⟩ := List.mem_map.1 hx
    have := hR.es y hy
    exact ⟨this.2.2.1, this.2.2.2.1⟩) hled (Int.le_refl _) (by omega)
   obtain ⟨s, hs⟩ : ∃ s : Nat, (L[i]).2 = (s : Int) := ⟨(L[i]).2.toNat, by omega⟩
   have hrun := ydn hR hn (u := (L[i]).1) (by omega) (y8K hR hled)
   have hsT : s < T.length := by omega
   obtain ⟨w, o, ew, hf, h3⟩ := yav h hsT
   have hmi : idx (L.map Prod.fst) (i : Int) = some (L[i]).1 := by rw [y7A, List.getElem?_map, yGe hi]; rfl
   rw [yt]
   dsimp only
   rw [List.length_map, if_pos (ct_lt hi), hmi, yOb, hrun, yOb]
   dsimp only
   rw [hs, y7A, ew, yOb, h3, yOb]
   cases o with
   | none =>
    left
    dsimp only
    rw [if_neg (by simp), nxt (by omega)]
    refine ⟨_, rfl, rfl, hi, fun j y hj hy => ?_⟩
    by_cases e : j = i
    ·subst e
     rw [yGe hi] at hy
     cases hy
     rw [dNo, hs]
     exact hf
    ·exact hz j y (by omega) hy
   | some z =>
    right
    refine ⟨_, ?_, .inr rfl⟩
    rcases hw with hw | ⟨i0, x, z0, g1, g2, g3, g4, g5⟩
    ·have := FD.unique (hw _ hx) (hs.symm ▸ hf)
     cases this
    ·obtain rfl : i = i0 := by
      rcases Nat.lt_trichotomy i i0 with hlt | e | hlt
      ·have := FD.unique (g3 i _ hlt (yGe hi)) (hs.symm ▸ hf)
       cases this
      ·exact e
      ·have := FD.unique (hz i0 x hlt g1) g2
       cases this
     rw [yGe hi] at g1
     cases g1
     have hzz := FD.unique g2 (hs.symm ▸ hf)
     cases hzz
     dsimp only
     rw [if_pos (by simp), yOb, g4, y9b (by omega), yOb, if_pos rfl, g5, y9b (by simp), yOb, y1x]) (fun c ⟨e1, _, hz⟩ => by
   subst e1
   refine ⟨.inl (), ?_, .inl ⟨rfl, fun x hx => ?_⟩⟩
   ·rw [yt]
    dsimp only
    rw [List.length_map, if_neg ct_ge]
   ·obtain ⟨j, hj, rfl⟩ := List.getElem_of_mem hx
    exact hz j _ hj (yGe hj)) (Nat.zero_le _) 0 ⟨rfl, Nat.zero_le _, fun j y hj => absurd hj (Nat.not_lt_zero _)⟩
 exact ⟨o, h1, h2⟩
theorem yb9 (h : TaskOk q t p T n1 n2 n) (ho : y2N q = some (some t, 0)) {k : Nat} (hk : k < T.length) {z : Int × Int} (hf : FD q.1.1 (dL q p T (k : Int)) (some z)) : y4X q [] (2, wN (edsOf p) (k : Int), [z.1, z.2]) = some 0 := by
 obtain ⟨z1, z2, hd, _⟩ := hf
 have hkn : k < n := by rw [← h.loop.tl]; exact hk
 have hle := h.loop.le
 have hwl := ydZ h.loop.num k hkn
 obtain ⟨ui, ul, um⟩ := h.uni
 obtain ⟨ci, cl, cm⟩ := h.con
 rw [dL, Bool.and_eq_true, Bool.and_eq_true] at hd
 obtain ⟨⟨d1, d2⟩, d3⟩ := hd
 have hu : hasB t.2.2.2.2.1 z.1 = true := yb.2 ((um _).2 ⟨z1, yb.1 d1⟩)
 have hc : hasB t.2.2.2.2.2 z.2 = true := yb.2 ((cm _).2 ⟨z2, fun hm => by rw [yb.2 hm] at d2; cases d2⟩)
 have hst := y8K h.loop.right (h.loop.num.leads k hkn)
 have hr3 : y2u t.2.2.1 (wN (edsOf p) (k : Int)) = some (k : Int) := by
  rw [ydo h.g3 h.loop.right (by omega), if_neg (by omega), hst]
  rfl
 rw [y4X, ydR h ho (by simp), if_pos (show priE q.1.1 q.2.2 [] [] = 0 from rfl), yOb, if_neg (by simp), yOb]
 dsimp only
 rw [hr3, yOb, if_neg (by simp), if_pos (show ((2 : Int) == 2) = true from rfl), if_pos (by simp), if_pos (show (((([z.1, z.2] : List Int).length : Nat) : Int) == 2) = true from rfl), show idx [z.1, z.2] 0 = some z.1 from rfl, yOb, y3x (by omega) ui, yOb, if_pos hu, show idx [z.1, z.2] 1 = some z.2 from rfl, yOb, y3x (by omega) ci, yOb, if_pos hc, yOb, yOb, y9L h, yOb, d3]
 rfl
end
theorem yc4 {d : Des26} (hd : Des26In d) (keep : Bool) : y2R d keep = some true := by
 rw [y2R, ydS, yOb, if_neg (by simp)]
 obtain ⟨q, m1, m2, hq, hP, _⟩ := yc2 hd keep
 rw [hq, yOb]
 obtain ⟨t, p, T, n1, n2, n, ho, h, hs⟩ := hP.open
 obtain ⟨r, hr, hc⟩ := ycG h ho
 obtain ⟨b, hb1, hb2⟩ := ycJ h
 have htl := h.loop.tl
 have hle := h.loop.le
 rw [hr, yOb]
 -- the words
 have hwords : (n = 0 ∧ y1j p 3 false = some ([], 0)) ∨ 0 < n ∧ (y1j p 3 false = some ([], 3) ∨ ∃ L, AllW (edsOf p) 3 L ∧ y1j p 3 false = some (L.map Prod.fst, 0) ∧ L.length ≤ 1024) := by
  by_cases h0 : n = 0
  ·subst h0
   exact .inl ⟨rfl, yc3 (most := 3) h.loop.right (by omega)⟩
  ·refine .inr ⟨by omega, ?_⟩
   obtain ⟨l, g, hw, ⟨L, g1, rfl, rfl, g2⟩ | ⟨rfl, rfl⟩⟩ := ydl (most := 3) h.loop.right (by omega) (by omega)
   ·exact .inr ⟨L, g1, hw, g2⟩
   ·exact .inl hw
 rcases hc with ⟨rfl, hno⟩ | ⟨k, z, hk, hf, hbef, rfl⟩
 ·have hb : b = false := hb2.2 hno
  subst hb
  dsimp only
  rw [if_neg (by simp), if_pos rfl, yea, yOb, yOb, yOb, if_neg (by simp), if_neg (by simp), yOb, yOb, if_neg (by simp), hs, yOb, if_neg (by simp), hb1, yOb, if_neg (by simp)]
  rcases hwords with ⟨h0, hw⟩ | ⟨h0, hw | ⟨L, g1, hw, g2⟩⟩
  ·rw [hw, yOb, if_neg (by simp), show iter (yt q ((0, [], []), true, 0) (p, T, 0) ([], 0)) 0 = some (.inl ()) from y3K (n := 1) (by omega) (by rw [ye, yt, if_neg (by simp)])]
   rfl
  ·rw [hw, yOb, if_pos (by simp)]
   rfl
  ·rw [hw, yOb, if_neg (by simp)]
   obtain ⟨o, w1, w2⟩ := y8L h h0 g1 (by omega) ((0, [], []), true, 0) (.inl fun x hx => by
    have hst := Leads.in (n := n) (fun x hx => by
     obtain ⟨y, hy, rfl⟩ := List.mem_map.1 hx
     have := h.loop.right.es y hy
     exact ⟨this.2.2.1, this.2.2.2.1⟩) (g1.lead x hx) (Int.le_refl _) (by omega)
    obtain ⟨s, hs⟩ : ∃ s : Nat, x.2 = (s : Int) := ⟨x.2.toNat, by omega⟩
    rw [hs]
    exact hno s (by omega))
   rw [w1, yOb]
   rcases w2 with ⟨rfl, _⟩ | rfl <;> rfl
 ·have hkn : k < n := by omega
  have hb : b = true := by
   cases b with
   | true => rfl
   | false =>
    have := FD.unique (hb2.1 rfl k hk) hf
    cases this
  subst hb
  dsimp only
  rw [if_neg (by simp), if_neg (by simp), yOb, yOb, if_neg (by simp), if_pos (by rfl), if_neg (by simp), yb9 h ho hk hf, yOb, yOb, yOb, yOb, if_neg (by simp), hs, yOb, if_neg (by simp), hb1, yOb, if_neg (by simp)]
  rcases hwords with ⟨h0, hw⟩ | ⟨h0, hw | ⟨L, g1, hw, g2⟩⟩
  ·omega
  ·rw [hw, yOb, if_pos (by simp)]
   rfl
  ·rw [hw, yOb, if_neg (by simp)]
   have hcl : ∃ good : Int → Bool, ∀ s, good s = false ↔ dNo q p T s := ⟨fun s => @decide (¬ dNo q p T s) (Classical.propDecidable _), fun s => by simp⟩
   obtain ⟨good, hgood⟩ := hcl
   have hgk : good (k : Int) = true := by
    cases hg : good (k : Int) with
    | true => rfl
    | false =>
     have := FD.unique ((hgood _).1 hg) hf
     cases this
   obtain ⟨e1, e2⟩ := h.loop.num.earliest g1 hkn hgk (fun j hj => (hgood _).2 (hbef j hj))
   by_cases hlen : (wN (edsOf p) (k : Int)).length ≤ 3
   ·obtain ⟨i, hi, e3, e4⟩ := e1 hlen
    obtain ⟨o, w1, w2⟩ := y8L h h0 g1 (by omega) ((2, wN (edsOf p) (k : Int), [z.1, z.2]), false, 0) (.inr ⟨i, _, z, yGe hi, by rw [e3]; exact hf, fun j y hj hy => by
     obtain ⟨hj1, hj2⟩ := List.getElem?_eq_some_iff.1 hy
     rw [← hj2]
     exact (hgood _).1 (e4 j hj1 hj), by rw [e3], rfl⟩)
    rw [w1, yOb]
    rcases w2 with ⟨rfl, w3⟩ | rfl
    ·have := w3 _ (List.getElem_mem hi)
     rw [e3] at this
     have := FD.unique this hf
     cases this
    ·rfl
   ·obtain ⟨o, w1, w2⟩ := y8L h h0 g1 (by omega) ((2, wN (edsOf p) (k : Int), [z.1, z.2]), false, 0) (.inl fun x hx => (hgood _).1 (e2 (by omega) x hx))
    rw [w1, yOb]
    rcases w2 with ⟨rfl, _⟩ | rfl
    ·dsimp only
     rw [Bool.false_or, decide_eq_true (by omega)]
    ·rfl
end Go.Proofs.YtecmobjeeonmaaaGreatDoor
namespace Go.Proofs.YtecmobjeeonmaaaGreatDoor
open Go Go.RowKit Go.ChangeShapes Go.WideShapes Go.Deep
def Op (P : Program) {α : Type} (r : Rep α) (Q : α → Prop) (t : TypeId) : Prop :=
 ∀ (H : Type) (enc : TypeId × Value → H) (w : World) (fuel : Nat) (cs : List Value) (x : DataW H × List MemPlace), DataW.trod enc P w 0 (fun _ => true) true fuel t cs = some x → ∃ y : α, r.rd ⟨w, fun _ => 0⟩ cs y ∧ Q y
section
variable {P : Program} {α β : Type} {r : Rep α} {q : Rep β} {Q : α → Prop} {R : β → Prop} {t e : TypeId}
theorem yec {w : World} {base : Nat} {v : Value} {fs : Array Field} {ts : List TypeId} (ht : P.underlying t = some (.struct fs)) (hts : P.cellTypes P.depth t = some ts) (hsz : P.cellsOf t = ts.length) (hok : Value.okWide P w .any base t v) :
  ∃ cs, v = .agg cs ∧ cs.size = ts.length ∧ ∀ (i : Nat) (u : TypeId), ts[i]? = some u → ∃ c : Value, cs[i]? = some c ∧ Cell.okWide P w .any base u c := by
 simp only [Value.okWide, ht] at hok
 obtain ⟨cs, rfl, h1, ts', h2, h3, h4⟩ := hok
 rw [hts] at h2
 cases h2
 refine ⟨cs, rfl, by omega, fun i u hu => ?_⟩
 have hlt : i < ts.length := (List.getElem?_eq_some_iff.1 hu).1
 obtain ⟨u', g1, g2⟩ := h4 i cs[i] (Array.getElem?_eq_getElem (by omega))
 rw [Nat.mod_eq_of_lt hlt, hu] at g1
 cases g1
 exact ⟨_, Array.getElem?_eq_getElem (by omega), g2⟩
end
end Go.Proofs.YtecmobjeeonmaaaGreatDoor
namespace Go.Proofs.YtecmobjeeonmaaaGreatDoor
open Go Go.ChangeShapes Go.WideShapes Go.ChangeAt Go.RowKit Go.Deep
theorem Fw.law {P : Program} {f : FuncId} {ts : List TV} (h : Fw P f ⟨0, []⟩ ts [] (.b true) []) {w : World} {vs : List Value} (ha : All3 (fun _ => .bool false) ⟨w, fun _ => 0⟩ ts vs) : Calls P f vs.toArray w fun e w' => e = .returned (.bool true) ∧ Below w.heap.size w w' :=
 Calls.mono (h.is [] (fun _ => .bool false) ⟨w, fun _ => 0⟩ vs rfl (Nat.le_refl _) List.nodup_nil (fun t ht => by cases ht) ha (fun i o h => by simp at h)) fun e W' ⟨v, s', hw, he, hm, β', _, hv, _⟩ => by
  obtain ⟨hv, _⟩ := hv
  subst hw
  subst hv
  exact ⟨he, (hm.weak (S' := No) fun t ⟨i, hi, _⟩ => by cases hi).below⟩
theorem All3.c {β : Nat → Value} {s : Sig} {x : TV} {xs : List TV} {v : Value} {us : List Value} (h : x.p β s v) (h2 : All3 β s xs us) : All3 β s (x :: xs) (v :: us) := ⟨v, us, h, h2, rfl⟩
theorem yc5 {α : Type} [Inhabited α] {n : Nat} {p : Nat → α → Prop} (h : ∀ i, i < n → ∃ x, p i x) : ∃ f : Nat → α, ∀ i, i < n → p i (f i) :=
 ⟨fun i => if hi : i < n then Classical.choose (h i hi) else default, fun i hi => by
  dsimp only
  rw [dif_pos hi]
  exact Classical.choose_spec (h i hi)⟩
abbrev yed := (Int × y2a) × (Int × y2a) × Int
def pbT : List TypeId := [22] ++ List.replicate 27 5 ++ [22] ++ List.replicate 27 5 ++ [22]
theorem ydp : Tryz.prog.cellTypes Tryz.prog.depth 30 = some pbT := by kernel_rfl
theorem ydq : Tryz.prog.cellsOf 30 = pbT.length := by kernel_rfl
section
variable {H : Type} {enc : TypeId × Value → H} {w : World} {base : Nat} {v : Value} {d : DataW H} {ps : List MemPlace}
/-- A described problem. -/
theorem ycK (hok : Value.okWide Tryz.prog w .any base 30 v) : ∃ x : yed, GrIn x.1.2 ∧ GrIn x.2.1.2 ∧ ∀ β s, (TV.a (lx30 x)).p β s v := by
 obtain ⟨cs, rfl, h1, h2⟩ := yec Tryz.underlying30 ydp ydq hok
 have h1' : cs.size = 57 := h1
 obtain ⟨f, hf⟩ := yc5 (α := Int) (n := 57) (p := fun i n => cs[i]? = some (.int .u8 n) ∧ 0 ≤ n ∧ n < 256) (fun i hi => by
  obtain ⟨u, hu, hu2⟩ : ∃ u, pbT[i]? = some u ∧ (u = 22 ∨ u = 5) := by
   refine ⟨pbT[i]'hi, yGe (l := pbT) hi, ?_⟩
   have := List.getElem_mem (l := pbT) hi
   generalize pbT[i]'hi = u at this
   simp only [pbT, List.mem_append, List.mem_singleton, List.mem_replicate] at this
   rcases this with (((h | h) | h) | h) | h
   ·exact .inl h
   ·exact .inr h.2
   ·exact .inl h
   ·exact .inr h.2
   ·exact .inl h
  obtain ⟨c, g1, g2⟩ := h2 i u hu
  have g2' : Cell.okWide Tryz.prog w .any base 5 c := by
   rcases hu2 with rfl | rfl
   ·simp only [Cell.okWide, Cell.ok, Tryz.underlying22, Tryz.underlying5] at g2 ⊢
    exact g2
   ·exact g2
  obtain ⟨n, rfl, g3⟩ : ∃ n : Int, c = .int .u8 n ∧ 0 ≤ n ∧ n < 256 := by
   simp only [Cell.okWide, Tryz.underlying5] at g2'
   cases c <;> simp_all [Cell.ok]
   rename_i k n
   obtain ⟨rfl, h2⟩ := g2'
   simp [IntKind.has, IntKind.min, IntKind.max, IntKind.signed, IntKind.bits] at h2
   omega
  exact ⟨n, g1, g3⟩)
 have hcs : cs = ((List.range 57).map fun i => Value.int .u8 (f i)).toArray := by
  apply Array.ext_getElem?
  intro i
  by_cases hi : i < 57
  ·rw [(hf i hi).1]; simp [hi]
  ·rw [Array.getElem?_eq_none (by omega), Array.getElem?_eq_none (by simp; omega)]
 have gr : ∀ o, o + 27 ≤ 57 → GrIn (f o, f (o + 1), ((f (o + 2), f (o + 3), f (o + 4), f (o + 5), f (o + 6)), (f (o + 7), f (o + 8), f (o + 9), f (o + 10), f (o + 11)), (f (o + 12), f (o + 13), f (o + 14), f (o + 15), f (o + 16)), (f (o + 17), f (o + 18), f (o + 19), f (o + 20), f (o + 21)), (f (o + 22), f (o + 23), f (o + 24), f (o + 25), f (o + 26)))) := fun o ho => by
  refine ⟨(hf o (by omega)).2, fun y hy => ?_⟩
  have hy2 : y ∈ (List.range 25).map fun i => f (o + (i + 2)) := hy
  obtain ⟨i, hi, rfl⟩ := List.mem_map.1 hy2
  have := List.mem_range.1 hi
  exact (hf (o + (i + 2)) (by omega)).2
 refine ⟨((f 0, f 1, f 2, ((f 3, f 4, f 5, f 6, f 7), (f 8, f 9, f 10, f 11, f 12), (f 13, f 14, f 15, f 16, f 17), (f 18, f 19, f 20, f 21, f 22), (f 23, f 24, f 25, f 26, f 27))), (f 28, f 29, f 30, ((f 31, f 32, f 33, f 34, f 35), (f 36, f 37, f 38, f 39, f 40), (f 41, f 42, f 43, f 44, f 45), (f 46, f 47, f 48, f 49, f 50), (f 51, f 52, f 53, f 54, f 55))), f 56), gr 1 (by omega), gr 29 (by omega), fun β s => ?_⟩
 refine ⟨((List.range 57).map fun i => Value.int .u8 (f i)), ?_, by rw [hcs]⟩
 exact y7D (cs := (List.range 57).map fun i => Value.int .u8 (f i)) (List.all_eq_true.2 fun x hx => by
  obtain ⟨i, _, rfl⟩ := List.mem_map.1 hx
  rfl)
end
section
variable {H : Type} {enc : TypeId × Value → H} {w : World} {base : Nat} {v : Value} {d : DataW H} {ps : List MemPlace}
theorem ycL (hok : Value.okWide Tryz.prog w .any base 4 v) : ∃ b, v = .bool b := by
 simp only [Value.okWide, Tryz.underlying4] at hok
 simp only [Cell.okWide, Tryz.underlying4] at hok
 cases v <;> simp_all [Cell.ok]
end
theorem Tryz.own : ownKnob Tryz.prog.godebug = none := by kernel_rfl
theorem Tryz.laidOut : laidOutB Tryz.prog = true := by kernel_rfl
section
variable {H : Type} {enc : TypeId × Value → H}
def yba (P : Program) (ts : List TypeId) : Bool := ts.all fun t => P.readableRec t && decide (t < P.types.size)
theorem y8o {P : Program} (hl : laidOutB P = true) {W W' : World} (hb : Below W.heap.size W W') {sp : Nat → Bool} : ∀ {ts : List TypeId} {vs : List Value} {ds : List (DataW H)} {ps : List MemPlace}, yba P ts = true →
  DataW.TrodAll enc P W 0 (fun _ => true) true ts vs ds ps → (∀ x ∈ ps, x.block < W.heap.size) → (∀ x ∈ ps, sp x.block = true) → DataW.TrodAll enc P W' 0 sp true ts vs ds ps
 | [], [], [], _, _, h, _, _ => h
 | [], _ :: _, _, _, _, h, _, _ => h.elim
 | [], [], _ :: _, _, _, h, _, _ => h.elim
 | t :: ts, [], _, _, _, h, _, _ => h.elim
 | t :: ts, _ :: _, [], _, _, h, _, _ => h.elim
 | t :: ts, v :: vs, d :: ds, ps, hc, ⟨p, q, h1, h2, e⟩, hlt, hsp => by
  subst e
  unfold yba at hc
  rw [List.all_cons, Bool.and_eq_true, Bool.and_eq_true] at hc
  exact ⟨p, q, WideElems.Trod_stays hl hc.1.1 (of_decide_eq_true hc.1.2) h1 (fun x hx => hb.same (hlt x (List.mem_append_left _ hx))) (fun x hx => hsp x (List.mem_append_left _ hx)),
   y8o hl hb hc.2 h2 (fun x hx => hlt x (List.mem_append_right _ hx)) (fun x hx => hsp x (List.mem_append_right _ hx)), rfl⟩
theorem ydr {P : Program} (hl : laidOutB P = true) {f : Func} {s : ChangeSpec} {apart fresh handsOn again : Bool} {W W' : World} {args : Array Value} {ds : List (DataW H)} {before : List MemPlace} {tb : TypeId} {b : Bool}
  (hW : DataW.Whole enc P f.params.toList s.vars apart W args.toList ds [] before) (hv : s.vars = []) (hc : yba P f.params.toList = true) (hrt : f.resultTypes = #[tb]) (ht : P.underlying tb = some .bool)
  (hr : (s.fn H (ds ++ [])).results = [.lit (.bool b)]) (ha : (s.fn H (ds ++ [])).args = ds) (hvn : (s.fn H (ds ++ [])).vars = []) (hb : Below W.heap.size W W') :
  s.post enc P f apart fresh handsOn again W args (.bool b) W' := by
 have hlt : ∀ p ∈ before, p.block < W.heap.size := fun p hp => hW.lt p hp
 have hWc := hW
 obtain ⟨p, q, hA, hV, rfl, hz, hn⟩ := hWc
 rw [hv] at hV
 obtain ⟨-, rfl⟩ := trodVars_none hV
 rw [List.append_nil] at hlt hz hn
 have hargs : ∀ sp : Nat → Bool, (∀ x ∈ p, sp x.block = true) → DataW.TrodAll enc P W' 0 sp true f.params.toList args.toList (s.fn H (ds ++ [])).args p := fun sp hsp => by
  rw [ha]; exact y8o hl hb hc hA hlt hsp
 have hres : ∀ (b0 : Nat) (sp : Nat → Bool) (hd : Bool), DataW.TrodAll enc P W' b0 sp hd f.resultTypes.toList ((Value.bool b).resultList f.resultTypes.size) (s.fn H (ds ++ [])).results [] := fun _ _ _ => by
  rw [hr, hrt]; exact trodAll_mk1 (shut_bool ht b)
 have hvars : ∀ sp : Nat → Bool, DataW.TrodVars enc P W' sp s.vars (s.fn H (ds ++ [])).vars [] := fun sp => by rw [hv, hvn]; rfl
 have hold : ∀ x ∈ p, (fun b => decide (b < W.heap.size)) x.block = true := fun x hx => by simpa using hlt x hx
 refine ⟨ds, [], p ++ [], [], p, [], hW, hres _ _ _, hargs _ hold, hvars _, World.keptBut_mono (fun x hx => ?_) (hb.frame (· ∈ p)), fun _ => ?_⟩
 ·exact ⟨by rwa [List.append_nil], Or.inr (.inl hx)⟩
 ·have hok := ok_one (f := f) (W' := W') (by rw [hrt]) rfl (okWide_bool_mk (W' := W') ht b)
  refine ⟨hok, _, _, ([] ++ p) ++ [], ⟨[] ++ p, [], trodAll_append (hargs _ (fun _ _ => rfl)) (hres _ _ _), hvars _, rfl, ?_, ?_⟩, ?_⟩
  ·intro b0 off hp
   have hin : MemPlace.cell b0 off ∈ p := by simpa using hp
   rw [hb.frozen (hlt _ hin)]
   exact hz b0 off hin
  ·intro hap
   simpa using hn hap
  ·intro x hx _
   simpa using hx
end
def lay24 : List (String × DataW Unit) := [("math/bits.deBruijn32tab", Rows.laid_math_bits_deBruijn32tab), ("math/bits.deBruijn64tab", Rows.laid_math_bits_deBruijn64tab), ("internal/strconv.uint64pow10", Rows.laid_internal_strconv_uint64pow10)]
theorem ycM (os : Os) (args : Array Value) : laidMetH Tryz.prog lay24 ((World.laidAll Tryz.prog os lay24).forCall (fun _ _ => 0) ⟨#[], args, []⟩).memory :=
 laidMetH_of_parts3 (fuel := 8) (laidMet_laidAll args (by kernel_rfl) (by kernel_rfl)) (by kernel_rfl) (by kernel_rfl)
theorem y8T (os : Os) (started : os.Started) (H : Type) (enc : TypeId × Value → H) :
  ReturnsInHanded {} Tryz.checked os 5 .any (fun w args => (Rows.scanDelaysSpec.pre enc Tryz.prog Tryz.f5 [] false w args ∧ laidMetH Tryz.prog lay24 w) ∧ sizedMet enc Tryz.prog Tryz.f5 (OpenSpec.ofChange Rows.scanDelaysSpec) false w args) (Rows.scanDelaysSpec.post enc Tryz.prog Tryz.f5 false true false false) := by
 refine returnsInHanded_of_change_and (C := Tryz.checked) (X := fun w _ => laidMetH Tryz.prog lay24 w) (fun _ _ _ hh h => h.of_heap hh) Tryz.own started (by kernel_rfl) Tryz.func5
  (ChangeSpec.witness_shaped (enc := enc) (C := Tryz.checked) (os := os) (X := fun w _ => laidMetH Tryz.prog lay24 w) false (World.laidAll Tryz.prog os lay24) #[.agg (Array.replicate 57 (.int .u8 0)), .bool false] 8 (World.laidAll_os _ _ _) (World.shaped_of_ZipB (by kernel_rfl) (by kernel_rfl)) (by kernel_rfl) (by kernel_rfl) (by kernel_rfl) (ycM os _)) ?_
 intro W base args ds gs before hval0 hW _ _ _ _
 have hval : ∀ (j : Nat) t v, Tryz.f5.params[j]? = some t → args[j]? = some v → Value.okWide Tryz.prog W .any base t v := hval0
 have hW' := hW
 obtain ⟨p, q, hA0, hV, rfl, hfz, hnd⟩ := hW
 have hA : DataW.TrodAll enc Tryz.prog W 0 (fun _ => true) true Tryz.f5.params.toList args.toList ds p := hA0
 rw [Tryz.params5] at hA hval
 obtain ⟨v0, v1, d0, d1, p0, p1, rfl, rfl, rfl, h0, h1⟩ := trodAll_two hA
 obtain ⟨x, g1, g2, r0⟩ := ycK (hval 0 30 v0 rfl rfl)
 obtain ⟨b, rfl⟩ := ycL (hval 1 4 v1 rfl rfl)
 obtain ⟨rfl, rfl⟩ := trodVars_none hV
 clear hA0 hval0
 refine Calls.mono ((y6p (yc4 (d := x) ⟨g1, g2⟩ b)).law (All3.c (r0 _ _) (All3.c ⟨rfl, rfl⟩ rfl))) fun e W' ⟨he, hbl⟩ => ?_
 subst he
 exact ⟨_, rfl, ydr Tryz.laidOut hW' rfl (by kernel_rfl) (by kernel_rfl) Tryz.underlying4 rfl rfl rfl hbl⟩
theorem yaw : (Rows.scanDelaysRow.inPlace == Tryz.prog.inPlace 5) = true := by kernel_rfl
theorem yax : (Rows.scanDelaysRow.unfollowed == Tryz.prog.unfollowed 5) = true := by kernel_rfl
theorem yay : (Rows.scanDelaysRow.recurses == Tryz.prog.recurses 5) = true := by kernel_rfl
theorem yaz : (Rows.scanDelaysRow.named == Tryz.prog.varsNamed 5) = true := by kernel_rfl
theorem yaA : (Rows.scanDelaysRow.lifted == Tryz.prog.liftsFinal) = true := by kernel_rfl
theorem yaB : Tryz.prog.stopsHeard = true := by kernel_rfl
theorem yaC : Tryz.prog.mayEnter = true := by kernel_rfl
theorem yaD : (laidOutB Tryz.prog && mapsRowed Tryz.prog) = true := by kernel_rfl
theorem yaE : (Tryz.prog.stops == []) = true := by kernel_rfl
theorem ya7 : (Tryz.prog.stopKnobs == []) = true := by kernel_rfl
theorem y8U : joinedFacts Tryz.prog 5 Tryz.f5 Rows.scanDelaysSpec Rows.scanDelaysRow = true := by
 have h8 := yaD
 rw [Bool.and_eq_true] at h8
 unfold joinedFacts
 rw [h8.1, h8.2, yaw, yax, yay, yaz, yaA, yaB, yaC, yaE, ya7]
 change (_ : Bool) = true
 kernel_rfl
theorem y9w : Rows.ScanDelaysSaid :=
 OpenClaim.holds_of_wide 5 Tryz.f5 rfl rfl rfl rfl rfl rfl rfl ⟨rfl, rfl, rfl, rfl, rfl⟩ rfl rfl rfl rfl rfl (by kernel_rfl) Tryz.func5 y8U
  (of_decide_eq_true (by kernel_rfl)) (by unfold Func.isWrapper; first | (rw [if_pos (by decide +kernel)]; kernel_rfl) | (rw [if_neg (by decide +kernel)]; exact ⟨rfl, rfl⟩))
  (fun os started H enc _ => y8T os started H enc)
theorem scanDelays_k11 : false = Tryz.prog.looks [] := by kernel_rfl
theorem scanDelays_k12 : false = Rows.scanDelaysRow.goesBy Tryz.prog := by kernel_rfl
theorem scanDelays_k13 : Tryz.prog.funcNamed "overseer/overseerlaw54.ScanDelays" = some 5 := by kernel_rfl
theorem scanDelays_k14 : (Tryz.f5.params.toList.all fun u => !(Tryz.prog.wantsStandIn u)) = true := by kernel_rfl
theorem scanDelays_k15 : Rows.scanDelaysRow.wfByText (OpenSpec.ofChange Rows.scanDelaysSpec) = true := by kernel_rfl
theorem scanDelays_card_holds : Rows.ScanDelaysCardSaid :=
 Claim7.holds_tied_plain_at .later [] [.data, .data, .data] true _ false
  y9w (fun _ h => by cases h) scanDelays_k15 (fun _ h => by cases h) scanDelays_row_tie rfl ⟨rfl, rfl⟩ (by kernel_rfl) rfl
  (fun f fn hf hfn => by
   obtain rfl : f = 5 := Option.some.inj (scanDelays_k13.symm.trans hf) |>.symm
   obtain rfl : fn = Tryz.f5 := (Option.some.inj (Tryz.func5.symm.trans hfn)).symm
   exact ⟨scanDelays_k11, fun j t ht => by
    have hm : t ∈ Tryz.f5.params := Array.mem_of_getElem? ht
    exact (show Tryz.prog.wantsStandIn t = false by simpa using List.all_eq_true.1 scanDelays_k14 t (Array.mem_toList_iff.2 hm))⟩)
  scanDelays_k12
end Go.Proofs.YtecmobjeeonmaaaGreatDoor
