/- The law AvermentFiles, in parts: this text is packed by program (names shortened). No condition. -/
import Derived.Test.YtdjkdmjdcdljmaaGreatDoorPE
set_option linter.unusedVariables false
set_option linter.unusedSimpArgs false
namespace Go.Proofs.YtdjkdmjdcdljmaaGreatDoor.AF
open Go.Proofs.q0a Go.Proofs.q0a.Runs
set_option maxRecDepth 100000
set_option maxHeartbeats 4000000
variable {K : Nat}
abbrev least : Int := -9223372036854775808
abbrev most : Int := 9223372036854775807
structure Vr (v : q0d) : Prop where
  s : 1 ≤ v.1 ∧ v.1 ≤ 7
  k : i64 v.2.1.2 ∧ (v.2.1.1 = false → v.2.1.2 = 0)
  lo : i64 v.2.2.1.1
  hi : i64 v.2.2.1.2
  le : v.2.2.1.1 ≤ v.2.2.1.2
  p : 1 ≤ v.2.2.2 ∧ v.2.2.2 ≤ 3
def encV (v : q0d) : List Int := ((hB v.1.toNat v.2.2.2.toNat v.2.1.1 (v.2.2.1.1 != least) (v.2.2.1.2 != most) : Nat) : Int) ::
  ((if v.2.1.1 then encI v.2.1.2 else []) ++ ((if v.2.2.1.1 != least then encI v.2.2.1.1 else []) ++ (if v.2.2.1.2 != most then encI v.2.2.1.2 else [])))
theorem z2g (v : q0d) : (encV v).length ≤ 31 := by
  have h1 := q89 v.2.1.2
  have h2 := q89 v.2.2.1.1
  have h3 := q89 v.2.2.1.2
  unfold encV
  simp only [List.length_cons, List.length_append]
  split <;> split <;> split <;> (try simp only [List.length_nil]) <;> omega
def q7w : Int → List Int → List Int
  | _, [] => []
  | nx, x :: r => encU (x - nx).toNat ++ q7w (x + 1) r
def q7r : Int → List (Int × Int) → List Int
  | _, [] => []
  | nx, p :: r => encU (p.1 - nx).toNat ++ (encU (p.2 - 1).toNat ++ q7r (p.1 + p.2 + 1) r)
def q4s (s : List Int) : List (Int × Int) := s.foldl q7j []
def q6e (n : Int) (s : List Int) : List Int := (List.range ((n + 7) / 8).toNat).map fun (j : Nat) => (((z3o s (j : Int)).toNat : Nat) : Int)
def q4l (n : Int) (s : List Int) (way : Int) : List Int :=
  if way = 0 then 0 :: q6e n s else if way = 1 then 1 :: (encU s.length ++ q7w 0 s) else 2 :: (encU (q4s s).length ++ q7r 0 (q4s s))
def wayS (n : Int) (s : List Int) : Int :=
  if (q4l n s 2).length < (q4l n s (if (q4l n s 1).length < (q4l n s 0).length then 1 else 0)).length then 2 else if (q4l n s 1).length < (q4l n s 0).length then 1 else 0
def encS (n : Int) (s : List Int) : List Int := q4l n s (wayS n s)
theorem z53 : ∀ (s : List Int) (nx : Int), (q7w nx s).length ≤ 10 * s.length
  | [], _ => by simp [q7w]
  | x :: r, nx => by
    have h1 := q6q (x - nx).toNat
    have h2 := z53 r (x + 1)
    simp only [q7w, List.length_append, List.length_cons]
    omega
theorem z6a : ∀ (s : List (Int × Int)) (nx : Int), (q7r nx s).length ≤ 20 * s.length
  | [], _ => by simp [q7r]
  | p :: r, nx => by
    have h1 := q6q (p.1 - nx).toNat
    have h2 := q6q (p.2 - 1).toNat
    have h3 := z6a r (p.1 + p.2 + 1)
    simp only [q7r, List.length_append, List.length_cons]
    omega
theorem q5j {n : Int} : ∀ {s : List Int}, q3x n s → (s.length : Int) ≤ max n 0 := by
  have key : ∀ (s : List Int) (a : Int), s.Pairwise (· < ·) → (∀ x ∈ s, a ≤ x ∧ x < n) → (s.length : Int) ≤ max (n - a) 0 := by
    intro s
    induction s with
    | nil => intro a _ _; simp; omega
    | cons x s ih =>
      intro a hp hr
      have hp' := List.pairwise_cons.1 hp
      have hx := hr x (by simp)
      have := ih (x + 1) hp'.2 fun y hy => ⟨by have := hp'.1 y hy; omega, (hr y (by simp [hy])).2⟩
      simp only [List.length_cons]
      omega
  intro s h
  have := key s 0 h.1 h.2
  simpa using this
theorem flat_ge {R : List (Int × Int)} : ∀ {nx : Int}, sepR nx R → R.length ≤ (R.flatMap expand).length := by
  induction R with
  | nil => intro _ _; simp
  | cons p r ih =>
    intro nx h
    have h1 := ih h.2.2
    have h2 := h.2.1
    have : 1 ≤ (expand p).length := by simp [expand]; omega
    simp only [List.flatMap_cons, List.length_append, List.length_cons]
    omega
theorem z2i {n : Int} {s : List Int} (h : q3x n s) : sepR 0 (q4s s) ∧ (q4s s).flatMap expand = s := by
  have := j23 (n := n) s [] [] (by simpa using h) trivial rfl
  simpa [q4s] using this
theorem z57 {n : Int} {s : List Int} (h : q3x n s) : (q4s s).length ≤ s.length := by
  obtain ⟨h1, h2⟩ := z2i h
  have := flat_ge h1
  rw [h2] at this
  exact this
theorem z2o (n : Int) (s : List Int) : (q6e n s).length = ((n + 7) / 8).toNat := by simp [q6e]
theorem j40 {n : Int} {s : List Int} : (encS n s).length ≤ (q4l n s 0).length := by
  unfold encS wayS
  by_cases h1 : (q4l n s 1).length < (q4l n s 0).length
  · simp only [if_pos h1]
    by_cases h2 : (q4l n s 2).length < (q4l n s 1).length
    · rw [if_pos h2]; omega
    · rw [if_neg h2]; omega
  · simp only [if_neg h1]
    by_cases h2 : (q4l n s 2).length < (q4l n s 0).length
    · rw [if_pos h2]; omega
    · rw [if_neg h2]; omega
theorem z2f {n : Int} {s : List Int} : (encS n s).length ≤ 1 + ((n + 7) / 8).toNat := by
  have := j40 (n := n) (s := s)
  have h2 : (q4l n s 0).length = 1 + ((n + 7) / 8).toNat := by
    unfold q4l
    rw [if_pos rfl, List.length_cons, z2o]
    omega
  omega
end Go.Proofs.YtdjkdmjdcdljmaaGreatDoor.AF
namespace Go.Proofs.YtdjkdmjdcdljmaaGreatDoor.AF
open Go.Proofs.q0a Go.Proofs.q0a.Runs
set_option maxRecDepth 100000
set_option maxHeartbeats 4000000
variable {K : Nat}
theorem blt_mid {α : Type} {l l1 l2 : List α} {x : α} (h : l = l1 ++ x :: l2) : (((l1.length : Nat) : Int).toNat.blt l.length) = true := by
  subst h; exact Nat.ble_eq_true_of_le (by simp)
theorem q2p {α : Type} {l : List α} {x : α} {n : Nat} (h : l.length < n) : (l.length + [x].length).ble n = true := Nat.ble_eq_true_of_le (by simp; omega)
theorem z9q {n : Int} {s : List Int} (hs : s.length ≤ 1000) : ∀ (s2 s1 : List Int) (k : Nat) (last : Int), s = s1 ++ s2 → s2.length < k → s2.Pairwise (· < ·) → (∀ x ∈ s2, last < x ∧ x < n) → q38.l0.f K k n last s ((s.length : Nat) : Int) ((s1.length : Nat) : Int) = some (.inl ())
  | s2, s1, 0, last, h, hk, _, _ => by omega
  | [], s1, k + 1, last, h, hk, _, _ => by
    rw [q38.l0.f]
    simp only [q2e h, cond_false]
  | x :: s2, s1, k + 1, last, h, hk, hp, hr => by
    rw [q38.l0.f]
    have hl1 : s1.length ≤ 1000 := by rw [h] at hs; simp at hs; omega
    have hx := hr x (by simp)
    have e1 : decide (x ≤ last) = false := by simp; omega
    have e2 : decide (x ≥ n) = false := by simp; omega
    have hp' := List.pairwise_cons.1 hp
    simp only [List.length_cons] at hk
    simp only [q2b h, ge0, q2w h, cond_true, cond_false, q0c, e1, e2, q03, q0y (l1 := s1) (x := x) (by omega)]
    exact z9q hs s2 (s1 ++ [x]) k x (q09 h) (by omega) hp'.2 fun y hy => ⟨hp'.1 y hy, (hr y (by simp [hy])).2⟩
theorem z0y (hK : 2000 ≤ K) {n : Int} {s : List Int} (hn : 0 ≤ n ∧ n ≤ 1000) (h : q3x n s) : q38.f K n s = some true := by
  unfold q38.f
  have hl := q5j h
  have e1 : decide (n < 0) = false := by simp; omega
  have e2 : decide (n > 4096) = false := by simp; omega
  have g := z9q (K := K) (n := n) (s := s) (by omega) s [] K (-1) rfl (by omega) h.1 fun x hx => ⟨by have := (h.2 x hx).1; omega, (h.2 x hx).2⟩
  rw [show q38.l0.f K K n (-1 : Int) s ((s.length : Nat) : Int) (0 : Int) = _ from g]
  simp only [e1, e2, cond_false, q03, q0c]
  rfl
theorem set_row {c q : Nat} {f : Nat → Int} {v : Int} (hq : q < c) : ((0 : Int) :: (List.range c).map f).set (1 + q) v = 0 :: (List.range c).map fun j => if j = q then v else f j := by
  apply List.ext_getElem?
  intro i
  cases i with
  | zero => simp [Nat.add_comm 1 q]
  | succ i =>
    rw [Nat.add_comm 1 q, List.set_cons_succ, List.getElem?_cons_succ, List.getElem?_cons_succ, List.getElem?_set]
    simp only [List.getElem?_map, List.length_map, List.length_range]
    by_cases e : q = i
    · subst e; simp [hq]
    · rw [if_neg e]
      by_cases hi : i < c
      · simp [List.getElem?_range hi, Ne.symm e]
      · simp [List.getElem?_eq_none (l := List.range c) (i := i) (by simpa using hi)]
theorem get_row {c q : Nat} {f : Nat → Int} (hq : q < c) : ((0 : Int) :: (List.range c).map f)[1 + q]? = some (f q) := by
  rw [Nat.add_comm 1 q, List.getElem?_cons_succ]
  simp [hq]
theorem j3e {n : Int} {s : List Int} (hn : 0 ≤ n ∧ n ≤ 1000) (hs : s.length ≤ 1000) (hr : ∀ x ∈ s, 0 ≤ x ∧ x < n) : ∀ (s2 s1 : List Int) (k : Nat), s = s1 ++ s2 → s2.length < k → q6m.l0.f K k s ((s.length : Nat) : Int) ((s1.length : Nat) : Int) (0 :: q6e n s1) = some (0 :: q6e n s)
  | s2, s1, 0, h, hk => by omega
  | [], s1, k + 1, h, hk => by
    rw [q6m.l0.f]
    have : s1 = s := by simpa using h.symm
    subst this
    simp only [q2e h, cond_false]
  | x :: s2, s1, k + 1, h, hk => by
    rw [q6m.l0.f]
    have hl1 : s1.length ≤ 1000 := by rw [h] at hs; simp at hs; omega
    have hx := hr x (by rw [h]; simp)
    simp only [List.length_cons] at hk
    have t1 : Int.tdiv x 8 = x / 8 := Int.tdiv_eq_ediv_of_nonneg hx.1
    have t2 : Int.tmod x 8 = x % 8 := Int.tmod_eq_emod_of_nonneg hx.1
    have w1 : IntKind.i64.wrap (1 + IntKind.i64.wrap (Int.tdiv x 8)) = ((1 + (x / 8).toNat : Nat) : Int) := by
      rw [t1, q00 (n := x / 8) (by omega) (by omega), q00 (by omega) (by omega)]; omega
    have hq : (x / 8).toNat < ((n + 7) / 8).toNat := by omega
    have e1 : Nat.blt (1 + (x / 8).toNat) (0 :: q6e n s1).length = true := Nat.ble_eq_true_of_le (by simp only [List.length_cons, z2o]; omega)
    have e2 : ((0 : Int) :: q6e n s1)[1 + (x / 8).toNat]? = some (((z3o s1 (((x / 8).toNat : Nat) : Int)).toNat : Nat) : Int) := get_row hq
    have e3 : decide (Int.tmod x 8 < 0) = false := by rw [t2]; simp; omega
    have e4 := put_bit (z3o s1 (((x / 8).toNat : Nat) : Int)) (k := (x % 8).toNat) (by omega)
    have hm : s[s1.length]? = some x := by rw [h]; simp
    simp only [q2b h, ge0, ge0', hm, cond_true, q0c, w1, Int.toNat_natCast, e1, e2, e3, cond_false, q0y (l1 := s1) (x := x) (by omega)]
    rw [t2, e4]
    have e5 : ((0 : Int) :: q6e n s1).set (1 + (x / 8).toNat) (((z3o s1 (((x / 8).toNat : Nat) : Int) ||| BitVec.twoPow 8 (x % 8).toNat).toNat : Nat) : Int) = 0 :: q6e n (s1 ++ [x]) := by
      rw [q6e, set_row hq]
      congr 1
      refine List.map_congr_left fun j hj => ?_
      have hx8 : ((x / 8).toNat : Int) = x / 8 := by omega
      rw [j4z]
      unfold j4c
      by_cases e : j = (x / 8).toNat
      · subst e
        rw [if_pos rfl, if_pos hx8.symm]
      · rw [if_neg e, if_neg (by omega)]
    rw [e5]
    exact j3e hn hs hr s2 (s1 ++ [x]) k (q09 h) (by omega)
theorem plain_val (hK : 2000 ≤ K) {n : Int} {s : List Int} (hn : 0 ≤ n ∧ n ≤ 1000) (h : q3x n s) : q6m.f K n s = some (q4l n s 0) := by
  unfold q6m.f
  have hl := q5j h
  have w1 : IntKind.i64.wrap (1 + IntKind.i64.wrap ((IntKind.i64.wrap (IntKind.i64.wrap (n + 8) - 1)).tdiv 8)) = ((1 + ((n + 7) / 8).toNat : Nat) : Int) := by
    rw [q00 (n := n + 8) (by omega) (by omega), q00 (n := n + 8 - 1) (by omega) (by omega), Int.tdiv_eq_ediv_of_nonneg (by omega), show n + 8 - 1 = n + 7 by omega, q00 (n := (n + 7) / 8) (by omega) (by omega), q00 (by omega) (by omega)]
    omega
  have g := j3e (K := K) (n := n) (s := s) hn (by omega) h.2 s [] K rfl (by omega)
  have e0 : List.replicate (1 + ((n + 7) / 8).toNat) (0 : Int) = 0 :: q6e n [] := by
    rw [Nat.add_comm 1, List.replicate_succ]
    congr 1
    apply List.ext_getElem?
    intro i
    simp only [q6e, List.getElem?_map, List.getElem?_replicate]
    by_cases hi : i < ((n + 7) / 8).toNat
    · simp [hi, z3o]
    · simp [hi, List.getElem?_eq_none (l := List.range ((n + 7) / 8).toNat) (i := i) (by simpa using hi)]
  rw [w1]
  have e1 : (decide ((0 : Int) ≤ ((1 + ((n + 7) / 8).toNat : Nat) : Int)) && decide (((1 + ((n + 7) / 8).toNat : Nat) : Int) ≤ 1000000) && ((1 + ((n + 7) / 8).toNat : Nat) : Int) == ((1 + ((n + 7) / 8).toNat : Nat) : Int) && true && true && true) = true := by simp; omega
  rw [e1, cond_true, Int.toNat_natCast, e0]
  rw [show q6m.l0.f K K s ((s.length : Nat) : Int) (0 : Int) (0 :: q6e n []) = _ from g]
  rfl
theorem z1z (hK : 2000 ≤ K) {n : Int} {l : List Int} (h0 : 0 ≤ n) (hn : n < 18446744073709551616) (hl : l.length + 10 ≤ 1000000) : q0i.f K (IntKind.u64.wrap n) l = some (l ++ encU n.toNat) := by
  obtain ⟨m, rfl⟩ : ∃ m : Nat, n = m := ⟨n.toNat, by omega⟩
  rw [q4b (by omega) (by omega), z14 hK (by omega) hl, Int.toNat_natCast]
theorem gaps_l0 (hK : 2000 ≤ K) {n : Int} {s : List Int} (hn : n ≤ 1000) (hs : s.length ≤ 1000) : ∀ (s2 s1 : List Int) (k : Nat) (nx : Int) (w : List Int), s = s1 ++ s2 → s2.length < k → 0 ≤ nx → s2.Pairwise (· < ·) → (∀ x ∈ s2, nx ≤ x ∧ x < n) → w.length + 10 * s2.length + 10 ≤ 1000000 → q7l.l0.f K k nx s ((s.length : Nat) : Int) ((s1.length : Nat) : Int) w = some (w ++ q7w nx s2)
  | s2, s1, 0, nx, w, h, hk, _, _, _, _ => by omega
  | [], s1, k + 1, nx, w, h, hk, _, _, _, _ => by
    rw [q7l.l0.f]
    simp only [q2e h, cond_false, q7w, List.append_nil]
  | x :: s2, s1, k + 1, nx, w, h, hk, h0, hp, hr, hw => by
    rw [q7l.l0.f]
    have hl1 : s1.length ≤ 1000 := by rw [h] at hs; simp at hs; omega
    have hx := hr x (by simp)
    have hp' := List.pairwise_cons.1 hp
    simp only [List.length_cons] at hk hw
    have w1 : IntKind.i64.wrap (x - nx) = x - nx := q00 (by omega) (by omega)
    have w2 : IntKind.i64.wrap (x + 1) = x + 1 := q00 (by omega) (by omega)
    have hlen := q6q (x - nx).toNat
    simp only [q2b h, ge0, q2w h, cond_true, q0c, w1, w2, z1z hK (n := x - nx) (l := w) (by omega) (by omega) (by omega), q0y (l1 := s1) (x := x) (by omega)]
    rw [gaps_l0 hK hn hs s2 (s1 ++ [x]) k (x + 1) _ (q09 h) (by omega) (by omega) hp'.2 (fun y hy => ⟨by have := hp'.1 y hy; omega, (hr y (by simp [hy])).2⟩) (by simp only [List.length_append]; omega)]
    simp [q7w]
theorem z01 {l : List Int} (h : l.length ≤ 1000000) : q13.f K l = some l := by
  unfold q13.f q0q.f
  rw [Nat.ble_eq_true_of_le (by omega)]
  rfl
theorem gaps_val (hK : 2000 ≤ K) {n : Int} {s : List Int} (hn : 0 ≤ n ∧ n ≤ 1000) (h : q3x n s) : q7l.f K s = some (q4l n s 1) := by
  unfold q7l.f
  have hl := q5j h
  have h1 := q6q s.length
  have h2 := z53 s 0
  have g := gaps_l0 (K := K) hK (n := n) (s := s) hn.2 (by omega) s [] K 0 ([] ++ [1] ++ encU s.length) rfl (by omega) (by omega) h.1 h.2 (by simp only [List.length_append, List.length_cons, List.length_nil]; omega)
  have u := z14 (K := K) hK (n := s.length) (l := [] ++ [1]) (by omega) (by simp)
  rw [← q4b (n := ((s.length : Nat) : Int)) (by omega) (by omega)] at u
  simp only [q5w.f, q0c, q8c (K := K) (b := 1) (l := []) (by simp)]
  rw [u, q0c, show q7l.l0.f K K (0 : Int) s ((s.length : Nat) : Int) (0 : Int) ([] ++ [1] ++ encU s.length) = _ from g, q0c, z01 (by simp only [List.length_append, List.length_cons, List.length_nil]; omega)]
  simp [q4l]
theorem z4e : ∀ {R : List (Int × Int)} {p : Int × Int} {x : Int}, q7j (R ++ [p]) x = if p.1 + p.2 = x then R ++ [(p.1, p.2 + 1)] else R ++ [p, (x, 1)]
  | [], p, x => by simp [q7j]
  | [q], p, x => by
    show q :: q7j [p] x = _
    simp only [q7j]
    split <;> rfl
  | q :: q' :: r, p, x => by
    show q :: q7j ((q' :: r) ++ [p]) x = _
    rw [z4e (R := q' :: r)]
    split <;> rfl
theorem j2m {n : Int} {s : List Int} (hn : n ≤ 1000) (hs : s.length ≤ 1000) (hr : ∀ x ∈ s, 0 ≤ x ∧ x < n) : ∀ (s2 s1 : List Int) (k : Nat) (R : List (Int × Int)), s = s1 ++ s2 → s2.length < k → R.length ≤ s1.length → (∀ p ∈ R, 0 ≤ p.1 ∧ p.1 ≤ 1000 ∧ 0 ≤ p.2 ∧ p.2 ≤ s1.length) → q6u.l0.f K k s ((s.length : Nat) : Int) ((s1.length : Nat) : Int) R = some (s2.foldl q7j R)
  | s2, s1, 0, R, h, hk, _, _ => by omega
  | [], s1, k + 1, R, h, hk, _, _ => by
    rw [q6u.l0.f]
    simp only [q2e h, cond_false, List.foldl_nil]
  | x :: s2, s1, k + 1, R, h, hk, hR, hb => by
    rw [q6u.l0.f]
    have hl1 : s1.length ≤ 1000 := by rw [h] at hs; simp at hs; omega
    have hx := hr x (by rw [h]; simp)
    simp only [List.length_cons] at hk
    simp only [q2b h, ge0, q2w h, cond_true, q0c, q0y (l1 := s1) (x := x) (by omega)]
    have hnew : ∀ R' : List (Int × Int), R'.length ≤ s1.length + 1 → (∀ p ∈ R', 0 ≤ p.1 ∧ p.1 ≤ 1000 ∧ 0 ≤ p.2 ∧ p.2 ≤ s1.length + 1) → q6u.l0.f K k s ((s.length : Nat) : Int) (((s1 ++ [x]).length : Nat) : Int) R' = some (s2.foldl q7j R') := fun R' h1 h2 =>
      j2m hn hs hr s2 (s1 ++ [x]) k R' (q09 h) (by omega) (by simpa using h1) (fun p hp => by have := h2 p hp; simp; omega)
    rcases List.eq_nil_or_concat R with rfl | ⟨R0, p, rfl⟩
    · have e1 : decide (IntKind.i64.wrap ((([] : List (Int × Int)).length : Int) - 1) ≥ 0) = false := by
        rw [q00 (by simp) (by simp)]; simp
      simp only [e1, cond_false, q03, q0c, q2p (l := ([] : List (Int × Int))) (x := (x, (1 : Int))) (n := 1000000) (by simp), cond_true, List.foldl_cons]
      rw [hnew _ (by simp) (fun p hp => by simp at hp; subst hp; simp; omega)]
      rfl
    · simp only [List.concat_eq_append] at *
      have hp := hb p (by simp)
      have hlen : (R0 ++ [p]).length = R0.length + 1 := by simp
      have w1 : IntKind.i64.wrap ((((R0 ++ [p]).length : Nat) : Int) - 1) = ((R0.length : Nat) : Int) := by
        rw [hlen] at hR ⊢
        rw [q00 (by omega) (by omega)]; omega
      have e1 : decide (((R0.length : Nat) : Int) ≥ 0) = true := by simp
      have e2 : Nat.blt R0.length (R0 ++ [p]).length = true := Nat.ble_eq_true_of_le (by simp)
      have e3 : (R0 ++ [p])[R0.length]? = some p := by simp
      have w2 : IntKind.i64.wrap (p.1 + p.2) = p.1 + p.2 := q00 (by omega) (by omega)
      have w3 : IntKind.i64.wrap (p.2 + 1) = p.2 + 1 := q00 (by omega) (by omega)
      simp only [w1, e1, ge0', cond_true, Int.toNat_natCast, e2, e3, q0c, w2, w3, q03, List.foldl_cons, z4e]
      by_cases hc : p.1 + p.2 = x
      · have : (p.1 + p.2 == x) = true := by simp [hc]
        rw [this, cond_true, if_pos hc]
        have e4 : (R0 ++ [p]).set R0.length (p.1, p.2 + 1) = R0 ++ [(p.1, p.2 + 1)] := by simp
        rw [e4]
        refine hnew _ (by simp at hR ⊢; omega) fun q hq => ?_
        rcases List.mem_append.1 hq with hq | hq
        · have := hb q (by simp [hq]); omega
        · simp at hq; subst hq; simp; omega
      · have : (p.1 + p.2 == x) = false := by simp [hc]
        rw [this, cond_false, if_neg hc, q2p (by simp at hR ⊢; omega), cond_true]
        have e4 : R0 ++ [p] ++ [(x, 1)] = R0 ++ [p, (x, 1)] := by simp
        rw [e4]
        refine hnew _ (by simp at hR ⊢; omega) fun q hq => ?_
        simp only [List.mem_append, List.mem_cons, List.not_mem_nil, or_false] at hq
        rcases hq with hq | rfl | rfl
        · have := hb q (by simp [hq]); omega
        · omega
        · simp; omega
theorem split_val (hK : 2000 ≤ K) {n : Int} {s : List Int} (hn : 0 ≤ n ∧ n ≤ 1000) (h : q3x n s) : q6u.f K s = some (q4s s) := by
  unfold q6u.f
  have hl := q5j h
  exact j2m (K := K) hn.2 (by omega) h.2 s [] K [] rfl (by omega) (by simp) (by simp)
theorem runs_l0 (hK : 2000 ≤ K) {R : List (Int × Int)} (hR : R.length ≤ 1000) : ∀ (R2 R1 : List (Int × Int)) (k : Nat) (nx : Int) (w : List Int), R = R1 ++ R2 → R2.length < k → 0 ≤ nx → sepR nx R2 → (∀ p ∈ R2, p.1 ≤ 1000 ∧ p.2 ≤ 1000) → w.length + 20 * R2.length + 20 ≤ 1000000 → q7q.l0.f K k nx R ((R.length : Nat) : Int) ((R1.length : Nat) : Int) w = some (w ++ q7r nx R2)
  | R2, R1, 0, nx, w, h, hk, _, _, _, _ => by omega
  | [], R1, k + 1, nx, w, h, hk, _, _, _, _ => by
    rw [q7q.l0.f]
    simp only [q2e h, cond_false, q7r, List.append_nil]
  | p :: R2, R1, k + 1, nx, w, h, hk, h0, hs, hb, hw => by
    rw [q7q.l0.f]
    have hl1 : R1.length ≤ 1000 := by rw [h] at hR; simp at hR; omega
    obtain ⟨s1, s2, s3⟩ := hs
    have hp := hb p (by simp)
    simp only [List.length_cons] at hk hw
    have w1 : IntKind.i64.wrap (p.1 - nx) = p.1 - nx := q00 (by omega) (by omega)
    have w2 : IntKind.i64.wrap (p.2 - 1) = p.2 - 1 := q00 (by omega) (by omega)
    have w3 : IntKind.i64.wrap (IntKind.i64.wrap (p.1 + p.2) + 1) = p.1 + p.2 + 1 := by rw [q00 (n := p.1 + p.2) (by omega) (by omega), q00 (by omega) (by omega)]
    have g1 := q6q (p.1 - nx).toNat
    have g2 := q6q (p.2 - 1).toNat
    simp only [q2b h, ge0, q2w h, cond_true, q0c, w1, w2, w3, z1z hK (n := p.1 - nx) (l := w) (by omega) (by omega) (by omega), z1z hK (n := p.2 - 1) (l := w ++ encU (p.1 - nx).toNat) (by omega) (by omega) (by simp only [List.length_append]; omega), q0y (l1 := R1) (x := p) (by omega)]
    rw [runs_l0 hK hR R2 (R1 ++ [p]) k (p.1 + p.2 + 1) _ (q09 h) (by omega) (by omega) s3 (fun q hq => hb q (by simp [hq])) (by simp only [List.length_append]; omega)]
    simp [q7r]
theorem inRun {n : Int} {s : List Int} (h : q3x n s) : ∀ p ∈ q4s s, 0 ≤ p.1 ∧ 1 ≤ p.2 ∧ p.1 + p.2 ≤ n := by
  intro p hp
  obtain ⟨h1, h2⟩ := z2i h
  have key : ∀ {R : List (Int × Int)} {nx : Int}, sepR nx R → p ∈ R → nx ≤ p.1 ∧ 1 ≤ p.2 := by
    intro R
    induction R with
    | nil => intro _ _ h; simp at h
    | cons q r ih =>
      intro nx hs hm
      rcases List.mem_cons.1 hm with rfl | hm
      · exact ⟨hs.1, hs.2.1⟩
      · have := ih hs.2.2 hm
        have := hs.1
        have := hs.2.1
        omega
  obtain ⟨k1, k2⟩ := key h1 hp
  have hm : p.1 + p.2 - 1 ∈ s := by rw [← h2]; exact List.mem_flatMap.2 ⟨p, hp, z4o k2⟩
  have := (h.2 _ hm).2
  omega
theorem bruns_val (hK : 2000 ≤ K) {n : Int} {s : List Int} (hn : 0 ≤ n ∧ n ≤ 1000) (h : q3x n s) : q7q.f K s = some (q4l n s 2) := by
  unfold q7q.f
  have hl := q5j h
  have hsl := z57 h
  have h1 := q6q (q4s s).length
  have h2 := z6a (q4s s) 0
  have g := runs_l0 (K := K) hK (R := q4s s) (by omega) (q4s s) [] K 0 ([] ++ [2] ++ encU (q4s s).length) rfl (by omega) (by omega) (z2i h).1 (fun p hp => by have := inRun h p hp; omega) (by simp only [List.length_append, List.length_cons, List.length_nil]; omega)
  have u := z14 (K := K) hK (n := (q4s s).length) (l := [] ++ [2]) (by omega) (by simp)
  rw [← q4b (n := (((q4s s).length : Nat) : Int)) (by omega) (by omega)] at u
  simp only [split_val hK hn h, q5w.f, q0c, q8c (K := K) (b := 2) (l := []) (by simp)]
  rw [u, q0c, show q7q.l0.f K K (0 : Int) (q4s s) (((q4s s).length : Nat) : Int) (0 : Int) ([] ++ [2] ++ encU (q4s s).length) = _ from g, q0c, z01 (by simp only [List.length_append, List.length_cons, List.length_nil]; omega)]
  simp [q4l]
theorem z15 (hK : 2000 ≤ K) {n : Int} {s : List Int} (hn : 0 ≤ n ∧ n ≤ 1000) (h : q3x n s) {way : Int} (hw : way = 0 ∨ way = 1 ∨ way = 2) : q5q.f K n s way = some (q4l n s way) := by
  unfold q5q.f
  rcases hw with rfl | rfl | rfl
  · simp only [plain_val hK hn h]; rfl
  · simp only [gaps_val hK hn h]; rfl
  · simp only [bruns_val hK hn h]; rfl
theorem j04 {n : Int} {s : List Int} : wayS n s = 0 ∨ wayS n s = 1 ∨ wayS n s = 2 := by
  unfold wayS
  by_cases h1 : (q4l n s 1).length < (q4l n s 0).length <;> simp only [if_pos, if_neg, h1]
  · by_cases h2 : (q4l n s 2).length < (q4l n s 1).length <;> simp [h2]
  · by_cases h2 : (q4l n s 2).length < (q4l n s 0).length <;> simp [h2]
theorem way_val (hK : 2000 ≤ K) {n : Int} {s : List Int} (hn : 0 ≤ n ∧ n ≤ 1000) (h : q3x n s) : q6t.f K n s = some (wayS n s) := by
  unfold q6t.f
  obtain ⟨k, rfl⟩ : ∃ k, K = k + 3 := ⟨K - 3, by omega⟩
  have l0 := z15 (K := k + 3) hK hn h (way := 0) (by simp)
  have l1 := z15 (K := k + 3) hK hn h (way := 1) (by simp)
  have l2 := z15 (K := k + 3) hK hn h (way := 2) (by simp)
  have step2 : ∀ b : Int, q6t.l0.f (k + 3) (k + 1) n s b 1 2 2 = some b := fun b => by rw [q6t.l0.f]; rfl
  have step1 : ∀ b : Int, b = 0 ∨ b = 1 → q6t.l0.f (k + 3) (k + 2) n s b 1 2 1 = some (if (q4l n s 2).length < (q4l n s b).length then 2 else b) := fun b hb => by
    rw [q6t.l0.f]
    have lb' : q5q.f (k + 3) n s b = some (q4l n s b) := by rcases hb with rfl | rfl; exact l0; exact l1
    simp only [show decide ((1 : Int) < 2) = true from rfl, show decide ((0 : Int) ≤ 1) = true from rfl, show ((1 : Int).toNat.blt 2) = true from rfl, show ((1 : Int).toNat.beq 1) = true from rfl, cond_true, l2, lb', q0c, show IntKind.i64.wrap ((1 : Int) + 1) = 2 from rfl, step2]
    by_cases hc : (q4l n s 2).length < (q4l n s b).length
    · have : decide (((q4l n s 2).length : Int) < ((q4l n s b).length : Int)) = true := by simp; omega
      rw [this, cond_true, if_pos hc]
    · have : decide (((q4l n s 2).length : Int) < ((q4l n s b).length : Int)) = false := by simp; omega
      rw [this, cond_false, if_neg hc]
  have step0 : q6t.l0.f (k + 3) (k + 3) n s 0 1 2 0 = some (wayS n s) := by
    rw [q6t.l0.f]
    simp only [show decide ((0 : Int) < 2) = true from rfl, show decide ((0 : Int) ≤ 0) = true from rfl, show ((0 : Int).toNat.blt 2) = true from rfl, show ((0 : Int).toNat.beq 1) = false from rfl, show ((0 : Int).toNat.beq 0) = true from rfl, cond_true, cond_false, l0, l1, q0c, show IntKind.i64.wrap ((0 : Int) + 1) = 1 from rfl]
    unfold wayS
    by_cases hc : (q4l n s 1).length < (q4l n s 0).length
    · have : decide (((q4l n s 1).length : Int) < ((q4l n s 0).length : Int)) = true := by simp; omega
      rw [this, cond_true, if_pos hc, step1 1 (.inr rfl)]
    · have : decide (((q4l n s 1).length : Int) < ((q4l n s 0).length : Int)) = false := by simp; omega
      rw [this, cond_false, if_neg hc, step1 0 (.inl rfl)]
  rw [z0y hK hn h, q0c]
  simp only [Bool.not_true, cond_false]
  exact step0
theorem z20 (hK : 2000 ≤ K) {n : Int} {s w : List Int} (hn : 0 ≤ n ∧ n ≤ 1000) (h : q3x n s) (hw : w.length + (encS n s).length ≤ 1000000) : q74.f K n s w = some (Err.nil, w ++ encS n s) := by
  unfold q74.f
  rw [z0y hK hn h, q0c]
  simp only [Bool.not_true, cond_false]
  rw [way_val hK hn h, q0c, z15 hK hn h j04, q0c, show q4l n s (wayS n s) = encS n s from rfl, z44 hw]
  rfl
end Go.Proofs.YtdjkdmjdcdljmaaGreatDoor.AF
namespace Go.Proofs.YtdjkdmjdcdljmaaGreatDoor.AF
open Go.Proofs.q0a Go.Proofs.q0a.Runs
set_option maxRecDepth 100000
set_option maxHeartbeats 4000000
variable {K : Nat}
theorem z3m {n : Int} {s : List Int} (hn : 0 ≤ n ∧ n ≤ 1000) (h : q3x n s) : ∀ (k j : Nat), (j : Int) ≤ 8 * ((n + 7) / 8) → (8 * ((n + 7) / 8) - j).toNat < k → q4t.l0.f K k n (q6e n s) (8 * ((n + 7) / 8)) ((j : Nat) : Int) (s.filter fun x => decide (x < (j : Int))) = some (.inl s)
  | 0, j, hj, hk => by omega
  | k + 1, j, hj, hk => by
    rw [q4t.l0.f]
    by_cases he : (j : Int) < 8 * ((n + 7) / 8)
    · have e1 : decide (((j : Nat) : Int) < 8 * ((n + 7) / 8)) = true := by simpa using he
      have t1 : Int.tdiv ((j : Nat) : Int) 8 = ((j / 8 : Nat) : Int) := by rw [Int.tdiv_eq_ediv_of_nonneg (by omega)]; omega
      have t2 : Int.tmod ((j : Nat) : Int) 8 = ((j % 8 : Nat) : Int) := by rw [Int.tmod_eq_emod_of_nonneg (by omega)]; omega
      have w1 : IntKind.i64.wrap ((j / 8 : Nat) : Int) = ((j / 8 : Nat) : Int) := q00 (by omega) (by omega)
      have e2 : (q6e n s)[j / 8]? = some (((z3o s ((j / 8 : Nat) : Int)).toNat : Nat) : Int) := by
        have hq : j / 8 < ((n + 7) / 8).toNat := by omega
        simp [q6e, hq]
      have e3 : decide (((j % 8 : Nat) : Int) < 0) = false := by simp; omega
      have e4 := get_bit (z3o s ((j / 8 : Nat) : Int)) (k := j % 8) (by omega)
      rw [byteS_bit (by omega)] at e4
      have hj8 : 8 * ((j / 8 : Nat) : Int) + ((j % 8 : Nat) : Int) = (j : Int) := by omega
      rw [hj8] at e4
      have w2 : IntKind.i64.wrap (((j : Nat) : Int) + 1) = ((j + 1 : Nat) : Int) := by rw [q00 (by omega) (by omega)]; omega
      have hcast : ((j + 1 : Nat) : Int) = (j : Int) + 1 := by omega
      have ih := z3m hn h k (j + 1) (by omega) (by omega)
      rw [hcast] at ih
      simp only [e1, cond_true, t1, t2, w1, ge0, Int.toNat_natCast, e2, q0c, e3, cond_false, e4]
      rw [w2, hcast]
      by_cases hm : (j : Int) ∈ s
      · have hr := h.2 _ hm
        have e5 : decide (((j : Nat) : Int) ≥ n) = false := by simp; omega
        have hf := filt_in (n := n) h.1 hm
        have hlen : (s.filter fun x => decide (x < (j : Int))).length ≤ s.length := List.length_filter_le _ _
        have hl := q5j h
        simp only [hm, decide_true, Bool.not_true, cond_false, e5, q2p (l := s.filter fun x => decide (x < (j : Int))) (x := (j : Int)) (n := 1000000) (by omega), cond_true]
        rw [← hf]
        exact ih
      · have hf := filt_out hm
        simp only [hm, decide_false, Bool.not_false, cond_true]
        rw [← hf]
        exact ih
    · have e1 : decide (((j : Nat) : Int) < 8 * ((n + 7) / 8)) = false := by simpa using he
      simp only [e1, cond_false]
      rw [filt_all fun x hx => by have := (h.2 x hx).2; omega]
theorem z72 (hK : 2000 ≤ K) {n : Int} {s l pre post : List Int} (hn : 0 ≤ n ∧ n ≤ 1000) (h : q3x n s) (hd : l = pre ++ (q6e n s ++ post)) (hl : l.length ≤ 1000000) : q4t.f K n l ((pre.length : Nat) : Int) = some (s, Err.nil, (((pre ++ q6e n s).length : Nat) : Int)) := by
  unfold q4t.f
  have hb := z2o n s
  have w1 : IntKind.i64.wrap ((IntKind.i64.wrap (IntKind.i64.wrap (n + 8) - 1)).tdiv 8) = (((q6e n s).length : Nat) : Int) := by
    rw [q00 (n := n + 8) (by omega) (by omega), q00 (n := n + 8 - 1) (by omega) (by omega), Int.tdiv_eq_ediv_of_nonneg (by omega), show n + 8 - 1 = n + 7 by omega, q00 (n := (n + 7) / 8) (by omega) (by omega), hb]
    omega
  have w2 : IntKind.i64.wrap (8 * (((q6e n s).length : Nat) : Int)) = 8 * ((n + 7) / 8) := by
    rw [hb, q00 (by omega) (by omega)]; omega
  have g := z3m (K := K) hn h K 0 (by omega) (by omega)
  rw [show ((0 : Nat) : Int) = 0 from rfl, filt_none fun x hx => (h.2 x hx).1] at g
  rw [w1, z11 hd hl, q0c]
  simp only [Err.isNil, Bool.not_true, cond_true, cond_false, w2]
  rw [show q4t.l0.f K K n (q6e n s) (8 * ((n + 7) / 8)) (0 : Int) [] = _ from g]
  rfl
theorem z4c (hK : 2000 ≤ K) {a n x : Int} {l pre post : List Int} (h0 : 0 ≤ a ∧ a ≤ x ∧ x < n) (hn : n ≤ 1000) (h : l = pre ++ (encU (x - a).toNat ++ post)) (hl : l.length ≤ 1000000) : q7h.f K a n l ((pre.length : Nat) : Int) = some (x, Err.nil, (((pre ++ encU (x - a).toNat).length : Nat) : Int)) := by
  unfold q7h.f
  have e1 : decide (a ≥ n) = false := by simp; omega
  obtain ⟨m, hm⟩ : ∃ m : Nat, n - 1 - a = m := ⟨(n - 1 - a).toNat, by omega⟩
  have w1 : IntKind.u64.wrap (IntKind.i64.wrap (IntKind.i64.wrap (n - 1) - a)) = ((m : Nat) : Int) := by
    rw [q00 (n := n - 1) (by omega) (by omega), q00 (n := n - 1 - a) (by omega) (by omega), hm, q4b (by omega) (by omega)]
  have u := q9p (K := K) hK (most := m) (n := (x - a).toNat) h hl (by omega) (by omega)
  simp only [e1, cond_false, w1]
  rw [u, q0c]
  have w2 : IntKind.i64.wrap (a + IntKind.i64.wrap (((x - a).toNat : Nat) : Int)) = x := by
    rw [q00 (n := (((x - a).toNat : Nat) : Int)) (by omega) (by omega), q00 (by omega) (by omega)]; omega
  simp only [w2]
theorem z4s (hK : 2000 ≤ K) {n : Int} {l post : List Int} (hn : n ≤ 1000) (hl : l.length ≤ 1000000) {c : Nat} (hc : c ≤ 1000) : ∀ (r acc pre : List Int) (k : Nat) (nx : Int), l = pre ++ (q7w nx r ++ post) → acc.length + r.length = c → r.length < k → 0 ≤ nx → r.Pairwise (· < ·) → (∀ x ∈ r, nx ≤ x ∧ x < n) →
    q4n.l0.f K k n nx ((c : Nat) : Int) ((acc.length : Nat) : Int) l ((pre.length : Nat) : Int) acc = some (.inl ((((pre ++ q7w nx r).length : Nat) : Int), acc ++ r))
  | r, acc, pre, 0, nx, h, hr, hk, _, _, _ => by omega
  | [], acc, pre, k + 1, nx, h, hr, hk, _, _, _ => by
    rw [q4n.l0.f]
    have e : decide (((acc.length : Nat) : Int) < ((c : Nat) : Int)) = false := by simp at hr ⊢; omega
    simp only [e, cond_false, q7w, List.append_nil]
  | x :: r, acc, pre, k + 1, nx, h, hr, hk, h0, hp, hx => by
    rw [q4n.l0.f]
    simp only [List.length_cons] at hr hk
    have e : decide (((acc.length : Nat) : Int) < ((c : Nat) : Int)) = true := by simp; omega
    have hx1 := hx x (by simp)
    have hp' := List.pairwise_cons.1 hp
    have h' : l = pre ++ (encU (x - nx).toNat ++ (q7w (x + 1) r ++ post)) := by rw [h]; simp [q7w]
    have t := z4c (K := K) hK (a := nx) (n := n) (x := x) ⟨h0, hx1.1, hx1.2⟩ hn h' hl
    have w1 : IntKind.i64.wrap (x + 1) = x + 1 := q00 (by omega) (by omega)
    have w2 : IntKind.u64.wrap (((acc.length : Nat) : Int) + 1) = (((acc ++ [x]).length : Nat) : Int) := by rw [q4b (by omega) (by omega)]; simp
    simp only [e, cond_true, t, q0c, Err.isNil, Bool.not_true, cond_false, q2p (l := acc) (x := x) (n := 1000000) (by omega), w1, w2]
    rw [z4s (post := post) hK hn hl hc r (acc ++ [x]) (pre ++ encU (x - nx).toNat) k (x + 1) (by rw [h']; simp) (by simp; omega) (by omega) (by omega) hp'.2 fun y hy => ⟨by have := hp'.1 y hy; omega, (hx y (by simp [hy])).2⟩]
    simp [q7w]
theorem z8x (hK : 2000 ≤ K) {n : Int} {s l pre post : List Int} (hn : 0 ≤ n ∧ n ≤ 1000) (h : q3x n s) (hd : l = pre ++ (encU s.length ++ (q7w 0 s ++ post))) (hl : l.length ≤ 1000000) : q4n.f K n l ((pre.length : Nat) : Int) = some (s, Err.nil, (((pre ++ (encU s.length ++ q7w 0 s)).length : Nat) : Int)) := by
  unfold q4n.f
  have hsl := q5j h
  obtain ⟨m, rfl⟩ : ∃ m : Nat, n = m := ⟨n.toNat, by omega⟩
  have u := q9p (K := K) hK (most := m) (n := s.length) hd hl (by omega) (by omega)
  rw [q4b (n := ((m : Nat) : Int)) (by omega) (by omega), u, q0c]
  simp only [Err.isNil, Bool.not_true, cond_true, cond_false]
  have g := z4s (K := K) hK (n := (m : Int)) (l := l) (post := post) hn.2 hl (c := s.length) (by omega) s [] (pre ++ encU s.length) K 0 (by rw [hd]; simp) (by simp) (by omega) (by omega) h.1 h.2
  rw [show q4n.l0.f K K ((m : Nat) : Int) (0 : Int) ((s.length : Nat) : Int) (0 : Int) l (((pre ++ encU s.length).length : Nat) : Int) [] = _ from g]
  simp [q0c]
theorem expand_up {a b : Int} (h : a ≤ b) : expand (a, b - a + 1) = a :: expand (a + 1, b - a) := by
  unfold expand
  have e : (b - a + 1).toNat = (b - a).toNat + 1 := by omega
  simp only [e, List.range_succ_eq_map, List.map_cons, List.map_map]
  congr 1
  · simp
  · refine List.map_congr_left fun j _ => ?_
    simp only [Function.comp]
    omega
theorem z4m {b : Int} (hb : b ≤ 1000) : ∀ (k : Nat) (a : Int) (acc : List Int), 0 ≤ a → a ≤ b + 1 → (b + 1 - a).toNat < k → acc.length + (b + 1 - a).toNat < 1000000 → q31.l1.f K k b a acc = some (acc ++ expand (a, b + 1 - a))
  | 0, a, acc, _, _, hk, _ => by omega
  | k + 1, a, acc, h0, h1, hk, hl => by
    rw [q31.l1.f]
    by_cases h : a ≤ b
    · have e : decide (a ≤ b) = true := by simpa using h
      have w : IntKind.i64.wrap (a + 1) = a + 1 := q00 (by omega) (by omega)
      simp only [e, cond_true, q2p (l := acc) (x := a) (n := 1000000) (by omega), w]
      rw [z4m hb k (a + 1) (acc ++ [a]) (by omega) (by omega) (by omega) (by simp; omega)]
      have e1 : b + 1 - a = b - a + 1 := by omega
      have e2 : b + 1 - (a + 1) = b - a := by omega
      rw [e1, expand_up h, e2]
      simp
    · have e : decide (a ≤ b) = false := by simpa using h
      have e1 : b + 1 - a = 0 := by omega
      simp only [e, cond_false, e1]
      simp [expand]
theorem z4l (hK : 2000 ≤ K) {n : Int} {l post : List Int} (hn : n ≤ 1000) (hl : l.length ≤ 1000000) {c : Nat} (hc : c ≤ 1000) : ∀ (r : List (Int × Int)) (acc pre : List Int) (i : Nat) (k : Nat) (nx : Int), l = pre ++ (q7r nx r ++ post) → i + r.length = c → r.length < k → 0 ≤ nx → sepR nx r → (∀ p ∈ r, p.1 + p.2 ≤ n) → acc.length + (r.flatMap expand).length ≤ 1000 →
    q31.l0.f K k n nx ((c : Nat) : Int) ((i : Nat) : Int) l ((pre.length : Nat) : Int) acc = some (.inl ((((pre ++ q7r nx r).length : Nat) : Int), acc ++ r.flatMap expand))
  | r, acc, pre, i, 0, nx, h, hr, hk, _, _, _, _ => by omega
  | [], acc, pre, i, k + 1, nx, h, hr, hk, _, _, _, _ => by
    rw [q31.l0.f]
    have e : decide (((i : Nat) : Int) < ((c : Nat) : Int)) = false := by simp at hr ⊢; omega
    simp only [e, cond_false, q7r, List.append_nil, List.flatMap_nil]
  | p :: r, acc, pre, i, k + 1, nx, h, hr, hk, h0, hs, hb, ha => by
    rw [q31.l0.f]
    simp only [List.length_cons] at hr hk
    have e : decide (((i : Nat) : Int) < ((c : Nat) : Int)) = true := by simp; omega
    obtain ⟨s1, s2, s3⟩ := hs
    have hp := hb p (by simp)
    have h' : l = pre ++ (encU (p.1 - nx).toNat ++ (encU (p.2 - 1).toNat ++ (q7r (p.1 + p.2 + 1) r ++ post))) := by rw [h]; simp [q7r]
    have t := z4c (K := K) hK (a := nx) (n := n) (x := p.1) ⟨h0, s1, by omega⟩ hn h' hl
    have e0 : p.1 + p.2 - 1 - p.1 = p.2 - 1 := by omega
    have t2 := z4c (K := K) hK (a := p.1) (n := n) (x := p.1 + p.2 - 1) (l := l) (pre := pre ++ encU (p.1 - nx).toNat) (post := q7r (p.1 + p.2 + 1) r ++ post) ⟨by omega, by omega, by omega⟩ hn (by rw [h', e0]; simp) hl
    rw [e0] at t2
    have w1 : IntKind.i64.wrap (p.1 + p.2 - 1 + 2) = p.1 + p.2 + 1 := by rw [q00 (by omega) (by omega)]; omega
    have w2 : IntKind.u64.wrap (((i : Nat) : Int) + 1) = ((i + 1 : Nat) : Int) := by rw [q4b (by omega) (by omega)]; simp
    have hel : (expand p).length = p.2.toNat := by simp [expand]
    simp only [List.flatMap_cons, List.length_append, hel] at ha
    have g1 := z4m (K := K) (b := p.1 + p.2 - 1) (by omega) K p.1 acc (by omega) (by omega) (by omega) (by omega)
    have e5 : p.1 + p.2 - 1 + 1 - p.1 = p.2 := by omega
    rw [e5] at g1
    simp only [e, cond_true, t, t2, q0c, Err.isNil, Bool.not_true, cond_false, w1, w2, g1]
    rw [z4l (post := post) hK hn hl hc r (acc ++ expand p) (pre ++ encU (p.1 - nx).toNat ++ encU (p.2 - 1).toNat) (i + 1) k (p.1 + p.2 + 1) (by rw [h']; simp) (by omega) (by omega) (by omega) s3 (fun q hq => hb q (by simp [hq])) (by simp only [List.length_append, hel]; omega)]
    simp [q7r]
theorem z95 (hK : 2000 ≤ K) {n : Int} {s l pre post : List Int} (hn : 0 ≤ n ∧ n ≤ 1000) (h : q3x n s) (hd : l = pre ++ (encU (q4s s).length ++ (q7r 0 (q4s s) ++ post))) (hl : l.length ≤ 1000000) : q31.f K n l ((pre.length : Nat) : Int) = some (s, Err.nil, (((pre ++ (encU (q4s s).length ++ q7r 0 (q4s s))).length : Nat) : Int)) := by
  unfold q31.f
  have hsl := q5j h
  have hsp := z57 h
  obtain ⟨q1, q2⟩ := z2i h
  obtain ⟨m, rfl⟩ : ∃ m : Nat, n = m := ⟨n.toNat, by omega⟩
  have u := q9p (K := K) hK (most := m) (n := (q4s s).length) hd hl (by omega) (by omega)
  rw [q4b (n := ((m : Nat) : Int)) (by omega) (by omega), u, q0c]
  simp only [Err.isNil, Bool.not_true, cond_true, cond_false]
  have g := z4l (K := K) hK (n := (m : Int)) (l := l) (post := post) hn.2 hl (c := (q4s s).length) (by omega) (q4s s) [] (pre ++ encU (q4s s).length) 0 K 0 (by rw [hd]; simp) (by simp) (by omega) (by omega) q1 (fun p hp => (inRun h p hp).2.2) (by rw [q2]; simp; omega)
  rw [show q31.l0.f K K ((m : Nat) : Int) (0 : Int) (((q4s s).length : Nat) : Int) (0 : Int) l (((pre ++ encU (q4s s).length).length : Nat) : Int) [] = _ from g, q2]
  simp [q0c]
theorem body_val (hK : 2000 ≤ K) {n : Int} {s l pre post : List Int} (hn : 0 ≤ n ∧ n ≤ 1000) (h : q3x n s) {way : Int} (hw : way = 0 ∨ way = 1 ∨ way = 2) (hd : l = pre ++ (q4l n s way ++ post)) (hl : l.length ≤ 1000000) : z0o.f K n l ((pre.length : Nat) : Int) = some (s, Err.nil, (((pre ++ q4l n s way).length : Nat) : Int)) := by
  unfold z0o.f
  rcases hw with rfl | rfl | rfl
  · have e : q4l n s 0 = 0 :: q6e n s := rfl
    rw [e] at hd ⊢
    rw [q5n (l := l) (pre := pre) (v := 0) (post := q6e n s ++ post) (by rw [hd]; simp) hl, q0c]
    have g := z72 (K := K) hK hn h (l := l) (pre := pre ++ [0]) (post := post) (by rw [hd]; simp) hl
    simp only [Err.isNil, Bool.not_true, cond_true, cond_false, show ((0 : Int) == 0) = true from rfl, g]
    simp
  · have e : q4l n s 1 = 1 :: (encU s.length ++ q7w 0 s) := rfl
    rw [e] at hd ⊢
    rw [q5n (l := l) (pre := pre) (v := 1) (post := encU s.length ++ q7w 0 s ++ post) (by rw [hd]; simp) hl, q0c]
    have g := z8x (K := K) hK hn h (l := l) (pre := pre ++ [1]) (post := post) (by rw [hd]; simp) hl
    simp only [Err.isNil, Bool.not_true, cond_true, cond_false, show ((1 : Int) == 0) = false from rfl, show ((1 : Int) == 1) = true from rfl, g]
    simp
  · have e : q4l n s 2 = 2 :: (encU (q4s s).length ++ q7r 0 (q4s s)) := rfl
    rw [e] at hd ⊢
    rw [q5n (l := l) (pre := pre) (v := 2) (post := encU (q4s s).length ++ q7r 0 (q4s s) ++ post) (by rw [hd]; simp) hl, q0c]
    have g := z95 (K := K) hK hn h (l := l) (pre := pre ++ [2]) (post := post) (by rw [hd]; simp) hl
    simp only [Err.isNil, Bool.not_true, cond_true, cond_false, show ((2 : Int) == 0) = false from rfl, show ((2 : Int) == 1) = false from rfl, show ((2 : Int) == 2) = true from rfl, g]
    simp
theorem j12 {a : List Int} : q83.f K a a = some true := by simp [q83.f]
theorem bread_val (hK : 2000 ≤ K) {n : Int} {s l pre post : List Int} (hn : 0 ≤ n ∧ n ≤ 1000) (h : q3x n s) (hd : l = pre ++ (encS n s ++ post)) (hl : l.length ≤ 1000000) : z0j.f K n l ((pre.length : Nat) : Int) = some (s, Err.nil, (((pre ++ encS n s).length : Nat) : Int)) := by
  unfold z0j.f
  have e1 : decide (n < 0) = false := by simp; omega
  have e2 : decide (n > 4096) = false := by simp; omega
  have g := body_val (K := K) hK hn h (j04 (n := n) (s := s)) (l := l) (pre := pre) (post := post) hd hl
  rw [show q4l n s (wayS n s) = encS n s from rfl] at g
  have hlen := congrArg List.length hd
  simp only [List.length_append] at hlen
  have w1 : IntKind.i64.wrap ((((pre ++ encS n s).length : Nat) : Int) - ((pre.length : Nat) : Int)) = (((encS n s).length : Nat) : Int) := by
    rw [List.length_append, q00 (by omega) (by omega)]; omega
  simp only [q1m.f, q4a.f, q0c, e1, e2, cond_false, q03, g, Err.isNil, Bool.not_true, cond_true, w1, z11 (K := K) hd hl, way_val hK hn h, z15 hK hn h j04, show q4l n s (wayS n s) = encS n s from rfl, j12]
end Go.Proofs.YtdjkdmjdcdljmaaGreatDoor.AF
namespace Go.Proofs.YtdjkdmjdcdljmaaGreatDoor.AF
open Go.Proofs.q0a Go.Proofs.q0a.Runs
set_option maxRecDepth 100000
set_option maxHeartbeats 4000000
variable {K : Nat}
theorem q6n {a : Int} (h : 1 ≤ a ∧ a ≤ 7) : q73.f K a = some true := by
  have e1 : decide (a ≥ 1) = true := by simp; omega
  have e2 : decide (a ≤ 7) = true := by simp; omega
  simp only [q73.f, e1, e2, cond_true, q03, q0c]
theorem q6r {a : Int} (h : 1 ≤ a ∧ a ≤ 3) : q6c.f K a = some true := by
  have e1 : decide (a ≥ 1) = true := by simp; omega
  have e2 : decide (a ≤ 3) = true := by simp; omega
  simp only [q6c.f, e1, e2, cond_true, q03, q0c]
theorem j4q {b : Bool} {n : Int} (h : b = false → n = 0) : q78.f K b n = some true := by
  cases b with
  | true => simp [q78.f, q5z.f]
  | false => simp [q78.f, q5z.f, h rfl]
theorem q5v {a b : Int} (h : a ≤ b) : q0z.f K a b = some true := by simp [q0z.f, h]
theorem z03 {v : q0d} (h : Vr v) : q5p.f K v.1 v.2.1.1 v.2.1.2 v.2.2.1.1 v.2.2.1.2 v.2.2.2 = some true := by
  simp only [q5p.f, q6n h.s, j4q h.k.2, q5v h.le, q6r h.p, q0c, cond_true, q03]
theorem put_l0 (hK : 2000 ≤ K) {l : List Int} (hl : l.length ≤ 10) (hr : ∀ n ∈ l, i64 n) : ∀ (l2 l1 : List Int) (k : Nat) (w : List Int), l = l1 ++ l2 → l2.length < k → w.length + 10 * l2.length + 10 ≤ 1000000 → q5e.l0.f K k ((l.length : Nat) : Int) ((l1.length : Nat) : Int) l w = some (w ++ l2.flatMap encI)
  | l2, l1, 0, w, h, hk, hw => by omega
  | [], l1, k + 1, w, h, hk, hw => by
    rw [q5e.l0.f]
    simp only [q2e h, cond_false, List.flatMap_nil, List.append_nil]
  | x :: l2, l1, k + 1, w, h, hk, hw => by
    rw [q5e.l0.f]
    have hl1 : l1.length ≤ 10 := by rw [h] at hl; simp at hl; omega
    have hx := hr x (by rw [h]; simp)
    have hlen := q89 x
    simp only [List.length_cons] at hw hk
    simp only [q2b h, ge0', blt_mid h, q2w h, cond_true, q0c, z8k hK hx (l := w) (by omega), q0y (l1 := l1) (x := x) (by omega)]
    rw [put_l0 hK hl hr l2 (l1 ++ [x]) k _ (q09 h) (by omega) (by simp only [List.length_append]; omega)]
    simp
theorem j1d (hK : 2000 ≤ K) {v : q0d} {w : List Int} (h : Vr v) (hw : w.length + 50 ≤ 1000000) : q5e.f K v.1 v.2.1.1 v.2.1.2 v.2.2.1.1 v.2.2.1.2 v.2.2.2 w = some (Err.nil, w ++ encV v) := by
  have hR := z03 (K := K) h
  obtain ⟨hs, hk, hlo, hhi, hle, hp⟩ := h
  obtain ⟨s, ⟨b, n⟩, ⟨lo, hi⟩, p⟩ := v
  dsimp only at *
  obtain ⟨s, rfl⟩ : ∃ m : Nat, s = m := ⟨s.toNat, by omega⟩
  obtain ⟨p, rfl⟩ : ∃ m : Nat, p = m := ⟨p.toNat, by omega⟩
  have key := put_h ⟨s, by omega⟩ ⟨p, by omega⟩ b (lo != least) (hi != most)
  have hlt := hB_lt ⟨s, by omega⟩ ⟨p, by omega⟩ b (lo != least) (hi != most)
  have loop : ∀ l : List Int, l.length ≤ 3 → (∀ n ∈ l, i64 n) → q5e.l0.f K K ((l.length : Nat) : Int) (0 : Int) l (w ++ [((hB s p b (lo != least) (hi != most) : Nat) : Int)]) = some (w ++ [((hB s p b (lo != least) (hi != most) : Nat) : Int)] ++ l.flatMap encI) := fun l h1 h2 =>
    put_l0 hK (by omega) h2 l [] K _ rfl (by omega) (by simp only [List.length_append, List.length_cons, List.length_nil]; omega)
  unfold q5e.f
  rw [hR, q0c]
  simp only [Bool.not_true, cond_false]
  cases b <;> cases hlo' : (lo != least) <;> cases hhi' : (hi != most) <;> rw [hlo', hhi'] at key loop <;>
    simp only [hAdd, hOr, if_true, if_false, Bool.false_eq_true] at key <;>
    simp only [show (lo != (-9223372036854775808 : Int)) = _ from hlo', show (hi != (9223372036854775807 : Int)) = _ from hhi', cond_true, cond_false, key, q8c (K := K) (l := w) (show w.length < 1000000 by omega), q0c]
  case false.false.false =>
    rw [show q5e.l0.f K K ((0 : Nat) : Int) (0 : Int) [] _ = _ from loop [] (by simp) (by simp)]
    simp [encV, hlo', hhi']
  case false.false.true =>
    rw [loop ([] ++ [hi]) (by simp) (by simp; exact hhi)]
    simp [encV, hlo', hhi']
  case false.true.false =>
    rw [loop ([] ++ [lo]) (by simp) (by simp; exact hlo)]
    simp [encV, hlo', hhi']
  case false.true.true =>
    rw [loop ([] ++ [lo] ++ [hi]) (by simp) (by simp; exact ⟨hlo, hhi⟩)]
    simp [encV, hlo', hhi']
  case true.false.false =>
    rw [loop ([] ++ [n]) (by simp) (by simp; exact hk.1)]
    simp [encV, hlo', hhi']
  case true.false.true =>
    rw [loop ([] ++ [n] ++ [hi]) (by simp) (by simp; exact ⟨hk.1, hhi⟩)]
    simp [encV, hlo', hhi']
  case true.true.false =>
    rw [loop ([] ++ [n] ++ [lo]) (by simp) (by simp; exact ⟨hk.1, hlo⟩)]
    simp [encV, hlo', hhi']
  case true.true.true =>
    rw [loop ([] ++ [n] ++ [lo] ++ [hi]) (by simp) (by simp; exact ⟨hk.1, hlo, hhi⟩)]
    simp [encV, hlo', hhi']
end Go.Proofs.YtdjkdmjdcdljmaaGreatDoor.AF
namespace Go.Proofs.YtdjkdmjdcdljmaaGreatDoor.AF
open Go.Proofs.q0a Go.Proofs.q0a.Runs
set_option maxRecDepth 100000
set_option maxHeartbeats 4000000
variable {K : Nat}
theorem less_val (a b : Int) : q8i.f K a b = some (decide (a < b)) := by
  have : (a != a) = false := by simp
  simp only [q8i.f, q7u.f, this, q0c, cond_false, q03]
theorem bs_l0 {l : List Int} {x : Int} (hl : l.length ≤ 1000) : ∀ (n k i j : Nat), j - i ≤ n → n < k → i ≤ j → j ≤ l.length → (∀ m v, l[m]? = some v → m < i → v < x) → (∀ m v, l[m]? = some v → j ≤ m → x ≤ v) → l.Pairwise (· ≤ ·) →
    ∃ r : Nat, q2j.l0.f K k l x ((i : Nat) : Int) ((j : Nat) : Int) = some ((r : Nat) : Int) ∧ r ≤ l.length ∧ (∀ m v, l[m]? = some v → m < r → v < x) ∧ (∀ m v, l[m]? = some v → r ≤ m → x ≤ v)
  | n, 0, i, j, hn, hk, hij, hj, h1, h2, hs => by omega
  | n, k + 1, i, j, hn, hk, hij, hj, h1, h2, hs => by
    rw [q2j.l0.f]
    by_cases hlt : i < j
    · have e1 : decide (((i : Nat) : Int) < ((j : Nat) : Int)) = true := by simp <;> omega
      have w1 : IntKind.i64.wrap (((i : Nat) : Int) + ((j : Nat) : Int)) = ((i + j : Nat) : Int) := by rw [q00 (by omega) (by omega)]; simp
      have w2 : IntKind.u64.wrap ((i + j : Nat) : Int) = ((i + j : Nat) : Int) := q4b (by omega) (by omega)
      have w3 : (((i + j : Nat) : Int).fdiv ((2 : Int) ^ 1)) = (((i + j) / 2 : Nat) : Int) := by rw [Int.fdiv_eq_ediv_of_nonneg _ (by decide)]; simp
      have w4 : IntKind.i64.wrap (((i + j) / 2 : Nat) : Int) = (((i + j) / 2 : Nat) : Int) := q00 (by omega) (by omega)
      have w5 : IntKind.i64.wrap ((((i + j) / 2 : Nat) : Int) + 1) = (((i + j) / 2 + 1 : Nat) : Int) := by rw [q00 (by omega) (by omega)]; simp
      have hm : (i + j) / 2 < l.length := by omega
      simp only [e1, cond_true, w1, w2, w3, w4, ge0, Int.toNat_natCast, List.getElem?_eq_getElem hm, q0c, less_val, w5]
      have sorted : ∀ (a b : Nat) (va vb : Int), l[a]? = some va → l[b]? = some vb → a ≤ b → va ≤ vb := fun a b va vb ha hb hab => by
        rcases Nat.lt_or_ge a b with h | h
        · obtain ⟨ha1, ha2⟩ := List.getElem?_eq_some_iff.1 ha
          obtain ⟨hb1, hb2⟩ := List.getElem?_eq_some_iff.1 hb
          rw [← ha2, ← hb2]
          exact List.pairwise_iff_getElem.1 hs a b ha1 hb1 h
        · have : a = b := by omega
          subst this
          rw [ha] at hb; cases hb; omega
      have hgm := List.getElem?_eq_getElem hm
      by_cases hlx : l[(i + j) / 2] < x
      · simp only [decide_eq_true hlx, cond_true]
        exact bs_l0 hl (n - 1) k ((i + j) / 2 + 1) j (by omega) (by omega) (by omega) hj (fun m v hv hmm => by have := sorted m ((i + j) / 2) v _ hv hgm (by omega); omega) h2 hs
      · simp only [decide_eq_false hlx, cond_false]
        exact bs_l0 hl (n - 1) k i ((i + j) / 2) (by omega) (by omega) (by omega) (by omega) h1 (fun m v hv hmm => by have := sorted ((i + j) / 2) m _ v hgm hv hmm; omega) hs
    · have e1 : decide (((i : Nat) : Int) < ((j : Nat) : Int)) = false := by simp <;> omega
      simp only [e1, cond_false]
      have : i = j := by omega
      subst this
      exact ⟨i, rfl, hj, h1, h2⟩
theorem has_val (hK : 2000 ≤ K) {l : List Int} {x : Int} (hl : l.length ≤ 1000) (hs : l.Pairwise (· ≤ ·)) : q9g.f K l x = some (decide (x ∈ l)) := by
  unfold q9g.f q2j.f
  obtain ⟨r, h1, h2, h3, h4⟩ := bs_l0 (K := K) (x := x) hl l.length K 0 l.length (by omega) (by omega) (by omega) (by omega) (fun m v hv hm => by omega) (fun m v hv hm => by have := (List.getElem?_eq_some_iff.1 hv).1; omega) hs
  rw [show q2j.l0.f K K l x (0 : Int) ((l.length : Nat) : Int) = some ((r : Nat) : Int) from h1]
  simp only [q0c, q03]
  by_cases hr : r < l.length
  · have e1 : decide (((r : Nat) : Int) < ((l.length : Nat) : Int)) = true := by simp <;> omega
    simp only [e1, ge0, cond_true, Int.toNat_natCast, List.getElem?_eq_getElem hr, q0c, q52.f]
    by_cases hx : l[r] = x
    · have : (l[r] == x) = true := by simp [hx]
      simp only [this, cond_true, q0c]
      have : x ∈ l := by rw [← hx]; exact List.getElem_mem hr
      simp [this]
    · have : (l[r] == x) = false := by simp [hx]
      have nn : (l[r] != l[r]) = false := by simp
      simp only [this, cond_false, nn, q0c]
      have : x ∉ l := fun hm => by
        obtain ⟨m, hm⟩ := List.mem_iff_getElem?.1 hm
        rcases Nat.lt_or_ge m r with h | h
        · have := h3 m x hm h; omega
        · have a := h4 r _ (List.getElem?_eq_getElem hr) (Nat.le_refl _)
          rcases Nat.lt_or_ge r m with h5 | h5
          · obtain ⟨q1, q2⟩ := List.getElem?_eq_some_iff.1 hm
            have := List.pairwise_iff_getElem.1 hs r m hr q1 h5
            rw [q2] at this
            omega
          · have : m = r := by omega
            subst this
            rw [List.getElem?_eq_getElem hr] at hm
            cases hm
            exact hx rfl
      simp [this]
  · have e1 : decide (((r : Nat) : Int) < ((l.length : Nat) : Int)) = false := by simp <;> omega
    simp only [e1, cond_false, q0c]
    have : x ∉ l := fun hm => by
      obtain ⟨m, hm⟩ := List.mem_iff_getElem?.1 hm
      have := h3 m x hm (by have := (List.getElem?_eq_some_iff.1 hm).1; omega)
      omega
    simp [this]
def targ (e : LEnd) : List Int := if e.1 = 1 then [e.2.2.1] else if e.1 = 2 ∧ e.2.2.1 = e.2.2.2 then [e.2.2.1] else if e.1 = 2 then [e.2.2.1, e.2.2.2] else []
theorem targ_val (e : LEnd) : q9o.f K e.1 e.2.2.1 e.2.2.2 = some (targ e) := by
  unfold q9o.f targ
  by_cases h1 : e.1 = 1
  · simp [h1]
  · by_cases h2 : e.1 = 2
    · have e1 : (e.1 == 1) = false := beq_eq_false_iff_ne.2 h1
      have e2 : (e.1 == 2) = true := by simp [h2]
      by_cases h3 : e.2.2.1 = e.2.2.2
      · have e3 : (e.2.2.1 == e.2.2.2) = true := by simp [h3]
        simp only [e1, e2, e3, cond_true, cond_false, q03, q0c, if_neg h1, if_pos (And.intro h2 h3)]
      · have e3 : (e.2.2.1 == e.2.2.2) = false := beq_eq_false_iff_ne.2 h3
        simp only [e1, e2, e3, cond_true, cond_false, q03, q0c, if_neg h1, if_neg (fun h : _ ∧ _ => h3 h.2), if_pos h2]
    · have e1 : (e.1 == 1) = false := beq_eq_false_iff_ne.2 h1
      have e2 : (e.1 == 2) = false := beq_eq_false_iff_ne.2 h2
      simp only [e1, e2, cond_true, cond_false, q03, q0c, if_neg h1, if_neg (fun h : _ ∧ _ => h2 h.1), if_neg h2]
theorem targ_in {regs : Int} {nb : Nat} {e : LEnd} (h : z3n regs nb e) : (targ e).length ≤ 2 ∧ ∀ t ∈ targ e, 0 ≤ t ∧ t < (nb : Int) := by
  obtain ⟨op, a, to, els⟩ := h
  unfold targ
  by_cases h1 : e.1 = 1
  · have h3 : e.1 ≠ 3 := by omega
    rw [if_neg h3] at to
    rw [if_pos h1]
    exact ⟨by simp, fun t ht => by simp at ht; subst ht; exact to⟩
  · rw [if_neg h1]
    by_cases h2 : e.1 = 2
    · have h3 : e.1 ≠ 3 := by omega
      rw [if_neg h3] at to
      rw [if_pos h2] at els
      by_cases h4 : e.2.2.1 = e.2.2.2
      · rw [if_pos ⟨h2, h4⟩]
        exact ⟨by simp, fun t ht => by simp at ht; subst ht; exact to⟩
      · rw [if_neg (fun h => h4 h.2), if_pos h2]
        refine ⟨by simp, fun t ht => ?_⟩
        simp at ht
        rcases ht with rfl | rfl
        · exact to
        · exact els
    · rw [if_neg (fun h => h2 h.1), if_neg h2]
      exact ⟨by simp, fun t ht => by simp at ht⟩
theorem next_l0 {l : List q1k} (hl : l.length ≤ 1000) : ∀ (l2 l1 : List q1k) (k : Nat) (acc : List (List Int)), l = l1 ++ l2 → l2.length < k → acc.length + l2.length < 1000000 → q9e.l0.f K k l ((l.length : Nat) : Int) ((l1.length : Nat) : Int) acc = some (acc ++ l2.map fun b => targ b.2)
  | l2, l1, 0, acc, h, hk, _ => by omega
  | [], l1, k + 1, acc, h, hk, _ => by
    rw [q9e.l0.f]
    simp only [q2e h, cond_false, List.map_nil, List.append_nil]
  | x :: l2, l1, k + 1, acc, h, hk, ha => by
    rw [q9e.l0.f]
    have hl1 : l1.length ≤ 1000 := by rw [h] at hl; simp at hl; omega
    simp only [List.length_cons] at hk ha
    simp only [q2b h, ge0, q2w h, cond_true, q0c, targ_val x.2, q2p (l := acc) (x := targ x.2) (n := 1000000) (by omega), q0y (l1 := l1) (x := x) (by omega)]
    rw [next_l0 hl l2 (l1 ++ [x]) k _ (q09 h) (by omega) (by simp; omega)]
    simp
theorem next_val (hK : 2000 ≤ K) {l : List q1k} (hl : l.length ≤ 1000) : q9e.f K l = some (l.map fun b => targ b.2) := by
  unfold q9e.f
  exact next_l0 (K := K) hl l [] K [] rfl (by omega) (by simp; omega)
structure Mem (nb c : Nat) (O : List Nat) (F : List (Option (List Int))) : Prop where
  len : O.length = nb
  at' : ∀ t : Nat, t < nb → ∃ k zs, O[t]? = some k ∧ F[k]? = some (some zs) ∧ zs.length ≤ c
  inj : ∀ t t' k : Nat, O[t]? = some k → O[t']? = some k → t = t'
theorem Mem.step {nb c t : Nat} {O : List Nat} {F : List (Option (List Int))} {b : Int} (h : Mem nb c O F) (ht : t < nb) {k : Nat} {zs : List Int} (hk : O[t]? = some k) (hz : F[k]? = some (some zs)) : Mem nb (c + 1) (O.set t F.length) (F.set k none ++ [some (zs ++ [b])]) := by
  obtain ⟨h1, h2, h3⟩ := h
  have hkF : k < F.length := (List.getElem?_eq_some_iff.1 hz).1
  have hO : ∀ j, (O.set t F.length)[j]? = if t = j then some F.length else O[j]? := fun j => by
    rw [List.getElem?_set]
    by_cases e : t = j
    · subst e; simp [h1, ht]
    · simp [e]
  refine ⟨by simpa using h1, fun j hj => ?_, fun j j' q a1 a2 => ?_⟩
  · by_cases e : t = j
    · refine ⟨F.length, zs ++ [b], by rw [hO, if_pos e], by simp, ?_⟩
      obtain ⟨k', zs', q1, q2, q3⟩ := h2 t ht
      rw [hk] at q1; cases q1
      rw [hz] at q2; cases q2
      simp; omega
    · obtain ⟨k', zs', q1, q2, q3⟩ := h2 j hj
      have hk' : k' < F.length := (List.getElem?_eq_some_iff.1 q2).1
      have hne : k ≠ k' := fun e2 => by subst e2; exact e (h3 _ _ _ hk q1)
      exact ⟨k', zs', by rw [hO, if_neg e]; exact q1, by rw [List.getElem?_append_left (by simpa using hk'), List.getElem?_set_ne hne]; exact q2, by omega⟩
  · rw [hO] at a1 a2
    have old : ∀ j q, O[j]? = some q → q < F.length := fun j q hq => by
      have hj : j < nb := by rw [← h1]; exact (List.getElem?_eq_some_iff.1 hq).1
      obtain ⟨k', zs', q1, q2, _⟩ := h2 j hj
      rw [hq] at q1; cases q1
      exact (List.getElem?_eq_some_iff.1 q2).1
    by_cases e : t = j <;> by_cases e' : t = j'
    · omega
    · rw [if_pos e] at a1; rw [if_neg e'] at a2; cases a1; have := old _ _ a2; omega
    · rw [if_neg e] at a1; rw [if_pos e'] at a2; cases a2; have := old _ _ a1; omega
    · rw [if_neg e] at a1; rw [if_neg e'] at a2; exact h3 _ _ _ a1 a2
theorem from_l1 {nb : Nat} {b : Int} {l : List Int} (hl : l.length ≤ 1000) (hr : ∀ t ∈ l, 0 ≤ t ∧ t < (nb : Int)) : ∀ (l2 l1 : List Int) (k c : Nat) (O : List Nat) (F : List (Option (List Int))), l = l1 ++ l2 → l2.length < k → c + l2.length < 50000 → Mem nb c O F →
    ∃ O' F', q6o.l1.f K k b l ((l.length : Nat) : Int) ((l1.length : Nat) : Int) O F = some (O', F') ∧ Mem nb (c + l2.length) O' F'
  | l2, l1, 0, c, O, F, h, hk, _, _ => by omega
  | [], l1, k + 1, c, O, F, h, hk, hc, hm => by
    rw [q6o.l1.f]
    simp only [q2e h, cond_false]
    exact ⟨O, F, rfl, by simpa using hm⟩
  | t :: l2, l1, k + 1, c, O, F, h, hk, hc, hm => by
    rw [q6o.l1.f]
    have hl1 : l1.length ≤ 1000 := by rw [h] at hl; simp at hl; omega
    have ht := hr t (by rw [h]; simp)
    simp only [List.length_cons] at hk hc
    obtain ⟨k', zs, q1, q2, q3⟩ := hm.at' t.toNat (by omega)
    have e1 : decide (0 ≤ t) = true := by simp; omega
    have e2 : Nat.blt (Int.toNat t) O.length = true := Nat.ble_eq_true_of_le (by rw [hm.len]; omega)
    simp only [q2b h, ge0, q2w h, cond_true, q0c, e1, e2, q1, q2, q2p (l := zs) (x := b) (n := 1000000) (by omega), q0y (l1 := l1) (x := t) (by omega)]
    obtain ⟨O', F', p1, p2⟩ := from_l1 hl hr l2 (l1 ++ [t]) k (c + 1) _ _ (q09 h) (by omega) (by omega) (hm.step (b := b) (by omega) q1 q2)
    exact ⟨O', F', p1, by rw [List.length_cons, show c + (l2.length + 1) = c + 1 + l2.length by omega]; exact p2⟩
theorem from_l0 (hK : 2000 ≤ K) {nb : Nat} {l : List (List Int)} (hl : l.length ≤ 1000) (hr : ∀ r ∈ l, r.length ≤ 2 ∧ ∀ t ∈ r, 0 ≤ t ∧ t < (nb : Int)) : ∀ (l2 l1 : List (List Int)) (k c : Nat) (O : List Nat) (F : List (Option (List Int))), l = l1 ++ l2 → l2.length < k → c + 2 * l2.length < 40000 → Mem nb c O F →
    ∃ O' F', q6o.l0.f K k l ((l.length : Nat) : Int) ((l1.length : Nat) : Int) O F = some (O', F') ∧ Mem nb 40000 O' F'
  | l2, l1, 0, c, O, F, h, hk, _, _ => by omega
  | [], l1, k + 1, c, O, F, h, hk, hc, hm => by
    rw [q6o.l0.f]
    simp only [q2e h, cond_false]
    exact ⟨O, F, rfl, hm.len, fun t ht => by obtain ⟨k', zs, q1, q2, q3⟩ := hm.at' t ht; exact ⟨k', zs, q1, q2, by omega⟩, hm.inj⟩
  | t :: l2, l1, k + 1, c, O, F, h, hk, hc, hm => by
    rw [q6o.l0.f]
    have hl1 : l1.length ≤ 1000 := by rw [h] at hl; simp at hl; omega
    have ht := hr t (by rw [h]; simp)
    simp only [List.length_cons] at hk hc
    obtain ⟨O1, F1, p1, p2⟩ := from_l1 (K := K) (nb := nb) (b := ((l1.length : Nat) : Int)) (l := t) (by omega) ht.2 t [] K c O F rfl (by omega) (by omega) hm
    simp only [q2b h, ge0, q2w h, cond_true, q0c, q0y (l1 := l1) (x := t) (by omega)]
    rw [show q6o.l1.f K K ((l1.length : Nat) : Int) t ((t.length : Nat) : Int) (0 : Int) O F = _ from p1, q0c]
    exact from_l0 hK hl hr l2 (l1 ++ [t]) k (c + t.length) O1 F1 (q09 h) (by omega) (by omega) p2
theorem from_val (hK : 2000 ≤ K) {l : List q1k} (hl : l.length ≤ 1000) {regs : Int} (hr : ∀ b ∈ l, z3n regs l.length b.2) : ∃ L, q6o.f K l = some L ∧ L.length = l.length ∧ ∀ r ∈ L, r.length ≤ 40000 := by
  unfold q6o.f
  have e1 : (decide (((l.length : Nat) : Int) ≤ 1000000) && ((l.length : Nat) : Int) == ((l.length : Nat) : Int) && true && true) = true := by simp; omega
  rw [e1, cond_true, next_val hK hl, q0c, Int.toNat_natCast]
  have h0 : Mem l.length 0 (List.range l.length) (List.replicate l.length (some ([] : List Int))) := by
    refine ⟨by simp, fun t ht => ⟨t, [], by simp [ht], by simp [ht], by simp⟩, fun t t' k a1 a2 => ?_⟩
    have b1 := List.getElem?_eq_some_iff.1 a1
    have b2 := List.getElem?_eq_some_iff.1 a2
    obtain ⟨_, b1⟩ := b1
    obtain ⟨_, b2⟩ := b2
    simp at b1 b2
    omega
  obtain ⟨O, F, p1, p2⟩ := from_l0 (K := K) hK (nb := l.length) (l := l.map fun b => targ b.2) (by simpa using hl) (fun r hr' => by
    obtain ⟨b, hb, rfl⟩ := List.mem_map.1 hr'
    exact targ_in (hr b hb)) (l.map fun b => targ b.2) [] K 0 _ _ rfl (by simp; omega) (by simp; omega) h0
  rw [show q6o.l0.f K K (l.map fun b => targ b.2) (((l.map fun b => targ b.2).length : Nat) : Int) (0 : Int) (List.range l.length) (List.replicate l.length (some [])) = _ from p1, q0c]
  have hmem : ∀ k ∈ O, ∃ zs : List Int, F[k]? = some (some zs) ∧ zs.length ≤ 40000 := fun k hk => by
    obtain ⟨t, ht⟩ := List.mem_iff_getElem?.1 hk
    obtain ⟨k', zs, q1, q2, q3⟩ := p2.at' t (by rw [← p2.len]; exact (List.getElem?_eq_some_iff.1 ht).1)
    rw [ht] at q1; cases q1
    exact ⟨zs, q2, q3⟩
  have hall : O.all (z2a F (Ty.own 0)) = true := List.all_eq_true.2 fun k hk => by
    obtain ⟨zs, q, _⟩ := hmem k hk
    show j1z F k = true
    simp [j1z, q]
  have key : ∀ b : Bool, b = true → ∀ x : Option (List (List Int)), (bif b then x else none) = x := fun b hb x => by subst hb; rfl
  refine ⟨O.map fun k => z3s F k, (key _ hall _).trans rfl, by simp [p2.len], fun r hr' => ?_⟩
  obtain ⟨k, hk, rfl⟩ := List.mem_map.1 hr'
  obtain ⟨zs, q1, q2⟩ := hmem k hk
  simp only [z3s, q1]
  exact q2
theorem j1v {l : List (List Int)} (hl : l.length ≤ 1000) (hr : ∀ r ∈ l, r.length ≤ 40000) : ∀ (l2 l1 : List (List Int)) (k : Nat) (acc : List Int), l = l1 ++ l2 → l2.length < k → acc.length ≤ l1.length + 1 → acc.Pairwise (· < ·) → (∀ c ∈ acc, 0 ≤ c ∧ c < max 1 (l1.length : Int)) →
    ∃ r, q5g.l0.f K k l ((l.length : Nat) : Int) ((l1.length : Nat) : Int) acc = some r ∧ r.Pairwise (· < ·) ∧ r.length ≤ l.length + 1 ∧ ∀ c ∈ r, 0 ≤ c ∧ c < max 1 (l.length : Int)
  | l2, l1, 0, acc, h, hk, _, _, _ => by omega
  | [], l1, k + 1, acc, h, hk, ha, hp, hc => by
    rw [q5g.l0.f]
    have : l1 = l := by simpa using h.symm
    subst this
    simp only [q2e h, cond_false]
    exact ⟨acc, rfl, hp, ha, hc⟩
  | t :: l2, l1, k + 1, acc, h, hk, ha, hp, hc => by
    rw [q5g.l0.f]
    have hl1 : l1.length ≤ 1000 := by rw [h] at hl; simp at hl; omega
    have ht := hr t (by rw [h]; simp)
    simp only [List.length_cons] at hk
    simp only [q2b h, ge0, q2w h, cond_true, q0c, q0y (l1 := l1) (x := t) (by omega)]
    have skip : ∃ r, q5g.l0.f K k l ((l.length : Nat) : Int) (((l1 ++ [t]).length : Nat) : Int) acc = some r ∧ r.Pairwise (· < ·) ∧ r.length ≤ l.length + 1 ∧ ∀ c ∈ r, 0 ≤ c ∧ c < max 1 (l.length : Int) :=
      j1v hl hr l2 (l1 ++ [t]) k acc (q09 h) (by omega) (by simp; omega) hp fun c hc' => by have := hc c hc'; simp; omega
    by_cases h0 : l1.length = 0
    · have e : decide (((l1.length : Nat) : Int) > 0) = false := decide_eq_false (by omega)
      simp only [e, cond_false, q03, q0c]
      exact skip
    · have e : decide (((l1.length : Nat) : Int) > 0) = true := decide_eq_true (by omega)
      simp only [e, cond_true]
      by_cases h1 : t.length = 0
      · have e1 : decide (((t.length : Nat) : Int) > 0) = false := decide_eq_false (by omega)
        simp only [e1, cond_false, q03, q0c]
        exact skip
      · have e1 : decide (((t.length : Nat) : Int) > 0) = true := decide_eq_true (by omega)
        have w : IntKind.i64.wrap (((t.length : Nat) : Int) - 1) = ((t.length - 1 : Nat) : Int) := by rw [q00 (by omega) (by omega)]; omega
        have hlt : t.length - 1 < t.length := by omega
        simp only [e1, cond_true, w, ge0, Int.toNat_natCast, List.getElem?_eq_getElem hlt, q0c, q03]
        by_cases h2 : t[t.length - 1] ≥ ((l1.length : Nat) : Int)
        · simp only [decide_eq_true h2, cond_true, q2p (l := acc) (x := ((l1.length : Nat) : Int)) (n := 1000000) (by omega)]
          refine j1v hl hr l2 (l1 ++ [t]) k (acc ++ [((l1.length : Nat) : Int)]) (q09 h) (by omega) (by simp; omega) ?_ fun c hc' => ?_
          · rw [List.pairwise_append]
            refine ⟨hp, by simp, fun a ha' b hb => ?_⟩
            simp at hb
            subst hb
            have := hc a ha'
            omega
          · simp only [List.mem_append, List.mem_singleton] at hc'
            rcases hc' with hc' | rfl
            · have := hc c hc'; simp; omega
            · simp; omega
        · simp only [decide_eq_false h2, cond_false]
          exact skip
theorem cuts_val (hK : 2000 ≤ K) {l : List q1k} (hl : 1 ≤ l.length ∧ l.length ≤ 1000) {regs : Int} (hr : ∀ b ∈ l, z3n regs l.length b.2) : ∃ r, q5g.f K l = some r ∧ q3x l.length r := by
  unfold q5g.f
  obtain ⟨L, p1, p2, p3⟩ := from_val (K := K) hK hl.2 hr
  rw [p1, q0c]
  obtain ⟨r, q1, q2, q3, q4⟩ := j1v (K := K) (l := L) (by omega) p3 L [] K [0] rfl (by omega) (by simp) (by simp) (fun c hc => by simp at hc; subst hc; exact ⟨by omega, by simp; omega⟩)
  exact ⟨r, q1, q2, fun c hc => by have := q4 c hc; omega⟩
theorem told_l0 {n : Nat} (hn : n ≤ 1000) : ∀ (k i : Nat), i ≤ n → n - i < k → q4v.l0.f K k ((n : Nat) : Int) ((i : Nat) : Int) ((List.range i).map fun (j : Nat) => (j : Int)) = some ((List.range n).map fun (j : Nat) => (j : Int))
  | 0, i, _, hk => by omega
  | k + 1, i, hi, hk => by
    rw [q4v.l0.f]
    by_cases h : i < n
    · have e : decide (((i : Nat) : Int) < ((n : Nat) : Int)) = true := by simp; omega
      have w : IntKind.i64.wrap (((i : Nat) : Int) + 1) = ((i + 1 : Nat) : Int) := by rw [q00 (by omega) (by omega)]; omega
      simp only [e, cond_true, q2p (l := (List.range i).map fun (j : Nat) => (j : Int)) (x := ((i : Nat) : Int)) (n := 1000000) (by simp; omega), w]
      have e2 : ((List.range i).map fun (j : Nat) => (j : Int)) ++ [((i : Nat) : Int)] = (List.range (i + 1)).map fun (j : Nat) => (j : Int) := by simp [List.range_succ]
      rw [e2]
      exact told_l0 hn k (i + 1) (by omega) (by omega)
    · have e : decide (((i : Nat) : Int) < ((n : Nat) : Int)) = false := by simp; omega
      have : i = n := by omega
      subst this
      simp only [e, cond_false]
theorem told_all (hK : 2000 ≤ K) {l : List q1k} (hl : l.length ≤ 1000) : q4v.f K l false = some ((List.range l.length).map fun (j : Nat) => (j : Int)) := by
  unfold q4v.f
  simp only [cond_false]
  exact told_l0 (K := K) hl K 0 (by omega) (by omega)
theorem z5t (n : Nat) : q3x n ((List.range n).map fun (j : Nat) => (j : Int)) := by
  refine ⟨?_, fun x hx => ?_⟩
  · rw [List.pairwise_map]
    exact List.pairwise_lt_range.imp fun h => by omega
  · obtain ⟨j, hj, rfl⟩ := List.mem_map.1 hx
    have := List.mem_range.1 hj
    omega
theorem told_val (hK : 2000 ≤ K) {l : List q1k} (hl : 1 ≤ l.length ∧ l.length ≤ 1000) {regs : Int} (hr : ∀ b ∈ l, z3n regs l.length b.2) (sp : Bool) : ∃ T, q4v.f K l sp = some T ∧ q3x l.length T ∧ (sp = true → q5g.f K l = some T) ∧ (sp = false → ∀ b, b < l.length → ((b : Nat) : Int) ∈ T) := by
  cases sp with
  | true =>
    obtain ⟨r, h1, h2⟩ := cuts_val (K := K) hK hl hr
    exact ⟨r, h1, h2, fun _ => h1, fun h => by cases h⟩
  | false => exact ⟨_, told_all hK hl.2, z5t _, (fun h => by cases h), fun _ b hb => List.mem_map.2 ⟨b, List.mem_range.2 hb, rfl⟩⟩
theorem j26 (hK : 2000 ≤ K) {n : Int} {l : List Int} {x : Int} (hn : n ≤ 1000) (h : q3x n l) : q9g.f K l x = some (decide (x ∈ l)) :=
  has_val hK (by have := q5j h; omega) (h.1.imp fun h => by omega)
end Go.Proofs.YtdjkdmjdcdljmaaGreatDoor.AF
namespace Go.Proofs.YtdjkdmjdcdljmaaGreatDoor.AF
open Go.Proofs.q0a Go.Proofs.q0a.Runs
set_option maxRecDepth 100000
set_option maxHeartbeats 4000000
variable {K : Nat}
def z2x (l : List q32) : Nat := (l.filter fun x => q76 x.1).length
def q77 (l : List q1k) : Nat := (l.map fun b => z2x b.1).sum
def q3p (l : List q0t) : Nat := (l.map fun f => f.2.2.1.toNat + q77 f.2.2.2).sum
theorem z3x (l : List q32) : z2x l ≤ l.length := List.length_filter_le _ _
theorem z64 (x : q32) (l : List q32) : z2x (x :: l) = (if q76 x.1 then 1 else 0) + z2x l := by
  unfold z2x
  rw [List.filter_cons]
  split <;> simp <;> omega
theorem sum_le {α : Type} {f : α → Nat} {c : Nat} : ∀ {l : List α}, (∀ x ∈ l, f x ≤ c) → (l.map f).sum ≤ c * l.length
  | [], _ => by simp
  | x :: l, h => by
    have h1 := h x (by simp)
    have h2 := sum_le (l := l) fun y hy => h y (by simp [hy])
    simp only [List.map_cons, List.sum_cons, List.length_cons, Nat.mul_add]
    omega
theorem z8l {p q : Int} {l : List q32} (hl : l.length ≤ 1000) : ∀ (l2 l1 : List q32) (k : Nat) (acc : List (Int × q97)), l = l1 ++ l2 → l2.length < k → acc.length + l2.length < 1000000 → ∃ r, q06.l3.f K k p q l ((l1.length : Nat) : Int) acc = some r ∧ r.length = acc.length + z2x l2
  | l2, l1, 0, acc, h, hk, _ => by omega
  | [], l1, k + 1, acc, h, hk, _ => by
    rw [q06.l3.f]
    simp only [q2e h, cond_false]
    exact ⟨_, rfl, by simp [z2x]⟩
  | x :: l2, l1, k + 1, acc, h, hk, ha => by
    rw [q06.l3.f]
    have hl1 : l1.length ≤ 1000 := by rw [h] at hl; simp at hl; omega
    simp only [List.length_cons] at hk ha
    simp only [q2b h, ge0, q2w h, cond_true, q0c, z6y, q0y (l1 := l1) (x := x) (by omega), q2p (l := acc) (x := (p, q, ((l1.length : Nat) : Int))) (n := 1000000) (by omega)]
    rw [z64]
    cases hu : q76 x.1 with
    | true =>
      simp only [cond_true]
      obtain ⟨r, h1, h2⟩ := z8l hl l2 (l1 ++ [x]) k (acc ++ [(p, q, ((l1.length : Nat) : Int))]) (q09 h) (by omega) (by simp; omega)
      exact ⟨r, h1, by rw [h2]; simp; omega⟩
    | false =>
      simp only [cond_false]
      obtain ⟨r, h1, h2⟩ := z8l hl l2 (l1 ++ [x]) k acc (q09 h) (by omega) (by omega)
      exact ⟨r, h1, by rw [h2]; simp⟩
section
variable {fs : List q0t} {f : q0t} {i : Nat} (hi : fs[i]? = some f)
include hi
theorem j2g (hK : 2000 ≤ K) (hl : f.2.2.2.length ≤ 1000) (hb : ∀ b ∈ f.2.2.2, b.1.length ≤ 12) : ∀ (l2 l1 : List q1k) (k : Nat) (acc : List (Int × q97)), f.2.2.2 = l1 ++ l2 → l2.length < k → acc.length + 12 * l2.length < 90000 → ∃ r, q06.l2.f K k ((i : Nat) : Int) ((l1.length : Nat) : Int) fs acc = some r ∧ r.length = acc.length + q77 l2
  | l2, l1, 0, acc, h, hk, _ => by omega
  | [], l1, k + 1, acc, h, hk, _ => by
    rw [q06.l2.f]
    simp only [ge0, cond_true, Int.toNat_natCast, hi, q0c, q2e h, cond_false]
    exact ⟨_, rfl, by simp [q77]⟩
  | x :: l2, l1, k + 1, acc, h, hk, ha => by
    rw [q06.l2.f]
    have hl1 : l1.length ≤ 1000 := by rw [h] at hl; simp at hl; omega
    have hx := hb x (by rw [h]; simp)
    have hx2 := z3x x.1
    simp only [List.length_cons] at hk ha
    obtain ⟨r1, p1, p2⟩ := z8l (K := K) (p := ((i : Nat) : Int)) (q := ((l1.length : Nat) : Int)) (l := x.1) (by omega) x.1 [] K acc rfl (by omega) (by omega)
    have hm := q2w h
    simp only [Int.toNat_natCast] at hm
    simp only [ge0, cond_true, Int.toNat_natCast, hi, q0c, q2b h, hm, q0y (l1 := l1) (x := x) (by omega)]
    rw [show q06.l3.f K K ((i : Nat) : Int) ((l1.length : Nat) : Int) x.1 (0 : Int) acc = _ from p1, q0c]
    obtain ⟨r, h1, h2⟩ := j2g hK hl hb l2 (l1 ++ [x]) k r1 (q09 h) (by omega) (by omega)
    exact ⟨r, h1, by rw [h2, p2]; simp [q77]; omega⟩
theorem j3g (hr : 0 ≤ f.2.2.1 ∧ f.2.2.1 ≤ 100) : ∀ (k : Nat) (j : Nat) (acc : List (Int × q97)), (j : Int) ≤ f.2.2.1 → (f.2.2.1 - j).toNat < k → acc.length + 200 < 1000000 + j → ∃ r, q06.l1.f K k ((i : Nat) : Int) ((j : Nat) : Int) fs acc = some r ∧ r.length = acc.length + (f.2.2.1 - j).toNat
  | 0, j, acc, _, hk, _ => by omega
  | k + 1, j, acc, hj, hk, ha => by
    rw [q06.l1.f]
    simp only [ge0, cond_true, Int.toNat_natCast, hi, q0c]
    by_cases h : (j : Int) < f.2.2.1
    · have w : IntKind.i64.wrap (((j : Nat) : Int) + 1) = ((j + 1 : Nat) : Int) := by rw [q00 (by omega) (by omega)]; omega
      simp only [decide_eq_true h, cond_true, q2p (l := acc) (x := (((i : Nat) : Int), (-1 : Int), ((j : Nat) : Int))) (n := 1000000) (by omega), w]
      obtain ⟨r, h1, h2⟩ := j3g hr k (j + 1) (acc ++ [(((i : Nat) : Int), (-1 : Int), ((j : Nat) : Int))]) (by omega) (by omega) (by simp; omega)
      exact ⟨r, h1, by rw [h2]; simp; omega⟩
    · simp only [decide_eq_false h, cond_false]
      exact ⟨acc, rfl, by omega⟩
end
theorem j2c (hK : 2000 ≤ K) {fs : List q0t} (hl : fs.length ≤ 24) (hf : ∀ f ∈ fs, (0 ≤ f.2.2.1 ∧ f.2.2.1 ≤ 8) ∧ f.2.2.2.length ≤ 12 ∧ ∀ b ∈ f.2.2.2, b.1.length ≤ 12) : ∀ (l2 l1 : List q0t) (k : Nat) (acc : List (Int × q97)), fs = l1 ++ l2 → l2.length < k → acc.length + 200 * l2.length < 50000 → ∃ r, q06.l0.f K k ((l1.length : Nat) : Int) fs acc = some r ∧ r.length = acc.length + q3p l2
  | l2, l1, 0, acc, h, hk, _ => by omega
  | [], l1, k + 1, acc, h, hk, _ => by
    rw [q06.l0.f]
    simp only [q2e h, cond_false]
    exact ⟨_, rfl, by simp [q3p]⟩
  | x :: l2, l1, k + 1, acc, h, hk, ha => by
    rw [q06.l0.f]
    have hl1 : l1.length ≤ 24 := by rw [h] at hl; simp at hl; omega
    obtain ⟨c1, c2, c3⟩ := hf x (by rw [h]; simp)
    simp only [List.length_cons] at hk ha
    have hi : fs[l1.length]? = some x := by rw [h]; simp
    have hbn : q77 x.2.2.2 ≤ 12 * x.2.2.2.length := sum_le fun b hb => Nat.le_trans (z3x b.1) (c3 b hb)
    obtain ⟨r1, p1, p2⟩ := j3g (K := K) hi ⟨c1.1, by omega⟩ K 0 acc (by omega) (by omega) (by omega)
    obtain ⟨r2, p3, p4⟩ := j2g (K := K) hi hK (by omega) c3 x.2.2.2 [] K r1 rfl (by omega) (by omega)
    simp only [q2b h, cond_true, q0y (l1 := l1) (x := x) (by omega)]
    rw [show q06.l1.f K K ((l1.length : Nat) : Int) (0 : Int) fs acc = _ from p1, q0c, show q06.l2.f K K ((l1.length : Nat) : Int) (0 : Int) fs r1 = _ from p3, q0c]
    obtain ⟨r, h1, h2⟩ := j2c hK hl hf l2 (l1 ++ [x]) k r2 (q09 h) (by omega) (by omega)
    exact ⟨r, h1, by rw [h2, p4, p2]; simp [q3p]; omega⟩
theorem psets_val (op d : Int) (h : 1 ≤ op ∧ op ≤ 17) : ∃ r, z1j.f K op d = some (r, q76 op) := by
  rcases z1b h.1 h.2 with rfl | rfl | rfl | rfl | rfl | rfl | rfl | rfl | rfl | rfl | rfl | rfl | rfl | rfl | rfl | rfl | rfl <;> simp [z1j.f, q4r.f, q76]
theorem z8d {l : List q32} (hl : l.length ≤ 1000) (ho : ∀ x ∈ l, 1 ≤ x.1 ∧ x.1 ≤ 17) : ∀ (l2 l1 : List q32) (k : Nat) (a : Nat), l = l1 ++ l2 → l2.length < k → a + l2.length < 1000000 → q5b.l0.f K k ((a : Nat) : Int) l ((l.length : Nat) : Int) ((l1.length : Nat) : Int) = some ((a + z2x l2 : Nat) : Int)
  | l2, l1, 0, a, h, hk, _ => by omega
  | [], l1, k + 1, a, h, hk, _ => by
    rw [q5b.l0.f]
    simp only [q2e h, cond_false]
    simp [z2x]
  | x :: l2, l1, k + 1, a, h, hk, ha => by
    rw [q5b.l0.f]
    have hl1 : l1.length ≤ 1000 := by rw [h] at hl; simp at hl; omega
    simp only [List.length_cons] at hk ha
    obtain ⟨r, hr⟩ := psets_val (K := K) x.1 x.2.1 (ho x (by rw [h]; simp))
    have w : IntKind.i64.wrap (((a : Nat) : Int) + 1) = ((a + 1 : Nat) : Int) := by rw [q00 (by omega) (by omega)]; omega
    simp only [q2b h, ge0, q2w h, cond_true, q0c, hr, q0y (l1 := l1) (x := x) (by omega), w]
    rw [z64]
    cases hu : q76 x.1 with
    | true =>
      simp only [cond_true, if_true]
      rw [z8d hl ho l2 (l1 ++ [x]) k (a + 1) (q09 h) (by omega) (by omega)]
      congr 2
      omega
    | false =>
      simp only [cond_false, Bool.false_eq_true, if_false]
      rw [z8d hl ho l2 (l1 ++ [x]) k a (q09 h) (by omega) (by omega)]
      congr 2
      omega
theorem j3q (hK : 2000 ≤ K) {l : List q1k} (hl : l.length ≤ 12) (hb : ∀ b ∈ l, b.1.length ≤ 12 ∧ ∀ x ∈ b.1, 1 ≤ x.1 ∧ x.1 ≤ 17) : ∀ (l2 l1 : List q1k) (k : Nat) (a : Nat), l = l1 ++ l2 → l2.length < k → a + 12 * l2.length < 1000000 → q5f.l0.f K k ((a : Nat) : Int) l ((l.length : Nat) : Int) ((l1.length : Nat) : Int) = some ((a + q77 l2 : Nat) : Int)
  | l2, l1, 0, a, h, hk, _ => by omega
  | [], l1, k + 1, a, h, hk, _ => by
    rw [q5f.l0.f]
    simp only [q2e h, cond_false]
    simp [q77]
  | x :: l2, l1, k + 1, a, h, hk, ha => by
    rw [q5f.l0.f]
    have hl1 : l1.length ≤ 12 := by rw [h] at hl; simp at hl; omega
    simp only [List.length_cons] at hk ha
    obtain ⟨c1, c2⟩ := hb x (by rw [h]; simp)
    have hs := z3x x.1
    have g : q5b.f K x.1 = some ((z2x x.1 : Nat) : Int) := by
      unfold q5b.f
      have := z8d (K := K) (l := x.1) (by omega) c2 x.1 [] K 0 rfl (by omega) (by omega)
      rw [Nat.zero_add] at this
      exact this
    have w : IntKind.i64.wrap (((a : Nat) : Int) + ((z2x x.1 : Nat) : Int)) = ((a + z2x x.1 : Nat) : Int) := by rw [q00 (by omega) (by omega)]; omega
    simp only [q2b h, ge0, q2w h, cond_true, q0c, g, q0y (l1 := l1) (x := x) (by omega), w]
    rw [j3q hK hl hb l2 (l1 ++ [x]) k (a + z2x x.1) (q09 h) (by omega) (by omega)]
    congr 2
    simp [q77]
    omega
theorem z8m (hK : 2000 ≤ K) {fs : List q0t} (hl : fs.length ≤ 24) (hf : ∀ f ∈ fs, (0 ≤ f.2.2.1 ∧ f.2.2.1 ≤ 8) ∧ f.2.2.2.length ≤ 12 ∧ ∀ b ∈ f.2.2.2, b.1.length ≤ 12 ∧ ∀ x ∈ b.1, 1 ≤ x.1 ∧ x.1 ≤ 17) : ∀ (l2 l1 : List q0t) (k : Nat) (a : Nat), fs = l1 ++ l2 → l2.length < k → a + 200 * l2.length < 1000000 → q59.l0.f K k ((a : Nat) : Int) fs ((fs.length : Nat) : Int) ((l1.length : Nat) : Int) = some ((a + q3p l2 : Nat) : Int)
  | l2, l1, 0, a, h, hk, _ => by omega
  | [], l1, k + 1, a, h, hk, _ => by
    rw [q59.l0.f]
    simp only [q2e h, cond_false]
    simp [q3p]
  | x :: l2, l1, k + 1, a, h, hk, ha => by
    rw [q59.l0.f]
    have hl1 : l1.length ≤ 24 := by rw [h] at hl; simp at hl; omega
    simp only [List.length_cons] at hk ha
    obtain ⟨c1, c2, c3⟩ := hf x (by rw [h]; simp)
    have hbn : q77 x.2.2.2 ≤ 12 * x.2.2.2.length := sum_le fun b hb => Nat.le_trans (z3x b.1) (c3 b hb).1
    have g : q5f.f K x.2.2.1 x.2.2.2 = some ((x.2.2.1.toNat + q77 x.2.2.2 : Nat) : Int) := by
      unfold q5f.f
      have e : (if (0 : Int) > x.2.2.1 then 0 else x.2.2.1) = ((x.2.2.1.toNat : Nat) : Int) := by split <;> omega
      rw [e]
      exact j3q (K := K) hK c2 c3 x.2.2.2 [] K x.2.2.1.toNat rfl (by omega) (by omega)
    have w : IntKind.i64.wrap (((a : Nat) : Int) + ((x.2.2.1.toNat + q77 x.2.2.2 : Nat) : Int)) = ((a + (x.2.2.1.toNat + q77 x.2.2.2) : Nat) : Int) := by rw [q00 (by omega) (by omega)]; omega
    simp only [q2b h, ge0, q2w h, cond_true, q0c, g, q0y (l1 := l1) (x := x) (by omega), w]
    rw [z8m hK hl hf l2 (l1 ++ [x]) k (a + (x.2.2.1.toNat + q77 x.2.2.2)) (q09 h) (by omega) (by omega)]
    congr 2
    simp [q3p]
    omega
theorem WF.shape {cells : List Int} {fs : List q0t} {is : List q0h} (h : WF cells fs is) : ∀ f ∈ fs, (1 ≤ f.2.2.1 ∧ f.2.2.1 ≤ 8) ∧ (1 ≤ f.2.2.2.length ∧ f.2.2.2.length ≤ 12) ∧ (0 ≤ f.2.1 ∧ f.2.1 ≤ 4) ∧ ∀ b ∈ f.2.2.2, b.1.length ≤ 12 ∧ (∀ x ∈ b.1, 1 ≤ x.1 ∧ x.1 ≤ 17) ∧ z3n f.2.2.1 f.2.2.2.length b.2 := by
  intro f hf
  obtain ⟨i, hi⟩ := List.mem_iff_getElem?.1 hf
  obtain ⟨h1, _⟩ := h.funcs i f hi
  exact ⟨⟨h1.regs.1, h1.regs.2.1⟩, h1.blocks, h1.arity, fun b hb => ⟨(h1.each b hb).len, fun x hx => ((h1.each b hb).insns x hx).op, (h1.each b hb).fin⟩⟩
theorem z5i (hK : 2000 ≤ K) {cells : List Int} {fs : List q0t} {is : List q0h} (h : WF cells fs is) : ∃ r, q06.l0.f K K (0 : Int) fs [] = some r ∧ r.length = q3p fs := by
  have hc := h.count
  obtain ⟨r, h1, h2⟩ := j2c (K := K) hK (fs := fs) (by omega) (fun f hf => by obtain ⟨a, b, _, c⟩ := h.shape f hf; exact ⟨⟨by omega, a.2⟩, b.2, fun x hx => (c x hx).1⟩) fs [] K [] rfl (by omega) (by simp; omega)
  exact ⟨r, h1, by simpa using h2⟩
theorem z21 (hK : 2000 ≤ K) {cells : List Int} {fs : List q0t} {is : List q0h} (h : WF cells fs is) : q59.f K fs = some ((q3p fs : Nat) : Int) := by
  have hc := h.count
  unfold q59.f
  have := z8m (K := K) hK (fs := fs) (by omega) (fun f hf => by obtain ⟨a, b, _, c⟩ := h.shape f hf; exact ⟨⟨by omega, a.2⟩, b.2, fun x hx => ⟨(c x hx).1, (c x hx).2.1⟩⟩) fs [] K 0 rfl (by omega) (by omega)
  rw [Nat.zero_add] at this
  exact this
end Go.Proofs.YtdjkdmjdcdljmaaGreatDoor.AF
namespace Go.Proofs.YtdjkdmjdcdljmaaGreatDoor.AF
open Go.Proofs.q0a Go.Proofs.q0a.Runs
set_option maxRecDepth 100000
set_option maxHeartbeats 4000000
variable {K : Nat}
theorem q65 (hK : 2000 ≤ K) {n : Int} {l pre post : List Int} (h : l = pre ++ (encI n ++ post)) (hl : l.length ≤ 1000000) (hn : i64 n) : q2u.f K l ((pre.length : Nat) : Int) = some (n, Err.nil, (((pre ++ encI n).length : Nat) : Int)) := by
  unfold q2u.f
  have e := q9p (K := K) hK (most := 18446744073709551615) (n := zz n) (l := l) (pre := pre) (post := post) h hl (j4h hn) (by have := j4h hn; omega)
  rw [show q16.f K (18446744073709551615 : Int) l ((pre.length : Nat) : Int) = _ from e]
  simp only [q0c, zag_val hn]
theorem bne_not {a b : Int} : (a != b) = !(a == b) := rfl
theorem z3g {a b : Int} (h : a ≠ b) : (a == b) = false := by simpa using h
theorem value_000 {s p : Nat} {l pre post : List Int} (hs : 1 ≤ s ∧ s ≤ 7) (hp : 1 ≤ p ∧ p ≤ 3) (hl : l.length ≤ 1000000) (hle : least ≤ most) (h : l = pre ++ (((hB s p false false false : Nat) : Int) :: post)) : q2v.f K l ((pre.length : Nat) : Int) = some (((s : Nat) : Int), false, 0, least, most, ((p : Nat) : Int), Err.nil, (((pre ++ [((hB s p false false false : Nat) : Int)]).length : Nat) : Int)) := by
  have gs := z9r ⟨s, by omega⟩ ⟨p, by omega⟩ false false false
  have gp := j0e ⟨s, by omega⟩ ⟨p, by omega⟩ false false false
  have gk := z91 ⟨s, by omega⟩ ⟨p, by omega⟩ false false false
  have gl := z8s ⟨s, by omega⟩ ⟨p, by omega⟩ false false false
  have gh := j0f ⟨s, by omega⟩ ⟨p, by omega⟩ false false false
  simp only [Bool.not_true, Bool.not_false] at gk gl gh
  have b0 := q5n (K := K) h hl
  have sp := q5v (K := K) hle
  unfold q2v.f
  rw [b0]
  simp only [q1m.f, q0c, Err.isNil, Bool.not_true, Bool.not_false, cond_true, cond_false, q7v.f, q43.f, q03, bne_not, gs, gp, gk, gl, gh, q6n (K := K) (a := ((s : Nat) : Int)) ⟨by omega, by omega⟩, q6r (K := K) (a := ((p : Nat) : Int)) ⟨by omega, by omega⟩, sp]
theorem value_001 (hK : 2000 ≤ K) {s p : Nat} {hi : Int} {l pre post : List Int} (hs : 1 ≤ s ∧ s ≤ 7) (hp : 1 ≤ p ∧ p ≤ 3) (hl : l.length ≤ 1000000) (hhi : i64 hi) (hhi' : hi ≠ most) (hle : least ≤ hi) (h : l = pre ++ (((hB s p false false true : Nat) : Int) :: (encI hi ++ post))) : q2v.f K l ((pre.length : Nat) : Int) = some (((s : Nat) : Int), false, 0, least, hi, ((p : Nat) : Int), Err.nil, (((pre ++ [((hB s p false false true : Nat) : Int)] ++ encI hi).length : Nat) : Int)) := by
  have gs := z9r ⟨s, by omega⟩ ⟨p, by omega⟩ false false true
  have gp := j0e ⟨s, by omega⟩ ⟨p, by omega⟩ false false true
  have gk := z91 ⟨s, by omega⟩ ⟨p, by omega⟩ false false true
  have gl := z8s ⟨s, by omega⟩ ⟨p, by omega⟩ false false true
  have gh := j0f ⟨s, by omega⟩ ⟨p, by omega⟩ false false true
  simp only [Bool.not_true, Bool.not_false] at gk gl gh
  have b0 := q5n (K := K) h hl
  have r0 := q65 (K := K) hK (n := hi) (l := l) (pre := pre ++ [((hB s p false false true : Nat) : Int)]) (post := post) (by rw [h]; simp) hl hhi
  have nh := z3g hhi'
  have sp := q5v (K := K) hle
  unfold q2v.f
  rw [b0]
  simp only [q1m.f, q0c, Err.isNil, Bool.not_true, Bool.not_false, cond_true, cond_false, q7v.f, q43.f, q03, bne_not, gs, gp, gk, gl, gh, q6n (K := K) (a := ((s : Nat) : Int)) ⟨by omega, by omega⟩, q6r (K := K) (a := ((p : Nat) : Int)) ⟨by omega, by omega⟩, sp, r0, nh]
theorem value_010 (hK : 2000 ≤ K) {s p : Nat} {lo : Int} {l pre post : List Int} (hs : 1 ≤ s ∧ s ≤ 7) (hp : 1 ≤ p ∧ p ≤ 3) (hl : l.length ≤ 1000000) (hlo : i64 lo) (hlo' : lo ≠ least) (hle : lo ≤ most) (h : l = pre ++ (((hB s p false true false : Nat) : Int) :: (encI lo ++ post))) : q2v.f K l ((pre.length : Nat) : Int) = some (((s : Nat) : Int), false, 0, lo, most, ((p : Nat) : Int), Err.nil, (((pre ++ [((hB s p false true false : Nat) : Int)] ++ encI lo).length : Nat) : Int)) := by
  have gs := z9r ⟨s, by omega⟩ ⟨p, by omega⟩ false true false
  have gp := j0e ⟨s, by omega⟩ ⟨p, by omega⟩ false true false
  have gk := z91 ⟨s, by omega⟩ ⟨p, by omega⟩ false true false
  have gl := z8s ⟨s, by omega⟩ ⟨p, by omega⟩ false true false
  have gh := j0f ⟨s, by omega⟩ ⟨p, by omega⟩ false true false
  simp only [Bool.not_true, Bool.not_false] at gk gl gh
  have b0 := q5n (K := K) h hl
  have r0 := q65 (K := K) hK (n := lo) (l := l) (pre := pre ++ [((hB s p false true false : Nat) : Int)]) (post := post) (by rw [h]; simp) hl hlo
  have nl := z3g hlo'
  have sp := q5v (K := K) hle
  unfold q2v.f
  rw [b0]
  simp only [q1m.f, q0c, Err.isNil, Bool.not_true, Bool.not_false, cond_true, cond_false, q7v.f, q43.f, q03, bne_not, gs, gp, gk, gl, gh, q6n (K := K) (a := ((s : Nat) : Int)) ⟨by omega, by omega⟩, q6r (K := K) (a := ((p : Nat) : Int)) ⟨by omega, by omega⟩, sp, r0, nl]
theorem value_011 (hK : 2000 ≤ K) {s p : Nat} {lo hi : Int} {l pre post : List Int} (hs : 1 ≤ s ∧ s ≤ 7) (hp : 1 ≤ p ∧ p ≤ 3) (hl : l.length ≤ 1000000) (hlo : i64 lo) (hlo' : lo ≠ least) (hhi : i64 hi) (hhi' : hi ≠ most) (hle : lo ≤ hi) (h : l = pre ++ (((hB s p false true true : Nat) : Int) :: (encI lo ++ (encI hi ++ post)))) : q2v.f K l ((pre.length : Nat) : Int) = some (((s : Nat) : Int), false, 0, lo, hi, ((p : Nat) : Int), Err.nil, (((pre ++ [((hB s p false true true : Nat) : Int)] ++ encI lo ++ encI hi).length : Nat) : Int)) := by
  have gs := z9r ⟨s, by omega⟩ ⟨p, by omega⟩ false true true
  have gp := j0e ⟨s, by omega⟩ ⟨p, by omega⟩ false true true
  have gk := z91 ⟨s, by omega⟩ ⟨p, by omega⟩ false true true
  have gl := z8s ⟨s, by omega⟩ ⟨p, by omega⟩ false true true
  have gh := j0f ⟨s, by omega⟩ ⟨p, by omega⟩ false true true
  simp only [Bool.not_true, Bool.not_false] at gk gl gh
  have b0 := q5n (K := K) h hl
  have r0 := q65 (K := K) hK (n := lo) (l := l) (pre := pre ++ [((hB s p false true true : Nat) : Int)]) (post := (encI hi ++ post)) (by rw [h]; simp) hl hlo
  have r1 := q65 (K := K) hK (n := hi) (l := l) (pre := pre ++ [((hB s p false true true : Nat) : Int)] ++ encI lo) (post := post) (by rw [h]; simp) hl hhi
  have nl := z3g hlo'
  have nh := z3g hhi'
  have sp := q5v (K := K) hle
  unfold q2v.f
  rw [b0]
  simp only [q1m.f, q0c, Err.isNil, Bool.not_true, Bool.not_false, cond_true, cond_false, q7v.f, q43.f, q03, bne_not, gs, gp, gk, gl, gh, q6n (K := K) (a := ((s : Nat) : Int)) ⟨by omega, by omega⟩, q6r (K := K) (a := ((p : Nat) : Int)) ⟨by omega, by omega⟩, sp, r0, r1, nl, nh]
theorem value_100 (hK : 2000 ≤ K) {s p : Nat} {n : Int} {l pre post : List Int} (hs : 1 ≤ s ∧ s ≤ 7) (hp : 1 ≤ p ∧ p ≤ 3) (hl : l.length ≤ 1000000) (hn : i64 n) (hle : least ≤ most) (h : l = pre ++ (((hB s p true false false : Nat) : Int) :: (encI n ++ post))) : q2v.f K l ((pre.length : Nat) : Int) = some (((s : Nat) : Int), true, n, least, most, ((p : Nat) : Int), Err.nil, (((pre ++ [((hB s p true false false : Nat) : Int)] ++ encI n).length : Nat) : Int)) := by
  have gs := z9r ⟨s, by omega⟩ ⟨p, by omega⟩ true false false
  have gp := j0e ⟨s, by omega⟩ ⟨p, by omega⟩ true false false
  have gk := z91 ⟨s, by omega⟩ ⟨p, by omega⟩ true false false
  have gl := z8s ⟨s, by omega⟩ ⟨p, by omega⟩ true false false
  have gh := j0f ⟨s, by omega⟩ ⟨p, by omega⟩ true false false
  simp only [Bool.not_true, Bool.not_false] at gk gl gh
  have b0 := q5n (K := K) h hl
  have r0 := q65 (K := K) hK (n := n) (l := l) (pre := pre ++ [((hB s p true false false : Nat) : Int)]) (post := post) (by rw [h]; simp) hl hn
  have sp := q5v (K := K) hle
  unfold q2v.f
  rw [b0]
  simp only [q1m.f, q0c, Err.isNil, Bool.not_true, Bool.not_false, cond_true, cond_false, q7v.f, q43.f, q03, bne_not, gs, gp, gk, gl, gh, q6n (K := K) (a := ((s : Nat) : Int)) ⟨by omega, by omega⟩, q6r (K := K) (a := ((p : Nat) : Int)) ⟨by omega, by omega⟩, sp, r0]
theorem value_101 (hK : 2000 ≤ K) {s p : Nat} {n hi : Int} {l pre post : List Int} (hs : 1 ≤ s ∧ s ≤ 7) (hp : 1 ≤ p ∧ p ≤ 3) (hl : l.length ≤ 1000000) (hn : i64 n) (hhi : i64 hi) (hhi' : hi ≠ most) (hle : least ≤ hi) (h : l = pre ++ (((hB s p true false true : Nat) : Int) :: (encI n ++ (encI hi ++ post)))) : q2v.f K l ((pre.length : Nat) : Int) = some (((s : Nat) : Int), true, n, least, hi, ((p : Nat) : Int), Err.nil, (((pre ++ [((hB s p true false true : Nat) : Int)] ++ encI n ++ encI hi).length : Nat) : Int)) := by
  have gs := z9r ⟨s, by omega⟩ ⟨p, by omega⟩ true false true
  have gp := j0e ⟨s, by omega⟩ ⟨p, by omega⟩ true false true
  have gk := z91 ⟨s, by omega⟩ ⟨p, by omega⟩ true false true
  have gl := z8s ⟨s, by omega⟩ ⟨p, by omega⟩ true false true
  have gh := j0f ⟨s, by omega⟩ ⟨p, by omega⟩ true false true
  simp only [Bool.not_true, Bool.not_false] at gk gl gh
  have b0 := q5n (K := K) h hl
  have r0 := q65 (K := K) hK (n := n) (l := l) (pre := pre ++ [((hB s p true false true : Nat) : Int)]) (post := (encI hi ++ post)) (by rw [h]; simp) hl hn
  have r1 := q65 (K := K) hK (n := hi) (l := l) (pre := pre ++ [((hB s p true false true : Nat) : Int)] ++ encI n) (post := post) (by rw [h]; simp) hl hhi
  have nh := z3g hhi'
  have sp := q5v (K := K) hle
  unfold q2v.f
  rw [b0]
  simp only [q1m.f, q0c, Err.isNil, Bool.not_true, Bool.not_false, cond_true, cond_false, q7v.f, q43.f, q03, bne_not, gs, gp, gk, gl, gh, q6n (K := K) (a := ((s : Nat) : Int)) ⟨by omega, by omega⟩, q6r (K := K) (a := ((p : Nat) : Int)) ⟨by omega, by omega⟩, sp, r0, r1, nh]
theorem value_110 (hK : 2000 ≤ K) {s p : Nat} {n lo : Int} {l pre post : List Int} (hs : 1 ≤ s ∧ s ≤ 7) (hp : 1 ≤ p ∧ p ≤ 3) (hl : l.length ≤ 1000000) (hn : i64 n) (hlo : i64 lo) (hlo' : lo ≠ least) (hle : lo ≤ most) (h : l = pre ++ (((hB s p true true false : Nat) : Int) :: (encI n ++ (encI lo ++ post)))) : q2v.f K l ((pre.length : Nat) : Int) = some (((s : Nat) : Int), true, n, lo, most, ((p : Nat) : Int), Err.nil, (((pre ++ [((hB s p true true false : Nat) : Int)] ++ encI n ++ encI lo).length : Nat) : Int)) := by
  have gs := z9r ⟨s, by omega⟩ ⟨p, by omega⟩ true true false
  have gp := j0e ⟨s, by omega⟩ ⟨p, by omega⟩ true true false
  have gk := z91 ⟨s, by omega⟩ ⟨p, by omega⟩ true true false
  have gl := z8s ⟨s, by omega⟩ ⟨p, by omega⟩ true true false
  have gh := j0f ⟨s, by omega⟩ ⟨p, by omega⟩ true true false
  simp only [Bool.not_true, Bool.not_false] at gk gl gh
  have b0 := q5n (K := K) h hl
  have r0 := q65 (K := K) hK (n := n) (l := l) (pre := pre ++ [((hB s p true true false : Nat) : Int)]) (post := (encI lo ++ post)) (by rw [h]; simp) hl hn
  have r1 := q65 (K := K) hK (n := lo) (l := l) (pre := pre ++ [((hB s p true true false : Nat) : Int)] ++ encI n) (post := post) (by rw [h]; simp) hl hlo
  have nl := z3g hlo'
  have sp := q5v (K := K) hle
  unfold q2v.f
  rw [b0]
  simp only [q1m.f, q0c, Err.isNil, Bool.not_true, Bool.not_false, cond_true, cond_false, q7v.f, q43.f, q03, bne_not, gs, gp, gk, gl, gh, q6n (K := K) (a := ((s : Nat) : Int)) ⟨by omega, by omega⟩, q6r (K := K) (a := ((p : Nat) : Int)) ⟨by omega, by omega⟩, sp, r0, r1, nl]
theorem value_111 (hK : 2000 ≤ K) {s p : Nat} {n lo hi : Int} {l pre post : List Int} (hs : 1 ≤ s ∧ s ≤ 7) (hp : 1 ≤ p ∧ p ≤ 3) (hl : l.length ≤ 1000000) (hn : i64 n) (hlo : i64 lo) (hlo' : lo ≠ least) (hhi : i64 hi) (hhi' : hi ≠ most) (hle : lo ≤ hi) (h : l = pre ++ (((hB s p true true true : Nat) : Int) :: (encI n ++ (encI lo ++ (encI hi ++ post))))) : q2v.f K l ((pre.length : Nat) : Int) = some (((s : Nat) : Int), true, n, lo, hi, ((p : Nat) : Int), Err.nil, (((pre ++ [((hB s p true true true : Nat) : Int)] ++ encI n ++ encI lo ++ encI hi).length : Nat) : Int)) := by
  have gs := z9r ⟨s, by omega⟩ ⟨p, by omega⟩ true true true
  have gp := j0e ⟨s, by omega⟩ ⟨p, by omega⟩ true true true
  have gk := z91 ⟨s, by omega⟩ ⟨p, by omega⟩ true true true
  have gl := z8s ⟨s, by omega⟩ ⟨p, by omega⟩ true true true
  have gh := j0f ⟨s, by omega⟩ ⟨p, by omega⟩ true true true
  simp only [Bool.not_true, Bool.not_false] at gk gl gh
  have b0 := q5n (K := K) h hl
  have r0 := q65 (K := K) hK (n := n) (l := l) (pre := pre ++ [((hB s p true true true : Nat) : Int)]) (post := (encI lo ++ (encI hi ++ post))) (by rw [h]; simp) hl hn
  have r1 := q65 (K := K) hK (n := lo) (l := l) (pre := pre ++ [((hB s p true true true : Nat) : Int)] ++ encI n) (post := (encI hi ++ post)) (by rw [h]; simp) hl hlo
  have r2 := q65 (K := K) hK (n := hi) (l := l) (pre := pre ++ [((hB s p true true true : Nat) : Int)] ++ encI n ++ encI lo) (post := post) (by rw [h]; simp) hl hhi
  have nl := z3g hlo'
  have nh := z3g hhi'
  have sp := q5v (K := K) hle
  unfold q2v.f
  rw [b0]
  simp only [q1m.f, q0c, Err.isNil, Bool.not_true, Bool.not_false, cond_true, cond_false, q7v.f, q43.f, q03, bne_not, gs, gp, gk, gl, gh, q6n (K := K) (a := ((s : Nat) : Int)) ⟨by omega, by omega⟩, q6r (K := K) (a := ((p : Nat) : Int)) ⟨by omega, by omega⟩, sp, r0, r1, r2, nl, nh]
theorem value_val (hK : 2000 ≤ K) {v : q0d} {l pre post : List Int} (h : l = pre ++ (encV v ++ post)) (hl : l.length ≤ 1000000) (hv : Vr v) : q2v.f K l ((pre.length : Nat) : Int) = some (v.1, v.2.1.1, v.2.1.2, v.2.2.1.1, v.2.2.1.2, v.2.2.2, Err.nil, (((pre ++ encV v).length : Nat) : Int)) := by
  obtain ⟨hs, hk, hlo, hhi, hle, hp⟩ := hv
  obtain ⟨s, ⟨b, n⟩, ⟨lo, hi⟩, p⟩ := v
  dsimp only at *
  obtain ⟨s, rfl⟩ : ∃ m : Nat, s = m := ⟨s.toNat, by omega⟩
  obtain ⟨p, rfl⟩ : ∃ m : Nat, p = m := ⟨p.toNat, by omega⟩
  have hs' : 1 ≤ s ∧ s ≤ 7 := by omega
  have hp' : 1 ≤ p ∧ p ≤ 3 := by omega
  unfold encV at h ⊢
  dsimp only at h ⊢
  simp only [Int.toNat_natCast] at h ⊢
  by_cases c1 : lo = least <;> by_cases c2 : hi = most <;> cases b
  · have hn0 := hk.2 rfl; subst hn0; subst c1; subst c2; have e1 : (least != least) = false := rfl
    have e2 : (most != most) = false := rfl
    simp only [e1, e2, if_true, if_false, Bool.false_eq_true, List.nil_append, List.append_nil, List.cons_append, List.append_assoc] at h ⊢
    rw [value_000 hs' hp' hl hle h]
  · subst c1; subst c2; have e1 : (least != least) = false := rfl
    have e2 : (most != most) = false := rfl
    simp only [e1, e2, if_true, if_false, Bool.false_eq_true, List.nil_append, List.append_nil, List.cons_append, List.append_assoc] at h ⊢
    rw [value_100 hK hs' hp' hl hk.1 hle h]
    simp
  · have hn0 := hk.2 rfl; subst hn0; subst c1; have e1 : (least != least) = false := rfl
    have e2 : (hi != most) = true := bne_iff_ne.2 c2
    simp only [e1, e2, if_true, if_false, Bool.false_eq_true, List.nil_append, List.append_nil, List.cons_append, List.append_assoc] at h ⊢
    rw [value_001 hK hs' hp' hl hhi c2 hle h]
    simp
  · subst c1; have e1 : (least != least) = false := rfl
    have e2 : (hi != most) = true := bne_iff_ne.2 c2
    simp only [e1, e2, if_true, if_false, Bool.false_eq_true, List.nil_append, List.append_nil, List.cons_append, List.append_assoc] at h ⊢
    rw [value_101 hK hs' hp' hl hk.1 hhi c2 hle h]
    simp
  · have hn0 := hk.2 rfl; subst hn0; subst c2; have e1 : (lo != least) = true := bne_iff_ne.2 c1
    have e2 : (most != most) = false := rfl
    simp only [e1, e2, if_true, if_false, Bool.false_eq_true, List.nil_append, List.append_nil, List.cons_append, List.append_assoc] at h ⊢
    rw [value_010 hK hs' hp' hl hlo c1 hle h]
    simp
  · subst c2; have e1 : (lo != least) = true := bne_iff_ne.2 c1
    have e2 : (most != most) = false := rfl
    simp only [e1, e2, if_true, if_false, Bool.false_eq_true, List.nil_append, List.append_nil, List.cons_append, List.append_assoc] at h ⊢
    rw [value_110 hK hs' hp' hl hk.1 hlo c1 hle h]
    simp
  · have hn0 := hk.2 rfl; subst hn0; have e1 : (lo != least) = true := bne_iff_ne.2 c1
    have e2 : (hi != most) = true := bne_iff_ne.2 c2
    simp only [e1, e2, if_true, if_false, Bool.false_eq_true, List.nil_append, List.append_nil, List.cons_append, List.append_assoc] at h ⊢
    rw [value_011 hK hs' hp' hl hlo c1 hhi c2 hle h]
    simp
  · have e1 : (lo != least) = true := bne_iff_ne.2 c1
    have e2 : (hi != most) = true := bne_iff_ne.2 c2
    simp only [e1, e2, if_true, if_false, Bool.false_eq_true, List.nil_append, List.append_nil, List.cons_append, List.append_assoc] at h ⊢
    rw [value_111 hK hs' hp' hl hk.1 hlo c1 hhi c2 hle h]
    simp
theorem q9z (hK : 2000 ≤ K) {v : q0d} {l pre post : List Int} (h : l = pre ++ (encV v ++ post)) (hl : l.length ≤ 1000000) (hv : Vr v) : q23.f K Err.nil l ((pre.length : Nat) : Int) = some (v.1, v.2.1.1, v.2.1.2, v.2.2.1.1, v.2.2.1.2, v.2.2.2, Err.nil, (((pre ++ encV v).length : Nat) : Int)) := by
  unfold q23.f z06.f
  simp only [q4a.f, q0c, value_val hK h hl hv, Err.isNil, Bool.not_true, cond_true, cond_false, q1i.f]
end Go.Proofs.YtdjkdmjdcdljmaaGreatDoor.AF
namespace Go.Proofs.YtdjkdmjdcdljmaaGreatDoor.AF
open Go.Proofs.q0a Go.Proofs.q0a.Runs
set_option maxRecDepth 100000
set_option maxHeartbeats 4000000
variable {K : Nat}
abbrev zeroV : q0d := (0, (false, 0), (0, 0), 0)
structure Sr (a : Int) (s : LSum) : Prop where
  off : s.1 = false → s.2.1 = []
  on : s.1 = true → (s.2.1.length : Int) = a
  args : ∀ v ∈ s.2.1, Vr v
  ret : s.2.2.1 = true → Vr s.2.2.2
  no : s.2.2.1 = false → s.2.2.2 = zeroV
structure Br (regs sites : Int) (x : q0j) : Prop where
  off : x.1.1 = false → x.1.2.1 = [] ∧ x.1.2.2 = []
  on : x.1.1 = true → (x.1.2.1.length : Int) = regs ∧ (x.1.2.2.length : Int) = regs
  vals : ∀ v ∈ x.1.2.1, Vr v
  sets : ∀ l ∈ x.1.2.2, q3x sites l
  live : q3x regs x.2
def q48 (s : LSum) : List Int := ((bn s.1 + 2 * bn s.2.2.1 : Nat) : Int) :: (s.2.1.flatMap encV ++ (if s.2.2.1 then encV s.2.2.2 else []))
def encB (regs sites : Int) (x : q0j) : List Int := (if x.1.1 then 1 :: (x.1.2.1.flatMap encV ++ x.1.2.2.flatMap (encS sites)) else [0]) ++ encS regs x.2
theorem Sr.len {a : Int} {s : LSum} (h : Sr a s) (ha : 0 ≤ a ∧ a ≤ 8) : s.2.1.length ≤ 8 := by
  cases hs : s.1 with
  | false => rw [h.off hs]; simp
  | true => have := h.on hs; omega
theorem z19 {l : List q0d} : (l.flatMap encV).length ≤ 31 * l.length := q56 fun v _ => z2g v
theorem z0x {a : Int} {s : LSum} (h : Sr a s) (ha : 0 ≤ a ∧ a ≤ 8) : (q48 s).length ≤ 280 := by
  have h1 := h.len ha
  have h2 := z19 (l := s.2.1)
  have h3 := z2g s.2.2.2
  unfold q48
  simp only [List.length_cons, List.length_append]
  split
  · omega
  · simp only [List.length_nil]; omega
theorem Br.len {regs sites : Int} {x : q0j} (h : Br regs sites x) (hr : 0 ≤ regs ∧ regs ≤ 8) : x.1.2.1.length ≤ 8 ∧ x.1.2.2.length ≤ 8 := by
  cases hs : x.1.1 with
  | false => rw [(h.off hs).1, (h.off hs).2]; simp
  | true => have := h.on hs; omega
theorem j2o {regs sites : Int} {x : q0j} (h : Br regs sites x) (hr : 0 ≤ regs ∧ regs ≤ 8) (hs : 0 ≤ sites ∧ sites ≤ 1000) : (encB regs sites x).length ≤ 1400 := by
  obtain ⟨h1, h1'⟩ := h.len hr
  have h2 := z19 (l := x.1.2.1)
  have h3 := q56 (f := encS sites) (c := 127) (l := x.1.2.2) fun l _ => by have := z2f (n := sites) (s := l); omega
  have h4 := z2f (n := regs) (s := x.2)
  unfold encB
  rw [List.length_append]
  split
  · simp only [List.length_cons, List.length_append]; omega
  · simp only [List.length_cons, List.length_nil]; omega
theorem sum_l0 (hK : 2000 ≤ K) {l : List q0d} (hl : l.length ≤ 1000) (hr : ∀ v ∈ l, Vr v) : ∀ (l2 l1 : List q0d) (k : Nat) (w : List Int), l = l1 ++ l2 → l2.length < k → w.length + 31 * l2.length + 60 ≤ 1000000 → q6g.l0.f K k ((l.length : Nat) : Int) ((l1.length : Nat) : Int) l w = some (w ++ l2.flatMap encV)
  | l2, l1, 0, w, h, hk, hw => by omega
  | [], l1, k + 1, w, h, hk, hw => by
    rw [q6g.l0.f]
    simp only [q2e h, cond_false, List.flatMap_nil, List.append_nil]
  | x :: l2, l1, k + 1, w, h, hk, hw => by
    rw [q6g.l0.f]
    have hl1 : l1.length ≤ 1000 := by rw [h] at hl; simp at hl; omega
    have hx := hr x (by rw [h]; simp)
    have hlen := z2g x
    simp only [List.length_cons] at hw hk
    simp only [q2b h, ge0', blt_mid h, q2w h, cond_true, q0c, j1d hK hx (w := w) (by omega), q0y (l1 := l1) (x := x) (by omega)]
    rw [sum_l0 hK hl hr l2 (l1 ++ [x]) k _ (q09 h) (by omega) (by simp only [List.length_append]; omega)]
    simp
theorem sum_val (hK : 2000 ≤ K) {a : Int} {s : LSum} {w : List Int} (ha : 0 ≤ a ∧ a ≤ 8) (h : Sr a s) (hw : w.length + 400 ≤ 1000000) : q6g.f K s.1 s.2.1 s.2.2.1 s.2.2.2.1 s.2.2.2.2.1.1 s.2.2.2.2.1.2 s.2.2.2.2.2.1.1 s.2.2.2.2.2.1.2 s.2.2.2.2.2.2 w = some (w ++ q48 s) := by
  have hlen := h.len ha
  obtain ⟨h1, h2, h3, h4, h5⟩ := h
  obtain ⟨c, args, r, res⟩ := s
  dsimp only at *
  unfold q6g.f q48
  have loop : ∀ (b : Int) (l : List q0d), l.length ≤ 9 → (∀ v ∈ l, Vr v) → q6g.l0.f K K ((l.length : Nat) : Int) (0 : Int) l (w ++ [b]) = some (w ++ [b] ++ l.flatMap encV) := fun b l q1 q2 =>
    sum_l0 hK (by omega) q2 l [] K _ rfl (by omega) (by simp only [List.length_append, List.length_cons, List.length_nil]; omega)
  have w3 : IntKind.u8.wrap (IntKind.i64.wrap ((3 : Nat) : Int)) = 3 := rfl
  have w2 : IntKind.u8.wrap (IntKind.i64.wrap ((2 : Nat) : Int)) = 2 := rfl
  have w1 : IntKind.u8.wrap (1 : Int) = 1 := rfl
  have w0 : IntKind.u8.wrap (0 : Int) = 0 := rfl
  have hb : ∀ b : Int, q0v.f K b w = some (w ++ [b]) := fun b => q8c (by omega)
  have e1 : Nat.ble (0 + args.length) 1000000 = true := Nat.ble_eq_true_of_le (by omega)
  have e2 : Nat.ble (([] ++ args).length + [(res.1, (res.2.1.1, res.2.1.2), (res.2.2.1.1, res.2.2.1.2), res.2.2.2)].length) 1000000 = true := Nat.ble_eq_true_of_le (by simp; omega)
  cases c with
  | true =>
    cases r with
    | true =>
      have hv := h4 rfl
      simp only [cond_true, e1, e2, w3, hb, q0c]
      rw [loop 3 ([] ++ args ++ [(res.1, (res.2.1.1, res.2.1.2), (res.2.2.1.1, res.2.2.1.2), res.2.2.2)]) (by simp; omega) (fun v hv' => by
        simp only [List.nil_append, List.mem_append, List.mem_singleton] at hv'
        rcases hv' with hv' | rfl
        · exact h3 v hv'
        · exact hv)]
      simp [bn]
    | false =>
      simp only [cond_true, cond_false, e1, w1, hb, q0c]
      rw [loop 1 ([] ++ args) (by simp; omega) (by simpa using h3)]
      simp [bn]
  | false =>
    have := h1 rfl
    subst this
    cases r with
    | true =>
      have hv := h4 rfl
      simp only [cond_true, cond_false, w2, hb, q0c]
      rw [loop 2 ([] ++ [(res.1, (res.2.1.1, res.2.1.2), (res.2.2.1.1, res.2.2.1.2), res.2.2.2)]) (by simp) (fun v hv' => by
        simp only [List.nil_append, List.mem_singleton] at hv'
        subst hv'
        exact hv)]
      simp [bn]
    | false =>
      simp only [cond_false, w0, hb, q0c]
      rw [show q6g.l0.f K K ((0 : Nat) : Int) (0 : Int) [] (w ++ [0]) = _ from loop 0 [] (by simp) (by simp)]
      simp [bn]
theorem bw_l0 (hK : 2000 ≤ K) {l : List q0d} (hl : l.length ≤ 1000) (hr : ∀ v ∈ l, Vr v) : ∀ (l2 l1 : List q0d) (k : Nat) (w : List Int), l = l1 ++ l2 → l2.length < k → w.length + 31 * l2.length + 60 ≤ 1000000 → q4d.l0.f K k l ((l.length : Nat) : Int) ((l1.length : Nat) : Int) w = some (w ++ l2.flatMap encV)
  | l2, l1, 0, w, h, hk, hw => by omega
  | [], l1, k + 1, w, h, hk, hw => by
    rw [q4d.l0.f]
    simp only [q2e h, cond_false, List.flatMap_nil, List.append_nil]
  | x :: l2, l1, k + 1, w, h, hk, hw => by
    rw [q4d.l0.f]
    have hl1 : l1.length ≤ 1000 := by rw [h] at hl; simp at hl; omega
    have hx := hr x (by rw [h]; simp)
    have hlen := z2g x
    simp only [List.length_cons] at hw hk
    simp only [q2b h, ge0, q2w h, cond_true, q0c, j1d hK hx (w := w) (by omega), q0y (l1 := l1) (x := x) (by omega)]
    rw [bw_l0 hK hl hr l2 (l1 ++ [x]) k _ (q09 h) (by omega) (by simp only [List.length_append]; omega)]
    simp
theorem bw_l1 (hK : 2000 ≤ K) {n : Int} (hn : 0 ≤ n ∧ n ≤ 1000) {l : List (List Int)} (hl : l.length ≤ 1000) (hr : ∀ s ∈ l, q3x n s) : ∀ (l2 l1 : List (List Int)) (k : Nat) (w : List Int), l = l1 ++ l2 → l2.length < k → w.length + 127 * l2.length + 60 ≤ 1000000 → q4d.l1.f K k n l ((l.length : Nat) : Int) ((l1.length : Nat) : Int) w = some (w ++ l2.flatMap (encS n))
  | l2, l1, 0, w, h, hk, hw => by omega
  | [], l1, k + 1, w, h, hk, hw => by
    rw [q4d.l1.f]
    simp only [q2e h, cond_false, List.flatMap_nil, List.append_nil]
  | x :: l2, l1, k + 1, w, h, hk, hw => by
    rw [q4d.l1.f]
    have hl1 : l1.length ≤ 1000 := by rw [h] at hl; simp at hl; omega
    have hx := hr x (by rw [h]; simp)
    have hlen := z2f (n := n) (s := x)
    simp only [List.length_cons] at hw hk
    simp only [q2b h, ge0, q2w h, cond_true, q0c, z20 hK hn hx (w := w) (by omega), q0y (l1 := l1) (x := x) (by omega)]
    rw [bw_l1 hK hn hl hr l2 (l1 ++ [x]) k _ (q09 h) (by omega) (by simp only [List.length_append]; omega)]
    simp
theorem bw_val (hK : 2000 ≤ K) {regs sites : Int} {x : q0j} {w : List Int} (hr : 0 ≤ regs ∧ regs ≤ 8) (hs : 0 ≤ sites ∧ sites ≤ 1000) (h : Br regs sites x) (hw : w.length + 3000 ≤ 1000000) : q4d.f K x.1.1 x.1.2.1 x.1.2.2 x.2 regs sites w = some (w ++ encB regs sites x) := by
  obtain ⟨q1, q2⟩ := h.len hr
  obtain ⟨h1, h2, h3, h4, h5⟩ := h
  have g1 := z19 (l := x.1.2.1)
  have g2 := q56 (f := encS sites) (c := 127) (l := x.1.2.2) fun l _ => by have := z2f (n := sites) (s := l); omega
  have g3 := z2f (n := regs) (s := x.2)
  have hb : ∀ b : Int, q0v.f K b w = some (w ++ [b]) := fun b => q8c (by omega)
  unfold q4d.f encB
  cases hx : x.1.1 with
  | false =>
    simp only [Bool.not_false, cond_true, hb, q0c, z20 hK (n := regs) (s := x.2) (w := w ++ [0]) (by omega) h5 (by simp only [List.length_append, List.length_cons, List.length_nil]; omega)]
    simp
  | true =>
    have p1 := bw_l0 (K := K) hK (l := x.1.2.1) (by omega) h3 x.1.2.1 [] K (w ++ [1]) rfl (by omega) (by simp only [List.length_append, List.length_cons, List.length_nil]; omega)
    have p2 := bw_l1 (K := K) hK hs (l := x.1.2.2) (by omega) h4 x.1.2.2 [] K (w ++ [1] ++ x.1.2.1.flatMap encV) rfl (by omega) (by simp only [List.length_append, List.length_cons, List.length_nil]; omega)
    simp only [Bool.not_true, cond_false, hb, q0c]
    rw [show q4d.l0.f K K x.1.2.1 ((x.1.2.1.length : Nat) : Int) (0 : Int) (w ++ [1]) = _ from p1, q0c, show q4d.l1.f K K sites x.1.2.2 ((x.1.2.2.length : Nat) : Int) (0 : Int) (w ++ [1] ++ x.1.2.1.flatMap encV) = _ from p2, q0c,
      z20 hK (n := regs) (s := x.2) (w := w ++ [1] ++ x.1.2.1.flatMap encV ++ x.1.2.2.flatMap (encS sites)) (by omega) h5 (by simp only [List.length_append, List.length_cons, List.length_nil]; omega)]
    simp [q0c]
theorem z1u {m v : Int} {l pre post : List Int} (h : l = pre ++ (v :: post)) (hl : l.length ≤ 1000000) (hv : v ≤ m) : q3t.f K m Err.nil l ((pre.length : Nat) : Int) = some (v, Err.nil, (((pre ++ [v]).length : Nat) : Int)) := by
  unfold q3t.f
  have e : decide (v > m) = false := decide_eq_false (by omega)
  simp only [Err.isNil, Bool.not_true, cond_true, cond_false, q1m.f, q0c, q5n h hl, q1i.f, q03, e]
theorem z2r (hK : 2000 ≤ K) {n : Nat} {l post : List Int} (hl : l.length ≤ 1000000) (hn : n ≤ 1000) : ∀ (r acc : List q0d) (pre : List Int) (k : Nat), l = pre ++ (r.flatMap encV ++ post) → acc.length + r.length = n → r.length < k → (∀ v ∈ r, Vr v) →
    q3a.l0.f K k ((n : Nat) : Int) ((acc.length : Nat) : Int) Err.nil l ((pre.length : Nat) : Int) acc = some (Err.nil, (((pre ++ r.flatMap encV).length : Nat) : Int), acc ++ r)
  | r, acc, pre, 0, h, hr, hk, hv => by omega
  | [], acc, pre, k + 1, h, hr, hk, hv => by
    rw [q3a.l0.f]
    have e : decide (((acc.length : Nat) : Int) < ((n : Nat) : Int)) = false := decide_eq_false (by simp at hr; omega)
    simp only [e, cond_false, List.flatMap_nil, List.append_nil]
  | x :: r, acc, pre, k + 1, h, hr, hk, hv => by
    rw [q3a.l0.f]
    simp only [List.length_cons] at hr hk
    have e : decide (((acc.length : Nat) : Int) < ((n : Nat) : Int)) = true := decide_eq_true (by omega)
    have h' : l = pre ++ (encV x ++ (r.flatMap encV ++ post)) := by rw [h]; simp
    simp only [e, cond_true, q9z hK h' hl (hv x (by simp)), q0c, q2p (l := acc) (x := (x.1, (x.2.1.1, x.2.1.2), (x.2.2.1.1, x.2.2.1.2), x.2.2.2)) (n := 1000000) (by omega), q0y (l1 := acc) (x := x) (by omega)]
    rw [show (acc ++ [(x.1, (x.2.1.1, x.2.1.2), (x.2.2.1.1, x.2.2.1.2), x.2.2.2)]) = acc ++ [x] from rfl, z2r (post := post) hK hl hn r (acc ++ [x]) (pre ++ encV x) k (by rw [h']; simp) (by simp; omega) (by omega) (fun v hv' => hv v (by simp [hv']))]
    simp
theorem takeSum (hK : 2000 ≤ K) {a : Int} {s : LSum} {l pre post : List Int} (ha : 0 ≤ a ∧ a ≤ 8) (hs : Sr a s) (h : l = pre ++ (q48 s ++ post)) (hl : l.length ≤ 1000000) :
    q3a.f K a Err.nil l ((pre.length : Nat) : Int) = some (s.1, s.2.1, s.2.2.1, s.2.2.2.1, s.2.2.2.2.1.1, s.2.2.2.2.1.2, s.2.2.2.2.2.1.1, s.2.2.2.2.2.1.2, s.2.2.2.2.2.2, Err.nil, (((pre ++ q48 s).length : Nat) : Int)) := by
  have hlen := hs.len ha
  obtain ⟨h1, h2, h3, h4, h5⟩ := hs
  obtain ⟨c, args, r, res⟩ := s
  dsimp only at *
  unfold q48 at h ⊢
  dsimp only at h ⊢
  unfold q3a.f
  cases c with
  | true =>
    have hn := h2 rfl
    cases r with
    | true =>
      simp only [bn, if_true] at h ⊢
      have t := z1u (K := K) (m := 3) (v := ((1 + 2 * 1 : Nat) : Int)) (l := l) (pre := pre) (post := args.flatMap encV ++ (encV res ++ post)) (by rw [h]; simp) hl (by decide)
      have q1 := z2r (K := K) hK hl (n := args.length) (post := encV res ++ post) (by omega) args [] (pre ++ [((1 + 2 * 1 : Nat) : Int)]) K (by rw [h]; simp) (by simp) (by omega) h3
      have q2 := q9z (K := K) hK (v := res) (l := l) (pre := pre ++ [((1 + 2 * 1 : Nat) : Int)] ++ args.flatMap encV) (post := post) (by rw [h]; simp) hl (h4 rfl)
      rw [t, q0c, ← hn]
      simp only [show (IntKind.u8.wrap (((BitVec.ofInt 8 ((1 + 2 * 1 : Nat) : Int) &&& BitVec.ofInt 8 (1 : Int)).toNat : Nat) : Int) != 0) = true from rfl, show (IntKind.u8.wrap (((BitVec.ofInt 8 ((1 + 2 * 1 : Nat) : Int) &&& BitVec.ofInt 8 (2 : Int)).toNat : Nat) : Int) != 0) = true from rfl, cond_true]
      rw [show q3a.l0.f K K ((args.length : Nat) : Int) (0 : Int) Err.nil l _ [] = _ from q1, q0c, q2, q0c]
      simp
    | false =>
      have hz := h5 rfl
      subst hz
      simp only [bn, if_true, if_false, Bool.false_eq_true, List.append_nil] at h ⊢
      have t := z1u (K := K) (m := 3) (v := ((1 + 2 * 0 : Nat) : Int)) (l := l) (pre := pre) (post := args.flatMap encV ++ post) (by rw [h]; simp) hl (by decide)
      have q1 := z2r (K := K) hK hl (n := args.length) (post := post) (by omega) args [] (pre ++ [((1 + 2 * 0 : Nat) : Int)]) K (by rw [h]; simp) (by simp) (by omega) h3
      rw [t, q0c, ← hn]
      simp only [show (IntKind.u8.wrap (((BitVec.ofInt 8 ((1 + 2 * 0 : Nat) : Int) &&& BitVec.ofInt 8 (1 : Int)).toNat : Nat) : Int) != 0) = true from rfl, show (IntKind.u8.wrap (((BitVec.ofInt 8 ((1 + 2 * 0 : Nat) : Int) &&& BitVec.ofInt 8 (2 : Int)).toNat : Nat) : Int) != 0) = false from rfl, cond_true, cond_false]
      rw [show q3a.l0.f K K ((args.length : Nat) : Int) (0 : Int) Err.nil l _ [] = _ from q1, q0c]
      simp
  | false =>
    have := h1 rfl
    subst this
    cases r with
    | true =>
      simp only [bn, if_true, if_false, Bool.false_eq_true, List.flatMap_nil, List.nil_append] at h ⊢
      have t := z1u (K := K) (m := 3) (v := ((0 + 2 * 1 : Nat) : Int)) (l := l) (pre := pre) (post := encV res ++ post) (by rw [h]; simp) hl (by decide)
      have q2 := q9z (K := K) hK (v := res) (l := l) (pre := pre ++ [((0 + 2 * 1 : Nat) : Int)]) (post := post) (by rw [h]; simp) hl (h4 rfl)
      rw [t, q0c]
      simp only [show (IntKind.u8.wrap (((BitVec.ofInt 8 ((0 + 2 * 1 : Nat) : Int) &&& BitVec.ofInt 8 (1 : Int)).toNat : Nat) : Int) != 0) = false from rfl, show (IntKind.u8.wrap (((BitVec.ofInt 8 ((0 + 2 * 1 : Nat) : Int) &&& BitVec.ofInt 8 (2 : Int)).toNat : Nat) : Int) != 0) = true from rfl, cond_true, cond_false, q2, q0c]
      simp
    | false =>
      have hz := h5 rfl
      subst hz
      simp only [bn, if_false, Bool.false_eq_true, List.flatMap_nil, List.append_nil] at h ⊢
      have t := z1u (K := K) (m := 3) (v := ((0 + 2 * 0 : Nat) : Int)) (l := l) (pre := pre) (post := post) (by rw [h]; simp) hl (by decide)
      rw [t, q0c]
      simp only [show (IntKind.u8.wrap (((BitVec.ofInt 8 ((0 + 2 * 0 : Nat) : Int) &&& BitVec.ofInt 8 (1 : Int)).toNat : Nat) : Int) != 0) = false from rfl, show (IntKind.u8.wrap (((BitVec.ofInt 8 ((0 + 2 * 0 : Nat) : Int) &&& BitVec.ofInt 8 (2 : Int)).toNat : Nat) : Int) != 0) = false from rfl, cond_false]
theorem j1q (hK : 2000 ≤ K) {n : Int} {s l pre post : List Int} (hn : 0 ≤ n ∧ n ≤ 1000) (h : q3x n s) (hd : l = pre ++ (encS n s ++ post)) (hl : l.length ≤ 1000000) : q41.f K n Err.nil l ((pre.length : Nat) : Int) = some (s, Err.nil, (((pre ++ encS n s).length : Nat) : Int)) := by
  unfold q41.f
  simp only [Err.isNil, Bool.not_true, cond_true, cond_false, bread_val hK hn h hd hl, q0c, q1i.f]
theorem j3p (hK : 2000 ≤ K) {n : Nat} {l post : List Int} (hl : l.length ≤ 1000000) (hn : n ≤ 1000) : ∀ (r acc : List q0d) (pre : List Int) (k : Nat), l = pre ++ (r.flatMap encV ++ post) → acc.length + r.length = n → r.length < k → (∀ v ∈ r, Vr v) →
    q2g.l0.f K k ((n : Nat) : Int) ((acc.length : Nat) : Int) Err.nil l ((pre.length : Nat) : Int) acc = some (Err.nil, (((pre ++ r.flatMap encV).length : Nat) : Int), acc ++ r)
  | r, acc, pre, 0, h, hr, hk, hv => by omega
  | [], acc, pre, k + 1, h, hr, hk, hv => by
    rw [q2g.l0.f]
    have e : decide (((acc.length : Nat) : Int) < ((n : Nat) : Int)) = false := decide_eq_false (by simp at hr; omega)
    simp only [e, cond_false, List.flatMap_nil, List.append_nil]
  | x :: r, acc, pre, k + 1, h, hr, hk, hv => by
    rw [q2g.l0.f]
    simp only [List.length_cons] at hr hk
    have e : decide (((acc.length : Nat) : Int) < ((n : Nat) : Int)) = true := decide_eq_true (by omega)
    have h' : l = pre ++ (encV x ++ (r.flatMap encV ++ post)) := by rw [h]; simp
    simp only [e, cond_true, q9z hK h' hl (hv x (by simp)), q0c, q2p (l := acc) (x := (x.1, (x.2.1.1, x.2.1.2), (x.2.2.1.1, x.2.2.1.2), x.2.2.2)) (n := 1000000) (by omega), q0y (l1 := acc) (x := x) (by omega)]
    rw [show (acc ++ [(x.1, (x.2.1.1, x.2.1.2), (x.2.2.1.1, x.2.2.1.2), x.2.2.2)]) = acc ++ [x] from rfl, j3p (post := post) hK hl hn r (acc ++ [x]) (pre ++ encV x) k (by rw [h']; simp) (by simp; omega) (by omega) (fun v hv' => hv v (by simp [hv']))]
    simp
theorem j3m (hK : 2000 ≤ K) {n : Nat} {q : Int} {l post : List Int} (hq : 0 ≤ q ∧ q ≤ 1000) (hl : l.length ≤ 1000000) (hn : n ≤ 1000) : ∀ (r acc : List (List Int)) (pre : List Int) (k : Nat), l = pre ++ (r.flatMap (encS q) ++ post) → acc.length + r.length = n → r.length < k → (∀ s ∈ r, q3x q s) →
    q2g.l1.f K k q ((n : Nat) : Int) ((acc.length : Nat) : Int) Err.nil l ((pre.length : Nat) : Int) acc = some (Err.nil, (((pre ++ r.flatMap (encS q)).length : Nat) : Int), acc ++ r)
  | r, acc, pre, 0, h, hr, hk, hv => by omega
  | [], acc, pre, k + 1, h, hr, hk, hv => by
    rw [q2g.l1.f]
    have e : decide (((acc.length : Nat) : Int) < ((n : Nat) : Int)) = false := decide_eq_false (by simp at hr; omega)
    simp only [e, cond_false, List.flatMap_nil, List.append_nil]
  | x :: r, acc, pre, k + 1, h, hr, hk, hv => by
    rw [q2g.l1.f]
    simp only [List.length_cons] at hr hk
    have e : decide (((acc.length : Nat) : Int) < ((n : Nat) : Int)) = true := decide_eq_true (by omega)
    have h' : l = pre ++ (encS q x ++ (r.flatMap (encS q) ++ post)) := by rw [h]; simp
    simp only [e, cond_true, j1q hK hq (hv x (by simp)) h' hl, q0c, q2p (l := acc) (x := x) (n := 1000000) (by omega), q0y (l1 := acc) (x := x) (by omega)]
    rw [j3m (post := post) hK hq hl hn r (acc ++ [x]) (pre ++ encS q x) k (by rw [h']; simp) (by simp; omega) (by omega) (fun v hv' => hv v (by simp [hv']))]
    simp
theorem takeB (hK : 2000 ≤ K) {regs sites : Int} {x : q0j} {l pre post : List Int} (hr : 0 ≤ regs ∧ regs ≤ 8) (hs : 0 ≤ sites ∧ sites ≤ 1000) (hx : Br regs sites x) (h : l = pre ++ (encB regs sites x ++ post)) (hl : l.length ≤ 1000000) :
    q2g.f K regs sites Err.nil l ((pre.length : Nat) : Int) = some (x.1.1, x.1.2.1, x.1.2.2, x.2, Err.nil, (((pre ++ encB regs sites x).length : Nat) : Int)) := by
  obtain ⟨h1, h2, h3, h4, h5⟩ := hx
  obtain ⟨⟨c, vals, sets⟩, live⟩ := x
  dsimp only at *
  unfold encB at h ⊢
  dsimp only at h ⊢
  unfold q2g.f
  cases c with
  | false =>
    obtain ⟨e1, e2⟩ := h1 rfl
    subst e1
    subst e2
    simp only [if_false, Bool.false_eq_true] at h ⊢
    have t := z1u (K := K) (m := 1) (v := 0) (l := l) (pre := pre) (post := encS regs live ++ post) (by rw [h]; simp) hl (by decide)
    have q := j1q (K := K) hK (n := regs) (s := live) (l := l) (pre := pre ++ [0]) (post := post) (by omega) h5 (by rw [h]; simp) hl
    rw [t, q0c]
    simp only [show ((0 : Int) == 1) = false from rfl, cond_false, q, q0c]
    simp
  | true =>
    obtain ⟨e1, e2⟩ := h2 rfl
    simp only [if_true] at h ⊢
    have t := z1u (K := K) (m := 1) (v := 1) (l := l) (pre := pre) (post := vals.flatMap encV ++ (sets.flatMap (encS sites) ++ (encS regs live ++ post))) (by rw [h]; simp) hl (by decide)
    have q1 := j3p (K := K) hK hl (n := vals.length) (post := sets.flatMap (encS sites) ++ (encS regs live ++ post)) (by omega) vals [] (pre ++ [1]) K (by rw [h]; simp) (by simp) (by omega) h3
    have q2 := j3m (K := K) hK hs hl (n := sets.length) (post := encS regs live ++ post) (by omega) sets [] (pre ++ [1] ++ vals.flatMap encV) K (by rw [h]; simp) (by simp) (by omega) h4
    have q3 := j1q (K := K) hK (n := regs) (s := live) (l := l) (pre := pre ++ [1] ++ vals.flatMap encV ++ sets.flatMap (encS sites)) (post := post) (by omega) h5 (by rw [h]; simp) hl
    rw [e1] at q1
    rw [e2] at q2
    rw [t, q0c]
    simp only [show ((1 : Int) == 1) = true from rfl, cond_true]
    rw [show q2g.l0.f K K regs (0 : Int) Err.nil l _ [] = _ from q1, q0c, show q2g.l1.f K K sites regs (0 : Int) Err.nil l _ [] = _ from q2, q0c, q3, q0c]
    simp
end Go.Proofs.YtdjkdmjdcdljmaaGreatDoor.AF
namespace Go.Proofs.YtdjkdmjdcdljmaaGreatDoor.AF
open Go.Proofs.q0a Go.Proofs.q0a.Runs
set_option maxRecDepth 100000
set_option maxHeartbeats 4000000
variable {K : Nat}
def sec (b : List Int) : List Int := encU b.length ++ b
theorem z48 (b : List Int) : (sec b).length ≤ b.length + 10 := by
  have := q6q b.length
  simp only [sec, List.length_append]; omega
theorem j15 (hK : 2000 ≤ K) {b w : List Int} (h : w.length + b.length + 20 ≤ 1000000) : q1y.f K b w = some (w ++ sec b) := by
  unfold q1y.f
  have := q6q b.length
  rw [z1z hK (n := ((b.length : Nat) : Int)) (by omega) (by omega) (by omega), q0c, Int.toNat_natCast, z44 (by simp only [List.length_append]; omega)]
  simp [sec]
theorem j3n (hK : 2000 ≤ K) {b l pre post : List Int} (h : l = pre ++ (sec b ++ post)) (hl : l.length ≤ 1000000) : q2l.f K l ((pre.length : Nat) : Int) = some (Err.nil, (((pre ++ sec b).length : Nat) : Int), pre ++ encU b.length ++ b, (((pre ++ encU b.length).length : Nat) : Int)) := by
  unfold q2l.f
  have he := q6q b.length
  have hlen : pre.length + (encU b.length).length + b.length + post.length = l.length := by rw [h]; simp [sec]; omega
  have lk := z7k (K := K) hK (most := 18446744073709551615) (n := b.length) (l := l) (pre := pre) (post := b ++ post) (by rw [h]; simp [sec]) hl (by omega) (by omega)
  have lk' : q21.f K (18446744073709551615 : Int) l ((pre.length : Nat) : Int) = some (((b.length : Nat) : Int), (((encU b.length).length : Nat) : Int), 0) := lk
  have w1 : IntKind.i64.wrap (((l.length - pre.length : Nat) : Int) - (((encU b.length).length : Nat) : Int)) = ((l.length - pre.length - (encU b.length).length : Nat) : Int) := by rw [q00 (by omega) (by omega)]; omega
  have w2 : IntKind.u64.wrap ((l.length - pre.length - (encU b.length).length : Nat) : Int) = ((l.length - pre.length - (encU b.length).length : Nat) : Int) := q4b (by omega) (by omega)
  have e1 : decide (((b.length : Nat) : Int) > ((l.length - pre.length - (encU b.length).length : Nat) : Int)) = false := decide_eq_false (by omega)
  have w3 : IntKind.i64.wrap ((b.length : Nat) : Int) = ((b.length : Nat) : Int) := q00 (by omega) (by omega)
  have w4 : IntKind.i64.wrap (((pre.length : Nat) : Int) + (((encU b.length).length : Nat) : Int)) = ((pre.length + (encU b.length).length : Nat) : Int) := by rw [q00 (by omega) (by omega)]; simp
  have w5 : IntKind.i64.wrap (((pre.length + (encU b.length).length : Nat) : Int) + ((b.length : Nat) : Int)) = ((pre.length + (encU b.length).length + b.length : Nat) : Int) := by rw [q00 (by omega) (by omega)]; simp
  have w6 : IntKind.i64.wrap ((((encU b.length).length : Nat) : Int) + ((b.length : Nat) : Int)) = (((encU b.length).length + b.length : Nat) : Int) := by rw [q00 (by omega) (by omega)]; simp
  have w7 : IntKind.i64.wrap (((pre.length : Nat) : Int) + (((encU b.length).length + b.length : Nat) : Int)) = ((pre.length + (encU b.length).length + b.length : Nat) : Int) := by rw [q00 (by omega) (by omega)]; omega
  have e2 : (decide (((0 : Nat) : Int) ≤ ((pre.length + (encU b.length).length + b.length : Nat) : Int)) && decide (((pre.length + (encU b.length).length + b.length : Nat) : Int) ≤ ((l.length : Nat) : Int)) && true) = true := by simp; omega
  have hsub : List.take (pre.length + (encU b.length).length + b.length) l = pre ++ encU b.length ++ b := by
    have : l = (pre ++ encU b.length ++ b) ++ post := by rw [h]; simp [sec]
    rw [this, List.take_left' (by simp only [List.length_append])]
  simp only [lk', q0c, show ((0 : Int) != 0) = false from rfl, cond_false, z0s (K := K) (l := l) (p := pre.length) (by omega) hl, w1, w2, e1, w3, w4, w5, w6, w7, e2, cond_true, Int.toNat_natCast, List.drop_zero, hsub]
  simp [sec]
  omega
abbrev q62 : q0j := ((false, [], []), [])
structure Tf (sites : Int) (m : q0t) (x : q0l) : Prop where
  sum : Sr m.2.1 x.1
  len : x.2.length = m.2.2.2.length
  blocks : ∀ b ∈ x.2, Br m.2.2.1 sites b
def encT (sites : Int) (m : q0t) (x : q0l) (T : List Int) : List Int := T.flatMap fun b => encB m.2.2.1 sites (x.2.getD b.toNat q62)
def encF (sites : Int) (T : List Int) (m : q0t) (x : q0l) : List Int := q48 x.1 ++ encT sites m x T
theorem Tf.get {sites : Int} {m : q0t} {x : q0l} (h : Tf sites m x) {b : Int} (hb : 0 ≤ b ∧ b < (m.2.2.2.length : Int)) : ∃ y, x.2[b.toNat]? = some y ∧ x.2.getD b.toNat q62 = y ∧ Br m.2.2.1 sites y := by
  have hlt : b.toNat < x.2.length := by rw [h.len]; omega
  exact ⟨x.2[b.toNat], by simp [hlt], by simp [List.getD, hlt], h.blocks _ (List.getElem_mem hlt)⟩
theorem encT_len {sites : Int} {m : q0t} {x : q0l} {T : List Int} (h : Tf sites m x) (hr : 0 ≤ m.2.2.1 ∧ m.2.2.1 ≤ 8) (hs : 0 ≤ sites ∧ sites ≤ 1000) (hT : ∀ b ∈ T, 0 ≤ b ∧ b < (m.2.2.2.length : Int)) : (encT sites m x T).length ≤ 1400 * T.length := by
  refine q56 fun b hb => ?_
  obtain ⟨y, _, e, hy⟩ := h.get (hT b hb)
  rw [e]
  exact j2o hy hr hs
theorem j4a {sites : Int} {m : q0t} {x : q0l} {T : List Int} (h : Tf sites m x) (hr : 0 ≤ m.2.2.1 ∧ m.2.2.1 ≤ 8) (ha : 0 ≤ m.2.1 ∧ m.2.1 ≤ 4) (hs : 0 ≤ sites ∧ sites ≤ 1000) (hm : m.2.2.2.length ≤ 12) (hT : q3x m.2.2.2.length T) : (encF sites T m x).length ≤ 17100 := by
  have h1 := z0x h.sum (by omega)
  have h2 := encT_len h hr hs hT.2
  have h3 := q5j hT
  have h4 : 1400 * T.length ≤ 1400 * 12 := Nat.mul_le_mul_left _ (by omega)
  simp only [encF, List.length_append]
  omega
theorem z9j (hK : 2000 ≤ K) {sites : Int} {m : q0t} {x : q0l} {fs : List q0t} {i : Nat} (hi : fs[i]? = some m) (h : Tf sites m x) (hr : 0 ≤ m.2.2.1 ∧ m.2.2.1 ≤ 8) (hs : 0 ≤ sites ∧ sites ≤ 1000) {T : List Int} (hl : T.length ≤ 1000) (hT : ∀ b ∈ T, 0 ≤ b ∧ b < (m.2.2.2.length : Int)) : ∀ (T2 T1 : List Int) (k : Nat) (w : List Int), T = T1 ++ T2 → T2.length < k → w.length + 1400 * T2.length + 3000 ≤ 1000000 →
    q18.l2.f K k sites ((i : Nat) : Int) T ((T.length : Nat) : Int) ((T1.length : Nat) : Int) fs x.2 w = some (w ++ encT sites m x T2)
  | T2, T1, 0, w, hh, hk, hw => by omega
  | [], T1, k + 1, w, hh, hk, hw => by
    rw [q18.l2.f]
    simp only [q2e hh, cond_false, encT, List.flatMap_nil, List.append_nil]
  | b :: T2, T1, k + 1, w, hh, hk, hw => by
    rw [q18.l2.f]
    have hl1 : T1.length ≤ 1000 := by rw [hh] at hl; simp at hl; omega
    have hb := hT b (by rw [hh]; simp)
    obtain ⟨y, q1, q2, q3⟩ := h.get hb
    have e1 : (decide (0 ≤ b) && true) = true := by simp; omega
    have hyl := j2o q3 hr hs
    have hm : T[T1.length]? = some b := by rw [hh]; simp
    simp only [List.length_cons] at hk hw
    simp only [q2b hh, ge0, Int.toNat_natCast, hm, cond_true, q0c, e1, q1, hi, bw_val hK hr hs q3 (w := w) (by omega), q0y (l1 := T1) (x := b) (by omega)]
    rw [z9j hK hi h hr hs hl hT T2 (T1 ++ [b]) k _ (q09 hh) (by omega) (by simp only [List.length_append]; omega)]
    simp only [encT, List.flatMap_cons, q2, List.append_assoc]
theorem j3t (hK : 2000 ≤ K) {sites : Int} {m : q0t} {x : q0l} (h : Tf sites m x) (hr : 0 ≤ m.2.2.1 ∧ m.2.2.1 ≤ 8) (hs : 0 ≤ sites ∧ sites ≤ 1000) {T : List Int} (hl : T.length ≤ 1000) (hT : ∀ b ∈ T, 0 ≤ b ∧ b < (m.2.2.2.length : Int)) {l post : List Int} (hll : l.length ≤ 1000000) : ∀ (T2 T1 : List Int) (k : Nat) (pre : List Int) (B : List q0j), T = T1 ++ T2 → T2.length < k → l = pre ++ (encT sites m x T2 ++ post) → B.length = m.2.2.2.length → (∀ j : Nat, j < m.2.2.2.length → B[j]? = if ((j : Nat) : Int) ∈ T1 then x.2[j]? else some q62) →
    ∃ B', q2y.l0.f K k sites T ((T.length : Nat) : Int) ((T1.length : Nat) : Int) m.2.2.1 Err.nil B l ((pre.length : Nat) : Int) = some (Err.nil, B', (((pre ++ encT sites m x T2).length : Nat) : Int)) ∧ B'.length = m.2.2.2.length ∧ ∀ j : Nat, j < m.2.2.2.length → B'[j]? = if ((j : Nat) : Int) ∈ T then x.2[j]? else some q62
  | T2, T1, 0, pre, B, hh, hk, hd, hB, hj => by omega
  | [], T1, k + 1, pre, B, hh, hk, hd, hB, hj => by
    rw [q2y.l0.f]
    have : T1 = T := by simpa using hh.symm
    simp only [q2e hh, cond_false, encT, List.flatMap_nil, List.append_nil]
    exact ⟨B, rfl, hB, by rw [← this]; exact hj⟩
  | b :: T2, T1, k + 1, pre, B, hh, hk, hd, hB, hj => by
    rw [q2y.l0.f]
    have hl1 : T1.length ≤ 1000 := by rw [hh] at hl; simp at hl; omega
    have hb := hT b (by rw [hh]; simp)
    obtain ⟨y, q1, q2, q3⟩ := h.get hb
    have e1 : decide (0 ≤ b) = true := decide_eq_true hb.1
    have e2 : Nat.blt (Int.toNat b) B.length = true := Nat.ble_eq_true_of_le (by rw [hB]; omega)
    have hlt : b.toNat < B.length := by rw [hB]; omega
    have hd' : l = pre ++ (encB m.2.2.1 sites y ++ (encT sites m x T2 ++ post)) := by rw [hd]; simp only [encT, List.flatMap_cons, q2, List.append_assoc]
    have hm : T[T1.length]? = some b := by rw [hh]; simp
    simp only [List.length_cons] at hk
    simp only [q2b hh, ge0, Int.toNat_natCast, hm, cond_true, q0c, e1, e2, takeB hK hr hs q3 hd' hll, List.getElem?_eq_getElem hlt, q0y (l1 := T1) (x := b) (by omega)]
    have hset : ((y.1.1, y.1.2.1, y.1.2.2), y.2) = y := rfl
    obtain ⟨B', p1, p2, p3⟩ := j3t hK h hr hs hl hT (post := post) hll T2 (T1 ++ [b]) k (pre ++ encB m.2.2.1 sites y) (B.set b.toNat y) (q09 hh) (by omega) (by rw [hd']; simp) (by simpa using hB) fun j hjl => by
      rw [List.getElem?_set]
      by_cases e : b.toNat = j
      · subst e
        have hmem : ((b.toNat : Nat) : Int) ∈ T1 ++ [b] := by simp; exact .inr (by omega)
        rw [if_pos rfl, if_pos hlt, if_pos hmem]
        exact q1.symm
      · rw [if_neg e, hj j hjl]
        have : (((j : Nat) : Int) ∈ T1 ++ [b]) ↔ ((j : Nat) : Int) ∈ T1 := by
          simp only [List.mem_append, List.mem_singleton]
          constructor
          · rintro (h1 | h1)
            · exact h1
            · exact absurd (by omega) e
          · exact .inl
        by_cases h1 : ((j : Nat) : Int) ∈ T1
        · rw [if_pos h1, if_pos (this.2 h1)]
        · rw [if_neg h1, if_neg (fun h2 => h1 (this.1 h2))]
    refine ⟨B', ?_, p2, p3⟩
    rw [hset, p1]
    simp only [encT, List.flatMap_cons, q2, List.append_assoc]
theorem takeF (hK : 2000 ≤ K) {sites : Int} {m : q0t} {x : q0l} {sp : Bool} {T l pre post : List Int} (h : Tf sites m x) (hr : 0 ≤ m.2.2.1 ∧ m.2.2.1 ≤ 8) (ha : 0 ≤ m.2.1 ∧ m.2.1 ≤ 4) (hs : 0 ≤ sites ∧ sites ≤ 1000) (hm : m.2.2.2.length ≤ 12) (ht : q4v.f K m.2.2.2 sp = some T) (hT : q3x m.2.2.2.length T) (hz : ∀ j : Nat, j < m.2.2.2.length → ((j : Nat) : Int) ∉ T → x.2[j]? = some q62) (hd : l = pre ++ (sec (encF sites T m x) ++ post)) (hl : l.length ≤ 1000000) :
    q2y.f K m.2.1 m.2.2.1 m.2.2.2 sp sites Err.nil l ((pre.length : Nat) : Int) = some (x.1.1, x.1.2.1, x.1.2.2.1, x.1.2.2.2.1, x.1.2.2.2.2.1.1, x.1.2.2.2.2.1.2, x.1.2.2.2.2.2.1.1, x.1.2.2.2.2.2.1.2, x.1.2.2.2.2.2.2, x.2, Err.nil, (((pre ++ sec (encF sites T m x)).length : Nat) : Int)) := by
  unfold q2y.f
  have hTl := q5j hT
  have e1 : (decide (((m.2.2.2.length : Nat) : Int) ≤ 1000000) && ((m.2.2.2.length : Nat) : Int) == ((m.2.2.2.length : Nat) : Int) && true && true && true) = true := by simp; omega
  have hlen := congrArg List.length hd
  have hse := z48 (encF sites T m x)
  simp only [List.length_append, sec] at hlen
  have hsub : (pre ++ encU (encF sites T m x).length ++ encF sites T m x).length ≤ 1000000 := by simp only [List.length_append]; omega
  have s1 := takeSum (K := K) hK (a := m.2.1) (s := x.1) (l := pre ++ encU (encF sites T m x).length ++ encF sites T m x) (pre := pre ++ encU (encF sites T m x).length) (post := encT sites m x T) (by omega) h.sum (by simp [encF]) hsub
  obtain ⟨B', b1, b2, b3⟩ := j3t (K := K) hK h hr hs (T := T) (by omega) hT.2 (l := pre ++ encU (encF sites T m x).length ++ encF sites T m x) (post := []) hsub T [] K (pre ++ encU (encF sites T m x).length ++ q48 x.1) (List.replicate m.2.2.2.length q62) rfl (by omega) (by simp [encF]) (by simp) (fun j hj => by simp [hj])
  have hB : B' = x.2 := by
    apply List.ext_getElem?
    intro j
    by_cases hj : j < m.2.2.2.length
    · rw [b3 j hj]
      by_cases hjT : ((j : Nat) : Int) ∈ T
      · rw [if_pos hjT]
      · rw [if_neg hjT, hz j hj hjT]
    · rw [List.getElem?_eq_none (by omega), List.getElem?_eq_none (by rw [h.len]; omega)]
  subst hB
  have hend : pre ++ encU (encF sites T m x).length ++ q48 x.1 ++ encT sites m x T = pre ++ encU (encF sites T m x).length ++ encF sites T m x := by simp [encF]
  rw [e1, cond_true]
  simp only [Err.isNil, Bool.not_true, cond_true, cond_false, j3n hK hd hl, q0c, s1, ht, Int.toNat_natCast]
  rw [show q2y.l0.f K K sites T ((T.length : Nat) : Int) (0 : Int) m.2.2.1 Err.nil (List.replicate m.2.2.2.length q62) _ _ = _ from b1, q0c]
  simp only [hend, q4x.f, Err.isNil, cond_true, cond_false, z8c hsub, q0c, q1i.f]
end Go.Proofs.YtdjkdmjdcdljmaaGreatDoor.AF
