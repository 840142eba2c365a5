/- Own work. No condition. -/
import Derived.Test.YtdjkdmjdcdljmaaGreatTe
import Derived.Test.YtdjkdmjdcdljmaaGreatTf

namespace Go.Proofs.YtdjkdmjdcdljmaaGreat.AT
open Go.RowKit Go.Proofs.YtdjkdmjdcdljmaaGreatX Go.Proofs.YtdjkdmjdcdljmaaGreat.Sr
set_option linter.unusedVariables false
set_option linter.unusedSimpArgs false
set_option maxRecDepth 100000
set_option maxHeartbeats 4000000
variable {K : Nat}

theorem fit_c (a : Int) (h : -9223372036854775808 ≤ a ∧ a ≤ 9223372036854775807 := by decide) : fit64 a := h
def F2 (v : Int × Int × Bool) : Prop := fit64 v.1 ∧ fit64 v.2.1
theorem f2_any : F2 any := by constructor <;> (unfold fit64; decide)
theorem f2_c {a b : Int} {c : Bool} (h : fit64 a) (g : fit64 b) : F2 (a, b, c) := ⟨h, g⟩
theorem f2_0 {c : Bool} : F2 (0, 0, c) := ⟨fit_c 0, fit_c 0⟩
theorem foldl_fit : ∀ {l : List Int} {p : Int × Int}, (∀ v ∈ l, fit64 v) → fit64 p.1 ∧ fit64 p.2 → fit64 (l.foldl grow p).1 ∧ fit64 (l.foldl grow p).2
  | [], p, _, h => h
  | v :: l, p, hl, h => foldl_fit (l := l) (p := grow p v) (fun u hu => hl u (by simp [hu])) ⟨fits_mn h.1 (hl v (by simp)), fits_mx h.2 (hl v (by simp))⟩
theorem hull_fit {l : List Int} (h : ∀ v ∈ l, fit64 v) : fit64 (hull l).1 ∧ fit64 (hull l).2 := by
  cases l with
  | nil => exact ⟨fit_c 0, fit_c 0⟩
  | cons x l => exact foldl_fit (fun v hv => h v (by simp [hv])) ⟨h x (by simp), h x (by simp)⟩
theorem hullT_fit (l : List Int) : F2 (hullT l) := by
  unfold hullT
  split
  · rename_i h; exact hull_fit h
  · exact f2_any
theorem quos_fit {a b : Int} : ∀ {l : List Int}, (∀ e ∈ l, fit64 (a.tdiv e) ∧ fit64 (b.tdiv e)) → ∀ v ∈ quos a b l, fit64 v
  | [], _, v, hv => by simp [quos] at hv
  | e :: l, h, v, hv => by
    simp only [quos, List.mem_cons] at hv
    rcases hv with rfl | rfl | hv
    · exact (h e (by simp)).1
    · exact (h e (by simp)).2
    · exact quos_fit (fun e he => h e (by simp [he])) v hv
theorem divV_fit {a b c d : Int} (ha : fit64 a) (hb : fit64 b) (hab : a ≤ b) (hcd : c ≤ d) : F2 (divV a b c d) := by
  unfold divV
  split
  · exact f2_0
  split
  · exact f2_any
  · rename_i full
    refine hull_fit (quos_fit fun e he => ?_)
    obtain ⟨_, h1, h2⟩ := ne_of_mem_eds hcd he
    unfold fit64 at ha hb
    exact ⟨tdiv_fits ha (fun q => full (by omega)), tdiv_fits hb (fun q => full (by omega))⟩
theorem twoV_fit (op : Int) {a b c d : Int} (ha : fit64 a) (hb : fit64 b) (hc : fit64 c) (hd : fit64 d) (hab : a ≤ b) (hcd : c ≤ d) : F2 (twoV op a b c d) := by
  unfold twoV
  split
  · exact hullT_fit _
  split
  · exact hullT_fit _
  split
  · exact hullT_fit _
  split
  · exact divV_fit ha hb hab hcd
  split
  · unfold remV
    have f1 := far_ge c d
    have f2 := far_fits hc hd
    split
    · exact f2_0
    · refine f2_c ?_ ?_
      · split
        · exact fits_mx ha (by unfold fit64; omega)
        · exact fit_c 0
      · split
        · exact fits_mn hb (by unfold fit64; omega)
        · exact fit_c 0
  split
  · unfold andV
    repeat' split
    all_goals first | exact f2_c (fit_c 0) (fits_mn hb hd) | exact f2_c (fit_c 0) hb | exact f2_c (fit_c 0) hd | exact f2_c (fit_c (-9223372036854775808)) (fits_mn hb hd) | exact f2_c (fit_c (-9223372036854775808)) (fits_mx hb hd)
  split
  · have g : ∀ n, fit64 n → fit64 (ones0 n) ∧ fit64 (-1 - ones0 n) := fun n hn => by
      have h1 := ones_ge n
      have h2 := ones_fits hn
      unfold fit64
      omega
    unfold xorV
    repeat' split
    · exact f2_c (fit_c 0) (g _ (fits_mx hb hd)).1
    · exact f2_c (fit_c 0) (g _ (fits_mx (fits_not ha) (fits_not hc))).1
    · exact f2_c (g _ (fits_mx (fits_not ha) hd)).2 (fit_c (-1))
    · exact f2_c (g _ (fits_mx hb (fits_not hc))).2 (fit_c (-1))
    · exact f2_any
  split
  · repeat' split
    all_goals first | exact f2_c (fit_c 1) (fit_c 1) | exact f2_0 | exact f2_c (fit_c 0) (fit_c 1)
  split
  · repeat' split
    all_goals first | exact f2_c (fit_c 1) (fit_c 1) | exact f2_0 | exact f2_c (fit_c 0) (fit_c 1)
  · exact f2_0
theorem oneV_fit (op : Int) {a b : Int} (ha : fit64 a) (hb : fit64 b) (hab : a ≤ b) : F2 (oneV op a b) := by
  unfold oneV
  split
  · exact ⟨ha, hb⟩
  split
  · split
    · split
      · exact ⟨ha, hb⟩
      · exact f2_any
    · refine f2_c ?_ ?_ <;> unfold fit64 at * <;> omega
  · exact f2_0
theorem branchV_fit (yes : Bool) {a b : Int} (ha : fit64 a) (hb : fit64 b) : F2 (branchV a b yes) := by
  unfold branchV
  split
  · repeat' split
    · exact f2_0
    · exact f2_c (fit_c 1) hb
    · exact f2_c ha (fit_c (-1))
    · exact ⟨ha, hb⟩
  · exact f2_0

structure Good (x : VV) (n : Int) : Prop where
  ok : Ok x
  fit : Fit x
  has : Hs x n
theorem good_of {x : VV} {n : Int} (w : Wk x) (f : Fit x) (h : Hs x n) : Good x n :=
  ⟨⟨w, fun e => so_ne n (by rw [← h.s, e, Nat.and_zero]), fun e => po_ne n (by rw [← h.p, e, Nat.and_zero]), Int.le_trans h.lo h.hi⟩, f, h⟩
theorem wh_fit {s : Nat} {k : Bool × Int × Bool} {l : Int × Int × Bool} {p : Nat} (h : (wh s k l p).2 = true) (hl : F2 l) : Fit (wh s k l p).1 := by
  rw [wh_of h]; exact ⟨hl.1, hl.2⟩
theorem two_good {op u v n : Int} {X Y : VV} (hu : fit64 u) (hv : fit64 v) (gX : Good X u) (gY : Good Y v) (h : vm_Arith.f K op u v = some (n, true)) : (two op X Y).2 = true ∧ Good (two op X Y).1 n := by
  obtain ⟨h1, h2⟩ := two_sound hu hv gX.ok.toWk gY.ok.toWk gX.fit gX.has gY.has h
  exact ⟨h1, good_of (two_wk op gX.ok.toWk gY.ok.toWk) (wh_fit h1 (twoV_fit op gX.fit.lo gX.fit.hi gY.fit.lo gY.fit.hi gX.ok.le gY.ok.le)) h2⟩
theorem neg_good {v : Int} {X : VV} (hv : fit64 v) (g : Good X v) : (one 3 X).2 = true ∧ Good (one 3 X).1 (IntKind.i64.wrap (0 - v)) := by
  obtain ⟨h1, h2⟩ := neg_sound hv g.ok.toWk g.fit g.has
  exact ⟨h1, good_of (one_wk 3 g.ok.toWk) (wh_fit h1 (oneV_fit 3 g.fit.lo g.fit.hi g.ok.le)) h2⟩
theorem move_good {v : Int} {X : VV} (g : Good X v) : (one 2 X).2 = true ∧ Good (one 2 X).1 v := by
  obtain ⟨h1, h2⟩ := move_sound g.ok.toWk g.has
  exact ⟨h1, good_of (one_wk 2 g.ok.toWk) (wh_fit h1 (oneV_fit 2 g.fit.lo g.fit.hi g.ok.le)) h2⟩
theorem branch_good {v : Int} {X : VV} (g : Good X v) : (branch X (v != 0)).2 = true ∧ Good (branch X (v != 0)).1 v := by
  obtain ⟨h1, h2⟩ := branch_sound g.ok.toWk g.has
  exact ⟨h1, good_of (branch_wk g.ok.toWk _) (wh_fit h1 (branchV_fit _ g.fit.lo g.fit.hi)) h2⟩
theorem in7 (n : Int) : so n &&& 7 = so n := by rcases so_cases n with ⟨_, e⟩ | ⟨_, e⟩ | ⟨_, e⟩ <;> rw [e] <;> rfl
theorem of_good {n : Int} (hn : fit64 n) : Good (Of n) n :=
  good_of ⟨so_lt n, po_lt n, fun e => by cases e⟩ ⟨hn, hn⟩ ⟨Nat.and_self _, fun _ => rfl, Int.le_refl _, Int.le_refl _, Nat.and_self _⟩
def anyVV : VV := ⟨7, false, 0, -9223372036854775808, 9223372036854775807, 3⟩
theorem any_good {n : Int} (hn : fit64 n) : Good anyVV n :=
  good_of ⟨by decide, by decide, fun _ => rfl⟩ ⟨fit_c _, fit_c _⟩ ⟨in7 n, (fun e => by cases e), hn.1, hn.2, both3 n⟩
theorem join_good {n : Int} {X Y : VV} (hX : Good X n) (hY : Ok Y) (fY : Fit Y) : Good (J X Y) n := by
  refine good_of (J_wk hX.ok.toWk hY.toWk) (J_fit hX.fit fY) ⟨?_, fun e => ?_, ?_, ?_, ?_⟩
  · exact in_trans hX.has.s (in_or_l _ hX.ok.s _ hY.s)
  · obtain ⟨h1, _, _, h4⟩ := kj_in _ _ _ _ e
    have := hX.has.k h1
    exact h4.trans this
  · have := hX.has.lo; simp only [J, mnI]; split <;> omega
  · have := hX.has.hi; simp only [J, mxI]; split <;> omega
  · exact in_trans hX.has.p (in_or_l _ (p8 hX.ok.p) _ (p8 hY.p))
def VV.enc (x : VV) : LValue := (sg x.s, (x.kb, x.kn), (x.lo, x.hi), sg x.p)
def Vals (vals : List LValue) (rl : List Int) : Prop := vals.length = rl.length ∧ ∀ (i : Nat) n, rl[i]? = some n → ∃ x : VV, vals[i]? = some x.enc ∧ Good x n
theorem Vals.set {vals : List LValue} {rl : List Int} (h : Vals vals rl) {d : Nat} {x : VV} {n : Int} (g : Good x n) : Vals (vals.set d x.enc) (rl.set d n) := by
  refine ⟨by simp [h.1], fun i m hm => ?_⟩
  by_cases e : d = i
  · subst e
    have hlt : d < (rl.set d n).length := (List.getElem?_eq_some_iff.1 hm).1
    simp at hlt
    rw [List.getElem?_set_self hlt] at hm
    cases hm
    exact ⟨x, by rw [List.getElem?_set_self (by rw [h.1]; exact hlt)], g⟩
  · rw [List.getElem?_set_ne e] at hm ⊢
    exact h.2 i m hm
theorem Vals.snoc {vals : List LValue} {rl : List Int} (h : Vals vals rl) {x : VV} {n : Int} (g : Good x n) : Vals (vals ++ [x.enc]) (rl ++ [n]) := by
  refine ⟨by simp [h.1], fun i m hm => ?_⟩
  by_cases e : i < rl.length
  · rw [List.getElem?_append_left e] at hm
    rw [List.getElem?_append_left (by rw [h.1]; exact e)]
    exact h.2 i m hm
  · have : i < (rl ++ [n]).length := (List.getElem?_eq_some_iff.1 hm).1
    have : i = rl.length := by simp at this; omega
    subst this
    simp at hm
    subst hm
    exact ⟨x, by rw [← h.1]; simp, g⟩
end Go.Proofs.YtdjkdmjdcdljmaaGreat.AT
