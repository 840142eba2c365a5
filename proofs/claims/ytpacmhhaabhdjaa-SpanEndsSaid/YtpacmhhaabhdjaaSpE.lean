/- Both ends of sums, differences, products and quotients are reached. No condition. -/
import Derived.Test.YtpacmhhaabhdjaaSP9
import Derived.Test.YtpacmhhaabhdjaaSpU

set_option linter.unusedSimpArgs false
set_option linter.unusedVariables false
namespace Go.Proofs.Ytpacmhhaabhdjaa.Sv
open Go.RowKit Go.Proofs.Ytpacmhhaabhdjaa.SP Go.Proofs.Ytpacmhhaabhdjaa.Sn Go.Proofs.YtpacmhhaabhdjaaW.PrintWords Go.Proofs.YtpacmhhaabhdjaaW.PrintLast Go.Proofs.YtpacmhhaabhdjaaW.PrintMore
theorem arith_some (op x y : Int) : ∃ n ok, avermentref07_Arith.f op x y = some (n, ok) := by
  unfold avermentref07_Arith.f
  repeat' (first | exact ⟨_, _, rfl⟩ | split)
theorem hull_mem : ∀ (l : List Int) (p : Int × Int), ((l.foldl grow p).1 = p.1 ∨ (l.foldl grow p).1 ∈ l) ∧ ((l.foldl grow p).2 = p.2 ∨ (l.foldl grow p).2 ∈ l)
  | [], p => ⟨.inl rfl, .inl rfl⟩
  | v :: r, p => by
    obtain ⟨h1, h2⟩ := hull_mem r (grow p v)
    have m1 := (mn_spec p.1 v).2.2; have m2 := (mx_spec p.2 v).2.2
    refine ⟨?_, ?_⟩
    · rcases h1 with h | h
      · rcases m1 with m | m
        · exact .inl (h.trans m)
        · exact .inr (by rw [List.foldl_cons, h]; show mn p.1 v ∈ _; rw [m]; exact List.mem_cons_self ..)
      · exact .inr (List.mem_cons_of_mem _ h)
    · rcases h2 with h | h
      · rcases m2 with m | m
        · exact .inl (h.trans m)
        · exact .inr (by rw [List.foldl_cons, h]; show mx p.2 v ∈ _; rw [m]; exact List.mem_cons_self ..)
      · exact .inr (List.mem_cons_of_mem _ h)
theorem hull_in {l : List Int} (h : l ≠ []) : (hull l).1 ∈ l ∧ (hull l).2 ∈ l := by
  cases l with
  | nil => exact absurd rfl h
  | cons x r =>
    obtain ⟨h1, h2⟩ := hull_mem r (x, x)
    refine ⟨?_, ?_⟩
    · rcases h1 with h | h
      · rw [show (hull (x :: r)).1 = x from h]; exact List.mem_cons_self ..
      · exact List.mem_cons_of_mem _ h
    · rcases h2 with h | h
      · rw [show (hull (x :: r)).2 = x from h]; exact List.mem_cons_self ..
      · exact List.mem_cons_of_mem _ h
theorem ends_in (op c d L H : Int) (xs ys : List Int) (i : Int) (hi0 : 0 ≤ i) (hi1 : i < (xs.length : Int)) (hi2 : i ≤ 100) (hys : ys.length ≤ 100) : ∀ (rest pre : List Int) (lo hi : Bool) (j : Int) (m : Nat), ys = pre ++ rest → j = (pre.length : Int) →
    ∃ lo' hi' : Bool, avermentlaw10_SpanEnds.l1 (m + rest.length + 1) op xs ys lo hi i j c d L H = avermentlaw10_SpanEnds.l0 m op xs ys lo' hi' (i + 1) c d L H ∧ (lo = true → lo' = true) ∧ (hi = true → hi' = true) ∧
      ∀ y ∈ rest, ∀ v, c ≤ y → y ≤ d → avermentref07_Arith.f op (rd xs i) y = some (v, true) → (v = L → lo' = true) ∧ (v = H → hi' = true)
  | [], pre, lo, hi, j, m, e, hj => by
    have n : ys.length = pre.length := by rw [e, List.append_nil]
    have w : wrap64 (i + 1) = i + 1 := by unfold wrap64; omega
    refine ⟨lo, hi, ?_, id, id, fun y hy => by cases hy⟩
    rw [List.length_nil, Nat.add_zero, avermentlaw10_SpanEnds.l1, if_neg (by omega), w]
  | y :: rest, pre, lo, hi, j, m, e, hj => by
    have n : ys.length = pre.length + rest.length + 1 := by rw [e, List.length_append, List.length_cons]; omega
    have w : wrap64 (j + 1) = j + 1 := by unfold wrap64; omega
    have ry : rd ys j = y := by subst hj; rw [e]; simp [rd]
    obtain ⟨v, ok, hv⟩ := arith_some op (rd xs i) y
    have next : ∀ p1 q1 : Bool, (lo = true → p1 = true) → (hi = true → q1 = true) → (∀ u, c ≤ y → y ≤ d → some (v, ok) = some (u, true) → (u = L → p1 = true) ∧ (u = H → q1 = true)) →
        ∃ lo' hi' : Bool, avermentlaw10_SpanEnds.l1 (m + rest.length + 1) op xs ys p1 q1 i (j + 1) c d L H = avermentlaw10_SpanEnds.l0 m op xs ys lo' hi' (i + 1) c d L H ∧ (lo = true → lo' = true) ∧ (hi = true → hi' = true) ∧
          ∀ z ∈ y :: rest, ∀ u, c ≤ z → z ≤ d → avermentref07_Arith.f op (rd xs i) z = some (u, true) → (u = L → lo' = true) ∧ (u = H → hi' = true) := by
      intro p1 q1 g1 g2 g3
      obtain ⟨lo', hi', a1, a2, a3, a4⟩ := ends_in op c d L H xs ys i hi0 hi1 hi2 hys rest (pre ++ [y]) p1 q1 (j + 1) m (by rw [e, List.append_assoc]; rfl) (by rw [List.length_append, hj]; rfl)
      refine ⟨lo', hi', a1, fun h => a2 (g1 h), fun h => a3 (g2 h), fun z hz u z0 z1 hu => ?_⟩
      rcases List.mem_cons.mp hz with rfl | hz
      · obtain ⟨b1, b2⟩ := g3 u z0 z1 (hv.symm.trans hu)
        exact ⟨fun h => a2 (b1 h), fun h => a3 (b2 h)⟩
      · exact a4 z hz u z0 z1 hu
    rw [show m + (y :: rest).length + 1 = (m + rest.length + 1) + 1 from rfl, avermentlaw10_SpanEnds.l1, if_pos (by omega), if_pos hi0, if_pos hi1, if_pos (by omega), ry, hv, bs, w]
    cases ok with
    | false => exact next lo hi id id (fun u _ _ h => by cases h)
    | true =>
      rw [if_pos rfl, Sp.rhas_val, bs]
      by_cases inn : c ≤ y ∧ y ≤ d
      · rw [decide_eq_true inn.1, decide_eq_true inn.2]
        rw [Bool.and_self, if_pos rfl]
        have key : ∀ p1 q1 : Bool, p1 = (lo || v == L) → q1 = (hi || v == H) → ∃ lo' hi' : Bool, avermentlaw10_SpanEnds.l1 (m + rest.length + 1) op xs ys p1 q1 i (j + 1) c d L H = avermentlaw10_SpanEnds.l0 m op xs ys lo' hi' (i + 1) c d L H ∧ (lo = true → lo' = true) ∧ (hi = true → hi' = true) ∧
            ∀ z ∈ y :: rest, ∀ u, c ≤ z → z ≤ d → avermentref07_Arith.f op (rd xs i) z = some (u, true) → (u = L → lo' = true) ∧ (u = H → hi' = true) := fun p1 q1 e1 e2 =>
          next p1 q1 (fun h => by rw [e1, h]; rfl) (fun h => by rw [e2, h]; rfl) (fun u _ _ h => by
            simp only [Option.some.injEq, Prod.mk.injEq, and_true] at h
            subst h
            exact ⟨fun h => by rw [e1, beq_iff_eq.mpr h, Bool.or_true], fun h => by rw [e2, beq_iff_eq.mpr h, Bool.or_true]⟩)
        cases lo with
        | false =>
          rw [if_neg Bool.false_ne_true]
          cases hi with
          | false => rw [if_neg Bool.false_ne_true]; exact key _ _ (by rw [Bool.false_or]) (by rw [Bool.false_or])
          | true => rw [if_pos rfl]; exact key _ _ (by rw [Bool.false_or]) rfl
        | true =>
          rw [if_pos rfl]
          cases hi with
          | false => rw [if_neg Bool.false_ne_true]; exact key _ _ rfl (by rw [Bool.false_or])
          | true => rw [if_pos rfl]; exact key _ _ rfl rfl
      · have f : (decide (c ≤ y) && decide (y ≤ d)) = false := by simpa using inn
        rw [f, if_neg Bool.false_ne_true]
        exact next lo hi id id (fun u h1 h2 _ => absurd ⟨h1, h2⟩ inn)
theorem ends_all (op a b c d L H : Int) (k : Nat) (hL : ∃ x ∈ [a, b], ∃ y ∈ [c, d, 1, -1], c ≤ y ∧ y ≤ d ∧ avermentref07_Arith.f op x y = some (L, true)) (hH : ∃ x ∈ [a, b], ∃ y ∈ [c, d, 1, -1], c ≤ y ∧ y ≤ d ∧ avermentref07_Arith.f op x y = some (H, true)) :
    avermentlaw10_SpanEnds.l0 (k + 20) op [a, b] [c, d, 1, -1] false false 0 c d L H = some true := by
  obtain ⟨l1, h1, e1, p1, p2, p3⟩ := ends_in op c d L H [a, b] [c, d, 1, -1] 0 (by decide) (by simp) (by decide) (by simp) [c, d, 1, -1] [] false false 0 (k + 14) rfl rfl
  obtain ⟨l2, h2, e2, q1, q2, q3⟩ := ends_in op c d L H [a, b] [c, d, 1, -1] 1 (by decide) (by simp) (by decide) (by simp) [c, d, 1, -1] [] l1 h1 0 (k + 8) rfl rfl
  rw [show k + 20 = (k + 14 + [c, d, 1, -1].length + 1) + 1 from rfl, avermentlaw10_SpanEnds.l0, if_pos (by simp), e1]
  rw [show k + 14 = (k + 8 + [c, d, 1, -1].length + 1) + 1 from rfl, avermentlaw10_SpanEnds.l0, if_pos (by simp), Int.zero_add, e2]
  rw [avermentlaw10_SpanEnds.l0, if_neg (by simp)]
  have a : l2 = true := by
    obtain ⟨x, hx, y, hy, y0, y1, e⟩ := hL
    rcases List.mem_cons.mp hx with rfl | hx
    · exact q1 ((p3 y hy L y0 y1 e).1 rfl)
    · rcases List.mem_cons.mp hx with rfl | hx
      · exact (q3 y hy L y0 y1 e).1 rfl
      · cases hx
  have b : h2 = true := by
    obtain ⟨x, hx, y, hy, y0, y1, e⟩ := hH
    rcases List.mem_cons.mp hx with rfl | hx
    · exact q2 ((p3 y hy H y0 y1 e).2 rfl)
    · rcases List.mem_cons.mp hx with rfl | hx
      · exact (q3 y hy H y0 y1 e).2 rfl
      · cases hx
  rw [a, b, if_pos rfl]
theorem quos_mem (a b : Int) : ∀ (l : List Int) (v : Int), v ∈ quos a b l → ∃ x ∈ [a, b], ∃ y ∈ l, v = x.tdiv y
  | [], v, h => by cases h
  | e :: r, v, h => by
    rw [quos] at h
    rcases List.mem_cons.mp h with h | h
    · exact ⟨a, by simp, e, List.mem_cons_self .., h⟩
    · rcases List.mem_cons.mp h with h | h
      · exact ⟨b, by simp, e, List.mem_cons_self .., h⟩
      · obtain ⟨x, hx, y, hy, hv⟩ := quos_mem a b r v h
        exact ⟨x, hx, y, List.mem_cons_of_mem _ hy, hv⟩
/-- What is no end of all numbers is reached. -/
theorem reached {op a b c d : Int} (ho : op = 4 ∨ op = 5 ∨ op = 6 ∨ op = 7) (ha : fits a) (hb : fits b) (hc : fits c) (hd : fits d) (hab : a ≤ b) (hcd : c ≤ d) (hok : (twoV op a b c d).2.2 = true) (hany : ¬ ((twoV op a b c d).1 = -9223372036854775808 ∧ (twoV op a b c d).2.1 = 9223372036854775807)) :
    ∀ v, v = (twoV op a b c d).1 ∨ v = (twoV op a b c d).2.1 → ∃ x ∈ [a, b], ∃ y ∈ [c, d, 1, -1], c ≤ y ∧ y ≤ d ∧ avermentref07_Arith.f op x y = some (v, true) := by
  have hT : ∀ l : List Int, l ≠ [] → twoV op a b c d = hullT l → ∀ v, v = (twoV op a b c d).1 ∨ v = (twoV op a b c d).2.1 → v ∈ l ∧ fits v := by
    intro l hl e v hv
    rw [e] at hv hany
    unfold hullT at hv hany
    by_cases f : ∀ x ∈ l, fits x
    · rw [if_pos f] at hv
      obtain ⟨m1, m2⟩ := hull_in hl
      have : v ∈ l := by
        rcases hv with h | h
        · rw [h]; exact m1
        · rw [h]; exact m2
      exact ⟨this, f v this⟩
    · rw [if_neg f] at hany
      exact absurd ⟨rfl, rfl⟩ hany
  intro v hv
  rcases ho with ho | ho | ho | ho
  · obtain ⟨m, f⟩ := hT [a + c, b + d] (by simp) (by unfold twoV; rw [if_pos ho]) v hv
    have A : ∀ x y, v = x + y → avermentref07_Arith.f op x y = some (v, true) := fun x y e => by
      unfold avermentref07_Arith.f; rw [if_pos ho, ← e, wr f]
    rcases List.mem_cons.mp m with m | m
    · exact ⟨a, by simp, c, by simp, by omega, hcd, A _ _ m⟩
    · rcases List.mem_cons.mp m with m | m
      · exact ⟨b, by simp, d, by simp, hcd, by omega, A _ _ m⟩
      · cases m
  · obtain ⟨m, f⟩ := hT [a - d, b - c] (by simp) (by unfold twoV; rw [if_neg (by omega), if_pos ho]) v hv
    have A : ∀ x y, v = x - y → avermentref07_Arith.f op x y = some (v, true) := fun x y e => by
      unfold avermentref07_Arith.f; rw [if_neg (by omega), if_pos ho, ← e, wr f]
    rcases List.mem_cons.mp m with m | m
    · exact ⟨a, by simp, d, by simp, hcd, by omega, A _ _ m⟩
    · rcases List.mem_cons.mp m with m | m
      · exact ⟨b, by simp, c, by simp, by omega, hcd, A _ _ m⟩
      · cases m
  · obtain ⟨m, f⟩ := hT [a * c, a * d, b * c, b * d] (by simp) (by unfold twoV; rw [if_neg (by omega), if_neg (by omega), if_pos ho]) v hv
    have A : ∀ x y, v = x * y → avermentref07_Arith.f op x y = some (v, true) := fun x y e => by
      unfold avermentref07_Arith.f; rw [if_neg (by omega), if_neg (by omega), if_pos ho, ← e, wr f]
    rcases List.mem_cons.mp m with m | m
    · exact ⟨a, by simp, c, by simp, by omega, hcd, A _ _ m⟩
    rcases List.mem_cons.mp m with m | m
    · exact ⟨a, by simp, d, by simp, hcd, by omega, A _ _ m⟩
    rcases List.mem_cons.mp m with m | m
    · exact ⟨b, by simp, c, by simp, by omega, hcd, A _ _ m⟩
    rcases List.mem_cons.mp m with m | m
    · exact ⟨b, by simp, d, by simp, hcd, by omega, A _ _ m⟩
    · cases m
  · have e : twoV op a b c d = divV a b c d := by unfold twoV; rw [if_neg (by omega), if_neg (by omega), if_neg (by omega), if_pos ho]
    rw [e] at hv hok hany
    unfold divV at hv hok hany
    by_cases em : eds c d = []
    · rw [if_pos em] at hok; cases hok
    rw [if_neg em] at hv hany
    by_cases full : a = -9223372036854775808 ∧ c ≤ -1 ∧ -1 ≤ d
    · rw [if_pos full] at hany; exact absurd ⟨rfl, rfl⟩ hany
    rw [if_neg full] at hv
    have ne : quos a b (eds c d) ≠ [] := by
      cases he : eds c d with
      | nil => exact absurd he em
      | cons x r => simp [quos]
    obtain ⟨m1, m2⟩ := hull_in ne
    have m : v ∈ quos a b (eds c d) := by
      rcases hv with h | h
      · rw [h]; exact m1
      · rw [h]; exact m2
    obtain ⟨x, hx, y, hy, rfl⟩ := quos_mem a b _ v m
    obtain ⟨y0, y1, y2⟩ := ne_of_mem_eds hcd hy
    have hx2 : a ≤ x ∧ fits x := by
      rcases List.mem_cons.mp hx with rfl | hx
      · exact ⟨Int.le_refl _, ha⟩
      · rcases List.mem_cons.mp hx with rfl | hx
        · exact ⟨hab, hb⟩
        · cases hx
    have f : fits (x.tdiv y) := tdiv_fits hx2.2 (fun q => full (by unfold fits at *; omega))
    refine ⟨x, hx, y, ?_, y1, y2, ?_⟩
    · unfold eds at hy
      have s1 := mn_spec d (-1); have s2 := mx_spec c 1
      simp only [List.mem_cons, List.not_mem_nil, or_false]
      rcases List.mem_append.mp hy with h | h
      · split at h
        · simp only [List.mem_cons, List.not_mem_nil, or_false] at h; omega
        · cases h
      · split at h
        · simp only [List.mem_cons, List.not_mem_nil, or_false] at h; omega
        · cases h
    · unfold avermentref07_Arith.f
      rw [if_neg (by omega), if_neg (by omega), if_neg (by omega), if_pos ho, if_neg y0]
      by_cases ym : y = -1
      · subst ym
        rw [if_pos rfl]
        have : x.tdiv (-1) = -x := by rw [Int.tdiv_neg, Int.tdiv_one]
        rw [this] at f ⊢
        rw [wr f]
      · rw [if_neg ym, wr f]
theorem ends (o a b c d : Int) (ha : fits a) (hb : fits b) (hc : fits c) (hd : fits d) : ∃ k, avermentlaw10_SpanEnds.f k o a b c d = some true := by
  refine ⟨300, ?_⟩
  obtain ⟨p, q, e1, hp, hq, hpq, -⟩ := fix_ok ha hb
  obtain ⟨r, s, e2, hr, hs, hrs, -⟩ := fix_ok hc hd
  have ho : wrap64 (4 + (wrap64 (Int.tmod (IntKind.u64.wrap o) 4))) = 4 ∨ wrap64 (4 + (wrap64 (Int.tmod (IntKind.u64.wrap o) 4))) = 5 ∨ wrap64 (4 + (wrap64 (Int.tmod (IntKind.u64.wrap o) 4))) = 6 ∨ wrap64 (4 + (wrap64 (Int.tmod (IntKind.u64.wrap o) 4))) = 7 := by
    have h0 : 0 ≤ IntKind.u64.wrap o := by rw [IntKind.wrap_u64]; omega
    rw [Int.tmod_eq_emod_of_nonneg h0]
    generalize IntKind.u64.wrap o = u at *
    unfold wrap64
    omega
  unfold avermentlaw10_SpanEnds.f
  generalize wrap64 (4 + (wrap64 (Int.tmod (IntKind.u64.wrap o) 4))) = op at *
  have t1 : ∀ a b, avermentlaw10_To.f a b = some (a, b) := fun _ _ => rfl
  have f1 : ∀ a b, avermentlaw10_From.f a b = some (a, b) := fun _ _ => rfl
  have any1 : avermentref10_Any.f = some (-9223372036854775808, 9223372036854775807) := rfl
  rw [e1, bs, e2, bs, t1, bs, t1, bs, two_val 290 op hp hq hr hs hpq hrs, bs, Sp.told_k 300 (by decide), bs, if_pos rfl]
  have yes : ∀ L H, avermentlaw10_SpanEnds.j0 300 op true p q r s L H = some true := fun L H => by
    rw [avermentlaw10_SpanEnds.j0, if_pos rfl, Sp.told_k 299 (by decide), bs]
  by_cases hok : (twoV op p q r s).2.2 = true
  · rw [if_pos hok, f1, bs, any1, bs]
    by_cases hany : (twoV op p q r s).1 = -9223372036854775808 ∧ (twoV op p q r s).2.1 = 9223372036854775807
    · rw [beq_iff_eq.mpr hany.1, beq_iff_eq.mpr hany.2, Bool.and_self]
      exact yes _ _
    · have f : ((twoV op p q r s).1 == -9223372036854775808 && (twoV op p q r s).2.1 == 9223372036854775807) = false := by simpa using hany
      rw [f, avermentlaw10_SpanEnds.j0, if_neg Bool.false_ne_true]
      have R := reached ho hp hq hr hs hpq hrs hok hany
      exact ends_all op p q r s _ _ 279 (R _ (.inl rfl)) (R _ (.inr rfl))
  · rw [if_neg hok]
    exact yes _ _
end Go.Proofs.Ytpacmhhaabhdjaa.Sv
