-- Written by a program of this session: plain functions and their walks. Lean checks it.
import Derived.Test.YtpacmhhaabhdjaaSP0
import Derived.Test.YtpacmhhaabhdjaaSP3
namespace Go.Proofs.Ytpacmhhaabhdjaa.SP
open Go.RowKit Go.Proofs.YtpacmhhaabhdjaaW.PrintWords Go.Proofs.YtpacmhhaabhdjaaW.PrintLast Go.Proofs.YtpacmhhaabhdjaaW.PrintMore
attribute [local go_sem] max2_int min2_int max_two min_two max_three min_three max_four min_four   -- for this text's walks alone
set_option linter.unusedVariables false
set_option linter.unusedSimpArgs false


/-! ### span_ends_all: function 74 -/
theorem kset {w W : World} {g gb j : Nat} {u : Value} (h : KeepBut w W g none) (hg : w.heap.size ≤ gb) : KeepBut w (W.setCell ⟨gb, j, none⟩ u) g none :=
  ⟨by simpa [World.setCell] using h.1, fun i hi hne hr => (Below.heap_setCell W ⟨gb, j, none⟩ u i (Nat.ne_of_lt (Nat.lt_of_lt_of_le hi hg))).trans (h.2 i hi hne hr)⟩
def span_ends_all.f (s0_0 : Int) (s0_1 : Int) (s0_2 : Bool) (s0_3 : Bool) : Option (Int × Int × Bool × Int × Int × Bool × Bool) := if s0_3 = true then (some ((-9223372036854775808), 9223372036854775807, true, s0_0, s0_1, s0_2, s0_3)) else (some (s0_0, s0_1, s0_2, s0_0, s0_1, s0_2, s0_3))
set_option maxHeartbeats 8000000 in
set_option maxRecDepth 100000 in
theorem span_ends_all.calls (g : Nat) (s0_0 : Int) (s0_1 : Int) (s0_2 : Bool) (s0_3 : Bool) (r1 : Int) (r2 : Int) (r3 : Bool) (r4 : Int) (r5 : Int) (r6 : Bool) (r7 : Bool) (w0 w : World) (hI : IsS94 w0 w g s0_0 s0_1 s0_2 s0_3) (hB : Below w0.heap.size w0 w) (h : span_ends_all.f s0_0 s0_1 s0_2 s0_3 = some (r1, r2, r3, r4, r5, r6, r7)) :
    Calls Try.prog 74 #[.pointer (some ⟨g, 0, none⟩)] w fun e w' => e = .returned (.tuple #[.agg #[.int .i64 r1, .int .i64 r2], .bool r3]) ∧ IsS94 w0 w' g r4 r5 r6 r7 ∧ Below w0.heap.size w0 w' ∧ KeepBut w w' g none := by
  have huE := Try.underlying94
  have huS := Try.underlying59
  obtain ⟨hb0, hg0⟩ := hI
  have BK := Aside0.mk hb0
  have HG := Aside0.mk hg0
  have HB := Aside0.mk hB
  have HK := Aside0.mk (KeepBut.refl w g none)
  clear hb0 hg0 hB
  unfold span_ends_all.f at h
  cases s0_3 with
  | true =>
    rw [if_pos rfl] at h
    simp only [Option.some.injEq, Prod.mk.injEq] at h
    obtain ⟨rfl, rfl, rfl, rfl, rfl, rfl, rfl⟩ := h
    have c3 : w.cell? ⟨g, 3, none⟩ = some (.bool true) := bc BK 3 rfl
    go_enter Try.func74, Try.ntmps74
    go_wp2_with (first | ((with_reducible refine gate_dst (N := 2) rfl ?_); refine box_event ?hg (N := 2) ?hd (cs := #[.int .i64 0, .int .i64 0]) (t := 59) ?hr ?_; (case hd => rfl); (case hg => rfl); (case hr => first | (go_simp; done) | (go_simp; rfl)); intro gb hgb w1 hbox hb; have RK := Aside0.mk hbox; have NE := nbl hgb BK rfl; have RG := Aside0.mk (show w.heap.size ≤ gb by rw [hgb]; exact HK.out.1); have RG0 := Aside0.mk (show w0.heap.size ≤ gb by rw [hgb]; exact HB.out.size); replace BK := bb BK hb rfl; replace HB := hst0 HB hb rfl HB.out.size; replace HK := hkb HK hb rfl; clear hb hbox hgb; clear c3; have c3 : w1.cell? ⟨g, 3, none⟩ = some (.bool true) := bc BK 3 rfl) | ((with_reducible refine gate_callee (f := 46) rfl ?_); refine goesL_ (some 8) rfl rfl Try.func46 (by kernel_rfl) rfl #[] rfl (mapq rfl) ?_; (with_reducible refine (span_Any.calls (-9223372036854775808) 9223372036854775807 _ rfl).mono ?_); rintro e w2 ⟨rfl, hb⟩; refine ⟨_, rfl, ?_⟩; replace BK := bb BK hb rfl; replace RK := bb RK hb rfl; replace HB := hst0 HB hb rfl HB.out.size; replace HK := hkb HK hb rfl; clear hb c3; have d0 : w2.cell? ⟨gb, 0, none⟩ = some (.int .i64 0) := bc RK 0 rfl; have d1 : w2.cell? ⟨gb, 1, none⟩ = some (.int .i64 0) := bc RK 1 rfl; have e0 := blk_frozen RK.out 0; have e1 := blk_frozen RK.out 1; have ne := NE.out; have ne2 := NE.out.symm))
    have R2 : Aside0 (((w2.setCell ⟨gb, 0, none⟩ (.int .i64 (-9223372036854775808))).setCell ⟨gb, 1, none⟩ (.int .i64 9223372036854775807)).heap[gb]? = some (.cells #[.int .i64 (-9223372036854775808), .int .i64 9223372036854775807] 59 (0, 0))) := ⟨by refine blk_put (cs := #[.int .i64 (-9223372036854775808), .int .i64 0]) ?_ 1 _ rfl; exact blk_put (cs := #[.int .i64 0, .int .i64 0]) RK.out 0 _ rfl⟩
    refine bodyPost_ret (results_ct rfl _ _ gb 59 #[.int .i64 (-9223372036854775808), .int .i64 9223372036854775807] (0, 0) _ rfl R2.out Try.underlying59 rfl (by kernel_rfl)) rfl ?_
    exact ⟨rfl, IsS94.far (IsS94.far ⟨BK.out, HG.out⟩ NE.out _) NE.out _, below_set (below_set HB.out RG0.out) RG0.out, kset (kset HK.out RG.out) RG.out⟩
  | false =>
    rw [if_neg Bool.false_ne_true] at h
    simp only [Option.some.injEq, Prod.mk.injEq] at h
    obtain ⟨rfl, rfl, rfl, rfl, rfl, rfl, rfl⟩ := h
    have c3 : w.cell? ⟨g, 3, none⟩ = some (.bool false) := bc BK 3 rfl
    go_enter Try.func74, Try.ntmps74
    go_wp2_with (first | ((with_reducible refine gate_dst (N := 2) rfl ?_); refine box_event ?hg (N := 2) ?hd (cs := #[.int .i64 0, .int .i64 0]) (t := 59) ?hr ?_; (case hd => rfl); (case hg => rfl); (case hr => first | (go_simp; done) | (go_simp; rfl)); intro gb hgb w1 hbox hb; have RK := Aside0.mk hbox; have NE := nbl hgb BK rfl; have RG := Aside0.mk (show w.heap.size ≤ gb by rw [hgb]; exact HK.out.1); have RG0 := Aside0.mk (show w0.heap.size ≤ gb by rw [hgb]; exact HB.out.size); replace BK := bb BK hb rfl; replace HB := hst0 HB hb rfl HB.out.size; replace HK := hkb HK hb rfl; clear hb hbox hgb; clear c3; have c3 : w1.cell? ⟨g, 3, none⟩ = some (.bool false) := bc BK 3 rfl))
    replace BK := Aside0.mk (blk_drew BK.out)
    replace RK := Aside0.mk (blk_drew RK.out)
    replace HB := Aside0.mk (below_drew1 HB.out)
    replace HK := Aside0.mk (show KeepBut w w1.drew g none from HK.out)
    clear c3
    have d0 : w1.drew.cell? ⟨gb, 0, none⟩ = some (.int .i64 0) := bc RK 0 rfl
    have d1 : w1.drew.cell? ⟨gb, 1, none⟩ = some (.int .i64 0) := bc RK 1 rfl
    have e0 := blk_frozen RK.out 0
    have e1 := blk_frozen RK.out 1
    have ne := NE.out
    have ne2 := NE.out.symm
    refine start_ (n := 10) (S := fun w' => w'.cell? ⟨g, 0, none⟩ = some (.int .i64 s0_0) ∧ w'.cell? ⟨g, 1, none⟩ = some (.int .i64 s0_1) ∧ w'.cell? ⟨g, 2, none⟩ = some (.bool s0_2)) (ds := []) #[false, false, false, false, false, false, false, false, false, false] (by kernel_rfl) rfl rfl ⟨bc BK 0 rfl, bc BK 1 rfl, bc BK 2 rfl⟩ (fun hHeld => ?_)
    generalize w1.drew = w2 at BK RK HB HK d0 d1 e0 e1 hHeld ⊢
    refine pure_ (i := 0) (N := some 9) (v := ?_) (a' := ?_) #[true, false, false, false, false, false, false, false, false, false] rfl rfl (by kernel_rfl) (fun _ _ _ h => h) (Or.inl ⟨by rfl, ?_⟩) ?_ ?_
    rotate_left
    · intro w'
      go_simp
      with_reducible rfl
    rotate_left
    · simp only [Act.put, List.setIfInBounds_toArray, List.set_cons_zero, List.set_cons_succ, i64_w, i32_w]
      rfl
    refine pure_ (i := 1) (N := some 10) (v := ?_) (a' := ?_) #[true, true, false, false, false, false, false, false, false, false] rfl rfl (by kernel_rfl) (fun _ _ _ h => h) (Or.inl ⟨by rfl, ?_⟩) ?_ ?_
    rotate_left
    · intro w'
      go_simp
      with_reducible rfl
    rotate_left
    · simp only [Act.put, List.setIfInBounds_toArray, List.set_cons_zero, List.set_cons_succ, i64_w, i32_w]
      rfl
    refine pure_ (i := 2) (N := some 11) (v := ?_) (a' := ?_) #[true, true, true, false, false, false, false, false, false, false] rfl rfl (by kernel_rfl) (fun _ _ _ h => h) (Or.inl ⟨by rfl, ?_⟩) ?_ ?_
    rotate_left
    · intro w'
      go_simp
      with_reducible rfl
    rotate_left
    · simp only [Act.put, List.setIfInBounds_toArray, List.set_cons_zero, List.set_cons_succ, i64_w, i32_w]
      rfl
    refine pure_ (i := 4) (N := some 13) (v := ?_) (a' := ?_) #[true, true, true, false, true, false, false, false, false, false] rfl rfl (by kernel_rfl) (fun _ _ _ h => h) (Or.inl ⟨by rfl, ?_⟩) ?_ ?_
    rotate_left
    · intro w'
      go_simp
      with_reducible rfl
    rotate_left
    · simp only [Act.put, List.setIfInBounds_toArray, List.set_cons_zero, List.set_cons_succ, i64_w, i32_w]
      rfl
    refine pure_ (i := 5) (N := some 14) (v := ?_) (a' := ?_) #[true, true, true, false, true, true, false, false, false, false] rfl rfl (by kernel_rfl) (fun _ _ _ h => h) (Or.inl ⟨by rfl, ?_⟩) ?_ ?_
    rotate_left
    · intro w'
      go_simp
      with_reducible rfl
    rotate_left
    · simp only [Act.put, List.setIfInBounds_toArray, List.set_cons_zero, List.set_cons_succ, i64_w, i32_w]
      rfl
    refine pure_ (i := 6) (N := some 15) (v := ?_) (a' := ?_) #[true, true, true, false, true, true, true, false, false, false] rfl rfl (by kernel_rfl) (fun _ _ _ h => h) (Or.inl ⟨by rfl, ?_⟩) ?_ ?_
    rotate_left
    · intro w'
      go_simp
      with_reducible rfl
    rotate_left
    · simp only [Act.put, List.setIfInBounds_toArray, List.set_cons_zero, List.set_cons_succ, i64_w, i32_w]
      rfl
    refine take_ (i := 3) (N := some 12) (v := ?_) (a' := ?_) #[true, true, true, true, true, true, true, false, false, false] rfl rfl (by kernel_rfl) (fun _ _ _ h => h) (Or.inl ⟨by rfl, ?_⟩) hHeld ?_ ?_
    rotate_left
    · rintro w' ⟨s0, s1, s2⟩
      go_simp
      with_reducible rfl
    rotate_left
    · simp only [Act.put, List.setIfInBounds_toArray, List.set_cons_zero, List.set_cons_succ, i64_w, i32_w]
      rfl
    refine take_ (i := 7) (N := some 16) (v := ?_) (a' := ?_) #[true, true, true, true, true, true, true, true, false, false] rfl rfl (by kernel_rfl) (fun _ _ _ h => h) (Or.inl ⟨by rfl, ?_⟩) hHeld ?_ ?_
    rotate_left
    · rintro w' ⟨s0, s1, s2⟩
      go_simp
      with_reducible rfl
    rotate_left
    · simp only [Act.put, List.setIfInBounds_toArray, List.set_cons_zero, List.set_cons_succ, i64_w, i32_w]
      rfl
    refine one_ (i := 8) (N := none) #[true, true, true, true, true, true, true, true, true, false] rfl rfl (by kernel_rfl) (by decide) (fun K hK => ?_)
    refine skip_ (w1 := ?_) (by rfl) rfl ?_ ?_
    rotate_left
    · go_simp
      rfl
    refine hK.out _ _ ⟨bc (Aside0.mk (blk_far (blk_far BK.out NE.out _) NE.out _)) 0 rfl, bc (Aside0.mk (blk_far (blk_far BK.out NE.out _) NE.out _)) 1 rfl, bc (Aside0.mk (blk_far (blk_far BK.out NE.out _) NE.out _)) 2 rfl⟩ (fun hHeld => ?_)
    clear hK K
    refine pure_ (i := 9) (N := some 3) (v := ?_) (a' := ?_) #[true, true, true, true, true, true, true, true, true, true] rfl rfl (by kernel_rfl) (fun _ _ _ h => h) (Or.inl ⟨by rfl, ?_⟩) ?_ ?_
    rotate_left
    · intro w'
      go_simp
      with_reducible rfl
    rotate_left
    · simp only [Act.put, List.setIfInBounds_toArray, List.set_cons_zero, List.set_cons_succ, i64_w, i32_w]
      rfl
    refine done_ (by kernel_rfl) ?_
    have R2 : Aside0 (((w2.setCell ⟨gb, 0, none⟩ (.int .i64 s0_0)).setCell ⟨gb, 1, none⟩ (.int .i64 s0_1)).heap[gb]? = some (.cells #[.int .i64 s0_0, .int .i64 s0_1] 59 (0, 0))) := ⟨by refine blk_put (cs := #[.int .i64 s0_0, .int .i64 0]) ?_ 1 _ rfl; exact blk_put (cs := #[.int .i64 0, .int .i64 0]) RK.out 0 _ rfl⟩
    go_wp2
    refine bodyPost_ret (results_ct rfl _ _ gb 59 #[.int .i64 s0_0, .int .i64 s0_1] (0, 0) _ rfl R2.out Try.underlying59 rfl (by kernel_rfl)) rfl ?_
    exact ⟨rfl, IsS94.far (IsS94.far ⟨BK.out, HG.out⟩ NE.out _) NE.out _, below_set (below_set HB.out RG0.out) RG0.out, kset (kset HK.out RG.out) RG.out⟩


/-! ### span_Span_parts: function 84 -/
def span_Span_parts.f (a0_0 : Int) (a0_1 : Int) : Option ((List (S59))) := (span_Meet.f a0_0 a0_1 (-9223372036854775808) (-1)).bind fun bt116 => (if bt116.2.2 = true then (if ([] : List (S59)).length < 8796093022208 then ((some (([] : List (S59)) ++ [(⟨bt116.1, bt116.2.1⟩ : S59)] : List (S59))).bind fun y120 => ((span_Meet.f a0_0 a0_1 1 9223372036854775807).bind fun bt123 => (if bt123.2.2 = true then (if y120.length < 8796093022208 then (some (y120 ++ [(⟨bt123.1, bt123.2.1⟩ : S59)])) else (none)) else (some y120)))) else (none)) else ((span_Meet.f a0_0 a0_1 1 9223372036854775807).bind fun bt130 => (if bt130.2.2 = true then (if ([] : List (S59)).length < 8796093022208 then (some (([] : List (S59)) ++ [(⟨bt130.1, bt130.2.1⟩ : S59)])) else (none)) else (some ([] : List (S59))))))
set_option maxHeartbeats 8000000 in
set_option maxRecDepth 100000 in
theorem span_Span_parts.calls (a0_0 : Int) (a0_1 : Int) (r : List (S59)) (w : World) (h : span_Span_parts.f a0_0 a0_1 = some r) :
  Calls Try.prog 84 #[.agg #[.int .i64 a0_0, .int .i64 a0_1]] w fun e w' => ∃ v0_ : Value, e = .returned (v0_) ∧ Kd.R k59 59 w' w.heap.size (fun _ => True) v0_ r ∧ Below w.heap.size w w' := by
 have hu59 := Try.underlying59
 have HB := Aside0.mk (Below.refl w.heap.size w)
 have H : ((span_Meet.f a0_0 a0_1 (-9223372036854775808) (-1)).bind fun bt116 => (if bt116.2.2 = true then (if ([] : List (S59)).length < 8796093022208 then ((some (([] : List (S59)) ++ [(⟨bt116.1, bt116.2.1⟩ : S59)] : List (S59))).bind fun y120 => ((span_Meet.f a0_0 a0_1 1 9223372036854775807).bind fun bt123 => (if bt123.2.2 = true then (if y120.length < 8796093022208 then (some (y120 ++ [(⟨bt123.1, bt123.2.1⟩ : S59)])) else (none)) else (some y120)))) else (none)) else ((span_Meet.f a0_0 a0_1 1 9223372036854775807).bind fun bt130 => (if bt130.2.2 = true then (if ([] : List (S59)).length < 8796093022208 then (some (([] : List (S59)) ++ [(⟨bt130.1, bt130.2.1⟩ : S59)])) else (none)) else (some ([] : List (S59))))))) = some r := h
 clear h
 replace H := Option.bind_eq_some_iff.mp H
 obtain ⟨⟨t116, t117, t118⟩, A20, H⟩ := H
 (try dsimp only at H)
 have A2 := Aside0.mk A20
 clear A20
 by_cases c3 : t118 = true
 ·
  subst c3
  rw [if_pos rfl] at H
  by_cases c4 : ([] : List (S59)).length < 8796093022208
  ·
   rw [if_pos c4] at H
   have LMc4 := Aside0.mk c4
   clear c4
   obtain ⟨y120, hy120⟩ : ∃ y_ : List (S59), y_ = (([] : List (S59)) ++ [(⟨t116, t117⟩ : S59)]) := ⟨_, rfl⟩
   replace H : ((span_Meet.f a0_0 a0_1 1 9223372036854775807).bind fun bt123 => (if bt123.2.2 = true then (if y120.length < 8796093022208 then (some (y120 ++ [(⟨bt123.1, bt123.2.1⟩ : S59)])) else (none)) else (some y120))) = some r := by first | (rw [hy120]; with_reducible exact H) | (have H2_ := (Option.bind_some _ _).symm.trans H; rw [hy120]; with_reducible exact H2_) | (have H2_ := (Option.bind_some _ _).symm.trans H; with_reducible exact H2_) | with_reducible exact H | (rw [hy120]; exact H) | exact H
   have Ny120 := Aside0.mk hy120
   clear hy120
   replace H := Option.bind_eq_some_iff.mp H
   obtain ⟨⟨t123, t124, t125⟩, A50, H⟩ := H
   (try dsimp only at H)
   have A5 := Aside0.mk A50
   clear A50
   by_cases c6 : t125 = true
   ·
    subst c6
    rw [if_pos rfl] at H
    by_cases c7 : y120.length < 8796093022208
    ·
     rw [if_pos c7] at H
     have LMc7 := Aside0.mk c7
     clear c7
     obtain ⟨y127, hy127⟩ : ∃ y_ : List (S59), y_ = (y120 ++ [(⟨t123, t124⟩ : S59)]) := ⟨_, rfl⟩
     replace H : (some y127) = some r := by first | (rw [hy127]; with_reducible exact H) | (have H2_ := (Option.bind_some _ _).symm.trans H; rw [hy127]; with_reducible exact H2_) | (have H2_ := (Option.bind_some _ _).symm.trans H; with_reducible exact H2_) | with_reducible exact H | (rw [hy127]; exact H) | exact H
     have Ny127 := Aside0.mk hy127
     clear hy127
     obtain rfl := Option.some.inj H
     go_enter Try.func84, Try.ntmps84
     go_wp2_with (first | ((with_reducible refine gate_dst (N := 1) rfl ?_); refine box_event ?hg (N := 1) ?hd (cs := #[.int .i64 a0_0, .int .i64 a0_1]) (t := 59) ?hr ?_; (case hd => rfl); (case hg => rfl); (case hr => first | (go_simp; done) | (go_simp; rfl)); intro gb115 hg w8 hbox hb; have BK115 := Aside0.mk (hbox); have GW115 := geb hg HB rfl; have GE115 := geb hg HB rfl; replace HB := hst HB hb rfl; clear hb hbox hg; have hcz9_0 : w8.cell? ⟨gb115, 0, none⟩ = some (.int .i64 a0_0) := (blk_cell BK115.out 0).trans rfl; have hcz9_1 : w8.cell? ⟨gb115, 1, none⟩ = some (.int .i64 a0_1) := (blk_cell BK115.out 1).trans rfl; have hfz9_0 := blk_frozen BK115.out 0; have hfz9_1 := blk_frozen BK115.out 1) | ((with_reducible refine gate_callee (f := 43) rfl ?_); refine goesL_ (some 11) rfl rfl Try.func43 (by kernel_rfl) rfl #[.agg #[.int .i64 a0_0, .int .i64 a0_1], .agg #[.int .i64 (-9223372036854775808), .int .i64 (-1)]] rfl (mapq rfl) ?_; (with_reducible refine (span_Meet.calls a0_0 a0_1 (-9223372036854775808) (-1) t116 t117 true _ A2.out).mono ?_); rintro e w10 ⟨rfl, hb⟩; refine ⟨_, rfl, ?_⟩; replace BK115 := bb BK115 hb rfl; replace HB := hst HB hb rfl; (try clear hb)) | ((with_reducible refine gate_dst (N := 4) rfl ?_); refine box_event ?hg (N := 4) ?hd (cs := #[.int .i64 0, .int .i64 0]) (t := 59) ?hr ?_; (case hd => rfl); (case hg => rfl); (case hr => first | (go_simp; done) | (go_simp; rfl)); intro gb119 hg w11 hbox hb; have BK119 := Aside0.mk (hbox); have GW119 := geb hg HB rfl; have GE119 := geb hg HB rfl; have NB115_119 := nbl hg BK115 rfl; have NB119_115 := nbr hg BK115 rfl; replace BK115 := bb BK115 hb rfl; replace HB := hst HB hb rfl; clear hb hbox hg; have hnb12 := NB119_115.out; have hnc12 := NB115_119.out; have hcz13_0 : w11.cell? ⟨gb119, 0, none⟩ = some (.int .i64 0) := (blk_cell BK119.out 0).trans rfl; have hcz13_1 : w11.cell? ⟨gb119, 1, none⟩ = some (.int .i64 0) := (blk_cell BK119.out 1).trans rfl; have hfz13_0 := blk_frozen BK119.out 0; have hfz13_1 := blk_frozen BK119.out 1) | ((with_reducible refine gate_builtin (b := .append) (xs := #[.tmp 15, .tmp 17]) rfl ?_); at_builtin; refine Kd.R_append k59 (w0 := w) w.heap.size rfl (.tmp 15) (.tmp 17) 102 59 (.agg #[(.int .i64 0), (.int .i64 0)]) 16 rfl Try.underlying102 info59 rfl (by decide) (by omega) (.slice none 0 0) ([] : List (S59)) (⟨t116, t117⟩ : S59) [.int .i64 t116, .int .i64 t117] (fun k_ => k_ ≠ gb115 ∧ k_ ≠ gb119) (fun _ => False) rfl (by first | (go_simp; done) | (go_simp; rfl)) ?aP (fun _ hk => hk.elim) ?aF ?aO ?aB ?aS ?aL ?_; (case aP => exact k59_mkM _ _ _ (⟨t116, t117⟩ : S59)); (case aB => exact (by repeat (first | (with_reducible first | exact HB.out | apply below_alloc | apply pw_below_drewN | apply below_drew1 | refine below_set ?_ GE115.out | refine below_set ?_ GE119.out) | exact HB.out))); (case aF => exact (fun k_ hk => ⟨Kd.freshB (g := gb115) (o := .cells #[.int .i64 a0_0, .int .i64 a0_1] 59 (0, 0)) (by (with_reducible repeat (first | refine blk_drewN ?_ _ | refine blk_drew ?_ | refine blk_alloc ?_ _)); refine blk_far ?_ NB115_119.out _; (with_reducible repeat (first | refine blk_drewN ?_ _ | refine blk_drew ?_ | refine blk_alloc ?_ _)); refine blk_far ?_ NB115_119.out _; (with_reducible repeat (first | refine blk_drewN ?_ _ | refine blk_drew ?_ | refine blk_alloc ?_ _)); exact BK115.out) k_ hk, Kd.freshB (g := gb119) (o := .cells #[.int .i64 t116, .int .i64 t117] 59 (0, 0)) (by (with_reducible repeat (first | refine blk_drewN ?_ _ | refine blk_drew ?_ | refine blk_alloc ?_ _)); refine blk_put (cs := #[.int .i64 t116, .int .i64 0]) ?_ 1 _ rfl; (with_reducible repeat (first | refine blk_drewN ?_ _ | refine blk_drew ?_ | refine blk_alloc ?_ _)); refine blk_put (cs := #[.int .i64 0, .int .i64 0]) ?_ 0 _ rfl; (with_reducible repeat (first | refine blk_drewN ?_ _ | refine blk_drew ?_ | refine blk_alloc ?_ _)); exact BK119.out) k_ hk⟩)); (case aO => exact ((Kd.R_nil _ _ _ _ (fun k_ => k_ ≠ gb115 ∧ k_ ≠ gb119)))); (case aS => exact (below_size (by repeat (first | (with_reducible first | exact HB.out | apply below_alloc | apply pw_below_drewN | apply below_drew1 | refine below_set ?_ GE115.out | refine below_set ?_ GE119.out) | exact HB.out)))); (case aL => have := LMc4.out; omega); intro v121 w14 ho hb hg hat; rw [← Ny120.out] at ho; have HO122 := Aside0.mk (ho); replace BK115 := Aside0.mk (blk_grown (g := gb115) (o := .cells #[.int .i64 a0_0, .int .i64 a0_1] 59 (0, 0)) (by (with_reducible repeat (first | refine blk_drewN ?_ _ | refine blk_drew ?_ | refine blk_alloc ?_ _)); refine blk_far ?_ NB115_119.out _; (with_reducible repeat (first | refine blk_drewN ?_ _ | refine blk_drew ?_ | refine blk_alloc ?_ _)); refine blk_far ?_ NB115_119.out _; (with_reducible repeat (first | refine blk_drewN ?_ _ | refine blk_drew ?_ | refine blk_alloc ?_ _)); exact BK115.out) hg (by simp [Value.ownBlock])); replace BK119 := Aside0.mk (blk_grown (g := gb119) (o := .cells #[.int .i64 t116, .int .i64 t117] 59 (0, 0)) (by (with_reducible repeat (first | refine blk_drewN ?_ _ | refine blk_drew ?_ | refine blk_alloc ?_ _)); refine blk_put (cs := #[.int .i64 t116, .int .i64 0]) ?_ 1 _ rfl; (with_reducible repeat (first | refine blk_drewN ?_ _ | refine blk_drew ?_ | refine blk_alloc ?_ _)); refine blk_put (cs := #[.int .i64 0, .int .i64 0]) ?_ 0 _ rfl; (with_reducible repeat (first | refine blk_drewN ?_ _ | refine blk_drew ?_ | refine blk_alloc ?_ _)); exact BK119.out) hg (by simp [Value.ownBlock])); replace HB := Aside0.mk (hb); clear ho hb hg hat; have hcz15_0 : w14.cell? ⟨gb115, 0, none⟩ = some (.int .i64 a0_0) := (blk_cell BK115.out 0).trans rfl; have hcz15_1 : w14.cell? ⟨gb115, 1, none⟩ = some (.int .i64 a0_1) := (blk_cell BK115.out 1).trans rfl; have hfz15_0 := blk_frozen BK115.out 0; have hfz15_1 := blk_frozen BK115.out 1) | ((with_reducible refine gate_callee (f := 43) rfl ?_); refine goesL_ (some 22) rfl rfl Try.func43 (by kernel_rfl) rfl #[.agg #[.int .i64 a0_0, .int .i64 a0_1], .agg #[.int .i64 1, .int .i64 9223372036854775807]] rfl (mapq rfl) ?_; (with_reducible refine (span_Meet.calls a0_0 a0_1 1 9223372036854775807 t123 t124 true _ A5.out).mono ?_); rintro e w16 ⟨rfl, hb⟩; refine ⟨_, rfl, ?_⟩; replace HO122 := Aside0.mk (Kd.R_below (by (with_reducible repeat (first | apply Kd.R_alloc | apply Kd.R_drewN | apply Kd.R_drew)); exact HO122.out) hb); replace BK115 := bb BK115 hb rfl; replace BK119 := bb BK119 hb rfl; replace HB := hst HB hb rfl; (try clear hb)) | ((with_reducible refine gate_dst (N := 6) rfl ?_); refine box_event ?hg (N := 6) ?hd (cs := #[.int .i64 0, .int .i64 0]) (t := 59) ?hr ?_; (case hd => rfl); (case hg => rfl); (case hr => first | (go_simp; done) | (go_simp; rfl)); intro gb126 hg w17 hbox hb; have BK126 := Aside0.mk (hbox); have GW126 := geb hg HB rfl; have GE126 := geb hg HB rfl; have NB115_126 := nbl hg BK115 rfl; have NB126_115 := nbr hg BK115 rfl; have NB119_126 := nbl hg BK119 rfl; have NB126_119 := nbr hg BK119 rfl; replace HO122 := Aside0.mk (Kd.R_below (Kd.R_elderB (by (with_reducible repeat (first | apply Kd.R_alloc | apply Kd.R_drewN | apply Kd.R_drew)); exact HO122.out) gb126 (Nat.le_of_eq hg.symm)) hb); replace BK115 := bb BK115 hb rfl; replace BK119 := bb BK119 hb rfl; replace HB := hst HB hb rfl; clear hb hbox hg; have hnb18 := NB126_115.out; have hnc18 := NB115_126.out; have hnb19 := NB126_119.out; have hnc19 := NB119_126.out; have hcz20_0 : w17.cell? ⟨gb126, 0, none⟩ = some (.int .i64 0) := (blk_cell BK126.out 0).trans rfl; have hcz20_1 : w17.cell? ⟨gb126, 1, none⟩ = some (.int .i64 0) := (blk_cell BK126.out 1).trans rfl; have hfz20_0 := blk_frozen BK126.out 0; have hfz20_1 := blk_frozen BK126.out 1) | ((with_reducible refine gate_builtin (b := .append) (xs := #[.tmp 26, .tmp 28]) rfl ?_); at_builtin; refine Kd.R_append k59 (w0 := w) w.heap.size rfl (.tmp 26) (.tmp 28) 102 59 (.agg #[(.int .i64 0), (.int .i64 0)]) 16 rfl Try.underlying102 info59 rfl (by decide) (by omega) v121 y120 (⟨t123, t124⟩ : S59) [.int .i64 t123, .int .i64 t124] (fun k_ => k_ ≠ gb115 ∧ k_ ≠ gb119 ∧ k_ ≠ gb126) (fun _ => False) rfl (by first | (go_simp; done) | (go_simp; rfl)) ?aP (fun _ hk => hk.elim) ?aF ?aO ?aB ?aS ?aL ?_; (case aP => exact k59_mkM _ _ _ (⟨t123, t124⟩ : S59)); (case aB => exact (by repeat (first | (with_reducible first | exact HB.out | apply below_alloc | apply pw_below_drewN | apply below_drew1 | refine below_set ?_ GE115.out | refine below_set ?_ GE119.out | refine below_set ?_ GE126.out) | exact HB.out))); (case aF => exact (fun k_ hk => ⟨Kd.freshB (g := gb115) (o := .cells #[.int .i64 a0_0, .int .i64 a0_1] 59 (0, 0)) (by (with_reducible repeat (first | refine blk_drewN ?_ _ | refine blk_drew ?_ | refine blk_alloc ?_ _)); refine blk_far ?_ NB115_126.out _; (with_reducible repeat (first | refine blk_drewN ?_ _ | refine blk_drew ?_ | refine blk_alloc ?_ _)); refine blk_far ?_ NB115_126.out _; (with_reducible repeat (first | refine blk_drewN ?_ _ | refine blk_drew ?_ | refine blk_alloc ?_ _)); exact BK115.out) k_ hk, Kd.freshB (g := gb119) (o := .cells #[.int .i64 t116, .int .i64 t117] 59 (0, 0)) (by (with_reducible repeat (first | refine blk_drewN ?_ _ | refine blk_drew ?_ | refine blk_alloc ?_ _)); refine blk_far ?_ NB119_126.out _; (with_reducible repeat (first | refine blk_drewN ?_ _ | refine blk_drew ?_ | refine blk_alloc ?_ _)); refine blk_far ?_ NB119_126.out _; (with_reducible repeat (first | refine blk_drewN ?_ _ | refine blk_drew ?_ | refine blk_alloc ?_ _)); exact BK119.out) k_ hk, Kd.freshB (g := gb126) (o := .cells #[.int .i64 t123, .int .i64 t124] 59 (0, 0)) (by (with_reducible repeat (first | refine blk_drewN ?_ _ | refine blk_drew ?_ | refine blk_alloc ?_ _)); refine blk_put (cs := #[.int .i64 t123, .int .i64 0]) ?_ 1 _ rfl; (with_reducible repeat (first | refine blk_drewN ?_ _ | refine blk_drew ?_ | refine blk_alloc ?_ _)); refine blk_put (cs := #[.int .i64 0, .int .i64 0]) ?_ 0 _ rfl; (with_reducible repeat (first | refine blk_drewN ?_ _ | refine blk_drew ?_ | refine blk_alloc ?_ _)); exact BK126.out) k_ hk⟩)); (case aO => exact (by (with_reducible repeat (first | apply Kd.R_alloc | apply Kd.R_drewN | apply Kd.R_drew)); exact Kd.R_mono (Kd.R_far (p := ⟨gb126, 1, none⟩) (Kd.R_far (p := ⟨gb126, 0, none⟩) (Kd.R_mono HO122.out (fun k_ hk => (⟨hk, hk.2⟩ : _ ∧ k_ ≠ gb126))) (fun _ hk => hk.2) (.int .i64 t123)) (fun _ hk => hk.2) (.int .i64 t124)) (fun _ hk => ⟨hk.1.1.1, ⟨hk.1.1.2, hk.1.2⟩⟩))); (case aS => exact (below_size (by repeat (first | (with_reducible first | exact HB.out | apply below_alloc | apply pw_below_drewN | apply below_drew1 | refine below_set ?_ GE115.out | refine below_set ?_ GE119.out | refine below_set ?_ GE126.out) | exact HB.out)))); (case aL => have := LMc7.out; omega); intro v128 w21 ho hb hg hat; rw [← Ny127.out] at ho; have HO129 := Aside0.mk (ho); replace BK115 := Aside0.mk (blk_grown (g := gb115) (o := .cells #[.int .i64 a0_0, .int .i64 a0_1] 59 (0, 0)) (by (with_reducible repeat (first | refine blk_drewN ?_ _ | refine blk_drew ?_ | refine blk_alloc ?_ _)); refine blk_far ?_ NB115_126.out _; (with_reducible repeat (first | refine blk_drewN ?_ _ | refine blk_drew ?_ | refine blk_alloc ?_ _)); refine blk_far ?_ NB115_126.out _; (with_reducible repeat (first | refine blk_drewN ?_ _ | refine blk_drew ?_ | refine blk_alloc ?_ _)); exact BK115.out) hg (Kd.R_away HO122.out (fun _ hk => hk.1.1))); replace BK119 := Aside0.mk (blk_grown (g := gb119) (o := .cells #[.int .i64 t116, .int .i64 t117] 59 (0, 0)) (by (with_reducible repeat (first | refine blk_drewN ?_ _ | refine blk_drew ?_ | refine blk_alloc ?_ _)); refine blk_far ?_ NB119_126.out _; (with_reducible repeat (first | refine blk_drewN ?_ _ | refine blk_drew ?_ | refine blk_alloc ?_ _)); refine blk_far ?_ NB119_126.out _; (with_reducible repeat (first | refine blk_drewN ?_ _ | refine blk_drew ?_ | refine blk_alloc ?_ _)); exact BK119.out) hg (Kd.R_away HO122.out (fun _ hk => hk.1.2))); replace BK126 := Aside0.mk (blk_grown (g := gb126) (o := .cells #[.int .i64 t123, .int .i64 t124] 59 (0, 0)) (by (with_reducible repeat (first | refine blk_drewN ?_ _ | refine blk_drew ?_ | refine blk_alloc ?_ _)); refine blk_put (cs := #[.int .i64 t123, .int .i64 0]) ?_ 1 _ rfl; (with_reducible repeat (first | refine blk_drewN ?_ _ | refine blk_drew ?_ | refine blk_alloc ?_ _)); refine blk_put (cs := #[.int .i64 0, .int .i64 0]) ?_ 0 _ rfl; (with_reducible repeat (first | refine blk_drewN ?_ _ | refine blk_drew ?_ | refine blk_alloc ?_ _)); exact BK126.out) hg (Kd.R_away HO122.out (fun _ hk => hk.2))); replace HB := Aside0.mk (hb); clear HO122; clear ho hb hg hat))
     go_ret
     exact ⟨_, by first | rfl | (simp [errW_none, errW_some] <;> rfl) | (simp [*, errW_none, errW_some] <;> rfl), by (with_reducible repeat (first | apply Kd.R_alloc | apply Kd.R_drewN | apply Kd.R_drew)); exact Kd.R_mono HO129.out (fun _ hk => trivial), by repeat (first | (with_reducible first | exact HB.out | apply below_alloc | apply pw_below_drewN | apply below_drew1 | refine below_set ?_ GE115.out | refine below_set ?_ GE119.out | refine below_set ?_ GE126.out) | exact HB.out)⟩
    ·
     rw [if_neg c7] at H
     exact absurd H (by simp)
   ·
    replace c6 := Bool.eq_false_iff.mpr c6
    subst c6
    rw [if_neg (show ¬ (false = true) by decide)] at H
    obtain rfl := Option.some.inj H
    go_enter Try.func84, Try.ntmps84
    go_wp2_with (first | ((with_reducible refine gate_dst (N := 1) rfl ?_); refine box_event ?hg (N := 1) ?hd (cs := #[.int .i64 a0_0, .int .i64 a0_1]) (t := 59) ?hr ?_; (case hd => rfl); (case hg => rfl); (case hr => first | (go_simp; done) | (go_simp; rfl)); intro gb115 hg w22 hbox hb; have BK115 := Aside0.mk (hbox); have GW115 := geb hg HB rfl; have GE115 := geb hg HB rfl; replace HB := hst HB hb rfl; clear hb hbox hg; have hcz23_0 : w22.cell? ⟨gb115, 0, none⟩ = some (.int .i64 a0_0) := (blk_cell BK115.out 0).trans rfl; have hcz23_1 : w22.cell? ⟨gb115, 1, none⟩ = some (.int .i64 a0_1) := (blk_cell BK115.out 1).trans rfl; have hfz23_0 := blk_frozen BK115.out 0; have hfz23_1 := blk_frozen BK115.out 1) | ((with_reducible refine gate_callee (f := 43) rfl ?_); refine goesL_ (some 11) rfl rfl Try.func43 (by kernel_rfl) rfl #[.agg #[.int .i64 a0_0, .int .i64 a0_1], .agg #[.int .i64 (-9223372036854775808), .int .i64 (-1)]] rfl (mapq rfl) ?_; (with_reducible refine (span_Meet.calls a0_0 a0_1 (-9223372036854775808) (-1) t116 t117 true _ A2.out).mono ?_); rintro e w24 ⟨rfl, hb⟩; refine ⟨_, rfl, ?_⟩; replace BK115 := bb BK115 hb rfl; replace HB := hst HB hb rfl; (try clear hb)) | ((with_reducible refine gate_dst (N := 4) rfl ?_); refine box_event ?hg (N := 4) ?hd (cs := #[.int .i64 0, .int .i64 0]) (t := 59) ?hr ?_; (case hd => rfl); (case hg => rfl); (case hr => first | (go_simp; done) | (go_simp; rfl)); intro gb119 hg w25 hbox hb; have BK119 := Aside0.mk (hbox); have GW119 := geb hg HB rfl; have GE119 := geb hg HB rfl; have NB115_119 := nbl hg BK115 rfl; have NB119_115 := nbr hg BK115 rfl; replace BK115 := bb BK115 hb rfl; replace HB := hst HB hb rfl; clear hb hbox hg; have hnb26 := NB119_115.out; have hnc26 := NB115_119.out; have hcz27_0 : w25.cell? ⟨gb119, 0, none⟩ = some (.int .i64 0) := (blk_cell BK119.out 0).trans rfl; have hcz27_1 : w25.cell? ⟨gb119, 1, none⟩ = some (.int .i64 0) := (blk_cell BK119.out 1).trans rfl; have hfz27_0 := blk_frozen BK119.out 0; have hfz27_1 := blk_frozen BK119.out 1) | ((with_reducible refine gate_builtin (b := .append) (xs := #[.tmp 15, .tmp 17]) rfl ?_); at_builtin; refine Kd.R_append k59 (w0 := w) w.heap.size rfl (.tmp 15) (.tmp 17) 102 59 (.agg #[(.int .i64 0), (.int .i64 0)]) 16 rfl Try.underlying102 info59 rfl (by decide) (by omega) (.slice none 0 0) ([] : List (S59)) (⟨t116, t117⟩ : S59) [.int .i64 t116, .int .i64 t117] (fun k_ => k_ ≠ gb115 ∧ k_ ≠ gb119) (fun _ => False) rfl (by first | (go_simp; done) | (go_simp; rfl)) ?aP (fun _ hk => hk.elim) ?aF ?aO ?aB ?aS ?aL ?_; (case aP => exact k59_mkM _ _ _ (⟨t116, t117⟩ : S59)); (case aB => exact (by repeat (first | (with_reducible first | exact HB.out | apply below_alloc | apply pw_below_drewN | apply below_drew1 | refine below_set ?_ GE115.out | refine below_set ?_ GE119.out) | exact HB.out))); (case aF => exact (fun k_ hk => ⟨Kd.freshB (g := gb115) (o := .cells #[.int .i64 a0_0, .int .i64 a0_1] 59 (0, 0)) (by (with_reducible repeat (first | refine blk_drewN ?_ _ | refine blk_drew ?_ | refine blk_alloc ?_ _)); refine blk_far ?_ NB115_119.out _; (with_reducible repeat (first | refine blk_drewN ?_ _ | refine blk_drew ?_ | refine blk_alloc ?_ _)); refine blk_far ?_ NB115_119.out _; (with_reducible repeat (first | refine blk_drewN ?_ _ | refine blk_drew ?_ | refine blk_alloc ?_ _)); exact BK115.out) k_ hk, Kd.freshB (g := gb119) (o := .cells #[.int .i64 t116, .int .i64 t117] 59 (0, 0)) (by (with_reducible repeat (first | refine blk_drewN ?_ _ | refine blk_drew ?_ | refine blk_alloc ?_ _)); refine blk_put (cs := #[.int .i64 t116, .int .i64 0]) ?_ 1 _ rfl; (with_reducible repeat (first | refine blk_drewN ?_ _ | refine blk_drew ?_ | refine blk_alloc ?_ _)); refine blk_put (cs := #[.int .i64 0, .int .i64 0]) ?_ 0 _ rfl; (with_reducible repeat (first | refine blk_drewN ?_ _ | refine blk_drew ?_ | refine blk_alloc ?_ _)); exact BK119.out) k_ hk⟩)); (case aO => exact ((Kd.R_nil _ _ _ _ (fun k_ => k_ ≠ gb115 ∧ k_ ≠ gb119)))); (case aS => exact (below_size (by repeat (first | (with_reducible first | exact HB.out | apply below_alloc | apply pw_below_drewN | apply below_drew1 | refine below_set ?_ GE115.out | refine below_set ?_ GE119.out) | exact HB.out)))); (case aL => have := LMc4.out; omega); intro v121 w28 ho hb hg hat; rw [← Ny120.out] at ho; have HO122 := Aside0.mk (ho); replace BK115 := Aside0.mk (blk_grown (g := gb115) (o := .cells #[.int .i64 a0_0, .int .i64 a0_1] 59 (0, 0)) (by (with_reducible repeat (first | refine blk_drewN ?_ _ | refine blk_drew ?_ | refine blk_alloc ?_ _)); refine blk_far ?_ NB115_119.out _; (with_reducible repeat (first | refine blk_drewN ?_ _ | refine blk_drew ?_ | refine blk_alloc ?_ _)); refine blk_far ?_ NB115_119.out _; (with_reducible repeat (first | refine blk_drewN ?_ _ | refine blk_drew ?_ | refine blk_alloc ?_ _)); exact BK115.out) hg (by simp [Value.ownBlock])); replace BK119 := Aside0.mk (blk_grown (g := gb119) (o := .cells #[.int .i64 t116, .int .i64 t117] 59 (0, 0)) (by (with_reducible repeat (first | refine blk_drewN ?_ _ | refine blk_drew ?_ | refine blk_alloc ?_ _)); refine blk_put (cs := #[.int .i64 t116, .int .i64 0]) ?_ 1 _ rfl; (with_reducible repeat (first | refine blk_drewN ?_ _ | refine blk_drew ?_ | refine blk_alloc ?_ _)); refine blk_put (cs := #[.int .i64 0, .int .i64 0]) ?_ 0 _ rfl; (with_reducible repeat (first | refine blk_drewN ?_ _ | refine blk_drew ?_ | refine blk_alloc ?_ _)); exact BK119.out) hg (by simp [Value.ownBlock])); replace HB := Aside0.mk (hb); clear ho hb hg hat; have hcz29_0 : w28.cell? ⟨gb115, 0, none⟩ = some (.int .i64 a0_0) := (blk_cell BK115.out 0).trans rfl; have hcz29_1 : w28.cell? ⟨gb115, 1, none⟩ = some (.int .i64 a0_1) := (blk_cell BK115.out 1).trans rfl; have hfz29_0 := blk_frozen BK115.out 0; have hfz29_1 := blk_frozen BK115.out 1) | ((with_reducible refine gate_callee (f := 43) rfl ?_); refine goesL_ (some 22) rfl rfl Try.func43 (by kernel_rfl) rfl #[.agg #[.int .i64 a0_0, .int .i64 a0_1], .agg #[.int .i64 1, .int .i64 9223372036854775807]] rfl (mapq rfl) ?_; (with_reducible refine (span_Meet.calls a0_0 a0_1 1 9223372036854775807 t123 t124 false _ A5.out).mono ?_); rintro e w30 ⟨rfl, hb⟩; refine ⟨_, rfl, ?_⟩; replace HO122 := Aside0.mk (Kd.R_below (by (with_reducible repeat (first | apply Kd.R_alloc | apply Kd.R_drewN | apply Kd.R_drew)); exact HO122.out) hb); replace BK115 := bb BK115 hb rfl; replace BK119 := bb BK119 hb rfl; replace HB := hst HB hb rfl; (try clear hb)) | ((with_reducible refine gate_dst (N := 6) rfl ?_); refine box_event ?hg (N := 6) ?hd (cs := #[.int .i64 0, .int .i64 0]) (t := 59) ?hr ?_; (case hd => rfl); (case hg => rfl); (case hr => first | (go_simp; done) | (go_simp; rfl)); intro gb126 hg w31 hbox hb; have BK126 := Aside0.mk (hbox); have GW126 := geb hg HB rfl; have GE126 := geb hg HB rfl; have NB115_126 := nbl hg BK115 rfl; have NB126_115 := nbr hg BK115 rfl; have NB119_126 := nbl hg BK119 rfl; have NB126_119 := nbr hg BK119 rfl; replace HO122 := Aside0.mk (Kd.R_below (Kd.R_elderB (by (with_reducible repeat (first | apply Kd.R_alloc | apply Kd.R_drewN | apply Kd.R_drew)); exact HO122.out) gb126 (Nat.le_of_eq hg.symm)) hb); replace BK115 := bb BK115 hb rfl; replace BK119 := bb BK119 hb rfl; replace HB := hst HB hb rfl; clear hb hbox hg; have hnb32 := NB126_115.out; have hnc32 := NB115_126.out; have hnb33 := NB126_119.out; have hnc33 := NB119_126.out; have hcz34_0 : w31.cell? ⟨gb126, 0, none⟩ = some (.int .i64 0) := (blk_cell BK126.out 0).trans rfl; have hcz34_1 : w31.cell? ⟨gb126, 1, none⟩ = some (.int .i64 0) := (blk_cell BK126.out 1).trans rfl; have hfz34_0 := blk_frozen BK126.out 0; have hfz34_1 := blk_frozen BK126.out 1))
    go_ret
    exact ⟨_, by first | rfl | (simp [errW_none, errW_some] <;> rfl) | (simp [*, errW_none, errW_some] <;> rfl), by (with_reducible repeat (first | apply Kd.R_alloc | apply Kd.R_drewN | apply Kd.R_drew)); exact Kd.R_mono (Kd.R_far (p := ⟨gb126, 1, none⟩) (Kd.R_far (p := ⟨gb126, 0, none⟩) (Kd.R_mono HO122.out (fun k_ hk => (⟨hk, hk.2⟩ : _ ∧ k_ ≠ gb126))) (fun _ hk => hk.2) (.int .i64 t123)) (fun _ hk => hk.2) (.int .i64 t124)) (fun _ hk => trivial), by repeat (first | (with_reducible first | exact HB.out | apply below_alloc | apply pw_below_drewN | apply below_drew1 | refine below_set ?_ GE115.out | refine below_set ?_ GE119.out | refine below_set ?_ GE126.out) | exact HB.out)⟩
  ·
   rw [if_neg c4] at H
   exact absurd H (by simp)
 ·
  replace c3 := Bool.eq_false_iff.mpr c3
  subst c3
  rw [if_neg (show ¬ (false = true) by decide)] at H
  replace H := Option.bind_eq_some_iff.mp H
  obtain ⟨⟨t130, t131, t132⟩, A350, H⟩ := H
  (try dsimp only at H)
  have A35 := Aside0.mk A350
  clear A350
  by_cases c36 : t132 = true
  ·
   subst c36
   rw [if_pos rfl] at H
   by_cases c37 : ([] : List (S59)).length < 8796093022208
   ·
    rw [if_pos c37] at H
    have LMc37 := Aside0.mk c37
    clear c37
    obtain ⟨y134, hy134⟩ : ∃ y_ : List (S59), y_ = (([] : List (S59)) ++ [(⟨t130, t131⟩ : S59)]) := ⟨_, rfl⟩
    replace H : (some y134) = some r := by first | (rw [hy134]; with_reducible exact H) | (have H2_ := (Option.bind_some _ _).symm.trans H; rw [hy134]; with_reducible exact H2_) | (have H2_ := (Option.bind_some _ _).symm.trans H; with_reducible exact H2_) | with_reducible exact H | (rw [hy134]; exact H) | exact H
    have Ny134 := Aside0.mk hy134
    clear hy134
    obtain rfl := Option.some.inj H
    go_enter Try.func84, Try.ntmps84
    go_wp2_with (first | ((with_reducible refine gate_dst (N := 1) rfl ?_); refine box_event ?hg (N := 1) ?hd (cs := #[.int .i64 a0_0, .int .i64 a0_1]) (t := 59) ?hr ?_; (case hd => rfl); (case hg => rfl); (case hr => first | (go_simp; done) | (go_simp; rfl)); intro gb115 hg w38 hbox hb; have BK115 := Aside0.mk (hbox); have GW115 := geb hg HB rfl; have GE115 := geb hg HB rfl; replace HB := hst HB hb rfl; clear hb hbox hg; have hcz39_0 : w38.cell? ⟨gb115, 0, none⟩ = some (.int .i64 a0_0) := (blk_cell BK115.out 0).trans rfl; have hcz39_1 : w38.cell? ⟨gb115, 1, none⟩ = some (.int .i64 a0_1) := (blk_cell BK115.out 1).trans rfl; have hfz39_0 := blk_frozen BK115.out 0; have hfz39_1 := blk_frozen BK115.out 1) | ((with_reducible refine gate_callee (f := 43) rfl ?_); refine goesL_ (some 11) rfl rfl Try.func43 (by kernel_rfl) rfl #[.agg #[.int .i64 a0_0, .int .i64 a0_1], .agg #[.int .i64 (-9223372036854775808), .int .i64 (-1)]] rfl (mapq rfl) ?_; (with_reducible refine (span_Meet.calls a0_0 a0_1 (-9223372036854775808) (-1) t116 t117 false _ A2.out).mono ?_); rintro e w40 ⟨rfl, hb⟩; refine ⟨_, rfl, ?_⟩; replace BK115 := bb BK115 hb rfl; replace HB := hst HB hb rfl; (try clear hb)) | ((with_reducible refine gate_dst (N := 4) rfl ?_); refine box_event ?hg (N := 4) ?hd (cs := #[.int .i64 0, .int .i64 0]) (t := 59) ?hr ?_; (case hd => rfl); (case hg => rfl); (case hr => first | (go_simp; done) | (go_simp; rfl)); intro gb119 hg w41 hbox hb; have BK119 := Aside0.mk (hbox); have GW119 := geb hg HB rfl; have GE119 := geb hg HB rfl; have NB115_119 := nbl hg BK115 rfl; have NB119_115 := nbr hg BK115 rfl; replace BK115 := bb BK115 hb rfl; replace HB := hst HB hb rfl; clear hb hbox hg; have hnb42 := NB119_115.out; have hnc42 := NB115_119.out; have hcz43_0 : w41.cell? ⟨gb119, 0, none⟩ = some (.int .i64 0) := (blk_cell BK119.out 0).trans rfl; have hcz43_1 : w41.cell? ⟨gb119, 1, none⟩ = some (.int .i64 0) := (blk_cell BK119.out 1).trans rfl; have hfz43_0 := blk_frozen BK119.out 0; have hfz43_1 := blk_frozen BK119.out 1; have hcz44_0 : w41.cell? ⟨gb115, 0, none⟩ = some (.int .i64 a0_0) := (blk_cell BK115.out 0).trans rfl; have hcz44_1 : w41.cell? ⟨gb115, 1, none⟩ = some (.int .i64 a0_1) := (blk_cell BK115.out 1).trans rfl; have hfz44_0 := blk_frozen BK115.out 0; have hfz44_1 := blk_frozen BK115.out 1) | ((with_reducible refine gate_callee (f := 43) rfl ?_); refine goesL_ (some 22) rfl rfl Try.func43 (by kernel_rfl) rfl #[.agg #[.int .i64 a0_0, .int .i64 a0_1], .agg #[.int .i64 1, .int .i64 9223372036854775807]] rfl (mapq rfl) ?_; (with_reducible refine (span_Meet.calls a0_0 a0_1 1 9223372036854775807 t130 t131 true _ A35.out).mono ?_); rintro e w45 ⟨rfl, hb⟩; refine ⟨_, rfl, ?_⟩; replace BK115 := Aside0.mk (blk_below (g := gb115) (o := .cells #[.int .i64 a0_0, .int .i64 a0_1] 59 (0, 0)) (by (with_reducible repeat (first | refine blk_drewN ?_ _ | refine blk_drew ?_ | refine blk_alloc ?_ _)); refine blk_far ?_ NB115_119.out _; (with_reducible repeat (first | refine blk_drewN ?_ _ | refine blk_drew ?_ | refine blk_alloc ?_ _)); refine blk_far ?_ NB115_119.out _; (with_reducible repeat (first | refine blk_drewN ?_ _ | refine blk_drew ?_ | refine blk_alloc ?_ _)); exact BK115.out) hb); replace BK119 := Aside0.mk (blk_below (g := gb119) (o := .cells #[.int .i64 t116, .int .i64 t117] 59 (0, 0)) (by (with_reducible repeat (first | refine blk_drewN ?_ _ | refine blk_drew ?_ | refine blk_alloc ?_ _)); refine blk_put (cs := #[.int .i64 t116, .int .i64 0]) ?_ 1 _ rfl; (with_reducible repeat (first | refine blk_drewN ?_ _ | refine blk_drew ?_ | refine blk_alloc ?_ _)); refine blk_put (cs := #[.int .i64 0, .int .i64 0]) ?_ 0 _ rfl; (with_reducible repeat (first | refine blk_drewN ?_ _ | refine blk_drew ?_ | refine blk_alloc ?_ _)); exact BK119.out) hb); replace HB := Aside0.mk (below_step (by repeat (first | (with_reducible first | exact HB.out | apply below_alloc | apply pw_below_drewN | apply below_drew1 | refine below_set ?_ GE115.out | refine below_set ?_ GE119.out) | exact HB.out)) hb); (try clear hb)) | ((with_reducible refine gate_dst (N := 6) rfl ?_); refine box_event ?hg (N := 6) ?hd (cs := #[.int .i64 0, .int .i64 0]) (t := 59) ?hr ?_; (case hd => rfl); (case hg => rfl); (case hr => first | (go_simp; done) | (go_simp; rfl)); intro gb133 hg w46 hbox hb; have BK133 := Aside0.mk (hbox); have GW133 := geb hg HB rfl; have GE133 := geb hg HB rfl; have NB115_133 := nbl hg BK115 rfl; have NB133_115 := nbr hg BK115 rfl; have NB119_133 := nbl hg BK119 rfl; have NB133_119 := nbr hg BK119 rfl; replace BK115 := bb BK115 hb rfl; replace BK119 := bb BK119 hb rfl; replace HB := hst HB hb rfl; clear hb hbox hg; have hnb47 := NB133_115.out; have hnc47 := NB115_133.out; have hnb48 := NB133_119.out; have hnc48 := NB119_133.out; have hcz49_0 : w46.cell? ⟨gb133, 0, none⟩ = some (.int .i64 0) := (blk_cell BK133.out 0).trans rfl; have hcz49_1 : w46.cell? ⟨gb133, 1, none⟩ = some (.int .i64 0) := (blk_cell BK133.out 1).trans rfl; have hfz49_0 := blk_frozen BK133.out 0; have hfz49_1 := blk_frozen BK133.out 1) | ((with_reducible refine gate_builtin (b := .append) (xs := #[.tmp 26, .tmp 28]) rfl ?_); at_builtin; refine Kd.R_append k59 (w0 := w) w.heap.size rfl (.tmp 26) (.tmp 28) 102 59 (.agg #[(.int .i64 0), (.int .i64 0)]) 16 rfl Try.underlying102 info59 rfl (by decide) (by omega) (.slice none 0 0) ([] : List (S59)) (⟨t130, t131⟩ : S59) [.int .i64 t130, .int .i64 t131] (fun k_ => k_ ≠ gb115 ∧ k_ ≠ gb119 ∧ k_ ≠ gb133) (fun _ => False) rfl (by first | (go_simp; done) | (go_simp; rfl)) ?aP (fun _ hk => hk.elim) ?aF ?aO ?aB ?aS ?aL ?_; (case aP => exact k59_mkM _ _ _ (⟨t130, t131⟩ : S59)); (case aB => exact (by repeat (first | (with_reducible first | exact HB.out | apply below_alloc | apply pw_below_drewN | apply below_drew1 | refine below_set ?_ GE115.out | refine below_set ?_ GE119.out | refine below_set ?_ GE133.out) | exact HB.out))); (case aF => exact (fun k_ hk => ⟨Kd.freshB (g := gb115) (o := .cells #[.int .i64 a0_0, .int .i64 a0_1] 59 (0, 0)) (by (with_reducible repeat (first | refine blk_drewN ?_ _ | refine blk_drew ?_ | refine blk_alloc ?_ _)); refine blk_far ?_ NB115_133.out _; (with_reducible repeat (first | refine blk_drewN ?_ _ | refine blk_drew ?_ | refine blk_alloc ?_ _)); refine blk_far ?_ NB115_133.out _; (with_reducible repeat (first | refine blk_drewN ?_ _ | refine blk_drew ?_ | refine blk_alloc ?_ _)); exact BK115.out) k_ hk, Kd.freshB (g := gb119) (o := .cells #[.int .i64 t116, .int .i64 t117] 59 (0, 0)) (by (with_reducible repeat (first | refine blk_drewN ?_ _ | refine blk_drew ?_ | refine blk_alloc ?_ _)); refine blk_far ?_ NB119_133.out _; (with_reducible repeat (first | refine blk_drewN ?_ _ | refine blk_drew ?_ | refine blk_alloc ?_ _)); refine blk_far ?_ NB119_133.out _; (with_reducible repeat (first | refine blk_drewN ?_ _ | refine blk_drew ?_ | refine blk_alloc ?_ _)); exact BK119.out) k_ hk, Kd.freshB (g := gb133) (o := .cells #[.int .i64 t130, .int .i64 t131] 59 (0, 0)) (by (with_reducible repeat (first | refine blk_drewN ?_ _ | refine blk_drew ?_ | refine blk_alloc ?_ _)); refine blk_put (cs := #[.int .i64 t130, .int .i64 0]) ?_ 1 _ rfl; (with_reducible repeat (first | refine blk_drewN ?_ _ | refine blk_drew ?_ | refine blk_alloc ?_ _)); refine blk_put (cs := #[.int .i64 0, .int .i64 0]) ?_ 0 _ rfl; (with_reducible repeat (first | refine blk_drewN ?_ _ | refine blk_drew ?_ | refine blk_alloc ?_ _)); exact BK133.out) k_ hk⟩)); (case aO => exact ((Kd.R_nil _ _ _ _ (fun k_ => k_ ≠ gb115 ∧ k_ ≠ gb119 ∧ k_ ≠ gb133)))); (case aS => exact (below_size (by repeat (first | (with_reducible first | exact HB.out | apply below_alloc | apply pw_below_drewN | apply below_drew1 | refine below_set ?_ GE115.out | refine below_set ?_ GE119.out | refine below_set ?_ GE133.out) | exact HB.out)))); (case aL => have := LMc37.out; omega); intro v135 w50 ho hb hg hat; rw [← Ny134.out] at ho; have HO136 := Aside0.mk (ho); replace BK115 := Aside0.mk (blk_grown (g := gb115) (o := .cells #[.int .i64 a0_0, .int .i64 a0_1] 59 (0, 0)) (by (with_reducible repeat (first | refine blk_drewN ?_ _ | refine blk_drew ?_ | refine blk_alloc ?_ _)); refine blk_far ?_ NB115_133.out _; (with_reducible repeat (first | refine blk_drewN ?_ _ | refine blk_drew ?_ | refine blk_alloc ?_ _)); refine blk_far ?_ NB115_133.out _; (with_reducible repeat (first | refine blk_drewN ?_ _ | refine blk_drew ?_ | refine blk_alloc ?_ _)); exact BK115.out) hg (by simp [Value.ownBlock])); replace BK119 := Aside0.mk (blk_grown (g := gb119) (o := .cells #[.int .i64 t116, .int .i64 t117] 59 (0, 0)) (by (with_reducible repeat (first | refine blk_drewN ?_ _ | refine blk_drew ?_ | refine blk_alloc ?_ _)); refine blk_far ?_ NB119_133.out _; (with_reducible repeat (first | refine blk_drewN ?_ _ | refine blk_drew ?_ | refine blk_alloc ?_ _)); refine blk_far ?_ NB119_133.out _; (with_reducible repeat (first | refine blk_drewN ?_ _ | refine blk_drew ?_ | refine blk_alloc ?_ _)); exact BK119.out) hg (by simp [Value.ownBlock])); replace BK133 := Aside0.mk (blk_grown (g := gb133) (o := .cells #[.int .i64 t130, .int .i64 t131] 59 (0, 0)) (by (with_reducible repeat (first | refine blk_drewN ?_ _ | refine blk_drew ?_ | refine blk_alloc ?_ _)); refine blk_put (cs := #[.int .i64 t130, .int .i64 0]) ?_ 1 _ rfl; (with_reducible repeat (first | refine blk_drewN ?_ _ | refine blk_drew ?_ | refine blk_alloc ?_ _)); refine blk_put (cs := #[.int .i64 0, .int .i64 0]) ?_ 0 _ rfl; (with_reducible repeat (first | refine blk_drewN ?_ _ | refine blk_drew ?_ | refine blk_alloc ?_ _)); exact BK133.out) hg (by simp [Value.ownBlock])); replace HB := Aside0.mk (hb); clear ho hb hg hat))
    go_ret
    exact ⟨_, by first | rfl | (simp [errW_none, errW_some] <;> rfl) | (simp [*, errW_none, errW_some] <;> rfl), by (with_reducible repeat (first | apply Kd.R_alloc | apply Kd.R_drewN | apply Kd.R_drew)); exact Kd.R_mono HO136.out (fun _ hk => trivial), by repeat (first | (with_reducible first | exact HB.out | apply below_alloc | apply pw_below_drewN | apply below_drew1 | refine below_set ?_ GE115.out | refine below_set ?_ GE119.out | refine below_set ?_ GE133.out) | exact HB.out)⟩
   ·
    rw [if_neg c37] at H
    exact absurd H (by simp)
  ·
   replace c36 := Bool.eq_false_iff.mpr c36
   subst c36
   rw [if_neg (show ¬ (false = true) by decide)] at H
   obtain rfl := Option.some.inj H
   go_enter Try.func84, Try.ntmps84
   go_wp2_with (first | ((with_reducible refine gate_dst (N := 1) rfl ?_); refine box_event ?hg (N := 1) ?hd (cs := #[.int .i64 a0_0, .int .i64 a0_1]) (t := 59) ?hr ?_; (case hd => rfl); (case hg => rfl); (case hr => first | (go_simp; done) | (go_simp; rfl)); intro gb115 hg w51 hbox hb; have BK115 := Aside0.mk (hbox); have GW115 := geb hg HB rfl; have GE115 := geb hg HB rfl; replace HB := hst HB hb rfl; clear hb hbox hg; have hcz52_0 : w51.cell? ⟨gb115, 0, none⟩ = some (.int .i64 a0_0) := (blk_cell BK115.out 0).trans rfl; have hcz52_1 : w51.cell? ⟨gb115, 1, none⟩ = some (.int .i64 a0_1) := (blk_cell BK115.out 1).trans rfl; have hfz52_0 := blk_frozen BK115.out 0; have hfz52_1 := blk_frozen BK115.out 1) | ((with_reducible refine gate_callee (f := 43) rfl ?_); refine goesL_ (some 11) rfl rfl Try.func43 (by kernel_rfl) rfl #[.agg #[.int .i64 a0_0, .int .i64 a0_1], .agg #[.int .i64 (-9223372036854775808), .int .i64 (-1)]] rfl (mapq rfl) ?_; (with_reducible refine (span_Meet.calls a0_0 a0_1 (-9223372036854775808) (-1) t116 t117 false _ A2.out).mono ?_); rintro e w53 ⟨rfl, hb⟩; refine ⟨_, rfl, ?_⟩; replace BK115 := bb BK115 hb rfl; replace HB := hst HB hb rfl; (try clear hb)) | ((with_reducible refine gate_dst (N := 4) rfl ?_); refine box_event ?hg (N := 4) ?hd (cs := #[.int .i64 0, .int .i64 0]) (t := 59) ?hr ?_; (case hd => rfl); (case hg => rfl); (case hr => first | (go_simp; done) | (go_simp; rfl)); intro gb119 hg w54 hbox hb; have BK119 := Aside0.mk (hbox); have GW119 := geb hg HB rfl; have GE119 := geb hg HB rfl; have NB115_119 := nbl hg BK115 rfl; have NB119_115 := nbr hg BK115 rfl; replace BK115 := bb BK115 hb rfl; replace HB := hst HB hb rfl; clear hb hbox hg; have hnb55 := NB119_115.out; have hnc55 := NB115_119.out; have hcz56_0 : w54.cell? ⟨gb119, 0, none⟩ = some (.int .i64 0) := (blk_cell BK119.out 0).trans rfl; have hcz56_1 : w54.cell? ⟨gb119, 1, none⟩ = some (.int .i64 0) := (blk_cell BK119.out 1).trans rfl; have hfz56_0 := blk_frozen BK119.out 0; have hfz56_1 := blk_frozen BK119.out 1; have hcz57_0 : w54.cell? ⟨gb115, 0, none⟩ = some (.int .i64 a0_0) := (blk_cell BK115.out 0).trans rfl; have hcz57_1 : w54.cell? ⟨gb115, 1, none⟩ = some (.int .i64 a0_1) := (blk_cell BK115.out 1).trans rfl; have hfz57_0 := blk_frozen BK115.out 0; have hfz57_1 := blk_frozen BK115.out 1) | ((with_reducible refine gate_callee (f := 43) rfl ?_); refine goesL_ (some 22) rfl rfl Try.func43 (by kernel_rfl) rfl #[.agg #[.int .i64 a0_0, .int .i64 a0_1], .agg #[.int .i64 1, .int .i64 9223372036854775807]] rfl (mapq rfl) ?_; (with_reducible refine (span_Meet.calls a0_0 a0_1 1 9223372036854775807 t130 t131 false _ A35.out).mono ?_); rintro e w58 ⟨rfl, hb⟩; refine ⟨_, rfl, ?_⟩; replace BK115 := Aside0.mk (blk_below (g := gb115) (o := .cells #[.int .i64 a0_0, .int .i64 a0_1] 59 (0, 0)) (by (with_reducible repeat (first | refine blk_drewN ?_ _ | refine blk_drew ?_ | refine blk_alloc ?_ _)); refine blk_far ?_ NB115_119.out _; (with_reducible repeat (first | refine blk_drewN ?_ _ | refine blk_drew ?_ | refine blk_alloc ?_ _)); refine blk_far ?_ NB115_119.out _; (with_reducible repeat (first | refine blk_drewN ?_ _ | refine blk_drew ?_ | refine blk_alloc ?_ _)); exact BK115.out) hb); replace BK119 := Aside0.mk (blk_below (g := gb119) (o := .cells #[.int .i64 t116, .int .i64 t117] 59 (0, 0)) (by (with_reducible repeat (first | refine blk_drewN ?_ _ | refine blk_drew ?_ | refine blk_alloc ?_ _)); refine blk_put (cs := #[.int .i64 t116, .int .i64 0]) ?_ 1 _ rfl; (with_reducible repeat (first | refine blk_drewN ?_ _ | refine blk_drew ?_ | refine blk_alloc ?_ _)); refine blk_put (cs := #[.int .i64 0, .int .i64 0]) ?_ 0 _ rfl; (with_reducible repeat (first | refine blk_drewN ?_ _ | refine blk_drew ?_ | refine blk_alloc ?_ _)); exact BK119.out) hb); replace HB := Aside0.mk (below_step (by repeat (first | (with_reducible first | exact HB.out | apply below_alloc | apply pw_below_drewN | apply below_drew1 | refine below_set ?_ GE115.out | refine below_set ?_ GE119.out) | exact HB.out)) hb); (try clear hb)) | ((with_reducible refine gate_dst (N := 6) rfl ?_); refine box_event ?hg (N := 6) ?hd (cs := #[.int .i64 0, .int .i64 0]) (t := 59) ?hr ?_; (case hd => rfl); (case hg => rfl); (case hr => first | (go_simp; done) | (go_simp; rfl)); intro gb133 hg w59 hbox hb; have BK133 := Aside0.mk (hbox); have GW133 := geb hg HB rfl; have GE133 := geb hg HB rfl; have NB115_133 := nbl hg BK115 rfl; have NB133_115 := nbr hg BK115 rfl; have NB119_133 := nbl hg BK119 rfl; have NB133_119 := nbr hg BK119 rfl; replace BK115 := bb BK115 hb rfl; replace BK119 := bb BK119 hb rfl; replace HB := hst HB hb rfl; clear hb hbox hg; have hnb60 := NB133_115.out; have hnc60 := NB115_133.out; have hnb61 := NB133_119.out; have hnc61 := NB119_133.out; have hcz62_0 : w59.cell? ⟨gb133, 0, none⟩ = some (.int .i64 0) := (blk_cell BK133.out 0).trans rfl; have hcz62_1 : w59.cell? ⟨gb133, 1, none⟩ = some (.int .i64 0) := (blk_cell BK133.out 1).trans rfl; have hfz62_0 := blk_frozen BK133.out 0; have hfz62_1 := blk_frozen BK133.out 1))
   go_ret
   exact ⟨_, by first | rfl | (simp [errW_none, errW_some] <;> rfl) | (simp [*, errW_none, errW_some] <;> rfl), by first | exact Kd.R_nil _ _ _ _ _ | exact Kd.N_nil _ _ _ _ _ | exact Kd.V_nil _ _ _ _ _ | exact Kd.Q_nil _ _ _ _ _ | exact Kd.S_nil _ _ _ _ _, by repeat (first | (with_reducible first | exact HB.out | apply below_alloc | apply pw_below_drewN | apply below_drew1 | refine below_set ?_ GE115.out | refine below_set ?_ GE119.out | refine below_set ?_ GE133.out) | exact HB.out)⟩

/-! ### span_quotients: function 68 -/
mutual
def span_quotients.j0 : Nat → List (S59) → Bool → Int → Int → Option (Int × Int × Bool)
 | 0, _, _, _, _ => none
 | k + 1, x6, x25, x138000, x138001 => if x25 = true then ((span_Any.f).bind fun bt144 => (some (bt144.1, bt144.2, true))) else (span_quotients.l0 k x6 (x6.length : Int) 0 x138000 x138001 0 0 false false)
def span_quotients.l0 : Nat → List (S59) → Int → Int → Int → Int → Int → Int → Bool → Bool → Option (Int × Int × Bool)
 | 0, _, _, _, _, _, _, _, _, _ => none
 | k + 1, x27, x28, x29, x138000, x138001, x147000, x147001, x147002, x147003 => if x29 < x28 then (if 0 ≤ x29 then (if x29 < (x27.length : Int) then ((some (([(rd_T59 x27 x29).f0, (rd_T59 x27 x29).f1] : List Int) : List Int)).bind fun y156 => (span_quotients.l1 k x27 x28 x29 y156 (y156.length : Int) 0 x138000 x138001 x147000 x147001 x147002 x147003)) else (none)) else (none)) else ((span_ends_all.f x147000 x147001 x147002 x147003).bind fun bt147 => (some (bt147.1, bt147.2.1, bt147.2.2.1)))
def span_quotients.l1 : Nat → List (S59) → Int → Int → List Int → Int → Int → Int → Int → Int → Int → Bool → Bool → Option (Int × Int × Bool)
 | 0, _, _, _, _, _, _, _, _, _, _, _, _ => none
 | k + 1, x27, x28, x29, x37, x38, x39, x138000, x138001, x147000, x147001, x147002, x147003 => if x39 < x38 then (if 0 ≤ x39 then (if x39 < (x37.length : Int) then (if (rd x37 x39) = 0 then (none) else ((span_ends_put.f x147000 x147001 x147002 x147003 (wrap64 (Int.tdiv x138000 (rd x37 x39))) true).bind fun bt160 => ((span_ends_put.f bt160.1 bt160.2.1 bt160.2.2.1 bt160.2.2.2 (wrap64 (Int.tdiv x138001 (rd x37 x39))) true).bind fun bt164 => (span_quotients.l1 k x27 x28 x29 x37 x38 (wrap64 (x39 + 1)) x138000 x138001 bt164.1 bt164.2.1 bt164.2.2.1 bt164.2.2.2)))) else (none)) else (none)) else (span_quotients.l0 k x27 x28 (wrap64 (x29 + 1)) x138000 x138001 x147000 x147001 x147002 x147003)
end
def span_quotients.f (k : Nat) (a0_0 : Int) (a0_1 : Int) (a1_0 : Int) (a1_1 : Int) : Option (Int × Int × Bool) := (span_Span_parts.f a1_0 a1_1).bind fun t140 => (if (t140.length : Int) > 0 then (if a0_0 = (-9223372036854775808) then ((span_Has.f a1_0 a1_1 (-1)).bind fun t143 => (span_quotients.j0 k t140 t143 a0_0 a0_1)) else (span_quotients.j0 k t140 false a0_0 a0_1)) else (span_quotients.j0 k t140 false a0_0 a0_1))
theorem span_quotients.mono_l : ∀ k, (∀ y0 y1 y2 y3, LeO (span_quotients.j0 k y0 y1 y2 y3) (span_quotients.j0 (k + 1) y0 y1 y2 y3)) ∧ (∀ y0 y1 y2 y3 y4 y5 y6 y7 y8, LeO (span_quotients.l0 k y0 y1 y2 y3 y4 y5 y6 y7 y8) (span_quotients.l0 (k + 1) y0 y1 y2 y3 y4 y5 y6 y7 y8)) ∧ (∀ y0 y1 y2 y3 y4 y5 y6 y7 y8 y9 y10 y11, LeO (span_quotients.l1 k y0 y1 y2 y3 y4 y5 y6 y7 y8 y9 y10 y11) (span_quotients.l1 (k + 1) y0 y1 y2 y3 y4 y5 y6 y7 y8 y9 y10 y11))
 | 0 => ⟨fun _ _ _ _ r h => by simp [span_quotients.j0] at h, fun _ _ _ _ _ _ _ _ _ r h => by simp [span_quotients.l0] at h, fun _ _ _ _ _ _ _ _ _ _ _ _ r h => by simp [span_quotients.l1] at h⟩
 | k + 1 => by
  obtain ⟨ih0, ih1, ih2⟩ := span_quotients.mono_l k
  refine ⟨?_, ?_, ?_⟩
  ·
   intro y0 y1 y2 y3
   unfold span_quotients.j0
   repeat' first
   | (with_reducible exact ih0 _ _ _ _)
   | (with_reducible exact ih1 _ _ _ _ _ _ _ _ _)
   | (with_reducible exact ih2 _ _ _ _ _ _ _ _ _ _ _ _)
   | (with_reducible exact LeO.refl _)
   | (with_reducible exact LeO.none _)
   | (with_reducible refine LeO.ite ?_ ?_)
   | (with_reducible refine LeO.bind ?_ (fun _ => ?_))
   | exact ih0 _ _ _ _
   | exact ih1 _ _ _ _ _ _ _ _ _
   | exact ih2 _ _ _ _ _ _ _ _ _ _ _ _
   | exact LeO.none _
   | refine LeO.ite ?_ ?_
   | refine LeO.bind ?_ (fun _ => ?_)
  ·
   intro y0 y1 y2 y3 y4 y5 y6 y7 y8
   unfold span_quotients.l0
   repeat' first
   | (with_reducible exact ih0 _ _ _ _)
   | (with_reducible exact ih1 _ _ _ _ _ _ _ _ _)
   | (with_reducible exact ih2 _ _ _ _ _ _ _ _ _ _ _ _)
   | (with_reducible exact LeO.refl _)
   | (with_reducible exact LeO.none _)
   | (with_reducible refine LeO.ite ?_ ?_)
   | (with_reducible refine LeO.bind ?_ (fun _ => ?_))
   | exact ih0 _ _ _ _
   | exact ih1 _ _ _ _ _ _ _ _ _
   | exact ih2 _ _ _ _ _ _ _ _ _ _ _ _
   | exact LeO.none _
   | refine LeO.ite ?_ ?_
   | refine LeO.bind ?_ (fun _ => ?_)
  ·
   intro y0 y1 y2 y3 y4 y5 y6 y7 y8 y9 y10 y11
   unfold span_quotients.l1
   repeat' first
   | (with_reducible exact ih0 _ _ _ _)
   | (with_reducible exact ih1 _ _ _ _ _ _ _ _ _)
   | (with_reducible exact ih2 _ _ _ _ _ _ _ _ _ _ _ _)
   | (with_reducible exact LeO.refl _)
   | (with_reducible exact LeO.none _)
   | (with_reducible refine LeO.ite ?_ ?_)
   | (with_reducible refine LeO.bind ?_ (fun _ => ?_))
   | exact ih0 _ _ _ _
   | exact ih1 _ _ _ _ _ _ _ _ _
   | exact ih2 _ _ _ _ _ _ _ _ _ _ _ _
   | exact LeO.none _
   | refine LeO.ite ?_ ?_
   | refine LeO.bind ?_ (fun _ => ?_)
theorem span_quotients.mono : ∀ a0 a1 a2 a3 k, LeO (span_quotients.f k a0 a1 a2 a3) (span_quotients.f (k + 1) a0 a1 a2 a3) := by
 intro a0 a1 a2 a3 k
 obtain ⟨ih0, ih1, ih2⟩ := span_quotients.mono_l k
 unfold span_quotients.f
 repeat' first
   | (with_reducible exact ih0 _ _ _ _)
   | (with_reducible exact ih1 _ _ _ _ _ _ _ _ _)
   | (with_reducible exact ih2 _ _ _ _ _ _ _ _ _ _ _ _)
   | (with_reducible exact LeO.refl _)
   | (with_reducible exact LeO.none _)
   | (with_reducible refine LeO.ite ?_ ?_)
   | (with_reducible refine LeO.bind ?_ (fun _ => ?_))
   | exact ih0 _ _ _ _
   | exact ih1 _ _ _ _ _ _ _ _ _
   | exact ih2 _ _ _ _ _ _ _ _ _ _ _ _
   | exact LeO.none _
   | refine LeO.ite ?_ ?_
   | refine LeO.bind ?_ (fun _ => ?_)
set_option maxHeartbeats 8000000 in
set_option maxRecDepth 100000 in
theorem span_quotients.calls (k : Nat) (a0_0 : Int) (a0_1 : Int) (a1_0 : Int) (a1_1 : Int) (r1 : Int) (r2 : Int) (r3 : Bool) (w : World) (h : span_quotients.f k a0_0 a0_1 a1_0 a1_1 = some (r1, r2, r3)) :
  Calls Try.prog 68 #[.agg #[.int .i64 a0_0, .int .i64 a0_1], .agg #[.int .i64 a1_0, .int .i64 a1_1]] w fun e w' => e = .returned (.tuple #[.agg #[.int .i64 r1, .int .i64 r2], .bool r3]) ∧ Below w.heap.size w w' := by
 have hu59 := Try.underlying59
 have hu94 := Try.underlying94
 have HB := Aside0.mk (Below.refl w.heap.size w)
 have H : ((span_Span_parts.f a1_0 a1_1).bind fun t140 => (if (t140.length : Int) > 0 then (if a0_0 = (-9223372036854775808) then ((span_Has.f a1_0 a1_1 (-1)).bind fun t143 => (span_quotients.j0 k t140 t143 a0_0 a0_1)) else (span_quotients.j0 k t140 false a0_0 a0_1)) else (span_quotients.j0 k t140 false a0_0 a0_1))) = some (r1, r2, r3) := h
 clear h
 replace H := Option.bind_eq_some_iff.mp H
 obtain ⟨t140, A30, H⟩ := H
 (try dsimp only at H)
 have A3 := Aside0.mk A30
 clear A30
 have HC4 := Aside0.mk H
 clear H
 go_enter Try.func68, Try.ntmps68
 go_upto_region 2 with (first | ((with_reducible refine gate_dst (N := 2) rfl ?_); refine box_event ?hg (N := 2) ?hd (cs := #[.int .i64 a0_0, .int .i64 a0_1]) (t := 59) ?hr ?_; (case hd => rfl); (case hg => rfl); (case hr => first | (go_simp; done) | (go_simp; rfl)); intro gb137 hg w5 hbox hb; have BK137 := Aside0.mk (hbox); have GW137 := geb hg HB rfl; have GE137 := geb hg HB rfl; replace HB := hst HB hb rfl; clear hb hbox hg) | ((with_reducible refine gate_dst (N := 3) rfl ?_); refine box_event ?hg (N := 3) ?hd (cs := #[.int .i64 a1_0, .int .i64 a1_1]) (t := 59) ?hr ?_; (case hd => rfl); (case hg => rfl); (case hr => first | (go_simp; done) | (go_simp; rfl)); intro gb138 hg w6 hbox hb; have BK138 := Aside0.mk (hbox); have GW138 := geb hg HB rfl; have GE138 := geb hg HB rfl; have NB137_138 := nbl hg BK137 rfl; have NB138_137 := nbr hg BK137 rfl; replace BK137 := bb BK137 hb rfl; replace HB := hst HB hb rfl; clear hb hbox hg) | ((with_reducible refine gate_dst (N := 4) rfl ?_); refine box_event ?hg (N := 4) ?hd (cs := #[.int .i64 0, .int .i64 0]) (t := 59) ?hr ?_; (case hd => rfl); (case hg => rfl); (case hr => first | (go_simp; done) | (go_simp; rfl)); intro gb139 hg w7 hbox hb; have BK139 := Aside0.mk (hbox); have GW139 := geb hg HB rfl; have GE139 := geb hg HB rfl; have NB137_139 := nbl hg BK137 rfl; have NB139_137 := nbr hg BK137 rfl; have NB138_139 := nbl hg BK138 rfl; have NB139_138 := nbr hg BK138 rfl; replace BK137 := bb BK137 hb rfl; replace BK138 := bb BK138 hb rfl; replace HB := hst HB hb rfl; clear hb hbox hg; have hnb8 := NB138_137.out; have hnc8 := NB137_138.out; have hnb9 := NB138_139.out; have hnc9 := NB139_138.out; have hcz10_0 : w7.cell? ⟨gb138, 0, none⟩ = some (.int .i64 a1_0) := (blk_cell BK138.out 0).trans rfl; have hcz10_1 : w7.cell? ⟨gb138, 1, none⟩ = some (.int .i64 a1_1) := (blk_cell BK138.out 1).trans rfl; have hfz10_0 := blk_frozen BK138.out 0; have hfz10_1 := blk_frozen BK138.out 1) | ((with_reducible refine gate_callee (f := 84) rfl ?_); refine goesL_ (some 13) rfl rfl Try.func84 (by kernel_rfl) rfl #[.agg #[.int .i64 a1_0, .int .i64 a1_1]] rfl (mapq rfl) ?_; (with_reducible refine (span_Span_parts.calls a1_0 a1_1 t140 _ A3.out).mono ?_); rintro e w11 ⟨v141, rfl, ho0, hb⟩; refine ⟨_, rfl, ?_⟩; have HO142 := Aside0.mk (Kd.R_lower (Kd.R_newB (Kd.R_newB (Kd.R_newB ho0 (g := gb137) (o := .cells #[.int .i64 a0_0, .int .i64 a0_1] 59 (0, 0)) (by (with_reducible repeat (first | refine blk_drewN ?_ _ | refine blk_drew ?_ | refine blk_alloc ?_ _)); exact BK137.out)) (g := gb138) (o := .cells #[.int .i64 a1_0, .int .i64 a1_1] 59 (0, 0)) (by (with_reducible repeat (first | refine blk_drewN ?_ _ | refine blk_drew ?_ | refine blk_alloc ?_ _)); exact BK138.out)) (g := gb139) (o := .cells #[.int .i64 0, .int .i64 0] 59 (0, 0)) (by (with_reducible repeat (first | refine blk_drewN ?_ _ | refine blk_drew ?_ | refine blk_alloc ?_ _)); exact BK139.out)) (below_size (by repeat (first | (with_reducible first | exact HB.out | apply below_alloc | apply pw_below_drewN | apply below_drew1 | refine below_set ?_ GE137.out | refine below_set ?_ GE138.out | refine below_set ?_ GE139.out) | exact HB.out)))); replace BK137 := bb BK137 hb rfl; replace BK138 := bb BK138 hb rfl; replace BK139 := bb BK139 hb rfl; replace HB := hst HB hb rfl; (try clear hb); (try clear ho0)))
 (try simp only [Act.put, List.setIfInBounds_toArray, List.set_cons_zero, List.set_cons_succ])
 go_cut [25] (fun v25 wc => ∃ (kq : Nat) (x25_3 : Bool), v25 = .bool x25_3 ∧ Aside0 (span_quotients.j0 kq t140 x25_3 a0_0 a0_1 = some (r1, r2, r3)) ∧ Aside0 (kq ≤ k) ∧ Aside0 (Kd.R k59 59 wc w.heap.size (fun k_ => k_ ≠ gb137 ∧ k_ ≠ gb138 ∧ k_ ≠ gb139) v141 t140) ∧ Aside0 (wc.heap[gb137]? = some (.cells #[.int .i64 a0_0, .int .i64 a0_1] 59 (0, 0))) ∧ Aside0 (wc.heap[gb138]? = some (.cells #[.int .i64 a1_0, .int .i64 a1_1] 59 (0, 0))) ∧ Aside0 (wc.heap[gb139]? = some (.cells #[.int .i64 0, .int .i64 0] 59 (0, 0))) ∧ Aside0 (Below w.heap.size w wc))
 case first =>
  have H := HC4.out
  clear HC4
  by_cases c12 : (t140.length : Int) > 0
  ·
   rw [if_pos c12] at H
   have c12b0 : decide (0 < (t140.length : Int)) = true := decide_eq_true c12
   have c12b1 : decide (0 < t140.length) = true := decide_eq_true (by omega)
   clear c12
   (first | rw [c12b0] | (simp only [i64_w, i32_w]; rw [c12b0]) | skip)
   by_cases c13 : a0_0 = (-9223372036854775808)
   ·
    rw [if_pos c13] at H
    have c13b0 : (a0_0 == (-9223372036854775808)) = true := beq_iff_eq.mpr c13
    have c13b1 : (a0_0 != (-9223372036854775808)) = false := bne_eq_false_iff_eq.mpr c13
    clear c13
    replace H := Option.bind_eq_some_iff.mp H
    obtain ⟨t143, A140, H⟩ := H
    (try dsimp only at H)
    have A14 := Aside0.mk A140
    clear A140
    have H' := Aside0.mk H
    clear H
    obtain ⟨Ao15, co15, eo15⟩ := Kd.R_slice HO142.out
    subst eo15
    have hnb16 := NB137_138.out
    have hnc16 := NB138_137.out
    have hnb17 := NB137_139.out
    have hnc17 := NB139_137.out
    have hcz18_0 : w11.cell? ⟨gb137, 0, none⟩ = some (.int .i64 a0_0) := bc BK137 0 rfl
    have hcz18_1 : w11.cell? ⟨gb137, 1, none⟩ = some (.int .i64 a0_1) := bc BK137 1 rfl
    have hfz18_0 := blk_frozen BK137.out 0
    have hfz18_1 := blk_frozen BK137.out 1
    have hnb19 := NB138_139.out
    have hnc19 := NB139_138.out
    have hcz20_0 : w11.cell? ⟨gb138, 0, none⟩ = some (.int .i64 a1_0) := bc BK138 0 rfl
    have hcz20_1 : w11.cell? ⟨gb138, 1, none⟩ = some (.int .i64 a1_1) := bc BK138 1 rfl
    have hfz20_0 := blk_frozen BK138.out 0
    have hfz20_1 := blk_frozen BK138.out 1
    go_wp2_with (first | (go_at_call 47; (with_reducible refine (span_Has.calls a1_0 a1_1 (-1) t143 _ A14.out).mono ?_); rintro e w21 ⟨rfl, hb⟩; replace HO142 := Aside0.mk (Kd.R_below (by (with_reducible repeat (first | apply Kd.R_alloc | apply Kd.R_drewN | apply Kd.R_drew)); exact HO142.out) hb); replace BK137 := bb BK137 hb rfl; replace BK138 := bb BK138 hb rfl; replace BK139 := bb BK139 hb rfl; replace HB := hst HB hb rfl; (try clear hb)))
    go_meet
    case rel => exact ⟨_, (t143), (by first | rfl | (simp; done) | (simp [*]; done)), H', ⟨by first | omega | exact Nat.le_refl _⟩, ⟨by (with_reducible repeat (first | apply Kd.R_alloc | apply Kd.R_drewN | apply Kd.R_drew)); exact Kd.R_mono HO142.out (fun _ hk => ⟨hk.1.1.2, ⟨hk.1.2, hk.2⟩⟩)⟩, ⟨by (with_reducible repeat (first | refine blk_drewN ?_ _ | refine blk_drew ?_ | refine blk_alloc ?_ _)); exact BK137.out⟩, ⟨by (with_reducible repeat (first | refine blk_drewN ?_ _ | refine blk_drew ?_ | refine blk_alloc ?_ _)); exact BK138.out⟩, ⟨by (with_reducible repeat (first | refine blk_drewN ?_ _ | refine blk_drew ?_ | refine blk_alloc ?_ _)); exact BK139.out⟩, ⟨by repeat (first | (with_reducible first | exact HB.out | apply below_alloc | apply pw_below_drewN | apply below_drew1 | refine below_set ?_ GE137.out | refine below_set ?_ GE138.out | refine below_set ?_ GE139.out) | exact HB.out)⟩⟩
   ·
    rw [if_neg c13] at H
    have c13b0 : (a0_0 == (-9223372036854775808)) = false := beq_eq_false_iff_ne.mpr c13
    have c13b1 : (a0_0 != (-9223372036854775808)) = true := bne_iff_ne.mpr c13
    have H' := Aside0.mk H
    clear H
    obtain ⟨Ao22, co22, eo22⟩ := Kd.R_slice HO142.out
    subst eo22
    have hnb23 := NB137_138.out
    have hnc23 := NB138_137.out
    have hnb24 := NB137_139.out
    have hnc24 := NB139_137.out
    have hcz25_0 : w11.cell? ⟨gb137, 0, none⟩ = some (.int .i64 a0_0) := bc BK137 0 rfl
    have hcz25_1 : w11.cell? ⟨gb137, 1, none⟩ = some (.int .i64 a0_1) := bc BK137 1 rfl
    have hfz25_0 := blk_frozen BK137.out 0
    have hfz25_1 := blk_frozen BK137.out 1
    go_wp2
    go_meet
    case rel => exact ⟨_, (false), (by first | rfl | (simp; done) | (simp [*]; done)), H', ⟨by first | omega | exact Nat.le_refl _⟩, ⟨by (with_reducible repeat (first | apply Kd.R_alloc | apply Kd.R_drewN | apply Kd.R_drew)); exact Kd.R_mono HO142.out (fun _ hk => ⟨hk.1.1.2, ⟨hk.1.2, hk.2⟩⟩)⟩, ⟨by (with_reducible repeat (first | refine blk_drewN ?_ _ | refine blk_drew ?_ | refine blk_alloc ?_ _)); exact BK137.out⟩, ⟨by (with_reducible repeat (first | refine blk_drewN ?_ _ | refine blk_drew ?_ | refine blk_alloc ?_ _)); exact BK138.out⟩, ⟨by (with_reducible repeat (first | refine blk_drewN ?_ _ | refine blk_drew ?_ | refine blk_alloc ?_ _)); exact BK139.out⟩, ⟨by repeat (first | (with_reducible first | exact HB.out | apply below_alloc | apply pw_below_drewN | apply below_drew1 | refine below_set ?_ GE137.out | refine below_set ?_ GE138.out | refine below_set ?_ GE139.out) | exact HB.out)⟩⟩
  ·
   rw [if_neg c12] at H
   have c12b0 : decide (0 < (t140.length : Int)) = false := decide_eq_false c12
   have c12b1 : decide (0 < t140.length) = false := decide_eq_false (by omega)
   clear c12
   (first | rw [c12b0] | (simp only [i64_w, i32_w]; rw [c12b0]) | skip)
   have H' := Aside0.mk H
   clear H
   obtain ⟨Ao26, co26, eo26⟩ := Kd.R_slice HO142.out
   subst eo26
   go_wp2
   go_meet
   case rel => exact ⟨_, (false), (by first | rfl | (simp; done) | (simp [*]; done)), H', ⟨by first | omega | exact Nat.le_refl _⟩, ⟨by (with_reducible repeat (first | apply Kd.R_alloc | apply Kd.R_drewN | apply Kd.R_drew)); exact Kd.R_mono HO142.out (fun _ hk => ⟨hk.1.1.2, ⟨hk.1.2, hk.2⟩⟩)⟩, ⟨by (with_reducible repeat (first | refine blk_drewN ?_ _ | refine blk_drew ?_ | refine blk_alloc ?_ _)); exact BK137.out⟩, ⟨by (with_reducible repeat (first | refine blk_drewN ?_ _ | refine blk_drew ?_ | refine blk_alloc ?_ _)); exact BK138.out⟩, ⟨by (with_reducible repeat (first | refine blk_drewN ?_ _ | refine blk_drew ?_ | refine blk_alloc ?_ _)); exact BK139.out⟩, ⟨by repeat (first | (with_reducible first | exact HB.out | apply below_alloc | apply pw_below_drewN | apply below_drew1 | refine below_set ?_ GE137.out | refine below_set ?_ GE138.out | refine below_set ?_ GE139.out) | exact HB.out)⟩⟩
 case rest =>
  clear HC4
  try clear c1
  try clear c2
  try clear p2
  try clear c6
  try clear c8
  try clear c9
  try clear c12
  try clear c12b0
  try clear c12b1
  try clear c13
  try clear c13b0
  try clear c13b1
  try clear c16
  try clear c17
  try clear c19
  try clear c23
  try clear c24
  try clear hcz10_0
  try clear hcz10_1
  try clear hcz18_0
  try clear hcz18_1
  try clear hcz20_0
  try clear hcz20_1
  try clear hcz25_0
  try clear hcz25_1
  try clear hfz10_0
  try clear hfz10_1
  try clear hfz18_0
  try clear hfz18_1
  try clear hfz20_0
  try clear hfz20_1
  try clear hfz25_0
  try clear hfz25_1
  obtain ⟨kq, x25_3, rfl, HA, HJ3, HO_6, BK137, BK138, BK139, HB⟩ := hcut
  cases kq with
  | zero => exact absurd HA.out (by simp [span_quotients.j0])
  | succ kj3 =>
   have H := HA.out
   clear HA
   simp only [span_quotients.j0] at H
   by_cases c27 : x25_3 = true
   ·
    subst c27
    rw [if_pos rfl] at H
    replace H := Option.bind_eq_some_iff.mp H
    obtain ⟨⟨t144, t145⟩, A280, H⟩ := H
    (try dsimp only at H)
    have A28 := Aside0.mk A280
    clear A280
    simp only [Option.some.injEq, Prod.mk.injEq] at H
    obtain ⟨rfl, rfl, rfl⟩ := H
    go_wp2_with (first | ((with_reducible refine gate_callee (f := 46) rfl ?_); refine goesL_ (some 26) rfl rfl Try.func46 (by kernel_rfl) rfl #[] rfl (mapq rfl) ?_; (with_reducible refine (span_Any.calls  t144 t145 _ A28.out).mono ?_); rintro e w29 ⟨rfl, hb⟩; refine ⟨_, rfl, ?_⟩; replace HO_6 := Aside0.mk (Kd.R_below (by (with_reducible repeat (first | apply Kd.R_alloc | apply Kd.R_drewN | apply Kd.R_drew)); exact HO_6.out) hb); replace BK137 := bb BK137 hb rfl; replace BK138 := bb BK138 hb rfl; replace BK139 := bb BK139 hb rfl; replace HB := hst HB hb rfl; (try clear hb); have hnb30 := NB139_137.out; have hnc30 := NB137_139.out; have hnb31 := NB139_138.out; have hnc31 := NB138_139.out; have hcz32_0 : w29.cell? ⟨gb139, 0, none⟩ = some (.int .i64 0) := (blk_cell BK139.out 0).trans rfl; have hcz32_1 : w29.cell? ⟨gb139, 1, none⟩ = some (.int .i64 0) := (blk_cell BK139.out 1).trans rfl; have hfz32_0 := blk_frozen BK139.out 0; have hfz32_1 := blk_frozen BK139.out 1))
    refine bodyPost_ret (results_ct rfl _ _ gb139 59 #[.int .i64 t144, .int .i64 t145] (0, 0) _ rfl (by (with_reducible repeat (first | refine blk_drewN ?_ _ | refine blk_drew ?_ | refine blk_alloc ?_ _)); refine blk_put (cs := #[.int .i64 t144, .int .i64 0]) ?_ 1 _ rfl; (with_reducible repeat (first | refine blk_drewN ?_ _ | refine blk_drew ?_ | refine blk_alloc ?_ _)); refine blk_put (cs := #[.int .i64 0, .int .i64 0]) ?_ 0 _ rfl; (with_reducible repeat (first | refine blk_drewN ?_ _ | refine blk_drew ?_ | refine blk_alloc ?_ _)); exact BK139.out) Try.underlying59 rfl (by kernel_rfl)) rfl ?_
    exact ⟨by first | rfl | (simp [errW_none, errW_some] <;> rfl) | (simp [*, errW_none, errW_some] <;> rfl), by repeat (first | (with_reducible first | exact HB.out | apply below_alloc | apply pw_below_drewN | apply below_drew1 | refine below_set ?_ GE137.out | refine below_set ?_ GE138.out | refine below_set ?_ GE139.out) | exact HB.out)⟩
   ·
    replace c27 := Bool.eq_false_iff.mpr c27
    subst c27
    rw [if_neg (show ¬ (false = true) by decide)] at H
    have H' := Aside0.mk H
    clear H
    go_wp2_with (first | ((with_reducible refine gate_dst (N := 7) rfl ?_); refine box_event ?hg (N := 7) ?hd (cs := #[.int .i64 0, .int .i64 0, .bool false, .bool false]) (t := 94) ?hr ?_; (case hd => rfl); (case hg => rfl); (case hr => first | (go_simp; done) | (go_simp; rfl)); intro gb146 hg w33 hbox hb; have NB137_146 := nbl hg BK137 rfl; have NB146_137 := nbr hg BK137 rfl; have NB138_146 := nbl hg BK138 rfl; have NB146_138 := nbr hg BK138 rfl; have NB139_146 := nbl hg BK139 rfl; have NB146_139 := nbr hg BK139 rfl; have HI146 := Aside0.mk ((show IsS94 w w33 gb146 0 0 false false from ⟨hbox, by rw [hg]; exact (below_size (by repeat (first | (with_reducible first | exact HB.out | apply below_alloc | apply pw_below_drewN | apply below_drew1 | refine below_set ?_ GE137.out | refine below_set ?_ GE138.out | refine below_set ?_ GE139.out) | exact HB.out)))⟩)); replace HO_6 := Aside0.mk (Kd.R_below (by (with_reducible repeat (first | apply Kd.R_alloc | apply Kd.R_drewN | apply Kd.R_drew)); exact HO_6.out) hb); replace BK137 := bb BK137 hb rfl; replace BK138 := bb BK138 hb rfl; replace BK139 := bb BK139 hb rfl; replace HB := hst HB hb rfl; clear hb hbox hg; obtain ⟨Ao34, co34, eo34⟩ := Kd.R_slice HO_6.out; subst eo34))
    go_loopg [29] kj3 (fun kq v29 w' => ∃ (x29_2 : Int) (x147000_2 : Int) (x147001_2 : Int) (x147002_2 : Bool) (x147003_2 : Bool), v29 = .int .i64 x29_2 ∧ Aside0 (span_quotients.l0 kq t140 (t140.length : Int) x29_2 a0_0 a0_1 x147000_2 x147001_2 x147002_2 x147003_2 = some (r1, r2, r3)) ∧ Aside0 (kq ≤ kj3) ∧ Aside0 (Kd.R k59 59 w' w.heap.size (fun k_ => k_ ≠ gb137 ∧ k_ ≠ gb138 ∧ k_ ≠ gb139) (.slice Ao34 t140.length co34) t140) ∧ Aside0 (w'.heap[gb137]? = some (.cells #[.int .i64 a0_0, .int .i64 a0_1] 59 (0, 0))) ∧ Aside0 (w'.heap[gb138]? = some (.cells #[.int .i64 a1_0, .int .i64 a1_1] 59 (0, 0))) ∧ Aside0 (w'.heap[gb139]? = some (.cells #[.int .i64 0, .int .i64 0] 59 (0, 0))) ∧ Aside0 (IsS94 w w' gb146 x147000_2 x147001_2 x147002_2 x147003_2) ∧ Aside0 (Below w.heap.size w w'))
    case atStart => exact ⟨(0), (0), (0), (false), (false), (by first | rfl | (simp; done) | (simp [*]; done)), H', ⟨Nat.le_refl _⟩, ⟨by (with_reducible repeat (first | apply Kd.R_alloc | apply Kd.R_drewN | apply Kd.R_drew)); exact HO_6.out⟩, ⟨by (with_reducible repeat (first | refine blk_drewN ?_ _ | refine blk_drew ?_ | refine blk_alloc ?_ _)); exact BK137.out⟩, ⟨by (with_reducible repeat (first | refine blk_drewN ?_ _ | refine blk_drew ?_ | refine blk_alloc ?_ _)); exact BK138.out⟩, ⟨by (with_reducible repeat (first | refine blk_drewN ?_ _ | refine blk_drew ?_ | refine blk_alloc ?_ _)); exact BK139.out⟩, ⟨by repeat (first | (with_reducible first | exact HI146.out | apply IsS94.alloc | apply IsS94.drewN | apply IsS94.drew | apply IsS94.set_0 | apply IsS94.set_1 | apply IsS94.set_2 | apply IsS94.set_3 | refine IsS94.far ?_ NB146_137.out _ | refine IsS94.far ?_ NB146_138.out _ | refine IsS94.far ?_ NB146_139.out _) | exact HI146.out)⟩, ⟨by repeat (first | (with_reducible first | exact HB.out | apply below_alloc | apply pw_below_drewN | apply below_drew1 | refine below_set ?_ (IsS94.ge HI146.out) | refine below_set ?_ GE137.out | refine below_set ?_ GE138.out | refine below_set ?_ GE139.out) | exact HB.out)⟩⟩
    case round =>
     clear H'
     try clear c1
     try clear c2
     try clear p2
     try clear c3
     try clear c4
     try clear c6
     try clear c8
     try clear c9
     try clear c12
     try clear c12b0
     try clear c12b1
     try clear c13
     try clear c13b0
     try clear c13b1
     try clear c16
     try clear c17
     try clear c19
     try clear c23
     try clear c24
     try clear c27
     try clear c30
     try clear c31
     try clear hcz10_0
     try clear hcz10_1
     try clear hcz18_0
     try clear hcz18_1
     try clear hcz20_0
     try clear hcz20_1
     try clear hcz25_0
     try clear hcz25_1
     try clear hcz32_0
     try clear hcz32_1
     try clear hfz10_0
     try clear hfz10_1
     try clear hfz18_0
     try clear hfz18_1
     try clear hfz20_0
     try clear hfz20_1
     try clear hfz25_0
     try clear hfz25_1
     try clear hfz32_0
     try clear hfz32_1
     try clear p2
     obtain ⟨x29_2, x147000_2, x147001_2, x147002_2, x147003_2, rfl, HA, HK2, HO_27, BK137, BK138, BK139, HI146, HB⟩ := hrel
     cases gk with
     | zero => exact absurd HA.out (by simp [span_quotients.l0])
     | succ k2 =>
      have H := HA.out
      clear HA
      simp only [span_quotients.l0] at H
      by_cases c35 : x29_2 < (t140.length : Int)
      ·
       rw [if_pos c35] at H
       have c35b0 : decide (x29_2 < (t140.length : Int)) = true := decide_eq_true c35
       clear c35
       by_cases c36 : 0 ≤ x29_2
       ·
        rw [if_pos c36] at H
        have c36b0 : decide (0 ≤ x29_2) = true := decide_eq_true c36
        clear c36
        by_cases c37 : x29_2 < (t140.length : Int)
        ·
         rw [if_pos c37] at H
         have c37b0 : decide (x29_2 < (t140.length : Int)) = true := decide_eq_true c37
         clear c37
         obtain ⟨y156, hy156⟩ : ∃ y_ : List Int, y_ = (([(rd_T59 t140 x29_2).f0, (rd_T59 t140 x29_2).f1] : List Int)) := ⟨_, rfl⟩
         replace H : (span_quotients.l1 k2 t140 (t140.length : Int) x29_2 y156 (y156.length : Int) 0 a0_0 a0_1 x147000_2 x147001_2 x147002_2 x147003_2) = some (r1, r2, r3) := by first | (rw [hy156]; with_reducible exact H) | (have H2_ := (Option.bind_some _ _).symm.trans H; rw [hy156]; with_reducible exact H2_) | (have H2_ := (Option.bind_some _ _).symm.trans H; with_reducible exact H2_) | with_reducible exact H | (rw [hy156]; exact H) | exact H
         have Ny156 := Aside0.mk hy156
         clear hy156
         have H' := Aside0.mk H
         clear H
         have p154 : 0 ≤ (x29_2 : Int) := of_decide_eq_true (by first | (with_reducible assumption) | assumption)
         have q154 : x29_2 < (t140.length : Int) := of_decide_eq_true (by first | (with_reducible assumption) | assumption)
         obtain ⟨ad154, e154, hx154_0, hx154_1⟩ := at_T59 (Kd.R_reads' HO_27.out).2.2 x29_2 p154 q154
         cases e154
         replace p154 := eq_true p154
         replace q154 := eq_true q154
         go_wp2_with (first | ((with_reducible refine gate_dst (N := 9) rfl ?_); refine box_event ?hg (N := 9) ?hd (cs := #[.int .i64 0, .int .i64 0]) (t := 59) ?hr ?_; (case hd => rfl); (case hg => rfl); (case hr => first | (go_simp; done) | (go_simp; rfl)); intro gb155 hg w38 hbox hb; have BK155 := Aside0.mk (hbox); have GW155 := geb hg HB rfl; have GE155 := geb hg HB rfl; have NB137_155 := nbl hg BK137 rfl; have NB155_137 := nbr hg BK137 rfl; have NB138_155 := nbl hg BK138 rfl; have NB155_138 := nbr hg BK138 rfl; have NB139_155 := nbl hg BK139 rfl; have NB155_139 := nbr hg BK139 rfl; have NB146_155 := Aside0.mk ((by rw [hg]; exact Nat.ne_of_lt (IsS94.lt (show IsS94 w _ gb146 x147000_2 x147001_2 x147002_2 x147003_2 from by repeat (first | (with_reducible first | exact HI146.out | apply IsS94.alloc | apply IsS94.drewN | apply IsS94.drew | apply IsS94.set_0 | apply IsS94.set_1 | apply IsS94.set_2 | apply IsS94.set_3 | refine IsS94.far ?_ NB146_137.out _ | refine IsS94.far ?_ NB146_138.out _ | refine IsS94.far ?_ NB146_139.out _) | exact HI146.out))) : gb146 ≠ gb155)); have NB155_146 := Aside0.mk ((by rw [hg]; exact Nat.ne_of_gt (IsS94.lt (show IsS94 w _ gb146 x147000_2 x147001_2 x147002_2 x147003_2 from by repeat (first | (with_reducible first | exact HI146.out | apply IsS94.alloc | apply IsS94.drewN | apply IsS94.drew | apply IsS94.set_0 | apply IsS94.set_1 | apply IsS94.set_2 | apply IsS94.set_3 | refine IsS94.far ?_ NB146_137.out _ | refine IsS94.far ?_ NB146_138.out _ | refine IsS94.far ?_ NB146_139.out _) | exact HI146.out))) : gb155 ≠ gb146)); replace HO_27 := Aside0.mk (Kd.R_below (Kd.R_elderB (by (with_reducible repeat (first | apply Kd.R_alloc | apply Kd.R_drewN | apply Kd.R_drew)); exact HO_27.out) gb155 (Nat.le_of_eq hg.symm)) hb); replace BK137 := bb BK137 hb rfl; replace BK138 := bb BK138 hb rfl; replace BK139 := bb BK139 hb rfl; replace HB := hst HB hb rfl; replace HI146 := Aside0.mk (IsS94.below (by repeat (first | (with_reducible first | exact HI146.out | apply IsS94.alloc | apply IsS94.drewN | apply IsS94.drew | apply IsS94.set_0 | apply IsS94.set_1 | apply IsS94.set_2 | apply IsS94.set_3 | refine IsS94.far ?_ NB146_137.out _ | refine IsS94.far ?_ NB146_138.out _ | refine IsS94.far ?_ NB146_139.out _) | exact HI146.out)) hb); clear hb hbox hg; have hnb39 := NB155_137.out; have hnc39 := NB137_155.out; have hnb40 := NB155_138.out; have hnc40 := NB138_155.out; have hnb41 := NB155_139.out; have hnc41 := NB139_155.out; have hnb42 := NB155_146.out; have hnc42 := NB146_155.out; have hcz43_0 : w38.cell? ⟨gb155, 0, none⟩ = some (.int .i64 0) := (blk_cell BK155.out 0).trans rfl; have hcz43_1 : w38.cell? ⟨gb155, 1, none⟩ = some (.int .i64 0) := (blk_cell BK155.out 1).trans rfl; have hfz43_0 := blk_frozen BK155.out 0; have hfz43_1 := blk_frozen BK155.out 1) | ((with_reducible refine gate_dst (N := 37) rfl ?_); refine Kd.R_lit (Kd.int .i64) _ 2 ?hg (N := 37) ?hd (xs := ([(rd_T59 t140 x29_2).f0, (rd_T59 t140 x29_2).f1] : List Int)) (inner := [.int .i64 ((rd_T59 t140 x29_2).f0), .int .i64 ((rd_T59 t140 x29_2).f1)]) (ok := fun _ => True) (okp := fun _ => True) ?hr ?hp (fun _ hk => hk) trivial (Below.refl _ _) (Nat.le_refl _) (by simp) ?_; (case hd => rfl); (case hg => rfl); (case hr => first | (go_simp; done) | (go_simp; rfl)); (case hp => exact (Reps.one (show Kd.M (Kd.int .i64) _ _ _ ((rd_T59 t140 x29_2).f0) [.int .i64 ((rd_T59 t140 x29_2).f0)] from rfl) (Reps.one (show Kd.M (Kd.int .i64) _ _ _ ((rd_T59 t140 x29_2).f1) [.int .i64 ((rd_T59 t140 x29_2).f1)] from rfl) (Reps.none _ _)))); intro v157 w44 ho45 hb hg_ hnew_; clear hg_ hnew_; (first | rw [← Ny156.out] at ho45 | (simp only [Int.reduceToNat] at ho45; rw [← Ny156.out] at ho45)); have HO158 := Aside0.mk (Kd.R_lower ho45 (below_size (by repeat (first | (with_reducible first | exact HB.out | apply below_alloc | apply pw_below_drewN | apply below_drew1 | refine below_set ?_ (IsS94.ge HI146.out) | refine below_set ?_ GE137.out | refine below_set ?_ GE138.out | refine below_set ?_ GE139.out | refine below_set ?_ GE155.out) | exact HB.out)))); replace HO_27 := Aside0.mk (Kd.R_below (by (with_reducible repeat (first | apply Kd.R_alloc | apply Kd.R_drewN | apply Kd.R_drew)); exact (Kd.R_mono (Kd.R_far (p := ⟨gb155, 1, none⟩) (Kd.R_far (p := ⟨gb155, 0, none⟩) (Kd.R_mono HO_27.out (fun k_ hk => (⟨hk, hk.2⟩ : _ ∧ k_ ≠ gb155))) (fun _ hk => hk.2) (.int .i64 ((rd_T59 t140 x29_2).f0))) (fun _ hk => hk.2) (.int .i64 ((rd_T59 t140 x29_2).f1))) (fun _ h_ => h_.1))) hb); replace BK137 := Aside0.mk (blk_below (g := gb137) (o := .cells #[.int .i64 a0_0, .int .i64 a0_1] 59 (0, 0)) (by (with_reducible repeat (first | refine blk_drewN ?_ _ | refine blk_drew ?_ | refine blk_alloc ?_ _)); refine blk_far ?_ NB137_155.out _; (with_reducible repeat (first | refine blk_drewN ?_ _ | refine blk_drew ?_ | refine blk_alloc ?_ _)); refine blk_far ?_ NB137_155.out _; (with_reducible repeat (first | refine blk_drewN ?_ _ | refine blk_drew ?_ | refine blk_alloc ?_ _)); exact BK137.out) hb); replace BK138 := Aside0.mk (blk_below (g := gb138) (o := .cells #[.int .i64 a1_0, .int .i64 a1_1] 59 (0, 0)) (by (with_reducible repeat (first | refine blk_drewN ?_ _ | refine blk_drew ?_ | refine blk_alloc ?_ _)); refine blk_far ?_ NB138_155.out _; (with_reducible repeat (first | refine blk_drewN ?_ _ | refine blk_drew ?_ | refine blk_alloc ?_ _)); refine blk_far ?_ NB138_155.out _; (with_reducible repeat (first | refine blk_drewN ?_ _ | refine blk_drew ?_ | refine blk_alloc ?_ _)); exact BK138.out) hb); replace BK139 := Aside0.mk (blk_below (g := gb139) (o := .cells #[.int .i64 0, .int .i64 0] 59 (0, 0)) (by (with_reducible repeat (first | refine blk_drewN ?_ _ | refine blk_drew ?_ | refine blk_alloc ?_ _)); refine blk_far ?_ NB139_155.out _; (with_reducible repeat (first | refine blk_drewN ?_ _ | refine blk_drew ?_ | refine blk_alloc ?_ _)); refine blk_far ?_ NB139_155.out _; (with_reducible repeat (first | refine blk_drewN ?_ _ | refine blk_drew ?_ | refine blk_alloc ?_ _)); exact BK139.out) hb); replace BK155 := Aside0.mk (blk_below (g := gb155) (o := .cells #[.int .i64 ((rd_T59 t140 x29_2).f0), .int .i64 ((rd_T59 t140 x29_2).f1)] 59 (0, 0)) (by (with_reducible repeat (first | refine blk_drewN ?_ _ | refine blk_drew ?_ | refine blk_alloc ?_ _)); refine blk_put (cs := #[.int .i64 ((rd_T59 t140 x29_2).f0), .int .i64 0]) ?_ 1 _ rfl; (with_reducible repeat (first | refine blk_drewN ?_ _ | refine blk_drew ?_ | refine blk_alloc ?_ _)); refine blk_put (cs := #[.int .i64 0, .int .i64 0]) ?_ 0 _ rfl; (with_reducible repeat (first | refine blk_drewN ?_ _ | refine blk_drew ?_ | refine blk_alloc ?_ _)); exact BK155.out) hb); replace HB := Aside0.mk (below_step (by repeat (first | (with_reducible first | exact HB.out | apply below_alloc | apply pw_below_drewN | apply below_drew1 | refine below_set ?_ (IsS94.ge HI146.out) | refine below_set ?_ GE137.out | refine below_set ?_ GE138.out | refine below_set ?_ GE139.out | refine below_set ?_ GE155.out) | exact HB.out)) hb); replace HI146 := Aside0.mk (IsS94.below (show IsS94 w ((w38.setCell ⟨gb155, 0, none⟩ (.int .i64 ((rd_T59 t140 x29_2).f0))).setCell ⟨gb155, 1, none⟩ (.int .i64 ((rd_T59 t140 x29_2).f1))) gb146 x147000_2 x147001_2 x147002_2 x147003_2 from by repeat (first | (with_reducible first | exact HI146.out | apply IsS94.alloc | apply IsS94.drewN | apply IsS94.drew | apply IsS94.set_0 | apply IsS94.set_1 | apply IsS94.set_2 | apply IsS94.set_3 | refine IsS94.far ?_ NB146_137.out _ | refine IsS94.far ?_ NB146_138.out _ | refine IsS94.far ?_ NB146_139.out _ | refine IsS94.far ?_ NB146_155.out _) | exact HI146.out)) hb); clear hb ho45; obtain ⟨Ao46, co46, eo46⟩ := Kd.R_slice HO158.out; subst eo46))
         go_loopg [39] k2 (fun kq v39 w' => ∃ (x39_3 : Int) (x147000_3 : Int) (x147001_3 : Int) (x147002_3 : Bool) (x147003_3 : Bool), v39 = .int .i64 x39_3 ∧ Aside0 (span_quotients.l1 kq t140 (t140.length : Int) x29_2 y156 (y156.length : Int) x39_3 a0_0 a0_1 x147000_3 x147001_3 x147002_3 x147003_3 = some (r1, r2, r3)) ∧ Aside0 (kq ≤ k2) ∧ Aside0 (Kd.R k59 59 w' w.heap.size (fun k_ => k_ ≠ gb137 ∧ k_ ≠ gb138 ∧ k_ ≠ gb139 ∧ k_ ≠ gb155) (.slice (some ad154) t140.length co34) t140) ∧ Aside0 (Kd.R (Kd.int .i64) 2 w' w.heap.size (fun _ => True) (.slice Ao46 y156.length co46) y156) ∧ Aside0 (w'.heap[gb137]? = some (.cells #[.int .i64 a0_0, .int .i64 a0_1] 59 (0, 0))) ∧ Aside0 (w'.heap[gb138]? = some (.cells #[.int .i64 a1_0, .int .i64 a1_1] 59 (0, 0))) ∧ Aside0 (w'.heap[gb139]? = some (.cells #[.int .i64 0, .int .i64 0] 59 (0, 0))) ∧ Aside0 (w'.heap[gb155]? = some (.cells #[.int .i64 ((rd_T59 t140 x29_2).f0), .int .i64 ((rd_T59 t140 x29_2).f1)] 59 (0, 0))) ∧ Aside0 (IsS94 w w' gb146 x147000_3 x147001_3 x147002_3 x147003_3) ∧ Aside0 (Below w.heap.size w w'))
         case atStart => exact ⟨(0), (x147000_2), (x147001_2), (x147002_2), (x147003_2), (by first | rfl | (simp; done) | (simp [*]; done)), H', ⟨Nat.le_refl _⟩, ⟨by (with_reducible repeat (first | apply Kd.R_alloc | apply Kd.R_drewN | apply Kd.R_drew)); exact Kd.R_mono HO_27.out (fun _ hk => ⟨hk.1.1, ⟨hk.1.2.1, ⟨hk.1.2.2, hk.2⟩⟩⟩)⟩, ⟨by (with_reducible repeat (first | apply Kd.R_alloc | apply Kd.R_drewN | apply Kd.R_drew)); exact HO158.out⟩, ⟨by (with_reducible repeat (first | refine blk_drewN ?_ _ | refine blk_drew ?_ | refine blk_alloc ?_ _)); exact BK137.out⟩, ⟨by (with_reducible repeat (first | refine blk_drewN ?_ _ | refine blk_drew ?_ | refine blk_alloc ?_ _)); exact BK138.out⟩, ⟨by (with_reducible repeat (first | refine blk_drewN ?_ _ | refine blk_drew ?_ | refine blk_alloc ?_ _)); exact BK139.out⟩, ⟨by (with_reducible repeat (first | refine blk_drewN ?_ _ | refine blk_drew ?_ | refine blk_alloc ?_ _)); exact BK155.out⟩, ⟨by repeat (first | (with_reducible first | exact HI146.out | apply IsS94.alloc | apply IsS94.drewN | apply IsS94.drew | apply IsS94.set_0 | apply IsS94.set_1 | apply IsS94.set_2 | apply IsS94.set_3 | refine IsS94.far ?_ NB146_137.out _ | refine IsS94.far ?_ NB146_138.out _ | refine IsS94.far ?_ NB146_139.out _ | refine IsS94.far ?_ NB146_155.out _) | exact HI146.out)⟩, ⟨by repeat (first | (with_reducible first | exact HB.out | apply below_alloc | apply pw_below_drewN | apply below_drew1 | refine below_set ?_ (IsS94.ge HI146.out) | refine below_set ?_ GE137.out | refine below_set ?_ GE138.out | refine below_set ?_ GE139.out | refine below_set ?_ GE155.out) | exact HB.out)⟩⟩
         case round =>
          clear H'
          try clear c1
          try clear p1
          try clear q1
          try clear hx1
          try clear c2
          try clear p2
          try clear c3
          try clear c4
          try clear c6
          try clear c8
          try clear c9
          try clear c12
          try clear c12b0
          try clear c12b1
          try clear c13
          try clear c13b0
          try clear c13b1
          try clear p15
          try clear q15
          try clear hx15
          try clear c16
          try clear c17
          try clear c19
          try clear c23
          try clear c24
          try clear c27
          try clear c30
          try clear c31
          try clear c35
          try clear c35b0
          try clear c36
          try clear c36b0
          try clear c37
          try clear c37b0
          try clear c39
          try clear c40
          try clear c41
          try clear c42
          try clear c46
          try clear hcz10_0
          try clear hcz10_1
          try clear hcz18_0
          try clear hcz18_1
          try clear hcz20_0
          try clear hcz20_1
          try clear hcz25_0
          try clear hcz25_1
          try clear hcz32_0
          try clear hcz32_1
          try clear hcz43_0
          try clear hcz43_1
          try clear hfz10_0
          try clear hfz10_1
          try clear hfz18_0
          try clear hfz18_1
          try clear hfz20_0
          try clear hfz20_1
          try clear hfz25_0
          try clear hfz25_1
          try clear hfz32_0
          try clear hfz32_1
          try clear hfz43_0
          try clear hfz43_1
          try clear hx154_0
          try clear hx154_1
          try clear p154
          try clear p2
          try clear q154
          obtain ⟨x39_3, x147000_3, x147001_3, x147002_3, x147003_3, rfl, HA, HK3, HO_27, HO_37, BK137, BK138, BK139, BK155, HI146, HB⟩ := hrel
          cases gk with
          | zero => exact absurd HA.out (by simp [span_quotients.l1])
          | succ k3 =>
           have H := HA.out
           clear HA
           simp only [span_quotients.l1] at H
           by_cases c47 : x39_3 < (y156.length : Int)
           ·
            rw [if_pos c47] at H
            have c47b0 : decide (x39_3 < (y156.length : Int)) = true := decide_eq_true c47
            clear c47
            by_cases c48 : 0 ≤ x39_3
            ·
             rw [if_pos c48] at H
             have c48b0 : decide (0 ≤ x39_3) = true := decide_eq_true c48
             clear c48
             by_cases c49 : x39_3 < (y156.length : Int)
             ·
              rw [if_pos c49] at H
              have c49b0 : decide (x39_3 < (y156.length : Int)) = true := decide_eq_true c49
              clear c49
              by_cases c50 : (rd y156 x39_3) = 0
              ·
               rw [if_pos c50] at H
               exact absurd H (by simp)
              ·
               rw [if_neg c50] at H
               have c50b0 : ((rd y156 x39_3) == 0) = false := beq_eq_false_iff_ne.mpr c50
               have c50b1 : ((rd y156 x39_3) != 0) = true := bne_iff_ne.mpr c50
               replace H := Option.bind_eq_some_iff.mp H
               obtain ⟨⟨t160, t161, t162, t163⟩, A510, H⟩ := H
               (try dsimp only at H)
               have A51 := Aside0.mk A510
               clear A510
               replace H := Option.bind_eq_some_iff.mp H
               obtain ⟨⟨t164, t165, t166, t167⟩, A520, H⟩ := H
               (try dsimp only at H)
               have A52 := Aside0.mk A520
               clear A520
               have H' := Aside0.mk H
               clear H
               have p159 : 0 ≤ (x39_3 : Int) := of_decide_eq_true (by first | (with_reducible assumption) | assumption)
               have q159 : x39_3 < (y156.length : Int) := of_decide_eq_true (by first | (with_reducible assumption) | assumption)
               obtain ⟨ad159, e159, hx159_0⟩ := Kd.at_int (Kd.R_reads' HO_37.out).2.2 x39_3 p159 q159
               cases e159
               replace p159 := eq_true p159
               replace q159 := eq_true q159
               have hnb53 := NB137_138.out
               have hnc53 := NB138_137.out
               have hnb54 := NB137_139.out
               have hnc54 := NB139_137.out
               have hnb55 := NB137_155.out
               have hnc55 := NB155_137.out
               have hnb56 := NB137_146.out
               have hnc56 := NB146_137.out
               have hcz57_0 : wr.cell? ⟨gb137, 0, none⟩ = some (.int .i64 a0_0) := bc BK137 0 rfl
               have hcz57_1 : wr.cell? ⟨gb137, 1, none⟩ = some (.int .i64 a0_1) := bc BK137 1 rfl
               have hfz57_0 := blk_frozen BK137.out 0
               have hfz57_1 := blk_frozen BK137.out 1
               go_wp2_with (first | ((with_reducible refine gate_callee (f := 64) rfl ?_); refine goesL_ (some 47) rfl rfl Try.func64 (by kernel_rfl) rfl #[.pointer (some ⟨gb146, 0, none⟩), .int .i64 (wrap64 (Int.tdiv a0_0 (rd y156 x39_3))), .bool true] rfl (mapq rfl) ?_; (with_reducible refine (span_ends_put.calls gb146 x147000_3 x147001_3 x147002_3 x147003_3 (wrap64 (Int.tdiv a0_0 (rd y156 x39_3))) true t160 t161 t162 t163 w _ ?side1 ?side2 A51.out).mono ?_); (case side1 => repeat (first | (with_reducible first | exact HI146.out | apply IsS94.alloc | apply IsS94.drewN | apply IsS94.drew | apply IsS94.set_0 | apply IsS94.set_1 | apply IsS94.set_2 | apply IsS94.set_3 | refine IsS94.far ?_ NB146_137.out _ | refine IsS94.far ?_ NB146_138.out _ | refine IsS94.far ?_ NB146_139.out _ | refine IsS94.far ?_ NB146_155.out _) | exact HI146.out)); (case side2 => repeat (first | (with_reducible first | exact HB.out | apply below_alloc | apply pw_below_drewN | apply below_drew1 | refine below_set ?_ (IsS94.ge HI146.out) | refine below_set ?_ GE137.out | refine below_set ?_ GE138.out | refine below_set ?_ GE139.out | refine below_set ?_ GE155.out) | exact HB.out)); rintro e w58 ⟨rfl, hi, hb, hk⟩; refine ⟨_, rfl, ?_⟩; replace HO_27 := Aside0.mk (Kd.R_mono (Kd.R_keep (IsS94.apart (show IsS94 w _ gb146 x147000_3 x147001_3 x147002_3 x147003_3 from by repeat (first | (with_reducible first | exact HI146.out | apply IsS94.alloc | apply IsS94.drewN | apply IsS94.drew | apply IsS94.set_0 | apply IsS94.set_1 | apply IsS94.set_2 | apply IsS94.set_3 | refine IsS94.far ?_ NB146_137.out _ | refine IsS94.far ?_ NB146_138.out _ | refine IsS94.far ?_ NB146_139.out _ | refine IsS94.far ?_ NB146_155.out _) | exact HI146.out)) (by (with_reducible repeat (first | apply Kd.R_alloc | apply Kd.R_drewN | apply Kd.R_drew)); exact HO_27.out) (by decide)) hk (fun _ h => h.2)) (fun _ h => h.1)); replace HO_37 := Aside0.mk (Kd.R_mono (Kd.R_keep (IsS94.apart (show IsS94 w _ gb146 x147000_3 x147001_3 x147002_3 x147003_3 from by repeat (first | (with_reducible first | exact HI146.out | apply IsS94.alloc | apply IsS94.drewN | apply IsS94.drew | apply IsS94.set_0 | apply IsS94.set_1 | apply IsS94.set_2 | apply IsS94.set_3 | refine IsS94.far ?_ NB146_137.out _ | refine IsS94.far ?_ NB146_138.out _ | refine IsS94.far ?_ NB146_139.out _ | refine IsS94.far ?_ NB146_155.out _) | exact HI146.out)) (by (with_reducible repeat (first | apply Kd.R_alloc | apply Kd.R_drewN | apply Kd.R_drew)); exact HO_37.out) (by decide)) hk (fun _ h => h.2)) (fun _ h => h.1)); replace BK137 := Aside0.mk (KeepBut.blk hk (g' := gb137) (o := .cells #[.int .i64 a0_0, .int .i64 a0_1] 59 (0, 0)) (by (with_reducible repeat (first | refine blk_drewN ?_ _ | refine blk_drew ?_ | refine blk_alloc ?_ _)); exact BK137.out) NB137_146.out (by simp)); replace BK138 := Aside0.mk (KeepBut.blk hk (g' := gb138) (o := .cells #[.int .i64 a1_0, .int .i64 a1_1] 59 (0, 0)) (by (with_reducible repeat (first | refine blk_drewN ?_ _ | refine blk_drew ?_ | refine blk_alloc ?_ _)); exact BK138.out) NB138_146.out (by simp)); replace BK139 := Aside0.mk (KeepBut.blk hk (g' := gb139) (o := .cells #[.int .i64 0, .int .i64 0] 59 (0, 0)) (by (with_reducible repeat (first | refine blk_drewN ?_ _ | refine blk_drew ?_ | refine blk_alloc ?_ _)); exact BK139.out) NB139_146.out (by simp)); replace BK155 := Aside0.mk (KeepBut.blk hk (g' := gb155) (o := .cells #[.int .i64 ((rd_T59 t140 x29_2).f0), .int .i64 ((rd_T59 t140 x29_2).f1)] 59 (0, 0)) (by (with_reducible repeat (first | refine blk_drewN ?_ _ | refine blk_drew ?_ | refine blk_alloc ?_ _)); exact BK155.out) NB155_146.out (by simp)); replace HB := Aside0.mk (hb); replace HI146 := Aside0.mk (hi); (try clear hb); (try clear hb2); (try clear hk); (try clear hi); have hcz59_0 : w58.cell? ⟨gb137, 0, none⟩ = some (.int .i64 a0_0) := (blk_cell BK137.out 0).trans rfl; have hcz59_1 : w58.cell? ⟨gb137, 1, none⟩ = some (.int .i64 a0_1) := (blk_cell BK137.out 1).trans rfl; have hfz59_0 := blk_frozen BK137.out 0; have hfz59_1 := blk_frozen BK137.out 1) | ((with_reducible refine gate_callee (f := 64) rfl ?_); refine goesL_ (some 52) rfl rfl Try.func64 (by kernel_rfl) rfl #[.pointer (some ⟨gb146, 0, none⟩), .int .i64 (wrap64 (Int.tdiv a0_1 (rd y156 x39_3))), .bool true] rfl (mapq rfl) ?_; (with_reducible refine (span_ends_put.calls gb146 t160 t161 t162 t163 (wrap64 (Int.tdiv a0_1 (rd y156 x39_3))) true t164 t165 t166 t167 w _ ?side1 ?side2 A52.out).mono ?_); (case side1 => repeat (first | (with_reducible first | exact HI146.out | apply IsS94.alloc | apply IsS94.drewN | apply IsS94.drew | apply IsS94.set_0 | apply IsS94.set_1 | apply IsS94.set_2 | apply IsS94.set_3 | refine IsS94.far ?_ NB146_137.out _ | refine IsS94.far ?_ NB146_138.out _ | refine IsS94.far ?_ NB146_139.out _ | refine IsS94.far ?_ NB146_155.out _) | exact HI146.out)); (case side2 => repeat (first | (with_reducible first | exact HB.out | apply below_alloc | apply pw_below_drewN | apply below_drew1 | refine below_set ?_ (IsS94.ge HI146.out) | refine below_set ?_ GE137.out | refine below_set ?_ GE138.out | refine below_set ?_ GE139.out | refine below_set ?_ GE155.out) | exact HB.out)); rintro e w60 ⟨rfl, hi, hb, hk⟩; refine ⟨_, rfl, ?_⟩; replace HO_27 := Aside0.mk (Kd.R_mono (Kd.R_keep (IsS94.apart (show IsS94 w _ gb146 t160 t161 t162 t163 from by repeat (first | (with_reducible first | exact HI146.out | apply IsS94.alloc | apply IsS94.drewN | apply IsS94.drew | apply IsS94.set_0 | apply IsS94.set_1 | apply IsS94.set_2 | apply IsS94.set_3 | refine IsS94.far ?_ NB146_137.out _ | refine IsS94.far ?_ NB146_138.out _ | refine IsS94.far ?_ NB146_139.out _ | refine IsS94.far ?_ NB146_155.out _) | exact HI146.out)) (by (with_reducible repeat (first | apply Kd.R_alloc | apply Kd.R_drewN | apply Kd.R_drew)); exact HO_27.out) (by decide)) hk (fun _ h => h.2)) (fun _ h => h.1)); replace HO_37 := Aside0.mk (Kd.R_mono (Kd.R_keep (IsS94.apart (show IsS94 w _ gb146 t160 t161 t162 t163 from by repeat (first | (with_reducible first | exact HI146.out | apply IsS94.alloc | apply IsS94.drewN | apply IsS94.drew | apply IsS94.set_0 | apply IsS94.set_1 | apply IsS94.set_2 | apply IsS94.set_3 | refine IsS94.far ?_ NB146_137.out _ | refine IsS94.far ?_ NB146_138.out _ | refine IsS94.far ?_ NB146_139.out _ | refine IsS94.far ?_ NB146_155.out _) | exact HI146.out)) (by (with_reducible repeat (first | apply Kd.R_alloc | apply Kd.R_drewN | apply Kd.R_drew)); exact HO_37.out) (by decide)) hk (fun _ h => h.2)) (fun _ h => h.1)); replace BK137 := Aside0.mk (KeepBut.blk hk (g' := gb137) (o := .cells #[.int .i64 a0_0, .int .i64 a0_1] 59 (0, 0)) (by (with_reducible repeat (first | refine blk_drewN ?_ _ | refine blk_drew ?_ | refine blk_alloc ?_ _)); exact BK137.out) NB137_146.out (by simp)); replace BK138 := Aside0.mk (KeepBut.blk hk (g' := gb138) (o := .cells #[.int .i64 a1_0, .int .i64 a1_1] 59 (0, 0)) (by (with_reducible repeat (first | refine blk_drewN ?_ _ | refine blk_drew ?_ | refine blk_alloc ?_ _)); exact BK138.out) NB138_146.out (by simp)); replace BK139 := Aside0.mk (KeepBut.blk hk (g' := gb139) (o := .cells #[.int .i64 0, .int .i64 0] 59 (0, 0)) (by (with_reducible repeat (first | refine blk_drewN ?_ _ | refine blk_drew ?_ | refine blk_alloc ?_ _)); exact BK139.out) NB139_146.out (by simp)); replace BK155 := Aside0.mk (KeepBut.blk hk (g' := gb155) (o := .cells #[.int .i64 ((rd_T59 t140 x29_2).f0), .int .i64 ((rd_T59 t140 x29_2).f1)] 59 (0, 0)) (by (with_reducible repeat (first | refine blk_drewN ?_ _ | refine blk_drew ?_ | refine blk_alloc ?_ _)); exact BK155.out) NB155_146.out (by simp)); replace HB := Aside0.mk (hb); replace HI146 := Aside0.mk (hi); (try clear hb); (try clear hb2); (try clear hk); (try clear hi)))
               go_roundg k3
               case measure => have := HJ3.out; have := HK2.out; have := HK3.out; omega
               case rel => exact ⟨(wrap64 (x39_3 + 1)), (t164), (t165), (t166), (t167), (by first | rfl | (simp; done) | (simp [*]; done)), H', ⟨by have := HJ3.out; have := HK2.out; have := HK3.out; omega⟩, ⟨by (with_reducible repeat (first | apply Kd.R_alloc | apply Kd.R_drewN | apply Kd.R_drew)); exact HO_27.out⟩, ⟨by (with_reducible repeat (first | apply Kd.R_alloc | apply Kd.R_drewN | apply Kd.R_drew)); exact HO_37.out⟩, ⟨by (with_reducible repeat (first | refine blk_drewN ?_ _ | refine blk_drew ?_ | refine blk_alloc ?_ _)); exact BK137.out⟩, ⟨by (with_reducible repeat (first | refine blk_drewN ?_ _ | refine blk_drew ?_ | refine blk_alloc ?_ _)); exact BK138.out⟩, ⟨by (with_reducible repeat (first | refine blk_drewN ?_ _ | refine blk_drew ?_ | refine blk_alloc ?_ _)); exact BK139.out⟩, ⟨by (with_reducible repeat (first | refine blk_drewN ?_ _ | refine blk_drew ?_ | refine blk_alloc ?_ _)); exact BK155.out⟩, ⟨by repeat (first | (with_reducible first | exact HI146.out | apply IsS94.alloc | apply IsS94.drewN | apply IsS94.drew | apply IsS94.set_0 | apply IsS94.set_1 | apply IsS94.set_2 | apply IsS94.set_3 | refine IsS94.far ?_ NB146_137.out _ | refine IsS94.far ?_ NB146_138.out _ | refine IsS94.far ?_ NB146_139.out _ | refine IsS94.far ?_ NB146_155.out _) | exact HI146.out)⟩, ⟨by repeat (first | (with_reducible first | exact HB.out | apply below_alloc | apply pw_below_drewN | apply below_drew1 | refine below_set ?_ (IsS94.ge HI146.out) | refine below_set ?_ GE137.out | refine below_set ?_ GE138.out | refine below_set ?_ GE139.out | refine below_set ?_ GE155.out) | exact HB.out)⟩⟩
             ·
              rw [if_neg c49] at H
              exact absurd H (by simp)
            ·
             rw [if_neg c48] at H
             exact absurd H (by simp)
           ·
            rw [if_neg c47] at H
            have c47b0 : decide (x39_3 < (y156.length : Int)) = false := decide_eq_false c47
            clear c47
            have H' := Aside0.mk H
            clear H
            go_wp2
            go_roundg k3
            case measure => have := HJ3.out; have := HK2.out; have := HK3.out; omega
            case rel => exact ⟨(wrap64 (x29_2 + 1)), (x147000_3), (x147001_3), (x147002_3), (x147003_3), (by first | rfl | (simp; done) | (simp [*]; done)), H', ⟨by have := HJ3.out; have := HK2.out; have := HK3.out; omega⟩, ⟨by (with_reducible repeat (first | apply Kd.R_alloc | apply Kd.R_drewN | apply Kd.R_drew)); exact Kd.R_mono HO_27.out (fun _ hk => ⟨hk.1, ⟨hk.2.1, hk.2.2.1⟩⟩)⟩, ⟨by (with_reducible repeat (first | refine blk_drewN ?_ _ | refine blk_drew ?_ | refine blk_alloc ?_ _)); exact BK137.out⟩, ⟨by (with_reducible repeat (first | refine blk_drewN ?_ _ | refine blk_drew ?_ | refine blk_alloc ?_ _)); exact BK138.out⟩, ⟨by (with_reducible repeat (first | refine blk_drewN ?_ _ | refine blk_drew ?_ | refine blk_alloc ?_ _)); exact BK139.out⟩, ⟨by repeat (first | (with_reducible first | exact HI146.out | apply IsS94.alloc | apply IsS94.drewN | apply IsS94.drew | apply IsS94.set_0 | apply IsS94.set_1 | apply IsS94.set_2 | apply IsS94.set_3 | refine IsS94.far ?_ NB146_137.out _ | refine IsS94.far ?_ NB146_138.out _ | refine IsS94.far ?_ NB146_139.out _ | refine IsS94.far ?_ NB146_155.out _) | exact HI146.out)⟩, ⟨by repeat (first | (with_reducible first | exact HB.out | apply below_alloc | apply pw_below_drewN | apply below_drew1 | refine below_set ?_ (IsS94.ge HI146.out) | refine below_set ?_ GE137.out | refine below_set ?_ GE138.out | refine below_set ?_ GE139.out | refine below_set ?_ GE155.out) | exact HB.out)⟩⟩
        ·
         rw [if_neg c37] at H
         exact absurd H (by simp)
       ·
        rw [if_neg c36] at H
        exact absurd H (by simp)
      ·
       rw [if_neg c35] at H
       have c35b0 : decide (x29_2 < (t140.length : Int)) = false := decide_eq_false c35
       clear c35
       replace H := Option.bind_eq_some_iff.mp H
       obtain ⟨⟨t147, t148, t149, t150, t151, t152, t153⟩, A610, H⟩ := H
       (try dsimp only at H)
       have A61 := Aside0.mk A610
       clear A610
       simp only [Option.some.injEq, Prod.mk.injEq] at H
       obtain ⟨rfl, rfl, rfl⟩ := H
       go_wp2_with (first | ((with_reducible refine gate_callee (f := 74) rfl ?_); refine goesL_ (some 55) rfl rfl Try.func74 (by kernel_rfl) rfl #[.pointer (some ⟨gb146, 0, none⟩)] rfl (mapq rfl) ?_; (with_reducible refine (span_ends_all.calls gb146 x147000_2 x147001_2 x147002_2 x147003_2 t147 t148 t149 t150 t151 t152 t153 w _ ?side1 ?side2 A61.out).mono ?_); (case side1 => repeat (first | (with_reducible first | exact HI146.out | apply IsS94.alloc | apply IsS94.drewN | apply IsS94.drew | apply IsS94.set_0 | apply IsS94.set_1 | apply IsS94.set_2 | apply IsS94.set_3 | refine IsS94.far ?_ NB146_137.out _ | refine IsS94.far ?_ NB146_138.out _ | refine IsS94.far ?_ NB146_139.out _) | exact HI146.out)); (case side2 => repeat (first | (with_reducible first | exact HB.out | apply below_alloc | apply pw_below_drewN | apply below_drew1 | refine below_set ?_ (IsS94.ge HI146.out) | refine below_set ?_ GE137.out | refine below_set ?_ GE138.out | refine below_set ?_ GE139.out) | exact HB.out)); rintro e w62 ⟨rfl, hi, hb, hk⟩; refine ⟨_, rfl, ?_⟩; replace HO_27 := Aside0.mk (Kd.R_mono (Kd.R_keep (IsS94.apart (show IsS94 w _ gb146 x147000_2 x147001_2 x147002_2 x147003_2 from by repeat (first | (with_reducible first | exact HI146.out | apply IsS94.alloc | apply IsS94.drewN | apply IsS94.drew | apply IsS94.set_0 | apply IsS94.set_1 | apply IsS94.set_2 | apply IsS94.set_3 | refine IsS94.far ?_ NB146_137.out _ | refine IsS94.far ?_ NB146_138.out _ | refine IsS94.far ?_ NB146_139.out _) | exact HI146.out)) (by (with_reducible repeat (first | apply Kd.R_alloc | apply Kd.R_drewN | apply Kd.R_drew)); exact HO_27.out) (by decide)) hk (fun _ h => h.2)) (fun _ h => h.1)); replace BK137 := Aside0.mk (KeepBut.blk hk (g' := gb137) (o := .cells #[.int .i64 a0_0, .int .i64 a0_1] 59 (0, 0)) (by (with_reducible repeat (first | refine blk_drewN ?_ _ | refine blk_drew ?_ | refine blk_alloc ?_ _)); exact BK137.out) NB137_146.out (by simp)); replace BK138 := Aside0.mk (KeepBut.blk hk (g' := gb138) (o := .cells #[.int .i64 a1_0, .int .i64 a1_1] 59 (0, 0)) (by (with_reducible repeat (first | refine blk_drewN ?_ _ | refine blk_drew ?_ | refine blk_alloc ?_ _)); exact BK138.out) NB138_146.out (by simp)); replace BK139 := Aside0.mk (KeepBut.blk hk (g' := gb139) (o := .cells #[.int .i64 0, .int .i64 0] 59 (0, 0)) (by (with_reducible repeat (first | refine blk_drewN ?_ _ | refine blk_drew ?_ | refine blk_alloc ?_ _)); exact BK139.out) NB139_146.out (by simp)); replace HB := Aside0.mk (hb); replace HI146 := Aside0.mk (hi); (try clear hb); (try clear hb2); (try clear hk); (try clear hi); have hnb63 := NB139_137.out; have hnc63 := NB137_139.out; have hnb64 := NB139_138.out; have hnc64 := NB138_139.out; have hnb65 := NB139_146.out; have hnc65 := NB146_139.out; have hcz66_0 : w62.cell? ⟨gb139, 0, none⟩ = some (.int .i64 0) := (blk_cell BK139.out 0).trans rfl; have hcz66_1 : w62.cell? ⟨gb139, 1, none⟩ = some (.int .i64 0) := (blk_cell BK139.out 1).trans rfl; have hfz66_0 := blk_frozen BK139.out 0; have hfz66_1 := blk_frozen BK139.out 1))
       refine bodyPost_ret (results_ct rfl _ _ gb139 59 #[.int .i64 t147, .int .i64 t148] (0, 0) _ rfl (by (with_reducible repeat (first | refine blk_drewN ?_ _ | refine blk_drew ?_ | refine blk_alloc ?_ _)); refine blk_put (cs := #[.int .i64 t147, .int .i64 0]) ?_ 1 _ rfl; (with_reducible repeat (first | refine blk_drewN ?_ _ | refine blk_drew ?_ | refine blk_alloc ?_ _)); refine blk_put (cs := #[.int .i64 0, .int .i64 0]) ?_ 0 _ rfl; (with_reducible repeat (first | refine blk_drewN ?_ _ | refine blk_drew ?_ | refine blk_alloc ?_ _)); exact BK139.out) Try.underlying59 rfl (by kernel_rfl)) rfl ?_
       exact ⟨by first | rfl | (simp [errW_none, errW_some] <;> rfl) | (simp [*, errW_none, errW_some] <;> rfl), by repeat (first | (with_reducible first | exact HB.out | apply below_alloc | apply pw_below_drewN | apply below_drew1 | refine below_set ?_ (IsS94.ge HI146.out) | refine below_set ?_ GE137.out | refine below_set ?_ GE138.out | refine below_set ?_ GE139.out) | exact HB.out)⟩

end Go.Proofs.Ytpacmhhaabhdjaa.SP
