-- Written by a program of this session: plain functions and their walks. Lean checks it.
import Derived.Test.YtpacmhhaabhdjaaKN0
import Derived.Test.YtpacmhhaabhdjaaKN3
namespace Go.Proofs.Ytpacmhhaabhdjaa.KN
open Go.RowKit Go.Proofs.YtpacmhhaabhdjaaW.PrintWords Go.Proofs.YtpacmhhaabhdjaaW.PrintLast Go.Proofs.YtpacmhhaabhdjaaW.PrintMore
attribute [local go_sem] max2_int min2_int max_two min_two max_three min_three max_four min_four   -- for this text's walks alone
set_option linter.unusedVariables false
set_option linter.unusedSimpArgs false

/-! ### known_Two: function 27 -/
mutual
def known_Two.j1 : Nat → Int → Bool → Int → Bool → Int → Option (Bool × Int × Bool)
 | 0, _, _, _, _, _ => none
 | k + 1, x0, x130000, x130001, x131000, x131001 => if x130000 = true then (known_Two.j2 k x0 (!x131000) x130000 x130001 x131000 x131001) else (known_Two.j2 k x0 true x130000 x130001 x131000 x131001)
def known_Two.j2 : Nat → Int → Bool → Bool → Int → Bool → Int → Option (Bool × Int × Bool)
 | 0, _, _, _, _, _, _ => none
 | k + 1, x0, x33, x130000, x130001, x131000, x131001 => if x33 = true then ((known_Any.f).bind fun bt137 => (some (bt137.1, bt137.2, true))) else ((vm_Arith.f k x0 x130001 x131001).bind fun bt139 => ((known_Of.f bt139.1).bind fun bt141 => (some (bt141.1, bt141.2, true))))
def known_Two.j0 : Nat → Int → Int → Bool → Bool → Int → Bool → Int → Option (Bool × Int × Bool)
 | 0, _, _, _, _, _, _, _ => none
 | k + 1, x0, x10, x12, x130000, x130001, x131000, x131001 => if x12 = true then ((known_Known_is.f x131000 x131001 0).bind fun t132 => (if t132 = true then ((known_Any.f).bind fun bt133 => (some (bt133.1, bt133.2, false))) else (known_Two.j1 k x0 x130000 x130001 x131000 x131001))) else (if x10 = 4 then (known_Two.j1 k x0 x130000 x130001 x131000 x131001) else (if x10 = 5 then (known_Two.j1 k x0 x130000 x130001 x131000 x131001) else (if x10 = 6 then (known_Two.j1 k x0 x130000 x130001 x131000 x131001) else (if x10 = 9 then (known_Two.j1 k x0 x130000 x130001 x131000 x131001) else (if x10 = 10 then (known_Two.j1 k x0 x130000 x130001 x131000 x131001) else (if x10 = 11 then (known_Two.j1 k x0 x130000 x130001 x131000 x131001) else (if x10 = 12 then (known_Two.j1 k x0 x130000 x130001 x131000 x131001) else ((known_Any.f).bind fun bt135 => (some (bt135.1, bt135.2, false))))))))))
end
def known_Two.f (k : Nat) (a0 : Int) (a1_0 : Bool) (a1_1 : Int) (a2_0 : Bool) (a2_1 : Int) : Option (Bool × Int × Bool) := if a0 = 7 then (known_Two.j0 k a0 a0 (a0 == 7) a1_0 a1_1 a2_0 a2_1) else (known_Two.j0 k a0 a0 (a0 == 8) a1_0 a1_1 a2_0 a2_1)
theorem known_Two.mono_l : ∀ k, (∀ y0 y1 y2 y3 y4, LeO (known_Two.j1 k y0 y1 y2 y3 y4) (known_Two.j1 (k + 1) y0 y1 y2 y3 y4)) ∧ (∀ y0 y1 y2 y3 y4 y5, LeO (known_Two.j2 k y0 y1 y2 y3 y4 y5) (known_Two.j2 (k + 1) y0 y1 y2 y3 y4 y5)) ∧ (∀ y0 y1 y2 y3 y4 y5 y6, LeO (known_Two.j0 k y0 y1 y2 y3 y4 y5 y6) (known_Two.j0 (k + 1) y0 y1 y2 y3 y4 y5 y6))
 | 0 => ⟨fun _ _ _ _ _ r h => by simp [known_Two.j1] at h, fun _ _ _ _ _ _ r h => by simp [known_Two.j2] at h, fun _ _ _ _ _ _ _ r h => by simp [known_Two.j0] at h⟩
 | k + 1 => by
  obtain ⟨ih0, ih1, ih2⟩ := known_Two.mono_l k
  refine ⟨?_, ?_, ?_⟩
  ·
   intro y0 y1 y2 y3 y4
   unfold known_Two.j1
   repeat' first
   | (with_reducible exact ih0 _ _ _ _ _)
   | (with_reducible exact ih1 _ _ _ _ _ _)
   | (with_reducible exact ih2 _ _ _ _ _ _ _)
   | (with_reducible exact vm_Arith.mono _ _ _ _)
   | (with_reducible exact LeO.refl _)
   | (with_reducible exact LeO.none _)
   | (with_reducible refine LeO.ite ?_ ?_)
   | (with_reducible refine LeO.bind ?_ (fun _ => ?_))
   | exact ih0 _ _ _ _ _
   | exact ih1 _ _ _ _ _ _
   | exact ih2 _ _ _ _ _ _ _
   | exact vm_Arith.mono _ _ _ _
   | exact LeO.none _
   | refine LeO.ite ?_ ?_
   | refine LeO.bind ?_ (fun _ => ?_)
  ·
   intro y0 y1 y2 y3 y4 y5
   unfold known_Two.j2
   repeat' first
   | (with_reducible exact ih0 _ _ _ _ _)
   | (with_reducible exact ih1 _ _ _ _ _ _)
   | (with_reducible exact ih2 _ _ _ _ _ _ _)
   | (with_reducible exact vm_Arith.mono _ _ _ _)
   | (with_reducible exact LeO.refl _)
   | (with_reducible exact LeO.none _)
   | (with_reducible refine LeO.ite ?_ ?_)
   | (with_reducible refine LeO.bind ?_ (fun _ => ?_))
   | exact ih0 _ _ _ _ _
   | exact ih1 _ _ _ _ _ _
   | exact ih2 _ _ _ _ _ _ _
   | exact vm_Arith.mono _ _ _ _
   | exact LeO.none _
   | refine LeO.ite ?_ ?_
   | refine LeO.bind ?_ (fun _ => ?_)
  ·
   intro y0 y1 y2 y3 y4 y5 y6
   unfold known_Two.j0
   repeat' first
   | (with_reducible exact ih0 _ _ _ _ _)
   | (with_reducible exact ih1 _ _ _ _ _ _)
   | (with_reducible exact ih2 _ _ _ _ _ _ _)
   | (with_reducible exact vm_Arith.mono _ _ _ _)
   | (with_reducible exact LeO.refl _)
   | (with_reducible exact LeO.none _)
   | (with_reducible refine LeO.ite ?_ ?_)
   | (with_reducible refine LeO.bind ?_ (fun _ => ?_))
   | exact ih0 _ _ _ _ _
   | exact ih1 _ _ _ _ _ _
   | exact ih2 _ _ _ _ _ _ _
   | exact vm_Arith.mono _ _ _ _
   | exact LeO.none _
   | refine LeO.ite ?_ ?_
   | refine LeO.bind ?_ (fun _ => ?_)
theorem known_Two.mono : ∀ a0 a1 a2 a3 a4 k, LeO (known_Two.f k a0 a1 a2 a3 a4) (known_Two.f (k + 1) a0 a1 a2 a3 a4) := by
 intro a0 a1 a2 a3 a4 k
 obtain ⟨ih0, ih1, ih2⟩ := known_Two.mono_l k
 unfold known_Two.f
 repeat' first
   | (with_reducible exact ih0 _ _ _ _ _)
   | (with_reducible exact ih1 _ _ _ _ _ _)
   | (with_reducible exact ih2 _ _ _ _ _ _ _)
   | (with_reducible exact vm_Arith.mono _ _ _ _)
   | (with_reducible exact LeO.refl _)
   | (with_reducible exact LeO.none _)
   | (with_reducible refine LeO.ite ?_ ?_)
   | (with_reducible refine LeO.bind ?_ (fun _ => ?_))
   | exact ih0 _ _ _ _ _
   | exact ih1 _ _ _ _ _ _
   | exact ih2 _ _ _ _ _ _ _
   | exact vm_Arith.mono _ _ _ _
   | exact LeO.none _
   | refine LeO.ite ?_ ?_
   | refine LeO.bind ?_ (fun _ => ?_)
set_option maxHeartbeats 8000000 in
set_option maxRecDepth 100000 in
theorem known_Two.calls (k : Nat) (a0 : Int) (a1_0 : Bool) (a1_1 : Int) (a2_0 : Bool) (a2_1 : Int) (r1 : Bool) (r2 : Int) (r3 : Bool) (w : World) (h : known_Two.f k a0 a1_0 a1_1 a2_0 a2_1 = some (r1, r2, r3)) :
  Calls Try.prog 27 #[.int .i64 a0, .agg #[.bool a1_0, .int .i64 a1_1], .agg #[.bool a2_0, .int .i64 a2_1]] w fun e w' => e = .returned (.tuple #[.agg #[.bool r1, .int .i64 r2], .bool r3]) ∧ Below w.heap.size w w' := by
 have hu24 := Try.underlying24
 have HB := Aside0.mk (Below.refl w.heap.size w)
 have H : (if a0 = 7 then (known_Two.j0 k a0 a0 (a0 == 7) a1_0 a1_1 a2_0 a2_1) else (known_Two.j0 k a0 a0 (a0 == 8) a1_0 a1_1 a2_0 a2_1)) = some (r1, r2, r3) := h
 clear h
 have HC4 := Aside0.mk H
 clear H
 go_enter Try.func27, Try.ntmps27
 go_upto_block 0 with (first | ((with_reducible refine gate_dst (N := 4) rfl ?_); refine box_event ?hg (N := 4) ?hd (cs := #[.bool a1_0, .int .i64 a1_1]) (t := 24) ?hr ?_; (case hd => rfl); (case hg => rfl); (case hr => first | (go_simp; done) | (go_simp; rfl)); intro gb129 hg w5 hbox hb; have BK129 := Aside0.mk (hbox); have GW129 := geb hg HB rfl; have GE129 := geb hg HB rfl; replace HB := hst HB hb rfl; clear hb hbox hg) | ((with_reducible refine gate_dst (N := 5) rfl ?_); refine box_event ?hg (N := 5) ?hd (cs := #[.bool a2_0, .int .i64 a2_1]) (t := 24) ?hr ?_; (case hd => rfl); (case hg => rfl); (case hr => first | (go_simp; done) | (go_simp; rfl)); intro gb130 hg w6 hbox hb; have BK130 := Aside0.mk (hbox); have GW130 := geb hg HB rfl; have GE130 := geb hg HB rfl; have NB129_130 := nbl hg BK129 rfl; have NB130_129 := nbr hg BK129 rfl; replace BK129 := bb BK129 hb rfl; replace HB := hst HB hb rfl; clear hb hbox hg) | ((with_reducible refine gate_dst (N := 6) rfl ?_); refine box_event ?hg (N := 6) ?hd (cs := #[.bool false, .int .i64 0]) (t := 24) ?hr ?_; (case hd => rfl); (case hg => rfl); (case hr => first | (go_simp; done) | (go_simp; rfl)); intro gb131 hg w7 hbox hb; have BK131 := Aside0.mk (hbox); have GW131 := geb hg HB rfl; have GE131 := geb hg HB rfl; have NB129_131 := nbl hg BK129 rfl; have NB131_129 := nbr hg BK129 rfl; have NB130_131 := nbl hg BK130 rfl; have NB131_130 := nbr hg BK130 rfl; replace BK129 := bb BK129 hb rfl; replace BK130 := bb BK130 hb rfl; replace HB := hst HB hb rfl; clear hb hbox hg))
 (try simp only [Act.put, List.setIfInBounds_toArray, List.set_cons_zero, List.set_cons_succ])
 go_cut [] (fun wc => ∃ (kq : Nat) (x132000_3 : Bool) (x132001_3 : Int), Aside0 (known_Two.j1 kq a0 a1_0 a1_1 a2_0 a2_1 = some (r1, r2, r3)) ∧ Aside0 (kq ≤ k) ∧ Aside0 (wc.heap[gb129]? = some (.cells #[.bool a1_0, .int .i64 a1_1] 24 (0, 0))) ∧ Aside0 (wc.heap[gb130]? = some (.cells #[.bool a2_0, .int .i64 a2_1] 24 (0, 0))) ∧ Aside0 (wc.heap[gb131]? = some (.cells #[.bool x132000_3, .int .i64 x132001_3] 24 (0, 0))) ∧ Aside0 (Below w.heap.size w wc))
 case first =>
  have H := HC4.out
  clear HC4
  have HC8 := Aside0.mk H
  clear H
  go_upto_if 12 with (fail)
  go_cut [12] (fun v12 wc => ∃ (kq : Nat) (x12_7 : Bool), v12 = .bool x12_7 ∧ Aside0 (known_Two.j0 kq a0 a0 x12_7 a1_0 a1_1 a2_0 a2_1 = some (r1, r2, r3)) ∧ Aside0 (kq ≤ k) ∧ Aside0 (wc.heap[gb129]? = some (.cells #[.bool a1_0, .int .i64 a1_1] 24 (0, 0))) ∧ Aside0 (wc.heap[gb130]? = some (.cells #[.bool a2_0, .int .i64 a2_1] 24 (0, 0))) ∧ Aside0 (wc.heap[gb131]? = some (.cells #[.bool false, .int .i64 0] 24 (0, 0))) ∧ Aside0 (Below w.heap.size w wc))
  case first =>
   have H := HC8.out
   clear HC8
   by_cases c9 : a0 = 7
   ·
    rw [if_pos c9] at H
    have c9b0 : (a0 == 7) = true := beq_iff_eq.mpr c9
    have c9b1 : (a0 != 7) = false := bne_eq_false_iff_eq.mpr c9
    clear c9
    (first | rw [c9b0] | (simp only [i64_w, i32_w]; rw [c9b0]) | skip)
    have H' := Aside0.mk H
    clear H
    go_wp2
    go_meet
    case rel => exact ⟨_, ((a0 == 7)), (by first | rfl | (simp; done) | (simp [*]; done)), H', ⟨by first | omega | exact Nat.le_refl _⟩, ⟨by (with_reducible repeat (first | refine blk_drewN ?_ _ | refine blk_drew ?_ | refine blk_alloc ?_ _)); exact BK129.out⟩, ⟨by (with_reducible repeat (first | refine blk_drewN ?_ _ | refine blk_drew ?_ | refine blk_alloc ?_ _)); exact BK130.out⟩, ⟨by (with_reducible repeat (first | refine blk_drewN ?_ _ | refine blk_drew ?_ | refine blk_alloc ?_ _)); exact BK131.out⟩, ⟨by repeat (first | (with_reducible first | exact HB.out | apply below_alloc | apply pw_below_drewN | apply below_drew1 | refine below_set ?_ GE129.out | refine below_set ?_ GE130.out | refine below_set ?_ GE131.out) | exact HB.out)⟩⟩
   ·
    rw [if_neg c9] at H
    have c9b0 : (a0 == 7) = false := beq_eq_false_iff_ne.mpr c9
    have c9b1 : (a0 != 7) = true := bne_iff_ne.mpr c9
    (first | rw [c9b0] | (simp only [i64_w, i32_w]; rw [c9b0]) | skip)
    have H' := Aside0.mk H
    clear H
    go_wp2
    go_meet
    case rel => exact ⟨_, ((a0 == 8)), (by first | rfl | (simp; done) | (simp [*]; done)), H', ⟨by first | omega | exact Nat.le_refl _⟩, ⟨by (with_reducible repeat (first | refine blk_drewN ?_ _ | refine blk_drew ?_ | refine blk_alloc ?_ _)); exact BK129.out⟩, ⟨by (with_reducible repeat (first | refine blk_drewN ?_ _ | refine blk_drew ?_ | refine blk_alloc ?_ _)); exact BK130.out⟩, ⟨by (with_reducible repeat (first | refine blk_drewN ?_ _ | refine blk_drew ?_ | refine blk_alloc ?_ _)); exact BK131.out⟩, ⟨by repeat (first | (with_reducible first | exact HB.out | apply below_alloc | apply pw_below_drewN | apply below_drew1 | refine below_set ?_ GE129.out | refine below_set ?_ GE130.out | refine below_set ?_ GE131.out) | exact HB.out)⟩⟩
  case rest =>
   clear HC8
   try clear c2
   try clear p2
   try clear c9
   try clear c9b0
   try clear c9b1
   obtain ⟨kq, x12_7, rfl, HA, HJ7, BK129, BK130, BK131, HB⟩ := hcut
   cases kq with
   | zero => exact absurd HA.out (by simp [known_Two.j0])
   | succ kj7 =>
    have H := HA.out
    clear HA
    simp only [known_Two.j0] at H
    by_cases c10 : x12_7 = true
    ·
     subst c10
     rw [if_pos rfl] at H
     replace H := Option.bind_eq_some_iff.mp H
     obtain ⟨t132, A110, H⟩ := H
     (try dsimp only at H)
     have A11 := Aside0.mk A110
     clear A110
     by_cases c12 : t132 = true
     ·
      subst c12
      rw [if_pos rfl] at H
      replace H := Option.bind_eq_some_iff.mp H
      obtain ⟨⟨t133, t134⟩, A130, H⟩ := H
      (try dsimp only at H)
      have A13 := Aside0.mk A130
      clear A130
      simp only [Option.some.injEq, Prod.mk.injEq] at H
      obtain ⟨rfl, rfl, rfl⟩ := H
      have hnb14 := NB130_129.out
      have hnc14 := NB129_130.out
      have hnb15 := NB130_131.out
      have hnc15 := NB131_130.out
      have hcz16_0 : wc.cell? ⟨gb130, 0, none⟩ = some (.bool a2_0) := bc BK130 0 rfl
      have hcz16_1 : wc.cell? ⟨gb130, 1, none⟩ = some (.int .i64 a2_1) := bc BK130 1 rfl
      have hfz16_0 := blk_frozen BK130.out 0
      have hfz16_1 := blk_frozen BK130.out 1
      go_wp2_with (first | ((with_reducible refine gate_callee (f := 62) rfl ?_); refine goesL_ (some 16) rfl rfl Try.func62 (by kernel_rfl) rfl #[.agg #[.bool a2_0, .int .i64 a2_1], .int .i64 0] rfl (mapq rfl) ?_; (with_reducible refine (known_Known_is.calls a2_0 a2_1 0 true _ A11.out).mono ?_); rintro e w17 ⟨rfl, hb⟩; refine ⟨_, rfl, ?_⟩; replace BK129 := bb BK129 hb rfl; replace BK130 := bb BK130 hb rfl; replace BK131 := bb BK131 hb rfl; replace HB := hst HB hb rfl; (try clear hb)) | ((with_reducible refine gate_callee (f := 20) rfl ?_); refine goesL_ (some 17) rfl rfl Try.func20 (by kernel_rfl) rfl #[] rfl (mapq rfl) ?_; (with_reducible refine (known_Any.calls  t133 t134 _ A13.out).mono ?_); rintro e w18 ⟨rfl, hb⟩; refine ⟨_, rfl, ?_⟩; replace BK129 := bb BK129 hb rfl; replace BK130 := bb BK130 hb rfl; replace BK131 := bb BK131 hb rfl; replace HB := hst HB hb rfl; (try clear hb); have hnb19 := NB131_129.out; have hnc19 := NB129_131.out; have hcz20_0 : w18.cell? ⟨gb131, 0, none⟩ = some (.bool false) := (blk_cell BK131.out 0).trans rfl; have hcz20_1 : w18.cell? ⟨gb131, 1, none⟩ = some (.int .i64 0) := (blk_cell BK131.out 1).trans rfl; have hfz20_0 := blk_frozen BK131.out 0; have hfz20_1 := blk_frozen BK131.out 1))
      refine bodyPost_ret (results_ct rfl _ _ gb131 24 #[.bool t133, .int .i64 t134] (0, 0) _ rfl (by (with_reducible repeat (first | refine blk_drewN ?_ _ | refine blk_drew ?_ | refine blk_alloc ?_ _)); refine blk_put (cs := #[.bool t133, .int .i64 0]) ?_ 1 _ rfl; (with_reducible repeat (first | refine blk_drewN ?_ _ | refine blk_drew ?_ | refine blk_alloc ?_ _)); refine blk_put (cs := #[.bool false, .int .i64 0]) ?_ 0 _ rfl; (with_reducible repeat (first | refine blk_drewN ?_ _ | refine blk_drew ?_ | refine blk_alloc ?_ _)); exact BK131.out) Try.underlying24 rfl (by kernel_rfl)) rfl ?_
      exact ⟨by first | rfl | (simp [errW_none, errW_some] <;> rfl) | (simp [*, errW_none, errW_some] <;> rfl), by repeat (first | (with_reducible first | exact HB.out | apply below_alloc | apply pw_below_drewN | apply below_drew1 | refine below_set ?_ GE129.out | refine below_set ?_ GE130.out | refine below_set ?_ GE131.out) | exact HB.out)⟩
     ·
      replace c12 := Bool.eq_false_iff.mpr c12
      subst c12
      rw [if_neg (show ¬ (false = true) by decide)] at H
      have H' := Aside0.mk H
      clear H
      have hnb21 := NB130_129.out
      have hnc21 := NB129_130.out
      have hnb22 := NB130_131.out
      have hnc22 := NB131_130.out
      have hcz23_0 : wc.cell? ⟨gb130, 0, none⟩ = some (.bool a2_0) := bc BK130 0 rfl
      have hcz23_1 : wc.cell? ⟨gb130, 1, none⟩ = some (.int .i64 a2_1) := bc BK130 1 rfl
      have hfz23_0 := blk_frozen BK130.out 0
      have hfz23_1 := blk_frozen BK130.out 1
      go_wp2_with (first | ((with_reducible refine gate_callee (f := 62) rfl ?_); refine goesL_ (some 16) rfl rfl Try.func62 (by kernel_rfl) rfl #[.agg #[.bool a2_0, .int .i64 a2_1], .int .i64 0] rfl (mapq rfl) ?_; (with_reducible refine (known_Known_is.calls a2_0 a2_1 0 false _ A11.out).mono ?_); rintro e w24 ⟨rfl, hb⟩; refine ⟨_, rfl, ?_⟩; replace BK129 := bb BK129 hb rfl; replace BK130 := bb BK130 hb rfl; replace BK131 := bb BK131 hb rfl; replace HB := hst HB hb rfl; (try clear hb)))
      go_meet
      case rel => exact ⟨_, (false), (0), H', ⟨by have := HJ7.out; first | omega | exact Nat.le_refl _⟩, ⟨by (with_reducible repeat (first | refine blk_drewN ?_ _ | refine blk_drew ?_ | refine blk_alloc ?_ _)); exact BK129.out⟩, ⟨by (with_reducible repeat (first | refine blk_drewN ?_ _ | refine blk_drew ?_ | refine blk_alloc ?_ _)); exact BK130.out⟩, ⟨by (with_reducible repeat (first | refine blk_drewN ?_ _ | refine blk_drew ?_ | refine blk_alloc ?_ _)); exact BK131.out⟩, ⟨by repeat (first | (with_reducible first | exact HB.out | apply below_alloc | apply pw_below_drewN | apply below_drew1 | refine below_set ?_ GE129.out | refine below_set ?_ GE130.out | refine below_set ?_ GE131.out) | exact HB.out)⟩⟩
    ·
     replace c10 := Bool.eq_false_iff.mpr c10
     subst c10
     rw [if_neg (show ¬ (false = true) by decide)] at H
     by_cases c25 : a0 = 4
     ·
      rw [if_pos c25] at H
      have c25b0 : (a0 == 4) = true := beq_iff_eq.mpr c25
      have c25b1 : (a0 != 4) = false := bne_eq_false_iff_eq.mpr c25
      clear c25
      have H' := Aside0.mk H
      clear H
      go_wp2
      go_meet
      case rel => exact ⟨_, (false), (0), H', ⟨by have := HJ7.out; first | omega | exact Nat.le_refl _⟩, ⟨by (with_reducible repeat (first | refine blk_drewN ?_ _ | refine blk_drew ?_ | refine blk_alloc ?_ _)); exact BK129.out⟩, ⟨by (with_reducible repeat (first | refine blk_drewN ?_ _ | refine blk_drew ?_ | refine blk_alloc ?_ _)); exact BK130.out⟩, ⟨by (with_reducible repeat (first | refine blk_drewN ?_ _ | refine blk_drew ?_ | refine blk_alloc ?_ _)); exact BK131.out⟩, ⟨by repeat (first | (with_reducible first | exact HB.out | apply below_alloc | apply pw_below_drewN | apply below_drew1 | refine below_set ?_ GE129.out | refine below_set ?_ GE130.out | refine below_set ?_ GE131.out) | exact HB.out)⟩⟩
     ·
      rw [if_neg c25] at H
      have c25b0 : (a0 == 4) = false := beq_eq_false_iff_ne.mpr c25
      have c25b1 : (a0 != 4) = true := bne_iff_ne.mpr c25
      by_cases c26 : a0 = 5
      ·
       rw [if_pos c26] at H
       have c26b0 : (a0 == 5) = true := beq_iff_eq.mpr c26
       have c26b1 : (a0 != 5) = false := bne_eq_false_iff_eq.mpr c26
       clear c26
       have H' := Aside0.mk H
       clear H
       go_wp2
       go_meet
       case rel => exact ⟨_, (false), (0), H', ⟨by have := HJ7.out; first | omega | exact Nat.le_refl _⟩, ⟨by (with_reducible repeat (first | refine blk_drewN ?_ _ | refine blk_drew ?_ | refine blk_alloc ?_ _)); exact BK129.out⟩, ⟨by (with_reducible repeat (first | refine blk_drewN ?_ _ | refine blk_drew ?_ | refine blk_alloc ?_ _)); exact BK130.out⟩, ⟨by (with_reducible repeat (first | refine blk_drewN ?_ _ | refine blk_drew ?_ | refine blk_alloc ?_ _)); exact BK131.out⟩, ⟨by repeat (first | (with_reducible first | exact HB.out | apply below_alloc | apply pw_below_drewN | apply below_drew1 | refine below_set ?_ GE129.out | refine below_set ?_ GE130.out | refine below_set ?_ GE131.out) | exact HB.out)⟩⟩
      ·
       rw [if_neg c26] at H
       have c26b0 : (a0 == 5) = false := beq_eq_false_iff_ne.mpr c26
       have c26b1 : (a0 != 5) = true := bne_iff_ne.mpr c26
       by_cases c27 : a0 = 6
       ·
        rw [if_pos c27] at H
        have c27b0 : (a0 == 6) = true := beq_iff_eq.mpr c27
        have c27b1 : (a0 != 6) = false := bne_eq_false_iff_eq.mpr c27
        clear c27
        have H' := Aside0.mk H
        clear H
        go_wp2
        go_meet
        case rel => exact ⟨_, (false), (0), H', ⟨by have := HJ7.out; first | omega | exact Nat.le_refl _⟩, ⟨by (with_reducible repeat (first | refine blk_drewN ?_ _ | refine blk_drew ?_ | refine blk_alloc ?_ _)); exact BK129.out⟩, ⟨by (with_reducible repeat (first | refine blk_drewN ?_ _ | refine blk_drew ?_ | refine blk_alloc ?_ _)); exact BK130.out⟩, ⟨by (with_reducible repeat (first | refine blk_drewN ?_ _ | refine blk_drew ?_ | refine blk_alloc ?_ _)); exact BK131.out⟩, ⟨by repeat (first | (with_reducible first | exact HB.out | apply below_alloc | apply pw_below_drewN | apply below_drew1 | refine below_set ?_ GE129.out | refine below_set ?_ GE130.out | refine below_set ?_ GE131.out) | exact HB.out)⟩⟩
       ·
        rw [if_neg c27] at H
        have c27b0 : (a0 == 6) = false := beq_eq_false_iff_ne.mpr c27
        have c27b1 : (a0 != 6) = true := bne_iff_ne.mpr c27
        by_cases c28 : a0 = 9
        ·
         rw [if_pos c28] at H
         have c28b0 : (a0 == 9) = true := beq_iff_eq.mpr c28
         have c28b1 : (a0 != 9) = false := bne_eq_false_iff_eq.mpr c28
         clear c28
         have H' := Aside0.mk H
         clear H
         go_wp2
         go_meet
         case rel => exact ⟨_, (false), (0), H', ⟨by have := HJ7.out; first | omega | exact Nat.le_refl _⟩, ⟨by (with_reducible repeat (first | refine blk_drewN ?_ _ | refine blk_drew ?_ | refine blk_alloc ?_ _)); exact BK129.out⟩, ⟨by (with_reducible repeat (first | refine blk_drewN ?_ _ | refine blk_drew ?_ | refine blk_alloc ?_ _)); exact BK130.out⟩, ⟨by (with_reducible repeat (first | refine blk_drewN ?_ _ | refine blk_drew ?_ | refine blk_alloc ?_ _)); exact BK131.out⟩, ⟨by repeat (first | (with_reducible first | exact HB.out | apply below_alloc | apply pw_below_drewN | apply below_drew1 | refine below_set ?_ GE129.out | refine below_set ?_ GE130.out | refine below_set ?_ GE131.out) | exact HB.out)⟩⟩
        ·
         rw [if_neg c28] at H
         have c28b0 : (a0 == 9) = false := beq_eq_false_iff_ne.mpr c28
         have c28b1 : (a0 != 9) = true := bne_iff_ne.mpr c28
         by_cases c29 : a0 = 10
         ·
          rw [if_pos c29] at H
          have c29b0 : (a0 == 10) = true := beq_iff_eq.mpr c29
          have c29b1 : (a0 != 10) = false := bne_eq_false_iff_eq.mpr c29
          clear c29
          have H' := Aside0.mk H
          clear H
          go_wp2
          go_meet
          case rel => exact ⟨_, (false), (0), H', ⟨by have := HJ7.out; first | omega | exact Nat.le_refl _⟩, ⟨by (with_reducible repeat (first | refine blk_drewN ?_ _ | refine blk_drew ?_ | refine blk_alloc ?_ _)); exact BK129.out⟩, ⟨by (with_reducible repeat (first | refine blk_drewN ?_ _ | refine blk_drew ?_ | refine blk_alloc ?_ _)); exact BK130.out⟩, ⟨by (with_reducible repeat (first | refine blk_drewN ?_ _ | refine blk_drew ?_ | refine blk_alloc ?_ _)); exact BK131.out⟩, ⟨by repeat (first | (with_reducible first | exact HB.out | apply below_alloc | apply pw_below_drewN | apply below_drew1 | refine below_set ?_ GE129.out | refine below_set ?_ GE130.out | refine below_set ?_ GE131.out) | exact HB.out)⟩⟩
         ·
          rw [if_neg c29] at H
          have c29b0 : (a0 == 10) = false := beq_eq_false_iff_ne.mpr c29
          have c29b1 : (a0 != 10) = true := bne_iff_ne.mpr c29
          by_cases c30 : a0 = 11
          ·
           rw [if_pos c30] at H
           have c30b0 : (a0 == 11) = true := beq_iff_eq.mpr c30
           have c30b1 : (a0 != 11) = false := bne_eq_false_iff_eq.mpr c30
           clear c30
           have H' := Aside0.mk H
           clear H
           go_wp2
           go_meet
           case rel => exact ⟨_, (false), (0), H', ⟨by have := HJ7.out; first | omega | exact Nat.le_refl _⟩, ⟨by (with_reducible repeat (first | refine blk_drewN ?_ _ | refine blk_drew ?_ | refine blk_alloc ?_ _)); exact BK129.out⟩, ⟨by (with_reducible repeat (first | refine blk_drewN ?_ _ | refine blk_drew ?_ | refine blk_alloc ?_ _)); exact BK130.out⟩, ⟨by (with_reducible repeat (first | refine blk_drewN ?_ _ | refine blk_drew ?_ | refine blk_alloc ?_ _)); exact BK131.out⟩, ⟨by repeat (first | (with_reducible first | exact HB.out | apply below_alloc | apply pw_below_drewN | apply below_drew1 | refine below_set ?_ GE129.out | refine below_set ?_ GE130.out | refine below_set ?_ GE131.out) | exact HB.out)⟩⟩
          ·
           rw [if_neg c30] at H
           have c30b0 : (a0 == 11) = false := beq_eq_false_iff_ne.mpr c30
           have c30b1 : (a0 != 11) = true := bne_iff_ne.mpr c30
           by_cases c31 : a0 = 12
           ·
            rw [if_pos c31] at H
            have c31b0 : (a0 == 12) = true := beq_iff_eq.mpr c31
            have c31b1 : (a0 != 12) = false := bne_eq_false_iff_eq.mpr c31
            clear c31
            have H' := Aside0.mk H
            clear H
            go_wp2
            go_meet
            case rel => exact ⟨_, (false), (0), H', ⟨by have := HJ7.out; first | omega | exact Nat.le_refl _⟩, ⟨by (with_reducible repeat (first | refine blk_drewN ?_ _ | refine blk_drew ?_ | refine blk_alloc ?_ _)); exact BK129.out⟩, ⟨by (with_reducible repeat (first | refine blk_drewN ?_ _ | refine blk_drew ?_ | refine blk_alloc ?_ _)); exact BK130.out⟩, ⟨by (with_reducible repeat (first | refine blk_drewN ?_ _ | refine blk_drew ?_ | refine blk_alloc ?_ _)); exact BK131.out⟩, ⟨by repeat (first | (with_reducible first | exact HB.out | apply below_alloc | apply pw_below_drewN | apply below_drew1 | refine below_set ?_ GE129.out | refine below_set ?_ GE130.out | refine below_set ?_ GE131.out) | exact HB.out)⟩⟩
           ·
            rw [if_neg c31] at H
            have c31b0 : (a0 == 12) = false := beq_eq_false_iff_ne.mpr c31
            have c31b1 : (a0 != 12) = true := bne_iff_ne.mpr c31
            replace H := Option.bind_eq_some_iff.mp H
            obtain ⟨⟨t135, t136⟩, A320, H⟩ := H
            (try dsimp only at H)
            have A32 := Aside0.mk A320
            clear A320
            simp only [Option.some.injEq, Prod.mk.injEq] at H
            obtain ⟨rfl, rfl, rfl⟩ := H
            go_wp2_with (first | ((with_reducible refine gate_callee (f := 20) rfl ?_); refine goesL_ (some 11) rfl rfl Try.func20 (by kernel_rfl) rfl #[] rfl (mapq rfl) ?_; (with_reducible refine (known_Any.calls  t135 t136 _ A32.out).mono ?_); rintro e w33 ⟨rfl, hb⟩; refine ⟨_, rfl, ?_⟩; replace BK129 := bb BK129 hb rfl; replace BK130 := bb BK130 hb rfl; replace BK131 := bb BK131 hb rfl; replace HB := hst HB hb rfl; (try clear hb); have hnb34 := NB131_129.out; have hnc34 := NB129_131.out; have hnb35 := NB131_130.out; have hnc35 := NB130_131.out; have hcz36_0 : w33.cell? ⟨gb131, 0, none⟩ = some (.bool false) := (blk_cell BK131.out 0).trans rfl; have hcz36_1 : w33.cell? ⟨gb131, 1, none⟩ = some (.int .i64 0) := (blk_cell BK131.out 1).trans rfl; have hfz36_0 := blk_frozen BK131.out 0; have hfz36_1 := blk_frozen BK131.out 1))
            refine bodyPost_ret (results_ct rfl _ _ gb131 24 #[.bool t135, .int .i64 t136] (0, 0) _ rfl (by (with_reducible repeat (first | refine blk_drewN ?_ _ | refine blk_drew ?_ | refine blk_alloc ?_ _)); refine blk_put (cs := #[.bool t135, .int .i64 0]) ?_ 1 _ rfl; (with_reducible repeat (first | refine blk_drewN ?_ _ | refine blk_drew ?_ | refine blk_alloc ?_ _)); refine blk_put (cs := #[.bool false, .int .i64 0]) ?_ 0 _ rfl; (with_reducible repeat (first | refine blk_drewN ?_ _ | refine blk_drew ?_ | refine blk_alloc ?_ _)); exact BK131.out) Try.underlying24 rfl (by kernel_rfl)) rfl ?_
            exact ⟨by first | rfl | (simp [errW_none, errW_some] <;> rfl) | (simp [*, errW_none, errW_some] <;> rfl), by repeat (first | (with_reducible first | exact HB.out | apply below_alloc | apply pw_below_drewN | apply below_drew1 | refine below_set ?_ GE129.out | refine below_set ?_ GE130.out | refine below_set ?_ GE131.out) | exact HB.out)⟩
 case rest =>
  clear HC4
  try clear c1
  try clear c2
  try clear p2
  try clear c3
  try clear c6
  try clear c9
  try clear c9b0
  try clear c9b1
  try clear c10
  try clear c12
  try clear c14
  try clear c15
  try clear c19
  try clear c20
  try clear c21
  try clear c22
  try clear c25
  try clear c25b0
  try clear c25b1
  try clear c26
  try clear c26b0
  try clear c26b1
  try clear c27
  try clear c27b0
  try clear c27b1
  try clear c28
  try clear c28b0
  try clear c28b1
  try clear c29
  try clear c29b0
  try clear c29b1
  try clear c30
  try clear c30b0
  try clear c30b1
  try clear c31
  try clear c31b0
  try clear c31b1
  try clear c34
  try clear c35
  try clear hcz16_0
  try clear hcz16_1
  try clear hcz20_0
  try clear hcz20_1
  try clear hcz23_0
  try clear hcz23_1
  try clear hcz36_0
  try clear hcz36_1
  try clear hfz16_0
  try clear hfz16_1
  try clear hfz20_0
  try clear hfz20_1
  try clear hfz23_0
  try clear hfz23_1
  try clear hfz36_0
  try clear hfz36_1
  try clear p2
  obtain ⟨kq, x132000_3, x132001_3, HA, HJ3, BK129, BK130, BK131, HB⟩ := hcut
  cases kq with
  | zero => exact absurd HA.out (by simp [known_Two.j1])
  | succ kj3 =>
   have H := HA.out
   clear HA
   simp only [known_Two.j1] at H
   have HC37 := Aside0.mk H
   clear H
   go_upto_region 14 with (fail)
   go_cut [33] (fun v33 wc => ∃ (kq : Nat) (x33_36 : Bool), v33 = .bool x33_36 ∧ Aside0 (known_Two.j2 kq a0 x33_36 a1_0 a1_1 a2_0 a2_1 = some (r1, r2, r3)) ∧ Aside0 (kq ≤ kj3) ∧ Aside0 (wc.heap[gb129]? = some (.cells #[.bool a1_0, .int .i64 a1_1] 24 (0, 0))) ∧ Aside0 (wc.heap[gb130]? = some (.cells #[.bool a2_0, .int .i64 a2_1] 24 (0, 0))) ∧ Aside0 (wc.heap[gb131]? = some (.cells #[.bool x132000_3, .int .i64 x132001_3] 24 (0, 0))) ∧ Aside0 (Below w.heap.size w wc))
   case first =>
    have H := HC37.out
    clear HC37
    by_cases c38 : a1_0 = true
    ·
     subst c38
     rw [if_pos rfl] at H
     have H' := Aside0.mk H
     clear H
     have hnb39 := NB129_130.out
     have hnc39 := NB130_129.out
     have hnb40 := NB129_131.out
     have hnc40 := NB131_129.out
     have hcz41_0 : wc.cell? ⟨gb129, 0, none⟩ = some (.bool true) := bc BK129 0 rfl
     have hcz41_1 : wc.cell? ⟨gb129, 1, none⟩ = some (.int .i64 a1_1) := bc BK129 1 rfl
     have hfz41_0 := blk_frozen BK129.out 0
     have hfz41_1 := blk_frozen BK129.out 1
     have hnb42 := NB130_131.out
     have hnc42 := NB131_130.out
     have hcz43_0 : wc.cell? ⟨gb130, 0, none⟩ = some (.bool a2_0) := bc BK130 0 rfl
     have hcz43_1 : wc.cell? ⟨gb130, 1, none⟩ = some (.int .i64 a2_1) := bc BK130 1 rfl
     have hfz43_0 := blk_frozen BK130.out 0
     have hfz43_1 := blk_frozen BK130.out 1
     go_wp2
     go_meet
     case rel => exact ⟨_, (!a2_0), (by first | rfl | (simp; done) | (simp [*]; done)), H', ⟨by have := HJ3.out; first | omega | exact Nat.le_refl _⟩, ⟨by (with_reducible repeat (first | refine blk_drewN ?_ _ | refine blk_drew ?_ | refine blk_alloc ?_ _)); exact BK129.out⟩, ⟨by (with_reducible repeat (first | refine blk_drewN ?_ _ | refine blk_drew ?_ | refine blk_alloc ?_ _)); exact BK130.out⟩, ⟨by (with_reducible repeat (first | refine blk_drewN ?_ _ | refine blk_drew ?_ | refine blk_alloc ?_ _)); exact BK131.out⟩, ⟨by repeat (first | (with_reducible first | exact HB.out | apply below_alloc | apply pw_below_drewN | apply below_drew1 | refine below_set ?_ GE129.out | refine below_set ?_ GE130.out | refine below_set ?_ GE131.out) | exact HB.out)⟩⟩
    ·
     replace c38 := Bool.eq_false_iff.mpr c38
     subst c38
     rw [if_neg (show ¬ (false = true) by decide)] at H
     have H' := Aside0.mk H
     clear H
     have hnb44 := NB129_130.out
     have hnc44 := NB130_129.out
     have hnb45 := NB129_131.out
     have hnc45 := NB131_129.out
     have hcz46_0 : wc.cell? ⟨gb129, 0, none⟩ = some (.bool false) := bc BK129 0 rfl
     have hcz46_1 : wc.cell? ⟨gb129, 1, none⟩ = some (.int .i64 a1_1) := bc BK129 1 rfl
     have hfz46_0 := blk_frozen BK129.out 0
     have hfz46_1 := blk_frozen BK129.out 1
     go_wp2
     go_meet
     case rel => exact ⟨_, (true), (by first | rfl | (simp; done) | (simp [*]; done)), H', ⟨by have := HJ3.out; first | omega | exact Nat.le_refl _⟩, ⟨by (with_reducible repeat (first | refine blk_drewN ?_ _ | refine blk_drew ?_ | refine blk_alloc ?_ _)); exact BK129.out⟩, ⟨by (with_reducible repeat (first | refine blk_drewN ?_ _ | refine blk_drew ?_ | refine blk_alloc ?_ _)); exact BK130.out⟩, ⟨by (with_reducible repeat (first | refine blk_drewN ?_ _ | refine blk_drew ?_ | refine blk_alloc ?_ _)); exact BK131.out⟩, ⟨by repeat (first | (with_reducible first | exact HB.out | apply below_alloc | apply pw_below_drewN | apply below_drew1 | refine below_set ?_ GE129.out | refine below_set ?_ GE130.out | refine below_set ?_ GE131.out) | exact HB.out)⟩⟩
   case rest =>
    clear HC37
    try clear c1
    try clear c2
    try clear p2
    try clear c3
    try clear c4
    try clear c6
    try clear c9
    try clear c9b0
    try clear c9b1
    try clear c10
    try clear c12
    try clear c14
    try clear c15
    try clear c19
    try clear c20
    try clear c21
    try clear c22
    try clear c25
    try clear c25b0
    try clear c25b1
    try clear c26
    try clear c26b0
    try clear c26b1
    try clear c27
    try clear c27b0
    try clear c27b1
    try clear c28
    try clear c28b0
    try clear c28b1
    try clear c29
    try clear c29b0
    try clear c29b1
    try clear c30
    try clear c30b0
    try clear c30b1
    try clear c31
    try clear c31b0
    try clear c31b1
    try clear c34
    try clear c35
    try clear c38
    try clear c39
    try clear c40
    try clear c42
    try clear c44
    try clear c45
    try clear hcz16_0
    try clear hcz16_1
    try clear hcz20_0
    try clear hcz20_1
    try clear hcz23_0
    try clear hcz23_1
    try clear hcz36_0
    try clear hcz36_1
    try clear hcz41_0
    try clear hcz41_1
    try clear hcz43_0
    try clear hcz43_1
    try clear hcz46_0
    try clear hcz46_1
    try clear hfz16_0
    try clear hfz16_1
    try clear hfz20_0
    try clear hfz20_1
    try clear hfz23_0
    try clear hfz23_1
    try clear hfz36_0
    try clear hfz36_1
    try clear hfz41_0
    try clear hfz41_1
    try clear hfz43_0
    try clear hfz43_1
    try clear hfz46_0
    try clear hfz46_1
    try clear p2
    obtain ⟨kq, x33_36, rfl, HA, HJ36, BK129, BK130, BK131, HB⟩ := hcut
    cases kq with
    | zero => exact absurd HA.out (by simp [known_Two.j2])
    | succ kj36 =>
     have H := HA.out
     clear HA
     simp only [known_Two.j2] at H
     by_cases c47 : x33_36 = true
     ·
      subst c47
      rw [if_pos rfl] at H
      replace H := Option.bind_eq_some_iff.mp H
      obtain ⟨⟨t137, t138⟩, A480, H⟩ := H
      (try dsimp only at H)
      have A48 := Aside0.mk A480
      clear A480
      simp only [Option.some.injEq, Prod.mk.injEq] at H
      obtain ⟨rfl, rfl, rfl⟩ := H
      go_wp2_with (first | ((with_reducible refine gate_callee (f := 20) rfl ?_); refine goesL_ (some 34) rfl rfl Try.func20 (by kernel_rfl) rfl #[] rfl (mapq rfl) ?_; (with_reducible refine (known_Any.calls  t137 t138 _ A48.out).mono ?_); rintro e w49 ⟨rfl, hb⟩; refine ⟨_, rfl, ?_⟩; replace BK129 := bb BK129 hb rfl; replace BK130 := bb BK130 hb rfl; replace BK131 := bb BK131 hb rfl; replace HB := hst HB hb rfl; (try clear hb); have hnb50 := NB131_129.out; have hnc50 := NB129_131.out; have hnb51 := NB131_130.out; have hnc51 := NB130_131.out; have hcz52_0 : w49.cell? ⟨gb131, 0, none⟩ = some (.bool x132000_3) := (blk_cell BK131.out 0).trans rfl; have hcz52_1 : w49.cell? ⟨gb131, 1, none⟩ = some (.int .i64 x132001_3) := (blk_cell BK131.out 1).trans rfl; have hfz52_0 := blk_frozen BK131.out 0; have hfz52_1 := blk_frozen BK131.out 1))
      refine bodyPost_ret (results_ct rfl _ _ gb131 24 #[.bool t137, .int .i64 t138] (0, 0) _ rfl (by (with_reducible repeat (first | refine blk_drewN ?_ _ | refine blk_drew ?_ | refine blk_alloc ?_ _)); refine blk_put (cs := #[.bool t137, .int .i64 x132001_3]) ?_ 1 _ rfl; (with_reducible repeat (first | refine blk_drewN ?_ _ | refine blk_drew ?_ | refine blk_alloc ?_ _)); refine blk_put (cs := #[.bool x132000_3, .int .i64 x132001_3]) ?_ 0 _ rfl; (with_reducible repeat (first | refine blk_drewN ?_ _ | refine blk_drew ?_ | refine blk_alloc ?_ _)); exact BK131.out) Try.underlying24 rfl (by kernel_rfl)) rfl ?_
      exact ⟨by first | rfl | (simp [errW_none, errW_some] <;> rfl) | (simp [*, errW_none, errW_some] <;> rfl), by repeat (first | (with_reducible first | exact HB.out | apply below_alloc | apply pw_below_drewN | apply below_drew1 | refine below_set ?_ GE129.out | refine below_set ?_ GE130.out | refine below_set ?_ GE131.out) | exact HB.out)⟩
     ·
      replace c47 := Bool.eq_false_iff.mpr c47
      subst c47
      rw [if_neg (show ¬ (false = true) by decide)] at H
      replace H := Option.bind_eq_some_iff.mp H
      obtain ⟨⟨t139, t140⟩, A530, H⟩ := H
      (try dsimp only at H)
      have A53 := Aside0.mk A530
      clear A530
      replace H := Option.bind_eq_some_iff.mp H
      obtain ⟨⟨t141, t142⟩, A540, H⟩ := H
      (try dsimp only at H)
      have A54 := Aside0.mk A540
      clear A540
      simp only [Option.some.injEq, Prod.mk.injEq] at H
      obtain ⟨rfl, rfl, rfl⟩ := H
      have hnb55 := NB129_130.out
      have hnc55 := NB130_129.out
      have hnb56 := NB129_131.out
      have hnc56 := NB131_129.out
      have hcz57_0 : wc.cell? ⟨gb129, 0, none⟩ = some (.bool a1_0) := bc BK129 0 rfl
      have hcz57_1 : wc.cell? ⟨gb129, 1, none⟩ = some (.int .i64 a1_1) := bc BK129 1 rfl
      have hfz57_0 := blk_frozen BK129.out 0
      have hfz57_1 := blk_frozen BK129.out 1
      have hnb58 := NB130_131.out
      have hnc58 := NB131_130.out
      have hcz59_0 : wc.cell? ⟨gb130, 0, none⟩ = some (.bool a2_0) := bc BK130 0 rfl
      have hcz59_1 : wc.cell? ⟨gb130, 1, none⟩ = some (.int .i64 a2_1) := bc BK130 1 rfl
      have hfz59_0 := blk_frozen BK130.out 0
      have hfz59_1 := blk_frozen BK130.out 1
      go_wp2_with (first | ((with_reducible refine gate_callee (f := 63) rfl ?_); refine goesL_ (some 41) rfl rfl Try.func63 (by kernel_rfl) rfl #[.int .i64 a0, .int .i64 a1_1, .int .i64 a2_1] rfl (mapq rfl) ?_; (with_reducible refine (vm_Arith.calls kj36 a0 a1_1 a2_1 t139 t140 _ A53.out).mono ?_); rintro e w' ⟨rfl, ⟨nd, rfl⟩⟩; refine ⟨_, rfl, ?_⟩; (try (rw [drewN_self wc]; generalize hq_ : World.drewN wc _ = wc; have n0_ : Aside0 (wc.heap[gb129]? = some (.cells #[.bool a1_0, .int .i64 a1_1] 24 (0, 0))) := ⟨by rw [← hq_]; exact (by (with_reducible repeat (first | refine blk_drewN ?_ _ | refine blk_drew ?_ | refine blk_alloc ?_ _)); exact BK129.out)⟩; have n1_ : Aside0 (wc.heap[gb130]? = some (.cells #[.bool a2_0, .int .i64 a2_1] 24 (0, 0))) := ⟨by rw [← hq_]; exact (by (with_reducible repeat (first | refine blk_drewN ?_ _ | refine blk_drew ?_ | refine blk_alloc ?_ _)); exact BK130.out)⟩; have n2_ : Aside0 (wc.heap[gb131]? = some (.cells #[.bool x132000_3, .int .i64 x132001_3] 24 (0, 0))) := ⟨by rw [← hq_]; exact (by (with_reducible repeat (first | refine blk_drewN ?_ _ | refine blk_drew ?_ | refine blk_alloc ?_ _)); exact BK131.out)⟩; have n3_ : Aside0 (Below w.heap.size w wc) := ⟨by rw [← hq_]; exact (by repeat (first | (with_reducible first | exact HB.out | apply below_alloc | apply pw_below_drewN | apply below_drew1 | refine below_set ?_ GE129.out | refine below_set ?_ GE130.out | refine below_set ?_ GE131.out) | exact HB.out))⟩; clear BK129 BK130 BK131 HB hq_; have BK129 := n0_; have BK130 := n1_; have BK131 := n2_; have HB := n3_; clear n0_ n1_ n2_ n3_))) | ((with_reducible refine gate_callee (f := 19) rfl ?_); refine goesL_ (some 45) rfl rfl Try.func19 (by kernel_rfl) rfl #[.int .i64 t139] rfl (mapq rfl) ?_; (with_reducible refine (known_Of.calls t139 t141 t142 _ A54.out).mono ?_); rintro e w60 ⟨rfl, hb⟩; refine ⟨_, rfl, ?_⟩; replace BK129 := bb BK129 hb rfl; replace BK130 := bb BK130 hb rfl; replace BK131 := bb BK131 hb rfl; replace HB := hst HB hb rfl; (try clear hb); have hcz61_0 : w60.cell? ⟨gb131, 0, none⟩ = some (.bool x132000_3) := (blk_cell BK131.out 0).trans rfl; have hcz61_1 : w60.cell? ⟨gb131, 1, none⟩ = some (.int .i64 x132001_3) := (blk_cell BK131.out 1).trans rfl; have hfz61_0 := blk_frozen BK131.out 0; have hfz61_1 := blk_frozen BK131.out 1))
      refine bodyPost_ret (results_ct rfl _ _ gb131 24 #[.bool t141, .int .i64 t142] (0, 0) _ rfl (by (with_reducible repeat (first | refine blk_drewN ?_ _ | refine blk_drew ?_ | refine blk_alloc ?_ _)); refine blk_put (cs := #[.bool t141, .int .i64 x132001_3]) ?_ 1 _ rfl; (with_reducible repeat (first | refine blk_drewN ?_ _ | refine blk_drew ?_ | refine blk_alloc ?_ _)); refine blk_put (cs := #[.bool x132000_3, .int .i64 x132001_3]) ?_ 0 _ rfl; (with_reducible repeat (first | refine blk_drewN ?_ _ | refine blk_drew ?_ | refine blk_alloc ?_ _)); exact BK131.out) Try.underlying24 rfl (by kernel_rfl)) rfl ?_
      exact ⟨by first | rfl | (simp [errW_none, errW_some] <;> rfl) | (simp [*, errW_none, errW_some] <;> rfl), by repeat (first | (with_reducible first | exact HB.out | apply below_alloc | apply pw_below_drewN | apply below_drew1 | refine below_set ?_ GE129.out | refine below_set ?_ GE130.out | refine below_set ?_ GE131.out) | exact HB.out)⟩

end Go.Proofs.Ytpacmhhaabhdjaa.KN
