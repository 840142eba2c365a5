/- The law AvermentFiles, in parts: this text is packed by program (names shortened). No condition. -/
import Derived.Test.YtdjkdmjdcdljmaaGreatDoorPF
set_option linter.unusedVariables false
set_option linter.unusedSimpArgs false
namespace Go.Proofs.YtdjkdmjdcdljmaaGreatDoor.AF
open Go.Proofs.q0a Go.Proofs.q0a.Runs
set_option maxRecDepth 100000
set_option maxHeartbeats 4000000
variable {K : Nat}
structure Tab (cells : List Int) (fs : List q0t) (is : List q0h) (cs : List q0d) (xs : List q0l) (ss : List LSum) : Prop where
  clen : cs.length = cells.length
  cells : ∀ v ∈ cs, Vr v
  flen : xs.length = fs.length
  funcs : ∀ (i : Nat) m x, fs[i]? = some m → xs[i]? = some x → Tf (q3p fs) m x
  ilen : ss.length = is.length
  sums : ∀ (i : Nat) m s, is[i]? = some m → ss[i]? = some s → Sr m.2 s
noncomputable def tl (K : Nat) (sp : Bool) (m : q0t) : List Int := (q4v.f K m.2.2.2 sp).getD []
structure Fm (K : Nat) (sp : Bool) (m : q0t) : Prop where
  regs : 1 ≤ m.2.2.1 ∧ m.2.2.1 ≤ 8
  nb : 1 ≤ m.2.2.2.length ∧ m.2.2.2.length ≤ 12
  ar : 0 ≤ m.2.1 ∧ m.2.1 ≤ 4
  told : q4v.f K m.2.2.2 sp = some (tl K sp m)
  q3x : q3x m.2.2.2.length (tl K sp m)
  cut : sp = true → q5g.f K m.2.2.2 = some (tl K sp m)
  all : sp = false → ∀ b, b < m.2.2.2.length → ((b : Nat) : Int) ∈ tl K sp m
theorem WF.fm (hK : 2000 ≤ K) {cells : List Int} {fs : List q0t} {is : List q0h} (h : WF cells fs is) (sp : Bool) : ∀ m ∈ fs, Fm K sp m := by
  intro m hm
  obtain ⟨a, b, c, d⟩ := h.shape m hm
  obtain ⟨T, t1, t2, t3, t4⟩ := told_val (K := K) hK (l := m.2.2.2) ⟨b.1, by omega⟩ (regs := m.2.2.1) (fun x hx => (d x hx).2.2) sp
  have e : tl K sp m = T := by simp [tl, t1]
  exact ⟨a, b, c, by rw [e]; exact t1, by rw [e]; exact t2, by rw [e]; exact t3, by rw [e]; exact t4⟩
noncomputable def q8r (K : Nat) (sp : Bool) (sites : Int) : List q0t → List q0l → List Int
  | m :: fs, x :: xs => sec (encF sites (tl K sp m) m x) ++ q8r K sp sites fs xs
  | _, _ => []
theorem z5n {sp : Bool} {sites : Int} (hs : 0 ≤ sites ∧ sites ≤ 1000) : ∀ {fs : List q0t} {xs : List q0l}, (∀ m ∈ fs, Fm K sp m) → (∀ (i : Nat) m x, fs[i]? = some m → xs[i]? = some x → Tf sites m x) → (q8r K sp sites fs xs).length ≤ 17200 * fs.length
  | [], xs, _, _ => by simp [q8r]
  | m :: fs, [], _, _ => by simp [q8r]
  | m :: fs, x :: xs, hm, hf => by
    have h1 := hm m (by simp)
    have h2 := j4a (hf 0 m x rfl rfl) ⟨by have := h1.regs; omega, h1.regs.2⟩ h1.ar hs h1.nb.2 h1.q3x
    have h3 := z48 (encF sites (tl K sp m) m x)
    have h4 := z5n hs (fs := fs) (xs := xs) (fun m' h => hm m' (by simp [h])) fun i m' x' a b => hf (i + 1) m' x' a b
    simp only [q8r, List.length_append, List.length_cons, Nat.mul_add]
    omega
theorem z7q : ∀ {is : List q0h} {ss : List LSum}, ss.length = is.length → (∀ m ∈ is, 0 ≤ m.2 ∧ m.2 ≤ 4) → (∀ (i : Nat) m s, is[i]? = some m → ss[i]? = some s → Sr m.2 s) → (ss.flatMap q48).length ≤ 280 * ss.length
  | [], [], _, _, _ => by simp
  | [], _ :: _, h, _, _ => by simp at h
  | _ :: _, [], h, _, _ => by simp at h
  | m :: is, s :: ss, h, hi, hs => by
    have h1 := z0x (hs 0 m s rfl rfl) (by have := hi m (by simp); omega)
    have h2 := z7q (is := is) (ss := ss) (by simpa using h) (fun m' h => hi m' (by simp [h])) fun i m' x' a b => hs (i + 1) m' x' a b
    simp only [List.flatMap_cons, List.length_append, List.length_cons]
    omega
theorem z9n (hK : 2000 ≤ K) {l : List q0d} (hl : l.length ≤ 1000) (hr : ∀ v ∈ l, Vr v) : ∀ (l2 l1 : List q0d) (k : Nat) (w : List Int), l = l1 ++ l2 → l2.length < k → w.length + 31 * l2.length + 60 ≤ 1000000 → q18.l0.f K k l ((l.length : Nat) : Int) ((l1.length : Nat) : Int) w = some (w ++ l2.flatMap encV)
  | l2, l1, 0, w, h, hk, hw => by omega
  | [], l1, k + 1, w, h, hk, hw => by
    rw [q18.l0.f]
    simp only [q2e h, cond_false, List.flatMap_nil, List.append_nil]
  | x :: l2, l1, k + 1, w, h, hk, hw => by
    rw [q18.l0.f]
    have hl1 : l1.length ≤ 1000 := by rw [h] at hl; simp at hl; omega
    have hx := hr x (by rw [h]; simp)
    have hlen := z2g x
    simp only [List.length_cons] at hw hk
    simp only [q2b h, ge0, q2w h, cond_true, q0c, j1d hK hx (w := w) (by omega), q0y (l1 := l1) (x := x) (by omega)]
    rw [z9n hK hl hr l2 (l1 ++ [x]) k _ (q09 h) (by omega) (by simp only [List.length_append]; omega)]
    simp
theorem j0j (hK : 2000 ≤ K) {is : List q0h} {ss : List LSum} (hl : ss.length ≤ 1000) (hlen : ss.length = is.length) (hi : ∀ m ∈ is, 0 ≤ m.2 ∧ m.2 ≤ 4) (hs : ∀ (i : Nat) m s, is[i]? = some m → ss[i]? = some s → Sr m.2 s) : ∀ (s2 s1 : List LSum) (k : Nat) (w : List Int), ss = s1 ++ s2 → s2.length < k → w.length + 280 * s2.length + 600 ≤ 1000000 → q18.l3.f K k ss ((ss.length : Nat) : Int) ((s1.length : Nat) : Int) w = some (w ++ s2.flatMap q48)
  | s2, s1, 0, w, h, hk, hw => by omega
  | [], s1, k + 1, w, h, hk, hw => by
    rw [q18.l3.f]
    simp only [q2e h, cond_false, List.flatMap_nil, List.append_nil]
  | x :: s2, s1, k + 1, w, h, hk, hw => by
    rw [q18.l3.f]
    have hl1 : s1.length < is.length := by rw [← hlen, h]; simp
    have hm : is[s1.length]? = some is[s1.length] := List.getElem?_eq_getElem hl1
    have hx : Sr is[s1.length].2 x := hs s1.length _ x hm (by rw [h]; simp)
    have ha := hi _ (List.getElem_mem hl1)
    have hln := z0x hx (by omega)
    simp only [List.length_cons] at hw hk
    simp only [q2b h, ge0, q2w h, cond_true, q0c, sum_val hK (a := is[s1.length].2) (by omega) hx (w := w) (by omega), q0y (l1 := s1) (x := x) (by omega)]
    rw [j0j hK hl hlen hi hs s2 (s1 ++ [x]) k _ (q09 h) (by omega) (by simp only [List.length_append]; omega)]
    simp
theorem z9z (hK : 2000 ≤ K) {sp : Bool} {sites : Int} (hs : 0 ≤ sites ∧ sites ≤ 1000) {fs : List q0t} {xs : List q0l} (hl : fs.length ≤ 1000) (hm : ∀ m ∈ fs, Fm K sp m) (hf : ∀ (i : Nat) m x, fs[i]? = some m → xs[i]? = some x → Tf sites m x) : ∀ (f2 f1 : List q0t) (x2 x1 : List q0l) (k : Nat) (w : List Int), fs = f1 ++ f2 → xs = x1 ++ x2 → f1.length = x1.length → f2.length = x2.length → f2.length < k → w.length + 17200 * f2.length + 30000 ≤ 1000000 →
    q18.l1.f K k sp sites xs ((xs.length : Nat) : Int) ((x1.length : Nat) : Int) fs w = some (w ++ q8r K sp sites f2 x2)
  | f2, f1, x2, x1, 0, w, h1, h2, h3, h4, hk, hw => by omega
  | [], f1, [], x1, k + 1, w, h1, h2, h3, h4, hk, hw => by
    rw [q18.l1.f]
    simp only [q2e h2, cond_false, q8r, List.append_nil]
  | [], f1, _ :: _, x1, k + 1, w, h1, h2, h3, h4, hk, hw => by simp at h4
  | _ :: _, f1, [], x1, k + 1, w, h1, h2, h3, h4, hk, hw => by simp at h4
  | m :: f2, f1, x :: x2, x1, k + 1, w, h1, h2, h3, h4, hk, hw => by
    rw [q18.l1.f]
    have hl1 : x1.length ≤ 1000 := by rw [h1] at hl; simp at hl; omega
    have hmi : fs[x1.length]? = some m := by rw [h1, ← h3]; simp
    have hxi : xs[x1.length]? = some x := by rw [h2]; simp
    have hM := hm m (by rw [h1]; simp)
    have hF := hf _ m x hmi hxi
    have hR : 0 ≤ m.2.2.1 ∧ m.2.2.1 ≤ 8 := ⟨by have := hM.regs; omega, hM.regs.2⟩
    have hTl := q5j hM.q3x
    have hnb := hM.nb
    have hfl := j4a hF hR hM.ar hs hM.nb.2 hM.q3x
    have hsl := z0x hF.sum (by have := hM.ar; omega)
    simp only [List.length_cons] at h4 hk hw
    have g1 := sum_val (K := K) hK (a := m.2.1) (s := x.1) (w := []) (by have := hM.ar; omega) hF.sum (by simp)
    simp only [List.nil_append] at g1
    have g2 := z9j (K := K) hK hmi hF hR hs (T := tl K sp m) (by omega) hM.q3x.2 (tl K sp m) [] K (q48 x.1) rfl (by omega) (by omega)
    simp only [q2b h2, ge0, Int.toNat_natCast, hmi, hxi, cond_true, q0c, q5w.f, g1, hM.told, q0y (l1 := x1) (x := x) (by omega)]
    rw [show q18.l2.f K K sites ((x1.length : Nat) : Int) (tl K sp m) (((tl K sp m).length : Nat) : Int) (0 : Int) fs x.2 (q48 x.1) = _ from g2, q0c, show q48 x.1 ++ encT sites m x (tl K sp m) = encF sites (tl K sp m) m x from rfl, z01 (by omega), q0c, j15 hK (by omega), q0c]
    have hse := z48 (encF sites (tl K sp m) m x)
    rw [z9z hK hs hl hm hf f2 (f1 ++ [m]) x2 (x1 ++ [x]) k _ (q09 h1) (q09 h2) (by simp [h3]) (by omega) (by omega) (by simp only [List.length_append]; omega)]
    simp [q8r]
theorem j3j (hK : 2000 ≤ K) {n : Nat} {l post : List Int} (hl : l.length ≤ 1000000) (hn : n ≤ 1000) : ∀ (r acc : List q0d) (pre : List Int) (k : Nat), l = pre ++ (r.flatMap encV ++ post) → acc.length + r.length = n → r.length < k → (∀ v ∈ r, Vr v) →
    q3q.l0.f K k ((n : Nat) : Int) ((acc.length : Nat) : Int) Err.nil l ((pre.length : Nat) : Int) acc = some (Err.nil, (((pre ++ r.flatMap encV).length : Nat) : Int), acc ++ r)
  | r, acc, pre, 0, h, hr, hk, hv => by omega
  | [], acc, pre, k + 1, h, hr, hk, hv => by
    rw [q3q.l0.f]
    have e : decide (((acc.length : Nat) : Int) < ((n : Nat) : Int)) = false := decide_eq_false (by simp at hr; omega)
    simp only [e, cond_false, List.flatMap_nil, List.append_nil]
  | x :: r, acc, pre, k + 1, h, hr, hk, hv => by
    rw [q3q.l0.f]
    simp only [List.length_cons] at hr hk
    have e : decide (((acc.length : Nat) : Int) < ((n : Nat) : Int)) = true := decide_eq_true (by omega)
    have h' : l = pre ++ (encV x ++ (r.flatMap encV ++ post)) := by rw [h]; simp
    simp only [e, cond_true, q9z hK h' hl (hv x (by simp)), q0c, q2p (l := acc) (x := (x.1, (x.2.1.1, x.2.1.2), (x.2.2.1.1, x.2.2.1.2), x.2.2.2)) (n := 1000000) (by omega), q0y (l1 := acc) (x := x) (by omega)]
    rw [show (acc ++ [(x.1, (x.2.1.1, x.2.1.2), (x.2.2.1.1, x.2.2.1.2), x.2.2.2)]) = acc ++ [x] from rfl, j3j (post := post) hK hl hn r (acc ++ [x]) (pre ++ encV x) k (by rw [h']; simp) (by simp; omega) (by omega) (fun v hv' => hv v (by simp [hv']))]
    simp
theorem j30 (hK : 2000 ≤ K) {is : List q0h} {ss : List LSum} {l post : List Int} (hll : l.length ≤ 1000000) (hl : ss.length ≤ 1000) (hi : ∀ m ∈ is, 0 ≤ m.2 ∧ m.2 ≤ 4) (hs : ∀ (i : Nat) m s, is[i]? = some m → ss[i]? = some s → Sr m.2 s) : ∀ (i2 i1 : List q0h) (s2 s1 : List LSum) (k : Nat) (pre : List Int), is = i1 ++ i2 → ss = s1 ++ s2 → i1.length = s1.length → i2.length = s2.length → i2.length < k → l = pre ++ (s2.flatMap q48 ++ post) →
    q3q.l2.f K k is ((is.length : Nat) : Int) ((i1.length : Nat) : Int) Err.nil l ((pre.length : Nat) : Int) s1 = some (Err.nil, (((pre ++ s2.flatMap q48).length : Nat) : Int), s1 ++ s2)
  | i2, i1, s2, s1, 0, pre, h1, h2, h3, h4, hk, hd => by omega
  | [], i1, [], s1, k + 1, pre, h1, h2, h3, h4, hk, hd => by
    rw [q3q.l2.f]
    simp only [q2e h1, cond_false, List.flatMap_nil, List.append_nil]
  | [], i1, _ :: _, s1, k + 1, pre, h1, h2, h3, h4, hk, hd => by simp at h4
  | _ :: _, i1, [], s1, k + 1, pre, h1, h2, h3, h4, hk, hd => by simp at h4
  | m :: i2, i1, s :: s2, s1, k + 1, pre, h1, h2, h3, h4, hk, hd => by
    rw [q3q.l2.f]
    have hl1 : i1.length ≤ 1000 := by rw [h3]; rw [h2] at hl; simp at hl; omega
    have hmi : is[i1.length]? = some m := by rw [h1]; simp
    have hsi : ss[i1.length]? = some s := by rw [h2, h3]; simp
    have hS := hs _ m s hmi hsi
    have ha := hi m (by rw [h1]; simp)
    simp only [List.length_cons] at h4 hk
    have hd' : l = pre ++ (q48 s ++ (s2.flatMap q48 ++ post)) := by rw [hd]; simp
    simp only [q2b h1, ge0, q2w h1, cond_true, q0c, takeSum hK (a := m.2) (by omega) hS hd' hll, q2p (l := s1) (x := (s.1, s.2.1, s.2.2.1, s.2.2.2.1, (s.2.2.2.2.1.1, s.2.2.2.2.1.2), (s.2.2.2.2.2.1.1, s.2.2.2.2.2.1.2), s.2.2.2.2.2.2)) (n := 1000000) (by omega), q0y (l1 := i1) (x := m) (by omega)]
    rw [show s1 ++ [(s.1, s.2.1, s.2.2.1, s.2.2.2.1, (s.2.2.2.2.1.1, s.2.2.2.2.1.2), (s.2.2.2.2.2.1.1, s.2.2.2.2.2.1.2), s.2.2.2.2.2.2)] = s1 ++ [s] from rfl, j30 (post := post) hK hll hl hi hs i2 (i1 ++ [m]) s2 (s1 ++ [s]) k (pre ++ q48 s) (q09 h1) (q09 h2) (by simp [h3]) (by omega) (by omega) (by rw [hd']; simp)]
    simp
theorem j3c (hK : 2000 ≤ K) {sp : Bool} {sites : Int} (hs : 0 ≤ sites ∧ sites ≤ 1000) {fs : List q0t} {xs : List q0l} {l post : List Int} (hll : l.length ≤ 1000000) (hl : fs.length ≤ 1000) (hm : ∀ m ∈ fs, Fm K sp m) (hf : ∀ (i : Nat) m x, fs[i]? = some m → xs[i]? = some x → Tf sites m x)
    (hz : ∀ (i : Nat) m x, fs[i]? = some m → xs[i]? = some x → ∀ j : Nat, j < m.2.2.2.length → ((j : Nat) : Int) ∉ tl K sp m → x.2[j]? = some q62) : ∀ (f2 f1 : List q0t) (x2 x1 : List q0l) (k : Nat) (pre : List Int), fs = f1 ++ f2 → xs = x1 ++ x2 → f1.length = x1.length → f2.length = x2.length → f2.length < k → l = pre ++ (q8r K sp sites f2 x2 ++ post) →
    q3q.l1.f K k sp sites fs ((fs.length : Nat) : Int) ((f1.length : Nat) : Int) Err.nil l ((pre.length : Nat) : Int) x1 = some (Err.nil, (((pre ++ q8r K sp sites f2 x2).length : Nat) : Int), x1 ++ x2)
  | f2, f1, x2, x1, 0, pre, h1, h2, h3, h4, hk, hd => by omega
  | [], f1, [], x1, k + 1, pre, h1, h2, h3, h4, hk, hd => by
    rw [q3q.l1.f]
    simp only [q2e h1, cond_false, q8r, List.append_nil]
  | [], f1, _ :: _, x1, k + 1, pre, h1, h2, h3, h4, hk, hd => by simp at h4
  | _ :: _, f1, [], x1, k + 1, pre, h1, h2, h3, h4, hk, hd => by simp at h4
  | m :: f2, f1, x :: x2, x1, k + 1, pre, h1, h2, h3, h4, hk, hd => by
    rw [q3q.l1.f]
    have hl1 : f1.length ≤ 1000 := by rw [h1] at hl; simp at hl; omega
    have hmi : fs[f1.length]? = some m := by rw [h1]; simp
    have hxi : xs[f1.length]? = some x := by rw [h2, h3]; simp
    have hM := hm m (by rw [h1]; simp)
    have hF := hf _ m x hmi hxi
    have hR : 0 ≤ m.2.2.1 ∧ m.2.2.1 ≤ 8 := ⟨by have := hM.regs; omega, hM.regs.2⟩
    simp only [List.length_cons] at h4 hk
    have hd' : l = pre ++ (sec (encF sites (tl K sp m) m x) ++ (q8r K sp sites f2 x2 ++ post)) := by rw [hd]; simp [q8r]
    simp only [q2b h1, ge0, q2w h1, cond_true, q0c, takeF hK hF hR hM.ar hs hM.nb.2 hM.told hM.q3x (hz _ m x hmi hxi) hd' hll, q2p (l := x1) (x := ((x.1.1, x.1.2.1, x.1.2.2.1, x.1.2.2.2.1, (x.1.2.2.2.2.1.1, x.1.2.2.2.2.1.2), (x.1.2.2.2.2.2.1.1, x.1.2.2.2.2.2.1.2), x.1.2.2.2.2.2.2), x.2)) (n := 1000000) (by omega), q0y (l1 := f1) (x := m) (by omega)]
    rw [show x1 ++ [((x.1.1, x.1.2.1, x.1.2.2.1, x.1.2.2.2.1, (x.1.2.2.2.2.1.1, x.1.2.2.2.2.1.2), (x.1.2.2.2.2.2.1.1, x.1.2.2.2.2.2.1.2), x.1.2.2.2.2.2.2), x.2)] = x1 ++ [x] from rfl, j3c (post := post) hK hs hll hl hm hf hz f2 (f1 ++ [m]) x2 (x1 ++ [x]) k (pre ++ sec (encF sites (tl K sp m) m x)) (q09 h1) (q09 h2) (by simp [h3]) (by omega) (by omega) (by rw [hd']; simp)]
    simp [q8r]
end Go.Proofs.YtdjkdmjdcdljmaaGreatDoor.AF
namespace Go.Proofs.YtdjkdmjdcdljmaaGreatDoor.AF
open Go.Proofs.q0a Go.Proofs.q0a.Runs
set_option maxRecDepth 100000
set_option maxHeartbeats 4000000
variable {K : Nat}
theorem q7o {a : Int} : (a != a) = false := by simp
theorem z6b {v : q0d} (h : Vr v) : q6k.f K v.1 v.2.1.1 v.2.1.2 v.2.2.1.1 v.2.2.1.2 v.2.2.2 = some false := by
  simp only [q6k.f, z03 h, q0c, Bool.not_true]
theorem j45 {v : q0d} (h : Vr v) : q7s.f K v.1 v.2.1.1 v.2.1.2 v.2.2.1.1 v.2.2.1.2 v.2.2.2 = some false := by
  simp only [q7s.f, z03 h, q0c, Bool.not_true]
theorem idxT_l0 {l : List q0d} (hl : l.length ≤ 1000) (hr : ∀ v ∈ l, Vr v) : ∀ (l2 l1 : List q0d) (k : Nat), l = l1 ++ l2 → l2.length < k → q1e.l0.f K k l ((l.length : Nat) : Int) ((l1.length : Nat) : Int) = some (.inl ())
  | l2, l1, 0, h, hk => by omega
  | [], l1, k + 1, h, hk => by
    rw [q1e.l0.f]
    simp only [q2e h, cond_false]
  | x :: l2, l1, k + 1, h, hk => by
    rw [q1e.l0.f]
    have hl1 : l1.length ≤ 1000 := by rw [h] at hl; simp at hl; omega
    simp only [List.length_cons] at hk
    simp only [q2b h, ge0, q2w h, cond_true, cond_false, q0c, z6b (hr x (by rw [h]; simp)), q0y (l1 := l1) (x := x) (by omega)]
    exact idxT_l0 hl hr l2 (l1 ++ [x]) k (q09 h) (by omega)
theorem idxS_l0 {l : List q0d} (hl : l.length ≤ 1000) (hr : ∀ v ∈ l, Vr v) : ∀ (l2 l1 : List q0d) (k : Nat), l = l1 ++ l2 → l2.length < k → q1d.l0.f K k l ((l.length : Nat) : Int) ((l1.length : Nat) : Int) = some (.inl ())
  | l2, l1, 0, h, hk => by omega
  | [], l1, k + 1, h, hk => by
    rw [q1d.l0.f]
    simp only [q2e h, cond_false]
  | x :: l2, l1, k + 1, h, hk => by
    rw [q1d.l0.f]
    have hl1 : l1.length ≤ 1000 := by rw [h] at hl; simp at hl; omega
    simp only [List.length_cons] at hk
    simp only [q2b h, ge0, q2w h, cond_true, cond_false, q0c, j45 (hr x (by rw [h]; simp)), q0y (l1 := l1) (x := x) (by omega)]
    exact idxS_l0 hl hr l2 (l1 ++ [x]) k (q09 h) (by omega)
theorem contT_val (hK : 2000 ≤ K) {l : List q0d} (hl : l.length ≤ 1000) (hr : ∀ v ∈ l, Vr v) : q1p.f K l = some false := by
  unfold q1p.f q1e.f
  rw [show q1e.l0.f K K l ((l.length : Nat) : Int) (0 : Int) = _ from idxT_l0 (K := K) hl hr l [] K rfl (by omega)]
  rfl
theorem contS_val (hK : 2000 ≤ K) {l : List q0d} (hl : l.length ≤ 1000) (hr : ∀ v ∈ l, Vr v) : q1o.f K l = some false := by
  unfold q1o.f q1d.f
  rw [show q1d.l0.f K K l ((l.length : Nat) : Int) (0 : Int) = _ from idxS_l0 (K := K) hl hr l [] K rfl (by omega)]
  rfl
theorem j2w (hK : 2000 ≤ K) {a : Int} {s : LSum} (ha : 0 ≤ a ∧ a ≤ 8) (h : Sr a s) : q8u.f K s.1 s.2.1 s.2.2.1 s.2.2.2.1 s.2.2.2.2.1.1 s.2.2.2.2.1.2 s.2.2.2.2.2.1.1 s.2.2.2.2.2.1.2 s.2.2.2.2.2.2 a = some 0 := by
  have hlen := h.len ha
  obtain ⟨h1, h2, h3, h4, h5⟩ := h
  obtain ⟨c, args, r, res⟩ := s
  dsimp only at *
  unfold q8u.f
  have hc := contT_val (K := K) hK (l := args) (by omega) h3
  cases r with
  | true =>
    have hw := z6b (K := K) (h4 rfl)
    cases c with
    | true =>
      have e := h2 rfl
      rw [← e]
      simp only [Bool.not_true, cond_true, cond_false, q7o, hc, q0c, hw, q03]
    | false =>
      have e := h1 rfl
      subst e
      simp only [Bool.not_true, Bool.not_false, cond_true, cond_false, List.length_nil, show ((((0 : Nat) : Int)) != 0) = false from rfl, hc, q0c, hw, q03]
  | false =>
    have hz := h5 rfl
    subst hz
    cases c with
    | true =>
      have e := h2 rfl
      rw [← e]
      simp only [Bool.not_true, Bool.not_false, cond_true, cond_false, q7o, hc, q0c, q03]
      rfl
    | false =>
      have e := h1 rfl
      subst e
      simp only [Bool.not_true, Bool.not_false, cond_true, cond_false, List.length_nil, show ((((0 : Nat) : Int)) != 0) = false from rfl, hc, q0c, q03]
      rfl
theorem z96 (hK : 2000 ≤ K) {n : Int} (hn : 0 ≤ n ∧ n ≤ 1000) {l : List (List Int)} (hl : l.length ≤ 1000) (hr : ∀ s ∈ l, q3x n s) : ∀ (l2 l1 : List (List Int)) (k : Nat), l = l1 ++ l2 → l2.length < k → q5l.l0.f K k n l ((l.length : Nat) : Int) ((l1.length : Nat) : Int) = some (.inl ())
  | l2, l1, 0, h, hk => by omega
  | [], l1, k + 1, h, hk => by
    rw [q5l.l0.f]
    simp only [q2e h, cond_false]
  | x :: l2, l1, k + 1, h, hk => by
    rw [q5l.l0.f]
    have hl1 : l1.length ≤ 1000 := by rw [h] at hl; simp at hl; omega
    simp only [List.length_cons] at hk
    simp only [q2b h, ge0, q2w h, cond_true, cond_false, q0c, z0y hK hn (hr x (by rw [h]; simp)), Bool.not_true, q0y (l1 := l1) (x := x) (by omega)]
    exact z96 hK hn hl hr l2 (l1 ++ [x]) k (q09 h) (by omega)
theorem j1a (hK : 2000 ≤ K) {regs sites : Int} {x : q0j} (hr : 0 ≤ regs ∧ regs ≤ 8) (hs : 0 ≤ sites ∧ sites ≤ 1000) (h : Br regs sites x) : q5l.f K x.1.1 x.1.2.1 x.1.2.2 regs sites = some true := by
  obtain ⟨q1, q2⟩ := h.len hr
  obtain ⟨h1, h2, h3, h4, h5⟩ := h
  unfold q5l.f
  have g := z96 (K := K) hK hs (l := x.1.2.2) (by omega) h4 x.1.2.2 [] K rfl (by omega)
  have g' : q5l.l0.f K K sites x.1.2.2 ((x.1.2.2.length : Nat) : Int) (0 : Int) = some (.inl ()) := g
  have c := contS_val (K := K) hK (l := x.1.2.1) (by omega) h3
  cases hx : x.1.1 with
  | true =>
    obtain ⟨e1, e2⟩ := h2 hx
    have b1 : (((x.1.2.1.length : Nat) : Int) != regs) = false := by rw [e1]; exact q7o
    have b2 : (((x.1.2.2.length : Nat) : Int) != regs) = false := by rw [e2]; exact q7o
    simp only [Bool.not_true, cond_false, b1, b2, q03, q0c, g', Sum.elim_inl, c, Bool.not_false]
  | false =>
    obtain ⟨e1, e2⟩ := h1 hx
    have b1 : (((x.1.2.1.length : Nat) : Int) != 0) = false := by rw [e1]; rfl
    have b2 : (((x.1.2.2.length : Nat) : Int) != 0) = false := by rw [e2]; rfl
    simp only [Bool.not_false, cond_true, cond_false, b1, b2, q03, q0c, g', Sum.elim_inl, c]
theorem j4p (hK : 2000 ≤ K) {regs sites : Int} {x : q0j} {sp cut : Bool} (hr : 0 ≤ regs ∧ regs ≤ 8) (hs : 0 ≤ sites ∧ sites ≤ 1000) (h : Br regs sites x) (hz : sp = true → cut = false → x = q62) : q40.f K sites sp regs x.1.1 x.1.2.1 x.1.2.2 x.2 cut = some 0 := by
  have hR := j1a (K := K) hK hr hs h
  have hB := z0y (K := K) hK (n := regs) (by omega) h.live
  unfold q40.f
  have last : (q1c (bif sp then bif !cut then bif x.1.1 then some true else some (decide (((x.2.length : Nat) : Int) > 0)) else some false else some false) fun t => bif t then some (12 : Int) else some 0) = some 0 := by
    cases sp with
    | false => rfl
    | true => cases cut with
      | true => rfl
      | false => rw [hz rfl rfl]; rfl
  cases hx : x.1.1 with
  | true =>
    obtain ⟨e1, e2⟩ := h.on hx
    have b1 : (((x.1.2.1.length : Nat) : Int) != regs) = false := by rw [e1]; exact q7o
    have b2 : (((x.1.2.2.length : Nat) : Int) != regs) = false := by rw [e2]; exact q7o
    rw [hx] at hR last
    simp only [cond_true, cond_false, b1, b2, q0c, hR, hB, Bool.not_true]
    rw [q2c, cond_false]
    exact last
  | false =>
    obtain ⟨e1, e2⟩ := h.off hx
    have b1 : (((x.1.2.1.length : Nat) : Int) != 0) = false := by rw [e1]; rfl
    have b2 : (((x.1.2.2.length : Nat) : Int) != 0) = false := by rw [e2]; rfl
    rw [hx] at hR last
    simp only [cond_false, b1, b2, q0c, hR, hB, Bool.not_true]
    rw [q2c, cond_false]
    exact last
theorem j22 (hK : 2000 ≤ K) {sites : Int} (hs : 0 ≤ sites ∧ sites ≤ 1000) {m : q0t} {x : q0l} {sp : Bool} {C : List Int} (hr : 0 ≤ m.2.2.1 ∧ m.2.2.1 ≤ 8) (hnb : m.2.2.2.length ≤ 12) (h : Tf sites m x) (hC : q3x m.2.2.2.length C) (hz : sp = true → ∀ j : Nat, j < m.2.2.2.length → ((j : Nat) : Int) ∉ C → x.2[j]? = some q62) : ∀ (l2 l1 : List q0j) (k : Nat), x.2 = l1 ++ l2 → l2.length < k → q2m.l0.f K k C x.2 ((x.2.length : Nat) : Int) ((l1.length : Nat) : Int) sites sp m.2.2.1 = some (.inl ())
  | l2, l1, 0, hh, hk => by omega
  | [], l1, k + 1, hh, hk => by
    rw [q2m.l0.f]
    simp only [q2e hh, cond_false]
  | y :: l2, l1, k + 1, hh, hk => by
    rw [q2m.l0.f]
    have hlen := h.len
    have hl1 : l1.length < m.2.2.2.length := by rw [← hlen, hh]; simp
    have hy : x.2[l1.length]? = some y := by rw [hh]; simp
    simp only [List.length_cons] at hk
    simp only [q2b hh, ge0, q2w hh, cond_true, q0c, j26 hK (by omega) hC, j4p hK hr hs (h.blocks y (by rw [hh]; simp)) (sp := sp) (cut := decide (((l1.length : Nat) : Int) ∈ C)) (fun h1 h2 => by
      have := hz h1 l1.length hl1 (by simpa using h2)
      rw [hy] at this; cases this; rfl), show ((0 : Int) != 0) = false from rfl, cond_false, q0y (l1 := l1) (x := y) (by omega)]
    exact j22 hK hs hr hnb h hC hz l2 (l1 ++ [y]) k (q09 hh) (by omega)
theorem cfunc_val (hK : 2000 ≤ K) {sites : Int} (hs : 0 ≤ sites ∧ sites ≤ 1000) {m : q0t} {x : q0l} {sp : Bool} (hm : Fm K sp m) (hc : ∃ C, q5g.f K m.2.2.2 = some C ∧ q3x m.2.2.2.length C) (h : Tf sites m x) (hz : ∀ j : Nat, j < m.2.2.2.length → ((j : Nat) : Int) ∉ tl K sp m → x.2[j]? = some q62) :
    q2m.f K sites sp m.2.1 m.2.2.1 m.2.2.2 x.1.1 x.1.2.1 x.1.2.2.1 x.1.2.2.2.1 x.1.2.2.2.2.1.1 x.1.2.2.2.2.1.2 x.1.2.2.2.2.2.1.1 x.1.2.2.2.2.2.1.2 x.1.2.2.2.2.2.2 x.2 = some Err.nil := by
  obtain ⟨C, c1, c2⟩ := hc
  have hlen := h.len
  have hnb := hm.nb
  have hR : 0 ≤ m.2.2.1 ∧ m.2.2.1 ≤ 8 := ⟨by have := hm.regs; omega, hm.regs.2⟩
  unfold q2m.f
  have g := j22 (K := K) hK hs (sp := sp) hR hm.nb.2 h c2 (fun hsp j hj hn => hz j hj (by
    have := hm.cut hsp
    rw [c1] at this
    cases this
    exact hn)) x.2 [] K rfl (by omega)
  have g' : q2m.l0.f K K C x.2 ((x.2.length : Nat) : Int) (0 : Int) sites sp m.2.2.1 = some (.inl ()) := g
  have e : (((x.2.length : Nat) : Int) != ((m.2.2.2.length : Nat) : Int)) = false := by rw [hlen]; exact q7o
  simp only [j2w hK (a := m.2.1) (by have := hm.ar; omega) h.sum, q0c, show ((0 : Int) != 0) = false from rfl, cond_false, e, c1, g', Sum.elim_inl]
theorem j0n {l : List q0d} (hl : l.length ≤ 1000) (hr : ∀ v ∈ l, Vr v) : ∀ (l2 l1 : List q0d) (k : Nat), l = l1 ++ l2 → l2.length < k → q3j.l0.f K k l ((l.length : Nat) : Int) ((l1.length : Nat) : Int) = some (.inl ())
  | l2, l1, 0, h, hk => by omega
  | [], l1, k + 1, h, hk => by
    rw [q3j.l0.f]
    simp only [q2e h, cond_false]
  | x :: l2, l1, k + 1, h, hk => by
    rw [q3j.l0.f]
    have hl1 : l1.length ≤ 1000 := by rw [h] at hl; simp at hl; omega
    simp only [List.length_cons] at hk
    simp only [q2b h, ge0, q2w h, cond_true, cond_false, q0c, z03 (hr x (by rw [h]; simp)), Bool.not_true, q0y (l1 := l1) (x := x) (by omega)]
    exact j0n hl hr l2 (l1 ++ [x]) k (q09 h) (by omega)
theorem j0m (hK : 2000 ≤ K) {is : List q0h} {ss : List LSum} (hl : ss.length ≤ 1000) (hlen : ss.length = is.length) (hi : ∀ m ∈ is, 0 ≤ m.2 ∧ m.2 ≤ 4) (hs : ∀ (i : Nat) m s, is[i]? = some m → ss[i]? = some s → Sr m.2 s) : ∀ (s2 s1 : List LSum) (k : Nat), ss = s1 ++ s2 → s2.length < k → q3j.l2.f K k ss ((ss.length : Nat) : Int) ((s1.length : Nat) : Int) is = some (.inl ())
  | s2, s1, 0, h, hk => by omega
  | [], s1, k + 1, h, hk => by
    rw [q3j.l2.f]
    simp only [q2e h, cond_false]
  | x :: s2, s1, k + 1, h, hk => by
    rw [q3j.l2.f]
    have hl1 : s1.length < is.length := by rw [← hlen, h]; simp
    have hm : is[s1.length]? = some is[s1.length] := List.getElem?_eq_getElem hl1
    have hxi : ss[s1.length]? = some x := by rw [h]; simp
    have hx : Sr is[s1.length].2 x := hs s1.length _ x hm hxi
    have ha := hi _ (List.getElem_mem hl1)
    simp only [List.length_cons] at hk
    simp only [q2b h, ge0, Int.toNat_natCast, hxi, hm, cond_true, cond_false, q0c, j2w hK (a := is[s1.length].2) (by omega) hx, show ((0 : Int) != 0) = false from rfl, q0y (l1 := s1) (x := x) (by omega)]
    exact j0m hK hl hlen hi hs s2 (s1 ++ [x]) k (q09 h) (by omega)
theorem z85 (hK : 2000 ≤ K) {sp : Bool} {sites : Int} (hs : 0 ≤ sites ∧ sites ≤ 1000) {fs : List q0t} {xs : List q0l} (hl : fs.length ≤ 1000) (hlen : xs.length = fs.length) (hm : ∀ m ∈ fs, Fm K sp m) (hc : ∀ m ∈ fs, ∃ C, q5g.f K m.2.2.2 = some C ∧ q3x m.2.2.2.length C) (hf : ∀ (i : Nat) m x, fs[i]? = some m → xs[i]? = some x → Tf sites m x)
    (hz : ∀ (i : Nat) m x, fs[i]? = some m → xs[i]? = some x → ∀ j : Nat, j < m.2.2.2.length → ((j : Nat) : Int) ∉ tl K sp m → x.2[j]? = some q62) : ∀ (x2 x1 : List q0l) (k : Nat), xs = x1 ++ x2 → x2.length < k → q3j.l1.f K k xs ((xs.length : Nat) : Int) ((x1.length : Nat) : Int) fs sites sp = some (.inl ())
  | x2, x1, 0, h, hk => by omega
  | [], x1, k + 1, h, hk => by
    rw [q3j.l1.f]
    simp only [q2e h, cond_false]
  | x :: x2, x1, k + 1, h, hk => by
    rw [q3j.l1.f]
    have hl1 : x1.length < fs.length := by rw [← hlen, h]; simp
    have hmi : fs[x1.length]? = some fs[x1.length] := List.getElem?_eq_getElem hl1
    have hxi : xs[x1.length]? = some x := by rw [h]; simp
    have hmem := List.getElem_mem hl1
    simp only [List.length_cons] at hk
    simp only [q2b h, ge0, Int.toNat_natCast, hxi, hmi, cond_true, cond_false, q0c, cfunc_val hK hs (hm _ hmem) (hc _ hmem) (hf _ _ x hmi hxi) (hz _ _ x hmi hxi), Err.isNil, Bool.not_true, q0y (l1 := x1) (x := x) (by omega)]
    exact z85 hK hs hl hlen hm hc hf hz x2 (x1 ++ [x]) k (q09 h) (by omega)
theorem WF.ims {cells : List Int} {fs : List q0t} {is : List q0h} (h : WF cells fs is) (hw : wide cells fs) : ∀ m ∈ is, 0 ≤ m.2 ∧ m.2 ≤ 4 := fun m hm => (((h.low hw).imports m hm).2)
theorem z16 {cells : List Int} {fs : List q0t} {is : List q0h} (h : WF cells fs is) (hs : q3p fs ≤ 200) : 0 ≤ ((q3p fs : Nat) : Int) ∧ ((q3p fs : Nat) : Int) ≤ 1000 := by omega
theorem j5a (hK : 2000 ≤ K) {cells : List Int} {fs : List q0t} {is : List q0h} {cs : List q0d} {xs : List q0l} {ss : List LSum} {sp : Bool} (h : WF cells fs is) (hw : wide cells fs) (hs : q3p fs ≤ 200) (ht : Tab cells fs is cs xs ss)
    (hz : ∀ (i : Nat) m x, fs[i]? = some m → xs[i]? = some x → ∀ j : Nat, j < m.2.2.2.length → ((j : Nat) : Int) ∉ tl K sp m → x.2[j]? = some q62) : q3j.f K cells fs is cs xs ss sp = some Err.nil := by
  obtain ⟨t1, t2, t3, t4, t5, t6⟩ := ht
  have hn := h.ncells
  have hcnt := h.count
  have hS := z16 h hs
  unfold q3j.f
  have g0 := j0n (K := K) (l := cs) (by omega) t2 cs [] K rfl (by omega)
  have g0' : q3j.l0.f K K cs ((cs.length : Nat) : Int) (0 : Int) = some (.inl ()) := g0
  have g1 := z85 (K := K) hK hS (sp := sp) (by omega) t3 (h.fm hK sp) (fun m hm => by
    have := (h.fm hK true) m hm
    exact ⟨_, this.cut rfl, this.q3x⟩) t4 hz xs [] K rfl (by omega)
  have g1' : q3j.l1.f K K xs ((xs.length : Nat) : Int) (0 : Int) fs ((q3p fs : Nat) : Int) sp = some (.inl ()) := g1
  have g2 := j0m (K := K) hK (is := is) (ss := ss) (by omega) t5 (h.ims hw) t6 ss [] K rfl (by omega)
  have g2' : q3j.l2.f K K ss ((ss.length : Nat) : Int) (0 : Int) is = some (.inl ()) := g2
  have e1 : (((cs.length : Nat) : Int) != ((cells.length : Nat) : Int)) = false := by rw [t1]; exact q7o
  have e2 : (((xs.length : Nat) : Int) != ((fs.length : Nat) : Int)) = false := by rw [t3]; exact q7o
  have e3 : (((ss.length : Nat) : Int) != ((is.length : Nat) : Int)) = false := by rw [t5]; exact q7o
  simp only [z23 hK h, q0c, Err.isNil, Bool.not_true, cond_true, cond_false, e1, e2, e3, q03, g0', Sum.elim_inl, z21 hK h, g1', g2']
noncomputable def z8q (K : Nat) (sp : Bool) (cells : List Int) (fs : List q0t) (is : List q0h) (cs : List q0d) (xs : List q0l) (ss : List LSum) : List Int :=
  [65, 70, 1] ++ ([((bn sp : Nat) : Int)] ++ (sec (q5h cells fs is) ++ (cs.flatMap encV ++ (q8r K sp ((q3p fs : Nat) : Int) fs xs ++ ss.flatMap q48))))
theorem z8w {sp : Bool} {cells : List Int} {fs : List q0t} {is : List q0h} {cs : List q0d} {xs : List q0l} {ss : List LSum} (hK : 2000 ≤ K) (h : WF cells fs is) (hw : wide cells fs) (hs : q3p fs ≤ 200) (ht : Tab cells fs is cs xs ss) : (z8q K sp cells fs is cs xs ss).length ≤ 490000 := by
  have h1 := z09 (h.low hw)
  have h2 := z48 (q5h cells fs is)
  have h3 := z19 (l := cs)
  have h4 := z5n (K := K) (sp := sp) (z16 h hs) (fs := fs) (xs := xs) (h.fm hK sp) ht.funcs
  have h5 := z7q ht.ilen (h.ims hw) ht.sums
  have hn := h.ncells
  have hcnt := h.count
  have e1 := ht.clen
  have e2 := ht.ilen
  simp only [z8q, List.length_append, List.length_cons, List.length_nil]
  omega
theorem z61 (hK : 2000 ≤ K) {sp : Bool} {cells : List Int} {fs : List q0t} {is : List q0h} {cs : List q0d} {xs : List q0l} {ss : List LSum} (h : WF cells fs is) (hw : wide cells fs) (hs : q3p fs ≤ 200) (ht : Tab cells fs is cs xs ss)
    (hz : ∀ (i : Nat) m x, fs[i]? = some m → xs[i]? = some x → ∀ j : Nat, j < m.2.2.2.length → ((j : Nat) : Int) ∉ tl K sp m → x.2[j]? = some q62) : q18.f K cells fs is cs xs ss sp = some (z8q K sp cells fs is cs xs ss, Err.nil) := by
  have hlen := z8w (sp := sp) hK h hw hs ht
  have hcheck := j5a (K := K) hK (sp := sp) h hw hs ht hz
  have hml := z09 (h.low hw)
  have hsl := z48 (q5h cells fs is)
  have hvl := z19 (l := cs)
  have hfl := z5n (K := K) (sp := sp) (z16 h hs) (fs := fs) (xs := xs) (h.fm hK sp) ht.funcs
  have hul := z7q ht.ilen (h.ims hw) ht.sums
  obtain ⟨t1, t2, t3, t4, t5, t6⟩ := ht
  have hn := h.ncells
  have hcnt := h.count
  have go : ∀ b : Int, b = ((bn sp : Nat) : Int) → ((q0v.f K b ([] ++ [65, 70, 1])).bind fun t_4 => (q1y.f K (q5h cells fs is) t_4).bind fun t => (q18.l0.f K K cs ((cs.length : Nat) : Int) 0 t).bind fun t => (q59.f K fs).bind fun t_5 => (q18.l1.f K K sp t_5 xs ((xs.length : Nat) : Int) 0 fs t).bind fun t => (q18.l3.f K K ss ((ss.length : Nat) : Int) 0 t).bind fun t => (q13.f K t).bind fun t => some (t, Err.nil)) = some (z8q K sp cells fs is cs xs ss, Err.nil) := by
    intro b hb
    have p0 := z9n (K := K) hK (l := cs) (by omega) t2 cs [] K ([] ++ [65, 70, 1] ++ [b] ++ sec (q5h cells fs is)) rfl (by omega) (by simp only [List.length_append, List.length_cons, List.length_nil]; omega)
    have p1 := z9z (K := K) hK (sp := sp) (z16 h hs) (fs := fs) (xs := xs) (by omega) (h.fm hK sp) t4 fs [] xs [] K ([] ++ [65, 70, 1] ++ [b] ++ sec (q5h cells fs is) ++ cs.flatMap encV) rfl rfl rfl t3.symm (by omega) (by simp only [List.length_append, List.length_cons, List.length_nil]; omega)
    have p2 := j0j (K := K) hK (is := is) (ss := ss) (by omega) t5 (h.ims hw) t6 ss [] K ([] ++ [65, 70, 1] ++ [b] ++ sec (q5h cells fs is) ++ cs.flatMap encV ++ q8r K sp ((q3p fs : Nat) : Int) fs xs) rfl (by omega) (by simp only [List.length_append, List.length_cons, List.length_nil]; omega)
    rw [q8c (by simp), q0c, j15 hK (by simp only [List.length_append, List.length_cons, List.length_nil]; omega), q0c, show q18.l0.f K K cs ((cs.length : Nat) : Int) (0 : Int) _ = _ from p0, q0c, z21 hK h, q0c,
      show q18.l1.f K K sp ((q3p fs : Nat) : Int) xs ((xs.length : Nat) : Int) (0 : Int) fs _ = _ from p1, q0c, show q18.l3.f K K ss ((ss.length : Nat) : Int) (0 : Int) _ = _ from p2, q0c]
    have e : [] ++ [65, 70, 1] ++ [b] ++ sec (q5h cells fs is) ++ cs.flatMap encV ++ q8r K sp ((q3p fs : Nat) : Int) fs xs ++ ss.flatMap q48 = z8q K sp cells fs is cs xs ss := by rw [hb]; simp [z8q]
    rw [e, z01 (by omega), q0c]
  unfold q18.f
  simp only [hcheck, q0c, Err.isNil, Bool.not_true, cond_true, cond_false, write_val hK h (h.low hw), q5w.f, q7e.f, z44 (K := K) (a := [65, 70, 1]) (l := []) (by simp)]
  cases hsp : sp with
  | true =>
    rw [hsp] at go
    simp only [cond_true]
    exact go 1 rfl
  | false =>
    rw [hsp] at go
    simp only [cond_false]
    exact go 0 rfl
theorem head_same (a : List Int) : (!(strOf a).toList == (strOf a).toList) = false := by simp
theorem z92 (hK : 2000 ≤ K) {sp : Bool} {cells : List Int} {fs : List q0t} {is : List q0h} {cs : List q0d} {xs : List q0l} {ss : List LSum} (h : WF cells fs is) (hw : wide cells fs) (hs : q3p fs ≤ 200) (ht : Tab cells fs is cs xs ss)
    (hz : ∀ (i : Nat) m x, fs[i]? = some m → xs[i]? = some x → ∀ j : Nat, j < m.2.2.2.length → ((j : Nat) : Int) ∉ tl K sp m → x.2[j]? = some q62) : q3q.f K (z8q K sp cells fs is cs xs ss) = some (cells, fs, is, cs, xs, ss, sp, Err.nil) := by
  have hlen := z8w (sp := sp) hK h hw hs ht
  have hml := z09 (h.low hw)
  obtain ⟨t1, t2, t3, t4, t5, t6⟩ := ht
  have hn := h.ncells
  have hcnt := h.count
  generalize hl : z8q K sp cells fs is cs xs ss = l at hlen
  have hd : l = [65, 70, 1] ++ ([((bn sp : Nat) : Int)] ++ (sec (q5h cells fs is) ++ (cs.flatMap encV ++ (q8r K sp ((q3p fs : Nat) : Int) fs xs ++ ss.flatMap q48)))) := by rw [← hl]; rfl
  have hll : l.length ≤ 1000000 := by omega
  have r0 := z11 (K := K) (x := [65, 70, 1]) (l := l) (pre := []) (post := [((bn sp : Nat) : Int)] ++ (sec (q5h cells fs is) ++ (cs.flatMap encV ++ (q8r K sp ((q3p fs : Nat) : Int) fs xs ++ ss.flatMap q48)))) (by rw [hd]; rfl) hll
  have r0' : q2a.f K ((([65, 70, 1] : List Int).length : Nat) : Int) l (0 : Int) = some ([65, 70, 1], Err.nil, ((([65, 70, 1] : List Int).length : Nat) : Int)) := r0
  have hbn : ((bn sp : Nat) : Int) ≤ 1 := by cases sp <;> decide
  have r1 := z1u (K := K) (m := 1) (v := ((bn sp : Nat) : Int)) (l := l) (pre := [65, 70, 1]) (post := sec (q5h cells fs is) ++ (cs.flatMap encV ++ (q8r K sp ((q3p fs : Nat) : Int) fs xs ++ ss.flatMap q48))) (by rw [hd]; rfl) hll hbn
  have r2 := j3n (K := K) hK (b := q5h cells fs is) (l := l) (pre := [65, 70, 1] ++ [((bn sp : Nat) : Int)]) (post := cs.flatMap encV ++ (q8r K sp ((q3p fs : Nat) : Int) fs xs ++ ss.flatMap q48)) (by rw [hd]; simp) hll
  have hel := q6q (q5h cells fs is).length
  have r3 := take_val (K := K) hK (cells := cells) (fs := fs) (is := is) (l := [65, 70, 1] ++ [((bn sp : Nat) : Int)] ++ encU (q5h cells fs is).length ++ q5h cells fs is) (pre := [65, 70, 1] ++ [((bn sp : Nat) : Int)] ++ encU (q5h cells fs is).length) rfl (by simp only [List.length_append, List.length_cons, List.length_nil]; omega) (h.tight hw) h
  have q0 := j3j (K := K) hK hll (n := cs.length) (post := q8r K sp ((q3p fs : Nat) : Int) fs xs ++ ss.flatMap q48) (by omega) cs [] ([65, 70, 1] ++ [((bn sp : Nat) : Int)] ++ sec (q5h cells fs is)) K (by rw [hd]; simp) (by simp) (by omega) t2
  rw [t1] at q0
  have q1 := j3c (K := K) hK (sp := sp) (z16 h hs) hll (fs := fs) (xs := xs) (post := ss.flatMap q48) (by omega) (h.fm hK sp) t4 hz fs [] xs [] K ([65, 70, 1] ++ [((bn sp : Nat) : Int)] ++ sec (q5h cells fs is) ++ cs.flatMap encV) rfl rfl rfl t3.symm (by omega) (by rw [hd]; simp)
  have q2 := j30 (K := K) hK (is := is) (ss := ss) (post := []) hll (by omega) (h.ims hw) t6 is [] ss [] K ([65, 70, 1] ++ [((bn sp : Nat) : Int)] ++ sec (q5h cells fs is) ++ cs.flatMap encV ++ q8r K sp ((q3p fs : Nat) : Int) fs xs) rfl rfl rfl t5.symm (by omega) (by rw [hd]; simp)
  have hend : [65, 70, 1] ++ [((bn sp : Nat) : Int)] ++ sec (q5h cells fs is) ++ cs.flatMap encV ++ q8r K sp ((q3p fs : Nat) : Int) fs xs ++ ss.flatMap q48 = l := by rw [hd]; simp
  have hsp : (((bn sp : Nat) : Int) == 1) = sp := by cases sp <;> rfl
  have hclone : q0p.f K l = some l := by
    unfold q0p.f
    rw [Nat.ble_eq_true_of_le (by omega)]; rfl
  have m1 : q5d.f K Err.nil l (0 : Int) = some (cells, fs, is, sp, Err.nil, ((([65, 70, 1] ++ [((bn sp : Nat) : Int)] ++ sec (q5h cells fs is)).length : Nat) : Int)) := by
    unfold q5d.f
    simp only [q7e.f, q0c, r0', q1i.f, Err.isNil, cond_true, cond_false, q03, head_same, r1, Bool.not_true, r2, r3, hsp]
  unfold q3q.f q9w.f
  simp only [hclone, q0c, m1, Err.isNil, cond_true, cond_false, z21 hK h]
  rw [show q3q.l0.f K K ((cells.length : Nat) : Int) (0 : Int) Err.nil l _ [] = _ from q0, q0c, show q3q.l1.f K K sp ((q3p fs : Nat) : Int) fs ((fs.length : Nat) : Int) (0 : Int) Err.nil l _ [] = _ from q1, q0c, show q3q.l2.f K K is ((is.length : Nat) : Int) (0 : Int) Err.nil l _ [] = _ from q2, q0c]
  simp only [hend, q4x.f, Err.isNil, cond_true, cond_false, z8c hll, q0c, q1i.f, Bool.not_true, List.nil_append]
end Go.Proofs.YtdjkdmjdcdljmaaGreatDoor.AF
namespace Go.Proofs.YtdjkdmjdcdljmaaGreatDoor.AF
open Go.Proofs.q0a Go.Proofs.q0a.Runs
set_option maxRecDepth 100000
set_option maxHeartbeats 4000000
variable {K : Nat}
theorem q5t {α : Type} {l : List α} {n : Nat} (h : n < l.length) : ∃ x, l[n]? = some x ∧ x ∈ l := ⟨l[n], List.getElem?_eq_getElem h, List.getElem_mem h⟩
theorem z0c {a b : Bool} : (bif a then some b else some false) = some (a && b) := by cases a <;> rfl
theorem q5u {α : Type} {l : List α} {x : α} (h : l.length < 1000000000) : IntKind.i64.wrap (((l.length : Nat) : Int) + (1 : Int)) = (((l ++ [x]).length : Nat) : Int) := q0y h
theorem q6a {α : Type} {P : α → Prop} {l : List α} {x : α} (h : ∀ v ∈ l, P v) (hx : P x) : ∀ v ∈ l ++ [x], P v := by
  intro v hv
  rcases List.mem_append.1 hv with h1 | h1
  · exact h v h1
  · rw [List.mem_singleton] at h1; rw [h1]; exact hx
def Wv (v : q0d) : Prop := i64 v.2.1.2 ∧ i64 v.2.2.1.1 ∧ i64 v.2.2.1.2
def Ws (s : LSum) : Prop := (∀ v ∈ s.2.1, Wv v) ∧ Wv s.2.2.2
def Wb (x : q0j) : Prop := ∀ v ∈ x.1.2.1, Wv v
def Wf (x : q0l) : Prop := Ws x.1 ∧ ∀ b ∈ x.2, Wb b
theorem j2n (l : List q0d) : q4u.f K l = some (l.take 8) := by
  unfold q4u.f
  simp only [min6 (n := l.length) (c := 8) (by omega), j0y (l := l) (c := 8) (by omega), cond_true, List.drop_zero]
  rfl
theorem Ws.few {s : LSum} (h : Ws s) : Ws (s.1, s.2.1.take 8, s.2.2) := ⟨fun v hv => h.1 v (List.mem_of_mem_take hv), h.2⟩
theorem tfew_l3 {l : List LSum} (hw : ∀ s ∈ l, Ws s) : ∀ (k : Nat) (acc : List LSum), 26 < k + acc.length → acc.length ≤ 26 → (∀ s ∈ acc, Ws s) → ∃ r, q1v.l3.f K k ((acc.length : Nat) : Int) l acc = some r ∧ ∀ s ∈ r, Ws s
  | 0, acc, h, h1, h2 => by omega
  | k + 1, acc, h, h1, h2 => by
    rw [q1v.l3.f]
    simp only [z0c, q2c]
    by_cases c : acc.length < l.length ∧ acc.length < 26
    · obtain ⟨x, hx, hm⟩ := q5t c.1
      have e : (decide (((acc.length : Nat) : Int) < ((l.length : Nat) : Int)) && decide (((acc.length : Nat) : Int) < (26 : Int))) = true := by simp; omega
      simp only [e, cond_true, ge0, Int.toNat_natCast, hx, q0c, j2n, q2p (l := acc) (x := (x.1, x.2.1.take 8, x.2.2.1, x.2.2.2.1, (x.2.2.2.2.1.1, x.2.2.2.2.1.2), (x.2.2.2.2.2.1.1, x.2.2.2.2.2.1.2), x.2.2.2.2.2.2)) (n := 1000000) (by omega), q5u (l := acc) (x := (x.1, x.2.1.take 8, x.2.2)) (by omega)]
      exact tfew_l3 hw k (acc ++ [(x.1, x.2.1.take 8, x.2.2)]) (by simp; omega) (by simp; omega) (q6a h2 (hw x hm).few)
    · have e : (decide (((acc.length : Nat) : Int) < ((l.length : Nat) : Int)) && decide (((acc.length : Nat) : Int) < (26 : Int))) = false := by
        rw [Bool.and_eq_false_iff]; simp; omega
      simp only [e, cond_false]
      exact ⟨acc, rfl, h2⟩
theorem tfew_l2 {l : List (List Int)} : ∀ (k : Nat) (acc : List (List Int)), 10 < k + acc.length → acc.length ≤ 10 → ∃ r, q1v.l2.f K k ((acc.length : Nat) : Int) l acc = some r
  | 0, acc, h, h1 => by omega
  | k + 1, acc, h, h1 => by
    rw [q1v.l2.f]
    simp only [z0c, q2c]
    by_cases c : acc.length < l.length ∧ acc.length < 10
    · obtain ⟨x, hx, hm⟩ := q5t c.1
      have e : (decide (((acc.length : Nat) : Int) < ((l.length : Nat) : Int)) && decide (((acc.length : Nat) : Int) < (10 : Int))) = true := by simp; omega
      simp only [e, cond_true, ge0, Int.toNat_natCast, hx, q0c, min6 (n := x.length) (c := 60) (by omega), j0y (l := x) (c := 60) (by omega), List.drop_zero, q2p (l := acc) (x := x.take (60 : Int).toNat) (n := 1000000) (by omega), q5u (l := acc) (x := x.take (60 : Int).toNat) (by omega)]
      exact tfew_l2 k (acc ++ [x.take (60 : Int).toNat]) (by simp; omega) (by simp; omega)
    · have e : (decide (((acc.length : Nat) : Int) < ((l.length : Nat) : Int)) && decide (((acc.length : Nat) : Int) < (10 : Int))) = false := by
        rw [Bool.and_eq_false_iff]; simp; omega
      simp only [e, cond_false]
      exact ⟨acc, rfl⟩
theorem tfew_l1 (hK : 2000 ≤ K) {xs : List q0l} {i : Nat} {f : q0l} (hi : xs[i]? = some f) (hw : ∀ b ∈ f.2, Wb b) : ∀ (k : Nat) (acc : List q0j), 14 < k + acc.length → acc.length ≤ 14 → (∀ b ∈ acc, Wb b) → ∃ r, q1v.l1.f K k ((i : Nat) : Int) ((acc.length : Nat) : Int) xs acc = some r ∧ ∀ b ∈ r, Wb b
  | 0, acc, h, h1, h2 => by omega
  | k + 1, acc, h, h1, h2 => by
    rw [q1v.l1.f]
    simp only [ge0, Int.toNat_natCast, hi, cond_true, q0c, z0c, q2c]
    by_cases c : acc.length < f.2.length ∧ acc.length < 14
    · obtain ⟨x, hx, hm⟩ := q5t c.1
      have e : (decide (((acc.length : Nat) : Int) < ((f.2.length : Nat) : Int)) && decide (((acc.length : Nat) : Int) < (14 : Int))) = true := by simp; omega
      obtain ⟨r, hr⟩ := tfew_l2 (K := K) (l := x.1.2.2) K [] (by simp; omega) (by simp)
      have hr' : q1v.l2.f K K (0 : Int) x.1.2.2 [] = some r := hr
      simp only [e, cond_true, hx, q0c, min6 (n := x.2.length) (c := 10) (by omega), min6 (n := x.1.2.1.length) (c := 10) (by omega), j0y (l := x.2) (c := 10) (by omega), j0y (l := x.1.2.1) (c := 10) (by omega), List.drop_zero, hr', q2p (l := acc) (x := ((x.1.1, x.1.2.1.take (10 : Int).toNat, r), x.2.take (10 : Int).toNat)) (n := 1000000) (by omega), q5u (l := acc) (x := (((x.1.1, x.1.2.1.take (10 : Int).toNat, r), x.2.take (10 : Int).toNat) : q0j)) (by omega)]
      exact tfew_l1 hK hi hw k (acc ++ [((x.1.1, x.1.2.1.take (10 : Int).toNat, r), x.2.take (10 : Int).toNat)]) (by simp; omega) (by simp; omega) (q6a h2 fun v hv => hw x hm v (List.mem_of_mem_take hv))
    · have e : (decide (((acc.length : Nat) : Int) < ((f.2.length : Nat) : Int)) && decide (((acc.length : Nat) : Int) < (14 : Int))) = false := by
        rw [Bool.and_eq_false_iff]; simp; omega
      simp only [e, cond_false]
      exact ⟨acc, rfl, h2⟩
theorem tfew_l0 (hK : 2000 ≤ K) {xs : List q0l} (hw : ∀ x ∈ xs, Wf x) : ∀ (k : Nat) (acc : List q0l), 26 < k + acc.length → acc.length ≤ 26 → (∀ b ∈ acc, Wf b) → ∃ r, q1v.l0.f K k ((acc.length : Nat) : Int) xs acc = some r ∧ ∀ b ∈ r, Wf b
  | 0, acc, h, h1, h2 => by omega
  | k + 1, acc, h, h1, h2 => by
    rw [q1v.l0.f]
    simp only [z0c, q2c]
    by_cases c : acc.length < xs.length ∧ acc.length < 26
    · obtain ⟨x, hx, hm⟩ := q5t c.1
      have e : (decide (((acc.length : Nat) : Int) < ((xs.length : Nat) : Int)) && decide (((acc.length : Nat) : Int) < (26 : Int))) = true := by simp; omega
      obtain ⟨r, hr, hr2⟩ := tfew_l1 (K := K) hK hx (hw x hm).2 K [] (by simp; omega) (by simp) (by simp)
      have hr' : q1v.l1.f K K ((acc.length : Nat) : Int) (0 : Int) xs [] = some r := hr
      simp only [e, cond_true, ge0, Int.toNat_natCast, hx, q0c, j2n, hr', q2p (l := acc) (x := ((x.1.1, x.1.2.1.take 8, x.1.2.2.1, x.1.2.2.2.1, (x.1.2.2.2.2.1.1, x.1.2.2.2.2.1.2), (x.1.2.2.2.2.2.1.1, x.1.2.2.2.2.2.1.2), x.1.2.2.2.2.2.2), r)) (n := 1000000) (by omega), q5u (l := acc) (x := (((x.1.1, x.1.2.1.take 8, x.1.2.2), r) : q0l)) (by omega)]
      exact tfew_l0 hK hw k (acc ++ [((x.1.1, x.1.2.1.take 8, x.1.2.2), r)]) (by simp; omega) (by simp; omega) (q6a h2 ⟨(hw x hm).1.few, hr2⟩)
    · have e : (decide (((acc.length : Nat) : Int) < ((xs.length : Nat) : Int)) && decide (((acc.length : Nat) : Int) < (26 : Int))) = false := by
        rw [Bool.and_eq_false_iff]; simp; omega
      simp only [e, cond_false]
      exact ⟨acc, rfl, h2⟩
theorem tfew_val (hK : 2000 ≤ K) {cs : List q0d} {xs : List q0l} {ss : List LSum} (h1 : ∀ v ∈ cs, Wv v) (h2 : ∀ x ∈ xs, Wf x) (h3 : ∀ s ∈ ss, Ws s) : ∃ cs' xs' ss', q1v.f K cs xs ss = some (cs', xs', ss') ∧ (∀ v ∈ cs', Wv v) ∧ (∀ x ∈ xs', Wf x) ∧ ∀ s ∈ ss', Ws s := by
  unfold q1v.f
  obtain ⟨x, hx, hx2⟩ := tfew_l0 (K := K) hK h2 K [] (by simp; omega) (by simp) (by simp)
  obtain ⟨s, hs, hs2⟩ := tfew_l3 (K := K) h3 K [] (by simp; omega) (by simp) (by simp)
  refine ⟨cs.take (20 : Int).toNat, x, s, ?_, fun v hv => h1 v (List.mem_of_mem_take hv), hx2, hs2⟩
  simp only [min6 (n := cs.length) (c := 20) (by omega), j0y (l := cs) (c := 20) (by omega), cond_true, List.drop_zero]
  rw [show q1v.l0.f K K (0 : Int) xs [] = _ from hx, q0c, show q1v.l3.f K K (0 : Int) ss [] = _ from hs, q0c]
abbrev anyV : q0d := (7, (false, 0), (least, most), 3)
theorem q9v : Vr anyV := ⟨by decide, ⟨⟨by decide, by decide⟩, fun _ => rfl⟩, ⟨by decide, by decide⟩, ⟨by decide, by decide⟩, by decide, by decide⟩
theorem q9r : q2s.f K = some (7, false, 0, least, most, 3) := rfl
theorem mask_s (a : Int) : ∃ i : Int, (0 ≤ i ∧ i ≤ 7) ∧ IntKind.i64.wrap ((BitVec.ofInt 64 a &&& BitVec.ofInt 64 7).toNat : Int) = i := by
  have h : (BitVec.ofInt 64 a &&& BitVec.ofInt 64 7).toNat ≤ 7 := by
    rw [BitVec.toNat_and]
    exact Nat.le_trans Nat.and_le_right (by decide)
  exact ⟨((BitVec.ofInt 64 a &&& BitVec.ofInt 64 7).toNat : Int), by omega, q00 (by omega) (by omega)⟩
theorem mask_p (a : Int) : ∃ i : Int, (0 ≤ i ∧ i ≤ 3) ∧ IntKind.i64.wrap ((BitVec.ofInt 64 a &&& BitVec.ofInt 64 3).toNat : Int) = i := by
  have h : (BitVec.ofInt 64 a &&& BitVec.ofInt 64 3).toNat ≤ 3 := by
    rw [BitVec.toNat_and]
    exact Nat.le_trans Nat.and_le_right (by decide)
  exact ⟨((BitVec.ofInt 64 a &&& BitVec.ofInt 64 3).toNat : Int), by omega, q00 (by omega) (by omega)⟩
theorem z2h {v : q0d} (h : Wv v) : ∃ x : q0d, q3c.f K v.1 v.2.1.1 v.2.1.2 v.2.2.1.1 v.2.2.1.2 v.2.2.2 = some (x.1, x.2.1.1, x.2.1.2, x.2.2.1.1, x.2.2.1.2, x.2.2.2) ∧ Vr x := by
  obtain ⟨s, ⟨kb, kn⟩, ⟨lo, hi⟩, p⟩ := v
  obtain ⟨h1, h2, h3⟩ := h
  dsimp only at *
  obtain ⟨i, hi1, ei⟩ := mask_s s
  obtain ⟨q, hq1, eq⟩ := mask_p p
  have hc : ∃ n, q3k.f K kb kn = some (kb, n) ∧ (kb = false → n = 0) ∧ i64 n := by
    unfold q3k.f
    cases kb
    · exact ⟨0, rfl, fun _ => rfl, by decide, by decide⟩
    · exact ⟨kn, rfl, (fun e => by cases e), h1⟩
  obtain ⟨n, hn, hn0, hn1⟩ := hc
  have hs : ∃ l h, q3w.f K lo hi = some (l, h) ∧ l ≤ h ∧ i64 l ∧ i64 h := by
    unfold q3w.f
    by_cases h : lo > hi
    · rw [decide_eq_true h]; exact ⟨hi, lo, rfl, by omega, h3, h2⟩
    · rw [decide_eq_false h]; exact ⟨lo, hi, rfl, by omega, h2, h3⟩
  obtain ⟨l, h, hl, hle, hl1, hh1⟩ := hs
  refine ⟨(if i = 0 then 7 else i, (kb, n), (l, h), if q = 0 then 3 else q), ?_, ⟨by dsimp only; split <;> omega, ⟨hn1, hn0⟩, hl1, hh1, hle, by dsimp only; split <;> omega⟩⟩
  unfold q3c.f
  rw [ei, eq, hn, hl]
  have e1 : (i == 0) = decide (i = 0) := by by_cases a : i = 0 <;> simp [a]
  have e2 : (q == 0) = decide (q = 0) := by by_cases a : q = 0 <;> simp [a]
  rw [e1, e2]
  by_cases a : i = 0 <;> by_cases b : q = 0 <;> simp only [a, b, decide_true, decide_false, cond_true, cond_false, q0c, if_true, if_false]
theorem z5m {n : Nat} {c : Bool} {l : List q0d} (hn : n ≤ 1000) (hw : ∀ v ∈ l, Wv v) : ∀ (k : Nat) (acc : List q0d), n < k + acc.length → acc.length ≤ n → (∀ v ∈ acc, Vr v) → ∃ r, q20.l0.f K k ((n : Nat) : Int) ((acc.length : Nat) : Int) c l acc = some r ∧ (∀ v ∈ r, Vr v) ∧ (c = true → r.length = n) ∧ (c = false → r = acc)
  | 0, acc, h, h1, h2 => by omega
  | k + 1, acc, h, h1, h2 => by
    rw [q20.l0.f]
    simp only [z0c, q2c]
    by_cases hc : acc.length < n
    · have e : decide (((acc.length : Nat) : Int) < ((n : Nat) : Int)) = true := by simp; omega
      cases c with
      | false =>
        simp only [e, Bool.and_false, cond_false]
        exact ⟨acc, rfl, h2, (fun e => by cases e), fun _ => rfl⟩
      | true =>
        simp only [e, Bool.and_true, cond_true, q9r, q0c]
        by_cases hl : acc.length < l.length
        · obtain ⟨x, hx, hm⟩ := q5t hl
          have e2 : decide (((acc.length : Nat) : Int) < ((l.length : Nat) : Int)) = true := by simp; omega
          obtain ⟨y, y1, y2⟩ := z2h (K := K) (hw x hm)
          simp only [e2, cond_true, ge0, Int.toNat_natCast, hx, q0c, y1, q2p (l := acc) (x := (y.1, (y.2.1.1, y.2.1.2), (y.2.2.1.1, y.2.2.1.2), y.2.2.2)) (n := 1000000) (by omega), q5u (l := acc) (x := y) (by omega)]
          obtain ⟨r, r1, r2, r3, r4⟩ := z5m (c := true) hn hw k (acc ++ [y]) (by simp; omega) (by simp; omega) (q6a h2 y2)
          exact ⟨r, r1, r2, fun _ => r3 rfl, fun e => by cases e⟩
        · have e2 : decide (((acc.length : Nat) : Int) < ((l.length : Nat) : Int)) = false := by simp; omega
          simp only [e2, cond_false, q2p (l := acc) (x := anyV) (n := 1000000) (by omega), q5u (l := acc) (x := anyV) (by omega), cond_true]
          obtain ⟨r, r1, r2, r3, r4⟩ := z5m (c := true) hn hw k (acc ++ [anyV]) (by simp; omega) (by simp; omega) (q6a h2 q9v)
          exact ⟨r, r1, r2, fun _ => r3 rfl, fun e => by cases e⟩
    · have e : decide (((acc.length : Nat) : Int) < ((n : Nat) : Int)) = false := by simp; omega
      simp only [e, Bool.false_and, cond_false]
      exact ⟨acc, rfl, h2, fun _ => by omega, fun _ => rfl⟩
theorem z6c (hK : 2000 ≤ K) {a : Int} {s : LSum} (ha : 0 ≤ a ∧ a ≤ 8) (h : Ws s) : ∃ (t : List q0d) (x : q0d), q20.f K s.1 s.2.1 s.2.2.1 s.2.2.2.1 s.2.2.2.2.1.1 s.2.2.2.2.1.2 s.2.2.2.2.2.1.1 s.2.2.2.2.2.1.2 s.2.2.2.2.2.2 a = some (t, x.1, x.2.1.1, x.2.1.2, x.2.2.1.1, x.2.2.1.2, x.2.2.2) ∧ Sr a (s.1, t, s.2.2.1, x) := by
  obtain ⟨c, args, rt, res⟩ := s
  obtain ⟨h1, h2⟩ := h
  dsimp only at *
  unfold q20.f
  obtain ⟨n, rfl⟩ := Int.eq_ofNat_of_zero_le ha.1
  obtain ⟨t, t1, t2, t3, t4⟩ := z5m (K := K) (n := n) (c := c) (by omega) h1 K [] (by simp; omega) (by simp) (by simp)
  have t1' : q20.l0.f K K ((n : Nat) : Int) (0 : Int) c args [] = some t := t1
  obtain ⟨x, x1, x2⟩ := z2h (K := K) h2
  simp only [t1', q0c]
  cases rt with
  | true =>
    simp only [cond_true, x1, q0c]
    exact ⟨t, x, rfl, ⟨t4, fun e => by dsimp only; rw [t3 e], t2, fun _ => x2, fun e => by cases e⟩⟩
  | false =>
    simp only [cond_false]
    exact ⟨t, zeroV, rfl, ⟨t4, fun e => by dsimp only; rw [t3 e], t2, (fun e => by cases e), fun _ => rfl⟩⟩
theorem z97 {n : Nat} (hn : n ≤ 1000) : ∀ (k : Nat) (acc : List q0d), n < k + acc.length → acc.length ≤ n → (∀ v ∈ acc, Vr v) → ∃ r, q2z.l0.f K k ((n : Nat) : Int) ((acc.length : Nat) : Int) acc = some r ∧ (∀ v ∈ r, Vr v) ∧ r.length = n
  | 0, acc, h, h1, h2 => by omega
  | k + 1, acc, h, h1, h2 => by
    rw [q2z.l0.f]
    by_cases hc : acc.length < n
    · have e : decide (((acc.length : Nat) : Int) < ((n : Nat) : Int)) = true := by simp; omega
      simp only [e, cond_true, q9r, q0c, q2p (l := acc) (x := anyV) (n := 1000000) (by omega), q5u (l := acc) (x := anyV) (by omega)]
      exact z97 hn k (acc ++ [anyV]) (by simp; omega) (by simp; omega) (q6a h2 q9v)
    · have e : decide (((acc.length : Nat) : Int) < ((n : Nat) : Int)) = false := by simp; omega
      simp only [e, cond_false]
      exact ⟨acc, rfl, h2, by omega⟩
theorem z58 (hK : 2000 ≤ K) {a : Int} (ha : 0 ≤ a ∧ a ≤ 8) : ∃ s : LSum, q2z.f K a = some (s.1, s.2.1, s.2.2.1, s.2.2.2.1, s.2.2.2.2.1.1, s.2.2.2.2.1.2, s.2.2.2.2.2.1.1, s.2.2.2.2.2.1.2, s.2.2.2.2.2.2) ∧ Sr a s := by
  obtain ⟨n, rfl⟩ := Int.eq_ofNat_of_zero_le ha.1
  unfold q2z.f
  obtain ⟨t, t1, t2, t3⟩ := z97 (K := K) (n := n) (by omega) K [] (by simp; omega) (by simp) (by simp)
  have t1' : q2z.l0.f K K ((n : Nat) : Int) (0 : Int) [] = some t := t1
  simp only [q9r, q0c, t1']
  exact ⟨(true, t, true, anyV), rfl, ⟨(fun e => by cases e), fun _ => by dsimp only; rw [t3], t2, fun _ => q9v, fun e => by cases e⟩⟩
end Go.Proofs.YtdjkdmjdcdljmaaGreatDoor.AF
namespace Go.Proofs.YtdjkdmjdcdljmaaGreatDoor.AF
open Go.Proofs.q0a Go.Proofs.q0a.Runs
set_option maxRecDepth 100000
set_option maxHeartbeats 4000000
variable {K : Nat}
theorem j2y {α : Type} {l l1 l2 : List α} {x : α} (h : l = l1 ++ x :: l2) : l1.length.blt l.length = true := by
  subst h; exact Nat.ble_eq_true_of_le (by simp)
theorem j1s {α : Type} {l l1 l2 : List α} {x : α} (h : l = l1 ++ x :: l2) : l[l1.length]? = some x := by subst h; simp
theorem rise_l1 {l : List Int} {i : Nat} {x : Int} (hi : l[i]? = some x) {out : List Int} (hl : out.length ≤ 1000) : ∀ (o2 o1 : List Int) (k : Nat), out = o1 ++ o2 → o2.length < k → (∀ y ∈ o1, y < x) →
    ∃ p q, q1x.l1.f K k l ((i : Nat) : Int) ((o1.length : Nat) : Int) out = some ((p.length : Nat) : Int) ∧ out = p ++ q ∧ (∀ y ∈ p, y < x) ∧ ∀ y, q.head? = some y → x ≤ y
  | o2, o1, 0, h, hk, ho => by omega
  | [], o1, k + 1, h, hk, ho => by
    rw [q1x.l1.f]
    simp only [q2e h, cond_false, q2c]
    exact ⟨o1, [], rfl, h, ho, fun y e => by cases e⟩
  | y :: o2, o1, k + 1, h, hk, ho => by
    rw [q1x.l1.f]
    have h1 : o1.length ≤ 1000 := by rw [h] at hl; simp at hl; omega
    simp only [List.length_cons] at hk
    simp only [q2b h, cond_true, ge0', j2y h, j1s h, q0c, Bool.and_self, Int.toNat_natCast, hi, q2c]
    by_cases c : y < x
    · simp only [decide_eq_true c, cond_true, q0y (l1 := o1) (x := y) (by omega)]
      exact rise_l1 hi hl o2 (o1 ++ [y]) k (q09 h) (by omega) (q6a ho c)
    · simp only [decide_eq_false c, cond_false]
      exact ⟨o1, y :: o2, rfl, h, ho, fun z e => by simp at e; omega⟩
theorem risen_ins {n x : Int} {p q : List Int} (h : q3x n (p ++ q)) (hx : 0 ≤ x ∧ x < n) (hp : ∀ y ∈ p, y < x) (hq : ∀ y ∈ q, x < y) : q3x n (p ++ [x] ++ q) := by
  obtain ⟨h1, h2⟩ := h
  rw [List.pairwise_append] at h1
  refine ⟨?_, fun y hy => ?_⟩
  · rw [List.append_assoc, List.pairwise_append]
    refine ⟨h1.1, ?_, fun a ha b hb => ?_⟩
    · rw [List.singleton_append, List.pairwise_cons]
      exact ⟨hq, h1.2.1⟩
    · rw [List.singleton_append, List.mem_cons] at hb
      rcases hb with hb | hb
      · subst hb; exact hp a ha
      · exact h1.2.2 a ha b hb
  · simp only [List.mem_append, List.mem_singleton] at hy
    rcases hy with (hy | hy) | hy
    · exact h2 y (by simp [hy])
    · subst hy; exact hx
    · exact h2 y (by simp [hy])
theorem head_all {x : Int} {q : List Int} (h : q.Pairwise (· < ·)) (hx : ∀ y, q.head? = some y → x < y) : ∀ y ∈ q, x < y := by
  cases q with
  | nil => intro y hy; cases hy
  | cons a q =>
    have ha := hx a rfl
    intro y hy
    rw [List.mem_cons] at hy
    rcases hy with e | e
    · subst e; exact ha
    · have := (List.pairwise_cons.1 h).1 y e; omega
theorem j01 (hK : 2000 ≤ K) {n : Int} {l : List Int} (hl : l.length ≤ 1000) (hr : ∀ x ∈ l, 0 ≤ x ∧ x < n) : ∀ (l2 l1 : List Int) (k : Nat) (out : List Int), l = l1 ++ l2 → l2.length < k → out.length ≤ l1.length → q3x n out → ∃ r, q1x.l0.f K k l ((l1.length : Nat) : Int) out = some r ∧ q3x n r
  | l2, l1, 0, out, h, hk, ho, hn => by omega
  | [], l1, k + 1, out, h, hk, ho, hn => by
    rw [q1x.l0.f]
    simp only [q2e h, cond_false]
    exact ⟨out, rfl, hn⟩
  | x :: l2, l1, k + 1, out, h, hk, ho, hn => by
    rw [q1x.l0.f]
    have hl1 : l1.length ≤ 1000 := by rw [h] at hl; simp at hl; omega
    have hxi : l[l1.length]? = some x := by rw [h]; simp
    have hx := hr x (by rw [h]; simp)
    simp only [List.length_cons] at hk
    obtain ⟨p, q, g1, g2, g3, g4⟩ := rise_l1 (K := K) hxi (out := out) (by omega) out [] K rfl (by omega) (by simp)
    have g1' : q1x.l1.f K K l ((l1.length : Nat) : Int) (0 : Int) out = some ((p.length : Nat) : Int) := g1
    have hop : p.length ≤ out.length := by rw [g2]; simp
    have key : (∀ y, q.head? = some y → x < y) → ∃ r, (bif decide ((((0 : Nat) : Int)) ≤ ((p.length : Nat) : Int)) && decide (((p.length : Nat) : Int) ≤ ((out.length : Nat) : Int)) then bif ((0 : Nat) + (((p.length : Nat) : Int).toNat - (0 : Nat))).ble out.length then bif ((0 : Nat) + (List.take (((p.length : Nat) : Int).toNat - (0 : Nat)) (List.drop (0 : Nat) out)).length).ble (1000000 : Nat) then bif decide ((0 : Int) ≤ ((l1.length : Nat) : Int)) && true then l[((l1.length : Nat) : Int).toNat]?.bind fun t_2 => bif (([] ++ List.take (((p.length : Nat) : Int).toNat - (0 : Nat)) (List.drop (0 : Nat) out)).length + [t_2].length).ble (1000000 : Nat) then bif decide ((0 : Int) ≤ ((p.length : Nat) : Int)) && decide (((p.length : Nat) : Int) ≤ ((out.length : Nat) : Int)) && decide (((out.length : Nat) : Int) ≤ ((out.length : Nat) : Int)) then bif (((p.length : Nat) : Int).toNat + (((out.length : Nat) : Int).toNat - ((p.length : Nat) : Int).toNat)).ble out.length then bif (([] ++ List.take (((p.length : Nat) : Int).toNat - (0 : Nat)) (List.drop (0 : Nat) out) ++ [t_2]).length + (List.take (((out.length : Nat) : Int).toNat - ((p.length : Nat) : Int).toNat) (List.drop ((p.length : Nat) : Int).toNat out)).length).ble (1000000 : Nat) then q1x.l0.f K k l (IntKind.i64.wrap (((l1.length : Nat) : Int) + (1 : Int))) ([] ++ List.take (((p.length : Nat) : Int).toNat - (0 : Nat)) (List.drop (0 : Nat) out) ++ [t_2] ++ List.take (((out.length : Nat) : Int).toNat - ((p.length : Nat) : Int).toNat) (List.drop ((p.length : Nat) : Int).toNat out)) else none else none else none else none else none else none else none else none) = some r ∧ q3x n r := by
      intro hq
      have e1 : decide ((((0 : Nat) : Int)) ≤ ((p.length : Nat) : Int)) = true := by simp
      have e2 : decide (((p.length : Nat) : Int) ≤ ((out.length : Nat) : Int)) = true := by simp; omega
      have e3 : decide (((out.length : Nat) : Int) ≤ ((out.length : Nat) : Int)) = true := by simp
      have t1 : List.take p.length out = p := by rw [g2]; simp
      have t2 : List.take (out.length - p.length) (List.drop p.length out) = q := by rw [g2]; simp
      have b1 : (0 + p.length).ble out.length = true := Nat.ble_eq_true_of_le (by omega)
      have b2 : (0 + p.length).ble 1000000 = true := Nat.ble_eq_true_of_le (by omega)
      have b3 : (p.length + [x].length).ble 1000000 = true := Nat.ble_eq_true_of_le (by simp; omega)
      have b4 : (p.length + (out.length - p.length)).ble out.length = true := Nat.ble_eq_true_of_le (by omega)
      have b5 : ((p ++ [x]).length + q.length).ble 1000000 = true := Nat.ble_eq_true_of_le (by rw [g2] at ho; simp at ho ⊢; omega)
      have e1' : decide ((0 : Int) ≤ ((p.length : Nat) : Int)) = true := ge0'
      simp only [Int.toNat_natCast, Nat.sub_zero, List.drop_zero, t1, t2, e1, e1', e2, e3, Bool.and_self, cond_true, b1, b2, ge0, hxi, q0c, List.nil_append, b3, b4, b5, q0y (l1 := l1) (x := x) (by omega)]
      refine j01 hK hl hr l2 (l1 ++ [x]) k (p ++ [x] ++ q) (q09 h) (by omega) (by rw [g2] at ho; simp at ho ⊢; omega) (risen_ins (by rw [← g2]; exact hn) hx g3 (head_all ?_ hq))
      have := hn.1
      rw [g2, List.pairwise_append] at this
      exact this.2.1
    simp only [q2b h, cond_true, g1', q0c]
    cases q with
    | nil =>
      have hpo : p = out := by rw [g2]; simp
      have e : decide (((p.length : Nat) : Int) < ((out.length : Nat) : Int)) = false := by rw [hpo]; simp
      simp only [e, cond_false, q2c]
      exact key fun y e => by cases e
    | cons y q =>
      simp only [q2b g2, cond_true, ge0', j2y g2, j1s g2, q0c, Bool.and_self, Int.toNat_natCast, hxi, q2c]
      by_cases c : y = x
      · subst c
        simp only [beq_self_eq_true, cond_true, q0y (l1 := l1) (x := y) (by omega)]
        exact j01 hK hl hr l2 (l1 ++ [y]) k out (q09 h) (by omega) (by simp; omega) hn
      · have e : (y == x) = false := by simpa using c
        simp only [e, cond_false]
        have := g4 y rfl
        have hk' := key fun z hz => by simp at hz; omega
        simp only [Int.toNat_natCast, ge0', Bool.and_self, cond_true, hxi, q0c] at hk' ⊢
        exact hk'
theorem j2i (hK : 2000 ≤ K) {n : Int} {l : List Int} (hl : l.length ≤ 1000) (hr : ∀ x ∈ l, 0 ≤ x ∧ x < n) : ∃ r, q1x.f K l = some r ∧ q3x n r := by
  unfold q1x.f
  exact j01 (K := K) hK hl hr l [] K [] rfl (by omega) (by simp) ⟨List.Pairwise.nil, fun x hx => by cases hx⟩
theorem mod_in {t n : Int} (hn : 1 ≤ n ∧ n ≤ 1000) : (IntKind.u64.wrap n == (0 : Int)) = false ∧ 0 ≤ IntKind.i64.wrap ((IntKind.u64.wrap t).tmod (IntKind.u64.wrap n)) ∧ IntKind.i64.wrap ((IntKind.u64.wrap t).tmod (IntKind.u64.wrap n)) < n := by
  rw [q4b (n := n) (by omega) (by omega)]
  have h0 : 0 ≤ IntKind.u64.wrap t := by
    rw [show IntKind.u64.wrap t = t % 18446744073709551616 by simp [Go.IntKind.wrap, Go.IntKind.bits, Go.IntKind.signed]]
    omega
  have h1 := Int.tmod_nonneg n h0
  have h2 := Int.tmod_lt_of_pos (IntKind.u64.wrap t) (b := n) (by omega)
  rw [q00 (by omega) (by omega)]
  exact ⟨by simp; omega, h1, h2⟩
theorem fixs_l1 {sites : Int} (hs : 1 ≤ sites ∧ sites ≤ 1000) {ls : List (List Int)} {i : Nat} {l : List Int} (hi : ls[i]? = some l) : ∀ (k : Nat) (acc : List Int), 60 < k + acc.length → acc.length ≤ 60 → (∀ x ∈ acc, 0 ≤ x ∧ x < sites) → ∃ r, q22.l1.f K k sites ((i : Nat) : Int) ((acc.length : Nat) : Int) ls acc = some r ∧ r.length ≤ 60 ∧ ∀ x ∈ r, 0 ≤ x ∧ x < sites
  | 0, acc, h, h1, h2 => by omega
  | k + 1, acc, h, h1, h2 => by
    rw [q22.l1.f]
    simp only [ge0, Int.toNat_natCast, hi, cond_true, q0c, z0c, q2c]
    by_cases c : acc.length < l.length ∧ acc.length < 60
    · obtain ⟨x, hx, hm⟩ := q5t c.1
      have e : (decide (((acc.length : Nat) : Int) < ((l.length : Nat) : Int)) && decide (((acc.length : Nat) : Int) < (60 : Int))) = true := by simp; omega
      obtain ⟨m1, m2⟩ := mod_in (t := x) hs
      simp only [e, cond_true, cond_false, hx, q0c, m1, q2p (l := acc) (x := IntKind.i64.wrap ((IntKind.u64.wrap x).tmod (IntKind.u64.wrap sites))) (n := 1000000) (by omega), q5u (l := acc) (x := IntKind.i64.wrap ((IntKind.u64.wrap x).tmod (IntKind.u64.wrap sites))) (by omega)]
      exact fixs_l1 hs hi k (acc ++ [_]) (by simp; omega) (by simp; omega) (q6a h2 m2)
    · have e : (decide (((acc.length : Nat) : Int) < ((l.length : Nat) : Int)) && decide (((acc.length : Nat) : Int) < (60 : Int))) = false := by
        rw [Bool.and_eq_false_iff]; simp; omega
      simp only [e, cond_false]
      exact ⟨acc, rfl, h1, h2⟩
theorem live_l5 {n : Int} (hs : 1 ≤ n ∧ n ≤ 1000) {l : List Int} : ∀ (k : Nat) (acc : List Int), 20 < k + acc.length → acc.length ≤ 20 → (∀ x ∈ acc, 0 ≤ x ∧ x < n) → ∃ r, q1j.l5.f K k ((acc.length : Nat) : Int) n l acc = some r ∧ r.length ≤ 20 ∧ ∀ x ∈ r, 0 ≤ x ∧ x < n
  | 0, acc, h, h1, h2 => by omega
  | k + 1, acc, h, h1, h2 => by
    rw [q1j.l5.f]
    simp only [z0c, q2c]
    by_cases c : acc.length < l.length ∧ acc.length < 20
    · obtain ⟨x, hx, hm⟩ := q5t c.1
      have e : (decide (((acc.length : Nat) : Int) < ((l.length : Nat) : Int)) && decide (((acc.length : Nat) : Int) < (20 : Int))) = true := by simp; omega
      obtain ⟨m1, m2⟩ := mod_in (t := x) hs
      simp only [e, cond_true, cond_false, ge0, Int.toNat_natCast, hx, q0c, m1, q2p (l := acc) (x := IntKind.i64.wrap ((IntKind.u64.wrap x).tmod (IntKind.u64.wrap n))) (n := 1000000) (by omega), q5u (l := acc) (x := IntKind.i64.wrap ((IntKind.u64.wrap x).tmod (IntKind.u64.wrap n))) (by omega)]
      exact live_l5 hs k (acc ++ [_]) (by simp; omega) (by simp; omega) (q6a h2 m2)
    · have e : (decide (((acc.length : Nat) : Int) < ((l.length : Nat) : Int)) && decide (((acc.length : Nat) : Int) < (20 : Int))) = false := by
        rw [Bool.and_eq_false_iff]; simp; omega
      simp only [e, cond_false]
      exact ⟨acc, rfl, h1, h2⟩
theorem fixs_l0 (hK : 2000 ≤ K) {regs : Nat} {sites : Int} (hr : regs ≤ 8) (hs : 1 ≤ sites ∧ sites ≤ 1000) {vs : List q0d} {ls : List (List Int)} (hw : ∀ v ∈ vs, Wv v) : ∀ (k : Nat) (V : List q0d) (S : List (List Int)), regs < k + V.length → V.length ≤ regs → S.length = V.length → (∀ v ∈ V, Vr v) → (∀ s ∈ S, q3x sites s) →
    ∃ V' S', q22.l0.f K k ((regs : Nat) : Int) sites ((V.length : Nat) : Int) vs ls V S = some (V', S') ∧ V'.length ≤ regs ∧ S'.length = V'.length ∧ (∀ v ∈ V', Vr v) ∧ ∀ s ∈ S', q3x sites s
  | 0, V, S, h, h1, h2, h3, h4 => by omega
  | k + 1, V, S, h, h1, h2, h3, h4 => by
    rw [q22.l0.f]
    unfold q58.f
    simp only [q0c, z0c, q2c]
    by_cases c : (V.length < ls.length ∧ V.length < vs.length) ∧ V.length < regs
    · obtain ⟨x, hx, hm⟩ := q5t c.1.2
      obtain ⟨l, hl, hlm⟩ := q5t c.1.1
      have e : (decide (((V.length : Nat) : Int) < (if ((ls.length : Nat) : Int) < ((vs.length : Nat) : Int) then ((ls.length : Nat) : Int) else ((vs.length : Nat) : Int))) && decide (((V.length : Nat) : Int) < ((regs : Nat) : Int))) = true := by
        rw [Bool.and_eq_true_iff]; refine ⟨decide_eq_true ?_, decide_eq_true (by omega)⟩; split <;> omega
      obtain ⟨r, r1, r2, r3⟩ := fixs_l1 (K := K) hs hl K [] (by simp; omega) (by simp) (by simp)
      have r1' : q22.l1.f K K sites ((V.length : Nat) : Int) (0 : Int) ls [] = some r := r1
      obtain ⟨y, y1, y2⟩ := z2h (K := K) (hw x hm)
      obtain ⟨z, z1, z2⟩ := j2i (K := K) hK (n := sites) (l := r) (by omega) r3
      simp only [e, cond_true, r1', q0c, ge0, Int.toNat_natCast, hx, y1, z1, q2p (l := V) (x := (y.1, (y.2.1.1, y.2.1.2), (y.2.2.1.1, y.2.2.1.2), y.2.2.2)) (n := 1000000) (by omega), q2p (l := S) (x := z) (n := 1000000) (by omega), q5u (l := V) (x := y) (by omega)]
      exact fixs_l0 hK hr hs hw k (V ++ [y]) (S ++ [z]) (by simp; omega) (by simp; omega) (by simp; omega) (q6a h3 y2) (q6a h4 z2)
    · have e : (decide (((V.length : Nat) : Int) < (if ((ls.length : Nat) : Int) < ((vs.length : Nat) : Int) then ((ls.length : Nat) : Int) else ((vs.length : Nat) : Int))) && decide (((V.length : Nat) : Int) < ((regs : Nat) : Int))) = false := by
        rw [Bool.and_eq_false_iff]
        by_cases q : V.length < regs
        · refine .inl (decide_eq_false ?_); split <;> omega
        · exact .inr (decide_eq_false (by omega))
      simp only [e, cond_false]
      exact ⟨V, S, rfl, h1, h2, h3, h4⟩
theorem fixst_val (hK : 2000 ≤ K) {regs : Nat} {sites : Int} {c : Bool} (hr : regs ≤ 8) (hs : 1 ≤ sites ∧ sites ≤ 1000) {vs : List q0d} {ls : List (List Int)} (hw : ∀ v ∈ vs, Wv v) :
    ∃ V S, q22.f K c vs ls ((regs : Nat) : Int) sites = some (c, V, S) ∧ V.length ≤ regs ∧ S.length = V.length ∧ (∀ v ∈ V, Vr v) ∧ (∀ s ∈ S, q3x sites s) ∧ (c = false → V = []) := by
  unfold q22.f
  cases c with
  | false => exact ⟨[], [], rfl, by simp, rfl, by simp, by simp, fun _ => rfl⟩
  | true =>
    obtain ⟨V, S, h1, h2, h3, h4, h5⟩ := fixs_l0 (K := K) hK hr hs (ls := ls) hw K [] [] (by simp; omega) (by simp) rfl (by simp) (by simp)
    have h1' : q22.l0.f K K ((regs : Nat) : Int) sites (0 : Int) vs ls [] [] = some (V, S) := h1
    simp only [Bool.not_true, cond_false, h1', q0c]
    exact ⟨V, S, rfl, h2, h3, h4, h5, fun e => by cases e⟩
theorem pad_l4 {regs : Nat} {sites : Int} (hr : regs ≤ 8) {c : Bool} : ∀ (k : Nat) (V : List q0d) (S : List (List Int)), regs < k + V.length → V.length ≤ regs → S.length = V.length → (∀ v ∈ V, Vr v) → (∀ s ∈ S, q3x sites s) → (c = false → V = []) →
    ∃ V' S', q1j.l4.f K k ((regs : Nat) : Int) c V S = some (V', S') ∧ S'.length = V'.length ∧ (∀ v ∈ V', Vr v) ∧ (∀ s ∈ S', q3x sites s) ∧ (c = false → V' = []) ∧ (c = true → V'.length = regs)
  | 0, V, S, h, h1, h2, h3, h4, h5 => by omega
  | k + 1, V, S, h, h1, h2, h3, h4, h5 => by
    rw [q1j.l4.f]
    simp only [z0c, q2c]
    cases c with
    | false =>
      simp only [Bool.and_false, cond_false]
      exact ⟨V, S, rfl, h2, h3, h4, fun _ => h5 rfl, fun e => by cases e⟩
    | true =>
      by_cases q : V.length < regs
      · have e : decide (((V.length : Nat) : Int) < ((regs : Nat) : Int)) = true := decide_eq_true (by omega)
        have b2 : (S.length + 1).ble 1000000 = true := Nat.ble_eq_true_of_le (by omega)
        simp only [e, Bool.and_true, cond_true, q9r, q0c, q2p (l := V) (x := anyV) (n := 1000000) (by omega), b2]
        obtain ⟨V', S', g1, g2, g3, g4, g5, g6⟩ := pad_l4 (c := true) hr k (V ++ [anyV]) (S ++ [[]]) (by simp; omega) (by simp; omega) (by simp; omega) (q6a h3 q9v) (q6a h4 ⟨List.Pairwise.nil, fun x hx => by cases hx⟩) (fun e => by cases e)
        exact ⟨V', S', g1, g2, g3, g4, (fun e => by cases e), fun _ => g6 rfl⟩
      · have e : decide (((V.length : Nat) : Int) < ((regs : Nat) : Int)) = false := decide_eq_false (by omega)
        simp only [e, Bool.and_true, cond_false]
        exact ⟨V, S, rfl, h2, h3, h4, (fun e => by cases e), fun _ => by omega⟩
end Go.Proofs.YtdjkdmjdcdljmaaGreatDoor.AF
namespace Go.Proofs.YtdjkdmjdcdljmaaGreatDoor.AF
open Go.Proofs.q0a Go.Proofs.q0a.Runs
set_option maxRecDepth 100000
set_option maxHeartbeats 4000000
variable {K : Nat}
theorem upto_l0 {n : Nat} (hn : n ≤ 1000) : ∀ (k i : Nat), i ≤ n → n - i < k → q35.l0.f K k ((n : Nat) : Int) ((i : Nat) : Int) ((List.range i).map fun (j : Nat) => (j : Int)) = some ((List.range n).map fun (j : Nat) => (j : Int))
  | 0, i, _, hk => by omega
  | k + 1, i, hi, hk => by
    rw [q35.l0.f]
    by_cases h : i < n
    · have e : decide (((i : Nat) : Int) < ((n : Nat) : Int)) = true := by simp; omega
      have w : IntKind.i64.wrap (((i : Nat) : Int) + 1) = ((i + 1 : Nat) : Int) := by rw [q00 (by omega) (by omega)]; omega
      simp only [e, cond_true, q2p (l := (List.range i).map fun (j : Nat) => (j : Int)) (x := ((i : Nat) : Int)) (n := 1000000) (by simp; omega), w]
      have e2 : ((List.range i).map fun (j : Nat) => (j : Int)) ++ [((i : Nat) : Int)] = (List.range (i + 1)).map fun (j : Nat) => (j : Int) := by simp [List.range_succ]
      rw [e2]
      exact upto_l0 hn k (i + 1) (by omega) (by omega)
    · have e : decide (((i : Nat) : Int) < ((n : Nat) : Int)) = false := by simp; omega
      have : i = n := by omega
      subst this
      simp only [e, cond_false]
theorem z8n (hK : 2000 ≤ K) {n : Nat} (hn : n ≤ 1000) : ∃ r, q35.f K ((n : Nat) : Int) = some r ∧ q3x n r :=
  ⟨_, upto_l0 (K := K) hn K 0 (by omega) (by omega), z5t n⟩
theorem any_l0 {cells : List Int} (hn : cells.length ≤ 1000) : ∀ (k : Nat) (acc : List q0d), cells.length < k + acc.length → acc.length ≤ cells.length → (∀ v ∈ acc, Vr v) → ∃ r, q1n.l0.f K k ((acc.length : Nat) : Int) cells acc = some r ∧ (∀ v ∈ r, Vr v) ∧ r.length = cells.length
  | 0, acc, h, h1, h2 => by omega
  | k + 1, acc, h, h1, h2 => by
    rw [q1n.l0.f]
    by_cases hc : acc.length < cells.length
    · have e : decide (((acc.length : Nat) : Int) < ((cells.length : Nat) : Int)) = true := by simp; omega
      simp only [e, cond_true, q9r, q0c, q2p (l := acc) (x := anyV) (n := 1000000) (by omega), q5u (l := acc) (x := anyV) (by omega)]
      exact any_l0 hn k (acc ++ [anyV]) (by simp; omega) (by simp; omega) (q6a h2 q9v)
    · have e : decide (((acc.length : Nat) : Int) < ((cells.length : Nat) : Int)) = false := by simp; omega
      simp only [e, cond_false]
      exact ⟨acc, rfl, h2, by omega⟩
theorem any_l4 (hK : 2000 ≤ K) {is : List q0h} (hl : is.length ≤ 1000) (hi : ∀ m ∈ is, 0 ≤ m.2 ∧ m.2 ≤ 4) : ∀ (k : Nat) (acc : List LSum), is.length < k + acc.length → acc.length ≤ is.length → (∀ (i : Nat) m s, is[i]? = some m → acc[i]? = some s → Sr m.2 s) →
    ∃ r, q1n.l4.f K k ((acc.length : Nat) : Int) is acc = some r ∧ r.length = is.length ∧ ∀ (i : Nat) m s, is[i]? = some m → r[i]? = some s → Sr m.2 s
  | 0, acc, h, h1, h2 => by omega
  | k + 1, acc, h, h1, h2 => by
    rw [q1n.l4.f]
    by_cases hc : acc.length < is.length
    · obtain ⟨x, hx, hm⟩ := q5t hc
      have e : decide (((acc.length : Nat) : Int) < ((is.length : Nat) : Int)) = true := by simp; omega
      have ha := hi x hm
      obtain ⟨s, s1, s2⟩ := z58 (K := K) hK (a := x.2) (by omega)
      simp only [e, cond_true, ge0, Int.toNat_natCast, hx, q0c, s1, q2p (l := acc) (x := (s.1, s.2.1, s.2.2.1, s.2.2.2.1, (s.2.2.2.2.1.1, s.2.2.2.2.1.2), (s.2.2.2.2.2.1.1, s.2.2.2.2.2.1.2), s.2.2.2.2.2.2)) (n := 1000000) (by omega), q5u (l := acc) (x := s) (by omega)]
      refine any_l4 hK hl hi k (acc ++ [s]) (by simp; omega) (by simp; omega) fun i m s' h1 h3 => ?_
      rw [List.getElem?_append] at h3
      split at h3
      · exact h2 i m s' h1 h3
      · rename_i hni
        have : i = acc.length := by
          by_cases q : i = acc.length
          · exact q
          · rw [List.getElem?_eq_none (by simp; omega)] at h3; cases h3
        subst this
        rw [hx] at h1
        simp at h3
        cases h1; cases h3
        exact s2
    · have e : decide (((acc.length : Nat) : Int) < ((is.length : Nat) : Int)) = false := by simp; omega
      simp only [e, cond_false]
      exact ⟨acc, rfl, by omega, h2⟩
theorem any_l3 {sites : Int} {L : List Int} (hL : q3x sites L) {fs : List q0t} {i : Nat} {m : q0t} (hi : fs[i]? = some m) {n : Nat} (hn : m.2.2.1 = ((n : Nat) : Int)) (hr : n ≤ 8) : ∀ (k : Nat) (V : List q0d) (S : List (List Int)), n < k + V.length → V.length ≤ n → S.length = V.length → (∀ v ∈ V, Vr v) → (∀ s ∈ S, q3x sites s) →
    ∃ V' S', q1n.l3.f K k L ((i : Nat) : Int) ((V.length : Nat) : Int) fs V S = some (V', S') ∧ V'.length = n ∧ S'.length = n ∧ (∀ v ∈ V', Vr v) ∧ ∀ s ∈ S', q3x sites s
  | 0, V, S, h, h1, h2, h3, h4 => by omega
  | k + 1, V, S, h, h1, h2, h3, h4 => by
    rw [q1n.l3.f]
    simp only [ge0, Int.toNat_natCast, hi, cond_true, q0c, hn]
    by_cases q : V.length < n
    · have e : decide (((V.length : Nat) : Int) < ((n : Nat) : Int)) = true := decide_eq_true (by omega)
      simp only [e, cond_true, q9r, q0c, q2p (l := V) (x := anyV) (n := 1000000) (by omega), q2p (l := S) (x := L) (n := 1000000) (by omega), q5u (l := V) (x := anyV) (by omega)]
      exact any_l3 hL hi hn hr k (V ++ [anyV]) (S ++ [L]) (by simp; omega) (by simp; omega) (by simp; omega) (q6a h3 q9v) (q6a h4 hL)
    · have e : decide (((V.length : Nat) : Int) < ((n : Nat) : Int)) = false := decide_eq_false (by omega)
      simp only [e, cond_false]
      exact ⟨V, S, rfl, by omega, by omega, h3, h4⟩
theorem any_l2 (hK : 2000 ≤ K) {sites : Int} {L : List Int} (hL : q3x sites L) {fs : List q0t} {i : Nat} {m : q0t} (hi : fs[i]? = some m) {n : Nat} (hn : m.2.2.1 = ((n : Nat) : Int)) (hr : n ≤ 8) (hb : m.2.2.2.length ≤ 1000) : ∀ (k : Nat) (B : List q0j), m.2.2.2.length < k + B.length → B.length ≤ m.2.2.2.length → (∀ b ∈ B, Br m.2.2.1 sites b) →
    ∃ B', q1n.l2.f K k L ((i : Nat) : Int) ((B.length : Nat) : Int) fs B = some B' ∧ B'.length = m.2.2.2.length ∧ ∀ b ∈ B', Br m.2.2.1 sites b
  | 0, B, h, h1, h2 => by omega
  | k + 1, B, h, h1, h2 => by
    rw [q1n.l2.f]
    simp only [ge0, Int.toNat_natCast, hi, cond_true, q0c]
    by_cases q : B.length < m.2.2.2.length
    · have e : decide (((B.length : Nat) : Int) < ((m.2.2.2.length : Nat) : Int)) = true := decide_eq_true (by omega)
      obtain ⟨V, S, g1, g2, g3, g4, g5⟩ := any_l3 (K := K) hL hi hn hr K [] [] (by simp; omega) (by simp) rfl (by simp) (by simp)
      have g1' : q1n.l3.f K K L ((i : Nat) : Int) (0 : Int) fs [] [] = some (V, S) := g1
      obtain ⟨u, u1, u2⟩ := z8n (K := K) hK (n := n) (by omega)
      rw [← hn] at u1 u2
      have hB : Br m.2.2.1 sites ((true, V, S), u) := ⟨(fun e => by cases e), fun _ => ⟨by rw [hn, g2], by rw [hn, g3]⟩, g4, g5, u2⟩
      simp only [e, cond_true, g1', q0c, u1, q2p (l := B) (x := (((true, V, S), u) : q0j)) (n := 1000000) (by omega), q5u (l := B) (x := (((true, V, S), u) : q0j)) (by omega)]
      exact any_l2 hK hL hi hn hr hb k (B ++ [((true, V, S), u)]) (by simp; omega) (by simp; omega) (q6a h2 hB)
    · have e : decide (((B.length : Nat) : Int) < ((m.2.2.2.length : Nat) : Int)) = false := decide_eq_false (by omega)
      simp only [e, cond_false]
      exact ⟨B, rfl, by omega, h2⟩
structure FI (sites : Int) (fs : List q0t) (A : List (LSum × Nat)) (F : List (Option (List q0j))) : Prop where
  len : A.length = F.length
  tells : ∀ (i : Nat) m, fs[i]? = some m → i < A.length → ∃ s bs, A[i]? = some (s, i) ∧ F[i]? = some (some bs) ∧ Tf sites m (s, bs)
theorem FI.snoc {sites : Int} {fs : List q0t} {A : List (LSum × Nat)} {F : List (Option (List q0j))} (h : FI sites fs A F) {m : q0t} (hm : fs[A.length]? = some m) {s : LSum} {bs : List q0j} (ht : Tf sites m (s, bs)) : FI sites fs (A ++ [(s, F.length)]) (F ++ [some bs]) := by
  refine ⟨by simp [h.len], fun i m' hi hl => ?_⟩
  by_cases q : i < A.length
  · obtain ⟨s', bs', g1, g2, g3⟩ := h.tells i m' hi q
    exact ⟨s', bs', by rw [List.getElem?_append_left q]; exact g1, by rw [List.getElem?_append_left (by rw [← h.len]; exact q)]; exact g2, g3⟩
  · have : i = A.length := by simp at hl; omega
    subst this
    rw [hm] at hi
    cases hi
    exact ⟨s, bs, by simp [h.len], by rw [h.len]; simp, ht⟩
theorem FI.setA {sites : Int} {fs : List q0t} {A : List (LSum × Nat)} {F : List (Option (List q0j))} (h : FI sites fs A F) {i : Nat} {m : q0t} (hm : fs[i]? = some m) {s : LSum} (ht : Sr m.2.1 s) : FI sites fs (A.set i (s, i)) F := by
  refine ⟨by simp [h.len], fun j m' hj hl => ?_⟩
  rw [List.length_set] at hl
  obtain ⟨s', bs', g1, g2, g3⟩ := h.tells j m' hj hl
  by_cases q : i = j
  · subst q
    rw [hm] at hj
    cases hj
    exact ⟨s, bs', by rw [List.getElem?_set]; simp [hl], g2, ⟨ht, g3.len, g3.blocks⟩⟩
  · exact ⟨s', bs', by rw [List.getElem?_set_ne q]; exact g1, g2, g3⟩
theorem FI.setF {sites : Int} {fs : List q0t} {A : List (LSum × Nat)} {F : List (Option (List q0j))} (h : FI sites fs A F) {i : Nat} {m : q0t} (hm : fs[i]? = some m) {bs : List q0j} (hb : F[i]? = some (some bs)) (j : Nat) {b : q0j} (ht : Br m.2.2.1 sites b) : FI sites fs A (F.set i (some (bs.set j b))) := by
  refine ⟨by simp [h.len], fun e m' he hl => ?_⟩
  obtain ⟨s', bs', g1, g2, g3⟩ := h.tells e m' he hl
  by_cases q : i = e
  · subst q
    rw [hm] at he
    rw [hb] at g2
    cases he; cases g2
    refine ⟨s', bs.set j b, g1, by rw [List.getElem?_set]; simp [← h.len, hl], ⟨g3.sum, by simpa using g3.len, fun c hc => ?_⟩⟩
    rcases List.mem_or_eq_of_mem_set hc with h1 | h1
    · exact g3.blocks c h1
    · rw [h1]; exact ht
  · exact ⟨s', bs', g1, by rw [List.getElem?_set_ne q]; exact g2, g3⟩
theorem any_l1 (hK : 2000 ≤ K) {sites : Int} {L : List Int} (hL : q3x sites L) {fs : List q0t} (hl : fs.length ≤ 1000) (hf : ∀ m ∈ fs, (1 ≤ m.2.2.1 ∧ m.2.2.1 ≤ 8) ∧ m.2.2.2.length ≤ 12 ∧ 0 ≤ m.2.1 ∧ m.2.1 ≤ 4) : ∀ (k : Nat) (A : List (LSum × Nat)) (F : List (Option (List q0j))), fs.length < k + A.length → A.length ≤ fs.length → FI sites fs A F →
    ∃ A' F', q1n.l1.f K k L ((A.length : Nat) : Int) fs A F = some (A', F') ∧ A'.length = fs.length ∧ FI sites fs A' F'
  | 0, A, F, h, h1, h2 => by omega
  | k + 1, A, F, h, h1, h2 => by
    rw [q1n.l1.f]
    by_cases hc : A.length < fs.length
    · obtain ⟨m, hm, hmem⟩ := q5t hc
      obtain ⟨r1, r2, r3⟩ := hf m hmem
      have e : decide (((A.length : Nat) : Int) < ((fs.length : Nat) : Int)) = true := by simp; omega
      obtain ⟨s, s1, s2⟩ := z58 (K := K) hK (a := m.2.1) (by omega)
      have hn : m.2.2.1 = ((m.2.2.1.toNat : Nat) : Int) := (Int.toNat_of_nonneg (by omega)).symm
      obtain ⟨B, b1, b2, b3⟩ := any_l2 (K := K) hK hL hm hn (by omega) (by omega) K [] (by simp; omega) (by simp) (by simp)
      have b1' : q1n.l2.f K K L ((A.length : Nat) : Int) (0 : Int) fs [] = some B := b1
      simp only [e, cond_true, ge0, Int.toNat_natCast, hm, q0c, s1, b1', q2p (l := A) (x := ((s.1, s.2.1, s.2.2.1, s.2.2.2.1, (s.2.2.2.2.1.1, s.2.2.2.2.1.2), (s.2.2.2.2.2.1.1, s.2.2.2.2.2.1.2), s.2.2.2.2.2.2), F.length)) (n := 1000000) (by omega), q5u (l := A) (x := (s, F.length)) (by omega)]
      exact any_l1 hK hL hl hf k (A ++ [(s, F.length)]) (F ++ [some B]) (by simp; omega) (by simp; omega) (h2.snoc hm ⟨s2, b2, b3⟩)
    · have e : decide (((A.length : Nat) : Int) < ((fs.length : Nat) : Int)) = false := by simp; omega
      simp only [e, cond_false]
      exact ⟨A, F, rfl, by omega, h2⟩
theorem WF.short {cells : List Int} {fs : List q0t} {is : List q0h} (h : WF cells fs is) : ∀ m ∈ fs, (1 ≤ m.2.2.1 ∧ m.2.2.1 ≤ 8) ∧ m.2.2.2.length ≤ 12 ∧ 0 ≤ m.2.1 ∧ m.2.1 ≤ 4 := fun m hm => by
  obtain ⟨a, b, c, d⟩ := h.shape m hm
  exact ⟨a, b.2, c⟩
theorem any17_val (hK : 2000 ≤ K) {cells : List Int} {fs : List q0t} {is : List q0h} (h : WF cells fs is) (hw : wide cells fs) (hs : q3p fs ≤ 200) :
    ∃ cs A ss F, q1n.f K cells fs is = some (cs, A, ss, F) ∧ (∀ v ∈ cs, Vr v) ∧ cs.length = cells.length ∧ A.length = fs.length ∧ FI ((q3p fs : Nat) : Int) fs A F ∧ ss.length = is.length ∧ ∀ (i : Nat) m s, is[i]? = some m → ss[i]? = some s → Sr m.2 s := by
  have hn := h.ncells
  have hcnt := h.count
  obtain ⟨r, r1, r2⟩ := z5i (K := K) hK h
  obtain ⟨L, l1, l2⟩ := z8n (K := K) hK (n := q3p fs) (by omega)
  obtain ⟨cs, c1, c2, c3⟩ := any_l0 (K := K) (cells := cells) (by omega) K [] (by simp; omega) (by simp) (by simp)
  obtain ⟨A, F, a1, a2, a3⟩ := any_l1 (K := K) hK l2 (fs := fs) (by omega) h.short K [] [] (by simp; omega) (by simp) ⟨rfl, fun i m _ hl => by simp at hl⟩
  obtain ⟨ss, s1, s2, s3⟩ := any_l4 (K := K) hK (is := is) (by omega) (h.ims hw) K [] (by simp; omega) (by simp) (fun i m s _ e => by simp at e)
  refine ⟨cs, A, ss, F, ?_, c2, c3, a2, a3, s2, s3⟩
  unfold q1n.f q06.f
  rw [r1, q0c, r2, l1, q0c, show q1n.l0.f K K (0 : Int) cells [] = _ from c1, q0c, show q1n.l1.f K K L (0 : Int) fs [] [] = _ from a1, q0c, show q1n.l4.f K K (0 : Int) is [] = _ from s1, q0c]
end Go.Proofs.YtdjkdmjdcdljmaaGreatDoor.AF
namespace Go.Proofs.YtdjkdmjdcdljmaaGreatDoor.AF
open Go.Proofs.q0a Go.Proofs.q0a.Runs
set_option maxRecDepth 100000
set_option maxHeartbeats 4000000
variable {K : Nat}
theorem dec_lt {a b : Nat} (h : a < b) : decide (((a : Nat) : Int) < ((b : Nat) : Int)) = true := decide_eq_true (by omega)
theorem z1w {a b : Nat} (h : ¬ a < b) : decide (((a : Nat) : Int) < ((b : Nat) : Int)) = false := decide_eq_false (by omega)
theorem q96 {a b : Nat} (h : a < b) : a.blt b = true := Nat.ble_eq_true_of_le h
theorem q34 {n : Nat} (h : n < 1000000000) : IntKind.i64.wrap (((n : Nat) : Int) + (1 : Int)) = ((n + 1 : Nat) : Int) := by rw [q00 (by omega) (by omega)]; omega
theorem fix_l0 {t : List q0d} (hw : ∀ v ∈ t, Wv v) : ∀ (k j : Nat) (C : List q0d), C.length ≤ 1000 → C.length < k + j → j ≤ C.length → (∀ v ∈ C, Vr v) → ∃ r, q1j.l0.f K k ((j : Nat) : Int) t C = some r ∧ r.length = C.length ∧ ∀ v ∈ r, Vr v
  | 0, j, C, hl, h, h1, h2 => by omega
  | k + 1, j, C, hl, h, h1, h2 => by
    rw [q1j.l0.f]
    simp only [z0c, q2c]
    by_cases c : j < C.length
    · obtain ⟨y, hy, _⟩ := q5t c
      by_cases c2 : j < t.length
      · obtain ⟨x, hx, hm⟩ := q5t c2
        obtain ⟨z, z1, z2⟩ := z2h (K := K) (hw x hm)
        simp only [dec_lt c, dec_lt c2, Bool.and_self, cond_true, ge0', Int.toNat_natCast, hx, hy, q0c, z1, q96 c, q34 (n := j) (by omega)]
        obtain ⟨r, r1, r2, r3⟩ := fix_l0 hw k (j + 1) (C.set j z) (by simpa using hl) (by simp; omega) (by simp; omega) (fun v hv => by
          rcases List.mem_or_eq_of_mem_set hv with h3 | h3
          · exact h2 v h3
          · rw [h3]; exact z2)
        exact ⟨r, r1, by simpa using r2, r3⟩
      · simp only [z1w c2, Bool.and_false, cond_false]
        exact ⟨C, rfl, rfl, h2⟩
    · simp only [z1w c, Bool.false_and, cond_false]
      exact ⟨C, rfl, rfl, h2⟩
theorem fix_l1 (hK : 2000 ≤ K) {is : List q0h} (hi : ∀ m ∈ is, 0 ≤ m.2 ∧ m.2 ≤ 4) {t : List LSum} (hw : ∀ s ∈ t, Ws s) : ∀ (k j : Nat) (S : List LSum), S.length = is.length → S.length ≤ 1000 → S.length < k + j → j ≤ S.length → (∀ (i : Nat) m s, is[i]? = some m → S[i]? = some s → Sr m.2 s) →
    ∃ r, q1j.l1.f K k ((j : Nat) : Int) is t S = some r ∧ r.length = is.length ∧ ∀ (i : Nat) m s, is[i]? = some m → r[i]? = some s → Sr m.2 s
  | 0, j, S, he, hl, h, h1, h2 => by omega
  | k + 1, j, S, he, hl, h, h1, h2 => by
    rw [q1j.l1.f]
    simp only [z0c, q2c]
    by_cases c : j < S.length
    · obtain ⟨y, hy, _⟩ := q5t c
      by_cases c2 : j < t.length
      · obtain ⟨x, hx, hm⟩ := q5t c2
        obtain ⟨m, hmi, hmm⟩ := q5t (l := is) (n := j) (by omega)
        have ha := hi m hmm
        obtain ⟨T, z, z1, z2⟩ := z6c (K := K) hK (a := m.2) (by omega) (hw x hm)
        simp only [dec_lt c, dec_lt c2, Bool.and_self, cond_true, ge0', Int.toNat_natCast, hx, hy, hmi, q0c, z1, q96 c, q34 (n := j) (by omega)]
        refine fix_l1 hK hi hw k (j + 1) (S.set j (x.1, T, x.2.2.1, z)) (by simpa using he) (by simpa using hl) (by simp; omega) (by simp; omega) fun i m' s' hi' hs' => ?_
        by_cases q : j = i
        · subst q
          rw [hmi] at hi'
          rw [List.getElem?_set] at hs'
          simp [c] at hs'
          cases hi'
          rw [← hs']
          exact z2
        · rw [List.getElem?_set_ne q] at hs'
          exact h2 i m' s' hi' hs'
      · simp only [z1w c2, Bool.and_false, cond_false]
        exact ⟨S, rfl, he, h2⟩
    · simp only [z1w c, Bool.false_and, cond_false]
      exact ⟨S, rfl, he, h2⟩
theorem fix_l3 (hK : 2000 ≤ K) {sites : Int} (hs : 1 ≤ sites ∧ sites ≤ 1000) {fs : List q0t} {xs : List q0l} {A : List (LSum × Nat)} {i : Nat} {m : q0t} {x : q0l} {s : LSum} (hm : fs[i]? = some m) (hx : xs[i]? = some x) (hw : Wf x) (ha : A[i]? = some (s, i)) (hr : 1 ≤ m.2.2.1 ∧ m.2.2.1 ≤ 8) (hb : m.2.2.2.length ≤ 12) :
    ∀ (k j : Nat) (F : List (Option (List q0j))), m.2.2.2.length < k + j → j ≤ m.2.2.2.length → FI sites fs A F → ∃ F', q1j.l3.f K k sites ((i : Nat) : Int) ((j : Nat) : Int) xs m.2.2.1 m.2.2.2 A F = some F' ∧ FI sites fs A F'
  | 0, j, F, h, h1, h2 => by omega
  | k + 1, j, F, h, h1, h2 => by
    rw [q1j.l3.f]
    by_cases c : j < m.2.2.2.length
    · simp only [dec_lt c, cond_true, ge0', Bool.and_self, Int.toNat_natCast, hx, q0c, q2c]
      by_cases c2 : j < x.2.length
      · obtain ⟨y, hy, hym⟩ := q5t c2
        have hn : m.2.2.1 = ((m.2.2.1.toNat : Nat) : Int) := (Int.toNat_of_nonneg (by omega)).symm
        have hiA : i < A.length := by
          by_cases q : i < A.length
          · exact q
          · rw [List.getElem?_eq_none (by omega)] at ha; cases ha
        obtain ⟨V, S, v1, v2, v3, v4, v5, v6⟩ := fixst_val (K := K) hK (c := y.1.1) (regs := m.2.2.1.toNat) (by omega) hs (ls := y.1.2.2) (hw.2 y hym)
        obtain ⟨V', S', w1, w2, w3, w4, w5, w6⟩ := pad_l4 (K := K) (regs := m.2.2.1.toNat) (sites := sites) (by omega) (c := y.1.1) K V S (by omega) v2 v3 v4 v5 v6
        rw [← hn] at v1 w1
        obtain ⟨u, u1, u2, u3⟩ := live_l5 (K := K) (n := m.2.2.1) (by omega) (l := y.2) K [] (by simp; omega) (by simp) (by simp)
        have u1' : q1j.l5.f K K (0 : Int) m.2.2.1 y.2 [] = some u := u1
        obtain ⟨z, z1, z2⟩ := j2i (K := K) hK (n := m.2.2.1) (l := u) (by omega) u3
        obtain ⟨s', bs, g1, g2, g3⟩ := h2.tells i m hm hiA
        have hjb : j < bs.length := by have := g3.len; dsimp only at this; omega
        obtain ⟨b0, hb0, _⟩ := q5t hjb
        have hB : Br m.2.2.1 sites ((y.1.1, V', S'), z) := ⟨fun e => ⟨w5 e, by have := w5 e; rw [this] at w2; exact List.eq_nil_of_length_eq_zero w2⟩, fun e => ⟨by have := w6 e; dsimp only; omega, by have := w6 e; dsimp only; omega⟩, w3, w4, z2⟩
        simp only [dec_lt c2, cond_true, ge0', Bool.and_self, Int.toNat_natCast, hx, hy, q0c, v1, w1, u1', ha, z1, q96 hiA, g2, q2c, q96 hjb, hb0, q34 (n := j) (by omega)]
        exact fix_l3 hK hs hm hx hw ha hr hb k (j + 1) _ (by omega) (by omega) (h2.setF hm g2 j hB)
      · simp only [z1w c2, cond_false]
        exact ⟨F, rfl, h2⟩
    · simp only [z1w c, cond_false, q2c]
      exact ⟨F, rfl, h2⟩
theorem fix_l2 (hK : 2000 ≤ K) {sites : Int} {fs : List q0t} (hs : ∀ m ∈ fs, 1 ≤ sites ∧ sites ≤ 1000) (hl : fs.length ≤ 1000) (hf : ∀ m ∈ fs, (1 ≤ m.2.2.1 ∧ m.2.2.1 ≤ 8) ∧ m.2.2.2.length ≤ 12 ∧ 0 ≤ m.2.1 ∧ m.2.1 ≤ 4) {xs : List q0l} (hw : ∀ x ∈ xs, Wf x) :
    ∀ (k i : Nat) (A : List (LSum × Nat)) (F : List (Option (List q0j))), A.length = fs.length → fs.length < k + i → i ≤ fs.length → FI sites fs A F → ∃ A' F', q1j.l2.f K k sites ((i : Nat) : Int) fs xs A F = some (A', F') ∧ A'.length = fs.length ∧ FI sites fs A' F'
  | 0, i, A, F, he, h, h1, h2 => by omega
  | k + 1, i, A, F, he, h, h1, h2 => by
    rw [q1j.l2.f]
    simp only [z0c, q2c]
    by_cases c : i < A.length
    · by_cases c2 : i < xs.length
      · obtain ⟨m, hm, hmm⟩ := q5t (l := fs) (n := i) (by omega)
        obtain ⟨x, hx, hxm⟩ := q5t c2
        obtain ⟨r1, r2, r3⟩ := hf m hmm
        obtain ⟨T, z, z1, z2⟩ := z6c (K := K) hK (a := m.2.1) (by omega) (hw x hxm).1
        obtain ⟨s', bs, g1, g2, g3⟩ := h2.tells i m hm c
        have h3 := h2.setA hm z2
        obtain ⟨F', f1, f2⟩ := fix_l3 (K := K) hK (hs m hmm) (A := A.set i ((x.1.1, T, x.1.2.2.1, z), i)) (s := (x.1.1, T, x.1.2.2.1, z)) hm hx (hw x hxm) (by rw [List.getElem?_set]; simp [c]) r1 r2 K 0 F (by omega) (by omega) h3
        have f1' : q1j.l3.f K K sites ((i : Nat) : Int) (0 : Int) xs m.2.2.1 m.2.2.2 (A.set i ((x.1.1, T, x.1.2.2.1, z), i)) F = some F' := f1
        simp only [dec_lt c, dec_lt c2, Bool.and_self, cond_true, ge0', Int.toNat_natCast, hm, hx, q0c, z1, q96 c, g1, f1', q34 (n := i) (by omega)]
        exact fix_l2 hK hs hl hf hw k (i + 1) _ F' (by simpa using he) (by omega) (by omega) f2
      · simp only [z1w c2, Bool.and_false, cond_false]
        exact ⟨A, F, rfl, he, h2⟩
    · simp only [z1w c, Bool.false_and, cond_false]
      exact ⟨A, F, rfl, he, h2⟩
theorem z9i {m : q0t} : ∀ {fs : List q0t}, m ∈ fs → m.2.2.1.toNat ≤ q3p fs
  | f :: fs, h => by
    rcases List.mem_cons.1 h with e | e
    · subst e; simp only [q3p, List.map_cons, List.sum_cons]; omega
    · have := z9i e
      simp only [q3p, List.map_cons, List.sum_cons] at this ⊢
      omega
theorem FI.all {sites : Int} {fs : List q0t} {A : List (LSum × Nat)} {F : List (Option (List q0j))} (h : FI sites fs A F) (hl : A.length = fs.length) : A.all (z2a F (ySum.pair (Ty.own (0 : Nat)))) = true ∧ ∀ (i : Nat) m x, fs[i]? = some m → (A.map (z1d q1g F (ySum.pair (Ty.own (0 : Nat)))))[i]? = some x → Tf sites m x := by
  refine ⟨List.all_eq_true.2 fun p hp => ?_, fun i m x hm hx => ?_⟩
  · obtain ⟨i, hi⟩ := List.getElem?_of_mem hp
    have hiA : i < A.length := by
      by_cases q : i < A.length
      · exact q
      · rw [List.getElem?_eq_none (by omega)] at hi; cases hi
    obtain ⟨m, hm, _⟩ := q5t (l := fs) (n := i) (by omega)
    obtain ⟨s, bs, g1, g2, g3⟩ := h.tells i m hm hiA
    rw [g1] at hi
    cases hi
    have e : j1z F i = true := by unfold j1z; rw [g2]
    show (z2a F ySum s && j1z F i) = true
    rw [e]
    rfl
  · have hiA : i < A.length := by
      by_cases q : i < A.length
      · exact q
      · rw [List.getElem?_eq_none (by simp; omega)] at hx; cases hx
    obtain ⟨s, bs, g1, g2, g3⟩ := h.tells i m hm hiA
    rw [List.getElem?_map, g1] at hx
    cases hx
    have e : z3s F i = bs := by unfold z3s; rw [g2]
    show Tf sites m (s, z3s F i)
    rw [e]
    exact g3
theorem fix17_val (hK : 2000 ≤ K) {cells : List Int} {fs : List q0t} {is : List q0h} {cs : List q0d} {xs : List q0l} {ss : List LSum} (h : WF cells fs is) (hw : wide cells fs) (hs : q3p fs ≤ 200) (h1 : ∀ v ∈ cs, Wv v) (h2 : ∀ x ∈ xs, Wf x) (h3 : ∀ s ∈ ss, Ws s) :
    ∃ cs' xs' ss', q1j.f K cells fs is cs xs ss = some (cs', xs', ss') ∧ Tab cells fs is cs' xs' ss' := by
  have hn := h.ncells
  have hcnt := h.count
  obtain ⟨C, A, S, F, a1, a2, a3, a4, a5, a6, a7⟩ := any17_val (K := K) hK h hw hs
  obtain ⟨r, r1, r2⟩ := z5i (K := K) hK h
  obtain ⟨C', c1, c2, c3⟩ := fix_l0 (K := K) h1 K 0 C (by omega) (by omega) (by omega) a2
  obtain ⟨S', s1, s2, s3⟩ := fix_l1 (K := K) hK (h.ims hw) h3 K 0 S a6 (by omega) (by omega) (by omega) a7
  obtain ⟨A', F', f1, f2, f3⟩ := fix_l2 (K := K) hK (sites := ((q3p fs : Nat) : Int)) (fs := fs) (fun m hm => by
    have q1 := z9i hm
    have q2 := (h.short m hm).1
    omega) (by omega) h.short h2 K 0 A F a4 (by omega) (by omega) a5
  obtain ⟨e1, e2⟩ := f3.all f2
  refine ⟨C', A'.map (z1d q1g F' (ySum.pair (Ty.own (0 : Nat)))), S', ?_, ⟨by omega, c3, (List.length_map _).trans f2, e2, by omega, s3⟩⟩
  unfold q1j.f
  rw [a1, q0c]
  dsimp only
  rw [show q1j.l0.f K K (0 : Int) cs C = _ from c1, q0c, show q1j.l1.f K K (0 : Int) is ss S = _ from s1, q0c]
  unfold q06.f
  rw [r1, q0c, r2, show q1j.l2.f K K ((q3p fs : Nat) : Int) (0 : Int) fs xs A F = _ from f1, q0c]
  dsimp only
  rw [e1, cond_true]
theorem fewF_fits {fs : List q0t} : fits ((fs.take 30).map fewF) := by
  refine ⟨by simp; omega, fun f hf => ?_⟩
  obtain ⟨g, hg, rfl⟩ := List.mem_map.1 hf
  refine ⟨by simp [fewF]; omega, fun b hb => ?_⟩
  obtain ⟨c, hc, rfl⟩ := List.mem_map.1 (show b ∈ (g.2.2.2.take 14).map fewB from hb)
  refine ⟨by simp [fewB]; omega, fun x hx => ?_⟩
  obtain ⟨y, hy, rfl⟩ := List.mem_map.1 (show x ∈ (c.1.take 14).map fewI from hx)
  simp [fewI]; omega
theorem fewF_wide {cells : List Int} {fs : List q0t} (h : wide cells fs) : wide (cells.take 20) ((fs.take 30).map fewF) := by
  refine ⟨fun c hc => h.1 c (List.mem_of_mem_take hc), fun f hf b hb x hx => ?_⟩
  obtain ⟨g, hg, rfl⟩ := List.mem_map.1 hf
  obtain ⟨c, hc, rfl⟩ := List.mem_map.1 (show b ∈ (g.2.2.2.take 14).map fewB from hb)
  obtain ⟨y, hy, rfl⟩ := List.mem_map.1 (show x ∈ (c.1.take 14).map fewI from hx)
  exact h.2 g (List.mem_of_mem_take hg) c (List.mem_of_mem_take hc) y (List.mem_of_mem_take hy)
theorem j4u (hK : 2000 ≤ K) {a0 : List Int} {a1 : List q0t} {a2 : List q0h} {a3 : List q0d} {a4 : List q0l} {a5 : List LSum} (hw : wide a0 a1) (h1 : ∀ v ∈ a3, Wv v) (h2 : ∀ x ∈ a4, Wf x) (h3 : ∀ s ∈ a5, Ws s) :
    ∃ cells fs is cs xs ss ok, q4z.f K a0 a1 a2 a3 a4 a5 = some (cells, fs, is, cs, xs, ss, ok) ∧ (ok = true → WF cells fs is ∧ wide cells fs ∧ q3p fs ≤ 200 ∧ Tab cells fs is cs xs ss) := by
  have hl : ((a1.take 30).map fewF).length + (a2.take 30).length ≤ 1000 := by simp only [List.length_map, List.length_take]; omega
  obtain ⟨r, r1, r2⟩ := check4_ok (K := K) hK (cells := a0.take 20) hl (fewF_fits (fs := a1))
  unfold q4z.f
  simp only [few_val (K := K) (by omega), q0c, r1]
  by_cases c : r.1 = 0
  · have wf := r2 c
    have hwide := fewF_wide hw
    obtain ⟨t, t1, t2⟩ := z5i (K := K) hK wf
    have t1' : q06.f K ((a1.take 30).map fewF) = some t := t1
    have e : (r.1 != 0) = false := by rw [c]; rfl
    simp only [e, cond_false, t1', q0c, q2c, t2]
    by_cases q : q3p ((a1.take 30).map fewF) ≤ 200
    · have e2 : decide (((q3p ((a1.take 30).map fewF) : Nat) : Int) > (200 : Int)) = false := decide_eq_false (by omega)
      obtain ⟨cs, xs, ss, g1, g2, g3, g4⟩ := tfew_val (K := K) hK h1 h2 h3
      obtain ⟨cs', xs', ss', f1, f2⟩ := fix17_val (K := K) hK wf hwide q g2 g3 g4
      simp only [e2, cond_false, g1, q0c, f1]
      exact ⟨_, _, _, cs', xs', ss', true, rfl, fun _ => ⟨wf, hwide, q, f2⟩⟩
    · have e2 : decide (((q3p ((a1.take 30).map fewF) : Nat) : Int) > (200 : Int)) = true := decide_eq_true (by omega)
      simp only [e2, cond_true]
      exact ⟨_, _, _, a3, a4, a5, false, rfl, fun e => by cases e⟩
  · have e : (r.1 != 0) = true := by simpa using c
    simp only [e, cond_true, q2c]
    exact ⟨_, _, _, a3, a4, a5, false, rfl, fun e => by cases e⟩
end Go.Proofs.YtdjkdmjdcdljmaaGreatDoor.AF
namespace Go.Proofs.YtdjkdmjdcdljmaaGreatDoor.AF
open Go.Proofs.q0a Go.Proofs.q0a.Runs
set_option maxRecDepth 100000
set_option maxHeartbeats 4000000
variable {K : Nat}
def q7d (o : Option Bool) (P : Prop) : Prop := ∃ r, o = some r ∧ (r = true ↔ P)
theorem q7d.imp {o : Option Bool} {P Q : Prop} (h : q7d o P) (e : P ↔ Q) : q7d o Q := by
  obtain ⟨r, h1, h2⟩ := h; exact ⟨r, h1, h2.trans e⟩
theorem q7n {A B : Option Bool} {P Q : Prop} (h1 : q7d A P) (h2 : q7d B Q) : q7d (A.bind fun t => bif t then B else some false) (P ∧ Q) := by
  obtain ⟨r, r1, r2⟩ := h1
  obtain ⟨s, s1, s2⟩ := h2
  rw [r1, q0c]
  cases r with
  | false => exact ⟨false, rfl, ⟨fun e => (by cases e), fun e => by have := r2.2 e.1; cases this⟩⟩
  | true => exact ⟨s, s1, ⟨fun e => ⟨r2.1 rfl, s2.1 e⟩, fun e => s2.2 e.2⟩⟩
theorem q66 {c : Bool} {B : Option Bool} {P Q : Prop} (h1 : c = true ↔ P) (h2 : q7d B Q) : q7d (bif c then B else some false) (P ∧ Q) :=
  q7n (A := some c) ⟨c, rfl, h1⟩ h2
theorem j4t {c : Bool} {P : Prop} (h : c = true ↔ P) : q7d (some c) P := ⟨c, rfl, h⟩
theorem q92 {o : Option Bool} : (q1c o fun t => some t) = o := by cases o <;> rfl
theorem q9h {o : Option Bool} : (o.bind fun t => some t) = o := by cases o <;> rfl
theorem eq_loop {α : Type} {a b : List α} (hl : a.length = b.length) {L : Nat → Int → Option (Unit ⊕ Bool)}
    (hs : ∀ (k i : Nat) x y, a[i]? = some x → b[i]? = some y → ∃ r : Bool, (r = true ↔ x = y) ∧ L (k + 1) ((i : Nat) : Int) = bif !r then some (.inr false) else L k ((i + 1 : Nat) : Int))
    (he : ∀ k, L (k + 1) ((a.length : Nat) : Int) = some (.inl ())) : ∀ (k i : Nat), i ≤ a.length → a.length - i < k → ∃ r, L k ((i : Nat) : Int) = some r ∧ ((r = .inl () ∧ a.drop i = b.drop i) ∨ (r = .inr false ∧ a.drop i ≠ b.drop i))
  | 0, i, h, hk => by omega
  | k + 1, i, h, hk => by
    by_cases c : i < a.length
    · have hx : a[i]? = some a[i] := List.getElem?_eq_getElem c
      have hy : b[i]? = some b[i] := List.getElem?_eq_getElem (by omega)
      obtain ⟨r, r1, r2⟩ := hs k i _ _ hx hy
      rw [r2]
      have da : a.drop i = a[i] :: a.drop (i + 1) := List.drop_eq_getElem_cons c
      have db : b.drop i = b[i] :: b.drop (i + 1) := List.drop_eq_getElem_cons (by omega)
      cases r with
      | false =>
        refine ⟨_, rfl, .inr ⟨rfl, fun e => ?_⟩⟩
        rw [da, db] at e
        have := r1.2 (List.cons.inj e).1
        cases this
      | true =>
        obtain ⟨s, s1, s2⟩ := eq_loop hl hs he k (i + 1) (by omega) (by omega)
        refine ⟨s, s1, ?_⟩
        have ex := r1.1 rfl
        rcases s2 with ⟨q1, q2⟩ | ⟨q1, q2⟩
        · exact .inl ⟨q1, by rw [da, db, ex, q2]⟩
        · exact .inr ⟨q1, fun e => q2 (by rw [da, db] at e; exact (List.cons.inj e).2)⟩
    · have : i = a.length := by omega
      subst this
      exact ⟨_, he k, .inl ⟨rfl, by rw [List.drop_length, hl, List.drop_length]⟩⟩
theorem z0d {α : Type} {a b : List α} {L : Nat → Int → Option (Unit ⊕ Bool)} {k : Nat} (hk : a.length < k)
    (hs : a.length = b.length → ∀ (k i : Nat) x y, a[i]? = some x → b[i]? = some y → ∃ r : Bool, (r = true ↔ x = y) ∧ L (k + 1) ((i : Nat) : Int) = bif !r then some (.inr false) else L k ((i + 1 : Nat) : Int))
    (he : ∀ k, L (k + 1) ((a.length : Nat) : Int) = some (.inl ())) : q7d (bif ((a.length : Nat) : Int) != ((b.length : Nat) : Int) then some false else (L k (0 : Int)).bind fun t => Sum.elim (fun t => some true) (fun t => some t) t) (a = b) := by
  by_cases c : a.length = b.length
  · have e : (((a.length : Nat) : Int) != ((b.length : Nat) : Int)) = false := by rw [c]; exact q7o
    obtain ⟨r, r1, r2⟩ := eq_loop c (hs c) he k 0 (by omega) (by omega)
    have r1' : L k (0 : Int) = some r := r1
    rw [e, cond_false, r1', q0c]
    simp only [List.drop_zero] at r2
    rcases r2 with ⟨q1, q2⟩ | ⟨q1, q2⟩
    · subst q1; exact ⟨true, rfl, by simp [q2]⟩
    · subst q1; exact ⟨false, rfl, by simp [q2]⟩
  · have e : (((a.length : Nat) : Int) != ((b.length : Nat) : Int)) = true := by simp; omega
    rw [e, cond_true]
    exact ⟨false, rfl, by simp; intro e; rw [e] at c; exact c rfl⟩
theorem q4m {α : Type} {l : List α} {i : Nat} {x : α} (h : l[i]? = some x) : i < l.length := by
  by_cases q : i < l.length
  · exact q
  · rw [List.getElem?_eq_none (by omega)] at h; cases h
theorem q8b {n : Nat} : decide (((n : Nat) : Int) < ((n : Nat) : Int)) = false := by simp
theorem get_byte (b : ByteArray) (i : Nat) (h : i < b.data.toList.length) : b.get! i = b.data.toList[i] := by
  cases b with
  | mk d =>
    show d[i]! = d.toList[i]
    rw [getElem!_pos d i (by simpa using h), Array.getElem_toList]
theorem z9x (b : ByteArray) : ∀ (n i : Nat) (r : List UInt8), b.data.toList.length - i ≤ n → ByteArray.toList.loop b i r = r.reverse ++ b.data.toList.drop i
  | 0, i, r, h => by
    unfold ByteArray.toList.loop
    have : ¬ i < b.size := by show ¬ i < b.data.size; rw [← Array.length_toList]; omega
    rw [if_neg this, List.drop_eq_nil_of_le (by omega), List.append_nil]
  | n + 1, i, r, h => by
    unfold ByteArray.toList.loop
    by_cases c : i < b.data.toList.length
    · have c' : i < b.size := by show i < b.data.size; rw [← Array.length_toList]; exact c
      rw [if_pos c', z9x b n (i + 1) _ (by omega), List.drop_eq_getElem_cons c, get_byte b i c]
      simp
    · have : ¬ i < b.size := by show ¬ i < b.data.size; rw [← Array.length_toList]; exact c
      rw [if_neg this, List.drop_eq_nil_of_le (by omega), List.append_nil]
theorem z9o (b : ByteArray) : b.toList = b.data.toList := by
  unfold ByteArray.toList
  rw [z9x b _ 0 [] (Nat.le_refl _)]; simp
theorem bytes_eq {a b : ByteArray} : (a.toList == b.toList) = true ↔ a = b := by
  rw [beq_iff_eq, z9o, z9o]
  exact ⟨fun h => ByteArray.ext (Array.toList_inj.1 h), fun h => by rw [h]⟩
theorem bytes_beq {a b : ByteArray} : (a == b) = true ↔ a = b := by
  constructor
  · intro h
    cases a; cases b
    exact congrArg ByteArray.mk (eq_of_beq (α := Array UInt8) h)
  · intro h
    subst h
    cases a
    exact beq_self_eq_true (α := Array UInt8) _
theorem eq64_val (hK : 2000 ≤ K) {a b : List Int} (ha : a.length ≤ 1000) : q7d (q2o.f K a b) (a = b) := by
  unfold q2o.f
  refine z0d (L := fun k i => q2o.l0.f K k a b ((a.length : Nat) : Int) i) (by omega) (fun hl k i x y hx hy => ?_) fun k => ?_
  · have hi := q4m hx
    refine ⟨x == y, by simp, ?_⟩
    rw [q2o.l0.f]
    simp only [dec_lt hi, cond_true, ge0, Int.toNat_natCast, hx, hy, q0c, q34 (n := i) (by omega)]
    rfl
  · rw [q2o.l0.f]
    simp only [q8b, cond_false]
theorem z42 (hK : 2000 ≤ K) {a b : List Int} (ha : a.length ≤ 1000) : q7d (q2q.f K a b) (a = b) := by
  unfold q2q.f
  refine z0d (L := fun k i => q2q.l0.f K k a b ((a.length : Nat) : Int) i) (by omega) (fun hl k i x y hx hy => ?_) fun k => ?_
  · have hi := q4m hx
    refine ⟨x == y, by simp, ?_⟩
    rw [q2q.l0.f]
    simp only [dec_lt hi, cond_true, ge0, Int.toNat_natCast, hx, hy, q0c, q34 (n := i) (by omega)]
    rfl
  · rw [q2q.l0.f]
    simp only [q8b, cond_false]
theorem eqim_val (hK : 2000 ≤ K) {a b : List q0h} (ha : a.length ≤ 1000) : q7d (q1t.f K a b) (a = b) := by
  unfold q1t.f
  refine z0d (L := fun k i => q1t.l0.f K k a b ((a.length : Nat) : Int) i) (by omega) (fun hl k i x y hx hy => ?_) fun k => ?_
  · have hi := q4m hx
    refine ⟨x.1 == y.1 && x.2 == y.2, by rw [Bool.and_eq_true, bytes_beq, beq_iff_eq, Prod.ext_iff], ?_⟩
    rw [q1t.l0.f]
    simp only [dec_lt hi, cond_true, ge0, Int.toNat_natCast, hx, hy, q0c, q34 (n := i) (by omega)]
  · rw [q1t.l0.f]
    simp only [q8b, cond_false]
theorem insn_same (hK : 2000 ≤ K) {x y : q32} (hx : x.2.2.2.2.2.length ≤ 1000) : q7d (q8d.f K x.1 x.2.1 x.2.2.1 x.2.2.2.1 x.2.2.2.2.1 x.2.2.2.2.2 y.1 y.2.1 y.2.2.1 y.2.2.2.1 y.2.2.2.2.1 y.2.2.2.2.2) (x = y) := by
  unfold q8d.f
  rw [q92, q9h]
  refine (q66 beq_iff_eq (q66 beq_iff_eq (q66 beq_iff_eq (q66 beq_iff_eq (q66 beq_iff_eq (z42 hK hx)))))).imp ?_
  simp only [Prod.ext_iff]
theorem eqin_val (hK : 2000 ≤ K) {a b : List q32} (ha : a.length ≤ 1000) (hs : ∀ x ∈ a, x.2.2.2.2.2.length ≤ 1000) : q7d (q08.f K a b) (a = b) := by
  unfold q08.f
  refine z0d (L := fun k i => q08.l0.f K k b a ((a.length : Nat) : Int) i) (by omega) (fun hl k i x y hx hy => ?_) fun k => ?_
  · have hi := q4m hx
    obtain ⟨r, r1, r2⟩ := insn_same (K := K) hK (x := x) (y := y) (hs x (List.mem_of_getElem? hx))
    refine ⟨r, r2, ?_⟩
    rw [q08.l0.f]
    simp only [dec_lt hi, cond_true, ge0, Int.toNat_natCast, hx, hy, q0c, r1, q34 (n := i) (by omega)]
  · rw [q08.l0.f]
    simp only [q8b, cond_false]
theorem end_same {x y : LEnd} : (bif false then !(x.1 == y.1 && (x.2.1 == y.2.1 && (x.2.2.1 == y.2.2.1 && x.2.2.2 == y.2.2.2))) else x.1 == y.1 && (x.2.1 == y.2.1 && (x.2.2.1 == y.2.2.1 && x.2.2.2 == y.2.2.2))) = true ↔ x = y := by
  simp only [cond_false, Bool.and_eq_true, beq_iff_eq, Prod.ext_iff]
theorem blk_same (hK : 2000 ≤ K) {x y : q1k} (hx : x.1.length ≤ 1000 ∧ ∀ i ∈ x.1, i.2.2.2.2.2.length ≤ 1000) : q7d (q7p.f K x.1 x.2.1 x.2.2.1 x.2.2.2.1 x.2.2.2.2 y.1 y.2.1 y.2.2.1 y.2.2.2.1 y.2.2.2.2) (x = y) := by
  unfold q7p.f
  rw [q92, q9h]
  refine (q66 (end_same (x := x.2) (y := y.2)) (eqin_val hK hx.1 hx.2)).imp ?_
  rw [Prod.ext_iff (x := x), And.comm]
theorem eqbl_val (hK : 2000 ≤ K) {a b : List q1k} (ha : a.length ≤ 1000) (hs : ∀ x ∈ a, x.1.length ≤ 1000 ∧ ∀ i ∈ x.1, i.2.2.2.2.2.length ≤ 1000) : q7d (q04.f K a b) (a = b) := by
  unfold q04.f
  refine z0d (L := fun k i => q04.l0.f K k b a ((a.length : Nat) : Int) i) (by omega) (fun hl k i x y hx hy => ?_) fun k => ?_
  · have hi := q4m hx
    obtain ⟨r, r1, r2⟩ := blk_same (K := K) hK (x := x) (y := y) (hs x (List.mem_of_getElem? hx))
    refine ⟨r, r2, ?_⟩
    rw [q04.l0.f]
    simp only [dec_lt hi, cond_true, ge0, Int.toNat_natCast, hx, hy, q0c, r1, q34 (n := i) (by omega)]
  · rw [q04.l0.f]
    simp only [q8b, cond_false]
theorem fn_same (hK : 2000 ≤ K) {x y : q0t} (hx : x.2.2.2.length ≤ 1000 ∧ ∀ b ∈ x.2.2.2, b.1.length ≤ 1000 ∧ ∀ i ∈ b.1, i.2.2.2.2.2.length ≤ 1000) : q7d (q8k.f K x.1 x.2.1 x.2.2.1 x.2.2.2 y.1 y.2.1 y.2.2.1 y.2.2.2) (x = y) := by
  unfold q8k.f
  rw [q92, q9h]
  refine (q66 bytes_eq (q66 beq_iff_eq (q66 beq_iff_eq (eqbl_val hK hx.1 hx.2)))).imp ?_
  simp only [Prod.ext_iff]
theorem eqfn_val (hK : 2000 ≤ K) {a b : List q0t} (hs : fits a) : q7d (q07.f K a b) (a = b) := by
  obtain ⟨ha, hs⟩ := hs
  unfold q07.f
  refine z0d (L := fun k i => q07.l0.f K k b a ((a.length : Nat) : Int) i) (by omega) (fun hl k i x y hx hy => ?_) fun k => ?_
  · have hi := q4m hx
    obtain ⟨r, r1, r2⟩ := fn_same (K := K) hK (x := x) (y := y) (hs x (List.mem_of_getElem? hx))
    refine ⟨r, r2, ?_⟩
    rw [q07.l0.f]
    simp only [dec_lt hi, cond_true, ge0, Int.toNat_natCast, hx, hy, q0c, r1, q34 (n := i) (by omega)]
  · rw [q07.l0.f]
    simp only [q8b, cond_false]
theorem ireq_val (hK : 2000 ≤ K) {c c' : List Int} {f f' : List q0t} {i i' : List q0h} (hc : c.length ≤ 1000) (hf : fits f) (hi : i.length ≤ 1000) : q7d (z1a.f K c f i c' f' i') ((c = c' ∧ i = i') ∧ f = f') := by
  unfold z1a.f
  rw [q92]
  refine (q7n (eq64_val hK hc) (q7n (eqim_val hK hi) (by rw [q9h]; exact eqfn_val hK hf))).imp ?_
  rw [and_assoc]
theorem z77 {x y : q0d} : (x.1 == y.1 && (x.2.1.1 == y.2.1.1 && x.2.1.2 == y.2.1.2 && (x.2.2.1.1 == y.2.2.1.1 && x.2.2.1.2 == y.2.2.1.2 && x.2.2.2 == y.2.2.2))) = true ↔ x = y := by
  simp only [Bool.and_eq_true, beq_iff_eq, Prod.ext_iff, and_assoc]
theorem j0x (hK : 2000 ≤ K) {a b : List q0d} (ha : a.length ≤ 1000) : q7d (q1f.f K a b) (a = b) := by
  unfold q1f.f
  refine z0d (L := fun k i => q1f.l0.f K k a b ((a.length : Nat) : Int) i) (by omega) (fun hl k i x y hx hy => ?_) fun k => ?_
  · have hi := q4m hx
    refine ⟨_, z77, ?_⟩
    rw [q1f.l0.f]
    simp only [dec_lt hi, cond_true, ge0, Int.toNat_natCast, hx, hy, q0c, q34 (n := i) (by omega)]
  · rw [q1f.l0.f]
    simp only [q8b, cond_false]
theorem eqvaf_val (hK : 2000 ≤ K) {a b : List q0d} (ha : a.length ≤ 1000) : q7d (q0x.f K a b) (a = b) := by
  unfold q0x.f
  refine z0d (L := fun k i => q0x.l0.f K k b a ((a.length : Nat) : Int) i) (by omega) (fun hl k i x y hx hy => ?_) fun k => ?_
  · have hi := q4m hx
    refine ⟨_, z77, ?_⟩
    rw [q0x.l0.f]
    simp only [dec_lt hi, cond_true, ge0, Int.toNat_natCast, hx, hy, q0c, q8s.f, cond_false, q34 (n := i) (by omega)]
  · rw [q0x.l0.f]
    simp only [q8b, cond_false]
theorem j3b (hK : 2000 ≤ K) {x y : LSum} (hx : x.2.1.length ≤ 1000) : q7d (q5x.f K x.1 x.2.1 x.2.2.1 x.2.2.2.1 x.2.2.2.2.1.1 x.2.2.2.2.1.2 x.2.2.2.2.2.1.1 x.2.2.2.2.2.1.2 x.2.2.2.2.2.2 y.1 y.2.1 y.2.2.1 y.2.2.2.1 y.2.2.2.2.1.1 y.2.2.2.2.1.2 y.2.2.2.2.2.1.1 y.2.2.2.2.2.1.2 y.2.2.2.2.2.2) (x = y) := by
  unfold q5x.f
  rw [q92]
  refine (q66 beq_iff_eq (q7n (j0x hK hx) (q66 beq_iff_eq (j4t (z77 (x := x.2.2.2) (y := y.2.2.2)))))).imp ?_
  rw [Prod.ext_iff (x := x), Prod.ext_iff (x := x.2), Prod.ext_iff (x := x.2.2)]
theorem eqlis_val (hK : 2000 ≤ K) {a b : List (List Int)} (ha : a.length ≤ 1000) (hs : ∀ x ∈ a, x.length ≤ 1000) : q7d (q1s.f K a b) (a = b) := by
  unfold q1s.f
  refine z0d (L := fun k i => q1s.l0.f K k b a ((a.length : Nat) : Int) i) (by omega) (fun hl k i x y hx hy => ?_) fun k => ?_
  · have hi := q4m hx
    obtain ⟨r, r1, r2⟩ := z42 (K := K) hK (a := x) (b := y) (hs x (List.mem_of_getElem? hx))
    refine ⟨r, r2, ?_⟩
    rw [q1s.l0.f]
    simp only [dec_lt hi, cond_true, ge0, Int.toNat_natCast, hx, hy, q0c, q85.f, r1, q34 (n := i) (by omega)]
  · rw [q1s.l0.f]
    simp only [q8b, cond_false]
def z4g (x : q0j) : Prop := x.1.2.1.length ≤ 1000 ∧ (x.1.2.2.length ≤ 1000 ∧ ∀ s ∈ x.1.2.2, s.length ≤ 1000) ∧ x.2.length ≤ 1000
theorem tblk_same (hK : 2000 ≤ K) {x y : q0j} (hx : z4g x) : q7d (q5k.f K x.1.1 x.1.2.1 x.1.2.2 x.2 y.1.1 y.1.2.1 y.1.2.2 y.2) (x = y) := by
  unfold q5k.f q98.f q85.f
  rw [q92, q92, q9h, q9h]
  refine (q7n (q66 beq_iff_eq (q7n (j0x hK hx.1) (eqlis_val hK hx.2.1.1 hx.2.1.2))) (z42 hK hx.2.2)).imp ?_
  rw [Prod.ext_iff (x := x), Prod.ext_iff (x := x.1), Prod.ext_iff (x := x.1.2)]
theorem eqtb_val (hK : 2000 ≤ K) {a b : List q0j} (ha : a.length ≤ 1000) (hs : ∀ x ∈ a, z4g x) : q7d (q0r.f K a b) (a = b) := by
  unfold q0r.f
  refine z0d (L := fun k i => q0r.l0.f K k b a ((a.length : Nat) : Int) i) (by omega) (fun hl k i x y hx hy => ?_) fun k => ?_
  · have hi := q4m hx
    obtain ⟨r, r1, r2⟩ := tblk_same (K := K) hK (x := x) (y := y) (hs x (List.mem_of_getElem? hx))
    refine ⟨r, r2, ?_⟩
    rw [q0r.l0.f]
    simp only [dec_lt hi, cond_true, ge0, Int.toNat_natCast, hx, hy, q0c, r1, q34 (n := i) (by omega)]
  · rw [q0r.l0.f]
    simp only [q8b, cond_false]
def z81 (x : q0l) : Prop := x.1.2.1.length ≤ 1000 ∧ x.2.length ≤ 1000 ∧ ∀ b ∈ x.2, z4g b
theorem tfn_same (hK : 2000 ≤ K) {x y : q0l} (hx : z81 x) : q7d (q4i.f K x.1.1 x.1.2.1 x.1.2.2.1 x.1.2.2.2.1 x.1.2.2.2.2.1.1 x.1.2.2.2.2.1.2 x.1.2.2.2.2.2.1.1 x.1.2.2.2.2.2.1.2 x.1.2.2.2.2.2.2 x.2 y.1.1 y.1.2.1 y.1.2.2.1 y.1.2.2.2.1 y.1.2.2.2.2.1.1 y.1.2.2.2.2.1.2 y.1.2.2.2.2.2.1.1 y.1.2.2.2.2.2.1.2 y.1.2.2.2.2.2.2 y.2) (x = y) := by
  unfold q4i.f
  rw [q92, q9h]
  refine (q7n (j3b hK hx.1) (eqtb_val hK hx.2.1 hx.2.2)).imp ?_
  rw [Prod.ext_iff (x := x)]
theorem eqtf_val (hK : 2000 ≤ K) {a b : List q0l} (ha : a.length ≤ 1000) (hs : ∀ x ∈ a, z81 x) : q7d (q0w.f K a b) (a = b) := by
  unfold q0w.f
  refine z0d (L := fun k i => q0w.l0.f K k b a ((a.length : Nat) : Int) i) (by omega) (fun hl k i x y hx hy => ?_) fun k => ?_
  · have hi := q4m hx
    obtain ⟨r, r1, r2⟩ := tfn_same (K := K) hK (x := x) (y := y) (hs x (List.mem_of_getElem? hx))
    refine ⟨r, r2, ?_⟩
    rw [q0w.l0.f]
    simp only [dec_lt hi, cond_true, ge0, Int.toNat_natCast, hx, hy, q0c, r1, q34 (n := i) (by omega)]
  · rw [q0w.l0.f]
    simp only [q8b, cond_false]
theorem eqsu_val (hK : 2000 ≤ K) {a b : List LSum} (ha : a.length ≤ 1000) (hs : ∀ x ∈ a, x.2.1.length ≤ 1000) : q7d (q05.f K a b) (a = b) := by
  unfold q05.f
  refine z0d (L := fun k i => q05.l0.f K k b a ((a.length : Nat) : Int) i) (by omega) (fun hl k i x y hx hy => ?_) fun k => ?_
  · have hi := q4m hx
    obtain ⟨r, r1, r2⟩ := j3b (K := K) hK (x := x) (y := y) (hs x (List.mem_of_getElem? hx))
    refine ⟨r, r2, ?_⟩
    rw [q05.l0.f]
    simp only [dec_lt hi, cond_true, ge0, Int.toNat_natCast, hx, hy, q0c, r1, q34 (n := i) (by omega)]
  · rw [q05.l0.f]
    simp only [q8b, cond_false]
def smallT (c : List q0d) (x : List q0l) (s : List LSum) : Prop := c.length ≤ 1000 ∧ (x.length ≤ 1000 ∧ ∀ f ∈ x, z81 f) ∧ s.length ≤ 1000 ∧ ∀ f ∈ s, f.2.1.length ≤ 1000
theorem teq_val (hK : 2000 ≤ K) {c c' : List q0d} {x x' : List q0l} {s s' : List LSum} (h : smallT c x s) : q7d (q70.f K c x s c' x' s') ((c = c' ∧ x = x') ∧ s = s') := by
  unfold q70.f q57.f
  rw [q92, q9h]
  refine (q7n (eqvaf_val hK h.1) (q7n (eqtf_val hK h.2.1.1 h.2.1.2) (eqsu_val hK h.2.2.1 h.2.2.2))).imp ?_
  rw [and_assoc]
theorem z41 {o : Option Bool} {P : Prop} (h : q7d o P) (hp : P) : o = some true := by
  obtain ⟨r, r1, r2⟩ := h
  rw [r1, r2.2 hp]
theorem j00 {n : Nat} {s : List Int} (h : q3x n s) (hn : n ≤ 1000) : s.length ≤ 1000 := by have := q5j h; omega
theorem Tab.small {cells : List Int} {fs : List q0t} {is : List q0h} {cs : List q0d} {xs : List q0l} {ss : List LSum} (h : WF cells fs is) (hw : wide cells fs) (hs : q3p fs ≤ 200) (ht : Tab cells fs is cs xs ss) : smallT cs xs ss := by
  have hn := h.ncells
  have hcnt := h.count
  refine ⟨by have := ht.clen; omega, ⟨by have := ht.flen; omega, fun x hx => ?_⟩, by have := ht.ilen; omega, fun s hsm => ?_⟩
  · obtain ⟨i, hi⟩ := List.getElem?_of_mem hx
    have hl := q4m hi
    obtain ⟨m, hm, hmm⟩ := q5t (l := fs) (n := i) (by have := ht.flen; omega)
    have hf := ht.funcs i m x hm hi
    obtain ⟨q1, q2, q3⟩ := h.short m hmm
    refine ⟨by have := hf.sum.len (by omega); omega, by have := hf.len; omega, fun b hb => ?_⟩
    have hB := hf.blocks b hb
    have hL := hB.len (by omega)
    refine ⟨by omega, ⟨by omega, fun s hs' => j00 (hB.sets s hs') (by omega)⟩, ?_⟩
    have := q5j hB.live
    omega
  · obtain ⟨i, hi⟩ := List.getElem?_of_mem hsm
    have hl := q4m hi
    obtain ⟨m, hm, hmm⟩ := q5t (l := is) (n := i) (by have := ht.ilen; omega)
    have ha := h.ims hw m hmm
    have := (ht.sums i m s hm hi).len (by omega)
    omega
end Go.Proofs.YtdjkdmjdcdljmaaGreatDoor.AF
namespace Go.Proofs.YtdjkdmjdcdljmaaGreatDoor.AF
open Go.Proofs.q0a Go.Proofs.q0a.Runs
set_option maxRecDepth 100000
set_option maxHeartbeats 4000000
variable {K : Nat}
theorem z5f {l : List q0d} (hl : l.length ≤ 1000) : ∀ (l2 l1 : List q0d) (k : Nat), l = l1 ++ l2 → l2.length < k → q2i.l0.f K k l ((l1.length : Nat) : Int) l1 = some l
  | l2, l1, 0, h, hk => by omega
  | [], l1, k + 1, h, hk => by
    rw [q2i.l0.f]
    simp only [q2e h, cond_false]
    rw [h, List.append_nil]
  | x :: l2, l1, k + 1, h, hk => by
    rw [q2i.l0.f]
    have hl1 : l1.length ≤ 1000 := by rw [h] at hl; simp at hl; omega
    simp only [List.length_cons] at hk
    simp only [q2b h, ge0, q2w h, cond_true, q0c, show q3u.f K = some () from rfl, q2p (l := l1) (x := (x.1, (x.2.1.1, x.2.1.2), (x.2.2.1.1, x.2.2.1.2), x.2.2.2)) (n := 1000000) (by omega), q0y (l1 := l1) (x := x) (by omega)]
    exact z5f hl l2 (l1 ++ [x]) k (q09 h) (by omega)
theorem z94 (hK : 2000 ≤ K) {l : List q0d} (hl : l.length ≤ 1000) : q4w.f K l = some l := by
  unfold q4w.f q2i.f
  rw [show q2i.l0.f K K l (0 : Int) [] = _ from z5f (K := K) hl l [] K rfl (by omega)]
  rfl
theorem to13_l0 {l : List q0d} (hl : l.length ≤ 1000) : ∀ (l2 l1 : List q0d) (k : Nat), l = l1 ++ l2 → l2.length < k → q2r.l0.f K k ((l1.length : Nat) : Int) l l1 = some l
  | l2, l1, 0, h, hk => by omega
  | [], l1, k + 1, h, hk => by
    rw [q2r.l0.f]
    simp only [q2e h, cond_false]
    rw [h, List.append_nil]
  | x :: l2, l1, k + 1, h, hk => by
    rw [q2r.l0.f]
    have hl1 : l1.length ≤ 1000 := by rw [h] at hl; simp at hl; omega
    simp only [List.length_cons] at hk
    simp only [q2b h, ge0, q2w h, cond_true, q0c, show q3u.f K = some () from rfl, q2p (l := l1) (x := (x.1, (x.2.1.1, x.2.1.2), (x.2.2.1.1, x.2.2.1.2), x.2.2.2)) (n := 1000000) (by omega), q0y (l1 := l1) (x := x) (by omega)]
    exact to13_l0 hl l2 (l1 ++ [x]) k (q09 h) (by omega)
theorem to13_l1 {l : List (List Int)} (hl : l.length ≤ 1000) (hs : ∀ s ∈ l, s.length ≤ 1000) : ∀ (l2 l1 : List (List Int)) (k : Nat), l = l1 ++ l2 → l2.length < k → q2r.l1.f K k ((l1.length : Nat) : Int) l l1 = some l
  | l2, l1, 0, h, hk => by omega
  | [], l1, k + 1, h, hk => by
    rw [q2r.l1.f]
    simp only [q2e h, cond_false]
    rw [h, List.append_nil]
  | x :: l2, l1, k + 1, h, hk => by
    rw [q2r.l1.f]
    have hl1 : l1.length ≤ 1000 := by rw [h] at hl; simp at hl; omega
    have hx := hs x (by rw [h]; simp)
    have b : (0 + x.length).ble 1000000 = true := Nat.ble_eq_true_of_le (by omega)
    simp only [List.length_cons] at hk
    simp only [q2b h, ge0, q2w h, cond_true, q0c, b, List.nil_append, q2p (l := l1) (x := x) (n := 1000000) (by omega), q0y (l1 := l1) (x := x) (by omega)]
    exact to13_l1 hl hs l2 (l1 ++ [x]) k (q09 h) (by omega)
theorem to13_val (hK : 2000 ≤ K) {x : q0j} (h : z4g x) : q2r.f K x.1.2.1 x.1.2.2 = some (x.1.2.1, x.1.2.2) := by
  unfold q2r.f
  have h1 := h.1
  have h2 := h.2.1.1
  rw [show q2r.l0.f K K (0 : Int) x.1.2.1 [] = _ from to13_l0 (K := K) h.1 x.1.2.1 [] K rfl (by omega), q0c, show q2r.l1.f K K (0 : Int) x.1.2.2 [] = _ from to13_l1 (K := K) h.2.1.1 h.2.1.2 x.1.2.2 [] K rfl (by omega), q0c]
theorem to17_l2 (hK : 2000 ≤ K) {l : List LSum} (hl : l.length ≤ 1000) (hs : ∀ s ∈ l, s.2.1.length ≤ 1000) : ∀ (l2 l1 : List LSum) (k : Nat), l = l1 ++ l2 → l2.length < k → q10.l2.f K k ((l1.length : Nat) : Int) l l1 = some l
  | l2, l1, 0, h, hk => by omega
  | [], l1, k + 1, h, hk => by
    rw [q10.l2.f]
    simp only [q2e h, cond_false]
    rw [h, List.append_nil]
  | x :: l2, l1, k + 1, h, hk => by
    rw [q10.l2.f]
    have hl1 : l1.length ≤ 1000 := by rw [h] at hl; simp at hl; omega
    simp only [List.length_cons] at hk
    simp only [q2b h, ge0, q2w h, cond_true, q0c, z94 hK (hs x (by rw [h]; simp)), q2p (l := l1) (x := (x.1, x.2.1, x.2.2.1, x.2.2.2.1, (x.2.2.2.2.1.1, x.2.2.2.2.1.2), (x.2.2.2.2.2.1.1, x.2.2.2.2.2.1.2), x.2.2.2.2.2.2)) (n := 1000000) (by omega), q0y (l1 := l1) (x := x) (by omega)]
    exact to17_l2 hK hl hs l2 (l1 ++ [x]) k (q09 h) (by omega)
theorem to17_l1 (hK : 2000 ≤ K) {xs : List q0l} {i : Nat} {f : q0l} (hi : xs[i]? = some f) (hl : f.2.length ≤ 1000) (hs : ∀ b ∈ f.2, z4g b) : ∀ (l2 l1 : List q0j) (k : Nat), f.2 = l1 ++ l2 → l2.length < k → q10.l1.f K k ((i : Nat) : Int) ((l1.length : Nat) : Int) xs l1 = some f.2
  | l2, l1, 0, h, hk => by omega
  | [], l1, k + 1, h, hk => by
    rw [q10.l1.f]
    simp only [ge0, Int.toNat_natCast, hi, cond_true, q0c, q2e h, cond_false]
    rw [h, List.append_nil]
  | x :: l2, l1, k + 1, h, hk => by
    rw [q10.l1.f]
    have hl1 : l1.length ≤ 1000 := by rw [h] at hl; simp at hl; omega
    have hx := hs x (by rw [h]; simp)
    have hx2 := hx.2.2
    have b : (0 + x.2.length).ble 1000000 = true := Nat.ble_eq_true_of_le (by omega)
    simp only [List.length_cons] at hk
    simp only [ge0, Int.toNat_natCast, hi, q2b h, j1s h, cond_true, q0c, to13_val hK hx, b, List.nil_append, q2p (l := l1) (x := (((x.1.1, x.1.2.1, x.1.2.2), x.2) : q0j)) (n := 1000000) (by omega), q0y (l1 := l1) (x := x) (by omega)]
    exact to17_l1 hK hi hl hs l2 (l1 ++ [x]) k (q09 h) (by omega)
theorem to17_l0 (hK : 2000 ≤ K) {l : List q0l} (hl : l.length ≤ 1000) (hs : ∀ s ∈ l, z81 s) : ∀ (l2 l1 : List q0l) (k : Nat), l = l1 ++ l2 → l2.length < k → q10.l0.f K k ((l1.length : Nat) : Int) l l1 = some l
  | l2, l1, 0, h, hk => by omega
  | [], l1, k + 1, h, hk => by
    rw [q10.l0.f]
    simp only [q2e h, cond_false]
    rw [h, List.append_nil]
  | x :: l2, l1, k + 1, h, hk => by
    rw [q10.l0.f]
    have hl1 : l1.length ≤ 1000 := by rw [h] at hl; simp at hl; omega
    have hx := hs x (by rw [h]; simp)
    have hx2 := hx.2.1
    have hg : q10.l1.f K K ((l1.length : Nat) : Int) (0 : Int) l [] = some x.2 := to17_l1 (K := K) hK (i := l1.length) (f := x) (by rw [h]; simp) hx.2.1 hx.2.2 x.2 [] K rfl (by omega)
    simp only [List.length_cons] at hk
    simp only [q2b h, ge0, q2w h, cond_true, q0c, z94 hK hx.1, hg, q2p (l := l1) (x := (((x.1.1, x.1.2.1, x.1.2.2.1, x.1.2.2.2.1, (x.1.2.2.2.2.1.1, x.1.2.2.2.2.1.2), (x.1.2.2.2.2.2.1.1, x.1.2.2.2.2.2.1.2), x.1.2.2.2.2.2.2), x.2) : q0l)) (n := 1000000) (by omega), q0y (l1 := l1) (x := x) (by omega)]
    exact to17_l0 hK hl hs l2 (l1 ++ [x]) k (q09 h) (by omega)
theorem to17_val (hK : 2000 ≤ K) {cs : List q0d} {xs : List q0l} {ss : List LSum} (h : smallT cs xs ss) : q10.f K cs xs ss = some (cs, xs, ss) := by
  obtain ⟨h1, ⟨h2, h3⟩, h4, h5⟩ := h
  unfold q10.f q2i.f
  rw [show q2i.l0.f K K cs (0 : Int) [] = _ from z5f (K := K) h1 cs [] K rfl (by omega), q0c, show q10.l0.f K K (0 : Int) xs [] = _ from to17_l0 (K := K) hK h2 h3 xs [] K rfl (by omega), q0c, show q10.l2.f K K (0 : Int) ss [] = _ from to17_l2 (K := K) hK h4 h5 ss [] K rfl (by omega), q0c]
theorem z7c {l : List Int} (h : l.length ≤ 1000) : q0u.f K l = some l := by
  unfold q0u.f
  rw [Nat.ble_eq_true_of_le (by omega)]; rfl
theorem z29 {l : List q0d} (h : l.length ≤ 1000) : q0f.f K l = some l := by
  unfold q0f.f
  rw [Nat.ble_eq_true_of_le (by omega)]; rfl
theorem j13 {l : List q0d} (h : l.length ≤ 1000) : q0e.f K l = some l := by
  unfold q0e.f
  rw [Nat.ble_eq_true_of_le (by omega)]; rfl
theorem j2k {l : List (List Int)} (hl : l.length ≤ 1000) (hs : ∀ s ∈ l, s.length ≤ 1000) : ∀ (l2 l1 : List (List Int)) (k : Nat), l = l1 ++ l2 → l2.length < k → q6w.l0.f K k l ((l.length : Nat) : Int) ((l1.length : Nat) : Int) l1 = some l
  | l2, l1, 0, h, hk => by omega
  | [], l1, k + 1, h, hk => by
    rw [q6w.l0.f]
    simp only [q2e h, cond_false]
    rw [h, List.append_nil]
  | x :: l2, l1, k + 1, h, hk => by
    rw [q6w.l0.f]
    have hl1 : l1.length ≤ 1000 := by rw [h] at hl; simp at hl; omega
    simp only [List.length_cons] at hk
    simp only [q2b h, ge0, q2w h, cond_true, q0c, z7c (hs x (by rw [h]; simp)), q2p (l := l1) (x := x) (n := 1000000) (by omega), q0y (l1 := l1) (x := x) (by omega)]
    exact j2k hl hs l2 (l1 ++ [x]) k (q09 h) (by omega)
theorem scopy_val (hK : 2000 ≤ K) {x : q0j} (h : z4g x) : q6w.f K x.1.2.1 x.1.2.2 = some (x.1.2.1, x.1.2.2) := by
  unfold q6w.f
  have h2 := h.2.1.1
  rw [j13 h.1, q0c, show q6w.l0.f K K x.1.2.2 ((x.1.2.2.length : Nat) : Int) (0 : Int) [] = _ from j2k (K := K) h.2.1.1 h.2.1.2 x.1.2.2 [] K rfl (by omega), q0c]
theorem j25 {l : List LSum} (hl : l.length ≤ 1000) (hs : ∀ s ∈ l, s.2.1.length ≤ 1000) : ∀ (l2 l1 : List LSum) (k : Nat), l = l1 ++ l2 → l2.length < k → q39.l2.f K k l ((l.length : Nat) : Int) ((l1.length : Nat) : Int) l1 = some l
  | l2, l1, 0, h, hk => by omega
  | [], l1, k + 1, h, hk => by
    rw [q39.l2.f]
    simp only [q2e h, cond_false]
    rw [h, List.append_nil]
  | x :: l2, l1, k + 1, h, hk => by
    rw [q39.l2.f]
    have hl1 : l1.length ≤ 1000 := by rw [h] at hl; simp at hl; omega
    simp only [List.length_cons] at hk
    simp only [q2b h, ge0, q2w h, cond_true, q0c, q7k.f, z29 (hs x (by rw [h]; simp)), q2p (l := l1) (x := (x.1, x.2.1, x.2.2.1, x.2.2.2.1, (x.2.2.2.2.1.1, x.2.2.2.2.1.2), (x.2.2.2.2.2.1.1, x.2.2.2.2.2.1.2), x.2.2.2.2.2.2)) (n := 1000000) (by omega), q0y (l1 := l1) (x := x) (by omega)]
    exact j25 hl hs l2 (l1 ++ [x]) k (q09 h) (by omega)
theorem j24 (hK : 2000 ≤ K) {l : List q0j} (hl : l.length ≤ 1000) (hs : ∀ b ∈ l, z4g b) : ∀ (l2 l1 : List q0j) (k : Nat), l = l1 ++ l2 → l2.length < k → q39.l1.f K k l ((l.length : Nat) : Int) ((l1.length : Nat) : Int) l1 = some l
  | l2, l1, 0, h, hk => by omega
  | [], l1, k + 1, h, hk => by
    rw [q39.l1.f]
    simp only [q2e h, cond_false]
    rw [h, List.append_nil]
  | x :: l2, l1, k + 1, h, hk => by
    rw [q39.l1.f]
    have hl1 : l1.length ≤ 1000 := by rw [h] at hl; simp at hl; omega
    have hx := hs x (by rw [h]; simp)
    simp only [List.length_cons] at hk
    simp only [q2b h, ge0, q2w h, cond_true, q0c, scopy_val hK hx, z7c hx.2.2, q2p (l := l1) (x := (((x.1.1, x.1.2.1, x.1.2.2), x.2) : q0j)) (n := 1000000) (by omega), q0y (l1 := l1) (x := x) (by omega)]
    exact j24 hK hl hs l2 (l1 ++ [x]) k (q09 h) (by omega)
theorem FI.snoc' {sites : Int} {fs : List q0t} {A : List (LSum × Nat)} {F : List (Option (List q0j))} (h : FI sites fs A F) {m : q0t} (hm : fs[A.length]? = some m) {x : q0l} (ht : Tf sites m x) : FI sites fs (A ++ [(x.1, F.length)]) (F ++ [some x.2]) := h.snoc hm (s := x.1) (bs := x.2) ht
theorem j3r (hK : 2000 ≤ K) {sites : Int} {fs : List q0t} {xs : List q0l} (hl : xs.length ≤ 1000) (hlen : xs.length = fs.length) (hs : ∀ x ∈ xs, z81 x) (hf : ∀ (i : Nat) m x, fs[i]? = some m → xs[i]? = some x → Tf sites m x) : ∀ (x2 x1 : List q0l) (k : Nat) (A : List (LSum × Nat)) (F : List (Option (List q0j))), xs = x1 ++ x2 → x2.length < k → A.length = x1.length → FI sites fs A F →
    ∃ A' F', q39.l0.f K k xs ((xs.length : Nat) : Int) ((x1.length : Nat) : Int) A F = some (A', F') ∧ A'.length = fs.length ∧ FI sites fs A' F'
  | x2, x1, 0, A, F, h, hk, ha, hF => by omega
  | [], x1, k + 1, A, F, h, hk, ha, hF => by
    rw [q39.l0.f]
    simp only [q2e h, cond_false]
    exact ⟨A, F, rfl, by rw [ha, ← hlen, h]; simp, hF⟩
  | x :: x2, x1, k + 1, A, F, h, hk, ha, hF => by
    rw [q39.l0.f]
    have hl1 : x1.length ≤ 1000 := by rw [h] at hl; simp at hl; omega
    have hlt : x1.length < fs.length := by rw [← hlen, h]; simp
    obtain ⟨m, hm, _⟩ := q5t hlt
    have hxi : xs[x1.length]? = some x := by rw [h]; simp
    have hx := hs x (by rw [h]; simp)
    have hx2 := hx.2.1
    have hg : q39.l1.f K K x.2 ((x.2.length : Nat) : Int) (0 : Int) [] = some x.2 := j24 (K := K) hK hx.2.1 hx.2.2 x.2 [] K rfl (by omega)
    have hF' := hF.snoc' (m := m) (x := x) (by rw [ha]; exact hm) (hf _ m x hm hxi)
    simp only [List.length_cons] at hk
    simp only [q2b h, ge0, q2w h, cond_true, q0c, q7k.f, z29 hx.1, hg, q2p (l := A) (x := ((x.1.1, x.1.2.1, x.1.2.2.1, x.1.2.2.2.1, (x.1.2.2.2.2.1.1, x.1.2.2.2.2.1.2), (x.1.2.2.2.2.2.1.1, x.1.2.2.2.2.2.1.2), x.1.2.2.2.2.2.2), F.length)) (n := 1000000) (by omega), q0y (l1 := x1) (x := x) (by omega)]
    exact j3r hK hl hlen hs hf x2 (x1 ++ [x]) k (A ++ [(x.1, F.length)]) (F ++ [some x.2]) (q09 h) (by omega) (by simp [ha]) hF'
def bare (C : List Int) (n : Nat) (bs : List q0j) : Prop := ∀ j : Nat, j < n → j < bs.length → ((j : Nat) : Int) ∉ C → bs[j]? = some q62
theorem empty_br {regs sites : Int} (hr : 0 ≤ regs) : Br regs sites q62 := ⟨fun _ => ⟨rfl, rfl⟩, (fun e => by cases e), (fun v hv => by cases hv), (fun v hv => by cases hv), ⟨List.Pairwise.nil, fun x hx => by cases hx⟩⟩
theorem z4w (hK : 2000 ≤ K) {sites : Int} {fs : List q0t} {A : List (LSum × Nat)} {i : Nat} {m : q0t} (hm : fs[i]? = some m) (hi : i < A.length) (hr : 0 ≤ m.2.2.1) (hb : m.2.2.2.length ≤ 12) {C : List Int} (hC : q3x m.2.2.2.length C) :
    ∀ (k j : Nat) (F : List (Option (List q0j))), m.2.2.2.length < k + j → j ≤ m.2.2.2.length → FI sites fs A F → (∀ bs, F[i]? = some (some bs) → bare C j bs) →
    ∃ F', q4j.l1.f K k C ((m.2.2.2.length : Nat) : Int) ((j : Nat) : Int) i F = some F' ∧ FI sites fs A F' ∧ (∀ bs, F'[i]? = some (some bs) → bare C m.2.2.2.length bs) ∧ ∀ e, e ≠ i → F'[e]? = F[e]?
  | 0, j, F, h, h1, h2, h3 => by omega
  | k + 1, j, F, h, h1, h2, h3 => by
    rw [q4j.l1.f]
    by_cases c : j < m.2.2.2.length
    · obtain ⟨s, bs, g1, g2, g3⟩ := h2.tells i m hm hi
      have hl := g3.len
      dsimp only at hl
      have hj : j < bs.length := by omega
      obtain ⟨b, hbj, _⟩ := q5t hj
      simp only [dec_lt c, cond_true, j26 hK (by omega) hC, q0c]
      by_cases q : ((j : Nat) : Int) ∈ C
      · simp only [decide_eq_true q, Bool.not_true, cond_false, q34 (n := j) (by omega)]
        obtain ⟨F', f1, f2, f3, f4⟩ := z4w hK hm hi hr hb hC k (j + 1) F (by omega) (by omega) h2 (fun bs' hbs e he hl' hn => by
          by_cases qe : e = j
          · subst qe; exact absurd q hn
          · exact h3 bs' hbs e (by omega) hl' hn)
        exact ⟨F', f1, f2, f3, f4⟩
      · simp only [decide_eq_false q, Bool.not_false, cond_true, g2, q0c, q2c, ge0', Int.toNat_natCast, q96 hj, hbj, q34 (n := j) (by omega)]
        have hFl : i < F.length := by rw [← h2.len]; exact hi
        obtain ⟨F', f1, f2, f3, f4⟩ := z4w hK hm hi hr hb hC k (j + 1) (F.set i (some (bs.set j q62))) (by omega) (by omega) (h2.setF hm g2 j (empty_br hr)) (fun bs' hbs e he hl' hn => by
          rw [List.getElem?_set] at hbs
          simp [hFl] at hbs
          subst hbs
          by_cases qe : e = j
          · subst qe; rw [List.getElem?_set]; simp [hj]
          · rw [List.getElem?_set_ne (Ne.symm qe)]
            exact h3 bs g2 e (by omega) (by simpa using hl') hn)
        exact ⟨F', f1, f2, f3, fun e he => by rw [f4 e he, List.getElem?_set_ne (Ne.symm he)]⟩
    · have : j = m.2.2.2.length := by omega
      subst this
      simp only [q8b, cond_false]
      exact ⟨F, rfl, h2, h3, fun e _ => rfl⟩
theorem z89 (hK : 2000 ≤ K) {sites : Int} {fs : List q0t} (hl : fs.length ≤ 1000) {A : List (LSum × Nat)} (hA : A.length = fs.length) (hf : ∀ m ∈ fs, Fm K true m) :
    ∀ (k i : Nat) (F : List (Option (List q0j))), fs.length < k + i → i ≤ fs.length → FI sites fs A F → (∀ e : Nat, e < i → ∀ m bs, fs[e]? = some m → F[e]? = some (some bs) → bare (tl K true m) m.2.2.2.length bs) →
    ∃ F', q4j.l0.f K k ((A.length : Nat) : Int) ((i : Nat) : Int) fs A F = some F' ∧ FI sites fs A F' ∧ ∀ (e : Nat) m bs, fs[e]? = some m → F'[e]? = some (some bs) → bare (tl K true m) m.2.2.2.length bs
  | 0, i, F, h, h1, h2, h3 => by omega
  | k + 1, i, F, h, h1, h2, h3 => by
    rw [q4j.l0.f]
    by_cases c : i < A.length
    · obtain ⟨m, hm, hmm⟩ := q5t (l := fs) (n := i) (by omega)
      obtain ⟨s, bs, g1, g2, g3⟩ := h2.tells i m hm c
      have hM := hf m hmm
      have hlen := g3.len
      dsimp only at hlen
      obtain ⟨F', f1, f2, f3, f4⟩ := z4w (K := K) hK (A := A) hm c (by have := hM.regs; omega) hM.nb.2 hM.q3x K 0 F (by have := hM.nb; omega) (by omega) h2 (fun bs _ j hj => by omega)
      have f1' : q4j.l1.f K K (tl K true m) ((m.2.2.2.length : Nat) : Int) (0 : Int) i F = some F' := f1
      simp only [dec_lt c, cond_true, ge0', ge0, Int.toNat_natCast, q96 c, Bool.and_self, g1, hm, q0c, hM.cut rfl, g2, q2c, hlen, f1', q34 (n := i) (by omega)]
      exact z89 hK hl hA hf k (i + 1) F' (by omega) (by omega) f2 (fun e he m' bs' hm' hb' => by
        by_cases qe : e = i
        · subst qe; rw [hm] at hm'; cases hm'; exact f3 bs' hb'
        · rw [f4 e qe] at hb'; exact h3 e (by omega) m' bs' hm' hb')
    · simp only [z1w c, cond_false]
      exact ⟨F, rfl, h2, fun e m bs hm hb => h3 e (by have := q4m hm; omega) m bs hm hb⟩
theorem j43 (hK : 2000 ≤ K) {cells : List Int} {fs : List q0t} {is : List q0h} {cs : List q0d} {xs : List q0l} {ss : List LSum} (h : WF cells fs is) (hw : wide cells fs) (hs : q3p fs ≤ 200) (ht : Tab cells fs is cs xs ss) :
    ∃ xs', q4j.f K fs cs xs ss = some (cs, xs', ss) ∧ Tab cells fs is cs xs' ss ∧ ∀ (i : Nat) m x, fs[i]? = some m → xs'[i]? = some x → ∀ j : Nat, j < m.2.2.2.length → ((j : Nat) : Int) ∉ tl K true m → x.2[j]? = some q62 := by
  have hsm := Tab.small h hw hs ht
  obtain ⟨q1, ⟨q2, q3⟩, q4, q5⟩ := hsm
  obtain ⟨t1, t2, t3, t4, t5, t6⟩ := ht
  have hcnt := h.count
  obtain ⟨A, F, a1, a2, a3⟩ := j3r (K := K) hK q2 t3 q3 t4 xs [] K [] [] rfl (by omega) rfl ⟨rfl, fun i m _ hl => by simp at hl⟩
  have a1' : q39.l0.f K K xs ((xs.length : Nat) : Int) (0 : Int) [] [] = some (A, F) := a1
  have s1 : q39.l2.f K K ss ((ss.length : Nat) : Int) (0 : Int) [] = some ss := j25 (K := K) q4 q5 ss [] K rfl (by omega)
  obtain ⟨F', f1, f2, f3⟩ := z89 (K := K) hK (by omega) a2 (h.fm hK true) K 0 F (by omega) (by omega) a3 (fun e he => by omega)
  have f1' : q4j.l0.f K K ((A.length : Nat) : Int) (0 : Int) fs A F = some F' := f1
  obtain ⟨e1, e2⟩ := f2.all a2
  refine ⟨A.map (z1d q1g F' (ySum.pair (Ty.own (0 : Nat)))), ?_, ⟨t1, t2, (List.length_map _).trans a2, e2, t5, t6⟩, fun i m x hm hx j hj hn => ?_⟩
  · unfold q4j.f q39.f
    rw [z29 q1, q0c, a1', q0c, s1, q0c, q0c]
    dsimp only
    rw [f1', q0c, e1, cond_true]
  · have hiA : i < A.length := by have := q4m hm; omega
    obtain ⟨s, bs, g1, g2, g3⟩ := f2.tells i m hm hiA
    have e0 : (A.map (z1d q1g F' (ySum.pair (Ty.own (0 : Nat)))))[i]? = some (s, z3s F' i) := by rw [List.getElem?_map, g1]; rfl
    have ex : some ((s, z3s F' i) : q0l) = some x := e0.symm.trans hx
    cases ex
    have e : z3s F' i = bs := by unfold z3s; rw [g2]
    show (z3s F' i)[j]? = some q62
    rw [e]
    have hl := g3.len
    dsimp only at hl
    exact f3 i m bs hm g2 j hj (by omega) hn
end Go.Proofs.YtdjkdmjdcdljmaaGreatDoor.AF
namespace Go.Proofs.YtdjkdmjdcdljmaaGreatDoor.AF
open Go.Proofs.q0a Go.Proofs.q0a.Runs
set_option maxRecDepth 100000
set_option maxHeartbeats 4000000
variable {K : Nat}
theorem WF.fits {cells : List Int} {fs : List q0t} {is : List q0h} (h : WF cells fs is) : fits fs := by
  have hc := h.count
  refine ⟨by omega, fun f hf => ?_⟩
  obtain ⟨i, hi⟩ := List.getElem?_of_mem hf
  obtain ⟨a, b, c, d⟩ := h.shape f hf
  refine ⟨by omega, fun b hb => ?_⟩
  obtain ⟨d1, d2⟩ := d b hb
  refine ⟨by omega, fun x hx => ?_⟩
  have ok := (h.funcs i f hi).1
  have := z7i ((ok.each b hb).insns x hx) h.ar_le
  omega
theorem full_hz {sp : Bool} (hK : 2000 ≤ K) {cells : List Int} {fs : List q0t} {is : List q0h} (h : WF cells fs is) {xs : List q0l} : ∀ (i : Nat) m x, fs[i]? = some m → xs[i]? = some x → ∀ j : Nat, j < m.2.2.2.length → ((j : Nat) : Int) ∉ tl K false m → x.2[j]? = some q62 :=
  fun i m x hm hx j hj hn => absurd ((h.fm hK false m (List.mem_of_getElem? hm)).all rfl j hj) hn
theorem files_law (hK : 2000 ≤ K) {a0 : List Int} {a1 : List q0t} {a2 : List q0h} {a3 : List q0d} {a4 : List q0l} {a5 : List LSum} (hw : wide a0 a1) (h1 : ∀ v ∈ a3, Wv v) (h2 : ∀ x ∈ a4, Wf x) (h3 : ∀ s ∈ a5, Ws s) : q1h.f K a0 a1 a2 a3 a4 a5 = some true := by
  obtain ⟨cells, fs, is, cs, xs, ss, ok, r1, r2⟩ := j4u (K := K) hK (a2 := a2) hw h1 h2 h3
  unfold q1h.f
  simp only [r1, q0c, runs_val hK, Bool.not_true, cond_false, q2c]
  cases ok with
  | false => rfl
  | true =>
    obtain ⟨wf, hwd, hs, ht⟩ := r2 rfl
    have hn := wf.ncells
    have hcnt := wf.count
    have hsm := Tab.small wf hwd hs ht
    obtain ⟨zs, z1, z2, z3⟩ := j43 (K := K) hK wf hwd hs ht
    have hsz := Tab.small wf hwd hs z2
    have w1 := z61 (K := K) hK (sp := false) wf hwd hs ht (full_hz (sp := false) hK wf)
    have w2 := z61 (K := K) hK (sp := true) wf hwd hs z2 z3
    have d1 := z92 (K := K) hK (sp := false) wf hwd hs ht (full_hz (sp := false) hK wf)
    have d2 := z92 (K := K) hK (sp := true) wf hwd hs z2 z3
    have e0 := z41 (ireq_val (K := K) hK (c := cells) (f := fs) (i := is) (by omega) wf.fits (by omega)) ⟨⟨rfl, rfl⟩, rfl⟩
    have e1 := z41 (teq_val (K := K) hK hsm) ⟨⟨rfl, rfl⟩, rfl⟩
    have e2 := z41 (teq_val (K := K) hK hsz) ⟨⟨rfl, rfl⟩, rfl⟩
    have step1 : ∀ k, q1h.l0.f K (k + 1) (1 : Int) cells fs is cs xs ss = q1h.l0.f K k (2 : Int) cells fs is cs xs ss := fun k => by
      rw [q1h.l0.f]
      simp only [show decide ((1 : Int) < 2) = true from rfl, show ((1 : Int) == 1) = true from rfl, show IntKind.i64.wrap ((1 : Int) + 1) = 2 from rfl, cond_true, cond_false, z1, q0c, w2, d2, Err.isNil, Bool.not_true, show ((false == true) : Bool) = false from rfl, e0, e2, q2c]
      rfl
    have step0 : ∀ k, q1h.l0.f K (k + 1) (0 : Int) cells fs is cs xs ss = q1h.l0.f K k (1 : Int) cells fs is cs xs ss := fun k => by
      rw [q1h.l0.f]
      simp only [show decide ((0 : Int) < 2) = true from rfl, show ((0 : Int) == 1) = false from rfl, show IntKind.i64.wrap ((0 : Int) + 1) = 1 from rfl, cond_true, cond_false, q0c, w1, d1, Err.isNil, Bool.not_true, Bool.not_false, show ((true == false) : Bool) = false from rfl, e0, e1, q2c]
      rfl
    have step2 : ∀ k, q1h.l0.f K (k + 1) (2 : Int) cells fs is cs xs ss = some (.inl ()) := fun k => by
      rw [q1h.l0.f]
      rfl
    obtain ⟨k, hk⟩ : ∃ k, K = k + 3 := ⟨K - 3, by omega⟩
    have all : q1h.l0.f K K (0 : Int) cells fs is cs xs ss = some (.inl ()) := by
      conv => lhs; arg 2; rw [hk]
      rw [step0, step1, step2]
    simp only [Bool.not_true, cond_false, to_val hK (a0 := cells) (a1 := fs) (a2 := is) (by omega) wf.fits (by omega), q0c, to17_val hK hsm, all, Sum.elim_inl]
end Go.Proofs.YtdjkdmjdcdljmaaGreatDoor.AF
