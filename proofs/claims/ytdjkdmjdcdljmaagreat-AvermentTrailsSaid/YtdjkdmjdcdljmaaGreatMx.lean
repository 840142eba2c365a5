/- Own work. No condition. -/
import Derived.Test.YtdjkdmjdcdljmaaGreatMw

namespace Go.Proofs.YtdjkdmjdcdljmaaGreatX
open Go.RowKit
set_option linter.unusedVariables false
set_option linter.unusedSimpArgs false
variable {M : Cfg} {α : Type}

def withCv {A R B : Type} (F : A → Option R) (cv : A → R → B) : A → Option B := fun x => (F x).bind fun r => some (cv x r)
def smap {A R R' B B' : Type} (cv : A → R → B) (cv' : A → R' → B') (x : A) : R ⊕ R' → B ⊕ B' := Sum.map (cv x) (cv' x)
def callD (g : Sig) {R : Type} (F : g.In → Option R) (cv : g.In → R → g.Ou) (vs : List V) (H : List HE) (k : Out → Option α) (other : Option α) : Option α :=
  match fit0 g.ish g.ihs 0 vs H with
  | some (x, W) => bif cutsOk H W.map then (bif callOk g W H.length then (F x).bind fun r =>
      k { v := resV (g.osh.encR (renF (renL W.map g.ohs.length H.length)) (cv x r).1), chg := (killL W).map (fun G => (G, HE.dead)) ++ zipC (renL W.map g.ohs.length H.length) (encHR (renF (renL W.map g.ohs.length H.length)) g.ohs (cv x r).2) } else none) else other
  | none => other
theorem callD_eq {g : Sig} {R : Type} {F : g.In → Option R} {cv : g.In → R → g.Ou} {vs : List V} {H : List HE} {k : Out → Option α} {other : Option α} : callD g F cv vs H k other = callW g (withCv F cv) vs H k other := by
  unfold callD callW withCv fit
  cases fit0 g.ish g.ihs 0 vs H with
  | none => rfl
  | some p =>
    obtain ⟨x, W⟩ := p
    simp only
    cases cutsOk H W.map with
    | false => rfl
    | true =>
    simp only [cond_true]
    cases callOk g W H.length with
    | false => rfl
    | true =>
      simp only [cond_true]
      cases F x <;> rfl
def entryD (n : FuncId) (g : Sig) {R : Type} (F : g.In → Option R) (cv : g.In → R → g.Ou) (rest : CallsBy α) : CallsBy α := fun f vs H k => bif Nat.beq f n then callD g F cv vs H k (rest f vs H k) else rest f vs H k
theorem entryD_ok {n : FuncId} {g : Sig} {R : Type} {F : g.In → Option R} {cv : g.In → R → g.Ou} {rest : CallsBy α} {fn : Func} (hrest : CallsOk M rest) (hg : g.ok = true) (hf : M.P.funcs[n]? = some fn) (hname : (fn.name == "runtime.NumGoroutine") = false) (hb : fn.body.isSome = true)
    (hG : ∀ x y, withCv F cv x = some y → Rets M n g x y) : CallsOk M (entryD n g F cv rest) := by
  have : entryD n g F cv rest = entryC n g (withCv F cv) rest := by
    funext f vs H k
    unfold entryD entryC
    rw [callD_eq]
  rw [this]
  exact entryC_ok hrest hg hf hname hb hG

def lpX (m n j : Nat) (hsh xsh : SSh) {R : Type} (F : hsh.I → Option R) (cv : hsh.I → R → xsh.I) : St → Kn α → Option α := fun S K =>
  bif Nat.beq S.n n then (match hsh.fit m S with
    | some x => (F x).bind fun r => K (.exit j) (xsh.enc n (cv x r))
    | none => none) else none
def lpXRD (m n j : Nat) (hsh xsh rsh : SSh) {R R' : Type} (F : hsh.I → Option (R ⊕ R')) (cv : hsh.I → R → xsh.I) (cv' : hsh.I → R' → rsh.I) : St → Kn α → Option α := fun S K =>
  bif Nat.beq S.n n then (match hsh.fit m S with
    | some x => (F x).bind fun y => Sum.elim (fun a => K (.exit j) (xsh.enc n (cv x a))) (fun b => K .ret (rsh.enc n (cv' x b))) y
    | none => none) else none
theorem lpX_eq {m n j : Nat} {hsh xsh : SSh} {R : Type} {F : hsh.I → Option R} {cv : hsh.I → R → xsh.I} : lpX (α := α) m n j hsh xsh F cv = lpOf m n hsh (withCv F cv) (outX n j xsh) := by
  funext S K
  unfold lpX lpOf withCv
  congr 1
  cases hsh.fit m S with
  | none => rfl
  | some x => simp only; cases F x <;> rfl
theorem lpXRD_eq {m n j : Nat} {hsh xsh rsh : SSh} {R R' : Type} {F : hsh.I → Option (R ⊕ R')} {cv : hsh.I → R → xsh.I} {cv' : hsh.I → R' → rsh.I} : lpXRD (α := α) m n j hsh xsh rsh F cv cv' = lpOf m n hsh (withCv F (smap cv cv')) (outXR n j xsh rsh) := by
  funext S K
  unfold lpXRD lpOf withCv
  congr 1
  cases hsh.fit m S with
  | none => rfl
  | some x => simp only; cases F x with
    | none => rfl
    | some y => cases y <;> rfl
variable {m n j L key : Nat} {hsh xsh rsh : SSh} {R R' : Type} {c : Code}
theorem lpX_ok {F : hsh.I → Option R} {cv : hsh.I → R → xsh.I} (hm : m ≤ hsh.hs.length) (h : ∀ x y, withCv F cv x = some y → Leads M m (.loop c) (hsh.enc n x) (outX n j xsh y).1 (outX n j xsh y).2) : LoopOk (α := α) M m c (lpX m n j hsh xsh F cv) := by
  rw [lpX_eq]; exact lpOf_ok hm h
theorem lpXRD_ok {F : hsh.I → Option (R ⊕ R')} {cv : hsh.I → R → xsh.I} {cv' : hsh.I → R' → rsh.I} (hm : m ≤ hsh.hs.length) (h : ∀ x y, withCv F (smap cv cv') x = some y → Leads M m (.loop c) (hsh.enc n x) (outXR n j xsh rsh y).1 (outXR n j xsh rsh y).2) : LoopOk (α := α) M m c (lpXRD m n j hsh xsh rsh F cv cv') := by
  rw [lpXRD_eq]; exact lpOf_ok hm h
def keyIs (k : Nat) (c : Code) : Bool := match loopKey c with
  | some j => Nat.beq j k
  | none => false
theorem loopsOk_put {lp : St → Kn α → Option α} {rest : LoopsBy α} {cs : List Code} (hk : loopKey c = some key) (h : LoopOk M m c lp) (hr : LoopsOk M m rest cs) (hn : cs.all (fun c' => !keyIs key c') = true) : LoopsOk M m (lpPut key lp rest) (c :: cs) := by
  intro c' hc key' lp' h1 h2
  unfold lpPut at h2
  rcases List.mem_cons.1 hc with rfl | hc
  · rw [hk] at h1; cases h1
    rw [Nat.beq_refl] at h2; cases h2; exact h
  · cases e : Nat.beq key' key with
    | true =>
      have := List.all_eq_true.1 hn c' hc
      simp [keyIs, h1, e] at this
    | false => rw [e] at h2; exact hr c' hc key' lp' h1 h2
theorem noLoops_ok {cs : List Code} : LoopsOk (α := α) M m noLoops cs := fun _ _ _ _ _ h => by cases h
theorem loopsOk_skip {rest : LoopsBy α} {cs : List Code} (hk : loopKey c = some key) (h : rest key = none) (hr : LoopsOk M m rest cs) : LoopsOk M m rest (c :: cs) := by
  intro c' hc key' lp' h1 h2
  rcases List.mem_cons.1 hc with rfl | hc
  · rw [hk] at h1; cases h1; rw [h] at h2; cases h2
  · exact hr c' hc key' lp' h1 h2
theorem loopX_sound {C : CallsBy xsh.I} {E : EqBy} {LP : LoopsBy xsh.I} {RF : RefitBy} {CP : CutBy xsh.I} {F : Nat → hsh.I → Option R} {cv : hsh.I → R → xsh.I} (hC : CallsOk M C) (hE : EqOk M.P E) (hmx : M.P.follows .mixedOrders = true) (hR : RefitOk M m RF) (hCP : CutsOk M m CP) (hL : LoopsOk M m LP (loopsOf c)) (hm : m ≤ hsh.hs.length) (hx : m ≤ xsh.hs.length)
    (h0 : ∀ x, F 0 x = none) (hs : ∀ k x, exec M C E LP RF CP L c (Kl m hsh (withCv (F k) cv) (backX m n j xsh)) (hsh.enc n x) = withCv (F (k + 1)) cv x) : ∀ k x y, withCv (F k) cv x = some y → Leads M m (.loop c) (hsh.enc n x) (outX n j xsh y).1 (outX n j xsh y).2 :=
  loop_sound hC hE hmx hR hCP hL hm (backX_ok hx) (fun x => by simp [withCv, h0]) fun k x y h => (hs k x).trans h
theorem loopXR_sound {C : CallsBy (xsh.I ⊕ rsh.I)} {E : EqBy} {LP : LoopsBy (xsh.I ⊕ rsh.I)} {RF : RefitBy} {CP : CutBy (xsh.I ⊕ rsh.I)} {F : Nat → hsh.I → Option (R ⊕ R')} {cv : hsh.I → R → xsh.I} {cv' : hsh.I → R' → rsh.I} (hC : CallsOk M C) (hE : EqOk M.P E) (hmx : M.P.follows .mixedOrders = true) (hR : RefitOk M m RF) (hCP : CutsOk M m CP) (hL : LoopsOk M m LP (loopsOf c)) (hm : m ≤ hsh.hs.length) (hx : m ≤ xsh.hs.length) (hx' : m ≤ rsh.hs.length)
    (h0 : ∀ x, F 0 x = none) (hs : ∀ k x, exec M C E LP RF CP L c (Kl m hsh (withCv (F k) (smap cv cv')) (backXR m j xsh rsh)) (hsh.enc n x) = withCv (F (k + 1)) (smap cv cv') x) : ∀ k x y, withCv (F k) (smap cv cv') x = some y → Leads M m (.loop c) (hsh.enc n x) (outXR n j xsh rsh y).1 (outXR n j xsh rsh y).2 :=
  loop_sound hC hE hmx hR hCP hL hm (backXR_ok hx hx') (fun x => by simp [withCv, h0]) fun k x y h => (hs k x).trans h
def bindC {A B : Type} (o : Option A) (f : A → Option B) : Option B := o.bind f
@[reducible] def TysI : List Ty → Type
  | [] => Unit
  | [t] => t.I
  | t :: r => t.I × TysI r
def unTys : (ts : List Ty) → List V → Option (TysI ts)
  | [], [] => some ()
  | [t], [v] => t.un1 [] [v]
  | t :: u :: r, v :: vs => match t.un1 [] [v] with
    | some x => match unTys (u :: r) vs with
      | some y => some (x, y)
      | none => none
    | none => none
  | _, _ => none
def envTys : (ts : List Ty) → List Nat → TysI ts → List (Nat × V)
  | [t], [d], x => (t.cells [] x).map fun v => (d, v)
  | t :: u :: r, d :: ds, x => (t.cells [] x.1).map (fun v => (d, v)) ++ envTys (u :: r) ds x.2
  | _, _, _ => []
def dstIn (ops : List Oper) (t : Nat) : Bool := ops.any fun o => match o.dst with
  | some d => Nat.beq d t
  | none => false
def dropDst (ops : List Oper) : List (Nat × V) → List (Nat × V)
  | [] => []
  | (t, v) :: r => bif dstIn ops t then dropDst ops r else (t, v) :: dropDst ops r
def cutIn (M : Cfg) (ts : List Ty) (ds : List Nat) (C : CallsBy (TysI ts)) (E : EqBy) (ops : Array Oper) (draw : Bool) (S : St) : Option (TysI ts) :=
  bif draw
    then vseq M C E ops ops.toList S [] fun S' rs => bif regOk ops rs then (bif rs.all (fun r => r.puts.isEmpty) then (match looks S'.env ds with | some vs => unTys ts vs | none => none) else none) else none
    else vseq M C E ops ops.toList S [] fun S' rs => bif rs.all (fun r => r.puts.isEmpty) then (match looks S'.env ds with | some vs => unTys ts vs | none => none) else none
def cutBack (ts : List Ty) (ds : List Nat) (ops : Array Oper) (S : St) (x : TysI ts) : St := { env := envTys ts ds x ++ dropDst ops.toList S.env, heap := S.heap, n := S.n }
def rpCut (M : Cfg) (B : {A B : Type} → Option A → (A → Option B) → Option B) (ts : List Ty) (ds : List Nat) (C : CallsBy (TysI ts)) (E : EqBy) (ops : Array Oper) (draw : Bool) (S : St) (k : St → Option α) : Option α :=
  B (cutIn M ts ds C E ops draw S) fun x => k (cutBack ts ds ops S x)
theorem chain_env {ops : List Oper} {t : Nat} (ht : dstIn ops t = false) : ∀ {xs : List Ob} {F F' : Fs}, Chain F xs F' → (∀ x ∈ xs, x.o ∈ ops) → F'.e t = F.e t
  | [], F, F', h, _ => by simp only [Chain] at h; rw [h]
  | x :: xs, F, F', ⟨_, h⟩, hm => by
    rw [chain_env ht h fun y hy => hm y (by simp [hy])]
    simp only [Fs.put]
    rw [if_neg]
    intro e
    have := hm x (by simp)
    unfold dstIn at ht
    have h2 := List.any_eq_false.1 ht x.o this
    rw [e] at h2
    simp [Nat.beq_refl] at h2
theorem chain_heap : ∀ {xs : List Ob} {F F' : Fs}, Chain F xs F' → (∀ x ∈ xs, x.note.puts = []) → F'.h = F.h
  | [], F, F', h, _ => by simp only [Chain] at h; rw [h]
  | x :: xs, F, F', ⟨_, h⟩, hm => by
    rw [chain_heap h fun y hy => hm y (by simp [hy])]
    have := hm x (by simp)
    simp only [Ob.note, recOf, List.map_eq_nil_iff] at this
    funext G
    simp only [Fs.put, this]
    rfl
theorem drop_look {ops : List Oper} {t : Nat} {v : V} : ∀ {env : List (Nat × V)}, look (dropDst ops env) t = some v → dstIn ops t = false ∧ look env t = some v
  | [], h => by simp [dropDst, look] at h
  | (u, w) :: r, h => by
    simp only [dropDst] at h
    cases hd : dstIn ops u with
    | true =>
      rw [hd] at h
      obtain ⟨h1, h2⟩ := drop_look (env := r) h
      refine ⟨h1, ?_⟩
      simp only [look]
      cases hb : Nat.beq u t with
      | true => have := Nat.eq_of_beq_eq_true hb; subst this; rw [hd] at h1; cases h1
      | false => exact h2
    | false =>
      rw [hd] at h
      simp only [cond_false, look] at h ⊢
      cases hb : Nat.beq u t with
      | true =>
        rw [hb] at h
        have := Nat.eq_of_beq_eq_true hb
        subst this
        exact ⟨hd, h⟩
      | false => rw [hb] at h; exact drop_look (env := r) h
theorem look_append {a b : List (Nat × V)} {t : Nat} {v : V} (h : look (a ++ b) t = some v) : look a t = some v ∨ look b t = some v := by
  induction a with
  | nil => exact .inr h
  | cons p a ih =>
    obtain ⟨u, w⟩ := p
    simp only [List.cons_append, look] at h ⊢
    cases hb : Nat.beq u t with
    | true => rw [hb] at h; exact .inl h
    | false => rw [hb] at h; exact ih h
theorem one_look {t : Ty} {x : t.I} {d u : Nat} {v : V} (h : look ((t.cells [] x).map fun v => (d, v)) u = some v) : d = u ∧ v ∈ t.cells [] x := by
  generalize t.cells [] x = l at h
  induction l with
  | nil => simp [look] at h
  | cons w l ih =>
    simp only [List.map_cons, look] at h
    cases hb : Nat.beq d u with
    | true => rw [hb] at h; cases h; exact ⟨Nat.eq_of_beq_eq_true hb, by simp⟩
    | false => rw [hb] at h; obtain ⟨h1, h2⟩ := ih h; exact ⟨h1, by simp [h2]⟩
theorem un1_one {t : Ty} {w v : V} {x : t.I} {σ : Num} {Z : Zone} {W : World} {val : Value} (h : t.un1 [] [w] = some x) (hw : RV M σ Z W w val) (hv : v ∈ t.cells [] x) : RV M σ Z W v val := by
  have h1 := Ty.un1_spec h (RVs.one.2 hw)
  have hl := h1.length
  match hc : t.cells [] x, hl with
  | [u], _ =>
    rw [hc] at hv h1
    simp at hv
    subst hv
    exact RVs.one.1 h1
theorem envTys_look {S' : St} {σ : Num} {Z : Zone} {w : World} {a : Act} (hr : ∀ t v, look S'.env t = some v → RV M σ Z w v (a.eval (.tmp t))) : ∀ {ts : List Ty} {ds : List Nat} {vs : List V} {x : TysI ts}, looks S'.env ds = some vs → unTys ts vs = some x → ∀ t v, look (envTys ts ds x) t = some v → RV M σ Z w v (a.eval (.tmp t))
  | [], ds, vs, x, _, _, t, v, h => by cases ds <;> simp [envTys, look] at h
  | [ty], [], vs, x, _, _, t, v, h => by simp [envTys, look] at h
  | [ty], d :: d' :: ds, vs, x, _, _, t, v, h => by simp [envTys, look] at h
  | [ty], [d], vs, x, hl, hu, t, v, h => by
    simp only [looks] at hl
    split at hl
    · rename_i w0 hw0
      simp only [Option.some.injEq] at hl
      subst hl
      simp only [unTys] at hu
      obtain ⟨h1, h2⟩ := one_look h
      subst h1
      exact un1_one hu (hr _ _ hw0) h2
    · cases hl
  | ty :: u :: r, [], vs, x, _, _, t, v, h => by simp [envTys, look] at h
  | ty :: u :: r, d :: ds, vs, x, hl, hu, t, v, h => by
    simp only [looks] at hl
    split at hl
    · rename_i w0 hw0
      split at hl
      · rename_i us hus
        simp only [Option.some.injEq] at hl
        subst hl
        simp only [unTys] at hu
        split at hu
        · rename_i x0 hx0
          split at hu
          · rename_i y hy
            simp only [Option.some.injEq] at hu
            subst hu
            rcases look_append h with h | h
            · obtain ⟨h1, h2⟩ := one_look h
              subst h1
              exact un1_one hx0 (hr _ _ hw0) h2
            · exact envTys_look hr hus hy t v h
          · cases hu
        · cases hu
      · cases hl
    · cases hl
theorem rpCut_ok {m : Nat} {ts : List Ty} {ds : List Nat} {C : CallsBy (TysI ts)} {E : EqBy} (hC : CallsOk M C) (hE : EqOk M.P E) (hmx : M.P.follows .mixedOrders = true) : CutOk (α := α) M m (rpCut M bindC ts ds C E) := by
  intro ops draw S k r h
  unfold rpCut bindC at h
  cases hc : cutIn M ts ds C E ops draw S with
  | none => rw [hc] at h; cases h
  | some x =>
    rw [hc] at h
    refine ⟨_, h, fun id => ?_⟩
    have fin : ∀ S' rs, (bif rs.all (fun r => r.puts.isEmpty) then (match looks S'.env ds with | some vs => unTys ts vs | none => none) else none) = some x → Leads M m (.region id ops draw) S .normal S' → Past S S' ops rs → Leads M m (.region id ops draw) S .normal (cutBack ts ds ops S x) := by
      intro S' rs hk hl hp
      obtain ⟨hputs, hk2⟩ := bif_some hk
      clear hk
      split at hk2
      · rename_i vs hvs
        obtain ⟨xs, hch, hops, rfl⟩ := hp
        have hh : S'.fs.h = S.fs.h := chain_heap hch fun y hy => by
          have := List.all_eq_true.1 hputs y.note (List.mem_map.2 ⟨y, hy, rfl⟩)
          simpa using this
        refine ⟨rfl, fun E σ Z a w Q hEm hr hQ => hl.2 E σ Z a w Q hEm hr fun σ' Z' a' w' hr' => hQ σ' Z' a' w' ?_⟩
        rw [hl.1] at hr'
        refine ⟨fun t v hv => ?_, hr'.size, hr'.defers, fun G he hG => hr'.heap G he (by rw [hh]; exact hG), fun G hG => hr'.fresh G (by rw [hh]; exact hG), hr'.inv, hr'.frm⟩
        rcases look_append (show look (envTys ts ds x ++ dropDst ops.toList S.env) t = some v from hv) with hv | hv
        · exact envTys_look (fun t v hv => hr'.env t v hv) hvs hk2 t v hv
        · obtain ⟨h1, h2⟩ := drop_look hv
          refine hr'.env t v ?_
          rw [chain_env h1 hch fun y hy => by rw [← hops]; exact List.mem_map.2 ⟨y, hy, rfl⟩]
          exact h2
      · cases hk2
    unfold cutIn at hc
    cases draw with
    | true =>
      obtain ⟨S', rs, h1, h2, h3⟩ := region_drawn (m := m) (id := id) hC hE hmx (k := fun S' rs => bif rs.all (fun r => r.puts.isEmpty) then (match looks S'.env ds with | some vs => unTys ts vs | none => none) else none) hc
      exact fin S' rs h1 h2 h3
    | false =>
      obtain ⟨S', rs, h1, h2, h3⟩ := region_text (m := m) (id := id) hC hE (k := fun S' rs => bif rs.all (fun r => r.puts.isEmpty) then (match looks S'.env ds with | some vs => unTys ts vs | none => none) else none) hc
      exact fin S' rs h1 h2 h3
def cpPut (id : Nat) (ct : Array Oper → Bool → St → (St → Option α) → Option α) (rest : CutBy α) : CutBy α := fun j => bif Nat.beq j id then some ct else rest j
theorem cpPut_ok {m id : Nat} {ct : Array Oper → Bool → St → (St → Option α) → Option α} {rest : CutBy α} (h : CutOk M m ct) (hr : CutsOk M m rest) : CutsOk M m (cpPut id ct rest) := by
  intro j c hc
  unfold cpPut at hc
  cases hj : Nat.beq j id with
  | true => rw [hj] at hc; cases hc; exact h
  | false => rw [hj] at hc; exact hr j c hc
theorem bindC_bind {A B D : Type} {o : Option A} {f : A → Option B} {g : B → Option D} : (bindC o f).bind g = bindC o fun x => (f x).bind g := by cases o <;> rfl
theorem el : (∀ {A B D : Type} {o : Option A} {f : A → Option B} {g : B → Option D}, (bindC o f).bind g = bindC o fun x => (f x).bind g) ∧ (∀ {A B : Type} {c : Bool} {x y : Option A} {f : A → Option B}, (bif c then x else y).bind f = bif c then x.bind f else y.bind f) ∧
    (∀ {A B D : Type} {o : Option A} {f : A → Option B} {g : B → Option D}, (o.bind f).bind g = o.bind fun x => (f x).bind g) ∧ (∀ {A B : Type} {a : A} {f : A → Option B}, (some a).bind f = f a) ∧ (∀ {A B : Type} {f : A → Option B}, (none : Option A).bind f = none) ∧
    (∀ {A A' B D : Type} {f : A → Option B} {g : A' → Option B} {y : A ⊕ A'} {h : B → Option D}, (Sum.elim f g y).bind h = Sum.elim (fun a => (f a).bind h) (fun b => (g b).bind h) y) ∧
    (∀ {A B D : Type} {y : Option A} {f : Option B} {g : A → Option B} {h : B → Option D}, (Option.elim y f g).bind h = Option.elim y (f.bind h) (fun a => (g a).bind h)) :=
  ⟨bindC_bind, @fun _ _ c _ _ _ => by cases c <;> rfl, @fun _ _ _ o _ _ => by cases o <;> rfl, rfl, rfl, @fun _ _ _ _ _ _ y _ => by cases y <;> rfl, @fun _ _ _ y _ _ _ => by cases y <;> rfl⟩
def bodyOf (f : Func) : Code := match f.body with
  | some c => c
  | none => .skip
theorem some_bind {A B : Type} {a : A} {f : A → Option B} : (some a).bind f = f a := rfl
theorem cond_bind {A B : Type} {c : Bool} {x y : Option A} {f : A → Option B} : (bif c then x else y).bind f = bif c then x.bind f else y.bind f := by cases c <;> rfl
theorem withCv_def {A R B : Type} {F : A → Option R} {cv : A → R → B} {x : A} : withCv F cv x = (F x).bind fun r => some (cv x r) := rfl
theorem lb {a b : Nat} (h : Nat.ble a b = true) : a ≤ b := Nat.le_of_ble_eq_true h
structure En (M : Cfg) where
  n : FuncId
  g : Sig
  R : Type
  F : g.In → Option R
  cv : g.In → R → g.Ou
  ok : g.ok = true
  fn : Func
  hf : M.P.funcs[n]? = some fn
  hname : (fn.name == "runtime.NumGoroutine") = false
  hb : fn.body.isSome = true
  rets : ∀ x y, withCv F cv x = some y → Rets M n g x y
def callsE : List (En M) → CallsBy α
  | [] => noCalls
  | e :: r => entryD e.n e.g e.F e.cv (callsE r)
theorem callsE_ok : ∀ {l : List (En M)}, CallsOk M (callsE (α := α) l)
  | [] => noCalls_ok
  | e :: _ => entryD_ok callsE_ok e.ok e.hf e.hname e.hb e.rets
theorem noL {LP : LoopsBy α} {c : Code} (h : loopsOf c = []) : LoopsOk M m LP (loopsOf c) := fun c' hc => by rw [h] at hc; cases hc
theorem lpX_okS {C : CallsBy xsh.I} {LP : LoopsBy xsh.I} {RF : RefitBy} {CP : CutBy xsh.I} {F : Nat → hsh.I → Option R} {cv : hsh.I → R → xsh.I} {q : Nat} (hC : CallsOk M C) (hmx : M.P.follows .mixedOrders = true) (hR : RefitOk M m RF) (hCP : CutsOk M m CP) (hL : LoopsOk M m LP (loopsOf c)) (hm : m ≤ hsh.hs.length) (hx : m ≤ xsh.hs.length)
    (h0 : ∀ x, F 0 x = none) (hs : ∀ k x, exec M C (eqBy M.P) LP RF CP L c (Kl m hsh (withCv (F k) cv) (backX m n j xsh)) (hsh.enc n x) = withCv (F (k + 1)) cv x) : LoopOk (α := α) M m c (lpX m n j hsh xsh (F q) cv) :=
  lpX_ok hm (loopX_sound hC (eqBy_ok _) hmx hR hCP hL hm hx h0 hs q)
theorem lpXRD_okS {C : CallsBy (xsh.I ⊕ rsh.I)} {LP : LoopsBy (xsh.I ⊕ rsh.I)} {RF : RefitBy} {CP : CutBy (xsh.I ⊕ rsh.I)} {F : Nat → hsh.I → Option (R ⊕ R')} {cv : hsh.I → R → xsh.I} {cv' : hsh.I → R' → rsh.I} {q : Nat} (hC : CallsOk M C) (hmx : M.P.follows .mixedOrders = true) (hR : RefitOk M m RF) (hCP : CutsOk M m CP) (hL : LoopsOk M m LP (loopsOf c)) (hm : m ≤ hsh.hs.length) (hx : m ≤ xsh.hs.length) (hx' : m ≤ rsh.hs.length)
    (h0 : ∀ x, F 0 x = none) (hs : ∀ k x, exec M C (eqBy M.P) LP RF CP L c (Kl m hsh (withCv (F k) (smap cv cv')) (backXR m j xsh rsh)) (hsh.enc n x) = withCv (F (k + 1)) (smap cv cv') x) : LoopOk (α := α) M m c (lpXRD m n j hsh xsh rsh (F q) cv cv') :=
  lpXRD_ok hm (loopXR_sound hC (eqBy_ok _) hmx hR hCP hL hm hx hx' h0 hs q)
theorem runF_retsS {g : Sig} {R : Type} {F : g.In → Option R} {cv : g.In → R → g.Ou} {C : CallsBy g.Ou} {LP : LoopsBy g.Ou} {RF : RefitBy} {CP : CutBy g.Ou} {f : FuncId} {fn : Func} (hC : CallsOk M C) (hmx : M.P.follows .mixedOrders = true) (hR : RefitOk M g.ihs.length RF) (hCP : CutsOk M g.ihs.length CP) (hL : LoopsOk M g.ihs.length LP (loopsOf (bodyOf fn))) (hm : g.ihs.length ≤ g.ohs.length)
    (hf : M.P.funcs[f]? = some fn) (hb : fn.body = some (bodyOf fn)) (heq : ∀ x, runF M g C (eqBy M.P) LP RF CP 20 fn (bodyOf fn) x = withCv F cv x) : ∀ x y, withCv F cv x = some y → Rets M f g x y := fun x y h =>
  runF_rets hC (eqBy_ok _) hmx hR hCP hL hm hf hb ((heq x).trans h)
end Go.Proofs.YtdjkdmjdcdljmaaGreatX
