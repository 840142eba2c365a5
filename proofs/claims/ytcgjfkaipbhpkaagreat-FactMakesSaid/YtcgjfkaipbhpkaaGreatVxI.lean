/- Our small machine: equality of what has no addresses, told by the types' own rows; what is told of called functions, one by one. No condition beside those stated. -/
import Derived.Test.YtcgjfkaipbhpkaaGreatVxH

namespace Go.Proofs.YtcgjfkaipbhpkaaGreatX
open Go.RowKit
set_option linter.unusedVariables false
set_option linter.unusedSimpArgs false

/-! ### Equality -/
def veqF (P : Program) (eq : TypeId → Value → Value → Option Bool) (xs ys : Array Value) : List Field → Option Bool
  | [] => some true
  | f :: fs => bif f.name == "_" then none else
    match vpart P f.type xs f.offset, vpart P f.type ys f.offset with
    | some a, some b => match eq f.type a b with
      | some r => match fs with
        | [] => some r
        | g :: gs => match veqF P eq xs ys (g :: gs) with
          | some s => some (r && s)
          | none => none
      | none => none
    | _, _ => none
def veq (P : Program) : Nat → TypeId → Value → Value → Option Bool
  | 0, _, _, _ => none
  | d + 1, t, x, y => match P.underlying t with
    | some .bool => match x, y with
      | .bool a, .bool b => some (a == b)
      | _, _ => none
    | some (.int _) => match x, y with
      | .int k a, .int k' b => if k = k' then some (a == b) else none
      | _, _ => none
    | some .string => match x, y with
      | .string a, .string b => some (a == b)
      | _, _ => none
    | some (.struct fs) => match x, y with
      | .agg xs, .agg ys => bif P.stoodInHeld t then none else veqF P (veq P d) xs ys fs.toList
      | _, _ => none
    | _ => none
def eqBy (P : Program) : EqBy := fun t x y => bif P.eqGuardType P.depth t then none else veq P 8 t x y

theorem run_veqF {P : Program} {d : Nat} {eq : TypeId → Value → Value → Option Bool} (heq : ∀ t x y r, eq t x y = some r → ∀ w, (Op.equalIn d t x y).run P w = .ok r w) {xs ys : Array Value} :
    ∀ {fs : List Field} {r : Bool}, veqF P eq xs ys fs = some r → ∀ w, (Op.eqFields d xs ys fs).run P w = .ok r w
  | [], r, h, w => by simp [veqF] at h; subst h; simp [Op.eqFields]
  | f :: fs, r, h, w => by
    rw [veqF] at h
    cases hn : (f.name == "_") with
    | true => simp [hn] at h
    | false =>
    simp only [hn, cond_false] at h
    have hn' : f.name ≠ "_" := by simpa using hn
    split at h
    · rename_i a b ha hb
      split at h
      · rename_i r0 hr0
        simp only [Op.eqFields, if_pos hn', Sem.run_bind, run_vpart ha w, run_vpart hb w, heq _ _ _ _ hr0 w, Result.andThen_ok, Sem.run_ite]
        split at h
        · cases h
          cases r <;> simp [Op.eqFields]
        · split at h
          · rename_i s hs
            cases h
            cases r0
            · simp
            · simpa using run_veqF heq hs w
          · cases h
      · cases h
    · cases h

theorem run_veq {P : Program} : ∀ {d : Nat} {t : TypeId} {x y : Value} {r : Bool}, veq P d t x y = some r → ∀ (m : Nat) (w : World), (Op.equalIn (d + m) t x y).run P w = .ok r w
  | 0, _, _, _, _, h, _, _ => by simp [veq] at h
  | d + 1, t, x, y, r, h, m, w => by
    rw [Nat.add_right_comm]
    simp only [veq] at h
    split at h
    · rename_i hu
      split at h
      · cases h; simp [Op.equalIn, run_underlying hu]
      · cases h
    · rename_i hu
      split at h
      · split at h
        · rename_i k a k' b hk
          cases h
          simp [Op.equalIn, run_underlying hu, hk]
        · cases h
      · cases h
    · rename_i hu
      split at h
      · cases h; simp [Op.equalIn, run_underlying hu]
      · cases h
    · rename_i fs hu
      split at h
      · rename_i xs ys
        cases hs : P.stoodInHeld t with
        | true => simp [hs] at h
        | false =>
          simp only [hs, cond_false] at h
          have hf : P.fieldsOf t = fs := by simp [Program.fieldsOf, hu]
          rw [run_equalIn_struct (P := P) w (d + m) t xs ys (by rw [hf]; exact hu) hs, hf]
          exact run_veqF (fun t x y r he w => run_veq he m w) h w
      · cases h
    · cases h

theorem eqBy_ok (P : Program) : EqOk P (eqBy P) := by
  intro t x y r h
  unfold eqBy at h
  cases hg : P.eqGuardType P.depth t with
  | true => simp [hg] at h
  | false =>
    simp only [hg, cond_false] at h
    exact ⟨fun w => run_veq h 9992 w, rfl⟩

/-! ### Called functions -/
inductive K1
  | i (k : IntKind)
  | b
  | s
inductive K2
  | one (k : K1)
  | agg (l : List K1)
def K1.T : K1 → Type
  | .i _ => Int
  | .b => Bool
  | .s => ByteArray
def K1.val : (k : K1) → k.T → Value
  | .i k, n => .int k n
  | .b, v => .bool v
  | .s, v => .string v
def cur1 : List K1 → Type → Type
  | [], R => R
  | k :: ks, R => k.T → cur1 ks R
def cur : List K2 → Type
  | [] => Option Value
  | .one k :: ks => k.T → cur ks
  | .agg l :: ks => cur1 l (cur ks)
def take1 : (k : K1) → {R : Type} → Value → (k.T → Option R) → Option R
  | .i k, _, .int k' n, g => if k' = k then g n else none
  | .b, _, .bool v, g => g v
  | .s, _, .string v, g => g v
  | _, _, _, _ => none
/-- The parts of a struct, one after another. -/
def takeL {R S : Type} : (l : List K1) → List Value → cur1 l R → (R → Option S) → Option S
  | [], vs, g, k => match vs with
    | [] => k g
    | _ :: _ => none
  | x :: l, vs, g, k => match vs with
    | v :: vs => take1 x v fun a => takeL l vs (g a) k
    | [] => none
def aggL (v : Value) (k : List Value → Option Value) : Option Value :=
  match v with
  | .agg ⟨cs⟩ => k cs
  | _ => none
def takeA : (ks : List K2) → List Value → cur ks → Option Value
  | [], vs, g => match vs with
    | [] => g
    | _ :: _ => none
  | .one x :: ks, vs, g => match vs with
    | v :: vs => take1 x v fun a => takeA ks vs (g a)
    | [] => none
  | .agg l :: ks, vs, g => match vs with
    | v :: vs => aggL v fun cs => takeL l cs g fun g' => takeA ks vs g'
    | [] => none
/-- For all arguments of these kinds. -/
def all1 : (l : List K1) → {R : Type} → cur1 l R → (List Value → R → Prop) → Prop
  | [], _, g, p => p [] g
  | x :: l, _, g, p => ∀ a : x.T, all1 l (g a) fun vs r => p (x.val a :: vs) r
def allA : (ks : List K2) → cur ks → (List Value → Option Value → Prop) → Prop
  | [], g, p => p [] g
  | .one x :: ks, g, p => ∀ a : x.T, allA ks (g a) fun vs r => p (x.val a :: vs) r
  | .agg l :: ks, g, p => all1 l g fun cs g' => allA ks g' fun vs r => p (.agg ⟨cs⟩ :: vs) r

theorem take1_spec {x : K1} {R : Type} {v : Value} {g : x.T → Option R} {r : R} (h : take1 x v g = some r) : ∃ a, v = x.val a ∧ g a = some r := by
  cases x with
  | i k =>
    cases v <;> simp only [take1, reduceCtorEq] at h
    case int k' n =>
      split at h
      · rename_i e; subst e; exact ⟨n, rfl, h⟩
      · cases h
  | b => cases v <;> simp only [take1, reduceCtorEq] at h; exact ⟨_, rfl, h⟩
  | s => cases v <;> simp only [take1, reduceCtorEq] at h; exact ⟨_, rfl, h⟩
theorem takeL_spec {R S : Type} : ∀ {l : List K1} {vs : List Value} {g : cur1 l R} {k : R → Option S} {r : S} {p : List Value → R → Prop}, takeL l vs g k = some r → all1 l g p → ∃ g', p vs g' ∧ k g' = some r
  | [], vs, g, k, r, p, h, ha => by
    cases vs with
    | nil => exact ⟨g, ha, h⟩
    | cons v vs => cases h
  | x :: l, vs, g, k, r, p, h, ha => by
    cases vs with
    | nil => cases h
    | cons v vs =>
      obtain ⟨a, rfl, h2⟩ := take1_spec (show take1 x v (fun a => takeL l vs (g a) k) = some r from h)
      exact takeL_spec (p := fun vs r => p (x.val a :: vs) r) h2 (ha a)
theorem aggL_spec {v : Value} {k : List Value → Option Value} {r : Value} (h : aggL v k = some r) : ∃ cs, v = .agg ⟨cs⟩ ∧ k cs = some r := by
  cases v <;> simp only [aggL, reduceCtorEq] at h
  case agg cs => obtain ⟨cs⟩ := cs; exact ⟨cs, rfl, h⟩
theorem takeA_spec : ∀ {ks : List K2} {vs : List Value} {g : cur ks} {r : Value} {p : List Value → Option Value → Prop}, takeA ks vs g = some r → allA ks g p → ∃ o, p vs o ∧ o = some r
  | [], vs, g, r, p, h, ha => by
    cases vs with
    | nil => exact ⟨g, ha, h⟩
    | cons v vs => cases h
  | .one x :: ks, vs, g, r, p, h, ha => by
    cases vs with
    | nil => cases h
    | cons v vs =>
      obtain ⟨a, rfl, h2⟩ := take1_spec (show take1 x v (fun a => takeA ks vs (g a)) = some r from h)
      exact takeA_spec (p := fun vs r => p (x.val a :: vs) r) h2 (ha a)
  | .agg l :: ks, vs, g, r, p, h, ha => by
    cases vs with
    | nil => cases h
    | cons v vs =>
      obtain ⟨cs, rfl, h2⟩ := aggL_spec (show aggL v (fun cs => takeL l cs g fun g' => takeA ks vs g') = some r from h)
      obtain ⟨g', h3, h4⟩ := takeL_spec h2 ha
      exact takeA_spec (p := fun vs r => p (.agg ⟨cs⟩ :: vs) r) h4 h3

def entry (n : Nat) (ks : List K2) (G : (Value → Option Value) → cur ks) (rest : CallsBy) : CallsBy := fun f args k => bif Nat.beq f n then takeA ks args (G k) else rest f args k
def noCalls : CallsBy := fun _ _ _ => none
theorem noCalls_ok {P : Program} : CallsOk P noCalls := fun _ _ _ _ h => by cases h

/-- It returns v, and what was there stays. -/
def Rets (P : Program) (n : Nat) (args : List Value) (v : Value) : Prop := ∀ w, Calls P n args.toArray w fun e w' => e = .returned v ∧ Below w.heap.size w w'

theorem entry_ok {P : Program} {n : Nat} {ks : List K2} {G : (Value → Option Value) → cur ks} {rest : CallsBy} {fn : Func} (hrest : CallsOk P rest) (hf : P.funcs[n]? = some fn) (hname : (fn.name == "runtime.NumGoroutine") = false) (hb : fn.body.isSome = true)
    (h : ∀ k, allA ks (G k) fun vs o => ∀ r, o = some r → ∃ v, k v = some r ∧ Rets P n vs v) : CallsOk P (entry n ks G rest) := by
  intro f args k r hr
  unfold entry at hr
  cases hn : Nat.beq f n with
  | false => rw [hn] at hr; exact hrest f args k r hr
  | true =>
    rw [hn] at hr
    obtain rfl := Nat.eq_of_beq_eq_true hn
    obtain ⟨o, h1, h2⟩ := takeA_spec hr (h k)
    obtain ⟨v, hk, hc⟩ := h1 r h2
    exact ⟨v, hk, ⟨fn, hf, hname, hb⟩, hc⟩

theorem bind_rets {α : Type} {o : Option α} {P : Program} {n : Nat} {vs : List Value} {enc : α → Value} (h : ∀ t, o = some t → Rets P n vs (enc t)) (k : Value → Option Value) :
    ∀ r, (o.bind fun t => k (enc t)) = some r → ∃ v, k v = some r ∧ Rets P n vs v := by
  intro r hr
  cases o with
  | none => cases hr
  | some t => exact ⟨enc t, hr, h t rfl⟩
theorem cond_bind {α β : Type} (c : Bool) (x y : Option α) (f : α → Option β) : (bif c then x else y).bind f = bif c then x.bind f else y.bind f := by cases c <;> rfl
theorem some_bind {α β : Type} (x : α) (f : α → Option β) : (some x).bind f = f x := rfl
theorem rets_of {α : Type} {P : Program} {C : CallsBy} {inl : Nat → Bool} {d L n : Nat} {fn : Func} {vs : List Value} {o : Option α} {enc : α → Value} (hC : CallsOk P C) (hm : P.follows .mixedOrders = true) (hf : P.funcs[n]? = some fn) (hfl : vs.all flatB = true)
    (h : runF P C inl d (eqBy P) L fn vs = o.bind fun t => some (enc t)) : ∀ t, o = some t → Rets P n vs (enc t) := by
  intro t ht w
  rw [ht] at h
  exact runF_sound hC (eqBy_ok P) hm hf hfl h w
end Go.Proofs.YtcgjfkaipbhpkaaGreatX
