/- Own work. No condition. -/
import Derived.Test.YtdjkdmjdcdljmaaGreatMv

namespace Go.Proofs.YtdjkdmjdcdljmaaGreatX
open Go.RowKit
set_option linter.unusedVariables false
set_option linter.unusedSimpArgs false
def vpartA (P : Program) (t : TypeId) (cs : Array Value) (off : Nat) : Option Value :=
  match aggOk P t with
  | some true => match P.info? t with
    | some i => some (.agg (cs.extract off (off + i.size)))
    | none => none
  | some false => cs[off]?
  | none => none
theorem run_vpartA {P : Program} {t : TypeId} {cs : Array Value} {off : Nat} {v : Value} (h : vpartA P t cs off = some v) (w : World) : (part t cs off).run P w = .ok v w := by
  unfold vpartA at h
  unfold part
  split at h
  · rename_i ha
    split at h
    · rename_i i hi
      cases h
      simp [run_isAgg ha, run_sizeV hi]
    · cases h
  · rename_i ha
    simp [run_isAgg ha, h]
  · cases h

def veqF (P : Program) (eq : TypeId → Value → Value → Option Bool) (xs ys : Array Value) : List Field → Option Bool
  | [] => some true
  | f :: fs => bif f.name == "_" then none else
    match vpartA P f.type xs f.offset, vpartA P f.type ys f.offset with
    | some a, some b => match eq f.type a b with
      | some r => match fs with
        | [] => some r
        | g :: gs => match veqF P eq xs ys (g :: gs) with
          | some s => some (r && s)
          | none => none
      | none => none
    | _, _ => none
def veq (P : Program) : Nat → TypeId → Value → Value → Option Bool
  | 0, _, _, _ => none
  | d + 1, t, x, y => match P.underlying t with
    | some .bool => match x, y with
      | .bool a, .bool b => some (a == b)
      | _, _ => none
    | some (.int _) => match x, y with
      | .int k a, .int k' b => if k = k' then some (a == b) else none
      | _, _ => none
    | some .string => match x, y with
      | .string a, .string b => some (a == b)
      | _, _ => none
    | some (.struct fs) => match x, y with
      | .agg xs, .agg ys => bif P.stoodInHeld t then none else veqF P (veq P d) xs ys fs.toList
      | _, _ => none
    | _ => none
def eqBy (P : Program) : EqBy := fun t x y => bif P.eqGuardType P.depth t then none else veq P 8 t x y

theorem run_veqF {P : Program} {d : Nat} {eq : TypeId → Value → Value → Option Bool} (heq : ∀ t x y r, eq t x y = some r → ∀ w, (Op.equalIn d t x y).run P w = .ok r w) {xs ys : Array Value} :
    ∀ {fs : List Field} {r : Bool}, veqF P eq xs ys fs = some r → ∀ w, (Op.eqFields d xs ys fs).run P w = .ok r w
  | [], r, h, w => by simp [veqF] at h; subst h; simp [Op.eqFields]
  | f :: fs, r, h, w => by
    rw [veqF] at h
    cases hn : (f.name == "_") with
    | true => simp [hn] at h
    | false =>
    simp only [hn, cond_false] at h
    have hn' : f.name ≠ "_" := by simpa using hn
    split at h
    · rename_i a b ha hb
      split at h
      · rename_i r0 hr0
        simp only [Op.eqFields, if_pos hn', Sem.run_bind, run_vpartA ha w, run_vpartA hb w, heq _ _ _ _ hr0 w, Result.andThen_ok, Sem.run_ite]
        split at h
        · cases h
          cases r <;> simp [Op.eqFields]
        · split at h
          · rename_i s hs
            cases h
            cases r0
            · simp
            · simpa using run_veqF heq hs w
          · cases h
      · cases h
    · cases h

theorem run_veq {P : Program} : ∀ {d : Nat} {t : TypeId} {x y : Value} {r : Bool}, veq P d t x y = some r → ∀ (m : Nat) (w : World), (Op.equalIn (d + m) t x y).run P w = .ok r w
  | 0, _, _, _, _, h, _, _ => by simp [veq] at h
  | d + 1, t, x, y, r, h, m, w => by
    rw [Nat.add_right_comm]
    simp only [veq] at h
    split at h
    · rename_i hu
      split at h
      · cases h; simp [Op.equalIn, run_underlying hu]
      · cases h
    · rename_i hu
      split at h
      · split at h
        · rename_i k a k' b hk
          cases h
          simp [Op.equalIn, run_underlying hu, hk]
        · cases h
      · cases h
    · rename_i hu
      split at h
      · cases h; simp [Op.equalIn, run_underlying hu]
      · cases h
    · rename_i fs hu
      split at h
      · rename_i xs ys
        cases hs : P.stoodInHeld t with
        | true => simp [hs] at h
        | false =>
          simp only [hs, cond_false] at h
          have hf : P.fieldsOf t = fs := by simp [Program.fieldsOf, hu]
          rw [run_equalIn_struct (P := P) w (d + m) t xs ys (by rw [hf]; exact hu) hs, hf]
          exact run_veqF (fun t x y r he w => run_veq he m w) h w
      · cases h
    · cases h

theorem eqBy_ok (P : Program) : EqOk P (eqBy P) := by
  intro t x y r h
  unfold eqBy at h
  cases hg : P.eqGuardType P.depth t with
  | true => simp [hg] at h
  | false =>
    simp only [hg, cond_false] at h
    exact ⟨fun w => run_veq h 9992 w, rfl⟩

end Go.Proofs.YtdjkdmjdcdljmaaGreatX
