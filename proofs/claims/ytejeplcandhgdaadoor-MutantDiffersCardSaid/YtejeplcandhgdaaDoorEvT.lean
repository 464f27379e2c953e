/- 'evOp' sees no more of the environment than the operands. -/
import Derived.Test.YtejeplcandhgdaaDoorEvS
set_option linter.unusedVariables false
set_option linter.unusedSimpArgs false
namespace Go.Ev

section
variable {cx : Cx} {P : Program} {g : G} {H H' : Hp} {w : World} {e e' : Env} {a : Act} {o : Oper} {call : CallT} {v : V}

theorem evxs_congr : ∀ (l : List Operand), (∀ x ∈ l, evx cx e x = evx cx e' x) → evxs cx e l = evxs cx e' l
  | [], _ => rfl
  | x :: r, h => by
    simp only [evxs]
    rw [h x (by simp), evxs_congr r (fun y hy => h y (by simp [hy]))]
theorem evparts_congr : ∀ (l : List (Nat × Operand)), (∀ x ∈ l, evx cx e x.2 = evx cx e' x.2) → evparts cx e l = evparts cx e' l
  | [], _ => rfl
  | x :: r, h => by
    simp only [evparts]
    rw [h x (by simp), evparts_congr r (fun y hy => h y (by simp [hy]))]
theorem optInt_congr (x : Option Operand) (h : ∀ y, x = some y → evx cx e y = evx cx e' y) : optInt cx e x = optInt cx e' x := by
  cases x with
  | none => rfl
  | some y => simp only [optInt]; rw [h y rfl]

theorem evOp_congr (h : ∀ x ∈ o.op.operands, evx cx e x = evx cx e' x) : evOp cx call o e H = evOp cx call o e' H := by
  cases hop : o.op
  case build t ps =>
    have : evparts cx e ps.toList = evparts cx e' ps.toList := evparts_congr _ (fun x hx => h x.2 (by rw [hop]; simp only [Op.operands]; simpa using ⟨x.1, by simpa using hx⟩))
    simp only [evOp, hop, this]
  case buildSlice t n ps =>
    have : evparts cx e ps.toList = evparts cx e' ps.toList := evparts_congr _ (fun x hx => h x.2 (by rw [hop]; simp only [Op.operands]; simpa using ⟨x.1, by simpa using hx⟩))
    simp only [evOp, hop, this]
  case makeFunc f x y =>
    have h1 : evxs cx e x.toList = evxs cx e' x.toList := evxs_congr _ (fun z hz => h z (by rw [hop]; simp only [Op.operands]; simp at hz; simp [hz]))
    have h2 : evxs cx e y.toList = evxs cx e' y.toList := evxs_congr _ (fun z hz => h z (by rw [hop]; simp only [Op.operands]; simp at hz; simp [hz]))
    cases f <;> simp only [evOp, hop, h1, h2]
  case makeMap t r => cases r <;> simp only [evOp, hop]
  case slice t x lo hi mx =>
    have hx : evx cx e x = evx cx e' x := h x (by rw [hop]; simp [Op.operands])
    have hlo : optInt cx e lo = optInt cx e' lo := optInt_congr _ (fun y hy => h y (by rw [hop]; simp [Op.operands, hy]))
    have hhi : optInt cx e hi = optInt cx e' hi := optInt_congr _ (fun y hy => h y (by rw [hop]; simp [Op.operands, hy]))
    have hmx : optInt cx e mx = optInt cx e' mx := optInt_congr _ (fun y hy => h y (by rw [hop]; simp [Op.operands, hy]))
    cases mx <;> simp only [evOp, hop, hx, hlo, hhi, hmx]
  case call c =>
    have h1 : evxs cx e c.args.toList = evxs cx e' c.args.toList := evxs_congr _ (fun z hz => h z (by rw [hop]; simp only [Op.operands, Call.operands]; simp at hz; simp [hz]))
    have h2 : ∀ f, c.callee = .value f → evx cx e f = evx cx e' f := fun f hf => h f (by rw [hop]; simp [Op.operands, Call.operands, hf])
    cases hc : c.callee
    case value f => have h3 := h2 f hc; simp only [evOp, hop, h1, hc, h3]
    all_goals simp only [evOp, hop, h1, hc]
  all_goals (rw [hop] at h; simp only [Op.operands, List.mem_toArray, List.mem_cons, List.not_mem_nil, or_false, forall_eq_or_imp, forall_eq] at h; first | (simp only [evOp, hop, h]; done) | (simp only [evOp, hop]; done))
end
end Go.Ev
