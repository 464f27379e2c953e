/- Numbers of objects only grow. -/
import Derived.Test.YtejeplcandhgdaaDoorEvP
set_option linter.unusedVariables false
set_option linter.unusedSimpArgs false
namespace Go.Ev

section
variable {cx : Cx} {H H' : Hp} {e : Env} {o : Oper} {call : CallT}

theorem res0_next {v : V} {x : PV} (h : res0 v H = some (x, H')) : H'.next = H.next := by
  unfold res0 at h
  (repeat' split at h) <;> cases h <;> rfl
theorem res0s_next : ∀ (vs : List V) {H : Hp} {xs : List PV} {H' : Hp}, res0s vs H = some (xs, H') → H'.next = H.next
  | [], H, xs, H', h => by simp [res0s] at h; obtain ⟨_, rfl⟩ := h; rfl
  | v :: r, H, xs, H', h => by
    unfold res0s at h
    split at h
    · rename_i x H1 h1
      split at h
      · rename_i l H2 h2
        cases h
        rw [res0s_next r h2, res0_next h1]
      · cases h
    · cases h
theorem res1_next {v : V} {x : PV} (h : res1 v H = some (x, H')) : H'.next = H.next := by
  unfold res1 at h
  split at h
  · split at h
    · rename_i l H1 h1; cases h; exact res0s_next _ h1
    · cases h
  · split at h
    · rename_i l H1 h1; cases h; exact res0_next h1
    · cases h
  · exact res0_next h
theorem res1s_next : ∀ (vs : List V) {H : Hp} {xs : List PV} {H' : Hp}, res1s vs H = some (xs, H') → H'.next = H.next
  | [], H, xs, H', h => by simp [res1s] at h; obtain ⟨_, rfl⟩ := h; rfl
  | v :: r, H, xs, H', h => by
    unfold res1s at h
    split at h
    · rename_i x H1 h1
      split at h
      · rename_i l H2 h2
        cases h
        rw [res1s_next r h2, res1_next h1]
      · cases h
    · cases h
theorem writeAt_next {p : V} {vs : List V} (h : writeAt H p vs = some H') : H'.next = H.next := by
  unfold writeAt at h
  (repeat' split at h) <;> cases h <;> rfl
theorem evAppend_next {t : TypeId} {s x v : V} (h : evAppend cx t s x H = some (v, H')) : H.next ≤ H'.next := by
  unfold evAppend at h
  split at h
  · split at h
    · split at h
      · split at h
        · cases h
        · split at h
          · rename_i y H1 hres
            have := res0_next hres
            (repeat' split at h) <;> cases h <;> simp [Hp.new, Hp.set] <;> omega
          · cases h
      · cases h
    · cases h
  · cases h
theorem resParts_next : ∀ (ps : List (Nat × V)) {H : Hp} {qs : List (Nat × V)} {H' : Hp}, resParts ps H = some (qs, H') → H'.next = H.next
  | [], H, qs, H', h => by simp [resParts] at h; obtain ⟨_, rfl⟩ := h; rfl
  | (i, v) :: r, H, qs, H', h => by
    by_cases hp : ∃ x, v = .p x
    · obtain ⟨x, rfl⟩ := hp
      simp only [resParts] at h
      split at h
      · rename_i l H1 h1; cases h; exact resParts_next r h1
      · cases h
    · have h : (match res1 v H with
        | some (x, H) => (match resParts r H with | some (l, H) => some ((i, V.p (nrm x)) :: l, H) | none => none)
        | none => none) = some (qs, H') := by
        cases v <;> first | exact h | exact absurd ⟨_, rfl⟩ hp
      split at h
      · rename_i x H1 h1
        split at h
        · rename_i l H2 h2; cases h; rw [resParts_next r h2, res1_next h1]
        · cases h
      · cases h
theorem evAppend0_next {t t' : TypeId} {s x v : V} (h : evAppend0 cx t t' s x H = some (v, H')) : H.next ≤ H'.next := by
  unfold evAppend0 at h
  (repeat' split at h) <;> cases h <;> simp [Hp.new]
theorem evBuiltin_next {b : Builtin} {ts : List TypeId} {args : List V} {rz : Rz} (h : evBuiltin cx b ts args H = some rz) : H.next ≤ rz.hp.next := by
  unfold evBuiltin at h
  split at h
  · (repeat' split at h) <;> cases h <;> simp [Rz.hp]
  · (repeat' split at h) <;> cases h <;> simp [Rz.hp]
  · split at h
    · split at h
      · rename_i v H1 ha; cases h; exact evAppend_next ha
      · cases h
    · split at h
      · rename_i v H1 ha; cases h; exact evAppend0_next ha
      · cases h
  · (repeat' split at h) <;> cases h <;> simp [Rz.hp]
  · (repeat' split at h) <;> cases h <;> simp [Rz.hp]
  · cases h

def NextOK (call : CallT) : Prop := ∀ f args H rz, call f args H = some rz → H.next ≤ rz.hp.next

theorem evOp_next (hc : NextOK call) {rz : Rz} (h : evOp cx call o e H = some rz) : H.next ≤ rz.hp.next := by
  cases hop : o.op
  case store t x y =>
    simp only [evOp, hop] at h
    split at h
    · split at h
      · split at h
        · rename_i H1 hw; cases h; simp [Rz.hp, writeAt_next hw]
        · cases h
      · cases h
    · cases h
  case buildSlice t n ps =>
    simp only [evOp, hop] at h
    split at h
    · split at h
      · split at h
        · split at h
          · cases h
          · split at h
            · rename_i ps' H1 hres
              have := resParts_next _ hres
              split at h <;> cases h
              simp [Rz.hp, this]
            · cases h
        · cases h
      · cases h
    · cases h
  case call c =>
    simp only [evOp, hop] at h
    split at h
    · split at h
      · exact evBuiltin_next h
      · (repeat' split at h) <;> first | exact hc _ _ _ _ h | cases h
      · cases h
    · cases h
  case makeFunc f x y => cases f <;> simp only [evOp, hop] at h <;> (repeat' split at h) <;> cases h <;> simp [Rz.hp]
  case makeMap t r => cases r <;> simp only [evOp, hop] at h <;> cases h; simp [Rz.hp, Hp.new]
  case slice t x lo hi mx => cases mx <;> simp only [evOp, hop] at h <;> (repeat' split at h) <;> cases h <;> simp [Rz.hp]
  all_goals (simp only [evOp, hop] at h; try ((repeat' split at h) <;> cases h <;> simp [Rz.hp, Hp.new, Hp.set]))

variable {dr : List Oper → Option Nat}
theorem evOps_next (hc : NextOK call) (all : List Oper) : ∀ (l : List Oper) {e : Env} {H : Hp} {x : Ex} {e' : Env} {H' : Hp}, evOps cx call all l e H = some (x, e', H') → H.next ≤ H'.next
  | [], e, H, x, e', H', h => by simp [evOps] at h; obtain ⟨_, _, rfl⟩ := h; exact Nat.le_refl _
  | o :: r, e, H, x, e', H', h => by
    unfold evOps at h
    split at h
    · split at h
      · rename_i v H1 h1
        exact Nat.le_trans (evOp_next hc h1) (evOps_next hc all r h)
      · rename_i v H1 h1
        cases h
        exact evOp_next hc h1
      · cases h
    · exact evOps_next hc all r h
    · cases h
theorem evQuiet_next (hc : NextOK call) (all : List Oper) : ∀ (l : List Oper) {e : Env} {H : Hp} {x : Ex} {e' : Env} {H' : Hp}, evQuiet cx call all l e H = some (x, e', H') → H.next ≤ H'.next
  | [], e, H, x, e', H', h => by simp [evQuiet] at h; obtain ⟨_, _, rfl⟩ := h; exact Nat.le_refl _
  | o :: r, e, H, x, e', H', h => by
    unfold evQuiet at h
    split at h
    · split at h
      · rename_i v H1 h1
        have h2 := evOp_next hc h1
        have h3 := evQuiet_next hc all r h
        simp only [Rz.hp] at h2
        exact Nat.le_trans h2 h3
      · cases h
    · exact evQuiet_next hc all r h
    · cases h
theorem iter_next {f : Env → Hp → Co} (hf : ∀ e H x e' H', f e H = some (x, e', H') → H.next ≤ H'.next) : ∀ (k : Nat) {e : Env} {H : Hp} {x : Ex} {e' : Env} {H' : Hp}, iter f k e H = some (x, e', H') → H.next ≤ H'.next
  | 0, _, _, _, _, _, h => by cases h
  | k + 1, e, H, x, e', H', h => by
    unfold iter at h
    split at h
    · rename_i e1 H1 h1
      exact Nat.le_trans (hf _ _ _ _ _ h1) (iter_next hf k h)
    · exact hf _ _ _ _ _ h
theorem evCode_next (hc : NextOK call) (n : Nat) (ro : Bool) : ∀ (c : Code) {e : Env} {H : Hp} {x : Ex} {e' : Env} {H' : Hp}, evCode cx dr call n ro c e H = some (x, e', H') → H.next ≤ H'.next := by
  intro c
  induction c with
  | skip => intro e H x e' H' h; simp [evCode] at h; obtain ⟨_, _, rfl⟩ := h; exact Nat.le_refl _
  | region id ops draw =>
    intro e H x e' H' h
    cases draw with
    | false => exact evOps_next hc _ _ h
    | true =>
      simp only [evCode] at h
      split at h
      · split at h
        · rename_i e1 H1 h1
          exact Nat.le_trans (evQuiet_next hc _ _ h1) (evOps_next hc _ _ h)
        · cases h
      · cases h
  | seq a b iha ihb =>
    intro e H x e' H' h
    simp only [evCode] at h
    split at h
    · rename_i e1 H1 h1
      exact Nat.le_trans (iha h1) (ihb h)
    · exact iha h
  | cond c a b iha ihb =>
    intro e H x e' H' h
    simp only [evCode] at h
    split at h
    · exact iha h
    · exact ihb h
    · cases h
  | block id c ih =>
    intro e H x e' H' h
    simp only [evCode] at h
    split at h
    · rename_i id' e1 H1 h1
      split at h <;> (cases h; exact ih h1)
    · exact ih h
  | loop c ih =>
    intro e H x e' H' h
    simp only [evCode] at h
    exact iter_next (fun e H x e' H' h => ih h) n h
  | exit id => intro e H x e' H' h; simp [evCode] at h; obtain ⟨_, _, rfl⟩ := h; exact Nat.le_refl _
  | ret => intro e H x e' H' h; simp [evCode] at h; obtain ⟨_, _, rfl⟩ := h; exact Nat.le_refl _
  | rangeFunc g ps assign body =>
    intro e H x e' H' h
    simp only [evCode] at h
    split at h
    · cases h
    · split at h
      · split at h
        · rename_i v H2 h2
          have := hc _ _ _ _ h2
          simp only [Hp.new, Rz.hp] at this
          unfold afterLoop at h
          (repeat' split at h) <;> cases h <;> simp only [Hp.set] <;> omega
        · rename_i v H2 h2
          have := hc _ _ _ _ h2
          simp only [Hp.new, Rz.hp] at this
          cases h; omega
        · cases h
      · cases h
  | _ => intro e H x e' H' h; simp [evCode] at h
theorem evBody_next (hc : NextOK call) {n : Nat} {fn : Func} {c : Code} {args : List V} {rz : Rz} (h : evBody cx dr call n fn c args H = some rz) : H.next ≤ rz.hp.next := by
  unfold evBody at h
  split at h
  · rename_i h1; split at h <;> cases h; exact evCode_next hc n false c h1
  · rename_i h1; split at h <;> cases h; exact evCode_next hc n false c h1
  · rename_i h1; cases h; exact evCode_next hc n false c h1
  · cases h
theorem endRound_next {id : Nat} {j : Option Code} {rz : Rz} (h : endRound H id j = some rz) : rz.hp.next = H.next := by
  unfold endRound at h
  split at h <;> cases h
  rfl
theorem evRound_next (hc : NextOK call) {n id : Nat} {args : List V} {rz : Rz} (h : evRound cx dr call n id args H = some rz) : H.next ≤ rz.hp.next := by
  unfold evRound at h
  split at h
  · split at h
    · cases h
    · split at h
      · rename_i e1 H1 h1
        have n1 := evCode_next hc n true _ h1
        split at h
        · split at h
          · rename_i h2; have n2 := evCode_next hc n true _ h2; simp only [Hp.set] at n2; rw [endRound_next h]; omega
          · rename_i h2; have n2 := evCode_next hc n true _ h2; simp only [Hp.set] at n2; rw [endRound_next h]; omega
          · rename_i h2; have n2 := evCode_next hc n true _ h2; simp only [Hp.set] at n2; rw [endRound_next h]; omega
          · cases h
        · cases h
      · cases h
  · cases h
theorem evFn_next : ∀ n, NextOK (evFn cx dr n)
  | 0 => fun f args H rz h => by cases h
  | n + 1 => fun tg args H rz h => by
    have ih := evFn_next n
    cases tg with
    | y id => exact evRound_next ih h
    | f f =>
    unfold evFn at h
    split at h
    · split at h
      · rename_i ps H1 h1
        have := res1s_next _ h1
        split at h
        · cases h; simp [Rz.hp, this]
        · cases h
      · cases h
    · split at h
      · split at h
        · split at h
          · exact evBody_next ih h
          · split at h
            · rename_i ps H1 h1
              have := res1s_next _ h1
              split at h
              · split at h
                · cases h; simp [Rz.hp, this]
                · cases h
              · cases h; simp [Rz.hp, this]
              · cases h
            · cases h
        · cases h
      · cases h

end
end Go.Ev
