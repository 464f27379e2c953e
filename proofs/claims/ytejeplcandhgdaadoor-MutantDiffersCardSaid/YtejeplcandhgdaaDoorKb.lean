/- Walks over few temporaries: what is known of the environment is a short list ('SE'); what is still to run is a stack of frames ('Fr'). -/
import Derived.Test.YtejeplcandhgdaaDoorKa
set_option linter.unusedVariables false
set_option linter.unusedSimpArgs false
namespace Go.Ev

abbrev SE := List (Nat × V)
def look : SE → Nat → Option V
  | [], _ => none
  | (k, v) :: r, t => bif Nat.beq k t then some v else look r t
def sx (cx : Cx) (L : SE) : Operand → Option V
  | .tmp t => look L t
  | .const v => match ofConst v with | some x => some (.p x) | none => none
  | .global g => match cx.gl g with | some xs => some (.p (.sptr xs 0 0)) | none => none
  | .func f => some (.p (.func f [] []))
structure Ag (n : Nat) (L : SE) (e : Env) : Prop where
  len : e.length = n
  get : ∀ t v, look L t = some v → gt e t = v

theorem Ag.le {cx : Cx} {n : Nat} {L : SE} {e : Env} (h : Ag n L e) : LeEv (sx cx L) (evx cx e) := by
  intro x v k
  cases x with
  | tmp t => show gtO e t = some v; rw [gtO_eq, h.get t v k]
  | const c => exact k
  | global g => exact k
  | func f => exact k
theorem Ag.put {n : Nat} {L : SE} {e : Env} (h : Ag n L e) {d : Nat} (hd : Nat.blt d n = true) (v : V) : Ag n ((d, v) :: L) (st e d v) := by
  refine ⟨by rw [length_st, h.len], fun t u hu => ?_⟩
  rw [gt_st]
  simp only [look] at hu
  have hd' : d < e.length := by rw [h.len]; simpa [Nat.blt_eq] using hd
  by_cases ht : d = t
  · subst ht
    simp at hu
    simp [hd', hu]
  · have : Nat.beq d t = false := by
      cases hb : Nat.beq d t with
      | true => exact absurd (Nat.eq_of_beq_eq_true hb) ht
      | false => rfl
    rw [this] at hu
    simp only [cond_false] at hu
    rw [if_neg (by omega)]
    exact h.get t u hu
/-- All that a list says, another one says. -/
def Sub (L : SE) : SE → Prop
  | [] => True
  | (k, v) :: r => look L k = some v ∧ Sub L r
theorem Sub.look {L : SE} : ∀ {L' : SE}, Sub L L' → ∀ t v, look L' t = some v → Ev.look L t = some v
  | [], _, t, v, h => by cases h
  | (k, u) :: r, hs, t, v, h => by
    simp only [Ev.look] at h
    cases hb : Nat.beq k t with
    | true =>
      rw [hb] at h
      simp only [cond_true, Option.some.injEq] at h
      subst h
      rw [← Nat.eq_of_beq_eq_true hb]; exact hs.1
    | false => rw [hb] at h; exact hs.2.look t v h
theorem Ag.sub {n : Nat} {L L' : SE} {e : Env} (h : Ag n L e) (hs : Sub L L') : Ag n L' e := ⟨h.len, fun t v ht => h.get t v (hs.look t v ht)⟩

def wantS (all : List Oper) (L : SE) (o : Oper) : Option Bool :=
  match o.guard with
  | none => some true
  | some (j, want) => (match all[j]? with
    | some oj => (match oj.dst with
      | some d => (match look L d with
        | some (.p (.bool b)) => some (b == want)
        | some (.p .undef) => some false
        | _ => none)
      | none => none)
    | none => none)
theorem Ag.want {n : Nat} {L : SE} {e : Env} (h : Ag n L e) {all : List Oper} {o : Oper} {b : Bool} (hw : wantS all L o = some b) : wantB all e o = some b := by
  unfold wantS at hw; unfold wantB
  cases hg : o.guard with
  | none => rw [hg] at hw; exact hw
  | some jw =>
    obtain ⟨j, want⟩ := jw
    rw [hg] at hw
    simp only at hw ⊢
    cases hj : all[j]? with
    | none => rw [hj] at hw; cases hw
    | some oj =>
      rw [hj] at hw
      simp only at hw ⊢
      cases hd : oj.dst with
      | none => rw [hd] at hw; cases hw
      | some d =>
        rw [hd] at hw
        simp only at hw ⊢
        split at hw
        · rename_i b' hb; rw [h.get _ _ hb]; exact hw
        · rename_i hb; rw [h.get _ _ hb]; exact hw
        · cases hw
/-- It is wanted, and where it goes. -/
def okS (n : Nat) (all : List Oper) (L : SE) (o : Oper) : Option Nat :=
  match wantS all L o with
  | some true => (match o.dst with | some d => bif Nat.blt d n then some d else none | none => none)
  | _ => none
def okN (all : List Oper) (L : SE) (o : Oper) : Bool :=
  match wantS all L o with
  | some true => o.dst.isNone
  | _ => false
theorem okS_ok {n : Nat} {all : List Oper} {L : SE} {o : Oper} {d : Nat} (h : okS n all L o = some d) : wantS all L o = some true ∧ o.dst = some d ∧ Nat.blt d n = true := by
  unfold okS at h
  split at h
  · rename_i hw
    split at h
    · rename_i d' hd
      cases hb : Nat.blt d' n with
      | true => rw [hb] at h; simp at h; subst h; exact ⟨hw, hd, hb⟩
      | false => rw [hb] at h; simp at h
    · cases h
  · cases h
theorem okN_ok {all : List Oper} {L : SE} {o : Oper} (h : okN all L o = true) : wantS all L o = some true ∧ o.dst = none := by
  unfold okN at h
  split at h
  · rename_i hw; exact ⟨hw, by simpa using h⟩
  · cases h

/-- What is still to run. -/
inductive Fr where
  | code (c : Code)
  | blk (id : Nat)
  | cut (J : Env → Hp → Prop)
abbrev KX := Ex → Env → Hp → Prop
def Stk (cx : Cx) (ro : Bool) : List Fr → KX → KX
  | [], K => K
  | .code c :: s, K => thenX (fun e H => EW cx ro c e H (Stk cx ro s K)) (Stk cx ro s K)
  | .blk id :: s, K => blockX id (Stk cx ro s K)
  | .cut J :: s, K => thenX J (Stk cx ro s K)

def popTo (i : Nat) : List Fr → Option (List Fr)
  | [] => none
  | .blk id :: s => bif Nat.beq i id then some s else popTo i s
  | _ :: s => popTo i s
theorem popTo_ok {cx : Cx} {ro : Bool} {K : KX} {i : Nat} {e : Env} {H : Hp} : ∀ {s s' : List Fr}, popTo i s = some s' → Stk cx ro s' K .normal e H → Stk cx ro s K (.exit i) e H
  | [], s', h, _ => by cases h
  | .blk id :: s, s', h, k => by
    simp only [popTo] at h
    simp only [Stk, blockX]
    cases hb : Nat.beq i id with
    | true => rw [hb] at h; simp at h; subst h; rw [if_pos (Nat.eq_of_beq_eq_true hb)]; exact k
    | false =>
      rw [hb] at h
      simp only [cond_false] at h
      rw [if_neg (fun he => by rw [he] at hb; simp at hb)]
      exact popTo_ok (s := s) h k
  | .code c :: s, s', h, k => by simp only [popTo] at h; exact popTo_ok (s := s) h k
  | .cut J :: s, s', h, k => by simp only [popTo] at h; exact popTo_ok (s := s) h k
theorem ret_ok {cx : Cx} {ro : Bool} {K : KX} {e : Env} {H : Hp} : ∀ {s : List Fr}, K .ret e H → Stk cx ro s K .ret e H
  | [], k => k
  | .blk id :: s, k => ret_ok (s := s) k
  | .code c :: s, k => ret_ok (s := s) k
  | .cut J :: s, k => ret_ok (s := s) k
theorem pan_ok {cx : Cx} {ro : Bool} {K : KX} {v : V} {e : Env} {H : Hp} : ∀ {s : List Fr}, K (.pan v) e H → Stk cx ro s K (.pan v) e H
  | [], k => k
  | .blk id :: s, k => pan_ok (s := s) k
  | .code c :: s, k => pan_ok (s := s) k
  | .cut J :: s, k => pan_ok (s := s) k

end Go.Ev
