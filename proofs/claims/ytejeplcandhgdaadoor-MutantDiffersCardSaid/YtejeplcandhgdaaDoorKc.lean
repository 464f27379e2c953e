/- The heap of a walk as a list of objects that lie apart ('HA'); rules for code and operations over it. -/
import Derived.Test.YtejeplcandhgdaaDoorKb
set_option linter.unusedVariables false
set_option linter.unusedSimpArgs false
namespace Go.Ev

/-- A list, reckoned to its end. -/
def frc {α : Type} : List α → Option (List α)
  | [] => some []
  | x :: r => match frc r with | some l => some (x :: l) | none => none
theorem frc_ok {α : Type} : ∀ {l l' : List α}, frc l = some l' → l = l'
  | [], l', h => by cases h; rfl
  | x :: r, l', h => by
    simp only [frc] at h
    split at h
    · rename_i q hq; cases h; rw [frc_ok hq]
    · cases h
/-- What a load makes of cells, reckoned to the end. -/
def loadF (cx : Cx) (t : TypeId) (cut1 : Nat → Option (List V)) : Option V :=
  match cx.ty t with
  | some d => (match isAggT d.desc with
    | true => (match cut1 d.size with | some l => (match allP l with | some ps => some (.p (.agg ps)) | none => (match frc l with | some l => some (.agg l) | none => none)) | none => none)
    | false => (match cut1 1 with | some [v] => some v | _ => none))
  | none => none
theorem loadF_ok {cx : Cx} {t : TypeId} {cut1 : Nat → Option (List V)} {v : V} (h : loadF cx t cut1 = some v) : loaded cx t cut1 = some v := by
  unfold loadF at h; unfold loaded
  cases hd : cx.ty t with
  | none => rw [hd] at h; cases h
  | some d =>
    rw [hd] at h
    cases ha : isAggT d.desc with
    | true =>
      simp only [ha, if_true] at h ⊢
      cases hl : cut1 d.size with
      | none => rw [hl] at h; cases h
      | some l =>
        rw [hl] at h
        simp only [mkAgg] at h ⊢
        cases hp : allP l with
        | some ps => rw [hp] at h; exact h
        | none =>
          rw [hp] at h
          simp only at h ⊢
          cases hf : frc l with
          | none => rw [hf] at h; cases h
          | some l' => rw [hf] at h; rw [frc_ok hf]; exact h
    | false =>
      simp only [ha] at h ⊢
      exact h
/-- What is known of the heap: an object; a slice that is owned, with its elements (of so many cells); one that is read alone from now on. -/
inductive Ent where
  | no
  | ob (p : Nat) (o : O)
  | sl (v : V) (xs : List PV) (sz : Nat)
  | fz (v : V) (xs : List PV)
def EntOK (H : Hp) : Ent → Option Nat → Prop
  | .no, i => i = none
  | .ob p o, i => i = some p ∧ H.obj p = o
  | .sl v xs sz, none => v = .p .nils ∧ xs = []
  | .sl v xs sz, some p => v = .own p 0 xs.length ∧ ∃ ys, H.obj p = .own ys ∧ xs.length ≤ ys.length ∧ ys.take xs.length = xs ∧ headSz ys sz = true
  | .fz v xs, none => (v = .p .nils ∧ xs = []) ∨ v = .p (.sl xs)
  | .fz v xs, some p => v = .own p 0 xs.length ∧ ∃ ys, H.obj p = .fro ys ∧ xs.length ≤ ys.length ∧ ys.take xs.length = xs
theorem EntOK.keep {H H' : Hp} {E : Ent} {i : Option Nat} (h : EntOK H E i) (hk : ∀ p, i = some p → H'.obj p = H.obj p) : EntOK H' E i := by
  cases E with
  | no => exact h
  | ob p o => exact ⟨h.1, by rw [hk p h.1]; exact h.2⟩
  | sl v xs sz => cases i with
    | none => exact h
    | some p => obtain ⟨h1, ys, h2, h3⟩ := h; exact ⟨h1, ys, by rw [hk p rfl]; exact h2, h3⟩
  | fz v xs => cases i with
    | none => exact h
    | some p => obtain ⟨h1, ys, h2, h3⟩ := h; exact ⟨h1, ys, by rw [hk p rfl]; exact h2, h3⟩
/-- The objects lie apart; all else is as it was in 'H0', but for what 'I' names. -/
structure HAf (H0 : Hp) (I : List Nat) (M : List Ent) (H : Hp) (f : Nat → Option Nat) : Prop where
  ent : ∀ k E, M[k]? = some E → EntOK H E (f k)
  out : ∀ k, M.length ≤ k → f k = none
  inj : ∀ j k p, f j = some p → f k = some p → j = k
  rng : ∀ k p, f k = some p → H.low ≤ p ∧ p < H.next ∧ (p ∈ I ∨ H0.next ≤ p)
  low : H.low = H0.low
  next : H0.next ≤ H.next
  ln : H.low ≤ H.next
  frame : ∀ i, i < H0.next → i ∉ I → H.obj i = H0.obj i
def HA (H0 : Hp) (I : List Nat) (M : List Ent) (H : Hp) : Prop := ∃ f, HAf H0 I M H f
theorem HA.empty : HA Hp.empty [] [] Hp.empty := ⟨fun _ => none, by simp, fun _ _ => rfl, by simp, by simp, rfl, Nat.le_refl _, Nat.le_refl _, fun _ _ _ => rfl⟩

section
variable {H0 : Hp} {I : List Nat} {M : List Ent} {H : Hp} {f : Nat → Option Nat}
/-- What becomes of one place. -/
theorem HAf.chg (h : HAf H0 I M H f) {k : Nat} (hk : k < M.length) {H' : Hp} {E : Ent} (j : Option Nat) (ho : ∀ i, i < H.next → f k ≠ some i → H'.obj i = H.obj i) (hlow : H'.low = H.low) (hnx : H.next ≤ H'.next)
    (hE : EntOK H' E j) (hj : j = f k ∨ j = none ∨ ∃ p, j = some p ∧ H.next ≤ p ∧ p < H'.next) : HA H0 I (M.set k E) H' := by
  refine ⟨fun i => if i = k then j else f i, ?_⟩
  have hjr : ∀ p, j = some p → f k = some p ∨ (H.next ≤ p ∧ p < H'.next) := by
    intro p hp
    rcases hj with h1 | h1 | ⟨q, h1, h2⟩
    · exact .inl (by rw [← h1]; exact hp)
    · rw [h1] at hp; cases hp
    · rw [h1] at hp; cases hp; exact .inr h2
  constructor
  · intro i E' hi
    by_cases hik : i = k
    · subst hik
      rw [List.getElem?_set_self hk] at hi
      cases hi
      simpa using hE
    · rw [List.getElem?_set_ne (fun h => hik h.symm)] at hi
      simp only [if_neg hik]
      refine (h.ent i E' hi).keep (fun p hp => ho p (h.rng i p hp).2.1 (fun hkp => hik (h.inj i k p hp hkp)))
  · intro i hi
    have hi' : M.length ≤ i := by simpa using hi
    simp only [if_neg (show i ≠ k by omega)]
    exact h.out i hi'
  · intro a b p ha hb
    by_cases hak : a = k <;> by_cases hbk : b = k
    · rw [hak, hbk]
    · simp only [if_pos hak, if_neg hbk] at ha hb
      rcases hjr p ha with h1 | ⟨h1, _⟩
      · exact absurd (h.inj k b p h1 hb).symm hbk
      · have := (h.rng b p hb).2.1; omega
    · simp only [if_neg hak, if_pos hbk] at ha hb
      rcases hjr p hb with h1 | ⟨h1, _⟩
      · exact absurd (h.inj k a p h1 ha).symm hak
      · have := (h.rng a p ha).2.1; omega
    · simp only [if_neg hak, if_neg hbk] at ha hb
      exact h.inj a b p ha hb
  · intro a p ha
    have old : ∀ i, f i = some p → H'.low ≤ p ∧ p < H'.next ∧ (p ∈ I ∨ H0.next ≤ p) := fun i hi => by
      obtain ⟨h1, h2, h3⟩ := h.rng i p hi
      exact ⟨by rw [hlow]; exact h1, by omega, h3⟩
    by_cases hak : a = k
    · simp only [if_pos hak] at ha
      rcases hjr p ha with h1 | ⟨h1, h2⟩
      · exact old k h1
      · refine ⟨?_, h2, .inr (Nat.le_trans h.next h1)⟩
        rw [hlow]
        exact Nat.le_trans h.ln h1
    · simp only [if_neg hak] at ha
      exact old a ha
  · rw [hlow]; exact h.low
  · exact Nat.le_trans h.next hnx
  · rw [hlow]; exact Nat.le_trans h.ln hnx
  · intro i hi hI
    rw [ho i (Nat.lt_of_lt_of_le hi h.next) (fun hk => by
      rcases (h.rng k i hk).2.2 with h1 | h1
      · exact hI h1
      · omega)]
    exact h.frame i hi hI
/-- A place more. -/
theorem HAf.add (h : HAf H0 I M H f) {H' : Hp} {E : Ent} (j : Option Nat) (ho : ∀ i, i < H.next → H'.obj i = H.obj i) (hlow : H'.low = H.low) (hnx : H.next ≤ H'.next)
    (hE : EntOK H' E j) (hj : j = none ∨ ∃ p, j = some p ∧ H.next ≤ p ∧ p < H'.next) : HA H0 I (M ++ [E]) H' := by
  have h1 : HAf H0 I (M ++ [.no]) H f := by
    refine ⟨fun k E hk => ?_, fun k hk => h.out k (by simp at hk; omega), h.inj, h.rng, h.low, h.next, h.ln, h.frame⟩
    by_cases hkl : k < M.length
    · rw [List.getElem?_append_left hkl] at hk; exact h.ent k E hk
    · rw [List.getElem?_append_right (by omega)] at hk
      have : k - M.length = 0 := by
        rcases Nat.eq_zero_or_pos (k - M.length) with h2 | h2
        · exact h2
        · rw [List.getElem?_eq_none (by simp; omega)] at hk; cases hk
      rw [this] at hk
      simp at hk; subst hk
      exact h.out k (by omega)
  have h2 := h1.chg (k := M.length) (by simp) (E := E) j (fun i hi _ => ho i hi) hlow hnx hE (by
    rcases hj with hj | hj
    · exact .inr (.inl hj)
    · exact .inr (.inr hj))
  simpa using h2
theorem HAf.mem {k : Nat} {E : Ent} (hk : M[k]? = some E) : k < M.length := by
  rcases Nat.lt_or_ge k M.length with h | h
  · exact h
  · rw [List.getElem?_eq_none h] at hk; cases hk
/-- The heap is turned at no place that is known. -/
theorem HAf.same (h : HAf H0 I M H f) {H' : Hp} (ho : ∀ i, i < H.next → H'.obj i = H.obj i) (hlow : H'.low = H.low) (hnx : H.next ≤ H'.next) : HAf H0 I M H' f where
  ent := fun k E hk => (h.ent k E hk).keep (fun p hp => ho p (h.rng k p hp).2.1)
  out := h.out
  inj := h.inj
  rng := fun k p hp => by obtain ⟨h1, h2, h3⟩ := h.rng k p hp; exact ⟨by rw [hlow]; exact h1, by omega, h3⟩
  low := by rw [hlow]; exact h.low
  next := Nat.le_trans h.next hnx
  ln := by rw [hlow]; exact Nat.le_trans h.ln hnx
  frame := fun i hi hI => by rw [ho i (Nat.lt_of_lt_of_le hi h.next)]; exact h.frame i hi hI
/-- Some places alone, in another order. -/
theorem HAf.sel (h : HAf H0 I M H f) (ks : List Nat) (hn : ks.Nodup) {M' : List Ent} (hM : M'.length = ks.length) (hs : ∀ (i k : Nat), ks[i]? = some k → M[k]? = M'[i]? ) : HAf H0 I M' H (fun i => match ks[i]? with | some k => f k | none => none) := by
  constructor
  · intro i E hi
    cases hk : ks[i]? with
    | none =>
      rw [List.getElem?_eq_none (by
        have := List.getElem?_eq_none_iff.1 hk
        omega)] at hi
      cases hi
    | some k => simp only; exact h.ent k E (by rw [hs i k hk]; exact hi)
  · intro i hi
    rw [List.getElem?_eq_none (by omega)]
  · intro a b p ha hb
    cases hka : ks[a]? with
    | none => simp only [hka] at ha; cases ha
    | some x =>
      cases hkb : ks[b]? with
      | none => simp only [hkb] at hb; cases hb
      | some y =>
        simp only [hka] at ha
        simp only [hkb] at hb
        have hxy := h.inj x y p ha hb
        subst hxy
        have hla : a < ks.length := by
          rcases Nat.lt_or_ge a ks.length with h | h
          · exact h
          · rw [List.getElem?_eq_none h] at hka; cases hka
        have hlb : b < ks.length := by
          rcases Nat.lt_or_ge b ks.length with h | h
          · exact h
          · rw [List.getElem?_eq_none h] at hkb; cases hkb
        rw [List.getElem?_eq_getElem hla] at hka
        rw [List.getElem?_eq_getElem hlb] at hkb
        have heq : ks[a] = ks[b] := (Option.some.inj hka).trans (Option.some.inj hkb).symm
        have hp := List.pairwise_iff_getElem.1 hn
        rcases Nat.lt_trichotomy a b with h | h | h
        · exact absurd heq (hp a b hla hlb h)
        · exact h
        · exact absurd heq.symm (hp b a hlb hla h)
  · intro i p hi
    cases hk : ks[i]? with
    | none => simp only [hk] at hi; cases hi
    | some k => simp only [hk] at hi; exact h.rng k p hi
  · exact h.low
  · exact h.next
  · exact h.ln
  · exact h.frame
end

section
variable (cx : Cx) (H0 : Hp) (I : List Nat) (ro : Bool) (n : Nat)
/-- What is asked of the heap at a cut. -/
def SX (x : Ex) (s : List Fr) (L : SE) (M : List Ent) (K : KX) : Prop := ∀ e H, Ag n L e → HA H0 I M H → Stk cx ro s K x e H
/-- Operations: 'q' what comes behind the quiet head of a region that draws, if it is the head. -/
def SO (q : Option (List Oper)) (all l : List Oper) (s : List Fr) (L : SE) (M : List Ent) (K : KX) : Prop := ∀ e H, Ag n L e → HA H0 I M H →
  match q with
  | none => EO cx all l e H (Stk cx ro s K)
  | some r => EU cx all l e H (fun e H => EO cx all r e H (Stk cx ro s K))
end

section
variable {cx : Cx} {H0 : Hp} {I : List Nat} {ro : Bool} {n : Nat} {K : KX} {s : List Fr} {L : SE} {M : List Ent} {H : Hp} {q : Option (List Oper)} {all r : List Oper} {o : Oper} {v : V}

theorem SX.sub (L' : SE) {x : Ex} (hs : Sub L L') (h : SX cx H0 I ro n x s L' M K) : SX cx H0 I ro n x s L M K := fun e H he hH => h e H (he.sub hs) hH
theorem SO.sub (L' : SE) {l : List Oper} (hs : Sub L L') (h : SO cx H0 I ro n q all l s L' M K) : SO cx H0 I ro n q all l s L M K := fun e H he hH => h e H (he.sub hs) hH
/-- Are these places there, each once? -/
def selOK (M : List Ent) (ks : List Nat) : Bool := ks.all (fun k => Nat.blt k M.length) && ks.Nodup
def sel (M : List Ent) : List Nat → List Ent
  | [] => []
  | k :: r => M.getD k .no :: sel M r
theorem sel_length (M : List Ent) : ∀ ks, (sel M ks).length = ks.length
  | [] => rfl
  | k :: r => by simp [sel, sel_length M r]
theorem sel_get (M : List Ent) : ∀ (ks : List Nat) (i k : Nat), ks[i]? = some k → (sel M ks)[i]? = some (M.getD k .no)
  | [], i, k, h => by simp at h
  | x :: r, 0, k, h => by simp at h; subst h; simp [sel]
  | x :: r, i + 1, k, h => by simp only [sel, List.getElem?_cons_succ] at h ⊢; exact sel_get M r i k h
theorem HA.sel {H : Hp} (h : HA H0 I M H) (ks : List Nat) (hk : selOK M ks = true) : HA H0 I (Ev.sel M ks) H := by
  obtain ⟨f, h⟩ := h
  simp only [selOK, Bool.and_eq_true, List.all_eq_true, decide_eq_true_eq] at hk
  refine ⟨_, h.sel ks hk.2 (sel_length M ks) (fun i k hi => ?_)⟩
  rw [sel_get M ks i k hi]
  have : k < M.length := by simpa [Nat.blt_eq] using hk.1 k (List.mem_of_getElem? hi)
  simp [List.getElem?_eq_getElem this]
theorem SX.keep (ks : List Nat) {M' : List Ent} {x : Ex} (hk : selOK M ks = true) (hM : sel M ks = M') (h : SX cx H0 I ro n x s L M' K) : SX cx H0 I ro n x s L M K := fun e H he hH => h e H he (hM ▸ hH.sel ks hk)
theorem SO.keep (ks : List Nat) {M' : List Ent} {l : List Oper} (hk : selOK M ks = true) (hM : sel M ks = M') (h : SO cx H0 I ro n q all l s L M' K) : SO cx H0 I ro n q all l s L M K := fun e H he hH => h e H he (hM ▸ hH.sel ks hk)

theorem SX.seq {a b : Code} (h : SX cx H0 I ro n .normal (.code a :: .code b :: s) L M K) : SX cx H0 I ro n .normal (.code (.seq a b) :: s) L M K := fun e H he hH => EW.seq (h e H he hH)
theorem SX.skip (h : SX cx H0 I ro n .normal s L M K) : SX cx H0 I ro n .normal (.code .skip :: s) L M K := fun e H he hH => EW.skip (h e H he hH)
theorem SX.block {id : Nat} {c : Code} (h : SX cx H0 I ro n .normal (.code c :: .blk id :: s) L M K) : SX cx H0 I ro n .normal (.code (.block id c) :: s) L M K := fun e H he hH => EW.block (h e H he hH)
theorem SX.endblk {id : Nat} (h : SX cx H0 I ro n .normal s L M K) : SX cx H0 I ro n .normal (.blk id :: s) L M K := h
theorem SX.exit {id : Nat} {s' : List Fr} (hp : popTo id s = some s') (h : SX cx H0 I ro n .normal s' L M K) : SX cx H0 I ro n .normal (.code (.exit id) :: s) L M K := fun e H he hH => EW.exit (popTo_ok hp (h e H he hH))
theorem SX.ret (h : SX cx H0 I ro n .ret [] L M K) : SX cx H0 I ro n .normal (.code .ret :: s) L M K := fun e H he hH => EW.ret (ret_ok (h e H he hH))
theorem SX.cond {c : Operand} {a b : Code} {t : Bool} (hc : sx cx L c = some (.p (.bool t))) (ha : t = true → SX cx H0 I ro n .normal (.code a :: s) L M K) (hb : t = false → SX cx H0 I ro n .normal (.code b :: s) L M K) : SX cx H0 I ro n .normal (.code (.cond c a b) :: s) L M K :=
  fun e H he hH => EW.cond (he.le c _ hc) (fun h => ha h e H he hH) (fun h => hb h e H he hH)
theorem SX.condT {c : Operand} {a b : Code} (hc : sx cx L c = some (.p (.bool true))) (ha : SX cx H0 I ro n .normal (.code a :: s) L M K) : SX cx H0 I ro n .normal (.code (.cond c a b) :: s) L M K :=
  SX.cond hc (fun _ => ha) (fun h => by cases h)
theorem SX.condF {c : Operand} {a b : Code} (hc : sx cx L c = some (.p (.bool false))) (hb : SX cx H0 I ro n .normal (.code b :: s) L M K) : SX cx H0 I ro n .normal (.code (.cond c a b) :: s) L M K :=
  SX.cond hc (fun h => by cases h) (fun _ => hb)
theorem SX.region {id : Nat} {ops : Array Oper} (h : SO cx H0 I ro n none ops.toList ops.toList s L M K) : SX cx H0 I ro n .normal (.code (.region id ops false) :: s) L M K := fun e H he hH => EW.region (h e H he hH)
theorem SX.draw {id : Nat} {ops : Array Oper} {hd tl : List Oper} (t : Nat) (ht : drawn ops.toList = some t) (h1 : frc (ops.toList.take t) = some hd) (h2 : frc (ops.toList.drop t) = some tl) (h : SO cx H0 I ro n (some tl) ops.toList hd s L M K) : SX cx H0 I ro n .normal (.code (.region id ops true) :: s) L M K := fun e H he hH => by
  rw [← frc_ok h1, ← frc_ok h2] at h
  exact EW.draw t ht (h e H he hH)
/-- What a cut asks: of some data, so much is known. -/
def At (H0 : Hp) (I : List Nat) (n : Nat) {γ : Type} (Lg : γ → SE) (Mg : γ → List Ent) (P : γ → Prop) (e : Env) (H : Hp) : Prop := ∃ g, P g ∧ Ag n (Lg g) e ∧ HA H0 I (Mg g) H
theorem SX.at {γ : Type} {Lg : γ → SE} {Mg : γ → List Ent} {P : γ → Prop} (g : γ) (hP : P g) (hs : Sub L (Lg g)) (hM : M = Mg g) : SX cx H0 I ro n .normal (.cut (At H0 I n Lg Mg P) :: s) L M K :=
  fun e H he hH => ⟨g, hP, he.sub hs, hM ▸ hH⟩
theorem SX.loop {γ : Type} {c : Code} (Lg : γ → SE) (Mg : γ → List Ent) (P : γ → Prop) (m : γ → Nat) (g0 : γ) (hP : P g0) (h0 : Sub L (Lg g0)) (hM : M = Mg g0)
    (h : ∀ g, P g → SX cx H0 I ro n .normal (.code c :: .cut (At H0 I n Lg Mg (fun g' => m g' < m g ∧ P g')) :: s) (Lg g) (Mg g) K) : SX cx H0 I ro n .normal (.code (.loop c) :: s) L M K := by
  intro e H he hH
  refine EW.loop (fun k e H => ∃ g, m g = k ∧ Ag n (Lg g) e ∧ HA H0 I (Mg g) H ∧ P g) (m g0) ⟨g0, rfl, he.sub h0, hM ▸ hH, hP⟩ ?_
  rintro k e H ⟨g, rfl, hg, hMg, hPg⟩
  refine EW.mono (h g hPg e H hg hMg) ?_
  intro x e' H' hx
  cases x with
  | normal => obtain ⟨g', ⟨h1, h4⟩, h2, h3⟩ := hx; exact ⟨m g', h1, g', rfl, h2, h3, h4⟩
  | exit id => exact hx
  | ret => exact hx
  | pan v => exact hx
/-- A piece of code up to a cut; from there on, once for all ways. -/
theorem SX.join {γ : Type} {c : Code} (Lg : γ → SE) (Mg : γ → List Ent) (P : γ → Prop) (h1 : SX cx H0 I ro n .normal (.code c :: .cut (At H0 I n Lg Mg P) :: s) L M K) (h2 : ∀ g, P g → SX cx H0 I ro n .normal s (Lg g) (Mg g) K) : SX cx H0 I ro n .normal (.code c :: s) L M K := by
  intro e H he hH
  refine EW.mono (h1 e H he hH) ?_
  intro x e' H' hx
  cases x with
  | normal => obtain ⟨g, hP, h3, h4⟩ := hx; exact h2 g hP e' H' h3 h4
  | exit id => exact hx
  | ret => exact hx
  | pan v => exact hx

theorem SO.nil (h : SX cx H0 I ro n .normal s L M K) : SO cx H0 I ro n none all [] s L M K := fun e H he hH => EO.nil (h e H he hH)
theorem SO.head (h : SO cx H0 I ro n none all r s L M K) : SO cx H0 I ro n (some r) all [] s L M K := fun e H he hH => EU.nil (h e H he hH)
theorem SO.off {d : Nat} (hw : wantS all L o = some false) (hd : o.dst = some d) (hn : Nat.blt d n = true) (h : SO cx H0 I ro n q all r s ((d, .p .undef) :: L) M K) : SO cx H0 I ro n q all (o :: r) s L M K := by
  intro e H he hH
  have h1 := h _ H (he.put hn (.p .undef)) hH
  cases q with
  | none => refine EO.off (he.want hw) ?_; rw [hd]; exact h1
  | some t => refine EU.off (he.want hw) ?_; rw [hd]; exact h1
theorem SO.on {b : Bool} {d : Nat} (hw : wantS all L o = some b) (hd : o.dst = some d) (hn : Nat.blt d n = true) (h1 : b = true → wantS all L o = some true → SO cx H0 I ro n q all (o :: r) s L M K)
    (h0 : b = false → SO cx H0 I ro n q all r s ((d, .p .undef) :: L) M K) : SO cx H0 I ro n q all (o :: r) s L M K := by
  cases b with
  | true => exact h1 rfl hw
  | false => exact SO.off hw hd hn (h0 rfl)

/-- An operation that only looks; or makes a new object. -/
theorem SO.any {d : Nat} (R : V → List Ent → Prop) (hw : wantS all L o = some true) (hd : o.dst = some d) (hn : Nat.blt d n = true)
    (h : ∀ H, HA H0 I M H → ∃ v H' M', (∀ call lo, (lo = H.low ∨ lo = H.next) → evG cx (sx cx L) call o.op { H with low := lo } = some (.ok v { H' with low := lo })) ∧ HA H0 I M' H' ∧ R v M')
    (k : ∀ v M', R v M' → SO cx H0 I ro n q all r s ((d, v) :: L) M' K) : SO cx H0 I ro n q all (o :: r) s L M K := by
  intro e H he hH
  obtain ⟨v, H', M', h1, hH', hR⟩ := h H hH
  have h4 := k v M' hR _ H' (he.put hn v) hH'
  have h2 : ∀ call lo, (lo = H.low ∨ lo = H.next) → evOp cx call o e { H with low := lo } = some (.ok v { H' with low := lo }) := fun call lo hlo => by rw [evG_eq]; exact LeEv.op he.le (h1 call lo hlo)
  have hlow : H'.low = H.low := by
    obtain ⟨f, hf⟩ := hH; obtain ⟨f', hf'⟩ := hH'
    rw [hf'.low, hf.low]
  have h3 : ({ H' with low := H.low } : Hp) = H' := by rw [← hlow]
  cases q with
  | none =>
    refine EO.one H' v (he.want hw) (fun call => ?_) ?_
    · have := h2 call H.low (.inl rfl); rw [h3] at this; exact this
    · rw [hd]; exact h4
  | some t =>
    refine EU.one { H' with low := H.next } v (he.want hw) (fun call => h2 call H.next (.inr rfl)) ?_
    show EU cx all r (putD e o.dst v) { H' with low := H.low } _
    rw [h3, hd]; exact h4
/-- An operation that hangs on no heap. -/
theorem SO.p' {d : Nat} (hw : wantS all L o = some true) (hd : o.dst = some d) (hn : Nat.blt d n = true) (h : ∀ call H, evG cx (sx cx L) call o.op H = some (.ok v H)) (k : SO cx H0 I ro n q all r s ((d, v) :: L) M K) : SO cx H0 I ro n q all (o :: r) s L M K :=
  SO.any (fun u M' => u = v ∧ M' = M) hw hd hn (fun H hH => ⟨v, H, M, fun call lo _ => h call _, hH, rfl, rfl⟩) (by rintro u M' ⟨rfl, rfl⟩; exact k)
theorem SO.p {d : Nat} (hd : okS n all L o = some d) (h : ∀ call H, evG cx (sx cx L) call o.op H = some (.ok v H)) (k : SO cx H0 I ro n q all r s ((d, v) :: L) M K) : SO cx H0 I ro n q all (o :: r) s L M K :=
  SO.p' (okS_ok hd).1 (okS_ok hd).2.1 (okS_ok hd).2.2 h k
/-- A new variable. -/
theorem SO.nw {d : Nat} {cs0 cs : List V} {M' : Nat → List Ent} (hd : okS n all L o = some d) (h : ∀ call H, evG cx (sx cx L) call o.op H = some (.ok (.ref H.next 0) (H.new (.ref cs0)))) (hcs : frc cs0 = some cs) (hM : ∀ p, frc (M ++ [.ob p (.ref cs)]) = some (M' p))
    (k : ∀ p, SO cx H0 I ro n q all r s ((d, .ref p 0) :: L) (M' p) K) : SO cx H0 I ro n q all (o :: r) s L M K := by
  have hcs := frc_ok hcs
  subst hcs
  refine SO.any (fun u M' => ∃ p, u = .ref p 0 ∧ M' = M ++ [.ob p (.ref cs0)]) (okS_ok hd).1 (okS_ok hd).2.1 (okS_ok hd).2.2 (fun H hH => ?_) (by rintro u _ ⟨p, rfl, rfl⟩; rw [frc_ok (hM p)]; exact k p)
  obtain ⟨f, hf⟩ := hH
  refine ⟨.ref H.next 0, H.new (.ref cs0), M ++ [.ob H.next (.ref cs0)], fun call lo _ => h call _, ?_, H.next, rfl, rfl⟩
  exact hf.add (some H.next) (fun i hi => by simp only [Hp.new]; rw [if_neg (by omega)]) rfl (Nat.le_succ _) ⟨rfl, by simp [Hp.new]⟩ (.inr ⟨_, rfl, Nat.le_refl _, Nat.lt_succ_self _⟩)
/-- What lies at a place. -/
theorem SO.ld (i : Nat) {d : Nat} {t : TypeId} {x : Operand} {p off : Nat} {cs : List V} (ho : o.op = .load t x) (hd : okS n all L o = some d) (hx : sx cx L x = some (.ref p off)) (hi : M[i]? = some (.ob p (.ref cs)))
    (hv : loadF cx t (cut cs off) = some v) (k : SO cx H0 I ro n q all r s ((d, v) :: L) M K) : SO cx H0 I ro n q all (o :: r) s L M K :=
  have hv := loadF_ok hv
  SO.any (fun u M' => u = v ∧ M' = M) (okS_ok hd).1 (okS_ok hd).2.1 (okS_ok hd).2.2 (fun H hH => by
    refine ⟨v, H, M, fun call lo _ => ?_, hH, rfl, rfl⟩
    obtain ⟨f, hf⟩ := hH
    have h1 : H.obj p = .ref cs := (hf.ent i _ hi).2
    have h0 : readAt { H with low := lo } (.ref p off) = cut cs off := by
      funext j; simp only [readAt, h1]
    simp only [ho, evG, hx]
    have : evLoad cx t (.ref p off) { H with low := lo } = some v := by rw [evLoad_eq, h0]; exact hv
    rw [this])
    (by rintro u M' ⟨rfl, rfl⟩; exact k)
/-- Any operation that calls nothing, with what it makes of the heap. -/
theorem SO.w {d : Nat} (R : V → List Ent → Prop) (hd : okS n all L o = some d) (h : ∀ H, HA H0 I M H → ∃ v H' M', (∀ call, evG cx (sx cx L) call o.op H = some (.ok v H')) ∧ HA H0 I M' H' ∧ R v M')
    (k : ∀ v M', R v M' → SO cx H0 I ro n none all r s ((d, v) :: L) M' K) : SO cx H0 I ro n none all (o :: r) s L M K := by
  intro e H he hH
  obtain ⟨v, H', M', h1, hH', hR⟩ := h H hH
  refine EO.one H' v (he.want (okS_ok hd).1) (fun call => ?_) ?_
  · rw [evG_eq]; exact LeEv.op he.le (h1 call)
  · rw [(okS_ok hd).2.1]; exact k v M' hR _ H' (he.put (okS_ok hd).2.2 v) hH'
theorem SO.w0 (R : List Ent → Prop) (hd : okN all L o = true) (h : ∀ H, HA H0 I M H → ∃ v H' M', (∀ call, evG cx (sx cx L) call o.op H = some (.ok v H')) ∧ HA H0 I M' H' ∧ R M')
    (k : ∀ M', R M' → SO cx H0 I ro n none all r s L M' K) : SO cx H0 I ro n none all (o :: r) s L M K := by
  intro e H he hH
  obtain ⟨v, H', M', h1, hH', hR⟩ := h H hH
  refine EO.one H' v (he.want (okN_ok hd).1) (fun call => ?_) ?_
  · rw [evG_eq]; exact LeEv.op he.le (h1 call)
  · rw [(okN_ok hd).2]; exact k M' hR _ H' he hH'
/-- A store into a variable. -/
theorem SO.st (i : Nat) {t : TypeId} {x y : Operand} {p off : Nat} {cs vs cs' : List V} {dt : TY} (ho : o.op = .store t x y) (hd : okN all L o = true) (hx : sx cx L x = some (.ref p off)) (hy : sx cx L y = some v) (hi : M[i]? = some (.ob p (.ref cs)))
    (ht : cx.ty t = some dt) (hvs : frc v.cells = some vs) (h1 : (Nat.beq vs.length dt.size && vs.all V.cell && Nat.ble (off + vs.length) cs.length) = true) (hc : frc (over cs off vs) = some cs') {M' : List Ent} (hM : frc (M.set i (.ob p (.ref cs'))) = some M') (k : SO cx H0 I ro n none all r s L M' K) : SO cx H0 I ro n none all (o :: r) s L M K :=
  have hvs := frc_ok hvs
  have hc := frc_ok hc
  have hM := frc_ok hM
  SO.w0 (fun M' => M' = M.set i (.ob p (.ref cs'))) hd (fun H hH => by
    obtain ⟨f, hf⟩ := hH
    obtain ⟨hfi, h3⟩ := hf.ent i _ hi
    obtain ⟨hl, hnx, _⟩ := hf.rng i p hfi
    subst hc; subst hvs
    simp only [Bool.and_eq_true] at h1
    obtain ⟨⟨ha, hb⟩, hc⟩ := h1
    have ha := Nat.eq_of_beq_eq_true ha
    have hc := Nat.le_of_ble_eq_true hc
    refine ⟨.p .undef, H.set p (.ref (over cs off v.cells)), _, fun call => ?_, ?_, rfl⟩
    · have : writeAt H (.ref p off) v.cells = some (H.set p (.ref (over cs off v.cells))) := by
        simp only [writeAt, h3, if_pos hc]; rw [if_neg (by omega)]
      simp only [ho, evG, hx, hy, ht, ha, hb, and_self, if_true, this]
    · exact hf.chg (HAf.mem hi) (some p) (fun j hj hne => by simp only [Hp.set]; rw [if_neg (fun h => hne (by rw [h]; exact hfi))]) rfl (Nat.le_refl _) ⟨rfl, by simp [Hp.set]⟩ (.inl hfi.symm))
    (by rintro _ rfl; rw [hM]; exact k)
theorem SO.pan (hw : wantS all L o = some true) (h : ∀ call H, evG cx (sx cx L) call o.op H = some (.pan v H)) (k : ∀ e H, HA H0 I M H → K (.pan v) e H) : SO cx H0 I ro n none all (o :: r) s L M K := by
  intro e H he hH
  refine EO.op (he.want hw) ⟨_, ⟨0, fun m _ => by rw [evG_eq]; exact LeEv.op he.le (h _ H)⟩, ?_⟩
  exact pan_ok (k e H hH)
end
end Go.Ev
