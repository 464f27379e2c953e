/- The plain law of rules: all weaker ones. -/
import Derived.Test.YtejeplcandhgdaaDoorPa
set_option linter.unusedVariables false
set_option linter.unusedSimpArgs false
namespace Go.Ev

theorem made_run {l : List Int} {s : Bool} (h : made l = (s, true)) : madeRun l [] = some [s] ∧ l.length ≤ 40 := by
  unfold made at h
  split at h
  · rename_i b hb
    split at h
    · rename_i h40; cases h; exact ⟨hb, h40⟩
    · cases h
  · cases h
theorem made_of {l : List Int} {s : Bool} (h : madeRun l [] = some [s]) (h40 : l.length ≤ 40) : made l = (s, true) := by
  unfold made; rw [h]; simp only; rw [if_pos h40]
/-- The parts of what ends at a place. -/
theorem parts_at {l : List Int} {s : Bool} (h : madeRun l [] = some [s]) {e : Nat} (he : e < l.length) {j : Int} (hj : l.getD e 0 = j) (hjj : j = 3 ∨ j = 12) :
    ∃ (pre : List Seg) (sort : Bool) (a b rest : List Int), (∀ t ∈ pre, Wf t.1 t.2) ∧ Wf sort a ∧ Wf sort b ∧ l = text pre ++ (a ++ b ++ [j]) ++ rest ∧ Wf sort (a ++ b ++ [j]) ∧ e = (text pre).length + (a ++ b).length ∧ segs l e = some ((text pre).length + a.length, (text pre).length) := by
  have hsplit : l = l.take (e + 1) ++ l.drop (e + 1) := (List.take_append_drop _ _).symm
  rw [hsplit, run_append] at h
  cases hp : madeRun (l.take (e + 1)) [] with
  | none => rw [hp] at h; cases h
  | some q =>
    obtain ⟨ss, h1, h2, h3⟩ := parse (l.take (e + 1)) [] q (by simp) hp
    have ht : text ss = l.take (e + 1) := by simpa [text] using h1
    have hne : ss ≠ [] := by
      rintro rfl
      have := congrArg List.length ht
      simp [text] at this
      omega
    obtain ⟨pre, last, rfl⟩ : ∃ pre last, ss = pre ++ [last] := ⟨ss.dropLast, ss.getLast hne, (List.dropLast_concat_getLast hne).symm⟩
    obtain ⟨sl, seg⟩ := last
    have hw : Wf sl seg := h3 (sl, seg) (by simp)
    have hpre : ∀ t ∈ pre, Wf t.1 t.2 := fun t htt => h3 t (by simp [htt])
    rw [text_append] at ht
    have ht : text pre ++ seg = l.take (e + 1) := by simpa [text] using ht
    have hlen : (text pre).length + seg.length = e + 1 := by
      have := congrArg List.length ht
      simp at this; omega
    have hlast : ∀ (u : List Int) (x : Int), seg = u ++ [x] → x = j := by
      intro u x hu
      have h4 : (l.take (e + 1)).getD e 0 = j := by
        rw [← hj]; simp [List.getD_eq_getElem?_getD, List.getElem?_take]
      rw [← ht, hu] at h4
      have h5 : e = (text pre).length + u.length := by rw [hu] at hlen; simp at hlen; omega
      rw [h5] at h4
      simpa [List.getD_eq_getElem?_getD] using h4
    have fin : ∀ (sort : Bool) (a b : List Int), seg = a ++ b ++ [j] → Wf sort a → Wf sort b → sl = sort → ∃ (pre : List Seg) (sort : Bool) (a b rest : List Int), (∀ t ∈ pre, Wf t.1 t.2) ∧ Wf sort a ∧ Wf sort b ∧ l = text pre ++ (a ++ b ++ [j]) ++ rest ∧ Wf sort (a ++ b ++ [j]) ∧ e = (text pre).length + (a ++ b).length ∧ segs l e = some ((text pre).length + a.length, (text pre).length) := by
      intro sort a b hseg ha hb hs
      subst hs
      have hl : l = text pre ++ (a ++ b ++ [j]) ++ l.drop (e + 1) := by rw [← hseg, ht]; exact hsplit
      have he' : e = (text pre).length + (a ++ b).length := by rw [hseg] at hlen; simp at hlen ⊢; omega
      refine ⟨pre, sl, a, b, l.drop (e + 1), hpre, ha, hb, hl, by rw [← hseg]; exact hw, he', ?_⟩
      have hpa := ha.pos; have hpb := hb.pos
      have s1 := (scan_wf hb (text pre ++ a) ([j] ++ l.drop (e + 1)) 0).1 rfl
      have s2 := (scan_wf ha (text pre) (b ++ ([j] ++ l.drop (e + 1))) 0).1 rfl
      have e1 : text pre ++ a ++ b ++ ([j] ++ l.drop (e + 1)) = l := by
        conv => rhs; rw [hl]
        simp
      have e2 : text pre ++ a ++ (b ++ ([j] ++ l.drop (e + 1))) = l := by
        conv => rhs; rw [hl]
        simp
      rw [e1] at s1; rw [e2] at s2
      obtain ⟨e', rfl⟩ : ∃ e', e = e' + 1 := ⟨e - 1, by simp at he'; omega⟩
      have i1 : (text pre ++ a).length + b.length - 1 = e' := by simp at he' ⊢; omega
      rw [i1] at s1
      obtain ⟨k, hk⟩ : ∃ k, (text pre ++ a).length = k + 1 := ⟨(text pre ++ a).length - 1, by simp; omega⟩
      rw [hk] at s1
      have i2 : (text pre).length + a.length - 1 = k := by simp at hk; omega
      rw [i2] at s2
      simp only [segs, s1, s2]
      simp at hk
      rw [hk]
    cases hw with
    | c0 hx =>
      have := hlast [] _ rfl
      omega
    | l0 hx =>
      have := hlast [] _ rfl
      omega
    | @c2 x a b hx ha hb =>
      have := hlast (a ++ b) x rfl
      subst this
      exact fin false a b rfl ha hb rfl
    | @fl a b ha hb =>
      have := hlast (a ++ b) 5 rfl
      omega
    | @l2 x a b hx ha hb =>
      have := hlast (a ++ b) x rfl
      subst this
      exact fin true a b rfl ha hb rfl
theorem least_or (l : List Int) : leastOf l = (6, 12) ∨ leastOf l = (1, 3) := by unfold leastOf; split <;> simp
theorem right_segsOk {l : List Int} {s : Bool} (h : made l = (s, true)) : segsOk l := by
  intro e he hj
  obtain ⟨pre, sort, a, b, rest, _, _, _, _, _, _, hs⟩ := parts_at (made_run h).1 he hj (by rcases least_or l with h | h <;> rw [h] <;> simp)
  rw [hs]; rfl
/-- What a weaker rule is. -/
structure Weak (l : List Int) (s : Bool) (w : List Int) : Prop where
  made : made w = (s, true)
  ne : w ≠ l
  mem : ∀ x ∈ w, x ∈ l ∨ x = 1 ∨ x = 6
theorem weak_ok {l : List Int} {s : Bool} (h : made l = (s, true)) : ∀ w ∈ weakerF l, Weak l s w := by
  intro w hw
  obtain ⟨hrun, h40⟩ := made_run h
  unfold weakerF at hw
  replace hw := List.mem_append.1 hw
  rcases hw with hw | hw
  · split at hw
    · simp at hw
    · rename_i hne
      simp at hw
      subst hw
      have hs : leastOf l = if s then (6, 12) else (1, 3) := by
        unfold leastOf rightF; rw [h]; cases s <;> rfl
      rw [hs] at hne ⊢
      refine ⟨?_, fun hh => hne hh.symm, ?_⟩
      · cases s <;> rfl
      · intro x hx
        cases s <;> simp at hx <;> subst hx <;> simp
  · unfold weakGo at hw
    simp only [List.mem_flatten, List.mem_map, List.mem_range] at hw
    obtain ⟨_, ⟨e, he, rfl⟩, hw⟩ := hw
    split at hw
    · rename_i hj
      obtain ⟨pre, sort, a, b, rest, hpre, ha, hb, hl, hab, hee, hs⟩ := parts_at hrun he hj (by rcases least_or l with h | h <;> rw [h] <;> simp)
      unfold lessAt at hw
      rw [hs] at hw
      simp only [lessF] at hw
      have hpb := hb.pos; have hpa := ha.pos
      generalize hjv : (leastOf l).2 = j at *
      have t1 : l.take ((text pre).length + a.length) = text pre ++ a := by
        rw [hl]
        rw [show text pre ++ (a ++ b ++ [j]) ++ rest = (text pre ++ a) ++ (b ++ [j] ++ rest) by simp]
        rw [← List.length_append, List.take_left]
      have t2 : l.drop (e + 1) = rest := by
        have : e + 1 = (text pre ++ (a ++ b ++ [j])).length := by rw [hee]; simp; omega
        rw [this]
        conv => lhs; rw [hl]
        rw [List.drop_left]
      have t3 : l.take (text pre).length = text pre := by
        conv => lhs; rw [hl]
        rw [List.append_assoc, List.take_left]
      have t4 : (l.drop ((text pre).length + a.length)).take (e - ((text pre).length + a.length)) = b := by
        conv => lhs; rw [hl]
        rw [show text pre ++ (a ++ b ++ [j]) ++ rest = (text pre ++ a) ++ (b ++ ([j] ++ rest)) by simp]
        rw [← List.length_append, List.drop_left]
        have : e - (text pre ++ a).length = b.length := by rw [hee]; simp; omega
        rw [this, List.take_left]
      rw [t1, t2, t3, t4] at hw
      have hllen : l.length = (text pre).length + (a.length + b.length + 1) + rest.length := by
        conv => lhs; rw [hl]
        simp; omega
      have hrl : madeRun l [] = madeRun rest (pile pre ++ [sort]) := by
        conv => lhs; rw [hl]
        rw [List.append_assoc, run_text pre _ _ hpre, run_wf hab]
        simp
      rw [hrl] at hrun
      simp at hw
      rcases hw with rfl | rfl
      · refine ⟨made_of ?_ (by simp; omega), fun hh => ?_, fun x hx => .inl ?_⟩
        · rw [run_text pre _ _ hpre, run_wf ha]; simpa using hrun
        · have := congrArg List.length hh; simp at this; omega
        · rw [hl]; simp at hx ⊢; rcases hx with h | h | h <;> simp [h]
      · refine ⟨made_of ?_ (by simp; omega), fun hh => ?_, fun x hx => .inl ?_⟩
        · rw [run_text pre _ _ hpre, run_wf hb]; simpa using hrun
        · have := congrArg List.length hh; simp at this; omega
        · rw [hl]; simp at hx ⊢; rcases hx with h | h | h <;> simp [h]
    · simp at hw

/-- Bits that a rule uses. -/
theorem uses_shift (k : Nat) : ∀ (l : List Int) (a : Nat), (l.foldl (fun (a : Nat) (x : Int) => if 8 ≤ x ∧ x ≤ 11 then a ||| (1 <<< (x - 8).toNat) else a) a) >>> k = 0 ↔ a >>> k = 0 ∧ ∀ x ∈ l, 8 ≤ x ∧ x ≤ 11 → (x - 8).toNat < k
  | [], a => by simp
  | x :: r, a => by
    simp only [List.foldl_cons]
    rw [uses_shift k r]
    have hone : ∀ j, (1 <<< j) >>> k = 0 ↔ j < k := by
      intro j
      rw [Nat.shiftRight_eq_div_pow, Nat.shiftLeft_eq, Nat.one_mul, Nat.div_eq_zero_iff]
      constructor
      · rintro (h | h)
        · have := Nat.two_pow_pos k; omega
        · exact (Nat.pow_lt_pow_iff_right (by decide)).1 h
      · intro h; exact .inr ((Nat.pow_lt_pow_iff_right (by decide)).2 h)
    have hor : ∀ a b : Nat, (a ||| b) >>> k = 0 ↔ a >>> k = 0 ∧ b >>> k = 0 := by
      intro a b
      rw [Nat.shiftRight_or_distrib]
      exact Nat.or_eq_zero_iff
    by_cases hx : 8 ≤ x ∧ x ≤ 11
    · rw [if_pos hx, hor, hone]
      simp only [List.mem_cons, forall_eq_or_imp]
      constructor
      · rintro ⟨⟨h1, h2⟩, h3⟩; exact ⟨h1, fun _ => h2, h3⟩
      · rintro ⟨h1, h2, h3⟩; exact ⟨⟨h1, h2 hx⟩, h3⟩
    · rw [if_neg hx]
      simp only [List.mem_cons, forall_eq_or_imp]
      constructor
      · rintro ⟨h1, h3⟩; exact ⟨h1, fun h => absurd h hx, h3⟩
      · rintro ⟨h1, _, h3⟩; exact ⟨h1, h3⟩
theorem has_mono {op : Nat} {l w : List Int} (h : hasF op l = true) (hm : (made w).2 = true) (hw : ∀ x ∈ w, x ∈ l ∨ x = 1 ∨ x = 6) : hasF op w = true := by
  unfold hasF at h ⊢
  simp only [Bool.and_eq_true, beq_iff_eq] at h ⊢
  refine ⟨hm, ?_⟩
  unfold usesN at h ⊢
  rw [uses_shift] at h ⊢
  refine ⟨by simp, fun x hx hxx => ?_⟩
  rcases hw x hx with h1 | rfl | rfl
  · exact h.2.2 x h1 hxx
  · omega
  · omega
end Go.Ev
