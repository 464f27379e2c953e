/- The plain law of mutants: each may be, and differs from the table in one row. -/
import Derived.Test.YtejeplcandhgdaaDoorPb
set_option linter.unusedVariables false
set_option linter.unusedSimpArgs false
namespace Go.Ev

theorem checkGo_zero : ∀ (l : List RowL) (i : Nat), (checkGo i l).2 = 0 → ∀ k (h : k < l.length), rowRight l[k] = true ∧ rowSuits (i + k) l[k] = true
  | [], i, h, k, hk => by simp at hk
  | r :: rest, i, h, k, hk => by
    simp only [checkGo] at h
    split at h
    · simp at h
    · rename_i h1
      split at h
      · simp at h
      · rename_i h2
        cases k with
        | zero => simp at h1 h2; simpa using ⟨h1, h2⟩
        | succ k =>
          have := checkGo_zero rest (i + 1) h k (by simpa using hk)
          rw [show i + 1 + k = i + (k + 1) by omega] at this
          simpa using this
theorem checkGo_of : ∀ (l : List RowL) (i : Nat), (∀ k (h : k < l.length), rowRight l[k] = true ∧ rowSuits (i + k) l[k] = true) → checkGo i l = (0, 0)
  | [], i, h => rfl
  | r :: rest, i, h => by
    have h0 := h 0 (by simp)
    simp at h0
    simp only [checkGo, h0.1, h0.2]
    simp
    exact checkGo_of rest (i + 1) (fun k hk => by
      have := h (k + 1) (by simpa using hk)
      rw [show i + (k + 1) = i + 1 + k by omega] at this
      simpa using this)
theorem check_zero {t : List RowL} (h : (checkF t).2 = 0) : t.length = 13 ∧ ∀ k (hk : k < t.length), rowRight t[k] = true ∧ rowSuits k t[k] = true := by
  unfold checkF at h
  split at h
  · simp at h
  · rename_i hl
    exact ⟨by omega, fun k hk => by simpa using checkGo_zero t 0 h k hk⟩
theorem check_of {t : List RowL} (hl : t.length = 13) (h : ∀ k (hk : k < t.length), rowRight t[k] = true ∧ rowSuits k t[k] = true) : checkF t = (0, 0) := by
  unfold checkF
  rw [if_neg (by omega)]
  exact checkGo_of t 0 (fun k hk => by simpa using h k hk)
theorem rightF_made {l : List Int} {s : Bool} : rightF l s = true ↔ made l = (s, true) := by
  unfold rightF
  cases hm : made l with
  | mk a b => cases a <;> cases b <;> cases s <;> simp
theorem rowRight_made {r : RowL} (h : rowRight r = true) : made r.may = (false, true) ∧ made r.res = (true, true) ∧ made r.pc = (true, true) := by
  unfold rowRight at h
  simp only [Bool.and_eq_true, rightF_made] at h
  exact ⟨h.1.1, h.1.2, h.2⟩

theorem mem_it3 {op which : Nat} {l : List Int} {j : Nat} (hj : j ≤ (weakerF l).length) {x : Item} (h : x ∈ it3 op which l j) : x.op = op ∧ x.which = which ∧ x.w ∈ weakerF l := by
  simp only [it3, List.mem_map, List.mem_range] at h
  obtain ⟨n, hn, rfl⟩ := h
  refine ⟨rfl, rfl, ?_⟩
  simp only
  rw [getD_lt (by omega)]
  exact List.getElem_mem _
theorem mem_it1 {t : List RowL} {x : Item} {i : Nat} (h : x ∈ it1 t i) : x.op < i ∧ x.which < 3 ∧ x.w ∈ weakerF ((rulesF (t.getD x.op row0)).getD x.which []) := by
  simp only [it1, List.mem_flatten, List.mem_map, List.mem_range] at h
  obtain ⟨_, ⟨op, hop, rfl⟩, h⟩ := h
  simp only [it2, List.mem_flatten, List.mem_map, List.mem_range] at h
  obtain ⟨_, ⟨w, hw, rfl⟩, h⟩ := h
  obtain ⟨h1, h2, h3⟩ := mem_it3 (Nat.le_refl _) h
  rw [h1, h2]
  exact ⟨hop, hw, h3⟩
theorem len_it2 (op : Nat) (r : RowL) (hr : ∀ l ∈ rulesF r, l.length ≤ 45) (k : Nat) (hk : k ≤ 3) : (it2 op r k).length ≤ k * 91 := by
  induction k with
  | zero => simp [it2]
  | succ k ih =>
    rw [it2_succ, List.length_append]
    have h1 := ih (by omega)
    have hk3 : k < (rulesF r).length := by show k < 3; omega
    have h2 : (it3 op k ((rulesF r).getD k []) (weakerF ((rulesF r).getD k [])).length).length = (weakerF ((rulesF r).getD k [])).length := by simp [it3]
    have h3 := weakerF_len ((rulesF r).getD k [])
    have h4 : ((rulesF r).getD k []).length ≤ 45 := by rw [getD_lt hk3]; exact hr _ (List.getElem_mem _)
    omega
theorem len_it1 (t : List RowL) (hr : ∀ r ∈ t, ∀ l ∈ rulesF r, l.length ≤ 45) (i : Nat) (hi : i ≤ t.length) : (it1 t i).length ≤ i * 273 := by
  induction i with
  | zero => simp [it1]
  | succ i ih =>
    rw [it1_succ, List.length_append]
    have h1 := ih (by omega)
    have h2 := len_it2 i (t.getD i row0) (by rw [getD_lt (show i < t.length by omega)]; exact hr _ (List.getElem_mem _)) 3 (Nat.le_refl _)
    omega

theorem few_rows (t : List RowL) : ∀ r ∈ fewT t, ∀ l ∈ rulesF r, l.length ≤ 45 := by
  intro r hr l hl
  simp only [fewT, List.mem_map] at hr
  obtain ⟨r0, _, rfl⟩ := hr
  simp only [rulesF, fewR, List.mem_cons, List.not_mem_nil, or_false] at hl
  rcases hl with rfl | rfl | rfl <;> simp <;> omega
theorem few_len (t : List RowL) : (fewT t).length ≤ 15 := by simp [fewT]; omega
theorem rowOk_of {r : RowL} (h : ∀ l ∈ rulesF r, l.length ≤ 45) : rowOk r :=
  ⟨Nat.lt_of_le_of_lt (h r.may (by simp [rulesF])) (by decide), Nat.lt_of_le_of_lt (h r.res (by simp [rulesF])) (by decide), Nat.lt_of_le_of_lt (h r.pc (by simp [rulesF])) (by decide)⟩
/-- What the walk of 'All' wants. -/
theorem few_ok (t : List RowL) (h : (checkF (fewT t)).2 = 0) : (it1 (fewT t) (fewT t).length).length < 1099511627 ∧ ∀ r ∈ fewT t, ∀ l ∈ rulesF r, ruleOk l := by
  refine ⟨?_, fun r hr l hl => ?_⟩
  · have h1 := len_it1 (fewT t) (few_rows t) (fewT t).length (Nat.le_refl _)
    have h2 := few_len t
    omega
  · obtain ⟨_, h2⟩ := check_zero h
    obtain ⟨k, hk, rfl⟩ := List.getElem_of_mem hr
    obtain ⟨h3, h4, h5⟩ := rowRight_made (h2 k hk).1
    have h6 := few_rows t _ hr l hl
    refine ⟨by omega, ?_⟩
    simp only [rulesF, List.mem_cons, List.not_mem_nil, or_false] at hl
    rcases hl with rfl | rfl | rfl
    · exact right_segsOk h3
    · exact right_segsOk h4
    · exact right_segsOk h5

/-- A row with a weaker rule. -/
theorem set_row {op : Nat} {r : RowL} (h1 : rowRight r = true) (h2 : rowSuits op r = true) {which : Nat} (hw : which < 3) {w : List Int} (hmem : w ∈ weakerF ((rulesF r).getD which [])) :
    rowRight (setF r which w) = true ∧ rowSuits op (setF r which w) = true ∧ setF r which w ≠ r ∧ w.length ≤ 40 := by
  obtain ⟨m1, m2, m3⟩ := rowRight_made h1
  unfold rowSuits at h2
  simp only [Bool.and_eq_true] at h2
  obtain ⟨⟨s1, s2⟩, s3⟩ := h2
  match which, hw with
  | 0, _ =>
    have hk := weak_ok m1 w hmem
    refine ⟨?_, ?_, fun hh => hk.ne (congrArg RowL.may hh), (made_run hk.made).2⟩
    · simp only [rowRight, setF, Bool.and_eq_true, rightF_made]; exact ⟨⟨hk.made, m2⟩, m3⟩
    · simp only [rowSuits, setF, Bool.and_eq_true]; exact ⟨⟨has_mono s1 (by rw [hk.made]) hk.mem, s2⟩, s3⟩
  | 1, _ =>
    have hk := weak_ok m2 w hmem
    refine ⟨?_, ?_, fun hh => hk.ne (congrArg RowL.res hh), (made_run hk.made).2⟩
    · simp only [rowRight, setF, Bool.and_eq_true, rightF_made]; exact ⟨⟨m1, hk.made⟩, m3⟩
    · simp only [rowSuits, setF, Bool.and_eq_true]; exact ⟨⟨s1, has_mono s2 (by rw [hk.made]) hk.mem⟩, s3⟩
  | 2, _ =>
    have hk := weak_ok m3 w hmem
    refine ⟨?_, ?_, fun hh => hk.ne (congrArg RowL.pc hh), (made_run hk.made).2⟩
    · simp only [rowRight, setF, Bool.and_eq_true, rightF_made]; exact ⟨⟨m1, m2⟩, hk.made⟩
    · simp only [rowSuits, setF, Bool.and_eq_true]; exact ⟨⟨s1, s2⟩, has_mono s3 (by rw [hk.made]) hk.mem⟩
/-- A mutant: where it differs. -/
structure Mut (t m : List RowL) : Prop where
  len : m.length = t.length
  check : checkF m = (0, 0)
  ok : ∀ r ∈ m, rowOk r
  one : ∃ op, op < t.length ∧ ∀ k (h1 : k < m.length) (h2 : k < t.length), m[k] = t[k] ↔ k ≠ op
theorem mutant_ok (t0 : List RowL) (h : (checkF (fewT t0)).2 = 0) : ∀ m ∈ mutants (fewT t0), Mut (fewT t0) m := by
  intro m hm
  have hrows := few_rows t0
  generalize fewT t0 = t at h hm hrows ⊢
  simp only [mutants, List.mem_map] at hm
  obtain ⟨x, hx, rfl⟩ := hm
  obtain ⟨hop, hwh, hmem⟩ := mem_it1 hx
  obtain ⟨hl, hall⟩ := check_zero h
  rw [getD_lt hop] at hmem
  obtain ⟨c1, c2⟩ := hall _ hop
  obtain ⟨r1, r2, r3, r4⟩ := set_row c1 c2 hwh hmem
  have hmut : mutate t x = t.set x.op (setF t[x.op] x.which x.w) := by rw [mutate, getD_lt hop]
  rw [hmut]
  refine ⟨by simp, check_of (by simpa using hl) (fun k hk => ?_), fun r hr => ?_, x.op, hop, fun k h1 h2 => ?_⟩
  · by_cases hko : x.op = k
    · subst hko; simp only [List.getElem_set_self]; exact ⟨r1, r2⟩
    · rw [List.getElem_set_ne hko]; exact hall k (by simpa using hk)
  · rcases List.mem_or_eq_of_mem_set hr with h1 | rfl
    · exact rowOk_of (hrows r h1)
    · apply rowOk_of
      have h5 := hrows _ (List.getElem_mem hop)
      intro l hl
      match hwx : x.which, hwh with
      | 0, _ =>
        rw [hwx] at hl
        simp only [rulesF, setF, List.mem_cons, List.not_mem_nil, or_false] at hl h5
        rcases hl with rfl | rfl | rfl
        · omega
        · exact h5 _ (by simp)
        · exact h5 _ (by simp)
      | 1, _ =>
        rw [hwx] at hl
        simp only [rulesF, setF, List.mem_cons, List.not_mem_nil, or_false] at hl h5
        rcases hl with rfl | rfl | rfl
        · exact h5 _ (by simp)
        · omega
        · exact h5 _ (by simp)
      | 2, _ =>
        rw [hwx] at hl
        simp only [rulesF, setF, List.mem_cons, List.not_mem_nil, or_false] at hl h5
        rcases hl with rfl | rfl | rfl
        · exact h5 _ (by simp)
        · exact h5 _ (by simp)
        · omega
  · by_cases hko : x.op = k
    · subst hko; simp [r3]
    · rw [List.getElem_set_ne hko]; simp; exact fun h => hko h.symm
end Go.Ev
