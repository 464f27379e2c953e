/- Regions that draw their order: the check on the text, and the list of environments and heaps. -/
import Derived.Test.YtejeplcandhgdaaDoorEvT
import Derived.Orders
set_option linter.unusedVariables false
set_option linter.unusedSimpArgs false
namespace Go.Ev

/-- For every operation, the ones that come before it whatever is drawn (bits). -/
def maskOf (bs : List Nat) (o : Oper) : Nat := o.after.toList.foldl (fun m e => if Region.binds .any e then m ||| (1 <<< e.on) ||| bs.getD e.on 0 else m) 0
def masks (ops : List Oper) : List Nat := ops.foldl (fun bs o => bs ++ [maskOf bs o]) []

def befOk (ops : List Oper) (bs : List Nat) (j : Nat) (o : Oper) : Bool :=
  (o.after.toList.all fun e => !Region.binds .any e || decide (e.on < j)) &&
  (List.range j).all fun i => !(bs.getD j 0).testBit i || o.after.toList.any fun e => Region.binds .any e && (e.on == i || (decide (i < e.on) && (bs.getD e.on 0).testBit i))
def readOk (ops : List Oper) (bs : List Nat) (t j : Nat) (o : Oper) : Bool :=
  (List.range t).all fun i => i == j || (match ops[i]? with
    | none => true
    | some oi => (match oi.dst with
      | none => true
      | some d => o.dst != some d && (!(o.looksAt ops.toArray).contains d || (if i < j then (bs.getD j 0).testBit i else (bs.getD i 0).testBit j))))
def tailOk (bs : List Nat) (j : Nat) : Bool := (List.range j).all fun i => (bs.getD j 0).testBit i
def drawOk (ops : List Oper) (bs : List Nat) (t : Nat) : Bool :=
  decide (t ≤ ops.length) && (List.range ops.length).all fun j => match ops[j]? with
    | none => true
    | some o => befOk ops bs j o && (if t ≤ j then tailOk bs j else readOk ops bs t j o)
def tailFrom (bs : List Nat) : Nat → Nat
  | 0 => 0
  | n + 1 => if bs.getD n 0 == 2 ^ n - 1 then tailFrom bs n else n + 1
/-- Where the end begins that no draw changes. -/
def drawn (ops : List Oper) : Option Nat :=
  let bs := masks ops
  let t := tailFrom bs ops.length
  if drawOk ops bs t then some t else none

section
variable {ops : Array Oper} {bs : List Nat} {t : Nat}

structure DrawnOK (ops : Array Oper) (bs : List Nat) (t : Nat) : Prop where
  le : t ≤ ops.size
  low : ∀ j o, ops[j]? = some o → ∀ e ∈ o.after, Region.binds .any e = true → e.on < j
  bef : ∀ j o i, ops[j]? = some o → i < j → (bs.getD j 0).testBit i = true → ∃ e ∈ o.after, Region.binds .any e = true ∧ (e.on = i ∨ (i < e.on ∧ (bs.getD e.on 0).testBit i = true))
  tail : ∀ j i, j < ops.size → t ≤ j → i < j → (bs.getD j 0).testBit i = true
  one : ∀ i j oi oj d, ops[i]? = some oi → ops[j]? = some oj → i < t → j < t → i ≠ j → oi.dst = some d → oj.dst ≠ some d
  read : ∀ i j oi oj d, ops[i]? = some oi → ops[j]? = some oj → i < t → j < t → i ≠ j → oi.dst = some d → d ∈ oj.looksAt ops → if i < j then (bs.getD j 0).testBit i = true else (bs.getD i 0).testBit j = true

theorem drawn_ok (h : drawn ops.toList = some t) : DrawnOK ops (masks ops.toList) t := by
  unfold drawn at h
  simp only at h
  split at h
  · rename_i hd
    cases h
    generalize tailFrom (masks ops.toList) ops.toList.length = t at hd
    simp only [drawOk, Bool.and_eq_true, decide_eq_true_eq, List.all_eq_true, List.mem_range] at hd
    obtain ⟨hle, hd⟩ := hd
    have hle' : t ≤ ops.size := by simpa using hle
    have get : ∀ j o, ops[j]? = some o → befOk ops.toList (masks ops.toList) j o = true ∧ (if t ≤ j then tailOk (masks ops.toList) j else readOk ops.toList (masks ops.toList) t j o) = true := by
      intro j o hj
      have hlt : j < ops.size := (Array.getElem?_eq_some_iff.1 hj).1
      have := hd j (by simpa using hlt)
      rw [show ops.toList[j]? = some o by simpa using hj] at this
      simpa using this
    refine ⟨hle', ?_, ?_, ?_, ?_, ?_⟩
    · intro j o hj e he hb
      have h1 := (get j o hj).1
      simp only [befOk, Bool.and_eq_true, List.all_eq_true] at h1
      have := h1.1 e (by simpa using he)
      simpa [hb] using this
    · intro j o i hj hi hbit
      have h1 := (get j o hj).1
      simp only [befOk, Bool.and_eq_true, List.all_eq_true] at h1
      have h2 := h1.2 i (by simpa using hi)
      simp only [hbit, Bool.not_true, Bool.false_or, List.any_eq_true, Bool.and_eq_true, Bool.or_eq_true, beq_iff_eq, decide_eq_true_eq] at h2
      obtain ⟨e, he, hb, h3⟩ := h2
      exact ⟨e, by simpa using he, hb, h3⟩
    · intro j i hj ht hi
      have h1 := (get j ops[j] (by simp [hj])).2
      rw [if_pos ht] at h1
      simp only [tailOk, List.all_eq_true, List.mem_range] at h1
      exact h1 i hi
    · intro i j oi oj d hi hj hit hjt hij hd
      have h1 := (get j oj hj).2
      rw [if_neg (by omega)] at h1
      simp only [readOk, List.all_eq_true, List.mem_range] at h1
      have h2 := h1 i hit
      rw [show ops.toList[i]? = some oi by simpa using hi] at h2
      simp only [hd, hij, beq_iff_eq, Bool.or_eq_true, false_or, Bool.and_eq_true, bne_iff_ne, ne_eq, beq_eq_false_iff_ne] at h2
      exact h2.1
    · intro i j oi oj d hi hj hit hjt hij hd hlook
      have h1 := (get j oj hj).2
      rw [if_neg (by omega)] at h1
      simp only [readOk, List.all_eq_true, List.mem_range] at h1
      have h2 := h1 i hit
      rw [show ops.toList[i]? = some oi by simpa using hi] at h2
      simp only [hd, hij, beq_iff_eq, Bool.or_eq_true, false_or, Bool.and_eq_true, bne_iff_ne, ne_eq] at h2
      have h3 := h2.2
      rw [show (oj.looksAt ops.toList.toArray).contains d = true by simpa using hlook] at h3
      simp only [Bool.not_true, Bool.false_eq_true, false_or] at h3
      split <;> rename_i hlt
      · rw [if_pos hlt] at h3; exact h3
      · rw [if_neg hlt] at h3; exact h3
  · cases h

/-- What is listed holds what comes before it. -/
def Closed (ops : Array Oper) (listed : Array Bool) : Prop := ∀ j oj, ops[j]? = some oj → listed.getD j false = true → ∀ e ∈ oj.after, Region.binds .any e = true → listed.getD e.on false = true

theorem bef_of (hd : DrawnOK ops bs t) {listed : Array Bool} (hc : Closed ops listed) : ∀ (j : Nat) {o : Oper}, ops[j]? = some o → (∀ e ∈ o.after, Region.binds .any e = true → listed.getD e.on false = true) →
    ∀ i, i < j → (bs.getD j 0).testBit i = true → listed.getD i false = true := by
  intro j
  induction j using Nat.strongRecOn with
  | _ j ih =>
    intro o ho hall i hij hbit
    obtain ⟨e, he, hb, h⟩ := hd.bef j o i ho hij hbit
    have hl := hall e he hb
    rcases h with h | h
    · rw [← h]; exact hl
    · have hlt := hd.low j o ho e he hb
      have hjs : j < ops.size := (Array.getElem?_eq_some_iff.1 ho).1
      have hoe : ops[e.on]? = some ops[e.on] := by simp [Nat.lt_trans hlt hjs]
      exact ih e.on hlt hoe (fun e' he' hb' => hc e.on _ hoe hl e' he' hb') i h.1 h.2
end
end Go.Ev
