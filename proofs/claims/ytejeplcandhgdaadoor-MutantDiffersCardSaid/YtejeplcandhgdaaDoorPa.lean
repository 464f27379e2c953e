/- The plain law of rules: what is weaker is made as what it is weaker than. -/
import Derived.Test.YtejeplcandhgdaaDoorMi
set_option linter.unusedVariables false
set_option linter.unusedSimpArgs false
namespace Go.Ev

inductive Wf : Bool → List Int → Prop
  | c0 {x : Int} (h : x = 1 ∨ x = 2) : Wf false [x]
  | l0 {x : Int} (h : x = 6 ∨ x = 7 ∨ x = 8 ∨ x = 9 ∨ x = 10 ∨ x = 11) : Wf true [x]
  | c2 {x : Int} {a b : List Int} (h : x = 3 ∨ x = 4) (ha : Wf false a) (hb : Wf false b) : Wf false (a ++ b ++ [x])
  | fl {a b : List Int} (ha : Wf true a) (hb : Wf true b) : Wf false (a ++ b ++ [5])
  | l2 {x : Int} {a b : List Int} (h : x = 12 ∨ x = 13) (ha : Wf true a) (hb : Wf true b) : Wf true (a ++ b ++ [x])
theorem Wf.pos {s : Bool} {l : List Int} (h : Wf s l) : 0 < l.length := by cases h <;> simp <;> omega
theorem takeL_two (p : List Bool) (b : Bool) : takeL (p ++ [b] ++ [b]) b = (true, p) := by
  unfold takeL
  rw [if_pos]
  · simp
  · refine ⟨by simp, ?_, ?_⟩
    · simp
    · simp [List.getElem?_append]
theorem run_wf {s : Bool} {seg : List Int} (h : Wf s seg) : ∀ (r : List Int) (p : List Bool), madeRun (seg ++ r) p = madeRun r (p ++ [s]) := by
  induction h with
  | c0 h => intro r p; rcases h with rfl | rfl <;> rfl
  | l0 h => intro r p; rcases h with rfl | rfl | rfl | rfl | rfl | rfl <;> rfl
  | c2 h ha hb iha ihb =>
    intro r p
    rename_i x a b
    rw [show a ++ b ++ [x] ++ r = a ++ (b ++ ([x] ++ r)) by simp, iha, ihb]
    have ht := takeL_two p false
    rcases h with rfl | rfl <;> simp [madeRun, madeStep, List.append_assoc] at ht ⊢ <;> simp [ht]
  | fl ha hb iha ihb =>
    intro r p
    rename_i a b
    rw [show a ++ b ++ [5] ++ r = a ++ (b ++ ([5] ++ r)) by simp, iha, ihb]
    have ht := takeL_two p true
    simp [madeRun, madeStep, List.append_assoc] at ht ⊢; simp [ht]
  | l2 h ha hb iha ihb =>
    intro r p
    rename_i x a b
    rw [show a ++ b ++ [x] ++ r = a ++ (b ++ ([x] ++ r)) by simp, iha, ihb]
    have ht := takeL_two p true
    rcases h with rfl | rfl <;> simp [madeRun, madeStep, List.append_assoc] at ht ⊢ <;> simp [ht]
/-- A pile with two of a sort on top. -/
theorem takeL_inv {l : List Bool} {of : Bool} (h : (takeL l of).1 = true) : l = (takeL l of).2 ++ [of] ++ [of] := by
  unfold takeL at h ⊢
  split at h
  · rename_i hc
    rw [if_pos hc]
    obtain ⟨h1, h2, h3⟩ := hc
    apply List.ext_getElem?
    intro i
    by_cases hi : i < l.length - 2
    · rw [List.append_assoc, List.getElem?_append_left (by simp; omega), List.getElem?_take_of_lt hi]
    · by_cases hi2 : i = l.length - 2
      · subst hi2
        rw [h3, List.append_assoc, List.getElem?_append_right (by simp)]
        simp [List.length_take, show min (l.length - 2) l.length = l.length - 2 by omega]
      · by_cases hi3 : i = l.length - 1
        · subst hi3
          rw [h2, List.getElem?_append_right (by simp; omega)]
          simp [List.length_take, show min (l.length - 2) l.length = l.length - 2 by omega, show l.length - 1 - (l.length - 2 + 1) = 0 by omega]
        · rw [List.getElem?_eq_none (by omega), List.getElem?_eq_none (by simp; omega)]
  · cases h
abbrev Seg := Bool × List Int
def pile (ss : List Seg) : List Bool := ss.map (·.1)
def text (ss : List Seg) : List Int := (ss.map (·.2)).flatten
theorem split2 {ss : List Seg} {p : List Bool} {b c : Bool} (h : pile ss = p ++ [b] ++ [c]) : ∃ pre x y, ss = pre ++ [x] ++ [y] ∧ pile pre = p ∧ x.1 = b ∧ y.1 = c := by
  unfold pile at h
  obtain ⟨u, v, rfl, hu, hv⟩ := List.map_eq_append_iff.1 h
  obtain ⟨u1, u2, rfl, hu1, hu2⟩ := List.map_eq_append_iff.1 hu
  obtain ⟨x, rfl, hx⟩ : ∃ x, u2 = [x] ∧ x.1 = b := by
    match u2, hu2 with
    | [x], h => exact ⟨x, rfl, by simpa using h⟩
  obtain ⟨y, rfl, hy⟩ : ∃ y, v = [y] ∧ y.1 = c := by
    match v, hv with
    | [y], h => exact ⟨y, rfl, by simpa using h⟩
  exact ⟨u1, x, y, rfl, hu1, hx, hy⟩
theorem text_append (a b : List Seg) : text (a ++ b) = text a ++ text b := by simp [text]
theorem pile_append (a b : List Seg) : pile (a ++ b) = pile a ++ pile b := by simp [pile]
theorem parse : ∀ (l : List Int) (ss : List Seg) (q : List Bool), (∀ s ∈ ss, Wf s.1 s.2) → madeRun l (pile ss) = some q → ∃ ss', text ss' = text ss ++ l ∧ pile ss' = q ∧ ∀ s ∈ ss', Wf s.1 s.2
  | [], ss, q, hw, h => by simp [madeRun] at h; exact ⟨ss, by simp, h, hw⟩
  | x :: r, ss, q, hw, h => by
    simp only [madeRun] at h
    split at h
    · rename_i hok
      have one : ∀ (b : Bool), Wf b [x] → (madeStep (pile ss) x).2 = pile ss ++ [b] → ∃ ss', text ss' = text ss ++ x :: r ∧ pile ss' = q ∧ ∀ s ∈ ss', Wf s.1 s.2 := by
        intro b hb hp
        rw [hp] at h
        have h' : madeRun r (pile (ss ++ [(b, [x])])) = some q := by rw [pile_append]; exact h
        obtain ⟨ss', h1, h2, h3⟩ := parse r (ss ++ [(b, [x])]) q (fun s hs => by
          rcases List.mem_append.1 hs with h | h
          · exact hw s h
          · simp at h; subst h; exact hb) h'
        exact ⟨ss', by rw [h1, text_append]; simp [text], h2, h3⟩
      have two : ∀ (of b : Bool), (takeL (pile ss) of).1 = true → (madeStep (pile ss) x).2 = (takeL (pile ss) of).2 ++ [b] → (∀ a c, Wf of a → Wf of c → Wf b (a ++ c ++ [x])) → ∃ ss', text ss' = text ss ++ x :: r ∧ pile ss' = q ∧ ∀ s ∈ ss', Wf s.1 s.2 := by
        intro of b ht hp hmk
        obtain ⟨pre, ⟨sa, a⟩, ⟨sc, c⟩, hss, hpre, ha, hc⟩ := split2 (takeL_inv ht)
        simp only at ha hc
        subst ha; subst hc
        have hwa : Wf sc a := hw (sc, a) (by rw [hss]; simp)
        have hwc : Wf sc c := hw (sc, c) (by rw [hss]; simp)
        rw [hp] at h
        have h' : madeRun r (pile (pre ++ [(b, a ++ c ++ [x])])) = some q := by rw [pile_append, hpre]; exact h
        obtain ⟨ss', h1, h2, h3⟩ := parse r (pre ++ [(b, a ++ c ++ [x])]) q (fun s hs => by
          rcases List.mem_append.1 hs with h | h
          · exact hw s (by rw [hss]; simp [h])
          · rw [List.mem_singleton] at h; subst h; exact hmk a c hwa hwc) h'
        exact ⟨ss', by rw [h1, hss, text_append, text_append, text_append]; simp [text], h2, h3⟩
      by_cases c1 : x = 1 ∨ x = 2
      · exact one false (.c0 c1) (by simp [madeStep, c1])
      by_cases c6 : x = 6 ∨ x = 7 ∨ x = 8 ∨ x = 9 ∨ x = 10 ∨ x = 11
      · exact one true (.l0 c6) (by simp only [madeStep, if_neg c1, if_pos c6])
      by_cases c3 : x = 3 ∨ x = 4
      · exact two false false (by simpa only [madeStep, if_neg c1, if_neg c6, if_pos c3] using hok) (by simp only [madeStep, if_neg c1, if_neg c6, if_pos c3]) (fun a c ha hc => .c2 c3 ha hc)
      by_cases c5 : x = 5
      · exact two true false (by simpa only [madeStep, if_neg c1, if_neg c6, if_neg c3, if_pos c5] using hok) (by simp only [madeStep, if_neg c1, if_neg c6, if_neg c3, if_pos c5]) (fun a c ha hc => by subst c5; exact .fl ha hc)
      by_cases c12 : x = 12 ∨ x = 13
      · exact two true true (by simpa only [madeStep, if_neg c1, if_neg c6, if_neg c3, if_neg c5, if_pos c12] using hok) (by simp only [madeStep, if_neg c1, if_neg c6, if_neg c3, if_neg c5, if_pos c12]) (fun a c ha hc => .l2 c12 ha hc)
      · simp only [madeStep, if_neg c1, if_neg c6, if_neg c3, if_neg c5, if_neg c12] at hok
        cases hok
    · cases h
theorem run_append : ∀ (a b : List Int) (p : List Bool), madeRun (a ++ b) p = (match madeRun a p with | some q => madeRun b q | none => none)
  | [], b, p => rfl
  | x :: a, b, p => by
    simp only [List.cons_append, madeRun]
    split
    · exact run_append a b _
    · rfl
theorem run_text : ∀ (ss : List Seg) (r : List Int) (p : List Bool), (∀ s ∈ ss, Wf s.1 s.2) → madeRun (text ss ++ r) p = madeRun r (p ++ pile ss)
  | [], r, p, _ => by simp [text, pile]
  | s :: ss, r, p, h => by
    rw [show text (s :: ss) ++ r = s.2 ++ (text ss ++ r) by simp [text], run_wf (h s (by simp)), run_text ss r _ (fun t ht => h t (by simp [ht]))]
    simp [pile]
theorem startF_eq (l : List Int) (i need : Nat) : startF l i need = if nx (l.getD i 0) need = 0 then some i else if i = 0 then none else startF l (i - 1) (nx (l.getD i 0) need) := by
  cases i with
  | zero => simp [startF]
  | succ i => simp [startF]
theorem getD_at (pre seg rest : List Int) (x : Int) : (pre ++ (seg ++ [x]) ++ rest).getD (pre.length + seg.length) 0 = x := by
  simp [List.getD_eq_getElem?_getD]
theorem scan_wf {s : Bool} {seg : List Int} (h : Wf s seg) : ∀ (pre rest : List Int) (m : Nat), (m = 0 → startF (pre ++ seg ++ rest) (pre.length + seg.length - 1) (m + 1) = some pre.length) ∧
    (0 < m → 0 < pre.length → startF (pre ++ seg ++ rest) (pre.length + seg.length - 1) (m + 1) = startF (pre ++ seg ++ rest) (pre.length - 1) m) := by
  have leaf : ∀ (x : Int), isBin x = false → ∀ (pre rest : List Int) (m : Nat), (m = 0 → startF (pre ++ [x] ++ rest) (pre.length + [x].length - 1) (m + 1) = some pre.length) ∧
      (0 < m → 0 < pre.length → startF (pre ++ [x] ++ rest) (pre.length + [x].length - 1) (m + 1) = startF (pre ++ [x] ++ rest) (pre.length - 1) m) := by
    intro x hx pre rest m
    have hg : (pre ++ [x] ++ rest).getD (pre.length + [x].length - 1) 0 = x := by simp [List.getD_eq_getElem?_getD]
    rw [startF_eq, hg]
    have hn : nx x (m + 1) = m := by simp [nx, hx]
    rw [hn]
    refine ⟨fun h0 => ?_, fun h0 hp => ?_⟩
    · rw [if_pos h0]; simp
    · rw [if_neg (by omega), if_neg (show ¬ pre.length + [x].length - 1 = 0 by rw [List.length_singleton]; omega)]; simp
  have bin : ∀ (x : Int) (a b : List Int), isBin x = true → 0 < a.length → 0 < b.length → (∀ (pre rest : List Int) (m : Nat), (m = 0 → startF (pre ++ a ++ rest) (pre.length + a.length - 1) (m + 1) = some pre.length) ∧
      (0 < m → 0 < pre.length → startF (pre ++ a ++ rest) (pre.length + a.length - 1) (m + 1) = startF (pre ++ a ++ rest) (pre.length - 1) m)) → (∀ (pre rest : List Int) (m : Nat), (m = 0 → startF (pre ++ b ++ rest) (pre.length + b.length - 1) (m + 1) = some pre.length) ∧
      (0 < m → 0 < pre.length → startF (pre ++ b ++ rest) (pre.length + b.length - 1) (m + 1) = startF (pre ++ b ++ rest) (pre.length - 1) m)) → ∀ (pre rest : List Int) (m : Nat), (m = 0 → startF (pre ++ (a ++ b ++ [x]) ++ rest) (pre.length + (a ++ b ++ [x]).length - 1) (m + 1) = some pre.length) ∧
      (0 < m → 0 < pre.length → startF (pre ++ (a ++ b ++ [x]) ++ rest) (pre.length + (a ++ b ++ [x]).length - 1) (m + 1) = startF (pre ++ (a ++ b ++ [x]) ++ rest) (pre.length - 1) m) := by
    intro x a b hx ha hb iha ihb pre rest m
    have hg : (pre ++ (a ++ b ++ [x]) ++ rest).getD (pre.length + (a ++ b ++ [x]).length - 1) 0 = x := by
      have := getD_at pre (a ++ b) rest x
      rw [show pre.length + (a ++ b ++ [x]).length - 1 = pre.length + (a ++ b).length by simp; omega]
      exact this
    have hn : nx x (m + 1) = m + 1 + 1 := by simp [nx, hx]
    have h1 := (ihb (pre ++ a) ([x] ++ rest) (m + 1)).2 (by omega) (by simp; omega)
    have h2 := iha pre (b ++ ([x] ++ rest)) m
    have e1 : pre ++ a ++ b ++ ([x] ++ rest) = pre ++ (a ++ b ++ [x]) ++ rest := by simp
    have e2 : pre ++ a ++ (b ++ ([x] ++ rest)) = pre ++ (a ++ b ++ [x]) ++ rest := by simp
    rw [e1] at h1
    rw [e2] at h2
    have l1 : (pre ++ a).length + b.length - 1 = pre.length + (a ++ b ++ [x]).length - 1 - 1 := by simp; omega
    have l2 : (pre ++ a).length - 1 = pre.length + a.length - 1 := by simp
    rw [l1, l2] at h1
    rw [startF_eq, hg, hn, if_neg (by omega), if_neg (by simp only [List.length_append, List.length_singleton]; omega), h1]
    exact h2
  induction h with
  | c0 h => exact leaf _ (by rcases h with rfl | rfl <;> rfl)
  | l0 h => exact leaf _ (by rcases h with rfl | rfl | rfl | rfl | rfl | rfl <;> rfl)
  | c2 h ha hb iha ihb => exact bin _ _ _ (by rcases h with rfl | rfl <;> rfl) ha.pos hb.pos iha ihb
  | fl ha hb iha ihb => exact bin _ _ _ rfl ha.pos hb.pos iha ihb
  | l2 h ha hb iha ihb => exact bin _ _ _ (by rcases h with rfl | rfl <;> rfl) ha.pos hb.pos iha ihb
end Go.Ev
