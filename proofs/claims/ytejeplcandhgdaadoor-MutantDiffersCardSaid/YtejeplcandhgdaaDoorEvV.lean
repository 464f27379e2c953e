/- Regions that draw their order: environments, the list of heaps, one operation out of turn. -/
import Derived.Test.YtejeplcandhgdaaDoorEvU
set_option linter.unusedVariables false
set_option linter.unusedSimpArgs false
namespace Go.Ev

theorem gt_eq : ∀ (l : List V) (i : Nat), gt l i = l.getD i (.p .undef)
  | [], i => by simp [gt]
  | x :: r, 0 => by simp [gt]
  | x :: r, i + 1 => by simp [gt, gt_eq r i]
theorem gt_putD (e : Env) (D : Option Tmp) (d : Nat) (v : V) : gt (putD e D v) d = if D = some d ∧ d < e.length then v else gt e d := by
  cases D with
  | none => simp [putD]
  | some k =>
    simp only [putD, gt_st, Option.some.injEq]
    by_cases h : k = d
    · subst h; simp
    · have : ¬ d = k := fun h' => h h'.symm
      simp [h, this]
theorem length_putD (e : Env) (D : Option Tmp) (v : V) : (putD e D v).length = e.length := by cases D <;> simp [putD, length_st]
theorem put_getD (a : Act) (D : Option Tmp) (c : Value) (d : Nat) : (a.put D c).tmps.getD d Go.undef = if D = some d ∧ d < a.tmps.size then c else a.tmps.getD d Go.undef := by
  cases D with
  | none => simp [Act.put]
  | some k =>
    simp only [Act.put, Option.some.injEq]
    rw [Array.getD_eq_getD_getElem?, Array.getElem?_setIfInBounds]
    by_cases h : k = d
    · subst h
      by_cases hk : k < a.tmps.size
      · simp [hk]
      · simp [hk, Array.getD_eq_getD_getElem?]
    · simp [h, Array.getD_eq_getD_getElem?]

section
variable (dst : Nat → Option Tmp) (vs : Nat → V) (e0 : Env)
/-- The environment after the operations that 'S' marks. -/
def es (S : Nat → Bool) : Nat → Env
  | 0 => e0
  | k + 1 => if S k then putD (es S k) (dst k) (vs k) else es S k
theorem es_len (S : Nat → Bool) : ∀ k, (es dst vs e0 S k).length = e0.length
  | 0 => rfl
  | k + 1 => by unfold es; split <;> simp [length_putD, es_len S k]
theorem es_agree {S S' : Nat → Bool} {d : Nat} : ∀ k, (∀ i, i < k → dst i = some d → S i = S' i) → gt (es dst vs e0 S k) d = gt (es dst vs e0 S' k) d
  | 0, _ => rfl
  | k + 1, h => by
    have ih := es_agree (S := S) (S' := S') k (fun i hi => h i (by omega))
    unfold es
    by_cases hd : dst k = some d
    · rw [h k (by omega) hd]
      cases S' k
      · simpa using ih
      · simp only [if_true, gt_putD, hd, es_len, true_and]; rw [ih]
    · have : ∀ (T : Nat → Bool), gt (if T k = true then putD (es dst vs e0 T k) (dst k) (vs k) else es dst vs e0 T k) d = gt (es dst vs e0 T k) d := by
        intro T
        split
        · rw [gt_putD, if_neg (fun h => hd h.1)]
        · rfl
      rw [this, this, ih]
theorem es_set {S : Nat → Bool} {j d : Nat} (hS : S j = false) : ∀ k, (∀ i, i < k → i ≠ j → dst i = some d → dst j ≠ some d) →
    gt (es dst vs e0 (fun i => i == j || S i) k) d = if j < k ∧ dst j = some d ∧ d < e0.length then vs j else gt (es dst vs e0 S k) d
  | 0, _ => by simp [es]
  | k + 1, h => by
    have ih := es_set hS k (fun i hi => h i (by omega))
    by_cases hk : k = j
    · subst hk
      simp only [es, beq_self_eq_true, Bool.true_or, if_true, gt_putD, es_len, hS, Bool.false_eq_true, if_false]
      rw [ih]
      simp
    · have hb : (k == j) = false := by simpa using hk
      simp only [es, hb, Bool.false_or]
      cases hSk : S k with
      | false =>
        simp only [Bool.false_eq_true, if_false]
        rw [ih]
        have : (j < k + 1 ∧ dst j = some d ∧ d < e0.length) ↔ (j < k ∧ dst j = some d ∧ d < e0.length) := by
          constructor <;> rintro ⟨h1, h2⟩ <;> exact ⟨by omega, h2⟩
        simp only [this]
      | true =>
        simp only [if_true, gt_putD, es_len]
        by_cases hd : dst k = some d ∧ d < e0.length
        · have hj := h k (by omega) hk hd.1
          rw [if_pos hd, if_neg (fun h => hj h.2.1)]
          rw [if_pos hd]
        · rw [if_neg hd, if_neg hd, ih]
          have : (j < k + 1 ∧ dst j = some d ∧ d < e0.length) ↔ (j < k ∧ dst j = some d ∧ d < e0.length) := by
            constructor <;> rintro ⟨h1, h2⟩ <;> exact ⟨by omega, h2⟩
          simp only [this]
theorem es_below (j : Nat) : ∀ k, es dst vs e0 (fun i => decide (i < j)) k = es dst vs e0 (fun _ => true) (min k j)
  | 0 => by simp [es]
  | k + 1 => by
    have ih := es_below j k
    have hs : ∀ (T : Nat → Bool), es dst vs e0 T (k + 1) = if T k then putD (es dst vs e0 T k) (dst k) (vs k) else es dst vs e0 T k := fun _ => rfl
    rw [hs]
    by_cases hk : k < j
    · rw [show min (k + 1) j = k + 1 by omega, hs, ih, show min k j = k by omega]
      simp [hk]
    · rw [show min (k + 1) j = j by omega, ih, show min k j = j by omega]
      simp [hk]
end

section
variable {cx : Cx} {P : Program} {g : G} {H H' : Hp} {w : World} {e e' : Env} {a : Act} {o : Oper} {call : CallT} {v : V}

theorem room_RF (ro : Option Nat) (n : Nat) : (RF ro).room n := fun d hd => by simp [RF, Fence.wide] at hd
theorem wp_const {F : Prop} {ro : Option Nat} (h : o.wpIn (RF ro) 0 P a w (fun _ _ => F) (fun _ _ _ => F)) : F := by
  unfold Oper.wpIn at h
  have h := h.2
  generalize (o.semAt (RF ro).round a.eval).run P w = r at h
  cases r with
  | ok n w' =>
    cases n <;> simp only [Oper.uponIn] at h
    case value => exact h
    case skip => exact h
    case defer => exact h
    case enter f args =>
      obtain ⟨en, w2, fr, hR, _⟩ := h.2.2 [] (room_RF _ _)
      cases en with
      | returned v => exact hR
      | panicked c => exact hR
      | outgrown => obtain ⟨_, _, hF⟩ := hR; exact hF
    case row row args =>
      obtain ⟨v, w2, hR, _⟩ := h.2 default [] (room_RF _ _)
      exact hR
    case round l f tmps as bd =>
      obtain ⟨en, w2, hR, _⟩ := h.2.2 default [] (room_RF _ _)
      cases en with
      | returned v => exact hR
      | panicked c => exact hR
      | outgrown => obtain ⟨_, _, hF⟩ := hR; exact hF
  | halt x w' => cases x <;> simp only [Oper.uponIn] at h; exact h

theorem wp_via {ro : Option Nat} {a2 : Act} {n : Nat} (hn : n < a2.tmps.size) (hnd : ∀ c, o.op ≠ .defer c) (hx : execOp a2.eval { o with dst := some n } = execOp a.eval o) {R : Value → World → Prop}
    (h : Oper.wpIn (RF ro) 0 P { o with dst := some n } a2 w (fun a' w' => a'.defers = a2.defers ∧ R (a'.tmps.getD n Go.undef) w') (fun _ _ _ => False)) {K : Act → World → Prop} {Q : Exit → Act → World → Prop}
    (hk : ∀ c w', R c w' → K (a.put o.dst c) w') : o.wpIn (RF ro) 0 P a w K Q := by
  refine ⟨fun _ _ => trivial, ?_⟩
  have h := h.2
  rw [Oper.semAt_eq _ _ _ hnd]
  rw [Oper.semAt_eq _ _ { o with dst := some n } hnd, hx] at h
  generalize (execOp a.eval o).run P w = r at *
  have hg : ∀ c, (a2.put (some n) c).tmps.getD n Go.undef = c := fun c => by rw [put_getD]; simp [hn]
  cases r with
  | ok m w' =>
    cases m <;> simp only [Oper.uponIn] at h ⊢
    case value c => exact hk _ _ (by have := h.2; rwa [hg] at this)
    case skip => exact hk _ _ (by have := h.2; rwa [hg] at this)
    case defer d =>
      have := congrArg List.length h.1
      simp [Act.put] at this
    case enter f args =>
      refine ⟨h.1, CallsIn.mono h.2 fun en w'' he => ?_⟩
      cases en with
      | returned c => exact hk _ _ (by have := he.2; rwa [hg] at this)
      | panicked c => exact he.elim
      | outgrown => obtain ⟨_, _, hF⟩ := he; exact hF.elim
    case row row args => exact ⟨h.1, RowsIn.mono h.2 fun c w'' he => hk _ _ (by have := he.2; rwa [hg] at this)⟩
    case round l f tmps as bd =>
      refine ⟨h.1, RoundIn.mono h.2 fun en w'' he => ?_⟩
      cases en with
      | returned c => exact hk _ _ (by have := he.2; rwa [hg] at this)
      | panicked c => exact he.elim
      | outgrown => obtain ⟨_, _, hF⟩ := he; exact hF.elim
  | halt x w' => cases x <;> simp only [Oper.uponIn] at h

/-- What the list's order gives. -/
structure QRun (cx : Cx) (call : CallT) (ops : Array Oper) (t : Nat) (E : Nat → Env) (Hs : Nat → Hp) (vs : Nat → V) : Prop where
  env : ∀ i o, i < t → ops[i]? = some o → E (i + 1) = putD (E i) o.dst (vs i)
  step : ∀ i o, i < t → ops[i]? = some o → (wantB ops.toList (E i) o = some true ∧ ∃ H1, evOp cx call o (E i) { Hs i with low := (Hs i).next } = some (.ok (vs i) H1) ∧ Hs (i + 1) = { H1 with low := (Hs i).low }) ∨
    (wantB ops.toList (E i) o = some false ∧ vs i = .p .undef ∧ Hs (i + 1) = Hs i)

theorem quiet_run {all : List Oper} : ∀ (l : List Oper) {e : Env} {H : Hp} {x : Ex} {e1 : Env} {H1 : Hp}, evQuiet cx call all l e H = some (x, e1, H1) → ∃ (E : Nat → Env) (Hs : Nat → Hp) (vs : Nat → V), E 0 = e ∧ Hs 0 = H ∧ E l.length = e1 ∧ Hs l.length = H1 ∧
    ∀ i o, l[i]? = some o → E (i + 1) = putD (E i) o.dst (vs i) ∧ ((wantB all (E i) o = some true ∧ ∃ H1, evOp cx call o (E i) { Hs i with low := (Hs i).next } = some (.ok (vs i) H1) ∧ Hs (i + 1) = { H1 with low := (Hs i).low }) ∨
    (wantB all (E i) o = some false ∧ vs i = .p .undef ∧ Hs (i + 1) = Hs i))
  | [], e, H, x, e1, H1, h => by
    simp [evQuiet] at h; obtain ⟨_, rfl, rfl⟩ := h
    exact ⟨fun _ => e, fun _ => H, fun _ => .p .undef, rfl, rfl, rfl, rfl, fun i o h => by simp at h⟩
  | o :: r, e, H, x, e1, H1, h => by
    unfold evQuiet at h
    split at h
    · rename_i hw
      split at h
      · rename_i v H2 h2
        obtain ⟨E, Hs, vs, hE, hH, hE1, hH1, hs⟩ := quiet_run r h
        refine ⟨fun i => match i with | 0 => e | i + 1 => E i, fun i => match i with | 0 => H | i + 1 => Hs i, fun i => match i with | 0 => v | i + 1 => vs i, rfl, rfl, hE1, hH1, ?_⟩
        intro i o' ho'
        cases i with
        | zero => simp at ho'; subst ho'; exact ⟨hE, .inl ⟨hw, H2, h2, hH⟩⟩
        | succ i => exact hs i o' (by simpa using ho')
      · cases h
    · rename_i hw
      obtain ⟨E, Hs, vs, hE, hH, hE1, hH1, hs⟩ := quiet_run r h
      refine ⟨fun i => match i with | 0 => e | i + 1 => E i, fun i => match i with | 0 => H | i + 1 => Hs i, fun i => match i with | 0 => .p .undef | i + 1 => vs i, rfl, rfl, hE1, hH1, ?_⟩
      intro i o' ho'
      cases i with
      | zero => simp at ho'; subst ho'; exact ⟨hE, .inr ⟨hw, rfl, hH⟩⟩
      | succ i => exact hs i o' (by simpa using ho')
    · cases h

theorem Rel.lowered (h : Rel cx g H w) (n : Nat) : Rel cx g { H with low := n } w := ⟨h.im, h.gl, h.obj, h.dis, h.dim, h.lt⟩
theorem Rel.drawn (h : Rel cx g H w) (n : Nat) : Rel cx g H { w with drawn := n } := by
  refine ⟨fun b o u hu => h.im b o u hu, h.gl, fun id l hl => ?_, h.dis, h.dim, h.lt⟩
  have := h.obj id l hl
  generalize H.obj id = ob at *
  cases ob <;> exact this

variable {ops : Array Oper} {t : Nat} {E : Nat → Env} {Hs : Nat → Hp} {vs : Nat → V}

theorem QRun.next (hq : QRun cx call ops t E Hs vs) (hN : NextOK call) (hle : t ≤ ops.size) : ∀ i, i < t → (Hs i).next ≤ (Hs (i + 1)).next := by
  intro i hi
  rcases hq.step i ops[i] hi (by simp [Nat.lt_of_lt_of_le hi hle]) with ⟨_, H1, h1, h2⟩ | ⟨_, _, h2⟩
  · rw [h2]; exact evOp_next hN h1
  · rw [h2]; exact Nat.le_refl _
theorem QRun.next_le (hq : QRun cx call ops t E Hs vs) (hN : NextOK call) (hle : t ≤ ops.size) {i : Nat} : ∀ j, i ≤ j → j ≤ t → (Hs i).next ≤ (Hs j).next
  | 0, h, _ => by rw [show i = 0 by omega]; exact Nat.le_refl _
  | j + 1, h, hj => by
    by_cases hij : i = j + 1
    · subst hij; exact Nat.le_refl _
    · exact Nat.le_trans (hq.next_le hN hle j (by omega) (by omega)) (hq.next hN hle j (by omega))

structure Fact (Hs : Nat → Hp) (k : Nat) : Prop where
  ok : Hok (Hs (k + 1))
  low : (Hs (k + 1)).low = (Hs k).low
  old : ∀ id, id < (Hs k).next → (Hs (k + 1)).obj id = (Hs k).obj id

theorem quiet_facts (hT : TYok P cx) (hC : CallOK cx P call) (hN : NextOK call) (hq : QRun cx call ops t E Hs vs) (hle : t ≤ ops.size) : ∀ (m i : Nat), i + m = t → ∀ (g : G) (w : World) (a : Act), Rel cx g (Hs i) w → Hok (Hs i) → EnvR g (E i) a.tmps → Free g (Hs i) (Hs t) →
    ∀ k, i ≤ k → k < t → Fact Hs k
  | 0, i, him, g, w, a, hr, ho, he, hf, k, hk, hkt => by omega
  | m + 1, i, him, g, w, a, hr, ho, he, hf, k, hk, hkt => by
    have hi : i < t := by omega
    have hoi : ops[i]? = some ops[i] := by simp [Nat.lt_of_lt_of_le hi hle]
    have henv := hq.env i _ hi hoi
    rcases hq.step i _ hi hoi with ⟨hw, H1, h1, h2⟩ | ⟨_, hv, h2⟩
    · have hn1 : (Hs (i + 1)).next ≤ (Hs t).next := hq.next_le hN hle t (by omega) (Nat.le_refl _)
      have hf1 : Free g { Hs i with low := (Hs i).next } (Rz.ok (vs i) H1).hp := by
        intro id ha hb
        refine hf id ha ?_
        have : H1.next = (Hs (i + 1)).next := by rw [h2]
        simp only [Rz.hp] at hb
        omega
      refine wp_const (ro := none) (P := P) (o := ops[i]) (a := a) (w := w) (evOp_sound (H := { Hs i with low := (Hs i).next }) hT hC (hr.lowered (Hs i).next) ⟨ho.gone, Nat.le_refl _⟩ he hf1 h1 ?_ ?_)
      · rintro v' H'' c g' w' hqq hst hv
        cases hqq
        have hrel : Rel cx g' (Hs (i + 1)) w' := by rw [h2]; exact hst.rel.lowered _
        have hok : Hok (Hs (i + 1)) := by
          rw [h2]
          refine ⟨hst.ok.gone, ?_⟩
          have := ho.low; have := hst.next
          simp only at *
          omega
        have hfact : Fact Hs i := ⟨hok, by rw [h2], fun id hid => by rw [h2]; exact hst.old id hid⟩
        by_cases hki : k = i
        · rw [hki]; exact hfact
        · have hle' := hst.le hf1
          refine quiet_facts hT hC hN hq hle m (i + 1) (by omega) g' w' (a.put ops[i].dst c) hrel hok (by rw [henv]; exact (he.mono hle').put _ hv) ?_ k (by omega) hkt
          intro id h3 h4
          have hnx : H1.next = (Hs (i + 1)).next := by rw [h2]
          rw [hst.loc id (.inr (by rw [hnx]; exact h3))]
          exact hf id (by have := hst.next; simp only at this; omega) h4
      · rintro v' H'' c g' w' hqq; cases hqq
    · have hfact : Fact Hs i := ⟨by rw [h2]; exact ho, by rw [h2], fun id _ => by rw [h2]⟩
      by_cases hki : k = i
      · rw [hki]; exact hfact
      · refine quiet_facts hT hC hN hq hle m (i + 1) (by omega) g w (a.put ops[i].dst Go.undef) (by rw [h2]; exact hr) (by rw [h2]; exact ho) (by rw [henv, hv]; exact he.put _ (.p .undef)) (by rw [h2]; exact hf) k (by omega) hkt

theorem Fact.obj (hN : NextOK call) (hq : QRun cx call ops t E Hs vs) (hle : t ≤ ops.size) (hF : ∀ k, k < t → Fact Hs k) {i : Nat} : ∀ j, i ≤ j → j ≤ t → ∀ id, id < (Hs i).next → (Hs j).obj id = (Hs i).obj id
  | 0, h, _, id, _ => by rw [show i = 0 by omega]
  | j + 1, h, hj, id, hid => by
    by_cases hij : i = j + 1
    · subst hij; rfl
    · rw [(hF j (by omega)).old id (Nat.lt_of_lt_of_le hid (hq.next_le hN hle j (by omega) (by omega)))]
      exact Fact.obj hN hq hle hF j (by omega) (by omega) id hid
theorem Fact.lows (hF : ∀ k, k < t → Fact Hs k) : ∀ j, j ≤ t → (Hs j).low = (Hs 0).low
  | 0, _ => rfl
  | j + 1, h => (hF j (by omega)).low.trans (Fact.lows hF j (by omega))
theorem Fact.hok (hF : ∀ k, k < t → Fact Hs k) (h0 : Hok (Hs 0)) : ∀ j, j ≤ t → Hok (Hs j)
  | 0, _ => h0
  | j + 1, h => (hF j (by omega)).ok

end
end Go.Ev
