/- Regions that draw their order are sound: 'draw_ok'. -/
import Derived.Test.YtejeplcandhgdaaDoorEvW
set_option linter.unusedVariables false
set_option linter.unusedSimpArgs false
namespace Go.Ev

def cnt (p : Nat → Bool) : Nat → Nat
  | 0 => 0
  | t + 1 => cnt p t + if p t then 1 else 0
theorem cnt_above {p : Nat → Bool} {j : Nat} : ∀ t, t ≤ j → cnt (fun i => p i && !(i == j)) t = cnt p t
  | 0, _ => rfl
  | t + 1, h => by
    have : (t == j) = false := by simp; omega
    have ih := cnt_above (p := p) (j := j) t (by omega)
    simp only [cnt, ih, this, Bool.not_false, Bool.and_true]
theorem cnt_set {p : Nat → Bool} {j : Nat} (hp : p j = true) : ∀ t, j < t → cnt (fun i => p i && !(i == j)) t + 1 = cnt p t
  | 0, h => by omega
  | t + 1, h => by
    by_cases htj : t = j
    · subst htj
      have ih := cnt_above (p := p) (j := t) t (Nat.le_refl _)
      simp only [cnt, ih, beq_self_eq_true, Bool.not_true, Bool.and_false, hp]
      simp
    · have hb : (t == j) = false := by simpa using htj
      have ih := cnt_set hp t (by omega)
      simp only [cnt, hb, Bool.not_false, Bool.and_true]
      omega
theorem cnt_zero {p : Nat → Bool} : ∀ t, cnt p t = 0 → ∀ i, i < t → p i = false
  | 0, _, i, h => by omega
  | t + 1, h, i, hi => by
    simp only [cnt] at h
    by_cases hit : i = t
    · subst hit
      cases hp : p i with
      | false => rfl
      | true => rw [hp] at h; simp at h
    · exact cnt_zero t (by omega) i (by omega)
theorem cnt_pos {p : Nat → Bool} : ∀ t, cnt p t ≠ 0 → ∃ i, i < t ∧ p i = true
  | 0, h => absurd rfl h
  | t + 1, h => by
    cases hp : p t with
    | true => exact ⟨t, by omega, hp⟩
    | false =>
      simp only [cnt, hp] at h
      obtain ⟨i, hi, hpi⟩ := cnt_pos t (by simpa using h)
      exact ⟨i, by omega, hpi⟩
theorem cnt_all {p : Nat → Bool} : ∀ t, (∀ i, i < t → p i = true) → cnt p t = t
  | 0, _ => rfl
  | t + 1, h => by simp [cnt, cnt_all t (fun i hi => h i (by omega)), h t (by omega)]
theorem cnt_congr {p q : Nat → Bool} : ∀ t, (∀ i, i < t → p i = q i) → cnt p t = cnt q t
  | 0, _ => rfl
  | t + 1, h => by simp only [cnt, cnt_congr t (fun i hi => h i (by omega)), h t (by omega)]

section
variable {cx : Cx} {P : Program} {g : G} {H H' : Hp} {w : World} {e e' : Env} {a : Act} {o : Oper} {call : CallT} {v : V}
variable {ops : Array Oper} {bs : List Nat} {t : Nat} {E : Nat → Env} {Hs : Nat → Hp} {vs : Nat → V}

theorem some_ready (hD : DrawnOK ops bs t) {listed : Array Bool} (hsz : listed.size = ops.size) : ∀ i, i < ops.size → listed.getD i false = false → ∃ j, j ≤ i ∧ j ∈ Region.ready .any ops listed := by
  intro i
  induction i using Nat.strongRecOn with
  | _ i ih =>
    intro hi hl
    by_cases hall : ∀ e ∈ ops[i].after, Region.binds .any e = true → listed.getD e.on false = true
    · refine ⟨i, Nat.le_refl _, mem_ready.2 ⟨?_, ops[i], by simp [hi], hall⟩⟩
      have : i < listed.size := by rw [hsz]; exact hi
      simpa [Array.getD_eq_getD_getElem?, this] using hl
    · simp only [Classical.not_forall] at hall
      obtain ⟨e, he, hb, hn⟩ := hall
      have hlt := hD.low i _ (by simp [hi]) e he hb
      obtain ⟨j, hj, hr⟩ := ih e.on hlt (by omega) (by simpa using hn)
      exact ⟨j, by omega, hr⟩

theorem ready_out {listed : Array Bool} {j : Nat} (hj : j ∈ Region.ready .any ops listed) : listed.getD j false = false := by
  have h1 := (mem_ready.1 hj).1
  rw [Array.getD_eq_getD_getElem?] at h1 ⊢
  cases hq : listed[j]? with
  | none => rfl
  | some b => rw [hq] at h1; simpa using h1

theorem set_getD {listed : Array Bool} {j : Nat} (hj : j < listed.size) (i : Nat) : (listed.setIfInBounds j true).getD i false = (i == j || listed.getD i false) := by
  rw [Array.getD_eq_getD_getElem?, Array.getElem?_setIfInBounds]
  by_cases h : j = i
  · subst h; simp [hj]
  · have : (i == j) = false := by simp; omega
    simp [h, this, Array.getD_eq_getD_getElem?]

theorem tail_any {ro : Option Nat} (hD : DrawnOK ops bs t) {Q : Exit → Act → World → Prop} : ∀ (m k : Nat) (listed : Array Bool) (a : Act) (w : World), k + m = ops.size → t ≤ k → listed.size = ops.size → (∀ i, i < ops.size → listed.getD i false = decide (i < k)) → Closed ops listed →
    wpListIn (RF ro) 0 P ops Q (ops.toList.drop k) a w → wpAnyIn (RF ro) 0 P .any ops Q m listed a w
  | 0, k, listed, a, w, hk, ht, hsz, hl, hc, h => by
    refine ⟨?_, ?_⟩
    · cases hr : Region.ready .any ops listed with
      | nil => rfl
      | cons j r =>
        have hj : j ∈ Region.ready .any ops listed := by rw [hr]; simp
        have h1 := ready_out hj
        obtain ⟨_, oj, hoj, _⟩ := mem_ready.1 hj
        have hlt := (Array.getElem?_eq_some_iff.1 hoj).1
        rw [hl j hlt] at h1
        simp at h1; omega
    · rw [List.drop_eq_nil_of_le (by simp; omega)] at h
      exact h
  | m + 1, k, listed, a, w, hk, ht, hsz, hl, hc, h => by
    have hks : k < ops.size := by omega
    refine ⟨fun h0 => ?_, fun i hi => ?_⟩
    · obtain ⟨j, _, hj⟩ := some_ready hD hsz k hks (by rw [hl k hks]; simp)
      rw [h0] at hj; cases hj
    · have h1 := ready_out hi
      obtain ⟨_, oi, hoi, hall⟩ := mem_ready.1 hi
      have hlt := (Array.getElem?_eq_some_iff.1 hoi).1
      rw [hl i hlt] at h1
      have hik : i = k := by
        simp at h1
        rcases Nat.eq_or_lt_of_le h1 with h2 | h2
        · exact h2.symm
        · have h3 := bef_of hD hc i hoi hall k h2 (hD.tail i k hlt (by omega) h2)
          rw [hl k hks] at h3
          simp at h3
      subst hik
      rw [List.drop_eq_getElem_cons (by simpa using hks)] at h
      have hw : wpOpIn (RF ro) 0 P ops Q i (wpListIn (RF ro) 0 P ops Q (ops.toList.drop (i + 1))) a w := by
        unfold wpOpIn
        rw [show ops[i]? = some ops.toList[i] by simp [hks]]
        exact h
      refine wpOpIn_mono (fun a' w' h' => tail_any hD m (i + 1) _ a' w' (by omega) (by omega) (by simp [hsz]) ?_ ?_ h') hw
      · intro j hj
        rw [set_getD (by omega), hl j hj]
        by_cases hji : j = i
        · subst hji; simp
        · have hb : (j == i) = false := by simpa using hji
          rw [hb]; simp only [Bool.false_or, decide_eq_decide]; omega
      · intro j oj hoj hlj e he hb
        rw [set_getD (by omega)] at hlj ⊢
        simp only [Bool.or_eq_true, beq_iff_eq] at hlj ⊢
        rcases hlj with rfl | hlj
        · rw [hoi] at hoj; cases hoj; exact .inr (hall e he hb)
        · exact .inr (hc j oj hoj hlj e he hb)

theorem quiet_any {ro : Option Nat} {g0 : G} {w0 : World} {a0 : Act} (hT : TYok P cx) (hC : CallOK cx P call) (hN : NextOK call) (hq : QRun cx call ops t E Hs vs) (hD : DrawnOK ops bs t) (hF : ∀ k, k < t → Fact Hs k) (h0 : Hok (Hs 0)) {Q : Exit → Act → World → Prop}
    (hfin : ∀ g w a, St cx g0 (Hs 0) w0 g (Hs t) w → EnvR g (E t) a.tmps → a.defers = a0.defers → wpListIn (RF ro) 0 P ops Q (ops.toList.drop t) a w) :
    ∀ (m : Nat) (listed : Array Bool) (g : G) (w : World) (a : Act), cnt (fun i => !listed.getD i false) t = m → listed.size = ops.size → (∀ i, t ≤ i → listed.getD i false = false) → Closed ops listed →
    Inv cx ops t E Hs vs g0 w0 (fun i => listed.getD i false) g w a → a.defers = a0.defers → wpAnyIn (RF ro) 0 P .any ops Q (m + (ops.size - t)) listed a w
  | 0, listed, g, w, a, hm, hsz, ht, hc, hI, hd => by
    have hall : ∀ i, i < t → listed.getD i false = true := fun i hi => by
      have := cnt_zero t hm i hi
      simpa using this
    rw [Nat.zero_add]
    have hle := hD.le
    refine tail_any hD (ops.size - t) t listed a w (by omega) (Nat.le_refl _) hsz ?_ hc (hfin g w a hI.st ?_ hd)
    · intro i hi
      by_cases hit : i < t
      · simp [hit, hall i hit]
      · rw [ht i (by omega)]; simp [hit]
    · have he := hI.env
      refine ⟨by rw [he.1, es_len, run_es hq hD.le t (Nat.le_refl _), es_len], fun d => ?_⟩
      rw [run_es hq hD.le t (Nat.le_refl _), ← es_agree (dstOf ops) vs (E 0) t (S := fun i => listed.getD i false) (fun i hi _ => hall i hi)]
      exact he.2 d
  | m + 1, listed, g, w, a, hm, hsz, ht, hc, hI, hd => by
    have hle := hD.le
    obtain ⟨i0, hi0, hl0⟩ := cnt_pos (p := fun i => !listed.getD i false) t (by omega)
    have hl0' : listed.getD i0 false = false := by simpa using hl0
    rw [show m + 1 + (ops.size - t) = (m + (ops.size - t)) + 1 by omega]
    refine ⟨fun hr => ?_, fun j hj => ?_⟩
    · obtain ⟨j, _, hj⟩ := some_ready hD hsz i0 (by omega) hl0'
      rw [hr] at hj; cases hj
    · have h1 := ready_out hj
      obtain ⟨_, oj, hoj, hall⟩ := mem_ready.1 hj
      have hlt := (Array.getElem?_eq_some_iff.1 hoj).1
      have hjt : j < t := by
        rcases Nat.lt_or_ge j t with h2 | h2
        · exact h2
        · have h3 := bef_of hD hc j hoj hall i0 (by omega) (hD.tail j i0 hlt h2 (by omega))
          rw [hl0'] at h3; cases h3
      refine hI.step hT hC hN hq hD hF h0 hjt h1 hoj (fun i hi hbit => bef_of hD hc j hoj hall i hi hbit) ?_ ?_
      · intro i hji hit hli hbit
        have hoi : ops[i]? = some ops[i] := by simp [Nat.lt_of_lt_of_le hit hle]
        have h3 := bef_of hD hc i hoi (fun e he hb => hc i _ hoi hli e he hb) j hji hbit
        rw [h1] at h3; cases h3
      · intro g' w' a' hI' hd'
        have hfun : (fun i => (listed.setIfInBounds j true).getD i false) = fun i => i == j || listed.getD i false := funext fun i => set_getD (by omega) i
        refine quiet_any hT hC hN hq hD hF h0 hfin m _ g' w' a' ?_ (by simp [hsz]) ?_ ?_ (by rw [hfun]; exact hI') (hd'.trans hd)
        · have h2 := cnt_set (p := fun i => !listed.getD i false) (j := j) (by simp only [h1]; rfl) t hjt
          have h3 : cnt (fun i => !(listed.setIfInBounds j true).getD i false) t = cnt (fun i => (!listed.getD i false) && !(i == j)) t := cnt_congr t (fun i _ => by
            rw [set_getD (by omega)]; cases (i == j) <;> cases listed.getD i false <;> rfl)
          rw [h3]; omega
        · intro i hi
          rw [set_getD (by omega), ht i hi]
          simp; omega
        · intro k ok hok hlk e he hb
          rw [set_getD (by omega)] at hlk ⊢
          simp only [Bool.or_eq_true, beq_iff_eq] at hlk ⊢
          rcases hlk with rfl | hlk
          · rw [hoj] at hok; cases hok; exact .inr (hall e he hb)
          · exact .inr (hc k ok hok hlk e he hb)

theorem St.drawn (hr : Rel cx g H w) (ho : Hok H) (n : Nat) : St cx g H w g H { w with drawn := n } where
  rel := hr.drawn n
  ok := ho
  im := fun _ _ _ h => h
  loc := fun _ _ => rfl
  next := Nat.le_refl _
  low := rfl
  old := fun _ _ => rfl
  mu := fun _ _ h => h
  os := rfl
  tape := rfl
  output := rfl
  size := Nat.le_refl _
  blocks := fun _ _ _ => rfl
  newb := fun id l h1 h2 h3 _ => ⟨id, l, h1, h2, h3, rfl⟩
  newim := fun b o h1 h2 _ => absurd h2 h1

theorem draw_ok (hm : P.follows .mixedOrders = true) (hT : TYok P cx) : DrawOK cx P drawn := by
  intro call hC hN ro id ops t e H e1 H1 x e' H' hdr hquiet htail g w a Q hr ho he hf hQ
  have hD := drawn_ok hdr
  have hle := hD.le
  obtain ⟨E, Hs, vs, hE, hH, hE1, hH1, hs⟩ := quiet_run _ hquiet
  have hlen : (ops.toList.take t).length = t := by simp; omega
  rw [hlen] at hE1 hH1
  have hq : QRun cx call ops t E Hs vs := by
    have key : ∀ i o, i < t → ops[i]? = some o → (ops.toList.take t)[i]? = some o := fun i o hi hoi => by
      rw [List.getElem?_take_of_lt hi]; simpa using hoi
    exact ⟨fun i o hi hoi => (hs i o (key i o hi hoi)).1, fun i o hi hoi => (hs i o (key i o hi hoi)).2⟩
  subst hE; subst hH; subst hE1; subst hH1
  have hnt := evOps_next hN _ _ htail
  have hn0 := hq.next_le hN hle (i := 0) t (Nat.zero_le _) (Nat.le_refl _)
  have hf0 : Free g (Hs 0) (Hs t) := hf.left hnt
  have s0 := St.drawn hr ho (w.drawn + 1)
  have hF : ∀ k, k < t → Fact Hs k := fun k hk => quiet_facts hT hC hN hq hle t 0 (by omega) g _ a s0.rel ho he hf0 k (Nat.zero_le _) hk
  have hobj := Fact.obj hN hq hle hF (i := 0) t (Nat.zero_le _) (Nat.le_refl _)
  have hokt := Fact.hok hF ho t (Nat.le_refl _)
  have hob : ∀ id l, g.loc id = some l → (Hs t).obj id = (Hs 0).obj id := by
    intro id l hl
    rcases Nat.lt_or_ge id (Hs 0).next with h1 | h1
    · exact hobj id h1
    · rcases Nat.lt_or_ge id (Hs t).next with h2 | h2
      · rw [hf0 id h1 h2] at hl; cases hl
      · rw [hokt.gone id h2, ho.gone id h1]
  have hI : Inv cx ops t E Hs vs g { w with drawn := w.drawn + 1 } (fun i => (Array.replicate ops.size false).getD i false) g { w with drawn := w.drawn + 1 } a := by
    refine ⟨?_, ?_, he.1, ?_, ?_⟩
    · exact {
        rel := {
          im := s0.rel.im
          gl := s0.rel.gl
          obj := fun id l hl => by rw [hob id l hl]; exact s0.rel.obj id l hl
          dis := fun i j l l' hi hj hli hlj => by rw [hob i l hli] at hi; rw [hob j l' hlj] at hj; exact s0.rel.dis i j l l' hi hj hli hlj
          dim := fun i l o hi hli => by rw [hob i l hli] at hi; exact s0.rel.dim i l o hi hli
          lt := s0.rel.lt }
        ok := hokt
        im := fun _ _ _ h => h
        loc := fun _ _ => rfl
        next := hn0
        low := Fact.lows hF t (Nat.le_refl _)
        old := fun id hid => hobj id (Nat.lt_of_lt_of_le hid ho.low)
        mu := fun id hid hm => by rw [hobj id hid] at hm; exact hm
        os := rfl
        tape := rfl
        output := rfl
        size := Nat.le_refl _
        blocks := fun _ _ _ => rfl
        newb := fun id l h1 h2 h3 _ => ⟨id, l, h1, by rw [hob id l h3] at h2; exact h2, h3, rfl⟩
        newim := fun b o h1 h2 _ => absurd h2 h1 }
    · intro i hi _ id h1 h2
      have k1 := hq.next_le hN hle (i := 0) i (Nat.zero_le _) (by omega)
      have k2 := hq.next_le hN hle (i := i + 1) t (by omega) (Nat.le_refl _)
      exact hf0 id (by omega) (by omega)
    · intro k hk id l hid hl
      rw [hob id l hl]
      refine (s0.rel.obj id l hl).keep ⟨fun _ _ _ h => h, fun i l' hl' => ?_⟩ (fun _ => rfl)
      simp only [lowG]
      rw [if_pos ?_]
      · exact hl'
      · have k1 := hq.next_le hN hle (i := 0) k (Nat.zero_le _) hk
        rcases Nat.lt_or_ge i (Hs 0).next with h1 | h1
        · exact .inl (by omega)
        · rcases Nat.lt_or_ge i (Hs t).next with h2 | h2
          · rw [hf0 i h1 h2] at hl'; cases hl'
          · exact .inr h2
    · intro d k hk _
      have h1 := he.2 d
      have h2 : gt (es (dstOf ops) vs (E 0) (fun i => (Array.replicate ops.size false).getD i false) t) d = gt (E 0) d := by
        have key : ∀ k, es (dstOf ops) vs (E 0) (fun i => (Array.replicate ops.size false).getD i false) k = E 0 := by
          intro k
          induction k with
          | zero => rfl
          | succ k ih =>
            have : (Array.replicate ops.size false).getD k false = false := by
              rw [Array.getD_eq_getD_getElem?, Array.getElem?_replicate]; split <;> rfl
            simp only [es, this]
            simpa using ih
        rw [key]
      rw [h2]
      have hle2 : g.le (lowG g (Hs t).next (Hs k).next) := by
        refine ⟨fun _ _ _ h => h, fun i l' hl' => ?_⟩
        simp only [lowG]
        rw [if_pos ?_]
        · exact hl'
        · have k1 := hq.next_le hN hle (i := 0) k (Nat.zero_le _) hk
          rcases Nat.lt_or_ge i (Hs 0).next with h1 | h1
          · exact .inl (by omega)
          · rcases Nat.lt_or_ge i (Hs t).next with h2 | h2
            · rw [hf0 i h1 h2] at hl'; cases hl'
            · exact .inr h2
      exact h1.mono hle2
  refine wpIn_region_any hm ?_
  have hrep : ∀ i, (Array.replicate ops.size false).getD i false = false := by
    intro i; rw [Array.getD_eq_getD_getElem?, Array.getElem?_replicate]; split <;> rfl
  have hres := quiet_any (ro := ro) (Q := Q) (a0 := a) hT hC hN hq hD hF ho (g0 := g) (w0 := { w with drawn := w.drawn + 1 }) ?_ t (Array.replicate ops.size false) g { w with drawn := w.drawn + 1 } a ?_ (by simp) (fun i _ => hrep i) (fun j oj _ hl => by rw [hrep] at hl; cases hl) hI rfl
  · rw [Nat.add_sub_cancel' hle] at hres
    exact hres
  · intro g' w' a' hst he' hd'
    refine evOps_sound hT hC hN ops _ htail g' w' a' Q hst.rel hst.ok he' ?_ ?_
    · exact hst.free hf
    · intro ex a2 g2 w2 hs2 hd2 hx2
      exact hQ ex a2 g2 w2 (s0.trans (hst.trans hs2)) (.of_eq (hd2.trans hd')) hx2
  · exact cnt_all t (fun i _ => by rw [hrep]; rfl)

end
end Go.Ev
