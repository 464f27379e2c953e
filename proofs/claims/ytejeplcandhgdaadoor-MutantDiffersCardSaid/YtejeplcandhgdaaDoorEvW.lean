/- Regions that draw their order: whatever is drawn, the end is the list's. -/
import Derived.Test.YtejeplcandhgdaaDoorEvV
set_option linter.unusedVariables false
set_option linter.unusedSimpArgs false
namespace Go.Ev

def lowG (g : G) (m n : Nat) : G := ⟨g.im, fun id => if id < n ∨ m ≤ id then g.loc id else none⟩
theorem lowG_loc {g : G} {m n id : Nat} {l : Loc} (h : (lowG g m n).loc id = some l) : (id < n ∨ m ≤ id) ∧ g.loc id = some l := by
  simp only [lowG] at h
  split at h
  · rename_i hi; exact ⟨hi, h⟩
  · cases h
theorem lowG_up {g : G} {m n n' : Nat} (h : n ≤ n') : (lowG g m n).le (lowG g m n') := ⟨fun _ _ _ h => h, fun i l hl => by
  obtain ⟨h1, h2⟩ := lowG_loc hl
  simp only [lowG]
  rw [if_pos (by omega)]; exact h2⟩
theorem lowG_le {g : G} {m n : Nat} : (lowG g m n).le g := ⟨fun _ _ _ h => h, fun i l hl => (lowG_loc hl).2⟩
theorem lowG_mono {g g' : G} (h : g.le g') (m n : Nat) : (lowG g m n).le (lowG g' m n) := ⟨h.im, fun i l hl => by
  obtain ⟨h1, h2⟩ := lowG_loc hl
  simp only [lowG, if_pos h1]; exact h.loc i l h2⟩

section
variable {cx : Cx} {P : Program} {g : G} {H H' : Hp} {w : World} {e e' : Env} {a : Act} {o : Oper} {call : CallT} {v : V}

theorem St.out {g0 g g' : G} {H0 Ht Hj H1 : Hp} {w0 w w' : World} (h : St cx g0 H0 w0 g Ht w) (hs : St cx (lowG g Ht.next Hj.next) Hj w g' H1 w') (hlow : Hj.low = Hj.next) (hgone : ∀ id, Hj.next ≤ id → Hj.obj id = .gone) (hobj : ∀ id, id < H1.next → H1.obj id = Ht.obj id) (hnx : H1.next ≤ Ht.next) (hj0 : H0.next ≤ Hj.next)
    (hno : ∀ id, Hj.next ≤ id → id < H1.next → g.loc id = none) :
    ∃ g'', St cx g0 H0 w0 g'' Ht w' ∧ g.le g'' ∧ (∀ id, id < Hj.next ∨ H1.next ≤ id → g''.loc id = g.loc id) ∧ g'.le (lowG g'' Ht.next H1.next) ∧
      (∀ id l, g''.loc id = some l → (g.loc id = some l ∧ w'.heap[l.b]? = w.heap[l.b]?) ∨ (Hj.next ≤ id ∧ id < H1.next ∧ g'.loc id = some l)) := by
  have noW : ∀ k, ¬ Wr (lowG g Ht.next Hj.next) Hj k := by
    rintro k ⟨id, l, h1, h3, h2, _⟩
    rw [hgone id (by omega)] at h3
    cases h3
  have hn := hs.next
  have hin : ∀ id, id < Hj.next → g'.loc id = g.loc id := fun id hid => by
    rw [hs.loc id (.inl hid)]; simp [lowG, hid]
  have hout : ∀ id, H1.next ≤ id → g'.loc id = if Ht.next ≤ id then g.loc id else none := fun id hid => by
    rw [hs.loc id (.inr hid)]
    simp only [lowG]
    by_cases hm : Ht.next ≤ id
    · rw [if_pos (.inr hm), if_pos hm]
    · rw [if_neg (by omega), if_neg hm]
  have hblk : ∀ k, k < w.heap.size → w'.heap[k]? = w.heap[k]? := fun k hk => hs.blocks k hk (noW k)
  -- an object is old, or new
  have two : ∀ id l, (if id < H1.next then g'.loc id else g.loc id) = some l → (g.loc id = some l ∧ l.b < w.heap.size) ∨ (Hj.next ≤ id ∧ id < H1.next ∧ g'.loc id = some l ∧ ((Ht.obj id).mu = true → w.heap.size ≤ l.b)) := by
    intro id l hl
    by_cases h1 : id < H1.next
    · rw [if_pos h1] at hl
      by_cases h2 : id < Hj.next
      · rw [hin id h2] at hl
        exact .inl ⟨hl, h.rel.lt id l hl⟩
      · refine .inr ⟨by omega, h1, hl, fun hm => ?_⟩
        rcases Nat.lt_or_ge l.b w.heap.size with hb | hb
        · exact absurd (hs.newb id l (by omega) (by rw [hobj id h1]; exact hm) hl hb) (noW _)
        · exact hb
    · rw [if_neg h1] at hl
      exact .inl ⟨hl, h.rel.lt id l hl⟩
  refine ⟨⟨g'.im, fun id => if id < H1.next then g'.loc id else g.loc id⟩, ?_, ?_, ?_, ?_, ?_⟩
  rotate_left
  · refine ⟨hs.im, fun id l hl => ?_⟩
    simp only
    split
    · rename_i h1
      by_cases h2 : id < Hj.next
      · rw [hin id h2]; exact hl
      · rw [hno id (by omega) h1] at hl; cases hl
    · exact hl
  · rintro id (h1 | h1)
    · simp only; rw [if_pos (by omega), hin id h1]
    · simp only; rw [if_neg (by omega)]
  · refine ⟨fun _ _ _ h => h, fun id l hl => ?_⟩
    by_cases h1 : id < H1.next
    · simp only [lowG]; rw [if_pos (.inl h1), if_pos h1]; exact hl
    · rw [hout id (by omega)] at hl
      split at hl
      · rename_i hm
        simp only [lowG]; rw [if_pos (.inr hm), if_neg h1]; exact hl
      · cases hl
  · intro id l hl
    rcases two id l hl with ⟨h1, h2⟩ | ⟨h1, h2, h3, _⟩
    · exact .inl ⟨h1, hblk _ h2⟩
    · exact .inr ⟨h1, h2, h3⟩
  have hle' : g'.le ⟨g'.im, fun id => if id < H1.next then g'.loc id else g.loc id⟩ := by
    refine ⟨fun _ _ _ h => h, fun id l hl => ?_⟩
    simp only
    split
    · exact hl
    · rename_i h1
      rw [hout id (by omega)] at hl
      split at hl
      · exact hl
      · cases hl
  have hle : g.le ⟨g'.im, fun id => if id < H1.next then g'.loc id else g.loc id⟩ := by
    refine ⟨hs.im, fun id l hl => ?_⟩
    simp only
    split
    · rename_i h1
      by_cases h2 : id < Hj.next
      · rw [hin id h2]; exact hl
      · rw [hno id (by omega) h1] at hl; cases hl
    · exact hl
  exact {
    rel := {
      im := hs.rel.im
      gl := hs.rel.gl
      obj := fun id l hl => by
        rcases two id l hl with ⟨h1, h2⟩ | ⟨h1, h2, h3, h4⟩
        · exact (h.rel.obj id l h1).keep hle (fun _ => hblk _ h2)
        · have := hs.rel.obj id l h3
          rw [hobj id h2] at this
          exact this.keep hle' (fun _ => rfl)
      dis := fun i j l l' hi hj hli hlj hb => by
        rcases two i l hli with ⟨h1, h2⟩ | ⟨h1, h2, h3, h4⟩ <;> rcases two j l' hlj with ⟨k1, k2⟩ | ⟨k1, k2, k3, k4⟩
        · exact h.rel.dis i j l l' hi hj h1 k1 hb
        · have := k4 hj; omega
        · have := h4 hi; omega
        · exact hs.rel.dis i j l l' (by rw [hobj i h2]; exact hi) (by rw [hobj j k2]; exact hj) h3 k3 hb
      dim := fun i l o hi hli => by
        rcases two i l hli with ⟨h1, h2⟩ | ⟨h1, h2, h3, h4⟩
        · have hn := h.rel.dim i l o hi h1
          cases hq : g'.im l.b o with
          | none => rfl
          | some u => exact absurd (hs.newim l.b o (by rw [hq]; simp) hn h2) (noW _)
        · exact hs.rel.dim i l o (by rw [hobj i h2]; exact hi) h3
      lt := fun i l hl => by
        rcases two i l hl with ⟨h1, h2⟩ | ⟨h1, h2, h3, h4⟩
        · exact Nat.lt_of_lt_of_le h2 hs.size
        · exact hs.rel.lt i l h3 }
    ok := h.ok
    im := fun b o u hu => hs.im b o u (h.im b o u hu)
    loc := fun id hid => by
      rw [← h.loc id hid]
      simp only
      split
      · rename_i h1; rw [hin id (by omega)]
      · rfl
    next := h.next
    low := h.low
    old := h.old
    mu := h.mu
    os := hs.os.trans h.os
    tape := hs.tape.trans h.tape
    output := hs.output.trans h.output
    size := Nat.le_trans h.size hs.size
    blocks := fun k hk hn => (hblk k (Nat.lt_of_lt_of_le hk h.size)).trans (h.blocks k hk hn)
    newb := fun id l h1 h2 h3 hb => by
      rcases two id l h3 with ⟨k1, k2⟩ | ⟨k1, k2, k3, k4⟩
      · exact h.newb id l h1 h2 k1 hb
      · have := k4 h2; have := h.size; omega
    newim := fun b o h1 h2 hb => by
      cases hq : g.im b o with
      | none => exact absurd (hs.newim b o h1 hq (Nat.lt_of_lt_of_le hb h.size)) (noW _)
      | some u => exact h.newim b o (by rw [hq]; simp) h2 hb }

theorem wantB_congr {ops : Array Oper} (h : ∀ d, d ∈ o.looksAt ops → gt e d = gt e' d) : wantB ops.toList e o = wantB ops.toList e' o := by
  unfold wantB
  cases hg : o.guard with
  | none => rfl
  | some jw =>
    obtain ⟨j, want⟩ := jw
    simp only
    cases hj : ops[j]? with
    | none => simp [hj]
    | some oj =>
      have : ops.toList[j]? = some oj := by simpa using hj
      rw [this]
      simp only
      cases hd : oj.dst with
      | none => rfl
      | some d =>
        simp only
        rw [h d (by simp [Oper.looksAt, hg, hj, hd])]

def dstOf (ops : Array Oper) (k : Nat) : Option Tmp := (ops[k]?).bind (·.dst)

variable {ops : Array Oper} {bs : List Nat} {t : Nat} {E : Nat → Env} {Hs : Nat → Hp} {vs : Nat → V}

theorem run_es (hq : QRun cx call ops t E Hs vs) (hle : t ≤ ops.size) : ∀ i, i ≤ t → E i = es (dstOf ops) vs (E 0) (fun _ => true) i
  | 0, _ => rfl
  | i + 1, h => by
    have hoi : ops[i]? = some ops[i] := by simp [Nat.lt_of_lt_of_le h hle]
    have hd : dstOf ops i = ops[i].dst := by simp [dstOf, hoi]
    rw [hq.env i _ h hoi, run_es hq hle i (by omega)]
    simp [es, hd]

structure Inv (cx : Cx) (ops : Array Oper) (t : Nat) (E : Nat → Env) (Hs : Nat → Hp) (vs : Nat → V) (g0 : G) (w0 : World) (S : Nat → Bool) (g : G) (w : World) (a : Act) : Prop where
  st : St cx g0 (Hs 0) w0 g (Hs t) w
  no : ∀ i, i < t → S i = false → ∀ id, (Hs i).next ≤ id → id < (Hs (i + 1)).next → g.loc id = none
  sz : a.tmps.size = (E 0).length
  ob : ∀ k, k ≤ t → ∀ id l, id < (Hs k).next → g.loc id = some l → ObjR (lowG g (Hs t).next (Hs k).next) w l ((Hs t).obj id)
  hv : ∀ d j, j ≤ t → (∀ i, i < t → S i = true → dstOf ops i = some d → i < j) → VR (lowG g (Hs t).next (Hs j).next) (gt (es (dstOf ops) vs (E 0) S t) d) (a.tmps.getD d Go.undef)

theorem Inv.env {g0 : G} {w0 : World} {S : Nat → Bool} (h : Inv cx ops t E Hs vs g0 w0 S g w a) : EnvR g (es (dstOf ops) vs (E 0) S t) a.tmps :=
  ⟨by rw [h.sz, es_len], fun d => (h.hv d t (Nat.le_refl _) (fun i hi _ _ => hi)).mono lowG_le⟩

theorem Inv.put {g0 : G} {w0 : World} {S : Nat → Bool} (hN : NextOK call) (hq : QRun cx call ops t E Hs vs) (hD : DrawnOK ops bs t) (h : Inv cx ops t E Hs vs g0 w0 S g w a) {j : Nat} {oj : Oper} (hj : j < t) (hSj : S j = false) (hoj : ops[j]? = some oj)
    {g'' : G} {w' : World} {c : Value} (hst : St cx g0 (Hs 0) w0 g'' (Hs t) w') (hle : g.le g'') (hno : ∀ i, i < t → i ≠ j → S i = false → ∀ id, (Hs i).next ≤ id → id < (Hs (i + 1)).next → g''.loc id = none)
    (hob : ∀ k, k ≤ t → ∀ id l, id < (Hs k).next → g''.loc id = some l → ObjR (lowG g'' (Hs t).next (Hs k).next) w' l ((Hs t).obj id)) (hc : VR (lowG g'' (Hs t).next (Hs (j + 1)).next) (vs j) c) : Inv cx ops t E Hs vs g0 w0 (fun i => i == j || S i) g'' w' (a.put oj.dst c) := by
  have hdj : dstOf ops j = oj.dst := by simp [dstOf, hoj]
  refine ⟨hst, ?_, ?_, hob, ?_⟩
  · intro i hi hS
    simp only [Bool.or_eq_false_iff, beq_eq_false_iff_ne] at hS
    exact hno i hi hS.1 hS.2
  · cases hd : oj.dst <;> simp [Act.put, h.sz]
  · intro d k hk hall
    rw [es_set (dstOf ops) vs (E 0) hSj t, put_getD]
    · rw [hdj, h.sz]
      by_cases hd : oj.dst = some d ∧ d < (E 0).length
      · rw [if_pos ⟨hj, hd⟩, if_pos hd]
        have hjk : j < k := hall j hj (by simp) (by rw [hdj]; exact hd.1)
        exact hc.mono (lowG_up (hq.next_le hN hD.le k hjk hk))
      · rw [if_neg (fun h => hd h.2), if_neg hd]
        exact (h.hv d k hk (fun i hi hS => hall i hi (by simp [hS]))).mono (lowG_mono hle _ _)
    · intro i hi hij hid
      have hio : i < ops.size := Nat.lt_of_lt_of_le hi hD.le
      have hoi : ops[i]? = some ops[i] := by simp [hio]
      rw [hdj]
      exact hD.one i j _ oj d hoi hoj hi hj hij (by simpa [dstOf, hoi] using hid)

theorem Inv.step {g0 : G} {w0 : World} {S : Nat → Bool} (hT : TYok P cx) (hC : CallOK cx P call) (hN : NextOK call) (hq : QRun cx call ops t E Hs vs) (hD : DrawnOK ops bs t) (hF : ∀ k, k < t → Fact Hs k) (h0 : Hok (Hs 0)) (h : Inv cx ops t E Hs vs g0 w0 S g w a) {j : Nat} {oj : Oper} (hj : j < t) (hSj : S j = false) (hoj : ops[j]? = some oj)
    (hb1 : ∀ i, i < j → (bs.getD j 0).testBit i = true → S i = true) (hb2 : ∀ i, j < i → i < t → S i = true → (bs.getD i 0).testBit j = true → False) {ro : Option Nat} {K : Act → World → Prop} {Q : Exit → Act → World → Prop}
    (hk : ∀ g' w' a', Inv cx ops t E Hs vs g0 w0 (fun i => i == j || S i) g' w' a' → a'.defers = a.defers → K a' w') : wpOpIn (RF ro) 0 P ops Q j K a w := by
  have look : ∀ d, d ∈ oj.looksAt ops → ∀ i, i < t → dstOf ops i = some d → S i = decide (i < j) := by
    intro d hd i hi hid
    have hio : i < ops.size := Nat.lt_of_lt_of_le hi hD.le
    have hoi : ops[i]? = some ops[i] := by simp [hio]
    by_cases hij : i = j
    · subst hij; simp [hSj]
    · have hr := hD.read i j _ oj d hoi hoj hi hj hij (by simpa [dstOf, hoi] using hid) hd
      by_cases hlt : i < j
      · rw [if_pos hlt] at hr
        simp [hlt, hb1 i hlt hr]
      · rw [if_neg hlt] at hr
        cases hSi : S i with
        | false => simp [hlt]
        | true => exact (hb2 i (by omega) hi hSi hr).elim
  have hgt : ∀ d, d ∈ oj.looksAt ops → gt (es (dstOf ops) vs (E 0) S t) d = gt (E j) d := by
    intro d hd
    rw [es_agree (dstOf ops) vs (E 0) t (S' := fun i => decide (i < j)) (fun i hi hid => look d hd i hi hid), es_below, show min t j = j by omega, ← run_es hq hD.le j (by omega)]
  have hlen : (E j).length = a.tmps.size := by rw [run_es hq hD.le j (by omega), es_len, h.sz]
  have hwant : wantB ops.toList (es (dstOf ops) vs (E 0) S t) oj = wantB ops.toList (E j) oj := wantB_congr hgt
  unfold wpOpIn
  simp only [hoj]
  rcases hq.step j oj hj hoj with ⟨hw, H1, h1, h2⟩ | ⟨hw, hv, h2⟩
  · rw [if_pos (wantB_ok h.env (hwant.trans hw))]
    have hopmem : ∀ d, .tmp d ∈ oj.op.operands → d ∈ oj.looksAt ops := by
      intro d hd
      unfold Oper.looksAt
      refine List.mem_append_left _ (List.mem_filterMap.2 ⟨.tmp d, by simpa using hd, rfl⟩)
    have hnd : ∀ c, oj.op ≠ .defer c := by
      intro c hs
      simp [evOp, hs] at h1
    have hns : ∀ cs b, oj.op ≠ .select cs b := by
      intro cs b hs
      simp [evOp, hs] at h1
    generalize hX : es (dstOf ops) vs (E 0) S t = X at *
    let n := a.tmps.size
    let looks := oj.looksAt ops
    let me : Env := ((List.range n).map fun d => if d ∈ looks then gt X d else .p .undef) ++ [.p .undef]
    let ma : Array Value := (((List.range n).map fun d => if d ∈ looks then a.tmps.getD d Go.undef else Go.undef) ++ [Go.undef]).toArray
    have gtm : ∀ i, gt me i = if i < n ∧ i ∈ looks then gt X i else .p .undef := by
      intro i
      rw [gt_eq, List.getD_eq_getElem?_getD]
      by_cases hi : i < n
      · rw [List.getElem?_append_left (by simpa using hi)]
        simp [hi]
      · rw [List.getElem?_append_right (by simpa using Nat.le_of_not_lt hi), if_neg (fun h => hi h.1)]
        simp only [List.length_map, List.length_range]
        cases i - n <;> rfl
    have gam : ∀ i, ma.getD i Go.undef = if i < n ∧ i ∈ looks then a.tmps.getD i Go.undef else Go.undef := by
      intro i
      show (List.toArray _).getD i Go.undef = _
      rw [Array.getD_eq_getD_getElem?, List.getElem?_toArray]
      by_cases hi : i < n
      · rw [List.getElem?_append_left (by simpa using hi)]
        simp [hi]
      · rw [List.getElem?_append_right (by simpa using Nat.le_of_not_lt hi), if_neg (fun h => hi h.1)]
        simp only [List.length_map, List.length_range]
        cases i - n <;> rfl
    have hXn : ∀ d, ¬ d < n → gt (E j) d = .p .undef := by
      intro d hd
      rw [gt_eq, List.getD_eq_getElem?_getD, List.getElem?_eq_none (by rw [hlen]; exact Nat.le_of_not_lt hd)]; rfl
    have han : ∀ d, ¬ d < n → a.tmps.getD d Go.undef = Go.undef := by
      intro d hd
      rw [Array.getD_eq_getD_getElem?, Array.getElem?_eq_none (Nat.le_of_not_lt hd)]; rfl
    have hev : ∀ x ∈ oj.op.operands, evx cx me x = evx cx (E j) x := by
      intro x hx
      cases x with
      | tmp d =>
        simp only [evx, gtO_eq, Option.some.injEq]
        rw [gtm]
        by_cases hd : d < n
        · rw [if_pos ⟨hd, hopmem d hx⟩, hgt d (hopmem d hx)]
        · rw [if_neg (fun h => hd h.1), hXn d hd]
      | _ => rfl
    have hea : ∀ x ∈ oj.op.operands, (⟨ma, a.defers⟩ : Act).eval x = a.eval x := by
      intro x hx
      cases x with
      | tmp d =>
        show ma.getD d Go.undef = a.tmps.getD d Go.undef
        rw [gam]
        by_cases hd : d < n
        · rw [if_pos ⟨hd, hopmem d hx⟩]
        · rw [if_neg (fun h => hd h.1), han d hd]
      | _ => rfl
    have hgn : n < ma.size := by simp [ma]
    have hobt : ∀ id, id < (Hs j).next → (Hs t).obj id = (Hs j).obj id := Fact.obj hN hq hD.le hF t (by omega) (Nat.le_refl _)
    have hok := Fact.hok hF h0
    have hnt : (Hs (j + 1)).next ≤ (Hs t).next := hq.next_le hN hD.le t (by omega) (Nat.le_refl _)
    have hnj : (Hs j).next ≤ (Hs (j + 1)).next := hq.next hN hD.le j hj
    have hn0 : (Hs 0).next ≤ (Hs j).next := hq.next_le hN hD.le j (by omega) (by omega)
    have hmenv : EnvR (lowG g (Hs t).next (Hs j).next) me ma := by
      refine ⟨by simp [me, ma], fun d => ?_⟩
      rw [gtm, gam]
      by_cases hd : d < n ∧ d ∈ looks
      · rw [if_pos hd, if_pos hd, ← hX]
        exact h.hv d j (by omega) (fun i hi hS hid => by
          have := look d hd.2 i hi hid
          rw [hS] at this
          simpa using this.symm)
      · rw [if_neg hd, if_neg hd]; exact .p .undef
    have hrel : Rel cx (lowG g (Hs t).next (Hs j).next) { Hs j with low := (Hs j).next } w := by
      refine ⟨h.st.rel.im, h.st.rel.gl, fun id l hl => ?_, fun i k l l' hi hk hli hlk => ?_, fun i l o hi hl => ?_, fun i l hl => h.st.rel.lt i l (lowG_loc hl).2⟩
      · obtain ⟨hid, hl'⟩ := lowG_loc hl
        show ObjR _ _ _ ((Hs j).obj id)
        rcases Nat.lt_or_ge id (Hs j).next with h3 | h3
        · have ho := h.ob j (by omega) id l h3 hl'
          rw [hobt id h3] at ho
          exact ho
        · rw [(hok j (by omega)).gone id h3]; simp only [ObjR]
      · have hi' : i < (Hs j).next := by
          rcases Nat.lt_or_ge i (Hs j).next with h3 | h3
          · exact h3
          · have hi2 : ((Hs j).obj i).mu = true := hi
            rw [(hok j (by omega)).gone i h3] at hi2; cases hi2
        have hk' : k < (Hs j).next := by
          rcases Nat.lt_or_ge k (Hs j).next with h3 | h3
          · exact h3
          · have hi2 : ((Hs j).obj k).mu = true := hk
            rw [(hok j (by omega)).gone k h3] at hi2; cases hi2
        exact h.st.rel.dis i k l l' (by rw [hobt i hi']; exact hi) (by rw [hobt k hk']; exact hk) (lowG_loc hli).2 (lowG_loc hlk).2
      · have hi' : i < (Hs j).next := by
          rcases Nat.lt_or_ge i (Hs j).next with h3 | h3
          · exact h3
          · have hi2 : ((Hs j).obj i).mu = true := hi
            rw [(hok j (by omega)).gone i h3] at hi2; cases hi2
        exact h.st.rel.dim i l o (by rw [hobt i hi']; exact hi) (lowG_loc hl).2
    have hnH : H1.next = (Hs (j + 1)).next := by rw [h2]
    have hfree : Free (lowG g (Hs t).next (Hs j).next) { Hs j with low := (Hs j).next } (Rz.ok (vs j) H1).hp := by
      intro id ha hb
      simp only [Rz.hp] at ha hb
      simp only [lowG]
      rw [if_neg (by omega)]
    have hcong : evOp cx call { oj with dst := some n } me { Hs j with low := (Hs j).next } = some (.ok (vs j) H1) := by
      rw [← h1, ← evOp_congr hev]
      rfl
    have hexec : execOp (⟨ma, a.defers⟩ : Act).eval { oj with dst := some n } = execOp a.eval oj := by
      rw [← execOp_congr oj hns hea]
      rfl
    refine wp_via (a2 := ⟨ma, a.defers⟩) hgn hnd hexec (R := fun c w' => ∃ g', St cx (lowG g (Hs t).next (Hs j).next) { Hs j with low := (Hs j).next } w g' H1 w' ∧ VR g' (vs j) c) ?_ ?_
    · refine evOp_sound (g := lowG g (Hs t).next (Hs j).next) (H := { Hs j with low := (Hs j).next }) (a := ⟨ma, a.defers⟩) hT hC hrel ⟨(hok j (by omega)).gone, Nat.le_refl _⟩ hmenv hfree hcong ?_ ?_
      · rintro v' H'' c g' w' hqq hst hv
        cases hqq
        refine ⟨by simp, ?_⟩
        rw [put_getD, if_pos ⟨rfl, hgn⟩]
        exact ⟨g', hst, hv⟩
      · rintro v' H'' c g' w' hqq; cases hqq
    · rintro c w' ⟨g', hst, hv⟩
      have hobj1 : ∀ id, id < H1.next → H1.obj id = (Hs t).obj id := by
        intro id hid
        rw [Fact.obj hN hq hD.le hF (i := j + 1) t (by omega) (Nat.le_refl _) id (by omega), h2]
      obtain ⟨g'', s1, s2, s3, s4, s5⟩ := St.out (Hj := { Hs j with low := (Hs j).next }) h.st hst rfl (hok j (by omega)).gone hobj1 (by omega) hn0 (fun id ha hb => h.no j hj hSj id ha (by rw [← hnH]; exact hb))
      refine hk g'' w' _ (h.put hN hq hD hj hSj hoj s1 s2 ?_ ?_ ?_) (by simp)
      · intro i hi hij hSi id ha hb
        rw [s3 id ?_]
        · exact h.no i hi hSi id ha hb
        · by_cases hlt : i < j
          · have := hq.next_le hN hD.le (i := i + 1) j (by omega) (by omega)
            exact .inl (by simp only; omega)
          · have := hq.next_le hN hD.le (i := j + 1) i (by omega) (by omega)
            exact .inr (by omega)
      · intro k hkt id l hid hl
        rcases s5 id l hl with ⟨k1, k2⟩ | ⟨k1, k2, k3⟩
        · exact (h.ob k hkt id l hid k1).keep (lowG_mono s2 _ _) (fun _ => k2)
        · have ho := hst.rel.obj id l k3
          rw [hobj1 id k2] at ho
          have hjk : j < k := by
            rcases Nat.lt_or_ge j k with h3 | h3
            · exact h3
            · have := hq.next_le hN hD.le (i := k) j h3 (by omega)
              simp only at k1
              omega
          have hle2 := hq.next_le hN hD.le (i := j + 1) k hjk hkt
          refine ho.keep (s4.trans ?_) (fun _ => rfl)
          rw [hnH]
          exact lowG_up hle2
      · rw [← hnH]; exact hv.mono s4
  · rw [if_neg (by rw [wantB_ok h.env (hwant.trans hw)]; simp)]
    refine ⟨fun _ _ => trivial, ?_⟩
    refine hk g w _ (h.put hN hq hD hj hSj hoj h.st (G.le.refl g) (fun i hi _ hS => h.no i hi hS) h.ob ?_) (by simp)
    rw [hv]; exact .p .undef

end
end Go.Ev
