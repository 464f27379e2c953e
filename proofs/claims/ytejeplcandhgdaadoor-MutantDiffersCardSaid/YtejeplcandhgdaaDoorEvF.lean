/- Each operation of the machine does what 'evOp' says. Part 4: slices, fields, assertions, maps; what makes memory. -/
import Derived.Test.YtejeplcandhgdaaDoorEvE
set_option linter.unusedVariables false
set_option linter.unusedSimpArgs false
namespace Go.Ev

section
variable {cx : Cx} {P : Program} {g : G} {H H' : Hp} {w : World} {e : Env} {a : Act} {o : Oper} {call : CallT} {v : V}

theorem optInt_ok (hr : Rel cx g H w) (he : EnvR g e a.tmps) {x : Option Operand} {r : Option Int} (h : optInt cx e x = some r) :
    (r = none ∧ x.map a.eval = none) ∨ ∃ k n, r = some n ∧ x.map a.eval = some (.int k n) := by
  cases x with
  | none => simp [optInt] at h; subst h; exact .inl ⟨rfl, rfl⟩
  | some x =>
    simp only [optInt] at h
    split at h
    · rename_i u hu
      split at h
      · rename_i n hn
        injection h with h; subst h
        unfold intOf? at hn
        split at hn
        · rename_i k m
          injection hn with hn; subst hn
          exact .inr ⟨k, m, rfl, by simp [(evx_ok hr he hu).int]⟩
        · cases hn
      · cases h
    · cases h

/-- The bounds of 's[lo:hi]', where they fit. -/
theorem bounds_ok {lo hi : Option Int} {x y : Option Value} (hl : (lo = none ∧ x = none) ∨ ∃ k n, lo = some n ∧ x = some (.int k n)) (hh : (hi = none ∧ y = none) ∨ ∃ k n, hi = some n ∧ y = some (.int k n))
    (b : Bool) (n cap : Nat) (h1 : 0 ≤ lo.getD 0) (h2 : lo.getD 0 ≤ hi.getD n) (h3 : hi.getD n ≤ n) (hn : n ≤ cap) (w : World) :
    (Instr.sliceBounds b n cap x y none).run P w = .ok ((lo.getD 0).toNat, (hi.getD n).toNat, cap) w := by
  rcases hh with ⟨rfl, rfl⟩ | ⟨k, m, rfl, rfl⟩ <;> rcases hl with ⟨rfl, rfl⟩ | ⟨k', m', rfl, rfl⟩
  · simp [Instr.sliceBounds]
  · have a1 : 0 ≤ m' := h1
    have a2 : m' ≤ (n : Int) := h2
    simp [Instr.sliceBounds, Instr.sliceBound, asIntOf, a1, a2]
  · have a2 : 0 ≤ m := h2
    have a3 : m ≤ (n : Int) := h3
    have a4 : m ≤ (cap : Int) := by omega
    simp [Instr.sliceBounds, Instr.sliceBound, asIntOf, a2, a4]
  · have a1 : 0 ≤ m' := h1
    have a2 : m' ≤ m := h2
    have a3 : m ≤ (n : Int) := h3
    have a4 : m ≤ (cap : Int) := by omega
    have a5 : 0 ≤ m := by omega
    have a6 : m' ≤ (m.toNat : Int) := by omega
    simp [Instr.sliceBounds, Instr.sliceBound, asIntOf, a1, a4, a5, a6]
    intro hx
    omega

theorem Rows.drop {im : Nat → Nat → Option Value} {xs : List PV} {b o sz : Nat} {us : Nat → Nat → Value} (h : Rows im xs b o sz us) (k n : Nat) (hk : k + n ≤ xs.length) :
    Rows im ((xs.drop k).take n) b (o + k * sz) sz (fun i f => us (k + i) f) where
  hs := fun i x hx => by
    rw [List.getElem?_take] at hx
    split at hx
    · rw [List.getElem?_drop] at hx; exact h.hs _ _ hx
    · cases hx
  hi := fun i f hi hf => by
    simp at hi
    have := h.hi (k + i) f (by omega) hf
    rw [← this, Nat.add_mul]
    congr 1
    omega
  h1 := fun i f hi hf => by
    simp at hi
    exact h.h1 (k + i) f (by omega) hf
  hv := fun i x f y hx hy => by
    rw [List.getElem?_take] at hx
    split at hx
    · rw [List.getElem?_drop] at hx; exact h.hv _ _ _ _ hx hy
    · cases hx

theorem slice_ok (hT : TYok P cx) (hr : Rel cx g H w) (ho : Hok H) (he : EnvR g e a.tmps) {t : TypeId} {x : Operand} {lo hi mx : Option Operand} (hop : o.op = .slice t x lo hi mx) (h : evOp cx call o e H = some (.ok v H')) : Does cx P o a g H w v H' := by
  cases mx with
  | some m =>
    simp only [evOp, hop] at h
    split at h
    · rename_i d u lo' hi' mx' hd hu hlo hhi hmx
      have hv := evx_ok hr he hu
      have hl := optInt_ok hr he hlo
      have hh := optInt_ok hr he hhi
      have hm := optInt_ok hr he hmx
      split at h
      · rename_i el hde
        split at h
        · rename_i hc
          obtain ⟨hc1, rfl, rfl⟩ := hc
          split at h
          · rename_i de k hel hlen
            injection h with h; injection h with h1 h2; subst h1; subst h2
            have hsl : ∃ ad cap, a.eval x = .slice ad k cap := by
              unfold lenV at hlen
              split at hlen
              · injection hlen with hlen; subst hlen; obtain ⟨ad, hq⟩ := hv.pp.nils_inv; exact ⟨ad, 0, hq⟩
              · rename_i xs; injection hlen with hlen; subst hlen
                rcases hv.pp.sl_inv with ⟨rfl, ad, k, hq⟩ | ⟨b, oo, sz, us, cap, _, _, hq⟩
                · exact ⟨_, _, hq⟩
                · exact ⟨_, _, hq⟩
              · injection hlen with hlen; subst hlen; obtain ⟨l, _, _, hq⟩ := hv.own_inv; exact ⟨_, _, hq⟩
              · cases hlen
            obtain ⟨ad, cap, hq⟩ := hsl
            refine does_pure hr ho (c := .slice ad 0 0) ?_ (.p (.nils ad))
            simp only [execOp, hop]
            rw [hq]
            refine run_v _ ?_
            have hb : (Instr.sliceBounds true k cap (lo.map a.eval) (hi.map a.eval) ((some m).map a.eval)).run P w = .ok (0, 0, 0) w := by
              rcases hh with ⟨hh, _⟩ | ⟨k1, n1, hh, hh2⟩
              · cases hh
              · cases hh
                rcases hm with ⟨hm, _⟩ | ⟨k2, n2, hm, hm2⟩
                · cases hm
                · cases hm
                  rw [hh2, hm2]
                  rcases hl with ⟨rfl, hl2⟩ | ⟨k3, n3, rfl, hl2⟩
                  · rw [hl2]; simp [Instr.sliceBounds, Instr.sliceBound, asIntOf]
                  · have : n3 = 0 := hc1
                    subst this
                    rw [hl2]; simp [Instr.sliceBounds, Instr.sliceBound, asIntOf]
            unfold Instr.sliceAt
            rw [Sem.run_bind, hT.und hd, Result.andThen_ok, hde]
            simp only [Instr.slice]
            rw [Sem.run_bind, hT.und hd, Result.andThen_ok, hde]
            simp only
            rw [Sem.run_bind, hb, Result.andThen_ok]
            simp only [Sem.run_bind, hT.sizeOf hel, Result.andThen_ok, Sem.run_pure, if_true, Nat.sub_self]
          · cases h
        · cases h
      · cases h
    · cases h
  | none =>
  simp only [evOp, hop] at h
  split at h
  · rename_i d u lo' hi' hd hu hlo hhi
    have hv := evx_ok hr he hu
    have hl := optInt_ok hr he hlo
    have hh := optInt_ok hr he hhi
    split at h
    · rename_i n el xs hde
      split at h
      · rename_i hc
        obtain ⟨hn, rfl, rfl, hpos⟩ := hc
        split at h
        · rename_i de hel
          injection h with h; injection h with h1 h2; subst h1; subst h2
          obtain ⟨b, oo, sz, us, hR, hq⟩ := hv.pp.sptr_inv
          obtain ⟨_, hl⟩ | ⟨_, _, hl, _⟩ := hl
          · obtain ⟨_, hh⟩ | ⟨_, _, hh, _⟩ := hh
            · refine does_pure hr ho (c := .slice (some ⟨b, oo, none⟩) n n) ?_ (.p (by subst hn; exact hR.sl (Nat.le_refl _)))
              simp only [execOp, hop]
              rw [hl, hh, hq]
              refine run_v _ ?_
              unfold Instr.sliceAt
              rw [Sem.run_bind, hT.und hd, Result.andThen_ok, hde]
              simp only [Sem.run_bind, Instr.sureAddr, Sem.run_pure, Result.andThen_ok, Instr.sliceBounds, Option.map_none, hT.sizeOf hel]
              have : ¬ n = 0 := by omega
              simp [this, Addr.add_lit]
            · cases hh
          · cases hl
        · cases h
      · cases h
    · rename_i u' el hde
      split at h
      · rename_i de r hel hcut
        injection h with h; injection h with h1 h2; subst h1; subst h2
        have hrun : ∀ ad n cap, a.eval x = .slice ad n cap → 0 ≤ lo'.getD 0 → lo'.getD 0 ≤ hi'.getD n → hi'.getD n ≤ n → n ≤ cap →
            (execOp a.eval o).run P w = .ok (.value (.slice (if cap = (lo'.getD 0).toNat then ad else ad.map (·.add ((lo'.getD 0).toNat * de.size))) ((hi'.getD n).toNat - (lo'.getD 0).toNat) (cap - (lo'.getD 0).toNat))) w := by
          intro ad n cap h1 h2 h3 h4 h5
          simp only [execOp, hop]
          rw [h1]
          refine run_v _ ?_
          unfold Instr.sliceAt
          rw [Sem.run_bind, hT.und hd, Result.andThen_ok, hde]
          simp only [Instr.slice]
          rw [Sem.run_bind, hT.und hd, Result.andThen_ok, hde]
          simp only [Option.map_none]
          rw [Sem.run_bind, bounds_ok hl hh true n cap h2 h3 h4 h5 w, Result.andThen_ok]
          simp only [Sem.run_bind, hT.sizeOf hel, Result.andThen_ok, Sem.run_pure]
        unfold evCut at hcut
        split at hcut
        all_goals (try dsimp only at hcut)
        · split at hcut
          · rename_i hb
            injection hcut with hcut; subst hcut
            obtain ⟨ad, hq⟩ := hv.pp.nils_inv
            have := hrun ad 0 0 hq hb.1 hb.2.1 (by simpa using hb.2.2) (Nat.le_refl _)
            have e1 : (lo'.getD 0).toNat = 0 := by have := hb.1; have := hb.2.1; have := hb.2.2; omega
            rw [e1] at this
            have e2 : (hi'.getD ((0 : Nat) : Int)).toNat = 0 := by have := hb.2.2; simp; omega
            rw [e2] at this
            exact does_pure hr ho this (.p (.nils _))
          · cases hcut
        · rename_i xs
          split at hcut
          · rename_i hb
            obtain ⟨b1, b2, b3⟩ := hb
            rcases hv.pp.sl_inv with ⟨rfl, ad, k, hq⟩ | ⟨b, oo, sz, us, cap, hR, hc, hq⟩
            · have := hrun ad 0 k hq b1 (by simpa using b2) (by simpa using b3) (Nat.zero_le _)
              have e2 : (hi'.getD ((0 : Nat) : Int)).toNat - (lo'.getD 0).toNat = 0 := by simp at b2 b3 ⊢; omega
              rw [e2] at this
              have hvv : r = V.p (PV.sl []) := by
                split at hcut
                · injection hcut with hcut; exact hcut.symm
                · simp [rdl] at hcut
              subst hvv
              exact does_pure hr ho this (.p (.sl0 _ _))
            · have hr2 := hrun _ xs.length cap hq b1 b2 b3 hc
              split at hcut
              · rename_i heq
                injection hcut with hcut; subst hcut
                have e2 : (hi'.getD (xs.length : Int)).toNat - (lo'.getD 0).toNat = 0 := by omega
                rw [e2] at hr2
                exact does_pure hr ho hr2 (.p (.sl0 _ _))
              · rename_i hne
                split at hcut
                · rename_i z hz
                  split at hcut
                  · rename_i hsz
                    injection hcut with hcut; subst hcut
                    obtain ⟨de', hde', hds⟩ := elemSz_ok hsz
                    have : de' = de := by rw [hel] at hde'; injection hde' with hde'; exact hde'.symm
                    subst this
                    simp only [rdl] at hz
                    have hss := hR.hs _ _ hz
                    have hlt := (List.getElem?_eq_some_iff.1 hz).1
                    rw [if_neg (by omega), hds, hss] at hr2
                    simp only [Option.map_some, Addr.add_lit] at hr2
                    have hRd := hR.drop (lo'.getD 0).toNat ((hi'.getD (xs.length : Int)).toNat - (lo'.getD 0).toNat) (by omega)
                    have hlen : ((xs.drop (lo'.getD 0).toNat).take ((hi'.getD (xs.length : Int)).toNat - (lo'.getD 0).toNat)).length = (hi'.getD (xs.length : Int)).toNat - (lo'.getD 0).toNat := by
                      simp; omega
                    have hP := hRd.sl (cap := cap - (lo'.getD 0).toNat) (by rw [hlen]; omega)
                    rw [hlen] at hP
                    exact does_pure hr ho hr2 (.p hP)
                  · cases hcut
                · cases hcut
          · cases hcut
        · rename_i id off n
          split at hcut
          · rename_i hb
            obtain ⟨b1, b2, b3⟩ := hb
            injection hcut with hcut; subst hcut
            obtain ⟨l, hl', hcap, hq⟩ := hv.own_inv
            have hr2 := hrun _ n (l.cap - off) hq (by omega) b2 b3 (by omega)
            rw [← b1] at hr2
            simp only [Int.toNat_zero, Nat.zero_mul, Nat.sub_zero, Option.map_some, Addr.add_zero', ite_self] at hr2
            refine does_pure hr ho hr2 (.own hl' (by omega))
          · cases hcut
        · cases hcut
      · cases h
    · rename_i s hde
      split at h
      · rename_i r hcut
        injection h with h; injection h with h1 h2; subst h1; subst h2
        unfold evCutS at hcut
        simp only at hcut
        split at hcut
        · rename_i hb
          injection hcut with hcut; subst hcut
          have hs := hv.str
          refine does_pure hr ho (c := .string _) ?_ .mkStr
          simp only [execOp, hop]
          rw [hs]
          refine run_v _ ?_
          unfold Instr.sliceAt
          rw [Sem.run_bind, hT.und hd, Result.andThen_ok, hde]
          simp only [Instr.slice]
          rw [Sem.run_bind, hT.und hd, Result.andThen_ok, hde]
          simp only [Option.map_none, Option.isSome_none, Bool.false_eq_true, if_false]
          simp only [Sem.run_bind, Sem.run_pure, Result.andThen_ok, bounds_ok hl hh false s.size s.size hb.1 hb.2.1 hb.2.2 (Nat.le_refl _) w]
        · cases hcut
      · cases h
    · cases h
  · cases h

end
end Go.Ev
