/- Rules: ranges over functions; rounds; heaps of which a part is not known. -/
import Derived.Test.YtejeplcandhgdaaDoorKe
set_option linter.unusedVariables false
set_option linter.unusedSimpArgs false
namespace Go.Ev

section
variable {cx : Cx} {H0 : Hp} {I : List Nat} {ro : Bool} {n : Nat} {K : KX} {s : List Fr} {L : SE} {M M1 M2 : List Ent} {H : Hp} {q : Option (List Oper)} {all r : List Oper} {o : Oper} {v : V}

/-- All that is known, handed over and back. -/
theorem HA.whole (hH : HA H0 I M H) : ∃ I1, HA H I1 M H ∧ ∀ {M2 : List Ent} {H' : Hp}, HA H I1 M2 H' → HA H0 I M2 H' := by
  obtain ⟨f, hf⟩ := hH
  have hin : ∀ p, p ∈ (List.range M.length).filterMap f → ∃ k, f k = some p := fun p hp => by
    obtain ⟨k, _, hp'⟩ := List.mem_filterMap.1 hp; exact ⟨k, hp'⟩
  refine ⟨(List.range M.length).filterMap f, ⟨f, ⟨hf.ent, hf.out, hf.inj, fun k p hp => ⟨(hf.rng k p hp).1, (hf.rng k p hp).2.1, .inl ?_⟩, rfl, Nat.le_refl _, hf.ln, fun _ _ _ => rfl⟩⟩, ?_⟩
  · have hk : k < M.length := by
      rcases Nat.lt_or_ge k M.length with h | h
      · exact h
      · rw [hf.out k h] at hp; cases hp
    exact List.mem_filterMap.2 ⟨k, by simpa using hk, hp⟩
  · rintro M2 H' ⟨g, hg⟩
    refine ⟨g, ⟨hg.ent, hg.out, hg.inj, fun k p hp => ⟨(hg.rng k p hp).1, (hg.rng k p hp).2.1, ?_⟩, hg.low.trans hf.low, Nat.le_trans hf.next hg.next, hg.ln, fun i hi hI => ?_⟩⟩
    · rcases (hg.rng k p hp).2.2 with h1 | h1
      · obtain ⟨k', hk'⟩ := hin p h1; exact (hf.rng k' p hk').2.2
      · exact .inr (Nat.le_trans hf.next h1)
    · rw [hg.frame i (Nat.lt_of_lt_of_le hi hf.next) (fun hm => by
        obtain ⟨k', hk'⟩ := hin i hm
        rcases (hf.rng k' i hk').2.2 with h1 | h1
        · exact hI h1
        · omega)]
      exact hf.frame i hi hI
theorem HA.left (hH : HA H0 I (M ++ M1) H) : HA H0 I M H := by
  obtain ⟨f, hf⟩ := hH
  refine ⟨fun k => if k < M.length then f k else none, ⟨fun k E hk => ?_, fun k hk => by rw [if_neg (by omega)], fun j k p hj hk => ?_, fun k p hk => ?_, hf.low, hf.next, hf.ln, hf.frame⟩⟩
  · have hl := HAf.mem hk
    simp only [if_pos hl]
    exact hf.ent k E (by rw [List.getElem?_append_left hl]; exact hk)
  · split at hj <;> split at hk <;> first | exact hf.inj j k p hj hk | cases hj | cases hk
  · split at hk
    · exact hf.rng k p hk
    · cases hk
theorem SX.left {x : Ex} (k : SX cx H0 I ro n x s L M K) : SX cx H0 I ro n x s L (M ++ M1) K := fun e H he hH => k e H he hH.left
theorem SO.left {l : List Oper} (k : SO cx H0 I ro n q all l s L M K) : SO cx H0 I ro n q all l s L (M ++ M1) K := fun e H he hH => k e H he hH.left
/-- A call that may turn all that is known. -/
theorem SO.tfw {d : Nat} {t : Tg} {args : List V} {R : V → List Ent → Prop} (hd : okS n all L o = some d) (hc : callS cx L o.op = some (t, args)) (h : TF cx t args M R)
    (k : ∀ v M2, R v M2 → SO cx H0 I ro n none all r s ((d, v) :: L) M2 K) : SO cx H0 I ro n none all (o :: r) s L M K := by
  refine SO.callR R hd hc (fun H hH => ?_) k
  obtain ⟨I1, h1, h2⟩ := hH.whole
  exact EF.mono (h H I1 h1) (by rintro rz ⟨v, H', M2, hz, h3, hR⟩; exact ⟨v, H', _, hz, h2 h3, hR⟩)
/-- A new variable, beside what is not known. -/
theorem SO.nwA {d : Nat} {cs0 cs : List V} (hd : okS n all L o = some d) (h : ∀ call H, evG cx (sx cx L) call o.op H = some (.ok (.ref H.next 0) (H.new (.ref cs0)))) (hcs : frc cs0 = some cs)
    (k : ∀ p, SO cx H0 I ro n q all r s ((d, .ref p 0) :: L) (M ++ [.ob p (.ref cs)]) K) : SO cx H0 I ro n q all (o :: r) s L M K := by
  have hcs := frc_ok hcs
  subst hcs
  refine SO.any (fun u M' => ∃ p, u = .ref p 0 ∧ M' = M ++ [.ob p (.ref cs0)]) (okS_ok hd).1 (okS_ok hd).2.1 (okS_ok hd).2.2 (fun H hH => ?_) (by rintro u _ ⟨p, rfl, rfl⟩; exact k p)
  obtain ⟨f, hf⟩ := hH
  refine ⟨.ref H.next 0, H.new (.ref cs0), M ++ [.ob H.next (.ref cs0)], fun call lo _ => h call _, ?_, H.next, rfl, rfl⟩
  exact hf.add (some H.next) (fun i hi => by simp only [Hp.new]; rw [if_neg (by omega)]) rfl (Nat.le_succ _) ⟨rfl, by simp [Hp.new]⟩ (.inr ⟨_, rfl, Nat.le_refl _, Nat.lt_succ_self _⟩)
theorem SO.ldA {d : Nat} {t : TypeId} {x : Operand} {p off : Nat} {cs : List V} (ho : o.op = .load t x) (hd : okS n all L o = some d) (hx : sx cx L x = some (.ref p off))
    (hv : loadF cx t (cut cs off) = some v) (k : SO cx H0 I ro n q all r s ((d, v) :: L) (M ++ [.ob p (.ref cs)]) K) : SO cx H0 I ro n q all (o :: r) s L (M ++ [.ob p (.ref cs)]) K :=
  SO.ld M.length ho hd hx (by simp) hv k
theorem SO.stA {t : TypeId} {x y : Operand} {p off : Nat} {cs vs cs' : List V} {dt : TY} (ho : o.op = .store t x y) (hd : okN all L o = true) (hx : sx cx L x = some (.ref p off)) (hy : sx cx L y = some v)
    (ht : cx.ty t = some dt) (hvs : frc v.cells = some vs) (h1 : (Nat.beq vs.length dt.size && vs.all V.cell && Nat.ble (off + vs.length) cs.length) = true) (hc : frc (over cs off vs) = some cs') (k : SO cx H0 I ro n none all r s L (M ++ [.ob p (.ref cs')]) K) : SO cx H0 I ro n none all (o :: r) s L (M ++ [.ob p (.ref cs)]) K := by
  have hf : ∀ l : List Ent, frc l = some l := by
    intro l; induction l with
    | nil => rfl
    | cons a b ih => simp only [frc, ih]
  refine SO.st M.length ho hd hx hy (by simp) ht hvs h1 hc (hf _) ?_
  simpa using k

/-- What is ranged over. -/
def itS (cx : Cx) (L : SE) (x : Operand) : Option (FuncId × List V × List V) :=
  match sx cx L x with
  | some (.p (.func f a b)) => some (f, a.map .p, b.map .p)
  | some (.func f a b) => some (f, a, b)
  | _ => none
theorem itS_ok {x : Operand} {y : FuncId × List V × List V} (h : itS cx L x = some y) {e : Env} (he : Ag n L e) : evIt cx e x = some y := by
  unfold itS at h; unfold evIt
  split at h
  · rename_i hx; rw [he.le x _ hx]; exact h
  · rename_i hx; rw [he.le x _ hx]; exact h
  · cases h
/-- A range over a function that runs to its end. -/
theorem SX.rangeFunc {γ : Type} {x : Operand} {ps : Array Tmp} {assign body : Code} {f : FuncId} {a b : List V} (Mg : γ → List Ent) (P : γ → Prop) (hx : itS cx L x = some (f, a, b))
    (h : ∀ e id, Ag n L e → TF cx (.f f) (a ++ [.yield id] ++ b) (M ++ [.ob id (.loop e ps.toList assign body .ready none)]) (fun _ M2 => ∃ g st, P g ∧ st ≠ .busy ∧ ∃ e' ps' as' bd', M2 = Mg g ++ [.ob id (.loop e' ps' as' bd' st none)]))
    (k : ∀ g, P g → SX cx H0 I false n .normal s L (Mg g) K) : SX cx H0 I false n .normal (.code (.rangeFunc x ps assign body) :: s) L M K := by
  intro e H he hH
  obtain ⟨fo, hfo⟩ := hH
  have hnew : HA H0 I (M ++ [.ob H.next (.loop e ps.toList assign body .ready none)]) (H.new (.loop e ps.toList assign body .ready none)) :=
    hfo.add (some H.next) (fun i hi => by simp only [Hp.new]; rw [if_neg (by omega)]) rfl (Nat.le_succ _) ⟨rfl, by simp [Hp.new]⟩ (.inr ⟨_, rfl, Nat.le_refl _, Nat.lt_succ_self _⟩)
  obtain ⟨I1, h1, h2⟩ := hnew.whole
  refine EW.rangeFunc (itS_ok hx he) (EF.mono (h e H.next he _ I1 h1) ?_)
  rintro rz ⟨v, H', M2, rfl, h3, g, st, hP, hst, e', ps', as', bd', rfl⟩
  have h4 := h2 h3
  obtain ⟨f4, hf4⟩ := h4
  have hE := hf4.ent (Mg g).length (.ob H.next (.loop e' ps' as' bd' st none)) (by simp)
  obtain ⟨hfi, hobj⟩ := hE
  refine ⟨.normal, e, H'.set H.next .gone, ?_, ?_⟩
  · unfold afterLoop
    rw [hobj]
    cases st with
    | busy => exact absurd rfl hst
    | _ => rfl
  · refine k g hP e _ he ?_
    have h5 := hf4.chg (k := (Mg g).length) (by simp) (E := .no) none (H' := H'.set H.next .gone) (fun i hi hne => by simp only [Hp.set]; rw [if_neg (fun h => hne (by rw [h]; exact hfi))]) rfl (Nat.le_refl _) rfl (.inr (.inl rfl))
    rw [show (Mg g ++ [Ent.ob H.next (.loop e' ps' as' bd' st none)]).set (Mg g).length .no = Mg g ++ [.no] by simp] at h5
    exact h5.left

/-- The variables of a round. -/
def putPs : SE → List Tmp → List V → SE
  | L, t :: ts, v :: vs => putPs ((t, v) :: L) ts vs
  | L, _, _ => L
theorem Ag.putPs {e : Env} : ∀ (ps : List Tmp) (vs : List V) {L : SE} {e : Env}, Ag n L e → ps.all (fun t => Nat.blt t n) = true → Ag n (Ev.putPs L ps vs) (setPs e ps vs)
  | [], vs, L, e, h, _ => by cases vs <;> exact h
  | p :: ps, [], L, e, h, _ => h
  | p :: ps, v :: vs, L, e, h, hb => by
    simp only [List.all_cons, Bool.and_eq_true] at hb
    simp only [Ev.putPs, setPs]
    exact Ag.putPs (e := e) ps vs (h.put hb.1 v) hb.2
/-- The end of a round. -/
def FinR (H0 : Hp) (I : List Nat) (id i : Nat) (R : V → List Ent → Prop) : KX := fun x e H => ∃ M2 env ps as bd st pend, HA H0 I M2 H ∧ M2[i]? = some (.ob id (.loop env ps as bd st pend)) ∧ (match x with
  | .normal => R (.p (.bool true)) (M2.set i (.ob id (.loop env ps as bd .ready none)))
  | .ret => R (.p (.bool false)) (M2.set i (.ob id (.loop env ps as bd .done (some .ret))))
  | .exit j => R (.p (.bool false)) (M2.set i (.ob id (.loop env ps as bd .done (some (.exit j)))))
  | .pan _ => False)
theorem SX.finR {id i : Nat} {R : V → List Ent → Prop} {env : List V} {ps : List Tmp} {as bd : Code} {st : LoopState} {pend : Option Code} (hi : M[i]? = some (.ob id (.loop env ps as bd st pend))) (hR : R (.p (.bool true)) (M.set i (.ob id (.loop env ps as bd .ready none)))) :
    SX cx H0 I ro n .normal [] L M (FinR H0 I id i R) := fun e H he hH => ⟨M, env, ps, as, bd, st, pend, hH, hi, hR⟩
theorem TF.round {γ : Type} {id i : Nat} {args : List V} {env : List V} {ps : List Tmp} {assign body : Code} {pend : Option Code} {R : V → List Ent → Prop} {L' : SE} (Lg : γ → SE) (Mg : γ → List Ent) (P : γ → Prop)
    (hi : M[i]? = some (.ob id (.loop env ps assign body .ready pend))) (hlen : args.length = ps.length) (he : Ag n L env) (hb : ps.all (fun t => Nat.blt t n) = true) (hL : putPs L ps args = L')
    (h1 : ∀ H0 I, SX cx H0 I true n .normal [.code assign, .cut (At H0 I n Lg Mg P)] L' M (fun _ _ _ => False))
    (hi2 : ∀ g, P g → (Mg g)[i]? = some (.ob id (.loop env ps assign body .ready pend)))
    (h2 : ∀ H0 I g, P g → SX cx H0 I true n .normal [.code body] (Lg g) ((Mg g).set i (.ob id (.loop env ps assign body .busy pend))) (FinR H0 I id i R)) : TF cx (.y id) args M R := by
  intro H I hH
  have hH' := hH
  obtain ⟨f, hf⟩ := hH
  obtain ⟨hfi, hobj⟩ := hf.ent i _ hi
  obtain ⟨hlow, _, _⟩ := hf.rng i id hfi
  subst hL
  refine EF.round hobj hlow hlen ?_
  refine EW.mono (h1 H I _ H (Ag.putPs (e := env) ps args he hb) hH') ?_
  intro x e1 H1 hx
  cases x with
  | normal =>
    obtain ⟨g, hP, he1, hH1⟩ := hx
    have hH1' := hH1
    obtain ⟨f1, hf1⟩ := hH1
    have hg := hi2 g hP
    obtain ⟨hfi1, hobj1⟩ := hf1.ent i _ hg
    simp only [thenX, beganX, hobj1]
    have h5 := hf1.chg (HAf.mem hg) (E := .ob id (.loop env ps assign body .busy pend)) (some id) (H' := H1.set id (.loop env ps assign body .busy pend)) (fun j hj hne => by simp only [Hp.set]; rw [if_neg (fun h => hne (by rw [h]; exact hfi1))]) rfl (Nat.le_refl _) ⟨rfl, by simp [Hp.set]⟩ (.inl hfi1.symm)
    refine EW.mono (h2 H I g hP e1 _ he1 h5) ?_
    rintro x2 e2 H2 ⟨M2, env2, ps2, as2, bd2, st2, pend2, hH2, hi3, hR⟩
    obtain ⟨f2, hf2⟩ := hH2
    obtain ⟨hfi2, hobj2⟩ := hf2.ent i _ hi3
    have fin : ∀ (j : Option Code) (st : LoopState), HA H I (M2.set i (.ob id (.loop env2 ps2 as2 bd2 st j))) (H2.set id (.loop env2 ps2 as2 bd2 st j)) := fun j st =>
      hf2.chg (HAf.mem hi3) (some id) (fun k hk hne => by simp only [Hp.set]; rw [if_neg (fun h => hne (by rw [h]; exact hfi2))]) rfl (Nat.le_refl _) ⟨rfl, by simp [Hp.set]⟩ (.inl hfi2.symm)
    cases x2 with
    | normal =>
      refine ⟨.ok (.p (.bool true)) (H2.set id (.loop env2 ps2 as2 bd2 .ready none)), ?_, _, _, _, rfl, fin none .ready, hR⟩
      simp [endRound, hobj2]
    | ret =>
      refine ⟨.ok (.p (.bool false)) (H2.set id (.loop env2 ps2 as2 bd2 .done (some .ret))), ?_, _, _, _, rfl, fin (some .ret) .done, hR⟩
      simp [endRound, hobj2]
    | exit j =>
      refine ⟨.ok (.p (.bool false)) (H2.set id (.loop env2 ps2 as2 bd2 .done (some (.exit j)))), ?_, _, _, _, rfl, fin (some (.exit j)) .done, hR⟩
      simp [endRound, hobj2]
    | pan v => exact hR.elim
  | exit j => exact hx.elim
  | ret => exact hx.elim
  | pan v => exact hx.elim
end
end Go.Ev
