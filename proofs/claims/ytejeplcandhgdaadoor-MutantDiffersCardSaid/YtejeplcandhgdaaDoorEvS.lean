/- A function that 'evFn' answers for ends with that answer. -/
import Derived.Test.YtejeplcandhgdaaDoorEvR
set_option linter.unusedVariables false
set_option linter.unusedSimpArgs false
namespace Go.Ev

section
variable (cx : Cx) (P : Program)
structure FnOK : Prop where
  fn : ∀ f fn, cx.fn f = some fn → P.funcs[f]? = some fn ∧ Enters P f
  orc : ∀ f orc ps r, cx.orc f = some orc → orc ps = some r → Enters P f ∧ ∀ g H w cs, Rel cx g H w → Hok H → ArgsR g (ps.map .p) cs → Calls P f cs w (Post cx g H w (.ok (.p r) H))
end

section
variable {cx : Cx} {P : Program} {g : G} {H H' : Hp} {w : World} {e : Env} {a : Act} {o : Oper} {call : CallT} {v : V}

theorem evLoad_ok (hT : TYok P cx) (hr : Rel cx g H w) {t : TypeId} {p v : V} {c : Value} (hv : VR g p c) (hu : evLoad cx t p H = some v) :
    ∃ u, (do loadVar t (← asAddr c) : Sem Value).run P w = .ok u w ∧ VR g v u := by
  unfold evLoad at hu
  split at hu
  · rename_i d hd
    obtain ⟨i, z, hi, hs, _⟩ := hT.info t d hd
    split at hu
    · rename_i hag
      split at hu
      · rename_i l hl
        injection hu with hu; subst hu
        obtain ⟨b, off, hc, hln, us, hul, hrange, hrel⟩ := readAt_ok hr hv hl
        refine ⟨.agg us.toArray, ?_, mkAgg_ok (by simp [hul, hln]) (fun i y hy => by
          have := hrel i y hy
          simpa [Array.getD_eq_getD_getElem?, List.getD] using this)⟩
        have := run_loadAt_mid (P := P) w b off t us d.desc hrange (hT.desc t d hd) (by cases hdd : d.desc <;> simp_all [isAggT, TypeDesc.isRow]) (by simp [hi, hs, hul])
        simp only [Instr.loadAt, Instr.sureAddr, Sem.run_bind, Sem.run_pure, Result.andThen_ok] at this
        rw [hc]
        simp only [asAddr, Sem.run_bind, Sem.run_pure, Result.andThen_ok]
        exact this
      · cases hu
    · rename_i hag
      split at hu
      · rename_i y hl
        injection hu with hu; subst hu
        obtain ⟨b, off, hc, hln, us, hul, hrange, hrel⟩ := readAt_ok hr hv hl
        match us, hul with
        | [u], _ =>
          refine ⟨u, ?_, by simpa using hrel 0 y rfl⟩
          rw [hc]
          have hcell : w.cell? ⟨b, off, none⟩ = some u := by simpa using hrange 0 u rfl
          simp only [asAddr, Sem.run_bind, Sem.run_pure, Result.andThen_ok, loadVar, hT.isAgg hd, Bool.not_eq_true] at hag ⊢
          rw [hag]
          simp [load, Sem.run, hcell]
      · cases hu
  · cases hu

theorem evRes_ok (hT : TYok P cx) (hr : Rel cx g H w) (he : EnvR g e a.tmps) : ∀ (l : List ResultVar) {vs : List V}, evRes cx e H l = some vs →
    ∃ cs : List Value, cs.length = vs.length ∧ (l.mapM (fun x : ResultVar => match x with | .tmp t => (pure (a.tmps.getD t Go.undef) : Sem Value) | .cell b t => do loadVar t (← asAddr (a.tmps.getD b Go.undef)))).run P w = Result.ok cs w ∧ ∀ i v, vs[i]? = some v → VR g v (cs.getD i Go.undef)
  | [], vs, h => by
    simp [evRes] at h; subst h
    exact ⟨[], rfl, by simp, fun i v h => by simp at h⟩
  | .tmp t :: r, vs, h => by
    simp only [evRes] at h
    split at h
    · rename_i l hl
      cases h
      obtain ⟨cs, hcs, hrun, hv⟩ := evRes_ok hT hr he r hl
      refine ⟨a.tmps.getD t Go.undef :: cs, by simp [hcs], ?_, ?_⟩
      · rw [List.mapM_cons, Sem.run_bind]
        simp only [Sem.run_pure]
        show Sem.run P (_ >>= _) w = _
        rw [Sem.run_bind, hrun]
        simp [Result.andThen]
      · intro i v hi
        cases i with
        | zero => simp at hi; subst hi; exact he.2 t
        | succ i => simp at hi; simpa using hv i v hi
    · cases h
  | .cell b t :: r, vs, h => by
    simp only [evRes] at h
    split at h
    · rename_i v l h1 hl
      cases h
      obtain ⟨cs, hcs, hrun, hv⟩ := evRes_ok hT hr he r hl
      obtain ⟨u, hu, hvu⟩ := evLoad_ok hT hr (he.2 b) h1
      refine ⟨u :: cs, by simp [hcs], ?_, ?_⟩
      · rw [List.mapM_cons, Sem.run_bind]
        simp only
        rw [hu]
        show Sem.run P (_ >>= _) w = _
        rw [Sem.run_bind, hrun]
        simp [Result.andThen]
      · intro i v hi
        cases i with
        | zero => simp at hi; subst hi; exact hvu
        | succ i => simp at hi; simpa using hv i v hi
    · cases h

theorem result_ok (hT : TYok P cx) (hr : Rel cx g H w) (he : EnvR g e a.tmps) {fn : Func} {v : V} (h : result cx fn e H = some v) : ∃ c, (results fn a.tmps).run P w = .ok c w ∧ VR g v c := by
  unfold result at h
  have key : ∀ vs, evRes cx e H fn.results.toList = some vs → ∃ cs : List Value, cs.length = vs.length ∧ (∀ i v, vs[i]? = some v → VR g v (cs.getD i Go.undef)) ∧ (results fn a.tmps).run P w = .ok (if hh : cs.toArray.size = 1 then cs.toArray[0] else .tuple cs.toArray) w := by
    intro vs hvs
    obtain ⟨cs, h1, h2, h3⟩ := evRes_ok hT hr he _ hvs
    refine ⟨cs, h1, h3, ?_⟩
    unfold results
    rw [Sem.run_bind]
    have : (fn.results.mapM (m := Sem) fun x : ResultVar => match x with | .tmp t => (pure (a.tmps.getD t Go.undef) : Sem Value) | .cell b t => do loadVar t (← asAddr (a.tmps.getD b Go.undef))).run P w = .ok cs.toArray w := by
      rw [Array.mapM_eq_mapM_toList]
      rw [map_eq_pure_bind, Sem.run_bind, h2]
      simp
    erw [this]
    simp
  split at h
  · rename_i v1 hvs
    cases h
    obtain ⟨cs, h1, h2, h3⟩ := key _ hvs
    match cs, h1 with
    | [c], _ => exact ⟨c, by simpa using h3, by simpa using h2 0 v rfl⟩
  · rename_i l hne hl
    cases h
    obtain ⟨cs, h1, h2, h3⟩ := key _ hl
    have : cs.length ≠ 1 := by
      intro h; rw [h1] at h
      match l, h with
      | [x], _ => exact hne x rfl
    refine ⟨.tuple cs.toArray, by rw [h3]; simp [this], ?_⟩
    exact mkTup_ok (by simpa using h1) (fun i x hx => by simpa using h2 i x hx)
  · cases h

theorem pad_ok {args : List V} {cs : Array Value} (ha : ArgsR g args cs) (n : Nat) : EnvR g (pad args n) (cs ++ Array.replicate (n - cs.size) Go.undef) := by
  refine ⟨by simp [pad, ha.1], fun i => ?_⟩
  have gtE : ∀ (l : List V) (i : Nat), gt l i = l.getD i (.p .undef) := by
    intro l
    induction l with
    | nil => intro i; simp [gt]
    | cons x r ih => intro i; cases i <;> simp [gt, ih]
  rw [gtE]
  unfold pad
  by_cases hi : i < args.length
  · have hi' : i < cs.size := by rw [ha.1]; exact hi
    have := ha.2 i args[i] (by simp [hi])
    rw [List.getD_eq_getElem?_getD, List.getElem?_append_left hi]
    rw [Array.getD_eq_getD_getElem?] at this ⊢
    rw [Array.getElem?_append_left hi']
    simpa [hi] using this
  · have hi' : ¬ i < cs.size := by rw [ha.1]; exact hi
    rw [List.getD_eq_getElem?_getD, List.getElem?_append_right (by omega), Array.getD_eq_getD_getElem?, Array.getElem?_append_right (by omega)]
    have h1 : ((List.replicate (n - args.length) (V.p .undef))[i - args.length]?).getD (.p .undef) = .p .undef := by
      rw [List.getElem?_replicate]; split <;> rfl
    have h2 : ((Array.replicate (n - cs.size) Go.undef)[i - cs.size]?).getD Go.undef = Go.undef := by
      rw [Array.getElem?_replicate]; split <;> rfl
    rw [h1, h2]
    exact .p .undef

theorem not_deferred {l : Loc} {o : O} (h : ObjR g w l o) (hm : o.mu = true) {x : Option (List Deferred)} : w.heap[l.b]? ≠ some (.deferred x) := by
  intro hD
  cases o with
  | gone => cases hm
  | fro xs => cases hm
  | ref cs => obtain ⟨us, ty, h1, _⟩ := h; rw [hD] at h1; cases h1
  | own xs => obtain ⟨us, h1, _⟩ := h; rw [hD] at h1; cases h1
  | vec xs => obtain ⟨_, us, h1, _⟩ := h; rw [hD] at h1; cases h1
  | map kv => obtain ⟨es, clock, h1, _⟩ := h; rw [hD] at h1; cases h1
  | loop env ps assign body st pend => obtain ⟨r, h1, _⟩ := h; rw [hD] at h1; cases h1
/-- A mark's block is shut. -/
theorem St.shut {g0 : G} {H0 : Hp} {w0 : World} (h : St cx g0 H0 w0 g H w) {D : Nat} {x : Option (List Deferred)} (hD : w.heap[D]? = some (.deferred x)) (hge : w0.heap.size ≤ D) : St cx g0 H0 w0 g H (w.putObj D (.deferred none)) where
  rel := {
    im := fun b o u hu => by
      have h1 := h.rel.im b o u hu
      have hne : b ≠ D := by rintro rfl; simp [World.cell?, hD] at h1
      rw [cell_keep w _ (World.putObj_heap_other hne)]; exact h1
    gl := h.rel.gl
    obj := fun id l hl => (h.rel.obj id l hl).keep (.refl g) (fun hm => World.putObj_heap_other (fun hb => not_deferred (h.rel.obj id l hl) hm (by rw [hb]; exact hD)))
    dis := h.rel.dis
    dim := h.rel.dim
    lt := fun i l hl => by rw [World.putObj_size]; exact h.rel.lt i l hl }
  ok := h.ok
  im := h.im
  loc := h.loc
  next := h.next
  low := h.low
  old := h.old
  mu := h.mu
  os := h.os
  tape := h.tape
  output := h.output
  size := by rw [World.putObj_size]; exact h.size
  blocks := fun k hk hn => by rw [World.putObj_heap_other (by omega)]; exact h.blocks k hk hn
  newb := h.newb
  newim := h.newim
theorem leaves_marks {g0 : G} {H0 : Hp} {w0 : World} {fn : Func} {tmps : Array Value} {R : Ending → World → Prop} {u : FrameMode} (hu : u ≠ .run) (fin : ∀ w', St cx g0 H0 w0 g H w' → LeavesInM (RF none) 0 P fn tmps R [] u w') :
    ∀ (Ds : List Nat) (w : World), St cx g0 H0 w0 g H w → Ds.Nodup → (∀ D ∈ Ds, w0.heap.size ≤ D ∧ w.heap[D]? = some (.deferred (some []))) → LeavesInM (RF none) 0 P fn tmps R (Ds.map Mk) u w
  | [], w, hs, _, _ => fin w hs
  | D :: Ds, w, hs, hn, hD => by
    obtain ⟨h1, h2⟩ := hD D (by simp)
    rw [List.nodup_cons] at hn
    refine ⟨hu, .inl ⟨D, w.putObj D (.deferred none), rfl, run_takeDeferred h2, ?_⟩⟩
    refine leaves_marks hu fin Ds _ (hs.shut h2 h1) hn.2 (fun E hE => ⟨(hD E (by simp [hE])).1, ?_⟩)
    rw [World.putObj_heap_other (by rintro rfl; exact hn.1 hE)]
    exact (hD E (by simp [hE])).2

theorem evBody_sound (hT : TYok P cx) (hC : CallOK cx P call) (hN : NextOK call) {dr : List Oper → Option Nat} (hD : DrawOK cx P dr) {n : Nat} {f : FuncId} {fn : Func} {c : Code} (hf : P.funcs[f]? = some fn) (hb : fn.body = some c)
    {args : List V} {rz : Rz} (h : evBody cx dr call n fn c args H = some rz) {cs : Array Value} (hr : Rel cx g H w) (ho : Hok H) (hfr : Free g H rz.hp) (ha : ArgsR g args cs) : Calls P f cs w (Post cx g H w rz) := by
  refine (callsIn_wide (n := 0)).1 (callsIn_of_wp_marks (F := RF none) hf hb trivial ?_ rfl)
  have he := pad_ok ha fn.ntmps
  have fin : ∀ {e1 : Env} {H1 : Hp} {v : V} {a' : Act} {g' : G} {w' : World}, result cx fn e1 H1 = some v → St cx g H w g' H1 w' → Marked w w' [] a'.defers → EnvR g' e1 a'.tmps → LeavesInM (RF none) 0 P fn a'.tmps (Post cx g H w (.ok v H1)) a'.defers .returning w' := by
    intro e1 H1 v a' g' w' hv hst hd he'
    obtain ⟨Ds, h1, h2, h3⟩ := hd
    rw [h1, List.append_nil]
    refine leaves_marks (by simp) ?_ Ds w' hst h2 h3
    intro w2 hs2
    obtain ⟨cv, hcv, hvr⟩ := result_ok hT hs2.rel he' hv
    exact ⟨cv, hcv, cv, g', rfl, hs2, hvr⟩
  unfold evBody at h
  split at h
  · rename_i e1 H1 h1
    split at h <;> cases h
    rename_i v hv
    refine evCode_sound hT hC hN hD n none c h1 g w _ _ hr ho he hfr ?_
    rintro ex a' g' w' hst hd ⟨rfl, he'⟩
    exact fin hv hst hd he'
  · rename_i e1 H1 h1
    split at h <;> cases h
    rename_i v hv
    refine evCode_sound hT hC hN hD n none c h1 g w _ _ hr ho he hfr ?_
    rintro ex a' g' w' hst hd ⟨rfl, he'⟩
    exact fin hv hst hd he'
  · rename_i v e1 H1 h1
    cases h
    refine evCode_sound hT hC hN hD n none c h1 g w _ _ hr ho he hfr ?_
    rintro ex a' g' w' hst hd ⟨cv, rfl, hvr⟩
    obtain ⟨Ds, k1, k2, k3⟩ := hd
    show LeavesInM (RF none) 0 P fn a'.tmps _ a'.defers _ w'
    rw [k1, List.append_nil]
    refine leaves_marks (by simp) ?_ Ds w' hst k2 k3
    intro w2 hs2
    exact ⟨cv, g', rfl, hs2, hvr⟩
  · cases h

theorem setPs_ok : ∀ (ps : List Tmp) (vs : List V) (cs : List Value) {e : Env} {t : Array Value}, EnvR g e t → cs.length = vs.length → (∀ i v, vs[i]? = some v → VR g v (cs.getD i Go.undef)) →
    EnvR g (setPs e ps vs) ((ps.zip cs).foldl (fun tmps p => tmps.setIfInBounds p.1 p.2) t)
  | [], vs, cs, e, t, he, hl, hv => by simpa [setPs] using he
  | p :: ps, [], cs, e, t, he, hl, hv => by
    have : cs = [] := List.eq_nil_of_length_eq_zero hl
    subst this
    simpa [setPs] using he
  | p :: ps, v :: vs, [], e, t, he, hl, hv => by simp at hl
  | p :: ps, v :: vs, c :: cs, e, t, he, hl, hv => by
    simp only [setPs, List.zip_cons_cons, List.foldl_cons]
    refine setPs_ok ps vs cs ?_ (by simpa using hl) (fun i u hu => by simpa using hv (i + 1) u (by simpa using hu))
    exact EnvR.put (a := ⟨t, []⟩) he (some p) (hv 0 v rfl)

theorem endRound_sound {id : Nat} {l : Loc} {j : Option Code} {rz : Rz} (h : endRound H id j = some rz) (hr : Rel cx g H w) (ho : Hok H) (hlow : H.low ≤ id) (hl : g.loc id = some l) :
    ∃ w', (Instr.endRound l.b j).run P w = .ok (.bool j.isNone) w' ∧ ∃ H', rz = .ok (.p (.bool j.isNone)) H' ∧ St cx g H w g H' w' := by
  unfold endRound at h
  split at h
  · rename_i env ps as bd st pend hobj
    cases h
    obtain ⟨r, h1, h2, h3, h4⟩ := St.record (st' := if j.isNone then .ready else .done) (pend' := j) hr ho hobj hlow hl
    exact ⟨_, run_endRound j h1, _, rfl, h4⟩
  · cases h

theorem evRound_sound (hT : TYok P cx) (hC : CallOK cx P call) (hN : NextOK call) {dr : List Oper → Option Nat} (hD : DrawOK cx P dr) {n id : Nat} {args : List V} {rz : Rz} (h : evRound cx dr call n id args H = some rz)
    {cs : Array Value} (hr : Rel cx g H w) (ho : Hok H) (hfr : Free g H rz.hp) (ha : ArgsR g args cs) {l : Loc} (hl : g.loc id = some l) :
    ∃ fn tmps assign body, (Instr.yield l.b cs).run P w = .ok (.round l.b fn tmps assign body) w ∧ RoundIn Fence.wide 0 P l.b fn tmps assign body w (Post cx g H w rz) := by
  unfold evRound at h
  split at h
  · rename_i env ps as bd pend hobj
    split at h
    · cases h
    · rename_i hcond
      have hlow : H.low ≤ id := by
        rcases Nat.lt_or_ge id H.low with h1 | h1
        · exact absurd (.inl h1) hcond
        · exact h1
      have hlen : args.length = ps.length := by
        rcases Nat.decEq args.length ps.length with h1 | h1
        · exact absurd (.inr h1) hcond
        · exact h1
      have hidn : id < H.next := by
        rcases Nat.lt_or_ge id H.next with h1 | h1
        · exact h1
        · have := ho.gone id h1; rw [hobj] at this; cases this
      have hO := hr.obj id l hl
      rw [hobj] at hO
      obtain ⟨r, h1, h2, h3, h4, h5, h6, h7, h8⟩ := hO
      refine ⟨_, _, _, _, run_yield h1 (by rw [ha.1, h4, hlen]; simp), ?_⟩
      rw [h5, h6]
      have henv : EnvR g (setPs env ps args) ((r.params.zip cs).foldl (fun tmps (t, a) => tmps.setIfInBounds t a) r.tmps) := by
        have := setPs_ok ps args cs.toList (e := env) (t := r.tmps) ⟨h7, h8⟩ (by simpa using ha.1) (fun i v hi => by
          have := ha.2 i v hi
          simpa [Array.getD_eq_getD_getElem?, List.getD_eq_getElem?_getD] using this)
        rw [h4]
        rw [← Array.foldl_toList]
        simpa using this
      split at h
      · rename_i e1 H1 hc1
        split at h
        · rename_i env' ps' as' bd' pend' hobj1
          have n1 := evCode_next hN n true as hc1
          have key : ∀ {x : Ex} {e2 : Env} {H2 : Hp} {j : Option Code}, evCode cx dr call n true bd e1 (H1.set id (.loop env' ps' as' bd' .busy pend')) = some (x, e2, H2) → endRound H2 id j = some rz →
              (x = .normal ∧ j = none ∨ x = .ret ∧ j = some .ret ∨ ∃ i, x = .exit i ∧ j = some (.exit i)) →
              RoundIn Fence.wide 0 P l.b r.fn ((r.params.zip cs).foldl (fun tmps (t, a) => tmps.setIfInBounds t a) r.tmps) as bd w (Post cx g H w rz) := by
            intro x e2 H2 j hc2 hend hx
            have n2 := evCode_next hN n true bd hc2
            have n3 := endRound_next hend
            simp only [Hp.set] at n2
            refine roundIn_of_wpIn (F := Fence.wide) trivial ?_
            refine evCode_sound hT hC hN hD n (some l.b) as hc1 g w _ _ hr ho henv (hfr.left (by rw [n3]; omega)) ?_
            rintro ex a1 g1 w1 s1 _ ⟨rfl, he1⟩
            have hl1 : g1.loc id = some l := by rw [s1.loc id (.inl hidn)]; exact hl
            obtain ⟨r1, k1, k2, rfl, k4⟩ := St.record (st' := .busy) (pend' := pend') s1.rel s1.ok hobj1 (by rw [s1.low]; exact hlow) hl1
            refine ⟨_, run_beginRound k1 k2, ?_⟩
            refine evCode_sound hT hC hN hD n (some l.b) bd hc2 g1 _ _ _ k4.rel k4.ok he1 (fun i ha hb => s1.free hfr i ha (by rw [n3]; exact hb)) ?_
            intro ex2 a2 g2 w2 s2 _ hex
            have hl2 : g2.loc id = some l := by
              rw [s2.loc id (.inl (by have := s1.next; simp only [Hp.set]; omega))]; exact hl1
            have st := s1.trans (k4.trans s2)
            obtain ⟨w3, q1, H3, rfl, q3⟩ := endRound_sound (P := P) hend s2.rel s2.ok (by rw [st.low]; exact hlow) hl2
            have fin : Post cx g H w (.ok (.p (.bool j.isNone)) H3) (.returned (.bool j.isNone)) w3 := ⟨_, g2, rfl, st.trans q3, .mkBool⟩
            rcases hx with ⟨rfl, rfl⟩ | ⟨rfl, rfl⟩ | ⟨i, rfl, rfl⟩
            · obtain ⟨rfl, _⟩ := hex; exact ⟨_, w3, q1, fin⟩
            · obtain ⟨rfl, _⟩ := hex; exact ⟨_, w3, q1, fin⟩
            · obtain ⟨rfl, _⟩ := hex; exact ⟨_, w3, q1, fin⟩
          split at h
          · rename_i hc2; exact key hc2 h (.inl ⟨rfl, rfl⟩)
          · rename_i hc2; exact key hc2 h (.inr (.inl ⟨rfl, rfl⟩))
          · rename_i hc2; exact key hc2 h (.inr (.inr ⟨_, rfl, rfl⟩))
          · cases h
        · cases h
      · cases h
  · cases h

/-- Back from a call that has a heap of its own. -/
theorem St.back {g3 : G} {H3 : Hp} {w3 : World} (hr : Rel cx g H w) (ho : Hok H) (h : St cx ⟨g.im, fun _ => none⟩ Hp.empty w g3 H3 w3) : St cx g H w ⟨g3.im, g.loc⟩ H w3 := by
  have noW : ∀ k, ¬ Wr ⟨g.im, fun _ => none⟩ Hp.empty k := by
    rintro k ⟨id, l, _, _, hl, _⟩; cases hl
  have hle : g.le ⟨g3.im, g.loc⟩ := ⟨h.im, fun _ _ hl => hl⟩
  have hblk : ∀ k, k < w.heap.size → w3.heap[k]? = w.heap[k]? := fun k hk => h.blocks k hk (noW k)
  exact {
    rel := {
      im := h.rel.im
      gl := h.rel.gl
      obj := fun id l hl => (hr.obj id l hl).keep hle (fun _ => hblk _ (hr.lt id l hl))
      dis := hr.dis
      dim := fun i l o hm hl => by
        have h1 := hr.dim i l o hm hl
        cases hq : g3.im l.b o with
        | none => rfl
        | some u => exact absurd (h.newim l.b o (by rw [hq]; simp) h1 (hr.lt i l hl)) (noW _)
      lt := fun i l hl => Nat.lt_of_lt_of_le (hr.lt i l hl) h.size }
    ok := ho
    im := h.im
    loc := fun _ _ => rfl
    next := Nat.le_refl _
    low := rfl
    old := fun _ _ => rfl
    mu := fun _ _ hm => hm
    os := h.os
    tape := h.tape
    output := h.output
    size := h.size
    blocks := fun k hk _ => hblk k hk
    newb := fun id l h1 h2 h3 _ => ⟨id, l, h1, h2, h3, rfl⟩
    newim := fun b o h1 h2 hb => absurd (h.newim b o h1 h2 hb) (noW _) }

theorem Rel.alone (hr : Rel cx g H w) : Rel cx ⟨g.im, fun _ => none⟩ Hp.empty w where
  im := hr.im
  gl := hr.gl
  obj := fun _ _ h => by cases h
  dis := fun _ _ _ _ _ _ h => by cases h
  dim := fun _ _ _ _ h => by cases h
  lt := fun _ _ h => by cases h
theorem Hok.alone : Hok Hp.empty where
  gone := fun _ _ => rfl
  low := Nat.le_refl _

theorem ArgsR.mono {g g' : G} (hg : g.le g') {args : List V} {cs : Array Value} (h : ArgsR g args cs) : ArgsR g' args cs := ⟨h.1, fun i v hv => (h.2 i v hv).mono hg⟩

theorem frozen {g g' : G} {args : List V} {cs : Array Value} {ps : List PV} (ha : ArgsR g args cs) (hl : args.length = ps.length) (h : ∀ (i : Nat) (x : PV), ps[i]? = some x → ∃ v : V, args[i]? = some v ∧ ∀ c, VR g v c → PR g'.im x c) : ArgsR g' (ps.map .p) cs := by
  refine ⟨by rw [ha.1, hl]; simp, fun i v hv => ?_⟩
  rw [List.getElem?_map] at hv
  cases hp : ps[i]? with
  | none => rw [hp] at hv; cases hv
  | some x =>
    rw [hp] at hv
    simp at hv; subst hv
    obtain ⟨u, hu, hx⟩ := h i x hp
    exact .p (hx _ (ha.2 i u hu))

theorem ArgsR.nrm {ps : List PV} {cs : Array Value} (h : ArgsR g (ps.map .p) cs) : ArgsR g ((nrmL ps).map .p) cs := by
  refine ⟨by rw [h.1, nrmL_eq]; simp, fun i v hv => ?_⟩
  rw [nrmL_eq, List.map_map, List.getElem?_map] at hv
  obtain ⟨x, hx, rfl⟩ := Option.map_eq_some_iff.1 hv
  exact .p (h.2 i (.p x) (by rw [List.getElem?_map, hx]; rfl)).pp.nrm

/-- EVERY FUNCTION. -/
theorem evFn_sound (hT : TYok P cx) (hF : FnOK cx P) {dr : List Oper → Option Nat} (hD : DrawOK cx P dr) : ∀ n, CallOK cx P (evFn cx dr n)
  | 0 => ⟨(fun f args H rz h => by cases h), (fun f args H rz h => by cases h)⟩
  | n + 1 => by
    have ih := evFn_sound hT hF hD n
    refine ⟨fun f args H rz h => ?_, fun id args H rz h g w cs hr ho hfr ha l hl => evRound_sound hT ih (evFn_next n) hD h hr ho hfr ha hl⟩
    unfold evFn at h
    split at h
    · rename_i orc horc
      split at h
      · rename_i ps H1 h1
        split at h
        · rename_i r hr0
          cases h
          obtain ⟨hen, hcall⟩ := hF.orc f orc (nrmL ps) r horc hr0
          refine ⟨hen, fun g w cs hr ho hfr ha => ?_⟩
          obtain ⟨g1, hst, hloc, hps⟩ := res1s_ok args hr ho h1
          have ha1 : ArgsR g1 ((nrmL ps).map .p) cs := ArgsR.nrm (frozen ha hps.1 (fun i x hx => hps.2 i x hx))
          refine Calls.mono (hcall g1 H1 w cs hst.rel hst.ok ha1) ?_
          rintro e w' ⟨c, g', rfl, hs2, hv⟩
          exact ⟨c, g', rfl, hst.trans hs2, hv⟩
        · cases h
      · cases h
    · split at h
      · rename_i fn hfn
        obtain ⟨hf, hen⟩ := hF.fn f fn hfn
        refine ⟨hen, fun g w cs hr ho hfr ha => ?_⟩
        split at h
        · rename_i c hb
          split at h
          · exact evBody_sound hT ih (evFn_next n) hD hf hb h hr ho hfr ha
          · split at h
            · rename_i ps H1 h1
              obtain ⟨g1, hst, hloc, hps⟩ := res1s_ok args hr ho h1
              have ha1 : ArgsR ⟨g1.im, fun _ => none⟩ ((nrmL ps).map .p) cs := ArgsR.nrm (frozen (g' := ⟨g1.im, fun _ => none⟩) ha hps.1 (fun i x hx => hps.2 i x hx))
              split at h
              · rename_i v H2 h2
                split at h
                · rename_i x H3 h3
                  cases h
                  refine Calls.mono (evBody_sound hT ih (evFn_next n) hD hf hb h2 hst.rel.alone Hok.alone (fun _ _ _ => rfl) ha1) ?_
                  rintro e w' ⟨c, g2, rfl, hs2, hv⟩
                  obtain ⟨g3, hs3, _, hx⟩ := res2_ok hs2.rel hs2.ok h3
                  have hb3 := St.back hst.rel hst.ok (hs2.trans hs3)
                  exact ⟨c, _, rfl, hst.trans hb3, .p (hx c hv).nrm⟩
                · cases h
              · rename_i x H2 h2
                cases h
                refine Calls.mono (evBody_sound hT ih (evFn_next n) hD hf hb h2 hst.rel.alone Hok.alone (fun _ _ _ => rfl) ha1) ?_
                rintro e w' ⟨c, g2, rfl, hs2, hv⟩
                have hb3 := St.back hst.rel hst.ok hs2
                exact ⟨c, _, rfl, hst.trans hb3, .p hv.pp⟩
              · cases h
            · cases h
        · cases h
      · cases h

end
end Go.Ev
