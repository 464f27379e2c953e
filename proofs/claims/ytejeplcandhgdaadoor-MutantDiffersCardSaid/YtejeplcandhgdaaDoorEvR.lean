/- What 'evCode' and 'evFn' say, the machine does. (Regions that draw: the premise 'DrawOK'.) -/
import Derived.Test.YtejeplcandhgdaaDoorEvQ
import Derived.LoopNIn
import Derived.TacticsIn
import Derived.RangeFuncRecord
import Derived.RangeFuncMany
set_option linter.unusedVariables false
set_option linter.unusedSimpArgs false
namespace Go.Ev

def ExR (g : G) (x : Ex) (e : Env) (ex : Exit) (a : Act) : Prop :=
  match x with
  | .normal => ex = .normal ∧ EnvR g e a.tmps
  | .exit id => ex = .exit id ∧ EnvR g e a.tmps
  | .ret => ex = .ret ∧ EnvR g e a.tmps
  | .pan v => ∃ c, ex = .panic [{ v := c, recovered := false }] ∧ VR g v c

/-- A mark: what an outermost range over a function leaves among the deferred calls. -/
def Mk (D : Nat) : Deferred := { target := .collected D, args := #[] }
def Marked (w w' : World) (d d' : List Deferred) : Prop := ∃ Ds : List Nat, d' = Ds.map Mk ++ d ∧ Ds.Nodup ∧ ∀ D ∈ Ds, w.heap.size ≤ D ∧ w'.heap[D]? = some (.deferred (some []))
theorem Marked.of_eq {w w' : World} {d d' : List Deferred} (h : d' = d) : Marked w w' d d' := ⟨[], by simp [h], by simp, by simp⟩

section
variable (cx : Cx) (P : Program)
/-- The code comes from here to there. -/
def CodeR (ro : Option Nat) (c : Code) (e : Env) (H : Hp) (x : Ex) (e' : Env) (H' : Hp) : Prop :=
  ∀ (g : G) (w : World) (a : Act) (Q : Exit → Act → World → Prop), Rel cx g H w → Hok H → EnvR g e a.tmps → Free g H H' →
    (∀ ex a' g' w', St cx g H w g' H' w' → Marked w w' a.defers a'.defers → ExR g' x e' ex a' → Q ex a' w') → c.wpIn (RF ro) 0 P Q a w
def DrawOK (dr : List Oper → Option Nat) : Prop := ∀ (call : CallT), CallOK cx P call → NextOK call → ∀ (ro : Option Nat) (id : Nat) (ops : Array Oper) (t : Nat) e H e1 H1 x e' H', dr ops.toList = some t →
  evQuiet cx call ops.toList (ops.toList.take t) e H = some (.normal, e1, H1) → evOps cx call ops.toList (ops.toList.drop t) e1 H1 = some (x, e', H') → CodeR cx P ro (.region id ops true) e H x e' H'
end

section
variable {cx : Cx} {P : Program} {g : G} {H H' : Hp} {w : World} {e : Env} {a : Act} {o : Oper} {call : CallT} {v : V}

theorem wantB_ok {ops : Array Oper} {t : Array Value} (he : EnvR g e t) {b : Bool} (h : wantB ops.toList e o = some b) : Region.wanted o (yielded ops t) = b := by
  unfold wantB at h
  unfold Region.wanted
  split at h
  · rename_i hg; cases h; rw [hg]
  · rename_i j want hg
    rw [hg]
    split at h
    · rename_i oj hoj
      have hoj' : ops[j]? = some oj := by simpa using hoj
      split at h
      · rename_i d hd
        have hv := he.2 d
        split at h
        · rename_i b' hb
          cases h
          rw [hb] at hv
          have hc := hv.bool
          have hc' : t[d]? = some (.bool b') := by
            rw [Array.getD_eq_getD_getElem?] at hc
            cases hq : t[d]? with
            | none => rw [hq] at hc; simp [Go.undef] at hc
            | some u => rw [hq] at hc; simp at hc; rw [hc]
          simp [yielded, hoj', hd, hc']
        · rename_i hb
          cases h
          rw [hb] at hv
          have hc : t.getD d Go.undef = Go.undef := by have := hv.pp; generalize t.getD d Go.undef = q at this; cases this; rfl
          have hy : yielded ops t j = none := by
            unfold yielded
            rw [hoj']
            simp only [Option.bind_some, hd]
            rw [Array.getD_eq_getD_getElem?] at hc
            cases hq : t[d]? with
            | none => rfl
            | some u => rw [hq] at hc; simp at hc; rw [hc]; rfl
          simp only [hy]
          rfl
        · cases h
      · cases h
    · cases h

theorem evOps_sound {ro : Option Nat} (hT : TYok P cx) (hC : CallOK cx P call) (hN : NextOK call) (ops : Array Oper) : ∀ (l : List Oper) {e : Env} {H : Hp} {x : Ex} {e' : Env} {H' : Hp}, evOps cx call ops.toList l e H = some (x, e', H') →
    ∀ (g : G) (w : World) (a : Act) (Q : Exit → Act → World → Prop), Rel cx g H w → Hok H → EnvR g e a.tmps → Free g H H' →
    (∀ ex a' g' w', St cx g H w g' H' w' → a'.defers = a.defers → ExR g' x e' ex a' → Q ex a' w') → wpListIn (RF ro) 0 P ops Q l a w
  | [], e, H, x, e', H', h, g, w, a, Q, hr, ho, he, hf, hQ => by
    simp [evOps] at h; obtain ⟨rfl, rfl, rfl⟩ := h
    exact hQ .normal a g w (St.refl hr ho) rfl ⟨rfl, he⟩
  | o :: r, e, H, x, e', H', h, g, w, a, Q, hr, ho, he, hf, hQ => by
    unfold evOps at h
    split at h
    · rename_i hw
      have hw' := wantB_ok he hw
      unfold wpListIn
      rw [if_pos hw']
      split at h
      · rename_i v H1 h1
        have n1 := evOp_next (cx := cx) hN h1
        have n2 := evOps_next hN ops.toList r h
        refine evOp_sound hT hC hr ho he (rz := .ok v H1) (show Free g H H1 from hf.left (H1 := H1) n2) h1 ?_ ?_
        · rintro v' H'' c g' w' hq hst hv
          cases hq
          have hle := hst.le (hf.left (H1 := H1) n2)
          refine evOps_sound hT hC hN ops r h g' w' _ Q hst.rel hst.ok ((he.mono hle).put o.dst hv) (hst.free hf) ?_
          intro ex a' g'' w'' hs hd hx
          exact hQ ex a' g'' w'' (hst.trans hs) (by rw [hd]; simp) hx
        · rintro v' H'' c g' w' hq; cases hq
      · rename_i v H1 h1
        cases h
        refine evOp_sound hT hC hr ho he (rz := .pan v _) (by exact hf) h1 ?_ ?_
        · rintro v' H'' c g' w' hq; cases hq
        · rintro v' H'' c g' w' hq hst hv
          cases hq
          exact hQ _ a g' w' hst rfl ⟨c, rfl, hv⟩
      · cases h
    · rename_i hw
      have hw' := wantB_ok he hw
      unfold wpListIn
      rw [if_neg (by rw [hw']; simp)]
      refine ⟨fun _ _ => trivial, ?_⟩
      refine evOps_sound hT hC hN ops r h g w _ Q hr ho (he.put o.dst (.p .undef)) hf ?_
      intro ex a' g'' w'' hs hd hx
      exact hQ ex a' g'' w'' hs (by rw [hd]; simp) hx
    · cases h

theorem St.keepD {g1 g2 : G} {H1 H2 : Hp} {w1 w2 : World} (h : St cx g1 H1 w1 g2 H2 w2) (hr : Rel cx g1 H1 w1) {D : Nat} {o : Option (List Deferred)} (hD : w1.heap[D]? = some (.deferred o)) : w2.heap[D]? = some (.deferred o) := by
  have hlt : D < w1.heap.size := (Array.getElem?_eq_some_iff.1 hD).1
  rw [h.blocks D hlt, hD]
  rintro ⟨id, l, _, hm, hl, rfl⟩
  have ho := hr.obj id l hl
  generalize H1.obj id = ob at *
  cases ob with
  | gone => cases hm
  | fro xs => cases hm
  | ref cs => obtain ⟨us, ty, h1, _⟩ := ho; rw [hD] at h1; cases h1
  | own xs => obtain ⟨us, h1, _⟩ := ho; rw [hD] at h1; cases h1
  | vec xs => obtain ⟨_, us, h1, _⟩ := ho; rw [hD] at h1; cases h1
  | map kv => obtain ⟨es, clock, h1, _⟩ := ho; rw [hD] at h1; cases h1
  | loop env ps assign body st pend => obtain ⟨r, h1, _⟩ := ho; rw [hD] at h1; cases h1
theorem Marked.trans {g1 g2 : G} {H1 H2 : Hp} {w0 w1 w2 : World} {d0 d1 d2 : List Deferred} (h : Marked w0 w1 d0 d1) (hsz : w0.heap.size ≤ w1.heap.size) (hs : St cx g1 H1 w1 g2 H2 w2) (hr : Rel cx g1 H1 w1) (k : Marked w1 w2 d1 d2) : Marked w0 w2 d0 d2 := by
  obtain ⟨Ds, h1, h2, h3⟩ := h
  obtain ⟨Es, k1, k2, k3⟩ := k
  refine ⟨Es ++ Ds, by rw [k1, h1]; simp, ?_, ?_⟩
  · rw [List.nodup_append]
    refine ⟨k2, h2, fun a ha b hb hab => ?_⟩
    subst hab
    have := (k3 a ha).1
    have := (Array.getElem?_eq_some_iff.1 (h3 a hb).2).1
    omega
  · intro D hD
    rcases List.mem_append.1 hD with hD | hD
    · exact ⟨Nat.le_trans hsz (k3 D hD).1, (k3 D hD).2⟩
    · exact ⟨(h3 D hD).1, hs.keepD hr (h3 D hD).2⟩

theorem iter_sound {ro : Option Nat} {f : Env → Hp → Co} {c : Code} (hnx : ∀ e H x e' H', f e H = some (x, e', H') → H.next ≤ H'.next) (hf : ∀ e H x e' H', f e H = some (x, e', H') → CodeR cx P ro c e H x e' H') :
    ∀ (k : Nat) {e : Env} {H : Hp} {x : Ex} {e' : Env} {H' : Hp}, iter f k e H = some (x, e', H') → CodeR cx P ro (.loop c) e H x e' H' := by
  have key : ∀ (k : Nat) {e : Env} {H : Hp} {x : Ex} {e' : Env} {H' : Hp}, iter f k e H = some (x, e', H') → ∀ (g : G) (w : World) (a : Act) (Q : Exit → Act → World → Prop), Rel cx g H w → Hok H → EnvR g e a.tmps → Free g H H' →
    (∀ ex a' g' w', St cx g H w g' H' w' → Marked w w' a.defers a'.defers → ExR g' x e' ex a' → Q ex a' w') → Code.roundsIn (RF ro) 0 P c Q k a w := by
    intro k
    induction k with
    | zero => intro e H x e' H' h; cases h
    | succ k ih =>
      intro e H x e' H' h g w a Q hr ho he hfr hQ
      rw [roundsIn_succ]
      unfold iter at h
      split at h
      · rename_i e1 H1 h1
        have n1 := hnx _ _ _ _ _ h1
        have n2 := iter_next hnx k h
        refine hf _ _ _ _ _ h1 g w a _ hr ho he (hfr.left n2) ?_
        rintro ex a' g' w' hst hd ⟨rfl, he'⟩
        refine ih h g' w' a' Q hst.rel hst.ok he' (hst.free hfr) ?_
        intro ex a2 g2 w2 hs2 hd2 hx2
        exact hQ ex a2 g2 w2 (hst.trans hs2) (hd.trans hst.size hs2 hst.rel hd2) hx2
      · rename_i hne
        refine hf _ _ _ _ _ h g w a _ hr ho he hfr ?_
        intro ex a' g' w' hst hd hx
        have hq := hQ ex a' g' w' hst hd hx
        cases x with
        | normal => exact absurd h (hne _ _)
        | exit id => obtain ⟨rfl, _⟩ := hx; exact hq
        | ret => obtain ⟨rfl, _⟩ := hx; exact hq
        | pan v => obtain ⟨c, rfl, _⟩ := hx; exact hq
  intro k e H x e' H' h g w a Q hr ho he hfr hQ
  exact wpIn_loop_rounds k (key k h g w a Q hr ho he hfr hQ)

theorem St.grow (hr : Rel cx g H w) (ho : Hok H) (b : Obj) : St cx g H w g H (w.alloc b) where
  rel := ⟨fun b' o u hu => by rw [cell_keep w _ (heap_keep w b (im_lt hr hu))]; exact hr.im _ _ _ hu, hr.gl,
    fun id l hl => (hr.obj id l hl).keep (.refl g) (fun _ => heap_keep w b (hr.lt id l hl)), hr.dis, hr.dim, fun i l hl => by have := hr.lt i l hl; rw [size_new]; omega⟩
  ok := ho
  im := fun _ _ _ h => h
  loc := fun _ _ => rfl
  next := Nat.le_refl _
  low := rfl
  old := fun _ _ => rfl
  mu := fun _ _ h => h
  os := rfl
  tape := rfl
  output := rfl
  size := by rw [size_new]; omega
  blocks := fun k hk _ => heap_keep w b hk
  newb := fun id l h1 h2 h3 _ => ⟨id, l, h1, h2, h3, rfl⟩
  newim := fun b o h1 h2 _ => absurd h2 h1
theorem Hp.set_set (H : Hp) (id : Nat) (a b : O) : (H.set id a).set id b = H.set id b := by
  simp only [Hp.set, Hp.mk.injEq, true_and]
  funext i
  split <;> rfl
/-- The record of a loop is written anew. -/
theorem St.record (hr : Rel cx g H w) (ho : Hok H) {id : Nat} {l : Loc} {env : List V} {ps : List Tmp} {as body : Code} {st st' : LoopState} {pend pend' : Option Code} (hobj : H.obj id = .loop env ps as body st pend) (hlow : H.low ≤ id) (hl : g.loc id = some l) :
    ∃ r : Loop, w.heap[l.b]? = some (.loop r) ∧ r.state = st ∧ r.pending = pend ∧ St cx g H w g (H.set id (.loop env ps as body st' pend')) (w.putObj l.b (.loop { r with state := st', pending := pend' })) := by
  have h := hr.obj id l hl
  rw [hobj] at h
  obtain ⟨r, h1, h2, h3, h4, h5, h6, h7, h8⟩ := h
  have hlt := hr.lt id l hl
  refine ⟨r, h1, h2, h3, St.write hr ho hlow (by rw [hobj]; rfl) hl (fun k hk => World.putObj_heap_other hk) World.putObj_size rfl rfl rfl ?_ rfl⟩
  exact ⟨{ r with state := st', pending := pend' }, World.putObj_heap_same hlt, rfl, rfl, h4, h5, h6, h7, h8⟩
theorem St.finish (hr : Rel cx g H w) (ho : Hok H) {id : Nat} {l : Loc} {env : List V} {ps : List Tmp} {as body : Code} {st : LoopState} {pend : Option Code} (hobj : H.obj id = .loop env ps as body st pend) (hb : st ≠ .busy) (hlow : H.low ≤ id) (hl : g.loc id = some l) :
    ∃ w', (Instr.endLoop l.b).run P w = .ok pend w' ∧ St cx g H w g (H.set id .gone) w' ∧ ∀ k, k ≠ l.b → w'.heap[k]? = w.heap[k]? := by
  have hlt := hr.lt id l hl
  obtain ⟨r, h1, rfl, rfl, h4⟩ := St.record (st' := .exhausted) (pend' := pend) hr ho hobj hlow hl
  refine ⟨_, run_endLoop h1 hb, ?_, fun k hk => World.putObj_heap_other hk⟩
  have h5 := h4.trans (St.drop h4.rel h4.ok (id := id) hlow)
  rw [Hp.set_set] at h5
  exact h5

theorem evIt_ok (hr : Rel cx g H w) (he : EnvR g e a.tmps) {x : Operand} {f : FuncId} {fs cs : List V} (h : evIt cx e x = some (f, fs, cs)) : ∃ A B, a.eval x = .func (.func f) A B ∧ ArgsR g fs A ∧ ArgsR g cs B := by
  unfold evIt at h
  split at h
  · rename_i f' fa fb hx
    cases h
    obtain ⟨A, B, h1, h2, h3, h4, h5⟩ := (evx_ok hr he hx).pp.func_inv
    refine ⟨A, B, h1, ⟨by simp [h2], fun i v hi => ?_⟩, ⟨by simp [h3], fun i v hi => ?_⟩⟩
    · rw [List.getElem?_map] at hi
      cases hq : fa[i]? with
      | none => rw [hq] at hi; cases hi
      | some y => rw [hq] at hi; simp at hi; subst hi; exact .p (h4 i y hq)
    · rw [List.getElem?_map] at hi
      cases hq : fb[i]? with
      | none => rw [hq] at hi; cases hi
      | some y => rw [hq] at hi; simp at hi; subst hi; exact .p (h5 i y hq)
  · rename_i f' fa fb hx
    cases h
    obtain ⟨A, B, h1, h2, h3, h4, h5⟩ := (evx_ok hr he hx).func_inv
    exact ⟨A, B, h1, ⟨h2, h4⟩, ⟨h3, h5⟩⟩
  · cases h
theorem ArgsR.append {xs ys : List V} {A B : Array Value} (h : ArgsR g xs A) (k : ArgsR g ys B) : ArgsR g (xs ++ ys) (A ++ B) := by
  refine ⟨by simp [h.1, k.1], fun i v hi => ?_⟩
  have hm := h.1
  rw [Array.getD_eq_getD_getElem?]
  by_cases hx : i < xs.length
  · rw [List.getElem?_append_left hx] at hi
    rw [Array.getElem?_append_left (by omega), ← Array.getD_eq_getD_getElem?]
    exact h.2 i v hi
  · rw [List.getElem?_append_right (by omega)] at hi
    rw [Array.getElem?_append_right (by omega), ← Array.getD_eq_getD_getElem?, hm]
    exact k.2 _ v hi
theorem ArgsR.up {g g' : G} (hg : g.le g') {args : List V} {cs : Array Value} (h : ArgsR g args cs) : ArgsR g' args cs := ⟨h.1, fun i v hv => (h.2 i v hv).mono hg⟩

theorem rangeFunc_sound (hC : CallOK cx P call) (hN : NextOK call) {x : Operand} {ps : Array Tmp} {assign body : Code} {e : Env} {H : Hp} {y : Ex} {e' : Env} {H' : Hp}
    {f : FuncId} {fs cs : List V} (hit : evIt cx e x = some (f, fs, cs))
    (h : (match call (.f f) (fs ++ [.yield H.next] ++ cs) (H.new (.loop e ps.toList assign body .ready none)) with
      | some (.ok _ H2) => afterLoop e H2 H.next
      | some (.pan v H2) => some (.pan v, e, H2)
      | none => none) = some (y, e', H')) : CodeR cx P none (.rangeFunc x ps assign body) e H y e' H' := by
  intro g w a Q hr ho he hfr hQ
  obtain ⟨A, B, hx, hA, hB⟩ := evIt_ok hr he hit
  refine wpIn_rangeFunc fun fn _ => ?_
  have s1 := St.grow hr ho (.deferred (some []))
  let rec_ : Loop := { state := .ready, pending := none, fn, tmps := a.tmps, params := ps, assign, body, defers := w.heap.size }
  let w1 := w.alloc (.deferred (some []))
  let W1 := w1.alloc (.loop rec_)
  let l : Loc := { b := w.heap.size + 1, sz := 0, cap := 0, ty := 0 }
  cases hcall : call (.f f) (fs ++ [.yield H.next] ++ cs) (H.new (.loop e ps.toList assign body .ready none)) with
  | none => rw [hcall] at h; cases h
  | some rz =>
    have hn1 := hN _ _ _ _ hcall
    have hn2 : rz.hp.next = H'.next := by
      rw [hcall] at h
      cases rz with
      | ok v H2 => simp only at h; unfold afterLoop at h; (repeat' split at h) <;> cases h <;> rfl
      | pan v H2 => simp only at h; cases h; rfl
    have hn3 : H.next + 1 ≤ H'.next := by rw [← hn2]; exact hn1
    have hf0 : g.loc H.next = none := hfr H.next (Nat.le_refl _) (by omega)
    have s2 : St cx g H w1 (g.add H.next l) (H.new (.loop e ps.toList assign body .ready none)) W1 := by
      refine St.newObj s1.rel s1.ok hf0 (.loop rec_) _ l (by simp [l, w1]) ?_
      refine ⟨rec_, ?_, rfl, rfl, by simp [rec_], rfl, rfl, he.1, fun i => (he.2 i).mono (g.add_le hf0)⟩
      have := heap_new w1 (.loop rec_)
      simpa [l, w1] using this
    have s12 := s1.trans s2
    have hle1 := s2.le (fun id ha hb => by simp only [Hp.new] at hb; rw [show id = H.next by omega]; exact hf0)
    obtain ⟨hent, hcalls⟩ := hC.f f _ _ _ hcall
    have hargs : ArgsR (g.add H.next l) (fs ++ [.yield H.next] ++ cs) (A ++ #[.func (.yield (w.heap.size + 1)) #[] #[]] ++ B) := by
      refine ArgsR.append (ArgsR.append (hA.up hle1) ⟨rfl, fun i v hi => ?_⟩) (hB.up hle1)
      cases i with
      | zero => simp at hi; subst hi; exact .yield (l := l) (by simp [G.add])
      | succ i => simp at hi
    refine ⟨w.heap.size + 1, [{ target := .collected w.heap.size, args := #[] }], W1, { target := .fn (.func f) B, args := A ++ #[.func (.yield (w.heap.size + 1)) #[] #[]] }, W1, f, A ++ #[.func (.yield (w.heap.size + 1)) #[] #[]] ++ B, W1, run_enterLoop_outer _ _ _ _ _, ?_, fun _ _ => trivial, ?_, fun hd => by simp [RF, Fence.wide] at hd, ?_⟩
    · simp only [resolve, Sem.run_pure, Deferred.ofValue, hx]
      simp
      rfl
    · simp only [invoke, Sem.run_bind]
      exact hent _ _
    · refine (callsIn_wide (n := 0)).2 (Calls.mono (hcalls _ W1 _ s2.rel s2.ok ?_ hargs) ?_)
      · intro id ha hb
        simp only [Hp.new] at ha
        simp only [G.add]
        rw [if_neg (by omega)]
        exact hfr id (by omega) (by rw [← hn2]; exact hb)
      · intro en w2 hpost
        have hD1 : W1.heap[w.heap.size]? = some (.deferred (some [])) := by
          have h1 := heap_new w (.deferred (some []))
          have h2 := heap_keep w1 (.loop rec_) (i := w.heap.size) (by simp [w1])
          exact h2.trans h1
        cases rz with
        | ok v H2 =>
          obtain ⟨c, g2, rfl, s3, hv⟩ := hpost
          rw [hcall] at h
          simp only at h
          have s13 := s12.trans s3
          have hl2 : g2.loc H.next = some l := by
            rw [s3.loc H.next (.inl (by simp [Hp.new]))]; simp [G.add]
          have hD2 := s3.keepD s2.rel hD1
          have key : ∀ st pend env ps' as' body', H2.obj H.next = .loop env ps' as' body' st pend → st ≠ .busy → ∃ w4, (Instr.endLoop l.b).run P w2 = .ok pend w4 ∧ St cx g H w g2 (H2.set H.next .gone) w4 ∧ w4.heap[w.heap.size]? = some (.deferred (some [])) := by
            intro st pend env ps' as' body' hobj hb
            obtain ⟨w4, k1, k2, k3⟩ := St.finish (P := P) s3.rel s3.ok hobj hb (by rw [s13.low]; exact ho.low) hl2
            exact ⟨w4, k1, s13.trans k2, (k3 _ (by simp [l])).trans hD2⟩
          have hmk : ∀ w4 : World, w4.heap[w.heap.size]? = some (.deferred (some [])) → Marked w w4 a.defers ([{ target := .collected w.heap.size, args := #[] }] ++ a.defers) :=
            fun w4 hw4 => ⟨[w.heap.size], rfl, by simp, fun D hD => by simp at hD; subst hD; exact ⟨Nat.le_refl _, hw4⟩⟩
          unfold afterLoop at h
          split at h
          · cases h
          · rename_i hnb hobj
            cases h
            obtain ⟨w4, k1, k2, k3⟩ := key _ _ _ _ _ _ hobj (fun hb => hnb hb)
            exact ⟨none, w4, k1, hQ .normal _ g2 w4 k2 (hmk w4 k3) ⟨rfl, he.mono (k2.le hfr)⟩⟩
          · rename_i hnb hobj
            cases h
            obtain ⟨w4, k1, k2, k3⟩ := key _ _ _ _ _ _ hobj (fun hb => hnb hb)
            exact ⟨some .ret, w4, k1, wpIn_ret (hQ .ret _ g2 w4 k2 (hmk w4 k3) ⟨rfl, he.mono (k2.le hfr)⟩)⟩
          · rename_i hnb hobj
            cases h
            obtain ⟨w4, k1, k2, k3⟩ := key _ _ _ _ _ _ hobj (fun hb => hnb hb)
            exact ⟨some (.exit _), w4, k1, wpIn_exit (hQ (.exit _) _ g2 w4 k2 (hmk w4 k3) ⟨rfl, he.mono (k2.le hfr)⟩)⟩
          · cases h
        | pan v H2 =>
          obtain ⟨c, g2, rfl, s3, hv⟩ := hpost
          rw [hcall] at h
          simp only at h
          cases h
          exact hQ _ _ g2 w2 (s12.trans s3) ⟨[w.heap.size], rfl, by simp, fun D hD => by simp at hD; subst hD; exact ⟨Nat.le_refl _, s3.keepD s2.rel hD1⟩⟩ ⟨c, rfl, hv⟩

theorem evCode_sound (hT : TYok P cx) (hC : CallOK cx P call) (hN : NextOK call) {dr : List Oper → Option Nat} (hD : DrawOK cx P dr) (n : Nat) (ro : Option Nat) : ∀ (c : Code) {e : Env} {H : Hp} {x : Ex} {e' : Env} {H' : Hp},
    evCode cx dr call n ro.isSome c e H = some (x, e', H') → CodeR cx P ro c e H x e' H' := by
  intro c
  induction c with
  | skip =>
    intro e H x e' H' h g w a Q hr ho he hfr hQ
    simp [evCode] at h; obtain ⟨rfl, rfl, rfl⟩ := h
    exact wpIn_skip (hQ .normal a g w (St.refl hr ho) (.of_eq rfl) ⟨rfl, he⟩)
  | region id ops draw =>
    intro e H x e' H' h
    cases draw with
    | false =>
      intro g w a Q hr ho he hfr hQ
      exact wpIn_region_list (evOps_sound hT hC hN ops ops.toList h g w a Q hr ho he hfr (fun ex a' g' w' hs hd hx => hQ ex a' g' w' hs (.of_eq hd) hx))
    | true =>
      simp only [evCode] at h
      split at h
      · rename_i t ht
        split at h
        · rename_i e1 H1 h1
          exact hD call hC hN ro id ops t e H e1 H1 x e' H' ht h1 h
        · cases h
      · cases h
  | seq c1 c2 iha ihb =>
    intro e H x e' H' h g w a Q hr ho he hfr hQ
    simp only [evCode] at h
    refine wpIn_seq ?_
    split at h
    · rename_i e1 H1 h1
      have n2 := evCode_next hN n ro.isSome c2 h
      refine iha h1 g w a _ hr ho he (hfr.left n2) ?_
      rintro ex a' g' w' hst hd ⟨rfl, he'⟩
      refine ihb h g' w' a' Q hst.rel hst.ok he' (hst.free hfr) ?_
      intro ex a2 g2 w2 hs2 hd2 hx2
      exact hQ ex a2 g2 w2 (hst.trans hs2) (hd.trans hst.size hs2 hst.rel hd2) hx2
    · rename_i hne
      refine iha h g w a _ hr ho he hfr ?_
      intro ex a' g' w' hst hd hx
      have hq := hQ ex a' g' w' hst hd hx
      cases x with
      | normal => exact absurd h (hne _ _)
      | exit id => obtain ⟨rfl, _⟩ := hx; exact hq
      | ret => obtain ⟨rfl, _⟩ := hx; exact hq
      | pan v => obtain ⟨c, rfl, _⟩ := hx; exact hq
  | cond b c1 c2 iha ihb =>
    intro e H x e' H' h g w a Q hr ho he hfr hQ
    simp only [evCode] at h
    split at h
    · rename_i hb
      exact wpIn_cond_true (evx_ok hr he hb).bool (iha h g w a Q hr ho he hfr hQ)
    · rename_i hb
      exact wpIn_cond_false (evx_ok hr he hb).bool (ihb h g w a Q hr ho he hfr hQ)
    · cases h
  | block id c ih =>
    intro e H x e' H' h g w a Q hr ho he hfr hQ
    simp only [evCode] at h
    refine wpIn_block ?_
    split at h
    · rename_i id' e1 H1 h1
      split at h
      · rename_i hid
        subst hid
        cases h
        refine ih h1 g w a _ hr ho he hfr ?_
        rintro ex a' g' w' hst hd ⟨rfl, he'⟩
        simp only [Exit.inBlock, if_true]
        exact hQ _ a' g' w' hst hd ⟨rfl, he'⟩
      · rename_i hid
        cases h
        refine ih h1 g w a _ hr ho he hfr ?_
        rintro ex a' g' w' hst hd ⟨rfl, he'⟩
        simp only [Exit.inBlock, if_neg hid]
        exact hQ _ a' g' w' hst hd ⟨rfl, he'⟩
    · rename_i hne
      refine ih h g w a _ hr ho he hfr ?_
      intro ex a' g' w' hst hd hx
      have hq := hQ ex a' g' w' hst hd hx
      cases x with
      | normal => obtain ⟨rfl, _⟩ := hx; exact hq
      | exit id => exact absurd h (hne _ _ _)
      | ret => obtain ⟨rfl, _⟩ := hx; exact hq
      | pan v => obtain ⟨c, rfl, _⟩ := hx; exact hq
  | loop c ih =>
    intro e H x e' H' h
    simp only [evCode] at h
    exact iter_sound (fun e H x e' H' h => evCode_next hN n ro.isSome c h) (fun e H x e' H' h => ih h) n h
  | exit id =>
    intro e H x e' H' h g w a Q hr ho he hfr hQ
    simp [evCode] at h; obtain ⟨rfl, rfl, rfl⟩ := h
    exact wpIn_exit (hQ _ a g w (St.refl hr ho) (.of_eq rfl) ⟨rfl, he⟩)
  | ret =>
    intro e H x e' H' h g w a Q hr ho he hfr hQ
    simp [evCode] at h; obtain ⟨rfl, rfl, rfl⟩ := h
    exact wpIn_ret (hQ _ a g w (St.refl hr ho) (.of_eq rfl) ⟨rfl, he⟩)
  | rangeFunc g ps assign body =>
    intro e H x e' H' h
    simp only [evCode] at h
    cases ro with
    | some l => simp at h
    | none =>
      simp only [Option.isSome_none, Bool.false_eq_true, if_false] at h
      split at h
      · rename_i f fs cs hit
        exact rangeFunc_sound hC hN hit h
      · cases h
  | _ => intro e H x e' H' h; simp [evCode] at h

end
end Go.Ev
