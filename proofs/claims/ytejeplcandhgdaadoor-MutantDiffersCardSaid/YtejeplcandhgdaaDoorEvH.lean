/- Each operation of the machine does what 'evOp' says. Part 5: fields, assertions, what makes memory. -/
import Derived.Test.YtejeplcandhgdaaDoorEvG
import Derived.Carry
set_option linter.unusedVariables false
set_option linter.unusedSimpArgs false
namespace Go.Ev

section
variable {cx : Cx} {P : Program} {g : G} {H H' : Hp} {w : World} {e : Env} {a : Act} {o : Oper} {call : CallT} {v : V}

theorem cells_map_p (x : PV) : (V.p x).cells = x.cells.map .p := rfl

theorem alloc_ok (hT : TYok P cx) (hr : Rel cx g H w) (ho : Hok H) (hf : Free g H H') {t : TypeId} (hop : o.op = .alloc t) (h : evOp cx call o e H = some (.ok v H')) : Does cx P o a g H w v H' := by
  simp only [evOp, hop] at h
  split at h
  · rename_i d hd
    injection h with h; injection h with h1 h2; subst h1; subst h2
    obtain ⟨z, hz, hp⟩ := hT.zero hd w
    obtain ⟨hs, hc⟩ := (hp g.im).cells
    have hfr := hf H.next (Nat.le_refl _) (by simp [Hp.new])
    refine ⟨.pointer (some ⟨w.heap.size, 0, none⟩), g.add H.next ⟨w.heap.size, 0, 0, t⟩, w.alloc (.cells z.cells t), .inl ?_,
      St.newObj hr ho hfr (.cells z.cells t) _ ⟨w.heap.size, 0, 0, t⟩ rfl ⟨z.cells, t, heap_new w _, by simpa using hs, ?_⟩, ?_⟩
    · simp only [execOp, hop]
      refine run_v _ ?_
      simp only [Instr.alloc, Sem.run_bind, hz, Result.andThen_ok, newVar, newRow, newObj, Sem.run, Sem.run_pure]
      rfl
    · intro i x hx
      simp only [List.getElem?_map, Option.map_eq_some_iff] at hx
      obtain ⟨y, hy, rfl⟩ := hx
      exact .p (hc i y hy)
    · exact .ref (l := ⟨w.heap.size, 0, 0, t⟩) (by simp [G.add])
  · cases h

theorem box_ok (hr : Rel cx g H w) (ho : Hok H) (he : EnvR g e a.tmps) (hf : Free g H H') {t : TypeId} {x : Operand} (hop : o.op = .box t x) (h : evOp cx call o e H = some (.ok v H')) : Does cx P o a g H w v H' := by
  simp only [evOp, hop] at h
  split at h
  · rename_i u hu
    injection h with h; injection h with h1 h2; subst h1; subst h2
    obtain ⟨hs, hc⟩ := (evx_ok hr he hu).cells
    have hfr := hf H.next (Nat.le_refl _) (by simp [Hp.new])
    refine ⟨.pointer (some ⟨w.heap.size, 0, none⟩), g.add H.next ⟨w.heap.size, 0, 0, t⟩, w.alloc (.cells (a.eval x).cells t), .inl ?_,
      St.newObj hr ho hfr (.cells (a.eval x).cells t) _ ⟨w.heap.size, 0, 0, t⟩ rfl ⟨(a.eval x).cells, t, heap_new w _, hs, fun i y hy => (hc i y hy).mono (g.add_le hfr)⟩, ?_⟩
    · simp only [execOp, hop]
      refine run_v _ ?_
      simp only [Instr.box, Sem.run_bind, newVar, newRow, newObj, Sem.run, Result.andThen_ok, Sem.run_pure]
      rfl
    · exact .ref (l := ⟨w.heap.size, 0, 0, t⟩) (by simp [G.add])
  · cases h

theorem makeMap_ok (hr : Rel cx g H w) (ho : Hok H) (hf : Free g H H') {t : TypeId} {r : Option Operand} (hop : o.op = .makeMap t r) (h : evOp cx call o e H = some (.ok v H')) : Does cx P o a g H w v H' := by
  cases r with
  | some r => simp [evOp, hop] at h
  | none =>
    simp only [evOp, hop] at h
    injection h with h; injection h with h1 h2; subst h1; subst h2
    have hfr := hf H.next (Nat.le_refl _) (by simp [Hp.new])
    refine ⟨.map (some w.heap.size), g.add H.next ⟨w.heap.size, 0, 0, t⟩, w.alloc (.map #[] 0), .inl ?_,
      St.newObj hr ho hfr (.map #[] 0) _ ⟨w.heap.size, 0, 0, t⟩ rfl ⟨#[], 0, heap_new w _, rfl, fun i k v hi => by simp at hi⟩, ?_⟩
    · simp only [execOp, hop]
      refine run_v _ ?_
      exact Go.RowKit.run_makeMap t w
    · exact .map (l := ⟨w.heap.size, 0, 0, t⟩) (by simp [G.add])

theorem typeAssert_ok (hT : TYok P cx) (hr : Rel cx g H w) (ho : Hok H) (he : EnvR g e a.tmps) {x : Operand} {s t : TypeId} {ok : Bool} (hop : o.op = .typeAssert x s t ok) (h : evOp cx call o e H = some (.ok v H')) : Does cx P o a g H w v H' := by
  simp only [evOp, hop] at h
  split at h
  · rename_i u hu
    have hv := evx_ok hr he hu
    split at h
    · rename_i r hb
      injection h with h; injection h with h1 h2; subst h1; subst h2
      unfold evAssert at hb
      split at hb
      · rename_i d hd
        obtain ⟨z, hz, hp⟩ := hT.zero hd w
        split at hb
        · cases hb
        · rename_i hni
          split at hb
          · rename_i hok
            subst hok
            have hpair : ∀ (x : PV) (c : Value) (b : Bool), PR g.im x c → VR g (.p (.tup [x, .bool b])) (.tuple #[c, .bool b]) := fun x c b hx => .p (.tup rfl (fun i y hy => by
              match i, hy with
              | 0, hy => simp at hy; subst hy; simpa using hx
              | 1, hy => simp at hy; subst hy; simpa using PR.bool b))
            have hno : ∀ ms, d.desc ≠ .interface ms := fun ms hq => hni ms hq
            split at hb
            · injection hb with hb; subst hb
              have hc := hv.pp.nili_inv
              refine does_pure hr ho (c := .tuple #[z, .bool false]) ?_ (hpair _ _ _ (hp _))
              simp only [execOp, hop]
              rw [hc]
              refine run_v _ ?_
              unfold Instr.typeAssert
              rw [Sem.run_bind, hT.und hd, Result.andThen_ok]
              generalize d.desc = dd at hno
              cases dd <;> first | exact absurd rfl (hno _) | simp [Sem.run_bind, hz]
            · rename_i ut xx
              obtain ⟨cc, hc, hcc⟩ := hv.pp.iface_inv
              split at hb
              · rename_i heq
                injection hb with hb; subst hb
                refine does_pure hr ho (c := .tuple #[cc, .bool true]) ?_ (hpair _ _ _ hcc)
                simp only [execOp, hop]
                rw [hc]
                refine run_v _ ?_
                unfold Instr.typeAssert
                rw [Sem.run_bind, hT.und hd, Result.andThen_ok]
                generalize d.desc = dd at hno
                cases dd <;> first | exact absurd rfl (hno _) | simp [Sem.run_bind, heq]
              · rename_i heq
                injection hb with hb; subst hb
                refine does_pure hr ho (c := .tuple #[z, .bool false]) ?_ (hpair _ _ _ (hp _))
                simp only [execOp, hop]
                rw [hc]
                refine run_v _ ?_
                unfold Instr.typeAssert
                rw [Sem.run_bind, hT.und hd, Result.andThen_ok]
                generalize d.desc = dd at hno
                cases dd <;> first | exact absurd rfl (hno _) | simp [Sem.run_bind, heq, hz]
            · cases hb
          · cases hb
      · cases hb
    · cases h
  · cases h

theorem field_ok (hT : TYok P cx) (hr : Rel cx g H w) (ho : Hok H) (he : EnvR g e a.tmps) {t : TypeId} {x : Operand} {f : Nat} (hop : o.op = .field t x f) (h : evOp cx call o e H = some (.ok v H')) : Does cx P o a g H w v H' := by
  simp only [evOp, hop] at h
  split at h
  · rename_i u hu
    have hv := evx_ok hr he hu
    split at h
    · rename_i r hb
      injection h with h; injection h with h1 h2; subst h1; subst h2
      unfold evField at hb
      split at hb
      · rename_i d hd
        split at hb
        · rename_i fs hfs
          split at hb
          · rename_i fd hfd
            split at hb
            · rename_i df hdf
              have hrun : ∀ l r, a.eval x = .agg l → (part fd.type l fd.offset).run P w = .ok r w → (execOp a.eval o).run P w = .ok (.value r) w := fun l r h1 h2 => by
                simp only [execOp, hop]
                rw [h1]
                refine run_v _ ?_
                unfold Instr.field
                rw [Sem.run_bind, hT.und hd, Result.andThen_ok, hfs]
                simp only [hfd, asAgg, Sem.run_bind, Sem.run_pure, Result.andThen_ok, h2]
              have hpart : ∀ (cs : List V) (l : Array Value) (k : List V), l.size = cs.length → (∀ i x, cs[i]? = some x → VR g x (l.getD i Go.undef)) → cut cs fd.offset df.size = some k →
                  (isAggT df.desc = true → (part fd.type l fd.offset).run P w = .ok (.agg (l.extract fd.offset (fd.offset + df.size))) w ∧ VR g (mkAgg k) (.agg (l.extract fd.offset (fd.offset + df.size)))) ∧
                  (isAggT df.desc = false → ∀ y, k = [y] → (part fd.type l fd.offset).run P w = .ok (l.getD fd.offset Go.undef) w ∧ VR g y (l.getD fd.offset Go.undef)) := by
                intro cs l k h1 h2 h3
                obtain ⟨c1, c2, c3⟩ := cut_ok h3
                refine ⟨fun hag => ⟨?_, ?_⟩, fun hag y hy => ⟨?_, ?_⟩⟩
                · unfold part
                  rw [Sem.run_bind, hT.isAgg hdf, hag, Result.andThen_ok]
                  simp only [if_true, Sem.run_bind, hT.sizeOf hdf, Result.andThen_ok, Sem.run_pure]
                · refine mkAgg_ok (by simp [c1]; omega) (fun i y hy => ?_)
                  have hi : i < df.size := by have := (List.getElem?_eq_some_iff.1 hy).1; omega
                  rw [c3 i hi] at hy
                  have := h2 _ _ hy
                  have hlt : fd.offset + i < l.size := by omega
                  have hlt2 : i < min (fd.offset + df.size) l.size - fd.offset := by omega
                  rw [Array.getD_eq_getD_getElem?, Array.getElem?_extract, if_pos hlt2]
                  rwa [Array.getD_eq_getD_getElem?] at this
                · subst hy
                  simp at c1
                  have hlt : fd.offset < l.size := by omega
                  unfold part
                  rw [Sem.run_bind, hT.isAgg hdf, hag, Result.andThen_ok]
                  simp [hlt]
                · subst hy
                  simp at c1
                  have := c3 0 (by omega)
                  simp at this
                  exact h2 _ _ this.symm
              split at hb
              · rename_i cs
                obtain ⟨l, hc, hs, hp⟩ := hv.pp.agg_inv
                split at hb
                · rename_i k hk
                  have hk' : cut (cs.map V.p) fd.offset df.size = some (k.map .p) := by
                    unfold cut at hk ⊢
                    split at hk
                    · rename_i hle
                      injection hk with hk; subst hk
                      rw [if_pos (by simpa using hle)]
                      simp
                    · cases hk
                  obtain ⟨q1, q2⟩ := hpart (cs.map .p) l (k.map .p) (by simpa using hs) (fun i x hx => by
                    simp only [List.getElem?_map, Option.map_eq_some_iff] at hx
                    obtain ⟨y, hy, rfl⟩ := hx
                    exact .p (hp i y hy)) hk'
                  split at hb
                  · rename_i hag
                    injection hb with hb; subst hb
                    obtain ⟨r1, r2⟩ := q1 hag
                    refine does_pure hr ho (hrun _ _ hc r1) ?_
                    have : mkAgg (k.map V.p) = .p (.agg k) := by
                      have : ∀ k : List PV, allP (k.map V.p) = some k := fun k => by induction k with | nil => rfl | cons x r ih => simp [allP, ih]
                      simp [mkAgg, this]
                    rwa [this] at r2
                  · rename_i hag
                    split at hb
                    · rename_i y
                      injection hb with hb; subst hb
                      obtain ⟨r1, r2⟩ := q2 (by simpa using hag) (.p y) rfl
                      exact does_pure hr ho (hrun _ _ hc r1) r2
                    · cases hb
                · cases hb
              · rename_i cs
                obtain ⟨l, hc, hs, hp⟩ := hv.agg_inv
                split at hb
                · rename_i k hk
                  obtain ⟨q1, q2⟩ := hpart cs l k hs hp hk
                  split at hb
                  · rename_i hag
                    injection hb with hb; subst hb
                    obtain ⟨r1, r2⟩ := q1 hag
                    exact does_pure hr ho (hrun _ _ hc r1) r2
                  · rename_i hag
                    split at hb
                    · rename_i y
                      injection hb with hb; subst hb
                      obtain ⟨r1, r2⟩ := q2 (by simpa using hag) _ rfl
                      exact does_pure hr ho (hrun _ _ hc r1) r2
                    · cases hb
                · cases hb
              · cases hb
            · cases hb
          · cases hb
        · cases hb
      · cases hb
    · cases h
  · cases h

end
end Go.Ev
