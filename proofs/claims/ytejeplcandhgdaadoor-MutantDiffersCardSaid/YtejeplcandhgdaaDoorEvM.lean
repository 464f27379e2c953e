/- Each operation of the machine does what 'evOp' says. Part 10: structs, literals, maps, make. -/
import Derived.Test.YtejeplcandhgdaaDoorEvL
import Derived.Laws.Tables
set_option linter.unusedVariables false
set_option linter.unusedSimpArgs false
namespace Go.Ev

section
variable {cx : Cx} {P : Program} {g : G} {H H' : Hp} {w : World} {e : Env} {a : Act} {o : Oper} {call : CallT} {v : V}

theorem foldl_set (off : Nat) : ∀ (vs : List Value) (k : Nat) (cells : Array Value),
    ((vs.zipIdx k).foldl (fun cs (x : Value × Nat) => cs.setIfInBounds (off + x.2) x.1) cells).size = cells.size ∧
    ∀ j, ((vs.zipIdx k).foldl (fun cs (x : Value × Nat) => cs.setIfInBounds (off + x.2) x.1) cells)[j]? = if off + k ≤ j ∧ j < off + k + vs.length ∧ j < cells.size then vs[j - (off + k)]? else cells[j]?
  | [], k, cells => by
    refine ⟨rfl, fun j => ?_⟩
    rw [if_neg (by simp; omega)]
    rfl
  | v :: r, k, cells => by
    obtain ⟨h1, h2⟩ := foldl_set off r (k + 1) (cells.setIfInBounds (off + k) v)
    simp only [List.zipIdx_cons, List.foldl_cons]
    refine ⟨by rw [h1]; simp, fun j => ?_⟩
    rw [h2 j]
    simp only [Array.size_setIfInBounds, List.length_cons]
    by_cases hj : off + (k + 1) ≤ j ∧ j < off + (k + 1) + r.length ∧ j < cells.size
    · rw [if_pos hj, if_pos (by omega), show j - (off + k) = (j - (off + (k + 1))) + 1 by omega]
      simp
    · rw [if_neg hj, Array.getElem?_setIfInBounds]
      by_cases hk : off + k = j
      · rw [if_pos hk]
        split
        · rename_i hlt
          rw [if_pos (by omega), show j - (off + k) = 0 by omega]
          rfl
        · rename_i hlt
          rw [if_neg (by omega), Array.getElem?_eq_none (by omega)]
      · rw [if_neg hk, if_neg (by omega)]

theorem fill_one (off : Nat) (v cells : Array Value) (h : off + v.size ≤ cells.size) :
    (v.zipIdx.foldl (fun cs (x : Value × Nat) => cs.setIfInBounds (off + x.2) x.1) cells).size = cells.size ∧
    ∀ j, (v.zipIdx.foldl (fun cs (x : Value × Nat) => cs.setIfInBounds (off + x.2) x.1) cells).getD j Go.undef = if off ≤ j ∧ j < off + v.size then v.getD (j - off) Go.undef else cells.getD j Go.undef := by
  have e : v.zipIdx.foldl (fun cs (x : Value × Nat) => cs.setIfInBounds (off + x.2) x.1) cells = (v.toList.zipIdx 0).foldl (fun cs (x : Value × Nat) => cs.setIfInBounds (off + x.2) x.1) cells := by
    rw [← Array.foldl_toList, Array.toList_zipIdx]
  rw [e]
  obtain ⟨h1, h2⟩ := foldl_set off v.toList 0 cells
  refine ⟨h1, fun j => ?_⟩
  rw [Array.getD_eq_getD_getElem?, h2 j]
  simp only [Nat.add_zero, Array.length_toList, Array.getElem?_toList]
  by_cases hj : off ≤ j ∧ j < off + v.size
  · rw [if_pos (by omega), if_pos hj, Array.getD_eq_getD_getElem?]
  · rw [if_neg (by omega), if_neg hj, Array.getD_eq_getD_getElem?]


theorem evparts_ok (hr : Rel cx g H w) (he : EnvR g e a.tmps) : ∀ (l : List (Nat × Operand)) (vs : List (Nat × V)), evparts cx e l = some vs →
    l.length = vs.length ∧ ∀ (i k : Nat) (v : V), vs[i]? = some (k, v) → ∃ c, (l.map fun x => (x.1, a.eval x.2))[i]? = some (k, c) ∧ VR g v c
  | [], vs, h => by simp [evparts] at h; subst h; simp
  | (i, x) :: r, vs, h => by
    unfold evparts at h
    split at h
    · rename_i v l h1 h2
      injection h with h; subst h
      obtain ⟨h3, h4⟩ := evparts_ok hr he r l h2
      refine ⟨by simp [h3], fun j k u hu => ?_⟩
      cases j with
      | zero => simp at hu; obtain ⟨rfl, rfl⟩ := hu; exact ⟨_, by simp, evx_ok hr he h1⟩
      | succ j => simpa using h4 j k u (by simpa using hu)
    · cases h

theorem fillP_ok (hT : TYok P cx) (fs : List Field) (places : List (Nat × Nat)) (hp : ∀ (i : Nat) (f : Field) (d : TY), fs[i]? = some f → cx.ty f.type = some d → places[i]? = some (f.offset, d.size)) :
    ∀ (ps : List (Nat × V)) (qs : List (Nat × Value)), ps.length = qs.length → (∀ (i k : Nat) (v : V), ps[i]? = some (k, v) → ∃ c, qs[i]? = some (k, c) ∧ VR g v c) →
    ∀ (cells : List V) (C : Array Value), C.size = cells.length → (∀ i v, cells[i]? = some v → VR g v (C.getD i Go.undef)) → ∀ cells', fillP cx fs cells ps = some cells' →
      ∃ C', Instr.fill (places.toArray[·]?) C qs = some C' ∧ C'.size = cells'.length ∧ ∀ i v, cells'[i]? = some v → VR g v (C'.getD i Go.undef)
  | [], [], _, _, cells, C, hs, hc, cells', h => by
    simp [fillP] at h; subst h
    exact ⟨C, rfl, hs, hc⟩
  | [], _ :: _, hl, _, _, _, _, _, _, _ => by cases hl
  | _ :: _, [], hl, _, _, _, _, _, _, _ => by cases hl
  | (k, v) :: ps, (k', c) :: qs, hl, hq, cells, C, hs, hc, cells', h => by
    obtain ⟨c', hc', hv⟩ := hq 0 k v rfl
    simp at hc'
    obtain ⟨rfl, rfl⟩ := hc'
    unfold fillP at h
    split at h
    · rename_i f hf
      split at h
      · rename_i d hd
        split at h
        · rename_i hok
          obtain ⟨hk1, hk2⟩ := hok
          have hpl := hp _ f d hf hd
          obtain ⟨hvs, hvc⟩ := hv.cells
          have hcs : c.cells.size = d.size := by omega
          obtain ⟨f1, f2⟩ := fill_one f.offset c.cells C (by omega)
          obtain ⟨C', q1, q2, q3⟩ := fillP_ok hT fs places hp ps qs (by simpa using hl) (fun i k v hi => by simpa using hq (i + 1) k v (by simpa using hi))
            (over cells f.offset v.cells) _ (by rw [f1, over_length, hs]) (fun i u hu => by
              rw [over_get _ _ _ _ (by omega)] at hu
              rw [f2 i, hcs]
              split at hu
              · rename_i hin
                rw [if_pos (by omega)]
                exact hvc _ _ hu
              · rename_i hin
                rw [if_neg (by omega)]
                exact hc i u hu) cells' h
          refine ⟨C', ?_, q2, q3⟩
          unfold Instr.fill
          have : places.toArray[k']? = some (f.offset, d.size) := by simpa using hpl
          simp only [this]
          rw [if_neg (by simp [hcs]; omega)]
          exact q1
        · cases h
      · cases h
    · cases h

theorem build_ok (hT : TYok P cx) (hr : Rel cx g H w) (ho : Hok H) (he : EnvR g e a.tmps) {t : TypeId} {parts : Array (Nat × Operand)} (hop : o.op = .build t parts) (h : evOp cx call o e H = some (.ok v H')) : Does cx P o a g H w v H' := by
  simp only [evOp, hop] at h
  split at h
  · rename_i d ps hd hps
    split at h
    · rename_i fs hfs
      split at h
      · rename_i hall
        split at h
        · rename_i l hl
          injection h with h; injection h with h1 h2; subst h1; subst h2
          obtain ⟨i, z, hi, hs, hb, hz, hzp, hzl, _⟩ := hT.info t d hd
          have hzp' : PR g.im d.zero z := hzp.mono (fun _ _ _ h => by cases h)
          obtain ⟨z1, z2⟩ := hzp'.cells
          have hu := hT.desc t d hd
          rw [hfs] at hu
          obtain ⟨n1, n2⟩ := evparts_ok hr he _ _ hps
          -- the places
          have hex : ∀ l : List Field, (l.all fun f => (cx.ty f.type).isSome) = true → ∃ places, l.mapM (fun f => (P.info? f.type).map fun i => (f.offset, i.size)) = some places ∧
              ∀ (i : Nat) (f : Field) (d : TY), l[i]? = some f → cx.ty f.type = some d → places[i]? = some (f.offset, d.size) := by
            intro l hall
            induction l with
            | nil => exact ⟨[], rfl, fun i f d h => by simp at h⟩
            | cons f r ih =>
              simp only [List.all_cons, Bool.and_eq_true] at hall
              obtain ⟨places, q1, q2⟩ := ih hall.2
              obtain ⟨df, hdf⟩ := Option.isSome_iff_exists.1 hall.1
              obtain ⟨ii, zz, hii, hss, _⟩ := hT.info _ _ hdf
              refine ⟨(f.offset, ii.size) :: places, by simp [List.mapM_cons, hii, q1], fun i f' d' h1 h2 => ?_⟩
              cases i with
              | zero => simp at h1; subst h1; rw [hdf] at h2; injection h2 with h2; subst h2; simp [hss]
              | succ i => simpa using q2 i f' d' (by simpa using h1) h2
          obtain ⟨places, q1, q2⟩ := hex _ hall
          obtain ⟨C', r1, r2, r3⟩ := fillP_ok hT fs.toList places q2 ps (parts.toList.map fun x => (x.1, a.eval x.2)) (by simp [n1]) n2 (d.zero.cells.map .p) z.cells (by simpa using z1) (fun i v hv => by
            simp only [List.getElem?_map, Option.map_eq_some_iff] at hv
            obtain ⟨y, hy, rfl⟩ := hv
            exact .p (z2 i y hy)) l hl
          refine does_pure hr ho (c := .agg C') ?_ (mkAgg_ok r2 r3)
          simp only [execOp, hop]
          refine run_v _ ?_
          refine run_build (P := P) w t _ C' ?_
          unfold Program.built
          simp only [hi, hu, hz, q1]
          simpa using r1
        · cases h
      · cases h
    · cases h
  · cases h

/-- Elements of a literal. -/
theorem setParts_ok {sz : Nat} : ∀ (ps : List (Nat × V)) (qs : List (Nat × Value)), ps.length = qs.length → (∀ (i k : Nat) (v : V), ps[i]? = some (k, v) → ∃ c, qs[i]? = some (k, c) ∧ VR g v c) →
    ∀ (xs : List PV) (C : Array Value) (n : Nat), xs.length = n → C.size = n * sz → (∀ (i : Nat) (x : PV) (f : Nat) (y : PV), xs[i]? = some x → x.cells[f]? = some y → PR g.im y (C.getD (i * sz + f) Go.undef)) →
      (∀ k, k < n * sz → (C.getD k Go.undef).oneCell' = true) → (∀ (i : Nat) (x : PV), xs[i]? = some x → x.cells.length = sz) → ∀ xs', setParts sz xs ps = some xs' →
      ∃ C', Instr.fill (fun i => some (i * sz, sz)) C qs = some C' ∧ xs'.length = n ∧ C'.size = n * sz ∧ (∀ (i : Nat) (x : PV) (f : Nat) (y : PV), xs'[i]? = some x → x.cells[f]? = some y → PR g.im y (C'.getD (i * sz + f) Go.undef)) ∧
        (∀ k, k < n * sz → (C'.getD k Go.undef).oneCell' = true) ∧ (∀ (i : Nat) (x : PV), xs'[i]? = some x → x.cells.length = sz)
  | [], [], _, _, xs, C, n, hn, hC, hv, h1, hs, xs', h => by
    simp [setParts] at h; subst h
    exact ⟨C, rfl, hn, hC, hv, h1, hs⟩
  | [], _ :: _, hl, _, _, _, _, _, _, _, _, _, _, _ => by cases hl
  | _ :: _, [], hl, _, _, _, _, _, _, _, _, _, _, _ => by cases hl
  | (k, v) :: ps, (k', c) :: qs, hl, hq, xs, C, n, hn, hC, hv, h1, hs, xs', h => by
    obtain ⟨c', hc', hvc⟩ := hq 0 k v rfl
    simp at hc'
    obtain ⟨rfl, rfl⟩ := hc'
    cases v with
    | p x =>
      unfold setParts at h
      split at h
      · rename_i hok
        obtain ⟨hk1, hk2, hk3⟩ := hok
        obtain ⟨z1, z2⟩ := hvc.pp.cells
        have hm : k' * sz + sz ≤ n * sz := by
          have : (k' + 1) * sz ≤ n * sz := Nat.mul_le_mul_right _ (by omega)
          rwa [Nat.add_mul, Nat.one_mul] at this
        obtain ⟨f1, f2⟩ := fill_one (k' * sz) c.cells C (by omega)
        obtain ⟨C', r⟩ := setParts_ok ps qs (by simpa using hl) (fun i k v hi => by simpa using hq (i + 1) k v (by simpa using hi))
          (xs.set k' x) _ n (by simpa using hn) (by rw [f1, hC]) (fun i x' f y hx hy => by
            rw [f2]
            rw [List.getElem?_set] at hx
            by_cases hik : k' = i
            · subst hik
              rw [if_pos rfl, if_pos hk1] at hx
              injection hx with hx; subst hx
              have hfl := (List.getElem?_eq_some_iff.1 hy).1
              rw [if_pos (by omega), show k' * sz + f - k' * sz = f by omega]
              exact z2 f y hy
            · rw [if_neg hik] at hx
              have hfl := (List.getElem?_eq_some_iff.1 hy).1
              rw [hs i x' hx] at hfl
              rw [if_neg ?_]
              · exact hv i x' f y hx hy
              · rintro ⟨q1, q2⟩
                rcases Nat.lt_or_gt_of_ne hik with hlt | hgt
                · have : (k' + 1) * sz ≤ i * sz := Nat.mul_le_mul_right _ hlt
                  rw [Nat.add_mul, Nat.one_mul] at this
                  omega
                · have : (i + 1) * sz ≤ k' * sz := Nat.mul_le_mul_right _ hgt
                  rw [Nat.add_mul, Nat.one_mul] at this
                  omega)
          (fun j hj => by
            rw [f2]
            split
            · rename_i hin
              have hjl : j - k' * sz < x.cells.length := by omega
              exact (z2 _ _ (List.getElem?_eq_getElem hjl)).one (List.all_eq_true.1 hk3 _ (List.getElem_mem hjl))
            · exact h1 j hj)
          (fun i x' hx => by
            rw [List.getElem?_set] at hx
            by_cases hik : k' = i
            · rw [if_pos hik, if_pos hk1] at hx
              injection hx with hx; subst hx; exact hk2
            · rw [if_neg hik] at hx
              exact hs i x' hx) xs' h
        refine ⟨C', ?_, r.2⟩
        unfold Instr.fill
        simp only []
        rw [if_neg (by simp; omega)]
        exact r.1
      · cases h
    | _ => simp [setParts] at h

theorem buildSlice_ok (hT : TYok P cx) (hr : Rel cx g H w) (ho : Hok H) (he : EnvR g e a.tmps) {t : TypeId} {n : Nat} {parts : Array (Nat × Operand)} (hop : o.op = .buildSlice t n parts) (h : evOp cx call o e H = some (.ok v H')) : Does cx P o a g H w v H' := by
  simp only [evOp, hop] at h
  split at h
  · rename_i d ps hd hps
    split at h
    · rename_i el hdd
      split at h
      · rename_i de hde
        split at h
        · cases h
        · rename_i hsm
          split at h
          case h_2 => cases h
          rename_i ps' H1 hres
          obtain ⟨g1, s1, hl1, hlen1, hres1⟩ := resParts_ok ps hr ho hres
          split at h
          · rename_i xs hxs
            injection h with h; injection h with h1 h2; subst h1; subst h2
            obtain ⟨i, z, hi, hisz, hb, hz, hzp, hzl, hzc⟩ := hT.info el de hde
            have hzp' : PR g1.im de.zero z := hzp.mono (fun _ _ _ h => by cases h)
            obtain ⟨z1, z2⟩ := hzp'.cells
            have hsz0 : 0 < de.size := by omega
            have hzs : z.cells.size = de.size := by omega
            obtain ⟨n1, n0⟩ := evparts_ok hr he _ _ hps
            have n2 : ∀ (i k : Nat) (v : V), ps'[i]? = some (k, v) → ∃ c, (parts.toList.map fun x => (x.1, a.eval x.2))[i]? = some (k, c) ∧ VR g1 v c := fun i k v hi => by
              obtain ⟨u, hu, huc⟩ := hres1 i k v hi
              obtain ⟨c, hc1, hc2⟩ := n0 i k u hu
              exact ⟨c, hc1, huc c hc2⟩
            let C : Array Value := (Array.range (n * de.size)).map (z.cells[· % z.cells.size]!)
            have hCs : C.size = n * de.size := by simp [C]
            have hCg : ∀ k, k < n * de.size → C.getD k Go.undef = z.cells.getD (k % de.size) Go.undef := fun k hk => by
              have hlt : k % de.size < z.cells.size := by rw [hzs]; exact Nat.mod_lt _ hsz0
              have hlt' : k % z.cells.size < z.cells.size := by rw [hzs] at hlt ⊢; exact hlt
              simp [C, Array.getD_eq_getD_getElem?, hk, hzs]
              rw [getElem!_pos z.cells (k % de.size) hlt]
              simp [hlt]
            obtain ⟨C', r1, r2, r3, r4, r5, r6⟩ := setParts_ok (g := g1) ps' (parts.toList.map fun x => (x.1, a.eval x.2)) (by simp [n1, hlen1]) n2 (List.replicate n de.zero) C n (by simp) hCs
              (fun i x f y hx hy => by
                have hil := (List.getElem?_eq_some_iff.1 hx).1
                simp at hil
                rw [List.getElem?_replicate, if_pos hil] at hx
                injection hx with hx; subst hx
                have hfl := (List.getElem?_eq_some_iff.1 hy).1
                rw [hzl] at hfl
                have : (i + 1) * de.size ≤ n * de.size := Nat.mul_le_mul_right _ hil
                rw [Nat.add_mul, Nat.one_mul] at this
                rw [hCg _ (by omega), Nat.mul_comm, Nat.mul_add_mod, Nat.mod_eq_of_lt hfl]
                exact z2 f y hy)
              (fun k hk => by
                rw [hCg k hk]
                have hlt : k % de.size < de.zero.cells.length := by rw [hzl]; exact Nat.mod_lt _ hsz0
                exact (z2 _ _ (List.getElem?_eq_getElem hlt)).one (List.all_eq_true.1 hzc _ (List.getElem_mem hlt)))
              (fun i x hx => by
                have hil := (List.getElem?_eq_some_iff.1 hx).1
                simp at hil
                rw [List.getElem?_replicate, if_pos hil] at hx
                injection hx with hx; subst hx
                exact hzl) xs hxs
            have hrun : (execOp a.eval o).run P w = .ok (.value (.slice (some ⟨w.heap.size, 0, none⟩) n n)) (w.alloc (.cells C' el)) := by
              simp only [execOp, hop]
              refine run_v _ ?_
              unfold Instr.buildSlice
              have hzr : (zeroValue el).run P w = .ok z w := by simp [zeroValue, typeInfo, hi, hz]
              have hq : ¬ n * de.size > 2 ^ 24 := by
                have := hsm; simp at this ⊢; omega
              rw [Sem.run_bind, hT.und hd, Result.andThen_ok, hdd]
              simp only [Sem.run_bind, hT.sizeOf hde, Result.andThen_ok]
              rw [if_neg hq]
              by_cases hn0 : n * de.size = 0
              · have hn : n = 0 := by
                  rcases Nat.mul_eq_zero.1 hn0 with h | h
                  · exact h
                  · omega
                subst hn
                have hps0 : xs.length = 0 := r2
                have hC0 : C = #[] := by apply Array.eq_empty_of_size_eq_zero; simpa using hCs
                rw [hC0] at r1
                have e0 : ∀ f : Nat → Value, (Array.range 0).map f = #[] := fun f => by simp
                simp only [Nat.zero_mul, if_true, Sem.run_pure, Result.andThen_ok, e0, List.map_toArray, r1, newRow, newObj, Sem.run_bind, Sem.run]
                have r1' : Instr.fill (fun i => some (i * de.size, de.size)) #[] (Array.map (fun x => (x.1, a.eval x.2)) parts).toList = some C' := by simpa using r1
                simp only [r1', Sem.run_bind, Sem.run, Result.andThen_ok, Sem.run_pure]
                rfl
              · simp only [hn0, if_false]
                simp [hzr, newRow, newObj, Sem.run]
                have : Instr.fill (fun i => some (i * de.size, de.size)) C (parts.toList.map fun x => (x.1, a.eval x.2)) = some C' := r1
                simp only [C] at this
                simp [this, Sem.run]
            refine ⟨_, _, _, .inl hrun, s1.trans (St.newIm s1.rel s1.ok C' el), ?_⟩
            by_cases hn : n = 0
            · subst hn
              simp only [if_true]
              exact .p (.nils _)
            · rw [if_neg hn]
              have hR : Rows (g1.put w.heap.size (fun k => C'[k]?)).im xs w.heap.size 0 de.size (fun i f => C'.getD (i * de.size + f) Go.undef) := by
                have hlt : ∀ i f, i < xs.length → f < de.size → i * de.size + f < C'.size := fun i f hi hf => by
                  have : (i + 1) * de.size ≤ n * de.size := Nat.mul_le_mul_right _ (by omega)
                  rw [Nat.add_mul, Nat.one_mul] at this
                  omega
                refine ⟨r6, fun i f hi hf => ?_, fun i f hi hf => r5 _ (by have := hlt i f hi hf; omega), fun i x f y hx hy => (r4 i x f y hx hy).mono (fun b o u h => ?_)⟩
                · simp only [G.put, if_true, Nat.zero_add]
                  have := hlt i f hi hf
                  simp [Array.getD_eq_getD_getElem?, this]
                · have := im_lt s1.rel h
                  simp only [G.put]
                  rw [if_neg (by omega)]
                  exact h
              have := hR.sl (cap := n) (by omega)
              rw [r2] at this
              exact .p this
          · cases h
      · cases h
    · cases h
  · cases h

end
end Go.Ev
