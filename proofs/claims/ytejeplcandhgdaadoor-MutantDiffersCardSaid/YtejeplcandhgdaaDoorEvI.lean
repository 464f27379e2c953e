/- Each operation of the machine does what 'evOp' says. Part 6: stores. -/
import Derived.Test.YtejeplcandhgdaaDoorEvH
set_option linter.unusedVariables false
set_option linter.unusedSimpArgs false
namespace Go.Ev

section
variable {cx : Cx} {P : Program} {g : G} {H H' : Hp} {w : World} {e : Env} {a : Act} {o : Oper} {call : CallT} {v : V}

/-- A block is written anew; nobody else lies there. -/
theorem St.write (hr : Rel cx g H w) (ho : Hok H) {id : Nat} {l : Loc} {o' : O} {w' : World} (hlow : H.low ≤ id) (hm : (H.obj id).mu = true) (hl : g.loc id = some l)
    (hw : ∀ k, k ≠ l.b → w'.heap[k]? = w.heap[k]?) (hs : w'.heap.size = w.heap.size) (h1 : w'.os = w.os) (h2 : w'.tape = w.tape) (h3 : w'.output = w.output)
    (hO : ObjR g w' l o') (hmu : o'.mu = true) : St cx g H w g (H.set id o') w' := by
  have hid : id < H.next := by
    by_cases h : H.next ≤ id
    · have := ho.gone id h; rw [this] at hm; cases hm
    · omega
  refine ⟨⟨?_, hr.gl, ?_, ?_, ?_, ?_⟩, ⟨?_, ho.low⟩, fun _ _ _ h => h, fun _ _ => rfl, Nat.le_refl _, rfl, ?_, ?_, h1, h2, h3, by omega, ?_, ?_, fun _ _ h1 h2 _ => absurd h2 h1⟩
  · intro b off u hu
    have hne : b ≠ l.b := by
      rintro rfl
      rw [hr.dim id l off hm hl] at hu; cases hu
    rw [cell_keep w w' (hw b hne)]
    exact hr.im _ _ _ hu
  · intro i l' hl'
    simp only [Hp.set]
    by_cases hi : i = id
    · rw [if_pos hi]; subst hi
      rw [hl] at hl'; injection hl' with hl'; subst hl'
      exact hO
    · rw [if_neg hi]
      refine (hr.obj i l' hl').keep (G.le.refl g) (fun hm' => hw _ ?_)
      intro hb
      exact hi (hr.dis i id l' l hm' hm hl' hl hb)
  · intro i j l1 l2 a1 a2 a3 a4 a5
    simp only [Hp.set] at a1 a2
    have b1 : (H.obj i).mu = true := by
      split at a1
      · subst_vars; exact hm
      · exact a1
    have b2 : (H.obj j).mu = true := by
      split at a2
      · subst_vars; exact hm
      · exact a2
    exact hr.dis i j l1 l2 b1 b2 a3 a4 a5
  · intro i l' off a1 a2
    simp only [Hp.set] at a1
    have b1 : (H.obj i).mu = true := by
      split at a1
      · subst_vars; exact hm
      · exact a1
    exact hr.dim i l' off b1 a2
  · intro i l' hl'
    rw [hs]; exact hr.lt i l' hl'
  · intro i hi
    simp only [Hp.set] at hi ⊢
    rw [if_neg (by omega)]
    exact ho.gone i hi
  · intro i hi
    simp only [Hp.set]
    rw [if_neg (by omega)]
  · intro i hi hm'
    simp only [Hp.set] at hm'
    split at hm'
    · subst_vars; exact hm
    · exact hm'
  · intro k hk hn
    refine hw k ?_
    rintro rfl
    exact hn ⟨id, l, hlow, hm, hl, rfl⟩
  · intro i l' a1 a2 a3 _
    simp only [Hp.set] at a2
    have b1 : (H.obj i).mu = true := by
      split at a2
      · subst_vars; exact hm
      · exact a2
    exact ⟨i, l', a1, b1, a3, rfl⟩

theorem over_get {α : Type} : ∀ (vs : List α) (cs : List α) (i j : Nat), i + vs.length ≤ cs.length → (over cs i vs)[j]? = if i ≤ j ∧ j < i + vs.length then vs[j - i]? else cs[j]?
  | [], cs, i, j, h => by
    simp only [over, List.length_nil, Nat.add_zero]
    rw [if_neg (by omega)]
  | v :: r, cs, i, j, h => by
    simp only [List.length_cons] at h
    rw [over, over_get r _ _ _ (by simp; omega)]
    simp only [List.length_cons]
    by_cases h1 : i + 1 ≤ j ∧ j < i + 1 + r.length
    · rw [if_pos h1, if_pos (by omega), show j - i = (j - (i + 1)) + 1 by omega]
      simp
    · rw [if_neg h1]
      by_cases h2 : j = i
      · subst h2
        rw [if_pos (by omega), List.getElem?_set_self (by omega)]
        simp
      · rw [if_neg (by omega)]
        rw [List.getElem?_set_ne (by omega)]
theorem over_length {α : Type} : ∀ (vs : List α) (cs : List α) (i : Nat), (over cs i vs).length = cs.length
  | [], cs, i => rfl
  | v :: r, cs, i => by rw [over, over_length]; simp

/-- The cells of a store. -/
theorem run_store (hT : TYok P cx) {t : TypeId} {d : TY} (hd : cx.ty t = some d) {c : Value} {b off : Nat} {us : Array Value} {ty : TypeId} (hb : w.heap[b]? = some (.cells us ty (0, 0)))
    (hs : c.cells.size = d.size) (h1 : ∀ u ∈ c.cells.toList, u.oneCell' = true) (hin : off + c.cells.size ≤ us.size) :
    (Instr.storeAt t (.pointer (some ⟨b, off, none⟩)) c).run P w = .ok () (w.setRow b (us.toList.take off ++ c.cells.toList ++ us.toList.drop (off + c.cells.size)).toArray) := by
  simp only [Instr.storeAt, Instr.sureAddr, Sem.run_bind, Sem.run_pure, Result.andThen_ok, storeVar, hT.sizeOf hd]
  rw [if_neg (by simp [hs])]
  have := run_storeCells_at (P := P) b off ty c.cells.toList 0 us w hb (by simpa using hin) h1
  simpa using this


/-- What lies in a row behind a store. -/
theorem mid_get (us : Array Value) (off : Nat) (vs : List Value) (h : off + vs.length ≤ us.size) (j : Nat) :
    ((us.toList.take off ++ vs ++ us.toList.drop (off + vs.length)).toArray).getD j Go.undef = if off ≤ j ∧ j < off + vs.length then vs.getD (j - off) Go.undef else us.getD j Go.undef := by
  simp only [Array.getD_eq_getD_getElem?, List.getElem?_toArray, List.getD_eq_getElem?_getD]
  by_cases h1 : j < off
  · rw [if_neg (by omega), List.append_assoc, List.getElem?_append_left (by simp; omega), List.getElem?_take, if_pos h1]
    simp
  · by_cases h2 : j < off + vs.length
    · rw [if_pos ⟨by omega, h2⟩, List.append_assoc, List.getElem?_append_right (by simp; omega), List.getElem?_append_left (by simp; omega)]
      congr 2
      simp; omega
    · rw [if_neg (by omega), List.getElem?_append_right (by simp; omega), List.getElem?_drop]
      have : off + vs.length + (j - (us.toList.take off ++ vs).length) = j := by simp; omega
      rw [this]
      simp

theorem store_ok (hT : TYok P cx) (hr : Rel cx g H w) (ho : Hok H) (he : EnvR g e a.tmps) {t : TypeId} {x y : Operand} (hop : o.op = .store t x y) (h : evOp cx call o e H = some (.ok v H')) : Does cx P o a g H w v H' := by
  simp only [evOp, hop] at h
  split at h
  · rename_i p u d hp hu hd
    have hpv := evx_ok hr he hp
    have huv := evx_ok hr he hu
    obtain ⟨hcs, hcv⟩ := huv.cells
    split at h
    · rename_i hc
      obtain ⟨hc1, hc2⟩ := hc
      split at h
      · rename_i H2 hw
        injection h with h; injection h with h1 h2; subst h1; subst h2
        have h1c : ∀ z ∈ (a.eval y).cells.toList, z.oneCell' = true := by
          intro z hz
          obtain ⟨i, hi, rfl⟩ := List.mem_iff_getElem.1 hz
          simp at hi
          have hi' : i < u.cells.length := by omega
          have := (hcv i _ (List.getElem?_eq_getElem hi')).one (List.all_eq_true.1 hc2 _ (List.getElem_mem hi'))
          simpa [Array.getD_eq_getD_getElem?, hi] using this
        have hlenc : (a.eval y).cells.toList.length = u.cells.length := by simpa using hcs
        -- the common end
        have fin : ∀ {id : Nat} {l : Loc} {o' : O} {us : Array Value} {ty : TypeId} {off : Nat}, H.low ≤ id → (H.obj id).mu = true → g.loc id = some l → w.heap[l.b]? = some (.cells us ty (0, 0)) →
            a.eval x = .pointer (some ⟨l.b, off, none⟩) → off + u.cells.length ≤ us.size → o'.mu = true → H2 = H.set id o' →
            (∀ w' : World, w'.heap[l.b]? = some (.cells (us.toList.take off ++ (a.eval y).cells.toList ++ us.toList.drop (off + (a.eval y).cells.toList.length)).toArray ty (0, 0)) → ObjR g w' l o') →
            Does cx P o a g H w (.p .undef) H2 := by
          intro id l o' us ty off q1 q2 q3 q4 q5 q6 q7 q8 q9
          subst q8
          have hrun := run_store (P := P) hT hd (c := a.eval y) (off := off) q4 (by rw [hcs, hc1]) h1c (by rw [hcs]; exact q6)
          refine ⟨Go.undef, g, _, .inr ⟨?_, rfl⟩, St.write hr ho (w' := w.setRow l.b (us.toList.take off ++ (a.eval y).cells.toList ++ us.toList.drop (off + (a.eval y).cells.size)).toArray) q1 q2 q3 (fun k hk => setRow_other w l.b k _ hk) (by simp) rfl rfl rfl ?_ q7, .p .undef⟩
          · simp only [execOp, hop]
            rw [q5, Sem.run_bind, hrun]
            rfl
          · refine q9 _ ?_
            have := setRow_heap w l.b us (us.toList.take off ++ (a.eval y).cells.toList ++ us.toList.drop (off + (a.eval y).cells.size)).toArray ty (0, 0) q4
            simpa using this
        unfold writeAt at hw
        split at hw
        · rename_i id off
          split at hw
          · cases hw
          · rename_i hlow
            split at hw
            · rename_i cs hcs'
              split at hw
              · rename_i hle
                injection hw with hw
                obtain ⟨l, hl, hq⟩ := hpv.ref_inv
                have hobj := hr.obj id l hl
                rw [hcs'] at hobj
                obtain ⟨us, ty, hb, hsz, hv⟩ := hobj
                refine fin (by omega) (by rw [hcs']; rfl) hl hb hq (by omega) rfl hw.symm (fun w' hw' => ⟨_, ty, hw', ?_, ?_⟩)
                · rw [over_length]
                  simp
                  omega
                · intro i z hz
                  rw [over_get _ _ _ _ hle] at hz
                  rw [mid_get us off _ (by omega), hlenc]
                  split at hz
                  · rename_i hi
                    rw [if_pos hi]
                    have := hcv _ _ hz
                    simpa [Array.getD_eq_getD_getElem?, List.getD_eq_getElem?_getD] using this
                  · rename_i hi
                    rw [if_neg hi]
                    exact hv i z hz
              · cases hw
            · cases hw
        · rename_i id i f
          split at hw
          · cases hw
          · rename_i hlow
            obtain ⟨l, hl, hq⟩ := hpv.optr_inv
            have hobj := hr.obj id l hl
            split at hw
            · rename_i xs hxs
              rw [hxs] at hobj
              obtain ⟨us, hb, hsz, hlen, hmax, hss, h1s, hv⟩ := hobj
              have hmul : ∀ i, i < xs.length → i * l.sz + l.sz ≤ l.cap * l.sz := fun i hi => by
                have : (i + 1) * l.sz ≤ l.cap * l.sz := Nat.mul_le_mul_right _ (by omega)
                rwa [Nat.add_mul, Nat.one_mul] at this
              have apart : ∀ i j f k, i < j → f < l.sz → i * l.sz + f < j * l.sz + k := fun i j f k hij hf => by
                have : (i + 1) * l.sz ≤ j * l.sz := Nat.mul_le_mul_right _ hij
                rw [Nat.add_mul, Nat.one_mul] at this
                omega
              split at hw
              · rename_i cs ll hx hll
                split at hw
                · rename_i hle
                  injection hw with hw
                  simp only [rdl] at hx
                  have hil := (List.getElem?_eq_some_iff.1 hx).1
                  have hcsz : cs.length = l.sz := hss i _ hx
                  have hul : u.cells = ll.map .p := allP_ok _ _ hll
                  have hull : u.cells.length = ll.length := by rw [hul]; simp
                  have hm := hmul i hil
                  refine fin (by omega) (by rw [hxs]; rfl) hl hb hq (by omega) rfl hw.symm (fun w' hw' => ⟨_, hw', ?_, by simpa using hlen, hmax, ?_, ?_, ?_⟩)
                  · simp; omega
                  · intro j z hz
                    rw [List.getElem?_set] at hz
                    split at hz
                    · subst_vars
                      injection hz with hz; subst hz
                      show (over cs f ll).length = _
                      rw [over_length, hcsz]
                    · exact hss j z hz
                  · intro j k hj hk
                    simp at hj
                    rw [mid_get us _ _ (by rw [hlenc]; omega), hlenc]
                    split
                    · rename_i hin
                      rw [List.getD_eq_getElem?_getD, List.getElem?_eq_getElem (by omega)]
                      exact h1c _ (List.getElem_mem _)
                    · exact h1s j k hj hk
                  · intro j z k yv hz hk
                    rw [mid_get us _ _ (by rw [hlenc]; omega), hlenc]
                    rw [List.getElem?_set] at hz
                    by_cases hij : i = j
                    · subst hij
                      rw [if_pos rfl, if_pos hil] at hz
                      injection hz with hz; subst hz
                      have hk' : (over cs f ll)[k]? = some yv := hk
                      rw [over_get _ _ _ _ hle] at hk'
                      split at hk'
                      · rename_i hin
                        rw [if_pos (by omega)]
                        have h3 : u.cells[k - f]? = some (.p yv) := by rw [hul]; simp [hk']
                        have := (hcv _ _ h3).pp
                        rw [show i * l.sz + k - (i * l.sz + f) = k - f by omega]
                        simpa [Array.getD_eq_getD_getElem?, List.getD_eq_getElem?_getD] using this
                      · rename_i hin
                        rw [if_neg (by omega)]
                        exact hv i _ k yv hx hk'
                    · rw [if_neg hij] at hz
                      have hjl := (List.getElem?_eq_some_iff.1 hz).1
                      have hkl : k < l.sz := by
                        have := (List.getElem?_eq_some_iff.1 hk).1
                        rw [hss j z hz] at this; exact this
                      rw [if_neg ?_]
                      · exact hv j z k yv hz hk
                      · rintro ⟨q1, q2⟩
                        rcases Nat.lt_or_gt_of_ne hij with hlt | hgt
                        · have := apart i j (f + u.cells.length - 1) k hlt (by omega)
                          omega
                        · have := apart j i k f hgt hkl
                          omega
                · cases hw
              · rename_i z v0 hx hll hno
                split at hw
                · rename_i hf0
                  subst hf0
                  injection hw with hw
                  have hna := hx
                  have hx' : xs[i]? = some z := hll
                  have hil := (List.getElem?_eq_some_iff.1 hx').1
                  have hzc : z.cells = [z] := by
                    cases z <;> first | rfl | exact absurd rfl (hna _)
                  have hsz1 : l.sz = 1 := by have := hss i z hx'; rw [hzc] at this; exact this.symm
                  have hul : u.cells = [.p v0] := by have := allP_ok _ _ hno; simpa using this
                  have hcell : v0.cell = true := by
                    have := List.all_eq_true.1 hc2 (.p v0) (by rw [hul]; simp)
                    simpa [V.cell] using this
                  have hv0c : v0.cells = [v0] := by cases v0 <;> first | rfl | simp [PV.cell] at hcell
                  have h0 := (hcv 0 (.p v0) (by rw [hul]; rfl)).pp
                  refine fin (by omega) (by rw [hxs]; rfl) hl hb hq (by rw [hul, hsz, hsz1]; simp; omega) rfl hw.symm (fun w' hw' => ⟨_, hw', ?_, by simpa using hlen, hmax, ?_, ?_, ?_⟩)
                  · rw [hul] at hlenc; simp at hlenc; simp [hsz1] at hsz ⊢; omega
                  · intro j y hy
                    rw [List.getElem?_set] at hy
                    by_cases hij : i = j
                    · subst hij
                      rw [if_pos rfl, if_pos hil] at hy
                      injection hy with hy; subst hy
                      rw [hv0c, hsz1]; rfl
                    · rw [if_neg hij] at hy
                      exact hss j y hy
                  · intro j k hj hk
                    simp at hj
                    rw [mid_get us _ _ (by rw [hlenc, hul, hsz, hsz1]; simp; omega), hlenc]
                    split
                    · rename_i hin
                      rw [List.getD_eq_getElem?_getD, List.getElem?_eq_getElem (by omega)]
                      exact h1c _ (List.getElem_mem _)
                    · exact h1s j k hj hk
                  · intro j y k yv hy hk
                    rw [mid_get us _ _ (by rw [hlenc, hul, hsz, hsz1]; simp; omega), hlenc, hul]
                    rw [List.getElem?_set] at hy
                    by_cases hij : i = j
                    · subst hij
                      rw [if_pos rfl, if_pos hil] at hy
                      injection hy with hy; subst hy
                      rw [hv0c] at hk
                      have hk0 : k = 0 := by
                        have := (List.getElem?_eq_some_iff.1 hk).1; simp at this; exact this
                      subst hk0
                      simp at hk; subst hk
                      rw [if_pos (by simp)]
                      simpa [Array.getD_eq_getD_getElem?, List.getD_eq_getElem?_getD] using h0
                    · rw [if_neg hij] at hy
                      have hkl : k < l.sz := by
                        have := (List.getElem?_eq_some_iff.1 hk).1
                        rw [hss j y hy] at this; exact this
                      rw [if_neg (by rw [hsz1] at hkl ⊢; simp; omega)]
                      exact hv j y k yv hy hk
                · cases hw
              · cases hw
            · rename_i xs hxs
              rw [hxs] at hobj
              obtain ⟨hsz1, us, hb, hsz, hcap, hv⟩ := hobj
              split at hw
              · rename_i v0 hu0
                split at hw
                · rename_i hfi
                  obtain ⟨rfl, hil⟩ := hfi
                  injection hw with hw
                  have hul : u.cells = [v0] := hu0
                  refine fin (by omega) (by rw [hxs]; rfl) hl hb hq (by rw [hul, hsz1]; simp; omega) rfl hw.symm (fun w' hw' => ⟨hsz1, _, hw', ?_, by simpa using hcap, ?_⟩)
                  · rw [hsz1]; simp; rw [hul] at hlenc; simp at hlenc; omega
                  · intro j z hz
                    rw [mid_get us _ _ (by rw [hlenc, hul, hsz1]; simp; omega), hlenc, hul, hsz1]
                    rw [List.getElem?_set] at hz
                    by_cases hij : i = j
                    · subst hij
                      rw [if_pos rfl, if_pos hil] at hz
                      injection hz with hz; subst hz
                      rw [if_pos (by simp)]
                      have := hcv 0 v0 (by rw [hul]; rfl)
                      simpa [Array.getD_eq_getD_getElem?, List.getD_eq_getElem?_getD] using this
                    · rw [if_neg hij] at hz
                      rw [if_neg (by simp; omega)]
                      exact hv j z hz
                · cases hw
              · cases hw
            · cases hw
        · cases hw
      · cases h
    · cases h
  · cases h

end
end Go.Ev
