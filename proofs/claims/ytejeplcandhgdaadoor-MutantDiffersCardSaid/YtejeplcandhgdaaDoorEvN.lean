/- Each operation of the machine does what 'evOp' says. Part 11: maps, make. -/
import Derived.Test.YtejeplcandhgdaaDoorEvM
import Derived.Deep.OwnRows
import Derived.Laws.OwnMore
set_option linter.unusedVariables false
set_option linter.unusedSimpArgs false
namespace Go.Ev

section
variable {cx : Cx} {P : Program} {g : G} {H H' : Hp} {w : World} {e : Env} {a : Act} {o : Oper} {call : CallT} {v : V}

theorem keyOk_inv {d : TypeDesc} {k : PV} (h : keyOk d k = true) : (∃ q q' n, d = .int q ∧ k = .int q' n) ∨ ∃ s, d = .string ∧ k = .str s := by
  unfold keyOk at h
  split at h
  · exact .inl ⟨_, _, _, rfl, rfl⟩
  · exact .inr ⟨_, rfl, rfl⟩
  · cases h

theorem sameNow_ok {d : TypeDesc} {k j : PV} {b : Bool} {ck cj : Value} {im : Nat → Nat → Option Value} (hd : keyOk d k = true) (h : keyEq k j = some b) (h1 : PR im k ck) (h2 : PR im j cj) : Instr.sameNow d ck cj = some b := by
  unfold keyEq at h
  split at h
  · cases h1; cases h2
    split at h
    · rename_i hk
      injection h with h; subst h
      rcases keyOk_inv hd with ⟨q, q', n, rfl, hq⟩ | ⟨s, _, hq⟩
      · simp [Instr.sameNow, hk]
      · cases hq
    · cases h
  · cases h1; cases h2
    injection h with h; subst h
    rcases keyOk_inv hd with ⟨q, q', n, _, hq⟩ | ⟨s, rfl, hq⟩
    · cases hq
    · simp [Instr.sameNow]
  · cases h

theorem findNow_ok {d : TypeDesc} {k : PV} {ck : Value} (hd : keyOk d k = true) (hk : PR g.im k ck) : ∀ (kv : List (PV × V)) (es : List MapEntry) (i : Nat), es.length = kv.length →
    (∀ (i : Nat) (k : PV) (v : V), kv[i]? = some (k, v) → ∃ e : MapEntry, es[i]? = some e ∧ PR g.im k e.key ∧ VR g v e.val) → ∀ r, findKV k kv = some r →
      (r = none ∧ Instr.findNow d ck es i = some none) ∨ ∃ v j c, r = some v ∧ Instr.findNow d ck es i = some (some (j, c)) ∧ VR g v c
  | [], [], i, _, _, r, h => by simp [findKV] at h; subst h; exact .inl ⟨rfl, rfl⟩
  | [], _ :: _, _, hl, _, _, _ => by cases hl
  | _ :: _, [], _, hl, _, _, _ => by cases hl
  | (j, v) :: kv, e :: es, i, hl, hr, r, h => by
    obtain ⟨e', he', h1, h2⟩ := hr 0 j v rfl
    simp at he'; subst he'
    unfold findKV at h
    split at h
    · rename_i hq
      injection h with h; subst h
      have := sameNow_ok hd hq hk h1
      exact .inr ⟨v, i, e.val, rfl, by simp [Instr.findNow, this], h2⟩
    · rename_i hq
      have := sameNow_ok hd hq hk h1
      have ih := findNow_ok hd hk kv es (i + 1) (by simpa using hl) (fun i k v hi => by simpa using hr (i + 1) k v (by simpa using hi)) r h
      simpa [Instr.findNow, this] using ih
    · cases h

theorem checkKey_ok (hT : TYok P cx) {kt : TypeId} {dk : TY} (hd : cx.ty kt = some dk) {k : PV} {ck : Value} (hk : keyOk dk.desc k = true) (h1 : PR g.im k ck) (b : Bool) (w : World) : (Instr.checkKey b 10000 kt ck).run P w = .ok () w := by
  show (Instr.checkKey b (9999 + 1) kt ck).run P w = _
  unfold Instr.checkKey
  rw [Sem.run_bind, hT.und hd, Result.andThen_ok]
  rcases keyOk_inv hk with ⟨q, q', n, h2, rfl⟩ | ⟨s, h2, rfl⟩ <;> (rw [h2]; cases h1; rfl)

theorem findKey_ok (hT : TYok P cx) {kt : TypeId} {dk : TY} (hd : cx.ty kt = some dk) {ck : Value} {es : List MapEntry} {r : Option (Nat × Value)} (h : Instr.findNow dk.desc ck es 0 = some r) (w : World) : (Instr.findKey kt ck es).run P w = .ok r w := by
  unfold Instr.findKey
  rw [Sem.run_bind, hT.und hd, Result.andThen_ok, h]
  rfl

theorem getMap_ok {l : Loc} {es : Array MapEntry} {clock : Nat} (h : w.heap[l.b]? = some (.map es clock)) : (getObj l.b).run P w = .ok (.map es clock) w := by
  simp [getObj, Sem.run, h]

theorem lookup_ok (hT : TYok P cx) (hr : Rel cx g H w) (ho : Hok H) (he : EnvR g e a.tmps) {t : TypeId} {x y : Operand} {ok : Bool} (hop : o.op = .lookup t x y ok) (h : evOp cx call o e H = some (.ok v H')) : Does cx P o a g H w v H' := by
  simp only [evOp, hop] at h
  split at h
  · rename_i d id k hd hx hy
    have hm := evx_ok hr he hx
    have hk := (evx_ok hr he hy).pp
    split at h
    · rename_i kt et hdd
      split at h
      · rename_i dk de hdk hde
        split at h
        · rename_i hko
          split at h
          · rename_i kv hkv
            obtain ⟨l, hl, hq⟩ := hm.map_inv
            have hobj := hr.obj id l hl
            rw [hkv] at hobj
            obtain ⟨es, clock, hb, hsz, hes⟩ := hobj
            obtain ⟨z, hz, hzp⟩ := hT.zero hde w
            have hrun : ∀ r c b, Instr.findNow dk.desc (a.eval y) es.toList 0 = some r → ((r = none ∧ c = z ∧ b = false) ∨ ∃ j, r = some (j, c) ∧ b = true) →
                (execOp a.eval o).run P w = .ok (.value (if ok then .tuple #[c, .bool b] else c)) w := by
              intro r c b h1 h2
              simp only [execOp, hop]
              rw [hq]
              refine run_v _ ?_
              unfold Instr.lookup
              rw [Sem.run_bind, hT.und hd, Result.andThen_ok, hdd]
              simp only [Sem.run_bind, getMap_ok hb, Result.andThen_ok, Sem.run_pure, checkKey_ok hT hdk hko hk, findKey_ok hT hdk h1]
              rcases h2 with ⟨rfl, rfl, rfl⟩ | ⟨j, rfl, rfl⟩
              · simp only [Sem.run_bind, hz, Result.andThen_ok, Sem.run_pure]
              · simp only [Sem.run_bind, Result.andThen_ok, Sem.run_pure]
            split at h
            · rename_i u hu
              injection h with h; injection h with h1 h2; subst h1; subst h2
              rcases findNow_ok (g := g) hko hk kv es.toList 0 (by simpa using hsz) (fun i k v hi => by simpa using hes i k v hi) _ hu with ⟨h0, _⟩ | ⟨v', j, c, h3, h4, h5⟩
              · cases h0
              · injection h3 with h3; subst h3
                refine does_pure hr ho (hrun _ c true h4 (.inr ⟨j, rfl, rfl⟩)) ?_
                split
                · exact mkTup_ok rfl (fun i x hx => by
                    match i, hx with
                    | 0, hx => simp at hx; subst hx; simpa using h5
                    | 1, hx => simp at hx; subst hx; simpa using VR.mkBool)
                · exact h5
            · rename_i hu
              injection h with h; injection h with h1 h2; subst h1; subst h2
              rcases findNow_ok (g := g) hko hk kv es.toList 0 (by simpa using hsz) (fun i k v hi => by simpa using hes i k v hi) _ hu with ⟨_, h4⟩ | ⟨v', j, c, h3, h4, h5⟩
              · refine does_pure hr ho (hrun _ z false h4 (.inl ⟨rfl, rfl, rfl⟩)) ?_
                split
                · exact .p (.tup rfl (fun i x hx => by
                    match i, hx with
                    | 0, hx => simp at hx; subst hx; simpa using hzp g.im
                    | 1, hx => simp at hx; subst hx; simpa using PR.bool false))
                · exact .p (hzp g.im)
              · cases h3
            · cases h
          · cases h
        · cases h
      · cases h
    · cases h
  · cases h

theorem insert_ok (hT : TYok P cx) (hr : Rel cx g H w) (ho : Hok H) (he : EnvR g e a.tmps) {t : TypeId} {x y z : Operand} (hop : o.op = .insert t x y z) (h : evOp cx call o e H = some (.ok v H')) : Does cx P o a g H w v H' := by
  simp only [evOp, hop] at h
  split at h
  · rename_i d id k u hd hx hy hz
    have hm := evx_ok hr he hx
    have hk := (evx_ok hr he hy).pp
    have hv := evx_ok hr he hz
    split at h
    · rename_i kt et hdd
      split at h
      · rename_i dk hdk
        split at h
        · cases h
        · rename_i hlow
          split at h
          · rename_i hko
            split at h
            · rename_i kv hkv
              split at h
              · rename_i hu
                injection h with h; injection h with h1 h2; subst h1; subst h2
                obtain ⟨l, hl, hq⟩ := hm.map_inv
                have hobj := hr.obj id l hl
                rw [hkv] at hobj
                obtain ⟨es, clock, hb, hsz, hes⟩ := hobj
                rcases findNow_ok (g := g) hko.1 hk kv es.toList 0 (by simpa using hsz) (fun i k v hi => by simpa using hes i k v hi) _ hu with ⟨_, h4⟩ | ⟨v', j, c, h3, h4, h5⟩
                · let w' : World := { w with heap := w.heap.setIfInBounds l.b (.map (es.push { key := a.eval y, val := a.eval z, born := clock }) (clock + 1)) }
                  have hlt := hr.lt id l hl
                  have hb' : w'.heap[l.b]? = some (.map (es.push { key := a.eval y, val := a.eval z, born := clock }) (clock + 1)) := by simp [w', hlt]
                  refine ⟨Go.undef, g, w', .inr ⟨?_, rfl⟩, St.write hr ho (by omega) (by rw [hkv]; rfl) hl (fun k hk => by simp [w', Array.getElem?_setIfInBounds, Ne.symm hk]) (by simp [w']) rfl rfl rfl ?_ rfl, .p .undef⟩
                  · simp only [execOp, hop]
                    rw [hq]
                    have : (Instr.mapUpdate t (.map (some l.b)) (a.eval y) (a.eval z)).run P w = .ok () w' := by
                      unfold Instr.mapUpdate
                      rw [Sem.run_bind, hT.und hd, Result.andThen_ok, hdd]
                      simp only [Sem.run_bind, getMap_ok hb, Result.andThen_ok, Sem.run_pure, checkKey_ok hT hdk hko.1 hk, findKey_ok hT hdk h4]
                      simp [setObj, Sem.run, hb, w']
                    rw [Sem.run_bind, this]
                    rfl
                  · refine ⟨_, _, hb', by simp [hsz], fun i k' v' hi => ?_⟩
                    by_cases hlt2 : i < kv.length
                    · rw [List.getElem?_append_left hlt2] at hi
                      obtain ⟨e1, q1, q2, q3⟩ := hes i k' v' hi
                      refine ⟨e1, ?_, q2, q3⟩
                      rw [Array.getElem?_push, if_neg (by omega)]
                      exact q1
                    · rw [List.getElem?_append_right (by omega)] at hi
                      have hi0 : i - kv.length = 0 := by
                        have := (List.getElem?_eq_some_iff.1 hi).1; simp at this; omega
                      rw [hi0] at hi
                      simp at hi
                      obtain ⟨rfl, rfl⟩ := hi
                      refine ⟨{ key := a.eval y, val := a.eval z, born := clock }, ?_, hk, hv⟩
                      rw [Array.getElem?_push, if_pos (by omega)]
                · cases h3
              · cases h
            · cases h
          · cases h
      · cases h
    · cases h
  · cases h

theorem makeSlice_ok (hT : TYok P cx) (hr : Rel cx g H w) (ho : Hok H) (he : EnvR g e a.tmps) (hf : Free g H H') {t : TypeId} {x y : Operand} (hop : o.op = .makeSlice t x y) (h : evOp cx call o e H = some (.ok v H')) : Does cx P o a g H w v H' := by
  simp only [evOp, hop] at h
  split at h
  · rename_i d n m hd hx hy
    have h1 := (evx_ok hr he hx).int
    have h2 := (evx_ok hr he hy).int
    split at h
    · rename_i el hdd
      split at h
      · rename_i de hde
        split at h
        · rename_i hc
          obtain ⟨hnm, hpos, hle, hsz, hby, hcell⟩ := hc
          subst hnm
          obtain ⟨i, z, hi, hisz, hib, hz, hzp, hzl, hzc⟩ := hT.info el de hde
          have hzp' : PR g.im de.zero z := hzp.mono (fun _ _ _ h => by cases h)
          have hone := hzp'.one hcell
          have hzcell : z.cells = #[z] := by cases z <;> first | rfl | simp [Value.oneCell'] at hone
          have hu : P.underlying t = some (.slice el) := by have := hT.desc t d hd; rwa [hdd] at this
          obtain ⟨k, rfl⟩ := Int.eq_ofNat_of_zero_le (Int.le_of_lt hpos)
          have hinfo : (P.info? el).map (fun i => (i.zero, i.size, i.bytes)) = some (some z, 1, de.bytes) := by simp [hi, hz, hisz, hsz, hib]
          have hbb : de.bytes * k ≤ 281474976710656 := by
            have : de.bytes * k ≤ 16 * 1000000 := Nat.mul_le_mul hby (by omega)
            omega
          have hrun : (execOp a.eval o).run P w = .ok (.value (.slice (some ⟨w.heap.size, 0, none⟩) k k)) (w.alloc (.cells (madeCells #[z] k) el)) := by
            simp only [execOp, hop]
            rw [h1, h2]
            exact run_v _ (run_make_row' t el z de.bytes hu hinfo hzcell .i64 .i64 k hbb (by omega) w)
          have hms : (madeCells #[z] k).size = k := size_madeCells _ _
          have hget : ∀ j, j < k → (madeCells #[z] k).getD j Go.undef = z := fun j hj => by
            rw [Array.getD_eq_getD_getElem?, ← Array.getElem?_toList, toList_madeCells_one, List.getElem?_replicate, if_pos hj]; rfl
          have hzc1 : de.zero.cells = [de.zero] := by
            revert hcell; generalize de.zero = q; intro hcell; cases q <;> first | rfl | simp [PV.cell] at hcell
          split at h
          · rename_i hnil
            injection h with h; injection h with h3 h4; subst h3; subst h4
            have hfr := hf H.next (Nat.le_refl _) (by simp [Hp.new])
            have sn := St.newObj hr ho hfr (.cells (madeCells #[z] k) el) (.vec (List.replicate k (.p .nilp))) ⟨w.heap.size, 1, k, el⟩ rfl
              ⟨rfl, _, heap_new w _, by rw [hms]; simp, by simp, fun i x hx => by
                have hil := (List.getElem?_eq_some_iff.1 hx).1
                simp at hil
                rw [List.getElem?_replicate, if_pos hil] at hx
                injection hx with hx; subst hx
                rw [hget i hil, ← hnil]
                exact .p (hzp.mono (fun _ _ _ h => by cases h))⟩
            refine ⟨_, _, _, .inl hrun, by simpa using sn, ?_⟩
            have := VR.own (g := g.add H.next ⟨w.heap.size, 1, k, el⟩) (id := H.next) (off := 0) (n := k) (l := ⟨w.heap.size, 1, k, el⟩) (by simp [G.add]) (by simp)
            simpa using this
          · injection h with h; injection h with h3 h4; subst h3; subst h4
            have hfr := hf H.next (Nat.le_refl _) (by simp [Hp.new])
            have sn := St.newObj hr ho hfr (.cells (madeCells #[z] k) el) (.own (List.replicate k de.zero)) ⟨w.heap.size, 1, k, el⟩ rfl
              ⟨_, heap_new w _, by rw [hms]; simp, by simp, by simp only [maxLen]; omega, fun i x hx => by
                have hil := (List.getElem?_eq_some_iff.1 hx).1
                simp at hil
                rw [List.getElem?_replicate, if_pos hil] at hx
                injection hx with hx; subst hx
                rw [hzc1]; rfl, fun i f hi2 hf => by
                  simp at hi2 hf
                  subst hf
                  simp only [Nat.mul_one, Nat.add_zero]
                  rw [hget i hi2]; exact hone, fun i x f y hx hy => by
                have hil := (List.getElem?_eq_some_iff.1 hx).1
                simp at hil
                rw [List.getElem?_replicate, if_pos hil] at hx
                injection hx with hx; subst hx
                rw [hzc1] at hy
                have hf0 : f = 0 := by have := (List.getElem?_eq_some_iff.1 hy).1; simp at this; exact this
                subst hf0
                simp at hy; subst hy
                simp only [Nat.mul_one, Nat.add_zero]
                rw [hget i hil]
                exact hzp.mono (fun _ _ _ h => by cases h)⟩
            refine ⟨_, _, _, .inl hrun, by simpa using sn, ?_⟩
            have := VR.own (g := g.add H.next ⟨w.heap.size, 1, k, el⟩) (id := H.next) (off := 0) (n := k) (l := ⟨w.heap.size, 1, k, el⟩) (by simp [G.add]) (by simp)
            simpa using this
        · cases h
      · cases h
    · cases h
  · cases h

end
end Go.Ev
