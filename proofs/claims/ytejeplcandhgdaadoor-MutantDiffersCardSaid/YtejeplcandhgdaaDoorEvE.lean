/- Each operation of the machine does what 'evOp' says. Part 3: the operations that reckon alone, and loads. -/
import Derived.Test.YtejeplcandhgdaaDoorEvD
set_option linter.unusedVariables false
set_option linter.unusedSimpArgs false
namespace Go.Ev

section
variable {cx : Cx} {P : Program} {g : G} {H H' : Hp} {w : World} {e : Env} {a : Act} {o : Oper} {call : CallT} {v : V}


/-- Elements that are read alone. -/
structure Rows (im : Nat → Nat → Option Value) (xs : List PV) (b o sz : Nat) (us : Nat → Nat → Value) : Prop where
  hs : ∀ (i : Nat) (x : PV), xs[i]? = some x → x.cells.length = sz
  hi : ∀ i f, i < xs.length → f < sz → im b (o + i * sz + f) = some (us i f)
  h1 : ∀ i f, i < xs.length → f < sz → (us i f).oneCell' = true
  hv : ∀ (i : Nat) (x : PV) (f : Nat) (y : PV), xs[i]? = some x → x.cells[f]? = some y → PR im y (us i f)
theorem PR.sptr_inv {im : Nat → Nat → Option Value} {xs : List PV} {i f : Nat} {c : Value} (h : PR im (.sptr xs i f) c) : ∃ b o sz us, Rows im xs b o sz us ∧ c = .pointer (some ⟨b, o + i * sz + f, none⟩) := by
  cases h with | sptr us a b c d => exact ⟨_, _, _, us, ⟨a, b, c, d⟩, rfl⟩
theorem PR.sl_inv {im : Nat → Nat → Option Value} {xs : List PV} {c : Value} (h : PR im (.sl xs) c) : (xs = [] ∧ ∃ a k, c = .slice a 0 k) ∨ ∃ b o sz us cap, Rows im xs b o sz us ∧ xs.length ≤ cap ∧ c = .slice (some ⟨b, o, none⟩) xs.length cap := by
  cases h with
  | sl0 a k => exact .inl ⟨rfl, a, k, rfl⟩
  | sl us a b c d e => exact .inr ⟨_, _, _, us, _, ⟨a, b, c, d⟩, e, rfl⟩
theorem Rows.sptr {im : Nat → Nat → Option Value} {xs : List PV} {b o sz : Nat} {us : Nat → Nat → Value} (h : Rows im xs b o sz us) (i f : Nat) : PR im (.sptr xs i f) (.pointer (some ⟨b, o + i * sz + f, none⟩)) := .sptr us h.hs h.hi h.h1 h.hv
theorem Rows.sl {im : Nat → Nat → Option Value} {xs : List PV} {b o sz cap : Nat} {us : Nat → Nat → Value} (h : Rows im xs b o sz us) (hc : xs.length ≤ cap) : PR im (.sl xs) (.slice (some ⟨b, o, none⟩) xs.length cap) := .sl us h.hs h.hi h.h1 h.hv hc
theorem VR.ref_inv {id off : Nat} {c : Value} (h : VR g (.ref id off) c) : ∃ l, g.loc id = some l ∧ c = .pointer (some ⟨l.b, off, none⟩) := by cases h with | ref h => exact ⟨_, h, rfl⟩
theorem VR.optr_inv {id i f : Nat} {c : Value} (h : VR g (.optr id i f) c) : ∃ l, g.loc id = some l ∧ c = .pointer (some ⟨l.b, i * l.sz + f, none⟩) := by cases h with | optr h => exact ⟨_, h, rfl⟩
theorem VR.own_inv {id off n : Nat} {c : Value} (h : VR g (.own id off n) c) : ∃ l, g.loc id = some l ∧ off + n ≤ l.cap ∧ c = .slice (some ⟨l.b, off * l.sz, none⟩) n (l.cap - off) := by cases h with | own h hn => exact ⟨_, h, hn, rfl⟩
theorem VR.map_inv {id : Nat} {c : Value} (h : VR g (.map id) c) : ∃ l, g.loc id = some l ∧ c = .map (some l.b) := by cases h with | map h => exact ⟨_, h, rfl⟩
theorem VR.func_inv {f : FuncId} {x y : List V} {c : Value} (h : VR g (.func f x y) c) : ∃ A B, c = .func (.func f) A B ∧ A.size = x.length ∧ B.size = y.length ∧ (∀ i v, x[i]? = some v → VR g v (A.getD i Go.undef)) ∧ (∀ i v, y[i]? = some v → VR g v (B.getD i Go.undef)) := by
  cases h with | func a b c d => exact ⟨_, _, rfl, a, b, c, d⟩
theorem PR.func_inv {im : Nat → Nat → Option Value} {f : FuncId} {x y : List PV} {c : Value} (h : PR im (.func f x y) c) : ∃ A B, c = .func (.func f) A B ∧ A.size = x.length ∧ B.size = y.length ∧ (∀ i v, x[i]? = some v → PR im v (A.getD i Go.undef)) ∧ (∀ i v, y[i]? = some v → PR im v (B.getD i Go.undef)) := by
  cases h with | func a b c d => exact ⟨_, _, rfl, a, b, c, d⟩
theorem VR.agg_inv {cs : List V} {c : Value} (h : VR g (.agg cs) c) : ∃ l, c = .agg l ∧ l.size = cs.length ∧ ∀ i x, cs[i]? = some x → VR g x (l.getD i Go.undef) := by cases h with | agg a b => exact ⟨_, rfl, a, b⟩
theorem VR.tup_inv {cs : List V} {c : Value} (h : VR g (.tup cs) c) : ∃ l, c = .tuple l ∧ l.size = cs.length ∧ ∀ i x, cs[i]? = some x → VR g x (l.getD i Go.undef) := by cases h with | tup a b => exact ⟨_, rfl, a, b⟩
theorem PR.agg_inv {im : Nat → Nat → Option Value} {cs : List PV} {c : Value} (h : PR im (.agg cs) c) : ∃ l, c = .agg l ∧ l.size = cs.length ∧ ∀ i x, cs[i]? = some x → PR im x (l.getD i Go.undef) := by cases h with | agg a b => exact ⟨_, rfl, a, b⟩
theorem PR.tup_inv {im : Nat → Nat → Option Value} {cs : List PV} {c : Value} (h : PR im (.tup cs) c) : ∃ l, c = .tuple l ∧ l.size = cs.length ∧ ∀ i x, cs[i]? = some x → PR im x (l.getD i Go.undef) := by cases h with | tup a b => exact ⟨_, rfl, a, b⟩
theorem PR.nils_inv {im : Nat → Nat → Option Value} {c : Value} (h : PR im .nils c) : ∃ a, c = .slice a 0 0 := by cases h with | nils a => exact ⟨a, rfl⟩
theorem PR.iface_inv {im : Nat → Nat → Option Value} {t : TypeId} {x : PV} {c : Value} (h : PR im (.iface t x) c) : ∃ d, c = .iface t d ∧ PR im x d := by cases h with | iface h => exact ⟨_, rfl, h⟩
theorem PR.nili_inv {im : Nat → Nat → Option Value} {c : Value} (h : PR im .nili c) : c = .nilIface := by cases h; rfl

/-- The operation does what 'evOp' says. -/
def Does (cx : Cx) (P : Program) (o : Oper) (a : Act) (g : G) (H : Hp) (w : World) (v : V) (H' : Hp) : Prop :=
  ∃ c g' w', Ran P o a w c w' ∧ St cx g H w g' H' w' ∧ VR g' v c

theorem does_pure (hr : Rel cx g H w) (ho : Hok H) {c : Value} (h : (execOp a.eval o).run P w = .ok (.value c) w) (hv : VR g v c) : Does cx P o a g H w v H :=
  ⟨c, g, w, .inl h, St.refl hr ho, hv⟩

theorem run_v (s : Sem Value) {c : Value} {w' : World} (h : s.run P w = .ok c w') : ((do pure (.value (← s)) : Sem Next)).run P w = .ok (.value c) w' := by
  rw [Sem.run_bind, h]; rfl

theorem move_ok (hr : Rel cx g H w) (ho : Hok H) (he : EnvR g e a.tmps) {x : Operand} (hop : o.op = .move x ∨ o.op = .assign x) (h : evOp cx call o e H = some (.ok v H')) : Does cx P o a g H w v H' := by
  have h' : evx cx e x = some v ∧ H' = H := by
    rcases hop with hop | hop <;>
    · simp only [evOp, hop] at h
      split at h
      · rename_i u hu; injection h with h; injection h with h1 h2; subst h1; subst h2; exact ⟨hu, rfl⟩
      · cases h
  obtain ⟨h1, rfl⟩ := h'
  refine does_pure hr ho (c := a.eval x) ?_ (evx_ok hr he h1)
  rcases hop with hop | hop <;> simp [execOp, hop]

theorem pick_ok (hr : Rel cx g H w) (ho : Hok H) (he : EnvR g e a.tmps) {c x y : Operand} (hop : o.op = .pick c x y) (h : evOp cx call o e H = some (.ok v H')) : Does cx P o a g H w v H' := by
  simp only [evOp, hop] at h
  split at h
  · rename_i hc
    have hc := (evx_ok hr he hc).bool
    split at h
    · rename_i u hu; injection h with h; injection h with h1 h2; subst h1; subst h2
      exact does_pure hr ho (c := a.eval x) (by simp [execOp, hop, hc, asBool]) (evx_ok hr he hu)
    · cases h
  · rename_i hc
    have hc := (evx_ok hr he hc).bool
    split at h
    · rename_i u hu; injection h with h; injection h with h1 h2; subst h1; subst h2
      exact does_pure hr ho (c := a.eval y) (by simp [execOp, hop, hc, asBool]) (evx_ok hr he hu)
    · cases h
  · cases h

theorem nilCheck_ok (hr : Rel cx g H w) (ho : Hok H) (he : EnvR g e a.tmps) {x : Operand} (hop : o.op = .nilCheck x) (h : evOp cx call o e H = some (.ok v H')) : Does cx P o a g H w v H' := by
  simp only [evOp, hop] at h
  split at h
  all_goals first | cases h | skip
  all_goals
    rename_i hx
    have hv := evx_ok hr he hx
    refine does_pure hr ho (c := a.eval x) ?_ hv
    simp only [execOp, hop]
  · obtain ⟨l, _, hc⟩ := hv.ref_inv; rw [hc]; rfl
  · obtain ⟨l, _, hc⟩ := hv.optr_inv; rw [hc]; rfl
  · obtain ⟨b, o, sz, us, _, hc⟩ := hv.pp.sptr_inv; rw [hc]; rfl
  · obtain ⟨A, B, hc, _⟩ := hv.func_inv; rw [hc]; rfl
  · obtain ⟨A, B, hc, _⟩ := hv.pp.func_inv; rw [hc]; rfl

theorem binOp_ok (hT : TYok P cx) (hr : Rel cx g H w) (ho : Hok H) (he : EnvR g e a.tmps) {op : BinOp} {t t' : TypeId} {x y : Operand} (hop : o.op = .binOp op t x y t') (h : evOp cx call o e H = some (.ok v H')) : Does cx P o a g H w v H' := by
  simp only [evOp, hop] at h
  split at h
  · rename_i c d hc hd
    split at h
    · rename_i r hb
      injection h with h; injection h with h1 h2; subst h1; subst h2
      have h3 := evNil_ok hT hb (evx_ok hr he hc) a x w
      exact does_pure hr ho (c := .bool r) (by simp only [execOp, hop]; exact run_v _ h3) (.p (.bool r))
    split at h
    · rename_i r hb
      injection h with h; injection h with h1 h2; subst h1; subst h2
      obtain ⟨q, h3, h4⟩ := evBin_ok hT hb (evx_ok hr he hc) (evx_ok hr he hd) x y w
      exact does_pure hr ho (c := q) (by simp only [execOp, hop]; exact run_v _ h3) (.p h4)
    · cases h
  · cases h

theorem unOp_ok (hr : Rel cx g H w) (ho : Hok H) (he : EnvR g e a.tmps) {op : UnOp} {t : TypeId} {x : Operand} (hop : o.op = .unOp op t x) (h : evOp cx call o e H = some (.ok v H')) : Does cx P o a g H w v H' := by
  simp only [evOp, hop] at h
  split at h
  · rename_i c hc
    split at h
    · rename_i r hb
      injection h with h; injection h with h1 h2; subst h1; subst h2
      have hv := evx_ok hr he hc
      unfold evUn at hb
      split at hb
      · injection hb with hb; subst hb
        have := hv.int
        exact does_pure hr ho (c := .int _ _) (by simp only [execOp, hop]; rw [this]; exact run_v _ (by simp [Op.unary, Op.intArith])) .mkInt
      · injection hb with hb; subst hb
        have := hv.bool
        exact does_pure hr ho (c := .bool _) (by simp only [execOp, hop]; rw [this]; exact run_v _ (by simp [Op.unary])) .mkBool
      · cases hb
    · cases h
  · cases h

theorem convert_ok (hT : TYok P cx) (hr : Rel cx g H w) (ho : Hok H) (he : EnvR g e a.tmps) {s d : TypeId} {x : Operand} (hop : o.op = .convert s d x) (h : evOp cx call o e H = some (.ok v H')) : Does cx P o a g H w v H' := by
  simp only [evOp, hop] at h
  split at h
  · rename_i ts td u hs hd hx
    split at h
    · rename_i k1 k k2 n e1 e2
      injection h with h; injection h with h1 h2; subst h1; subst h2
      have hv := (evx_ok hr he hx).int
      refine does_pure hr ho (c := .int k (k.wrap n)) ?_ .mkInt
      simp only [execOp, hop]
      rw [hv]
      refine run_v _ ?_
      unfold convert
      rw [Sem.run_bind, hT.und hs, Result.andThen_ok, Sem.run_bind, hT.und hd, Result.andThen_ok, e1, e2]
      simp [Conv.intToInt]
    · cases h
  · cases h

theorem makeInterface_ok (hT : TYok P cx) (hr : Rel cx g H w) (ho : Hok H) (he : EnvR g e a.tmps) {t : TypeId} {x : Operand} (hop : o.op = .makeInterface t x) (h : evOp cx call o e H = some (.ok v H')) : Does cx P o a g H w v H' := by
  simp only [evOp, hop] at h
  split at h
  · rename_i u hu
    split at h
    · rename_i r hb
      injection h with h; injection h with h1 h2; subst h1; subst h2
      have hv := evx_ok hr he hu
      unfold evIface at hb
      split at hb
      · rename_i d hd
        split at hb
        · cases hb
        · rename_i hni
          have hrun : (execOp a.eval o).run P w = .ok (.value (.iface t (a.eval x))) w := by
            simp only [execOp, hop]
            refine run_v _ ?_
            unfold Instr.makeInterface
            rw [Sem.run_bind, hT.und hd, Result.andThen_ok]
            generalize d.desc = dd at hni
            cases dd <;> first | rfl | exact absurd rfl (hni _)
          split at hb
          · injection hb with hb; subst hb
            exact does_pure hr ho hrun (.p (.iface hv.pp))
          · injection hb with hb; subst hb
            exact does_pure hr ho hrun (.iface hv)
      · cases hb
    · cases h
  · cases h

theorem makeFunc_ok (hr : Rel cx g H w) (ho : Hok H) (he : EnvR g e a.tmps) {f : Fn} {x y : Array Operand} (hop : o.op = .makeFunc f x y) (h : evOp cx call o e H = some (.ok v H')) : Does cx P o a g H w v H' := by
  cases f with
  | func f =>
    simp only [evOp, hop] at h
    split at h
    · rename_i u1 u2 h1 h2
      injection h with h; injection h with h3 h4; subst h3; subst h4
      obtain ⟨k1, k2⟩ := evxs_ok hr he _ _ h1
      obtain ⟨k3, k4⟩ := evxs_ok hr he _ _ h2
      have hrun : (execOp a.eval o).run P w = .ok (.value (.func (.func f) (x.map a.eval) (y.map a.eval))) w := by
        simp only [execOp, hop]
        exact run_v _ rfl
      have q1 : ∀ i v, u1[i]? = some v → VR g v ((x.map a.eval).getD i Go.undef) := fun i v hv => by
        have := k2 i v hv
        simpa [Array.getD_eq_getD_getElem?, List.getD] using this
      have q2 : ∀ i v, u2[i]? = some v → VR g v ((y.map a.eval).getD i Go.undef) := fun i v hv => by
        have := k4 i v hv
        simpa [Array.getD_eq_getD_getElem?, List.getD] using this
      have s1 : (x.map a.eval).size = u1.length := by simpa using k1
      have s2 : (y.map a.eval).size = u2.length := by simpa using k3
      refine does_pure hr ho hrun ?_
      split
      · rename_i l1 l2 e1 e2
        have := allP_ok _ _ e1; subst this
        have := allP_ok _ _ e2; subst this
        exact .p (.func (by simpa using s1) (by simpa using s2) (fun i v hv => (q1 i (.p v) (by simp [hv])).pp) (fun i v hv => (q2 i (.p v) (by simp [hv])).pp))
      · exact .func s1 s2 q1 q2
    · cases h
  | _ => simp [evOp, hop] at h

theorem fieldAddr_ok (hT : TYok P cx) (hr : Rel cx g H w) (ho : Hok H) (he : EnvR g e a.tmps) {t : TypeId} {x : Operand} {f : Nat} (hop : o.op = .fieldAddr t x f) (h : evOp cx call o e H = some (.ok v H')) : Does cx P o a g H w v H' := by
  simp only [evOp, hop] at h
  split at h
  · rename_i u hu
    split at h
    · rename_i r hb
      injection h with h; injection h with h1 h2; subst h1; subst h2
      have hv := evx_ok hr he hu
      unfold evFieldAddr at hb
      split at hb
      · rename_i d hd
        split at hb
        · rename_i fs hfs
          split at hb
          · rename_i fd hfd
            split at hb
            · rename_i df hdf
              split at hb
              · cases hb
              · rename_i hnz
                have hrun : ∀ b off, a.eval x = .pointer (some ⟨b, off, none⟩) → (execOp a.eval o).run P w = .ok (.value (.pointer (some ⟨b, off + fd.offset, none⟩))) w := fun b off hx => by
                  simp only [execOp, hop]
                  rw [hx]
                  refine run_v _ ?_
                  unfold Instr.fieldAt
                  rw [Sem.run_bind, hT.und hd, Result.andThen_ok, hfs]
                  simp only [hfd, Sem.run_bind, Instr.sureAddr, Sem.run_pure, Result.andThen_ok, fieldPlace]
                  rw [hT.sizeOf hdf]
                  simp only [Result.andThen_ok, if_neg hnz, Sem.run_pure, Addr.add_lit]
                split at hb
                · injection hb with hb; subst hb
                  obtain ⟨l, hl, hc⟩ := hv.ref_inv
                  exact does_pure hr ho (hrun _ _ hc) (.ref hl)
                · injection hb with hb; subst hb
                  obtain ⟨b, oo, sz, us, hR, hc⟩ := hv.pp.sptr_inv
                  refine does_pure hr ho (hrun _ _ hc) (.p ?_)
                  rw [Nat.add_assoc]
                  exact hR.sptr _ _
                · injection hb with hb; subst hb
                  obtain ⟨l, hl, hc⟩ := hv.optr_inv
                  refine does_pure hr ho (hrun _ _ hc) ?_
                  rw [Nat.add_assoc]
                  exact .optr hl
                · cases hb
            · cases hb
          · cases hb
        · cases hb
      · cases hb
    · cases h
  · cases h

theorem elemSz_ok {el : TypeId} {n : Nat} (h : elemSz cx el n = true) : ∃ d, cx.ty el = some d ∧ d.size = n := by
  unfold elemSz at h
  split at h
  · rename_i d hd; exact ⟨d, hd, by simpa using h⟩
  · cases h

theorem indexAddr_ok (hT : TYok P cx) (hr : Rel cx g H w) (ho : Hok H) (he : EnvR g e a.tmps) {t : TypeId} {x y : Operand} (hop : o.op = .indexAddr t x y) (h : evOp cx call o e H = some (.ok v H')) : Does cx P o a g H w v H' := by
  simp only [evOp, hop] at h
  split at h
  · rename_i u k i hu hi
    have hiv := (evx_ok hr he hi).int
    have hv := evx_ok hr he hu
    split at h
    · rename_i r hb
      injection h with h; injection h with h1 h2; subst h1; subst h2
      unfold evIndexAddr at hb
      split at hb
      · rename_i d hd
        have hrunS : ∀ el b off n cap de, d.desc = .slice el → cx.ty el = some de → a.eval x = .slice (some ⟨b, off, none⟩) n cap → 0 ≤ i → i < n → (execOp a.eval o).run P w = .ok (.value (.pointer (some ⟨b, off + i.toNat * de.size, none⟩))) w := by
          intro el b off n cap de h1 h2 h3 h4 h5
          simp only [execOp, hop]
          rw [h3, hiv]
          refine run_v _ ?_
          unfold Instr.indexAt
          simp only [asIntOf, Sem.run_bind, Sem.run_pure, Result.andThen_ok, hT.und hd, h1]
          rw [if_pos ⟨h4, h5⟩]
          simp only [Sem.run_bind, hT.sizeOf h2, Result.andThen_ok, Sem.run_pure, Addr.add_lit]
        have hrunA : ∀ el n b off de, d.desc = .array n el → cx.ty el = some de → a.eval x = .pointer (some ⟨b, off, none⟩) → 0 ≤ i → i < n → (execOp a.eval o).run P w = .ok (.value (.pointer (some ⟨b, off + i.toNat * de.size, none⟩))) w := by
          intro el n b off de h1 h2 h3 h4 h5
          simp only [execOp, hop]
          rw [h3, hiv]
          refine run_v _ ?_
          unfold Instr.indexAt
          simp only [asIntOf, Sem.run_bind, Sem.run_pure, Result.andThen_ok, hT.und hd, h1, Instr.sureAddr]
          rw [if_pos ⟨h4, h5⟩]
          simp only [Sem.run_bind, hT.sizeOf h2, Result.andThen_ok, Sem.run_pure, Addr.add_lit]
        split at hb
        · rename_i el xs hel
          split at hb
          · rename_i hi0
            split at hb
            · rename_i z hz
              split at hb
              · rename_i hsz
                injection hb with hb; subst hb
                obtain ⟨de, hde, hds⟩ := elemSz_ok hsz
                simp only [rdl] at hz
                have hlt := (List.getElem?_eq_some_iff.1 hz).1
                rcases hv.pp.sl_inv with ⟨rfl, _⟩ | ⟨b, oo, sz, us, cap, hR, hc, hq⟩
                · simp at hlt
                · have := hrunS el b oo xs.length cap de hel hde hq hi0 (by omega)
                  refine does_pure hr ho this (.p ?_)
                  rw [hds, hR.hs _ _ hz]
                  exact hR.sptr _ 0
              · cases hb
            · cases hb
          · cases hb
        · rename_i el id off n hel
          split at hb
          · rename_i hi0
            obtain ⟨l, hl, hcap, hq⟩ := hv.own_inv
            have hobj := hr.obj id l hl
            have fin : ∀ de, cx.ty el = some de → de.size = l.sz → Does cx P o a g H w (.optr id (off + i.toNat) 0) H := fun de hde hds => by
              have := hrunS el l.b _ n _ de hel hde hq hi0.1 hi0.2
              refine does_pure hr ho this ?_
              rw [hds, ← Nat.add_mul]
              exact .optr hl
            split at hb
            · rename_i xs hx
              split at hb
              · rename_i z hz
                split at hb
                · rename_i hsz
                  injection hb with hb; subst hb
                  obtain ⟨de, hde, hds⟩ := elemSz_ok hsz
                  rw [hx] at hobj
                  obtain ⟨us, _, _, _, _, hs, _⟩ := hobj
                  exact fin de hde (hds.trans (hs _ _ hz))
                · cases hb
              · cases hb
            · rename_i xs hx
              split at hb
              · rename_i z hz
                split at hb
                · rename_i hsz
                  injection hb with hb; subst hb
                  obtain ⟨de, hde, hds⟩ := elemSz_ok hsz
                  rw [hx] at hobj
                  obtain ⟨_, us, hs, _⟩ := hobj
                  exact fin de hde (hds.trans (hs _ _ hz))
                · cases hb
              · cases hb
            · rename_i xs hx
              split at hb
              · rename_i hsz
                injection hb with hb; subst hb
                obtain ⟨de, hde, hds⟩ := elemSz_ok hsz
                rw [hx] at hobj
                exact fin de hde (hds.trans hobj.1.symm)
              · cases hb
            · cases hb
          · cases hb
        · rename_i n el xs hel
          split at hb
          · rename_i hi0
            split at hb
            · rename_i z hz
              split at hb
              · rename_i hsz
                injection hb with hb; subst hb
                obtain ⟨de, hde, hds⟩ := elemSz_ok hsz
                simp only [rdl] at hz
                have hlt := (List.getElem?_eq_some_iff.1 hz).1
                obtain ⟨b, oo, sz, us, hR, hq⟩ := hv.pp.sptr_inv
                have := hrunA el n b _ de hel hde hq hi0.2 (by omega)
                refine does_pure hr ho this (.p ?_)
                rw [hds, hR.hs _ _ hz]
                have := hR.sptr i.toNat 0
                simpa using this
              · cases hb
            · cases hb
          · cases hb
        · rename_i n el id off hel
          split at hb
          · rename_i hsz
            injection hb with hb; subst hb
            obtain ⟨de, hde, hds⟩ := elemSz_ok hsz.1
            obtain ⟨l, hl, hq⟩ := hv.ref_inv
            have := hrunA el n l.b _ de hel hde hq hsz.2.1 hsz.2.2
            refine does_pure hr ho this ?_
            rw [hds, Nat.mul_one]
            exact .ref hl
          · cases hb
        · cases hb
      · cases hb
    · cases h
  · cases h

theorem index_ok (hT : TYok P cx) (hr : Rel cx g H w) (ho : Hok H) (he : EnvR g e a.tmps) {t : TypeId} {x y : Operand} (hop : o.op = .index t x y) (h : evOp cx call o e H = some (.ok v H')) : Does cx P o a g H w v H' := by
  simp only [evOp, hop] at h
  split at h
  · rename_i d s k i hd hx hy
    have h1 := (evx_ok hr he hx).str
    have h2 := (evx_ok hr he hy).int
    split at h
    · rename_i hde
      split at h
      · rename_i hi0
        split at h
        · rename_i b hb
          injection h with h; injection h with h3 h4; subst h3; subst h4
          refine does_pure hr ho (c := .int .u8 b.toNat) ?_ .mkInt
          simp only [execOp, hop]
          rw [h1, h2]
          refine run_v _ ?_
          unfold Instr.index
          simp only [asIntOf, Sem.run_bind, Sem.run_pure, Result.andThen_ok, hT.und hd, hde]
          rw [if_pos hi0, hb]
          rfl
        · cases h
      · cases h
    · cases h
  · cases h

theorem extract_ok (hr : Rel cx g H w) (ho : Hok H) (he : EnvR g e a.tmps) {x : Operand} {i : Nat} (hop : o.op = .extract x i) (h : evOp cx call o e H = some (.ok v H')) : Does cx P o a g H w v H' := by
  simp only [evOp, hop] at h
  split at h
  · rename_i vs hx
    split at h
    · rename_i u hu
      injection h with h; injection h with h1 h2; subst h1; subst h2
      obtain ⟨l, hc, hs, hp⟩ := (evx_ok hr he hx).pp.tup_inv
      simp only [rdl] at hu
      have hlt := (List.getElem?_eq_some_iff.1 hu).1
      refine does_pure hr ho (c := l.getD i Go.undef) ?_ (.p (hp _ _ hu))
      simp only [execOp, hop]
      rw [hc]
      refine run_v _ ?_
      have : l[i]? = some (l.getD i Go.undef) := by simp [Array.getD_eq_getD_getElem?, hs, hlt]
      simp only [Instr.extract, this]; rfl
    · cases h
  · rename_i vs hx
    split at h
    · rename_i u hu
      injection h with h; injection h with h1 h2; subst h1; subst h2
      obtain ⟨l, hc, hs, hp⟩ := (evx_ok hr he hx).tup_inv
      simp only [rdl] at hu
      have hlt := (List.getElem?_eq_some_iff.1 hu).1
      refine does_pure hr ho (c := l.getD i Go.undef) ?_ (hp _ _ hu)
      simp only [execOp, hop]
      rw [hc]
      refine run_v _ ?_
      have : l[i]? = some (l.getD i Go.undef) := by simp [Array.getD_eq_getD_getElem?, hs, hlt]
      simp only [Instr.extract, this]; rfl
    · cases h
  · cases h

theorem load_ok (hT : TYok P cx) (hr : Rel cx g H w) (ho : Hok H) (he : EnvR g e a.tmps) {t : TypeId} {x : Operand} (hop : o.op = .load t x) (h : evOp cx call o e H = some (.ok v H')) : Does cx P o a g H w v H' := by
  simp only [evOp, hop] at h
  split at h
  · rename_i p hp
    have hv := evx_ok hr he hp
    split at h
    · rename_i u hu
      injection h with h; injection h with h1 h2; subst h1; subst h2
      unfold evLoad at hu
      split at hu
      · rename_i d hd
        obtain ⟨i, z, hi, hs, _⟩ := hT.info t d hd
        split at hu
        · rename_i hag
          split at hu
          · rename_i l hl
            injection hu with hu; subst hu
            obtain ⟨b, off, hc, hln, us, hul, hrange, hrel⟩ := readAt_ok hr hv hl
            refine does_pure hr ho (c := .agg us.toArray) ?_ (mkAgg_ok (by simp [hul, hln]) (fun i y hy => by
              have := hrel i y hy
              simpa [Array.getD_eq_getD_getElem?, List.getD] using this))
            simp only [execOp, hop]
            rw [hc]
            refine run_v _ ?_
            exact run_loadAt_mid (P := P) w b off t us d.desc hrange (hT.desc t d hd) (by cases hdd : d.desc <;> simp_all [isAggT, TypeDesc.isRow]) (by simp [hi, hs, hul])
          · cases hu
        · rename_i hag
          split at hu
          · rename_i y hl
            injection hu with hu; subst hu
            obtain ⟨b, off, hc, hln, us, hul, hrange, hrel⟩ := readAt_ok hr hv hl
            match us, hul with
            | [u], _ =>
              refine does_pure hr ho (c := u) ?_ (by simpa using hrel 0 y rfl)
              simp only [execOp, hop]
              rw [hc]
              refine run_v _ ?_
              have hcell : w.cell? ⟨b, off, none⟩ = some u := by simpa using hrange 0 u rfl
              simp only [Instr.loadAt, Instr.sureAddr, Sem.run_bind, Sem.run_pure, Result.andThen_ok, loadVar, hT.isAgg hd, Bool.not_eq_true] at hag ⊢
              rw [hag]
              simp [load, Sem.run, hcell]
          · cases hu
      · cases hu
    · cases h
  · cases h

end
end Go.Ev
