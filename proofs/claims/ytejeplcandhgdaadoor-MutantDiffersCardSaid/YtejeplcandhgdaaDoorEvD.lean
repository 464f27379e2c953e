/- Each operation of the machine does what 'evOp' says. Part 2: what only reckons, and loads. -/
import Derived.Test.YtejeplcandhgdaaDoorEvC
import Derived.Laws.StructEq
set_option linter.unusedVariables false
set_option linter.unusedSimpArgs false
namespace Go.Ev

structure TYok (P : Program) (cx : Cx) : Prop where
  desc : ∀ t d, cx.ty t = some d → P.underlying t = some d.desc
  info : ∀ t d, cx.ty t = some d → ∃ i z, P.info? t = some i ∧ i.size = d.size ∧ i.bytes = d.bytes ∧ i.zero = some z ∧ PR (fun _ _ => none) d.zero z ∧ d.zero.cells.length = d.size ∧ d.zero.cells.all PV.cell = true
  one : ∀ t d, cx.ty t = some d → isAggT d.desc = false → d.size = 1
  eqt : ∀ t, cx.eqt t = true → P.eqGuardType P.depth t = false ∧ P.stoodInHeld t = false

/-- The operation yields a value, or nothing. -/
def Ran (P : Program) (o : Oper) (a : Act) (w : World) (c : Value) (w' : World) : Prop :=
  (execOp a.eval o).run P w = .ok (.value c) w' ∨ ((execOp a.eval o).run P w = .ok .skip w' ∧ c = Go.undef)

section
variable {cx : Cx} {P : Program} {g : G} {H : Hp} {w : World} {e : Env} {a : Act} {o : Oper}

theorem TYok.und (hT : TYok P cx) {t : TypeId} {d : TY} (h : cx.ty t = some d) (w : World) : (underlying t).run P w = .ok d.desc w := run_underlying (hT.desc t d h) w
theorem TYok.isAgg (hT : TYok P cx) {t : TypeId} {d : TY} (h : cx.ty t = some d) (w : World) : (Go.isAgg t).run P w = .ok (isAggT d.desc) w := by
  unfold Go.isAgg
  rw [Sem.run_bind, hT.und h]
  cases d.desc <;> simp [isAggT]
theorem TYok.sizeOf (hT : TYok P cx) {t : TypeId} {d : TY} (h : cx.ty t = some d) (w : World) : (Go.sizeOf t).run P w = .ok d.size w := by
  obtain ⟨i, z, hi, hs, _⟩ := hT.info t d h
  simp [Go.sizeOf, typeInfo, hi, hs]
theorem TYok.zero (hT : TYok P cx) {t : TypeId} {d : TY} (h : cx.ty t = some d) (w : World) : ∃ z, (zeroValue t).run P w = .ok z w ∧ (∀ im, PR im d.zero z) := by
  obtain ⟨i, z, hi, hs, hb, hz, hp, _⟩ := hT.info t d h
  exact ⟨z, by simp [zeroValue, typeInfo, hi, hz], fun im => hp.mono (fun _ _ _ h => by cases h)⟩

theorem VR.int {k : IntKind} {n : Int} {c : Value} (h : VR g (.p (.int k n)) c) : c = .int k n := by have := h.pp; cases this; rfl
theorem VR.bool {b : Bool} {c : Value} (h : VR g (.p (.bool b)) c) : c = .bool b := by have := h.pp; cases this; rfl
theorem VR.str {s : ByteArray} {c : Value} (h : VR g (.p (.str s)) c) : c = .string s := by have := h.pp; cases this; rfl
theorem VR.mkInt {k : IntKind} {n : Int} : VR g (.p (.int k n)) (.int k n) := .p (.int k n)
theorem VR.mkBool {b : Bool} : VR g (.p (.bool b)) (.bool b) := .p (.bool b)
theorem VR.mkStr {s : ByteArray} : VR g (.p (.str s)) (.string s) := .p (.str s)

theorem ran_pure {c : Value} (h : (execOp a.eval o).run P w = .ok (.value c) w) : Ran P o a w c w := .inl h

theorem evInt_ok {op : BinOp} {k : IntKind} {x y : Int} {v : PV} (h : evInt op k x y = some v) (h1 : op ≠ .shl) (h2 : op ≠ .shr) (t : TypeId) (w : World) :
    ∃ c, (binOp op t (.int k x) (.int k y)).run P w = .ok c w ∧ PR g.im v c := by
  cases op
  case add => injection h with h; subst h; exact ⟨.int k (k.wrap (x + y)), by simp [binOp, Op.intArith], .int _ _⟩
  case sub => injection h with h; subst h; exact ⟨.int k (k.wrap (x - y)), by simp [binOp, Op.intArith], .int _ _⟩
  case mul => injection h with h; subst h; exact ⟨.int k (k.wrap (x * y)), by simp [binOp, Op.intArith], .int _ _⟩
  case quo =>
    simp only [evInt] at h
    split at h
    · cases h
    · rename_i h0; injection h with h; subst h; exact ⟨.int k (k.wrap (x.tdiv y)), by simp [binOp, Op.intDiv, h0], .int _ _⟩
  case rem =>
    simp only [evInt] at h
    split at h
    · cases h
    · rename_i h0; injection h with h; subst h; exact ⟨.int k (x.tmod y), by simp [binOp, Op.intDiv, h0], .int _ _⟩
  case and => injection h with h; subst h; exact ⟨.int k (k.wrap (BitVec.ofInt k.bits x &&& BitVec.ofInt k.bits y).toNat), by simp [binOp, Op.intBits], .int _ _⟩
  case or => injection h with h; subst h; exact ⟨.int k (k.wrap (BitVec.ofInt k.bits x ||| BitVec.ofInt k.bits y).toNat), by simp [binOp, Op.intBits], .int _ _⟩
  case andNot => injection h with h; subst h; exact ⟨.int k (k.wrap (BitVec.ofInt k.bits x &&& ~~~ BitVec.ofInt k.bits y).toNat), by simp [binOp, Op.intBits], .int _ _⟩
  case eql => injection h with h; subst h; exact ⟨.bool (x == y), by simp [binOp, Op.intCmp], .bool _⟩
  case neq => injection h with h; subst h; exact ⟨.bool (x != y), by simp [binOp, Op.intCmp], .bool _⟩
  case lss => injection h with h; subst h; exact ⟨.bool (decide (x < y)), by simp [binOp, Op.intCmp], .bool _⟩
  case leq => injection h with h; subst h; exact ⟨.bool (decide (x ≤ y)), by simp [binOp, Op.intCmp], .bool _⟩
  case gtr => injection h with h; subst h; exact ⟨.bool (decide (x > y)), by simp [binOp, Op.intCmp], .bool _⟩
  case geq => injection h with h; subst h; exact ⟨.bool (decide (x ≥ y)), by simp [binOp, Op.intCmp], .bool _⟩
  all_goals simp [evInt] at h

theorem evStr_ok {op : BinOp} {x y : ByteArray} {v : PV} (h : evStr op x y = some v) (t : TypeId) (w : World) :
    ∃ c, (binOp op t (.string x) (.string y)).run P w = .ok c w ∧ PR g.im v c := by
  cases op
  case add =>
    simp only [evStr] at h
    split at h
    · rename_i h0
      injection h with h; subst h
      refine ⟨.string (x ++ y), ?_, .str _⟩
      have : ¬ (((x.size + y.size : Nat) : Int) > IntKind.i64.max) := by simp; omega
      simp only [binOp, Op.stringOp]
      rw [if_neg this]
      rfl
    · cases h
  case eql => injection h with h; subst h; exact ⟨.bool (x.toList == y.toList), rfl, .bool _⟩
  case neq => injection h with h; subst h; exact ⟨.bool (!(x.toList == y.toList)), rfl, .bool _⟩
  all_goals simp [evStr] at h

theorem guard_plain {op : BinOp} {t : TypeId} {x y : Operand} {c d : Value} (h1 : c ≠ .nilIface) (h2 : ∀ l, c ≠ .agg l) (w : World) : (eqGuard op t x y c d).run P w = .ok () w := by
  cases c
  case nilIface => exact absurd rfl h1
  case agg l => exact absurd rfl (h2 l)
  all_goals (unfold eqGuard; split <;> rfl)

theorem evEqCell_ok (hT : TYok P cx) {t : TypeId} {x y : V} {b : Bool} {c d : Value} (h : evEqCell cx t x y = some b) (hx : VR g x c) (hy : VR g y d) (n : Nat) (w : World) :
    (Op.equalIn (n + 1) t c d).run P w = .ok b w ∧ c ≠ .nilIface ∧ (∀ l, c ≠ .agg l) := by
  unfold evEqCell at h
  split at h
  · rename_i ty hty
    have hu := hT.und hty
    split at h
    · rename_i k k1 x1 k2 y1 hd
      have h1 := hx.int; have h2 := hy.int; subst h1; subst h2
      split at h
      · rename_i hk; injection h with h; subst h; subst hk
        refine ⟨?_, by simp, by simp⟩
        rw [Op.equalIn, Sem.run_bind, hu, hd]; simp
      · cases h
    · rename_i x1 y1 hd
      have h1 := hx.bool; have h2 := hy.bool; subst h1; subst h2
      injection h with h; subst h
      refine ⟨?_, by simp, by simp⟩
      rw [Op.equalIn, Sem.run_bind, hu, hd]; simp
    · rename_i x1 y1 hd
      have h1 := hx.str; have h2 := hy.str; subst h1; subst h2
      injection h with h; subst h
      refine ⟨?_, by simp, by simp⟩
      rw [Op.equalIn, Sem.run_bind, hu, hd]; simp
    · rename_i x1 hd
      have h1 := hx.pp; have h2 := hy.pp; cases h1; cases h2
      injection h with h; subst h
      refine ⟨?_, by simp, by simp⟩
      rw [Op.equalIn, Sem.run_bind, hu, hd]; simp
    · rename_i x1 i f hd
      have h1 := hx.pp; cases h1; cases hy
      injection h with h; subst h
      refine ⟨?_, by simp, by simp⟩
      rw [Op.equalIn, Sem.run_bind, hu, hd]; simp
    · rename_i x1 i f hd
      have h1 := hy.pp; cases h1; cases hx
      injection h with h; subst h
      refine ⟨?_, by simp, by simp⟩
      rw [Op.equalIn, Sem.run_bind, hu, hd]; simp
    · rename_i hd
      have h1 := hx.pp; have h2 := hy.pp; cases h1; cases h2
      injection h with h; subst h
      refine ⟨?_, by simp, by simp⟩
      rw [Op.equalIn, Sem.run_bind, hu, hd]; simp
    · rename_i hd
      have h1 := hy.pp; cases h1; cases hx
      injection h with h; subst h
      refine ⟨?_, by simp, by simp⟩
      rw [Op.equalIn, Sem.run_bind, hu, hd]; simp
    · rename_i hd
      have h1 := hy.pp; cases h1; have h2 := hx.pp; cases h2
      injection h with h; subst h
      refine ⟨?_, by simp, by simp⟩
      rw [Op.equalIn, Sem.run_bind, hu, hd]; simp
    · cases h
  · cases h


theorem evEqFields_ok (hT : TYok P cx) {xs ys : List PV} {A B : Array Value} (hA : ∀ i x, xs[i]? = some x → PR g.im x (A.getD i Go.undef)) (hB : ∀ i x, ys[i]? = some x → PR g.im x (B.getD i Go.undef))
    (hsa : A.size = xs.length) (hsb : B.size = ys.length) (n : Nat) (w : World) :
    ∀ (fs : List Field) (b : Bool), evEqFields cx xs ys fs = some b → (Op.eqFields (n + 1) A B fs).run P w = .ok b w
  | [], b, h => by simp [evEqFields] at h; subst h; simp [Op.eqFields]
  | f :: r, b, h => by
    unfold evEqFields at h
    split at h
    · cases h
    · rename_i hn
      split at h
      · rename_i x y hx hy
        split at h
        all_goals (first | cases h | skip)
        all_goals
          rename_i hq
          obtain ⟨d, hd⟩ : ∃ d, cx.ty f.type = some d := by
            unfold evEqCell at hq; split at hq
            · exact ⟨_, by assumption⟩
            · cases hq
          have hag : isAggT d.desc = false := by
            unfold evEqCell at hq; rw [hd] at hq
            simp only at hq
            split at hq <;> simp_all [isAggT]
          simp only [rdl] at hx hy
          have hxl := (List.getElem?_eq_some_iff.1 hx).1
          have hyl := (List.getElem?_eq_some_iff.1 hy).1
          have ha := hA _ _ hx
          have hb := hB _ _ hy
          have e1 : A[f.offset]? = some (A.getD f.offset Go.undef) := by simp [Array.getD_eq_getD_getElem?, hsa, hxl]
          have e2 : B[f.offset]? = some (B.getD f.offset Go.undef) := by simp [Array.getD_eq_getD_getElem?, hsb, hyl]
          have p1 : (part f.type A f.offset).run P w = .ok (A.getD f.offset Go.undef) w := by
            unfold part; rw [Sem.run_bind, hT.isAgg hd, hag]; simp only [Result.andThen_ok, Bool.false_eq_true, if_false]; rw [e1]; rfl
          have p2 : (part f.type B f.offset).run P w = .ok (B.getD f.offset Go.undef) w := by
            unfold part; rw [Sem.run_bind, hT.isAgg hd, hag]; simp only [Result.andThen_ok, Bool.false_eq_true, if_false]; rw [e2]; rfl
          have q := (evEqCell_ok hT hq (.p ha) (.p hb) n w).1
          rw [Op.eqFields, if_pos hn]
          simp only [Sem.run_bind, p1, p2, q, Result.andThen_ok]
        · simpa using evEqFields_ok hT hA hB hsa hsb n w r b h
        · simp
      · cases h

theorem evEq_ok (hT : TYok P cx) {op : BinOp} {t : TypeId} {x y : V} {b : Bool} {c d : Value} (h : evEq cx t x y = some b) (hx : VR g x c) (hy : VR g y d) (X Y : Operand) (w : World) :
    (Op.equal t c d).run P w = .ok b w ∧ (eqGuard op t X Y c d).run P w = .ok () w := by
  unfold evEq at h
  split at h
  · rename_i xs ys
    split at h
    · rename_i ty hty
      split at h
      · rename_i fs hfs
        split at h
        · rename_i he
          obtain ⟨hg, hs⟩ := hT.eqt t he
          have h1 := hx.pp; have h2 := hy.pp
          cases h1 with
          | agg hl1 hv1 =>
            cases h2 with
            | agg hl2 hv2 =>
              rename_i A B
              have hu := hT.desc t ty hty
              rw [hfs] at hu
              have hf : P.fieldsOf t = fs := by simp [Program.fieldsOf, hu]
              refine ⟨?_, ?_⟩
              · unfold Op.equal
                show (Op.equalIn (9999 + 1) t (.agg A) (.agg B)).run P w = _
                rw [run_equalIn_struct (P := P) w 9999 t A B (by rw [hf]; exact hu) hs, hf]
                exact evEqFields_ok hT hv1 hv2 hl1 hl2 9998 w _ _ h
              · cases op <;> first | rfl | simp [eqGuard, hg]
        · cases h
      · cases h
    · cases h
  · obtain ⟨h1, h2, h3⟩ := evEqCell_ok hT h hx hy 9999 w
    exact ⟨h1, guard_plain h2 h3 w⟩

theorem evBin_ok (hT : TYok P cx) {op : BinOp} {t : TypeId} {x y : V} {v : PV} {c d : Value} (h : evBin cx op t x y = some v) (hx : VR g x c) (hy : VR g y d) (X Y : Operand) (w : World) :
    ∃ r, ((do eqGuard op t X Y c d; binOp op t c d : Sem Value)).run P w = .ok r w ∧ PR g.im v r := by
  unfold evBin at h
  split at h
  · have h1 := hx.int; have h2 := hy.int; subst h1; subst h2
    split at h
    · cases h
    · rename_i hb
      injection h with h; subst h
      exact ⟨_, by rw [Sem.run_bind, guard_plain (by simp) (by simp)]; simp only [Result.andThen_ok, binOp, Op.shift]; rw [if_neg hb]; rfl, .int _ _⟩
  · have h1 := hx.int; have h2 := hy.int; subst h1; subst h2
    split at h
    · cases h
    · rename_i hb
      injection h with h; subst h
      exact ⟨_, by rw [Sem.run_bind, guard_plain (by simp) (by simp)]; simp only [Result.andThen_ok, binOp, Op.shift]; rw [if_neg hb]; rfl, .int _ _⟩
  · rename_i hn1 hn2 hn3
    have h1 := hx.int; have h2 := hy.int; subst h1; subst h2
    split at h
    · rename_i hk
      subst hk
      obtain ⟨r, h3, h4⟩ := evInt_ok (g := g) (P := P) h (by rintro rfl; simp_all) (by rintro rfl; simp_all) t w
      exact ⟨r, by rw [Sem.run_bind, guard_plain (by simp) (by simp)]; exact h3, h4⟩
    · cases h
  · have h1 := hx.str; have h2 := hy.str; subst h1; subst h2
    obtain ⟨r, h3, h4⟩ := evStr_ok (g := g) (P := P) h t w
    exact ⟨r, by rw [Sem.run_bind, guard_plain (by simp) (by simp)]; exact h3, h4⟩
  · rename_i n1 n2
    split at h
    · rename_i b hb
      injection h with h; subst h
      obtain ⟨h3, h4⟩ := evEq_ok (op := .eql) hT hb hx hy X Y w
      refine ⟨.bool b, ?_, .bool _⟩
      rw [Sem.run_bind, h4]
      simp only [Result.andThen_ok]
      have : binOp .eql t c d = (do pure (.bool (← Op.equal t c d)) : Sem Value) ∨ (∃ k a k' b, c = .int k a ∧ d = .int k' b) ∨ (∃ a b, c = .string a ∧ d = .string b) ∨ (∃ k a k' b, c = .float k a ∧ d = .float k' b) ∨ (∃ k a a' k' b b', c = .complex k a a' ∧ d = .complex k' b b') := by
        cases c <;> cases d <;> first | exact .inl rfl | (refine .inr ?_; simp)
      rcases this with this | ⟨k, a1, k', b1, rfl, rfl⟩ | ⟨a1, b1, rfl, rfl⟩ | ⟨k, a1, k', b1, rfl, rfl⟩ | ⟨k, a1, a2, k', b1, b2, rfl, rfl⟩
      · rw [this, Sem.run_bind, h3]; rfl
      · exfalso; cases hx with | p hx => cases hx; cases hy with | p hy => cases hy; exact n1 _ _ _ _ rfl rfl
      · exfalso; cases hx with | p hx => cases hx; cases hy with | p hy => cases hy; exact n2 _ _ rfl rfl
      · exfalso; cases hx with | p hx => cases hx
      · exfalso; cases hx with | p hx => cases hx
    · cases h
  · rename_i n1 n2
    split at h
    · rename_i b hb
      injection h with h; subst h
      obtain ⟨h3, h4⟩ := evEq_ok (op := .neq) hT hb hx hy X Y w
      refine ⟨.bool (!b), ?_, .bool _⟩
      rw [Sem.run_bind, h4]
      simp only [Result.andThen_ok]
      have : binOp .neq t c d = (do pure (.bool (!(← Op.equal t c d))) : Sem Value) ∨ (∃ k a k' b, c = .int k a ∧ d = .int k' b) ∨ (∃ a b, c = .string a ∧ d = .string b) ∨ (∃ k a k' b, c = .float k a ∧ d = .float k' b) ∨ (∃ k a a' k' b b', c = .complex k a a' ∧ d = .complex k' b b') := by
        cases c <;> cases d <;> first | exact .inl rfl | (refine .inr ?_; simp)
      rcases this with this | ⟨k, a1, k', b1, rfl, rfl⟩ | ⟨a1, b1, rfl, rfl⟩ | ⟨k, a1, k', b1, rfl, rfl⟩ | ⟨k, a1, a2, k', b1, b2, rfl, rfl⟩
      · rw [this, Sem.run_bind, h3]; rfl
      · exfalso; cases hx with | p hx => cases hx; cases hy with | p hy => cases hy; exact n1 _ _ _ _ rfl rfl
      · exfalso; cases hx with | p hx => cases hx; cases hy with | p hy => cases hy; exact n2 _ _ rfl rfl
      · exfalso; cases hx with | p hx => cases hx
      · exfalso; cases hx with | p hx => cases hx
    · cases h
  · cases h

theorem evNil_ok (hT : TYok P cx) {op : BinOp} {t : TypeId} {x : V} {y : Operand} {b : Bool} {c : Value} (h : evNil cx op t y x = some b) (hx : VR g x c) (a : Act) (X : Operand) (w : World) :
    ((do eqGuard op t X y c (a.eval y); binOp op t c (a.eval y) : Sem Value)).run P w = .ok (.bool b) w := by
  have key : ∀ (ad : Addr) (m k : Nat), c = .slice (some ad) m k → nilC y = true → isSlT cx t = true → ((op = .eql ∧ b = false) ∨ (op = .neq ∧ b = true)) → ((do eqGuard op t X y c (a.eval y); binOp op t c (a.eval y) : Sem Value)).run P w = .ok (.bool b) w := by
    intro ad m k hc hy ht hop
    have hyv : a.eval y = .slice none 0 0 := by
      unfold nilC at hy
      split at hy
      · rfl
      · cases hy
    unfold isSlT at ht
    split at ht
    · rename_i d hd
      split at ht
      · rename_i el hel
        have hu := hT.desc t d hd
        rw [hel] at hu
        rw [hyv, hc]
        have he : (Op.equal t (.slice (some ad) m k) (.slice none 0 0)).run P w = .ok false w := by
          unfold Op.equal
          show (Op.equalIn (9999 + 1) t _ _).run P w = _
          unfold Op.equalIn
          rw [Sem.run_bind, run_underlying hu]
          rfl
        rcases hop with ⟨rfl, rfl⟩ | ⟨rfl, rfl⟩
        · rw [Sem.run_bind, guard_plain (by simp) (by simp)]
          simp only [Result.andThen_ok]
          show (do pure (.bool (← Op.equal t (.slice (some ad) m k) (.slice none 0 0))) : Sem Value).run P w = _
          rw [Sem.run_bind, he]; rfl
        · rw [Sem.run_bind, guard_plain (by simp) (by simp)]
          simp only [Result.andThen_ok]
          show (do pure (.bool (!(← Op.equal t (.slice (some ad) m k) (.slice none 0 0)))) : Sem Value).run P w = _
          rw [Sem.run_bind, he]; rfl
      · cases ht
    · cases ht
  have hcond : nilC y = true ∧ isSlT cx t = true ∧ ((op = .eql ∧ b = false) ∨ (op = .neq ∧ b = true)) ∧ ∃ ad m k, c = .slice (some ad) m k := by
    unfold evNil at h
    split at h
    · rename_i z zs
      have hs : ∃ ad m k, c = .slice (some ad) m k := by
        have := hx.pp
        cases this with
        | sl us hs hi h1 hv hc => exact ⟨_, _, _, rfl⟩
      split at h
      · split at h
        · rename_i hb; cases h; simp only [Bool.and_eq_true] at hb; exact ⟨hb.1, hb.2, .inl ⟨rfl, rfl⟩, hs⟩
        · cases h
      · split at h
        · rename_i hb; cases h; simp only [Bool.and_eq_true] at hb; exact ⟨hb.1, hb.2, .inr ⟨rfl, rfl⟩, hs⟩
        · cases h
      · cases h
    · have hs : ∃ ad m k, c = .slice (some ad) m k := by
        cases hx with
        | own h hn => exact ⟨_, _, _, rfl⟩
      split at h
      · split at h
        · rename_i hb; cases h; simp only [Bool.and_eq_true] at hb; exact ⟨hb.1, hb.2, .inl ⟨rfl, rfl⟩, hs⟩
        · cases h
      · split at h
        · rename_i hb; cases h; simp only [Bool.and_eq_true] at hb; exact ⟨hb.1, hb.2, .inr ⟨rfl, rfl⟩, hs⟩
        · cases h
      · cases h
    · cases h
  obtain ⟨h1, h2, h3, ad, m, k, h4⟩ := hcond
  exact key ad m k h4 h1 h2 h3

end
end Go.Ev
