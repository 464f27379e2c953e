/- How abstract values and heaps stand for those of the machine ('PR', 'VR', 'Rel'), and what a step keeps ('St'). -/
import Derived.Test.YtejeplcandhgdaaDoorEvA
import Derived.Deep.MidRow
set_option linter.unusedVariables false
set_option linter.unusedSimpArgs false
namespace Go.Ev

structure Loc where
  b : Nat
  sz : Nat
  cap : Nat
  ty : TypeId
structure G where
  im : Nat → Nat → Option Value
  loc : Nat → Option Loc

/-- Elements lie in memory that is read alone. -/
inductive PR (im : Nat → Nat → Option Value) : PV → Value → Prop
  | undef : PR im .undef Go.undef
  | bool (b : Bool) : PR im (.bool b) (.bool b)
  | int (k : IntKind) (n : Int) : PR im (.int k n) (.int k n)
  | str (s : ByteArray) : PR im (.str s) (.string s)
  | agg {cs : List PV} {l : Array Value} (hl : l.size = cs.length) (h : ∀ i x, cs[i]? = some x → PR im x (l.getD i Go.undef)) : PR im (.agg cs) (.agg l)
  | tup {cs : List PV} {l : Array Value} (hl : l.size = cs.length) (h : ∀ i x, cs[i]? = some x → PR im x (l.getD i Go.undef)) : PR im (.tup cs) (.tuple l)
  | nils (a : Option Addr) : PR im .nils (.slice a 0 0)
  | sl0 (a : Option Addr) (c : Nat) : PR im (.sl []) (.slice a 0 c)
  | sl {xs : List PV} {b o sz cap : Nat} (us : Nat → Nat → Value) (hs : ∀ (i : Nat) (x : PV), xs[i]? = some x → x.cells.length = sz)
      (hi : ∀ i f, i < xs.length → f < sz → im b (o + i * sz + f) = some (us i f)) (h1 : ∀ i f, i < xs.length → f < sz → (us i f).oneCell' = true)
      (hv : ∀ (i : Nat) (x : PV) (f : Nat) (y : PV), xs[i]? = some x → x.cells[f]? = some y → PR im y (us i f)) (hc : xs.length ≤ cap) : PR im (.sl xs) (.slice (some ⟨b, o, none⟩) xs.length cap)
  | sptr {xs : List PV} {i f b o sz : Nat} (us : Nat → Nat → Value) (hs : ∀ (i : Nat) (x : PV), xs[i]? = some x → x.cells.length = sz)
      (hi : ∀ i f, i < xs.length → f < sz → im b (o + i * sz + f) = some (us i f)) (h1 : ∀ i f, i < xs.length → f < sz → (us i f).oneCell' = true)
      (hv : ∀ (i : Nat) (x : PV) (f : Nat) (y : PV), xs[i]? = some x → x.cells[f]? = some y → PR im y (us i f)) : PR im (.sptr xs i f) (.pointer (some ⟨b, o + i * sz + f, none⟩))
  | nilp : PR im .nilp (.pointer none)
  | nilm : PR im .nilm (.map none)
  | nilf : PR im .nilf .nilFunc
  | nili : PR im .nili .nilIface
  | func {f : FuncId} {a b : List PV} {A B : Array Value} (ha : A.size = a.length) (hb : B.size = b.length) (h : ∀ i x, a[i]? = some x → PR im x (A.getD i Go.undef))
      (h' : ∀ i x, b[i]? = some x → PR im x (B.getD i Go.undef)) : PR im (.func f a b) (.func (.func f) A B)
  | iface {t : TypeId} {v : PV} {c : Value} (h : PR im v c) : PR im (.iface t v) (.iface t c)

inductive VR (g : G) : V → Value → Prop
  | p {x : PV} {c : Value} (h : PR g.im x c) : VR g (.p x) c
  | agg {cs : List V} {l : Array Value} (hl : l.size = cs.length) (h : ∀ i x, cs[i]? = some x → VR g x (l.getD i Go.undef)) : VR g (.agg cs) (.agg l)
  | tup {cs : List V} {l : Array Value} (hl : l.size = cs.length) (h : ∀ i x, cs[i]? = some x → VR g x (l.getD i Go.undef)) : VR g (.tup cs) (.tuple l)
  | own {id off n : Nat} {l : Loc} (h : g.loc id = some l) (hn : off + n ≤ l.cap) : VR g (.own id off n) (.slice (some ⟨l.b, off * l.sz, none⟩) n (l.cap - off))
  | ref {id off : Nat} {l : Loc} (h : g.loc id = some l) : VR g (.ref id off) (.pointer (some ⟨l.b, off, none⟩))
  | optr {id i f : Nat} {l : Loc} (h : g.loc id = some l) : VR g (.optr id i f) (.pointer (some ⟨l.b, i * l.sz + f, none⟩))
  | func {f : FuncId} {a b : List V} {A B : Array Value} (ha : A.size = a.length) (hb : B.size = b.length) (h : ∀ i x, a[i]? = some x → VR g x (A.getD i Go.undef))
      (h' : ∀ i x, b[i]? = some x → VR g x (B.getD i Go.undef)) : VR g (.func f a b) (.func (.func f) A B)
  | map {id : Nat} {l : Loc} (h : g.loc id = some l) : VR g (.map id) (.map (some l.b))
  | yield {id : Nat} {l : Loc} (h : g.loc id = some l) : VR g (.yield id) (.func (.yield l.b) #[] #[])
  | iface {t : TypeId} {v : V} {c : Value} (h : VR g v c) : VR g (.iface t v) (.iface t c)

structure G.le (g g' : G) : Prop where
  im : ∀ b o u, g.im b o = some u → g'.im b o = some u
  loc : ∀ i l, g.loc i = some l → g'.loc i = some l
theorem G.le.refl (g : G) : g.le g := ⟨fun _ _ _ h => h, fun _ _ h => h⟩
theorem G.le.trans {a b c : G} (h : a.le b) (k : b.le c) : a.le c := ⟨fun _ _ _ x => k.im _ _ _ (h.im _ _ _ x), fun _ _ x => k.loc _ _ (h.loc _ _ x)⟩

theorem PR.mono {im im' : Nat → Nat → Option Value} (hm : ∀ b o u, im b o = some u → im' b o = some u) {x : PV} {c : Value} (h : PR im x c) : PR im' x c := by
  induction h with
  | undef => exact .undef
  | bool b => exact .bool b
  | int k n => exact .int k n
  | str s => exact .str s
  | agg hl _ ih => exact .agg hl ih
  | tup hl _ ih => exact .tup hl ih
  | nils a => exact .nils a
  | sl0 a c => exact .sl0 a c
  | sl us hs hi h1 _ hc ih => exact .sl us hs (fun i f a b => hm _ _ _ (hi i f a b)) h1 ih hc
  | sptr us hs hi h1 _ ih => exact .sptr us hs (fun i f a b => hm _ _ _ (hi i f a b)) h1 ih
  | nilp => exact .nilp
  | nilm => exact .nilm
  | nilf => exact .nilf
  | nili => exact .nili
  | func ha hb _ _ i1 i2 => exact .func ha hb i1 i2
  | iface _ ih => exact .iface ih
theorem PR.nrm {im : Nat → Nat → Option Value} {x : PV} {c : Value} (h : PR im x c) : PR im (nrm x) c := by
  induction h with
  | undef => exact .undef
  | bool b => exact .bool b
  | int k n => exact .int k n
  | str s => exact .str s
  | agg hl h ih =>
    refine .agg (by rw [nrmL_eq]; simpa using hl) (fun i x hx => ?_)
    rw [nrmL_eq, List.getElem?_map] at hx
    obtain ⟨y, hy, rfl⟩ := Option.map_eq_some_iff.1 hx
    exact ih i y hy
  | tup hl h ih =>
    refine .tup (by rw [nrmL_eq]; simpa using hl) (fun i x hx => ?_)
    rw [nrmL_eq, List.getElem?_map] at hx
    obtain ⟨y, hy, rfl⟩ := Option.map_eq_some_iff.1 hx
    exact ih i y hy
  | nils a => exact .sl0 a 0
  | sl0 a c => exact .sl0 a c
  | sl us hs hi h1 hv hc ih =>
    rename_i xs b o sz cap
    have hl : (nrmL xs).length = xs.length := by rw [nrmL_eq]; simp
    have key : ∀ (i : Nat) (x : PV), (nrmL xs)[i]? = some x → ∃ y, xs[i]? = some y ∧ x = Ev.nrm y := by
      intro i x hx
      rw [nrmL_eq, List.getElem?_map] at hx
      obtain ⟨y, hy, rfl⟩ := Option.map_eq_some_iff.1 hx
      exact ⟨y, hy, rfl⟩
    have := PR.sl (im := im) (xs := nrmL xs) (b := b) (o := o) (sz := sz) (cap := cap) us (fun i x hx => by
        obtain ⟨y, hy, rfl⟩ := key i x hx
        rw [cells_nrm, nrmL_eq, List.length_map]; exact hs i y hy) (fun i f a b => hi i f (by rwa [hl] at a) b) (fun i f a b => h1 i f (by rwa [hl] at a) b) (fun i x f z hx hz => by
        obtain ⟨y, hy, rfl⟩ := key i x hx
        rw [cells_nrm, nrmL_eq, List.getElem?_map] at hz
        obtain ⟨u, hu, rfl⟩ := Option.map_eq_some_iff.1 hz
        exact ih i y f u hy hu) (by rw [hl]; exact hc)
    rw [hl] at this
    exact this
  | sptr us hs hi h1 h _ => exact .sptr us hs hi h1 h
  | nilp => exact .nilp
  | nilm => exact .nilm
  | nilf => exact .nilf
  | nili => exact .nili
  | func ha hb h h' _ _ => exact .func ha hb h h'
  | iface _ ih => exact .iface ih
theorem VR.mono {g g' : G} (hg : g.le g') {x : V} {c : Value} (h : VR g x c) : VR g' x c := by
  induction h with
  | p h => exact .p (h.mono hg.im)
  | agg hl _ ih => exact .agg hl ih
  | tup hl _ ih => exact .tup hl ih
  | own h hn => exact .own (hg.loc _ _ h) hn
  | ref h => exact .ref (hg.loc _ _ h)
  | optr h => exact .optr (hg.loc _ _ h)
  | func ha hb _ _ i1 i2 => exact .func ha hb i1 i2
  | map h => exact .map (hg.loc _ _ h)
  | yield h => exact .yield (hg.loc _ _ h)
  | iface _ ih => exact .iface ih

theorem PR.one {im : Nat → Nat → Option Value} {x : PV} {c : Value} (h : PR im x c) (hx : x.cell = true) : c.oneCell' = true := by
  cases h <;> simp_all [PV.cell, Value.oneCell']
theorem VR.one {g : G} {x : V} {c : Value} (h : VR g x c) (hx : x.cell = true) : c.oneCell' = true := by
  cases h with
  | p h => exact h.one hx
  | _ => simp_all [V.cell, Value.oneCell']

def O.mu : O → Bool
  | .gone | .fro _ => false
  | _ => true

/-- An object of the abstract heap, where it lies. -/
def ObjR (g : G) (w : World) (l : Loc) : O → Prop
  | .gone => True
  | .ref cs => ∃ us ty, w.heap[l.b]? = some (.cells us ty (0, 0)) ∧ us.size = cs.length ∧ ∀ i x, cs[i]? = some x → VR g x (us.getD i Go.undef)
  | .own xs => ∃ us, w.heap[l.b]? = some (.cells us l.ty (0, 0)) ∧ us.size = l.cap * l.sz ∧ xs.length ≤ l.cap ∧ l.cap ≤ maxLen ∧ (∀ (i : Nat) (x : PV), xs[i]? = some x → x.cells.length = l.sz) ∧
      (∀ i f, i < xs.length → f < l.sz → (us.getD (i * l.sz + f) Go.undef).oneCell' = true) ∧
      ∀ (i : Nat) (x : PV) (f : Nat) (y : PV), xs[i]? = some x → x.cells[f]? = some y → PR g.im y (us.getD (i * l.sz + f) Go.undef)
  | .fro xs => xs.length ≤ l.cap ∧ ∃ us : Nat → Nat → Value, (∀ (i : Nat) (x : PV), xs[i]? = some x → x.cells.length = l.sz) ∧ (∀ i f, i < xs.length → f < l.sz → g.im l.b (i * l.sz + f) = some (us i f)) ∧
      (∀ i f, i < xs.length → f < l.sz → (us i f).oneCell' = true) ∧ ∀ (i : Nat) (x : PV) (f : Nat) (y : PV), xs[i]? = some x → x.cells[f]? = some y → PR g.im y (us i f)
  | .vec xs => l.sz = 1 ∧ ∃ us, w.heap[l.b]? = some (.cells us l.ty (0, 0)) ∧ us.size = xs.length ∧ l.cap = xs.length ∧ ∀ i x, xs[i]? = some x → VR g x (us.getD i Go.undef)
  | .map kv => ∃ es clock, w.heap[l.b]? = some (.map es clock) ∧ es.size = kv.length ∧ ∀ (i : Nat) (k : PV) (v : V), kv[i]? = some (k, v) → ∃ e : MapEntry, es[i]? = some e ∧ PR g.im k e.key ∧ VR g v e.val
  | .loop env ps assign body st pend => ∃ r : Loop, w.heap[l.b]? = some (.loop r) ∧ r.state = st ∧ r.pending = pend ∧ r.params = ps.toArray ∧ r.assign = assign ∧ r.body = body ∧ r.tmps.size = env.length ∧ ∀ i, VR g (gt env i) (r.tmps.getD i Go.undef)

theorem ObjR.keep {g g' : G} {w w' : World} {l : Loc} {o : O} (h : ObjR g w l o) (hg : g.le g') (hw : o.mu = true → w'.heap[l.b]? = w.heap[l.b]?) : ObjR g' w' l o := by
  cases o with
  | gone => simp only [ObjR]
  | ref cs => obtain ⟨us, ty, h1, h2, h3⟩ := h; exact ⟨us, ty, (hw rfl).trans h1, h2, fun i x hx => (h3 i x hx).mono hg⟩
  | own xs => obtain ⟨us, h1, h2, h3, h4, h5, h6, h7⟩ := h; exact ⟨us, (hw rfl).trans h1, h2, h3, h4, h5, h6, fun i x f y a b => (h7 i x f y a b).mono hg.im⟩
  | fro xs => obtain ⟨h0, us, h1, h2, h3, h4⟩ := h; exact ⟨h0, us, h1, fun i f a b => hg.im _ _ _ (h2 i f a b), h3, fun i x f y a b => (h4 i x f y a b).mono hg.im⟩
  | vec xs => obtain ⟨h0, us, h1, h2, h3, h4⟩ := h; exact ⟨h0, us, (hw rfl).trans h1, h2, h3, fun i x hx => (h4 i x hx).mono hg⟩
  | map kv => obtain ⟨es, clock, h1, h2, h3⟩ := h; exact ⟨es, clock, (hw rfl).trans h1, h2, fun i k v hkv => by obtain ⟨e, he, hk, hv⟩ := h3 i k v hkv; exact ⟨e, he, hk.mono hg.im, hv.mono hg⟩⟩
  | loop env ps assign body st pend => obtain ⟨r, h1, h2, h3, h4, h5, h6, h7, h8⟩ := h; exact ⟨r, (hw rfl).trans h1, h2, h3, h4, h5, h6, h7, fun i => (h8 i).mono hg⟩

section
variable (cx : Cx)
structure Rel (g : G) (H : Hp) (w : World) : Prop where
  im : ∀ b o u, g.im b o = some u → w.cell? ⟨b, o, none⟩ = some u
  gl : ∀ k xs, cx.gl k = some xs → PR g.im (.sptr xs 0 0) (.pointer (some ⟨k, 0, none⟩))
  obj : ∀ id l, g.loc id = some l → ObjR g w l (H.obj id)
  dis : ∀ i j l l', (H.obj i).mu = true → (H.obj j).mu = true → g.loc i = some l → g.loc j = some l' → l.b = l'.b → i = j
  dim : ∀ i l o, (H.obj i).mu = true → g.loc i = some l → g.im l.b o = none
  lt : ∀ i l, g.loc i = some l → l.b < w.heap.size
structure Hok (H : Hp) : Prop where
  gone : ∀ id, H.next ≤ id → H.obj id = .gone
  low : H.low ≤ H.next
def Free (g : G) (H H' : Hp) : Prop := ∀ id, H.next ≤ id → id < H'.next → g.loc id = none
/-- The blocks that may be written. -/
def Wr (g : G) (H : Hp) (k : Nat) : Prop := ∃ id l, H.low ≤ id ∧ (H.obj id).mu = true ∧ g.loc id = some l ∧ l.b = k
structure St (g : G) (H : Hp) (w : World) (g' : G) (H' : Hp) (w' : World) : Prop where
  rel : Rel cx g' H' w'
  ok : Hok H'
  im : ∀ b o u, g.im b o = some u → g'.im b o = some u
  loc : ∀ id, (id < H.next ∨ H'.next ≤ id) → g'.loc id = g.loc id
  next : H.next ≤ H'.next
  low : H'.low = H.low
  old : ∀ id, id < H.low → H'.obj id = H.obj id
  mu : ∀ id, id < H.next → (H'.obj id).mu = true → (H.obj id).mu = true
  os : w'.os = w.os
  tape : w'.tape = w.tape
  output : w'.output = w.output
  size : w.heap.size ≤ w'.heap.size
  blocks : ∀ k, k < w.heap.size → ¬ Wr g H k → w'.heap[k]? = w.heap[k]?
  newb : ∀ id l, H.low ≤ id → (H'.obj id).mu = true → g'.loc id = some l → l.b < w.heap.size → Wr g H l.b
  newim : ∀ b o, g'.im b o ≠ none → g.im b o = none → b < w.heap.size → Wr g H b

variable {cx}
theorem St.le {g : G} {H : Hp} {w : World} {g' : G} {H' : Hp} {w' : World} (h : St cx g H w g' H' w') (hf : Free g H H') : g.le g' :=
  ⟨h.im, fun i l hl => by
    by_cases hi : i < H.next ∨ H'.next ≤ i
    · rw [h.loc i hi]; exact hl
    · have := hf i (by omega) (by omega)
      rw [this] at hl; cases hl⟩
theorem St.refl {g : G} {H : Hp} {w : World} (hr : Rel cx g H w) (ho : Hok H) : St cx g H w g H w where
  rel := hr
  ok := ho
  im := fun _ _ _ h => h
  loc := fun _ _ => rfl
  next := Nat.le_refl _
  low := rfl
  old := fun _ _ => rfl
  mu := fun _ _ h => h
  os := rfl
  tape := rfl
  output := rfl
  size := Nat.le_refl _
  blocks := fun _ _ _ => rfl
  newb := fun id l h1 h2 h3 _ => ⟨id, l, h1, h2, h3, rfl⟩
  newim := fun b o h1 h2 _ => absurd h2 h1
theorem St.trans {g0 g1 g2 : G} {H0 H1 H2 : Hp} {w0 w1 w2 : World} (h : St cx g0 H0 w0 g1 H1 w1) (k : St cx g1 H1 w1 g2 H2 w2) : St cx g0 H0 w0 g2 H2 w2 where
  rel := k.rel
  ok := k.ok
  im := fun b o u x => k.im b o u (h.im b o u x)
  loc := fun id hid => by
    have := h.next; have := k.next
    rw [k.loc id (by omega), h.loc id (by omega)]
  next := Nat.le_trans h.next k.next
  low := k.low.trans h.low
  old := fun id hid => (k.old id (by rw [h.low]; exact hid)).trans (h.old id hid)
  mu := fun id hid hm => h.mu id hid (k.mu id (Nat.lt_of_lt_of_le hid h.next) hm)
  os := k.os.trans h.os
  tape := k.tape.trans h.tape
  output := k.output.trans h.output
  size := Nat.le_trans h.size k.size
  blocks := fun b hb hn => by
    refine (k.blocks b (Nat.lt_of_lt_of_le hb h.size) ?_).trans (h.blocks b hb hn)
    rintro ⟨id, l, h1, h2, h3, rfl⟩
    exact hn (h.newb id l (by rw [← h.low]; exact h1) h2 h3 hb)
  newb := fun id l h1 h2 h3 hb => by
    obtain ⟨id', l', a1, a2, a3, a4⟩ := k.newb id l (by rw [h.low]; exact h1) h2 h3 (Nat.lt_of_lt_of_le hb h.size)
    rw [← a4]
    exact h.newb id' l' (by rw [← h.low]; exact a1) a2 a3 (by rw [a4]; exact hb)
  newim := fun b o h1 h2 hb => by
    by_cases hm : g1.im b o = none
    · obtain ⟨id', l', a1, a2, a3, rfl⟩ := k.newim b o h1 hm (Nat.lt_of_lt_of_le hb h.size)
      exact h.newb id' l' (by rw [← h.low]; exact a1) a2 a3 hb
    · exact h.newim b o hm h2 hb
theorem Free.left {g : G} {H0 H1 H2 : Hp} (h : Free g H0 H2) (k : H1.next ≤ H2.next) : Free g H0 H1 := fun id a b => h id a (by omega)
theorem St.free {g0 g1 : G} {H0 H1 H2 : Hp} {w0 w1 : World} (h : St cx g0 H0 w0 g1 H1 w1) (hf : Free g0 H0 H2) : Free g1 H1 H2 := fun id a b => by
  rw [h.loc id (.inr a)]
  exact hf id (Nat.le_trans h.next a) b
end

/-- The temporaries. -/
def EnvR (g : G) (e : Env) (t : Array Value) : Prop := t.size = e.length ∧ ∀ i, VR g (gt e i) (t.getD i Go.undef)
theorem EnvR.mono {g g' : G} (hg : g.le g') {e : Env} {t : Array Value} (h : EnvR g e t) : EnvR g' e t := ⟨h.1, fun i => (h.2 i).mono hg⟩
theorem gt_st (e : Env) (d i : Nat) (v : V) : gt (st e d v) i = if i = d ∧ d < e.length then v else gt e i := by
  induction e generalizing d i with
  | nil => simp [st, gt]
  | cons x r ih =>
    cases d with
    | zero => cases i <;> simp [st, gt]
    | succ d => cases i with
      | zero => simp [st, gt]
      | succ i => simp [st, gt, ih]
theorem length_st (e : Env) (d : Nat) (v : V) : (st e d v).length = e.length := by
  induction e generalizing d with
  | nil => rfl
  | cons x r ih => cases d <;> simp [st, ih]
theorem EnvR.put {g : G} {e : Env} {a : Act} (h : EnvR g e a.tmps) (d : Option Tmp) {v : V} {c : Value} (hv : VR g v c) : EnvR g (putD e d v) (a.put d c).tmps := by
  cases d with
  | none => exact h
  | some d =>
    refine ⟨by simp [putD, Act.put, length_st, h.1], fun i => ?_⟩
    simp only [putD, Act.put, gt_st]
    by_cases hi : i = d ∧ d < e.length
    · obtain ⟨rfl, hd⟩ := hi
      rw [if_pos ⟨rfl, hd⟩]
      have : i < a.tmps.size := by rw [h.1]; exact hd
      simpa [Array.getD_eq_getD_getElem?, Array.getElem?_setIfInBounds, this] using hv
    · rw [if_neg hi]
      have hh := h.2 i
      rw [Array.getD_eq_getD_getElem?] at hh
      rw [Array.getD_eq_getD_getElem?, Array.getElem?_setIfInBounds]
      by_cases hdi : d = i
      · subst hdi
        have hd : ¬ d < a.tmps.size := fun hd => hi ⟨rfl, by rw [← h.1]; exact hd⟩
        rw [if_pos rfl, if_neg hd]
        rw [Array.getElem?_eq_none (xs := a.tmps) (i := d) (Nat.le_of_not_lt hd)] at hh
        exact hh
      · rw [if_neg hdi]
        exact hh
@[simp] theorem put_defers (a : Act) (d : Option Tmp) (c : Value) : (a.put d c).defers = a.defers := by cases d <;> rfl

end Go.Ev
