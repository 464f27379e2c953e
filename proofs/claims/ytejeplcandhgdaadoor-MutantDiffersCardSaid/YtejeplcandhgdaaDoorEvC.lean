/- Each operation of the machine does what 'evOp' says. Part 1: operands, reads, what only reckons. -/
import Derived.Test.YtejeplcandhgdaaDoorEvB
set_option linter.unusedVariables false
set_option linter.unusedSimpArgs false
namespace Go.Ev

theorem ofC_ok {v : Value} {x : PV} (im : Nat → Nat → Option Value) (h : ofC v = some x) : PR im x v := by
  unfold ofC at h
  split at h <;> first | (injection h with h; subst h; constructor) | cases h
theorem ofCs_ok (im : Nat → Nat → Option Value) : ∀ (l : List Value) (xs : List PV), ofCs l = some xs → l.length = xs.length ∧ ∀ i x, xs[i]? = some x → PR im x (l.getD i Go.undef)
  | [], xs, h => by simp [ofCs] at h; subst h; simp
  | v :: r, xs, h => by
    unfold ofCs at h
    split at h
    · rename_i x l h1 h2
      injection h with h; subst h
      obtain ⟨h3, h4⟩ := ofCs_ok im r l h2
      refine ⟨by simp [h3], fun i y hy => ?_⟩
      cases i with
      | zero => simp at hy; subst hy; simpa using ofC_ok im h1
      | succ i => simpa using h4 i y (by simpa using hy)
    · cases h
theorem ofConst_ok {v : Value} {x : PV} (im : Nat → Nat → Option Value) (h : ofConst v = some x) : PR im x v := by
  unfold ofConst at h
  split at h
  · rename_i cs
    split at h
    · rename_i l hl
      injection h with h; subst h
      obtain ⟨h1, h2⟩ := ofCs_ok im _ _ hl
      exact .agg (by simpa using h1) (fun i y hy => by simpa [Array.getD_eq_getD_getElem?] using h2 i y hy)
    · cases h
  · exact ofC_ok im h

section
variable {cx : Cx} {P : Program} {g : G} {H : Hp} {w : World} {e : Env} {a : Act}

theorem evx_ok (hr : Rel cx g H w) (he : EnvR g e a.tmps) {x : Operand} {v : V} (h : evx cx e x = some v) : VR g v (a.eval x) := by
  cases x with
  | tmp t => simp [evx, gtO_eq] at h; subst h; exact he.2 t
  | const c =>
    simp only [evx] at h
    split at h
    · rename_i y hy; injection h with h; subst h; exact .p (ofConst_ok _ hy)
    · cases h
  | global k =>
    simp only [evx] at h
    split at h
    · rename_i xs hx; injection h with h; subst h; exact .p (hr.gl k xs hx)
    · cases h
  | func f => simp [evx] at h; subst h; exact .p (.func rfl rfl (by simp) (by simp))

theorem evxs_ok (hr : Rel cx g H w) (he : EnvR g e a.tmps) : ∀ (l : List Operand) (vs : List V), evxs cx e l = some vs → l.length = vs.length ∧ ∀ i v, vs[i]? = some v → VR g v ((l.map a.eval).getD i Go.undef)
  | [], vs, h => by simp [evxs] at h; subst h; simp
  | x :: r, vs, h => by
    unfold evxs at h
    split at h
    · rename_i v l h1 h2
      injection h with h; subst h
      obtain ⟨h3, h4⟩ := evxs_ok hr he r l h2
      refine ⟨by simp [h3], fun i y hy => ?_⟩
      cases i with
      | zero => simp at hy; subst hy; simpa using evx_ok hr he h1
      | succ i => simpa using h4 i y (by simpa using hy)
    · cases h

theorem PR.cells {im : Nat → Nat → Option Value} {x : PV} {c : Value} (h : PR im x c) : c.cells.size = x.cells.length ∧ ∀ i y, x.cells[i]? = some y → PR im y (c.cells.getD i Go.undef) := by
  cases h with
  | agg hl h => exact ⟨hl, h⟩
  | undef => refine ⟨rfl, fun i y hy => ?_⟩; cases i <;> simp [PV.cells] at hy; subst hy; exact .undef
  | bool b => refine ⟨rfl, fun i y hy => ?_⟩; cases i <;> simp [PV.cells] at hy; subst hy; exact .bool b
  | int k n => refine ⟨rfl, fun i y hy => ?_⟩; cases i <;> simp [PV.cells] at hy; subst hy; exact .int k n
  | str s => refine ⟨rfl, fun i y hy => ?_⟩; cases i <;> simp [PV.cells] at hy; subst hy; exact .str s
  | tup hl h => refine ⟨rfl, fun i y hy => ?_⟩; cases i <;> simp [PV.cells] at hy; subst hy; exact .tup hl h
  | nils a => refine ⟨rfl, fun i y hy => ?_⟩; cases i <;> simp [PV.cells] at hy; subst hy; exact .nils a
  | sl0 a c => refine ⟨rfl, fun i y hy => ?_⟩; cases i <;> simp [PV.cells] at hy; subst hy; exact .sl0 a c
  | sl us a b c d f => refine ⟨rfl, fun i y hy => ?_⟩; cases i <;> simp [PV.cells] at hy; subst hy; exact .sl us a b c d f
  | sptr us a b c d => refine ⟨rfl, fun i y hy => ?_⟩; cases i <;> simp [PV.cells] at hy; subst hy; exact .sptr us a b c d
  | nilm => refine ⟨rfl, fun i y hy => ?_⟩; cases i <;> simp [PV.cells] at hy; subst hy; exact .nilm
  | nilp => refine ⟨rfl, fun i y hy => ?_⟩; cases i <;> simp [PV.cells] at hy; subst hy; exact .nilp
  | nilf => refine ⟨rfl, fun i y hy => ?_⟩; cases i <;> simp [PV.cells] at hy; subst hy; exact .nilf
  | nili => refine ⟨rfl, fun i y hy => ?_⟩; cases i <;> simp [PV.cells] at hy; subst hy; exact .nili
  | func a b c d => refine ⟨rfl, fun i y hy => ?_⟩; cases i <;> simp [PV.cells] at hy; subst hy; exact .func a b c d
  | iface h => refine ⟨rfl, fun i y hy => ?_⟩; cases i <;> simp [PV.cells] at hy; subst hy; exact .iface h

theorem VR.cells {v : V} {c : Value} (h : VR g v c) : c.cells.size = v.cells.length ∧ ∀ i y, v.cells[i]? = some y → VR g y (c.cells.getD i Go.undef) := by
  cases h with
  | p h =>
    obtain ⟨h1, h2⟩ := h.cells
    refine ⟨by simpa [V.cells] using h1, fun i y hy => ?_⟩
    simp only [V.cells, List.getElem?_map, Option.map_eq_some_iff] at hy
    obtain ⟨z, hz, rfl⟩ := hy
    exact .p (h2 i z hz)
  | agg hl h => exact ⟨hl, h⟩
  | tup hl h => refine ⟨rfl, fun i y hy => ?_⟩; cases i <;> simp [V.cells] at hy; subst hy; exact .tup hl h
  | own a b => refine ⟨rfl, fun i y hy => ?_⟩; cases i <;> simp [V.cells] at hy; subst hy; exact .own a b
  | ref a => refine ⟨rfl, fun i y hy => ?_⟩; cases i <;> simp [V.cells] at hy; subst hy; exact .ref a
  | optr a => refine ⟨rfl, fun i y hy => ?_⟩; cases i <;> simp [V.cells] at hy; subst hy; exact .optr a
  | func a b c d => refine ⟨rfl, fun i y hy => ?_⟩; cases i <;> simp [V.cells] at hy; subst hy; exact .func a b c d
  | map a => refine ⟨rfl, fun i y hy => ?_⟩; cases i <;> simp [V.cells] at hy; subst hy; exact .map a
  | iface a => refine ⟨rfl, fun i y hy => ?_⟩; cases i <;> simp [V.cells] at hy; subst hy; exact .iface a
  | yield a => refine ⟨rfl, fun i y hy => ?_⟩; cases i <;> simp [V.cells] at hy; subst hy; exact .yield a

theorem allP_ok : ∀ (l : List V) (xs : List PV), allP l = some xs → l = xs.map .p
  | [], xs, h => by simp [allP] at h; subst h; rfl
  | .p x :: r, xs, h => by
    unfold allP at h
    split at h
    · rename_i l hl; injection h with h; subst h; simp [allP_ok r l hl]
    · cases h
  | .agg _ :: _, _, h => by simp [allP] at h
  | .tup _ :: _, _, h => by simp [allP] at h
  | .own _ _ _ :: _, _, h => by simp [allP] at h
  | .ref _ _ :: _, _, h => by simp [allP] at h
  | .optr _ _ _ :: _, _, h => by simp [allP] at h
  | .func _ _ _ :: _, _, h => by simp [allP] at h
  | .map _ :: _, _, h => by simp [allP] at h
  | .iface _ _ :: _, _, h => by simp [allP] at h
  | .yield _ :: _, _, h => by simp [allP] at h

theorem VR.pp {x : PV} {c : Value} (h : VR g (.p x) c) : PR g.im x c := by cases h; assumption

theorem mkAgg_ok {cs : List V} {l : Array Value} (hl : l.size = cs.length) (h : ∀ i x, cs[i]? = some x → VR g x (l.getD i Go.undef)) : VR g (mkAgg cs) (.agg l) := by
  unfold mkAgg
  split
  · rename_i xs hx
    have := allP_ok _ _ hx
    subst this
    exact .p (.agg (by simpa using hl) (fun i x hx => (h i (.p x) (by simp [hx])).pp))
  · exact .agg hl h
theorem mkTup_ok {cs : List V} {l : Array Value} (hl : l.size = cs.length) (h : ∀ i x, cs[i]? = some x → VR g x (l.getD i Go.undef)) : VR g (mkTup cs) (.tuple l) := by
  unfold mkTup
  split
  · rename_i xs hx
    have := allP_ok _ _ hx
    subst this
    exact .p (.tup (by simpa using hl) (fun i x hx => (h i (.p x) (by simp [hx])).pp))
  · exact .tup hl h

theorem cut_ok {α : Type} {xs l : List α} {i n : Nat} (h : cut xs i n = some l) : l.length = n ∧ i + n ≤ xs.length ∧ ∀ j, j < n → l[j]? = xs[i + j]? := by
  unfold cut at h
  split at h
  · injection h with h; subst h
    refine ⟨by simp; omega, by assumption, fun j hj => ?_⟩
    simp [List.getElem?_take, hj]
  · cases h

/-- What 'readAt' reads lies in memory. -/
theorem readAt_ok (hr : Rel cx g H w) {p : V} {c : Value} (hp : VR g p c) {n : Nat} {vs : List V} (h : readAt H p n = some vs) :
    ∃ b o, c = .pointer (some ⟨b, o, none⟩) ∧ vs.length = n ∧ ∃ us : List Value, us.length = n ∧ w.rangeAt b o us ∧ ∀ j v, vs[j]? = some v → VR g v (us.getD j Go.undef) := by
  cases p with
  | ref id off =>
    cases hp with
    | ref hl =>
      rename_i l
      simp only [readAt] at h
      split at h
      · rename_i cs hcs
        obtain ⟨h1, h2, h3⟩ := cut_ok h
        have ho := hr.obj id l hl
        rw [hcs] at ho
        obtain ⟨us, ty, hb, hs, hv⟩ := ho
        refine ⟨l.b, off, rfl, h1, (List.range n).map fun j => us.getD (off + j) Go.undef, by simp, ?_, ?_⟩
        · intro j v hj
          simp only [List.getElem?_map, Option.map_eq_some_iff, List.getElem?_range'] at hj
          obtain ⟨k, hk, rfl⟩ := hj
          obtain ⟨hk1, rfl⟩ := List.getElem?_eq_some_iff.1 hk
          simp at hk1
          have : off + j < us.size := by omega
          simp [World.cell?, hb, this]
        · intro j v hj
          have hjn : j < n := by
            have := (List.getElem?_eq_some_iff.1 hj).1; omega
          rw [h3 j hjn] at hj
          have := hv _ _ hj
          simpa [List.getD, hjn] using this
      · cases h
  | p x =>
    cases x with
    | sptr xs i f =>
      have hp := hp.pp
      cases hp with
      | sptr us hs hi h1 hv =>
        rename_i b o sz
        simp only [readAt, rdl] at h
        split at h
        · rename_i x hx
          split at h
          · rename_i l hl
            injection h with h; subst h
            obtain ⟨k1, k2, k3⟩ := cut_ok hl
            have hil : i < xs.length := (List.getElem?_eq_some_iff.1 hx).1
            have hsz := hs i x hx
            refine ⟨b, o + i * sz + f, rfl, by simp [k1], (List.range n).map fun j => us i (f + j), by simp, ?_, ?_⟩
            · intro j v hj
              simp only [List.getElem?_map, Option.map_eq_some_iff] at hj
              obtain ⟨k, hk, rfl⟩ := hj
              obtain ⟨hk1, rfl⟩ := List.getElem?_eq_some_iff.1 hk
              simp at hk1
              have := hr.im _ _ _ (hi i (f + j) hil (by omega))
              simp only [List.getElem_range]
              rw [← this]
              congr 2
              omega
            · intro j v hj
              simp only [List.getElem?_map, Option.map_eq_some_iff] at hj
              obtain ⟨y, hy, rfl⟩ := hj
              have hjn : j < n := by
                have := (List.getElem?_eq_some_iff.1 hy).1; omega
              rw [k3 j hjn] at hy
              simpa [List.getD, hjn] using VR.p (hv i x _ y hx hy)
          · cases h
        · cases h
    | _ => simp [readAt] at h
  | optr id i f =>
    cases hp with
    | optr hl =>
      rename_i l
      simp only [readAt, rdl] at h
      have ho := hr.obj id l hl
      split at h
      · rename_i xs hx'
        rw [hx'] at ho
        obtain ⟨us, hb, hs, hlen, hmax, hsz, h1, hv⟩ := ho
        split at h
        · rename_i x hx
          split at h
          · rename_i cs hcs
            injection h with h; subst h
            obtain ⟨k1, k2, k3⟩ := cut_ok hcs
            have hil : i < xs.length := (List.getElem?_eq_some_iff.1 hx).1
            have hxs := hsz i x hx
            have hmul : i * l.sz + l.sz ≤ l.cap * l.sz := by
              have : (i + 1) * l.sz ≤ l.cap * l.sz := Nat.mul_le_mul_right _ (by omega)
              rwa [Nat.add_mul, Nat.one_mul] at this
            refine ⟨l.b, i * l.sz + f, rfl, by simp [k1], (List.range n).map fun j => us.getD (i * l.sz + (f + j)) Go.undef, by simp, ?_, ?_⟩
            · intro j v hj
              simp only [List.getElem?_map, Option.map_eq_some_iff] at hj
              obtain ⟨k, hk, rfl⟩ := hj
              obtain ⟨hk1, rfl⟩ := List.getElem?_eq_some_iff.1 hk
              simp at hk1
              have hlt : i * l.sz + (f + j) < us.size := by omega
              simp only [List.getElem_range]
              rw [show i * l.sz + f + j = i * l.sz + (f + j) by omega]
              simp [World.cell?, hb, hlt]
            · intro j v hj
              simp only [List.getElem?_map, Option.map_eq_some_iff] at hj
              obtain ⟨y, hy, rfl⟩ := hj
              have hjn : j < n := by
                have := (List.getElem?_eq_some_iff.1 hy).1; omega
              rw [k3 j hjn] at hy
              simpa [List.getD, hjn] using VR.p (hv i x _ y hx hy)
          · cases h
        · cases h
      · rename_i xs hx'
        rw [hx'] at ho
        obtain ⟨hlen, us, hsz, hi, h1, hv⟩ := ho
        split at h
        · rename_i x hx
          split at h
          · rename_i cs hcs
            injection h with h; subst h
            obtain ⟨k1, k2, k3⟩ := cut_ok hcs
            have hil : i < xs.length := (List.getElem?_eq_some_iff.1 hx).1
            have hxs := hsz i x hx
            refine ⟨l.b, i * l.sz + f, rfl, by simp [k1], (List.range n).map fun j => us i (f + j), by simp, ?_, ?_⟩
            · intro j v hj
              simp only [List.getElem?_map, Option.map_eq_some_iff] at hj
              obtain ⟨k, hk, rfl⟩ := hj
              obtain ⟨hk1, rfl⟩ := List.getElem?_eq_some_iff.1 hk
              simp at hk1
              have := hr.im _ _ _ (hi i (f + j) hil (by omega))
              simp only [List.getElem_range]
              rw [← this]
              congr 2
              omega
            · intro j v hj
              simp only [List.getElem?_map, Option.map_eq_some_iff] at hj
              obtain ⟨y, hy, rfl⟩ := hj
              have hjn : j < n := by
                have := (List.getElem?_eq_some_iff.1 hy).1; omega
              rw [k3 j hjn] at hy
              simpa [List.getD, hjn] using VR.p (hv i x _ y hx hy)
          · cases h
        · cases h
      · rename_i xs hx'
        rw [hx'] at ho
        obtain ⟨hsz, us, hb, hs, hcap, hv⟩ := ho
        split at h
        · rename_i hfn
          obtain ⟨rfl, rfl⟩ := hfn
          split at h
          · rename_i x hx
            injection h with h; subst h
            have hil : i < xs.length := (List.getElem?_eq_some_iff.1 hx).1
            refine ⟨l.b, i * l.sz + 0, rfl, rfl, [us.getD i Go.undef], rfl, ?_, ?_⟩
            · intro j v hj
              cases j with
              | zero =>
                simp at hj; subst hj
                have : i < us.size := by omega
                simp [World.cell?, hb, hsz, this]
              | succ j => simp at hj
            · intro j v hj
              cases j with
              | zero => simp at hj; subst hj; simpa using hv i _ hx
              | succ j => simp at hj
          · cases h
        · cases h
      · cases h
  | _ => simp [readAt] at h

end
end Go.Ev
