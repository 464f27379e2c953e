/- From the reading of an argument as data to the abstract value that stands for it. -/
import Derived.Test.YtejeplcandhgdaaDoorKf
import Derived.WalkKit
import Derived.ProofKit
import Derived.OpenShut
import Derived.ChangeBook
import Derived.ChangeStays
set_option linter.unusedVariables false
set_option linter.unusedSimpArgs false
namespace Go.Ev
open Go.WideShapes Go.ChangeShapes

/-- Shapes of data. -/
inductive Sh where
  | int (k : IntKind)
  | bool
  | str
  | sl (s : Sh)
  | agg (ss : List Sh)
inductive ShT (P : Program) : TypeId → Sh → Prop
  | int {t : TypeId} {k : IntKind} (h : P.underlying t = some (.int k)) : ShT P t (.int k)
  | bool {t : TypeId} (h : P.underlying t = some .bool) : ShT P t .bool
  | str {t : TypeId} (h : P.underlying t = some .string) : ShT P t .str
  | sl {t e : TypeId} {s : Sh} (h : P.underlying t = some (.slice e)) (hs : ShT P e s) : ShT P t (.sl s)
  | agg {t : TypeId} {fs : Array Field} {ss : List Sh} (h : P.underlying t = some (.struct fs)) (hl : fs.size = ss.length) (hs : ∀ (i : Nat) (f : Field) (s : Sh), fs[i]? = some f → ss[i]? = some s → ShT P f.type s) : ShT P t (.agg ss)
def wrapV : Sh → List PV → PV
  | .agg _, l => .agg l
  | _, l => l.headD .undef
inductive Fits : Sh → List PV → Prop
  | int (k : IntKind) (n : Int) : Fits (.int k) [.int k n]
  | bool (b : Bool) : Fits .bool [.bool b]
  | str (s : ByteArray) : Fits .str [.str s]
  | sl {s : Sh} (ls : List (List PV)) (h : ∀ l ∈ ls, Fits s l) : Fits (.sl s) [.sl (ls.map (wrapV s))]
  | agg {ss : List Sh} (ps : List (List PV)) (hl : ps.length = ss.length) (h : ∀ (i : Nat) (p : List PV) (s : Sh), ps[i]? = some p → ss[i]? = some s → Fits s p) : Fits (.agg ss) ps.flatten
theorem Fits.cells {s : Sh} {l : List PV} (h : Fits s l) : (wrapV s l).cells = l := by cases h <;> rfl

/-- Cell for cell. -/
def RelL (im : Nat → Nat → Option Value) (l : List PV) (cs : List Value) : Prop := l.length = cs.length ∧ ∀ (i : Nat) (y : PV), l[i]? = some y → ∃ c, cs[i]? = some c ∧ PR im y c ∧ c.oneCell' = true
theorem RelL.one {im : Nat → Nat → Option Value} {y : PV} {c : Value} (h : PR im y c) (h1 : c.oneCell' = true) : RelL im [y] [c] := by
  refine ⟨rfl, fun i z hz => ?_⟩
  cases i with
  | zero => simp at hz; subst hz; exact ⟨c, rfl, h, h1⟩
  | succ i => simp at hz
theorem RelL.nil {im : Nat → Nat → Option Value} : RelL im [] [] := ⟨rfl, by simp⟩
theorem RelL.append {im : Nat → Nat → Option Value} {a b : List PV} {c d : List Value} (h : RelL im a c) (k : RelL im b d) : RelL im (a ++ b) (c ++ d) := by
  refine ⟨by simp [h.1, k.1], fun i y hy => ?_⟩
  by_cases hi : i < a.length
  · rw [List.getElem?_append_left hi] at hy
    rw [List.getElem?_append_left (by rw [← h.1]; exact hi)]
    exact h.2 i y hy
  · rw [List.getElem?_append_right (by omega)] at hy
    rw [List.getElem?_append_right (by rw [← h.1]; omega), ← h.1]
    exact k.2 _ y hy

section
variable {H : Type} {enc : TypeId × Value → H} {P : Program} {W : World} {sp : Nat → Bool} {hd : Bool} {T : TypeId → Prop}
/-- The memory as it is. -/
def imOf (W : World) (b o : Nat) : Option Value := W.cell? ⟨b, o, none⟩
theorem spot_of {a : Addr} {v : Value} {j : Nat} (h : W.cell? (a.add j) = some v) : (j = 0 → a.spot = none) ∧ a.add j = ⟨a.block, a.off + j, none⟩ := by
  have hspot : (a.add j).spot = none := by
    cases hsp : (a.add j).spot with
    | none => rfl
    | some s =>
      simp only [World.cell?] at h
      split at h
      · simp [hsp] at h
      · cases h
  unfold Addr.add at hspot ⊢
  split
  · rename_i h0
    subst h0
    rw [if_pos rfl] at hspot
    exact ⟨fun _ => hspot, by cases a; simp_all⟩
  · rename_i h0
    exact ⟨fun h => absurd h h0, rfl⟩

theorem open_sh (K : Kids P T) (hsz : ∀ {t e : TypeId}, T t → P.underlying t = some (.slice e) → 0 < P.cellsOf e) {t : TypeId} {s : Sh} (hs : ShT P t s) : T t → ∀ (fuel : Nat) (cs : List Value) (x : DataW H × List MemPlace), cs.length = P.cellsOf t →
    DataW.trod enc P W 0 sp hd fuel t cs = some x → ∃ l, Fits s l ∧ RelL (imOf W) l cs := by
  induction hs with
  | int h =>
    intro ht fuel cs x hl hx
    obtain ⟨n, rfl, _, _⟩ := DataW.trod_int h hx
    exact ⟨_, .int _ n, .one (.int _ _) rfl⟩
  | bool h =>
    intro ht fuel cs x hl hx
    obtain ⟨b, rfl, _⟩ := DataW.trod_bool h hx
    exact ⟨_, .bool b, .one (.bool _) rfl⟩
  | str h =>
    intro ht fuel cs x hl hx
    obtain ⟨b, rfl, _⟩ := DataW.trod_string h hx
    exact ⟨_, .str b, .one (.str _) rfl⟩
  | sl h hse ih =>
    rename_i t e s
    intro ht fuel cs x hl hx
    have hpos := hsz ht h
    rcases DataW.trod_slice h hx with ⟨rfl, _⟩ | ⟨a, len, cap, elems, rest, n, _, rfl, _, _, hle, _, hlen, hel, _⟩
    · exact ⟨[.sl []], .sl (s := s) [] (by simp), .one (.sl0 none 0) rfl⟩
    · have each : ∀ i, i < len → ∃ l cs', Fits s l ∧ RelL (imOf W) l cs' ∧ W.cells? 0 (a.add (i * P.cellsOf e)) (P.cellsOf e) = some cs' := by
        intro i hi
        have h1 := hel i hi
        rw [List.getElem?_eq_getElem (by omega)] at h1
        simp only [Option.bind_eq_some_iff] at h1
        obtain ⟨cs', hc, hy⟩ := h1
        have hcl : cs'.length = P.cellsOf e := (World.cells?_some hc).2.1
        obtain ⟨l, h2, h3⟩ := ih (K.slice ht h) n cs' _ hcl hy
        exact ⟨l, cs', h2, h3, hc⟩
      by_cases h0 : len = 0
      · subst h0
        exact ⟨[.sl []], .sl (s := s) [] (by simp), .one (.sl0 (some a) cap) rfl⟩
      · have ch : ∃ f : Nat → List PV × List Value, ∀ i, i < len → Fits s (f i).1 ∧ RelL (imOf W) (f i).1 (f i).2 ∧ W.cells? 0 (a.add (i * P.cellsOf e)) (P.cellsOf e) = some (f i).2 := by
          refine ⟨fun i => if h : i < len then ((each i h).choose, (each i h).choose_spec.choose) else ([], []), fun i hi => ?_⟩
          simp only [hi, ↓reduceDIte]
          exact (each i hi).choose_spec.choose_spec
        obtain ⟨f, hf⟩ := ch
        have hcell : ∀ i j, i < len → j < P.cellsOf e → ∃ c, (f i).2[j]? = some c ∧ W.cell? ((a.add (i * P.cellsOf e)).add j) = some c := by
          intro i j hi hj
          obtain ⟨_, _, h3⟩ := hf i hi
          obtain ⟨_, hcl, hc⟩ := World.cells?_some h3
          have := hc j hj
          rw [List.getElem?_eq_getElem (by omega)] at this
          exact ⟨_, List.getElem?_eq_getElem (by omega), this⟩
        have haddr : ∀ i j, i < len → j < P.cellsOf e → (a.add (i * P.cellsOf e)).add j = ⟨a.block, a.off + i * P.cellsOf e + j, none⟩ := by
          intro i j hi hj
          obtain ⟨c, _, hc⟩ := hcell i j hi hj
          obtain ⟨hs1, h4⟩ := spot_of hc
          rw [h4]
          have : (a.add (i * P.cellsOf e)).block = a.block ∧ (a.add (i * P.cellsOf e)).off = a.off + i * P.cellsOf e := by
            unfold Addr.add; split <;> simp_all
          rw [this.1, this.2]
        have hspot : a.spot = none := by
          obtain ⟨c, _, hc⟩ := hcell 0 0 (by omega) hpos
          have h5 : (a.add (0 * P.cellsOf e)) = a := by simp [Addr.add]
          rw [h5] at hc
          exact (spot_of hc).1 rfl
        obtain ⟨ab, ao, asp⟩ := a
        simp only at hspot
        subst hspot
        have hlx : ((List.range len).map (fun i => wrapV s (f i).1)).length = len := by simp
        have hget : ∀ (i : Nat) (x : PV), ((List.range len).map (fun i => wrapV s (f i).1))[i]? = some x → i < len ∧ x = wrapV s (f i).1 := by
          intro i x hx
          have hi : i < len := by
            have := (List.getElem?_eq_some_iff.1 hx).1
            simpa using this
          refine ⟨hi, ?_⟩
          simp [hi] at hx
          exact hx.symm
        have hfit : Fits (.sl s) [.sl ((List.range len).map (fun i => wrapV s (f i).1))] := by
          have := Fits.sl (s := s) ((List.range len).map (fun i => (f i).1)) (fun l hl => by
            simp only [List.mem_map, List.mem_range] at hl
            obtain ⟨i, hi, rfl⟩ := hl
            exact (hf i hi).1)
          rw [List.map_map] at this
          exact this
        refine ⟨[.sl ((List.range len).map (fun i => wrapV s (f i).1))], hfit, .one ?_ rfl⟩
        · have key := PR.sl (im := imOf W) (xs := (List.range len).map (fun i => wrapV s (f i).1)) (b := ab) (o := ao) (sz := P.cellsOf e) (cap := cap) (fun i j => ((f i).2[j]?).getD Go.undef)
            (fun i x hx => by
              obtain ⟨hi, rfl⟩ := hget i x hx
              rw [(hf i hi).1.cells, (hf i hi).2.1.1]
              exact (World.cells?_some (hf i hi).2.2).2.1)
            (fun i j hi hj => by
              rw [hlx] at hi
              obtain ⟨c, h1, h2⟩ := hcell i j hi hj
              rw [haddr i j hi hj] at h2
              rw [h1]; exact h2)
            (fun i j hi hj => by
              rw [hlx] at hi
              obtain ⟨_, hR, h3⟩ := hf i hi
              have hcl := (World.cells?_some h3).2.1
              obtain ⟨c, hc1, _, hc3⟩ := hR.2 j _ (List.getElem?_eq_getElem (by rw [hR.1]; omega))
              rw [hc1]; exact hc3)
            (fun i x j y hx hy => by
              obtain ⟨hi, rfl⟩ := hget i x hx
              rw [(hf i hi).1.cells] at hy
              obtain ⟨c, hc1, hc2, _⟩ := (hf i hi).2.1.2 j y hy
              rw [hc1]; exact hc2)
            (by rw [hlx]; exact hle)
          rw [hlx] at key
          exact key
  | agg h hl hss ih =>
    rename_i t fs ss
    intro ht fuel cs x hcl hx
    obtain ⟨xs, n, _, _, _, hxl, hf⟩ := DataW.trod_struct h hx
    obtain ⟨hT, hsum, hoff⟩ := K.struct ht h
    have each : ∀ m, m ≤ fs.size → ∃ ps : List (List PV), ps.length = m ∧ (∀ (i : Nat) (p : List PV) (s : Sh), ps[i]? = some p → ss[i]? = some s → Fits s p) ∧ RelL (imOf W) ps.flatten (cs.take ((fs.toList.take m).map fun f => P.cellsOf f.type).sum) := by
      intro m
      induction m with
      | zero => intro _; exact ⟨[], rfl, by simp, by simpa using RelL.nil⟩
      | succ m ihm =>
        intro hm
        obtain ⟨ps, h1, h2, h3⟩ := ihm (by omega)
        have hfm : fs.toList[m]? = some (fs[m]'(by omega)) := by simp [show m < fs.size by omega]
        have hfm' : fs[m]? = some (fs[m]'(by omega)) := by simp [show m < fs.size by omega]
        generalize fs[m]'(by omega) = fd at hfm hfm'
        obtain ⟨s, hsm⟩ : ∃ s, ss[m]? = some s := ⟨ss[m]'(by omega), List.getElem?_eq_getElem (by omega)⟩
        have hx1 := hf m fd hfm'
        rw [List.getElem?_eq_getElem (by omega)] at hx1
        have ho := hoff m fd hfm
        have htk : fs.toList.take (m + 1) = fs.toList.take m ++ [fd] := by
          rw [List.take_add_one, hfm]; rfl
        have hle : ((fs.toList.take (m + 1)).map fun f => P.cellsOf f.type).sum ≤ cs.length := by
          rw [hcl, hsum]
          conv => rhs; rw [← List.take_append_drop (m + 1) fs.toList]
          rw [List.map_append, List.sum_append]; omega
        rw [htk, List.map_append, List.sum_append] at hle
        simp only [List.map_cons, List.map_nil, List.sum_cons, List.sum_nil, Nat.add_zero] at hle
        obtain ⟨l, h4, h5⟩ := ih m fd s hfm' hsm (hT fd (List.mem_of_getElem? hfm)) n _ _ (by rw [List.length_take, List.length_drop, ho]; omega) hx1
        refine ⟨ps ++ [l], by simp [h1], fun i p s' hp hs' => ?_, ?_⟩
        · by_cases hi : i < m
          · rw [List.getElem?_append_left (by omega)] at hp
            exact h2 i p s' hp hs'
          · have : i = m := by
              have := (List.getElem?_eq_some_iff.1 hp).1
              simp at this; omega
            subst this
            rw [List.getElem?_append_right (by omega), h1] at hp
            simp at hp; subst hp
            rw [hsm] at hs'; cases hs'
            exact h4
        · rw [htk, List.map_append, List.sum_append, List.flatten_append]
          simp only [List.map_cons, List.map_nil, List.sum_cons, List.sum_nil, Nat.add_zero, List.flatten_cons, List.flatten_nil, List.append_nil]
          rw [List.take_add]
          refine h3.append ?_
          rw [ho] at h5
          exact h5
    obtain ⟨ps, h1, h2, h3⟩ := each fs.size (Nat.le_refl _)
    refine ⟨ps.flatten, .agg ps (by omega) h2, ?_⟩
    rw [List.take_of_length_le (show fs.toList.length ≤ fs.size by simp), ← hsum, ← hcl, List.take_length] at h3
    exact h3
end
end Go.Ev
