/- reticentlaw24.MutantDiffers: the row and the card. -/
import Derived.Test.YtejeplcandhgdaaDoorMj
import Derived.Test.YtejeplcandhgdaaDoorRa
import Derived.Test.YtejeplcandhgdaaDoorCards
import Derived.Test.YtejeplcandhgdaaDoorTie
import Derived.Deep.DeepHandedRow
import Derived.Lib.LaidTab
set_option linter.unusedVariables false
set_option linter.all false
set_option maxRecDepth 100000
set_option linter.unusedSimpArgs false
namespace Go.Ev
open Go.Proofs Go.Proofs.YtejeplcandhgdaaDoor
open Go.ChangeShapes Go.WideShapes Go.ChangeAt Go.RowKit

/-- What a call that turns nothing leaves. -/
def Keeps (W W' : World) : Prop := W'.os = W.os ∧ W'.output = W.output ∧ W.heap.size ≤ W'.heap.size ∧ ∀ k, k < W.heap.size → W'.heap[k]? = W.heap[k]?
theorem Keeps.but {W W' : World} (h : Keeps W W') (may : MemPlace → Prop) : W.keptBut W' may := by
  refine ⟨h.1, h.2.1, fun i hi => ?_⟩
  rw [h.2.2.2 i hi]
  cases W.heap[i]? with
  | none => rfl
  | some o => cases o <;> first | rfl | exact ⟨rfl, rfl, rfl, fun _ _ => rfl⟩ | exact .inr ⟨rfl, rfl⟩
theorem Keeps.same {W W' : World} (h : Keeps W W') {p : MemPlace} (hp : p.block < W.heap.size) : W.sameAt W' p := by
  cases p with
  | cell b o =>
    simp only [MemPlace.block] at hp
    simp only [World.sameAt, World.cell?, h.2.2.2 b hp]
  | map b => exact h.2.2.2 b hp
/-- A function by itself, called by the machine. -/
theorem calls_of_pf {cx : Cx} {P : Program} (hT : TYok P cx) (hF : FnOK cx P) (hord : P.follows .mixedOrders = true) {f : FuncId} {ps : List PV} {y : PV} (h : PF cx f ps y) (hps : nrmL ps = ps) {W : World} {cs : Array Value}
    (hgl : ∀ k xs, cx.gl k = some xs → PR (imOf W) (.sptr xs 0 0) (.pointer (some ⟨k, 0, none⟩))) (ha : ArgsR ⟨imOf W, fun _ => none⟩ (ps.map .p) cs) : Calls P f cs W (fun e W' => (∃ c, e = .returned c ∧ ∃ im, PR im y c) ∧ Keeps W W') := by
  have hres : ∀ (l : List PV) (H : Hp), res1s (l.map .p) H = some (l, H) := by
    intro l
    induction l with
    | nil => intro H; rfl
    | cons x r ih => intro H; simp only [List.map_cons, res1s, res1, res0, ih]
  obtain ⟨rz, ⟨N, hN⟩, hrz⟩ := h (ps.map .p) Hp.empty ps Hp.empty (hres ps _) hps
  have hrel : Rel cx ⟨imOf W, fun _ => none⟩ Hp.empty W := {
    im := fun b o u hu => hu
    gl := hgl
    obj := fun _ _ h => by cases h
    dis := fun _ _ _ _ _ _ h => by cases h
    dim := fun _ _ _ _ h => by cases h
    lt := fun _ _ h => by cases h }
  obtain ⟨_, hcall⟩ := (evFn_sound hT hF (draw_ok hord hT) N).f f _ _ rz (hN N (Nat.le_refl _))
  refine Calls.mono (hcall ⟨imOf W, fun _ => none⟩ W cs hrel Hok.alone (fun _ _ _ => rfl) ha) ?_
  subst hrz
  rintro e W' ⟨c, g', rfl, hs, hv⟩
  refine ⟨⟨c, rfl, g'.im, hv.pp⟩, hs.os, hs.output, hs.size, fun k hk => hs.blocks k hk ?_⟩
  rintro ⟨id, l, _, _, hl, _⟩
  cases hl

theorem tyok : TYok Tryd.prog cxD where
  desc := fun t d h => (Tryd.tys_ok.find h).desc
  info := fun t d h => (Tryd.tys_ok.find h).info
  one := fun t d h => (Tryd.tys_ok.find h).one
  eqt := fun t h => by cases h
theorem fnok : FnOK cxD Tryd.prog where
  fn := fun f fn h => Tryd.fns_ok.find h
  orc := fun f orc ps r h => by cases h

theorem fits_list {α : Type} {s : Sh} {enc : α → PV} (hs : ∀ l, Fits s l → ∃ a, wrapV s l = enc a) : ∀ (ls : List (List PV)), (∀ l ∈ ls, Fits s l) → ∃ qs : List α, ls.map (wrapV s) = qs.map enc
  | [], _ => ⟨[], rfl⟩
  | l :: r, h => by
    obtain ⟨a, ha⟩ := hs l (h l (by simp))
    obtain ⟨qs, has⟩ := fits_list hs r (fun x hx => h x (by simp [hx]))
    exact ⟨a :: qs, by simp [ha, has]⟩
theorem fits_ints {l : List PV} (h : Fits (.sl (.int .i64)) l) : ∃ ns : List Int, l = [ints ns] := by
  cases h with
  | sl ls h =>
    obtain ⟨ns, hns⟩ := fits_list (enc := enI) (fun l hl => by cases hl with | int k n => exact ⟨n, rfl⟩) ls h
    exact ⟨ns, by rw [hns]⟩
def shRow : Sh := .agg [.sl (.int .i64), .sl (.int .i64), .sl (.int .i64)]
theorem fits_row {l : List PV} (h : Fits shRow l) : ∃ r : RowL, wrapV shRow l = enR r := by
  cases h with
  | agg ps hl h =>
    match ps, hl with
    | [a, b, c], _ =>
      obtain ⟨x, rfl⟩ := fits_ints (h 0 a _ rfl rfl)
      obtain ⟨y, rfl⟩ := fits_ints (h 1 b _ rfl rfl)
      obtain ⟨z, rfl⟩ := fits_ints (h 2 c _ rfl rfl)
      exact ⟨⟨x, y, z⟩, rfl⟩
def shTab : Sh := .agg [.sl shRow]
theorem fits_tab {l : List PV} (h : Fits shTab l) : ∃ t : List RowL, PV.agg l = tab t := by
  cases h with
  | agg ps hl h =>
    match ps, hl with
    | [a], _ =>
      have h0 := h 0 a _ rfl rfl
      cases h0 with
      | sl ls h1 =>
        obtain ⟨t, ht⟩ := fits_list (enc := enR) (fun l hl => fits_row hl) ls h1
        exact ⟨t, by rw [ht]; rfl⟩
theorem sh_ints : ShT Tryd.prog 69 (.sl (.int .i64)) := .sl Tryd.underlying69 (.int Tryd.underlying3)
theorem sh_row : ShT Tryd.prog 71 shRow := .agg Tryd.underlying71 rfl (fun i f s hf hs => by
  match i with
  | 0 => simp at hf hs; subst hf; subst hs; exact sh_ints
  | 1 => simp at hf hs; subst hf; subst hs; exact sh_ints
  | 2 => simp at hf hs; subst hf; subst hs; exact sh_ints
  | i + 3 => simp at hf)
theorem sh_tab : ShT Tryd.prog 24 shTab := .agg Tryd.underlying24 rfl (fun i f s hf hs => by
  match i with
  | 0 => simp at hf hs; subst hf; subst hs; exact .sl Tryd.underlying22 sh_row
  | i + 1 => simp at hf)
theorem laidOut : laidOutB Tryd.prog = true := by kernel_rfl
theorem rec24 : Tryd.prog.readableRec 24 = true := by kernel_rfl
theorem row24 : 24 < Tryd.prog.types.size := of_decide_eq_true (by kernel_rfl)
theorem cells24 : Tryd.prog.cellsOf 24 = 1 := by kernel_rfl

theorem gArities : Tryd.prog.globalNamed "reticent/table.arities" = some 1 := by kernel_rfl
theorem gAritiesType : (Tryd.prog.globals[1]?).map (·.type) = some 118 := by kernel_rfl
theorem cells118 : Tryd.prog.cellsOf 118 = 13 := by kernel_rfl
theorem cells3 : Tryd.prog.cellsOf 3 = 1 := by kernel_rfl
theorem table_arities {W : World} {rest : List (String × DataW Unit)} (h : laidMet Tryd.prog (("reticent/table.arities", Rows.laid_reticent_table_arities) :: rest) W) : Lib.TabIs Tryd.prog W "reticent/table.arities" .i64 arities :=
  Lib.tabIs_of_head gArities gAritiesType Tryd.underlying118 Tryd.underlying3 cells3 cells118 h
theorem gl_arities {W : World} (h : Lib.TabIs Tryd.prog W "reticent/table.arities" .i64 arities) : PR (imOf W) (.sptr (arities.map enI) 0 0) (.pointer (some ⟨1, 0, none⟩)) := by
  have hlen : (arities.map enI).length = 13 := rfl
  have hl : arities.length = 13 := rfl
  exact PR.sptr (im := imOf W) (xs := arities.map enI) (i := 0) (f := 0) (b := 1) (o := 0) (sz := 1) (fun i f => .int .i64 (arities.getD i 0))
    (fun i x hx => by rw [List.getElem?_map] at hx; obtain ⟨n, _, rfl⟩ := Option.map_eq_some_iff.1 hx; rfl)
    (fun i f hi hf => by
      have hf0 : f = 0 := by omega
      subst hf0
      have := h.cell gArities i (by rw [hl]; rw [hlen] at hi; exact hi)
      show W.cell? ⟨1, 0 + i * 1 + 0, none⟩ = _
      rw [show 0 + i * 1 + 0 = i by omega]; exact this)
    (fun i f hi hf => rfl)
    (fun i x f y hx hy => by
      rw [List.getElem?_map] at hx
      obtain ⟨n, hn, rfl⟩ := Option.map_eq_some_iff.1 hx
      have hf0 : f = 0 ∧ y = enI n := by
        cases f with
        | zero => simp [PV.cells] at hy; exact ⟨rfl, hy.symm⟩
        | succ f => simp [PV.cells] at hy
      obtain ⟨rfl, rfl⟩ := hf0
      have : arities.getD i 0 = n := by simp [List.getD_eq_getElem?_getD, hn]
      rw [this]; exact .int _ _)
theorem gl_ok {W : World} (h : Lib.TabIs Tryd.prog W "reticent/table.arities" .i64 arities) : ∀ k xs, cxD.gl k = some xs → PR (imOf W) (.sptr xs 0 0) (.pointer (some ⟨k, 0, none⟩)) := by
  intro k xs hk
  simp only [cxD] at hk
  cases hb : Nat.beq k 1 with
  | true =>
    rw [hb] at hk
    simp at hk; subst hk
    rw [Nat.eq_of_beq_eq_true hb]; exact gl_arities h
  | false => rw [hb] at hk; cases hk
theorem open_tab {H : Type} {enc : TypeId × Value → H} {W : World} {v : Value} {d : DataW H} {p : List MemPlace} {base : Nat} (hv : Value.okWide Tryd.prog W .any base 24 v) (h : DataW.Trod enc Tryd.prog W 0 (fun _ => true) true 24 v d p) :
    ∃ t : List RowL, PR (imOf W) (tab t) v := by
  obtain ⟨fuel, h⟩ := h
  simp only [Value.okWide, Tryd.underlying24] at hv
  obtain ⟨cs, rfl, hsz, _⟩ := hv
  obtain ⟨l, hl, hR⟩ := open_sh (kids_book laidOut rec24) (book_sized rec24) sh_tab ⟨row24, book_self 24⟩ fuel cs.toList _ (by simpa using hsz) h
  obtain ⟨t, ht⟩ := fits_tab hl
  refine ⟨t, ?_⟩
  rw [← ht]
  refine .agg (by simpa using hR.1.symm) (fun i x hx => ?_)
  obtain ⟨c, hc, hp, _⟩ := hR.2 i x hx
  have : cs.getD i Go.undef = c := by
    rw [Array.getD_eq_getD_getElem?, ← Array.getElem?_toList, hc]; rfl
  rw [this]; exact hp
/-- Behind the call the argument reads as it did. -/
theorem again_tab {H : Type} {enc : TypeId × Value → H} {W W' : World} {v : Value} {d : DataW H} {p : List MemPlace} (h : DataW.Trod enc Tryd.prog W 0 (fun _ => true) true 24 v d p) (hk : Keeps W W') :
    DataW.Trod enc Tryd.prog W' 0 (fun b => decide (b < W.heap.size)) true 24 v d p := by
  obtain ⟨fuel, h⟩ := h
  have hlt := DataW.trod_lt fuel _ _ _ h
  exact ⟨fuel, DataW.trod_stays (kids_book laidOut rec24) (book_sized rec24) (fun h => by cases h) ⟨row24, book_self 24⟩ h (fun x hx => hk.same (hlt x hx)) (fun x hx => by simpa using hlt x hx)⟩

theorem contract (H : Type) (enc : TypeId × Value → H) (W : World) (base : Nat) (args : Array Value) (ds gs : List (DataW H)) (before : List MemPlace)
    (hval : ∀ (j : Nat) t v, Tryd.f3.params[j]? = some t → args[j]? = some v → Value.okWide Tryd.prog W .any base t v)
    (hW : DataW.Whole enc Tryd.prog Tryd.f3.params.toList Rows.mutantDiffersSpec.vars false W args.toList ds gs before) (hL : laidMetH Tryd.prog Rows.mutantDiffersRow.laid W) :
    Calls Tryd.prog 3 args W fun e W' => ∃ v, e = .returned v ∧ Rows.mutantDiffersSpec.post enc Tryd.prog Tryd.f3 false true false false W args v W' := by
  have hW' := hW
  obtain ⟨p, q, hA0, hV, rfl, hfz, hnd⟩ := hW
  have hA : DataW.TrodAll enc Tryd.prog W 0 (fun _ => true) true Tryd.f3.params.toList args.toList ds p := hA0
  rw [Tryd.params3] at hA hval
  obtain ⟨v0, vs0, d0, ds0, p0, q0, hargs, rfl, rfl, h0, r0⟩ := trodAll_cons hA
  obtain ⟨rfl, rfl, rfl⟩ := trodAll_nil r0
  obtain rfl : args = #[v0] := by cases args; simp_all
  obtain ⟨rfl, rfl⟩ := trodVars_none hV
  obtain ⟨t, ht⟩ := open_tab (hval 0 24 v0 rfl rfl) h0
  have htab := table_arities hL
  have hcall := calls_of_pf tyok fnok (by kernel_rfl) (pf3 t) (by simp [nrmL, nrm_tab]) (W := W) (cs := #[v0]) (gl_ok htab) ⟨rfl, fun i v hv => by
    cases i with
    | zero => simp at hv; subst hv; exact .p ht
    | succ i => simp at hv⟩
  refine Calls.mono hcall ?_
  rintro e W' ⟨⟨c, rfl, im, hc⟩, hk⟩
  cases hc
  refine ⟨_, rfl, [d0], [], _, _, _, _, hW', trodAll_cons_mk (shut_bool Tryd.underlying4 _) trodAll_mk0, trodAll_mk1 (again_tab h0 hk), rfl, hk.but _, fun h => by cases h⟩
end Go.Ev
