/- Rules for the operations that look into the heap, where what lies there is a hypothesis. -/
import Derived.Test.YtejeplcandhgdaaDoorEvY
set_option linter.unusedVariables false
set_option linter.unusedSimpArgs false
namespace Go.Ev

section
variable {cx : Cx} {call : CallT} {o : Oper} {e : Env} {H : Hp} {t : TypeId} {x i : Operand} {all r : List Oper}

theorem EU.pure {Q : Env → Hp → Prop} (v : V) (hw : wantB all e o = some true) (h : ∀ call H, evOp cx call o e H = some (.ok v H)) (k : EU cx all r (putD e o.dst v) H Q) : EU cx all (o :: r) e H Q :=
  EU.one _ v hw (fun call => h call _) k
theorem EO.pure {Q : Ex → Env → Hp → Prop} (v : V) (hw : wantB all e o = some true) (h : ∀ call H, evOp cx call o e H = some (.ok v H)) (k : EO cx all r (putD e o.dst v) H Q) : EO cx all (o :: r) e H Q :=
  EO.one _ v hw (fun call => h call _) k

theorem wrap_ok {k : Int} (h0 : -4611686018427387904 ≤ k) (h : k < 4611686018427387904) : IntKind.i64.wrap k = k := by
  simp [IntKind.wrap, IntKind.bits, IntKind.signed]
  omega

/-- What a load of type t makes of cells. -/
def loaded (cx : Cx) (t : TypeId) (cut1 : Nat → Option (List V)) : Option V :=
  match cx.ty t with
  | some d => if isAggT d.desc then (match cut1 d.size with | some l => some (mkAgg l) | none => none) else (match cut1 1 with | some [v] => some v | _ => none)
  | none => none
theorem evLoad_eq (a : V) : evLoad cx t a H = loaded cx t (readAt H a) := rfl

theorem ix_sl {d : TY} {el : TypeId} {xs : List PV} {k : IntKind} {n : Nat} {y : PV} (hop : o.op = .indexAddr t x i) (hx : evx cx e x = some (.p (.sl xs))) (hi : evx cx e i = some (.p (.int k n)))
    (hd : cx.ty t = some d) (hds : d.desc = .slice el) (hy : rdl xs n = some y) (hz : elemSz cx el y.cells.length = true) : evOp cx call o e H = some (.ok (.p (.sptr xs n 0)) H) := by
  simp only [evOp, hop, hx, hi, evIndexAddr, hd, hds, Int.toNat_natCast, hy, hz, if_true, Int.natCast_nonneg]
theorem ix_own {d : TY} {el : TypeId} {xs : List PV} {k : IntKind} {id off m n : Nat} {y : PV} (hop : o.op = .indexAddr t x i) (hx : evx cx e x = some (.own id off m)) (hi : evx cx e i = some (.p (.int k n)))
    (hd : cx.ty t = some d) (hds : d.desc = .slice el) (hn : n < m) (ho : H.obj id = .own xs) (hy : rdl xs (off + n) = some y) (hz : elemSz cx el y.cells.length = true) : evOp cx call o e H = some (.ok (.optr id (off + n) 0) H) := by
  have h1 : (0 : Int) ≤ n ∧ (n : Int) < m := ⟨by omega, by omega⟩
  simp only [evOp, hop, hx, hi, evIndexAddr, hd, hds, Int.toNat_natCast, ho, hy, hz, if_true, h1, and_self]
theorem ld_sl {xs : List PV} {n f : Nat} {y : PV} (hop : o.op = .load t x) (hx : evx cx e x = some (.p (.sptr xs n f)))
    (hy : rdl xs n = some y) {v : V} (hv : loaded cx t (fun k => match cut y.cells f k with | some l => some (l.map .p) | none => none) = some v) : evOp cx call o e H = some (.ok v H) := by
  have h0 : readAt H (.p (.sptr xs n f)) = fun k => match cut y.cells f k with | some l => some (l.map .p) | none => none := by
    funext k; simp only [readAt, hy]; rfl
  have : evLoad cx t (.p (.sptr xs n f)) H = some v := by
    rw [evLoad_eq, h0]; exact hv
  simp only [evOp, hop, hx, this]
theorem ld_optr {xs : List PV} {id n f : Nat} {y : PV} (hop : o.op = .load t x) (hx : evx cx e x = some (.optr id n f)) (ho : H.obj id = .own xs)
    (hy : rdl xs n = some y) {v : V} (hv : loaded cx t (fun k => match cut y.cells f k with | some l => some (l.map .p) | none => none) = some v) : evOp cx call o e H = some (.ok v H) := by
  have h0 : readAt H (.optr id n f) = fun k => match cut y.cells f k with | some l => some (l.map .p) | none => none := by
    funext k; simp only [readAt, ho, hy]; rfl
  have : evLoad cx t (.optr id n f) H = some v := by
    rw [evLoad_eq, h0]; exact hv
  simp only [evOp, hop, hx, this]
theorem ld_ref {cs : List V} {id off : Nat} (hop : o.op = .load t x) (hx : evx cx e x = some (.ref id off)) (ho : H.obj id = .ref cs)
    {v : V} (hv : loaded cx t (fun k => cut cs off k) = some v) : evOp cx call o e H = some (.ok v H) := by
  have : evLoad cx t (.ref id off) H = some v := by
    rw [evLoad_eq, ← hv]
    simp only [readAt, ho, loaded]
  simp only [evOp, hop, hx, this]
theorem st_ref {cs : List V} {id off : Nat} {y : Operand} {v : V} {d : TY} (hop : o.op = .store t x y) (hx : evx cx e x = some (.ref id off)) (hy : evx cx e y = some v) (hd : cx.ty t = some d) (h1 : v.cells.length = d.size) (h2 : v.cells.all V.cell = true)
    (hlow : H.low ≤ id) (ho : H.obj id = .ref cs) (hoff : off + v.cells.length ≤ cs.length) : evOp cx call o e H = some (.ok (.p .undef) (H.set id (.ref (over cs off v.cells)))) := by
  have : writeAt H (.ref id off) v.cells = some (H.set id (.ref (over cs off v.cells))) := by
    simp only [writeAt, ho, if_pos hoff]
    rw [if_neg (by omega)]
  simp only [evOp, hop, hx, hy, hd, h1, h2, and_self, if_true, this]
theorem cut_own {id off m n : Nat} {y : Operand} {d : TY} {el : TypeId} {k : IntKind} {de : TY} (hop : o.op = .slice t x none (some y) none) (hx : evx cx e x = some (.own id off m)) (hy : evx cx e y = some (.p (.int k n))) (hn : n ≤ m)
    (hd : cx.ty t = some d) (hds : d.desc = .slice el) (hel : cx.ty el = some de) : evOp cx call o e H = some (.ok (.own id off n) H) := by
  have h1 : evCut cx el (.own id off m) none (some (n : Int)) = some (.own id off n) := by
    simp [evCut, hel, hn]
  simp only [evOp, hop, hx, hd, hds, optInt, hy, intOf?, hel, h1]
end
end Go.Ev
