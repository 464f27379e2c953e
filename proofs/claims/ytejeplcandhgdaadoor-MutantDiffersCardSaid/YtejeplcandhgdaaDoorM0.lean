/- The context of the walks; values under names. -/
import Derived.Test.YtejeplcandhgdaaDoorCx
import Derived.Test.YtejeplcandhgdaaDoorKf
set_option linter.unusedVariables false
set_option maxRecDepth 4000
namespace Go.Ev
open Go.Proofs

abbrev enI (n : Int) : PV := .int .i64 n
abbrev enB (b : Bool) : PV := .bool b
abbrev ints (xs : List Int) : PV := .sl (xs.map enI)
def arities : List Int := [0, 1, 1, 2, 2, 2, 3, 1, 1, 1, 2, 1, 0]
noncomputable def cxD : Cx := { ty := Tryd.tys.find, gl := fun g => bif Nat.beq g 1 then some (arities.map enI) else none, fn := Tryd.fns.find, orc := fun _ => none, sh := fun f => [207, 36, 92, 231, 51].contains f, eqt := fun _ => false }
structure RowL where
  may : List Int
  res : List Int
  pc : List Int
  deriving DecidableEq
abbrev enR (r : RowL) : PV := .agg [ints r.may, ints r.res, ints r.pc]
abbrev tab (t : List RowL) : PV := .agg [.sl (t.map enR)]
theorem nrmL_map {α : Type} {enc : α → PV} (h : ∀ a, nrm (enc a) = enc a) (xs : List α) : nrmL (xs.map enc) = xs.map enc := by
  rw [nrmL_eq, List.map_map]
  exact List.map_congr_left (fun a _ => h a)
theorem nrmL_ints (xs : List Int) : nrmL (xs.map enI) = xs.map enI := nrmL_map (fun _ => rfl) xs
theorem nrm_ints (xs : List Int) : nrm (ints xs) = ints xs := by simp only [nrm, nrmL_ints]
theorem nrm_row (r : RowL) : nrm (enR r) = enR r := by simp only [nrm, nrmL, nrmL_ints]
theorem nrmL_rows (t : List RowL) : nrmL (t.map enR) = t.map enR := nrmL_map nrm_row t
theorem nrm_tab (t : List RowL) : nrm (tab t) = tab t := by simp only [nrm, nrmL, nrmL_rows]
theorem look_of {L : SE} {t : Nat} {k : IntKind} {a b : Int} (h : look L t = some (.p (.int k a))) (hab : a = b) : look L t = some (.p (.int k b)) := by
  subst hab; exact h
abbrev intss (xs : List (List Int)) : PV := .sl (xs.map ints)
theorem nrmL_intss (xs : List (List Int)) : nrmL (xs.map ints) = xs.map ints := nrmL_map nrm_ints xs
theorem nrm_intss (xs : List (List Int)) : nrm (intss xs) = intss xs := by simp only [nrm, nrmL_intss]
/-- The first range over a function in a piece of code. -/
def firstRF : Code → Option (Array Tmp × Code × Code)
  | .rangeFunc _ ps a b => some (ps, a, b)
  | .seq a b => (match firstRF a with | some x => some x | none => firstRF b)
  | .block _ c => firstRF c
  | .loop c => firstRF c
  | .cond _ a b => (match firstRF a with | some x => some x | none => firstRF b)
  | _ => none
def rfOf (fn : Func) : Array Tmp × Code × Code := match fn.body with
  | some c => (match firstRF c with | some x => x | none => (#[], .skip, .skip))
  | none => (#[], .skip, .skip)
/-- The record of that range. -/
def loopO (fn : Func) (e : List V) (st : LoopState) (pend : Option Code) : O := .loop e (rfOf fn).1.toList (rfOf fn).2.1 (rfOf fn).2.2 st pend
end Go.Ev
