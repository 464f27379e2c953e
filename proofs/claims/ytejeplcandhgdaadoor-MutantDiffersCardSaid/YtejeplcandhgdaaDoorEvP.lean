/- The evaluator of code and of functions ('evCode', 'evFn'), and that it is sound: 'evFn_sound'. Regions that draw their order: EvQ. -/
import Derived.Test.YtejeplcandhgdaaDoorEvO
set_option linter.unusedVariables false
set_option linter.unusedSimpArgs false
namespace Go.Ev

inductive Ex where
  | normal | exit (id : Nat) | ret | pan (v : V)

abbrev Co := Option (Ex × Env × Hp)

section
variable (cx : Cx)

/-- Is an operation wanted? -/
def wantB (all : List Oper) (e : Env) (o : Oper) : Option Bool :=
  match o.guard with
  | none => some true
  | some (j, want) => (match all[j]? with
    | some oj => (match oj.dst with
      | some d => (match gt e d with
        | .p (.bool b) => some (b == want)
        | .p .undef => some false
        | _ => none)
      | none => none)
    | none => none)

def evOps (call : CallT) (all : List Oper) : List Oper → Env → Hp → Co
  | [], e, H => some (.normal, e, H)
  | o :: r, e, H => match wantB all e o with
    | some true => (match evOp cx call o e H with
      | some (.ok v H) => evOps call all r (putD e o.dst v) H
      | some (.pan v H) => some (.pan v, e, H)
      | none => none)
    | some false => evOps call all r (putD e o.dst (.p .undef)) H
    | none => none

/-- A region that draws its order: the first operations only read, reckon and make; the others come one behind the other. -/
def evQuiet (call : CallT) (all : List Oper) : List Oper → Env → Hp → Co
  | [], e, H => some (.normal, e, H)
  | o :: r, e, H => match wantB all e o with
    | some true => (match evOp cx call o e { H with low := H.next } with
      | some (.ok v H') => evQuiet call all r (putD e o.dst v) { H' with low := H.low }
      | _ => none)
    | some false => evQuiet call all r (putD e o.dst (.p .undef)) H
    | none => none

def iter (f : Env → Hp → Co) : Nat → Env → Hp → Co
  | 0, _, _ => none
  | k + 1, e, H => match f e H with
    | some (.normal, e, H) => iter f k e H
    | r => r

variable (dr : List Oper → Option Nat)
/-- The function that is ranged over. -/
def evIt (e : Env) (x : Operand) : Option (FuncId × List V × List V) :=
  match evx cx e x with
  | some (.p (.func f a b)) => some (f, a.map .p, b.map .p)
  | some (.func f a b) => some (f, a, b)
  | _ => none
/-- What the loop leaves where its function has returned. -/
def afterLoop (e : Env) (H : Hp) (id : Nat) : Co :=
  match H.obj id with
  | .loop _ _ _ _ .busy _ => none
  | .loop _ _ _ _ _ none => some (.normal, e, H.set id .gone)
  | .loop _ _ _ _ _ (some .ret) => some (.ret, e, H.set id .gone)
  | .loop _ _ _ _ _ (some (.exit i)) => some (.exit i, e, H.set id .gone)
  | _ => none
def evCode (call : CallT) (n : Nat) (ro : Bool) : Code → Env → Hp → Co
  | .skip, e, H => some (.normal, e, H)
  | .region _ ops false, e, H => evOps cx call ops.toList ops.toList e H
  | .region _ ops true, e, H => (match dr ops.toList with
    | some t => (match evQuiet cx call ops.toList (ops.toList.take t) e H with
      | some (.normal, e, H) => evOps cx call ops.toList (ops.toList.drop t) e H
      | _ => none)
    | none => none)
  | .seq a b, e, H => match evCode call n ro a e H with
    | some (.normal, e, H) => evCode call n ro b e H
    | r => r
  | .cond c a b, e, H => match evx cx e c with
    | some (.p (.bool true)) => evCode call n ro a e H
    | some (.p (.bool false)) => evCode call n ro b e H
    | _ => none
  | .block id c, e, H => match evCode call n ro c e H with
    | some (.exit id', e, H) => if id' = id then some (.normal, e, H) else some (.exit id', e, H)
    | r => r
  | .loop c, e, H => iter (evCode call n ro c) n e H
  | .exit id, e, H => some (.exit id, e, H)
  | .ret, e, H => some (.ret, e, H)
  | .rangeFunc x ps assign body, e, H => if ro then none else (match evIt cx e x with
    | some (f, a, b) => (match call (.f f) (a ++ [.yield H.next] ++ b) (H.new (.loop e ps.toList assign body .ready none)) with
      | some (.ok _ H2) => afterLoop e H2 H.next
      | some (.pan v H2) => some (.pan v, e, H2)
      | none => none)
    | none => none)
  | _, _, _ => none

def evRes (e : Env) (H : Hp) : List ResultVar → Option (List V)
  | [] => some []
  | .tmp t :: r => match evRes e H r with | some l => some (gt e t :: l) | none => none
  | .cell b t :: r => match evLoad cx t (gt e b) H, evRes e H r with | some v, some l => some (v :: l) | _, _ => none
def result (fn : Func) (e : Env) (H : Hp) : Option V :=
  match evRes cx e H fn.results.toList with
  | some [v] => some v
  | some l => some (mkTup l)
  | none => none
def pad (args : List V) (n : Nat) : Env := args ++ List.replicate (n - args.length) (.p .undef)

def evBody (call : CallT) (n : Nat) (fn : Func) (c : Code) (args : List V) (H : Hp) : Option Rz :=
  match evCode cx dr call n false c (pad args fn.ntmps) H with
  | some (.normal, e, H) | some (.ret, e, H) => (match result cx fn e H with | some v => some (.ok v H) | none => none)
  | some (.pan v, _, H) => some (.pan v H)
  | _ => none

/-- The loop's variables. -/
def setPs : Env → List Tmp → List V → Env
  | e, t :: ts, v :: vs => setPs (st e t v) ts vs
  | e, _, _ => e
def endRound (H : Hp) (id : Nat) (jump : Option Code) : Option Rz :=
  match H.obj id with
  | .loop env ps a b _ _ => some (.ok (.p (.bool jump.isNone)) (H.set id (.loop env ps a b (if jump.isNone then .ready else .done) jump)))
  | _ => none
/-- A round. -/
def evRound (call : CallT) (n : Nat) (id : Nat) (args : List V) (H : Hp) : Option Rz :=
  match H.obj id with
  | .loop env ps assign body .ready _ => if id < H.low ∨ args.length ≠ ps.length then none else
    (match evCode cx dr call n true assign (setPs env ps args) H with
    | some (.normal, e1, H1) => (match H1.obj id with
      | .loop env' ps' assign' body' .ready pend' =>
        (match evCode cx dr call n true body e1 (H1.set id (.loop env' ps' assign' body' .busy pend')) with
        | some (.normal, _, H2) => endRound H2 id none
        | some (.ret, _, H2) => endRound H2 id (some .ret)
        | some (.exit i, _, H2) => endRound H2 id (some (.exit i))
        | _ => none)
      | _ => none)
    | _ => none)
  | _ => none

/-- A function; a round. -/
def evFn : Nat → CallT
  | 0, _, _, _ => none
  | n + 1, .y id, args, H => evRound cx dr (evFn n) n id args H
  | n + 1, .f f, args, H =>
    match cx.orc f with
    | some orc => (match res1s args H with
      | some (ps, H1) => (match orc (nrmL ps) with | some r => some (.ok (.p r) H1) | none => none)
      | none => none)
    | none => (match cx.fn f with
      | some fn => (match fn.body with
        | some c =>
          if cx.sh f then evBody cx dr (evFn n) n fn c args H
          else (match res1s args H with
            | some (ps, H1) => (match evBody cx dr (evFn n) n fn c ((nrmL ps).map .p) Hp.empty with
              | some (.ok v H2) => (match res2 v H2 with | some (x, _) => some (.ok (.p (nrm x)) H1) | none => none)
              | some (.pan (.p x) _) => some (.pan (.p x) H1)
              | _ => none)
            | none => none)
        | none => none)
      | none => none)

end
end Go.Ev
