/- One operation over any reckoning of its operands ('evG'): what the environment is does not matter. -/
import Derived.Test.YtejeplcandhgdaaDoorEvZ
set_option linter.unusedVariables false
set_option linter.unusedSimpArgs false
namespace Go.Ev

def evsG (ev : Operand → Option V) : List Operand → Option (List V)
  | [] => some []
  | x :: r => match ev x, evsG ev r with | some v, some l => some (v :: l) | _, _ => none
def evpG (ev : Operand → Option V) : List (Nat × Operand) → Option (List (Nat × V))
  | [] => some []
  | (i, x) :: r => match ev x, evpG ev r with | some v, some l => some ((i, v) :: l) | _, _ => none
def optG (ev : Operand → Option V) : Option Operand → Option (Option Int)
  | none => some none
  | some x => match ev x with | some v => (match intOf? v with | some n => some (some n) | none => none) | none => none

/-- One operation, over any reckoning of operands. -/
def evG (cx : Cx) (ev : Operand → Option V) (call : CallT) (o : Op) (H : Hp) : Option Rz :=
  match o with
  | .move x | .assign x => (match ev x with | some v => some (.ok v H) | none => none)
  | .pick c a b => (match ev c with
    | some (.p (.bool true)) => (match ev a with | some v => some (.ok v H) | none => none)
    | some (.p (.bool false)) => (match ev b with | some v => some (.ok v H) | none => none)
    | _ => none)
  | .alloc t => (match cx.ty t with | some d => some (.ok (.ref H.next 0) (H.new (.ref (d.zero.cells.map .p)))) | none => none)
  | .box _ x => (match ev x with | some v => some (.ok (.ref H.next 0) (H.new (.ref v.cells))) | none => none)
  | .build t parts => (match cx.ty t, evpG ev parts.toList with
    | some d, some ps => (match d.desc with
      | .struct fs => if fs.toList.all (fun f => (cx.ty f.type).isSome) then (match fillP cx fs.toList (d.zero.cells.map .p) ps with | some l => (match allP l with | some ps => some (.ok (.p (.agg ps)) H) | none => some (.ok (.agg l) H)) | none => none) else none
      | _ => none)
    | _, _ => none)
  | .buildSlice t n parts => (match cx.ty t, evpG ev parts.toList with
    | some d, some ps => (match d.desc with
      | .slice el => (match cx.ty el with
        | some de => if n * de.size > 16777216 ∨ de.size = 0 then none else
          (match resParts ps H with
          | some (ps, H) => (match setParts de.size (List.replicate n de.zero) ps with
            | some xs => some (.ok (.p (if n = 0 then .nils else .sl xs)) H)
            | none => none)
          | none => none)
        | none => none)
      | _ => none)
    | _, _ => none)
  | .load t a => (match ev a with
    | some a => (match evLoad cx t a H with | some v => some (.ok v H) | none => none)
    | none => none)
  | .store t a x => (match ev a, ev x, cx.ty t with
    | some a, some v, some d => if v.cells.length = d.size ∧ v.cells.all V.cell then (match writeAt H a v.cells with | some H => some (.ok (.p .undef) H) | none => none) else none
    | _, _, _ => none)
  | .nilCheck x => (match ev x with
    | some (.ref i f) => some (.ok (.ref i f) H)
    | some (.optr i j f) => some (.ok (.optr i j f) H)
    | some (.p (.sptr xs i f)) => some (.ok (.p (.sptr xs i f)) H)
    | some (.func f a b) => some (.ok (.func f a b) H)
    | some (.p (.func f a b)) => some (.ok (.p (.func f a b)) H)
    | _ => none)
  | .binOp op t x y _ => (match ev x, ev y with
    | some a, some b => (match evNil cx op t y a with
      | some r => some (.ok (.p (.bool r)) H)
      | none => (match evBin cx op t a b with | some v => some (.ok (.p v) H) | none => none))
    | _, _ => none)
  | .unOp op _ x => (match ev x with
    | some a => (match evUn op a with | some v => some (.ok (.p v) H) | none => none)
    | none => none)
  | .convert s d x => (match cx.ty s, cx.ty d, ev x with
    | some s, some d, some v => (match s.desc, d.desc, v with
      | .int _, .int k, .p (.int _ n) => some (.ok (.p (.int k (k.wrap n))) H)
      | _, _, _ => none)
    | _, _, _ => none)
  | .makeInterface t x => (match ev x with
    | some v => (match evIface cx t v with | some r => some (.ok r H) | none => none)
    | none => none)
  | .makeFunc (.func f) first cap => (match evsG ev first.toList, evsG ev cap.toList with
    | some a, some b => some (.ok (match allP a, allP b with | some a, some b => .p (.func f a b) | _, _ => .func f a b) H)
    | _, _ => none)
  | .makeMap _ none => some (.ok (.map H.next) (H.new (.map [])))
  | .insert t m k x => (match cx.ty t, ev m, ev k, ev x with
    | some d, some (.map id), some (.p k), some v => (match d.desc with
      | .map kt _ => (match cx.ty kt with
        | some dk => if id < H.low then none else if keyOk dk.desc k ∧ v.cell then (match H.obj id with
          | .map kv => (match findKV k kv with
            | some none => some (.ok (.p .undef) (H.set id (.map (kv ++ [(k, v)]))))
            | _ => none)
          | _ => none) else none
        | none => none)
      | _ => none)
    | _, _, _, _ => none)
  | .lookup t m k ok => (match cx.ty t, ev m, ev k with
    | some d, some (.map id), some (.p k) => (match d.desc with
      | .map kt et => (match cx.ty kt, cx.ty et with
        | some dk, some de => if keyOk dk.desc k then (match H.obj id with
          | .map kv => (match findKV k kv with
            | some (some v) => some (.ok (if ok then mkTup [v, .p (.bool true)] else v) H)
            | some none => some (.ok (if ok then .p (.tup [de.zero, .bool false]) else .p de.zero) H)
            | none => none)
          | _ => none) else none
        | _, _ => none)
      | _ => none)
    | _, _, _ => none)
  | .makeSlice t l c => (match cx.ty t, ev l, ev c with
    | some d, some (.p (.int .i64 n)), some (.p (.int .i64 m)) => (match d.desc with
      | .slice el => (match cx.ty el with
        | some de => if n = m ∧ 0 < n ∧ n ≤ 1000000 ∧ de.size = 1 ∧ de.bytes ≤ 16 ∧ de.zero.cell then
          (match de.zero with
          | .nilp => some (.ok (.own H.next 0 n.toNat) (H.new (.vec (List.replicate n.toNat (.p .nilp)))))
          | z => some (.ok (.own H.next 0 n.toNat) (H.new (.own (List.replicate n.toNat z))))) else none
        | none => none)
      | _ => none)
    | _, _, _ => none)
  | .slice t x lo hi none => (match cx.ty t, ev x, optG ev lo, optG ev hi with
    | some d, some v, some lo, some hi => (match d.desc, v with
      | .array n el, .p (.sptr xs 0 0) => if xs.length = n ∧ lo = none ∧ hi = none ∧ 0 < n then (match cx.ty el with | some _ => some (.ok (.p (.sl xs)) H) | none => none) else none
      | .slice el, v => (match cx.ty el, evCut cx el v lo hi with | some _, some r => some (.ok r H) | _, _ => none)
      | .string, .p (.str s) => (match evCutS s lo hi with | some r => some (.ok r H) | none => none)
      | _, _ => none)
    | _, _, _, _ => none)
  | .slice t x lo hi (some mx) => (match cx.ty t, ev x, optG ev lo, optG ev hi, optG ev (some mx) with
    | some d, some v, some lo, some (some hi), some (some mx) => (match d.desc with
      | .slice el => if lo.getD 0 = 0 ∧ hi = 0 ∧ mx = 0 then (match cx.ty el, lenV v with | some _, some _ => some (.ok (.p .nils) H) | _, _ => none) else none
      | _ => none)
    | _, _, _, _, _ => none)
  | .fieldAddr t x f => (match ev x with
    | some v => (match evFieldAddr cx t v f with | some r => some (.ok r H) | none => none)
    | none => none)
  | .field t x f => (match ev x with
    | some v => (match evField cx t v f with | some r => some (.ok r H) | none => none)
    | none => none)
  | .indexAddr t x i => (match ev x, ev i with
    | some v, some (.p (.int _ i)) => (match evIndexAddr cx t v i H with | some r => some (.ok r H) | none => none)
    | _, _ => none)
  | .index t x i => (match cx.ty t, ev x, ev i with
    | some d, some (.p (.str s)), some (.p (.int _ i)) => (match d.desc with
      | .string => if 0 ≤ i then (match s[i.toNat]? with | some b => some (.ok (.p (.int .u8 b.toNat)) H) | none => none) else none
      | _ => none)
    | _, _, _ => none)
  | .typeAssert x _ t ok => (match ev x with
    | some v => (match evAssert cx v t ok with | some r => some (.ok r H) | none => none)
    | none => none)
  | .extract x i => (match ev x with
    | some (.p (.tup vs)) => (match rdl vs i with | some v => some (.ok (.p v) H) | none => none)
    | some (.tup vs) => (match rdl vs i with | some v => some (.ok v H) | none => none)
    | _ => none)
  | .call c => (match evsG ev c.args.toList with
    | some args => (match c.callee with
      | .builtin b => evBuiltin cx b c.argTypes.toList args H
      | .value f => (match ev f with
        | some (.p (.func f a b)) => call (.f f) (a.map .p ++ args ++ b.map .p) H
        | some (.func f a b) => call (.f f) (a ++ args ++ b) H
        | some (.yield id) => call (.y id) args H
        | _ => none)
      | _ => none)
    | none => none)
  | .panic x => (match ev x with
    | some (.p (.iface t v)) => some (.pan (.p (.iface t v)) H)
    | _ => none)
  | _ => none


section
variable {cx : Cx} {e : Env} {call : CallT} {H : Hp}
theorem evsG_eq : ∀ l : List Operand, evxs cx e l = evsG (evx cx e) l
  | [] => rfl
  | x :: r => by rw [evxs, evsG, evsG_eq r]; rfl
theorem evpG_eq : ∀ l : List (Nat × Operand), evparts cx e l = evpG (evx cx e) l
  | [] => rfl
  | (i, x) :: r => by rw [evparts, evpG, evpG_eq r]; rfl
theorem optG_eq (x : Option Operand) : optInt cx e x = optG (evx cx e) x := by cases x <;> rfl
theorem evG_eq (o : Oper) : evOp cx call o e H = evG cx (evx cx e) call o.op H := by
  cases hop : o.op
  case build t ps =>
    simp only [evOp, evG, hop, evpG_eq]
    cases cx.ty t with
    | none => rfl
    | some d =>
      cases evpG (evx cx e) ps.toList with
      | none => rfl
      | some qs =>
        simp only
        generalize d.desc = dd
        cases dd
        case struct fs =>
          by_cases hall : (fs.toList.all fun f => (cx.ty f.type).isSome) = true
          · simp only [hall, if_true]
            generalize fillP cx fs.toList (d.zero.cells.map .p) qs = ff
            cases ff with
            | none => rfl
            | some l =>
              simp only [mkAgg]
              cases allP l <;> rfl
          · simp only [hall]; rfl
        all_goals rfl
  case buildSlice t n ps => simp only [evOp, evG, hop, evpG_eq]; rfl
  case makeFunc f x y => cases f <;> simp only [evOp, evG, hop, evsG_eq] <;> rfl
  case makeMap t r => cases r <;> simp only [evOp, evG, hop]
  case slice t x lo hi mx => cases mx <;> simp only [evOp, evG, hop, optG_eq] <;> rfl
  case call c => simp only [evOp, evG, hop, evsG_eq]; rfl
  all_goals first
    | (simp only [evOp, evG, hop]; done)
    | (simp only [evOp, evG, hop]; rfl)

def LeEv (a b : Operand → Option V) : Prop := ∀ x v, a x = some v → b x = some v
variable {a b : Operand → Option V}
theorem LeEv.list (h : LeEv a b) : ∀ (l : List Operand) {r : List V}, evsG a l = some r → evsG b l = some r
  | [], r, k => k
  | x :: l, r, k => by
    simp only [evsG] at k ⊢
    split at k
    · rename_i v l' h1 h2
      rw [h x v h1, h.list l h2]; exact k
    · cases k
theorem LeEv.parts (h : LeEv a b) : ∀ (l : List (Nat × Operand)) {r : List (Nat × V)}, evpG a l = some r → evpG b l = some r
  | [], r, k => k
  | (i, x) :: l, r, k => by
    simp only [evpG] at k ⊢
    split at k
    · rename_i v l' h1 h2
      rw [h x v h1, h.parts l h2]; exact k
    · cases k
theorem LeEv.opt (h : LeEv a b) (x : Option Operand) {r : Option Int} (k : optG a x = some r) : optG b x = some r := by
  cases x with
  | none => exact k
  | some x =>
    simp only [optG] at k ⊢
    split at k
    · rename_i v h1; rw [h x v h1]; exact k
    · cases k
theorem LeEv.op (h : LeEv a b) {o : Op} {r : Rz} (k : evG cx a call o H = some r) : evG cx b call o H = some r := by
  cases o
  case build t ps =>
    simp only [evG] at k ⊢
    cases h1 : evpG a ps.toList with
    | none => rw [h1] at k; simp at k
    | some v => rw [h1] at k; rw [h.parts _ h1]; exact k
  case buildSlice t n ps =>
    simp only [evG] at k ⊢
    cases h1 : evpG a ps.toList with
    | none => rw [h1] at k; simp at k
    | some v => rw [h1] at k; rw [h.parts _ h1]; exact k
  case makeFunc f x y =>
    cases f <;> simp only [evG] at k ⊢ <;> try cases k
    cases h1 : evsG a x.toList with
    | none => rw [h1] at k; simp at k
    | some v =>
      cases h2 : evsG a y.toList with
      | none => rw [h1, h2] at k; simp at k
      | some u => rw [h1, h2] at k; rw [h.list _ h1, h.list _ h2]; exact k
  case makeMap t r => cases r <;> exact k
  case call c =>
    simp only [evG] at k ⊢
    cases h1 : evsG a c.args.toList with
    | none => rw [h1] at k; simp at k
    | some v =>
      rw [h1] at k; rw [h.list _ h1]
      cases hc : c.callee with
      | value f =>
        rw [hc] at k
        simp only at k ⊢
        cases h2 : a f with
        | none => rw [h2] at k; simp at k
        | some u => rw [h2] at k; rw [h f u h2]; exact k
      | builtin f => rw [hc] at k; exact k
      | invoke x m => rw [hc] at k; exact k
  case slice t x lo hi mx =>
    cases mx with
    | none =>
      simp only [evG] at k ⊢
      cases h1 : a x with
      | none => rw [h1] at k; simp at k
      | some u =>
        cases h2 : optG a lo with
        | none => rw [h1, h2] at k; simp at k
        | some l =>
          cases h3 : optG a hi with
          | none => rw [h1, h2, h3] at k; simp at k
          | some m => rw [h1, h2, h3] at k; rw [h x u h1, h.opt _ h2, h.opt _ h3]; exact k
    | some mx =>
      simp only [evG] at k ⊢
      cases h1 : a x with
      | none => rw [h1] at k; simp at k
      | some u =>
        cases h2 : optG a lo with
        | none => rw [h1, h2] at k; simp at k
        | some l =>
          cases h3 : optG a hi with
          | none => rw [h1, h2, h3] at k; simp at k
          | some m =>
            cases h4 : optG a (some mx) with
            | none => rw [h1, h2, h3, h4] at k; simp at k
            | some m' => rw [h1, h2, h3, h4] at k; rw [h x u h1, h.opt _ h2, h.opt _ h3, h.opt _ h4]; exact k
  case pick c x y =>
    simp only [evG] at k ⊢
    cases h1 : a c with
    | none => rw [h1] at k; simp at k
    | some u =>
      rw [h1] at k; rw [h c u h1]
      split at k
      · cases h2 : a x with
        | none => rw [h2] at k; simp at k
        | some v => rw [h2] at k; simp only [h x v h2]; exact k
      · cases h2 : a y with
        | none => rw [h2] at k; simp at k
        | some v => rw [h2] at k; simp only [h y v h2]; exact k
      · cases k
  case insert t m x y =>
    simp only [evG] at k ⊢
    cases h1 : a m with
    | none => rw [h1] at k; simp at k
    | some u =>
      cases h2 : a x with
      | none => rw [h1, h2] at k; simp at k
      | some v =>
        cases h3 : a y with
        | none => rw [h1, h2, h3] at k; simp at k
        | some z => rw [h1, h2, h3] at k; rw [h m u h1, h x v h2, h y z h3]; exact k
  case store t x y =>
    simp only [evG] at k ⊢
    cases h1 : a x with
    | none => rw [h1] at k; simp at k
    | some u =>
      cases h2 : a y with
      | none => rw [h1, h2] at k; simp at k
      | some v => rw [h1, h2] at k; rw [h x u h1, h y v h2]; exact k
  case binOp op t x y t' =>
    simp only [evG] at k ⊢
    cases h1 : a x with
    | none => rw [h1] at k; simp at k
    | some u =>
      cases h2 : a y with
      | none => rw [h1, h2] at k; simp at k
      | some v => rw [h1, h2] at k; rw [h x u h1, h y v h2]; exact k
  case lookup t m x ok =>
    simp only [evG] at k ⊢
    cases h1 : a m with
    | none => rw [h1] at k; simp at k
    | some u =>
      cases h2 : a x with
      | none => rw [h1, h2] at k; simp at k
      | some v => rw [h1, h2] at k; rw [h m u h1, h x v h2]; exact k
  case makeSlice t x y =>
    simp only [evG] at k ⊢
    cases h1 : a x with
    | none => rw [h1] at k; simp at k
    | some u =>
      cases h2 : a y with
      | none => rw [h1, h2] at k; simp at k
      | some v => rw [h1, h2] at k; rw [h x u h1, h y v h2]; exact k
  case indexAddr t x y =>
    simp only [evG] at k ⊢
    cases h1 : a x with
    | none => rw [h1] at k; simp at k
    | some u =>
      cases h2 : a y with
      | none => rw [h1, h2] at k; simp at k
      | some v => rw [h1, h2] at k; rw [h x u h1, h y v h2]; exact k
  case index t x y =>
    simp only [evG] at k ⊢
    cases h1 : a x with
    | none => rw [h1] at k; simp at k
    | some u =>
      cases h2 : a y with
      | none => rw [h1, h2] at k; simp at k
      | some v => rw [h1, h2] at k; rw [h x u h1, h y v h2]; exact k
  case convert s d x =>
    simp only [evG] at k ⊢
    cases h1 : a x with
    | none => rw [h1] at k; simp at k
    | some u => rw [h1] at k; rw [h x u h1]; exact k
  all_goals first
    | (exact k)
    | (simp only [evG] at k ⊢
       rename_i x
       cases h1 : a x with
       | none => rw [h1] at k; simp at k
       | some u => rw [h1] at k; rw [h x u h1]; exact k)
    | (simp only [evG] at k ⊢
       rename_i x _
       cases h1 : a x with
       | none => rw [h1] at k; simp at k
       | some u => rw [h1] at k; rw [h x u h1]; exact k)
    | (simp only [evG] at k ⊢
       rename_i x _ _
       cases h1 : a x with
       | none => rw [h1] at k; simp at k
       | some u => rw [h1] at k; rw [h x u h1]; exact k)
    | (simp only [evG] at k ⊢
       rename_i x _ _ _
       cases h1 : a x with
       | none => rw [h1] at k; simp at k
       | some u => rw [h1] at k; rw [h x u h1]; exact k)
    | (simp only [evG] at k; cases k)
end
end Go.Ev
