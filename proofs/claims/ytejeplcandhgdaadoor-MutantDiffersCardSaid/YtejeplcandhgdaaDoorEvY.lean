/- How a function is walked over abstract states: rules for 'evCode', 'evOps', 'evFn' where there is fuel enough. -/
import Derived.Test.YtejeplcandhgdaaDoorEvX
set_option linter.unusedVariables false
set_option linter.unusedSimpArgs false
namespace Go.Ev

section
variable (cx : Cx)
/-- The code comes to an end, whatever fuel there is beyond some. -/
def EW (ro : Bool) (c : Code) (e : Env) (H : Hp) (Q : Ex → Env → Hp → Prop) : Prop :=
  ∃ x e' H', (∃ N, ∀ n, N ≤ n → evCode cx drawn (evFn cx drawn n) n ro c e H = some (x, e', H')) ∧ Q x e' H'
def EO (all l : List Oper) (e : Env) (H : Hp) (Q : Ex → Env → Hp → Prop) : Prop :=
  ∃ x e' H', (∃ N, ∀ n, N ≤ n → evOps cx (evFn cx drawn n) all l e H = some (x, e', H')) ∧ Q x e' H'
def EU (all l : List Oper) (e : Env) (H : Hp) (Q : Env → Hp → Prop) : Prop :=
  ∃ e' H', (∃ N, ∀ n, N ≤ n → evQuiet cx (evFn cx drawn n) all l e H = some (.normal, e', H')) ∧ Q e' H'
def EF (f : Tg) (args : List V) (H : Hp) (R : Rz → Prop) : Prop :=
  ∃ rz, (∃ N, ∀ n, N ≤ n → evFn cx drawn n f args H = some rz) ∧ R rz
def EP (o : Oper) (e : Env) (H : Hp) (R : Rz → Prop) : Prop :=
  ∃ rz, (∃ N, ∀ n, N ≤ n → evOp cx (evFn cx drawn n) o e H = some rz) ∧ R rz
/-- Where the code goes on. -/
def thenX (K : Env → Hp → Prop) (Q : Ex → Env → Hp → Prop) : Ex → Env → Hp → Prop
  | .normal, e, H => K e H
  | x, e, H => Q x e H
def blockX (id : Nat) (Q : Ex → Env → Hp → Prop) : Ex → Env → Hp → Prop
  | .exit id', e, H => if id' = id then Q .normal e H else Q (.exit id') e H
  | x, e, H => Q x e H
end

section
variable {cx : Cx} {ro : Bool} {e e' : Env} {H H' : Hp} {Q : Ex → Env → Hp → Prop} {all r : List Oper} {o : Oper} {v : V}

theorem EW.mono {c : Code} {Q' : Ex → Env → Hp → Prop} (h : EW cx ro c e H Q) (hq : ∀ x e H, Q x e H → Q' x e H) : EW cx ro c e H Q' := by
  obtain ⟨x, e', H', h1, h2⟩ := h; exact ⟨x, e', H', h1, hq _ _ _ h2⟩
theorem EF.mono {f : Tg} {args : List V} {R R' : Rz → Prop} (h : EF cx f args H R) (hr : ∀ rz, R rz → R' rz) : EF cx f args H R' := by
  obtain ⟨rz, h1, h2⟩ := h; exact ⟨rz, h1, hr _ h2⟩
theorem EW.skip (h : Q .normal e H) : EW cx ro .skip e H Q := ⟨_, _, _, ⟨0, fun n _ => rfl⟩, h⟩
theorem EW.exit {id : Nat} (h : Q (.exit id) e H) : EW cx ro (.exit id) e H Q := ⟨_, _, _, ⟨0, fun n _ => rfl⟩, h⟩
theorem EW.ret (h : Q .ret e H) : EW cx ro .ret e H Q := ⟨_, _, _, ⟨0, fun n _ => rfl⟩, h⟩
theorem EW.seq {a b : Code} (h : EW cx ro a e H (thenX (fun e H => EW cx ro b e H Q) Q)) : EW cx ro (.seq a b) e H Q := by
  obtain ⟨x, e1, H1, ⟨N, h1⟩, h2⟩ := h
  cases x with
  | normal =>
    obtain ⟨x, e2, H2, ⟨M, h3⟩, h4⟩ := h2
    exact ⟨x, e2, H2, ⟨max N M, fun n hn => by simp only [evCode]; rw [h1 n (by omega)]; exact h3 n (by omega)⟩, h4⟩
  | exit id => exact ⟨_, e1, H1, ⟨N, fun n hn => by simp only [evCode]; rw [h1 n hn]⟩, h2⟩
  | ret => exact ⟨_, e1, H1, ⟨N, fun n hn => by simp only [evCode]; rw [h1 n hn]⟩, h2⟩
  | pan v => exact ⟨_, e1, H1, ⟨N, fun n hn => by simp only [evCode]; rw [h1 n hn]⟩, h2⟩
theorem EW.cond {c : Operand} {a b : Code} {t : Bool} (hc : evx cx e c = some (.p (.bool t))) (ha : t = true → EW cx ro a e H Q) (hb : t = false → EW cx ro b e H Q) : EW cx ro (.cond c a b) e H Q := by
  cases t with
  | true => obtain ⟨x, e1, H1, ⟨N, h1⟩, h2⟩ := ha rfl; exact ⟨x, e1, H1, ⟨N, fun n hn => by simp only [evCode, hc]; exact h1 n hn⟩, h2⟩
  | false => obtain ⟨x, e1, H1, ⟨N, h1⟩, h2⟩ := hb rfl; exact ⟨x, e1, H1, ⟨N, fun n hn => by simp only [evCode, hc]; exact h1 n hn⟩, h2⟩
theorem EW.block {id : Nat} {c : Code} (h : EW cx ro c e H (blockX id Q)) : EW cx ro (.block id c) e H Q := by
  obtain ⟨x, e1, H1, ⟨N, h1⟩, h2⟩ := h
  cases x with
  | exit id' =>
    simp only [blockX] at h2
    by_cases hid : id' = id
    · rw [if_pos hid] at h2
      exact ⟨_, e1, H1, ⟨N, fun n hn => by simp only [evCode]; rw [h1 n hn]; simp only [hid, if_true]⟩, h2⟩
    · rw [if_neg hid] at h2
      exact ⟨_, e1, H1, ⟨N, fun n hn => by simp only [evCode]; rw [h1 n hn]; simp only [hid, if_false]⟩, h2⟩
  | normal => exact ⟨_, e1, H1, ⟨N, fun n hn => by simp only [evCode]; rw [h1 n hn]⟩, h2⟩
  | ret => exact ⟨_, e1, H1, ⟨N, fun n hn => by simp only [evCode]; rw [h1 n hn]⟩, h2⟩
  | pan v => exact ⟨_, e1, H1, ⟨N, fun n hn => by simp only [evCode]; rw [h1 n hn]⟩, h2⟩
theorem EW.loop {c : Code} (I : Nat → Env → Hp → Prop) (m : Nat) (h0 : I m e H) (h : ∀ m e H, I m e H → EW cx ro c e H (thenX (fun e' H' => ∃ m', m' < m ∧ I m' e' H') Q)) : EW cx ro (.loop c) e H Q := by
  have key : ∀ m e H, I m e H → ∃ x e' H', (∃ N, ∀ n, N ≤ n → ∀ k, N ≤ k → iter (evCode cx drawn (evFn cx drawn n) n ro c) k e H = some (x, e', H')) ∧ Q x e' H' := by
    intro m
    induction m using Nat.strongRecOn with
    | _ m ih =>
      intro e H hI
      obtain ⟨x, e1, H1, ⟨N, h1⟩, h2⟩ := h m e H hI
      have un : ∀ k, N + 1 ≤ k → ∃ j, k = j + 1 ∧ N ≤ j := fun k hk => ⟨k - 1, by omega, by omega⟩
      cases x with
      | normal =>
        obtain ⟨m', hm, hI'⟩ := h2
        obtain ⟨x, e2, H2, ⟨M, h3⟩, h4⟩ := ih m' hm e1 H1 hI'
        refine ⟨x, e2, H2, ⟨max N M + 1, fun n hn k hk => ?_⟩, h4⟩
        obtain ⟨j, rfl, hj⟩ := un k (by omega)
        simp only [iter]
        rw [h1 n (by omega)]
        exact h3 n (by omega) j (by omega)
      | exit id => exact ⟨_, e1, H1, ⟨N + 1, fun n hn k hk => by obtain ⟨j, rfl, hj⟩ := un k hk; simp only [iter]; rw [h1 n (by omega)]⟩, h2⟩
      | ret => exact ⟨_, e1, H1, ⟨N + 1, fun n hn k hk => by obtain ⟨j, rfl, hj⟩ := un k hk; simp only [iter]; rw [h1 n (by omega)]⟩, h2⟩
      | pan v => exact ⟨_, e1, H1, ⟨N + 1, fun n hn k hk => by obtain ⟨j, rfl, hj⟩ := un k hk; simp only [iter]; rw [h1 n (by omega)]⟩, h2⟩
  obtain ⟨x, e1, H1, ⟨N, h1⟩, h2⟩ := key m e H h0
  exact ⟨x, e1, H1, ⟨N, fun n hn => by simp only [evCode]; exact h1 n hn n hn⟩, h2⟩
theorem EW.region {id : Nat} {ops : Array Oper} (h : EO cx ops.toList ops.toList e H Q) : EW cx ro (.region id ops false) e H Q := by
  obtain ⟨x, e1, H1, ⟨N, h1⟩, h2⟩ := h
  exact ⟨x, e1, H1, ⟨N, fun n hn => by simp only [evCode]; exact h1 n hn⟩, h2⟩
theorem EW.draw {id : Nat} {ops : Array Oper} (t : Nat) (ht : drawn ops.toList = some t) (h : EU cx ops.toList (ops.toList.take t) e H (fun e H => EO cx ops.toList (ops.toList.drop t) e H Q)) : EW cx ro (.region id ops true) e H Q := by
  obtain ⟨e1, H1, ⟨N, h1⟩, x, e2, H2, ⟨M, h3⟩, h4⟩ := h
  exact ⟨x, e2, H2, ⟨max N M, fun n hn => by simp only [evCode, ht]; rw [h1 n (by omega)]; exact h3 n (by omega)⟩, h4⟩

theorem EO.nil (h : Q .normal e H) : EO cx all [] e H Q := ⟨_, _, _, ⟨0, fun n _ => rfl⟩, h⟩
theorem EO.op (hw : wantB all e o = some true) (h : EP cx o e H (fun | .ok v H => EO cx all r (putD e o.dst v) H Q | .pan v H => Q (.pan v) e H)) : EO cx all (o :: r) e H Q := by
  obtain ⟨rz, ⟨N, h1⟩, h2⟩ := h
  cases rz with
  | ok v H1 =>
    obtain ⟨x, e2, H2, ⟨M, h3⟩, h4⟩ := h2
    exact ⟨x, e2, H2, ⟨max N M, fun n hn => by simp only [evOps, hw]; rw [h1 n (by omega)]; exact h3 n (by omega)⟩, h4⟩
  | pan v H1 => exact ⟨_, e, H1, ⟨N, fun n hn => by simp only [evOps, hw]; rw [h1 n hn]⟩, h2⟩
theorem EO.off (hw : wantB all e o = some false) (h : EO cx all r (putD e o.dst (.p .undef)) H Q) : EO cx all (o :: r) e H Q := by
  obtain ⟨x, e2, H2, ⟨M, h3⟩, h4⟩ := h
  exact ⟨x, e2, H2, ⟨M, fun n hn => by simp only [evOps, hw]; exact h3 n hn⟩, h4⟩
/-- An operation that calls nothing. -/
theorem EO.one (H' : Hp) (v : V) (hw : wantB all e o = some true) (h : ∀ call, evOp cx call o e H = some (.ok v H')) (k : EO cx all r (putD e o.dst v) H' Q) : EO cx all (o :: r) e H Q :=
  EO.op hw ⟨_, ⟨0, fun n _ => h _⟩, k⟩
/-- Many that call nothing. -/
theorem EO.many {l : List Oper} (e' : Env) (H' : Hp) (h : ∀ call, evOps cx call all l e H = some (.normal, e', H')) (k : Q .normal e' H') : EO cx all l e H Q :=
  ⟨_, _, _, ⟨0, fun n _ => h _⟩, k⟩
theorem EO.mono {l : List Oper} {Q' : Ex → Env → Hp → Prop} (h : EO cx all l e H Q) (hq : ∀ x e H, Q x e H → Q' x e H) : EO cx all l e H Q' := by
  obtain ⟨x, e', H', h1, h2⟩ := h; exact ⟨x, e', H', h1, hq _ _ _ h2⟩
theorem evOps_append {call : CallT} : ∀ (l r : List Oper) (e : Env) (H : Hp), evOps cx call all (l ++ r) e H = match evOps cx call all l e H with | some (.normal, e, H) => evOps cx call all r e H | x => x
  | [], r, e, H => by simp [evOps]
  | o :: l, r, e, H => by
    simp only [List.cons_append, evOps]
    cases wantB all e o with
    | none => rfl
    | some b => cases b with
      | false => exact evOps_append l r _ _
      | true =>
        simp only
        cases evOp cx call o e H with
        | none => rfl
        | some rz => cases rz with
          | ok v H1 => exact evOps_append l r _ _
          | pan v H1 => rfl
theorem EO.split (m : Nat) {l : List Oper} (h : EO cx all (l.take m) e H (thenX (fun e H => EO cx all (l.drop m) e H Q) Q)) : EO cx all l e H Q := by
  obtain ⟨x, e1, H1, ⟨N, h1⟩, h2⟩ := h
  have happ := fun n => evOps_append (cx := cx) (all := all) (call := evFn cx drawn n) (l.take m) (l.drop m) e H
  rw [List.take_append_drop] at happ
  cases x with
  | normal =>
    obtain ⟨x, e2, H2, ⟨M, h3⟩, h4⟩ := h2
    exact ⟨x, e2, H2, ⟨max N M, fun n hn => by rw [happ, h1 n (by omega)]; exact h3 n (by omega)⟩, h4⟩
  | exit id => exact ⟨_, e1, H1, ⟨N, fun n hn => by rw [happ, h1 n hn]⟩, h2⟩
  | ret => exact ⟨_, e1, H1, ⟨N, fun n hn => by rw [happ, h1 n hn]⟩, h2⟩
  | pan v => exact ⟨_, e1, H1, ⟨N, fun n hn => by rw [happ, h1 n hn]⟩, h2⟩
theorem EU.nil {Q : Env → Hp → Prop} (h : Q e H) : EU cx all [] e H Q := ⟨_, _, ⟨0, fun n _ => rfl⟩, h⟩
theorem EU.op {Q : Env → Hp → Prop} (hw : wantB all e o = some true) (h : EP cx o e { H with low := H.next } (fun | .ok v H' => EU cx all r (putD e o.dst v) { H' with low := H.low } Q | .pan v H' => False)) : EU cx all (o :: r) e H Q := by
  obtain ⟨rz, ⟨N, h1⟩, h2⟩ := h
  cases rz with
  | ok v H1 =>
    obtain ⟨e2, H2, ⟨M, h3⟩, h4⟩ := h2
    exact ⟨e2, H2, ⟨max N M, fun n hn => by simp only [evQuiet, hw]; rw [h1 n (by omega)]; exact h3 n (by omega)⟩, h4⟩
  | pan v H1 => exact h2.elim
theorem EU.off {Q : Env → Hp → Prop} (hw : wantB all e o = some false) (h : EU cx all r (putD e o.dst (.p .undef)) H Q) : EU cx all (o :: r) e H Q := by
  obtain ⟨e2, H2, ⟨M, h3⟩, h4⟩ := h
  exact ⟨e2, H2, ⟨M, fun n hn => by simp only [evQuiet, hw]; exact h3 n hn⟩, h4⟩
theorem EU.one {Q : Env → Hp → Prop} (H' : Hp) (v : V) (hw : wantB all e o = some true) (h : ∀ call, evOp cx call o e { H with low := H.next } = some (.ok v H')) (k : EU cx all r (putD e o.dst v) { H' with low := H.low } Q) : EU cx all (o :: r) e H Q :=
  EU.op hw ⟨_, ⟨0, fun n _ => h _⟩, k⟩

theorem EP.call {c : Call} {ty : TypeId} {d : Option Tmp} {pos : String} {af : Array Edge} {gd : Option (Nat × Bool)} {x : Operand} {f : FuncId} {args a b : List V} {R : Rz → Prop} (hc : c.callee = .value x) (ha : evxs cx e c.args.toList = some args)
    (hx : evx cx e x = some (.func f a b)) (h : EF cx (.f f) (a ++ args ++ b) H R) : EP cx ⟨d, .call c, ty, pos, af, gd⟩ e H R := by
  obtain ⟨rz, ⟨N, h1⟩, h2⟩ := h
  exact ⟨rz, ⟨N, fun n hn => by simp only [evOp, ha, hc, hx]; exact h1 n hn⟩, h2⟩
theorem EP.callp {c : Call} {ty : TypeId} {d : Option Tmp} {pos : String} {af : Array Edge} {gd : Option (Nat × Bool)} {x : Operand} {f : FuncId} {args : List V} {a b : List PV} {R : Rz → Prop} (hc : c.callee = .value x) (ha : evxs cx e c.args.toList = some args)
    (hx : evx cx e x = some (.p (.func f a b))) (h : EF cx (.f f) (a.map .p ++ args ++ b.map .p) H R) : EP cx ⟨d, .call c, ty, pos, af, gd⟩ e H R := by
  obtain ⟨rz, ⟨N, h1⟩, h2⟩ := h
  exact ⟨rz, ⟨N, fun n hn => by simp only [evOp, ha, hc, hx]; exact h1 n hn⟩, h2⟩

theorem EP.yield {c : Call} {ty : TypeId} {d : Option Tmp} {pos : String} {af : Array Edge} {gd : Option (Nat × Bool)} {x : Operand} {id : Nat} {args : List V} {R : Rz → Prop} (hc : c.callee = .value x) (ha : evxs cx e c.args.toList = some args)
    (hx : evx cx e x = some (.yield id)) (h : EF cx (.y id) args H R) : EP cx ⟨d, .call c, ty, pos, af, gd⟩ e H R := by
  obtain ⟨rz, ⟨N, h1⟩, h2⟩ := h
  exact ⟨rz, ⟨N, fun n hn => by simp only [evOp, ha, hc, hx]; exact h1 n hn⟩, h2⟩
/-- What is asked where the function that was ranged over is through. -/
def loopX (e : Env) (id : Nat) (Q : Ex → Env → Hp → Prop) : Rz → Prop
  | .ok _ H => ∃ x e' H', afterLoop e H id = some (x, e', H') ∧ Q x e' H'
  | .pan v H => Q (.pan v) e H
theorem EW.rangeFunc {x : Operand} {ps : Array Tmp} {assign body : Code} {f : FuncId} {a b : List V} (hx : evIt cx e x = some (f, a, b))
    (h : EF cx (.f f) (a ++ [.yield H.next] ++ b) (H.new (.loop e ps.toList assign body .ready none)) (loopX e H.next Q)) : EW cx false (.rangeFunc x ps assign body) e H Q := by
  obtain ⟨rz, ⟨N, h1⟩, h2⟩ := h
  cases rz with
  | ok v H2 =>
    obtain ⟨x, e1, H1, h3, h4⟩ := h2
    exact ⟨x, e1, H1, ⟨N, fun n hn => by simp only [evCode, hx, Bool.false_eq_true, if_false]; rw [h1 n hn]; exact h3⟩, h4⟩
  | pan v H2 => exact ⟨_, e, H2, ⟨N, fun n hn => by simp only [evCode, hx, Bool.false_eq_true, if_false]; rw [h1 n hn]⟩, h2⟩
/-- What is asked at a round's end. -/
def roundX (id : Nat) (R : Rz → Prop) : Ex → Env → Hp → Prop
  | .normal, _, H => ∃ rz, endRound H id none = some rz ∧ R rz
  | .ret, _, H => ∃ rz, endRound H id (some .ret) = some rz ∧ R rz
  | .exit i, _, H => ∃ rz, endRound H id (some (.exit i)) = some rz ∧ R rz
  | .pan _, _, _ => False
def beganX (cx : Cx) (id : Nat) (body : Code) (R : Rz → Prop) (e : Env) (H : Hp) : Prop :=
  match H.obj id with
  | .loop env ps as bd .ready pend => EW cx true body e (H.set id (.loop env ps as bd .busy pend)) (roundX id R)
  | _ => False
theorem EF.round {id : Nat} {args : List V} {env : List V} {ps : List Tmp} {assign body : Code} {pend : Option Code} {R : Rz → Prop} (ho : H.obj id = .loop env ps assign body .ready pend) (hlow : H.low ≤ id) (hlen : args.length = ps.length)
    (h : EW cx true assign (setPs env ps args) H (thenX (beganX cx id body R) (fun _ _ _ => False))) : EF cx (.y id) args H R := by
  obtain ⟨x, e1, H1, ⟨N, h1⟩, h2⟩ := h
  cases x with
  | normal =>
    simp only [thenX, beganX] at h2
    split at h2
    · rename_i env' ps' as' bd' pend' hobj
      obtain ⟨x2, e2, H2, ⟨M, h3⟩, h4⟩ := h2
      have un : ∀ n, max N M + 1 ≤ n → ∃ m, n = m + 1 ∧ N ≤ m ∧ M ≤ m := fun n hn => ⟨n - 1, by omega, by omega, by omega⟩
      have hc : ¬ (id < H.low ∨ args.length ≠ ps.length) := by omega
      cases x2 with
      | normal =>
        obtain ⟨rz, h5, h6⟩ := h4
        refine ⟨rz, ⟨max N M + 1, fun n hn => ?_⟩, h6⟩
        obtain ⟨m, rfl, hm1, hm2⟩ := un n hn
        simp only [evFn, evRound, ho]
        rw [if_neg hc, h1 m hm1]
        simp only [hobj]
        rw [h3 m hm2]
        exact h5
      | ret =>
        obtain ⟨rz, h5, h6⟩ := h4
        refine ⟨rz, ⟨max N M + 1, fun n hn => ?_⟩, h6⟩
        obtain ⟨m, rfl, hm1, hm2⟩ := un n hn
        simp only [evFn, evRound, ho]
        rw [if_neg hc, h1 m hm1]
        simp only [hobj]
        rw [h3 m hm2]
        exact h5
      | exit i =>
        obtain ⟨rz, h5, h6⟩ := h4
        refine ⟨rz, ⟨max N M + 1, fun n hn => ?_⟩, h6⟩
        obtain ⟨m, rfl, hm1, hm2⟩ := un n hn
        simp only [evFn, evRound, ho]
        rw [if_neg hc, h1 m hm1]
        simp only [hobj]
        rw [h3 m hm2]
        exact h5
      | pan v => exact h4.elim
    · exact h2.elim
  | exit i => exact h2.elim
  | ret => exact h2.elim
  | pan v => exact h2.elim

/-- What is asked at the end of a function's body. -/
def bodyX (cx : Cx) (fn : Func) (R : Rz → Prop) : Ex → Env → Hp → Prop
  | .normal, e, H | .ret, e, H => ∃ v, result cx fn e H = some v ∧ R (.ok v H)
  | .pan v, _, H => R (.pan v H)
  | _, _, _ => False
theorem EW.body {fn : Func} {c : Code} {args : List V} {R : Rz → Prop} (h : EW cx false c (pad args fn.ntmps) H (bodyX cx fn R)) : ∃ rz, (∃ N, ∀ n, N ≤ n → evBody cx drawn (evFn cx drawn n) n fn c args H = some rz) ∧ R rz := by
  obtain ⟨x, e1, H1, ⟨N, h1⟩, h2⟩ := h
  cases x with
  | normal => obtain ⟨v, hv, hR⟩ := h2; exact ⟨_, ⟨N, fun n hn => by unfold evBody; rw [h1 n hn]; simp only [hv]⟩, hR⟩
  | ret => obtain ⟨v, hv, hR⟩ := h2; exact ⟨_, ⟨N, fun n hn => by unfold evBody; rw [h1 n hn]; simp only [hv]⟩, hR⟩
  | pan v => exact ⟨_, ⟨N, fun n hn => by unfold evBody; rw [h1 n hn]⟩, h2⟩
  | exit id => exact h2.elim
theorem EF.shared {f : FuncId} {fn : Func} {c : Code} {args : List V} {R : Rz → Prop} (ho : cx.orc f = none) (hf : cx.fn f = some fn) (hb : fn.body = some c) (hs : cx.sh f = true) (h : EW cx false c (pad args fn.ntmps) H (bodyX cx fn R)) : EF cx (.f f) args H R := by
  obtain ⟨rz, ⟨N, h1⟩, h2⟩ := EW.body h
  refine ⟨rz, ⟨N + 1, fun n hn => ?_⟩, h2⟩
  obtain ⟨m, rfl⟩ : ∃ m, n = m + 1 := ⟨n - 1, by omega⟩
  simp only [evFn, ho, hf, hb, hs, if_true]
  exact h1 m (by omega)
/-- A function by itself: what it takes is frozen, what it answers too. -/
theorem EF.alone {f : FuncId} {fn : Func} {c : Code} {args : List V} {ps : List PV} {H1 : Hp} {R : Rz → Prop} (ho : cx.orc f = none) (hf : cx.fn f = some fn) (hb : fn.body = some c) (hs : cx.sh f = false) (ha : res1s args H = some (ps, H1))
    (h : EW cx false c (pad ((nrmL ps).map .p) fn.ntmps) Hp.empty (bodyX cx fn (fun | .ok v H2 => (match res2 v H2 with | some (x, _) => R (.ok (.p (nrm x)) H1) | none => False) | .pan (.p x) _ => R (.pan (.p x) H1) | .pan _ _ => False))) : EF cx (.f f) args H R := by
  obtain ⟨rz, ⟨N, h1⟩, h2⟩ := EW.body h
  have un : ∀ n, N + 1 ≤ n → ∃ m, n = m + 1 ∧ N ≤ m := fun n hn => ⟨n - 1, by omega, by omega⟩
  cases rz with
  | ok v H2 =>
    simp only at h2
    cases hr : res2 v H2 with
    | none => rw [hr] at h2; exact h2.elim
    | some xh =>
      obtain ⟨x, H3⟩ := xh
      rw [hr] at h2
      refine ⟨_, ⟨N + 1, fun n hn => ?_⟩, h2⟩
      obtain ⟨m, rfl, hm⟩ := un n hn
      simp only [evFn, ho, hf, hb, hs, ha, Bool.false_eq_true, if_false]
      rw [h1 m hm]
      simp only [hr]
  | pan v H2 =>
    cases v with
    | p x =>
      refine ⟨_, ⟨N + 1, fun n hn => ?_⟩, h2⟩
      obtain ⟨m, rfl, hm⟩ := un n hn
      simp only [evFn, ho, hf, hb, hs, ha, Bool.false_eq_true, if_false]
      rw [h1 m hm]
    | _ => exact h2.elim
/-- By what it answers at some fuel that reckoning shows. -/
theorem EF.some_fuel {f : Tg} {args : List V} {R : Rz → Prop} {rz : Rz} (N : Nat) (h : ∀ n, N ≤ n → evFn cx drawn n f args H = some rz) (hR : R rz) : EF cx f args H R := ⟨rz, ⟨N, h⟩, hR⟩
end
end Go.Ev
