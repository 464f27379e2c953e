/- The evaluator of code and functions; every operation is sound. -/
import Derived.Test.YtejeplcandhgdaaDoorEvN
import Derived.RangeFuncIn
import Derived.RangeFuncCalls
import Derived.TacticsIn
import Derived.OrdersIn
import Derived.LoopNIn
set_option linter.unusedVariables false
set_option linter.unusedSimpArgs false
namespace Go.Ev

def Rz.hp : Rz → Hp
  | .ok _ H => H
  | .pan _ H => H

section
variable (cx : Cx) (P : Program)
/-- What a call ends with. -/
def Post (g : G) (H : Hp) (w : World) : Rz → Ending → World → Prop
  | .ok v H', e, w' => ∃ c g', e = .returned c ∧ St cx g H w g' H' w' ∧ VR g' v c
  | .pan v H', e, w' => ∃ c g', e = .panicked [{ v := c, recovered := false }] ∧ St cx g H w g' H' w' ∧ VR g' v c
def ArgsR (g : G) (args : List V) (cs : Array Value) : Prop := cs.size = args.length ∧ ∀ i v, args[i]? = some v → VR g v (cs.getD i Go.undef)
def Enters (P : Program) (f : FuncId) : Prop := ∀ args w, (callFunc f args).run P w = .ok (.enter f args) w
/-- A fence that fences nothing: an activation's own frame, or a round's. -/
def RF (ro : Option Nat) : Fence := { Fence.wide with round := ro }
structure CallOK (call : CallT) : Prop where
  f : ∀ f args H rz, call (.f f) args H = some rz → Enters P f ∧ ∀ g w cs, Rel cx g H w → Hok H → Free g H rz.hp → ArgsR g args cs → Calls P f cs w (Post cx g H w rz)
  y : ∀ id args H rz, call (.y id) args H = some rz → ∀ g w cs, Rel cx g H w → Hok H → Free g H rz.hp → ArgsR g args cs →
    ∀ l : Loc, g.loc id = some l → ∃ fn tmps assign body, (Instr.yield l.b cs).run P w = .ok (.round l.b fn tmps assign body) w ∧ RoundIn Fence.wide 0 P l.b fn tmps assign body w (Post cx g H w rz)
end

section
variable {cx : Cx} {P : Program} {g : G} {H H' : Hp} {w : World} {e : Env} {a : Act} {o : Oper} {call : CallT} {v : V}

theorem builtin_run (s : Sem Value) {c : Value} {w' : World} (b : Builtin) (ts : Array TypeId) (ty : TypeId) (cs : Array Bool) (args : Array Value) (hb : builtin b ts ty cs args = (do pure (.value (← s)) : Sem Next)) (h : s.run P w = .ok c w') :
    (builtin b ts ty cs args).run P w = .ok (.value c) w' := by rw [hb]; exact run_v _ h

theorem minInts_ok (m : Bool) (k : IntKind) : ∀ (x : Int) (l : List V) (r : PV) (cs : List Value), minInts m k x l = some r → cs.length = l.length → (∀ i v, l[i]? = some v → VR g v (cs.getD i Go.undef)) →
    ∀ w, ∃ c, (cs.foldlM (if m then Builtin.min2 else Builtin.max2) (.int k x)).run P w = .ok c w ∧ PR g.im r c
  | x, [], r, cs, h, hl, hv, w => by
    simp [minInts] at h; subst h
    have : cs = [] := List.eq_nil_of_length_eq_zero hl
    subst this
    exact ⟨.int k x, by simp, .int _ _⟩
  | x, u :: l, r, [], h, hl, hv, w => by simp at hl
  | x, u :: l, r, c :: cs, h, hl, hv, w => by
    cases u with
    | p u =>
      cases u with
      | int k' b =>
        have h0 := (hv 0 _ rfl)
        simp at h0
        have hc := h0.int
        subst hc
        simp only [minInts] at h
        cases m with
        | true =>
          simp only [if_true] at h
          obtain ⟨c', h1, h2⟩ := minInts_ok true k _ l r cs h (by simpa using hl) (fun i v hi => by simpa using hv (i + 1) v (by simpa using hi)) w
          refine ⟨c', ?_, h2⟩
          simp only [if_true, List.foldlM_cons, Sem.run_bind, Builtin.min2, Sem.run_pure, Result.andThen_ok] at h1 ⊢
          exact h1
        | false =>
          simp only [Bool.false_eq_true, if_false] at h
          obtain ⟨c', h1, h2⟩ := minInts_ok false k _ l r cs h (by simpa using hl) (fun i v hi => by simpa using hv (i + 1) v (by simpa using hi)) w
          refine ⟨c', ?_, h2⟩
          simp only [Bool.false_eq_true, if_false, List.foldlM_cons, Sem.run_bind, Builtin.max2, Sem.run_pure, Result.andThen_ok] at h1 ⊢
          exact h1
      | _ => simp [minInts] at h
    | _ => simp [minInts] at h

theorem lenV_ok {u : V} {n : Nat} {c : Value} (h : lenV u = some n) (hv : VR g u c) : ∃ ad cap, c = .slice ad n cap := by
  unfold lenV at h
  split at h
  · injection h with h; subst h; obtain ⟨ad, rfl⟩ := hv.pp.nils_inv; exact ⟨_, _, rfl⟩
  · injection h with h; subst h
    rcases hv.pp.sl_inv with ⟨rfl, ad, k, rfl⟩ | ⟨b, oo, sz, us, cap, _, _, rfl⟩
    · exact ⟨_, _, rfl⟩
    · exact ⟨_, _, rfl⟩
  · injection h with h; subst h; obtain ⟨l, _, _, rfl⟩ := hv.own_inv; exact ⟨_, _, rfl⟩
  · cases h

theorem evBuiltin_ok (hT : TYok P cx) (hr : Rel cx g H w) (ho : Hok H) {b : Builtin} {ts : Array TypeId} {args : List V} {cs : Array Value} (ha : ArgsR g args cs) (ty : TypeId) (consts : Array Bool) {rz : Rz} (hf : Free g H rz.hp) (h : evBuiltin cx b ts.toList args H = some rz) :
    ∃ v H' c g' w', rz = .ok v H' ∧ (builtin b ts ty consts cs).run P w = .ok (.value c) w' ∧ St cx g H w g' H' w' ∧ VR g' v c := by
  unfold evBuiltin at h
  split at h
  · rename_i t tr x xr hts
    have hc0 : cs[0]? = some (cs.getD 0 Go.undef) := by
      have := ha.1
      simp at this
      have : 0 < cs.size := by omega
      simp [Array.getD_eq_getD_getElem?, this]
    have hx := ha.2 0 x rfl
    have ht0 : ts[0]? = some t := by rw [← Array.getElem?_toList, hts]; rfl
    split at h
    · rename_i d hd
      have hu := hT.und hd w
      split at h
      · rename_i hdd
        split at h
        · rename_i s
          injection h with h; subst h
          have hq := hx.str
          refine ⟨_, _, _, g, w, rfl, builtin_run _ .len ts ty consts cs rfl (c := .int .i64 s.size) ?_, St.refl hr ho, .mkInt⟩
          unfold Builtin.len_
          rw [ht0, hc0, hq]
          rw [hdd] at hu
          simp only [Sem.run_bind, hu, Result.andThen_ok, Sem.run_pure, goInt]
        · cases h
      · rename_i el hdd
        split at h
        · rename_i n hn
          injection h with h; subst h
          obtain ⟨ad, cap, hq⟩ := lenV_ok hn hx
          refine ⟨_, _, _, g, w, rfl, builtin_run _ .len ts ty consts cs rfl (c := .int .i64 n) ?_, St.refl hr ho, .mkInt⟩
          unfold Builtin.len_
          rw [ht0, hc0, hq]
          rw [hdd] at hu
          simp only [Sem.run_bind, hu, Result.andThen_ok, Sem.run_pure, goInt]
        · cases h
      · rename_i k el hdd
        injection h with h; subst h
        refine ⟨_, _, _, g, w, rfl, builtin_run _ .len ts ty consts cs rfl (c := .int .i64 k) ?_, St.refl hr ho, .mkInt⟩
        unfold Builtin.len_
        rw [ht0, hc0]
        rw [hdd] at hu
        simp only [Sem.run_bind, hu, Result.andThen_ok, Sem.run_pure, goInt]
      · cases h
    · cases h
  · rename_i t tr xr hts
    have hc0 : cs[0]? = some (cs.getD 0 Go.undef) := by
      have := ha.1
      simp at this
      have : 0 < cs.size := by omega
      simp [Array.getD_eq_getD_getElem?, this]
    have hx := ha.2 0 (.p .nils) rfl
    have ht0 : ts[0]? = some t := by rw [← Array.getElem?_toList, hts]; rfl
    split at h
    · rename_i d hd
      have hu := hT.und hd w
      split at h
      · rename_i el hdd
        injection h with h; subst h
        obtain ⟨ad, hq⟩ := hx.pp.nils_inv
        refine ⟨_, _, _, g, w, rfl, builtin_run _ .cap ts ty consts cs rfl (c := .int .i64 0) ?_, St.refl hr ho, .mkInt⟩
        unfold Builtin.cap_
        rw [ht0, hc0, hq]
        rw [hdd] at hu
        simp only [Sem.run_bind, hu, Result.andThen_ok, Sem.run_pure, goInt]
        rfl
      · cases h
    · cases h
  · rename_i t t' s x hts
    split at h
    · rename_i htt
      subst htt
      split at h
      · rename_i u H1 hap
        injection h with h; subst h
        have hts' : ts = #[t, t] := by apply Array.ext'; simpa using hts
        have hcs : cs = #[cs.getD 0 Go.undef, cs.getD 1 Go.undef] := by
          have hsz := ha.1
          simp at hsz
          apply Array.ext
          · simp [hsz]
          · intro i h1 h2
            simp at h2
            match i, h2 with
            | 0, _ => simp [Array.getD_eq_getD_getElem?, hsz]
            | 1, _ => simp [Array.getD_eq_getD_getElem?, hsz]
        obtain ⟨c, g', w', q1, q2, q3⟩ := append_run hT hr ho hf (ha.2 0 s rfl) (ha.2 1 x rfl) ty hap
        refine ⟨_, _, c, g', w', rfl, ?_, q2, q3⟩
        subst hts'
        rw [hcs]
        exact builtin_run _ .append _ ty consts _ rfl q1
      · cases h
    · rename_i htt
      split at h
      · rename_i u H1 hap
        injection h with h; subst h
        have hts' : ts = #[t, t'] := by apply Array.ext'; simpa using hts
        have hcs : cs = #[cs.getD 0 Go.undef, cs.getD 1 Go.undef] := by
          have hsz := ha.1
          simp at hsz
          apply Array.ext
          · simp [hsz]
          · intro i h1 h2
            simp at h2
            match i, h2 with
            | 0, _ => simp [Array.getD_eq_getD_getElem?, hsz]
            | 1, _ => simp [Array.getD_eq_getD_getElem?, hsz]
        obtain ⟨c, g', w', q1, q2, q3⟩ := append0_run hT hr ho hf (ha.2 0 s rfl) (ha.2 1 x rfl) ty hap
        refine ⟨_, _, c, g', w', rfl, ?_, q2, q3⟩
        subst hts'
        rw [hcs]
        exact builtin_run _ .append _ ty consts _ rfl q1
      · cases h
  · rename_i k x r
    split at h
    · rename_i u hu
      injection h with h; subst h
      have hsz := ha.1
      have h0 := (ha.2 0 _ rfl).int
      obtain ⟨c, q1, q2⟩ := minInts_ok (g := g) true k x r u cs.toList.tail hu (by simp at hsz ⊢; omega) (fun i v hi => by
        have := ha.2 (i + 1) v (by simpa using hi)
        simpa [Array.getD_eq_getD_getElem?, List.getD_eq_getElem?_getD] using this) w
      refine ⟨_, _, c, g, w, rfl, builtin_run _ .min ts ty consts cs rfl ?_, St.refl hr ho, .p q2⟩
      unfold Builtin.min_
      have hl : cs.toList = .int k x :: cs.toList.tail := by
        have hlen : 0 < cs.toList.length := by simp at hsz ⊢; omega
        rw [← h0]
        cases hq : cs.toList with
        | nil => rw [hq] at hlen; cases hlen
        | cons a r =>
          simp only [List.tail_cons]
          rw [Array.getD_eq_getD_getElem?, ← Array.getElem?_toList, hq]; rfl
      rw [hl]
      simpa using q1
    · cases h
  · rename_i k x r
    split at h
    · rename_i u hu
      injection h with h; subst h
      have hsz := ha.1
      have h0 := (ha.2 0 _ rfl).int
      obtain ⟨c, q1, q2⟩ := minInts_ok (g := g) false k x r u cs.toList.tail hu (by simp at hsz ⊢; omega) (fun i v hi => by
        have := ha.2 (i + 1) v (by simpa using hi)
        simpa [Array.getD_eq_getD_getElem?, List.getD_eq_getElem?_getD] using this) w
      refine ⟨_, _, c, g, w, rfl, builtin_run _ .max ts ty consts cs rfl ?_, St.refl hr ho, .p q2⟩
      unfold Builtin.max_
      have hl : cs.toList = .int k x :: cs.toList.tail := by
        have hlen : 0 < cs.toList.length := by simp at hsz ⊢; omega
        rw [← h0]
        cases hq : cs.toList with
        | nil => rw [hq] at hlen; cases hlen
        | cons a r =>
          simp only [List.tail_cons]
          rw [Array.getD_eq_getD_getElem?, ← Array.getElem?_toList, hq]; rfl
      rw [hl]
      simpa using q1
    · cases h
  · cases h

theorem uponIn_of_upon {ro : Option Nat} {r : Result Next} {K : Act → World → Prop} {Q : Exit → Act → World → Prop} (h : o.upon P a K Q r) : o.uponIn (RF ro) 0 P a K Q r := by
  cases r with
  | ok n w' =>
    cases n <;> simp only [Oper.upon] at h <;> simp only [Oper.uponIn]
    case value => exact h
    case skip => exact h
    case defer => exact h
    case enter f args => exact ⟨fun hd => by simp [RF, Fence.wide] at hd, (callsIn_wide (n := 0)).2 h⟩
    case row row args =>
      refine ⟨fun hd => by simp [RF, Fence.wide] at hd, fun c cs _ => ?_⟩
      obtain ⟨v, w2, h1, h2⟩ := h c cs
      exact ⟨v, w2, h1, stepsIn_wide.2 h2⟩
  | halt x w' => cases x <;> simp only [Oper.upon] at h; simp only [Oper.uponIn]; exact h

/-- EVERY OPERATION. -/
theorem evOp_sound (hT : TYok P cx) (hC : CallOK cx P call) (hr : Rel cx g H w) (ho : Hok H) (he : EnvR g e a.tmps) {rz : Rz} (hf : Free g H rz.hp) (h : evOp cx call o e H = some rz)
    {ro : Option Nat} {K : Act → World → Prop} {Q : Exit → Act → World → Prop}
    (hk : ∀ v H' c g' w', rz = .ok v H' → St cx g H w g' H' w' → VR g' v c → K (a.put o.dst c) w')
    (hp : ∀ v H' c g' w', rz = .pan v H' → St cx g H w g' H' w' → VR g' v c → Q (.panic [{ v := c, recovered := false }]) a w') : o.wpIn (RF ro) 0 P a w K Q := by
  have hnd : ∀ c, o.op ≠ .defer c := by intro c hc; simp [evOp, hc] at h
  have fin : ∀ v H', rz = .ok v H' → Does cx P o a g H w v H' → o.wpIn (RF ro) 0 P a w K Q := by
    rintro v H' rfl ⟨c, g', w', hran, hst, hv⟩
    have := hk v H' c g' w' rfl hst hv
    refine ⟨fun _ _ => trivial, ?_⟩
    rw [Oper.semAt_eq _ _ _ hnd]
    rcases hran with hran | ⟨hran, rfl⟩
    · rw [hran]; exact this
    · rw [hran]; exact this
  cases hop : o.op with
  | move x => cases rz with
    | ok v H' => exact fin _ _ rfl (move_ok hr ho he (.inl hop) h)
    | pan v H' => (exfalso; simp only [evOp, hop] at h; (repeat' split at h) <;> cases h)
  | assign x => cases rz with
    | ok v H' => exact fin _ _ rfl (move_ok hr ho he (.inr hop) h)
    | pan v H' => (exfalso; simp only [evOp, hop] at h; (repeat' split at h) <;> cases h)
  | pick c x y => cases rz with
    | ok v H' => exact fin _ _ rfl (pick_ok hr ho he hop h)
    | pan v H' => (exfalso; simp only [evOp, hop] at h; (repeat' split at h) <;> cases h)
  | alloc t => cases rz with
    | ok v H' => exact fin _ _ rfl (alloc_ok hT hr ho hf hop h)
    | pan v H' => (exfalso; simp only [evOp, hop] at h; (repeat' split at h) <;> cases h)
  | box t x => cases rz with
    | ok v H' => exact fin _ _ rfl (box_ok hr ho he hf hop h)
    | pan v H' => (exfalso; simp only [evOp, hop] at h; (repeat' split at h) <;> cases h)
  | build t ps => cases rz with
    | ok v H' => exact fin _ _ rfl (build_ok hT hr ho he hop h)
    | pan v H' => (exfalso; simp only [evOp, hop] at h; (repeat' split at h) <;> cases h)
  | buildSlice t n ps => cases rz with
    | ok v H' => exact fin _ _ rfl (buildSlice_ok hT hr ho he hop h)
    | pan v H' => (exfalso; simp only [evOp, hop] at h; (repeat' split at h) <;> cases h)
  | insert t m k x => cases rz with
    | ok v H' => exact fin _ _ rfl (insert_ok hT hr ho he hop h)
    | pan v H' => (exfalso; simp only [evOp, hop] at h; (repeat' split at h) <;> cases h)
  | load t x => cases rz with
    | ok v H' => exact fin _ _ rfl (load_ok hT hr ho he hop h)
    | pan v H' => (exfalso; simp only [evOp, hop] at h; (repeat' split at h) <;> cases h)
  | store t x y => cases rz with
    | ok v H' => exact fin _ _ rfl (store_ok hT hr ho he hop h)
    | pan v H' => (exfalso; simp only [evOp, hop] at h; (repeat' split at h) <;> cases h)
  | nilCheck x => cases rz with
    | ok v H' => exact fin _ _ rfl (nilCheck_ok hr ho he hop h)
    | pan v H' => (exfalso; simp only [evOp, hop] at h; (repeat' split at h) <;> cases h)
  | binOp op t x y t' => cases rz with
    | ok v H' => exact fin _ _ rfl (binOp_ok hT hr ho he hop h)
    | pan v H' => (exfalso; simp only [evOp, hop] at h; (repeat' split at h) <;> cases h)
  | unOp op t x => cases rz with
    | ok v H' => exact fin _ _ rfl (unOp_ok hr ho he hop h)
    | pan v H' => (exfalso; simp only [evOp, hop] at h; (repeat' split at h) <;> cases h)
  | convert s d x => cases rz with
    | ok v H' => exact fin _ _ rfl (convert_ok hT hr ho he hop h)
    | pan v H' => (exfalso; simp only [evOp, hop] at h; (repeat' split at h) <;> cases h)
  | makeInterface t x => cases rz with
    | ok v H' => exact fin _ _ rfl (makeInterface_ok hT hr ho he hop h)
    | pan v H' => (exfalso; simp only [evOp, hop] at h; (repeat' split at h) <;> cases h)
  | makeFunc f x y => cases rz with
    | ok v H' => exact fin _ _ rfl (makeFunc_ok hr ho he hop h)
    | pan v H' => (exfalso; cases f <;> simp only [evOp, hop] at h <;> (repeat' split at h) <;> cases h)
  | makeMap t r => cases rz with
    | ok v H' => exact fin _ _ rfl (makeMap_ok hr ho hf hop h)
    | pan v H' => (exfalso; cases r <;> simp only [evOp, hop] at h <;> cases h)
  | makeSlice t x y => cases rz with
    | ok v H' => exact fin _ _ rfl (makeSlice_ok hT hr ho he hf hop h)
    | pan v H' => (exfalso; simp only [evOp, hop] at h; (repeat' split at h) <;> cases h)
  | slice t x lo hi mx => cases rz with
    | ok v H' => exact fin _ _ rfl (slice_ok hT hr ho he hop h)
    | pan v H' => (exfalso; cases mx <;> simp only [evOp, hop] at h <;> (repeat' split at h) <;> cases h)
  | fieldAddr t x f => cases rz with
    | ok v H' => exact fin _ _ rfl (fieldAddr_ok hT hr ho he hop h)
    | pan v H' => (exfalso; simp only [evOp, hop] at h; (repeat' split at h) <;> cases h)
  | field t x f => cases rz with
    | ok v H' => exact fin _ _ rfl (field_ok hT hr ho he hop h)
    | pan v H' => (exfalso; simp only [evOp, hop] at h; (repeat' split at h) <;> cases h)
  | indexAddr t x y => cases rz with
    | ok v H' => exact fin _ _ rfl (indexAddr_ok hT hr ho he hop h)
    | pan v H' => (exfalso; simp only [evOp, hop] at h; (repeat' split at h) <;> cases h)
  | index t x y => cases rz with
    | ok v H' => exact fin _ _ rfl (index_ok hT hr ho he hop h)
    | pan v H' => (exfalso; simp only [evOp, hop] at h; (repeat' split at h) <;> cases h)
  | lookup t x y ok => cases rz with
    | ok v H' => exact fin _ _ rfl (lookup_ok hT hr ho he hop h)
    | pan v H' => (exfalso; simp only [evOp, hop] at h; (repeat' split at h) <;> cases h)
  | typeAssert x s t ok => cases rz with
    | ok v H' => exact fin _ _ rfl (typeAssert_ok hT hr ho he hop h)
    | pan v H' => (exfalso; simp only [evOp, hop] at h; (repeat' split at h) <;> cases h)
  | extract x i => cases rz with
    | ok v H' => exact fin _ _ rfl (extract_ok hr ho he hop h)
    | pan v H' => (exfalso; simp only [evOp, hop] at h; (repeat' split at h) <;> cases h)
  | call c =>
    simp only [evOp, hop] at h
    split at h
    · rename_i args hargs
      obtain ⟨n1, n2⟩ := evxs_ok hr he _ _ hargs
      have hA : ArgsR g args (c.args.map a.eval) := ⟨by simpa using n1, fun i v hi => by
        have := n2 i v hi
        simpa [Array.getD_eq_getD_getElem?, List.getD_eq_getElem?_getD] using this⟩
      split at h
      · rename_i b hcal
        obtain ⟨v, H', c', g', w', h1, h2, h3, h4⟩ := evBuiltin_ok hT hr ho hA o.type (c.args.map fun | .const _ => true | _ => false) hf h
        refine fin v H' h1 ⟨c', g', w', .inl ?_, h3, h4⟩
        simp only [execOp, hop, resolve, hcal, Sem.run_bind, Sem.run_pure, Result.andThen_ok, invoke]
        exact h2
      · rename_i fx hcal
        have endCall : ∀ (f : FuncId) (x y : List V) (A B : Array Value), a.eval fx = .func (.func f) A B → A.size = x.length → B.size = y.length → (∀ i v, x[i]? = some v → VR g v (A.getD i Go.undef)) → (∀ i v, y[i]? = some v → VR g v (B.getD i Go.undef)) →
            call (.f f) (x ++ args ++ y) H = some rz → o.wpIn (RF ro) 0 P a w K Q := by
          intro f x y A B h1 h2 h3 h4 h5 h6
          obtain ⟨hent, hcalls⟩ := hC.f f _ H rz h6
          have hall : ArgsR g (x ++ args ++ y) (A ++ c.args.map a.eval ++ B) := by
            refine ⟨by simp [h2, h3, hA.1], fun i v hi => ?_⟩
            have hm := hA.1
            rw [Array.getD_eq_getD_getElem?]
            by_cases hx : i < x.length
            · rw [List.append_assoc, List.getElem?_append_left hx] at hi
              rw [Array.append_assoc, Array.getElem?_append_left (by omega), ← Array.getD_eq_getD_getElem?]
              exact h4 i v hi
            · by_cases ha2 : i < x.length + args.length
              · rw [List.getElem?_append_left (by simp; omega), List.getElem?_append_right (by omega)] at hi
                rw [Array.getElem?_append_left (by rw [Array.size_append]; omega), Array.getElem?_append_right (by omega), ← Array.getD_eq_getD_getElem?, h2]
                exact hA.2 _ v hi
              · rw [List.getElem?_append_right (by simp; omega)] at hi
                rw [Array.getElem?_append_right (by rw [Array.size_append]; omega), ← Array.getD_eq_getD_getElem?]
                have : i - (x ++ args).length = i - (A ++ c.args.map a.eval).size := by rw [Array.size_append, List.length_append]; omega
                rw [this] at hi
                exact h5 _ v hi
          have hrun : (execOp a.eval o).run P w = .ok (.enter f (A ++ c.args.map a.eval ++ B)) w := by
            simp only [execOp, hop, resolve, hcal, h1, Deferred.ofValue, Sem.run_bind, Sem.run_pure, Result.andThen_ok, invoke]
            exact hent _ _
          refine ⟨fun _ _ => trivial, ?_⟩
          rw [Oper.semAt_eq _ _ _ hnd, hrun]
          refine uponIn_of_upon ?_
          refine Calls.mono (hcalls g w _ hr ho hf hall) fun e w' he' => ?_
          cases rz with
          | ok v H' =>
            obtain ⟨c', g', rfl, q1, q2⟩ := he'
            exact hk v H' c' g' w' rfl q1 q2
          | pan v H' =>
            obtain ⟨c', g', rfl, q1, q2⟩ := he'
            exact hp v H' c' g' w' rfl q1 q2
        split at h
        · rename_i f x y hfx
          obtain ⟨A, B, h1, h2, h3, h4, h5⟩ := (evx_ok hr he hfx).pp.func_inv
          exact endCall f (x.map .p) (y.map .p) A B h1 (by simpa using h2) (by simpa using h3) (fun i v hi => by
            simp only [List.getElem?_map, Option.map_eq_some_iff] at hi
            obtain ⟨z, hz, rfl⟩ := hi
            exact .p (h4 i z hz)) (fun i v hi => by
            simp only [List.getElem?_map, Option.map_eq_some_iff] at hi
            obtain ⟨z, hz, rfl⟩ := hi
            exact .p (h5 i z hz)) h
        · rename_i f x y hfx
          obtain ⟨A, B, h1, h2, h3, h4, h5⟩ := (evx_ok hr he hfx).func_inv
          exact endCall f x y A B h1 h2 h3 h4 h5 h
        · rename_i id hfx
          have hv := evx_ok hr he hfx
          obtain ⟨l, hl, hq⟩ : ∃ l, g.loc id = some l ∧ a.eval fx = .func (.yield l.b) #[] #[] := by
            generalize a.eval fx = c at hv
            cases hv with | yield hl => exact ⟨_, hl, rfl⟩
          obtain ⟨fn, tmps, assign, body, hy, hR⟩ := hC.y id args H rz h g w _ hr ho hf hA l hl
          have hrun : (execOp a.eval o).run P w = .ok (.round l.b fn tmps assign body) w := by
            simp only [execOp, hop, resolve, hcal, hq, Deferred.ofValue, Sem.run_bind, Sem.run_pure, Result.andThen_ok, invoke, Array.empty_append, Array.append_empty]
            exact hy
          refine ⟨fun _ _ => trivial, ?_⟩
          rw [Oper.semAt_eq _ _ _ hnd, hrun]
          refine ⟨fun hd => by simp [RF, Fence.wide] at hd, ?_⟩
          refine RoundIn.mono (F := Fence.wide) hR fun e w' he' => ?_
          cases rz with
          | ok v H' =>
            obtain ⟨c', g', rfl, q1, q2⟩ := he'
            exact hk v H' c' g' w' rfl q1 q2
          | pan v H' =>
            obtain ⟨c', g', rfl, q1, q2⟩ := he'
            exact hp v H' c' g' w' rfl q1 q2
        · cases h
      · cases h
    · cases h
  | panic x =>
    simp only [evOp, hop] at h
    split at h
    · rename_i t u hu
      injection h with h; subst h
      obtain ⟨d, hd, hdd⟩ := (evx_ok hr he hu).pp.iface_inv
      have hrun : (execOp a.eval o).run P w = .halt (.panic (.iface t d)) w := by
        simp only [execOp, hop, hd, Instr.panic, goPanic, Sem.run_bind]
        rfl
      refine ⟨fun _ _ => trivial, ?_⟩
      rw [Oper.semAt_eq _ _ _ hnd, hrun]
      exact hp _ _ _ g w rfl (St.refl hr ho) (.p (.iface hdd))
    · cases h
  | _ => (exfalso; simp [evOp, hop] at h)

end
end Go.Ev
