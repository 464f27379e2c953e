/- More rules: calls in a quiet head; zeros appended to nothing; new rows with owned parts. -/
import Derived.Test.YtejeplcandhgdaaDoorKd
set_option linter.unusedVariables false
set_option linter.unusedSimpArgs false
namespace Go.Ev

section
variable {cx : Cx} {H0 : Hp} {I : List Nat} {ro : Bool} {n : Nat} {K : KX} {s : List Fr} {L : SE} {M M1 M2 : List Ent} {H : Hp} {q : Option (List Oper)} {all r : List Oper} {o : Oper} {v : V}

/-- A call of a function by itself, wherever it stands; of values that hang on no variable. -/
theorem SO.pfq {d f : Nat} {args : List V} {qs ps : List PV} {y : PV} (hd : okS n all L o = some d) (hc : callS cx L o.op = some (.f f, args)) (h : PF cx f ps y) (ha : allP args = some qs) (hn : nrmL qs = ps)
    (k : SO cx H0 I ro n q all r s ((d, .p y) :: L) M K) : SO cx H0 I ro n q all (o :: r) s L M K := by
  have hres : ∀ (l : List PV) (H : Hp), res1s (l.map .p) H = some (l, H) := by
    intro l
    induction l with
    | nil => intro H; rfl
    | cons x r ih => intro H; simp only [List.map_cons, res1s, res1, res0, ih]
  intro e H he hH
  have h1 := k _ H (he.put (okS_ok hd).2.2 (.p y)) hH
  have ef : ∀ H : Hp, EP cx o e H (fun rz => rz = .ok (.p y) H) := by
    intro H
    obtain ⟨rz, ⟨N, h2⟩, h3⟩ := h args H qs H (by rw [allP_eq ha]; exact hres qs H) hn
    refine ⟨rz, ⟨N, fun m hm => ?_⟩, h3⟩
    rw [evG_eq]
    have h4 : evG cx (sx cx L) (evFn cx drawn m) o.op H = some rz := by rw [callS_ok hc]; exact h2 m hm
    exact LeEv.op he.le h4
  cases q with
  | none =>
    refine EO.op (he.want (okS_ok hd).1) ?_
    obtain ⟨rz, h2, rfl⟩ := ef H
    refine ⟨_, h2, ?_⟩
    show EO cx all r (putD e o.dst (.p y)) H _
    rw [(okS_ok hd).2.1]; exact h1
  | some t =>
    refine EU.op (he.want (okS_ok hd).1) ?_
    obtain ⟨rz, h2, rfl⟩ := ef { H with low := H.next }
    refine ⟨_, h2, ?_⟩
    show EU cx all r (putD e o.dst (.p y)) H _
    rw [(okS_ok hd).2.1]; exact h1

theorem SO.app0 {d sz m : Nat} {t t' : TypeId} {c : Call} {z : Int} {ik : IntKind} {dt dt' de : TY} {el : TypeId} {ik' : IntKind} (ho : o.op = .call c) (hd : okS n all L o = some d) (hc : c.callee = .builtin .append) (hts : c.argTypes.toList = [t, t']) (htt : (Nat.beq t t') = false) (ha : evsG (sx cx L) c.args.toList = some [.p .nils, .p (.int ik z)])
    (hz : z = (m : Int)) (hm : 0 < m) (ht : cx.ty t = some dt) (ht' : cx.ty t' = some dt') (hdt : dt.desc = .slice el) (hdt' : dt'.desc = .int ik') (hel : cx.ty el = some de) (hsz : de.size = sz) (hs0 : sz ≠ 0) (B : Nat) (hB : de.bytes = B) (hzl : de.zero.cells.length = sz) (hb : m * B ≤ 140737488355328) (hb' : m ≤ 140737488355328)
    (k : ∀ v', SO cx H0 I ro n q all r s ((d, v') :: L) (M ++ [.sl v' (List.replicate m de.zero) sz]) K) : SO cx H0 I ro n q all (o :: r) s L M K := by
  subst hz; subst hB; subst hsz
  refine SO.any (fun v' M' => M' = M ++ [.sl v' (List.replicate m de.zero) de.size]) (okS_ok hd).1 (okS_ok hd).2.1 (okS_ok hd).2.2 (fun H hH => ?_) (by rintro v' M' rfl; exact k v')
  obtain ⟨f, hf⟩ := hH
  refine ⟨.own H.next 0 m, H.new (.own (List.replicate m de.zero)), _, fun call lo _ => ?_, ?_, rfl⟩
  · have hne : t ≠ t' := fun h => by rw [h] at htt; simp at htt
    simp only [ho, evG, ha, hc, hts, evBuiltin, if_neg hne, evAppend0, ht, ht', hdt, hdt', hel, Int.toNat_natCast]
    rw [if_neg (by
      rintro (h | h | h)
      · exact hs0 h
      · omega
      · exact h ⟨hb, hb'⟩)]
    rfl
  · obtain ⟨j, rfl⟩ : ∃ j, m = j + 1 := ⟨m - 1, by omega⟩
    exact hf.add (some H.next) (fun i hi => by simp only [Hp.new]; rw [if_neg (by omega)]) rfl (Nat.le_succ _) ⟨by simp, List.replicate (j + 1) de.zero, by simp [Hp.new], by simp, by simp, by simp [headSz, List.replicate_succ, hzl]⟩ (.inr ⟨_, rfl, Nat.le_refl _, Nat.lt_succ_self _⟩)

theorem SO.appE (i : Nat) {d sz : Nat} {t : TypeId} {c : Call} {xs : List PV} {y : V} {dt de : TY} {el : TypeId} (ho : o.op = .call c) (hd : okS n all L o = some d) (hc : c.callee = .builtin .append) (hts : c.argTypes.toList = [t, t]) (ha : evsG (sx cx L) c.args.toList = some [v, y])
    (hi : M[i]? = some (.sl v xs sz)) (hy : y = .p (.sl [])) (ht : cx.ty t = some dt) (hdt : dt.desc = .slice el) (hel : cx.ty el = some de) (hsz : de.size = sz) (hz : sz ≠ 0) (B : Nat) (hB : de.bytes = B) (hb : xs.length * B ≤ 140737488355328) (hb' : xs.length ≤ 140737488355328)
    {M' : V → List Ent} (hM : ∀ v', frc (M.set i (.sl v' xs sz)) = some (M' v')) (k : ∀ v', SO cx H0 I ro n none all r s ((d, v') :: L) (M' v') K) : SO cx H0 I ro n none all (o :: r) s L M K := by
  subst hy; subst hB
  refine SO.w (fun v' M' => M' = M.set i (.sl v' xs sz)) hd (fun H hH => ?_) (by rintro v' _ rfl; rw [frc_ok (hM v')]; exact k v')
  obtain ⟨f, hf⟩ := hH
  have h := hf.ent i _ hi
  cases hfi : f i with
  | none =>
    rw [hfi] at h
    obtain ⟨rfl, rfl⟩ := h
    refine ⟨.p .nils, H, _, fun call => ?_, ?_, rfl⟩
    · simp only [ho, evG, ha, hc, hts, evBuiltin, if_true, evAppend, ht, hdt, hel, if_neg (hsz ▸ hz : ¬ de.size = 0), res0]
      rw [if_pos (by simp [maxB])]
    · exact hf.chg (HAf.mem hi) none (fun _ _ _ => rfl) rfl (Nat.le_refl _) ⟨rfl, rfl⟩ (.inr (.inl rfl))
  | some p =>
    rw [hfi] at h
    have hh := h
    obtain ⟨rfl, zs, hzs, hlen, htk, hhd⟩ := h
    refine ⟨.own p 0 xs.length, H, _, fun call => ?_, ?_, rfl⟩
    · simp only [ho, evG, ha, hc, hts, evBuiltin, if_true, evAppend, ht, hdt, hel, if_neg (hsz ▸ hz : ¬ de.size = 0), res0]
    · exact hf.chg (HAf.mem hi) (some p) (fun _ _ _ => rfl) rfl (Nat.le_refl _) hh (.inl hfi.symm)
theorem hs_map {α : Type} {enc : α → PV} {sz : Nat} (h : ∀ a, (enc a).cells.length = sz) (zs : List α) : zs.map enc = [] ∨ headSz (zs.map enc) sz = true := by
  cases zs with
  | nil => exact .inl rfl
  | cons a b => exact .inr (by simp [headSz, h])

theorem SO.appg (i : Nat) {d sz : Nat} {t : TypeId} {c : Call} {xs ys : List PV} {y : V} {dt de : TY} {el : TypeId} (ho : o.op = .call c) (hd : okS n all L o = some d) (hc : c.callee = .builtin .append) (hts : c.argTypes.toList = [t, t]) (ha : evsG (sx cx L) c.args.toList = some [v, y])
    (hi : M[i]? = some (.sl v xs sz)) (hy : y = .p (.sl ys)) (ht : cx.ty t = some dt) (hdt : dt.desc = .slice el) (hel : cx.ty el = some de) (hsz : de.size = sz) (hz : sz ≠ 0) (hne : ys = [] ∨ headSz ys sz = true) (B : Nat) (hB : de.bytes = B) (hb : (xs.length + ys.length) * B ≤ 140737488355328) (hb' : xs.length + ys.length ≤ 140737488355328)
    {zs : List PV} (hzs : xs ++ ys = zs) {M' : V → List Ent} (hM : ∀ v', frc (M.set i (.sl v' zs sz)) = some (M' v')) (k : ∀ v', SO cx H0 I ro n none all r s ((d, v') :: L) (M' v') K) : SO cx H0 I ro n none all (o :: r) s L M K := by
  rcases hne with rfl | hne
  · simp at hzs; subst hzs
    exact SO.appE i ho hd hc hts ha hi hy ht hdt hel hsz hz B hB (by simpa using hb) (by simpa using hb') hM k
  · exact SO.app i ho hd hc hts ha hi hy ht hdt hel hsz hz hne B hB hb hb' hzs hM k
/-- A slice that has elements, held against nil. -/
theorem SO.nilne {d : Nat} {t t' : TypeId} {x y : Operand} {xs : List PV} (ho : o.op = .binOp .eql t x y t') (hd : okS n all L o = some d) (hx : sx cx L x = some (.p (.sl xs))) (hy : sx cx L y = some (.p .nils)) (hn : nilC y = true) (ht : isSlT cx t = true) (hxs : xs ≠ [])
    (k : SO cx H0 I ro n q all r s ((d, .p (.bool false)) :: L) M K) : SO cx H0 I ro n q all (o :: r) s L M K := by
  refine SO.p hd (fun call H => ?_) k
  cases xs with
  | nil => exact absurd rfl hxs
  | cons a b => simp only [ho, evG, hx, hy, evNil, hn, ht, Bool.and_self, if_true]

/-- Parts of a new row. -/
def RsP (cx : Cx) (H0 : Hp) (I : List Nat) (ps qs : List (Nat × V)) (M M' : List Ent) : Prop := ∀ H, HA H0 I M H → ∃ H', resParts ps H = some (qs, H') ∧ HA H0 I M' H'
def V.isP : V → Bool
  | .p _ => true
  | _ => false
theorem RsP.nil : RsP cx H0 I [] [] M M := fun H hH => ⟨H, rfl, hH⟩
theorem RsP.p {i : Nat} {x : PV} {ps qs : List (Nat × V)} (h : RsP cx H0 I ps qs M M1) : RsP cx H0 I ((i, .p x) :: ps) ((i, .p x) :: qs) M M1 := fun H hH => by
  obtain ⟨H', h1, h2⟩ := h H hH
  exact ⟨H', by simp only [resParts, h1], h2⟩
theorem RsP.ow {i : Nat} {y : PV} {ps qs : List (Nat × V)} (hv : v.isP = false) (h : Rs cx H0 I res1 v y M M1) (k : RsP cx H0 I ps qs M1 M2) : RsP cx H0 I ((i, v) :: ps) ((i, .p y) :: qs) M M2 := fun H hH => by
  obtain ⟨u, H', h1, h2, h3⟩ := h H hH
  obtain ⟨H'', h4, h5⟩ := k H' h3
  refine ⟨H'', ?_, h5⟩
  cases v <;> first | (simp only [V.isP] at hv; cases hv; done) | (simp [resParts, h1, h4, h2])
theorem resParts_p : ∀ (ps : List (Nat × V)) (H : Hp), ps.all (fun x => x.2.isP) = true → resParts ps H = some (ps, H)
  | [], H, _ => rfl
  | (i, v) :: r, H, h => by
    simp only [List.all_cons, Bool.and_eq_true] at h
    cases v with
    | p x => simp only [resParts, resParts_p r H h.2]
    | _ => simp [V.isP] at h
theorem SO.bsp {d m : Nat} {t : TypeId} {parts : Array (Nat × Operand)} {ps : List (Nat × V)} {xs0 xs : List PV} {dt de : TY} {el : TypeId} (ho : o.op = .buildSlice t m parts) (hd : okS n all L o = some d) (ha : evpG (sx cx L) parts.toList = some ps) (hp : ps.all (fun x => x.2.isP) = true)
    (ht : cx.ty t = some dt) (hdt : dt.desc = .slice el) (hel : cx.ty el = some de) (hsm : (Nat.ble (m * de.size) 16777216 && Nat.blt 0 de.size && Nat.blt 0 m) = true) (hx : setParts de.size (List.replicate m de.zero) ps = some xs0) (hf : frc xs0 = some xs)
    (k : SO cx H0 I ro n q all r s ((d, .p (.sl xs)) :: L) M K) : SO cx H0 I ro n q all (o :: r) s L M K := by
  have hf := frc_ok hf
  subst hf
  refine SO.p hd (fun call H => ?_) k
  simp only [Bool.and_eq_true, Nat.ble_eq, Nat.blt_eq] at hsm
  simp only [ho, evG, ht, ha, hdt, hel, resParts_p ps H hp, hx]
  rw [if_neg (by omega), if_neg (by omega)]
theorem SO.bs {d m : Nat} {t : TypeId} {parts : Array (Nat × Operand)} {ps qs : List (Nat × V)} {xs : List PV} {dt de : TY} {el : TypeId} (ho : o.op = .buildSlice t m parts) (hd : okS n all L o = some d) (ha : evpG (sx cx L) parts.toList = some ps) (hr : RsP cx H0 I ps qs M M1)
    (ht : cx.ty t = some dt) (hdt : dt.desc = .slice el) (hel : cx.ty el = some de) (hsm : (Nat.ble (m * de.size) 16777216 && Nat.blt 0 de.size && Nat.blt 0 m) = true) (hx : setParts de.size (List.replicate m de.zero) qs = some xs)
    (k : SO cx H0 I ro n none all r s ((d, .p (.sl xs)) :: L) M1 K) : SO cx H0 I ro n none all (o :: r) s L M K := by
  refine SO.w (fun u M' => u = .p (.sl xs) ∧ M' = M1) hd (fun H hH => ?_) (by rintro u M' ⟨rfl, rfl⟩; exact k)
  obtain ⟨H', h1, h2⟩ := hr H hH
  refine ⟨_, H', M1, fun call => ?_, h2, rfl, rfl⟩
  simp only [Bool.and_eq_true, Nat.ble_eq, Nat.blt_eq] at hsm
  simp only [ho, evG, ht, ha, hdt, hel, h1, hx]
  rw [if_neg (by omega), if_neg (by omega)]
end
end Go.Ev
