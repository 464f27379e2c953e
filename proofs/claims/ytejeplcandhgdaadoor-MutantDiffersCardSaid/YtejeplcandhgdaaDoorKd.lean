/- Rules: slices that are owned, read, cut; calls; the ends of functions. -/
import Derived.Test.YtejeplcandhgdaaDoorKc
set_option linter.unusedVariables false
set_option linter.unusedSimpArgs false
namespace Go.Ev

section
variable {cx : Cx} {H0 : Hp} {I : List Nat} {ro : Bool} {n : Nat} {K : KX} {s : List Fr} {L : SE} {M : List Ent} {H : Hp} {q : Option (List Oper)} {all r : List Oper} {o : Oper} {v : V}

theorem evNil_int {op : BinOp} {t : TypeId} {y : Operand} {k : IntKind} {z : Int} : evNil cx op t y (.p (.int k z)) = none := rfl
theorem rdl_map {α : Type} (enc : α → PV) {xs : List α} {i : Nat} (h : i < xs.length) : rdl (xs.map enc) i = some (enc xs[i]) := by simp [rdl, h]
theorem rdl_some {α : Type} {xs : List α} {i : Nat} {y : α} (h : rdl xs i = some y) : i < xs.length := by
  rcases Nat.lt_or_ge i xs.length with h1 | h1
  · exact h1
  · simp [rdl, List.getElem?_eq_none h1] at h
/-- The size of a slice's elements. -/
def slSz (cx : Cx) (t : TypeId) (k : Nat) : Bool :=
  match cx.ty t with
  | some d => (match d.desc with | .slice el => elemSz cx el k | _ => false)
  | none => false
theorem slSz_ok {t : TypeId} {k : Nat} (h : slSz cx t k = true) : ∃ d el, cx.ty t = some d ∧ d.desc = .slice el ∧ elemSz cx el k = true := by
  unfold slSz at h
  split at h
  · rename_i d hd
    split at h
    · rename_i el hel; exact ⟨d, el, hd, hel, h⟩
    · cases h
  · cases h
theorem SO.int {d : Nat} {z z' : Int} (hd : okS n all L o = some d) (h : ∀ call H, evG cx (sx cx L) call o.op H = some (.ok (.p (.int .i64 (IntKind.i64.wrap z))) H)) (hz : z = z') (h1 : -4611686018427387904 ≤ z') (h2 : z' < 4611686018427387904)
    (k : SO cx H0 I ro n q all r s ((d, .p (.int .i64 z')) :: L) M K) : SO cx H0 I ro n q all (o :: r) s L M K := by
  subst hz
  rw [← wrap_ok h1 h2] at k
  exact SO.p hd h k
theorem SO.add {d : Nat} {t t' : TypeId} {x y : Operand} {a b : Int} (ho : o.op = .binOp .add t x y t') (hd : okS n all L o = some d) (hx : sx cx L x = some (.p (.int .i64 a))) (hy : sx cx L y = some (.p (.int .i64 b))) (h1 : -4611686018427387904 ≤ a + b) (h2 : a + b < 4611686018427387904)
    (k : SO cx H0 I ro n q all r s ((d, .p (.int .i64 (a + b))) :: L) M K) : SO cx H0 I ro n q all (o :: r) s L M K :=
  SO.int hd (fun call H => by simp only [ho, evG, hx, hy, evNil_int, evBin, if_true, evInt]) rfl h1 h2 k
theorem SO.sb {d : Nat} {t t' : TypeId} {x y : Operand} {a b : Int} (ho : o.op = .binOp .sub t x y t') (hd : okS n all L o = some d) (hx : sx cx L x = some (.p (.int .i64 a))) (hy : sx cx L y = some (.p (.int .i64 b))) (h1 : -4611686018427387904 ≤ a - b) (h2 : a - b < 4611686018427387904)
    (k : SO cx H0 I ro n q all r s ((d, .p (.int .i64 (a - b))) :: L) M K) : SO cx H0 I ro n q all (o :: r) s L M K :=
  SO.int hd (fun call H => by simp only [ho, evG, hx, hy, evNil_int, evBin, if_true, evInt]) rfl h1 h2 k
theorem SO.mul {d : Nat} {t t' : TypeId} {x y : Operand} {a b : Int} (ho : o.op = .binOp .mul t x y t') (hd : okS n all L o = some d) (hx : sx cx L x = some (.p (.int .i64 a))) (hy : sx cx L y = some (.p (.int .i64 b))) (h1 : -4611686018427387904 ≤ a * b) (h2 : a * b < 4611686018427387904)
    (k : SO cx H0 I ro n q all r s ((d, .p (.int .i64 (a * b))) :: L) M K) : SO cx H0 I ro n q all (o :: r) s L M K :=
  SO.int hd (fun call H => by simp only [ho, evG, hx, hy, evNil_int, evBin, if_true, evInt]) rfl h1 h2 k
theorem SO.shr {d : Nat} {t t' : TypeId} {x y : Operand} {k k' : IntKind} {a b : Int} (ho : o.op = .binOp .shr t x y t') (hd : okS n all L o = some d) (hx : sx cx L x = some (.p (.int k a))) (hy : sx cx L y = some (.p (.int k' b))) (hb : 0 ≤ b)
    (kk : SO cx H0 I ro n q all r s ((d, .p (.int k (a.fdiv (2 ^ (min b.toNat k.bits))))) :: L) M K) : SO cx H0 I ro n q all (o :: r) s L M K :=
  SO.p hd (fun call H => by simp only [ho, evG, hx, hy, evNil_int, evBin]; rw [if_neg (by omega)]) kk
theorem SO.shl {d : Nat} {t t' : TypeId} {x y : Operand} {k k' : IntKind} {a b : Int} (ho : o.op = .binOp .shl t x y t') (hd : okS n all L o = some d) (hx : sx cx L x = some (.p (.int k a))) (hy : sx cx L y = some (.p (.int k' b))) (hb : 0 ≤ b)
    (kk : SO cx H0 I ro n q all r s ((d, .p (.int k (k.wrap (a * 2 ^ (min b.toNat k.bits))))) :: L) M K) : SO cx H0 I ro n q all (o :: r) s L M K :=
  SO.p hd (fun call H => by simp only [ho, evG, hx, hy, evNil_int, evBin]; rw [if_neg (by omega)]) kk
/-- The lesser of two. -/
theorem SO.mn {d : Nat} {c : Call} {ik : IntKind} {a b : Nat} (ho : o.op = .call c) (hd : okS n all L o = some d) (hc : c.callee = .builtin .min) (ha : evsG (sx cx L) c.args.toList = some [.p (.int ik (a : Int)), .p (.int ik (b : Int))])
    (k : SO cx H0 I ro n q all r s ((d, .p (.int ik ((min a b : Nat) : Int))) :: L) M K) : SO cx H0 I ro n q all (o :: r) s L M K := by
  refine SO.p hd (fun call H => ?_) k
  have : (if (b : Int) < (a : Int) then (b : Int) else (a : Int)) = ((min a b : Nat) : Int) := by split <;> omega
  cases hts : c.argTypes.toList <;> simp only [ho, evG, ha, hc, hts, evBuiltin, minInts, if_true, this]
theorem SO.mnL {d : Nat} {c : Call} {ik : IntKind} {a : Nat} {z : Int} (ho : o.op = .call c) (hd : okS n all L o = some d) (hc : c.callee = .builtin .min) (ha : evsG (sx cx L) c.args.toList = some [.p (.int ik (a : Int)), .p (.int ik z)]) (hz : 0 ≤ z)
    (k : SO cx H0 I ro n q all r s ((d, .p (.int ik ((min a z.toNat : Nat) : Int))) :: L) M K) : SO cx H0 I ro n q all (o :: r) s L M K := by
  obtain ⟨b, rfl⟩ := Int.eq_ofNat_of_zero_le hz
  exact SO.mn ho hd hc ha k
/-- The address of a field, with its place reckoned. -/
def lit : Nat → Option Nat
  | 0 => some 0
  | 1 => some 1
  | 2 => some 2
  | 3 => some 3
  | 4 => some 4
  | 5 => some 5
  | 6 => some 6
  | 7 => some 7
  | 8 => some 8
  | 9 => some 9
  | 10 => some 10
  | 11 => some 11
  | 12 => some 12
  | 13 => some 13
  | 14 => some 14
  | 15 => some 15
  | 16 => some 16
  | 17 => some 17
  | 18 => some 18
  | 19 => some 19
  | 20 => some 20
  | 21 => some 21
  | 22 => some 22
  | 23 => some 23
  | 24 => some 24
  | 25 => some 25
  | 26 => some 26
  | 27 => some 27
  | 28 => some 28
  | 29 => some 29
  | _ => none
theorem lit_ok : ∀ {n k : Nat}, lit n = some k → n = k
  | 0, _, h => by cases h; rfl
  | 1, _, h => by cases h; rfl
  | 2, _, h => by cases h; rfl
  | 3, _, h => by cases h; rfl
  | 4, _, h => by cases h; rfl
  | 5, _, h => by cases h; rfl
  | 6, _, h => by cases h; rfl
  | 7, _, h => by cases h; rfl
  | 8, _, h => by cases h; rfl
  | 9, _, h => by cases h; rfl
  | 10, _, h => by cases h; rfl
  | 11, _, h => by cases h; rfl
  | 12, _, h => by cases h; rfl
  | 13, _, h => by cases h; rfl
  | 14, _, h => by cases h; rfl
  | 15, _, h => by cases h; rfl
  | 16, _, h => by cases h; rfl
  | 17, _, h => by cases h; rfl
  | 18, _, h => by cases h; rfl
  | 19, _, h => by cases h; rfl
  | 20, _, h => by cases h; rfl
  | 21, _, h => by cases h; rfl
  | 22, _, h => by cases h; rfl
  | 23, _, h => by cases h; rfl
  | 24, _, h => by cases h; rfl
  | 25, _, h => by cases h; rfl
  | 26, _, h => by cases h; rfl
  | 27, _, h => by cases h; rfl
  | 28, _, h => by cases h; rfl
  | 29, _, h => by cases h; rfl
  | n + 30, _, h => by cases h
def faS (cx : Cx) (t : TypeId) (x : V) (f : Nat) : Option V :=
  match evFieldAddr cx t x f with
  | some (.ref p k) => (match lit k with | some j => some (.ref p j) | none => none)
  | some (.optr p i k) => (match lit k with | some j => some (.optr p i j) | none => none)
  | some (.p (.sptr xs i k)) => (match lit k with | some j => some (.p (.sptr xs i j)) | none => none)
  | _ => none
theorem faS_ok {t : TypeId} {x : V} {f : Nat} {v : V} (h : faS cx t x f = some v) : evFieldAddr cx t x f = some v := by
  unfold faS at h
  split at h
  · rename_i hv; split at h
    · rename_i hl; cases h; rw [← lit_ok hl]; exact hv
    · cases h
  · rename_i hv; split at h
    · rename_i hl; cases h; rw [← lit_ok hl]; exact hv
    · cases h
  · rename_i hv; split at h
    · rename_i hl; cases h; rw [← lit_ok hl]; exact hv
    · cases h
  · cases h
theorem SO.fa {d : Nat} {t : TypeId} {x : Operand} {f : Nat} {u : V} (ho : o.op = .fieldAddr t x f) (hd : okS n all L o = some d) (hx : sx cx L x = some u) (hv : faS cx t u f = some v) (k : SO cx H0 I ro n q all r s ((d, v) :: L) M K) : SO cx H0 I ro n q all (o :: r) s L M K :=
  SO.p hd (fun call H => by simp only [ho, evG, hx, faS_ok hv]) k
/-- A value under another name. -/
theorem SO.pe {d : Nat} {u : V} (hd : okS n all L o = some d) (h : ∀ call H, evG cx (sx cx L) call o.op H = some (.ok u H)) (hu : u = v) (k : SO cx H0 I ro n q all r s ((d, v) :: L) M K) : SO cx H0 I ro n q all (o :: r) s L M K := by
  subst hu; exact SO.p hd h k
theorem SO.lenm {d : Nat} {t : TypeId} {ts : List TypeId} {c : Call} {α : Type} {enc : α → PV} {xs : List α} (ho : o.op = .call c) (hd : okS n all L o = some d) (hc : c.callee = .builtin .len) (hts : c.argTypes.toList = t :: ts) (ha : evsG (sx cx L) c.args.toList = some [.p (.sl (xs.map enc))])
    (hsl : ∃ d el, cx.ty t = some d ∧ d.desc = .slice el) (k : SO cx H0 I ro n q all r s ((d, .p (.int .i64 xs.length)) :: L) M K) : SO cx H0 I ro n q all (o :: r) s L M K := by
  obtain ⟨dt, el, h1, h2⟩ := hsl
  refine SO.p hd (fun call H => ?_) k
  simp only [ho, evG, ha, hc, hts, evBuiltin, h1, h2, lenV, List.length_map]
theorem SO.ix {d j : Nat} {t : TypeId} {x i : Operand} {xs : List PV} {y : PV} {z : Int} {ik : IntKind} (ho : o.op = .indexAddr t x i) (hd : okS n all L o = some d) (hx : sx cx L x = some (.p (.sl xs))) (hi : sx cx L i = some (.p (.int ik z))) (hz : z = (j : Int))
    (hy : rdl xs j = some y) (ht : slSz cx t y.cells.length = true) (k : SO cx H0 I ro n q all r s ((d, .p (.sptr xs j 0)) :: L) M K) : SO cx H0 I ro n q all (o :: r) s L M K := by
  subst hz
  obtain ⟨dt, el, h1, h2, h3⟩ := slSz_ok ht
  refine SO.p hd (fun call H => ?_) k
  simp only [ho, evG, hx, hi, evIndexAddr, h1, h2, Int.toNat_natCast, hy, h3, if_true, Int.natCast_nonneg]
/-- The same of a package-level array. -/
def arSz (cx : Cx) (t : TypeId) (m k : Nat) : Bool :=
  match cx.ty t with
  | some d => (match d.desc with | .array n el => Nat.beq m n && elemSz cx el k | _ => false)
  | none => false
theorem SO.ixA {d j : Nat} {t : TypeId} {x i : Operand} {xs : List PV} {y : PV} {z : Int} {ik : IntKind} (ho : o.op = .indexAddr t x i) (hd : okS n all L o = some d) (hx : sx cx L x = some (.p (.sptr xs 0 0))) (hi : sx cx L i = some (.p (.int ik z))) (hz : z = (j : Int))
    (hy : rdl xs j = some y) (ht : arSz cx t xs.length y.cells.length = true) (k : SO cx H0 I ro n q all r s ((d, .p (.sptr xs j 0)) :: L) M K) : SO cx H0 I ro n q all (o :: r) s L M K := by
  subst hz
  unfold arSz at ht
  split at ht
  · rename_i dt hdt
    split at ht
    · rename_i m el hel
      simp only [Bool.and_eq_true] at ht
      have hm := Nat.eq_of_beq_eq_true ht.1
      refine SO.p hd (fun call H => ?_) k
      simp only [ho, evG, hx, hi, evIndexAddr, hdt, hel, hm, Int.natCast_nonneg, and_self, if_true, Int.toNat_natCast, hy, ht.2]
    · cases ht
  · cases ht
def cutP (y : PV) (f : Nat) (k : Nat) : Option (List V) := match cut y.cells f k with | some l => some (l.map .p) | none => none
theorem SO.lds {d j f : Nat} {t : TypeId} {x : Operand} {xs : List PV} {y : PV} (ho : o.op = .load t x) (hd : okS n all L o = some d) (hx : sx cx L x = some (.p (.sptr xs j f))) (hy : rdl xs j = some y)
    (hv : loadF cx t (cutP y f) = some v) (k : SO cx H0 I ro n q all r s ((d, v) :: L) M K) : SO cx H0 I ro n q all (o :: r) s L M K := by
  have hv := loadF_ok hv
  refine SO.p hd (fun call H => ?_) k
  have h0 : readAt H (.p (.sptr xs j f)) = cutP y f := by
    funext k; simp only [readAt, hy, cutP]; rfl
  have : evLoad cx t (.p (.sptr xs j f)) H = some v := by rw [evLoad_eq, h0]; exact hv
  simp only [ho, evG, hx, this]
/-- A cut of a slice that is read alone. -/
theorem SO.cutm {d lo hi sz : Nat} {t : TypeId} {x : Operand} {ol oh : Option Operand} {l0 : Option Int} {α : Type} {enc : α → PV} {xs ys : List α} {h0 : Option Int} (ho : o.op = .slice t x ol oh none) (hd : okS n all L o = some d) (hx : sx cx L x = some (.p (.sl (xs.map enc))))
    (hol : optG (sx cx L) ol = some l0) (hoh : optG (sx cx L) oh = some h0) (hl0 : l0.getD 0 = (lo : Int)) (hh0 : h0.getD (xs.length : Int) = (hi : Int)) (hle : lo ≤ hi) (hhi : hi ≤ xs.length) (henc : ∀ a, (enc a).cells.length = sz) (ht : slSz cx t sz = true) (hys : (xs.drop lo).take (hi - lo) = ys)
    (k : SO cx H0 I ro n q all r s ((d, .p (.sl (ys.map enc))) :: L) M K) : SO cx H0 I ro n q all (o :: r) s L M K := by
  obtain ⟨dt, el, h1, h2, h3⟩ := slSz_ok ht
  subst hys
  refine SO.p hd (fun call H => ?_) k
  have hel : ∃ de, cx.ty el = some de := by
    unfold elemSz at h3
    split at h3
    · rename_i de hde; exact ⟨de, hde⟩
    · cases h3
  obtain ⟨de, hde⟩ := hel
  have hcut : evCut cx el (.p (.sl (xs.map enc))) l0 h0 = some (.p (.sl (((xs.drop lo).take (hi - lo)).map enc))) := by
    have hc : (0 : Int) ≤ lo ∧ (lo : Int) ≤ hi ∧ (hi : Int) ≤ (xs.map enc).length := by simp; omega
    simp only [evCut, hl0]
    rw [show h0.getD ((xs.map enc).length : Int) = (hi : Int) by rw [List.length_map]; exact hh0]
    rw [if_pos hc]
    by_cases hlh : lo = hi
    · subst hlh; simp
    · have : ¬ ((lo : Int) = hi) := by omega
      rw [if_neg this]
      have hlt : lo < xs.length := by omega
      simp only [Int.toNat_natCast, rdl_map enc hlt, henc, h3, if_true, List.map_take, List.map_drop]
  simp only [ho, evG, h1, hx, hol, hoh, h2, hde, hcut]

/-- A nil slice is owned, too. -/
theorem HA.nils (sz : Nat) (h : HA H0 I M H) : HA H0 I (M ++ [.sl (.p .nils) [] sz]) H := by
  obtain ⟨f, hf⟩ := h
  exact hf.add none (fun _ _ => rfl) rfl (Nat.le_refl _) ⟨rfl, rfl⟩ (.inl rfl)
theorem SO.nils (sz : Nat) {l : List Oper} {M' : List Ent} (hM : frc (M ++ [.sl (.p .nils) [] sz]) = some M') (k : SO cx H0 I ro n q all l s L M' K) : SO cx H0 I ro n q all l s L M K := fun e H he hH => k e H he (frc_ok hM ▸ hH.nils sz)
theorem SX.nils (sz : Nat) {x : Ex} {M' : List Ent} (hM : frc (M ++ [.sl (.p .nils) [] sz]) = some M') (k : SX cx H0 I ro n x s L M' K) : SX cx H0 I ro n x s L M K := fun e H he hH => k e H he (frc_ok hM ▸ hH.nils sz)
/-- A slice that is owned and not empty lies in a row. -/
theorem SO.own (i : Nat) {l : List Oper} {xs : List PV} {sz : Nat} (hi : M[i]? = some (.sl v xs sz)) (hne : 0 < xs.length) (k : ∀ p, v = .own p 0 xs.length → SO cx H0 I ro n q all l s L M K) : SO cx H0 I ro n q all l s L M K := by
  intro e H he hH
  obtain ⟨f, hf⟩ := hH
  have h := hf.ent i _ hi
  cases hfi : f i with
  | none => rw [hfi] at h; obtain ⟨_, rfl⟩ := h; simp at hne
  | some p => rw [hfi] at h; exact k p h.1 e H he ⟨f, hf⟩
theorem SO.nilOr (i : Nat) {l : List Oper} {xs : List PV} {sz : Nat} (hi : M[i]? = some (.sl v xs sz)) (k0 : v = .p .nils → xs = [] → SO cx H0 I ro n q all l s L M K) (k : ∀ p, v = .own p 0 xs.length → SO cx H0 I ro n q all l s L M K) : SO cx H0 I ro n q all l s L M K := by
  intro e H he hH
  obtain ⟨f, hf⟩ := hH
  have h := hf.ent i _ hi
  cases hfi : f i with
  | none => rw [hfi] at h; obtain ⟨h1, h2⟩ := h; exact k0 h1 h2 e H he ⟨f, hf⟩
  | some p => rw [hfi] at h; exact k p h.1 e H he ⟨f, hf⟩
theorem slv_cells {xs : List PV} {sz : Nat} {i : Option Nat} (h : EntOK H (.sl v xs sz) i) : v.cells = [v] ∧ v.cell = true := by
  cases i with
  | none => obtain ⟨rfl, _⟩ := h; exact ⟨rfl, rfl⟩
  | some p => obtain ⟨rfl, _⟩ := h; exact ⟨rfl, rfl⟩
/-- A store of what is owned into a variable. -/
theorem SO.sto (i j : Nat) {t : TypeId} {x y : Operand} {p off sz : Nat} {cs cs' : List V} {xs : List PV} {dt : TY} (ho : o.op = .store t x y) (hd : okN all L o = true) (hx : sx cx L x = some (.ref p off)) (hy : sx cx L y = some v) (hi : M[i]? = some (.ob p (.ref cs))) (hj : M[j]? = some (.sl v xs sz))
    (ht : cx.ty t = some dt) (h1 : (Nat.beq 1 dt.size && Nat.ble (off + 1) cs.length) = true) (hc : frc (over cs off [v]) = some cs') {M' : List Ent} (hM : frc (M.set i (.ob p (.ref cs'))) = some M') (k : SO cx H0 I ro n none all r s L M' K) : SO cx H0 I ro n none all (o :: r) s L M K := by
  intro e H he hH
  have hvc : v.cells = [v] ∧ v.cell = true := by
    obtain ⟨f, hf⟩ := hH; exact slv_cells (hf.ent j _ hj)
  simp only [Bool.and_eq_true] at h1
  exact SO.st i ho hd hx hy hi ht (by rw [hvc.1]; rfl) (by simp [hvc.2, h1.1, h1.2]) hc hM k e H he hH
/-- append to what is owned. -/
theorem SO.app (i : Nat) {d sz : Nat} {t : TypeId} {c : Call} {xs ys : List PV} {y : V} {dt de : TY} {el : TypeId} (ho : o.op = .call c) (hd : okS n all L o = some d) (hc : c.callee = .builtin .append) (hts : c.argTypes.toList = [t, t]) (ha : evsG (sx cx L) c.args.toList = some [v, y])
    (hi : M[i]? = some (.sl v xs sz)) (hy : y = .p (.sl ys)) (ht : cx.ty t = some dt) (hdt : dt.desc = .slice el) (hel : cx.ty el = some de) (hsz : de.size = sz) (hz : sz ≠ 0) (hne : headSz ys sz = true) (B : Nat) (hB : de.bytes = B) (hb : (xs.length + ys.length) * B ≤ 140737488355328) (hb' : xs.length + ys.length ≤ 140737488355328)
    {zs : List PV} (hzs : xs ++ ys = zs) {M' : V → List Ent} (hM : ∀ v', frc (M.set i (.sl v' zs sz)) = some (M' v')) (k : ∀ v', SO cx H0 I ro n none all r s ((d, v') :: L) (M' v') K) : SO cx H0 I ro n none all (o :: r) s L M K := by
  subst hy; subst hB; subst hzs
  refine SO.w (fun v' M' => M' = M.set i (.sl v' (xs ++ ys) sz)) hd (fun H hH => ?_) (by rintro v' _ rfl; rw [frc_ok (hM v')]; exact k v')
  obtain ⟨f, hf⟩ := hH
  have h := hf.ent i _ hi
  obtain ⟨yh, yt, rfl⟩ : ∃ a b, ys = a :: b := by
    cases ys with
    | nil => simp [headSz] at hne
    | cons a b => exact ⟨a, b, rfl⟩
  have hyc : yh.cells.length = sz := by simpa [headSz] using hne
  cases hfi : f i with
  | none =>
    rw [hfi] at h
    obtain ⟨rfl, rfl⟩ := h
    refine ⟨.own H.next 0 (yh :: yt).length, H.new (.own (yh :: yt)), _, fun call => ?_, ?_, rfl⟩
    · simp only [ho, evG, ha, hc, hts, evBuiltin, if_true, evAppend, ht, hdt, hel, if_neg (hsz ▸ hz : ¬ de.size = 0), res0]
      have : (yh :: yt).length * de.bytes ≤ maxB ∧ (yh :: yt).length ≤ maxB := by
        simp only [List.length_nil, Nat.zero_add] at hb hb'
        exact ⟨hb, hb'⟩
      rw [if_pos this]
      simp only [hyc, hsz, if_true]
    · refine hf.chg (HAf.mem hi) (some H.next) (fun j hj _ => by simp only [Hp.new]; rw [if_neg (by omega)]) rfl (Nat.le_succ _) ⟨by simp, yh :: yt, by simp [Hp.new], by simp, by simp, by simp [headSz, hyc]⟩ (.inr (.inr ⟨_, rfl, Nat.le_refl _, Nat.lt_succ_self _⟩))
  | some p =>
    rw [hfi] at h
    obtain ⟨rfl, zs, hzs, hlen, htk, hhd⟩ := h
    obtain ⟨hl, hnx, _⟩ := hf.rng i p hfi
    refine ⟨.own H.next 0 (xs.length + (yh :: yt).length), (H.set p .gone).new (.own (xs ++ yh :: yt)), _, fun call => ?_, ?_, rfl⟩
    · simp only [ho, evG, ha, hc, hts, evBuiltin, if_true, evAppend, ht, hdt, hel, if_neg (hsz ▸ hz : ¬ de.size = 0), res0]
      have h2 : ¬ (p < H.low ∨ ¬ (yh :: yt = [] ∨ headSz (yh :: yt) de.size = true)) := by
        rintro (h | h)
        · omega
        · exact h (.inr (by rw [hsz]; exact hne))
      rw [if_neg (by simp), if_neg h2]
      simp only [hzs]
      have h3 : xs.length ≤ zs.length ∧ (xs.length + (yh :: yt).length) * de.bytes ≤ maxB ∧ xs.length + (yh :: yt).length ≤ maxB ∧ headSz zs de.size = true := ⟨hlen, hb, hb', by rw [hsz]; exact hhd⟩
      rw [if_pos h3]
      simp only [htk, Hp.set]
    · refine hf.chg (HAf.mem hi) (some H.next) (fun j hj hne => ?_) rfl (Nat.le_succ _) ⟨by simp, xs ++ yh :: yt, by simp [Hp.new, Hp.set], by simp, ?_, ?_⟩ (.inr (.inr ⟨_, rfl, Nat.le_refl _, Nat.lt_succ_self _⟩))
      · have e1 : j ≠ H.next := by omega
        have e2 : j ≠ p := fun h => hne (by rw [h]; exact hfi)
        simp [Hp.new, Hp.set, e1, e2]
      · rw [List.take_of_length_le (Nat.le_refl _)]
      · cases xs with
        | nil => simp [headSz, hyc]
        | cons a b =>
          cases zs with
          | nil => simp at hlen
          | cons a' b' =>
            simp at htk
            simp only [List.cons_append, headSz] at hhd ⊢
            rw [← htk.1]; exact hhd
theorem SO.lenO (i : Nat) {d sz : Nat} {t : TypeId} {ts : List TypeId} {c : Call} {xs : List PV} (ho : o.op = .call c) (hd : okS n all L o = some d) (hc : c.callee = .builtin .len) (hts : c.argTypes.toList = t :: ts) (ha : evsG (sx cx L) c.args.toList = some [v])
    (hi : M[i]? = some (.sl v xs sz)) (ht : ∃ d el, cx.ty t = some d ∧ d.desc = .slice el) (k : SO cx H0 I ro n q all r s ((d, .p (.int .i64 xs.length)) :: L) M K) : SO cx H0 I ro n q all (o :: r) s L M K := by
  obtain ⟨dt, el, h1, h2⟩ := ht
  refine SO.any (fun u M' => u = .p (.int .i64 xs.length) ∧ M' = M) (okS_ok hd).1 (okS_ok hd).2.1 (okS_ok hd).2.2 (fun H hH => ?_) (by rintro u M' ⟨rfl, rfl⟩; exact k)
  refine ⟨_, H, M, fun call lo _ => ?_, hH, rfl, rfl⟩
  obtain ⟨f, hf⟩ := hH
  have h := hf.ent i _ hi
  cases hfi : f i with
  | none => rw [hfi] at h; obtain ⟨rfl, rfl⟩ := h; simp [ho, evG, ha, hc, hts, evBuiltin, h1, h2, lenV]
  | some p => rw [hfi] at h; obtain ⟨rfl, _⟩ := h; simp only [ho, evG, ha, hc, hts, evBuiltin, h1, h2, lenV]
theorem SO.lenOm (i : Nat) {d sz : Nat} {t : TypeId} {ts : List TypeId} {c : Call} {α : Type} {enc : α → PV} {xs : List α} (ho : o.op = .call c) (hd : okS n all L o = some d) (hc : c.callee = .builtin .len) (hts : c.argTypes.toList = t :: ts) (ha : evsG (sx cx L) c.args.toList = some [v])
    (hi : M[i]? = some (.sl v (xs.map enc) sz)) (ht : ∃ d el, cx.ty t = some d ∧ d.desc = .slice el) (k : SO cx H0 I ro n q all r s ((d, .p (.int .i64 xs.length)) :: L) M K) : SO cx H0 I ro n q all (o :: r) s L M K :=
  SO.lenO i ho hd hc hts ha hi ht (by rw [List.length_map]; exact k)
/-- The address of an element of what is owned; what lies there. -/
theorem SO.ixO (i : Nat) {d j sz p m : Nat} {t : TypeId} {x ix : Operand} {xs : List PV} {y : PV} {z : Int} {ik : IntKind} (ho : o.op = .indexAddr t x ix) (hd : okS n all L o = some d) (hx : sx cx L x = some (.own p 0 m)) (hix : sx cx L ix = some (.p (.int ik z))) (hz : z = (j : Int))
    (hi : M[i]? = some (.sl (.own p 0 m) xs sz)) (hy : rdl xs j = some y) (ht : slSz cx t y.cells.length = true) (k : SO cx H0 I ro n q all r s ((d, .optr p j 0) :: L) M K) : SO cx H0 I ro n q all (o :: r) s L M K := by
  subst hz
  obtain ⟨dt, el, h1, h2, h3⟩ := slSz_ok ht
  refine SO.any (fun u M' => u = .optr p j 0 ∧ M' = M) (okS_ok hd).1 (okS_ok hd).2.1 (okS_ok hd).2.2 (fun H hH => ?_) (by rintro u M' ⟨rfl, rfl⟩; exact k)
  refine ⟨_, H, M, fun call lo _ => ?_, hH, rfl, rfl⟩
  obtain ⟨f, hf⟩ := hH
  have h := hf.ent i _ hi
  cases hfi : f i with
  | none => rw [hfi] at h; cases h.1
  | some p' =>
    rw [hfi] at h
    obtain ⟨hv, ys, hys, hlen, htk, _⟩ := h
    injection hv with e1 e2 e3
    subst e1; subst e3
    have hj := rdl_some hy
    have hyy : rdl ys j = some y := by
      rw [← htk] at hy
      simp only [rdl] at hy ⊢
      rw [List.getElem?_take_of_lt hj] at hy
      exact hy
    have hc : (0 : Int) ≤ j ∧ (j : Int) < xs.length := by omega
    simp only [ho, evG, hx, hix, evIndexAddr, h1, h2, Int.toNat_natCast, hys, hyy, h3, if_true, hc, and_self, Nat.zero_add]
theorem SO.ldO (i : Nat) {d j f sz p m : Nat} {t : TypeId} {x : Operand} {xs : List PV} {y : PV} (ho : o.op = .load t x) (hd : okS n all L o = some d) (hx : sx cx L x = some (.optr p j f)) (hi : M[i]? = some (.sl (.own p 0 m) xs sz)) (hy : rdl xs j = some y)
    (hv : loadF cx t (cutP y f) = some v) (k : SO cx H0 I ro n q all r s ((d, v) :: L) M K) : SO cx H0 I ro n q all (o :: r) s L M K := by
  have hv := loadF_ok hv
  refine SO.any (fun u M' => u = v ∧ M' = M) (okS_ok hd).1 (okS_ok hd).2.1 (okS_ok hd).2.2 (fun H hH => ?_) (by rintro u M' ⟨rfl, rfl⟩; exact k)
  refine ⟨_, H, M, fun call lo _ => ?_, hH, rfl, rfl⟩
  obtain ⟨g, hf⟩ := hH
  have h := hf.ent i _ hi
  cases hfi : g i with
  | none => rw [hfi] at h; cases h.1
  | some p' =>
    rw [hfi] at h
    obtain ⟨hvv, ys, hys, hlen, htk, _⟩ := h
    injection hvv with e1 e2 e3
    subst e1
    have hj := rdl_some hy
    have hyy : rdl ys j = some y := by
      rw [← htk] at hy
      simp only [rdl] at hy ⊢
      rw [List.getElem?_take_of_lt hj] at hy
      exact hy
    have h0 : readAt { H with low := lo } (.optr p j f) = cutP y f := by
      funext k; simp only [readAt, hys, hyy, cutP]; rfl
    have : evLoad cx t (.optr p j f) { H with low := lo } = some v := by rw [evLoad_eq, h0]; exact hv
    simp only [ho, evG, hx, this]
/-- The beginning of what is owned. -/
theorem SO.cutO (i : Nat) {d sz h : Nat} {t : TypeId} {x y : Operand} {xs : List PV} {z : Int} {ik : IntKind} (ho : o.op = .slice t x none (some y) none) (hd : okS n all L o = some d) (hx : sx cx L x = some v) (hy : sx cx L y = some (.p (.int ik z))) (hz : z = (h : Int)) (hle : h ≤ xs.length)
    (hi : M[i]? = some (.sl v xs sz)) (ht : slSz cx t sz = true) {zs : List PV} (hzs : xs.take h = zs) {M' : V → List Ent} (hM : ∀ v', frc (M.set i (.sl v' zs sz)) = some (M' v')) (k : ∀ v', SO cx H0 I ro n q all r s ((d, v') :: L) (M' v') K) : SO cx H0 I ro n q all (o :: r) s L M K := by
  subst hz; subst hzs
  obtain ⟨dt, el, h1, h2, h3⟩ := slSz_ok ht
  have hel : ∃ de, cx.ty el = some de := by
    unfold elemSz at h3
    split at h3
    · rename_i de hde; exact ⟨de, hde⟩
    · cases h3
  obtain ⟨de, hde⟩ := hel
  refine SO.any (fun v' M' => M' = M.set i (.sl v' (xs.take h) sz)) (okS_ok hd).1 (okS_ok hd).2.1 (okS_ok hd).2.2 (fun H hH => ?_) (by rintro u _ rfl; rw [frc_ok (hM u)]; exact k u)
  obtain ⟨f, hf⟩ := hH
  have hE := hf.ent i _ hi
  cases hfi : f i with
  | none =>
    rw [hfi] at hE
    obtain ⟨rfl, rfl⟩ := hE
    have hh : h = 0 := by simpa using hle
    subst hh
    refine ⟨.p .nils, H, _, fun call lo _ => ?_, ?_, rfl⟩
    · simp [ho, evG, h1, hx, optG, hy, intOf?, h2, hde, evCut]
    · exact hf.chg (HAf.mem hi) none (fun _ _ _ => rfl) rfl (Nat.le_refl _) ⟨rfl, rfl⟩ (.inr (.inl rfl))
  | some p =>
    rw [hfi] at hE
    obtain ⟨rfl, ys, hys, hlen, htk, hhd⟩ := hE
    have hcut : evCut cx el (.own p 0 xs.length) none (some (h : Int)) = some (.own p 0 h) := by
      simp [evCut, hle]
    refine ⟨.own p 0 h, H, _, fun call lo _ => ?_, ?_, rfl⟩
    · simp only [ho, evG, h1, hx, optG, hy, intOf?, h2, hde, hcut]
    · refine hf.chg (HAf.mem hi) (some p) (fun _ _ _ => rfl) rfl (Nat.le_refl _) ⟨?_, ys, hys, ?_, ?_, hhd⟩ (.inl hfi.symm)
      · simp [Nat.min_eq_left hle]
      · simp; omega
      · rw [List.length_take, Nat.min_eq_left hle, ← htk, List.take_take, Nat.min_eq_left hle]
theorem headSz_set {ys : List PV} {j sz : Nat} {y : PV} (h : headSz ys sz = true) (hy : y.cells.length = sz) : headSz (ys.set j y) sz = true := by
  cases ys with
  | nil => simp [headSz] at h
  | cons a b => cases j with
    | zero => simp [headSz, hy]
    | succ j => simpa [headSz] using h
/-- What is written over an element. -/
def wrP (y : PV) (f : Nat) (vs : List V) : Option PV :=
  match allP vs with
  | none => none
  | some l => (match y with
    | .agg cs => if f + l.length ≤ cs.length then some (.agg (over cs f l)) else none
    | _ => (match l with
      | [v] => if f = 0 then some v else none
      | _ => none))
theorem allP_eq : ∀ {vs : List V} {l : List PV}, allP vs = some l → vs = l.map .p
  | [], l, h => by simp [allP] at h; subst h; rfl
  | .p x :: r, l, h => by
    simp only [allP] at h
    cases hr : allP r with
    | none => rw [hr] at h; cases h
    | some l' => rw [hr] at h; simp at h; subst h; rw [allP_eq hr]; rfl
  | .agg _ :: _, l, h => by simp [allP] at h
  | .tup _ :: _, l, h => by simp [allP] at h
  | .own _ _ _ :: _, l, h => by simp [allP] at h
  | .ref _ _ :: _, l, h => by simp [allP] at h
  | .optr _ _ _ :: _, l, h => by simp [allP] at h
  | .func _ _ _ :: _, l, h => by simp [allP] at h
  | .map _ :: _, l, h => by simp [allP] at h
  | .iface _ _ :: _, l, h => by simp [allP] at h
  | .yield _ :: _, l, h => by simp [allP] at h
theorem wr_ok {H : Hp} {p j f : Nat} {ys : List PV} {a b : PV} {vs : List V} (hlow : H.low ≤ p) (hys : H.obj p = .own ys) (hyy : rdl ys j = some a) (hb : wrP a f vs = some b) : writeAt H (.optr p j f) vs = some (H.set p (.own (ys.set j b))) := by
  unfold wrP at hb
  simp only [writeAt, hys, hyy]
  rw [if_neg (by omega)]
  cases hl : allP vs with
  | none => rw [hl] at hb; cases hb
  | some l =>
    rw [hl] at hb
    have hvs := allP_eq hl
    cases a with
    | agg cs =>
      simp only at hb ⊢
      split at hb
      · rename_i hc; cases hb; simp only [if_pos hc]
      · cases hb
    | _ =>
      simp only at hb
      split at hb
      · split at hb
        · rename_i hf; cases hb; subst hvs; simp [hf]
        · cases hb
      · cases hb
theorem SO.stO (i : Nat) {j f sz p m : Nat} {t : TypeId} {x y : Operand} {xs : List PV} {a b : PV} {vs : List V} {dt : TY} (ho : o.op = .store t x y) (hd : okN all L o = true) (hx : sx cx L x = some (.optr p j f)) (hy : sx cx L y = some v) (hi : M[i]? = some (.sl (.own p 0 m) xs sz)) (ha : rdl xs j = some a)
    (ht : cx.ty t = some dt) (hvs : frc v.cells = some vs) (h1 : (Nat.beq vs.length dt.size && vs.all V.cell) = true) (hb : wrP a f vs = some b) (hbs : b.cells.length = sz) {zs : List PV} (hzs : xs.set j b = zs) {M' : List Ent} (hM : frc (M.set i (.sl (.own p 0 m) zs sz)) = some M') (k : SO cx H0 I ro n none all r s L M' K) : SO cx H0 I ro n none all (o :: r) s L M K := by
  have hvs := frc_ok hvs
  subst hzs
  refine SO.w0 (fun M' => M' = M.set i (.sl (.own p 0 m) (xs.set j b) sz)) hd (fun H hH => ?_) (by rintro _ rfl; rw [frc_ok hM]; exact k)
  obtain ⟨g, hf⟩ := hH
  have h := hf.ent i _ hi
  cases hfi : g i with
  | none => rw [hfi] at h; cases h.1
  | some p' =>
    rw [hfi] at h
    obtain ⟨hvv, ys, hys, hlen, htk, hhd⟩ := h
    injection hvv with e1 e2 e3
    subst e1; subst e3; subst hvs
    obtain ⟨hl, hnx, _⟩ := hf.rng i p hfi
    have hj := rdl_some ha
    have hyy : rdl ys j = some a := by
      rw [← htk] at ha
      simp only [rdl] at ha ⊢
      rw [List.getElem?_take_of_lt hj] at ha
      exact ha
    simp only [Bool.and_eq_true] at h1
    have hsz1 := Nat.eq_of_beq_eq_true h1.1
    refine ⟨.p .undef, H.set p (.own (ys.set j b)), _, fun call => ?_, ?_, rfl⟩
    · have := wr_ok hl hys hyy hb
      simp only [ho, evG, hx, hy, ht, hsz1, h1.2, and_self, if_true, this]
    · refine hf.chg (HAf.mem hi) (some p) (fun j' hj' hne => by simp only [Hp.set]; rw [if_neg (fun h => hne (by rw [h]; exact hfi))]) rfl (Nat.le_refl _) ⟨by simp, ys.set j b, by simp [Hp.set], by simpa using hlen, ?_, headSz_set hhd hbs⟩ (.inl hfi.symm)
      rw [List.length_set, List.take_set, htk]

/-- What a value comes to where it is handed on: by itself; in a list; in a struct. -/
def Rs (cx : Cx) (H0 : Hp) (I : List Nat) (z : V → Hp → Option (PV × Hp)) (v : V) (y : PV) (M M' : List Ent) : Prop := ∀ H, HA H0 I M H → ∃ u H', z v H = some (u, H') ∧ nrm u = y ∧ HA H0 I M' H'
def RsL (cx : Cx) (H0 : Hp) (I : List Nat) (z : List V → Hp → Option (List PV × Hp)) (v : List V) (y : List PV) (M M' : List Ent) : Prop := ∀ H, HA H0 I M H → ∃ u H', z v H = some (u, H') ∧ nrmL u = y ∧ HA H0 I M' H'
variable {M1 M2 : List Ent} {x y : PV} {ys : List PV} {vs : List V}
theorem Rs.p0 (hx : nrm x = y) : Rs cx H0 I res0 (.p x) y M M := fun H hH => ⟨x, H, rfl, hx, hH⟩
theorem Rs.p1 (hx : nrm x = y) : Rs cx H0 I res1 (.p x) y M M := fun H hH => ⟨x, H, rfl, hx, hH⟩
theorem Rs.p2 (hx : nrm x = y) : Rs cx H0 I res2 (.p x) y M M := fun H hH => ⟨x, H, rfl, hx, hH⟩
theorem own_res (i : Nat) {xs : List PV} {sz : Nat} (hi : M[i]? = some (.sl v xs sz)) (hH : HA H0 I M H) : (res1 v H = res0 v H ∧ res2 v H = res0 v H) ∧ ∃ u H', res0 v H = some (u, H') ∧ nrm u = .sl (nrmL xs) ∧ HA H0 I (M.set i (.fz v xs)) H' := by
  obtain ⟨f, hf⟩ := hH
  have h := hf.ent i _ hi
  cases hfi : f i with
  | none =>
    rw [hfi] at h
    obtain ⟨rfl, rfl⟩ := h
    refine ⟨⟨rfl, rfl⟩, .nils, H, rfl, rfl, ?_⟩
    exact hf.chg (HAf.mem hi) none (fun _ _ _ => rfl) rfl (Nat.le_refl _) (.inl ⟨rfl, rfl⟩) (.inr (.inl rfl))
  | some p =>
    rw [hfi] at h
    obtain ⟨rfl, zs, hzs, hlen, htk, hhd⟩ := h
    obtain ⟨hl, hnx, _⟩ := hf.rng i p hfi
    refine ⟨⟨rfl, rfl⟩, .sl xs, H.set p (.fro zs), ?_, rfl, ?_⟩
    · simp only [res0, hzs]
      rw [if_neg (by omega), if_pos (by omega)]
      simp only [List.drop_zero, htk]
    · exact hf.chg (HAf.mem hi) (some p) (fun j hj hne => by simp only [Hp.set]; rw [if_neg (fun h => hne (by rw [h]; exact hfi))]) rfl (Nat.le_refl _) ⟨rfl, zs, by simp [Hp.set], hlen, htk⟩ (.inl hfi.symm)
theorem fz_res (i : Nat) {xs : List PV} (hi : M[i]? = some (.fz v xs)) (hH : HA H0 I M H) : (res1 v H = res0 v H ∧ res2 v H = res0 v H) ∧ ∃ u, res0 v H = some (u, H) ∧ nrm u = .sl (nrmL xs) := by
  obtain ⟨f, hf⟩ := hH
  have h := hf.ent i _ hi
  cases hfi : f i with
  | none =>
    rw [hfi] at h
    rcases h with ⟨rfl, rfl⟩ | rfl
    · exact ⟨⟨rfl, rfl⟩, .nils, rfl, rfl⟩
    · exact ⟨⟨rfl, rfl⟩, .sl xs, rfl, rfl⟩
  | some p =>
    rw [hfi] at h
    obtain ⟨rfl, zs, hzs, hlen, htk⟩ := h
    refine ⟨⟨rfl, rfl⟩, .sl xs, ?_, rfl⟩
    simp only [res0, hzs]
    rw [if_pos (by omega)]
    simp only [List.drop_zero, htk]
theorem Rs.o0 (i : Nat) {xs : List PV} {sz : Nat} (hi : M[i]? = some (.sl v xs sz)) (hy : PV.sl (nrmL xs) = y) : Rs cx H0 I res0 v y M (M.set i (.fz v xs)) := fun H hH => by
  obtain ⟨_, u, H', h1, h2, h3⟩ := own_res i hi hH; exact ⟨u, H', h1, h2.trans hy, h3⟩
theorem Rs.o1 (i : Nat) {xs : List PV} {sz : Nat} (hi : M[i]? = some (.sl v xs sz)) (hy : PV.sl (nrmL xs) = y) : Rs cx H0 I res1 v y M (M.set i (.fz v xs)) := fun H hH => by
  obtain ⟨⟨ha, _⟩, u, H', h1, h2, h3⟩ := own_res i hi hH; exact ⟨u, H', ha.trans h1, h2.trans hy, h3⟩
theorem Rs.o2 (i : Nat) {xs : List PV} {sz : Nat} (hi : M[i]? = some (.sl v xs sz)) (hy : PV.sl (nrmL xs) = y) : Rs cx H0 I res2 v y M (M.set i (.fz v xs)) := fun H hH => by
  obtain ⟨⟨_, ha⟩, u, H', h1, h2, h3⟩ := own_res i hi hH; exact ⟨u, H', ha.trans h1, h2.trans hy, h3⟩
theorem Rs.f0 (i : Nat) {xs : List PV} (hi : M[i]? = some (.fz v xs)) (hy : PV.sl (nrmL xs) = y) : Rs cx H0 I res0 v y M M := fun H hH => by
  obtain ⟨_, u, h1, h2⟩ := fz_res i hi hH; exact ⟨u, H, h1, h2.trans hy, hH⟩
theorem Rs.f1 (i : Nat) {xs : List PV} (hi : M[i]? = some (.fz v xs)) (hy : PV.sl (nrmL xs) = y) : Rs cx H0 I res1 v y M M := fun H hH => by
  obtain ⟨⟨ha, _⟩, u, h1, h2⟩ := fz_res i hi hH; exact ⟨u, H, ha.trans h1, h2.trans hy, hH⟩
theorem Rs.f2 (i : Nat) {xs : List PV} (hi : M[i]? = some (.fz v xs)) (hy : PV.sl (nrmL xs) = y) : Rs cx H0 I res2 v y M M := fun H hH => by
  obtain ⟨⟨_, ha⟩, u, h1, h2⟩ := fz_res i hi hH; exact ⟨u, H, ha.trans h1, h2.trans hy, hH⟩
theorem RsL.nil0 : RsL cx H0 I res0s [] [] M M := fun H hH => ⟨[], H, rfl, rfl, hH⟩
theorem RsL.nil1 : RsL cx H0 I res1s [] [] M M := fun H hH => ⟨[], H, rfl, rfl, hH⟩
theorem RsL.cons0 (h : Rs cx H0 I res0 v y M M1) (k : RsL cx H0 I res0s vs ys M1 M2) : RsL cx H0 I res0s (v :: vs) (y :: ys) M M2 := fun H hH => by
  obtain ⟨u, H', h1, h2, h3⟩ := h H hH
  obtain ⟨us, H'', h4, h5, h6⟩ := k H' h3
  exact ⟨u :: us, H'', by simp only [res0s, h1, h4], by rw [nrmL, h2, h5], h6⟩
theorem RsL.cons1 (h : Rs cx H0 I res1 v y M M1) (k : RsL cx H0 I res1s vs ys M1 M2) : RsL cx H0 I res1s (v :: vs) (y :: ys) M M2 := fun H hH => by
  obtain ⟨u, H', h1, h2, h3⟩ := h H hH
  obtain ⟨us, H'', h4, h5, h6⟩ := k H' h3
  exact ⟨u :: us, H'', by simp only [res1s, h1, h4], by rw [nrmL, h2, h5], h6⟩
theorem Rs.agg1 (h : RsL cx H0 I res0s vs ys M M1) : Rs cx H0 I res1 (.agg vs) (.agg ys) M M1 := fun H hH => by
  obtain ⟨u, H', h1, h2, h3⟩ := h H hH
  exact ⟨.agg u, H', by simp only [res1, h1], by rw [nrm, h2], h3⟩
theorem Rs.agg2 (h : RsL cx H0 I res0s vs ys M M1) : Rs cx H0 I res2 (.agg vs) (.agg ys) M M1 := fun H hH => by
  obtain ⟨u, H', h1, h2, h3⟩ := h H hH
  exact ⟨.agg u, H', by simp only [res2, res1, h1], by rw [nrm, h2], h3⟩
theorem Rs.tup2 (h : RsL cx H0 I res1s vs ys M M1) : Rs cx H0 I res2 (.tup vs) (.tup ys) M M1 := fun H hH => by
  obtain ⟨u, H', h1, h2, h3⟩ := h H hH
  exact ⟨.tup u, H', by simp only [res2, h1], by rw [nrm, h2], h3⟩

theorem nrm_map {α : Type} {enc : α → PV} (h : ∀ a, nrm (enc a) = enc a) (xs : List α) : nrm (.sl (xs.map enc)) = .sl (xs.map enc) := by
  rw [nrm, nrmL_eq, List.map_map]
  congr 1
  exact List.map_congr_left (fun a _ => h a)
/-- What a call is: which function, and with what. -/
def callS (cx : Cx) (L : SE) (o : Op) : Option (Tg × List V) :=
  match o with
  | .call c => (match c.callee with
    | .value x => (match evsG (sx cx L) c.args.toList with
      | some args => (match sx cx L x with
        | some (.p (.func f a b)) => some (.f f, a.map .p ++ args ++ b.map .p)
        | some (.func f a b) => some (.f f, a ++ args ++ b)
        | some (.yield id) => some (.y id, args)
        | _ => none)
      | none => none)
    | _ => none)
  | _ => none
theorem callS_ok {o : Op} {t : Tg} {args : List V} (h : callS cx L o = some (t, args)) (call : CallT) (H : Hp) : evG cx (sx cx L) call o H = call t args H := by
  unfold callS at h
  split at h
  · rename_i c
    split at h
    · rename_i x hx
      split at h
      · rename_i as has
        simp only [evG, has, hx]
        split at h
        · rename_i h3; cases h; simp only [h3]
        · rename_i h3; cases h; simp only [h3]
        · rename_i h3; cases h; simp only [h3]
        · cases h
      · cases h
    · cases h
  · cases h
/-- A call, by what it makes of the heap. -/
theorem SO.callR {d : Nat} {t : Tg} {args : List V} (R : V → List Ent → Prop) (hd : okS n all L o = some d) (hc : callS cx L o.op = some (t, args)) (h : ∀ H, HA H0 I M H → EF cx t args H (fun rz => ∃ v H' M', rz = .ok v H' ∧ HA H0 I M' H' ∧ R v M'))
    (k : ∀ v M', R v M' → SO cx H0 I ro n none all r s ((d, v) :: L) M' K) : SO cx H0 I ro n none all (o :: r) s L M K := by
  intro e H he hH
  obtain ⟨rz, ⟨N, h1⟩, v, H', M', rfl, hH', hR⟩ := h H hH
  refine EO.op (he.want (okS_ok hd).1) ⟨.ok v H', ⟨N, fun m hm => ?_⟩, ?_⟩
  · rw [evG_eq]
    have h3 : evG cx (sx cx L) (evFn cx drawn m) o.op H = some (.ok v H') := by rw [callS_ok hc]; exact h1 m hm
    exact LeEv.op he.le h3
  · show EO cx all r (putD e o.dst v) H' _
    rw [(okS_ok hd).2.1]
    exact k v M' hR _ H' (he.put (okS_ok hd).2.2 v) hH'
theorem SO.callR0 {t : Tg} {args : List V} (R : V → List Ent → Prop) (hd : okN all L o = true) (hc : callS cx L o.op = some (t, args)) (h : ∀ H, HA H0 I M H → EF cx t args H (fun rz => ∃ v H' M', rz = .ok v H' ∧ HA H0 I M' H' ∧ R v M'))
    (k : ∀ v M', R v M' → SO cx H0 I ro n none all r s L M' K) : SO cx H0 I ro n none all (o :: r) s L M K := by
  intro e H he hH
  obtain ⟨rz, ⟨N, h1⟩, v, H', M', rfl, hH', hR⟩ := h H hH
  refine EO.op (he.want (okN_ok hd).1) ⟨.ok v H', ⟨N, fun m hm => ?_⟩, ?_⟩
  · rw [evG_eq]
    have h3 : evG cx (sx cx L) (evFn cx drawn m) o.op H = some (.ok v H') := by rw [callS_ok hc]; exact h1 m hm
    exact LeEv.op he.le h3
  · show EO cx all r (putD e o.dst v) H' _
    rw [(okN_ok hd).2]
    exact k v M' hR _ H' he hH'
/-- A function by itself: of these values it makes that one. -/
def PF (cx : Cx) (f : FuncId) (ps : List PV) (y : PV) : Prop := ∀ (args : List V) (H : Hp) (as : List PV) (H1 : Hp), res1s args H = some (as, H1) → nrmL as = ps → EF cx (.f f) args H (fun rz => rz = .ok (.p y) H1)
theorem SO.pf {d f : Nat} {args : List V} {ps : List PV} {y : PV} (hd : okS n all L o = some d) (hc : callS cx L o.op = some (.f f, args)) (h : PF cx f ps y) (ha : RsL cx H0 I res1s args ps M M1)
    (k : SO cx H0 I ro n none all r s ((d, .p y) :: L) M1 K) : SO cx H0 I ro n none all (o :: r) s L M K := by
  refine SO.callR (fun v M' => v = .p y ∧ M' = M1) hd hc (fun H hH => ?_) (by rintro v M' ⟨rfl, rfl⟩; exact k)
  obtain ⟨us, H', h1, h2, h3⟩ := ha H hH
  exact EF.mono (h args H us H' h1 h2) (fun rz hz => ⟨_, _, _, hz, h3, rfl, rfl⟩)
/-- What a function leaves. -/
inductive ResL (cx : Cx) (L : SE) (M : List Ent) : List ResultVar → List V → Prop
  | nil : ResL cx L M [] []
  | tmp {t : Tmp} {v : V} {l : List ResultVar} {vs : List V} (h : look L t = some v) (k : ResL cx L M l vs) : ResL cx L M (.tmp t :: l) (v :: vs)
  | cell {b : Tmp} {t : TypeId} {v : V} {l : List ResultVar} {vs : List V} (i : Nat) {p off : Nat} {cs : List V} (h : look L b = some (.ref p off)) (hi : M[i]? = some (.ob p (.ref cs))) (hv : loadF cx t (cut cs off) = some v) (k : ResL cx L M l vs) : ResL cx L M (.cell b t :: l) (v :: vs)
theorem ResL.ok {e : Env} (he : Ag n L e) (hH : HA H0 I M H) : ∀ {l : List ResultVar} {vs : List V}, ResL cx L M l vs → evRes cx e H l = some vs := by
  intro l vs h
  induction h with
  | nil => rfl
  | tmp h k ih => simp only [evRes, ih, he.get _ _ h]
  | cell i h hi hv k ih =>
    rename_i b t v l vs p off cs
    obtain ⟨f, hf⟩ := hH
    have h1 : H.obj p = .ref cs := (hf.ent i _ hi).2
    have h0 : readAt H (.ref p off) = cut cs off := by
      funext j; simp only [readAt, h1]
    have : evLoad cx t (.ref p off) H = some v := by rw [evLoad_eq, h0]; exact loadF_ok hv
    simp only [evRes, he.get _ _ h, this, ih]
def tupV : List V → V
  | [v] => v
  | l => (match allP l with | some ps => .p (.tup ps) | none => .tup l)
theorem result_of {e : Env} {fn : Func} {l : List V} (h : evRes cx e H fn.results.toList = some l) : result cx fn e H = some (tupV l) := by
  unfold result
  rw [h]
  match l with
  | [] => rfl
  | [v] => rfl
  | a :: b :: r => rfl
/-- The end of a function by itself. -/
def FinP (cx : Cx) (fn : Func) (y : PV) : KX := fun x e H => (x = .normal ∨ x = .ret) ∧ ∃ v u H2, result cx fn e H = some v ∧ res2 v H = some (u, H2) ∧ nrm u = y
theorem SX.fin {fn : Func} {vs : List V} {v : V} {y : PV} (hv : ResL cx L M fn.results.toList vs) (ht : tupV vs = v) (hy : Rs cx H0 I res2 v y M M1) : SX cx H0 I ro n .ret [] L M (FinP cx fn y) := fun e H he hH => by
  subst ht
  obtain ⟨u, H', h1, h2, _⟩ := hy H hH
  exact ⟨.inr rfl, _, u, H', result_of (hv.ok he hH), h1, h2⟩
theorem SX.finN {fn : Func} {vs : List V} {v : V} {y : PV} (hv : ResL cx L M fn.results.toList vs) (ht : tupV vs = v) (hy : Rs cx H0 I res2 v y M M1) : SX cx H0 I ro n .normal [] L M (FinP cx fn y) := fun e H he hH => by
  subst ht
  obtain ⟨u, H', h1, h2, _⟩ := hy H hH
  exact ⟨.inl rfl, _, u, H', result_of (hv.ok he hH), h1, h2⟩
def initS : Nat → List V → SE
  | _, [] => []
  | i, v :: r => (i, v) :: initS (i + 1) r
theorem initS_look : ∀ (l : List V) (i t : Nat) (v : V), look (initS i l) t = some v → i ≤ t ∧ l[t - i]? = some v
  | [], i, t, v, h => by cases h
  | u :: r, i, t, v, h => by
    simp only [initS, look] at h
    cases hb : Nat.beq i t with
    | true =>
      rw [hb] at h; simp at h; subst h
      have := Nat.eq_of_beq_eq_true hb
      subst this
      simp
    | false =>
      rw [hb] at h
      obtain ⟨h1, h2⟩ := initS_look r (i + 1) t v h
      refine ⟨by omega, ?_⟩
      have : t - i = (t - (i + 1)) + 1 := by omega
      rw [this, List.getElem?_cons_succ]; exact h2
theorem gt_getElem? : ∀ (e : Env) (t : Nat) (v : V), e[t]? = some v → gt e t = v
  | [], t, v, h => by simp at h
  | u :: r, 0, v, h => by simpa [gt] using h
  | u :: r, t + 1, v, h => by simp only [gt]; exact gt_getElem? r t v (by simpa using h)
theorem Ag.init {args : List V} {m : Nat} (h : args.length ≤ m) : Ag m (initS 0 args) (pad args m) := by
  refine ⟨by simp [pad]; omega, fun t v ht => ?_⟩
  obtain ⟨_, h2⟩ := initS_look args 0 t v ht
  apply gt_getElem?
  unfold pad
  simp at h2
  rw [List.getElem?_append_left (by
    rcases Nat.lt_or_ge t args.length with h3 | h3
    · exact h3
    · rw [List.getElem?_eq_none h3] at h2; cases h2)]
  exact h2
theorem PF.intro {f : FuncId} {fn : Func} {c : Code} {ps : List PV} {y : PV} {L : SE} (ho : cx.orc f = none) (hf : cx.fn f = some fn) (hb : fn.body = some c) (hs : cx.sh f = false) (hl : Nat.ble ps.length fn.ntmps = true) (hL : initS 0 (ps.map .p) = L)
    (h : SX cx Hp.empty [] false fn.ntmps .normal [.code c] L [] (FinP cx fn y)) : PF cx f ps y := by
  intro args H as H1 ha hps
  subst hL
  refine EF.alone ho hf hb hs ha ?_
  rw [hps]
  refine EW.mono (h _ _ (Ag.init (by simpa using hl)) HA.empty) ?_
  rintro x e H' ⟨hx, v, u, H2, h1, h2, h3⟩
  have : bodyX cx fn (fun | .ok v H2 => (match res2 v H2 with | some (x, _) => (.ok (.p (nrm x)) H1 : Rz) = .ok (.p y) H1 | none => False) | .pan (.p x) _ => (.pan (.p x) H1 : Rz) = .ok (.p y) H1 | .pan _ _ => False) .normal e H' := by
    refine ⟨v, h1, ?_⟩
    simp only [h2, h3]
  rcases hx with rfl | rfl <;> exact this

/-- On the caller's heap: of these objects it makes those. -/
def TF (cx : Cx) (t : Tg) (args : List V) (M1 : List Ent) (R : V → List Ent → Prop) : Prop := ∀ H I, HA H I M1 H → EF cx t args H (fun rz => ∃ v H' M2, rz = .ok v H' ∧ HA H I M2 H' ∧ R v M2)
def FinS (cx : Cx) (H0 : Hp) (I : List Nat) (fn : Func) (R : V → List Ent → Prop) : KX := fun x e H => (x = .normal ∨ x = .ret) ∧ ∃ v M2, result cx fn e H = some v ∧ HA H0 I M2 H ∧ R v M2
theorem SX.finS {fn : Func} {R : V → List Ent → Prop} {vs : List V} (hv : ResL cx L M fn.results.toList vs) (ht : tupV vs = v) (hR : R v M) : SX cx H0 I ro n .ret [] L M (FinS cx H0 I fn R) := fun e H he hH => by
  subst ht; exact ⟨.inr rfl, _, M, result_of (hv.ok he hH), hH, hR⟩
theorem SX.finSN {fn : Func} {R : V → List Ent → Prop} {vs : List V} (hv : ResL cx L M fn.results.toList vs) (ht : tupV vs = v) (hR : R v M) : SX cx H0 I ro n .normal [] L M (FinS cx H0 I fn R) := fun e H he hH => by
  subst ht; exact ⟨.inl rfl, _, M, result_of (hv.ok he hH), hH, hR⟩
theorem TF.intro {f : FuncId} {fn : Func} {c : Code} {args : List V} {R : V → List Ent → Prop} {L : SE} (ho : cx.orc f = none) (hf : cx.fn f = some fn) (hb : fn.body = some c) (hs : cx.sh f = true) (hl : Nat.ble args.length fn.ntmps = true) (hL : initS 0 args = L)
    (h : ∀ H0 I, SX cx H0 I false fn.ntmps .normal [.code c] L M (FinS cx H0 I fn R)) : TF cx (.f f) args M R := by
  intro H I hH
  subst hL
  refine EF.shared ho hf hb hs (EW.mono (h H I _ H (Ag.init (by simpa using hl)) hH) ?_)
  rintro x e H' ⟨hx, v, M2, h1, h2, h3⟩
  rcases hx with rfl | rfl <;> exact ⟨v, h1, v, H', M2, rfl, h2, h3⟩
def blank (M : List Ent) : List Nat → List Ent
  | [] => M
  | k :: r => blank (M.set k .no) r
theorem blank_length : ∀ (ks : List Nat) (M : List Ent), (blank M ks).length = M.length
  | [], M => rfl
  | k :: r, M => by simp [blank, blank_length r]
theorem blank_get : ∀ (ks : List Nat) (M : List Ent) (i : Nat) (E : Ent), (blank M ks)[i]? = some E → (i ∈ ks ∧ E = .no) ∨ (i ∉ ks ∧ M[i]? = some E)
  | [], M, i, E, h => .inr ⟨by simp, h⟩
  | k :: r, M, i, E, h => by
    rcases blank_get r _ i E h with ⟨h1, h2⟩ | ⟨h1, h2⟩
    · exact .inl ⟨by simp [h1], h2⟩
    · by_cases hik : i = k
      · subst hik
        have hl : i < M.length := by
          rcases Nat.lt_or_ge i M.length with h3 | h3
          · exact h3
          · rw [List.getElem?_eq_none (by simpa using h3)] at h2; cases h2
        rw [List.getElem?_set_self hl] at h2
        cases h2
        exact .inl ⟨by simp, rfl⟩
      · rw [List.getElem?_set_ne (fun h => hik h.symm)] at h2
        exact .inr ⟨by simp [hik, h1], h2⟩
theorem HA.frame {H : Hp} (hH : HA H0 I M H) (ks : List Nat) (hk : selOK M ks = true) : ∃ I1, HA H I1 (Ev.sel M ks) H ∧ ∀ {M2 : List Ent} {H' : Hp}, HA H I1 M2 H' → HA H0 I (blank M ks ++ M2) H' := by
  have hH0 := hH
  obtain ⟨f, hf⟩ := hH
  simp only [selOK, Bool.and_eq_true, List.all_eq_true, decide_eq_true_eq] at hk
  have hsel := hf.sel ks hk.2 (sel_length M ks) (fun i k hi => by
    rw [sel_get M ks i k hi]
    have : k < M.length := by simpa [Nat.blt_eq] using hk.1 k (List.mem_of_getElem? hi)
    simp [List.getElem?_eq_getElem this])
  refine ⟨ks.filterMap f, ⟨_, ⟨hsel.ent, hsel.out, hsel.inj, fun i p hi => ⟨(hsel.rng i p hi).1, (hsel.rng i p hi).2.1, .inl ?_⟩, rfl, Nat.le_refl _, hsel.ln, fun _ _ _ => rfl⟩⟩, ?_⟩
  · cases hk' : ks[i]? with
    | none => simp only [hk'] at hi; cases hi
    | some k => simp only [hk'] at hi; exact List.mem_filterMap.2 ⟨k, List.mem_of_getElem? hk', hi⟩
  · rintro M2 H' ⟨g, hg⟩
    have hnx := hg.next
    have keep : ∀ k p, f k = some p → k ∉ ks → H'.obj p = H.obj p := fun k p hp hks => hg.frame p (hf.rng k p hp).2.1 (fun hmem => by
      obtain ⟨k', hk', hp'⟩ := List.mem_filterMap.1 hmem
      have := hf.inj k k' p hp hp'
      subst this
      exact hks hk')
    have hin : ∀ p, p ∈ ks.filterMap f → ∃ k, k ∈ ks ∧ f k = some p := fun p hp => by
      obtain ⟨k', hk', hp'⟩ := List.mem_filterMap.1 hp; exact ⟨k', hk', hp'⟩
    refine ⟨fun k => if k < M.length then (if k ∈ ks then none else f k) else g (k - M.length), ?_⟩
    constructor
    · intro k E hkE
      by_cases hkl : k < M.length
      · rw [List.getElem?_append_left (by rw [blank_length]; exact hkl)] at hkE
        simp only [if_pos hkl]
        rcases blank_get ks M k E hkE with ⟨h1, rfl⟩ | ⟨h1, h2⟩
        · rw [if_pos h1]; rfl
        · rw [if_neg h1]
          exact (hf.ent k E h2).keep (fun p hp => keep k p hp h1)
      · rw [List.getElem?_append_right (by rw [blank_length]; omega), blank_length] at hkE
        simp only [if_neg hkl]
        exact hg.ent _ E hkE
    · intro k hkl
      simp only [List.length_append, blank_length] at hkl
      rw [if_neg (by omega)]
      exact hg.out _ (by omega)
    · intro a b p ha hb
      have cross : ∀ a b, a < M.length → a ∉ ks → f a = some p → g b = some p → False := by
        intro a b hal haks ha hb
        rcases (hg.rng b p hb).2.2 with h1 | h1
        · obtain ⟨k', hk', hp'⟩ := hin p h1
          have := hf.inj a k' p ha hp'
          subst this
          exact haks hk'
        · have := (hf.rng a p ha).2.1; omega
      by_cases hal : a < M.length <;> by_cases hbl : b < M.length
      · simp only [if_pos hal] at ha
        simp only [if_pos hbl] at hb
        split at ha
        · cases ha
        · split at hb
          · cases hb
          · exact hf.inj a b p ha hb
      · simp only [if_pos hal] at ha
        simp only [if_neg hbl] at hb
        split at ha
        · cases ha
        · rename_i hks; exact (cross a _ hal hks ha hb).elim
      · simp only [if_neg hal] at ha
        simp only [if_pos hbl] at hb
        split at hb
        · cases hb
        · rename_i hks; exact (cross b _ hbl hks hb ha).elim
      · simp only [if_neg hal] at ha
        simp only [if_neg hbl] at hb
        have := hg.inj _ _ p ha hb
        omega
    · intro k p hp
      by_cases hkl : k < M.length
      · simp only [if_pos hkl] at hp
        split at hp
        · cases hp
        · obtain ⟨h1, h2, h3⟩ := hf.rng k p hp
          exact ⟨by rw [hg.low]; exact h1, by omega, h3⟩
      · simp only [if_neg hkl] at hp
        obtain ⟨h1, h2, h3⟩ := hg.rng _ p hp
        refine ⟨h1, h2, ?_⟩
        rcases h3 with h4 | h4
        · obtain ⟨k', hk', hp'⟩ := hin p h4
          exact (hf.rng k' p hp').2.2
        · exact .inr (Nat.le_trans hf.next h4)
    · rw [hg.low]; exact hf.low
    · exact Nat.le_trans hf.next hnx
    · exact hg.ln
    · intro i hi hI
      rw [hg.frame i (Nat.lt_of_lt_of_le hi hf.next) (fun hmem => by
        obtain ⟨k', hk', hp'⟩ := hin i hmem
        rcases (hf.rng k' i hp').2.2 with h1 | h1
        · exact hI h1
        · omega)]
      exact hf.frame i hi hI
/-- A call on the caller's heap. -/
theorem SO.tf (ks : List Nat) {d : Nat} {t : Tg} {args : List V} {Mb : List Ent} {R : V → List Ent → Prop} (hd : okS n all L o = some d) (hc : callS cx L o.op = some (t, args)) (hk : selOK M ks = true) (h : TF cx t args (sel M ks) R) (hb : blank M ks = Mb)
    (k : ∀ v M2, R v M2 → SO cx H0 I ro n none all r s ((d, v) :: L) (Mb ++ M2) K) : SO cx H0 I ro n none all (o :: r) s L M K := by
  subst hb
  refine SO.callR (fun v M' => ∃ M2, M' = blank M ks ++ M2 ∧ R v M2) hd hc (fun H hH => ?_) (by rintro v M' ⟨M2, rfl, hR⟩; exact k v M2 hR)
  obtain ⟨I1, h1, h2⟩ := hH.frame ks hk
  exact EF.mono (h H I1 h1) (by rintro rz ⟨v, H', M2, hz, h3, hR⟩; exact ⟨v, H', _, hz, h2 h3, M2, rfl, hR⟩)
theorem SO.tf0 (ks : List Nat) {t : Tg} {args : List V} {Mb : List Ent} {R : V → List Ent → Prop} (hd : okN all L o = true) (hc : callS cx L o.op = some (t, args)) (hk : selOK M ks = true) (h : TF cx t args (sel M ks) R) (hb : blank M ks = Mb)
    (k : ∀ v M2, R v M2 → SO cx H0 I ro n none all r s L (Mb ++ M2) K) : SO cx H0 I ro n none all (o :: r) s L M K := by
  subst hb
  refine SO.callR0 (fun v M' => ∃ M2, M' = blank M ks ++ M2 ∧ R v M2) hd hc (fun H hH => ?_) (by rintro v M' ⟨M2, rfl, hR⟩; exact k v M2 hR)
  obtain ⟨I1, h1, h2⟩ := hH.frame ks hk
  exact EF.mono (h H I1 h1) (by rintro rz ⟨v, H', M2, hz, h3, hR⟩; exact ⟨v, H', _, hz, h2 h3, M2, rfl, hR⟩)
end
end Go.Ev
