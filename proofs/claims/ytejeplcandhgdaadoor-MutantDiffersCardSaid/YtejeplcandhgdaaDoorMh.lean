/- slices.Clone at rows; reticent/mutant.spots. -/
import Derived.Test.YtejeplcandhgdaaDoorMg
set_option linter.unusedVariables false
set_option linter.unusedSimpArgs false
set_option maxRecDepth 10000
set_option maxHeartbeats 2000000
namespace Go.Ev
open Go.Proofs
attribute [local irreducible] SX SO

theorem tf36 (t : List RowL) (h0 : t ≠ []) (hl : t.length < 1099511627) : TF cxD (.f 36) [.p (.sl (t.map enR))] [] (fun v M => M = [.sl v (t.map enR) 3]) := by
  refine TF.intro (fn := Tryd.f36) (L := [(0, .p (.sl (t.map enR)))]) rfl rfl rfl rfl rfl rfl (fun H0 I => ?_)
  repeat (first | refine SX.seq ?_ | refine SX.skip ?_ | refine SX.block ?_ | refine SX.endblk ?_ | refine SX.region ?_ | refine SX.exit rfl ?_ | refine SO.nil ?_ | refine SO.head ?_ | refine SO.off rfl rfl rfl ?_ | refine SO.lenm rfl rfl rfl rfl rfl ⟨_, _, rfl, rfl⟩ ?_ | refine SO.bsp rfl rfl rfl rfl rfl rfl rfl rfl rfl rfl ?_ | refine SO.fa rfl rfl rfl rfl ?_ | refine SO.mnL rfl rfl rfl rfl (by decide) ?_ | refine SO.add rfl rfl rfl rfl (by omega) (by omega) ?_ | refine SO.sb rfl rfl rfl rfl (by omega) (by omega) ?_ | refine SO.mul rfl rfl rfl rfl (by omega) (by omega) ?_ | refine SO.shr rfl rfl rfl rfl (by omega) ?_ | refine SO.shl rfl rfl rfl rfl (by omega) ?_ | refine SO.p rfl (fun _ _ => rfl) ?_ | refine SX.condT rfl ?_ | refine SX.condF rfl ?_)
  refine SO.nilne rfl rfl rfl rfl rfl rfl (by simpa using h0) ?_
  repeat (first | refine SX.seq ?_ | refine SX.skip ?_ | refine SX.block ?_ | refine SX.endblk ?_ | refine SX.region ?_ | refine SX.exit rfl ?_ | refine SO.nil ?_ | refine SO.head ?_ | refine SO.off rfl rfl rfl ?_ | refine SO.lenm rfl rfl rfl rfl rfl ⟨_, _, rfl, rfl⟩ ?_ | refine SO.bsp rfl rfl rfl rfl rfl rfl rfl rfl rfl rfl ?_ | refine SO.fa rfl rfl rfl rfl ?_ | refine SO.mnL rfl rfl rfl rfl (by decide) ?_ | refine SO.add rfl rfl rfl rfl (by omega) (by omega) ?_ | refine SO.sb rfl rfl rfl rfl (by omega) (by omega) ?_ | refine SO.mul rfl rfl rfl rfl (by omega) (by omega) ?_ | refine SO.shr rfl rfl rfl rfl (by omega) ?_ | refine SO.shl rfl rfl rfl rfl (by omega) ?_ | refine SO.p rfl (fun _ _ => rfl) ?_ | refine SX.condT rfl ?_ | refine SX.condF rfl ?_)
  refine SO.nils 3 rfl ?_
  refine SO.appg 0 (ys := t.map enR) rfl rfl rfl rfl rfl rfl rfl rfl rfl rfl rfl (by decide) (hs_map (enc := enR) (fun _ => rfl) _) 72 rfl (by simp <;> omega) (by simp <;> omega) (zs := t.map enR) (by simp) (fun _ => rfl) (fun u => ?_)
  repeat (first | refine SX.seq ?_ | refine SX.skip ?_ | refine SX.block ?_ | refine SX.endblk ?_ | refine SX.region ?_ | refine SX.exit rfl ?_ | refine SO.nil ?_ | refine SO.head ?_ | refine SO.off rfl rfl rfl ?_ | refine SO.lenm rfl rfl rfl rfl rfl ⟨_, _, rfl, rfl⟩ ?_ | refine SO.bsp rfl rfl rfl rfl rfl rfl rfl rfl rfl rfl ?_ | refine SO.fa rfl rfl rfl rfl ?_ | refine SO.mnL rfl rfl rfl rfl (by decide) ?_ | refine SO.add rfl rfl rfl rfl (by omega) (by omega) ?_ | refine SO.sb rfl rfl rfl rfl (by omega) (by omega) ?_ | refine SO.mul rfl rfl rfl rfl (by omega) (by omega) ?_ | refine SO.shr rfl rfl rfl rfl (by omega) ?_ | refine SO.shl rfl rfl rfl rfl (by omega) ?_ | refine SO.p rfl (fun _ _ => rfl) ?_ | refine SX.condT rfl ?_ | refine SX.condF rfl ?_ | refine SO.ld 0 rfl rfl rfl rfl rfl ?_ | refine SO.st 0 rfl rfl rfl rfl rfl rfl rfl rfl rfl rfl ?_ | refine SO.lenOm 0 rfl rfl rfl rfl rfl rfl ⟨_, _, rfl, rfl⟩ ?_)
  exact SX.ret (SX.finS (.tmp rfl .nil) rfl rfl)

structure Item where
  op : Nat
  which : Nat
  n : Nat
  w : List Int
abbrev Item.args (x : Item) : List V := [.p (.agg [.int .i64 x.op, .int .i64 x.which, .int .i64 x.n]), .p (ints x.w)]
def row0 : RowL := ⟨[], [], []⟩
def it3 (op which : Nat) (l : List Int) (j : Nat) : List Item := (List.range j).map (fun n => ⟨op, which, n, (weakerF l).getD n []⟩)
def it2 (op : Nat) (r : RowL) (k : Nat) : List Item := ((List.range k).map (fun which => it3 op which ((rulesF r).getD which []) (weakerF ((rulesF r).getD which [])).length)).flatten
def it1 (t : List RowL) (i : Nat) : List Item := ((List.range i).map (fun op => it2 op (t.getD op row0) 3)).flatten
theorem it3_succ (op which : Nat) (l : List Int) (j : Nat) : it3 op which l (j + 1) = it3 op which l j ++ [⟨op, which, j, (weakerF l).getD j []⟩] := by simp [it3, List.range_succ]
theorem it2_succ (op : Nat) (r : RowL) (k : Nat) : it2 op r (k + 1) = it2 op r k ++ it3 op k ((rulesF r).getD k []) (weakerF ((rulesF r).getD k [])).length := by simp [it2, List.range_succ]
theorem it1_succ (t : List RowL) (i : Nat) : it1 t (i + 1) = it1 t i ++ it2 i (t.getD i row0) 3 := by simp [it1, List.range_succ]
theorem getD_lt {α : Type} {l : List α} {i : Nat} (h : i < l.length) (d : α) : l.getD i d = l[i] := by simp [List.getD_eq_getElem?_getD, h]

def ruleOk (l : List Int) : Prop := l.length < 1099511627 ∧ segsOk l
theorem weakerF_len (l : List Int) : (weakerF l).length ≤ 1 + 2 * l.length := by
  have := weakGo_len l (leastOf l).2 l.length
  unfold weakerF
  rw [List.length_append]
  split <;> simp <;> omega
theorem it1_mono (t : List RowL) {i j : Nat} (h : i ≤ j) : (it1 t i).length ≤ (it1 t j).length := by
  induction h with
  | refl => exact Nat.le_refl _
  | step h ih => rw [it1_succ, List.length_append]; omega
theorem it2_mono (op : Nat) (r : RowL) {i j : Nat} (h : i ≤ j) : (it2 op r i).length ≤ (it2 op r j).length := by
  induction h with
  | refl => exact Nat.le_refl _
  | step h ih => rw [it2_succ, List.length_append]; omega
theorem tf92 (t : List RowL) (hl : t.length < 1099511627) (hr : ∀ r ∈ t, ∀ l ∈ rulesF r, ruleOk l) (p id : Nat) (J : List Item → List Ent → Prop) (hp : ∀ d M, J d M → M[0]? = some (.ob p (.ref [.p (.sl (t.map enR))])))
    (body : ∀ d (x : Item) M, x.op < t.length → d.length < (it1 t t.length).length → J d M → TF cxD (.y id) x.args M (fun v M' => v = .p (.bool true) ∧ J (d ++ [x]) M')) (M0 : List Ent) (h0 : J [] M0) :
    TF cxD (.f 92) [.yield id, .ref p 0] M0 (fun _ M' => J (it1 t t.length) M') := by
  refine TF.intro (fn := Tryd.f92) (L := [(0, .yield id), (1, .ref p 0)]) rfl rfl rfl rfl rfl rfl (fun H0 I => ?_)
  repeat (first | refine SX.seq ?_ | refine SX.skip ?_ | refine SX.block ?_ | refine SX.endblk ?_ | refine SX.region ?_ | refine SX.exit rfl ?_ | refine SO.nil ?_ | refine SO.head ?_ | refine SO.off rfl rfl rfl ?_ | refine SO.lenm rfl rfl rfl rfl rfl ⟨_, _, rfl, rfl⟩ ?_ | refine SO.bsp rfl rfl rfl rfl rfl rfl rfl rfl rfl rfl ?_ | refine SO.fa rfl rfl rfl rfl ?_ | refine SO.mnL rfl rfl rfl rfl (by decide) ?_ | refine SO.add rfl rfl rfl rfl (by omega) (by omega) ?_ | refine SO.sb rfl rfl rfl rfl (by omega) (by omega) ?_ | refine SO.mul rfl rfl rfl rfl (by omega) (by omega) ?_ | refine SO.shr rfl rfl rfl rfl (by omega) ?_ | refine SO.shl rfl rfl rfl rfl (by omega) ?_ | refine SO.p rfl (fun _ _ => rfl) ?_ | refine SX.condT rfl ?_ | refine SX.condF rfl ?_)
  refine SO.ld 0 rfl rfl rfl (hp _ _ h0) rfl ?_
  repeat (first | refine SX.seq ?_ | refine SX.skip ?_ | refine SX.block ?_ | refine SX.endblk ?_ | refine SX.region ?_ | refine SX.exit rfl ?_ | refine SO.nil ?_ | refine SO.head ?_ | refine SO.off rfl rfl rfl ?_ | refine SO.lenm rfl rfl rfl rfl rfl ⟨_, _, rfl, rfl⟩ ?_ | refine SO.bsp rfl rfl rfl rfl rfl rfl rfl rfl rfl rfl ?_ | refine SO.fa rfl rfl rfl rfl ?_ | refine SO.mnL rfl rfl rfl rfl (by decide) ?_ | refine SO.add rfl rfl rfl rfl (by omega) (by omega) ?_ | refine SO.sb rfl rfl rfl rfl (by omega) (by omega) ?_ | refine SO.mul rfl rfl rfl rfl (by omega) (by omega) ?_ | refine SO.shr rfl rfl rfl rfl (by omega) ?_ | refine SO.shl rfl rfl rfl rfl (by omega) ?_ | refine SO.p rfl (fun _ _ => rfl) ?_ | refine SX.condT rfl ?_ | refine SX.condF rfl ?_)
  refine SX.loop (γ := Nat × List Ent) (fun g => [(0, .yield id), (10, .p (.sl (t.map enR))), (11, .p (.int .i64 t.length)), (12, .p (.int .i64 g.1))]) (fun g => g.2)
    (fun g => g.1 ≤ t.length ∧ J (it1 t g.1) g.2) (fun g => t.length - g.1) (0, M0) ⟨Nat.zero_le _, h0⟩ ⟨rfl, rfl, rfl, rfl, trivial⟩ rfl ?_
  rintro ⟨i, M⟩ ⟨hi, hJ⟩
  simp only at hi hJ
  dsimp only
  repeat (first | refine SX.seq ?_ | refine SX.skip ?_ | refine SX.block ?_ | refine SX.endblk ?_ | refine SX.region ?_ | refine SX.exit rfl ?_ | refine SO.nil ?_ | refine SO.head ?_ | refine SO.off rfl rfl rfl ?_ | refine SO.lenm rfl rfl rfl rfl rfl ⟨_, _, rfl, rfl⟩ ?_ | refine SO.bsp rfl rfl rfl rfl rfl rfl rfl rfl rfl rfl ?_ | refine SO.fa rfl rfl rfl rfl ?_ | refine SO.mnL rfl rfl rfl rfl (by decide) ?_ | refine SO.add rfl rfl rfl rfl (by omega) (by omega) ?_ | refine SO.sb rfl rfl rfl rfl (by omega) (by omega) ?_ | refine SO.mul rfl rfl rfl rfl (by omega) (by omega) ?_ | refine SO.shr rfl rfl rfl rfl (by omega) ?_ | refine SO.shl rfl rfl rfl rfl (by omega) ?_ | refine SO.p rfl (fun _ _ => rfl) ?_ | refine SX.condT rfl ?_ | refine SX.condF rfl ?_)
  refine SX.cond rfl (fun h => ?_) (fun h => ?_)
  · have hlt : i < t.length := by simpa using h
    have hro := hr _ (List.getElem_mem hlt)
    have hs1 := it1_succ t i
    rw [getD_lt hlt] at hs1
    repeat (first | refine SX.seq ?_ | refine SX.skip ?_ | refine SX.block ?_ | refine SX.endblk ?_ | refine SX.region ?_ | refine SX.exit rfl ?_ | refine SO.nil ?_ | refine SO.head ?_ | refine SO.off rfl rfl rfl ?_ | refine SO.lenm rfl rfl rfl rfl rfl ⟨_, _, rfl, rfl⟩ ?_ | refine SO.bsp rfl rfl rfl rfl rfl rfl rfl rfl rfl rfl ?_ | refine SO.fa rfl rfl rfl rfl ?_ | refine SO.mnL rfl rfl rfl rfl (by decide) ?_ | refine SO.add rfl rfl rfl rfl (by omega) (by omega) ?_ | refine SO.sb rfl rfl rfl rfl (by omega) (by omega) ?_ | refine SO.mul rfl rfl rfl rfl (by omega) (by omega) ?_ | refine SO.shr rfl rfl rfl rfl (by omega) ?_ | refine SO.shl rfl rfl rfl rfl (by omega) ?_ | refine SO.p rfl (fun _ _ => rfl) ?_ | refine SX.condT rfl ?_ | refine SX.condF rfl ?_)
    refine SO.ix (j := i) rfl rfl rfl rfl rfl (rdl_map _ hlt) rfl ?_
    refine SO.lds rfl rfl rfl (rdl_map _ hlt) rfl ?_
    generalize t[i] = rw at hro hs1 ⊢
    refine SO.nwA rfl (fun _ _ => rfl) rfl (fun p4 => ?_)
    repeat (first | refine SX.seq ?_ | refine SX.skip ?_ | refine SX.block ?_ | refine SX.endblk ?_ | refine SX.region ?_ | refine SX.exit rfl ?_ | refine SO.nil ?_ | refine SO.head ?_ | refine SO.off rfl rfl rfl ?_ | refine SO.lenm rfl rfl rfl rfl rfl ⟨_, _, rfl, rfl⟩ ?_ | refine SO.bsp rfl rfl rfl rfl rfl rfl rfl rfl rfl rfl ?_ | refine SO.fa rfl rfl rfl rfl ?_ | refine SO.mnL rfl rfl rfl rfl (by decide) ?_ | refine SO.add rfl rfl rfl rfl (by omega) (by omega) ?_ | refine SO.sb rfl rfl rfl rfl (by omega) (by omega) ?_ | refine SO.mul rfl rfl rfl rfl (by omega) (by omega) ?_ | refine SO.shr rfl rfl rfl rfl (by omega) ?_ | refine SO.shl rfl rfl rfl rfl (by omega) ?_ | refine SO.p rfl (fun _ _ => rfl) ?_ | refine SX.condT rfl ?_ | refine SX.condF rfl ?_)
    refine SO.stA rfl rfl rfl rfl rfl rfl rfl rfl ?_
    repeat (first | refine SX.seq ?_ | refine SX.skip ?_ | refine SX.block ?_ | refine SX.endblk ?_ | refine SX.region ?_ | refine SX.exit rfl ?_ | refine SO.nil ?_ | refine SO.head ?_ | refine SO.off rfl rfl rfl ?_ | refine SO.lenm rfl rfl rfl rfl rfl ⟨_, _, rfl, rfl⟩ ?_ | refine SO.bsp rfl rfl rfl rfl rfl rfl rfl rfl rfl rfl ?_ | refine SO.fa rfl rfl rfl rfl ?_ | refine SO.mnL rfl rfl rfl rfl (by decide) ?_ | refine SO.add rfl rfl rfl rfl (by omega) (by omega) ?_ | refine SO.sb rfl rfl rfl rfl (by omega) (by omega) ?_ | refine SO.mul rfl rfl rfl rfl (by omega) (by omega) ?_ | refine SO.shr rfl rfl rfl rfl (by omega) ?_ | refine SO.shl rfl rfl rfl rfl (by omega) ?_ | refine SO.p rfl (fun _ _ => rfl) ?_ | refine SX.condT rfl ?_ | refine SX.condF rfl ?_)
    refine SO.ldA rfl rfl rfl rfl ?_
    refine SO.left ?_
    refine SO.pfq rfl rfl (pf93 rw) rfl (by first | rfl | exact congrArg (fun z => [z]) (nrm_intss [_, _]) | exact congrArg (fun z => [z]) (nrm_intss [_, _, _]) | simp [nrm, nrmL, nrmL_ints, nrmL_rows, nrmL_intss]) ?_
    repeat (first | refine SX.seq ?_ | refine SX.skip ?_ | refine SX.block ?_ | refine SX.endblk ?_ | refine SX.region ?_ | refine SX.exit rfl ?_ | refine SO.nil ?_ | refine SO.head ?_ | refine SO.off rfl rfl rfl ?_ | refine SO.lenm rfl rfl rfl rfl rfl ⟨_, _, rfl, rfl⟩ ?_ | refine SO.bsp rfl rfl rfl rfl rfl rfl rfl rfl rfl rfl ?_ | refine SO.fa rfl rfl rfl rfl ?_ | refine SO.mnL rfl rfl rfl rfl (by decide) ?_ | refine SO.add rfl rfl rfl rfl (by omega) (by omega) ?_ | refine SO.sb rfl rfl rfl rfl (by omega) (by omega) ?_ | refine SO.mul rfl rfl rfl rfl (by omega) (by omega) ?_ | refine SO.shr rfl rfl rfl rfl (by omega) ?_ | refine SO.shl rfl rfl rfl rfl (by omega) ?_ | refine SO.p rfl (fun _ _ => rfl) ?_ | refine SX.condT rfl ?_ | refine SX.condF rfl ?_)
    refine SX.loop (γ := Nat × List Ent) (fun g => [(0, .yield id), (10, .p (.sl (t.map enR))), (11, .p (.int .i64 t.length)), (12, .p (.int .i64 i)), (3, .p (.int .i64 i)), (18, .p (intss (rulesF rw))), (19, .p (.int .i64 3)), (20, .p (.int .i64 g.1))]) (fun g => g.2)
      (fun g => g.1 ≤ 3 ∧ J (it1 t i ++ it2 i rw g.1) g.2) (fun g => 3 - g.1) (0, M) ⟨Nat.zero_le _, by simpa [it2] using hJ⟩ ⟨rfl, rfl, rfl, rfl, rfl, rfl, rfl, rfl, trivial⟩ rfl ?_
    rintro ⟨k, M⟩ ⟨hk, hJ⟩
    simp only at hk hJ
    dsimp only
    repeat (first | refine SX.seq ?_ | refine SX.skip ?_ | refine SX.block ?_ | refine SX.endblk ?_ | refine SX.region ?_ | refine SX.exit rfl ?_ | refine SO.nil ?_ | refine SO.head ?_ | refine SO.off rfl rfl rfl ?_ | refine SO.lenm rfl rfl rfl rfl rfl ⟨_, _, rfl, rfl⟩ ?_ | refine SO.bsp rfl rfl rfl rfl rfl rfl rfl rfl rfl rfl ?_ | refine SO.fa rfl rfl rfl rfl ?_ | refine SO.mnL rfl rfl rfl rfl (by decide) ?_ | refine SO.add rfl rfl rfl rfl (by omega) (by omega) ?_ | refine SO.sb rfl rfl rfl rfl (by omega) (by omega) ?_ | refine SO.mul rfl rfl rfl rfl (by omega) (by omega) ?_ | refine SO.shr rfl rfl rfl rfl (by omega) ?_ | refine SO.shl rfl rfl rfl rfl (by omega) ?_ | refine SO.p rfl (fun _ _ => rfl) ?_ | refine SX.condT rfl ?_ | refine SX.condF rfl ?_)
    refine SX.cond rfl (fun h => ?_) (fun h => ?_)
    · have hk3 : k < 3 := by simp at h; omega
      have hk3' : k < (rulesF rw).length := hk3
      have hlo := hro _ (List.getElem_mem hk3')
      have hs2 := it2_succ i rw k
      rw [getD_lt hk3'] at hs2
      repeat (first | refine SX.seq ?_ | refine SX.skip ?_ | refine SX.block ?_ | refine SX.endblk ?_ | refine SX.region ?_ | refine SX.exit rfl ?_ | refine SO.nil ?_ | refine SO.head ?_ | refine SO.off rfl rfl rfl ?_ | refine SO.lenm rfl rfl rfl rfl rfl ⟨_, _, rfl, rfl⟩ ?_ | refine SO.bsp rfl rfl rfl rfl rfl rfl rfl rfl rfl rfl ?_ | refine SO.fa rfl rfl rfl rfl ?_ | refine SO.mnL rfl rfl rfl rfl (by decide) ?_ | refine SO.add rfl rfl rfl rfl (by omega) (by omega) ?_ | refine SO.sb rfl rfl rfl rfl (by omega) (by omega) ?_ | refine SO.mul rfl rfl rfl rfl (by omega) (by omega) ?_ | refine SO.shr rfl rfl rfl rfl (by omega) ?_ | refine SO.shl rfl rfl rfl rfl (by omega) ?_ | refine SO.p rfl (fun _ _ => rfl) ?_ | refine SX.condT rfl ?_ | refine SX.condF rfl ?_)
      refine SO.ix (j := k) rfl rfl rfl rfl rfl (rdl_map _ hk3') rfl ?_
      refine SO.lds rfl rfl rfl (rdl_map _ hk3') rfl ?_
      generalize (rulesF rw)[k] = l at hlo hs2 ⊢
      have hwl := weakerF_len l
      obtain ⟨hll, hseg⟩ := hlo
      repeat (first | refine SX.seq ?_ | refine SX.skip ?_ | refine SX.block ?_ | refine SX.endblk ?_ | refine SX.region ?_ | refine SX.exit rfl ?_ | refine SO.nil ?_ | refine SO.head ?_ | refine SO.off rfl rfl rfl ?_ | refine SO.lenm rfl rfl rfl rfl rfl ⟨_, _, rfl, rfl⟩ ?_ | refine SO.bsp rfl rfl rfl rfl rfl rfl rfl rfl rfl rfl ?_ | refine SO.fa rfl rfl rfl rfl ?_ | refine SO.mnL rfl rfl rfl rfl (by decide) ?_ | refine SO.add rfl rfl rfl rfl (by omega) (by omega) ?_ | refine SO.sb rfl rfl rfl rfl (by omega) (by omega) ?_ | refine SO.mul rfl rfl rfl rfl (by omega) (by omega) ?_ | refine SO.shr rfl rfl rfl rfl (by omega) ?_ | refine SO.shl rfl rfl rfl rfl (by omega) ?_ | refine SO.p rfl (fun _ _ => rfl) ?_ | refine SX.condT rfl ?_ | refine SX.condF rfl ?_)
      refine SO.pfq rfl rfl (pf94 l hll hseg) rfl (by first | rfl | exact congrArg (fun z => [z]) (nrm_intss [_, _]) | exact congrArg (fun z => [z]) (nrm_intss [_, _, _]) | simp [nrm, nrmL, nrmL_ints, nrmL_rows, nrmL_intss]) ?_
      repeat (first | refine SX.seq ?_ | refine SX.skip ?_ | refine SX.block ?_ | refine SX.endblk ?_ | refine SX.region ?_ | refine SX.exit rfl ?_ | refine SO.nil ?_ | refine SO.head ?_ | refine SO.off rfl rfl rfl ?_ | refine SO.lenm rfl rfl rfl rfl rfl ⟨_, _, rfl, rfl⟩ ?_ | refine SO.bsp rfl rfl rfl rfl rfl rfl rfl rfl rfl rfl ?_ | refine SO.fa rfl rfl rfl rfl ?_ | refine SO.mnL rfl rfl rfl rfl (by decide) ?_ | refine SO.add rfl rfl rfl rfl (by omega) (by omega) ?_ | refine SO.sb rfl rfl rfl rfl (by omega) (by omega) ?_ | refine SO.mul rfl rfl rfl rfl (by omega) (by omega) ?_ | refine SO.shr rfl rfl rfl rfl (by omega) ?_ | refine SO.shl rfl rfl rfl rfl (by omega) ?_ | refine SO.p rfl (fun _ _ => rfl) ?_ | refine SX.condT rfl ?_ | refine SX.condF rfl ?_)
      refine SX.loop (γ := Nat × List Ent) (fun g => [(0, .yield id), (10, .p (.sl (t.map enR))), (11, .p (.int .i64 t.length)), (12, .p (.int .i64 i)), (3, .p (.int .i64 i)), (18, .p (intss (rulesF rw))), (19, .p (.int .i64 3)), (20, .p (.int .i64 k)), (5, .p (.int .i64 k)), (26, .p (intss (weakerF l))), (27, .p (.int .i64 (weakerF l).length)), (28, .p (.int .i64 g.1))]) (fun g => g.2)
        (fun g => g.1 ≤ (weakerF l).length ∧ J (it1 t i ++ it2 i rw k ++ it3 i k l g.1) g.2) (fun g => (weakerF l).length - g.1) (0, M) ⟨Nat.zero_le _, by simpa [it3] using hJ⟩ ⟨rfl, rfl, rfl, rfl, rfl, rfl, rfl, rfl, rfl, rfl, rfl, rfl, trivial⟩ rfl ?_
      rintro ⟨j, M⟩ ⟨hj, hJ⟩
      simp only at hj hJ
      dsimp only
      repeat (first | refine SX.seq ?_ | refine SX.skip ?_ | refine SX.block ?_ | refine SX.endblk ?_ | refine SX.region ?_ | refine SX.exit rfl ?_ | refine SO.nil ?_ | refine SO.head ?_ | refine SO.off rfl rfl rfl ?_ | refine SO.lenm rfl rfl rfl rfl rfl ⟨_, _, rfl, rfl⟩ ?_ | refine SO.bsp rfl rfl rfl rfl rfl rfl rfl rfl rfl rfl ?_ | refine SO.fa rfl rfl rfl rfl ?_ | refine SO.mnL rfl rfl rfl rfl (by decide) ?_ | refine SO.add rfl rfl rfl rfl (by omega) (by omega) ?_ | refine SO.sb rfl rfl rfl rfl (by omega) (by omega) ?_ | refine SO.mul rfl rfl rfl rfl (by omega) (by omega) ?_ | refine SO.shr rfl rfl rfl rfl (by omega) ?_ | refine SO.shl rfl rfl rfl rfl (by omega) ?_ | refine SO.p rfl (fun _ _ => rfl) ?_ | refine SX.condT rfl ?_ | refine SX.condF rfl ?_)
      refine SX.cond rfl (fun h => ?_) (fun h => ?_)
      · have hjl : j < (weakerF l).length := by simpa using h
        have hs3 := it3_succ i k l j
        rw [getD_lt hjl] at hs3
        repeat (first | refine SX.seq ?_ | refine SX.skip ?_ | refine SX.block ?_ | refine SX.endblk ?_ | refine SX.region ?_ | refine SX.exit rfl ?_ | refine SO.nil ?_ | refine SO.head ?_ | refine SO.off rfl rfl rfl ?_ | refine SO.lenm rfl rfl rfl rfl rfl ⟨_, _, rfl, rfl⟩ ?_ | refine SO.bsp rfl rfl rfl rfl rfl rfl rfl rfl rfl rfl ?_ | refine SO.fa rfl rfl rfl rfl ?_ | refine SO.mnL rfl rfl rfl rfl (by decide) ?_ | refine SO.add rfl rfl rfl rfl (by omega) (by omega) ?_ | refine SO.sb rfl rfl rfl rfl (by omega) (by omega) ?_ | refine SO.mul rfl rfl rfl rfl (by omega) (by omega) ?_ | refine SO.shr rfl rfl rfl rfl (by omega) ?_ | refine SO.shl rfl rfl rfl rfl (by omega) ?_ | refine SO.p rfl (fun _ _ => rfl) ?_ | refine SX.condT rfl ?_ | refine SX.condF rfl ?_)
        refine SO.ix (j := j) rfl rfl rfl rfl rfl (rdl_map _ hjl) rfl ?_
        refine SO.lds rfl rfl rfl (rdl_map _ hjl) rfl ?_
        repeat (first | refine SX.seq ?_ | refine SX.skip ?_ | refine SX.block ?_ | refine SX.endblk ?_ | refine SX.region ?_ | refine SX.exit rfl ?_ | refine SO.nil ?_ | refine SO.head ?_ | refine SO.off rfl rfl rfl ?_ | refine SO.lenm rfl rfl rfl rfl rfl ⟨_, _, rfl, rfl⟩ ?_ | refine SO.bsp rfl rfl rfl rfl rfl rfl rfl rfl rfl rfl ?_ | refine SO.fa rfl rfl rfl rfl ?_ | refine SO.mnL rfl rfl rfl rfl (by decide) ?_ | refine SO.add rfl rfl rfl rfl (by omega) (by omega) ?_ | refine SO.sb rfl rfl rfl rfl (by omega) (by omega) ?_ | refine SO.mul rfl rfl rfl rfl (by omega) (by omega) ?_ | refine SO.shr rfl rfl rfl rfl (by omega) ?_ | refine SO.shl rfl rfl rfl rfl (by omega) ?_ | refine SO.p rfl (fun _ _ => rfl) ?_ | refine SX.condT rfl ?_ | refine SX.condF rfl ?_)
        have hlen : (it1 t i ++ it2 i rw k ++ it3 i k l j).length < (it1 t t.length).length := by
          have q1 := it1_mono t (show i + 1 ≤ t.length from hlt)
          have q2 := it2_mono i rw (show k + 1 ≤ 3 from hk3)
          rw [hs1, List.length_append] at q1
          rw [hs2, List.length_append] at q2
          have q3 : (it3 i k l j).length = j := by simp [it3]
          have q4 : (it3 i k l (weakerF l).length).length = (weakerF l).length := by simp [it3]
          simp only [List.length_append]
          omega
        refine SO.tfw rfl rfl (body _ ⟨i, k, j, (weakerF l)[j]⟩ M hlt hlen hJ) ?_
        rintro v M2 ⟨rfl, hJ2⟩
        rw [List.append_assoc, ← hs3] at hJ2
        repeat (first | refine SX.seq ?_ | refine SX.skip ?_ | refine SX.block ?_ | refine SX.endblk ?_ | refine SX.region ?_ | refine SX.exit rfl ?_ | refine SO.nil ?_ | refine SO.head ?_ | refine SO.off rfl rfl rfl ?_ | refine SO.lenm rfl rfl rfl rfl rfl ⟨_, _, rfl, rfl⟩ ?_ | refine SO.bsp rfl rfl rfl rfl rfl rfl rfl rfl rfl rfl ?_ | refine SO.fa rfl rfl rfl rfl ?_ | refine SO.mnL rfl rfl rfl rfl (by decide) ?_ | refine SO.add rfl rfl rfl rfl (by omega) (by omega) ?_ | refine SO.sb rfl rfl rfl rfl (by omega) (by omega) ?_ | refine SO.mul rfl rfl rfl rfl (by omega) (by omega) ?_ | refine SO.shr rfl rfl rfl rfl (by omega) ?_ | refine SO.shl rfl rfl rfl rfl (by omega) ?_ | refine SO.p rfl (fun _ _ => rfl) ?_ | refine SX.condT rfl ?_ | refine SX.condF rfl ?_)
        exact SX.at (j + 1, M2) ⟨by simp only; omega, hjl, hJ2⟩ ⟨rfl, rfl, rfl, rfl, rfl, rfl, rfl, rfl, rfl, rfl, rfl, rfl, trivial⟩ rfl
      · have hge : j = (weakerF l).length := by simp at h; omega
        subst hge
        rw [List.append_assoc, ← hs2] at hJ
        repeat (first | refine SX.seq ?_ | refine SX.skip ?_ | refine SX.block ?_ | refine SX.endblk ?_ | refine SX.region ?_ | refine SX.exit rfl ?_ | refine SO.nil ?_ | refine SO.head ?_ | refine SO.off rfl rfl rfl ?_ | refine SO.lenm rfl rfl rfl rfl rfl ⟨_, _, rfl, rfl⟩ ?_ | refine SO.bsp rfl rfl rfl rfl rfl rfl rfl rfl rfl rfl ?_ | refine SO.fa rfl rfl rfl rfl ?_ | refine SO.mnL rfl rfl rfl rfl (by decide) ?_ | refine SO.add rfl rfl rfl rfl (by omega) (by omega) ?_ | refine SO.sb rfl rfl rfl rfl (by omega) (by omega) ?_ | refine SO.mul rfl rfl rfl rfl (by omega) (by omega) ?_ | refine SO.shr rfl rfl rfl rfl (by omega) ?_ | refine SO.shl rfl rfl rfl rfl (by omega) ?_ | refine SO.p rfl (fun _ _ => rfl) ?_ | refine SX.condT rfl ?_ | refine SX.condF rfl ?_)
        exact SX.at (k + 1, M) ⟨by simp only; omega, hk3, hJ⟩ ⟨rfl, rfl, rfl, rfl, rfl, rfl, rfl, rfl, trivial⟩ rfl
    · have hk3 : k = 3 := by simp at h; omega
      subst hk3
      rw [← hs1] at hJ
      repeat (first | refine SX.seq ?_ | refine SX.skip ?_ | refine SX.block ?_ | refine SX.endblk ?_ | refine SX.region ?_ | refine SX.exit rfl ?_ | refine SO.nil ?_ | refine SO.head ?_ | refine SO.off rfl rfl rfl ?_ | refine SO.lenm rfl rfl rfl rfl rfl ⟨_, _, rfl, rfl⟩ ?_ | refine SO.bsp rfl rfl rfl rfl rfl rfl rfl rfl rfl rfl ?_ | refine SO.fa rfl rfl rfl rfl ?_ | refine SO.mnL rfl rfl rfl rfl (by decide) ?_ | refine SO.add rfl rfl rfl rfl (by omega) (by omega) ?_ | refine SO.sb rfl rfl rfl rfl (by omega) (by omega) ?_ | refine SO.mul rfl rfl rfl rfl (by omega) (by omega) ?_ | refine SO.shr rfl rfl rfl rfl (by omega) ?_ | refine SO.shl rfl rfl rfl rfl (by omega) ?_ | refine SO.p rfl (fun _ _ => rfl) ?_ | refine SX.condT rfl ?_ | refine SX.condF rfl ?_)
      exact SX.at (i + 1, M) ⟨by simp only; omega, hlt, hJ⟩ ⟨rfl, rfl, rfl, rfl, trivial⟩ rfl
  · have hge : i = t.length := by simp at h; omega
    subst hge
    repeat (first | refine SX.seq ?_ | refine SX.skip ?_ | refine SX.block ?_ | refine SX.endblk ?_ | refine SX.region ?_ | refine SX.exit rfl ?_ | refine SO.nil ?_ | refine SO.head ?_ | refine SO.off rfl rfl rfl ?_ | refine SO.lenm rfl rfl rfl rfl rfl ⟨_, _, rfl, rfl⟩ ?_ | refine SO.bsp rfl rfl rfl rfl rfl rfl rfl rfl rfl rfl ?_ | refine SO.fa rfl rfl rfl rfl ?_ | refine SO.mnL rfl rfl rfl rfl (by decide) ?_ | refine SO.add rfl rfl rfl rfl (by omega) (by omega) ?_ | refine SO.sb rfl rfl rfl rfl (by omega) (by omega) ?_ | refine SO.mul rfl rfl rfl rfl (by omega) (by omega) ?_ | refine SO.shr rfl rfl rfl rfl (by omega) ?_ | refine SO.shl rfl rfl rfl rfl (by omega) ?_ | refine SO.p rfl (fun _ _ => rfl) ?_ | refine SX.condT rfl ?_ | refine SX.condF rfl ?_)
    exact SX.finSN .nil rfl hJ
theorem tf51 (t : List RowL) : TF cxD (.f 51) [.p (tab t)] [] (fun v M => ∃ p, v = .func 92 [] [.ref p 0] ∧ M = [.ob p (.ref [.p (.sl (t.map enR))])]) := by
  refine TF.intro (fn := Tryd.f51) (L := [(0, .p (tab t))]) rfl rfl rfl rfl rfl rfl (fun H0 I => ?_)
  refine SX.seq ?_
  refine SX.region ?_
  refine SO.nw rfl (fun _ _ => rfl) rfl (fun _ => rfl) (fun p => ?_)
  repeat (first | refine SX.seq ?_ | refine SX.skip ?_ | refine SX.block ?_ | refine SX.endblk ?_ | refine SX.region ?_ | refine SX.exit rfl ?_ | refine SO.nil ?_ | refine SO.head ?_ | refine SO.off rfl rfl rfl ?_ | refine SO.lenm rfl rfl rfl rfl rfl ⟨_, _, rfl, rfl⟩ ?_ | refine SO.bsp rfl rfl rfl rfl rfl rfl rfl rfl rfl rfl ?_ | refine SO.fa rfl rfl rfl rfl ?_ | refine SO.mnL rfl rfl rfl rfl (by decide) ?_ | refine SO.add rfl rfl rfl rfl (by omega) (by omega) ?_ | refine SO.sb rfl rfl rfl rfl (by omega) (by omega) ?_ | refine SO.mul rfl rfl rfl rfl (by omega) (by omega) ?_ | refine SO.shr rfl rfl rfl rfl (by omega) ?_ | refine SO.shl rfl rfl rfl rfl (by omega) ?_ | refine SO.p rfl (fun _ _ => rfl) ?_ | refine SX.condT rfl ?_ | refine SX.condF rfl ?_ | refine SO.ld 0 rfl rfl rfl rfl rfl ?_ | refine SO.st 0 rfl rfl rfl rfl rfl rfl rfl rfl rfl rfl ?_ | refine SO.lenOm 0 rfl rfl rfl rfl rfl rfl ⟨_, _, rfl, rfl⟩ ?_)
  exact SX.ret (SX.finS (.tmp rfl .nil) rfl ⟨p, rfl, rfl⟩)
end Go.Ev
