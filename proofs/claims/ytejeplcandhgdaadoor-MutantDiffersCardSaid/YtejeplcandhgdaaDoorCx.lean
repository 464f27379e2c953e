/- The context of this program for the evaluator: types, functions. PRINTED BY a program of mine (gen_cx.py). -/
import Derived.Test.YtejeplcandhgdaaDoorProg
import Derived.Test.YtejeplcandhgdaaDoorEvY
import Derived.KernelRfl
set_option linter.unusedVariables false
set_option maxRecDepth 100000
namespace Go.Ev
open Go.Proofs

inductive Tree (α : Type) where
  | leaf
  | node (k : Nat) (v : α) (l r : Tree α)
def Tree.find {α : Type} : Tree α → Nat → Option α
  | .leaf, _ => none
  | .node k v l r, n => if Nat.beq n k then some v else if Nat.blt n k then l.find n else r.find n
inductive Tree.All {α : Type} (p : Nat → α → Prop) : Tree α → Prop
  | leaf : Tree.All p .leaf
  | node {k : Nat} {v : α} {l r : Tree α} (h : p k v) (hl : Tree.All p l) (hr : Tree.All p r) : Tree.All p (.node k v l r)
theorem Tree.All.find {α : Type} {p : Nat → α → Prop} {t : Tree α} (h : Tree.All p t) {n : Nat} {v : α} (hf : t.find n = some v) : p n v := by
  induction h with
  | leaf => cases hf
  | node h hl hr ihl ihr =>
    unfold Tree.find at hf
    split at hf
    · rename_i hk
      cases hf
      rw [Nat.eq_of_beq_eq_true hk]
      exact h
    · split at hf
      · exact ihl hf
      · exact ihr hf

structure TFact (P : Program) (t : TypeId) (d : TY) : Prop where
  desc : P.underlying t = some d.desc
  info : ∃ i z, P.info? t = some i ∧ i.size = d.size ∧ i.bytes = d.bytes ∧ i.zero = some z ∧ PR (fun _ _ => none) d.zero z ∧ d.zero.cells.length = d.size ∧ d.zero.cells.all PV.cell = true
  one : isAggT d.desc = false → d.size = 1
theorem fact {P : Program} {t : TypeId} {d : TY} (i : TypeInfo) (z : Value) (hd : P.underlying t = some d.desc) (hi : P.info? t = some i) (h1 : i.size = d.size) (h2 : i.bytes = d.bytes) (h3 : i.zero = some z) (h4 : ofConst z = some d.zero)
    (h5 : d.zero.cells.length = d.size) (h6 : d.zero.cells.all PV.cell = true) (h7 : isAggT d.desc = true ∨ d.size = 1) : TFact P t d :=
  ⟨hd, ⟨i, z, hi, h1, h2, h3, ofConst_ok _ h4, h5, h6⟩, fun h => h7.elim (fun h' => by rw [h] at h'; cases h') id⟩
theorem enters {P : Program} {f : FuncId} {fn : Func} {c : Code} (hf : P.funcs[f]? = some fn) (hname : (fn.name == "runtime.NumGoroutine") = false) (hb : fn.body = some c) : Enters P f := by
  intro args w
  have h1 : fn.name ≠ "runtime.NumGoroutine" := by simpa using hname
  simp [callFunc, hf, h1, hb]

namespace Tryd
noncomputable def y1 : TY := ⟨Tryd.t1.desc, 1, 8, .nilf⟩
noncomputable def y2 : TY := ⟨Tryd.t2.desc, 1, 8, .int IntKind.i64 0⟩
noncomputable def y3 : TY := ⟨Tryd.t3.desc, 1, 8, .int IntKind.i64 0⟩
noncomputable def y4 : TY := ⟨Tryd.t4.desc, 1, 1, .bool false⟩
noncomputable def y5 : TY := ⟨Tryd.t5.desc, 1, 1, .int IntKind.u8 0⟩
noncomputable def y6 : TY := ⟨Tryd.t5.desc, 1, 1, .int IntKind.u8 0⟩
noncomputable def y7 : TY := ⟨Tryd.t7.desc, 4, 24, .agg [.int IntKind.i64 0, .int IntKind.i64 0, .bool false, .int IntKind.u8 0]⟩
noncomputable def y8 : TY := ⟨Tryd.t7.desc, 4, 24, .agg [.int IntKind.i64 0, .int IntKind.i64 0, .bool false, .int IntKind.u8 0]⟩
noncomputable def y9 : TY := ⟨Tryd.t9.desc, 1, 16, .str { data := #[] }⟩
noncomputable def y10 : TY := ⟨Tryd.t9.desc, 1, 16, .str { data := #[] }⟩
noncomputable def y11 : TY := ⟨Tryd.t9.desc, 1, 16, .str { data := #[] }⟩
noncomputable def y12 : TY := ⟨Tryd.t12.desc, 1, 8, .int IntKind.u64 0⟩
noncomputable def y13 : TY := ⟨Tryd.t13.desc, 2, 24, .agg [.str { data := #[] }, .int IntKind.u64 0]⟩
noncomputable def y14 : TY := ⟨Tryd.t13.desc, 2, 24, .agg [.str { data := #[] }, .int IntKind.u64 0]⟩
noncomputable def y15 : TY := ⟨Tryd.t15.desc, 1, 8, .nilp⟩
noncomputable def y16 : TY := ⟨Tryd.t16.desc, 1, 8, .nilp⟩
noncomputable def y17 : TY := ⟨Tryd.t17.desc, 1, 8, .nilp⟩
noncomputable def y18 : TY := ⟨Tryd.t18.desc, 1, 8, .agg [.nilp]⟩
noncomputable def y19 : TY := ⟨Tryd.t18.desc, 1, 8, .agg [.nilp]⟩
noncomputable def y20 : TY := ⟨Tryd.t20.desc, 1, 16, .nili⟩
noncomputable def y21 : TY := ⟨Tryd.t21.desc, 1, 4, .int IntKind.i32 0⟩
noncomputable def y22 : TY := ⟨Tryd.t22.desc, 1, 24, .nils⟩
noncomputable def y23 : TY := ⟨Tryd.t23.desc, 1, 24, .agg [.nils]⟩
noncomputable def y24 : TY := ⟨Tryd.t23.desc, 1, 24, .agg [.nils]⟩
noncomputable def y25 : TY := ⟨Tryd.t25.desc, 1, 8, .nilf⟩
noncomputable def y26 : TY := ⟨Tryd.t26.desc, 1, 24, .nils⟩
noncomputable def y27 : TY := ⟨Tryd.t3.desc, 1, 8, .int IntKind.i64 0⟩
noncomputable def y29 : TY := ⟨Tryd.t29.desc, 1, 8, .nilf⟩
noncomputable def y30 : TY := ⟨Tryd.t30.desc, 1, 8, .nilf⟩
noncomputable def y32 : TY := ⟨Tryd.t32.desc, 1, 8, .nilf⟩
noncomputable def y33 : TY := ⟨Tryd.t33.desc, 1, 8, .nilf⟩
noncomputable def y34 : TY := ⟨Tryd.t34.desc, 1, 8, .nilf⟩
noncomputable def y35 : TY := ⟨Tryd.t35.desc, 1, 24, .nils⟩
noncomputable def y36 : TY := ⟨Tryd.t36.desc, 1, 24, .nils⟩
noncomputable def y37 : TY := ⟨Tryd.t37.desc, 2, 48, .agg [.nils, .nils]⟩
noncomputable def y38 : TY := ⟨Tryd.t37.desc, 2, 48, .agg [.nils, .nils]⟩
noncomputable def y39 : TY := ⟨Tryd.t39.desc, 1, 8, .nilf⟩
noncomputable def y40 : TY := ⟨Tryd.t40.desc, 1, 24, .nils⟩
noncomputable def y42 : TY := ⟨Tryd.t42.desc, 1, 8, .nilf⟩
noncomputable def y43 : TY := ⟨Tryd.t43.desc, 3, 40, .agg [.nils, .int IntKind.i64 0, .int IntKind.i64 0]⟩
noncomputable def y44 : TY := ⟨Tryd.t43.desc, 3, 40, .agg [.nils, .int IntKind.i64 0, .int IntKind.i64 0]⟩
noncomputable def y45 : TY := ⟨Tryd.t45.desc, 1, 8, .nilf⟩
noncomputable def y46 : TY := ⟨Tryd.t46.desc, 1, 8, .nilf⟩
noncomputable def y47 : TY := ⟨Tryd.t47.desc, 1, 8, .nilf⟩
noncomputable def y49 : TY := ⟨Tryd.t49.desc, 1, 8, .nilf⟩
noncomputable def y50 : TY := ⟨Tryd.t50.desc, 1, 8, .nilf⟩
noncomputable def y51 : TY := ⟨Tryd.t51.desc, 1, 8, .nilf⟩
noncomputable def y52 : TY := ⟨Tryd.t52.desc, 3, 40, .agg [.nils, .int IntKind.i64 0, .int IntKind.i64 0]⟩
noncomputable def y53 : TY := ⟨Tryd.t52.desc, 3, 40, .agg [.nils, .int IntKind.i64 0, .int IntKind.i64 0]⟩
noncomputable def y54 : TY := ⟨Tryd.t54.desc, 1, 8, .nilf⟩
noncomputable def y55 : TY := ⟨Tryd.t55.desc, 1, 8, .nilf⟩
noncomputable def y56 : TY := ⟨Tryd.t56.desc, 1, 8, .nilf⟩
noncomputable def y57 : TY := ⟨Tryd.t57.desc, 1, 8, .nilf⟩
noncomputable def y58 : TY := ⟨Tryd.t58.desc, 1, 8, .nilf⟩
noncomputable def y59 : TY := ⟨Tryd.t59.desc, 2, 16, .agg [.int IntKind.i64 0, .int IntKind.i64 0]⟩
noncomputable def y60 : TY := ⟨Tryd.t59.desc, 2, 16, .agg [.int IntKind.i64 0, .int IntKind.i64 0]⟩
noncomputable def y61 : TY := ⟨Tryd.t61.desc, 1, 24, .nils⟩
noncomputable def y62 : TY := ⟨Tryd.t62.desc, 1, 24, .nils⟩
noncomputable def y63 : TY := ⟨Tryd.t63.desc, 6, 112, .agg [.int IntKind.i64 0, .int IntKind.i64 0, .nils, .nils, .nils, .nils]⟩
noncomputable def y64 : TY := ⟨Tryd.t63.desc, 6, 112, .agg [.int IntKind.i64 0, .int IntKind.i64 0, .nils, .nils, .nils, .nils]⟩
noncomputable def y65 : TY := ⟨Tryd.t65.desc, 1, 8, .nilf⟩
noncomputable def y67 : TY := ⟨Tryd.t67.desc, 1, 8, .nilf⟩
noncomputable def y68 : TY := ⟨Tryd.t68.desc, 1, 8, .nilf⟩
noncomputable def y69 : TY := ⟨Tryd.t69.desc, 1, 24, .nils⟩
noncomputable def y70 : TY := ⟨Tryd.t70.desc, 3, 72, .agg [.nils, .nils, .nils]⟩
noncomputable def y71 : TY := ⟨Tryd.t70.desc, 3, 72, .agg [.nils, .nils, .nils]⟩
noncomputable def y72 : TY := ⟨Tryd.t72.desc, 3, 24, .agg [.int IntKind.i64 0, .int IntKind.i64 0, .int IntKind.i64 0]⟩
noncomputable def y73 : TY := ⟨Tryd.t72.desc, 3, 24, .agg [.int IntKind.i64 0, .int IntKind.i64 0, .int IntKind.i64 0]⟩
noncomputable def y74 : TY := ⟨Tryd.t74.desc, 1, 8, .nilf⟩
noncomputable def y75 : TY := ⟨Tryd.t75.desc, 1, 8, .nilf⟩
noncomputable def y76 : TY := ⟨Tryd.t76.desc, 1, 8, .nilf⟩
noncomputable def y77 : TY := ⟨Tryd.t77.desc, 1, 8, .nilf⟩
noncomputable def y78 : TY := ⟨Tryd.t78.desc, 1, 8, .nilf⟩
noncomputable def y79 : TY := ⟨Tryd.t79.desc, 1, 8, .nilf⟩
noncomputable def y81 : TY := ⟨Tryd.t81.desc, 1, 8, .nilf⟩
noncomputable def y82 : TY := ⟨Tryd.t82.desc, 1, 24, .nils⟩
noncomputable def y84 : TY := ⟨Tryd.t84.desc, 1, 8, .nilf⟩
noncomputable def y85 : TY := ⟨Tryd.t85.desc, 1, 8, .nilf⟩
noncomputable def y86 : TY := ⟨Tryd.t86.desc, 1, 24, .nils⟩
noncomputable def y88 : TY := ⟨Tryd.t88.desc, 1, 8, .nilf⟩
noncomputable def y89 : TY := ⟨Tryd.t89.desc, 1, 8, .nilf⟩
noncomputable def y90 : TY := ⟨Tryd.t90.desc, 1, 8, .nilf⟩
noncomputable def y91 : TY := ⟨Tryd.t91.desc, 1, 8, .nilf⟩
noncomputable def y92 : TY := ⟨Tryd.t92.desc, 1, 8, .nilf⟩
noncomputable def y93 : TY := ⟨Tryd.t93.desc, 1, 8, .nilf⟩
noncomputable def y94 : TY := ⟨Tryd.t94.desc, 1, 8, .nilf⟩
noncomputable def y95 : TY := ⟨Tryd.t94.desc, 1, 8, .nilf⟩
noncomputable def y96 : TY := ⟨Tryd.t96.desc, 1, 8, .nilf⟩
noncomputable def y97 : TY := ⟨Tryd.t97.desc, 3, 24, .agg [.int IntKind.i64 0, .int IntKind.i64 0, .int IntKind.i64 0]⟩
noncomputable def y98 : TY := ⟨Tryd.t97.desc, 3, 24, .agg [.int IntKind.i64 0, .int IntKind.i64 0, .int IntKind.i64 0]⟩
noncomputable def y99 : TY := ⟨Tryd.t99.desc, 1, 8, .nilp⟩
noncomputable def y100 : TY := ⟨Tryd.t100.desc, 1, 24, .nils⟩
noncomputable def y102 : TY := ⟨Tryd.t102.desc, 1, 8, .nilf⟩
noncomputable def y103 : TY := ⟨Tryd.t103.desc, 1, 8, .nilf⟩
noncomputable def y104 : TY := ⟨Tryd.t104.desc, 1, 8, .nilf⟩
noncomputable def y105 : TY := ⟨Tryd.t105.desc, 1, 8, .nilf⟩
noncomputable def y106 : TY := ⟨Tryd.t106.desc, 1, 8, .nilf⟩
noncomputable def y107 : TY := ⟨Tryd.t107.desc, 1, 8, .nilf⟩
noncomputable def y108 : TY := ⟨Tryd.t108.desc, 1, 8, .nilf⟩
noncomputable def y109 : TY := ⟨Tryd.t109.desc, 1, 8, .nilf⟩
noncomputable def y110 : TY := ⟨Tryd.t110.desc, 3, 32, .agg [.int IntKind.i64 0, .str { data := #[] }, .int IntKind.i64 0]⟩
noncomputable def y111 : TY := ⟨Tryd.t110.desc, 3, 32, .agg [.int IntKind.i64 0, .str { data := #[] }, .int IntKind.i64 0]⟩
noncomputable def y112 : TY := ⟨Tryd.t112.desc, 3, 40, .agg [.nils, .int IntKind.i64 0, .int IntKind.i64 0]⟩
noncomputable def y113 : TY := ⟨Tryd.t112.desc, 3, 40, .agg [.nils, .int IntKind.i64 0, .int IntKind.i64 0]⟩
noncomputable def y114 : TY := ⟨Tryd.t114.desc, 1, 8, .nilf⟩
noncomputable def y115 : TY := ⟨Tryd.t115.desc, 1, 8, .nilf⟩
noncomputable def y116 : TY := ⟨Tryd.t116.desc, 1, 4, .int IntKind.u32 0⟩
noncomputable def y117 : TY := ⟨Tryd.t117.desc, 13, 208, .agg [.str { data := #[] }, .str { data := #[] }, .str { data := #[] }, .str { data := #[] }, .str { data := #[] }, .str { data := #[] }, .str { data := #[] }, .str { data := #[] }, .str { data := #[] }, .str { data := #[] }, .str { data := #[] }, .str { data := #[] }, .str { data := #[] }]⟩
noncomputable def y118 : TY := ⟨Tryd.t118.desc, 13, 104, .agg [.int IntKind.i64 0, .int IntKind.i64 0, .int IntKind.i64 0, .int IntKind.i64 0, .int IntKind.i64 0, .int IntKind.i64 0, .int IntKind.i64 0, .int IntKind.i64 0, .int IntKind.i64 0, .int IntKind.i64 0, .int IntKind.i64 0, .int IntKind.i64 0, .int IntKind.i64 0]⟩
noncomputable def y119 : TY := ⟨Tryd.t119.desc, 1, 24, .nils⟩
noncomputable def y120 : TY := ⟨Tryd.t120.desc, 1, 8, .nilf⟩
noncomputable def y121 : TY := ⟨Tryd.t121.desc, 5, 88, .agg [.int IntKind.i64 0, .nils, .nils, .nils, .int IntKind.i64 0]⟩
noncomputable def y122 : TY := ⟨Tryd.t121.desc, 5, 88, .agg [.int IntKind.i64 0, .nils, .nils, .nils, .int IntKind.i64 0]⟩
noncomputable def y123 : TY := ⟨Tryd.t123.desc, 1, 8, .nilf⟩
noncomputable def y124 : TY := ⟨Tryd.t124.desc, 1, 8, .nilf⟩
noncomputable def y125 : TY := ⟨Tryd.t125.desc, 1, 8, .nilf⟩
noncomputable def y127 : TY := ⟨Tryd.t127.desc, 1, 8, .nilf⟩
noncomputable def y128 : TY := ⟨Tryd.t128.desc, 3, 24, .agg [.bool false, .int IntKind.i64 0, .int IntKind.i64 0]⟩
noncomputable def y129 : TY := ⟨Tryd.t128.desc, 3, 24, .agg [.bool false, .int IntKind.i64 0, .int IntKind.i64 0]⟩
noncomputable def y130 : TY := ⟨Tryd.t130.desc, 1, 8, .nilf⟩
noncomputable def y131 : TY := ⟨Tryd.t131.desc, 1, 8, .nilf⟩
noncomputable def y132 : TY := ⟨Tryd.t132.desc, 1, 8, .nilf⟩
noncomputable def y133 : TY := ⟨Tryd.t133.desc, 1, 8, .nilf⟩
noncomputable def y134 : TY := ⟨Tryd.t134.desc, 1, 8, .nilf⟩
noncomputable def y135 : TY := ⟨Tryd.t135.desc, 1, 8, .nilp⟩
noncomputable def y136 : TY := ⟨Tryd.t136.desc, 1, 24, .nils⟩
noncomputable def y137 : TY := ⟨Tryd.t137.desc, 2, 32, .agg [.nilp, .nils]⟩
noncomputable def y138 : TY := ⟨Tryd.t137.desc, 2, 32, .agg [.nilp, .nils]⟩
noncomputable def y139 : TY := ⟨Tryd.t139.desc, 1, 16, .nili⟩
noncomputable def y140 : TY := ⟨Tryd.t139.desc, 1, 16, .nili⟩
noncomputable def y142 : TY := ⟨Tryd.t142.desc, 1, 8, .nilf⟩
noncomputable def y143 : TY := ⟨Tryd.t143.desc, 1, 8, .nilf⟩
noncomputable def y144 : TY := ⟨Tryd.t144.desc, 1, 8, .nilp⟩
noncomputable def y145 : TY := ⟨Tryd.t145.desc, 4, 48, .agg [.nils, .int IntKind.i64 0, .int IntKind.i64 0, .int IntKind.i64 0]⟩
noncomputable def y146 : TY := ⟨Tryd.t145.desc, 4, 48, .agg [.nils, .int IntKind.i64 0, .int IntKind.i64 0, .int IntKind.i64 0]⟩
noncomputable def y147 : TY := ⟨Tryd.t147.desc, 1, 24, .nils⟩
noncomputable def y148 : TY := ⟨Tryd.t148.desc, 1, 8, .nilf⟩
noncomputable def y149 : TY := ⟨Tryd.t149.desc, 1, 8, .nilf⟩
noncomputable def y150 : TY := ⟨Tryd.t150.desc, 1, 8, .nilf⟩
noncomputable def y151 : TY := ⟨Tryd.t151.desc, 1, 8, .nilf⟩
noncomputable def y153 : TY := ⟨Tryd.t153.desc, 1, 8, .nilf⟩
noncomputable def y154 : TY := ⟨Tryd.t154.desc, 1, 8, .nilf⟩
noncomputable def y155 : TY := ⟨Tryd.t155.desc, 1, 8, .nilf⟩
noncomputable def y156 : TY := ⟨Tryd.t155.desc, 1, 8, .nilf⟩
noncomputable def y157 : TY := ⟨Tryd.t157.desc, 1, 8, .nilf⟩
noncomputable def y158 : TY := ⟨Tryd.t158.desc, 1, 8, .nilf⟩
noncomputable def y159 : TY := ⟨Tryd.t159.desc, 1, 8, .nilf⟩
noncomputable def y160 : TY := ⟨Tryd.t160.desc, 1, 8, .nilf⟩
noncomputable def y161 : TY := ⟨Tryd.t161.desc, 1, 8, .nilf⟩
noncomputable def y162 : TY := ⟨Tryd.t162.desc, 1, 8, .nilf⟩
noncomputable def y163 : TY := ⟨Tryd.t163.desc, 1, 8, .nilf⟩
noncomputable def y164 : TY := ⟨Tryd.t164.desc, 1, 8, .nilf⟩
noncomputable def y165 : TY := ⟨Tryd.t165.desc, 1, 8, .nilf⟩
noncomputable def y166 : TY := ⟨Tryd.t166.desc, 1, 8, .nilf⟩
noncomputable def y167 : TY := ⟨Tryd.t167.desc, 1, 8, .nilf⟩
noncomputable def y168 : TY := ⟨Tryd.t168.desc, 1, 8, .nilf⟩
noncomputable def y169 : TY := ⟨Tryd.t168.desc, 1, 8, .nilf⟩
noncomputable def y170 : TY := ⟨Tryd.t170.desc, 1, 8, .nilf⟩
noncomputable def y171 : TY := ⟨Tryd.t171.desc, 1, 8, .nilf⟩
noncomputable def y172 : TY := ⟨Tryd.t172.desc, 1, 8, .nilp⟩
noncomputable def y173 : TY := ⟨Tryd.t173.desc, 5, 88, .agg [.nils, .nils, .nils, .int IntKind.i64 0, .int IntKind.i64 0]⟩
noncomputable def y174 : TY := ⟨Tryd.t173.desc, 5, 88, .agg [.nils, .nils, .nils, .int IntKind.i64 0, .int IntKind.i64 0]⟩
noncomputable def y175 : TY := ⟨Tryd.t175.desc, 1, 8, .nilf⟩
noncomputable def y176 : TY := ⟨Tryd.t176.desc, 1, 8, .nilf⟩
noncomputable def y177 : TY := ⟨Tryd.t177.desc, 1, 8, .nilf⟩
noncomputable def y178 : TY := ⟨Tryd.t178.desc, 1, 8, .nilf⟩
noncomputable def y179 : TY := ⟨Tryd.t179.desc, 1, 8, .nilf⟩
noncomputable def y180 : TY := ⟨Tryd.t180.desc, 1, 8, .nilf⟩
noncomputable def y181 : TY := ⟨Tryd.t181.desc, 6, 48, .agg [.int IntKind.i64 0, .int IntKind.i64 0, .int IntKind.i64 0, .int IntKind.i64 0, .int IntKind.i64 0, .int IntKind.i64 0]⟩
noncomputable def y182 : TY := ⟨Tryd.t181.desc, 6, 48, .agg [.int IntKind.i64 0, .int IntKind.i64 0, .int IntKind.i64 0, .int IntKind.i64 0, .int IntKind.i64 0, .int IntKind.i64 0]⟩
noncomputable def y183 : TY := ⟨Tryd.t183.desc, 1, 8, .nilf⟩
noncomputable def y184 : TY := ⟨Tryd.t184.desc, 1, 8, .nilf⟩
noncomputable def y185 : TY := ⟨Tryd.t185.desc, 1, 8, .nilf⟩
noncomputable def y186 : TY := ⟨Tryd.t186.desc, 1, 8, .nilf⟩
noncomputable def y187 : TY := ⟨Tryd.t3.desc, 1, 8, .int IntKind.i64 0⟩
noncomputable def y188 : TY := ⟨Tryd.t188.desc, 1, 8, .nilf⟩
noncomputable def y189 : TY := ⟨Tryd.t189.desc, 1, 8, .nilf⟩
noncomputable def y190 : TY := ⟨Tryd.t190.desc, 1, 8, .nilp⟩
noncomputable def y191 : TY := ⟨Tryd.t191.desc, 3, 24, .agg [.int IntKind.i64 0, .int IntKind.i64 0, .int IntKind.i64 0]⟩
noncomputable def y192 : TY := ⟨Tryd.t192.desc, 24, 288, .agg [.nils, .nils, .int IntKind.i64 0, .int IntKind.i64 0, .nils, .nils, .nils, .nils, .int IntKind.i64 0, .int IntKind.i64 0, .int IntKind.i64 0, .bool false, .int IntKind.i64 0, .int IntKind.i64 0, .bool false, .int IntKind.i64 0, .int IntKind.i64 0, .bool false, .int IntKind.i64 0, .int IntKind.i64 0, .int IntKind.i64 0, .int IntKind.i64 0, .int IntKind.i64 0, .int IntKind.i64 0]⟩
noncomputable def y193 : TY := ⟨Tryd.t192.desc, 24, 288, .agg [.nils, .nils, .int IntKind.i64 0, .int IntKind.i64 0, .nils, .nils, .nils, .nils, .int IntKind.i64 0, .int IntKind.i64 0, .int IntKind.i64 0, .bool false, .int IntKind.i64 0, .int IntKind.i64 0, .bool false, .int IntKind.i64 0, .int IntKind.i64 0, .bool false, .int IntKind.i64 0, .int IntKind.i64 0, .int IntKind.i64 0, .int IntKind.i64 0, .int IntKind.i64 0, .int IntKind.i64 0]⟩
noncomputable def y195 : TY := ⟨Tryd.t195.desc, 1, 8, .nilf⟩
noncomputable def y196 : TY := ⟨Tryd.t196.desc, 1, 8, .nilf⟩
noncomputable def y197 : TY := ⟨Tryd.t197.desc, 1, 8, .nilf⟩
noncomputable def y198 : TY := ⟨Tryd.t198.desc, 1, 8, .nilf⟩
noncomputable def y199 : TY := ⟨Tryd.t199.desc, 1, 8, .nilf⟩
noncomputable def y200 : TY := ⟨Tryd.t200.desc, 1, 24, .nils⟩
noncomputable def y201 : TY := ⟨Tryd.t201.desc, 1, 24, .agg [.nils]⟩
noncomputable def y202 : TY := ⟨Tryd.t201.desc, 1, 24, .agg [.nils]⟩
noncomputable def y204 : TY := ⟨Tryd.t204.desc, 1, 8, .nilf⟩
noncomputable def y205 : TY := ⟨Tryd.t205.desc, 1, 8, .nilf⟩
noncomputable def y206 : TY := ⟨Tryd.t206.desc, 3, 32, .agg [.str { data := #[] }, .int IntKind.i64 0, .int IntKind.i64 0]⟩
noncomputable def y207 : TY := ⟨Tryd.t206.desc, 3, 32, .agg [.str { data := #[] }, .int IntKind.i64 0, .int IntKind.i64 0]⟩
noncomputable def y208 : TY := ⟨Tryd.t208.desc, 1, 8, .nilf⟩
noncomputable def y209 : TY := ⟨Tryd.t209.desc, 1, 8, .nilf⟩
noncomputable def y210 : TY := ⟨Tryd.t210.desc, 1, 8, .nilp⟩
noncomputable def y211 : TY := ⟨Tryd.t211.desc, 1, 8, .nilf⟩
noncomputable def y212 : TY := ⟨Tryd.t212.desc, 1, 24, .nils⟩
noncomputable def y213 : TY := ⟨Tryd.t213.desc, 1, 8, .nilf⟩
noncomputable def y214 : TY := ⟨Tryd.t214.desc, 1, 8, .nilf⟩
noncomputable def y215 : TY := ⟨Tryd.t215.desc, 2, 16, .agg [.bool false, .nilf]⟩
noncomputable def y216 : TY := ⟨Tryd.t215.desc, 2, 16, .agg [.bool false, .nilf]⟩
noncomputable def y218 : TY := ⟨Tryd.t218.desc, 1, 8, .nilf⟩
noncomputable def y219 : TY := ⟨Tryd.t219.desc, 1, 8, .nilf⟩
noncomputable def y220 : TY := ⟨Tryd.t220.desc, 1, 8, .nilf⟩
noncomputable def y221 : TY := ⟨Tryd.t221.desc, 1, 8, .nilf⟩
noncomputable def y222 : TY := ⟨Tryd.t222.desc, 1, 8, .nilf⟩
noncomputable def y223 : TY := ⟨Tryd.t223.desc, 1, 8, .nilf⟩
noncomputable def y225 : TY := ⟨Tryd.t225.desc, 1, 8, .nilm⟩
noncomputable def y226 : TY := ⟨Tryd.t226.desc, 1, 8, .nilf⟩
noncomputable def y227 : TY := ⟨Tryd.t227.desc, 1, 8, .nilf⟩
noncomputable def y228 : TY := ⟨Tryd.t228.desc, 1, 8, .nilf⟩
noncomputable def y229 : TY := ⟨Tryd.t4.desc, 1, 1, .bool false⟩
noncomputable def y231 : TY := ⟨Tryd.t231.desc, 1, 8, .nilf⟩
noncomputable def y233 : TY := ⟨Tryd.t233.desc, 1, 8, .nilf⟩
noncomputable def y234 : TY := ⟨Tryd.t234.desc, 1, 8, .nilf⟩
noncomputable def y235 : TY := ⟨Tryd.t235.desc, 1, 8, .nilf⟩
noncomputable def y236 : TY := ⟨Tryd.t236.desc, 1, 8, .nilf⟩
noncomputable def y237 : TY := ⟨Tryd.t237.desc, 1, 8, .nilf⟩
noncomputable def y238 : TY := ⟨Tryd.t238.desc, 1, 8, .nilf⟩
noncomputable def y239 : TY := ⟨Tryd.t239.desc, 1, 8, .nilf⟩
noncomputable def y240 : TY := ⟨Tryd.t240.desc, 1, 8, .nilf⟩
noncomputable def y241 : TY := ⟨Tryd.t241.desc, 1, 8, .nilf⟩
noncomputable def y242 : TY := ⟨Tryd.t242.desc, 1, 8, .nilf⟩
noncomputable def y243 : TY := ⟨Tryd.t243.desc, 1, 8, .nilf⟩
noncomputable def y244 : TY := ⟨Tryd.t244.desc, 1, 8, .nilf⟩
noncomputable def y245 : TY := ⟨Tryd.t245.desc, 1, 8, .nilf⟩
noncomputable def y246 : TY := ⟨Tryd.t246.desc, 5, 72, .agg [.nils, .int IntKind.i64 0, .nils, .int IntKind.i64 0, .int IntKind.i64 0]⟩
noncomputable def y247 : TY := ⟨Tryd.t246.desc, 5, 72, .agg [.nils, .int IntKind.i64 0, .nils, .int IntKind.i64 0, .int IntKind.i64 0]⟩
noncomputable def y248 : TY := ⟨Tryd.t248.desc, 1, 8, .nilf⟩
noncomputable def y249 : TY := ⟨Tryd.t249.desc, 1, 8, .nilf⟩
noncomputable def y250 : TY := ⟨Tryd.t250.desc, 1, 8, .nilf⟩
noncomputable def y251 : TY := ⟨Tryd.t251.desc, 1, 8, .nilf⟩
noncomputable def y252 : TY := ⟨Tryd.t252.desc, 1, 8, .nilf⟩
noncomputable def y253 : TY := ⟨Tryd.t253.desc, 1, 8, .nilm⟩
noncomputable def y254 : TY := ⟨Tryd.t254.desc, 1, 8, .nilf⟩
noncomputable def y255 : TY := ⟨Tryd.t4.desc, 1, 1, .bool false⟩
noncomputable def y257 : TY := ⟨Tryd.t257.desc, 1, 16, .nili⟩
noncomputable def y258 : TY := ⟨Tryd.t257.desc, 1, 16, .nili⟩
noncomputable def y259 : TY := ⟨Tryd.t259.desc, 1, 8, .nilp⟩
noncomputable def y260 : TY := ⟨Tryd.t260.desc, 1, 24, .nils⟩
noncomputable def y261 : TY := ⟨Tryd.t261.desc, 4, 96, .agg [.nils, .nils, .nils, .nils]⟩
noncomputable def y262 : TY := ⟨Tryd.t261.desc, 4, 96, .agg [.nils, .nils, .nils, .nils]⟩
noncomputable def y263 : TY := ⟨Tryd.t263.desc, 1, 8, .nilf⟩
noncomputable def y264 : TY := ⟨Tryd.t3.desc, 1, 8, .int IntKind.i64 0⟩
noncomputable def y266 : TY := ⟨Tryd.t266.desc, 1, 8, .nilf⟩
noncomputable def y267 : TY := ⟨Tryd.t267.desc, 1, 8, .nilf⟩
noncomputable def y268 : TY := ⟨Tryd.t268.desc, 1, 8, .nilf⟩
noncomputable def y269 : TY := ⟨Tryd.t269.desc, 1, 8, .nilf⟩
noncomputable def y270 : TY := ⟨Tryd.t270.desc, 1, 8, .nilp⟩
noncomputable def y271 : TY := ⟨Tryd.t271.desc, 1, 8, .nilf⟩
noncomputable def y272 : TY := ⟨Tryd.t272.desc, 1, 8, .nilp⟩
noncomputable def y273 : TY := ⟨Tryd.t273.desc, 1, 8, .nilp⟩
noncomputable def y274 : TY := ⟨Tryd.t274.desc, 5, 72, .agg [.nils, .int IntKind.i64 0, .nils, .int IntKind.i64 0, .int IntKind.i64 0]⟩
noncomputable def y275 : TY := ⟨Tryd.t274.desc, 5, 72, .agg [.nils, .int IntKind.i64 0, .nils, .int IntKind.i64 0, .int IntKind.i64 0]⟩
noncomputable def y276 : TY := ⟨Tryd.t276.desc, 1, 8, .nilf⟩
noncomputable def y277 : TY := ⟨Tryd.t277.desc, 1, 8, .nilf⟩
noncomputable def y278 : TY := ⟨Tryd.t278.desc, 1, 8, .nilf⟩
noncomputable def y279 : TY := ⟨Tryd.t279.desc, 1, 24, .nils⟩
noncomputable def y280 : TY := ⟨Tryd.t280.desc, 1, 8, .nilf⟩
noncomputable def y281 : TY := ⟨Tryd.t281.desc, 1, 8, .nilf⟩
noncomputable def y282 : TY := ⟨Tryd.t282.desc, 1, 8, .nilf⟩
noncomputable def y283 : TY := ⟨Tryd.t283.desc, 1, 8, .nilf⟩
noncomputable def y284 : TY := ⟨Tryd.t284.desc, 1, 8, .int IntKind.u64 0⟩
noncomputable def y285 : TY := ⟨Tryd.t285.desc, 1, 8, .nilf⟩
noncomputable def y286 : TY := ⟨Tryd.t286.desc, 1, 8, .nilf⟩
noncomputable def y287 : TY := ⟨Tryd.t287.desc, 1, 8, .nilf⟩
noncomputable def y289 : TY := ⟨Tryd.t289.desc, 1, 8, .nilf⟩
noncomputable def y290 : TY := ⟨Tryd.t290.desc, 1, 8, .nilf⟩
noncomputable def y291 : TY := ⟨Tryd.t291.desc, 1, 24, .nils⟩
noncomputable def y292 : TY := ⟨Tryd.t292.desc, 1, 8, .nilf⟩
noncomputable def y293 : TY := ⟨Tryd.t293.desc, 1, 8, .nilf⟩
noncomputable def y294 : TY := ⟨Tryd.t294.desc, 1, 8, .nilf⟩
noncomputable def y295 : TY := ⟨Tryd.t295.desc, 1, 8, .nilf⟩
noncomputable def y296 : TY := ⟨Tryd.t296.desc, 1, 8, .nilf⟩
noncomputable def y297 : TY := ⟨Tryd.t297.desc, 1, 8, .nilf⟩
noncomputable def y298 : TY := ⟨Tryd.t298.desc, 1, 8, .nilf⟩
noncomputable def y300 : TY := ⟨Tryd.t300.desc, 1, 8, .nilf⟩
noncomputable def y301 : TY := ⟨Tryd.t301.desc, 1, 8, .nilf⟩
noncomputable def y302 : TY := ⟨Tryd.t302.desc, 1, 8, .nilf⟩
noncomputable def y303 : TY := ⟨Tryd.t303.desc, 1, 8, .nilf⟩
noncomputable def y304 : TY := ⟨Tryd.t304.desc, 1, 8, .nilf⟩
noncomputable def y305 : TY := ⟨Tryd.t305.desc, 24, 24, .agg [.int IntKind.u8 0, .int IntKind.u8 0, .int IntKind.u8 0, .int IntKind.u8 0, .int IntKind.u8 0, .int IntKind.u8 0, .int IntKind.u8 0, .int IntKind.u8 0, .int IntKind.u8 0, .int IntKind.u8 0, .int IntKind.u8 0, .int IntKind.u8 0, .int IntKind.u8 0, .int IntKind.u8 0, .int IntKind.u8 0, .int IntKind.u8 0, .int IntKind.u8 0, .int IntKind.u8 0, .int IntKind.u8 0, .int IntKind.u8 0, .int IntKind.u8 0, .int IntKind.u8 0, .int IntKind.u8 0, .int IntKind.u8 0]⟩
noncomputable def y306 : TY := ⟨Tryd.t306.desc, 1, 8, .int IntKind.u64 0⟩
noncomputable def y307 : TY := ⟨Tryd.t307.desc, 1, 8, .nilf⟩
noncomputable def y308 : TY := ⟨Tryd.t308.desc, 1, 8, .nilf⟩
noncomputable def y310 : TY := ⟨Tryd.t310.desc, 1, 8, .nilf⟩
noncomputable def y311 : TY := ⟨Tryd.t311.desc, 1, 8, .nilf⟩
noncomputable def y312 : TY := ⟨Tryd.t312.desc, 1, 8, .nilf⟩
noncomputable def y314 : TY := ⟨Tryd.t314.desc, 1, 8, .nilm⟩
noncomputable def y315 : TY := ⟨Tryd.t315.desc, 1, 8, .nilf⟩
noncomputable def y316 : TY := ⟨Tryd.t316.desc, 1, 8, .nilf⟩
noncomputable def y317 : TY := ⟨Tryd.t317.desc, 1, 8, .nilf⟩
noncomputable def y318 : TY := ⟨Tryd.t318.desc, 20, 160, .agg [.int IntKind.u64 0, .int IntKind.u64 0, .int IntKind.u64 0, .int IntKind.u64 0, .int IntKind.u64 0, .int IntKind.u64 0, .int IntKind.u64 0, .int IntKind.u64 0, .int IntKind.u64 0, .int IntKind.u64 0, .int IntKind.u64 0, .int IntKind.u64 0, .int IntKind.u64 0, .int IntKind.u64 0, .int IntKind.u64 0, .int IntKind.u64 0, .int IntKind.u64 0, .int IntKind.u64 0, .int IntKind.u64 0, .int IntKind.u64 0]⟩
noncomputable def y319 : TY := ⟨Tryd.t319.desc, 65, 65, .agg [.int IntKind.u8 0, .int IntKind.u8 0, .int IntKind.u8 0, .int IntKind.u8 0, .int IntKind.u8 0, .int IntKind.u8 0, .int IntKind.u8 0, .int IntKind.u8 0, .int IntKind.u8 0, .int IntKind.u8 0, .int IntKind.u8 0, .int IntKind.u8 0, .int IntKind.u8 0, .int IntKind.u8 0, .int IntKind.u8 0, .int IntKind.u8 0, .int IntKind.u8 0, .int IntKind.u8 0, .int IntKind.u8 0, .int IntKind.u8 0, .int IntKind.u8 0, .int IntKind.u8 0, .int IntKind.u8 0, .int IntKind.u8 0, .int IntKind.u8 0, .int IntKind.u8 0, .int IntKind.u8 0, .int IntKind.u8 0, .int IntKind.u8 0, .int IntKind.u8 0, .int IntKind.u8 0, .int IntKind.u8 0, .int IntKind.u8 0, .int IntKind.u8 0, .int IntKind.u8 0, .int IntKind.u8 0, .int IntKind.u8 0, .int IntKind.u8 0, .int IntKind.u8 0, .int IntKind.u8 0, .int IntKind.u8 0, .int IntKind.u8 0, .int IntKind.u8 0, .int IntKind.u8 0, .int IntKind.u8 0, .int IntKind.u8 0, .int IntKind.u8 0, .int IntKind.u8 0, .int IntKind.u8 0, .int IntKind.u8 0, .int IntKind.u8 0, .int IntKind.u8 0, .int IntKind.u8 0, .int IntKind.u8 0, .int IntKind.u8 0, .int IntKind.u8 0, .int IntKind.u8 0, .int IntKind.u8 0, .int IntKind.u8 0, .int IntKind.u8 0, .int IntKind.u8 0, .int IntKind.u8 0, .int IntKind.u8 0, .int IntKind.u8 0, .int IntKind.u8 0]⟩
noncomputable def y320 : TY := ⟨Tryd.t320.desc, 1, 8, .nilf⟩
noncomputable def y321 : TY := ⟨Tryd.t321.desc, 1, 8, .nilf⟩
noncomputable def y322 : TY := ⟨Tryd.t322.desc, 1, 8, .nilf⟩
noncomputable def y323 : TY := ⟨Tryd.t323.desc, 32, 32, .agg [.int IntKind.u8 0, .int IntKind.u8 0, .int IntKind.u8 0, .int IntKind.u8 0, .int IntKind.u8 0, .int IntKind.u8 0, .int IntKind.u8 0, .int IntKind.u8 0, .int IntKind.u8 0, .int IntKind.u8 0, .int IntKind.u8 0, .int IntKind.u8 0, .int IntKind.u8 0, .int IntKind.u8 0, .int IntKind.u8 0, .int IntKind.u8 0, .int IntKind.u8 0, .int IntKind.u8 0, .int IntKind.u8 0, .int IntKind.u8 0, .int IntKind.u8 0, .int IntKind.u8 0, .int IntKind.u8 0, .int IntKind.u8 0, .int IntKind.u8 0, .int IntKind.u8 0, .int IntKind.u8 0, .int IntKind.u8 0, .int IntKind.u8 0, .int IntKind.u8 0, .int IntKind.u8 0, .int IntKind.u8 0]⟩
noncomputable def y325 : TY := ⟨Tryd.t325.desc, 4, 40, .agg [.nilp, .nilp, .nilp, .str { data := #[] }]⟩
noncomputable def y326 : TY := ⟨Tryd.t325.desc, 4, 40, .agg [.nilp, .nilp, .nilp, .str { data := #[] }]⟩
noncomputable def y327 : TY := ⟨Tryd.t327.desc, 0, 0, .agg []⟩
noncomputable def y328 : TY := ⟨Tryd.t328.desc, 0, 0, .agg []⟩
noncomputable def y329 : TY := ⟨Tryd.t328.desc, 0, 0, .agg []⟩
noncomputable def y330 : TY := ⟨Tryd.t5.desc, 1, 1, .int IntKind.u8 0⟩
noncomputable def y331 : TY := ⟨Tryd.t5.desc, 1, 1, .int IntKind.u8 0⟩
noncomputable def y332 : TY := ⟨Tryd.t332.desc, 1, 8, .nilf⟩
noncomputable def y333 : TY := ⟨Tryd.t21.desc, 1, 4, .int IntKind.i32 0⟩
noncomputable def y334 : TY := ⟨Tryd.t21.desc, 1, 4, .int IntKind.i32 0⟩
noncomputable def y335 : TY := ⟨Tryd.t335.desc, 11, 48, .agg [.int IntKind.u64 0, .int IntKind.u64 0, .int IntKind.u32 0, .int IntKind.u8 0, .int IntKind.u8 0, .int IntKind.u8 0, .int IntKind.u8 0, .nilf, .nilp, .int IntKind.i32 0, .int IntKind.i32 0]⟩
noncomputable def y336 : TY := ⟨Tryd.t335.desc, 11, 48, .agg [.int IntKind.u64 0, .int IntKind.u64 0, .int IntKind.u32 0, .int IntKind.u8 0, .int IntKind.u8 0, .int IntKind.u8 0, .int IntKind.u8 0, .nilf, .nilp, .int IntKind.i32 0, .int IntKind.i32 0]⟩
theorem fact1 : TFact Tryd.prog 1 y1 := fact Tryd.t1 Value.nilFunc Tryd.underlying1 (by kernel_rfl) rfl rfl rfl rfl rfl rfl (by first | exact .inl rfl | exact .inr rfl)
theorem fact2 : TFact Tryd.prog 2 y2 := fact Tryd.t2 (Value.int IntKind.i64 0) Tryd.underlying2 (by kernel_rfl) rfl rfl rfl rfl rfl rfl (by first | exact .inl rfl | exact .inr rfl)
theorem fact3 : TFact Tryd.prog 3 y3 := fact Tryd.t3 (Value.int IntKind.i64 0) Tryd.underlying3 (by kernel_rfl) rfl rfl rfl rfl rfl rfl (by first | exact .inl rfl | exact .inr rfl)
theorem fact4 : TFact Tryd.prog 4 y4 := fact Tryd.t4 (Value.bool false) Tryd.underlying4 (by kernel_rfl) rfl rfl rfl rfl rfl rfl (by first | exact .inl rfl | exact .inr rfl)
theorem fact5 : TFact Tryd.prog 5 y5 := fact Tryd.t5 (Value.int IntKind.u8 0) Tryd.underlying5 (by kernel_rfl) rfl rfl rfl rfl rfl rfl (by first | exact .inl rfl | exact .inr rfl)
theorem fact6 : TFact Tryd.prog 6 y6 := fact Tryd.t6 (Value.int IntKind.u8 0) Tryd.underlying6 (by kernel_rfl) rfl rfl rfl rfl rfl rfl (by first | exact .inl rfl | exact .inr rfl)
theorem fact7 : TFact Tryd.prog 7 y7 := fact Tryd.t7 (Value.agg #[(Value.int IntKind.i64 0), (Value.int IntKind.i64 0), (Value.bool false), (Value.int IntKind.u8 0)]) Tryd.underlying7 (by kernel_rfl) rfl rfl rfl rfl rfl rfl (by first | exact .inl rfl | exact .inr rfl)
theorem fact8 : TFact Tryd.prog 8 y8 := fact Tryd.t8 (Value.agg #[(Value.int IntKind.i64 0), (Value.int IntKind.i64 0), (Value.bool false), (Value.int IntKind.u8 0)]) Tryd.underlying8 (by kernel_rfl) rfl rfl rfl rfl rfl rfl (by first | exact .inl rfl | exact .inr rfl)
theorem fact9 : TFact Tryd.prog 9 y9 := fact Tryd.t9 (Value.string { data := #[] }) Tryd.underlying9 (by kernel_rfl) rfl rfl rfl rfl rfl rfl (by first | exact .inl rfl | exact .inr rfl)
theorem fact10 : TFact Tryd.prog 10 y10 := fact Tryd.t10 (Value.string { data := #[] }) Tryd.underlying10 (by kernel_rfl) rfl rfl rfl rfl rfl rfl (by first | exact .inl rfl | exact .inr rfl)
theorem fact11 : TFact Tryd.prog 11 y11 := fact Tryd.t11 (Value.string { data := #[] }) Tryd.underlying11 (by kernel_rfl) rfl rfl rfl rfl rfl rfl (by first | exact .inl rfl | exact .inr rfl)
theorem fact12 : TFact Tryd.prog 12 y12 := fact Tryd.t12 (Value.int IntKind.u64 0) Tryd.underlying12 (by kernel_rfl) rfl rfl rfl rfl rfl rfl (by first | exact .inl rfl | exact .inr rfl)
theorem fact13 : TFact Tryd.prog 13 y13 := fact Tryd.t13 (Value.agg #[(Value.string { data := #[] }), (Value.int IntKind.u64 0)]) Tryd.underlying13 (by kernel_rfl) rfl rfl rfl rfl rfl rfl (by first | exact .inl rfl | exact .inr rfl)
theorem fact14 : TFact Tryd.prog 14 y14 := fact Tryd.t14 (Value.agg #[(Value.string { data := #[] }), (Value.int IntKind.u64 0)]) Tryd.underlying14 (by kernel_rfl) rfl rfl rfl rfl rfl rfl (by first | exact .inl rfl | exact .inr rfl)
theorem fact15 : TFact Tryd.prog 15 y15 := fact Tryd.t15 (Value.pointer none) Tryd.underlying15 (by kernel_rfl) rfl rfl rfl rfl rfl rfl (by first | exact .inl rfl | exact .inr rfl)
theorem fact16 : TFact Tryd.prog 16 y16 := fact Tryd.t16 (Value.pointer none) Tryd.underlying16 (by kernel_rfl) rfl rfl rfl rfl rfl rfl (by first | exact .inl rfl | exact .inr rfl)
theorem fact17 : TFact Tryd.prog 17 y17 := fact Tryd.t17 (Value.pointer none) Tryd.underlying17 (by kernel_rfl) rfl rfl rfl rfl rfl rfl (by first | exact .inl rfl | exact .inr rfl)
theorem fact18 : TFact Tryd.prog 18 y18 := fact Tryd.t18 (Value.agg #[(Value.pointer none)]) Tryd.underlying18 (by kernel_rfl) rfl rfl rfl rfl rfl rfl (by first | exact .inl rfl | exact .inr rfl)
theorem fact19 : TFact Tryd.prog 19 y19 := fact Tryd.t19 (Value.agg #[(Value.pointer none)]) Tryd.underlying19 (by kernel_rfl) rfl rfl rfl rfl rfl rfl (by first | exact .inl rfl | exact .inr rfl)
theorem fact20 : TFact Tryd.prog 20 y20 := fact Tryd.t20 Value.nilIface Tryd.underlying20 (by kernel_rfl) rfl rfl rfl rfl rfl rfl (by first | exact .inl rfl | exact .inr rfl)
theorem fact21 : TFact Tryd.prog 21 y21 := fact Tryd.t21 (Value.int IntKind.i32 0) Tryd.underlying21 (by kernel_rfl) rfl rfl rfl rfl rfl rfl (by first | exact .inl rfl | exact .inr rfl)
theorem fact22 : TFact Tryd.prog 22 y22 := fact Tryd.t22 (Value.slice none 0 0) Tryd.underlying22 (by kernel_rfl) rfl rfl rfl rfl rfl rfl (by first | exact .inl rfl | exact .inr rfl)
theorem fact23 : TFact Tryd.prog 23 y23 := fact Tryd.t23 (Value.agg #[(Value.slice none 0 0)]) Tryd.underlying23 (by kernel_rfl) rfl rfl rfl rfl rfl rfl (by first | exact .inl rfl | exact .inr rfl)
theorem fact24 : TFact Tryd.prog 24 y24 := fact Tryd.t24 (Value.agg #[(Value.slice none 0 0)]) Tryd.underlying24 (by kernel_rfl) rfl rfl rfl rfl rfl rfl (by first | exact .inl rfl | exact .inr rfl)
theorem fact25 : TFact Tryd.prog 25 y25 := fact Tryd.t25 Value.nilFunc Tryd.underlying25 (by kernel_rfl) rfl rfl rfl rfl rfl rfl (by first | exact .inl rfl | exact .inr rfl)
theorem fact26 : TFact Tryd.prog 26 y26 := fact Tryd.t26 (Value.slice none 0 0) Tryd.underlying26 (by kernel_rfl) rfl rfl rfl rfl rfl rfl (by first | exact .inl rfl | exact .inr rfl)
theorem fact27 : TFact Tryd.prog 27 y27 := fact Tryd.t27 (Value.int IntKind.i64 0) Tryd.underlying27 (by kernel_rfl) rfl rfl rfl rfl rfl rfl (by first | exact .inl rfl | exact .inr rfl)
theorem fact29 : TFact Tryd.prog 29 y29 := fact Tryd.t29 Value.nilFunc Tryd.underlying29 (by kernel_rfl) rfl rfl rfl rfl rfl rfl (by first | exact .inl rfl | exact .inr rfl)
theorem fact30 : TFact Tryd.prog 30 y30 := fact Tryd.t30 Value.nilFunc Tryd.underlying30 (by kernel_rfl) rfl rfl rfl rfl rfl rfl (by first | exact .inl rfl | exact .inr rfl)
theorem fact32 : TFact Tryd.prog 32 y32 := fact Tryd.t32 Value.nilFunc Tryd.underlying32 (by kernel_rfl) rfl rfl rfl rfl rfl rfl (by first | exact .inl rfl | exact .inr rfl)
theorem fact33 : TFact Tryd.prog 33 y33 := fact Tryd.t33 Value.nilFunc Tryd.underlying33 (by kernel_rfl) rfl rfl rfl rfl rfl rfl (by first | exact .inl rfl | exact .inr rfl)
theorem fact34 : TFact Tryd.prog 34 y34 := fact Tryd.t34 Value.nilFunc Tryd.underlying34 (by kernel_rfl) rfl rfl rfl rfl rfl rfl (by first | exact .inl rfl | exact .inr rfl)
theorem fact35 : TFact Tryd.prog 35 y35 := fact Tryd.t35 (Value.slice none 0 0) Tryd.underlying35 (by kernel_rfl) rfl rfl rfl rfl rfl rfl (by first | exact .inl rfl | exact .inr rfl)
theorem fact36 : TFact Tryd.prog 36 y36 := fact Tryd.t36 (Value.slice none 0 0) Tryd.underlying36 (by kernel_rfl) rfl rfl rfl rfl rfl rfl (by first | exact .inl rfl | exact .inr rfl)
theorem fact37 : TFact Tryd.prog 37 y37 := fact Tryd.t37 (Value.agg #[(Value.slice none 0 0), (Value.slice none 0 0)]) Tryd.underlying37 (by kernel_rfl) rfl rfl rfl rfl rfl rfl (by first | exact .inl rfl | exact .inr rfl)
theorem fact38 : TFact Tryd.prog 38 y38 := fact Tryd.t38 (Value.agg #[(Value.slice none 0 0), (Value.slice none 0 0)]) Tryd.underlying38 (by kernel_rfl) rfl rfl rfl rfl rfl rfl (by first | exact .inl rfl | exact .inr rfl)
theorem fact39 : TFact Tryd.prog 39 y39 := fact Tryd.t39 Value.nilFunc Tryd.underlying39 (by kernel_rfl) rfl rfl rfl rfl rfl rfl (by first | exact .inl rfl | exact .inr rfl)
theorem fact40 : TFact Tryd.prog 40 y40 := fact Tryd.t40 (Value.slice none 0 0) Tryd.underlying40 (by kernel_rfl) rfl rfl rfl rfl rfl rfl (by first | exact .inl rfl | exact .inr rfl)
theorem fact42 : TFact Tryd.prog 42 y42 := fact Tryd.t42 Value.nilFunc Tryd.underlying42 (by kernel_rfl) rfl rfl rfl rfl rfl rfl (by first | exact .inl rfl | exact .inr rfl)
theorem fact43 : TFact Tryd.prog 43 y43 := fact Tryd.t43 (Value.agg #[(Value.slice none 0 0), (Value.int IntKind.i64 0), (Value.int IntKind.i64 0)]) Tryd.underlying43 (by kernel_rfl) rfl rfl rfl rfl rfl rfl (by first | exact .inl rfl | exact .inr rfl)
theorem fact44 : TFact Tryd.prog 44 y44 := fact Tryd.t44 (Value.agg #[(Value.slice none 0 0), (Value.int IntKind.i64 0), (Value.int IntKind.i64 0)]) Tryd.underlying44 (by kernel_rfl) rfl rfl rfl rfl rfl rfl (by first | exact .inl rfl | exact .inr rfl)
theorem fact45 : TFact Tryd.prog 45 y45 := fact Tryd.t45 Value.nilFunc Tryd.underlying45 (by kernel_rfl) rfl rfl rfl rfl rfl rfl (by first | exact .inl rfl | exact .inr rfl)
theorem fact46 : TFact Tryd.prog 46 y46 := fact Tryd.t46 Value.nilFunc Tryd.underlying46 (by kernel_rfl) rfl rfl rfl rfl rfl rfl (by first | exact .inl rfl | exact .inr rfl)
theorem fact47 : TFact Tryd.prog 47 y47 := fact Tryd.t47 Value.nilFunc Tryd.underlying47 (by kernel_rfl) rfl rfl rfl rfl rfl rfl (by first | exact .inl rfl | exact .inr rfl)
theorem fact49 : TFact Tryd.prog 49 y49 := fact Tryd.t49 Value.nilFunc Tryd.underlying49 (by kernel_rfl) rfl rfl rfl rfl rfl rfl (by first | exact .inl rfl | exact .inr rfl)
theorem fact50 : TFact Tryd.prog 50 y50 := fact Tryd.t50 Value.nilFunc Tryd.underlying50 (by kernel_rfl) rfl rfl rfl rfl rfl rfl (by first | exact .inl rfl | exact .inr rfl)
theorem fact51 : TFact Tryd.prog 51 y51 := fact Tryd.t51 Value.nilFunc Tryd.underlying51 (by kernel_rfl) rfl rfl rfl rfl rfl rfl (by first | exact .inl rfl | exact .inr rfl)
theorem fact52 : TFact Tryd.prog 52 y52 := fact Tryd.t52 (Value.agg #[(Value.slice none 0 0), (Value.int IntKind.i64 0), (Value.int IntKind.i64 0)]) Tryd.underlying52 (by kernel_rfl) rfl rfl rfl rfl rfl rfl (by first | exact .inl rfl | exact .inr rfl)
theorem fact53 : TFact Tryd.prog 53 y53 := fact Tryd.t53 (Value.agg #[(Value.slice none 0 0), (Value.int IntKind.i64 0), (Value.int IntKind.i64 0)]) Tryd.underlying53 (by kernel_rfl) rfl rfl rfl rfl rfl rfl (by first | exact .inl rfl | exact .inr rfl)
theorem fact54 : TFact Tryd.prog 54 y54 := fact Tryd.t54 Value.nilFunc Tryd.underlying54 (by kernel_rfl) rfl rfl rfl rfl rfl rfl (by first | exact .inl rfl | exact .inr rfl)
theorem fact55 : TFact Tryd.prog 55 y55 := fact Tryd.t55 Value.nilFunc Tryd.underlying55 (by kernel_rfl) rfl rfl rfl rfl rfl rfl (by first | exact .inl rfl | exact .inr rfl)
theorem fact56 : TFact Tryd.prog 56 y56 := fact Tryd.t56 Value.nilFunc Tryd.underlying56 (by kernel_rfl) rfl rfl rfl rfl rfl rfl (by first | exact .inl rfl | exact .inr rfl)
theorem fact57 : TFact Tryd.prog 57 y57 := fact Tryd.t57 Value.nilFunc Tryd.underlying57 (by kernel_rfl) rfl rfl rfl rfl rfl rfl (by first | exact .inl rfl | exact .inr rfl)
theorem fact58 : TFact Tryd.prog 58 y58 := fact Tryd.t58 Value.nilFunc Tryd.underlying58 (by kernel_rfl) rfl rfl rfl rfl rfl rfl (by first | exact .inl rfl | exact .inr rfl)
theorem fact59 : TFact Tryd.prog 59 y59 := fact Tryd.t59 (Value.agg #[(Value.int IntKind.i64 0), (Value.int IntKind.i64 0)]) Tryd.underlying59 (by kernel_rfl) rfl rfl rfl rfl rfl rfl (by first | exact .inl rfl | exact .inr rfl)
theorem fact60 : TFact Tryd.prog 60 y60 := fact Tryd.t60 (Value.agg #[(Value.int IntKind.i64 0), (Value.int IntKind.i64 0)]) Tryd.underlying60 (by kernel_rfl) rfl rfl rfl rfl rfl rfl (by first | exact .inl rfl | exact .inr rfl)
theorem fact61 : TFact Tryd.prog 61 y61 := fact Tryd.t61 (Value.slice none 0 0) Tryd.underlying61 (by kernel_rfl) rfl rfl rfl rfl rfl rfl (by first | exact .inl rfl | exact .inr rfl)
theorem fact62 : TFact Tryd.prog 62 y62 := fact Tryd.t62 (Value.slice none 0 0) Tryd.underlying62 (by kernel_rfl) rfl rfl rfl rfl rfl rfl (by first | exact .inl rfl | exact .inr rfl)
theorem fact63 : TFact Tryd.prog 63 y63 := fact Tryd.t63 (Value.agg #[(Value.int IntKind.i64 0), (Value.int IntKind.i64 0), (Value.slice none 0 0), (Value.slice none 0 0), (Value.slice none 0 0), (Value.slice none 0 0)]) Tryd.underlying63 (by kernel_rfl) rfl rfl rfl rfl rfl rfl (by first | exact .inl rfl | exact .inr rfl)
theorem fact64 : TFact Tryd.prog 64 y64 := fact Tryd.t64 (Value.agg #[(Value.int IntKind.i64 0), (Value.int IntKind.i64 0), (Value.slice none 0 0), (Value.slice none 0 0), (Value.slice none 0 0), (Value.slice none 0 0)]) Tryd.underlying64 (by kernel_rfl) rfl rfl rfl rfl rfl rfl (by first | exact .inl rfl | exact .inr rfl)
theorem fact65 : TFact Tryd.prog 65 y65 := fact Tryd.t65 Value.nilFunc Tryd.underlying65 (by kernel_rfl) rfl rfl rfl rfl rfl rfl (by first | exact .inl rfl | exact .inr rfl)
theorem fact67 : TFact Tryd.prog 67 y67 := fact Tryd.t67 Value.nilFunc Tryd.underlying67 (by kernel_rfl) rfl rfl rfl rfl rfl rfl (by first | exact .inl rfl | exact .inr rfl)
theorem fact68 : TFact Tryd.prog 68 y68 := fact Tryd.t68 Value.nilFunc Tryd.underlying68 (by kernel_rfl) rfl rfl rfl rfl rfl rfl (by first | exact .inl rfl | exact .inr rfl)
theorem fact69 : TFact Tryd.prog 69 y69 := fact Tryd.t69 (Value.slice none 0 0) Tryd.underlying69 (by kernel_rfl) rfl rfl rfl rfl rfl rfl (by first | exact .inl rfl | exact .inr rfl)
theorem fact70 : TFact Tryd.prog 70 y70 := fact Tryd.t70 (Value.agg #[(Value.slice none 0 0), (Value.slice none 0 0), (Value.slice none 0 0)]) Tryd.underlying70 (by kernel_rfl) rfl rfl rfl rfl rfl rfl (by first | exact .inl rfl | exact .inr rfl)
theorem fact71 : TFact Tryd.prog 71 y71 := fact Tryd.t71 (Value.agg #[(Value.slice none 0 0), (Value.slice none 0 0), (Value.slice none 0 0)]) Tryd.underlying71 (by kernel_rfl) rfl rfl rfl rfl rfl rfl (by first | exact .inl rfl | exact .inr rfl)
theorem fact72 : TFact Tryd.prog 72 y72 := fact Tryd.t72 (Value.agg #[(Value.int IntKind.i64 0), (Value.int IntKind.i64 0), (Value.int IntKind.i64 0)]) Tryd.underlying72 (by kernel_rfl) rfl rfl rfl rfl rfl rfl (by first | exact .inl rfl | exact .inr rfl)
theorem fact73 : TFact Tryd.prog 73 y73 := fact Tryd.t73 (Value.agg #[(Value.int IntKind.i64 0), (Value.int IntKind.i64 0), (Value.int IntKind.i64 0)]) Tryd.underlying73 (by kernel_rfl) rfl rfl rfl rfl rfl rfl (by first | exact .inl rfl | exact .inr rfl)
theorem fact74 : TFact Tryd.prog 74 y74 := fact Tryd.t74 Value.nilFunc Tryd.underlying74 (by kernel_rfl) rfl rfl rfl rfl rfl rfl (by first | exact .inl rfl | exact .inr rfl)
theorem fact75 : TFact Tryd.prog 75 y75 := fact Tryd.t75 Value.nilFunc Tryd.underlying75 (by kernel_rfl) rfl rfl rfl rfl rfl rfl (by first | exact .inl rfl | exact .inr rfl)
theorem fact76 : TFact Tryd.prog 76 y76 := fact Tryd.t76 Value.nilFunc Tryd.underlying76 (by kernel_rfl) rfl rfl rfl rfl rfl rfl (by first | exact .inl rfl | exact .inr rfl)
theorem fact77 : TFact Tryd.prog 77 y77 := fact Tryd.t77 Value.nilFunc Tryd.underlying77 (by kernel_rfl) rfl rfl rfl rfl rfl rfl (by first | exact .inl rfl | exact .inr rfl)
theorem fact78 : TFact Tryd.prog 78 y78 := fact Tryd.t78 Value.nilFunc Tryd.underlying78 (by kernel_rfl) rfl rfl rfl rfl rfl rfl (by first | exact .inl rfl | exact .inr rfl)
theorem fact79 : TFact Tryd.prog 79 y79 := fact Tryd.t79 Value.nilFunc Tryd.underlying79 (by kernel_rfl) rfl rfl rfl rfl rfl rfl (by first | exact .inl rfl | exact .inr rfl)
theorem fact81 : TFact Tryd.prog 81 y81 := fact Tryd.t81 Value.nilFunc Tryd.underlying81 (by kernel_rfl) rfl rfl rfl rfl rfl rfl (by first | exact .inl rfl | exact .inr rfl)
theorem fact82 : TFact Tryd.prog 82 y82 := fact Tryd.t82 (Value.slice none 0 0) Tryd.underlying82 (by kernel_rfl) rfl rfl rfl rfl rfl rfl (by first | exact .inl rfl | exact .inr rfl)
theorem fact84 : TFact Tryd.prog 84 y84 := fact Tryd.t84 Value.nilFunc Tryd.underlying84 (by kernel_rfl) rfl rfl rfl rfl rfl rfl (by first | exact .inl rfl | exact .inr rfl)
theorem fact85 : TFact Tryd.prog 85 y85 := fact Tryd.t85 Value.nilFunc Tryd.underlying85 (by kernel_rfl) rfl rfl rfl rfl rfl rfl (by first | exact .inl rfl | exact .inr rfl)
theorem fact86 : TFact Tryd.prog 86 y86 := fact Tryd.t86 (Value.slice none 0 0) Tryd.underlying86 (by kernel_rfl) rfl rfl rfl rfl rfl rfl (by first | exact .inl rfl | exact .inr rfl)
theorem fact88 : TFact Tryd.prog 88 y88 := fact Tryd.t88 Value.nilFunc Tryd.underlying88 (by kernel_rfl) rfl rfl rfl rfl rfl rfl (by first | exact .inl rfl | exact .inr rfl)
theorem fact89 : TFact Tryd.prog 89 y89 := fact Tryd.t89 Value.nilFunc Tryd.underlying89 (by kernel_rfl) rfl rfl rfl rfl rfl rfl (by first | exact .inl rfl | exact .inr rfl)
theorem fact90 : TFact Tryd.prog 90 y90 := fact Tryd.t90 Value.nilFunc Tryd.underlying90 (by kernel_rfl) rfl rfl rfl rfl rfl rfl (by first | exact .inl rfl | exact .inr rfl)
theorem fact91 : TFact Tryd.prog 91 y91 := fact Tryd.t91 Value.nilFunc Tryd.underlying91 (by kernel_rfl) rfl rfl rfl rfl rfl rfl (by first | exact .inl rfl | exact .inr rfl)
theorem fact92 : TFact Tryd.prog 92 y92 := fact Tryd.t92 Value.nilFunc Tryd.underlying92 (by kernel_rfl) rfl rfl rfl rfl rfl rfl (by first | exact .inl rfl | exact .inr rfl)
theorem fact93 : TFact Tryd.prog 93 y93 := fact Tryd.t93 Value.nilFunc Tryd.underlying93 (by kernel_rfl) rfl rfl rfl rfl rfl rfl (by first | exact .inl rfl | exact .inr rfl)
theorem fact94 : TFact Tryd.prog 94 y94 := fact Tryd.t94 Value.nilFunc Tryd.underlying94 (by kernel_rfl) rfl rfl rfl rfl rfl rfl (by first | exact .inl rfl | exact .inr rfl)
theorem fact95 : TFact Tryd.prog 95 y95 := fact Tryd.t95 Value.nilFunc Tryd.underlying95 (by kernel_rfl) rfl rfl rfl rfl rfl rfl (by first | exact .inl rfl | exact .inr rfl)
theorem fact96 : TFact Tryd.prog 96 y96 := fact Tryd.t96 Value.nilFunc Tryd.underlying96 (by kernel_rfl) rfl rfl rfl rfl rfl rfl (by first | exact .inl rfl | exact .inr rfl)
theorem fact97 : TFact Tryd.prog 97 y97 := fact Tryd.t97 (Value.agg #[(Value.int IntKind.i64 0), (Value.int IntKind.i64 0), (Value.int IntKind.i64 0)]) Tryd.underlying97 (by kernel_rfl) rfl rfl rfl rfl rfl rfl (by first | exact .inl rfl | exact .inr rfl)
theorem fact98 : TFact Tryd.prog 98 y98 := fact Tryd.t98 (Value.agg #[(Value.int IntKind.i64 0), (Value.int IntKind.i64 0), (Value.int IntKind.i64 0)]) Tryd.underlying98 (by kernel_rfl) rfl rfl rfl rfl rfl rfl (by first | exact .inl rfl | exact .inr rfl)
theorem fact99 : TFact Tryd.prog 99 y99 := fact Tryd.t99 (Value.pointer none) Tryd.underlying99 (by kernel_rfl) rfl rfl rfl rfl rfl rfl (by first | exact .inl rfl | exact .inr rfl)
theorem fact100 : TFact Tryd.prog 100 y100 := fact Tryd.t100 (Value.slice none 0 0) Tryd.underlying100 (by kernel_rfl) rfl rfl rfl rfl rfl rfl (by first | exact .inl rfl | exact .inr rfl)
theorem fact102 : TFact Tryd.prog 102 y102 := fact Tryd.t102 Value.nilFunc Tryd.underlying102 (by kernel_rfl) rfl rfl rfl rfl rfl rfl (by first | exact .inl rfl | exact .inr rfl)
theorem fact103 : TFact Tryd.prog 103 y103 := fact Tryd.t103 Value.nilFunc Tryd.underlying103 (by kernel_rfl) rfl rfl rfl rfl rfl rfl (by first | exact .inl rfl | exact .inr rfl)
theorem fact104 : TFact Tryd.prog 104 y104 := fact Tryd.t104 Value.nilFunc Tryd.underlying104 (by kernel_rfl) rfl rfl rfl rfl rfl rfl (by first | exact .inl rfl | exact .inr rfl)
theorem fact105 : TFact Tryd.prog 105 y105 := fact Tryd.t105 Value.nilFunc Tryd.underlying105 (by kernel_rfl) rfl rfl rfl rfl rfl rfl (by first | exact .inl rfl | exact .inr rfl)
theorem fact106 : TFact Tryd.prog 106 y106 := fact Tryd.t106 Value.nilFunc Tryd.underlying106 (by kernel_rfl) rfl rfl rfl rfl rfl rfl (by first | exact .inl rfl | exact .inr rfl)
theorem fact107 : TFact Tryd.prog 107 y107 := fact Tryd.t107 Value.nilFunc Tryd.underlying107 (by kernel_rfl) rfl rfl rfl rfl rfl rfl (by first | exact .inl rfl | exact .inr rfl)
theorem fact108 : TFact Tryd.prog 108 y108 := fact Tryd.t108 Value.nilFunc Tryd.underlying108 (by kernel_rfl) rfl rfl rfl rfl rfl rfl (by first | exact .inl rfl | exact .inr rfl)
theorem fact109 : TFact Tryd.prog 109 y109 := fact Tryd.t109 Value.nilFunc Tryd.underlying109 (by kernel_rfl) rfl rfl rfl rfl rfl rfl (by first | exact .inl rfl | exact .inr rfl)
theorem fact110 : TFact Tryd.prog 110 y110 := fact Tryd.t110 (Value.agg #[(Value.int IntKind.i64 0), (Value.string { data := #[] }), (Value.int IntKind.i64 0)]) Tryd.underlying110 (by kernel_rfl) rfl rfl rfl rfl rfl rfl (by first | exact .inl rfl | exact .inr rfl)
theorem fact111 : TFact Tryd.prog 111 y111 := fact Tryd.t111 (Value.agg #[(Value.int IntKind.i64 0), (Value.string { data := #[] }), (Value.int IntKind.i64 0)]) Tryd.underlying111 (by kernel_rfl) rfl rfl rfl rfl rfl rfl (by first | exact .inl rfl | exact .inr rfl)
theorem fact112 : TFact Tryd.prog 112 y112 := fact Tryd.t112 (Value.agg #[(Value.slice none 0 0), (Value.int IntKind.i64 0), (Value.int IntKind.i64 0)]) Tryd.underlying112 (by kernel_rfl) rfl rfl rfl rfl rfl rfl (by first | exact .inl rfl | exact .inr rfl)
theorem fact113 : TFact Tryd.prog 113 y113 := fact Tryd.t113 (Value.agg #[(Value.slice none 0 0), (Value.int IntKind.i64 0), (Value.int IntKind.i64 0)]) Tryd.underlying113 (by kernel_rfl) rfl rfl rfl rfl rfl rfl (by first | exact .inl rfl | exact .inr rfl)
theorem fact114 : TFact Tryd.prog 114 y114 := fact Tryd.t114 Value.nilFunc Tryd.underlying114 (by kernel_rfl) rfl rfl rfl rfl rfl rfl (by first | exact .inl rfl | exact .inr rfl)
theorem fact115 : TFact Tryd.prog 115 y115 := fact Tryd.t115 Value.nilFunc Tryd.underlying115 (by kernel_rfl) rfl rfl rfl rfl rfl rfl (by first | exact .inl rfl | exact .inr rfl)
theorem fact116 : TFact Tryd.prog 116 y116 := fact Tryd.t116 (Value.int IntKind.u32 0) Tryd.underlying116 (by kernel_rfl) rfl rfl rfl rfl rfl rfl (by first | exact .inl rfl | exact .inr rfl)
theorem fact117 : TFact Tryd.prog 117 y117 := fact Tryd.t117 (Value.agg #[(Value.string { data := #[] }), (Value.string { data := #[] }), (Value.string { data := #[] }), (Value.string { data := #[] }), (Value.string { data := #[] }), (Value.string { data := #[] }), (Value.string { data := #[] }), (Value.string { data := #[] }), (Value.string { data := #[] }), (Value.string { data := #[] }), (Value.string { data := #[] }), (Value.string { data := #[] }), (Value.string { data := #[] })]) Tryd.underlying117 (by kernel_rfl) rfl rfl rfl rfl rfl rfl (by first | exact .inl rfl | exact .inr rfl)
theorem fact118 : TFact Tryd.prog 118 y118 := fact Tryd.t118 (Value.agg #[(Value.int IntKind.i64 0), (Value.int IntKind.i64 0), (Value.int IntKind.i64 0), (Value.int IntKind.i64 0), (Value.int IntKind.i64 0), (Value.int IntKind.i64 0), (Value.int IntKind.i64 0), (Value.int IntKind.i64 0), (Value.int IntKind.i64 0), (Value.int IntKind.i64 0), (Value.int IntKind.i64 0), (Value.int IntKind.i64 0), (Value.int IntKind.i64 0)]) Tryd.underlying118 (by kernel_rfl) rfl rfl rfl rfl rfl rfl (by first | exact .inl rfl | exact .inr rfl)
theorem fact119 : TFact Tryd.prog 119 y119 := fact Tryd.t119 (Value.slice none 0 0) Tryd.underlying119 (by kernel_rfl) rfl rfl rfl rfl rfl rfl (by first | exact .inl rfl | exact .inr rfl)
theorem fact120 : TFact Tryd.prog 120 y120 := fact Tryd.t120 Value.nilFunc Tryd.underlying120 (by kernel_rfl) rfl rfl rfl rfl rfl rfl (by first | exact .inl rfl | exact .inr rfl)
theorem fact121 : TFact Tryd.prog 121 y121 := fact Tryd.t121 (Value.agg #[(Value.int IntKind.i64 0), (Value.slice none 0 0), (Value.slice none 0 0), (Value.slice none 0 0), (Value.int IntKind.i64 0)]) Tryd.underlying121 (by kernel_rfl) rfl rfl rfl rfl rfl rfl (by first | exact .inl rfl | exact .inr rfl)
theorem fact122 : TFact Tryd.prog 122 y122 := fact Tryd.t122 (Value.agg #[(Value.int IntKind.i64 0), (Value.slice none 0 0), (Value.slice none 0 0), (Value.slice none 0 0), (Value.int IntKind.i64 0)]) Tryd.underlying122 (by kernel_rfl) rfl rfl rfl rfl rfl rfl (by first | exact .inl rfl | exact .inr rfl)
theorem fact123 : TFact Tryd.prog 123 y123 := fact Tryd.t123 Value.nilFunc Tryd.underlying123 (by kernel_rfl) rfl rfl rfl rfl rfl rfl (by first | exact .inl rfl | exact .inr rfl)
theorem fact124 : TFact Tryd.prog 124 y124 := fact Tryd.t124 Value.nilFunc Tryd.underlying124 (by kernel_rfl) rfl rfl rfl rfl rfl rfl (by first | exact .inl rfl | exact .inr rfl)
theorem fact125 : TFact Tryd.prog 125 y125 := fact Tryd.t125 Value.nilFunc Tryd.underlying125 (by kernel_rfl) rfl rfl rfl rfl rfl rfl (by first | exact .inl rfl | exact .inr rfl)
theorem fact127 : TFact Tryd.prog 127 y127 := fact Tryd.t127 Value.nilFunc Tryd.underlying127 (by kernel_rfl) rfl rfl rfl rfl rfl rfl (by first | exact .inl rfl | exact .inr rfl)
theorem fact128 : TFact Tryd.prog 128 y128 := fact Tryd.t128 (Value.agg #[(Value.bool false), (Value.int IntKind.i64 0), (Value.int IntKind.i64 0)]) Tryd.underlying128 (by kernel_rfl) rfl rfl rfl rfl rfl rfl (by first | exact .inl rfl | exact .inr rfl)
theorem fact129 : TFact Tryd.prog 129 y129 := fact Tryd.t129 (Value.agg #[(Value.bool false), (Value.int IntKind.i64 0), (Value.int IntKind.i64 0)]) Tryd.underlying129 (by kernel_rfl) rfl rfl rfl rfl rfl rfl (by first | exact .inl rfl | exact .inr rfl)
theorem fact130 : TFact Tryd.prog 130 y130 := fact Tryd.t130 Value.nilFunc Tryd.underlying130 (by kernel_rfl) rfl rfl rfl rfl rfl rfl (by first | exact .inl rfl | exact .inr rfl)
theorem fact131 : TFact Tryd.prog 131 y131 := fact Tryd.t131 Value.nilFunc Tryd.underlying131 (by kernel_rfl) rfl rfl rfl rfl rfl rfl (by first | exact .inl rfl | exact .inr rfl)
theorem fact132 : TFact Tryd.prog 132 y132 := fact Tryd.t132 Value.nilFunc Tryd.underlying132 (by kernel_rfl) rfl rfl rfl rfl rfl rfl (by first | exact .inl rfl | exact .inr rfl)
theorem fact133 : TFact Tryd.prog 133 y133 := fact Tryd.t133 Value.nilFunc Tryd.underlying133 (by kernel_rfl) rfl rfl rfl rfl rfl rfl (by first | exact .inl rfl | exact .inr rfl)
theorem fact134 : TFact Tryd.prog 134 y134 := fact Tryd.t134 Value.nilFunc Tryd.underlying134 (by kernel_rfl) rfl rfl rfl rfl rfl rfl (by first | exact .inl rfl | exact .inr rfl)
theorem fact135 : TFact Tryd.prog 135 y135 := fact Tryd.t135 (Value.pointer none) Tryd.underlying135 (by kernel_rfl) rfl rfl rfl rfl rfl rfl (by first | exact .inl rfl | exact .inr rfl)
theorem fact136 : TFact Tryd.prog 136 y136 := fact Tryd.t136 (Value.slice none 0 0) Tryd.underlying136 (by kernel_rfl) rfl rfl rfl rfl rfl rfl (by first | exact .inl rfl | exact .inr rfl)
theorem fact137 : TFact Tryd.prog 137 y137 := fact Tryd.t137 (Value.agg #[(Value.pointer none), (Value.slice none 0 0)]) Tryd.underlying137 (by kernel_rfl) rfl rfl rfl rfl rfl rfl (by first | exact .inl rfl | exact .inr rfl)
theorem fact138 : TFact Tryd.prog 138 y138 := fact Tryd.t138 (Value.agg #[(Value.pointer none), (Value.slice none 0 0)]) Tryd.underlying138 (by kernel_rfl) rfl rfl rfl rfl rfl rfl (by first | exact .inl rfl | exact .inr rfl)
theorem fact139 : TFact Tryd.prog 139 y139 := fact Tryd.t139 Value.nilIface Tryd.underlying139 (by kernel_rfl) rfl rfl rfl rfl rfl rfl (by first | exact .inl rfl | exact .inr rfl)
theorem fact140 : TFact Tryd.prog 140 y140 := fact Tryd.t140 Value.nilIface Tryd.underlying140 (by kernel_rfl) rfl rfl rfl rfl rfl rfl (by first | exact .inl rfl | exact .inr rfl)
theorem fact142 : TFact Tryd.prog 142 y142 := fact Tryd.t142 Value.nilFunc Tryd.underlying142 (by kernel_rfl) rfl rfl rfl rfl rfl rfl (by first | exact .inl rfl | exact .inr rfl)
theorem fact143 : TFact Tryd.prog 143 y143 := fact Tryd.t143 Value.nilFunc Tryd.underlying143 (by kernel_rfl) rfl rfl rfl rfl rfl rfl (by first | exact .inl rfl | exact .inr rfl)
theorem fact144 : TFact Tryd.prog 144 y144 := fact Tryd.t144 (Value.pointer none) Tryd.underlying144 (by kernel_rfl) rfl rfl rfl rfl rfl rfl (by first | exact .inl rfl | exact .inr rfl)
theorem fact145 : TFact Tryd.prog 145 y145 := fact Tryd.t145 (Value.agg #[(Value.slice none 0 0), (Value.int IntKind.i64 0), (Value.int IntKind.i64 0), (Value.int IntKind.i64 0)]) Tryd.underlying145 (by kernel_rfl) rfl rfl rfl rfl rfl rfl (by first | exact .inl rfl | exact .inr rfl)
theorem fact146 : TFact Tryd.prog 146 y146 := fact Tryd.t146 (Value.agg #[(Value.slice none 0 0), (Value.int IntKind.i64 0), (Value.int IntKind.i64 0), (Value.int IntKind.i64 0)]) Tryd.underlying146 (by kernel_rfl) rfl rfl rfl rfl rfl rfl (by first | exact .inl rfl | exact .inr rfl)
theorem fact147 : TFact Tryd.prog 147 y147 := fact Tryd.t147 (Value.slice none 0 0) Tryd.underlying147 (by kernel_rfl) rfl rfl rfl rfl rfl rfl (by first | exact .inl rfl | exact .inr rfl)
theorem fact148 : TFact Tryd.prog 148 y148 := fact Tryd.t148 Value.nilFunc Tryd.underlying148 (by kernel_rfl) rfl rfl rfl rfl rfl rfl (by first | exact .inl rfl | exact .inr rfl)
theorem fact149 : TFact Tryd.prog 149 y149 := fact Tryd.t149 Value.nilFunc Tryd.underlying149 (by kernel_rfl) rfl rfl rfl rfl rfl rfl (by first | exact .inl rfl | exact .inr rfl)
theorem fact150 : TFact Tryd.prog 150 y150 := fact Tryd.t150 Value.nilFunc Tryd.underlying150 (by kernel_rfl) rfl rfl rfl rfl rfl rfl (by first | exact .inl rfl | exact .inr rfl)
theorem fact151 : TFact Tryd.prog 151 y151 := fact Tryd.t151 Value.nilFunc Tryd.underlying151 (by kernel_rfl) rfl rfl rfl rfl rfl rfl (by first | exact .inl rfl | exact .inr rfl)
theorem fact153 : TFact Tryd.prog 153 y153 := fact Tryd.t153 Value.nilFunc Tryd.underlying153 (by kernel_rfl) rfl rfl rfl rfl rfl rfl (by first | exact .inl rfl | exact .inr rfl)
theorem fact154 : TFact Tryd.prog 154 y154 := fact Tryd.t154 Value.nilFunc Tryd.underlying154 (by kernel_rfl) rfl rfl rfl rfl rfl rfl (by first | exact .inl rfl | exact .inr rfl)
theorem fact155 : TFact Tryd.prog 155 y155 := fact Tryd.t155 Value.nilFunc Tryd.underlying155 (by kernel_rfl) rfl rfl rfl rfl rfl rfl (by first | exact .inl rfl | exact .inr rfl)
theorem fact156 : TFact Tryd.prog 156 y156 := fact Tryd.t156 Value.nilFunc Tryd.underlying156 (by kernel_rfl) rfl rfl rfl rfl rfl rfl (by first | exact .inl rfl | exact .inr rfl)
theorem fact157 : TFact Tryd.prog 157 y157 := fact Tryd.t157 Value.nilFunc Tryd.underlying157 (by kernel_rfl) rfl rfl rfl rfl rfl rfl (by first | exact .inl rfl | exact .inr rfl)
theorem fact158 : TFact Tryd.prog 158 y158 := fact Tryd.t158 Value.nilFunc Tryd.underlying158 (by kernel_rfl) rfl rfl rfl rfl rfl rfl (by first | exact .inl rfl | exact .inr rfl)
theorem fact159 : TFact Tryd.prog 159 y159 := fact Tryd.t159 Value.nilFunc Tryd.underlying159 (by kernel_rfl) rfl rfl rfl rfl rfl rfl (by first | exact .inl rfl | exact .inr rfl)
theorem fact160 : TFact Tryd.prog 160 y160 := fact Tryd.t160 Value.nilFunc Tryd.underlying160 (by kernel_rfl) rfl rfl rfl rfl rfl rfl (by first | exact .inl rfl | exact .inr rfl)
theorem fact161 : TFact Tryd.prog 161 y161 := fact Tryd.t161 Value.nilFunc Tryd.underlying161 (by kernel_rfl) rfl rfl rfl rfl rfl rfl (by first | exact .inl rfl | exact .inr rfl)
theorem fact162 : TFact Tryd.prog 162 y162 := fact Tryd.t162 Value.nilFunc Tryd.underlying162 (by kernel_rfl) rfl rfl rfl rfl rfl rfl (by first | exact .inl rfl | exact .inr rfl)
theorem fact163 : TFact Tryd.prog 163 y163 := fact Tryd.t163 Value.nilFunc Tryd.underlying163 (by kernel_rfl) rfl rfl rfl rfl rfl rfl (by first | exact .inl rfl | exact .inr rfl)
theorem fact164 : TFact Tryd.prog 164 y164 := fact Tryd.t164 Value.nilFunc Tryd.underlying164 (by kernel_rfl) rfl rfl rfl rfl rfl rfl (by first | exact .inl rfl | exact .inr rfl)
theorem fact165 : TFact Tryd.prog 165 y165 := fact Tryd.t165 Value.nilFunc Tryd.underlying165 (by kernel_rfl) rfl rfl rfl rfl rfl rfl (by first | exact .inl rfl | exact .inr rfl)
theorem fact166 : TFact Tryd.prog 166 y166 := fact Tryd.t166 Value.nilFunc Tryd.underlying166 (by kernel_rfl) rfl rfl rfl rfl rfl rfl (by first | exact .inl rfl | exact .inr rfl)
theorem fact167 : TFact Tryd.prog 167 y167 := fact Tryd.t167 Value.nilFunc Tryd.underlying167 (by kernel_rfl) rfl rfl rfl rfl rfl rfl (by first | exact .inl rfl | exact .inr rfl)
theorem fact168 : TFact Tryd.prog 168 y168 := fact Tryd.t168 Value.nilFunc Tryd.underlying168 (by kernel_rfl) rfl rfl rfl rfl rfl rfl (by first | exact .inl rfl | exact .inr rfl)
theorem fact169 : TFact Tryd.prog 169 y169 := fact Tryd.t169 Value.nilFunc Tryd.underlying169 (by kernel_rfl) rfl rfl rfl rfl rfl rfl (by first | exact .inl rfl | exact .inr rfl)
theorem fact170 : TFact Tryd.prog 170 y170 := fact Tryd.t170 Value.nilFunc Tryd.underlying170 (by kernel_rfl) rfl rfl rfl rfl rfl rfl (by first | exact .inl rfl | exact .inr rfl)
theorem fact171 : TFact Tryd.prog 171 y171 := fact Tryd.t171 Value.nilFunc Tryd.underlying171 (by kernel_rfl) rfl rfl rfl rfl rfl rfl (by first | exact .inl rfl | exact .inr rfl)
theorem fact172 : TFact Tryd.prog 172 y172 := fact Tryd.t172 (Value.pointer none) Tryd.underlying172 (by kernel_rfl) rfl rfl rfl rfl rfl rfl (by first | exact .inl rfl | exact .inr rfl)
theorem fact173 : TFact Tryd.prog 173 y173 := fact Tryd.t173 (Value.agg #[(Value.slice none 0 0), (Value.slice none 0 0), (Value.slice none 0 0), (Value.int IntKind.i64 0), (Value.int IntKind.i64 0)]) Tryd.underlying173 (by kernel_rfl) rfl rfl rfl rfl rfl rfl (by first | exact .inl rfl | exact .inr rfl)
theorem fact174 : TFact Tryd.prog 174 y174 := fact Tryd.t174 (Value.agg #[(Value.slice none 0 0), (Value.slice none 0 0), (Value.slice none 0 0), (Value.int IntKind.i64 0), (Value.int IntKind.i64 0)]) Tryd.underlying174 (by kernel_rfl) rfl rfl rfl rfl rfl rfl (by first | exact .inl rfl | exact .inr rfl)
theorem fact175 : TFact Tryd.prog 175 y175 := fact Tryd.t175 Value.nilFunc Tryd.underlying175 (by kernel_rfl) rfl rfl rfl rfl rfl rfl (by first | exact .inl rfl | exact .inr rfl)
theorem fact176 : TFact Tryd.prog 176 y176 := fact Tryd.t176 Value.nilFunc Tryd.underlying176 (by kernel_rfl) rfl rfl rfl rfl rfl rfl (by first | exact .inl rfl | exact .inr rfl)
theorem fact177 : TFact Tryd.prog 177 y177 := fact Tryd.t177 Value.nilFunc Tryd.underlying177 (by kernel_rfl) rfl rfl rfl rfl rfl rfl (by first | exact .inl rfl | exact .inr rfl)
theorem fact178 : TFact Tryd.prog 178 y178 := fact Tryd.t178 Value.nilFunc Tryd.underlying178 (by kernel_rfl) rfl rfl rfl rfl rfl rfl (by first | exact .inl rfl | exact .inr rfl)
theorem fact179 : TFact Tryd.prog 179 y179 := fact Tryd.t179 Value.nilFunc Tryd.underlying179 (by kernel_rfl) rfl rfl rfl rfl rfl rfl (by first | exact .inl rfl | exact .inr rfl)
theorem fact180 : TFact Tryd.prog 180 y180 := fact Tryd.t180 Value.nilFunc Tryd.underlying180 (by kernel_rfl) rfl rfl rfl rfl rfl rfl (by first | exact .inl rfl | exact .inr rfl)
theorem fact181 : TFact Tryd.prog 181 y181 := fact Tryd.t181 (Value.agg #[(Value.int IntKind.i64 0), (Value.int IntKind.i64 0), (Value.int IntKind.i64 0), (Value.int IntKind.i64 0), (Value.int IntKind.i64 0), (Value.int IntKind.i64 0)]) Tryd.underlying181 (by kernel_rfl) rfl rfl rfl rfl rfl rfl (by first | exact .inl rfl | exact .inr rfl)
theorem fact182 : TFact Tryd.prog 182 y182 := fact Tryd.t182 (Value.agg #[(Value.int IntKind.i64 0), (Value.int IntKind.i64 0), (Value.int IntKind.i64 0), (Value.int IntKind.i64 0), (Value.int IntKind.i64 0), (Value.int IntKind.i64 0)]) Tryd.underlying182 (by kernel_rfl) rfl rfl rfl rfl rfl rfl (by first | exact .inl rfl | exact .inr rfl)
theorem fact183 : TFact Tryd.prog 183 y183 := fact Tryd.t183 Value.nilFunc Tryd.underlying183 (by kernel_rfl) rfl rfl rfl rfl rfl rfl (by first | exact .inl rfl | exact .inr rfl)
theorem fact184 : TFact Tryd.prog 184 y184 := fact Tryd.t184 Value.nilFunc Tryd.underlying184 (by kernel_rfl) rfl rfl rfl rfl rfl rfl (by first | exact .inl rfl | exact .inr rfl)
theorem fact185 : TFact Tryd.prog 185 y185 := fact Tryd.t185 Value.nilFunc Tryd.underlying185 (by kernel_rfl) rfl rfl rfl rfl rfl rfl (by first | exact .inl rfl | exact .inr rfl)
theorem fact186 : TFact Tryd.prog 186 y186 := fact Tryd.t186 Value.nilFunc Tryd.underlying186 (by kernel_rfl) rfl rfl rfl rfl rfl rfl (by first | exact .inl rfl | exact .inr rfl)
theorem fact187 : TFact Tryd.prog 187 y187 := fact Tryd.t187 (Value.int IntKind.i64 0) Tryd.underlying187 (by kernel_rfl) rfl rfl rfl rfl rfl rfl (by first | exact .inl rfl | exact .inr rfl)
theorem fact188 : TFact Tryd.prog 188 y188 := fact Tryd.t188 Value.nilFunc Tryd.underlying188 (by kernel_rfl) rfl rfl rfl rfl rfl rfl (by first | exact .inl rfl | exact .inr rfl)
theorem fact189 : TFact Tryd.prog 189 y189 := fact Tryd.t189 Value.nilFunc Tryd.underlying189 (by kernel_rfl) rfl rfl rfl rfl rfl rfl (by first | exact .inl rfl | exact .inr rfl)
theorem fact190 : TFact Tryd.prog 190 y190 := fact Tryd.t190 (Value.pointer none) Tryd.underlying190 (by kernel_rfl) rfl rfl rfl rfl rfl rfl (by first | exact .inl rfl | exact .inr rfl)
theorem fact191 : TFact Tryd.prog 191 y191 := fact Tryd.t191 (Value.agg #[(Value.int IntKind.i64 0), (Value.int IntKind.i64 0), (Value.int IntKind.i64 0)]) Tryd.underlying191 (by kernel_rfl) rfl rfl rfl rfl rfl rfl (by first | exact .inl rfl | exact .inr rfl)
theorem fact192 : TFact Tryd.prog 192 y192 := fact Tryd.t192 (Value.agg #[(Value.slice none 0 0), (Value.slice none 0 0), (Value.int IntKind.i64 0), (Value.int IntKind.i64 0), (Value.slice none 0 0), (Value.slice none 0 0), (Value.slice none 0 0), (Value.slice none 0 0), (Value.int IntKind.i64 0), (Value.int IntKind.i64 0), (Value.int IntKind.i64 0), (Value.bool false), (Value.int IntKind.i64 0), (Value.int IntKind.i64 0), (Value.bool false), (Value.int IntKind.i64 0), (Value.int IntKind.i64 0), (Value.bool false), (Value.int IntKind.i64 0), (Value.int IntKind.i64 0), (Value.int IntKind.i64 0), (Value.int IntKind.i64 0), (Value.int IntKind.i64 0), (Value.int IntKind.i64 0)]) Tryd.underlying192 (by kernel_rfl) rfl rfl rfl rfl rfl rfl (by first | exact .inl rfl | exact .inr rfl)
theorem fact193 : TFact Tryd.prog 193 y193 := fact Tryd.t193 (Value.agg #[(Value.slice none 0 0), (Value.slice none 0 0), (Value.int IntKind.i64 0), (Value.int IntKind.i64 0), (Value.slice none 0 0), (Value.slice none 0 0), (Value.slice none 0 0), (Value.slice none 0 0), (Value.int IntKind.i64 0), (Value.int IntKind.i64 0), (Value.int IntKind.i64 0), (Value.bool false), (Value.int IntKind.i64 0), (Value.int IntKind.i64 0), (Value.bool false), (Value.int IntKind.i64 0), (Value.int IntKind.i64 0), (Value.bool false), (Value.int IntKind.i64 0), (Value.int IntKind.i64 0), (Value.int IntKind.i64 0), (Value.int IntKind.i64 0), (Value.int IntKind.i64 0), (Value.int IntKind.i64 0)]) Tryd.underlying193 (by kernel_rfl) rfl rfl rfl rfl rfl rfl (by first | exact .inl rfl | exact .inr rfl)
theorem fact195 : TFact Tryd.prog 195 y195 := fact Tryd.t195 Value.nilFunc Tryd.underlying195 (by kernel_rfl) rfl rfl rfl rfl rfl rfl (by first | exact .inl rfl | exact .inr rfl)
theorem fact196 : TFact Tryd.prog 196 y196 := fact Tryd.t196 Value.nilFunc Tryd.underlying196 (by kernel_rfl) rfl rfl rfl rfl rfl rfl (by first | exact .inl rfl | exact .inr rfl)
theorem fact197 : TFact Tryd.prog 197 y197 := fact Tryd.t197 Value.nilFunc Tryd.underlying197 (by kernel_rfl) rfl rfl rfl rfl rfl rfl (by first | exact .inl rfl | exact .inr rfl)
theorem fact198 : TFact Tryd.prog 198 y198 := fact Tryd.t198 Value.nilFunc Tryd.underlying198 (by kernel_rfl) rfl rfl rfl rfl rfl rfl (by first | exact .inl rfl | exact .inr rfl)
theorem fact199 : TFact Tryd.prog 199 y199 := fact Tryd.t199 Value.nilFunc Tryd.underlying199 (by kernel_rfl) rfl rfl rfl rfl rfl rfl (by first | exact .inl rfl | exact .inr rfl)
theorem fact200 : TFact Tryd.prog 200 y200 := fact Tryd.t200 (Value.slice none 0 0) Tryd.underlying200 (by kernel_rfl) rfl rfl rfl rfl rfl rfl (by first | exact .inl rfl | exact .inr rfl)
theorem fact201 : TFact Tryd.prog 201 y201 := fact Tryd.t201 (Value.agg #[(Value.slice none 0 0)]) Tryd.underlying201 (by kernel_rfl) rfl rfl rfl rfl rfl rfl (by first | exact .inl rfl | exact .inr rfl)
theorem fact202 : TFact Tryd.prog 202 y202 := fact Tryd.t202 (Value.agg #[(Value.slice none 0 0)]) Tryd.underlying202 (by kernel_rfl) rfl rfl rfl rfl rfl rfl (by first | exact .inl rfl | exact .inr rfl)
theorem fact204 : TFact Tryd.prog 204 y204 := fact Tryd.t204 Value.nilFunc Tryd.underlying204 (by kernel_rfl) rfl rfl rfl rfl rfl rfl (by first | exact .inl rfl | exact .inr rfl)
theorem fact205 : TFact Tryd.prog 205 y205 := fact Tryd.t205 Value.nilFunc Tryd.underlying205 (by kernel_rfl) rfl rfl rfl rfl rfl rfl (by first | exact .inl rfl | exact .inr rfl)
theorem fact206 : TFact Tryd.prog 206 y206 := fact Tryd.t206 (Value.agg #[(Value.string { data := #[] }), (Value.int IntKind.i64 0), (Value.int IntKind.i64 0)]) Tryd.underlying206 (by kernel_rfl) rfl rfl rfl rfl rfl rfl (by first | exact .inl rfl | exact .inr rfl)
theorem fact207 : TFact Tryd.prog 207 y207 := fact Tryd.t207 (Value.agg #[(Value.string { data := #[] }), (Value.int IntKind.i64 0), (Value.int IntKind.i64 0)]) Tryd.underlying207 (by kernel_rfl) rfl rfl rfl rfl rfl rfl (by first | exact .inl rfl | exact .inr rfl)
theorem fact208 : TFact Tryd.prog 208 y208 := fact Tryd.t208 Value.nilFunc Tryd.underlying208 (by kernel_rfl) rfl rfl rfl rfl rfl rfl (by first | exact .inl rfl | exact .inr rfl)
theorem fact209 : TFact Tryd.prog 209 y209 := fact Tryd.t209 Value.nilFunc Tryd.underlying209 (by kernel_rfl) rfl rfl rfl rfl rfl rfl (by first | exact .inl rfl | exact .inr rfl)
theorem fact210 : TFact Tryd.prog 210 y210 := fact Tryd.t210 (Value.pointer none) Tryd.underlying210 (by kernel_rfl) rfl rfl rfl rfl rfl rfl (by first | exact .inl rfl | exact .inr rfl)
theorem fact211 : TFact Tryd.prog 211 y211 := fact Tryd.t211 Value.nilFunc Tryd.underlying211 (by kernel_rfl) rfl rfl rfl rfl rfl rfl (by first | exact .inl rfl | exact .inr rfl)
theorem fact212 : TFact Tryd.prog 212 y212 := fact Tryd.t212 (Value.slice none 0 0) Tryd.underlying212 (by kernel_rfl) rfl rfl rfl rfl rfl rfl (by first | exact .inl rfl | exact .inr rfl)
theorem fact213 : TFact Tryd.prog 213 y213 := fact Tryd.t213 Value.nilFunc Tryd.underlying213 (by kernel_rfl) rfl rfl rfl rfl rfl rfl (by first | exact .inl rfl | exact .inr rfl)
theorem fact214 : TFact Tryd.prog 214 y214 := fact Tryd.t214 Value.nilFunc Tryd.underlying214 (by kernel_rfl) rfl rfl rfl rfl rfl rfl (by first | exact .inl rfl | exact .inr rfl)
theorem fact215 : TFact Tryd.prog 215 y215 := fact Tryd.t215 (Value.agg #[(Value.bool false), Value.nilFunc]) Tryd.underlying215 (by kernel_rfl) rfl rfl rfl rfl rfl rfl (by first | exact .inl rfl | exact .inr rfl)
theorem fact216 : TFact Tryd.prog 216 y216 := fact Tryd.t216 (Value.agg #[(Value.bool false), Value.nilFunc]) Tryd.underlying216 (by kernel_rfl) rfl rfl rfl rfl rfl rfl (by first | exact .inl rfl | exact .inr rfl)
theorem fact218 : TFact Tryd.prog 218 y218 := fact Tryd.t218 Value.nilFunc Tryd.underlying218 (by kernel_rfl) rfl rfl rfl rfl rfl rfl (by first | exact .inl rfl | exact .inr rfl)
theorem fact219 : TFact Tryd.prog 219 y219 := fact Tryd.t219 Value.nilFunc Tryd.underlying219 (by kernel_rfl) rfl rfl rfl rfl rfl rfl (by first | exact .inl rfl | exact .inr rfl)
theorem fact220 : TFact Tryd.prog 220 y220 := fact Tryd.t220 Value.nilFunc Tryd.underlying220 (by kernel_rfl) rfl rfl rfl rfl rfl rfl (by first | exact .inl rfl | exact .inr rfl)
theorem fact221 : TFact Tryd.prog 221 y221 := fact Tryd.t221 Value.nilFunc Tryd.underlying221 (by kernel_rfl) rfl rfl rfl rfl rfl rfl (by first | exact .inl rfl | exact .inr rfl)
theorem fact222 : TFact Tryd.prog 222 y222 := fact Tryd.t222 Value.nilFunc Tryd.underlying222 (by kernel_rfl) rfl rfl rfl rfl rfl rfl (by first | exact .inl rfl | exact .inr rfl)
theorem fact223 : TFact Tryd.prog 223 y223 := fact Tryd.t223 Value.nilFunc Tryd.underlying223 (by kernel_rfl) rfl rfl rfl rfl rfl rfl (by first | exact .inl rfl | exact .inr rfl)
theorem fact225 : TFact Tryd.prog 225 y225 := fact Tryd.t225 (Value.map none) Tryd.underlying225 (by kernel_rfl) rfl rfl rfl rfl rfl rfl (by first | exact .inl rfl | exact .inr rfl)
theorem fact226 : TFact Tryd.prog 226 y226 := fact Tryd.t226 Value.nilFunc Tryd.underlying226 (by kernel_rfl) rfl rfl rfl rfl rfl rfl (by first | exact .inl rfl | exact .inr rfl)
theorem fact227 : TFact Tryd.prog 227 y227 := fact Tryd.t227 Value.nilFunc Tryd.underlying227 (by kernel_rfl) rfl rfl rfl rfl rfl rfl (by first | exact .inl rfl | exact .inr rfl)
theorem fact228 : TFact Tryd.prog 228 y228 := fact Tryd.t228 Value.nilFunc Tryd.underlying228 (by kernel_rfl) rfl rfl rfl rfl rfl rfl (by first | exact .inl rfl | exact .inr rfl)
theorem fact229 : TFact Tryd.prog 229 y229 := fact Tryd.t229 (Value.bool false) Tryd.underlying229 (by kernel_rfl) rfl rfl rfl rfl rfl rfl (by first | exact .inl rfl | exact .inr rfl)
theorem fact231 : TFact Tryd.prog 231 y231 := fact Tryd.t231 Value.nilFunc Tryd.underlying231 (by kernel_rfl) rfl rfl rfl rfl rfl rfl (by first | exact .inl rfl | exact .inr rfl)
theorem fact233 : TFact Tryd.prog 233 y233 := fact Tryd.t233 Value.nilFunc Tryd.underlying233 (by kernel_rfl) rfl rfl rfl rfl rfl rfl (by first | exact .inl rfl | exact .inr rfl)
theorem fact234 : TFact Tryd.prog 234 y234 := fact Tryd.t234 Value.nilFunc Tryd.underlying234 (by kernel_rfl) rfl rfl rfl rfl rfl rfl (by first | exact .inl rfl | exact .inr rfl)
theorem fact235 : TFact Tryd.prog 235 y235 := fact Tryd.t235 Value.nilFunc Tryd.underlying235 (by kernel_rfl) rfl rfl rfl rfl rfl rfl (by first | exact .inl rfl | exact .inr rfl)
theorem fact236 : TFact Tryd.prog 236 y236 := fact Tryd.t236 Value.nilFunc Tryd.underlying236 (by kernel_rfl) rfl rfl rfl rfl rfl rfl (by first | exact .inl rfl | exact .inr rfl)
theorem fact237 : TFact Tryd.prog 237 y237 := fact Tryd.t237 Value.nilFunc Tryd.underlying237 (by kernel_rfl) rfl rfl rfl rfl rfl rfl (by first | exact .inl rfl | exact .inr rfl)
theorem fact238 : TFact Tryd.prog 238 y238 := fact Tryd.t238 Value.nilFunc Tryd.underlying238 (by kernel_rfl) rfl rfl rfl rfl rfl rfl (by first | exact .inl rfl | exact .inr rfl)
theorem fact239 : TFact Tryd.prog 239 y239 := fact Tryd.t239 Value.nilFunc Tryd.underlying239 (by kernel_rfl) rfl rfl rfl rfl rfl rfl (by first | exact .inl rfl | exact .inr rfl)
theorem fact240 : TFact Tryd.prog 240 y240 := fact Tryd.t240 Value.nilFunc Tryd.underlying240 (by kernel_rfl) rfl rfl rfl rfl rfl rfl (by first | exact .inl rfl | exact .inr rfl)
theorem fact241 : TFact Tryd.prog 241 y241 := fact Tryd.t241 Value.nilFunc Tryd.underlying241 (by kernel_rfl) rfl rfl rfl rfl rfl rfl (by first | exact .inl rfl | exact .inr rfl)
theorem fact242 : TFact Tryd.prog 242 y242 := fact Tryd.t242 Value.nilFunc Tryd.underlying242 (by kernel_rfl) rfl rfl rfl rfl rfl rfl (by first | exact .inl rfl | exact .inr rfl)
theorem fact243 : TFact Tryd.prog 243 y243 := fact Tryd.t243 Value.nilFunc Tryd.underlying243 (by kernel_rfl) rfl rfl rfl rfl rfl rfl (by first | exact .inl rfl | exact .inr rfl)
theorem fact244 : TFact Tryd.prog 244 y244 := fact Tryd.t244 Value.nilFunc Tryd.underlying244 (by kernel_rfl) rfl rfl rfl rfl rfl rfl (by first | exact .inl rfl | exact .inr rfl)
theorem fact245 : TFact Tryd.prog 245 y245 := fact Tryd.t245 Value.nilFunc Tryd.underlying245 (by kernel_rfl) rfl rfl rfl rfl rfl rfl (by first | exact .inl rfl | exact .inr rfl)
theorem fact246 : TFact Tryd.prog 246 y246 := fact Tryd.t246 (Value.agg #[(Value.slice none 0 0), (Value.int IntKind.i64 0), (Value.slice none 0 0), (Value.int IntKind.i64 0), (Value.int IntKind.i64 0)]) Tryd.underlying246 (by kernel_rfl) rfl rfl rfl rfl rfl rfl (by first | exact .inl rfl | exact .inr rfl)
theorem fact247 : TFact Tryd.prog 247 y247 := fact Tryd.t247 (Value.agg #[(Value.slice none 0 0), (Value.int IntKind.i64 0), (Value.slice none 0 0), (Value.int IntKind.i64 0), (Value.int IntKind.i64 0)]) Tryd.underlying247 (by kernel_rfl) rfl rfl rfl rfl rfl rfl (by first | exact .inl rfl | exact .inr rfl)
theorem fact248 : TFact Tryd.prog 248 y248 := fact Tryd.t248 Value.nilFunc Tryd.underlying248 (by kernel_rfl) rfl rfl rfl rfl rfl rfl (by first | exact .inl rfl | exact .inr rfl)
theorem fact249 : TFact Tryd.prog 249 y249 := fact Tryd.t249 Value.nilFunc Tryd.underlying249 (by kernel_rfl) rfl rfl rfl rfl rfl rfl (by first | exact .inl rfl | exact .inr rfl)
theorem fact250 : TFact Tryd.prog 250 y250 := fact Tryd.t250 Value.nilFunc Tryd.underlying250 (by kernel_rfl) rfl rfl rfl rfl rfl rfl (by first | exact .inl rfl | exact .inr rfl)
theorem fact251 : TFact Tryd.prog 251 y251 := fact Tryd.t251 Value.nilFunc Tryd.underlying251 (by kernel_rfl) rfl rfl rfl rfl rfl rfl (by first | exact .inl rfl | exact .inr rfl)
theorem fact252 : TFact Tryd.prog 252 y252 := fact Tryd.t252 Value.nilFunc Tryd.underlying252 (by kernel_rfl) rfl rfl rfl rfl rfl rfl (by first | exact .inl rfl | exact .inr rfl)
theorem fact253 : TFact Tryd.prog 253 y253 := fact Tryd.t253 (Value.map none) Tryd.underlying253 (by kernel_rfl) rfl rfl rfl rfl rfl rfl (by first | exact .inl rfl | exact .inr rfl)
theorem fact254 : TFact Tryd.prog 254 y254 := fact Tryd.t254 Value.nilFunc Tryd.underlying254 (by kernel_rfl) rfl rfl rfl rfl rfl rfl (by first | exact .inl rfl | exact .inr rfl)
theorem fact255 : TFact Tryd.prog 255 y255 := fact Tryd.t255 (Value.bool false) Tryd.underlying255 (by kernel_rfl) rfl rfl rfl rfl rfl rfl (by first | exact .inl rfl | exact .inr rfl)
theorem fact257 : TFact Tryd.prog 257 y257 := fact Tryd.t257 Value.nilIface Tryd.underlying257 (by kernel_rfl) rfl rfl rfl rfl rfl rfl (by first | exact .inl rfl | exact .inr rfl)
theorem fact258 : TFact Tryd.prog 258 y258 := fact Tryd.t258 Value.nilIface Tryd.underlying258 (by kernel_rfl) rfl rfl rfl rfl rfl rfl (by first | exact .inl rfl | exact .inr rfl)
theorem fact259 : TFact Tryd.prog 259 y259 := fact Tryd.t259 (Value.pointer none) Tryd.underlying259 (by kernel_rfl) rfl rfl rfl rfl rfl rfl (by first | exact .inl rfl | exact .inr rfl)
theorem fact260 : TFact Tryd.prog 260 y260 := fact Tryd.t260 (Value.slice none 0 0) Tryd.underlying260 (by kernel_rfl) rfl rfl rfl rfl rfl rfl (by first | exact .inl rfl | exact .inr rfl)
theorem fact261 : TFact Tryd.prog 261 y261 := fact Tryd.t261 (Value.agg #[(Value.slice none 0 0), (Value.slice none 0 0), (Value.slice none 0 0), (Value.slice none 0 0)]) Tryd.underlying261 (by kernel_rfl) rfl rfl rfl rfl rfl rfl (by first | exact .inl rfl | exact .inr rfl)
theorem fact262 : TFact Tryd.prog 262 y262 := fact Tryd.t262 (Value.agg #[(Value.slice none 0 0), (Value.slice none 0 0), (Value.slice none 0 0), (Value.slice none 0 0)]) Tryd.underlying262 (by kernel_rfl) rfl rfl rfl rfl rfl rfl (by first | exact .inl rfl | exact .inr rfl)
theorem fact263 : TFact Tryd.prog 263 y263 := fact Tryd.t263 Value.nilFunc Tryd.underlying263 (by kernel_rfl) rfl rfl rfl rfl rfl rfl (by first | exact .inl rfl | exact .inr rfl)
theorem fact264 : TFact Tryd.prog 264 y264 := fact Tryd.t264 (Value.int IntKind.i64 0) Tryd.underlying264 (by kernel_rfl) rfl rfl rfl rfl rfl rfl (by first | exact .inl rfl | exact .inr rfl)
theorem fact266 : TFact Tryd.prog 266 y266 := fact Tryd.t266 Value.nilFunc Tryd.underlying266 (by kernel_rfl) rfl rfl rfl rfl rfl rfl (by first | exact .inl rfl | exact .inr rfl)
theorem fact267 : TFact Tryd.prog 267 y267 := fact Tryd.t267 Value.nilFunc Tryd.underlying267 (by kernel_rfl) rfl rfl rfl rfl rfl rfl (by first | exact .inl rfl | exact .inr rfl)
theorem fact268 : TFact Tryd.prog 268 y268 := fact Tryd.t268 Value.nilFunc Tryd.underlying268 (by kernel_rfl) rfl rfl rfl rfl rfl rfl (by first | exact .inl rfl | exact .inr rfl)
theorem fact269 : TFact Tryd.prog 269 y269 := fact Tryd.t269 Value.nilFunc Tryd.underlying269 (by kernel_rfl) rfl rfl rfl rfl rfl rfl (by first | exact .inl rfl | exact .inr rfl)
theorem fact270 : TFact Tryd.prog 270 y270 := fact Tryd.t270 (Value.pointer none) Tryd.underlying270 (by kernel_rfl) rfl rfl rfl rfl rfl rfl (by first | exact .inl rfl | exact .inr rfl)
theorem fact271 : TFact Tryd.prog 271 y271 := fact Tryd.t271 Value.nilFunc Tryd.underlying271 (by kernel_rfl) rfl rfl rfl rfl rfl rfl (by first | exact .inl rfl | exact .inr rfl)
theorem fact272 : TFact Tryd.prog 272 y272 := fact Tryd.t272 (Value.pointer none) Tryd.underlying272 (by kernel_rfl) rfl rfl rfl rfl rfl rfl (by first | exact .inl rfl | exact .inr rfl)
theorem fact273 : TFact Tryd.prog 273 y273 := fact Tryd.t273 (Value.pointer none) Tryd.underlying273 (by kernel_rfl) rfl rfl rfl rfl rfl rfl (by first | exact .inl rfl | exact .inr rfl)
theorem fact274 : TFact Tryd.prog 274 y274 := fact Tryd.t274 (Value.agg #[(Value.slice none 0 0), (Value.int IntKind.i64 0), (Value.slice none 0 0), (Value.int IntKind.i64 0), (Value.int IntKind.i64 0)]) Tryd.underlying274 (by kernel_rfl) rfl rfl rfl rfl rfl rfl (by first | exact .inl rfl | exact .inr rfl)
theorem fact275 : TFact Tryd.prog 275 y275 := fact Tryd.t275 (Value.agg #[(Value.slice none 0 0), (Value.int IntKind.i64 0), (Value.slice none 0 0), (Value.int IntKind.i64 0), (Value.int IntKind.i64 0)]) Tryd.underlying275 (by kernel_rfl) rfl rfl rfl rfl rfl rfl (by first | exact .inl rfl | exact .inr rfl)
theorem fact276 : TFact Tryd.prog 276 y276 := fact Tryd.t276 Value.nilFunc Tryd.underlying276 (by kernel_rfl) rfl rfl rfl rfl rfl rfl (by first | exact .inl rfl | exact .inr rfl)
theorem fact277 : TFact Tryd.prog 277 y277 := fact Tryd.t277 Value.nilFunc Tryd.underlying277 (by kernel_rfl) rfl rfl rfl rfl rfl rfl (by first | exact .inl rfl | exact .inr rfl)
theorem fact278 : TFact Tryd.prog 278 y278 := fact Tryd.t278 Value.nilFunc Tryd.underlying278 (by kernel_rfl) rfl rfl rfl rfl rfl rfl (by first | exact .inl rfl | exact .inr rfl)
theorem fact279 : TFact Tryd.prog 279 y279 := fact Tryd.t279 (Value.slice none 0 0) Tryd.underlying279 (by kernel_rfl) rfl rfl rfl rfl rfl rfl (by first | exact .inl rfl | exact .inr rfl)
theorem fact280 : TFact Tryd.prog 280 y280 := fact Tryd.t280 Value.nilFunc Tryd.underlying280 (by kernel_rfl) rfl rfl rfl rfl rfl rfl (by first | exact .inl rfl | exact .inr rfl)
theorem fact281 : TFact Tryd.prog 281 y281 := fact Tryd.t281 Value.nilFunc Tryd.underlying281 (by kernel_rfl) rfl rfl rfl rfl rfl rfl (by first | exact .inl rfl | exact .inr rfl)
theorem fact282 : TFact Tryd.prog 282 y282 := fact Tryd.t282 Value.nilFunc Tryd.underlying282 (by kernel_rfl) rfl rfl rfl rfl rfl rfl (by first | exact .inl rfl | exact .inr rfl)
theorem fact283 : TFact Tryd.prog 283 y283 := fact Tryd.t283 Value.nilFunc Tryd.underlying283 (by kernel_rfl) rfl rfl rfl rfl rfl rfl (by first | exact .inl rfl | exact .inr rfl)
theorem fact284 : TFact Tryd.prog 284 y284 := fact Tryd.t284 (Value.int IntKind.u64 0) Tryd.underlying284 (by kernel_rfl) rfl rfl rfl rfl rfl rfl (by first | exact .inl rfl | exact .inr rfl)
theorem fact285 : TFact Tryd.prog 285 y285 := fact Tryd.t285 Value.nilFunc Tryd.underlying285 (by kernel_rfl) rfl rfl rfl rfl rfl rfl (by first | exact .inl rfl | exact .inr rfl)
theorem fact286 : TFact Tryd.prog 286 y286 := fact Tryd.t286 Value.nilFunc Tryd.underlying286 (by kernel_rfl) rfl rfl rfl rfl rfl rfl (by first | exact .inl rfl | exact .inr rfl)
theorem fact287 : TFact Tryd.prog 287 y287 := fact Tryd.t287 Value.nilFunc Tryd.underlying287 (by kernel_rfl) rfl rfl rfl rfl rfl rfl (by first | exact .inl rfl | exact .inr rfl)
theorem fact289 : TFact Tryd.prog 289 y289 := fact Tryd.t289 Value.nilFunc Tryd.underlying289 (by kernel_rfl) rfl rfl rfl rfl rfl rfl (by first | exact .inl rfl | exact .inr rfl)
theorem fact290 : TFact Tryd.prog 290 y290 := fact Tryd.t290 Value.nilFunc Tryd.underlying290 (by kernel_rfl) rfl rfl rfl rfl rfl rfl (by first | exact .inl rfl | exact .inr rfl)
theorem fact291 : TFact Tryd.prog 291 y291 := fact Tryd.t291 (Value.slice none 0 0) Tryd.underlying291 (by kernel_rfl) rfl rfl rfl rfl rfl rfl (by first | exact .inl rfl | exact .inr rfl)
theorem fact292 : TFact Tryd.prog 292 y292 := fact Tryd.t292 Value.nilFunc Tryd.underlying292 (by kernel_rfl) rfl rfl rfl rfl rfl rfl (by first | exact .inl rfl | exact .inr rfl)
theorem fact293 : TFact Tryd.prog 293 y293 := fact Tryd.t293 Value.nilFunc Tryd.underlying293 (by kernel_rfl) rfl rfl rfl rfl rfl rfl (by first | exact .inl rfl | exact .inr rfl)
theorem fact294 : TFact Tryd.prog 294 y294 := fact Tryd.t294 Value.nilFunc Tryd.underlying294 (by kernel_rfl) rfl rfl rfl rfl rfl rfl (by first | exact .inl rfl | exact .inr rfl)
theorem fact295 : TFact Tryd.prog 295 y295 := fact Tryd.t295 Value.nilFunc Tryd.underlying295 (by kernel_rfl) rfl rfl rfl rfl rfl rfl (by first | exact .inl rfl | exact .inr rfl)
theorem fact296 : TFact Tryd.prog 296 y296 := fact Tryd.t296 Value.nilFunc Tryd.underlying296 (by kernel_rfl) rfl rfl rfl rfl rfl rfl (by first | exact .inl rfl | exact .inr rfl)
theorem fact297 : TFact Tryd.prog 297 y297 := fact Tryd.t297 Value.nilFunc Tryd.underlying297 (by kernel_rfl) rfl rfl rfl rfl rfl rfl (by first | exact .inl rfl | exact .inr rfl)
theorem fact298 : TFact Tryd.prog 298 y298 := fact Tryd.t298 Value.nilFunc Tryd.underlying298 (by kernel_rfl) rfl rfl rfl rfl rfl rfl (by first | exact .inl rfl | exact .inr rfl)
theorem fact300 : TFact Tryd.prog 300 y300 := fact Tryd.t300 Value.nilFunc Tryd.underlying300 (by kernel_rfl) rfl rfl rfl rfl rfl rfl (by first | exact .inl rfl | exact .inr rfl)
theorem fact301 : TFact Tryd.prog 301 y301 := fact Tryd.t301 Value.nilFunc Tryd.underlying301 (by kernel_rfl) rfl rfl rfl rfl rfl rfl (by first | exact .inl rfl | exact .inr rfl)
theorem fact302 : TFact Tryd.prog 302 y302 := fact Tryd.t302 Value.nilFunc Tryd.underlying302 (by kernel_rfl) rfl rfl rfl rfl rfl rfl (by first | exact .inl rfl | exact .inr rfl)
theorem fact303 : TFact Tryd.prog 303 y303 := fact Tryd.t303 Value.nilFunc Tryd.underlying303 (by kernel_rfl) rfl rfl rfl rfl rfl rfl (by first | exact .inl rfl | exact .inr rfl)
theorem fact304 : TFact Tryd.prog 304 y304 := fact Tryd.t304 Value.nilFunc Tryd.underlying304 (by kernel_rfl) rfl rfl rfl rfl rfl rfl (by first | exact .inl rfl | exact .inr rfl)
theorem fact305 : TFact Tryd.prog 305 y305 := fact Tryd.t305 (Value.agg #[(Value.int IntKind.u8 0), (Value.int IntKind.u8 0), (Value.int IntKind.u8 0), (Value.int IntKind.u8 0), (Value.int IntKind.u8 0), (Value.int IntKind.u8 0), (Value.int IntKind.u8 0), (Value.int IntKind.u8 0), (Value.int IntKind.u8 0), (Value.int IntKind.u8 0), (Value.int IntKind.u8 0), (Value.int IntKind.u8 0), (Value.int IntKind.u8 0), (Value.int IntKind.u8 0), (Value.int IntKind.u8 0), (Value.int IntKind.u8 0), (Value.int IntKind.u8 0), (Value.int IntKind.u8 0), (Value.int IntKind.u8 0), (Value.int IntKind.u8 0), (Value.int IntKind.u8 0), (Value.int IntKind.u8 0), (Value.int IntKind.u8 0), (Value.int IntKind.u8 0)]) Tryd.underlying305 (by kernel_rfl) rfl rfl rfl rfl rfl rfl (by first | exact .inl rfl | exact .inr rfl)
theorem fact306 : TFact Tryd.prog 306 y306 := fact Tryd.t306 (Value.int IntKind.u64 0) Tryd.underlying306 (by kernel_rfl) rfl rfl rfl rfl rfl rfl (by first | exact .inl rfl | exact .inr rfl)
theorem fact307 : TFact Tryd.prog 307 y307 := fact Tryd.t307 Value.nilFunc Tryd.underlying307 (by kernel_rfl) rfl rfl rfl rfl rfl rfl (by first | exact .inl rfl | exact .inr rfl)
theorem fact308 : TFact Tryd.prog 308 y308 := fact Tryd.t308 Value.nilFunc Tryd.underlying308 (by kernel_rfl) rfl rfl rfl rfl rfl rfl (by first | exact .inl rfl | exact .inr rfl)
theorem fact310 : TFact Tryd.prog 310 y310 := fact Tryd.t310 Value.nilFunc Tryd.underlying310 (by kernel_rfl) rfl rfl rfl rfl rfl rfl (by first | exact .inl rfl | exact .inr rfl)
theorem fact311 : TFact Tryd.prog 311 y311 := fact Tryd.t311 Value.nilFunc Tryd.underlying311 (by kernel_rfl) rfl rfl rfl rfl rfl rfl (by first | exact .inl rfl | exact .inr rfl)
theorem fact312 : TFact Tryd.prog 312 y312 := fact Tryd.t312 Value.nilFunc Tryd.underlying312 (by kernel_rfl) rfl rfl rfl rfl rfl rfl (by first | exact .inl rfl | exact .inr rfl)
theorem fact314 : TFact Tryd.prog 314 y314 := fact Tryd.t314 (Value.map none) Tryd.underlying314 (by kernel_rfl) rfl rfl rfl rfl rfl rfl (by first | exact .inl rfl | exact .inr rfl)
theorem fact315 : TFact Tryd.prog 315 y315 := fact Tryd.t315 Value.nilFunc Tryd.underlying315 (by kernel_rfl) rfl rfl rfl rfl rfl rfl (by first | exact .inl rfl | exact .inr rfl)
theorem fact316 : TFact Tryd.prog 316 y316 := fact Tryd.t316 Value.nilFunc Tryd.underlying316 (by kernel_rfl) rfl rfl rfl rfl rfl rfl (by first | exact .inl rfl | exact .inr rfl)
theorem fact317 : TFact Tryd.prog 317 y317 := fact Tryd.t317 Value.nilFunc Tryd.underlying317 (by kernel_rfl) rfl rfl rfl rfl rfl rfl (by first | exact .inl rfl | exact .inr rfl)
theorem fact318 : TFact Tryd.prog 318 y318 := fact Tryd.t318 (Value.agg #[(Value.int IntKind.u64 0), (Value.int IntKind.u64 0), (Value.int IntKind.u64 0), (Value.int IntKind.u64 0), (Value.int IntKind.u64 0), (Value.int IntKind.u64 0), (Value.int IntKind.u64 0), (Value.int IntKind.u64 0), (Value.int IntKind.u64 0), (Value.int IntKind.u64 0), (Value.int IntKind.u64 0), (Value.int IntKind.u64 0), (Value.int IntKind.u64 0), (Value.int IntKind.u64 0), (Value.int IntKind.u64 0), (Value.int IntKind.u64 0), (Value.int IntKind.u64 0), (Value.int IntKind.u64 0), (Value.int IntKind.u64 0), (Value.int IntKind.u64 0)]) Tryd.underlying318 (by kernel_rfl) rfl rfl rfl rfl rfl rfl (by first | exact .inl rfl | exact .inr rfl)
theorem fact319 : TFact Tryd.prog 319 y319 := fact Tryd.t319 (Value.agg #[(Value.int IntKind.u8 0), (Value.int IntKind.u8 0), (Value.int IntKind.u8 0), (Value.int IntKind.u8 0), (Value.int IntKind.u8 0), (Value.int IntKind.u8 0), (Value.int IntKind.u8 0), (Value.int IntKind.u8 0), (Value.int IntKind.u8 0), (Value.int IntKind.u8 0), (Value.int IntKind.u8 0), (Value.int IntKind.u8 0), (Value.int IntKind.u8 0), (Value.int IntKind.u8 0), (Value.int IntKind.u8 0), (Value.int IntKind.u8 0), (Value.int IntKind.u8 0), (Value.int IntKind.u8 0), (Value.int IntKind.u8 0), (Value.int IntKind.u8 0), (Value.int IntKind.u8 0), (Value.int IntKind.u8 0), (Value.int IntKind.u8 0), (Value.int IntKind.u8 0), (Value.int IntKind.u8 0), (Value.int IntKind.u8 0), (Value.int IntKind.u8 0), (Value.int IntKind.u8 0), (Value.int IntKind.u8 0), (Value.int IntKind.u8 0), (Value.int IntKind.u8 0), (Value.int IntKind.u8 0), (Value.int IntKind.u8 0), (Value.int IntKind.u8 0), (Value.int IntKind.u8 0), (Value.int IntKind.u8 0), (Value.int IntKind.u8 0), (Value.int IntKind.u8 0), (Value.int IntKind.u8 0), (Value.int IntKind.u8 0), (Value.int IntKind.u8 0), (Value.int IntKind.u8 0), (Value.int IntKind.u8 0), (Value.int IntKind.u8 0), (Value.int IntKind.u8 0), (Value.int IntKind.u8 0), (Value.int IntKind.u8 0), (Value.int IntKind.u8 0), (Value.int IntKind.u8 0), (Value.int IntKind.u8 0), (Value.int IntKind.u8 0), (Value.int IntKind.u8 0), (Value.int IntKind.u8 0), (Value.int IntKind.u8 0), (Value.int IntKind.u8 0), (Value.int IntKind.u8 0), (Value.int IntKind.u8 0), (Value.int IntKind.u8 0), (Value.int IntKind.u8 0), (Value.int IntKind.u8 0), (Value.int IntKind.u8 0), (Value.int IntKind.u8 0), (Value.int IntKind.u8 0), (Value.int IntKind.u8 0), (Value.int IntKind.u8 0)]) Tryd.underlying319 (by kernel_rfl) rfl rfl rfl rfl rfl rfl (by first | exact .inl rfl | exact .inr rfl)
theorem fact320 : TFact Tryd.prog 320 y320 := fact Tryd.t320 Value.nilFunc Tryd.underlying320 (by kernel_rfl) rfl rfl rfl rfl rfl rfl (by first | exact .inl rfl | exact .inr rfl)
theorem fact321 : TFact Tryd.prog 321 y321 := fact Tryd.t321 Value.nilFunc Tryd.underlying321 (by kernel_rfl) rfl rfl rfl rfl rfl rfl (by first | exact .inl rfl | exact .inr rfl)
theorem fact322 : TFact Tryd.prog 322 y322 := fact Tryd.t322 Value.nilFunc Tryd.underlying322 (by kernel_rfl) rfl rfl rfl rfl rfl rfl (by first | exact .inl rfl | exact .inr rfl)
theorem fact323 : TFact Tryd.prog 323 y323 := fact Tryd.t323 (Value.agg #[(Value.int IntKind.u8 0), (Value.int IntKind.u8 0), (Value.int IntKind.u8 0), (Value.int IntKind.u8 0), (Value.int IntKind.u8 0), (Value.int IntKind.u8 0), (Value.int IntKind.u8 0), (Value.int IntKind.u8 0), (Value.int IntKind.u8 0), (Value.int IntKind.u8 0), (Value.int IntKind.u8 0), (Value.int IntKind.u8 0), (Value.int IntKind.u8 0), (Value.int IntKind.u8 0), (Value.int IntKind.u8 0), (Value.int IntKind.u8 0), (Value.int IntKind.u8 0), (Value.int IntKind.u8 0), (Value.int IntKind.u8 0), (Value.int IntKind.u8 0), (Value.int IntKind.u8 0), (Value.int IntKind.u8 0), (Value.int IntKind.u8 0), (Value.int IntKind.u8 0), (Value.int IntKind.u8 0), (Value.int IntKind.u8 0), (Value.int IntKind.u8 0), (Value.int IntKind.u8 0), (Value.int IntKind.u8 0), (Value.int IntKind.u8 0), (Value.int IntKind.u8 0), (Value.int IntKind.u8 0)]) Tryd.underlying323 (by kernel_rfl) rfl rfl rfl rfl rfl rfl (by first | exact .inl rfl | exact .inr rfl)
theorem fact325 : TFact Tryd.prog 325 y325 := fact Tryd.t325 (Value.agg #[(Value.pointer none), (Value.pointer none), (Value.pointer none), (Value.string { data := #[] })]) Tryd.underlying325 (by kernel_rfl) rfl rfl rfl rfl rfl rfl (by first | exact .inl rfl | exact .inr rfl)
theorem fact326 : TFact Tryd.prog 326 y326 := fact Tryd.t326 (Value.agg #[(Value.pointer none), (Value.pointer none), (Value.pointer none), (Value.string { data := #[] })]) Tryd.underlying326 (by kernel_rfl) rfl rfl rfl rfl rfl rfl (by first | exact .inl rfl | exact .inr rfl)
theorem fact327 : TFact Tryd.prog 327 y327 := fact Tryd.t327 (Value.agg #[]) Tryd.underlying327 (by kernel_rfl) rfl rfl rfl rfl rfl rfl (by first | exact .inl rfl | exact .inr rfl)
theorem fact328 : TFact Tryd.prog 328 y328 := fact Tryd.t328 (Value.agg #[]) Tryd.underlying328 (by kernel_rfl) rfl rfl rfl rfl rfl rfl (by first | exact .inl rfl | exact .inr rfl)
theorem fact329 : TFact Tryd.prog 329 y329 := fact Tryd.t329 (Value.agg #[]) Tryd.underlying329 (by kernel_rfl) rfl rfl rfl rfl rfl rfl (by first | exact .inl rfl | exact .inr rfl)
theorem fact330 : TFact Tryd.prog 330 y330 := fact Tryd.t330 (Value.int IntKind.u8 0) Tryd.underlying330 (by kernel_rfl) rfl rfl rfl rfl rfl rfl (by first | exact .inl rfl | exact .inr rfl)
theorem fact331 : TFact Tryd.prog 331 y331 := fact Tryd.t331 (Value.int IntKind.u8 0) Tryd.underlying331 (by kernel_rfl) rfl rfl rfl rfl rfl rfl (by first | exact .inl rfl | exact .inr rfl)
theorem fact332 : TFact Tryd.prog 332 y332 := fact Tryd.t332 Value.nilFunc Tryd.underlying332 (by kernel_rfl) rfl rfl rfl rfl rfl rfl (by first | exact .inl rfl | exact .inr rfl)
theorem fact333 : TFact Tryd.prog 333 y333 := fact Tryd.t333 (Value.int IntKind.i32 0) Tryd.underlying333 (by kernel_rfl) rfl rfl rfl rfl rfl rfl (by first | exact .inl rfl | exact .inr rfl)
theorem fact334 : TFact Tryd.prog 334 y334 := fact Tryd.t334 (Value.int IntKind.i32 0) Tryd.underlying334 (by kernel_rfl) rfl rfl rfl rfl rfl rfl (by first | exact .inl rfl | exact .inr rfl)
theorem fact335 : TFact Tryd.prog 335 y335 := fact Tryd.t335 (Value.agg #[(Value.int IntKind.u64 0), (Value.int IntKind.u64 0), (Value.int IntKind.u32 0), (Value.int IntKind.u8 0), (Value.int IntKind.u8 0), (Value.int IntKind.u8 0), (Value.int IntKind.u8 0), Value.nilFunc, (Value.pointer none), (Value.int IntKind.i32 0), (Value.int IntKind.i32 0)]) Tryd.underlying335 (by kernel_rfl) rfl rfl rfl rfl rfl rfl (by first | exact .inl rfl | exact .inr rfl)
theorem fact336 : TFact Tryd.prog 336 y336 := fact Tryd.t336 (Value.agg #[(Value.int IntKind.u64 0), (Value.int IntKind.u64 0), (Value.int IntKind.u32 0), (Value.int IntKind.u8 0), (Value.int IntKind.u8 0), (Value.int IntKind.u8 0), (Value.int IntKind.u8 0), Value.nilFunc, (Value.pointer none), (Value.int IntKind.i32 0), (Value.int IntKind.i32 0)]) Tryd.underlying336 (by kernel_rfl) rfl rfl rfl rfl rfl rfl (by first | exact .inl rfl | exact .inr rfl)
noncomputable def tys : Tree TY := (.node 168 y168 (.node 85 y85 (.node 42 y42 (.node 20 y20 (.node 10 y10 (.node 5 y5 (.node 3 y3 (.node 2 y2 (.node 1 y1 .leaf .leaf) .leaf) (.node 4 y4 .leaf .leaf)) (.node 8 y8 (.node 7 y7 (.node 6 y6 .leaf .leaf) .leaf) (.node 9 y9 .leaf .leaf))) (.node 15 y15 (.node 13 y13 (.node 12 y12 (.node 11 y11 .leaf .leaf) .leaf) (.node 14 y14 .leaf .leaf)) (.node 18 y18 (.node 17 y17 (.node 16 y16 .leaf .leaf) .leaf) (.node 19 y19 .leaf .leaf)))) (.node 32 y32 (.node 25 y25 (.node 23 y23 (.node 22 y22 (.node 21 y21 .leaf .leaf) .leaf) (.node 24 y24 .leaf .leaf)) (.node 29 y29 (.node 27 y27 (.node 26 y26 .leaf .leaf) .leaf) (.node 30 y30 .leaf .leaf))) (.node 37 y37 (.node 35 y35 (.node 34 y34 (.node 33 y33 .leaf .leaf) .leaf) (.node 36 y36 .leaf .leaf)) (.node 39 y39 (.node 38 y38 .leaf .leaf) (.node 40 y40 .leaf .leaf))))) (.node 63 y63 (.node 53 y53 (.node 47 y47 (.node 45 y45 (.node 44 y44 (.node 43 y43 .leaf .leaf) .leaf) (.node 46 y46 .leaf .leaf)) (.node 51 y51 (.node 50 y50 (.node 49 y49 .leaf .leaf) .leaf) (.node 52 y52 .leaf .leaf))) (.node 58 y58 (.node 56 y56 (.node 55 y55 (.node 54 y54 .leaf .leaf) .leaf) (.node 57 y57 .leaf .leaf)) (.node 61 y61 (.node 60 y60 (.node 59 y59 .leaf .leaf) .leaf) (.node 62 y62 .leaf .leaf)))) (.node 74 y74 (.node 69 y69 (.node 67 y67 (.node 65 y65 (.node 64 y64 .leaf .leaf) .leaf) (.node 68 y68 .leaf .leaf)) (.node 72 y72 (.node 71 y71 (.node 70 y70 .leaf .leaf) .leaf) (.node 73 y73 .leaf .leaf))) (.node 79 y79 (.node 77 y77 (.node 76 y76 (.node 75 y75 .leaf .leaf) .leaf) (.node 78 y78 .leaf .leaf)) (.node 82 y82 (.node 81 y81 .leaf .leaf) (.node 84 y84 .leaf .leaf)))))) (.node 127 y127 (.node 107 y107 (.node 96 y96 (.node 91 y91 (.node 89 y89 (.node 88 y88 (.node 86 y86 .leaf .leaf) .leaf) (.node 90 y90 .leaf .leaf)) (.node 94 y94 (.node 93 y93 (.node 92 y92 .leaf .leaf) .leaf) (.node 95 y95 .leaf .leaf))) (.node 102 y102 (.node 99 y99 (.node 98 y98 (.node 97 y97 .leaf .leaf) .leaf) (.node 100 y100 .leaf .leaf)) (.node 105 y105 (.node 104 y104 (.node 103 y103 .leaf .leaf) .leaf) (.node 106 y106 .leaf .leaf)))) (.node 117 y117 (.node 112 y112 (.node 110 y110 (.node 109 y109 (.node 108 y108 .leaf .leaf) .leaf) (.node 111 y111 .leaf .leaf)) (.node 115 y115 (.node 114 y114 (.node 113 y113 .leaf .leaf) .leaf) (.node 116 y116 .leaf .leaf))) (.node 122 y122 (.node 120 y120 (.node 119 y119 (.node 118 y118 .leaf .leaf) .leaf) (.node 121 y121 .leaf .leaf)) (.node 124 y124 (.node 123 y123 .leaf .leaf) (.node 125 y125 .leaf .leaf))))) (.node 148 y148 (.node 137 y137 (.node 132 y132 (.node 130 y130 (.node 129 y129 (.node 128 y128 .leaf .leaf) .leaf) (.node 131 y131 .leaf .leaf)) (.node 135 y135 (.node 134 y134 (.node 133 y133 .leaf .leaf) .leaf) (.node 136 y136 .leaf .leaf))) (.node 143 y143 (.node 140 y140 (.node 139 y139 (.node 138 y138 .leaf .leaf) .leaf) (.node 142 y142 .leaf .leaf)) (.node 146 y146 (.node 145 y145 (.node 144 y144 .leaf .leaf) .leaf) (.node 147 y147 .leaf .leaf)))) (.node 159 y159 (.node 154 y154 (.node 151 y151 (.node 150 y150 (.node 149 y149 .leaf .leaf) .leaf) (.node 153 y153 .leaf .leaf)) (.node 157 y157 (.node 156 y156 (.node 155 y155 .leaf .leaf) .leaf) (.node 158 y158 .leaf .leaf))) (.node 164 y164 (.node 162 y162 (.node 161 y161 (.node 160 y160 .leaf .leaf) .leaf) (.node 163 y163 .leaf .leaf)) (.node 166 y166 (.node 165 y165 .leaf .leaf) (.node 167 y167 .leaf .leaf))))))) (.node 252 y252 (.node 209 y209 (.node 188 y188 (.node 178 y178 (.node 173 y173 (.node 171 y171 (.node 170 y170 (.node 169 y169 .leaf .leaf) .leaf) (.node 172 y172 .leaf .leaf)) (.node 176 y176 (.node 175 y175 (.node 174 y174 .leaf .leaf) .leaf) (.node 177 y177 .leaf .leaf))) (.node 183 y183 (.node 181 y181 (.node 180 y180 (.node 179 y179 .leaf .leaf) .leaf) (.node 182 y182 .leaf .leaf)) (.node 186 y186 (.node 185 y185 (.node 184 y184 .leaf .leaf) .leaf) (.node 187 y187 .leaf .leaf)))) (.node 199 y199 (.node 193 y193 (.node 191 y191 (.node 190 y190 (.node 189 y189 .leaf .leaf) .leaf) (.node 192 y192 .leaf .leaf)) (.node 197 y197 (.node 196 y196 (.node 195 y195 .leaf .leaf) .leaf) (.node 198 y198 .leaf .leaf))) (.node 205 y205 (.node 202 y202 (.node 201 y201 (.node 200 y200 .leaf .leaf) .leaf) (.node 204 y204 .leaf .leaf)) (.node 207 y207 (.node 206 y206 .leaf .leaf) (.node 208 y208 .leaf .leaf))))) (.node 233 y233 (.node 220 y220 (.node 214 y214 (.node 212 y212 (.node 211 y211 (.node 210 y210 .leaf .leaf) .leaf) (.node 213 y213 .leaf .leaf)) (.node 218 y218 (.node 216 y216 (.node 215 y215 .leaf .leaf) .leaf) (.node 219 y219 .leaf .leaf))) (.node 226 y226 (.node 223 y223 (.node 222 y222 (.node 221 y221 .leaf .leaf) .leaf) (.node 225 y225 .leaf .leaf)) (.node 229 y229 (.node 228 y228 (.node 227 y227 .leaf .leaf) .leaf) (.node 231 y231 .leaf .leaf)))) (.node 243 y243 (.node 238 y238 (.node 236 y236 (.node 235 y235 (.node 234 y234 .leaf .leaf) .leaf) (.node 237 y237 .leaf .leaf)) (.node 241 y241 (.node 240 y240 (.node 239 y239 .leaf .leaf) .leaf) (.node 242 y242 .leaf .leaf))) (.node 248 y248 (.node 246 y246 (.node 245 y245 (.node 244 y244 .leaf .leaf) .leaf) (.node 247 y247 .leaf .leaf)) (.node 250 y250 (.node 249 y249 .leaf .leaf) (.node 251 y251 .leaf .leaf)))))) (.node 294 y294 (.node 274 y274 (.node 263 y263 (.node 258 y258 (.node 255 y255 (.node 254 y254 (.node 253 y253 .leaf .leaf) .leaf) (.node 257 y257 .leaf .leaf)) (.node 261 y261 (.node 260 y260 (.node 259 y259 .leaf .leaf) .leaf) (.node 262 y262 .leaf .leaf))) (.node 269 y269 (.node 267 y267 (.node 266 y266 (.node 264 y264 .leaf .leaf) .leaf) (.node 268 y268 .leaf .leaf)) (.node 272 y272 (.node 271 y271 (.node 270 y270 .leaf .leaf) .leaf) (.node 273 y273 .leaf .leaf)))) (.node 284 y284 (.node 279 y279 (.node 277 y277 (.node 276 y276 (.node 275 y275 .leaf .leaf) .leaf) (.node 278 y278 .leaf .leaf)) (.node 282 y282 (.node 281 y281 (.node 280 y280 .leaf .leaf) .leaf) (.node 283 y283 .leaf .leaf))) (.node 290 y290 (.node 287 y287 (.node 286 y286 (.node 285 y285 .leaf .leaf) .leaf) (.node 289 y289 .leaf .leaf)) (.node 292 y292 (.node 291 y291 .leaf .leaf) (.node 293 y293 .leaf .leaf))))) (.node 317 y317 (.node 305 y305 (.node 300 y300 (.node 297 y297 (.node 296 y296 (.node 295 y295 .leaf .leaf) .leaf) (.node 298 y298 .leaf .leaf)) (.node 303 y303 (.node 302 y302 (.node 301 y301 .leaf .leaf) .leaf) (.node 304 y304 .leaf .leaf))) (.node 311 y311 (.node 308 y308 (.node 307 y307 (.node 306 y306 .leaf .leaf) .leaf) (.node 310 y310 .leaf .leaf)) (.node 315 y315 (.node 314 y314 (.node 312 y312 .leaf .leaf) .leaf) (.node 316 y316 .leaf .leaf)))) (.node 328 y328 (.node 322 y322 (.node 320 y320 (.node 319 y319 (.node 318 y318 .leaf .leaf) .leaf) (.node 321 y321 .leaf .leaf)) (.node 326 y326 (.node 325 y325 (.node 323 y323 .leaf .leaf) .leaf) (.node 327 y327 .leaf .leaf))) (.node 333 y333 (.node 331 y331 (.node 330 y330 (.node 329 y329 .leaf .leaf) .leaf) (.node 332 y332 .leaf .leaf)) (.node 335 y335 (.node 334 y334 .leaf .leaf) (.node 336 y336 .leaf .leaf))))))))
theorem tys_ok : Tree.All (TFact Tryd.prog) tys := (.node fact168 (.node fact85 (.node fact42 (.node fact20 (.node fact10 (.node fact5 (.node fact3 (.node fact2 (.node fact1 .leaf .leaf) .leaf) (.node fact4 .leaf .leaf)) (.node fact8 (.node fact7 (.node fact6 .leaf .leaf) .leaf) (.node fact9 .leaf .leaf))) (.node fact15 (.node fact13 (.node fact12 (.node fact11 .leaf .leaf) .leaf) (.node fact14 .leaf .leaf)) (.node fact18 (.node fact17 (.node fact16 .leaf .leaf) .leaf) (.node fact19 .leaf .leaf)))) (.node fact32 (.node fact25 (.node fact23 (.node fact22 (.node fact21 .leaf .leaf) .leaf) (.node fact24 .leaf .leaf)) (.node fact29 (.node fact27 (.node fact26 .leaf .leaf) .leaf) (.node fact30 .leaf .leaf))) (.node fact37 (.node fact35 (.node fact34 (.node fact33 .leaf .leaf) .leaf) (.node fact36 .leaf .leaf)) (.node fact39 (.node fact38 .leaf .leaf) (.node fact40 .leaf .leaf))))) (.node fact63 (.node fact53 (.node fact47 (.node fact45 (.node fact44 (.node fact43 .leaf .leaf) .leaf) (.node fact46 .leaf .leaf)) (.node fact51 (.node fact50 (.node fact49 .leaf .leaf) .leaf) (.node fact52 .leaf .leaf))) (.node fact58 (.node fact56 (.node fact55 (.node fact54 .leaf .leaf) .leaf) (.node fact57 .leaf .leaf)) (.node fact61 (.node fact60 (.node fact59 .leaf .leaf) .leaf) (.node fact62 .leaf .leaf)))) (.node fact74 (.node fact69 (.node fact67 (.node fact65 (.node fact64 .leaf .leaf) .leaf) (.node fact68 .leaf .leaf)) (.node fact72 (.node fact71 (.node fact70 .leaf .leaf) .leaf) (.node fact73 .leaf .leaf))) (.node fact79 (.node fact77 (.node fact76 (.node fact75 .leaf .leaf) .leaf) (.node fact78 .leaf .leaf)) (.node fact82 (.node fact81 .leaf .leaf) (.node fact84 .leaf .leaf)))))) (.node fact127 (.node fact107 (.node fact96 (.node fact91 (.node fact89 (.node fact88 (.node fact86 .leaf .leaf) .leaf) (.node fact90 .leaf .leaf)) (.node fact94 (.node fact93 (.node fact92 .leaf .leaf) .leaf) (.node fact95 .leaf .leaf))) (.node fact102 (.node fact99 (.node fact98 (.node fact97 .leaf .leaf) .leaf) (.node fact100 .leaf .leaf)) (.node fact105 (.node fact104 (.node fact103 .leaf .leaf) .leaf) (.node fact106 .leaf .leaf)))) (.node fact117 (.node fact112 (.node fact110 (.node fact109 (.node fact108 .leaf .leaf) .leaf) (.node fact111 .leaf .leaf)) (.node fact115 (.node fact114 (.node fact113 .leaf .leaf) .leaf) (.node fact116 .leaf .leaf))) (.node fact122 (.node fact120 (.node fact119 (.node fact118 .leaf .leaf) .leaf) (.node fact121 .leaf .leaf)) (.node fact124 (.node fact123 .leaf .leaf) (.node fact125 .leaf .leaf))))) (.node fact148 (.node fact137 (.node fact132 (.node fact130 (.node fact129 (.node fact128 .leaf .leaf) .leaf) (.node fact131 .leaf .leaf)) (.node fact135 (.node fact134 (.node fact133 .leaf .leaf) .leaf) (.node fact136 .leaf .leaf))) (.node fact143 (.node fact140 (.node fact139 (.node fact138 .leaf .leaf) .leaf) (.node fact142 .leaf .leaf)) (.node fact146 (.node fact145 (.node fact144 .leaf .leaf) .leaf) (.node fact147 .leaf .leaf)))) (.node fact159 (.node fact154 (.node fact151 (.node fact150 (.node fact149 .leaf .leaf) .leaf) (.node fact153 .leaf .leaf)) (.node fact157 (.node fact156 (.node fact155 .leaf .leaf) .leaf) (.node fact158 .leaf .leaf))) (.node fact164 (.node fact162 (.node fact161 (.node fact160 .leaf .leaf) .leaf) (.node fact163 .leaf .leaf)) (.node fact166 (.node fact165 .leaf .leaf) (.node fact167 .leaf .leaf))))))) (.node fact252 (.node fact209 (.node fact188 (.node fact178 (.node fact173 (.node fact171 (.node fact170 (.node fact169 .leaf .leaf) .leaf) (.node fact172 .leaf .leaf)) (.node fact176 (.node fact175 (.node fact174 .leaf .leaf) .leaf) (.node fact177 .leaf .leaf))) (.node fact183 (.node fact181 (.node fact180 (.node fact179 .leaf .leaf) .leaf) (.node fact182 .leaf .leaf)) (.node fact186 (.node fact185 (.node fact184 .leaf .leaf) .leaf) (.node fact187 .leaf .leaf)))) (.node fact199 (.node fact193 (.node fact191 (.node fact190 (.node fact189 .leaf .leaf) .leaf) (.node fact192 .leaf .leaf)) (.node fact197 (.node fact196 (.node fact195 .leaf .leaf) .leaf) (.node fact198 .leaf .leaf))) (.node fact205 (.node fact202 (.node fact201 (.node fact200 .leaf .leaf) .leaf) (.node fact204 .leaf .leaf)) (.node fact207 (.node fact206 .leaf .leaf) (.node fact208 .leaf .leaf))))) (.node fact233 (.node fact220 (.node fact214 (.node fact212 (.node fact211 (.node fact210 .leaf .leaf) .leaf) (.node fact213 .leaf .leaf)) (.node fact218 (.node fact216 (.node fact215 .leaf .leaf) .leaf) (.node fact219 .leaf .leaf))) (.node fact226 (.node fact223 (.node fact222 (.node fact221 .leaf .leaf) .leaf) (.node fact225 .leaf .leaf)) (.node fact229 (.node fact228 (.node fact227 .leaf .leaf) .leaf) (.node fact231 .leaf .leaf)))) (.node fact243 (.node fact238 (.node fact236 (.node fact235 (.node fact234 .leaf .leaf) .leaf) (.node fact237 .leaf .leaf)) (.node fact241 (.node fact240 (.node fact239 .leaf .leaf) .leaf) (.node fact242 .leaf .leaf))) (.node fact248 (.node fact246 (.node fact245 (.node fact244 .leaf .leaf) .leaf) (.node fact247 .leaf .leaf)) (.node fact250 (.node fact249 .leaf .leaf) (.node fact251 .leaf .leaf)))))) (.node fact294 (.node fact274 (.node fact263 (.node fact258 (.node fact255 (.node fact254 (.node fact253 .leaf .leaf) .leaf) (.node fact257 .leaf .leaf)) (.node fact261 (.node fact260 (.node fact259 .leaf .leaf) .leaf) (.node fact262 .leaf .leaf))) (.node fact269 (.node fact267 (.node fact266 (.node fact264 .leaf .leaf) .leaf) (.node fact268 .leaf .leaf)) (.node fact272 (.node fact271 (.node fact270 .leaf .leaf) .leaf) (.node fact273 .leaf .leaf)))) (.node fact284 (.node fact279 (.node fact277 (.node fact276 (.node fact275 .leaf .leaf) .leaf) (.node fact278 .leaf .leaf)) (.node fact282 (.node fact281 (.node fact280 .leaf .leaf) .leaf) (.node fact283 .leaf .leaf))) (.node fact290 (.node fact287 (.node fact286 (.node fact285 .leaf .leaf) .leaf) (.node fact289 .leaf .leaf)) (.node fact292 (.node fact291 .leaf .leaf) (.node fact293 .leaf .leaf))))) (.node fact317 (.node fact305 (.node fact300 (.node fact297 (.node fact296 (.node fact295 .leaf .leaf) .leaf) (.node fact298 .leaf .leaf)) (.node fact303 (.node fact302 (.node fact301 .leaf .leaf) .leaf) (.node fact304 .leaf .leaf))) (.node fact311 (.node fact308 (.node fact307 (.node fact306 .leaf .leaf) .leaf) (.node fact310 .leaf .leaf)) (.node fact315 (.node fact314 (.node fact312 .leaf .leaf) .leaf) (.node fact316 .leaf .leaf)))) (.node fact328 (.node fact322 (.node fact320 (.node fact319 (.node fact318 .leaf .leaf) .leaf) (.node fact321 .leaf .leaf)) (.node fact326 (.node fact325 (.node fact323 .leaf .leaf) .leaf) (.node fact327 .leaf .leaf))) (.node fact333 (.node fact331 (.node fact330 (.node fact329 .leaf .leaf) .leaf) (.node fact332 .leaf .leaf)) (.node fact335 (.node fact334 .leaf .leaf) (.node fact336 .leaf .leaf))))))))
noncomputable def fns : Tree Func := (.node 57 Tryd.f57 (.node 36 Tryd.f36 (.node 13 Tryd.f13 (.node 11 Tryd.f11 (.node 3 Tryd.f3 .leaf .leaf) (.node 12 Tryd.f12 .leaf .leaf)) (.node 15 Tryd.f15 (.node 14 Tryd.f14 .leaf .leaf) .leaf)) (.node 54 Tryd.f54 (.node 52 Tryd.f52 (.node 51 Tryd.f51 .leaf .leaf) (.node 53 Tryd.f53 .leaf .leaf)) (.node 56 Tryd.f56 (.node 55 Tryd.f55 .leaf .leaf) .leaf))) (.node 148 Tryd.f148 (.node 95 Tryd.f95 (.node 93 Tryd.f93 (.node 92 Tryd.f92 .leaf .leaf) (.node 94 Tryd.f94 .leaf .leaf)) (.node 97 Tryd.f97 (.node 96 Tryd.f96 .leaf .leaf) .leaf)) (.node 206 Tryd.f206 (.node 150 Tryd.f150 (.node 149 Tryd.f149 .leaf .leaf) (.node 205 Tryd.f205 .leaf .leaf)) (.node 231 Tryd.f231 (.node 207 Tryd.f207 .leaf .leaf) .leaf))))
theorem enters3 : Tryd.prog.funcs[3]? = some Tryd.f3 ∧ Enters Tryd.prog 3 := ⟨Tryd.func3, enters Tryd.func3 (by kernel_rfl) rfl⟩
theorem enters11 : Tryd.prog.funcs[11]? = some Tryd.f11 ∧ Enters Tryd.prog 11 := ⟨Tryd.func11, enters Tryd.func11 (by kernel_rfl) rfl⟩
theorem enters12 : Tryd.prog.funcs[12]? = some Tryd.f12 ∧ Enters Tryd.prog 12 := ⟨Tryd.func12, enters Tryd.func12 (by kernel_rfl) rfl⟩
theorem enters13 : Tryd.prog.funcs[13]? = some Tryd.f13 ∧ Enters Tryd.prog 13 := ⟨Tryd.func13, enters Tryd.func13 (by kernel_rfl) rfl⟩
theorem enters14 : Tryd.prog.funcs[14]? = some Tryd.f14 ∧ Enters Tryd.prog 14 := ⟨Tryd.func14, enters Tryd.func14 (by kernel_rfl) rfl⟩
theorem enters15 : Tryd.prog.funcs[15]? = some Tryd.f15 ∧ Enters Tryd.prog 15 := ⟨Tryd.func15, enters Tryd.func15 (by kernel_rfl) rfl⟩
theorem enters36 : Tryd.prog.funcs[36]? = some Tryd.f36 ∧ Enters Tryd.prog 36 := ⟨Tryd.func36, enters Tryd.func36 (by kernel_rfl) rfl⟩
theorem enters51 : Tryd.prog.funcs[51]? = some Tryd.f51 ∧ Enters Tryd.prog 51 := ⟨Tryd.func51, enters Tryd.func51 (by kernel_rfl) rfl⟩
theorem enters52 : Tryd.prog.funcs[52]? = some Tryd.f52 ∧ Enters Tryd.prog 52 := ⟨Tryd.func52, enters Tryd.func52 (by kernel_rfl) rfl⟩
theorem enters53 : Tryd.prog.funcs[53]? = some Tryd.f53 ∧ Enters Tryd.prog 53 := ⟨Tryd.func53, enters Tryd.func53 (by kernel_rfl) rfl⟩
theorem enters54 : Tryd.prog.funcs[54]? = some Tryd.f54 ∧ Enters Tryd.prog 54 := ⟨Tryd.func54, enters Tryd.func54 (by kernel_rfl) rfl⟩
theorem enters55 : Tryd.prog.funcs[55]? = some Tryd.f55 ∧ Enters Tryd.prog 55 := ⟨Tryd.func55, enters Tryd.func55 (by kernel_rfl) rfl⟩
theorem enters56 : Tryd.prog.funcs[56]? = some Tryd.f56 ∧ Enters Tryd.prog 56 := ⟨Tryd.func56, enters Tryd.func56 (by kernel_rfl) rfl⟩
theorem enters57 : Tryd.prog.funcs[57]? = some Tryd.f57 ∧ Enters Tryd.prog 57 := ⟨Tryd.func57, enters Tryd.func57 (by kernel_rfl) rfl⟩
theorem enters92 : Tryd.prog.funcs[92]? = some Tryd.f92 ∧ Enters Tryd.prog 92 := ⟨Tryd.func92, enters Tryd.func92 (by kernel_rfl) rfl⟩
theorem enters93 : Tryd.prog.funcs[93]? = some Tryd.f93 ∧ Enters Tryd.prog 93 := ⟨Tryd.func93, enters Tryd.func93 (by kernel_rfl) rfl⟩
theorem enters94 : Tryd.prog.funcs[94]? = some Tryd.f94 ∧ Enters Tryd.prog 94 := ⟨Tryd.func94, enters Tryd.func94 (by kernel_rfl) rfl⟩
theorem enters95 : Tryd.prog.funcs[95]? = some Tryd.f95 ∧ Enters Tryd.prog 95 := ⟨Tryd.func95, enters Tryd.func95 (by kernel_rfl) rfl⟩
theorem enters96 : Tryd.prog.funcs[96]? = some Tryd.f96 ∧ Enters Tryd.prog 96 := ⟨Tryd.func96, enters Tryd.func96 (by kernel_rfl) rfl⟩
theorem enters97 : Tryd.prog.funcs[97]? = some Tryd.f97 ∧ Enters Tryd.prog 97 := ⟨Tryd.func97, enters Tryd.func97 (by kernel_rfl) rfl⟩
theorem enters148 : Tryd.prog.funcs[148]? = some Tryd.f148 ∧ Enters Tryd.prog 148 := ⟨Tryd.func148, enters Tryd.func148 (by kernel_rfl) rfl⟩
theorem enters149 : Tryd.prog.funcs[149]? = some Tryd.f149 ∧ Enters Tryd.prog 149 := ⟨Tryd.func149, enters Tryd.func149 (by kernel_rfl) rfl⟩
theorem enters150 : Tryd.prog.funcs[150]? = some Tryd.f150 ∧ Enters Tryd.prog 150 := ⟨Tryd.func150, enters Tryd.func150 (by kernel_rfl) rfl⟩
theorem enters205 : Tryd.prog.funcs[205]? = some Tryd.f205 ∧ Enters Tryd.prog 205 := ⟨Tryd.func205, enters Tryd.func205 (by kernel_rfl) rfl⟩
theorem enters206 : Tryd.prog.funcs[206]? = some Tryd.f206 ∧ Enters Tryd.prog 206 := ⟨Tryd.func206, enters Tryd.func206 (by kernel_rfl) rfl⟩
theorem enters207 : Tryd.prog.funcs[207]? = some Tryd.f207 ∧ Enters Tryd.prog 207 := ⟨Tryd.func207, enters Tryd.func207 (by kernel_rfl) rfl⟩
theorem enters231 : Tryd.prog.funcs[231]? = some Tryd.f231 ∧ Enters Tryd.prog 231 := ⟨Tryd.func231, enters Tryd.func231 (by kernel_rfl) rfl⟩
theorem fns_ok : Tree.All (fun k fn => Tryd.prog.funcs[k]? = some fn ∧ Enters Tryd.prog k) fns := (.node enters57 (.node enters36 (.node enters13 (.node enters11 (.node enters3 .leaf .leaf) (.node enters12 .leaf .leaf)) (.node enters15 (.node enters14 .leaf .leaf) .leaf)) (.node enters54 (.node enters52 (.node enters51 .leaf .leaf) (.node enters53 .leaf .leaf)) (.node enters56 (.node enters55 .leaf .leaf) .leaf))) (.node enters148 (.node enters95 (.node enters93 (.node enters92 .leaf .leaf) (.node enters94 .leaf .leaf)) (.node enters97 (.node enters96 .leaf .leaf) .leaf)) (.node enters206 (.node enters150 (.node enters149 .leaf .leaf) (.node enters205 .leaf .leaf)) (.node enters231 (.node enters207 .leaf .leaf) .leaf))))
end Tryd
end Go.Ev
