/- Each operation of the machine does what 'evOp' says. Part 9: append. -/
import Derived.Test.YtejeplcandhgdaaDoorEvK
import Derived.Lib.AppendZeros
set_option linter.unusedVariables false
set_option linter.unusedSimpArgs false
namespace Go.Ev

section
variable {cx : Cx} {P : Program} {g : G} {H H' : Hp} {w : World} {e : Env} {a : Act} {o : Oper} {call : CallT} {v : V}

theorem run_append_zero (hT : TYok P cx) {t el : TypeId} {d de : TY} (hd : cx.ty t = some d) (hdd : d.desc = .slice el) (hde : cx.ty el = some de) (ty : TypeId) (base ax : Option Addr) (n cap k : Nat) (hn : n ≤ cap) (w : World) :
    (Builtin.append_ #[t, t] ty #[.slice base n cap, .slice ax 0 k]).run P w = .ok (.slice base n cap) w := by
  have hu := run_underlying (hT.desc t d hd)
  rw [hdd] at hu
  have hf : (Builtin.firstCells de.size 0 (.slice ax 0 k)).run P w = .ok #[] w := by
    cases ax <;> simp [Builtin.firstCells, loadCells, loadCellsFrom]
  have hs := hT.sizeOf hde w
  cases base <;> simp [Builtin.append_, hu, hs, Builtin.lenOf, hn, hf, storeCells]

/-- New elements as the machine has them. -/
theorem news_ok {xs : List PV} {b oo sz : Nat} {us : Nat → Nat → Value} (hr : Rel cx g H w) (hR : Rows g.im xs b oo sz us) :
    (∀ j u, (flatU xs.length sz us)[j]? = some u → w.cell? ((⟨b, oo, none⟩ : Addr).add j) = some u) ∧ (∀ u ∈ flatU xs.length sz us, u.oneCell' = true) := by
  refine ⟨fun j u hj => ?_, fun u hu => ?_⟩
  · obtain ⟨h1, h2, h3, rfl⟩ := flatU_at hj
    rw [Addr.add_lit]
    have := hr.im _ _ _ (hR.hi _ _ h2 h3)
    rw [← this]
    congr 2
    have := Nat.div_add_mod j sz
    rw [Nat.mul_comm] at this
    omega
  · obtain ⟨j, hj, rfl⟩ := List.mem_iff_getElem.1 hu
    obtain ⟨h1, h2, h3, h4⟩ := flatU_at (List.getElem?_eq_getElem hj)
    rw [h4]
    exact hR.h1 _ _ h2 h3


theorem headSz_ok {xs : List PV} {n : Nat} (h : headSz xs n = true) : ∃ x, xs[0]? = some x ∧ x.cells.length = n := by
  cases xs with
  | nil => cases h
  | cons x r => exact ⟨x, rfl, by simpa [headSz] using h⟩

/-- Elements put together, as one row. -/
theorem join_get {us : Nat → Value} {n m sz : Nat} {vs : Nat → Nat → Value} (j : Nat) (i f : Nat) (hf : f < sz) (hi : i < n + m) (hj : j = i * sz + f) :
    ((List.range (n * sz)).map us ++ flatU m sz vs)[j]? = some (if i < n then us j else vs (i - n) f) := by
  subst hj
  by_cases h : i < n
  · rw [if_pos h]
    have : (i + 1) * sz ≤ n * sz := Nat.mul_le_mul_right _ h
    rw [Nat.add_mul, Nat.one_mul] at this
    rw [List.getElem?_append_left (by simp; omega)]
    have hlt : i * sz + f < n * sz := by omega
    simp [hlt]
  · rw [if_neg h]
    have h2 : n * sz ≤ i * sz := Nat.mul_le_mul_right _ (by omega)
    rw [List.getElem?_append_right (by simp; omega)]
    have h3 : i * sz + f - ((List.range (n * sz)).map us).length = (i - n) * sz + f := by
      simp only [List.length_map, List.length_range, Nat.sub_mul]
      omega
    rw [h3]
    exact flatU_get (by omega) hf

theorem append_run (hT : TYok P cx) (hr : Rel cx g H w) (ho : Hok H) (hf : Free g H H') {t : TypeId} {s x : V} {cs cx' : Value} (hs : VR g s cs) (hx : VR g x cx') (ty : TypeId) (h : evAppend cx t s x H = some (v, H')) :
    ∃ c g' w', (Builtin.append_ #[t, t] ty #[cs, cx']).run P w = .ok c w' ∧ St cx g H w g' H' w' ∧ VR g' v c := by
  unfold evAppend at h
  split at h
  · rename_i d hd
    split at h
    · rename_i el hdd
      split at h
      · rename_i de hde
        split at h
        · cases h
        · rename_i hnz
          split at h
          · rename_i xv H1 hres
            obtain ⟨g1, s1, hl1, hp1⟩ := res0_ok hr ho hres
            have hpx := hp1 _ hx
            have hle1 := G.le_of_St s1 hl1
            have hs1 := hs.mono hle1
            have hr1 := s1.rel
            have ho1 := s1.ok
            have hnext : H1.next = H.next := by
              unfold res0 at hres
              split at hres
              · injection hres with hres; injection hres with h1 h2; subst h2; rfl
              · split at hres
                · split at hres
                  · cases hres
                  · split at hres
                    · injection hres with hres; injection hres with h1 h2; subst h2; rfl
                    · cases hres
                · split at hres
                  · injection hres with hres; injection hres with h1 h2; subst h2; rfl
                  · cases hres
                · cases hres
              · cases hres
            have hf1 : Free g1 H1 H' := s1.free hf
            obtain ⟨i, z, hi, hisz, hiby, hiz, hzp, hzl, hzc⟩ := hT.info el de hde
            have hu : P.underlying t = some (.slice el) := by have := hT.desc t d hd; rwa [hdd] at this
            have hzsz : z.cells.size = de.size := by rw [hzp.cells.1, hzl]
            split at h
            · rename_i ys hys
              -- the new elements: none, or a row
              have hnew : (ys = [] ∧ ∃ ax k, cx' = .slice ax 0 k) ∨ ∃ b oo sz us cap, Rows g1.im ys b oo sz us ∧ 0 < ys.length ∧ cx' = .slice (some ⟨b, oo, none⟩) ys.length cap := by
                split at hys
                · injection hys with hys; subst hys
                  obtain ⟨ax, rfl⟩ := hpx.nils_inv
                  exact .inl ⟨rfl, ax, 0, rfl⟩
                · injection hys with hys; subst hys
                  rcases hpx.sl_inv with ⟨rfl, ax, k, rfl⟩ | ⟨b, oo, sz, us, cap, hR, hc, rfl⟩
                  · exact .inl ⟨rfl, ax, k, rfl⟩
                  · rename_i zs
                    by_cases h0 : zs = []
                    · subst h0; exact .inl ⟨rfl, _, _, rfl⟩
                    · exact .inr ⟨b, oo, sz, us, cap, hR, List.length_pos_iff.2 h0, rfl⟩
                · cases hys
              split at h
              · -- onto nil
                obtain ⟨a0, hcs⟩ := hs1.pp.nils_inv
                subst hcs
                split at h
                · rename_i hb
                  obtain ⟨hb1, hb2⟩ := hb
                  split at h
                  · injection h with h; injection h with h1 h2; subst h1; subst h2
                    rcases hnew with ⟨_, ax, k, rfl⟩ | ⟨b, oo, sz, us, cap, hR, hpos, rfl⟩
                    · exact ⟨_, g1, w, run_append_zero hT hd hdd hde ty a0 ax 0 0 k (Nat.le_refl _) w, s1, .p (.nils _)⟩
                    · simp at hpos
                  · rename_i y r
                    split at h
                    · rename_i hysz
                      injection h with h; injection h with h1 h2; subst h1; subst h2
                      rcases hnew with ⟨hnil, _⟩ | ⟨b, oo, sz, us, cap, hR, hpos, rfl⟩
                      · cases hnil
                      · have hsz : sz = de.size := by rw [← hR.hs 0 y rfl, hysz]
                        subst hsz
                        obtain ⟨hnews, hone⟩ := news_ok hr1 hR
                        have hlen : (flatU (y :: r).length de.size us).length = (y :: r).length * i.size := by rw [flatU_length, hisz]
                        have hbb : (y :: r).length * i.bytes ≤ 140737488355328 := by rw [hiby]; exact hb1
                        have hmax : (y :: r).length ≤ 140737488355328 := hb2
                        let cap' := grownCap w (y :: r).length 0 el
                        have hrun : ∃ C, (Builtin.append_ #[t, t] ty #[.slice a0 0 0, .slice (some ⟨b, oo, none⟩) (y :: r).length cap]).run P w =
                            .ok (.slice (some ⟨w.heap.size, 0, none⟩) (y :: r).length cap') (w.drew.alloc (.cells C el)) ∧ C = (flatU (y :: r).length de.size us).toArray ++ Builtin.zeroCells z.cells (cap' - (y :: r).length) := by
                          cases a0 with
                          | none =>
                            have := run_append_nil (P := P) w t ty el i z hu hi hiz ⟨b, oo, none⟩ (y :: r).length cap (flatU (y :: r).length de.size us) hlen hnews hpos (by omega) (by omega)
                            exact ⟨_, this, rfl⟩
                          | some a0 =>
                            have := run_append_grow (P := P) w t ty el i z hu hi hiz a0 0 0 [] (by simp) (by simp) ⟨b, oo, none⟩ (y :: r).length cap (flatU (y :: r).length de.size us) hlen hnews (by omega) (by omega) (growslice_fits (by omega) (by simpa using hbb))
                            simp only [Nat.zero_add] at this
                            exact ⟨_, this, by simp [cap']⟩
                        obtain ⟨C, hrun, hC⟩ := hrun
                        have hge : (y :: r).length ≤ cap' := grownCap_ge w _ 0 el
                        have hcm : cap' ≤ maxLen := grownCap_le_maxLen w _ 0 el (by simp only [maxLen]; omega)
                        have hCs : C.size = cap' * de.size := by
                          rw [hC, Array.size_append, List.size_toArray, flatU_length, size_zeroCells, hzsz, ← Nat.add_mul]
                          congr 1; omega
                        have sd := St.drew hr1 ho1
                        have hfr : g1.loc H1.next = none := hf1 H1.next (Nat.le_refl _) (by simp [Hp.new])
                        have hget : ∀ i f, i < (y :: r).length → f < de.size → C.getD (i * de.size + f) Go.undef = us i f := fun i f hi hf => by
                          have h3 := flatU_get (us := us) hi hf
                          rw [hC, Array.getD_eq_getD_getElem?, Array.getElem?_append_left (by
                            have := (List.getElem?_eq_some_iff.1 h3).1
                            simpa using this), List.getElem?_toArray, h3]
                          rfl
                        have sn := St.newObj sd.rel sd.ok hfr (.cells C el) (.own (y :: r)) ⟨w.heap.size, de.size, cap', el⟩ rfl
                          ⟨C, heap_new w.drew _, hCs, hge, hcm, hR.hs, fun i f hi hf => by rw [hget i f hi hf]; exact hR.h1 i f hi hf,
                            fun i x f yv hx hy => by
                              have hil := (List.getElem?_eq_some_iff.1 hx).1
                              have hfl : f < de.size := by
                                have := (List.getElem?_eq_some_iff.1 hy).1; rw [hR.hs i x hx] at this; exact this
                              rw [hget i f hil hfl]
                              exact (hR.hv i x f yv hx hy).mono (fun _ _ _ h => h)⟩
                        refine ⟨_, _, _, hrun, s1.trans (sd.trans sn), ?_⟩
                        have := VR.own (g := g1.add H1.next ⟨w.heap.size, de.size, cap', el⟩) (id := H1.next) (off := 0) (n := (y :: r).length) (l := ⟨w.heap.size, de.size, cap', el⟩) (by simp [G.add]) (by simpa using hge)
                        simpa using this
                    · cases h
                · cases h
              · -- onto an owned row
                rename_i id n
                split at h
                · rename_i hy0
                  injection h with h; injection h with h1 h2; subst h1; subst h2
                  obtain ⟨l, hl, hcap, hcs⟩ := hs1.own_inv
                  subst hcs
                  rcases hnew with ⟨_, ax, k, rfl⟩ | ⟨_, _, _, _, _, _, hpos, _⟩
                  · have hrun := run_append_zero hT hd hdd hde ty (some ⟨l.b, 0, none⟩) ax n l.cap k (by omega) w
                    refine ⟨_, g1, w, ?_, s1, hs1⟩
                    simpa using hrun
                  · rw [hy0] at hpos; simp at hpos
                split at h
                · cases h
                · rename_i hlow
                  have hlow1 : H1.low ≤ id := by omega
                  have hhead : ys = [] ∨ headSz ys de.size = true := by
                    by_cases h0 : ys = [] ∨ headSz ys de.size = true
                    · exact h0
                    · exact absurd (.inr h0) hlow
                  split at h
                  · rename_i xs hxs
                    split at h
                    · rename_i hb
                      obtain ⟨hn, hb1, hb2, hb3⟩ := hb
                      injection h with h; injection h with h1 h2; subst h1; subst h2
                      obtain ⟨l, hl, hcap, hcs⟩ := hs1.own_inv
                      subst hcs
                      have hobj := hr1.obj id l hl
                      rw [hxs] at hobj
                      obtain ⟨cur, hb, hsz, hlen, hmax, hss, h1s, hv⟩ := hobj
                      obtain ⟨x0, hx0, hx0s⟩ := headSz_ok hb3
                      have hlsz : l.sz = de.size := by rw [← hss 0 x0 hx0, hx0s]
                      have hfr : g1.loc H1.next = none := hf1 H1.next (Nat.le_refl _) (by simp [Hp.new, Hp.set])
                      have hmu : (H1.obj id).mu = true := by rw [hxs]; rfl
                      simp only [Nat.zero_mul, Nat.sub_zero]
                      have htk : ∀ i x, (xs.take n ++ ys)[i]? = some x → (i < n ∧ xs[i]? = some x) ∨ (n ≤ i ∧ ys[i - n]? = some x) := fun i x hx => by
                        by_cases hi : i < n
                        · rw [List.getElem?_append_left (by simp; omega), List.getElem?_take, if_pos hi] at hx
                          exact .inl ⟨hi, hx⟩
                        · rw [List.getElem?_append_right (by simp; omega)] at hx
                          have : i - (xs.take n).length = i - n := by simp; omega
                          rw [this] at hx
                          exact .inr ⟨by omega, hx⟩
                      rcases hnew with ⟨rfl, ax, k, rfl⟩ | ⟨b, oo, sz, us, cap, hR, hpos, rfl⟩
                      · -- nothing new
                        simp only [List.length_nil, Nat.add_zero, List.append_nil] at hb1 hb2 ⊢
                        have hrun := run_append_zero hT hd hdd hde ty (some ⟨l.b, 0, none⟩) ax n l.cap k (by omega) w
                        have hOO : ObjR (g1.add H1.next l) w l (.own (xs.take n)) := by
                          have hle2 := g1.add_le (l := l) hfr
                          refine ⟨cur, hb, hsz, ?_, hmax, ?_, ?_, ?_⟩
                          · simp; omega
                          · intro i x hx
                            rw [List.getElem?_take] at hx
                            split at hx
                            · exact hss i x hx
                            · cases hx
                          · intro i f hi hf
                            simp at hi
                            exact h1s i f (by omega) hf
                          · intro i x f yv hx hy
                            rw [List.getElem?_take] at hx
                            split at hx
                            · exact hv i x f yv hx hy
                            · cases hx
                        have sn := St.renew (w' := w) hr1 ho1 hfr hlow1 hmu hl (fun _ _ => rfl) rfl rfl rfl rfl hOO
                        refine ⟨_, _, _, hrun, s1.trans sn, ?_⟩
                        have := VR.own (g := g1.add H1.next l) (id := H1.next) (off := 0) (n := n) (l := l) (by simp [G.add]) (by omega)
                        simpa using this
                      · have hysz : sz = de.size := by
                          rcases hhead with h0 | h0
                          · subst h0; simp at hpos
                          · obtain ⟨y0, hy0, hy0s⟩ := headSz_ok h0
                            rw [← hR.hs 0 y0 hy0, hy0s]
                        subst hysz
                        obtain ⟨hnews, hone⟩ := news_ok hr1 hR
                        have hlen2 : (flatU ys.length de.size us).length = ys.length * i.size := by rw [flatU_length, hisz]
                        have hbb : (n + ys.length) * i.bytes ≤ 140737488355328 := by rw [hiby]; exact hb1
                        have hmx : n + ys.length ≤ 140737488355328 := hb2
                        have hn2 : n * de.size ≤ l.cap * de.size := Nat.mul_le_mul_right _ (by omega)
                        have hcur : cur.size = l.cap * de.size := by rw [hsz, hlsz]
                        -- what the new row must hold
                        have hO : ∀ (C : Array Value) (l2 : Loc) (g2 : G) (w2 : World), g1.le g2 → w2.heap[l2.b]? = some (.cells C l2.ty (0, 0)) → l2.sz = de.size → C.size = l2.cap * de.size → n + ys.length ≤ l2.cap → l2.cap ≤ maxLen →
                            (∀ i f, i < n → f < de.size → C.getD (i * de.size + f) Go.undef = cur.getD (i * de.size + f) Go.undef) →
                            (∀ i f, i < ys.length → f < de.size → C.getD ((n + i) * de.size + f) Go.undef = us i f) → ObjR g2 w2 l2 (.own (xs.take n ++ ys)) := by
                          intro C l2 g2 w2 q0 q1 q2 q3 q4 q5 q6 q7
                          have hll : (xs.take n ++ ys).length = n + ys.length := by simp; omega
                          refine ⟨C, q1, by rw [q2]; exact q3, by omega, q5, ?_, ?_, ?_⟩
                          · intro i x hx
                            rw [q2]
                            rcases htk i x hx with ⟨_, h⟩ | ⟨_, h⟩
                            · rw [← hlsz]; exact hss i x h
                            · exact hR.hs _ x h
                          · intro i f hi hf
                            rw [q2] at hf ⊢
                            simp at hi
                            by_cases hin : i < n
                            · rw [q6 i f hin hf, ← hlsz]; exact h1s i f (by omega) (by rw [hlsz]; exact hf)
                            · have := q7 (i - n) f (by omega) hf
                              rw [show n + (i - n) = i by omega] at this
                              rw [this]; exact hR.h1 _ f (by omega) hf
                          · intro i x f yv hx hy
                            rw [q2]
                            rcases htk i x hx with ⟨hin, h⟩ | ⟨hin, h⟩
                            · have hfl : f < de.size := by
                                have := (List.getElem?_eq_some_iff.1 hy).1; rw [hss i x h, hlsz] at this; exact this
                              rw [q6 i f hin hfl]
                              have := hv i x f yv h hy
                              rw [hlsz] at this
                              exact this.mono q0.im
                            · have hfl : f < de.size := by
                                have := (List.getElem?_eq_some_iff.1 hy).1; rw [hR.hs _ x h] at this; exact this
                              have hil := (List.getElem?_eq_some_iff.1 h).1
                              have := q7 (i - n) f hil hfl
                              rw [show n + (i - n) = i by omega] at this
                              rw [this]
                              exact (hR.hv _ x f yv h hy).mono q0.im
                        by_cases hroom : n + ys.length ≤ l.cap
                        · -- in place
                          have hfit : n * de.size + ys.length * de.size ≤ cur.size := by
                            rw [hcur, ← Nat.add_mul]; exact Nat.mul_le_mul_right _ hroom
                          have hrun : (Builtin.append_ #[t, t] ty #[.slice (some ⟨l.b, 0, none⟩) n l.cap, .slice (some ⟨b, oo, none⟩) ys.length cap]).run P w =
                              .ok (.slice (some ⟨l.b, 0, none⟩) (n + ys.length) l.cap) (w.setRow l.b (cur.toList.take (n * de.size) ++ flatU ys.length de.size us ++ cur.toList.drop (n * de.size + (flatU ys.length de.size us).length)).toArray) := by
                            have hff := run_firstCells_some (P := P) w i.size ys.length ⟨b, oo, none⟩ ys.length cap (flatU ys.length de.size us) hlen2 hnews
                            have hst := run_storeCells_at P l.b (n * i.size) l.ty (flatU ys.length de.size us) 0 cur w hb (by rw [hisz, flatU_length]; simpa using hfit) hone
                            simp only [Nat.add_zero] at hst
                            simp [Builtin.append_, run_underlying hu, Go.sizeOf, typeInfo, hi, Builtin.lenOf, hroom, hff, Addr.add_lit, hst, hisz]
                            rw [hisz] at hff hst
                            simp [hff, hst]
                          refine ⟨_, g1.add H1.next l, _, hrun, s1.trans (St.renew hr1 ho1 hfr hlow1 hmu hl (fun k hk => setRow_other w l.b k _ hk) (by simp) rfl rfl rfl ?_), ?_⟩
                          · refine hO _ l _ _ (g1.add_le hfr) (setRow_heap w l.b cur _ l.ty _ hb) hlsz ?_ hroom hmax ?_ ?_
                            · simp [flatU_length]; omega
                            · intro i f hi hf
                              have h3 : (i + 1) * de.size ≤ n * de.size := Nat.mul_le_mul_right _ hi
                              rw [Nat.add_mul, Nat.one_mul] at h3
                              rw [mid_get cur _ _ (by rw [flatU_length]; exact hfit), if_neg (by omega)]
                            · intro i f hi hf
                              rw [mid_get cur _ _ (by rw [flatU_length]; exact hfit), Nat.add_mul, flatU_length]
                              have h3 : (i + 1) * de.size ≤ ys.length * de.size := Nat.mul_le_mul_right _ hi
                              rw [Nat.add_mul, Nat.one_mul] at h3
                              rw [if_pos (by omega), show n * de.size + i * de.size + f - n * de.size = i * de.size + f by omega, List.getD_eq_getElem?_getD, flatU_get hi hf]
                              rfl
                          · have := VR.own (g := g1.add H1.next l) (id := H1.next) (off := 0) (n := n + ys.length) (l := l) (by simp [G.add]) (by omega)
                            simpa using this
                        · -- a new block
                          have holds : ∀ j u, ((List.range (n * de.size)).map fun k => cur.getD k Go.undef)[j]? = some u → w.cell? ((⟨l.b, 0, none⟩ : Addr).add j) = some u := by
                            intro j u hj
                            simp only [List.getElem?_map, Option.map_eq_some_iff] at hj
                            obtain ⟨k, hk, rfl⟩ := hj
                            obtain ⟨hk1, rfl⟩ := List.getElem?_eq_some_iff.1 hk
                            simp at hk1
                            have : j < cur.size := by omega
                            rw [Addr.add_lit]
                            simp [World.cell?, hb, this]
                          have hrun := run_append_grow (P := P) w t ty el i z hu hi hiz ⟨l.b, 0, none⟩ n l.cap _ (by simp [hisz]) holds ⟨b, oo, none⟩ ys.length cap (flatU ys.length de.size us) hlen2 hnews (by omega) (by omega) (growslice_fits (by omega) hbb)
                          have hge : n + ys.length ≤ grownCap w (n + ys.length) l.cap el := grownCap_ge w _ _ el
                          have hcm : grownCap w (n + ys.length) l.cap el ≤ maxLen := grownCap_le_maxLen w _ _ el (by simp only [maxLen]; omega)
                          have sd := St.drop hr1 ho1 hlow1
                          have sd2 := St.drew sd.rel sd.ok
                          have hfr2 : g1.loc (H1.set id .gone).next = none := hfr
                          have hle2 := g1.add_le (l := ⟨w.heap.size, de.size, grownCap w (n + ys.length) l.cap el, el⟩) hfr2
                          refine ⟨_, _, _, hrun, s1.trans (sd.trans (sd2.trans (St.newObj sd2.rel sd2.ok hfr2 _ _ ⟨w.heap.size, de.size, grownCap w (n + ys.length) l.cap el, el⟩ rfl (hO _ _ _ _ hle2 (heap_new w.drew _) rfl ?_ hge hcm ?_ ?_)))), ?_⟩
                          · simp only [Array.size_append, List.size_toArray, flatU_length, size_zeroCells, hzsz, List.length_map, List.length_range, ← Nat.add_mul]
                            congr 1; omega
                          · intro i f hi hf
                            have h3 := join_get (us := fun k => cur.getD k Go.undef) (n := n) (m := ys.length) (vs := us) _ i f hf (by omega) rfl
                            rw [if_pos hi] at h3
                            have h4 := (List.getElem?_eq_some_iff.1 h3).1
                            rw [Array.getD_eq_getD_getElem?, Array.getElem?_append_left (by simpa using h4)]
                            rw [← Array.getElem?_toList]
                            simp only [Array.toList_append]
                            rw [h3]; rfl
                          · intro i f hi hf
                            have h3 := join_get (us := fun k => cur.getD k Go.undef) (n := n) (m := ys.length) (vs := us) _ (n + i) f hf (by omega) rfl
                            rw [if_neg (by omega), show n + i - n = i by omega] at h3
                            have h4 := (List.getElem?_eq_some_iff.1 h3).1
                            rw [Array.getD_eq_getD_getElem?, Array.getElem?_append_left (by simpa using h4)]
                            rw [← Array.getElem?_toList]
                            simp only [Array.toList_append]
                            rw [h3]; rfl
                          · have := VR.own (g := g1.add (H1.set id .gone).next ⟨w.heap.size, de.size, grownCap w (n + ys.length) l.cap el, el⟩) (id := H1.next) (off := 0) (n := n + ys.length) (l := ⟨w.heap.size, de.size, grownCap w (n + ys.length) l.cap el, el⟩) (by simp [G.add, Hp.set]) (by simpa using hge)
                            simpa using this
                    · cases h
                  · cases h
              · cases h
            · cases h
          · cases h
      · cases h
    · cases h
  · cases h

theorem run_append_zeros {P : Program} (w : World) (t tn ty e : TypeId) (i : TypeInfo) (z : Value) (k kn : IntKind) (ht : P.underlying t = some (.slice e)) (htn : P.underlying tn = some (.int kn)) (hi : P.info? e = some i) (hz : i.zero = some z)
    (a0 : Option Addr) (n : Nat) (h0 : 0 < n) (hs : 0 < i.size) (h63 : (n : Int) ≤ 9223372036854775807) (h48 : n * i.bytes ≤ 281474976710656) :
    (Builtin.append_ #[t, tn] ty #[.slice a0 0 0, .int k n]).run P w =
      .ok (.slice (some ⟨w.heap.size, 0, none⟩) n (grownCap w n 0 e)) (w.drew.alloc (.cells (Builtin.zeroCells z.cells n ++ Builtin.zeroCells z.cells (grownCap w n 0 e - n)) e)) := by
  have hn : n ≠ 0 := by omega
  have hw : IntKind.i64.wrap (n : Int) = n := by rw [IntKind.wrap_i64]; omega
  have h63' : ¬ (9223372036854775807 < (n : Int)) := by omega
  have h48' : ¬ (281474976710656 < Builtin.nextslicecap n 0 * i.bytes) := by rw [nextslicecap_zero h0]; omega
  have h48i : ¬ (281474976710656 < (n : Int) * (i.bytes : Int)) := by
    rw [← Int.natCast_mul]
    omega
  have hneg : ¬ ((n : Int) < 0) := by omega
  have hns : ¬ (n * i.size = 0) := Nat.mul_ne_zero hn (by omega)
  have hf : ∀ w : World, (Builtin.firstCells i.size 0 (.slice a0 0 0)).run P w = .ok #[] w := fun w => by
    cases a0 <;> simp [Builtin.firstCells, loadCells, loadCellsFrom]
  simp [Builtin.append_, run_underlying ht, run_underlying htn, sizeOf, typeInfo, zeroValue, hi, hz, asInt, asIntOf, hw, hn, hneg, hns, h63', h48', h48i, Question.forced, hf, newRow, grownCap]

theorem zeroCells_get {z : Array Value} {n k f sz : Nat} (hz : z.size = sz) (hk : k < n) (hf : f < sz) : (Builtin.zeroCells z n)[k * sz + f]? = some (z.getD f Go.undef) := by
  have h1 : (k + 1) * sz ≤ n * sz := Nat.mul_le_mul_right _ hk
  rw [Nat.add_mul, Nat.one_mul] at h1
  have hlt : k * sz + f < n * z.size := by rw [hz]; omega
  have hm : (k * sz + f) % z.size = f := by rw [hz, Nat.mul_comm, Nat.mul_add_mod, Nat.mod_eq_of_lt hf]
  simp only [Builtin.zeroCells]
  rw [Array.getElem?_map, Array.getElem?_range, if_pos hlt]
  simp only [Option.map_some, hm]
  rw [getElem!_pos z f (by omega)]
  simp [Array.getD_eq_getD_getElem?, show f < z.size by omega]

theorem append0_run (hT : TYok P cx) (hr : Rel cx g H w) (ho : Hok H) (hf : Free g H H') {t t' : TypeId} {s x : V} {cs cx' : Value} (hs : VR g s cs) (hx : VR g x cx') (ty : TypeId) (h : evAppend0 cx t t' s x H = some (v, H')) :
    ∃ c g' w', (Builtin.append_ #[t, t'] ty #[cs, cx']).run P w = .ok c w' ∧ St cx g H w g' H' w' ∧ VR g' v c := by
  unfold evAppend0 at h
  split at h
  · rename_i k n
    obtain ⟨a0, hcs⟩ := hs.pp.nils_inv
    have hxx := hx.int
    subst hcs; subst hxx
    split at h
    · rename_i d d' hd hd'
      split at h
      · rename_i el kn hdd hdd'
        split at h
        · rename_i de hde
          split at h
          · cases h
          · rename_i hc
            injection h with h; injection h with h1 h2; subst h1; subst h2
            obtain ⟨m, rfl⟩ := Int.eq_ofNat_of_zero_le (show 0 ≤ n by omega)
            simp only [Int.toNat_natCast] at hc hf ⊢
            have hm : 0 < m := by omega
            have hnz : 0 < de.size := by omega
            have hb1 : m * de.bytes ≤ maxB := by
              rcases Nat.lt_or_ge maxB (m * de.bytes) with h1 | h1
              · exfalso; exact hc (.inr (.inr (fun h => by omega)))
              · exact h1
            have hb2 : m ≤ maxB := by
              rcases Nat.lt_or_ge maxB m with h1 | h1
              · exfalso; exact hc (.inr (.inr (fun h => by omega)))
              · exact h1
            simp only [maxB] at hb1 hb2
            obtain ⟨i, z, hi, hisz, hiby, hiz, hzp, hzl, hzc⟩ := hT.info el de hde
            have hu : P.underlying t = some (.slice el) := by have := hT.desc t d hd; rwa [hdd] at this
            have hu' : P.underlying t' = some (.int kn) := by have := hT.desc t' d' hd'; rwa [hdd'] at this
            have hzsz : z.cells.size = de.size := by rw [hzp.cells.1, hzl]
            have hzp' : PR g.im de.zero z := hzp.mono (fun _ _ _ h => by cases h)
            have hrun := run_append_zeros (P := P) w t t' ty el i z k kn hu hu' hi hiz a0 m hm (by omega) (by omega) (by rw [hiby]; omega)
            let cap' := grownCap w m 0 el
            have hge : m ≤ cap' := grownCap_ge w _ 0 el
            have hcm : cap' ≤ maxLen := grownCap_le_maxLen w _ 0 el (by simp only [maxLen]; omega)
            have sd := St.drew hr ho
            have hfr : g.loc H.next = none := hf H.next (Nat.le_refl _) (by simp [Hp.new])
            have hget : ∀ i f, i < m → f < de.size → (Builtin.zeroCells z.cells m ++ Builtin.zeroCells z.cells (cap' - m)).getD (i * de.size + f) Go.undef = z.cells.getD f Go.undef := fun i f hi hf => by
              have h3 := zeroCells_get (n := m) hzsz hi hf
              rw [Array.getD_eq_getD_getElem?, Array.getElem?_append_left ((Array.getElem?_eq_some_iff.1 h3).1), h3]; rfl
            have sn := St.newObj sd.rel sd.ok hfr (.cells (Builtin.zeroCells z.cells m ++ Builtin.zeroCells z.cells (cap' - m)) el) (.own (List.replicate m de.zero)) ⟨w.heap.size, de.size, cap', el⟩ rfl
              ⟨_, heap_new w.drew _, by rw [Array.size_append, size_zeroCells, size_zeroCells, hzsz, ← Nat.add_mul]; congr 1; show m + (cap' - m) = cap'; omega, by simpa using hge, hcm, fun i x hx => by
                have hil := (List.getElem?_eq_some_iff.1 hx).1
                simp at hil
                rw [List.getElem?_replicate, if_pos hil] at hx
                injection hx with hx; subst hx
                exact hzl, fun i f hi2 hf => by
                simp at hi2
                rw [hget i f hi2 hf]
                have hfl : f < de.zero.cells.length := by rw [hzl]; exact hf
                exact (hzp'.cells.2 f _ (List.getElem?_eq_getElem hfl)).one (List.all_eq_true.1 hzc _ (List.getElem_mem hfl)), fun i x f y hx hy => by
                have hil := (List.getElem?_eq_some_iff.1 hx).1
                simp at hil
                rw [List.getElem?_replicate, if_pos hil] at hx
                injection hx with hx; subst hx
                have hfl : f < de.size := by have := (List.getElem?_eq_some_iff.1 hy).1; rw [hzl] at this; exact this
                rw [hget i f hil hfl]
                exact hzp'.cells.2 f y hy⟩
            refine ⟨_, _, _, hrun, sd.trans sn, ?_⟩
            have := VR.own (g := g.add H.next ⟨w.heap.size, de.size, cap', el⟩) (id := H.next) (off := 0) (n := m) (l := ⟨w.heap.size, de.size, cap', el⟩) (by simp [G.add]) (by simpa using hge)
            simpa using this
        · cases h
      · cases h
    · cases h
  · cases h

end
end Go.Ev
