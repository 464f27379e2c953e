/- Each operation of the machine does what 'evOp' says. Part 7: freezing; literals. -/
import Derived.Test.YtejeplcandhgdaaDoorEvI
set_option linter.unusedVariables false
set_option linter.unusedSimpArgs false
namespace Go.Ev

section
variable {cx : Cx} {P : Program} {g : G} {H H' : Hp} {w : World} {e : Env} {a : Act} {o : Oper} {call : CallT} {v : V}

theorem G.le_of_St {g' : G} {w' : World} (h : St cx g H w g' H' w') (hl : g'.loc = g.loc) : g.le g' := ⟨h.im, fun i l hi => by rw [hl]; exact hi⟩

/-- A slice of owned elements that is read alone. -/
theorem fro_sl {l : Loc} {xs : List PV} (hO : ObjR g w l (.fro xs)) {off n : Nat} (h : off + n ≤ xs.length) (hc : off + n ≤ l.cap) :
    PR g.im (.sl ((xs.drop off).take n)) (.slice (some ⟨l.b, off * l.sz, none⟩) n (l.cap - off)) := by
  obtain ⟨hl, us, h1, h2, h3, h4⟩ := hO
  have hR : Rows g.im xs l.b 0 l.sz us := ⟨h1, fun i f a b => by simpa using h2 i f a b, h3, h4⟩
  have := (hR.drop off n h).sl (cap := l.cap - off) (by simp; omega)
  have hlen : ((xs.drop off).take n).length = n := by simp; omega
  rw [hlen] at this
  simpa using this

theorem res0_ok (hr : Rel cx g H w) (ho : Hok H) {v : V} {x : PV} (h : res0 v H = some (x, H')) : ∃ g', St cx g H w g' H' w ∧ g'.loc = g.loc ∧ ∀ c, VR g v c → PR g'.im x c := by
  unfold res0 at h
  split at h
  · injection h with h; injection h with h1 h2; subst h1; subst h2
    exact ⟨g, St.refl hr ho, rfl, fun c hc => hc.pp⟩
  · rename_i id off n
    split at h
    · rename_i xs hx
      split at h
      · cases h
      · rename_i hlow
        split at h
        · rename_i hle
          injection h with h; injection h with h1 h2; subst h1; subst h2
          obtain ⟨g', hst, hloc⟩ := St.freeze hr ho hx (by omega)
          refine ⟨g', hst, hloc, fun c hc => ?_⟩
          obtain ⟨l, hl, hcap, rfl⟩ := hc.own_inv
          have hobj := hst.rel.obj id l (by rw [hloc]; exact hl)
          simp only [Hp.set, if_true] at hobj
          exact fro_sl hobj hle hcap
        · cases h
    · rename_i xs hx
      split at h
      · rename_i hle
        injection h with h; injection h with h1 h2; subst h1; subst h2
        refine ⟨g, St.refl hr ho, rfl, fun c hc => ?_⟩
        obtain ⟨l, hl, hcap, rfl⟩ := hc.own_inv
        have hobj := hr.obj id l hl
        rw [hx] at hobj
        exact fro_sl hobj hle hcap
      · cases h
    · cases h
  · cases h

theorem St.trans0 {g0 g1 g2 : G} {H0 H1 H2 : Hp} {w : World} (h : St cx g0 H0 w g1 H1 w) (hl : g1.loc = g0.loc) (k : St cx g1 H1 w g2 H2 w) (kl : g2.loc = g1.loc) : St cx g0 H0 w g2 H2 w ∧ g2.loc = g0.loc := ⟨h.trans k, kl.trans hl⟩

theorem res0s_ok : ∀ (vs : List V) {g : G} {H : Hp} {w : World} {xs : List PV} {H' : Hp} (hr : Rel cx g H w) (ho : Hok H) (h : res0s vs H = some (xs, H')),
    ∃ g', St cx g H w g' H' w ∧ g'.loc = g.loc ∧ vs.length = xs.length ∧ ∀ (i : Nat) (x : PV), xs[i]? = some x → ∃ v : V, vs[i]? = some v ∧ ∀ c, VR g v c → PR g'.im x c
  | [], g, H, w, xs, H', hr, ho, h => by
    simp [res0s] at h; obtain ⟨rfl, rfl⟩ := h
    exact ⟨g, St.refl hr ho, rfl, rfl, by simp⟩
  | v :: r, g, H, w, xs, H', hr, ho, h => by
    unfold res0s at h
    split at h
    · rename_i x H1 h1
      split at h
      · rename_i l H2 h2
        injection h with h; injection h with h3 h4; subst h3; subst h4
        obtain ⟨g1, s1, l1, p1⟩ := res0_ok hr ho h1
        obtain ⟨g2, s2, l2, n2, p2⟩ := res0s_ok r s1.rel s1.ok h2
        refine ⟨g2, s1.trans s2, l2.trans l1, by simp [n2], fun i y hy => ?_⟩
        cases i with
        | zero => simp at hy; subst hy; exact ⟨v, by simp, fun c hc => (p1 c hc).mono s2.im⟩
        | succ i =>
          obtain ⟨u, hu, hp⟩ := p2 i y (by simpa using hy)
          exact ⟨u, by simpa using hu, fun c hc => hp c (hc.mono (G.le_of_St s1 l1))⟩
      · cases h
    · cases h

theorem res1_ok (hr : Rel cx g H w) (ho : Hok H) {v : V} {x : PV} (h : res1 v H = some (x, H')) : ∃ g', St cx g H w g' H' w ∧ g'.loc = g.loc ∧ ∀ c, VR g v c → PR g'.im x c := by
  unfold res1 at h
  split at h
  · rename_i cs
    split at h
    · rename_i l H1 h1
      injection h with h; injection h with h3 h4; subst h3; subst h4
      obtain ⟨g1, s1, l1, n1, p1⟩ := res0s_ok cs hr ho h1
      refine ⟨g1, s1, l1, fun c hc => ?_⟩
      obtain ⟨L, rfl, hs, hp⟩ := hc.agg_inv
      exact .agg (by omega) (fun i y hy => by obtain ⟨u, hu, hq⟩ := p1 i y hy; exact hq _ (hp i u hu))
    · cases h
  · rename_i t u
    split at h
    · rename_i y H1 h1
      injection h with h; injection h with h3 h4; subst h3; subst h4
      obtain ⟨g1, s1, l1, p1⟩ := res0_ok hr ho h1
      refine ⟨g1, s1, l1, fun c hc => ?_⟩
      cases hc with
      | iface hc => exact .iface (p1 _ hc)
    · cases h
  · exact res0_ok hr ho h

theorem res1s_ok : ∀ (vs : List V) {g : G} {H : Hp} {w : World} {xs : List PV} {H' : Hp} (hr : Rel cx g H w) (ho : Hok H) (h : res1s vs H = some (xs, H')),
    ∃ g', St cx g H w g' H' w ∧ g'.loc = g.loc ∧ vs.length = xs.length ∧ ∀ (i : Nat) (x : PV), xs[i]? = some x → ∃ v : V, vs[i]? = some v ∧ ∀ c, VR g v c → PR g'.im x c
  | [], g, H, w, xs, H', hr, ho, h => by
    simp [res1s] at h; obtain ⟨rfl, rfl⟩ := h
    exact ⟨g, St.refl hr ho, rfl, rfl, by simp⟩
  | v :: r, g, H, w, xs, H', hr, ho, h => by
    unfold res1s at h
    split at h
    · rename_i x H1 h1
      split at h
      · rename_i l H2 h2
        injection h with h; injection h with h3 h4; subst h3; subst h4
        obtain ⟨g1, s1, l1, p1⟩ := res1_ok hr ho h1
        obtain ⟨g2, s2, l2, n2, p2⟩ := res1s_ok r s1.rel s1.ok h2
        refine ⟨g2, s1.trans s2, l2.trans l1, by simp [n2], fun i y hy => ?_⟩
        cases i with
        | zero => simp at hy; subst hy; exact ⟨v, by simp, fun c hc => (p1 c hc).mono s2.im⟩
        | succ i =>
          obtain ⟨u, hu, hp⟩ := p2 i y (by simpa using hy)
          exact ⟨u, by simpa using hu, fun c hc => hp c (hc.mono (G.le_of_St s1 l1))⟩
      · cases h
    · cases h

theorem res2_ok (hr : Rel cx g H w) (ho : Hok H) {v : V} {x : PV} (h : res2 v H = some (x, H')) : ∃ g', St cx g H w g' H' w ∧ g'.loc = g.loc ∧ ∀ c, VR g v c → PR g'.im x c := by
  unfold res2 at h
  split at h
  · rename_i cs
    split at h
    · rename_i l H1 h1
      injection h with h; injection h with h3 h4; subst h3; subst h4
      obtain ⟨g1, s1, l1, n1, p1⟩ := res1s_ok cs hr ho h1
      refine ⟨g1, s1, l1, fun c hc => ?_⟩
      obtain ⟨L, rfl, hs, hp⟩ := hc.tup_inv
      exact .tup (by omega) (fun i y hy => by obtain ⟨u, hu, hq⟩ := p1 i y hy; exact hq _ (hp i u hu))
    · cases h
  · exact res1_ok hr ho h

theorem resParts_ok : ∀ (ps : List (Nat × V)) {g : G} {H : Hp} {w : World} {qs : List (Nat × V)} {H' : Hp} (hr : Rel cx g H w) (ho : Hok H) (h : resParts ps H = some (qs, H')),
    ∃ g', St cx g H w g' H' w ∧ g'.loc = g.loc ∧ qs.length = ps.length ∧ ∀ (i k : Nat) (v : V), qs[i]? = some (k, v) → ∃ u, ps[i]? = some (k, u) ∧ ∀ c, VR g u c → VR g' v c
  | [], g, H, w, qs, H', hr, ho, h => by
    simp [resParts] at h; obtain ⟨rfl, rfl⟩ := h
    exact ⟨g, St.refl hr ho, rfl, rfl, by simp⟩
  | (i, v) :: r, g, H, w, qs, H', hr, ho, h => by
    by_cases hp : ∃ x, v = .p x
    · obtain ⟨x, rfl⟩ := hp
      simp only [resParts] at h
      split at h
      · rename_i l H1 h1
        cases h
        obtain ⟨g', s, hl, hlen, hq⟩ := resParts_ok r hr ho h1
        refine ⟨g', s, hl, by simp [hlen], fun j k u hu => ?_⟩
        cases j with
        | zero => simp at hu; obtain ⟨rfl, rfl⟩ := hu; exact ⟨_, rfl, fun c hc => hc.mono (G.le_of_St s hl)⟩
        | succ j => simpa using hq j k u (by simpa using hu)
      · cases h
    · have h : (match res1 v H with
        | some (x, H) => (match resParts r H with | some (l, H) => some ((i, V.p (nrm x)) :: l, H) | none => none)
        | none => none) = some (qs, H') := by
        cases v <;> first | exact h | exact absurd ⟨_, rfl⟩ hp
      split at h
      · rename_i x H1 h1
        split at h
        · rename_i l H2 h2
          cases h
          obtain ⟨g1, s1, hl1, hx⟩ := res1_ok hr ho h1
          obtain ⟨g2, s2, hl2, hlen, hq⟩ := resParts_ok r s1.rel s1.ok h2
          refine ⟨g2, s1.trans s2, hl2.trans hl1, by simp [hlen], fun j k u hu => ?_⟩
          cases j with
          | zero => simp at hu; obtain ⟨rfl, rfl⟩ := hu; exact ⟨v, rfl, fun c hc => .p ((hx c hc).mono (G.le_of_St s2 hl2).im).nrm⟩
          | succ j =>
            obtain ⟨u', hu1, hu2⟩ := hq j k u (by simpa using hu)
            exact ⟨u', by simpa using hu1, fun c hc => hu2 c (hc.mono (G.le_of_St s1 hl1))⟩
        · cases h
      · cases h
end
end Go.Ev
