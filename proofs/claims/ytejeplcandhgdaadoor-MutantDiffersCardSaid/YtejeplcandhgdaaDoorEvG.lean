/- What new memory, stores and freezing do to the relation. -/
import Derived.Test.YtejeplcandhgdaaDoorEvF
set_option linter.unusedVariables false
set_option linter.unusedSimpArgs false
namespace Go.Ev

section
variable {cx : Cx} {P : Program} {g : G} {H H' : Hp} {w : World}

theorem heap_new (w : World) (o : Obj) : (w.alloc o).heap[w.heap.size]? = some o := by
  show (w.heap.push o)[w.heap.size]? = some o
  simp
theorem heap_keep (w : World) (o : Obj) {i : Nat} (h : i < w.heap.size) : (w.alloc o).heap[i]? = w.heap[i]? := by
  show (w.heap.push o)[i]? = w.heap[i]?
  rw [Array.getElem?_push, if_neg (Nat.ne_of_lt h)]
theorem size_new (w : World) (o : Obj) : (w.alloc o).heap.size = w.heap.size + 1 := by simp
theorem cell_keep (w w' : World) {b o : Nat} (h : w'.heap[b]? = w.heap[b]?) : w'.cell? ⟨b, o, none⟩ = w.cell? ⟨b, o, none⟩ := by simp [World.cell?, h]
theorem im_lt (hr : Rel cx g H w) {b o : Nat} {u : Value} (h : g.im b o = some u) : b < w.heap.size := World.block_lt_of_cell? w ⟨b, o, none⟩ (hr.im _ _ _ h)

def G.add (g : G) (id : Nat) (l : Loc) : G := { g with loc := fun i => if i = id then some l else g.loc i }
theorem G.add_le (g : G) {id : Nat} {l : Loc} (h : g.loc id = none) : g.le (g.add id l) :=
  ⟨fun _ _ _ h => h, fun i l' hl => by
    simp only [G.add]
    split
    · subst_vars; rw [h] at hl; cases hl
    · exact hl⟩

/-- A new block, a new object. -/
theorem St.newObj (hr : Rel cx g H w) (ho : Hok H) (hf : g.loc H.next = none) (b : Obj) (o : O) (l : Loc) (hb : l.b = w.heap.size) (hO : ObjR (g.add H.next l) (w.alloc b) l o) :
    St cx g H w (g.add H.next l) (H.new o) (w.alloc b) := by
  have hle := g.add_le (l := l) hf
  refine ⟨⟨?_, ?_, ?_, ?_, ?_, ?_⟩, ⟨?_, ?_⟩, fun _ _ _ h => h, ?_, by simp [Hp.new], rfl, ?_, ?_, rfl, rfl, rfl, by simp, ?_, ?_, ?_⟩
  · intro bb off u hu
    rw [cell_keep w _ (heap_keep w b (im_lt hr hu))]
    exact hr.im _ _ _ hu
  · exact fun k xs h => hr.gl k xs h
  · intro id l' hl
    simp only [G.add] at hl
    simp only [Hp.new]
    split at hl
    · rename_i hid
      injection hl with hl; subst hl
      rw [if_pos hid]
      exact hO
    · rename_i hid
      rw [if_neg hid]
      exact (hr.obj id l' hl).keep hle (fun _ => heap_keep w b (hr.lt id l' hl))
  · intro i j l1 l2 h1 h2 h3 h4 h5
    simp only [G.add] at h3 h4
    simp only [Hp.new] at h1 h2
    by_cases hi : i = H.next
    · rw [if_pos hi] at h3; injection h3 with h3; subst h3
      by_cases hj : j = H.next
      · rw [hi, hj]
      · rw [if_neg hj] at h4
        have := hr.lt j l2 h4
        omega
    · rw [if_neg hi] at h3 h1
      by_cases hj : j = H.next
      · rw [if_pos hj] at h4; injection h4 with h4; subst h4
        have := hr.lt i l1 h3
        omega
      · rw [if_neg hj] at h4 h2
        exact hr.dis i j l1 l2 h1 h2 h3 h4 h5
  · intro i l' off h1 h2
    simp only [G.add] at h2 ⊢
    simp only [Hp.new] at h1
    by_cases hi : i = H.next
    · rw [if_pos hi] at h2; injection h2 with h2; subst h2
      cases hq : g.im l.b off with
      | none => rfl
      | some u => have := im_lt hr hq; omega
    · rw [if_neg hi] at h2 h1
      exact hr.dim i l' off h1 h2
  · intro i l' hl
    simp only [G.add] at hl
    rw [size_new]
    split at hl
    · injection hl with hl; subst hl; omega
    · have := hr.lt i l' hl; omega
  · intro id hid
    simp only [Hp.new] at hid ⊢
    rw [if_neg (by omega)]
    exact ho.gone id (by omega)
  · have := ho.low; simp [Hp.new]; omega
  · intro id hid
    simp only [Hp.new] at hid
    simp only [G.add]
    rw [if_neg (by omega)]
  · intro id hid
    have := ho.low
    simp only [Hp.new]
    rw [if_neg (by omega)]
  · intro id hid hm
    simp only [Hp.new] at hm
    rw [if_neg (by omega)] at hm
    exact hm
  · exact fun k hk _ => heap_keep w b hk
  · intro id l' h1 h2 h3 h4
    simp only [G.add] at h3
    simp only [Hp.new] at h2
    by_cases hi : id = H.next
    · rw [if_pos hi] at h3; injection h3 with h3; subst h3; omega
    · rw [if_neg hi] at h3 h2
      exact ⟨id, l', h1, h2, h3, rfl⟩
  · exact fun bb off h1 h2 _ => absurd h2 h1

def G.put (g : G) (b : Nat) (f : Nat → Option Value) : G := { g with im := fun b' o => if b' = b then f o else g.im b' o }

/-- A new block that is read alone. -/
theorem St.newIm (hr : Rel cx g H w) (ho : Hok H) (us : Array Value) (ty : TypeId) :
    St cx g H w (g.put w.heap.size (fun o => us[o]?)) H (w.alloc (.cells us ty)) := by
  have him : ∀ b o u, g.im b o = some u → (g.put w.heap.size (fun o => us[o]?)).im b o = some u := fun b o u h => by
    have := im_lt hr h
    simp only [G.put]
    rw [if_neg (by omega)]
    exact h
  have hle : g.le (g.put w.heap.size (fun o => us[o]?)) := ⟨him, fun _ _ h => h⟩
  refine ⟨⟨?_, ?_, ?_, ?_, ?_, ?_⟩, ho, him, fun _ _ => rfl, Nat.le_refl _, rfl, fun _ _ => rfl, fun _ _ h => h, rfl, rfl, rfl, by simp, ?_, ?_, ?_⟩
  · intro bb off u hu
    simp only [G.put] at hu
    split at hu
    · rename_i hb
      subst hb
      have h2 := heap_new w (.cells us ty)
      simp only [World.cell?, h2]
      simpa using hu
    · rw [cell_keep w _ (heap_keep w _ (im_lt hr hu))]
      exact hr.im _ _ _ hu
  · exact fun k xs h => (hr.gl k xs h).mono him
  · intro id l' hl
    exact (hr.obj id l' hl).keep hle (fun _ => heap_keep w _ (hr.lt id l' hl))
  · exact fun i j l1 l2 h1 h2 h3 h4 h5 => hr.dis i j l1 l2 h1 h2 h3 h4 h5
  · intro i l' off h1 h2
    simp only [G.put]
    have := hr.lt i l' h2
    rw [if_neg (by omega)]
    exact hr.dim i l' off h1 h2
  · intro i l' hl
    have := hr.lt i l' hl
    rw [size_new]; omega
  · exact fun k hk _ => heap_keep w _ hk
  · exact fun id l' h1 h2 h3 _ => ⟨id, l', h1, h2, h3, rfl⟩
  · intro bb off h1 h2 h3
    simp only [G.put] at h1
    rw [if_neg (by omega)] at h1
    exact absurd h2 h1

/-- An owned row is read alone from now on. -/
theorem St.freeze (hr : Rel cx g H w) (ho : Hok H) {id : Nat} {xs : List PV} (hx : H.obj id = .own xs) (hlow : H.low ≤ id) : ∃ g', St cx g H w g' (H.set id (.fro xs)) w ∧ g'.loc = g.loc := by
  have hid : id < H.next := by
    by_cases h : H.next ≤ id
    · have := ho.gone id h; rw [hx] at this; cases this
    · omega
  cases hl : g.loc id with
  | none =>
    refine ⟨g, ⟨⟨hr.im, hr.gl, ?_, ?_, ?_, hr.lt⟩, ⟨?_, ho.low⟩, fun _ _ _ h => h, fun _ _ => rfl, Nat.le_refl _, rfl, ?_, ?_, rfl, rfl, rfl, Nat.le_refl _, fun _ _ _ => rfl, ?_, fun _ _ h1 h2 _ => absurd h2 h1⟩, rfl⟩
    · intro i l' hl'
      simp only [Hp.set]
      rw [if_neg (by rintro rfl; rw [hl] at hl'; cases hl')]
      exact hr.obj i l' hl'
    · intro i j l1 l2 h1 h2 h3 h4 h5
      simp only [Hp.set] at h1 h2
      rw [if_neg (by rintro rfl; rw [hl] at h3; cases h3)] at h1
      rw [if_neg (by rintro rfl; rw [hl] at h4; cases h4)] at h2
      exact hr.dis i j l1 l2 h1 h2 h3 h4 h5
    · intro i l' off h1 h2
      simp only [Hp.set] at h1
      rw [if_neg (by rintro rfl; rw [hl] at h2; cases h2)] at h1
      exact hr.dim i l' off h1 h2
    · intro i hi
      simp only [Hp.set] at hi ⊢
      rw [if_neg (by omega)]
      exact ho.gone i hi
    · intro i hi
      simp only [Hp.set]
      rw [if_neg (by omega)]
    · intro i hi hm
      simp only [Hp.set] at hm
      split at hm
      · simp [O.mu] at hm
      · exact hm
    · intro i l' h1 h2 h3 _
      simp only [Hp.set] at h2
      rw [if_neg (by rintro rfl; rw [hl] at h3; cases h3)] at h2
      exact ⟨i, l', h1, h2, h3, rfl⟩
  | some l =>
    have hobj := hr.obj id l hl
    rw [hx] at hobj
    obtain ⟨us, hb, hs, hlen, hmax, hsz, h1c, hv⟩ := hobj
    have hdim : ∀ off, g.im l.b off = none := fun off => hr.dim id l off (by rw [hx]; rfl) hl
    have him : ∀ b o u, g.im b o = some u → (g.put l.b (fun o => us[o]?)).im b o = some u := fun b o u h => by
      simp only [G.put]
      split
      · rename_i hbb; subst hbb; rw [hdim] at h; cases h
      · exact h
    have hle : g.le (g.put l.b (fun o => us[o]?)) := ⟨him, fun _ _ h => h⟩
    refine ⟨g.put l.b (fun o => us[o]?), ⟨⟨?_, fun k xs h => (hr.gl k xs h).mono him, ?_, ?_, ?_, hr.lt⟩, ⟨?_, ho.low⟩, him, fun _ _ => rfl, Nat.le_refl _, rfl, ?_, ?_, rfl, rfl, rfl, Nat.le_refl _, fun _ _ _ => rfl, ?_, ?_⟩, rfl⟩
    · intro bb off u hu
      simp only [G.put] at hu
      split at hu
      · rename_i hbb
        subst hbb
        simp [World.cell?, hb, hu]
      · exact hr.im _ _ _ hu
    · intro i l' hl'
      simp only [Hp.set]
      by_cases hi : i = id
      · rw [if_pos hi]
        subst hi
        have : l' = l := by
          have h' : g.loc i = some l' := hl'
          rw [hl] at h'; injection h' with h'; exact h'.symm
        subst this
        have hlt : ∀ i f, i < xs.length → f < l'.sz → i * l'.sz + f < us.size := fun i f hi hf => by
          have : (i + 1) * l'.sz ≤ l'.cap * l'.sz := Nat.mul_le_mul_right _ (by omega)
          rw [Nat.add_mul, Nat.one_mul] at this
          omega
        refine ⟨hlen, fun i f => us.getD (i * l'.sz + f) Go.undef, hsz, ?_, h1c, fun i x f y hx hy => (hv i x f y hx hy).mono him⟩
        intro i f hi hf
        simp only [G.put, if_true]
        simp [Array.getD_eq_getD_getElem?, hlt i f hi hf]
      · rw [if_neg hi]
        exact (hr.obj i l' hl').keep hle (fun _ => rfl)
    · intro i j l1 l2 h1 h2 h3 h4 h5
      simp only [Hp.set] at h1 h2
      split at h1
      · simp [O.mu] at h1
      · split at h2
        · simp [O.mu] at h2
        · exact hr.dis i j l1 l2 h1 h2 h3 h4 h5
    · intro i l' off h1 h2
      simp only [Hp.set] at h1
      split at h1
      · simp [O.mu] at h1
      · rename_i hi
        have h2' : g.loc i = some l' := h2
        have hne : l'.b ≠ l.b := fun hb' => hi (hr.dis i id l' l h1 (by rw [hx]; rfl) h2' hl hb')
        simp only [G.put]
        rw [if_neg hne]
        exact hr.dim i l' off h1 h2'
    · intro i hi
      simp only [Hp.set] at hi ⊢
      rw [if_neg (by omega)]
      exact ho.gone i hi
    · intro i hi
      simp only [Hp.set]
      rw [if_neg (by omega)]
    · intro i hi hm
      simp only [Hp.set] at hm
      split at hm
      · simp [O.mu] at hm
      · exact hm
    · intro i l' h1 h2 h3 _
      simp only [Hp.set] at h2
      split at h2
      · simp [O.mu] at h2
      · exact ⟨i, l', h1, h2, h3, rfl⟩
    · intro bb off h1 h2 h3
      simp only [G.put] at h1
      split at h1
      · rename_i hbb
        exact ⟨id, l, hlow, by rw [hx]; rfl, hl, hbb.symm⟩
      · exact absurd h2 h1

end
end Go.Ev
