/- Each operation of the machine does what 'evOp' says. Part 8: append. -/
import Derived.Test.YtejeplcandhgdaaDoorEvJ
set_option linter.unusedVariables false
set_option linter.unusedSimpArgs false
namespace Go.Ev

section
variable {cx : Cx} {P : Program} {g : G} {H H' : Hp} {w : World} {e : Env} {a : Act} {o : Oper} {call : CallT} {v : V}

/-- The cells of elements, in a row. -/
def flatU (n sz : Nat) (us : Nat → Nat → Value) : List Value := (List.range (n * sz)).map fun k => us (k / sz) (k % sz)
theorem flatU_length (n sz : Nat) (us : Nat → Nat → Value) : (flatU n sz us).length = n * sz := by simp [flatU]
theorem flatU_get {n sz : Nat} {us : Nat → Nat → Value} {i f : Nat} (hi : i < n) (hf : f < sz) : (flatU n sz us)[i * sz + f]? = some (us i f) := by
  have hlt : i * sz + f < n * sz := by
    have : (i + 1) * sz ≤ n * sz := Nat.mul_le_mul_right _ hi
    rw [Nat.add_mul, Nat.one_mul] at this
    omega
  have h1 : (i * sz + f) / sz = i := by
    rw [Nat.mul_comm, Nat.mul_add_div (by omega), Nat.div_eq_of_lt hf, Nat.add_zero]
  have h2 : (i * sz + f) % sz = f := by
    rw [Nat.mul_comm, Nat.mul_add_mod, Nat.mod_eq_of_lt hf]
  simp [flatU, hlt, h1, h2]
theorem flatU_at {n sz : Nat} {us : Nat → Nat → Value} {k : Nat} {u : Value} (h : (flatU n sz us)[k]? = some u) : k < n * sz ∧ k / sz < n ∧ k % sz < sz ∧ u = us (k / sz) (k % sz) := by
  simp only [flatU, List.getElem?_map, Option.map_eq_some_iff] at h
  obtain ⟨j, hj, rfl⟩ := h
  obtain ⟨h1, rfl⟩ := List.getElem?_eq_some_iff.1 hj
  simp at h1
  have hsz : 0 < sz := by
    rcases Nat.eq_zero_or_pos sz with h | h
    · subst h; simp at h1
    · exact h
  exact ⟨h1, (Nat.div_lt_iff_lt_mul hsz).2 h1, Nat.mod_lt _ hsz, by simp⟩


theorem St.drew (hr : Rel cx g H w) (ho : Hok H) : St cx g H w g H w.drew where
  rel := ⟨hr.im, hr.gl, hr.obj, hr.dis, hr.dim, hr.lt⟩
  ok := ho
  im := fun _ _ _ h => h
  loc := fun _ _ => rfl
  next := Nat.le_refl _
  low := rfl
  old := fun _ _ => rfl
  mu := fun _ _ h => h
  os := rfl
  tape := rfl
  output := rfl
  size := Nat.le_refl _
  blocks := fun _ _ _ => rfl
  newb := fun id l h1 h2 h3 _ => ⟨id, l, h1, h2, h3, rfl⟩
  newim := fun b o h1 h2 _ => absurd h2 h1

/-- An object is forgotten. -/
theorem St.drop (hr : Rel cx g H w) (ho : Hok H) {id : Nat} (hlow : H.low ≤ id) : St cx g H w g (H.set id .gone) w := by
  have hmu : ∀ i, ((H.set id .gone).obj i).mu = true → (H.obj i).mu = true := fun i h => by
    simp only [Hp.set] at h
    split at h
    · simp [O.mu] at h
    · exact h
  refine ⟨⟨hr.im, hr.gl, ?_, fun i j l l' a b => hr.dis i j l l' (hmu i a) (hmu j b), fun i l o a => hr.dim i l o (hmu i a), hr.lt⟩, ⟨?_, ho.low⟩, fun _ _ _ h => h, fun _ _ => rfl, Nat.le_refl _, rfl, ?_, fun i _ a => hmu i a, rfl, rfl, rfl, Nat.le_refl _, fun _ _ _ => rfl,
    fun i l a b c _ => ⟨i, l, a, hmu i b, c, rfl⟩, fun _ _ a b _ => absurd b a⟩
  · intro i l hl
    simp only [Hp.set]
    split
    · simp [ObjR]
    · exact hr.obj i l hl
  · intro i hi
    simp only [Hp.set] at hi ⊢
    split
    · rfl
    · exact ho.gone i hi
  · intro i hi
    simp only [Hp.set]
    rw [if_neg (by omega)]

/-- An object goes on under a new name, in its own block. -/
theorem St.renew (hr : Rel cx g H w) (ho : Hok H) (hf : g.loc H.next = none) {id : Nat} {l : Loc} {o' : O} {w' : World} (hlow : H.low ≤ id) (hm : (H.obj id).mu = true) (hl : g.loc id = some l)
    (hw : ∀ k, k ≠ l.b → w'.heap[k]? = w.heap[k]?) (hs : w'.heap.size = w.heap.size) (h1 : w'.os = w.os) (h2 : w'.tape = w.tape) (h3 : w'.output = w.output)
    (hO : ObjR (g.add H.next l) w' l o') : St cx g H w (g.add H.next l) ((H.set id .gone).new o') w' := by
  have hid : id < H.next := by
    by_cases h : H.next ≤ id
    · have := ho.gone id h; rw [this] at hm; cases hm
    · omega
  have hle := g.add_le (l := l) hf
  have hobj : ∀ i, ((H.set id .gone).new o').obj i = if i = H.next then o' else if i = id then .gone else H.obj i := fun i => rfl
  have hmu : ∀ i, i ≠ H.next → (((H.set id .gone).new o').obj i).mu = true → i ≠ id ∧ (H.obj i).mu = true := fun i hi h => by
    rw [hobj, if_neg hi] at h
    split at h
    · simp [O.mu] at h
    · exact ⟨by assumption, h⟩
  have hloc : ∀ i l', (g.add H.next l).loc i = some l' → (i = H.next ∧ l' = l) ∨ (i ≠ H.next ∧ g.loc i = some l') := fun i l' h => by
    simp only [G.add] at h
    split at h
    · injection h with h; exact .inl ⟨by assumption, h.symm⟩
    · exact .inr ⟨by assumption, h⟩
  refine ⟨⟨?_, hr.gl, ?_, ?_, ?_, ?_⟩, ⟨?_, ?_⟩, fun _ _ _ h => h, ?_, by simp [Hp.new, Hp.set], rfl, ?_, ?_, h1, h2, h3, by omega, ?_, ?_, fun _ _ a b _ => absurd b a⟩
  · intro b off u hu
    have hne : b ≠ l.b := by
      rintro rfl
      have hu' : g.im l.b off = some u := hu
      rw [hr.dim id l off hm hl] at hu'; cases hu'
    rw [cell_keep w w' (hw b hne)]
    exact hr.im _ _ _ hu
  · intro i l' hl'
    rw [hobj]
    rcases hloc i l' hl' with ⟨rfl, rfl⟩ | ⟨hi, hl2⟩
    · rw [if_pos rfl]; exact hO
    · rw [if_neg hi]
      split
      · simp [ObjR]
      · rename_i hne
        refine (hr.obj i l' hl2).keep hle (fun hm' => hw _ ?_)
        intro hb
        exact hne (hr.dis i id l' l hm' hm hl2 hl hb)
  · intro i j l1 l2 a1 a2 a3 a4 a5
    rcases hloc i l1 a3 with ⟨rfl, rfl⟩ | ⟨hi, b3⟩ <;> rcases hloc j l2 a4 with ⟨rfl, rfl⟩ | ⟨hj, b4⟩
    · rfl
    · obtain ⟨c1, c2⟩ := hmu j hj a2
      exact absurd (hr.dis j id l2 l1 c2 hm b4 hl a5.symm) c1
    · obtain ⟨c1, c2⟩ := hmu i hi a1
      exact absurd (hr.dis i id l1 l2 c2 hm b3 hl a5) c1
    · exact hr.dis i j l1 l2 (hmu i hi a1).2 (hmu j hj a2).2 b3 b4 a5
  · intro i l' off a1 a2
    rcases hloc i l' a2 with ⟨rfl, rfl⟩ | ⟨hi, b2⟩
    · exact hr.dim id l' off hm hl
    · exact hr.dim i l' off (hmu i hi a1).2 b2
  · intro i l' hl'
    rw [hs]
    rcases hloc i l' hl' with ⟨rfl, rfl⟩ | ⟨hi, b2⟩
    · exact hr.lt id l' hl
    · exact hr.lt i l' b2
  · intro i hi
    rw [hobj]
    simp only [Hp.new, Hp.set] at hi
    rw [if_neg (by omega), if_neg (by omega)]
    exact ho.gone i (by omega)
  · have := ho.low; simp [Hp.new, Hp.set]; omega
  · intro i hi
    simp only [Hp.new, Hp.set] at hi
    simp only [G.add]
    rw [if_neg (by omega)]
  · intro i hi
    have := ho.low
    rw [hobj, if_neg (by omega), if_neg (by omega)]
  · intro i hi a
    exact (hmu i (by omega) a).2
  · intro k hk hn
    refine hw k ?_
    rintro rfl
    exact hn ⟨id, l, hlow, hm, hl, rfl⟩
  · intro i l' a1 a2 a3 _
    rcases hloc i l' a3 with ⟨rfl, rfl⟩ | ⟨hi, b2⟩
    · exact ⟨id, l', hlow, hm, hl, rfl⟩
    · exact ⟨i, l', a1, (hmu i hi a2).2, b2, rfl⟩

end
end Go.Ev
