/- Plain laws, first part: texts, their order, and groups. -/
import Derived.Test.YtolplbfonlhbhaaC11
set_option linter.unusedVariables false
set_option linter.unusedSectionVars false
set_option linter.unusedSimpArgs false
namespace Go.Proofs.Ytolplbfonlhbhaa
open Go Go.Eng

abbrev bl (a : ByteArray) : List UInt8 := a.data.toList
theorem bl_inj {a b : ByteArray} (h : bl a = bl b) : a = b := by
  obtain ⟨⟨x⟩⟩ := a; obtain ⟨⟨y⟩⟩ := b
  simp only [bl] at h
  rw [h]
theorem bl_len (a : ByteArray) : (bl a).length = a.size := by
  show a.data.toList.length = a.data.size
  simp
theorem u8_tri (a b : UInt8) : a < b ∨ a = b ∨ b < a := by
  rcases Nat.lt_trichotomy a.toNat b.toNat with h | h | h
  · exact .inl (UInt8.lt_iff_toNat_lt.2 h)
  · exact .inr (.inl (UInt8.toNat_inj.1 h))
  · exact .inr (.inr (UInt8.lt_iff_toNat_lt.2 h))
theorem strEq_iff {a b : ByteArray} : strEq a b = true ↔ a = b := by
  rw [strEq, ByteArray.toList_eq, ByteArray.toList_eq, beq_iff_eq]
  exact ⟨bl_inj, fun h => by rw [h]⟩
theorem bl_extract (a : ByteArray) (i j : Nat) : bl (a.extract i j) = ((bl a).take j).drop i := by
  simp [bl, ByteArray.data_extract, Array.toList_extract, List.extract_eq_take_drop, List.drop_take]
theorem bl_append (a b : ByteArray) : bl (a ++ b) = bl a ++ bl b := by simp [bl]
theorem hasPre_iff {a b : ByteArray} : hasPre a b = true ↔ bl b <+: bl a := by
  simp only [hasPre, Bool.and_eq_true, decide_eq_true_eq, strEq_iff]
  constructor
  · rintro ⟨h1, h2⟩
    have := bl_extract a 0 b.size
    rw [h2, List.drop_zero] at this
    rw [this]; exact List.take_prefix _ _
  · intro h
    have hl : b.size ≤ a.size := by have := h.length_le; rwa [bl_len, bl_len] at this
    refine ⟨by omega, bl_inj ?_⟩
    rw [bl_extract, List.drop_zero, ← bl_len b]
    exact (List.prefix_iff_eq_take.1 h).symm

/-! ### the order of texts -/
def lt : List UInt8 → List UInt8 → Bool := Op.bytesLess
theorem strLt_eq (a b : ByteArray) : strLt a b = lt (bl a) (bl b) := by rw [strLt, ByteArray.toList_eq, ByteArray.toList_eq]; rfl
theorem lt_nil (x : List UInt8) : lt x [] = false := by cases x <;> rfl
theorem nil_lt (a : UInt8) (x : List UInt8) : lt [] (a :: x) = true := rfl
theorem cons_lt (a b : UInt8) (x y : List UInt8) : lt (a :: x) (b :: y) = true ↔ a < b ∨ a = b ∧ lt x y = true := by
  show (decide (a < b) || (a == b && Op.bytesLess x y)) = true ↔ _
  simp [lt]
theorem lt_irrefl : ∀ x, lt x x = false
  | [] => rfl
  | a :: x => by
    cases h : lt (a :: x) (a :: x) with
    | false => rfl
    | true =>
      rcases (cons_lt _ _ _ _).1 h with h | ⟨_, h⟩
      · exact absurd h (UInt8.lt_irrefl a)
      · rw [lt_irrefl x] at h; cases h
theorem lt_trans : ∀ {x y z}, lt x y = true → lt y z = true → lt x z = true
  | _, [], _, h, _ => by rw [lt_nil] at h; cases h
  | _, _ :: _, [], _, h => by rw [lt_nil] at h; cases h
  | [], b :: y, c :: z, _, _ => rfl
  | a :: x, b :: y, c :: z, h1, h2 => by
    rw [cons_lt] at *
    rcases h1 with h1 | ⟨rfl, h1⟩ <;> rcases h2 with h2 | ⟨rfl, h2⟩
    · exact .inl (UInt8.lt_trans h1 h2)
    · exact .inl h1
    · exact .inl h2
    · exact .inr ⟨rfl, lt_trans h1 h2⟩
theorem lt_tri : ∀ x y, lt x y = true ∨ x = y ∨ lt y x = true
  | [], [] => .inr (.inl rfl)
  | [], _ :: _ => .inl rfl
  | _ :: _, [] => .inr (.inr rfl)
  | a :: x, b :: y => by
    simp only [cons_lt]
    rcases u8_tri a b with h | h | h
    · exact .inl (.inl h)
    · subst h
      rcases lt_tri x y with h | h | h
      · exact .inl (.inr ⟨rfl, h⟩)
      · subst h; exact .inr (.inl rfl)
      · exact .inr (.inr (.inr ⟨rfl, h⟩))
    · exact .inr (.inr (.inl h))
theorem lt_asymm {x y} (h : lt x y = true) : lt y x = false := by
  cases h' : lt y x with
  | false => rfl
  | true => have := lt_trans h h'; rw [lt_irrefl] at this; cases this
theorem not_lt_iff {x y} : lt x y = false ↔ x = y ∨ lt y x = true := by
  constructor
  · intro h
    rcases lt_tri x y with h' | h' | h'
    · rw [h] at h'; cases h'
    · exact .inl h'
    · exact .inr h'
  · rintro (rfl | h)
    · exact lt_irrefl x
    · exact lt_asymm h
/-- what lies between two texts that begin alike begins so, too -/
theorem pre_between : ∀ {g a b c : List UInt8}, g <+: a → g <+: c → lt b a = false → lt c b = false → g <+: b
  | [], _, b, _, _, _, _, _ => List.nil_prefix
  | x :: g, a, b, c, h1, h3, h4, h5 => by
    obtain ⟨a', rfl, p1⟩ : ∃ a', a = x :: a' ∧ g <+: a' := by
      obtain ⟨t, rfl⟩ := h1; exact ⟨g ++ t, rfl, ⟨t, rfl⟩⟩
    obtain ⟨c', rfl, p3⟩ : ∃ c', c = x :: c' ∧ g <+: c' := by
      obtain ⟨t, rfl⟩ := h3; exact ⟨g ++ t, rfl, ⟨t, rfl⟩⟩
    cases b with
    | nil => rw [nil_lt] at h4; cases h4
    | cons y b =>
      have e1 : ¬ (y < x ∨ y = x ∧ lt b a' = true) := by rw [← cons_lt, h4]; simp
      have e2 : ¬ (x < y ∨ x = y ∧ lt c' b = true) := by rw [← cons_lt, h5]; simp
      have hxy : y = x := by
        rcases u8_tri y x with h | h | h
        · exact (e1 (.inl h)).elim
        · exact h
        · exact (e2 (.inl h)).elim
      subst hxy
      have h4' : lt b a' = false := by cases h : lt b a' with | false => rfl | true => exact (e1 (.inr ⟨rfl, h⟩)).elim
      have h5' : lt c' b = false := by cases h : lt c' b with | false => rfl | true => exact (e2 (.inr ⟨rfl, h⟩)).elim
      obtain ⟨t, rfl⟩ := pre_between (g := g) (a := a') (b := b) (c := c') p1 p3 h4' h5'
      exact ⟨t, rfl⟩
/-- a text is not below what it begins with -/
theorem pre_le {g a : List UInt8} (h : g <+: a) : lt a g = false := by
  induction g generalizing a with
  | nil => exact lt_nil _
  | cons x g ih =>
    obtain ⟨t, rfl⟩ := h
    cases h' : lt (x :: g ++ t) (x :: g) with
    | false => rfl
    | true =>
      rcases (cons_lt _ _ _ _).1 h' with h' | ⟨_, h'⟩
      · exact absurd h' (UInt8.lt_irrefl x)
      · have := ih (a := g ++ t) ⟨t, rfl⟩
        rw [show lt (g.append t) g = lt (g ++ t) g from rfl, this] at h'; cases h'

/-! ### groups -/
/-- g is the group of a key: what it has up to the first mark behind the prefix -/
def IsGrp (k pre mark g : List UInt8) : Prop :=
  mark ≠ [] ∧ pre <+: k ∧ ∃ i, pre.length ≤ i ∧ g = k.take i ++ mark ∧ mark <+: k.drop i ∧ ∀ j, pre.length ≤ j → j < i → ¬ mark <+: k.drop j
theorem IsGrp.uniq {k pre mark g g' : List UInt8} (h : IsGrp k pre mark g) (h' : IsGrp k pre mark g') : g = g' := by
  obtain ⟨_, _, i, h1, rfl, h2, h3⟩ := h
  obtain ⟨_, _, i', h1', rfl, h2', h3'⟩ := h'
  obtain rfl : i = i' := by
    rcases Nat.lt_trichotomy i i' with h | h | h
    · exact (h3' i h1 h h2).elim
    · exact h
    · exact (h3 i' h1' h h2').elim
  rfl
theorem IsGrp.pre {k pre mark g : List UInt8} (h : IsGrp k pre mark g) : g <+: k := by
  obtain ⟨_, _, i, h1, rfl, ⟨t, h2⟩, h3⟩ := h
  exact ⟨t, by rw [List.append_assoc, h2, List.take_append_drop]⟩
theorem IsGrp.ne {k pre mark g : List UInt8} (h : IsGrp k pre mark g) : g ≠ [] := by
  obtain ⟨h0, _, i, h1, rfl, h2, h3⟩ := h
  simp [h0]
/-- a key that begins with another one's group has that group -/
theorem IsGrp.move {k k' pre mark g : List UInt8} (h : IsGrp k pre mark g) (hp : g <+: k') : IsGrp k' pre mark g := by
  have hgk := h.pre
  obtain ⟨h0, hpk, i, h1, e, h2, h3⟩ := h
  have hik : i ≤ k.length := by
    rcases Nat.lt_or_ge k.length i with h | h
    · rw [List.drop_of_length_le (by omega)] at h2
      exact (h0 (List.prefix_nil.1 h2)).elim
    · exact h
  have hgl : g.length = i + mark.length := by rw [e]; simp; omega
  have hgt : g.take i = k.take i := by
    obtain ⟨t, ht⟩ := hgk
    rw [← ht, List.take_append_of_le_length (by omega)]
  have hgd : g.drop i = mark := by
    rw [e, List.drop_append, List.drop_of_length_le (by rw [List.length_take]; omega), List.length_take, Nat.min_eq_left hik]; simp
  obtain ⟨t, rfl⟩ := hp
  have h4 : ∀ j, j ≤ i → (mark <+: (g ++ t).drop j ↔ mark <+: g.drop j) := by
    intro j hj
    rw [List.drop_append_of_le_length (by omega)]
    constructor
    · intro h
      refine List.prefix_of_prefix_length_le h (List.prefix_append _ _) ?_
      rw [List.length_drop]; omega
    · intro h; exact h.trans (List.prefix_append _ _)
  have h5 : ∀ j, j ≤ i → (mark <+: k.drop j ↔ mark <+: g.drop j) := by
    intro j hj
    obtain ⟨u, hu⟩ := hgk
    rw [← hu, List.drop_append_of_le_length (by omega)]
    constructor
    · intro h
      refine List.prefix_of_prefix_length_le h (List.prefix_append _ _) ?_
      rw [List.length_drop]; omega
    · intro h; exact h.trans (List.prefix_append _ _)
  refine ⟨h0, ?_, i, h1, ?_, ?_, fun j hj1 hj2 h => ?_⟩
  · refine (List.prefix_of_prefix_length_le hpk hgk (by omega)).trans (List.prefix_append _ _)
  · rw [List.take_append_of_le_length (by omega), hgt, e]
  · rw [h4 i (Nat.le_refl _), hgd]; exact List.prefix_refl _
  · exact h3 j hj1 hj2 ((h5 j (by omega)).2 ((h4 j (by omega)).1 h))

theorem groupAt_spec (key mark : ByteArray) (pre : List UInt8) (h0 : bl mark ≠ []) (hp : pre <+: bl key) : ∀ (n i : Nat), i + n = key.size → pre.length ≤ i → (∀ j, pre.length ≤ j → j < i → ¬ bl mark <+: (bl key).drop j) →
    ((groupAt key mark i n).2 = true ∧ IsGrp (bl key) pre (bl mark) (bl (groupAt key mark i n).1)) ∨ (groupAt key mark i n = (nil0, false) ∧ ∀ g, ¬ IsGrp (bl key) pre (bl mark) g)
  | 0, i, hn, hi, hno => by
    refine .inr ⟨rfl, ?_⟩
    rintro g ⟨_, _, j, h1, _, h2, _⟩
    rcases Nat.lt_or_ge j i with h | h
    · exact hno j h1 h h2
    · rw [List.drop_of_length_le (by rw [bl_len]; omega)] at h2
      exact h0 (List.prefix_nil.1 h2)
  | n + 1, i, hn, hi, hno => by
    have hx : bl (key.extract i key.size) = (bl key).drop i := by rw [bl_extract, List.take_of_length_le (by rw [bl_len]; exact Nat.le_refl _)]
    rw [groupAt]
    split
    · rename_i hh
      rw [hasPre_iff, hx] at hh
      refine .inl ⟨rfl, h0, hp, i, hi, ?_, hh, hno⟩
      rw [bl_append, bl_extract, List.drop_zero]
    · rename_i hh
      rw [hasPre_iff, hx] at hh
      refine groupAt_spec key mark pre h0 hp n (i + 1) (by omega) (by omega) fun j h1 h2 => ?_
      rcases Nat.lt_or_ge j i with h | h
      · exact hno j h1 h
      · obtain rfl : j = i := by omega
        exact hh
theorem nil0_iff {a : ByteArray} : strEq a nil0 = true ↔ bl a = [] := by
  rw [strEq_iff]
  exact ⟨fun h => by rw [h], fun h => bl_inj (h.trans rfl)⟩
theorem refGroup_spec (key pre mark : ByteArray) :
    ((refGroup key pre mark).2 = true ∧ IsGrp (bl key) (bl pre) (bl mark) (bl (refGroup key pre mark).1)) ∨ (refGroup key pre mark = (nil0, false) ∧ ∀ g, ¬ IsGrp (bl key) (bl pre) (bl mark) g) := by
  rw [refGroup]
  split
  · rename_i h
    refine .inr ⟨rfl, ?_⟩
    rintro g ⟨h0, hp, _⟩
    simp only [Bool.or_eq_true, Bool.not_eq_true', nil0_iff] at h
    rcases h with h | h
    · exact h0 h
    · rw [← hasPre_iff, h] at hp; cases hp
  · rename_i h
    simp only [Bool.or_eq_true, Bool.not_eq_true', nil0_iff, not_or, Bool.not_eq_false] at h
    have hp := hasPre_iff.1 h.2
    have hs := hp.length_le
    rw [bl_len, bl_len] at hs
    exact groupAt_spec key mark (bl pre) h.1 hp _ _ (by omega) (by rw [bl_len]; exact Nat.le_refl _) (fun j h1 h2 => by rw [bl_len] at h1; omega)
theorem progGroup_spec (key pre mark : ByteArray) :
    ((progGroup key pre mark).2 = true ∧ IsGrp (bl key) (bl pre) (bl mark) (bl (progGroup key pre mark).1)) ∨ (progGroup key pre mark = (nil0, false) ∧ ∀ g, ¬ IsGrp (bl key) (bl pre) (bl mark) g) := by
  rw [progGroup]
  split
  · rename_i h
    refine .inr ⟨rfl, ?_⟩
    rintro g ⟨h0, hp, _⟩
    simp only [Bool.or_eq_true, Bool.not_eq_true', nil0_iff] at h
    rcases h with h | h
    · rw [cutPre, if_pos (hasPre_iff.2 hp)] at h; cases h
    · exact h0 h
  · rename_i h
    simp only [Bool.or_eq_true, Bool.not_eq_true', nil0_iff, not_or, Bool.not_eq_false] at h
    have h1 := h.1
    have hpre : hasPre key pre = true := by
      cases hh : hasPre key pre with
      | true => rfl
      | false => rw [cutPre, hh] at h1; simp at h1
    have hp := hasPre_iff.1 hpre
    have e1 : (cutPre key pre).1 = key.extract pre.size key.size := by rw [cutPre, if_pos hpre]
    have e2 : bl (cutPre key pre).1 = (bl key).drop (bl pre).length := by
      rw [e1, bl_extract, List.take_of_length_le (by rw [bl_len]; exact Nat.le_refl _), bl_len]
    have hkey : bl key = bl pre ++ bl (cutPre key pre).1 := by
      obtain ⟨t, ht⟩ := hp
      rw [e2, ← ht]; simp
    generalize (cutPre key pre).1 = rest at *
    have hocc : ∀ j, (bl key).drop ((bl pre).length + j) = (bl rest).drop j := by
      intro j; rw [hkey, List.drop_append, List.drop_of_length_le (by omega)]; simp
    have key1 : ∀ j, Lib.occAt (bl rest) (bl mark) j = true ↔ bl mark <+: (bl key).drop ((bl pre).length + j) := by
      intro j; rw [hocc, Lib.occAt, List.isPrefixOf_iff_prefix]
    rcases Lib.index_spec (bl rest) (bl mark) with ⟨h2, h3⟩ | ⟨i, h2, h3, h4, h5⟩
    · have : (cutS rest mark).2.2 = false := by
        show (Lib.cut (bl rest) (bl mark)).2.2 = false
        rw [Lib.cut, if_neg (by omega)]
      rw [this, if_neg (by simp)]
      refine .inr ⟨rfl, ?_⟩
      rintro g ⟨_, _, i, hi1, _, hi2, _⟩
      obtain ⟨j, rfl⟩ : ∃ j, i = (bl pre).length + j := ⟨i - (bl pre).length, by omega⟩
      rcases Nat.lt_or_ge (bl rest).length j with hj | hj
      · rw [hocc, List.drop_of_length_le (by omega)] at hi2
        exact h.2 (List.prefix_nil.1 hi2)
      · have := h3 j hj
        rw [← Bool.not_eq_true, key1] at this
        exact this hi2
    · have e3 : (cutS rest mark).2.2 = true := by
        show (Lib.cut (bl rest) (bl mark)).2.2 = true
        rw [Lib.cut, if_pos (by omega)]
      have e4 : bl (cutS rest mark).1 = (bl rest).take i := by
        show (Lib.cut (bl rest) (bl mark)).1.toArray.toList = _
        rw [Lib.cut, if_pos (by omega), h2]; simp
      rw [if_pos e3]
      refine .inl ⟨rfl, h.2, hp, (bl pre).length + i, by omega, ?_, (key1 i).1 h4, fun j hj1 hj2 hh => ?_⟩
      · rw [bl_append, bl_append, e4, hkey, List.take_length_add_append]
      · obtain ⟨m, rfl⟩ : ∃ m, j = (bl pre).length + m := ⟨j - (bl pre).length, by omega⟩
        have := h5 m (by omega)
        rw [← Bool.not_eq_true, key1] at this
        exact this hh
theorem group_eq (key pre mark : ByteArray) : progGroup key pre mark = refGroup key pre mark := by
  rcases progGroup_spec key pre mark with ⟨h1, h2⟩ | ⟨h1, h2⟩ <;> rcases refGroup_spec key pre mark with ⟨h3, h4⟩ | ⟨h3, h4⟩
  · exact Prod.ext (bl_inj (h2.uniq h4)) (by rw [h1, h3])
  · exact (h4 _ h2).elim
  · exact (h2 _ h4).elim
  · rw [h1, h3]
end Go.Proofs.Ytolplbfonlhbhaa
