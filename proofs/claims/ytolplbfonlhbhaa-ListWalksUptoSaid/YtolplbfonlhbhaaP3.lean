/- Plain laws, third part: behind a row of the list of keys comes the rest of the list. -/
import Derived.Test.YtolplbfonlhbhaaP2
set_option linter.unusedVariables false
set_option linter.unusedSectionVars false
set_option linter.unusedSimpArgs false
namespace Go.Proofs.Ytolplbfonlhbhaa
open Go Go.Eng

theorem le_not (a b : ByteArray) : (strLt a b || strEq a b) = !strLt b a := by
  rw [strLt_eq, strLt_eq]
  rcases lt_tri (bl a) (bl b) with h | h | h
  · rw [h, lt_asymm h]; rfl
  · have : a = b := bl_inj h
    subst this
    rw [lt_irrefl, strEq_iff.2 rfl]; rfl
  · rw [h, lt_asymm h]
    cases he : strEq a b with
    | false => rfl
    | true => rw [strEq_iff.1 he, lt_irrefl] at h; cases h
theorem lt_app : ∀ {g k t : List UInt8}, lt g k = true → ¬ g <+: k → lt (g ++ t) k = true
  | [], k, t, _, h => (h List.nil_prefix).elim
  | x :: g, [], t, h, _ => by rw [lt_nil] at h; cases h
  | x :: g, y :: k, t, h, hn => by
    rw [List.cons_append, cons_lt]
    rcases (cons_lt _ _ _ _).1 h with h | ⟨rfl, h1⟩
    · exact .inl h
    · exact .inr ⟨rfl, lt_app h1 fun ⟨s, e⟩ => hn ⟨s, by rw [List.cons_append, e]⟩⟩
theorem app_lt {g k t : List UInt8} (h : lt (g ++ t) k = true) : lt g k = true := by
  rcases not_lt_iff.1 (pre_le (g := g) (a := g ++ t) ⟨t, rfl⟩) with e | e
  · rwa [e] at h
  · exact lt_trans e h
theorem lt_of_pre {a g k : List UInt8} (h : lt a g = true) (hp : g <+: k) : lt a k = true := by
  rcases not_lt_iff.1 (pre_le hp) with e | e
  · rwa [← e] at h
  · exact lt_trans h e

/-- where the next page begins -/
def aft (t : ByteArray) (x : RowL) : ByteArray := if x.group = true then x.key ++ t else x.key
/-- a row that an object gives -/
def FromO (pre mark : ByteArray) (o : ObjL) (r : RowL) : Prop :=
  (r.group = false ∧ r.key = o.key ∧ ∀ g, ¬ IsGrp (bl o.key) (bl pre) (bl mark) g) ∨ (r.group = true ∧ IsGrp (bl o.key) (bl pre) (bl mark) (bl r.key))
abbrev above (x r : RowL) : Bool := strLt x.key r.key

theorem aft_down {t : ByteArray} {x : RowL} {y : ByteArray} (h : strLt (aft t x) y = true) : strLt x.key y = true := by
  unfold aft at h
  split at h
  · rw [strLt_eq, bl_append] at h
    rw [strLt_eq]
    exact app_lt h
  · exact h
theorem aft_key {pre mark t : ByteArray} {x : RowL} {o' o : ObjL} (hx : FromO pre mark o' x) (hn : ∀ g, ¬ IsGrp (bl o.key) (bl pre) (bl mark) g) (h : strLt x.key o.key = true) : strLt (aft t x) o.key = true := by
  unfold aft
  split
  · rename_i hg
    rcases hx with ⟨h1, _⟩ | ⟨_, h2⟩
    · rw [h1] at hg; cases hg
    · rw [strLt_eq] at h
      rw [strLt_eq, bl_append]
      exact lt_app h fun hp => hn _ (h2.move hp)
  · exact h
theorem aft_grp {pre mark t g : ByteArray} {x : RowL} {o' o : ObjL} (hx : FromO pre mark o' x) (hg : IsGrp (bl o.key) (bl pre) (bl mark) (bl g)) (h : strLt x.key g = true) : strLt (aft t x) g = true := by
  unfold aft
  split
  · rename_i hgx
    rcases hx with ⟨h1, _⟩ | ⟨_, h2⟩
    · rw [h1] at hgx; cases hgx
    · rw [strLt_eq] at h
      rw [strLt_eq, bl_append]
      refine lt_app h fun hp => ?_
      have e := (h2.move (hp.trans hg.pre)).uniq hg
      rw [e, lt_irrefl] at h
      cases h
  · exact h
theorem nil_below {k : ByteArray} (h : 1 ≤ k.size) : strLt nil0 k = true := by
  rw [strLt_eq]
  have h1 : (bl k).length = k.size := bl_len k
  cases hk : bl k with
  | nil => rw [hk] at h1; simp at h1; omega
  | cons a r => rfl

/-- the list from a row's mark on is what of the list is above the row -/
theorem rk_filter {pre mark t : ByteArray} {x : RowL} {o' : ObjL} (hx : FromO pre mark o' x) : ∀ (os : List ObjL) (rows : List RowL), (∀ o ∈ os, 1 ≤ o.key.size) →
    rkeys pre mark (aft t x) os (rows.filter (above x)) = (rkeys pre mark nil0 os rows).filter (above x)
  | [], rows, _ => by rw [rkeys, rkeys]
  | o :: os, rows, ho => by
    have ih := fun rows => rk_filter (t := t) hx os rows fun o h => ho o (List.mem_cons_of_mem _ h)
    have hk := nil_below (ho o (List.mem_cons_self ..))
    rw [rkeys, rkeys]
    simp only [told, le_not, hk, Bool.not_true, Bool.or_false]
    by_cases hs : (!hasPre o.key pre || (lastV o).marker) = true
    · rw [if_pos hs, if_pos (by rcases Bool.or_eq_true _ _ ▸ hs with h | h <;> rw [h] <;> simp)]
      exact ih rows
    · rw [if_neg hs]
      have hs' : ∀ c : Bool, (!hasPre o.key pre || c || (lastV o).marker) = c := by
        intro c
        simp only [Bool.or_eq_true, not_or, Bool.not_eq_true] at hs
        rw [hs.1, hs.2]; simp
      rw [hs']
      rcases refGroup_spec o.key pre mark with ⟨hg, hG⟩ | ⟨hg, hN⟩
      · rw [if_neg (c := (refGroup o.key pre mark).2 = false) (by rw [hg]; simp), if_neg (c := (refGroup o.key pre mark).2 = false) (by rw [hg]; simp)]
        generalize hgg : (refGroup o.key pre mark).1 = g at hG ⊢
        have hgk : strLt nil0 g = true := by
          have := hG.ne
          rw [strLt_eq]
          cases hb : bl g with
          | nil => exact (this hb).elim
          | cons a r => rfl
        simp only [hgk, Bool.not_true, Bool.false_or]
        by_cases hin : (rows.any fun r => r.group && strEq r.key g) = true
        · rw [if_pos hin]
          split
          · exact ih rows
          · rw [if_pos]
            · exact ih rows
            · by_cases ha : strLt (aft t x) g = true
              · have ha' := aft_down ha
                simp only [Bool.or_eq_true, List.any_eq_true, List.mem_filter] at hin ⊢
                obtain ⟨r, hr, hr2⟩ := hin
                refine .inr ⟨r, ⟨hr, ?_⟩, hr2⟩
                simp only [Bool.and_eq_true] at hr2
                rw [above, strEq_iff.1 hr2.2]
                exact ha'
              · simp [ha]
        · rw [if_neg hin, ← ih]
          rw [List.filter_append]
          by_cases ha : strLt x.key g = true
          · have ha' := aft_grp (t := t) hx hG ha
            have hko : strLt (aft t x) o.key = true := by
              rw [strLt_eq] at ha' ⊢
              exact lt_of_pre ha' hG.pre
            have hnot : ((rows.filter (above x)).any fun r => r.group && strEq r.key g) = false := by
              rw [Bool.eq_false_iff]
              intro h
              refine hin ?_
              simp only [List.any_eq_true, List.mem_filter] at h ⊢
              obtain ⟨r, hr, h2⟩ := h
              exact ⟨r, hr.1, h2⟩
            rw [if_neg (by rw [hko]; simp), if_neg (by rw [ha', hnot]; simp)]
            congr 2
            simp [above, grpRow, ha]
          · have hn : strLt (aft t x) g = false := by
              rw [Bool.eq_false_iff]
              exact fun h => ha (aft_down h)
            have e : ([grpRow g] : List RowL).filter (above x) = [] := by simp [above, grpRow, ha]
            rw [e, List.append_nil]
            split
            · rfl
            · rw [if_pos (by rw [hn]; rfl)]
      · rw [if_pos (c := (refGroup o.key pre mark).2 = false) (by rw [hg]), if_pos (c := (refGroup o.key pre mark).2 = false) (by rw [hg]), ← ih, List.filter_append]
        by_cases ha : strLt x.key o.key = true
        · have ha' := aft_key (t := t) hx hN ha
          rw [if_neg (by rw [ha']; simp)]
          congr 2
          simp [above, keyRow, ha]
        · have hn : strLt (aft t x) o.key = false := by
            rw [Bool.eq_false_iff]
            exact fun h => ha (aft_down h)
          have e : ([keyRow o] : List RowL).filter (above x) = [] := by simp [above, keyRow, ha]
          rw [e, List.append_nil, if_pos (by rw [hn]; rfl)]

/-- the rows come from objects, and they rise -/
theorem rk_sorted {pre mark after : ByteArray} : ∀ (os : List ObjL) (seen : List ObjL) (rows : List RowL), os.Pairwise (fun x y => strLt x.key y.key = true) → (∀ s ∈ seen, ∀ o ∈ os, strLt s.key o.key = true) →
    (∀ r ∈ rows, ∃ o ∈ seen, FromO pre mark o r) → rows.Pairwise (fun x y => strLt x.key y.key = true) →
    (∀ r ∈ rkeys pre mark after os rows, ∃ o, FromO pre mark o r) ∧ (rkeys pre mark after os rows).Pairwise (fun x y => strLt x.key y.key = true)
  | [], seen, rows, _, _, hr, hp => by
    rw [rkeys]
    exact ⟨fun r h => (hr r h).imp fun o h => h.2, hp⟩
  | o :: os, seen, rows, ho, hs, hr, hp => by
    rw [List.pairwise_cons] at ho
    have hs1 : ∀ s ∈ o :: seen, ∀ q ∈ os, strLt s.key q.key = true := by
      intro s h q hq
      rcases List.mem_cons.1 h with rfl | h
      · exact ho.1 q hq
      · exact hs s h q (List.mem_cons_of_mem _ hq)
    have same := rk_sorted (after := after) os (o :: seen) rows ho.2 hs1 (fun r h => (hr r h).imp fun s h => ⟨List.mem_cons_of_mem _ h.1, h.2⟩) hp
    have more : ∀ n, FromO pre mark o n → (∀ r ∈ rows, strLt r.key n.key = true) → (∀ r ∈ rkeys pre mark after os (rows ++ [n]), ∃ o, FromO pre mark o r) ∧ (rkeys pre mark after os (rows ++ [n])).Pairwise (fun x y => strLt x.key y.key = true) := by
      intro n hn hlt
      refine rk_sorted os (o :: seen) (rows ++ [n]) ho.2 hs1 (fun r h => ?_) (List.pairwise_append.2 ⟨hp, List.pairwise_singleton _ _, fun r h q hq => by rw [List.mem_singleton] at hq; subst hq; exact hlt r h⟩)
      rcases List.mem_append.1 h with h | h
      · exact (hr r h).imp fun s h => ⟨List.mem_cons_of_mem _ h.1, h.2⟩
      · rw [List.mem_singleton] at h
        subst h
        exact ⟨o, List.mem_cons_self .., hn⟩
    have hso : ∀ s ∈ seen, lt (bl s.key) (bl o.key) = true := fun s h => by have := hs s h o (List.mem_cons_self ..); rwa [strLt_eq] at this
    rw [rkeys]
    split
    · exact same
    · rcases refGroup_spec o.key pre mark with ⟨hg, hG⟩ | ⟨hg, hN⟩
      · rw [if_neg (by rw [hg]; simp)]
        split
        · exact same
        · rename_i ht
          refine more _ (.inr ⟨rfl, hG⟩) fun r h => ?_
          obtain ⟨s, h1, h2⟩ := hr r h
          have h3 := hso s h1
          show strLt r.key (refGroup o.key pre mark).1 = true
          generalize (refGroup o.key pre mark).1 = g at hG ht ⊢
          rw [strLt_eq]
          cases hc : lt (bl r.key) (bl g) with
          | true => rfl
          | false =>
            exfalso
            rcases h2 with ⟨_, h2, h4⟩ | ⟨h5, h4⟩
            · rw [h2] at hc
              exact h4 _ (hG.move (pre_between (List.prefix_refl _) hG.pre hc (lt_asymm h3)))
            · have hsg : lt (bl s.key) (bl g) = false := by
                cases hd : lt (bl s.key) (bl g) with
                | false => rfl
                | true =>
                  have := pre_le h4.pre
                  rcases not_lt_iff.1 this with e | e
                  · rw [e] at hd; rw [hd] at hc; cases hc
                  · rw [lt_trans e hd] at hc; cases hc
              have hgs := pre_between (List.prefix_refl _) hG.pre hsg (lt_asymm h3)
              have e := (hG.move hgs).uniq h4
              refine ht ?_
              rw [told, Bool.or_eq_true, List.any_eq_true]
              exact .inr ⟨r, h, by rw [h5, strEq_iff.2 (bl_inj e).symm]; rfl⟩
      · rw [if_pos (by rw [hg])]
        refine more _ (.inl ⟨rfl, rfl, hN⟩) fun r h => ?_
        obtain ⟨s, h1, h2⟩ := hr r h
        have h3 := hso s h1
        show strLt r.key o.key = true
        rw [strLt_eq]
        rcases h2 with ⟨_, h2, _⟩ | ⟨_, h4⟩
        · rw [h2]; exact h3
        · rcases not_lt_iff.1 (pre_le h4.pre) with e | e
          · rw [← e]; exact h3
          · exact lt_trans e h3

/-- THE NEXT PAGE: from a row's mark on comes what came behind the row -/
theorem keys_next {b : BucL} (h : goodB b) {pre mark t : ByteArray} {A B : List RowL} {x : RowL} (hf : rkeys pre mark nil0 b.objs [] = A ++ x :: B) : rkeys pre mark (aft t x) b.objs [] = B := by
  obtain ⟨h1, h2⟩ := rk_sorted (pre := pre) (mark := mark) (after := nil0) b.objs [] [] (goodB_pair h) (fun s h => by simp at h) (fun r h => by simp at h) List.Pairwise.nil
  rw [hf] at h1 h2
  obtain ⟨o', hx⟩ := h1 x (by simp)
  have := rk_filter (t := t) hx b.objs [] fun o ho => (goodB_mem h ho).1.1
  rw [List.filter_nil] at this
  rw [this, hf, List.filter_append, List.filter_cons]
  rw [List.pairwise_append, List.pairwise_cons] at h2
  obtain ⟨_, ⟨h3, _⟩, h4⟩ := h2
  have hirr : above x x = false := by rw [above, strLt_eq, lt_irrefl]
  have hA : A.filter (above x) = [] := by
    rw [List.filter_eq_nil_iff]
    intro a ha
    have := h4 a ha x (List.mem_cons_self ..)
    rw [above]
    rw [strLt_eq] at this ⊢
    rw [lt_asymm this]; simp
  have hB : B.filter (above x) = B := by
    rw [List.filter_eq_self]
    exact fun r hr => h3 r hr
  rw [hA, hB, hirr]
  simp
end Go.Proofs.Ytolplbfonlhbhaa
