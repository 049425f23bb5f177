/- Plain laws, second part: the program's keys are the document's, cut at a page; likewise the versions. -/
import Derived.Test.YtolplbfonlhbhaaC15
import Derived.Test.YtolplbfonlhbhaaP1
set_option linter.unusedVariables false
set_option linter.unusedSectionVars false
set_option linter.unusedSimpArgs false
namespace Go.Proofs.Ytolplbfonlhbhaa
open Go Go.Eng

/-- rows, cut at a page -/
def cutM (l : List RowL) (most : Int) : List RowL × Bool := (if (l.length : Int) > most then l.take most.toNat else l, decide ((l.length : Int) > most))
theorem cutM_over {l rows : List RowL} {r : RowL} {most : Int} (h : rows ++ [r] <+: l) (h4 : (rows.length : Int) = most) : cutM l most = (rows, true) := by
  obtain ⟨t, rfl⟩ := h
  have hl : (((rows ++ [r]) ++ t).length : Int) > most := by simp; omega
  rw [cutM, if_pos hl, decide_eq_true hl, ← h4]
  simp
theorem cutM_pre {l l' : List RowL} {most : Int} (h : l <+: l') (h1 : (l.length : Int) > most) (h0 : 0 ≤ most) : cutM l' most = cutM l most := by
  obtain ⟨t, rfl⟩ := h
  have hl : ((l ++ t).length : Int) > most := by simp; omega
  rw [cutM, cutM, if_pos hl, if_pos h1, decide_eq_true hl, decide_eq_true h1, List.take_append_of_le_length (by omega)]
theorem rkeys_pre (pre mark after : ByteArray) : ∀ (os : List ObjL) (rows : List RowL), rows <+: rkeys pre mark after os rows
  | [], rows => List.prefix_refl _
  | o :: os, rows => by
    rw [rkeys]
    split
    · exact rkeys_pre pre mark after os rows
    · split
      · exact (List.prefix_append _ _).trans (rkeys_pre pre mark after os _)
      · split
        · exact rkeys_pre pre mark after os rows
        · exact (List.prefix_append _ _).trans (rkeys_pre pre mark after os _)

/-- what is known of the rows that are groups -/
structure KInv (pre mark : ByteArray) (last : ByteArray) (rows : List RowL) (seen : List ObjL) : Prop where
  a : ∀ r ∈ rows, r.group = true → ∃ k1 ∈ seen, IsGrp (bl k1.key) (bl pre) (bl mark) (bl r.key) ∧ (r.key = last ∨ ∃ k2 ∈ seen, strLt k1.key k2.key = true ∧ ¬ IsGrp (bl k2.key) (bl pre) (bl mark) (bl r.key))
  b : last ≠ nil0 → ∃ r ∈ rows, r.group = true ∧ r.key = last

theorem keys_go (pre mark after : ByteArray) (most : Int) : ∀ (os : List ObjL) (last : ByteArray) (rows : List RowL) (seen : List ObjL), (∀ o ∈ os, 1 ≤ o.vers.length) →
    os.Pairwise (fun x y => strLt x.key y.key = true) → (∀ k ∈ seen, ∀ o ∈ os, strLt k.key o.key = true) → KInv pre mark last rows seen → (rows.length : Int) ≤ most →
    pkeys pre mark after most os last rows = cutM (rkeys pre mark after os rows) most
  | [], last, rows, seen, _, _, _, _, hm => by
    have h : ¬ (rows.length : Int) > most := by omega
    rw [pkeys, rkeys, cutM, if_neg h, decide_eq_false h]
  | o :: os, last, rows, seen, hv, hs, hseen, hI, hm => by
    have hv' : ∀ x ∈ os, 1 ≤ x.vers.length := fun x hx => hv x (List.mem_cons_of_mem _ hx)
    have hs' := (List.pairwise_cons.1 hs).2
    have hso := (List.pairwise_cons.1 hs).1
    have hseen' : ∀ k ∈ seen, ∀ x ∈ os, strLt k.key x.key = true := fun k hk x hx => hseen k hk x (List.mem_cons_of_mem _ hx)
    have ih := keys_go pre mark after most os last rows seen hv' hs' hseen' hI hm
    have h0 : ((o.vers.length : Int) == 0) = false := by
      have := hv o (List.mem_cons_self ..)
      rw [beq_eq_false_iff_ne]; omega
    rw [pkeys, rkeys, h0, Bool.or_false, group_eq]
    by_cases h1 : (!hasPre o.key pre || (strLt o.key after || strEq o.key after)) = true
    · rw [if_pos h1, if_pos (by rw [h1]; rfl)]; exact ih
    · rw [if_neg h1]
      by_cases h2 : (lastV o).marker = true
      · rw [if_pos h2, if_pos (by rw [h2]; simp)]; exact ih
      · have hc2 : ¬ (!hasPre o.key pre || (strLt o.key after || strEq o.key after) || (lastV o).marker) = true := by
          rw [Bool.eq_false_iff.2 h1, Bool.eq_false_iff.2 h2]; simp
        rw [if_neg h2, if_neg hc2]
        rcases refGroup_spec o.key pre mark with ⟨g2, hg⟩ | ⟨g2, hg⟩
        · generalize hG : refGroup o.key pre mark = G at *
          have g3 : ¬ G.2 = false := by rw [g2]; simp
          rw [if_pos g2, if_neg g3]
          have hA : (strEq G.1 last || (strLt G.1 after || strEq G.1 after)) = told G.1 after rows := by
            unfold told
            cases hle : (strLt G.1 after || strEq G.1 after) with
            | true => simp
            | false =>
              rw [Bool.or_false, Bool.false_or, Bool.eq_iff_iff, strEq_iff, List.any_eq_true]
              constructor
              · intro e
                obtain ⟨r, hr, h5, h6⟩ := hI.b (by
                  rintro rfl
                  exact hg.ne (by rw [e]))
                exact ⟨r, hr, by rw [h5, h6, e]; simp [strEq]⟩
              · rintro ⟨r, hr, h5⟩
                rw [Bool.and_eq_true, strEq_iff] at h5
                obtain ⟨k1, hk1, h6, h7⟩ := hI.a r hr h5.1
                rw [h5.2] at h6 h7
                rcases h7 with h7 | ⟨k2, hk2, h8, h9⟩
                · exact h7
                · have l1 := hseen k2 hk2 o (List.mem_cons_self ..)
                  rw [strLt_eq] at h8 l1
                  exact (h9 (h6.move (pre_between h6.pre hg.pre (lt_asymm h8) (lt_asymm l1)))).elim
          rw [hA]
          by_cases h3 : told G.1 after rows = true
          · rw [if_pos h3, if_pos h3]; exact ih
          · rw [if_neg h3, if_neg h3]
            by_cases h4 : (rows.length : Int) = most
            · rw [if_pos h4, cutM_over (rkeys_pre pre mark after os _) h4]
            · rw [if_neg h4]
              have hne : ¬ G.1 = last := by
                rw [← hA, Bool.or_eq_true, strEq_iff] at h3
                exact fun e => h3 (.inl e)
              refine keys_go pre mark after most os G.1 (rows ++ [grpRow G.1]) (seen ++ [o]) hv' hs' (fun k hk x hx => ?_) ⟨fun r hr hgr => ?_, fun _ => ⟨grpRow G.1, by simp, rfl, rfl⟩⟩ (by simp; omega)
              · rcases List.mem_append.1 hk with hk | hk
                · exact hseen' k hk x hx
                · simp only [List.mem_singleton] at hk; subst hk; exact hso x hx
              · rcases List.mem_append.1 hr with hr | hr
                · obtain ⟨k1, hk1, h6, h7⟩ := hI.a r hr hgr
                  refine ⟨k1, by simp [hk1], h6, .inr ?_⟩
                  rcases h7 with h7 | ⟨k2, hk2, h8, h9⟩
                  · exact ⟨o, by simp, hseen k1 hk1 o (List.mem_cons_self ..), fun h => hne (by rw [← h7]; exact bl_inj (hg.uniq h))⟩
                  · exact ⟨k2, by simp [hk2], h8, h9⟩
                · simp only [List.mem_singleton] at hr
                  subst hr
                  exact ⟨o, by simp, hg, .inl rfl⟩
        · rw [g2]
          simp only [Bool.false_eq_true, if_false, if_true]
          by_cases h4 : (rows.length : Int) = most
          · rw [if_pos h4, cutM_over (rkeys_pre pre mark after os _) h4]
          · rw [if_neg h4]
            refine keys_go pre mark after most os last (rows ++ [keyRow o]) seen hv' hs' hseen' ⟨fun r hr hgr => ?_, fun h => ?_⟩ (by simp; omega)
            · rcases List.mem_append.1 hr with hr | hr
              · exact hI.a r hr hgr
              · simp only [List.mem_singleton] at hr; subst hr; simp [keyRow] at hgr
            · obtain ⟨r, hr, h5⟩ := hI.b h
              exact ⟨r, by simp [hr], h5⟩

theorem goodB_pair {b : BucL} (h : goodB b) : b.objs.Pairwise (fun x y => strLt x.key y.key = true) := by
  rw [List.pairwise_iff_getElem]
  have step : ∀ i, i + 1 < b.objs.length → strLt (b.objs.getD i default).key (b.objs.getD (i + 1) default).key = true := fun i hi => (h (i + 1) hi).2.1 (by omega)
  have all : ∀ d i, i + (d + 1) < b.objs.length → strLt (b.objs.getD i default).key (b.objs.getD (i + (d + 1)) default).key = true := by
    intro d
    induction d with
    | zero => exact step
    | succ d ih =>
      intro i hi
      have h1 := ih i (by omega)
      have h2 := step (i + (d + 1)) (by omega)
      rw [strLt_eq] at h1 h2 ⊢
      exact lt_trans h1 h2
  intro i j hi hj hij
  have := all (j - i - 1) i (by omega)
  rw [show i + (j - i - 1 + 1) = j by omega] at this
  simpa [List.getD_eq_getElem?_getD, hi, hj] using this
theorem goodB_mem {b : BucL} (h : goodB b) {o : ObjL} (ho : o ∈ b.objs) : goodO o ∧ o.vers.length ≤ 256 := by
  obtain ⟨i, hi, rfl⟩ := List.mem_iff_getElem.1 ho
  have := h i hi
  simp only [List.getD_eq_getElem?_getD, List.getElem?_eq_getElem hi, Option.getD_some] at this
  exact ⟨this.1, this.2.2⟩
theorem keys_cut {b : BucL} (h : goodB b) (pre mark after : ByteArray) {most : Int} (h1 : 0 ≤ most) : pkeys pre mark after most b.objs nil0 [] = cutM (rkeys pre mark after b.objs []) most :=
  keys_go pre mark after most b.objs nil0 [] [] (fun o ho => (goodB_mem h ho).1.2.1) (goodB_pair h) (fun k hk => by simp at hk) ⟨fun r hr => by simp at hr, fun h => (h rfl).elim⟩ (by simpa using h1)
theorem keys_eq {b : BucL} (h : goodB b) (pre mark after : ByteArray) (most : Int) : keysR b pre mark after most = pagedR (rkeys pre mark after b.objs []) most := by
  rw [keysR, pagedR]
  split
  · rfl
  · rw [keys_cut h pre mark after (by omega)]; rfl

/-! ### versions -/
def uIn (skip : VerL → Bool → Bool) (key : ByteArray) (vs : List VerL) : Nat → List RowL → List RowL
  | 0, rows => rows
  | n + 1, rows => if skip (vs.getD n default) ((n : Int) == (vs.length : Int) - 1) = true then uIn skip key vs n rows else uIn skip key vs n (rows ++ [⟨key, false, vs.getD n default, ((n : Int) == (vs.length : Int) - 1)⟩])
def uB (skipO : ObjL → Bool) (skip : ByteArray → VerL → Bool → Bool) : List ObjL → List RowL → List RowL
  | [], rows => rows
  | o :: os, rows => if skipO o = true then uB skipO skip os rows else uB skipO skip os (uIn (skip o.key) o.key o.vers o.vers.length rows)
theorem uIn_pre (skip : VerL → Bool → Bool) (key : ByteArray) (vs : List VerL) : ∀ (n : Nat) (rows : List RowL), rows <+: uIn skip key vs n rows
  | 0, rows => List.prefix_refl _
  | n + 1, rows => by
    rw [uIn]; split
    · exact uIn_pre skip key vs n rows
    · exact (List.prefix_append _ _).trans (uIn_pre skip key vs n _)
theorem uB_pre (skipO : ObjL → Bool) (skip : ByteArray → VerL → Bool → Bool) : ∀ (os : List ObjL) (rows : List RowL), rows <+: uB skipO skip os rows
  | [], rows => List.prefix_refl _
  | o :: os, rows => by
    rw [uB]; split
    · exact uB_pre skipO skip os rows
    · exact (uIn_pre _ _ _ _ _).trans (uB_pre skipO skip os _)
theorem versIn_cut (skip : VerL → Bool → Bool) (key : ByteArray) (vs : List VerL) {most : Int} : ∀ (n : Nat) (rows : List RowL), (rows.length : Int) ≤ most → versIn skip key vs most n rows = cutM (uIn skip key vs n rows) most
  | 0, rows, hm => by
    have h : ¬ (rows.length : Int) > most := by omega
    rw [versIn, uIn, cutM, if_neg h, decide_eq_false h]
  | n + 1, rows, hm => by
    rw [versIn, uIn]
    split
    · exact versIn_cut skip key vs n rows hm
    · split
      · rename_i h4; rw [cutM_over (uIn_pre skip key vs n _) h4]
      · exact versIn_cut skip key vs n _ (by simp; omega)
theorem versB_cut (skipO : ObjL → Bool) (skip : ByteArray → VerL → Bool → Bool) {most : Int} (h0 : 0 ≤ most) : ∀ (os : List ObjL) (rows : List RowL), (rows.length : Int) ≤ most → versB skipO skip most os rows = cutM (uB skipO skip os rows) most
  | [], rows, hm => by
    have h : ¬ (rows.length : Int) > most := by omega
    rw [versB, uB, cutM, if_neg h, decide_eq_false h]
  | o :: os, rows, hm => by
    rw [versB, uB]
    split
    · exact versB_cut skipO skip h0 os rows hm
    · rw [versIn_cut _ _ _ _ rows hm]
      generalize uIn (skip o.key) o.key o.vers o.vers.length rows = full
      by_cases h : (full.length : Int) > most
      · have e : cutM full most = (full.take most.toNat, true) := by rw [cutM, if_pos h, decide_eq_true h]
        rw [cutM_pre (uB_pre skipO skip os full) h h0, e, if_pos rfl]
      · have e : cutM full most = (full, false) := by rw [cutM, if_neg h, decide_eq_false h]
        rw [e, if_neg (by simp)]
        exact versB_cut skipO skip h0 os full (by omega)

theorem rversIn_u (frm : SpotL) (key : ByteArray) (vs : List VerL) (h : ∀ v, skV frm key v true = !keepV frm key v) : ∀ (n : Nat) (rows : List RowL), rversIn frm key vs n rows = uIn (skV frm key) key vs n rows
  | 0, rows => rfl
  | n + 1, rows => by
    rw [rversIn, uIn]
    have := h (vs.getD n default)
    cases hk : keepV frm key (vs.getD n default) with
    | true =>
      rw [hk] at this
      rw [if_pos rfl, if_neg (by show ¬ skV frm key _ true = true; rw [this]; simp)]
      exact rversIn_u frm key vs h n _
    | false =>
      rw [hk] at this
      rw [if_neg (by simp), if_pos (by show skV frm key _ true = true; rw [this]; rfl)]
      exact rversIn_u frm key vs h n _
theorem rversIn_none (frm : SpotL) (key : ByteArray) (vs : List VerL) (h : ∀ v, keepV frm key v = false) : ∀ (n : Nat) (rows : List RowL), rversIn frm key vs n rows = rows
  | 0, rows => rfl
  | n + 1, rows => by rw [rversIn, h, if_neg (by simp)]; exact rversIn_none frm key vs h n rows
theorem keep_far {frm : SpotL} {key : ByteArray} (h : strLt key frm.key = true) (v : VerL) : keepV frm key v = false := by
  have h1 : strEq frm.key nil0 = false := by
    rw [← Bool.not_eq_true, nil0_iff]
    intro e
    rw [strLt_eq, e, lt_nil] at h; cases h
  have h2 : strEq key frm.key = false := by
    rw [← Bool.not_eq_true, strEq_iff]
    rintro e
    rw [strLt_eq, e, lt_irrefl] at h; cases h
  simp only [keepV]
  rw [h1, h2, h]; rfl
theorem keep_skip {frm : SpotL} {key : ByteArray} (h : strLt key frm.key = false) (v : VerL) : skV frm key v true = !keepV frm key v := by
  simp only [skV, keepV]
  rw [h]
  cases strEq frm.key nil0 <;> cases strEq key frm.key <;> simp
  rw [Bool.eq_iff_iff]; simp
theorem rvers_u (pre : ByteArray) (frm : SpotL) : ∀ (os : List ObjL) (rows : List RowL), rvers pre frm os rows = uB (skO pre frm) (skV frm) os rows
  | [], rows => rfl
  | o :: os, rows => by
    rw [rvers, uB]
    show _ = if (!hasPre o.key pre || strLt o.key frm.key) = true then _ else _
    cases h1 : hasPre o.key pre with
    | false =>
      simp only [Bool.not_false, Bool.true_or, if_true]
      exact rvers_u pre frm os rows
    | true =>
      simp only [Bool.not_true, Bool.false_or, Bool.false_eq_true, if_false]
      cases h2 : strLt o.key frm.key with
      | true =>
        simp only [if_true]
        rw [rversIn_none frm o.key o.vers (keep_far h2)]; exact rvers_u pre frm os rows
      | false =>
        simp only [Bool.false_eq_true, if_false]
        rw [rversIn_u frm o.key o.vers (keep_skip h2)]; exact rvers_u pre frm os _
theorem vers_eq (b : BucL) (pre : ByteArray) (frm : SpotL) (most : Int) : rowsR (versB (skO pre frm) (skV frm) most b.objs []) most = pagedR (rvers pre frm b.objs []) most := by
  rw [rowsR, pagedR]
  split
  · rfl
  · rw [versB_cut _ _ (by omega) _ _ (by simp; omega), rvers_u]; rfl
end Go.Proofs.Ytolplbfonlhbhaa
