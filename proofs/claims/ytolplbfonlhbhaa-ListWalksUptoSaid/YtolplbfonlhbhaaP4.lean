/- Plain laws, fourth part: behind a row of the list of versions comes the rest of the list. -/
import Derived.Test.YtolplbfonlhbhaaP3
set_option linter.unusedVariables false
set_option linter.unusedSectionVars false
set_option linter.unusedSimpArgs false
namespace Go.Proofs.Ytolplbfonlhbhaa
open Go Go.Eng

abbrev noSpot : SpotL := ⟨nil0, nil0, 0⟩
theorem keepV_all (key : ByteArray) (v : VerL) : keepV noSpot key v = true := by
  have h : strEq nil0 nil0 = true := strEq_iff.2 rfl
  simp [keepV, h]
theorem rvIn_filter (frm : SpotL) (key : ByteArray) (vs : List VerL) : ∀ (n : Nat) (rows : List RowL),
    rversIn frm key vs n (rows.filter fun r => keepV frm r.key r.ver) = (rversIn noSpot key vs n rows).filter fun r => keepV frm r.key r.ver
  | 0, rows => by rw [rversIn, rversIn]
  | n + 1, rows => by
    rw [rversIn, rversIn, if_pos (keepV_all _ _), ← rvIn_filter frm key vs n, List.filter_append]
    by_cases h : keepV frm key (vs.getD n default) = true
    · rw [if_pos h]
      congr 2
      simp only [List.filter_cons, h, if_true, List.filter_nil]
    · rw [if_neg h]
      have e : ∀ b, ([⟨key, false, vs.getD n default, b⟩] : List RowL).filter (fun r => keepV frm r.key r.ver) = [] := fun b => by simp only [List.filter_cons, h, List.filter_nil]; rfl
      rw [e, List.append_nil]
theorem rv_filter (pre : ByteArray) (frm : SpotL) : ∀ (os : List ObjL) (rows : List RowL),
    rvers pre frm os (rows.filter fun r => keepV frm r.key r.ver) = (rvers pre noSpot os rows).filter fun r => keepV frm r.key r.ver
  | [], rows => by rw [rvers, rvers]
  | o :: os, rows => by
    rw [rvers, rvers]
    split
    · exact rv_filter pre frm os rows
    · rw [rvIn_filter, rv_filter pre frm os]

/-- one row stands ahead of another -/
def ahead (x y : RowL) : Prop := strLt x.key y.key = true ∨ x.key = y.key ∧ y.ver.id < x.ver.id
theorem rising_lt {vs : List VerL} (h : rising vs) (i : Nat) : ∀ d, i + (d + 1) < vs.length → (vs.getD i default).id < (vs.getD (i + (d + 1)) default).id
  | 0, hj => h (i + 1) (by omega) hj
  | d + 1, hj => by
    have h1 := rising_lt h i d (by omega)
    have h2 := h (i + (d + 1) + 1) (by omega) (by omega)
    rw [show i + (d + 1) + 1 - 1 = i + (d + 1) by omega] at h2
    exact Int.lt_trans h1 h2
theorem rvIn_sorted {key : ByteArray} {vs : List VerL} (hv : rising vs) : ∀ (n : Nat) (rows : List RowL), n ≤ vs.length → rows.Pairwise ahead → (∀ r ∈ rows, strLt r.key key = true ∨ r.key = key ∧ ∀ m, m < n → (vs.getD m default).id < r.ver.id) →
    (rversIn noSpot key vs n rows).Pairwise ahead ∧ ∀ r ∈ rversIn noSpot key vs n rows, strLt r.key key = true ∨ r.key = key
  | 0, rows, _, hp, hr => by
    rw [rversIn]
    exact ⟨hp, fun r h => (hr r h).imp id And.left⟩
  | n + 1, rows, hn, hp, hr => by
    rw [rversIn, if_pos (keepV_all _ _)]
    refine rvIn_sorted hv n _ (by omega) (List.pairwise_append.2 ⟨hp, List.pairwise_singleton _ _, fun r h q hq => ?_⟩) fun r h => ?_
    · rw [List.mem_singleton] at hq
      subst hq
      exact (hr r h).imp id fun e => ⟨e.1, e.2 n (by omega)⟩
    · rcases List.mem_append.1 h with h | h
      · exact (hr r h).imp id fun e => ⟨e.1, fun m hm => e.2 m (by omega)⟩
      · rw [List.mem_singleton] at h
        subst h
        refine .inr ⟨rfl, fun m hm => ?_⟩
        have := rising_lt hv m (n - m - 1) (by omega)
        rwa [show m + (n - m - 1 + 1) = n by omega] at this
theorem rv_sorted (pre : ByteArray) : ∀ (os : List ObjL) (rows : List RowL), os.Pairwise (fun x y => strLt x.key y.key = true) → (∀ o ∈ os, rising o.vers) → rows.Pairwise ahead → (∀ r ∈ rows, ∀ o ∈ os, strLt r.key o.key = true) →
    (rvers pre noSpot os rows).Pairwise ahead
  | [], rows, _, _, hp, _ => by rw [rvers]; exact hp
  | o :: os, rows, ho, hv, hp, hr => by
    rw [List.pairwise_cons] at ho
    have hv1 := fun q h => hv q (List.mem_cons_of_mem o h)
    rw [rvers]
    split
    · exact rv_sorted pre os rows ho.2 hv1 hp fun r h q hq => hr r h q (List.mem_cons_of_mem _ hq)
    · obtain ⟨h1, h2⟩ := rvIn_sorted (key := o.key) (hv o (List.mem_cons_self ..)) o.vers.length rows (Nat.le_refl _) hp fun r h => .inl (hr r h o (List.mem_cons_self ..))
      refine rv_sorted pre os _ ho.2 hv1 h1 fun r h q hq => ?_
      have h3 := ho.1 q hq
      rcases h2 r h with h | h
      · rw [strLt_eq] at h h3 ⊢; exact lt_trans h h3
      · rw [h]; exact h3
theorem rv_keys (pre : ByteArray) (q : ByteArray → Prop) : ∀ (os : List ObjL) (rows : List RowL), (∀ o ∈ os, q o.key) → (∀ r ∈ rows, q r.key) → ∀ r ∈ rvers pre noSpot os rows, q r.key
  | [], rows, _, h => by rw [rvers]; exact h
  | o :: os, rows, ho, h => by
    have ho1 := fun q h => ho q (List.mem_cons_of_mem o h)
    have hin : ∀ (n : Nat) (rows : List RowL), (∀ r ∈ rows, q r.key) → ∀ r ∈ rversIn noSpot o.key o.vers n rows, q r.key := by
      intro n
      induction n with
      | zero => intro rows h; rw [rversIn]; exact h
      | succ n ih =>
        intro rows h
        rw [rversIn, if_pos (keepV_all _ _)]
        refine ih _ fun r hr => ?_
        rcases List.mem_append.1 hr with hr | hr
        · exact h r hr
        · rw [List.mem_singleton] at hr; subst hr; exact ho o (List.mem_cons_self ..)
    rw [rvers]
    split
    · exact rv_keys pre q os rows ho1 h
    · exact rv_keys pre q os _ ho1 (hin _ _ h)
theorem keepV_ahead {bk : ByteArray} {x y : RowL} (hx : 1 ≤ x.key.size) : keepV ⟨bk, x.key, x.ver.id⟩ y.key y.ver = true ↔ ahead x y := by
  have h0 : strEq x.key nil0 = false := by
    rw [Bool.eq_false_iff]
    intro h
    rw [strEq_iff.1 h] at hx
    exact absurd hx (by decide)
  simp only [keepV, h0, le_not, Bool.not_not, Bool.false_or, Bool.or_eq_true, Bool.and_eq_true, strEq_iff, decide_eq_true_eq, ahead]
  exact ⟨fun h => h.imp id fun h => ⟨h.1.symm, h.2⟩, fun h => h.imp id fun h => ⟨h.1.symm, h.2⟩⟩
theorem ahead_asymm {x y : RowL} (h : ahead x y) : ¬ ahead y x := by
  rintro (h1 | ⟨h1, h2⟩) <;> rcases h with h | ⟨h3, h4⟩
  · rw [strLt_eq] at h h1; rw [lt_asymm h] at h1; cases h1
  · rw [strLt_eq, h3, lt_irrefl] at h1; cases h1
  · rw [strLt_eq, h1, lt_irrefl] at h; cases h
  · omega
/-- THE NEXT PAGE: from a row's place on comes what came behind the row -/
theorem vers_next {b : BucL} (h : goodB b) {pre bk : ByteArray} {A B : List RowL} {x : RowL} (hf : rvers pre noSpot b.objs [] = A ++ x :: B) : rvers pre ⟨bk, x.key, x.ver.id⟩ b.objs [] = B := by
  have h2 := rv_sorted pre b.objs [] (goodB_pair h) (fun o ho => (goodB_mem h ho).1.2.2) List.Pairwise.nil (fun r h => by simp at h)
  have hx : 1 ≤ x.key.size := rv_keys pre (fun k => 1 ≤ k.size) b.objs [] (fun o ho => (goodB_mem h ho).1.1) (fun r h => by simp at h) x (by rw [hf]; simp)
  have e := rv_filter pre ⟨bk, x.key, x.ver.id⟩ b.objs []
  rw [List.filter_nil] at e
  rw [hf, List.pairwise_append, List.pairwise_cons] at h2
  obtain ⟨_, ⟨h3, _⟩, h4⟩ := h2
  rw [e, hf, List.filter_append, List.filter_cons]
  have hirr : ¬ keepV ⟨bk, x.key, x.ver.id⟩ x.key x.ver = true := fun h => ahead_asymm ((keepV_ahead hx).1 h) ((keepV_ahead hx).1 h)
  have hA : A.filter (fun r => keepV ⟨bk, x.key, x.ver.id⟩ r.key r.ver) = [] := by
    rw [List.filter_eq_nil_iff]
    exact fun a ha hk => ahead_asymm (h4 a ha x (List.mem_cons_self ..)) ((keepV_ahead hx).1 hk)
  have hB : B.filter (fun r => keepV ⟨bk, x.key, x.ver.id⟩ r.key r.ver) = B := by
    rw [List.filter_eq_self]
    exact fun r hr => (keepV_ahead hx).2 (h3 r hr)
  rw [hA, hB, if_neg hirr]
  rfl
end Go.Proofs.Ytolplbfonlhbhaa
