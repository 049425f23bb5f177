/- Laws: ListPages; the first bucket once more. -/
import Derived.Test.YtolplbfonlhbhaaC20
import Derived.Test.YtolplbfonlhbhaaP3
set_option maxRecDepth 20000
set_option maxHeartbeats 4000000
set_option linter.unusedVariables false
set_option linter.unusedSectionVars false
set_option linter.unusedSimpArgs false
namespace Go.Proofs.Ytolplbfonlhbhaa
open Go Go.Eng
variable [Globs]

variable [G23]
def zB : BucL := ⟨⟨#[]⟩, 0, 0, [], [], [], []⟩
theorem zB_imp : DImp (.ag [.raw (.string ⟨#[]⟩), .ag [.raw (.int .i64 0), .raw (.int .i64 0)], .raw (.slice none 0 0), .raw (.slice none 0 0), .raw (.slice none 0 0), .raw (.slice none 0 0)]) (dBuc zB) :=
  DImp_ag ⟨DImp.refl _, DImp.refl _, DImp_nil _, DImp_nil _, DImp_nil _, DImp_nil _, trivial⟩
/-- the first bucket, if the state is sound and has one; else some bucket -/
abbrev firstB (s : StL) (r : AV) : Prop := ∃ p : Bool × BucL, r = .tup [.d (dBuc p.2), .d (.raw (.bool p.1))] ∧ (p.1 = true → 0 < s.bucs.length ∧ p.2 = s.bucs.getD 0 default ∧ goodB p.2)

-- chartularylaw23.first
theorem f8b_ok (s : StL) (hs : okSt s) : PureOk Try.prog 8 [.d (dSt s)] (firstB s) := by
  refine PureOk_of (fn := Try.f8) (rs := [.cell 2 33, .tmp 3]) (n := 18) (hf := Try.func8) (hn := by kernel_rfl) (hb := rfl) (hr := rfl) (hN := rfl) (hargs := by simp) (ha := by simp [AV.bels, AV.bel]) (hrb := by rintro _ ⟨p, rfl, _⟩; simp [AV.bel, AV.bels]) (h := fun Z0 w0 => ?_)
  simp only [enumA, Nat.zero_add]
  refine Wps_seq ?_
  refine Wps_reg (T := [(18, e18)]) ⟨e18_ok, trivial⟩ [1, 2] rfl (by simp) fun K hK => ?_
  repeat
    (first | refine X0 rfl fun K1 hK1 => ?_ | refine X1 rfl rfl fun K1 hK1 => ?_)
    simp only [↓EP, EQ, implies_true, forall_const, tys, zoks, zeros, Nat.reduceEqDiff, Nat.reduceAdd, Nat.reduceLT, Nat.reduceLeDiff, reduceIte, reduceCtorEq, e18_ap, all_exT, List.length_map, Int.toNat_zero, ↓dSt_size, ↓dSt_isAg, ↓dSt_nav, ↓dSt_vp, dSt_fold, ↓dBuc_size, ↓dBuc_isAg, ↓dBuc_nav, ↓dBuc_vp, dBuc_fold]
    try simp (disch := omega) only [wrap64, wrapU64]
    repeat (first | refine And.intro cl ?_ | intro e)
    refine hK1 _ ?_
    clear hK1 K1
  refine XE ?_
  refine hK _ _ (by simp only [St.keep, keepL, at_cons, at_nil, Nat.reduceEqDiff, reduceIte, eq_self]; rfl) ?_
  clear hK K
  refine Wps_seq ?_
  refine Wps_seq ?_
  refine Wps_reg (T := [(18, e18)]) ⟨e18_ok, trivial⟩ [1, 2, 12] rfl (by simp) fun K hK => ?_
  repeat
    (first | refine X0 rfl fun K1 hK1 => ?_ | refine X1 rfl rfl fun K1 hK1 => ?_)
    simp only [↓EP, EQ, implies_true, forall_const, tys, zoks, zeros, Nat.reduceEqDiff, Nat.reduceAdd, Nat.reduceLT, Nat.reduceLeDiff, reduceIte, reduceCtorEq, e18_ap, all_exT, List.length_map, Int.toNat_zero, ↓dSt_size, ↓dSt_isAg, ↓dSt_nav, ↓dSt_vp, dSt_fold, ↓dBuc_size, ↓dBuc_isAg, ↓dBuc_nav, ↓dBuc_vp, dBuc_fold]
    try simp (disch := omega) only [wrap64, wrapU64]
    repeat (first | refine And.intro cl ?_ | intro e)
    refine hK1 _ ?_
    clear hK1 K1
  refine XE ?_
  refine hK _ _ (by simp only [St.keep, keepL, at_cons, at_nil, Nat.reduceEqDiff, reduceIte, eq_self]; rfl) ?_
  clear hK K
  refine Wps_cond rfl (fun hc1 => ?_) (fun hc1 => ?_)
  · have hr1 := hc1
    try simp only [decide_eq_true_eq, decide_eq_false_iff_not, Bool.not_eq_true', Bool.not_eq_false', Int.not_lt, Int.not_le, ge_iff_le, gt_iff_lt, Bool.or_eq_false_iff, Bool.or_eq_true, Bool.and_eq_true, Bool.and_eq_false_imp, beq_iff_eq, beq_eq_false_iff_ne, ne_eq, bne_iff_ne, bne_eq_false_iff_eq] at hc1
    refine Wps_seq ?_
    refine Wps_reg (T := [(18, e18)]) ⟨e18_ok, trivial⟩ [2, 3] rfl (by simp) fun K hK => ?_
    repeat
      (first | refine X0 rfl fun K1 hK1 => ?_ | refine X1 rfl rfl fun K1 hK1 => ?_)
      simp only [↓EP, EQ, implies_true, forall_const, tys, zoks, zeros, Nat.reduceEqDiff, Nat.reduceAdd, Nat.reduceLT, Nat.reduceLeDiff, reduceIte, reduceCtorEq, e18_ap, all_exT, List.length_map, Int.toNat_zero, ↓dSt_size, ↓dSt_isAg, ↓dSt_nav, ↓dSt_vp, dSt_fold, ↓dBuc_size, ↓dBuc_isAg, ↓dBuc_nav, ↓dBuc_vp, dBuc_fold]
      try simp (disch := omega) only [wrap64, wrapU64]
      repeat (first | refine And.intro cl ?_ | intro e)
      refine hK1 _ ?_
      clear hK1 K1
    refine XE ?_
    refine hK _ _ (by simp only [St.keep, keepL, at_cons, at_nil, Nat.reduceEqDiff, reduceIte, eq_self]; rfl) ?_
    clear hK K
    refine Wps_weak (Wk_rebox (j := 1) rfl zB_imp) ?_ (by simp)
    refine Wps_ret ?_
    try simp only [Wps_nil, thenQ_normal, thenQ_exit, thenQ_ret, blkQ_normal, blkQ_ret, blkQ_if, blkQ_same, scQ_normal, scQ_ret, scQ_exit, Nat.reduceEqDiff, reduceIte, eq_self, reduceCtorEq, if_true, if_false]
    first | refine ret_pureQ rfl ?_ | refine ret_pureN rfl ?_
    simp only [retP, at_cons, at_nil, Nat.reduceEqDiff, reduceIte, eq_self, AV.use, retV, AV.bel, AV.bels, true_and, and_true, pvLoad, AV.nav, D.nav, AV.size, AV.sizes, D.size, D.sizes, AV.isAg, D.isAg, List.getElem?_cons_zero, List.getElem?_cons_succ, tys, allD, AV.toD, mkAg, D.putAt, eq_self, Option.some.injEq, all_exT, List.length_map, Int.toNat_zero, ↓dSt_size, ↓dSt_isAg, ↓dSt_nav, ↓dSt_vp, dSt_fold, ↓dBuc_size, ↓dBuc_isAg, ↓dBuc_nav, ↓dBuc_vp, dBuc_fold]
    exact ⟨⟨rfl, rfl⟩, trivial, ⟨(false, zB), rfl, by simp⟩⟩
  · have hr1 := hc1
    try simp only [decide_eq_true_eq, decide_eq_false_iff_not, Bool.not_eq_true', Bool.not_eq_false', Int.not_lt, Int.not_le, ge_iff_le, gt_iff_lt, Bool.or_eq_false_iff, Bool.or_eq_true, Bool.and_eq_true, Bool.and_eq_false_imp, beq_iff_eq, beq_eq_false_iff_ne, ne_eq, bne_iff_ne, bne_eq_false_iff_eq] at hc1
    refine Wps_skip ?_
    refine Wps_seq ?_
    have hi : 0 < s.bucs.length := by have h := hc1.2; omega
    have hgood : goodS s := by grind
    refine Wps_reg (T := [(18, e18)]) ⟨e18_ok, trivial⟩ [2, 3] rfl (by simp) fun K hK => ?_
    repeat
      (first | refine X0 rfl fun K1 hK1 => ?_ | refine X1 rfl rfl fun K1 hK1 => ?_)
      simp only [↓EP, EQ, implies_true, forall_const, tys, zoks, zeros, Nat.reduceEqDiff, Nat.reduceAdd, Nat.reduceLT, Nat.reduceLeDiff, reduceIte, reduceCtorEq, e18_ap, all_exT, List.length_map, Int.toNat_zero, ↓dSt_size, ↓dSt_isAg, ↓dSt_nav, ↓dSt_vp, dSt_fold, ↓dBuc_size, ↓dBuc_isAg, ↓dBuc_nav, ↓dBuc_vp, dBuc_fold, getD_map_lt hi]
      try simp (disch := omega) only [wrap64, wrapU64]
      repeat (first | refine And.intro cl ?_ | intro e)
      refine hK1 _ ?_
      clear hK1 K1
    refine XE ?_
    refine hK _ _ (by simp only [St.keep, keepL, at_cons, at_nil, Nat.reduceEqDiff, reduceIte, eq_self]; rfl) ?_
    clear hK K
    refine Wps_ret ?_
    try simp only [Wps_nil, thenQ_normal, thenQ_exit, thenQ_ret, blkQ_normal, blkQ_ret, blkQ_if, blkQ_same, scQ_normal, scQ_ret, scQ_exit, Nat.reduceEqDiff, reduceIte, eq_self, reduceCtorEq, if_true, if_false]
    first | refine ret_pureQ rfl ?_ | refine ret_pureN rfl ?_
    simp only [retP, at_cons, at_nil, Nat.reduceEqDiff, reduceIte, eq_self, AV.use, retV, AV.bel, AV.bels, true_and, and_true, pvLoad, AV.nav, D.nav, AV.size, AV.sizes, D.size, D.sizes, AV.isAg, D.isAg, List.getElem?_cons_zero, List.getElem?_cons_succ, tys, allD, AV.toD, mkAg, D.putAt, eq_self, Option.some.injEq, all_exT, List.length_map, Int.toNat_zero, ↓dSt_size, ↓dSt_isAg, ↓dSt_nav, ↓dSt_vp, dSt_fold, ↓dBuc_size, ↓dBuc_isAg, ↓dBuc_nav, ↓dBuc_vp, dBuc_fold]
    exact ⟨(true, _), rfl, fun _ => ⟨hi, rfl, hgood 0 hi⟩⟩

noncomputable def e8b : Ent := ent1 (fun s : StL => [.d (dSt s)]) (fun s => okSt s) (fun s => firstB s)
theorem e8b_ap (s : StL) : e8b [.d (dSt s)] = some (okSt s, firstB s) := ent1_ap (f := fun s : StL => [.d (dSt s)]) (fun x y h => by simp only [List.cons.injEq, AV.d.injEq, and_true] at h; exact dSt_inj h) s
theorem e8b_ok : EntOk Try.prog 8 e8b := ent1_ok (fun s => ⟨_, (false, zB), rfl, by simp⟩) fun s h => f8b_ok s h

noncomputable def e15 : Ent := ent1 (fun p : BucL × ByteArray => [.d (dBuc p.1), .d (.raw (.string p.2))]) (fun p => okBuc p.1 ∧ p.2.size ≤ 1048576) (fun p => fun r => r = B (farB p.1 p.2))
theorem e1015_ap (p : BucL × ByteArray) : e15 [.d (dBuc p.1), .d (.raw (.string p.2))] = some (okBuc p.1 ∧ p.2.size ≤ 1048576, fun r => r = B (farB p.1 p.2)) := ent1_ap (f := fun p : BucL × ByteArray => [.d (dBuc p.1), .d (.raw (.string p.2))]) (fun x y h => by simp only [List.cons.injEq, AV.d.injEq, D.raw.injEq, Value.string.injEq, and_true] at h; exact Prod.ext (dBuc_inj h.1) h.2) p
theorem e15_ok : EntOk Try.prog 15 e15 := ent1_ok (fun p => ⟨_, rfl⟩) fun p h => f15_ok p.1 p.2 h.1 h.2

theorem e15_ap (x : BucL) (y : ByteArray) : e15 [.d (dBuc x), .d (.raw (.string y))] = some (okBuc x ∧ y.size ≤ 1048576, fun r => r = B (farB x y)) := e1015_ap (x, y)

theorem rk_len (pre mark after : ByteArray) : ∀ (os : List ObjL) (rows : List RowL), (rkeys pre mark after os rows).length ≤ rows.length + os.length
  | [], rows => by rw [rkeys]; simp
  | o :: os, rows => by
    have h1 := rk_len pre mark after os rows
    have h2 := fun r => rk_len pre mark after os (rows ++ [r])
    rw [rkeys, List.length_cons]
    split
    · omega
    · split
      · have := h2 (keyRow o); rw [List.length_append, List.length_singleton] at this; omega
      · split
        · omega
        · have := h2 (grpRow (refGroup o.key pre mark).1); rw [List.length_append, List.length_singleton] at this; omega
theorem rk_size (pre mark after : ByteArray) : ∀ (os : List ObjL) (rows : List RowL), (∀ o ∈ os, o.key.size ≤ 1048576) → (∀ r ∈ rows, r.key.size ≤ 1048576) → ∀ r ∈ rkeys pre mark after os rows, r.key.size ≤ 1048576
  | [], rows, _, h => h
  | o :: os, rows, ho, h => by
    have h1 := fun rows => rk_size pre mark after os rows fun x hx => ho x (List.mem_cons_of_mem _ hx)
    have hk := ho o (List.mem_cons_self ..)
    have h2 : ∀ n : RowL, n.key.size ≤ 1048576 → ∀ r ∈ rkeys pre mark after os (rows ++ [n]), r.key.size ≤ 1048576 := fun n hn => h1 _ fun r hr => by
      rcases List.mem_append.1 hr with hr | hr
      · exact h r hr
      · rw [List.mem_singleton] at hr; subst hr; exact hn
    rw [rkeys]
    split
    · exact h1 rows h
    · split
      · exact h2 _ hk
      · split
        · exact h1 rows h
        · refine h2 _ ?_
          rename_i hg _
          rcases refGroup_spec o.key pre mark with ⟨_, hG⟩ | ⟨e, _⟩
          · have := hG.pre.length_le
            rw [bl_len, bl_len] at this
            exact Nat.le_trans this hk
          · rw [e] at hg; exact (hg rfl).elim
abbrev full (pre mark : ByteArray) (b : BucL) : List RowL := rkeys pre mark nil0 b.objs []
theorem full_page {pre mark : ByteArray} {b : BucL} (hl : b.objs.length ≤ 100) : pagedT (full pre mark b) 100 = (full pre mark b, false, 0) := by
  have := rk_len pre mark nil0 b.objs []
  rw [List.length_nil] at this
  have hn : ¬ ((full pre mark b).length : Int) > 100 := by show ¬ ((rkeys pre mark nil0 b.objs []).length : Int) > 100; omega
  rw [pagedT, if_neg (by omega), cutM, if_neg hn, decide_eq_false hn]
theorem page_facts {pre mark after : ByteArray} {b : BucL} {c : Nat} {k : Int} (h1 : 1 ≤ k) (h7 : k ≤ 7) (hc : c ≤ (full pre mark b).length) (h : rkeys pre mark after b.objs [] = (full pre mark b).drop c) :
    ∃ pl pm, pagedT (rkeys pre mark after b.objs []) k = (pl, pm, 0) ∧ (pl.length : Int) ≤ k ∧ (pm = true → (pl.length : Int) = k) ∧ (full pre mark b).take c ++ pl = (full pre mark b).take (c + pl.length) ∧ c + pl.length ≤ (full pre mark b).length ∧ (pm = false → c + pl.length = (full pre mark b).length) := by
  rw [h]
  generalize full pre mark b = F at hc
  rw [pagedT, if_neg (by omega), cutM]
  by_cases hm : ((F.drop c).length : Int) > k
  · rw [if_pos hm, decide_eq_true hm]
    have hl : ((F.drop c).take k.toNat).length = k.toNat := by rw [List.length_take]; omega
    refine ⟨_, _, rfl, by rw [hl]; omega, fun _ => by rw [hl]; omega, ?_, ?_, fun h => by cases h⟩
    · rw [hl, List.take_add]
    · rw [hl]; rw [List.length_drop] at hm; omega
  · rw [if_neg hm, decide_eq_false hm]
    refine ⟨F.drop c, false, rfl, by omega, (fun h => by cases h), ?_, ?_, fun _ => ?_⟩
    · rw [List.length_drop, show c + (F.length - c) = F.length by omega, List.take_append_drop, List.take_length]
    · rw [List.length_drop]; omega
    · rw [List.length_drop]; omega
/-- the next page's start, at a page's last row -/
theorem next_page {pre mark t : ByteArray} {b : BucL} (hg : goodB b) {c : Nat} {pl : List RowL} (h0 : 0 < pl.length) (ht : (full pre mark b).take c ++ pl = (full pre mark b).take (c + pl.length)) (hc : c + pl.length ≤ (full pre mark b).length) (hc0 : c ≤ (full pre mark b).length) :
    rkeys pre mark (aft t (pl.getD (pl.length - 1) default)) b.objs [] = (full pre mark b).drop (c + pl.length) ∧ pl.getD (pl.length - 1) default ∈ full pre mark b := by
  have e1 : full pre mark b = (full pre mark b).take c ++ pl ++ (full pre mark b).drop (c + pl.length) := by rw [ht, List.take_append_drop]
  have e2 : pl = pl.take (pl.length - 1) ++ [pl.getD (pl.length - 1) default] := by
    rw [List.getD_eq_getElem?_getD, List.getElem?_eq_getElem (by omega), Option.getD_some]
    have := List.take_succ_eq_append_getElem (l := pl) (i := pl.length - 1) (by omega)
    rw [show pl.length - 1 + 1 = pl.length by omega, List.take_length] at this
    exact this
  have e3 : full pre mark b = ((full pre mark b).take c ++ pl.take (pl.length - 1)) ++ pl.getD (pl.length - 1) default :: (full pre mark b).drop (c + pl.length) := by
    refine e1.trans ?_
    generalize (full pre mark b).drop (c + pl.length) = E
    have e4 : pl ++ E = pl.take (pl.length - 1) ++ pl.getD (pl.length - 1) default :: E := by
      conv => lhs; rw [e2]
      rw [List.append_assoc]; rfl
    rw [List.append_assoc, e4, List.append_assoc]
  refine ⟨keys_next hg e3, ?_⟩
  rw [e3]; simp

end Go.Proofs.Ytolplbfonlhbhaa
