/- Laws, first part: ListKeys, ListVersions. -/
import Derived.Test.YtolplbfonlhbhaaC19
set_option maxRecDepth 20000
set_option maxHeartbeats 4000000
set_option linter.unusedVariables false
set_option linter.unusedSectionVars false
set_option linter.unusedSimpArgs false
namespace Go.Proofs.Ytolplbfonlhbhaa
open Go Go.Eng
variable [Globs]

variable [G23]
def e9 : Ent
  | [] => some (True, fun r => r = B true)
  | _ => none
theorem e9_ok : EntOk Try.prog 9 e9 := by
  intro args q post h
  unfold e9 at h
  split at h
  · simp only [Option.some.injEq, Prod.mk.injEq] at h
    obtain ⟨rfl, rfl⟩ := h
    exact ⟨⟨_, rfl⟩, fun _ => f9_ok⟩
  · simp at h
def pagedT (l : List RowL) (most : Int) : List RowL × Bool × Int := if most < 1 ∨ most > 100 then ([], false, 1) else ((cutM l most).1, (cutM l most).2, 0)
theorem pagedR_tup (l : List RowL) (most : Int) : pagedR l most = .tup [.d (dRows (pagedT l most).1), B (pagedT l most).2.1, I (pagedT l most).2.2] := by
  rw [pagedR, pagedT]
  split <;> rfl
theorem pagedT_ok {l : List RowL} (h : ∀ r ∈ l, okRow r) (most : Int) : okL okRow (pagedT l most).1 := by
  rw [pagedT]
  split
  · exact okL_nil _
  · show okL okRow (if (l.length : Int) > most then l.take most.toNat else l)
    split
    · exact ⟨by rw [List.length_take]; omega, fun r hr => h r (List.mem_of_mem_take hr)⟩
    · exact ⟨by omega, h⟩
theorem zeroV_ok : okVer zeroV := ⟨rfl, okL_nil _⟩
theorem rkeys_ok (pre mark after : ByteArray) : ∀ (os : List ObjL) (rows : List RowL), (∀ o ∈ os, okObj o ∧ 1 ≤ o.vers.length) → (∀ r ∈ rows, okRow r) → ∀ r ∈ rkeys pre mark after os rows, okRow r
  | [], rows, _, hr => hr
  | o :: os, rows, ho, hr => by
    have ho' : ∀ x ∈ os, okObj x ∧ 1 ≤ x.vers.length := fun x hx => ho x (List.mem_cons_of_mem _ hx)
    rw [rkeys]
    split
    · exact rkeys_ok pre mark after os rows ho' hr
    · split
      · refine rkeys_ok pre mark after os _ ho' fun r hx => ?_
        rcases List.mem_append.1 hx with hx | hx
        · exact hr r hx
        · simp only [List.mem_singleton] at hx
          subst hx
          have h1 := ho o (List.mem_cons_self ..)
          exact okL_get h1.1.2 (i := o.vers.length - 1) (by omega)
      · split
        · exact rkeys_ok pre mark after os rows ho' hr
        · refine rkeys_ok pre mark after os _ ho' fun r hx => ?_
          rcases List.mem_append.1 hx with hx | hx
          · exact hr r hx
          · simp only [List.mem_singleton] at hx
            subst hx
            exact zeroV_ok
theorem rversIn_ok (frm : SpotL) (key : ByteArray) (vs : List VerL) (hv : okL okVer vs) : ∀ (n : Nat) (rows : List RowL), n ≤ vs.length → (∀ r ∈ rows, okRow r) → ∀ r ∈ rversIn frm key vs n rows, okRow r
  | 0, rows, _, hr => hr
  | n + 1, rows, hn, hr => by
    rw [rversIn]
    split
    · refine rversIn_ok frm key vs hv n _ (by omega) fun r hx => ?_
      rcases List.mem_append.1 hx with hx | hx
      · exact hr r hx
      · simp only [List.mem_singleton] at hx
        subst hx
        exact okL_get hv (i := n) (by omega)
    · exact rversIn_ok frm key vs hv n rows (by omega) hr
theorem rvers_ok (pre : ByteArray) (frm : SpotL) : ∀ (os : List ObjL) (rows : List RowL), (∀ o ∈ os, okObj o) → (∀ r ∈ rows, okRow r) → ∀ r ∈ rvers pre frm os rows, okRow r
  | [], rows, _, hr => hr
  | o :: os, rows, ho, hr => by
    rw [rvers]
    split
    · exact rvers_ok pre frm os rows (fun x hx => ho x (List.mem_cons_of_mem _ hx)) hr
    · exact rvers_ok pre frm os _ (fun x hx => ho x (List.mem_cons_of_mem _ hx)) (rversIn_ok frm o.key o.vers (ho o (List.mem_cons_self ..)).2 _ _ (Nat.le_refl _) hr)

-- chartularylaw23.ListKeys
theorem f3_ok (s : StL) (pre mark after : ByteArray) (most : Int) (hs : okSt s) (hpre : pre.size ≤ 1048576) (hmark : mark.size ≤ 1048576) : PureOk Try.prog 3 [.d (dSt s), S pre, S mark, S after, I most] fun r => r = B true := by
  refine PureOk_of (fn := Try.f3) (rs := [.tmp 10]) (n := 64) (hf := Try.func3) (hn := by kernel_rfl) (hb := rfl) (hr := rfl) (hN := rfl) (hargs := by simp) (ha := by simp [AV.bels, AV.bel]) (hrb := by rintro _ rfl; simp [AV.bel, AV.bels]) (h := fun Z0 w0 => ?_)
  simp only [enumA, Nat.zero_add]
  refine Wps_seq ?_
  refine Wps_reg (T := [(8, e8), (9, e9), (10, e10), (11, e11), (12, e12)]) ⟨e8_ok, e9_ok, e10_ok, e11_ok, e12_ok, trivial⟩ [1, 2, 3, 4, 5] rfl (by simp) fun K hK => ?_
  repeat
    (first | refine X0 rfl fun K1 hK1 => ?_ | refine X1 rfl rfl fun K1 hK1 => ?_)
    simp only [↓EP, EQ, implies_true, forall_const, tys, zoks, zeros, Nat.reduceEqDiff, Nat.reduceAdd, Nat.reduceLT, Nat.reduceLeDiff, reduceIte, reduceCtorEq, e8_ap, e9, e10_ap, e11_ap, e12_ap, all_exT, ↓dBuc_size, ↓dBuc_isAg, ↓dBuc_nav, ↓dBuc_vp, dBuc_fold, ↓dSt_size, ↓dSt_isAg, ↓dSt_nav, ↓dSt_vp, dSt_fold]
    try simp (disch := omega) only [wrap64, wrapU64]
    repeat (first | refine And.intro cl ?_ | intro e)
    refine hK1 _ ?_
    clear hK1 K1
  refine XE ?_
  refine hK _ _ (by simp only [St.keep, keepL, at_cons, at_nil, Nat.reduceEqDiff, reduceIte, eq_self]; rfl) ?_
  clear hK K
  refine Wps_seq ?_
  refine Wps_reg (T := [(8, e8), (9, e9), (10, e10), (11, e11), (12, e12)]) ⟨e8_ok, e9_ok, e10_ok, e11_ok, e12_ok, trivial⟩ [1, 2, 3, 4, 11, 12] rfl (by simp) fun K hK => ?_
  repeat
    (first | refine X0 rfl fun K1 hK1 => ?_ | refine X1 rfl rfl fun K1 hK1 => ?_)
    simp only [↓EP, EQ, implies_true, forall_const, tys, zoks, zeros, Nat.reduceEqDiff, Nat.reduceAdd, Nat.reduceLT, Nat.reduceLeDiff, reduceIte, reduceCtorEq, e8_ap, e9, e10_ap, e11_ap, e12_ap, all_exT, ↓dBuc_size, ↓dBuc_isAg, ↓dBuc_nav, ↓dBuc_vp, dBuc_fold, ↓dSt_size, ↓dSt_isAg, ↓dSt_nav, ↓dSt_vp, dSt_fold]
    try simp (disch := omega) only [wrap64, wrapU64]
    try (refine And.intro hs ?_)
    try (rintro ⟨pb, pd⟩ ⟨hp1, hp2, hp3⟩)
    try simp only [hp2, hp3]
    repeat (first | refine And.intro cl ?_ | intro e)
    refine hK1 _ ?_
    clear hK1 K1
  refine XE ?_
  refine hK _ _ (by simp only [St.keep, keepL, at_cons, at_nil, Nat.reduceEqDiff, reduceIte, eq_self]; rfl) ?_
  clear hK K
  refine Wps_seq ?_
  refine Wps_seq ?_
  refine Wps_reg (T := [(8, e8), (9, e9), (10, e10), (11, e11), (12, e12)]) ⟨e8_ok, e9_ok, e10_ok, e11_ok, e12_ok, trivial⟩ [1, 2, 3, 4, 11, 29] rfl (by simp) fun K hK => ?_
  repeat
    (first | refine X0 rfl fun K1 hK1 => ?_ | refine X1 rfl rfl fun K1 hK1 => ?_)
    simp only [↓EP, EQ, implies_true, forall_const, tys, zoks, zeros, Nat.reduceEqDiff, Nat.reduceAdd, Nat.reduceLT, Nat.reduceLeDiff, reduceIte, reduceCtorEq, e8_ap, e9, e10_ap, e11_ap, e12_ap, all_exT, ↓dBuc_size, ↓dBuc_isAg, ↓dBuc_nav, ↓dBuc_vp, dBuc_fold, ↓dSt_size, ↓dSt_isAg, ↓dSt_nav, ↓dSt_vp, dSt_fold]
    try simp (disch := omega) only [wrap64, wrapU64]
    repeat (first | refine And.intro cl ?_ | intro e)
    refine hK1 _ ?_
    clear hK1 K1
  refine XE ?_
  refine hK _ _ (by simp only [St.keep, keepL, at_cons, at_nil, Nat.reduceEqDiff, reduceIte, eq_self]; rfl) ?_
  clear hK K
  refine Wps_cond rfl (fun hc1 => ?_) (fun hc1 => ?_)
  · have hr1 := hc1
    try simp only [decide_eq_true_eq, decide_eq_false_iff_not, Bool.not_eq_true', Bool.not_eq_false', Int.not_lt, Int.not_le, ge_iff_le, gt_iff_lt, Bool.or_eq_false_iff, Bool.or_eq_true, Bool.and_eq_true, Bool.and_eq_false_imp, beq_iff_eq, beq_eq_false_iff_ne, ne_eq, bne_iff_ne, bne_eq_false_iff_eq] at hc1
    refine Wps_seq ?_
    refine Wps_reg (T := [(8, e8), (9, e9), (10, e10), (11, e11), (12, e12)]) ⟨e8_ok, e9_ok, e10_ok, e11_ok, e12_ok, trivial⟩ [10] rfl (by simp) fun K hK => ?_
    repeat
      (first | refine X0 rfl fun K1 hK1 => ?_ | refine X1 rfl rfl fun K1 hK1 => ?_)
      simp only [↓EP, EQ, implies_true, forall_const, tys, zoks, zeros, Nat.reduceEqDiff, Nat.reduceAdd, Nat.reduceLT, Nat.reduceLeDiff, reduceIte, reduceCtorEq, e8_ap, e9, e10_ap, e11_ap, e12_ap, all_exT, ↓dBuc_size, ↓dBuc_isAg, ↓dBuc_nav, ↓dBuc_vp, dBuc_fold, ↓dSt_size, ↓dSt_isAg, ↓dSt_nav, ↓dSt_vp, dSt_fold]
      try simp (disch := omega) only [wrap64, wrapU64]
      repeat (first | refine And.intro cl ?_ | intro e)
      refine hK1 _ ?_
      clear hK1 K1
    refine XE ?_
    refine hK _ _ (by simp only [St.keep, keepL, at_cons, at_nil, Nat.reduceEqDiff, reduceIte, eq_self]; rfl) ?_
    clear hK K
    refine Wps_ret ?_
    try simp only [Wps_nil, thenQ_normal, thenQ_exit, thenQ_ret, blkQ_normal, blkQ_ret, blkQ_if, blkQ_same, scQ_normal, scQ_ret, scQ_exit, Nat.reduceEqDiff, reduceIte, eq_self, reduceCtorEq, if_true, if_false]
    first | refine ret_pureQ rfl ?_ | refine ret_pureN rfl ?_
    simp only [retP, at_cons, at_nil, Nat.reduceEqDiff, reduceIte, eq_self, AV.use, retV, AV.bel, AV.bels, true_and, and_true]
    all_goals rfl
  · have hr1 := hc1
    try simp only [decide_eq_true_eq, decide_eq_false_iff_not, Bool.not_eq_true', Bool.not_eq_false', Int.not_lt, Int.not_le, ge_iff_le, gt_iff_lt, Bool.or_eq_false_iff, Bool.or_eq_true, Bool.and_eq_true, Bool.and_eq_false_imp, beq_iff_eq, beq_eq_false_iff_ne, ne_eq, bne_iff_ne, bne_eq_false_iff_eq] at hc1
    have hpt : pb = true := by simpa using hc1
    obtain ⟨hlen, rfl, hgood⟩ := hp1 hpt
    have hb0 := okL_get hs hlen
    have hmem : ∀ o ∈ (s.bucs.getD 0 default).objs, okObj o ∧ 1 ≤ o.vers.length := fun o ho => ⟨hb0.2.2.2.1.2 o ho, (goodB_mem hgood ho).1.2.1⟩
    have hrow := pagedT_ok (rkeys_ok pre mark after (s.bucs.getD 0 default).objs [] hmem (by simp)) most
    refine Wps_skip ?_
    refine Wps_seq ?_
    refine Wps_reg (T := [(8, e8), (9, e9), (10, e10), (11, e11), (12, e12)]) ⟨e8_ok, e9_ok, e10_ok, e11_ok, e12_ok, trivial⟩ [1, 2, 3, 4, 11, 13, 14, 15] rfl (by simp) fun K hK => ?_
    repeat
      (first | refine X0 rfl fun K1 hK1 => ?_ | refine X1 rfl rfl fun K1 hK1 => ?_)
      simp only [↓EP, EQ, implies_true, forall_const, tys, zoks, zeros, Nat.reduceEqDiff, Nat.reduceAdd, Nat.reduceLT, Nat.reduceLeDiff, reduceIte, reduceCtorEq, e8_ap, e9, e10_ap, e11_ap, e12_ap, all_exT, ↓dBuc_size, ↓dBuc_isAg, ↓dBuc_nav, ↓dBuc_vp, dBuc_fold, ↓dSt_size, ↓dSt_isAg, ↓dSt_nav, ↓dSt_vp, dSt_fold, keys_eq hgood, pagedR_tup]
      try simp (disch := omega) only [wrap64, wrapU64]
      try (refine And.intro ⟨hb0, hpre, hmark⟩ ?_)
      repeat (first | refine And.intro cl ?_ | intro e)
      refine hK1 _ ?_
      clear hK1 K1
    refine XE ?_
    refine hK _ _ (by simp only [St.keep, keepL, at_cons, at_nil, Nat.reduceEqDiff, reduceIte, eq_self]; rfl) ?_
    clear hK K
    refine Wps_seq ?_
    refine Wps_reg (T := [(8, e8), (9, e9), (10, e10), (11, e11), (12, e12)]) ⟨e8_ok, e9_ok, e10_ok, e11_ok, e12_ok, trivial⟩ [13, 14, 15, 16, 17, 18] rfl (by simp) fun K hK => ?_
    repeat
      (first | refine X0 rfl fun K1 hK1 => ?_ | refine X1 rfl rfl fun K1 hK1 => ?_)
      simp only [↓EP, EQ, implies_true, forall_const, tys, zoks, zeros, Nat.reduceEqDiff, Nat.reduceAdd, Nat.reduceLT, Nat.reduceLeDiff, reduceIte, reduceCtorEq, e8_ap, e9, e10_ap, e11_ap, e12_ap, all_exT, ↓dBuc_size, ↓dBuc_isAg, ↓dBuc_nav, ↓dBuc_vp, dBuc_fold, ↓dSt_size, ↓dSt_isAg, ↓dSt_nav, ↓dSt_vp, dSt_fold, pagedR_tup]
      try simp (disch := omega) only [wrap64, wrapU64]
      try (refine And.intro ⟨hb0, hgood, hmark⟩ ?_)
      repeat (first | refine And.intro cl ?_ | intro e)
      refine hK1 _ ?_
      clear hK1 K1
    refine XE ?_
    refine hK _ _ (by simp only [St.keep, keepL, at_cons, at_nil, Nat.reduceEqDiff, reduceIte, eq_self]; rfl) ?_
    clear hK K
    refine Wps_seq ?_
    refine Wps_reg (T := [(8, e8), (9, e9), (10, e10), (11, e11), (12, e12)]) ⟨e8_ok, e9_ok, e10_ok, e11_ok, e12_ok, trivial⟩ [10] rfl (by simp) fun K hK => ?_
    repeat
      (first | refine X0 rfl fun K1 hK1 => ?_ | refine X1 rfl rfl fun K1 hK1 => ?_)
      simp only [↓EP, EQ, implies_true, forall_const, tys, zoks, zeros, Nat.reduceEqDiff, Nat.reduceAdd, Nat.reduceLT, Nat.reduceLeDiff, reduceIte, reduceCtorEq, e8_ap, e9, e10_ap, e11_ap, e12_ap, all_exT, ↓dBuc_size, ↓dBuc_isAg, ↓dBuc_nav, ↓dBuc_vp, dBuc_fold, ↓dSt_size, ↓dSt_isAg, ↓dSt_nav, ↓dSt_vp, dSt_fold]
      try simp (disch := omega) only [wrap64, wrapU64]
      try (refine And.intro (fun _ => ⟨hrow, hrow⟩) ?_)
      repeat (first | refine And.intro cl ?_ | intro e)
      refine hK1 _ ?_
      clear hK1 K1
    refine XE ?_
    refine hK _ _ (by simp only [St.keep, keepL, at_cons, at_nil, Nat.reduceEqDiff, reduceIte, eq_self]; rfl) ?_
    clear hK K
    refine Wps_ret ?_
    try simp only [Wps_nil, thenQ_normal, thenQ_exit, thenQ_ret, blkQ_normal, blkQ_ret, blkQ_if, blkQ_same, scQ_normal, scQ_ret, scQ_exit, Nat.reduceEqDiff, reduceIte, eq_self, reduceCtorEq, if_true, if_false]
    first | refine ret_pureQ rfl ?_ | refine ret_pureN rfl ?_
    simp only [retP, at_cons, at_nil, Nat.reduceEqDiff, reduceIte, eq_self, AV.use, retV, AV.bel, AV.bels, true_and, and_true]
    all_goals rfl

end Go.Proofs.Ytolplbfonlhbhaa
