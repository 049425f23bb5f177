/- Laws: ListVersions. -/
import Derived.Test.YtolplbfonlhbhaaC20
set_option maxRecDepth 20000
set_option maxHeartbeats 4000000
set_option linter.unusedVariables false
set_option linter.unusedSectionVars false
set_option linter.unusedSimpArgs false
namespace Go.Proofs.Ytolplbfonlhbhaa
open Go Go.Eng
variable [Globs]

variable [G23]
-- chartularylaw23.ListVersions
theorem f4_ok (s : StL) (pre : ByteArray) (frm : SpotL) (most : Int) (hs : okSt s) : PureOk Try.prog 4 [.d (dSt s), S pre, .d (dSpot frm), I most] fun r => r = B true := by
  refine PureOk_of (fn := Try.f4) (rs := [.tmp 8]) (n := 60) (hf := Try.func4) (hn := by kernel_rfl) (hb := rfl) (hr := rfl) (hN := rfl) (hargs := by simp) (ha := by simp [AV.bels, AV.bel]) (hrb := by rintro _ rfl; simp [AV.bel, AV.bels]) (h := fun Z0 w0 => ?_)
  simp only [enumA, Nat.zero_add]
  refine Wps_seq ?_
  refine Wps_reg (T := [(8, e8), (9, e9), (12, e12), (13, e13), (14, e14)]) ⟨e8_ok, e9_ok, e12_ok, e13_ok, e14_ok, trivial⟩ [1, 3, 4, 6] rfl (by simp) fun K hK => ?_
  repeat
    (first | refine X0 rfl fun K1 hK1 => ?_ | refine X1 rfl rfl fun K1 hK1 => ?_)
    simp only [↓EP, EQ, implies_true, forall_const, tys, zoks, zeros, Nat.reduceEqDiff, Nat.reduceAdd, Nat.reduceLT, Nat.reduceLeDiff, reduceIte, reduceCtorEq, e8_ap, e9, e12_ap, e13_ap, e14_ap, all_exT, ↓dBuc_size, ↓dBuc_isAg, ↓dBuc_nav, ↓dBuc_vp, dBuc_fold, ↓dSt_size, ↓dSt_isAg, ↓dSt_nav, ↓dSt_vp, dSt_fold, ↓dSpot_size, ↓dSpot_isAg, ↓dSpot_nav, ↓dSpot_vp, dSpot_fold]
    try simp (disch := omega) only [wrap64, wrapU64]
    repeat (first | refine And.intro cl ?_ | intro e)
    refine hK1 _ ?_
    clear hK1 K1
  refine XE ?_
  refine hK _ _ (by simp only [St.keep, keepL, at_cons, at_nil, Nat.reduceEqDiff, reduceIte, eq_self]; rfl) ?_
  clear hK K
  refine Wps_seq ?_
  refine Wps_reg (T := [(8, e8), (9, e9), (12, e12), (13, e13), (14, e14)]) ⟨e8_ok, e9_ok, e12_ok, e13_ok, e14_ok, trivial⟩ [1, 3, 6, 9, 10] rfl (by simp) fun K hK => ?_
  repeat
    (first | refine X0 rfl fun K1 hK1 => ?_ | refine X1 rfl rfl fun K1 hK1 => ?_)
    simp only [↓EP, EQ, implies_true, forall_const, tys, zoks, zeros, Nat.reduceEqDiff, Nat.reduceAdd, Nat.reduceLT, Nat.reduceLeDiff, reduceIte, reduceCtorEq, e8_ap, e9, e12_ap, e13_ap, e14_ap, all_exT, ↓dBuc_size, ↓dBuc_isAg, ↓dBuc_nav, ↓dBuc_vp, dBuc_fold, ↓dSt_size, ↓dSt_isAg, ↓dSt_nav, ↓dSt_vp, dSt_fold, ↓dSpot_size, ↓dSpot_isAg, ↓dSpot_nav, ↓dSpot_vp, dSpot_fold]
    try simp (disch := omega) only [wrap64, wrapU64]
    try (refine And.intro hs ?_)
    try (rintro ⟨pb, pd⟩ ⟨hp1, hp2, hp3⟩)
    try simp only [hp2, hp3]
    repeat (first | refine And.intro cl ?_ | intro e)
    refine hK1 _ ?_
    clear hK1 K1
  refine XE ?_
  refine hK _ _ (by simp only [St.keep, keepL, at_cons, at_nil, Nat.reduceEqDiff, reduceIte, eq_self]; rfl) ?_
  clear hK K
  refine Wps_seq ?_
  refine Wps_seq ?_
  refine Wps_reg (T := [(8, e8), (9, e9), (12, e12), (13, e13), (14, e14)]) ⟨e8_ok, e9_ok, e12_ok, e13_ok, e14_ok, trivial⟩ [1, 3, 6, 9, 27] rfl (by simp) fun K hK => ?_
  repeat
    (first | refine X0 rfl fun K1 hK1 => ?_ | refine X1 rfl rfl fun K1 hK1 => ?_)
    simp only [↓EP, EQ, implies_true, forall_const, tys, zoks, zeros, Nat.reduceEqDiff, Nat.reduceAdd, Nat.reduceLT, Nat.reduceLeDiff, reduceIte, reduceCtorEq, e8_ap, e9, e12_ap, e13_ap, e14_ap, all_exT, ↓dBuc_size, ↓dBuc_isAg, ↓dBuc_nav, ↓dBuc_vp, dBuc_fold, ↓dSt_size, ↓dSt_isAg, ↓dSt_nav, ↓dSt_vp, dSt_fold, ↓dSpot_size, ↓dSpot_isAg, ↓dSpot_nav, ↓dSpot_vp, dSpot_fold]
    try simp (disch := omega) only [wrap64, wrapU64]
    repeat (first | refine And.intro cl ?_ | intro e)
    refine hK1 _ ?_
    clear hK1 K1
  refine XE ?_
  refine hK _ _ (by simp only [St.keep, keepL, at_cons, at_nil, Nat.reduceEqDiff, reduceIte, eq_self]; rfl) ?_
  clear hK K
  refine Wps_cond rfl (fun hc1 => ?_) (fun hc1 => ?_)
  · have hr1 := hc1
    try simp only [decide_eq_true_eq, decide_eq_false_iff_not, Bool.not_eq_true', Bool.not_eq_false', Int.not_lt, Int.not_le, ge_iff_le, gt_iff_lt, Bool.or_eq_false_iff, Bool.or_eq_true, Bool.and_eq_true, Bool.and_eq_false_imp, beq_iff_eq, beq_eq_false_iff_ne, ne_eq, bne_iff_ne, bne_eq_false_iff_eq] at hc1
    refine Wps_seq ?_
    refine Wps_reg (T := [(8, e8), (9, e9), (12, e12), (13, e13), (14, e14)]) ⟨e8_ok, e9_ok, e12_ok, e13_ok, e14_ok, trivial⟩ [8] rfl (by simp) fun K hK => ?_
    repeat
      (first | refine X0 rfl fun K1 hK1 => ?_ | refine X1 rfl rfl fun K1 hK1 => ?_)
      simp only [↓EP, EQ, implies_true, forall_const, tys, zoks, zeros, Nat.reduceEqDiff, Nat.reduceAdd, Nat.reduceLT, Nat.reduceLeDiff, reduceIte, reduceCtorEq, e8_ap, e9, e12_ap, e13_ap, e14_ap, all_exT, ↓dBuc_size, ↓dBuc_isAg, ↓dBuc_nav, ↓dBuc_vp, dBuc_fold, ↓dSt_size, ↓dSt_isAg, ↓dSt_nav, ↓dSt_vp, dSt_fold, ↓dSpot_size, ↓dSpot_isAg, ↓dSpot_nav, ↓dSpot_vp, dSpot_fold]
      try simp (disch := omega) only [wrap64, wrapU64]
      repeat (first | refine And.intro cl ?_ | intro e)
      refine hK1 _ ?_
      clear hK1 K1
    refine XE ?_
    refine hK _ _ (by simp only [St.keep, keepL, at_cons, at_nil, Nat.reduceEqDiff, reduceIte, eq_self]; rfl) ?_
    clear hK K
    refine Wps_ret ?_
    try simp only [Wps_nil, thenQ_normal, thenQ_exit, thenQ_ret, blkQ_normal, blkQ_ret, blkQ_if, blkQ_same, scQ_normal, scQ_ret, scQ_exit, Nat.reduceEqDiff, reduceIte, eq_self, reduceCtorEq, if_true, if_false]
    first | refine ret_pureQ rfl ?_ | refine ret_pureN rfl ?_
    simp only [retP, at_cons, at_nil, Nat.reduceEqDiff, reduceIte, eq_self, AV.use, retV, AV.bel, AV.bels, true_and, and_true]
    all_goals rfl
  · have hr1 := hc1
    try simp only [decide_eq_true_eq, decide_eq_false_iff_not, Bool.not_eq_true', Bool.not_eq_false', Int.not_lt, Int.not_le, ge_iff_le, gt_iff_lt, Bool.or_eq_false_iff, Bool.or_eq_true, Bool.and_eq_true, Bool.and_eq_false_imp, beq_iff_eq, beq_eq_false_iff_ne, ne_eq, bne_iff_ne, bne_eq_false_iff_eq] at hc1
    have hpt : pb = true := by simpa using hc1
    obtain ⟨hlen, rfl, hgood⟩ := hp1 hpt
    have hb0 := okL_get hs hlen
    have hmem : ∀ o ∈ (s.bucs.getD 0 default).objs, okObj o ∧ 1 ≤ o.vers.length := fun o ho => ⟨hb0.2.2.2.1.2 o ho, (goodB_mem hgood ho).1.2.1⟩
    have hrow := pagedT_ok (rvers_ok pre frm (s.bucs.getD 0 default).objs [] (fun o ho => (hmem o ho).1) (by simp)) most
    refine Wps_skip ?_
    refine Wps_seq ?_
    refine Wps_reg (T := [(8, e8), (9, e9), (12, e12), (13, e13), (14, e14)]) ⟨e8_ok, e9_ok, e12_ok, e13_ok, e14_ok, trivial⟩ [1, 3, 6, 9, 11, 12, 13] rfl (by simp) fun K hK => ?_
    repeat
      (first | refine X0 rfl fun K1 hK1 => ?_ | refine X1 rfl rfl fun K1 hK1 => ?_)
      simp only [↓EP, EQ, implies_true, forall_const, tys, zoks, zeros, Nat.reduceEqDiff, Nat.reduceAdd, Nat.reduceLT, Nat.reduceLeDiff, reduceIte, reduceCtorEq, e8_ap, e9, e12_ap, e13_ap, e14_ap, all_exT, ↓dBuc_size, ↓dBuc_isAg, ↓dBuc_nav, ↓dBuc_vp, dBuc_fold, ↓dSt_size, ↓dSt_isAg, ↓dSt_nav, ↓dSt_vp, dSt_fold, ↓dSpot_size, ↓dSpot_isAg, ↓dSpot_nav, ↓dSpot_vp, dSpot_fold, vers_eq, pagedR_tup]
      try simp (disch := omega) only [wrap64, wrapU64]
      try (refine And.intro hb0 ?_)
      repeat (first | refine And.intro cl ?_ | intro e)
      refine hK1 _ ?_
      clear hK1 K1
    refine XE ?_
    refine hK _ _ (by simp only [St.keep, keepL, at_cons, at_nil, Nat.reduceEqDiff, reduceIte, eq_self]; rfl) ?_
    clear hK K
    refine Wps_seq ?_
    refine Wps_reg (T := [(8, e8), (9, e9), (12, e12), (13, e13), (14, e14)]) ⟨e8_ok, e9_ok, e12_ok, e13_ok, e14_ok, trivial⟩ [11, 12, 13, 14, 15, 16] rfl (by simp) fun K hK => ?_
    repeat
      (first | refine X0 rfl fun K1 hK1 => ?_ | refine X1 rfl rfl fun K1 hK1 => ?_)
      simp only [↓EP, EQ, implies_true, forall_const, tys, zoks, zeros, Nat.reduceEqDiff, Nat.reduceAdd, Nat.reduceLT, Nat.reduceLeDiff, reduceIte, reduceCtorEq, e8_ap, e9, e12_ap, e13_ap, e14_ap, all_exT, ↓dBuc_size, ↓dBuc_isAg, ↓dBuc_nav, ↓dBuc_vp, dBuc_fold, ↓dSt_size, ↓dSt_isAg, ↓dSt_nav, ↓dSt_vp, dSt_fold, ↓dSpot_size, ↓dSpot_isAg, ↓dSpot_nav, ↓dSpot_vp, dSpot_fold, pagedR_tup]
      try simp (disch := omega) only [wrap64, wrapU64]
      try (refine And.intro ⟨hb0, hgood⟩ ?_)
      repeat (first | refine And.intro cl ?_ | intro e)
      refine hK1 _ ?_
      clear hK1 K1
    refine XE ?_
    refine hK _ _ (by simp only [St.keep, keepL, at_cons, at_nil, Nat.reduceEqDiff, reduceIte, eq_self]; rfl) ?_
    clear hK K
    refine Wps_seq ?_
    refine Wps_reg (T := [(8, e8), (9, e9), (12, e12), (13, e13), (14, e14)]) ⟨e8_ok, e9_ok, e12_ok, e13_ok, e14_ok, trivial⟩ [8] rfl (by simp) fun K hK => ?_
    repeat
      (first | refine X0 rfl fun K1 hK1 => ?_ | refine X1 rfl rfl fun K1 hK1 => ?_)
      simp only [↓EP, EQ, implies_true, forall_const, tys, zoks, zeros, Nat.reduceEqDiff, Nat.reduceAdd, Nat.reduceLT, Nat.reduceLeDiff, reduceIte, reduceCtorEq, e8_ap, e9, e12_ap, e13_ap, e14_ap, all_exT, ↓dBuc_size, ↓dBuc_isAg, ↓dBuc_nav, ↓dBuc_vp, dBuc_fold, ↓dSt_size, ↓dSt_isAg, ↓dSt_nav, ↓dSt_vp, dSt_fold, ↓dSpot_size, ↓dSpot_isAg, ↓dSpot_nav, ↓dSpot_vp, dSpot_fold]
      try simp (disch := omega) only [wrap64, wrapU64]
      try (refine And.intro (fun _ => ⟨hrow, hrow⟩) ?_)
      repeat (first | refine And.intro cl ?_ | intro e)
      refine hK1 _ ?_
      clear hK1 K1
    refine XE ?_
    refine hK _ _ (by simp only [St.keep, keepL, at_cons, at_nil, Nat.reduceEqDiff, reduceIte, eq_self]; rfl) ?_
    clear hK K
    refine Wps_ret ?_
    try simp only [Wps_nil, thenQ_normal, thenQ_exit, thenQ_ret, blkQ_normal, blkQ_ret, blkQ_if, blkQ_same, scQ_normal, scQ_ret, scQ_exit, Nat.reduceEqDiff, reduceIte, eq_self, reduceCtorEq, if_true, if_false]
    first | refine ret_pureQ rfl ?_ | refine ret_pureN rfl ?_
    simp only [retP, at_cons, at_nil, Nat.reduceEqDiff, reduceIte, eq_self, AV.use, retV, AV.bel, AV.bels, true_and, and_true]
    all_goals rfl

end Go.Proofs.Ytolplbfonlhbhaa
