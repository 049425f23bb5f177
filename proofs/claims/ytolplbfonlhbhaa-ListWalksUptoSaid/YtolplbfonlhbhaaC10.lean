/- Contracts, tenth part: whether a state is sound. -/
import Derived.Test.YtolplbfonlhbhaaC9
set_option maxRecDepth 20000
set_option maxHeartbeats 4000000
set_option linter.unusedVariables false
set_option linter.unusedSectionVars false
set_option linter.unusedSimpArgs false
namespace Go.Proofs.Ytolplbfonlhbhaa
open Go Go.Eng
variable [Globs]

-- chartularyref15.Sound
theorem f18_ok (s : StL) (hs : okSt s) : PureOk Try.prog 18 [.d (dSt s)] (YesB (goodS s)) := by
  refine PureOk_of (fn := Try.f18) (rs := [.tmp 2]) (n := 247) (hf := Try.func18) (hn := by kernel_rfl) (hb := rfl) (hr := rfl) (hN := rfl) (hargs := by simp) (ha := by simp [AV.bels, AV.bel]) (hrb := by exact yes_bel) (h := fun Z0 w0 => ?_)
  simp only [enumA, Nat.zero_add]
  refine Wps_seq ?_
  refine Wps_reg (T := [(30, e30), (31, e31), (32, e32), (33, e33), (34, e34), (35, e35), (36, e36)]) ⟨e30_ok, e31_ok, e32_ok, e33_ok, e34_ok, e35_ok, e36_ok, trivial⟩ [1] rfl (by simp) fun K hK => ?_
  repeat
    (first | refine X0 rfl fun K1 hK1 => ?_ | refine X1 rfl rfl fun K1 hK1 => ?_)
    simp only [↓EP, EQ, implies_true, forall_const, tys, zoks, zeros, Nat.reduceEqDiff, Nat.reduceAdd, Nat.reduceLT, Nat.reduceLeDiff, reduceIte, reduceCtorEq, e30, e31, e32, e33, e34, e35_ap, e36, List.length_map, dId, ↓dSt_size, ↓dSt_isAg, ↓dSt_nav, ↓dSt_vp, dSt_fold, ↓dBuc_size, ↓dBuc_isAg, ↓dBuc_nav, ↓dBuc_vp, dBuc_fold, ↓dObj_size, ↓dObj_isAg, ↓dObj_nav, ↓dObj_vp, dObj_fold, ↓dVer_size, ↓dVer_isAg, ↓dVer_nav, ↓dVer_vp, dVer_fold, ↓dUp_size, ↓dUp_isAg, ↓dUp_nav, ↓dUp_vp, dUp_fold, ↓dLock_size, ↓dLock_isAg, ↓dLock_nav, ↓dLock_vp, dLock_fold, Int.toNat_natCast, toNat_pred]
    try simp (disch := omega) only [wrap64, wrapU64]
    repeat (first | refine And.intro cl ?_ | intro e)
    refine hK1 _ ?_
    clear hK1 K1
  refine XE ?_
  refine hK _ _ (by simp only [St.keep, keepL, at_cons, at_nil, Nat.reduceEqDiff, reduceIte, eq_self]; rfl) ?_
  clear hK K
  refine Wps_seq ?_
  refine Wps_seq ?_
  refine Wps_drw (T := [(30, e30), (31, e31), (32, e32), (33, e33), (34, e34), (35, e35), (36, e36)]) ⟨e30_ok, e31_ok, e32_ok, e33_ok, e34_ok, e35_ok, e36_ok, trivial⟩ (by kernel_rfl) [(0, true), (1, true), (3, true), (4, true), (2, false), (5, true), (6, true), (7, true), (8, true), (9, true), (10, true), (11, true), (12, true), (13, true), (14, true), (15, true), (16, true), (17, true), (18, true), (19, true), (20, true), (21, true), (22, true), (23, true), (24, true), (25, true), (26, true), (27, true), (28, true), (29, true), (30, true), (31, true)] (by kernel_rfl) [1, 45] rfl (by simp) fun K hK => ?_
  repeat
    (first | refine R0 rfl rfl fun K1 hK1 => ?_ | refine R1 rfl rfl rfl fun K1 hK1 => ?_ | refine Q0 rfl rfl fun K1 hK1 => ?_ | refine Q1 rfl rfl rfl fun K1 hK1 => ?_)
    simp only [↓EP, EQ, implies_true, forall_const, tys, zoks, zeros, Nat.reduceEqDiff, Nat.reduceAdd, Nat.reduceLT, Nat.reduceLeDiff, reduceIte, reduceCtorEq, e30, e31, e32, e33, e34, e35_ap, e36, List.length_map, dId, ↓dSt_size, ↓dSt_isAg, ↓dSt_nav, ↓dSt_vp, dSt_fold, ↓dBuc_size, ↓dBuc_isAg, ↓dBuc_nav, ↓dBuc_vp, dBuc_fold, ↓dObj_size, ↓dObj_isAg, ↓dObj_nav, ↓dObj_vp, dObj_fold, ↓dVer_size, ↓dVer_isAg, ↓dVer_nav, ↓dVer_vp, dVer_fold, ↓dUp_size, ↓dUp_isAg, ↓dUp_nav, ↓dUp_vp, dUp_fold, ↓dLock_size, ↓dLock_isAg, ↓dLock_nav, ↓dLock_vp, dLock_fold, Int.toNat_natCast, toNat_pred]
    try simp (disch := omega) only [wrap64, wrapU64]
    repeat (first | refine And.intro cl ?_ | intro e)
    refine hK1 _ ?_
    clear hK1 K1
  refine OE ?_
  refine hK _ _ (by simp only [St.keep, keepL, at_cons, at_nil, Nat.reduceEqDiff, reduceIte, eq_self]; rfl) ?_
  clear hK K
  refine Wps_cond rfl (fun hc1 => ?_) (fun hc1 => ?_)
  · try simp only [decide_eq_true_eq, decide_eq_false_iff_not, Bool.not_eq_true', Bool.not_eq_false', Int.not_lt, Int.not_le, ge_iff_le, gt_iff_lt, Bool.or_eq_false_iff, Bool.or_eq_true, Bool.and_eq_true, Bool.and_eq_false_imp, beq_iff_eq, beq_eq_false_iff_ne, ne_eq, bne_iff_ne, bne_eq_false_iff_eq] at hc1
    refine Wps_seq ?_
    refine Wps_reg (T := [(30, e30), (31, e31), (32, e32), (33, e33), (34, e34), (35, e35), (36, e36)]) ⟨e30_ok, e31_ok, e32_ok, e33_ok, e34_ok, e35_ok, e36_ok, trivial⟩ [2] rfl (by simp) fun K hK => ?_
    repeat
      (first | refine X0 rfl fun K1 hK1 => ?_ | refine X1 rfl rfl fun K1 hK1 => ?_)
      simp only [↓EP, EQ, implies_true, forall_const, tys, zoks, zeros, Nat.reduceEqDiff, Nat.reduceAdd, Nat.reduceLT, Nat.reduceLeDiff, reduceIte, reduceCtorEq, e30, e31, e32, e33, e34, e35_ap, e36, List.length_map, dId, ↓dSt_size, ↓dSt_isAg, ↓dSt_nav, ↓dSt_vp, dSt_fold, ↓dBuc_size, ↓dBuc_isAg, ↓dBuc_nav, ↓dBuc_vp, dBuc_fold, ↓dObj_size, ↓dObj_isAg, ↓dObj_nav, ↓dObj_vp, dObj_fold, ↓dVer_size, ↓dVer_isAg, ↓dVer_nav, ↓dVer_vp, dVer_fold, ↓dUp_size, ↓dUp_isAg, ↓dUp_nav, ↓dUp_vp, dUp_fold, ↓dLock_size, ↓dLock_isAg, ↓dLock_nav, ↓dLock_vp, dLock_fold, Int.toNat_natCast, toNat_pred]
      try simp (disch := omega) only [wrap64, wrapU64]
      repeat (first | refine And.intro cl ?_ | intro e)
      refine hK1 _ ?_
      clear hK1 K1
    refine XE ?_
    refine hK _ _ (by simp only [St.keep, keepL, at_cons, at_nil, Nat.reduceEqDiff, reduceIte, eq_self]; rfl) ?_
    clear hK K
    refine Wps_ret ?_
    try simp only [Wps_nil, thenQ_normal, thenQ_exit, thenQ_ret, blkQ_normal, blkQ_ret, blkQ_if, blkQ_same, scQ_normal, scQ_ret, scQ_exit, Nat.reduceEqDiff, reduceIte, eq_self, reduceCtorEq, if_true, if_false]
    first | refine ret_pureQ rfl ?_ | refine ret_pureN rfl ?_
    simp only [retP, at_cons, at_nil, Nat.reduceEqDiff, reduceIte, eq_self, AV.use, retV, AV.bel, AV.bels, true_and, and_true]
    exact ⟨_, rfl, by simp⟩
  · try simp only [decide_eq_true_eq, decide_eq_false_iff_not, Bool.not_eq_true', Bool.not_eq_false', Int.not_lt, Int.not_le, ge_iff_le, gt_iff_lt, Bool.or_eq_false_iff, Bool.or_eq_true, Bool.and_eq_true, Bool.and_eq_false_imp, beq_iff_eq, beq_eq_false_iff_ne, ne_eq, bne_iff_ne, bne_eq_false_iff_eq] at hc1
    refine Wps_skip ?_
    refine Wps_seq ?_
    refine Wps_reg (T := [(30, e30), (31, e31), (32, e32), (33, e33), (34, e34), (35, e35), (36, e36)]) ⟨e30_ok, e31_ok, e32_ok, e33_ok, e34_ok, e35_ok, e36_ok, trivial⟩ [1, 3] rfl (by simp) fun K hK => ?_
    repeat
      (first | refine X0 rfl fun K1 hK1 => ?_ | refine X1 rfl rfl fun K1 hK1 => ?_)
      simp only [↓EP, EQ, implies_true, forall_const, tys, zoks, zeros, Nat.reduceEqDiff, Nat.reduceAdd, Nat.reduceLT, Nat.reduceLeDiff, reduceIte, reduceCtorEq, e30, e31, e32, e33, e34, e35_ap, e36, List.length_map, dId, ↓dSt_size, ↓dSt_isAg, ↓dSt_nav, ↓dSt_vp, dSt_fold, ↓dBuc_size, ↓dBuc_isAg, ↓dBuc_nav, ↓dBuc_vp, dBuc_fold, ↓dObj_size, ↓dObj_isAg, ↓dObj_nav, ↓dObj_vp, dObj_fold, ↓dVer_size, ↓dVer_isAg, ↓dVer_nav, ↓dVer_vp, dVer_fold, ↓dUp_size, ↓dUp_isAg, ↓dUp_nav, ↓dUp_vp, dUp_fold, ↓dLock_size, ↓dLock_isAg, ↓dLock_nav, ↓dLock_vp, dLock_fold, Int.toNat_natCast, toNat_pred]
      try simp (disch := omega) only [wrap64, wrapU64]
      repeat (first | refine And.intro cl ?_ | intro e)
      refine hK1 _ ?_
      clear hK1 K1
    refine XE ?_
    refine hK _ _ (by simp only [St.keep, keepL, at_cons, at_nil, Nat.reduceEqDiff, reduceIte, eq_self]; rfl) ?_
    clear hK K
    refine Wps_seq ?_
    refine Wps_reg (T := [(30, e30), (31, e31), (32, e32), (33, e33), (34, e34), (35, e35), (36, e36)]) ⟨e30_ok, e31_ok, e32_ok, e33_ok, e34_ok, e35_ok, e36_ok, trivial⟩ [1, 3, 4] rfl (by simp) fun K hK => ?_
    repeat
      (first | refine X0 rfl fun K1 hK1 => ?_ | refine X1 rfl rfl fun K1 hK1 => ?_)
      simp only [↓EP, EQ, implies_true, forall_const, tys, zoks, zeros, Nat.reduceEqDiff, Nat.reduceAdd, Nat.reduceLT, Nat.reduceLeDiff, reduceIte, reduceCtorEq, e30, e31, e32, e33, e34, e35_ap, e36, List.length_map, dId, ↓dSt_size, ↓dSt_isAg, ↓dSt_nav, ↓dSt_vp, dSt_fold, ↓dBuc_size, ↓dBuc_isAg, ↓dBuc_nav, ↓dBuc_vp, dBuc_fold, ↓dObj_size, ↓dObj_isAg, ↓dObj_nav, ↓dObj_vp, dObj_fold, ↓dVer_size, ↓dVer_isAg, ↓dVer_nav, ↓dVer_vp, dVer_fold, ↓dUp_size, ↓dUp_isAg, ↓dUp_nav, ↓dUp_vp, dUp_fold, ↓dLock_size, ↓dLock_isAg, ↓dLock_nav, ↓dLock_vp, dLock_fold, Int.toNat_natCast, toNat_pred]
      try simp (disch := omega) only [wrap64, wrapU64]
      repeat (first | refine And.intro cl ?_ | intro e)
      refine hK1 _ ?_
      clear hK1 K1
    refine XE ?_
    refine hK _ _ (by simp only [St.keep, keepL, at_cons, at_nil, Nat.reduceEqDiff, reduceIte, eq_self]; rfl) ?_
    clear hK K
    refine Wps_seq ?_
    refine Wps_seq ?_
    refine Wps_reg (T := [(30, e30), (31, e31), (32, e32), (33, e33), (34, e34), (35, e35), (36, e36)]) ⟨e30_ok, e31_ok, e32_ok, e33_ok, e34_ok, e35_ok, e36_ok, trivial⟩ [1, 3, 4, 5] rfl (by simp) fun K hK => ?_
    repeat
      (first | refine X0 rfl fun K1 hK1 => ?_ | refine X1 rfl rfl fun K1 hK1 => ?_)
      simp only [↓EP, EQ, implies_true, forall_const, tys, zoks, zeros, Nat.reduceEqDiff, Nat.reduceAdd, Nat.reduceLT, Nat.reduceLeDiff, reduceIte, reduceCtorEq, e30, e31, e32, e33, e34, e35_ap, e36, List.length_map, dId, ↓dSt_size, ↓dSt_isAg, ↓dSt_nav, ↓dSt_vp, dSt_fold, ↓dBuc_size, ↓dBuc_isAg, ↓dBuc_nav, ↓dBuc_vp, dBuc_fold, ↓dObj_size, ↓dObj_isAg, ↓dObj_nav, ↓dObj_vp, dObj_fold, ↓dVer_size, ↓dVer_isAg, ↓dVer_nav, ↓dVer_vp, dVer_fold, ↓dUp_size, ↓dUp_isAg, ↓dUp_nav, ↓dUp_vp, dUp_fold, ↓dLock_size, ↓dLock_isAg, ↓dLock_nav, ↓dLock_vp, dLock_fold, Int.toNat_natCast, toNat_pred]
      try simp (disch := omega) only [wrap64, wrapU64]
      repeat (first | refine And.intro cl ?_ | intro e)
      refine hK1 _ ?_
      clear hK1 K1
    refine XE ?_
    refine hK _ _ (by simp only [St.keep, keepL, at_cons, at_nil, Nat.reduceEqDiff, reduceIte, eq_self]; rfl) ?_
    clear hK K
    refine Wps_block ?_
    -- live at the head: [1, 3, 4, 5]
    refine Wps_loop (fun n_ st_ => ∃ (i : Nat), ∃ (vs : Int), ∃ (ids : List Int), n_ = s.bucs.length - i ∧ (i ≤ s.bucs.length) ∧ (0 ≤ vs) ∧ (vs ≤ 256) ∧ ((ids.length : Int) ≤ vs + 4 * i) ∧ (∀ a, a < i → goodB (s.bucs.getD a default)) ∧ st_ = ⟨[(1, .ptr 0 0 []), (3, .own 1 1 (ids.map dId)), (4, I vs), (5, I i)], [.box (.d (dSt s)), .tok 22 1 ids.length]⟩) _ ⟨0, 0, [], rfl, (by simp), (by simp), (by simp), (by simp), (by simp), rfl⟩ (Wk.refl _) fun n_ st_ hI => ?_
    obtain ⟨i, vs, ids, rfl, hi0, hi1, hi2, hi3, hi4, rfl⟩ := hI
    refine Wps_seq ?_
    refine Wps_seq ?_
    refine Wps_reg (T := [(30, e30), (31, e31), (32, e32), (33, e33), (34, e34), (35, e35), (36, e36)]) ⟨e30_ok, e31_ok, e32_ok, e33_ok, e34_ok, e35_ok, e36_ok, trivial⟩ [1, 3, 4, 5, 51] rfl (by simp) fun K hK => ?_
    repeat
      (first | refine X0 rfl fun K1 hK1 => ?_ | refine X1 rfl rfl fun K1 hK1 => ?_)
      simp only [↓EP, EQ, implies_true, forall_const, tys, zoks, zeros, Nat.reduceEqDiff, Nat.reduceAdd, Nat.reduceLT, Nat.reduceLeDiff, reduceIte, reduceCtorEq, e30, e31, e32, e33, e34, e35_ap, e36, List.length_map, dId, ↓dSt_size, ↓dSt_isAg, ↓dSt_nav, ↓dSt_vp, dSt_fold, ↓dBuc_size, ↓dBuc_isAg, ↓dBuc_nav, ↓dBuc_vp, dBuc_fold, ↓dObj_size, ↓dObj_isAg, ↓dObj_nav, ↓dObj_vp, dObj_fold, ↓dVer_size, ↓dVer_isAg, ↓dVer_nav, ↓dVer_vp, dVer_fold, ↓dUp_size, ↓dUp_isAg, ↓dUp_nav, ↓dUp_vp, dUp_fold, ↓dLock_size, ↓dLock_isAg, ↓dLock_nav, ↓dLock_vp, dLock_fold, Int.toNat_natCast, toNat_pred]
      try simp (disch := omega) only [wrap64, wrapU64]
      repeat (first | refine And.intro cl ?_ | intro e)
      refine hK1 _ ?_
      clear hK1 K1
    refine XE ?_
    refine hK _ _ (by simp only [St.keep, keepL, at_cons, at_nil, Nat.reduceEqDiff, reduceIte, eq_self]; rfl) ?_
    clear hK K
    refine Wps_cond rfl (fun hc2 => ?_) (fun hc2 => ?_)
    · try simp only [decide_eq_true_eq, decide_eq_false_iff_not, Bool.not_eq_true', Bool.not_eq_false', Int.not_lt, Int.not_le, ge_iff_le, gt_iff_lt, Bool.or_eq_false_iff, Bool.or_eq_true, Bool.and_eq_true, Bool.and_eq_false_imp, beq_iff_eq, beq_eq_false_iff_ne, ne_eq, bne_iff_ne, bne_eq_false_iff_eq] at hc2
      refine Wps_skip ?_
      refine Wps_seq ?_
      refine Wps_block ?_
      refine Wps_seq ?_
      have hi : i < s.bucs.length := by omega
      have hp := okL_get hs hi
      obtain ⟨hp1, hp2, hp3, hp4, hp5⟩ := hp
      refine Wps_reg (T := [(30, e30), (31, e31), (32, e32), (33, e33), (34, e34), (35, e35), (36, e36)]) ⟨e30_ok, e31_ok, e32_ok, e33_ok, e34_ok, e35_ok, e36_ok, trivial⟩ [1, 3, 4, 5, 6] rfl (by simp) fun K hK => ?_
      repeat
        (first | refine X0 rfl fun K1 hK1 => ?_ | refine X1 rfl rfl fun K1 hK1 => ?_)
        simp only [↓EP, EQ, implies_true, forall_const, tys, zoks, zeros, Nat.reduceEqDiff, Nat.reduceAdd, Nat.reduceLT, Nat.reduceLeDiff, reduceIte, reduceCtorEq, e30, e31, e32, e33, e34, e35_ap, e36, List.length_map, dId, ↓dSt_size, ↓dSt_isAg, ↓dSt_nav, ↓dSt_vp, dSt_fold, ↓dBuc_size, ↓dBuc_isAg, ↓dBuc_nav, ↓dBuc_vp, dBuc_fold, ↓dObj_size, ↓dObj_isAg, ↓dObj_nav, ↓dObj_vp, dObj_fold, ↓dVer_size, ↓dVer_isAg, ↓dVer_nav, ↓dVer_vp, dVer_fold, ↓dUp_size, ↓dUp_isAg, ↓dUp_nav, ↓dUp_vp, dUp_fold, ↓dLock_size, ↓dLock_isAg, ↓dLock_nav, ↓dLock_vp, dLock_fold, Int.toNat_natCast, toNat_pred, getD_map_lt hi]
        try simp (disch := omega) only [wrap64, wrapU64]
        repeat (first | refine And.intro cl ?_ | intro e)
        refine hK1 _ ?_
        clear hK1 K1
      refine XE ?_
      refine hK _ _ (by simp only [St.keep, keepL, at_cons, at_nil, Nat.reduceEqDiff, reduceIte, eq_self]; rfl) ?_
      clear hK K
      refine Wps_seq ?_
      refine Wps_seq ?_
      refine Wps_drw (T := [(30, e30), (31, e31), (32, e32), (33, e33), (34, e34), (35, e35), (36, e36)]) ⟨e30_ok, e31_ok, e32_ok, e33_ok, e34_ok, e35_ok, e36_ok, trivial⟩ (by kernel_rfl) [(0, true), (1, true), (2, false), (3, true), (4, true), (5, true), (6, true), (7, true), (8, true), (9, true), (10, true), (11, true), (12, true), (13, true), (14, true), (15, true), (16, true), (17, true), (18, true), (19, true), (20, true), (21, true), (22, true), (23, false), (24, true), (25, true), (26, true), (27, true), (28, true), (29, false), (30, true), (31, true), (32, true), (33, true), (34, true), (35, false), (36, true), (37, true), (38, true), (39, true), (40, true), (41, true), (42, true), (43, true)] (by kernel_rfl) [1, 3, 4, 5, 6, 102] rfl (by simp) fun K hK => ?_
      repeat
        (first | refine R0 rfl rfl fun K1 hK1 => ?_ | refine R1 rfl rfl rfl fun K1 hK1 => ?_ | refine Q0 rfl rfl fun K1 hK1 => ?_ | refine Q1 rfl rfl rfl fun K1 hK1 => ?_)
        simp only [↓EP, EQ, implies_true, forall_const, tys, zoks, zeros, Nat.reduceEqDiff, Nat.reduceAdd, Nat.reduceLT, Nat.reduceLeDiff, reduceIte, reduceCtorEq, e30, e31, e32, e33, e34, e35_ap, e36, List.length_map, dId, ↓dSt_size, ↓dSt_isAg, ↓dSt_nav, ↓dSt_vp, dSt_fold, ↓dBuc_size, ↓dBuc_isAg, ↓dBuc_nav, ↓dBuc_vp, dBuc_fold, ↓dObj_size, ↓dObj_isAg, ↓dObj_nav, ↓dObj_vp, dObj_fold, ↓dVer_size, ↓dVer_isAg, ↓dVer_nav, ↓dVer_vp, dVer_fold, ↓dUp_size, ↓dUp_isAg, ↓dUp_nav, ↓dUp_vp, dUp_fold, ↓dLock_size, ↓dLock_isAg, ↓dLock_nav, ↓dLock_vp, dLock_fold, Int.toNat_natCast, toNat_pred, getD_map_lt hi, getD_map_lt (show i - 1 < s.bucs.length by omega)]
        try simp (disch := omega) only [wrap64, wrapU64]
        repeat (first | refine And.intro cl ?_ | intro e)
        refine hK1 _ ?_
        clear hK1 K1
      refine OE ?_
      refine hK _ _ (by simp only [St.keep, keepL, at_cons, at_nil, Nat.reduceEqDiff, reduceIte, eq_self]; rfl) ?_
      clear hK K
      refine Wps_cond rfl (fun hc3 => ?_) (fun hc3 => ?_)
      · try simp only [decide_eq_true_eq, decide_eq_false_iff_not, Bool.not_eq_true', Bool.not_eq_false', Int.not_lt, Int.not_le, ge_iff_le, gt_iff_lt, Bool.or_eq_false_iff, Bool.or_eq_true, Bool.and_eq_true, Bool.and_eq_false_imp, beq_iff_eq, beq_eq_false_iff_ne, ne_eq, bne_iff_ne, bne_eq_false_iff_eq] at hc3
        refine Wps_seq ?_
        refine Wps_reg (T := [(30, e30), (31, e31), (32, e32), (33, e33), (34, e34), (35, e35), (36, e36)]) ⟨e30_ok, e31_ok, e32_ok, e33_ok, e34_ok, e35_ok, e36_ok, trivial⟩ [2] rfl (by simp) fun K hK => ?_
        repeat
          (first | refine X0 rfl fun K1 hK1 => ?_ | refine X1 rfl rfl fun K1 hK1 => ?_)
          simp only [↓EP, EQ, implies_true, forall_const, tys, zoks, zeros, Nat.reduceEqDiff, Nat.reduceAdd, Nat.reduceLT, Nat.reduceLeDiff, reduceIte, reduceCtorEq, e30, e31, e32, e33, e34, e35_ap, e36, List.length_map, dId, ↓dSt_size, ↓dSt_isAg, ↓dSt_nav, ↓dSt_vp, dSt_fold, ↓dBuc_size, ↓dBuc_isAg, ↓dBuc_nav, ↓dBuc_vp, dBuc_fold, ↓dObj_size, ↓dObj_isAg, ↓dObj_nav, ↓dObj_vp, dObj_fold, ↓dVer_size, ↓dVer_isAg, ↓dVer_nav, ↓dVer_vp, dVer_fold, ↓dUp_size, ↓dUp_isAg, ↓dUp_nav, ↓dUp_vp, dUp_fold, ↓dLock_size, ↓dLock_isAg, ↓dLock_nav, ↓dLock_vp, dLock_fold, Int.toNat_natCast, toNat_pred]
          try simp (disch := omega) only [wrap64, wrapU64]
          repeat (first | refine And.intro cl ?_ | intro e)
          refine hK1 _ ?_
          clear hK1 K1
        refine XE ?_
        refine hK _ _ (by simp only [St.keep, keepL, at_cons, at_nil, Nat.reduceEqDiff, reduceIte, eq_self]; rfl) ?_
        clear hK K
        refine Wps_ret ?_
        try simp only [Wps_nil, thenQ_normal, thenQ_exit, thenQ_ret, blkQ_normal, blkQ_ret, blkQ_if, blkQ_same, scQ_normal, scQ_ret, scQ_exit, Nat.reduceEqDiff, reduceIte, eq_self, reduceCtorEq, if_true, if_false]
        first | refine ret_pureQ rfl ?_ | refine ret_pureN rfl ?_
        simp only [retP, at_cons, at_nil, Nat.reduceEqDiff, reduceIte, eq_self, AV.use, retV, AV.bel, AV.bels, true_and, and_true]
        exact ⟨_, rfl, by simp⟩
      · try simp only [decide_eq_true_eq, decide_eq_false_iff_not, Bool.not_eq_true', Bool.not_eq_false', Int.not_lt, Int.not_le, ge_iff_le, gt_iff_lt, Bool.or_eq_false_iff, Bool.or_eq_true, Bool.and_eq_true, Bool.and_eq_false_imp, beq_iff_eq, beq_eq_false_iff_ne, ne_eq, bne_iff_ne, bne_eq_false_iff_eq] at hc3
        refine Wps_skip ?_
        refine Wps_seq ?_
        refine Wps_seq ?_
        refine Wps_reg (T := [(30, e30), (31, e31), (32, e32), (33, e33), (34, e34), (35, e35), (36, e36)]) ⟨e30_ok, e31_ok, e32_ok, e33_ok, e34_ok, e35_ok, e36_ok, trivial⟩ [1, 3, 4, 5, 6, 7] rfl (by simp) fun K hK => ?_
        repeat
          (first | refine X0 rfl fun K1 hK1 => ?_ | refine X1 rfl rfl fun K1 hK1 => ?_)
          simp only [↓EP, EQ, implies_true, forall_const, tys, zoks, zeros, Nat.reduceEqDiff, Nat.reduceAdd, Nat.reduceLT, Nat.reduceLeDiff, reduceIte, reduceCtorEq, e30, e31, e32, e33, e34, e35_ap, e36, List.length_map, dId, ↓dSt_size, ↓dSt_isAg, ↓dSt_nav, ↓dSt_vp, dSt_fold, ↓dBuc_size, ↓dBuc_isAg, ↓dBuc_nav, ↓dBuc_vp, dBuc_fold, ↓dObj_size, ↓dObj_isAg, ↓dObj_nav, ↓dObj_vp, dObj_fold, ↓dVer_size, ↓dVer_isAg, ↓dVer_nav, ↓dVer_vp, dVer_fold, ↓dUp_size, ↓dUp_isAg, ↓dUp_nav, ↓dUp_vp, dUp_fold, ↓dLock_size, ↓dLock_isAg, ↓dLock_nav, ↓dLock_vp, dLock_fold, Int.toNat_natCast, toNat_pred]
          try simp (disch := omega) only [wrap64, wrapU64]
          repeat (first | refine And.intro cl ?_ | intro e)
          refine hK1 _ ?_
          clear hK1 K1
        refine XE ?_
        refine hK _ _ (by simp only [St.keep, keepL, at_cons, at_nil, Nat.reduceEqDiff, reduceIte, eq_self]; rfl) ?_
        clear hK K
        refine Wps_block ?_
        -- live at the head: [1, 3, 4, 5, 6, 7]
        refine Wps_loop (fun n_ st_ => ∃ (k : Nat), ∃ (vs1 : Int), ∃ (ids1 : List Int), n_ = (s.bucs.getD i default).objs.length - k ∧ (k ≤ (s.bucs.getD i default).objs.length) ∧ (0 ≤ vs1) ∧ (vs1 ≤ 256) ∧ ((ids1.length : Int) ≤ vs1 + 4 * i) ∧ (∀ a, a < k → goodO ((s.bucs.getD i default).objs.getD a default) ∧ (0 < a → strLt ((s.bucs.getD i default).objs.getD (a - 1) default).key ((s.bucs.getD i default).objs.getD a default).key = true) ∧ ((s.bucs.getD i default).objs.getD a default).vers.length ≤ 256) ∧ st_ = ⟨[(1, .ptr 0 0 []), (3, .own 1 1 (ids1.map dId)), (4, I vs1), (5, I i), (6, .ptr 2 0 []), (7, I k)], [.box (.d (dSt s)), .tok 22 1 ids1.length, .box (.d (dBuc (s.bucs.getD i default)))]⟩) _ ⟨0, vs, ids, rfl, (by simp), hi1, hi2, hi3, (by simp), rfl⟩ (Wk.refl _) fun n_ st_ hI => ?_
        obtain ⟨k, vs1, ids1, rfl, hk0, hk1, hk2, hk3, hk4, rfl⟩ := hI
        refine Wps_seq ?_
        refine Wps_seq ?_
        refine Wps_reg (T := [(30, e30), (31, e31), (32, e32), (33, e33), (34, e34), (35, e35), (36, e36)]) ⟨e30_ok, e31_ok, e32_ok, e33_ok, e34_ok, e35_ok, e36_ok, trivial⟩ [1, 3, 4, 5, 6, 7, 107] rfl (by simp) fun K hK => ?_
        repeat
          (first | refine X0 rfl fun K1 hK1 => ?_ | refine X1 rfl rfl fun K1 hK1 => ?_)
          simp only [↓EP, EQ, implies_true, forall_const, tys, zoks, zeros, Nat.reduceEqDiff, Nat.reduceAdd, Nat.reduceLT, Nat.reduceLeDiff, reduceIte, reduceCtorEq, e30, e31, e32, e33, e34, e35_ap, e36, List.length_map, dId, ↓dSt_size, ↓dSt_isAg, ↓dSt_nav, ↓dSt_vp, dSt_fold, ↓dBuc_size, ↓dBuc_isAg, ↓dBuc_nav, ↓dBuc_vp, dBuc_fold, ↓dObj_size, ↓dObj_isAg, ↓dObj_nav, ↓dObj_vp, dObj_fold, ↓dVer_size, ↓dVer_isAg, ↓dVer_nav, ↓dVer_vp, dVer_fold, ↓dUp_size, ↓dUp_isAg, ↓dUp_nav, ↓dUp_vp, dUp_fold, ↓dLock_size, ↓dLock_isAg, ↓dLock_nav, ↓dLock_vp, dLock_fold, Int.toNat_natCast, toNat_pred]
          try simp (disch := omega) only [wrap64, wrapU64]
          repeat (first | refine And.intro cl ?_ | intro e)
          refine hK1 _ ?_
          clear hK1 K1
        refine XE ?_
        refine hK _ _ (by simp only [St.keep, keepL, at_cons, at_nil, Nat.reduceEqDiff, reduceIte, eq_self]; rfl) ?_
        clear hK K
        refine Wps_cond rfl (fun hc4 => ?_) (fun hc4 => ?_)
        · try simp only [decide_eq_true_eq, decide_eq_false_iff_not, Bool.not_eq_true', Bool.not_eq_false', Int.not_lt, Int.not_le, ge_iff_le, gt_iff_lt, Bool.or_eq_false_iff, Bool.or_eq_true, Bool.and_eq_true, Bool.and_eq_false_imp, beq_iff_eq, beq_eq_false_iff_ne, ne_eq, bne_iff_ne, bne_eq_false_iff_eq] at hc4
          refine Wps_skip ?_
          refine Wps_seq ?_
          refine Wps_block ?_
          refine Wps_seq ?_
          have hk : k < (s.bucs.getD i default).objs.length := by omega
          have ho := okL_get hp4 hk
          refine Wps_reg (T := [(30, e30), (31, e31), (32, e32), (33, e33), (34, e34), (35, e35), (36, e36)]) ⟨e30_ok, e31_ok, e32_ok, e33_ok, e34_ok, e35_ok, e36_ok, trivial⟩ [1, 3, 4, 5, 6, 7, 8] rfl (by simp) fun K hK => ?_
          repeat
            (first | refine X0 rfl fun K1 hK1 => ?_ | refine X1 rfl rfl fun K1 hK1 => ?_)
            simp only [↓EP, EQ, implies_true, forall_const, tys, zoks, zeros, Nat.reduceEqDiff, Nat.reduceAdd, Nat.reduceLT, Nat.reduceLeDiff, reduceIte, reduceCtorEq, e30, e31, e32, e33, e34, e35_ap, e36, List.length_map, dId, ↓dSt_size, ↓dSt_isAg, ↓dSt_nav, ↓dSt_vp, dSt_fold, ↓dBuc_size, ↓dBuc_isAg, ↓dBuc_nav, ↓dBuc_vp, dBuc_fold, ↓dObj_size, ↓dObj_isAg, ↓dObj_nav, ↓dObj_vp, dObj_fold, ↓dVer_size, ↓dVer_isAg, ↓dVer_nav, ↓dVer_vp, dVer_fold, ↓dUp_size, ↓dUp_isAg, ↓dUp_nav, ↓dUp_vp, dUp_fold, ↓dLock_size, ↓dLock_isAg, ↓dLock_nav, ↓dLock_vp, dLock_fold, Int.toNat_natCast, toNat_pred, getD_map_lt hk]
            try simp (disch := omega) only [wrap64, wrapU64]
            repeat (first | refine And.intro cl ?_ | intro e)
            refine hK1 _ ?_
            clear hK1 K1
          refine XE ?_
          refine hK _ _ (by simp only [St.keep, keepL, at_cons, at_nil, Nat.reduceEqDiff, reduceIte, eq_self]; rfl) ?_
          clear hK K
          refine Wps_seq ?_
          refine Wps_seq ?_
          refine Wps_drw (T := [(30, e30), (31, e31), (32, e32), (33, e33), (34, e34), (35, e35), (36, e36)]) ⟨e30_ok, e31_ok, e32_ok, e33_ok, e34_ok, e35_ok, e36_ok, trivial⟩ (by kernel_rfl) [(0, true), (1, false), (2, true), (3, true), (4, true), (5, true), (6, true), (7, true), (8, true), (9, true), (10, true), (11, true), (12, true), (13, true), (14, true), (15, true), (16, true), (17, true), (18, true)] (by kernel_rfl) [1, 3, 4, 5, 6, 7, 8, 133] rfl (by simp) fun K hK => ?_
          repeat
            (first | refine R0 rfl rfl fun K1 hK1 => ?_ | refine R1 rfl rfl rfl fun K1 hK1 => ?_ | refine Q0 rfl rfl fun K1 hK1 => ?_ | refine Q1 rfl rfl rfl fun K1 hK1 => ?_)
            simp only [↓EP, EQ, implies_true, forall_const, tys, zoks, zeros, Nat.reduceEqDiff, Nat.reduceAdd, Nat.reduceLT, Nat.reduceLeDiff, reduceIte, reduceCtorEq, e30, e31, e32, e33, e34, e35_ap, e36, List.length_map, dId, ↓dSt_size, ↓dSt_isAg, ↓dSt_nav, ↓dSt_vp, dSt_fold, ↓dBuc_size, ↓dBuc_isAg, ↓dBuc_nav, ↓dBuc_vp, dBuc_fold, ↓dObj_size, ↓dObj_isAg, ↓dObj_nav, ↓dObj_vp, dObj_fold, ↓dVer_size, ↓dVer_isAg, ↓dVer_nav, ↓dVer_vp, dVer_fold, ↓dUp_size, ↓dUp_isAg, ↓dUp_nav, ↓dUp_vp, dUp_fold, ↓dLock_size, ↓dLock_isAg, ↓dLock_nav, ↓dLock_vp, dLock_fold, Int.toNat_natCast, toNat_pred, getD_map_lt hk, getD_map_lt (show k - 1 < (s.bucs.getD i default).objs.length by omega)]
            try simp (disch := omega) only [wrap64, wrapU64]
            repeat (first | refine And.intro cl ?_ | intro e)
            refine hK1 _ ?_
            clear hK1 K1
          refine OE ?_
          refine hK _ _ (by simp only [St.keep, keepL, at_cons, at_nil, Nat.reduceEqDiff, reduceIte, eq_self]; rfl) ?_
          clear hK K
          refine Wps_cond rfl (fun hc5 => ?_) (fun hc5 => ?_)
          · try simp only [decide_eq_true_eq, decide_eq_false_iff_not, Bool.not_eq_true', Bool.not_eq_false', Int.not_lt, Int.not_le, ge_iff_le, gt_iff_lt, Bool.or_eq_false_iff, Bool.or_eq_true, Bool.and_eq_true, Bool.and_eq_false_imp, beq_iff_eq, beq_eq_false_iff_ne, ne_eq, bne_iff_ne, bne_eq_false_iff_eq] at hc5
            refine Wps_seq ?_
            refine Wps_reg (T := [(30, e30), (31, e31), (32, e32), (33, e33), (34, e34), (35, e35), (36, e36)]) ⟨e30_ok, e31_ok, e32_ok, e33_ok, e34_ok, e35_ok, e36_ok, trivial⟩ [2] rfl (by simp) fun K hK => ?_
            repeat
              (first | refine X0 rfl fun K1 hK1 => ?_ | refine X1 rfl rfl fun K1 hK1 => ?_)
              simp only [↓EP, EQ, implies_true, forall_const, tys, zoks, zeros, Nat.reduceEqDiff, Nat.reduceAdd, Nat.reduceLT, Nat.reduceLeDiff, reduceIte, reduceCtorEq, e30, e31, e32, e33, e34, e35_ap, e36, List.length_map, dId, ↓dSt_size, ↓dSt_isAg, ↓dSt_nav, ↓dSt_vp, dSt_fold, ↓dBuc_size, ↓dBuc_isAg, ↓dBuc_nav, ↓dBuc_vp, dBuc_fold, ↓dObj_size, ↓dObj_isAg, ↓dObj_nav, ↓dObj_vp, dObj_fold, ↓dVer_size, ↓dVer_isAg, ↓dVer_nav, ↓dVer_vp, dVer_fold, ↓dUp_size, ↓dUp_isAg, ↓dUp_nav, ↓dUp_vp, dUp_fold, ↓dLock_size, ↓dLock_isAg, ↓dLock_nav, ↓dLock_vp, dLock_fold, Int.toNat_natCast, toNat_pred]
              try simp (disch := omega) only [wrap64, wrapU64]
              repeat (first | refine And.intro cl ?_ | intro e)
              refine hK1 _ ?_
              clear hK1 K1
            refine XE ?_
            refine hK _ _ (by simp only [St.keep, keepL, at_cons, at_nil, Nat.reduceEqDiff, reduceIte, eq_self]; rfl) ?_
            clear hK K
            refine Wps_ret ?_
            try simp only [Wps_nil, thenQ_normal, thenQ_exit, thenQ_ret, blkQ_normal, blkQ_ret, blkQ_if, blkQ_same, scQ_normal, scQ_ret, scQ_exit, Nat.reduceEqDiff, reduceIte, eq_self, reduceCtorEq, if_true, if_false]
            first | refine ret_pureQ rfl ?_ | refine ret_pureN rfl ?_
            simp only [retP, at_cons, at_nil, Nat.reduceEqDiff, reduceIte, eq_self, AV.use, retV, AV.bel, AV.bels, true_and, and_true]
            exact ⟨_, rfl, by simp⟩
          · try simp only [decide_eq_true_eq, decide_eq_false_iff_not, Bool.not_eq_true', Bool.not_eq_false', Int.not_lt, Int.not_le, ge_iff_le, gt_iff_lt, Bool.or_eq_false_iff, Bool.or_eq_true, Bool.and_eq_true, Bool.and_eq_false_imp, beq_iff_eq, beq_eq_false_iff_ne, ne_eq, bne_iff_ne, bne_eq_false_iff_eq] at hc5
            refine Wps_skip ?_
            refine Wps_seq ?_
            refine Wps_reg (T := [(30, e30), (31, e31), (32, e32), (33, e33), (34, e34), (35, e35), (36, e36)]) ⟨e30_ok, e31_ok, e32_ok, e33_ok, e34_ok, e35_ok, e36_ok, trivial⟩ [1, 3, 4, 5, 6, 7, 8] rfl (by simp) fun K hK => ?_
            repeat
              (first | refine X0 rfl fun K1 hK1 => ?_ | refine X1 rfl rfl fun K1 hK1 => ?_)
              simp only [↓EP, EQ, implies_true, forall_const, tys, zoks, zeros, Nat.reduceEqDiff, Nat.reduceAdd, Nat.reduceLT, Nat.reduceLeDiff, reduceIte, reduceCtorEq, e30, e31, e32, e33, e34, e35_ap, e36, List.length_map, dId, ↓dSt_size, ↓dSt_isAg, ↓dSt_nav, ↓dSt_vp, dSt_fold, ↓dBuc_size, ↓dBuc_isAg, ↓dBuc_nav, ↓dBuc_vp, dBuc_fold, ↓dObj_size, ↓dObj_isAg, ↓dObj_nav, ↓dObj_vp, dObj_fold, ↓dVer_size, ↓dVer_isAg, ↓dVer_nav, ↓dVer_vp, dVer_fold, ↓dUp_size, ↓dUp_isAg, ↓dUp_nav, ↓dUp_vp, dUp_fold, ↓dLock_size, ↓dLock_isAg, ↓dLock_nav, ↓dLock_vp, dLock_fold, Int.toNat_natCast, toNat_pred]
              try simp (disch := omega) only [wrap64, wrapU64]
              repeat (first | refine And.intro cl ?_ | intro e)
              refine hK1 _ ?_
              clear hK1 K1
            refine XE ?_
            refine hK _ _ (by simp only [St.keep, keepL, at_cons, at_nil, Nat.reduceEqDiff, reduceIte, eq_self]; rfl) ?_
            clear hK K
            refine Wps_seq ?_
            refine Wps_seq ?_
            refine Wps_reg (T := [(30, e30), (31, e31), (32, e32), (33, e33), (34, e34), (35, e35), (36, e36)]) ⟨e30_ok, e31_ok, e32_ok, e33_ok, e34_ok, e35_ok, e36_ok, trivial⟩ [1, 3, 4, 5, 6, 7, 8, 140] rfl (by simp) fun K hK => ?_
            repeat
              (first | refine X0 rfl fun K1 hK1 => ?_ | refine X1 rfl rfl fun K1 hK1 => ?_)
              simp only [↓EP, EQ, implies_true, forall_const, tys, zoks, zeros, Nat.reduceEqDiff, Nat.reduceAdd, Nat.reduceLT, Nat.reduceLeDiff, reduceIte, reduceCtorEq, e30, e31, e32, e33, e34, e35_ap, e36, List.length_map, dId, ↓dSt_size, ↓dSt_isAg, ↓dSt_nav, ↓dSt_vp, dSt_fold, ↓dBuc_size, ↓dBuc_isAg, ↓dBuc_nav, ↓dBuc_vp, dBuc_fold, ↓dObj_size, ↓dObj_isAg, ↓dObj_nav, ↓dObj_vp, dObj_fold, ↓dVer_size, ↓dVer_isAg, ↓dVer_nav, ↓dVer_vp, dVer_fold, ↓dUp_size, ↓dUp_isAg, ↓dUp_nav, ↓dUp_vp, dUp_fold, ↓dLock_size, ↓dLock_isAg, ↓dLock_nav, ↓dLock_vp, dLock_fold, Int.toNat_natCast, toNat_pred]
              try simp (disch := omega) only [wrap64, wrapU64]
              repeat (first | refine And.intro cl ?_ | intro e)
              refine hK1 _ ?_
              clear hK1 K1
            refine XE ?_
            refine hK _ _ (by simp only [St.keep, keepL, at_cons, at_nil, Nat.reduceEqDiff, reduceIte, eq_self]; rfl) ?_
            clear hK K
            refine Wps_cond rfl (fun hc6 => ?_) (fun hc6 => ?_)
            · try simp only [decide_eq_true_eq, decide_eq_false_iff_not, Bool.not_eq_true', Bool.not_eq_false', Int.not_lt, Int.not_le, ge_iff_le, gt_iff_lt, Bool.or_eq_false_iff, Bool.or_eq_true, Bool.and_eq_true, Bool.and_eq_false_imp, beq_iff_eq, beq_eq_false_iff_ne, ne_eq, bne_iff_ne, bne_eq_false_iff_eq] at hc6
              refine Wps_seq ?_
              refine Wps_reg (T := [(30, e30), (31, e31), (32, e32), (33, e33), (34, e34), (35, e35), (36, e36)]) ⟨e30_ok, e31_ok, e32_ok, e33_ok, e34_ok, e35_ok, e36_ok, trivial⟩ [2] rfl (by simp) fun K hK => ?_
              repeat
                (first | refine X0 rfl fun K1 hK1 => ?_ | refine X1 rfl rfl fun K1 hK1 => ?_)
                simp only [↓EP, EQ, implies_true, forall_const, tys, zoks, zeros, Nat.reduceEqDiff, Nat.reduceAdd, Nat.reduceLT, Nat.reduceLeDiff, reduceIte, reduceCtorEq, e30, e31, e32, e33, e34, e35_ap, e36, List.length_map, dId, ↓dSt_size, ↓dSt_isAg, ↓dSt_nav, ↓dSt_vp, dSt_fold, ↓dBuc_size, ↓dBuc_isAg, ↓dBuc_nav, ↓dBuc_vp, dBuc_fold, ↓dObj_size, ↓dObj_isAg, ↓dObj_nav, ↓dObj_vp, dObj_fold, ↓dVer_size, ↓dVer_isAg, ↓dVer_nav, ↓dVer_vp, dVer_fold, ↓dUp_size, ↓dUp_isAg, ↓dUp_nav, ↓dUp_vp, dUp_fold, ↓dLock_size, ↓dLock_isAg, ↓dLock_nav, ↓dLock_vp, dLock_fold, Int.toNat_natCast, toNat_pred]
                try simp (disch := omega) only [wrap64, wrapU64]
                repeat (first | refine And.intro cl ?_ | intro e)
                refine hK1 _ ?_
                clear hK1 K1
              refine XE ?_
              refine hK _ _ (by simp only [St.keep, keepL, at_cons, at_nil, Nat.reduceEqDiff, reduceIte, eq_self]; rfl) ?_
              clear hK K
              refine Wps_ret ?_
              try simp only [Wps_nil, thenQ_normal, thenQ_exit, thenQ_ret, blkQ_normal, blkQ_ret, blkQ_if, blkQ_same, scQ_normal, scQ_ret, scQ_exit, Nat.reduceEqDiff, reduceIte, eq_self, reduceCtorEq, if_true, if_false]
              first | refine ret_pureQ rfl ?_ | refine ret_pureN rfl ?_
              simp only [retP, at_cons, at_nil, Nat.reduceEqDiff, reduceIte, eq_self, AV.use, retV, AV.bel, AV.bels, true_and, and_true]
              exact ⟨_, rfl, by simp⟩
            · try simp only [decide_eq_true_eq, decide_eq_false_iff_not, Bool.not_eq_true', Bool.not_eq_false', Int.not_lt, Int.not_le, ge_iff_le, gt_iff_lt, Bool.or_eq_false_iff, Bool.or_eq_true, Bool.and_eq_true, Bool.and_eq_false_imp, beq_iff_eq, beq_eq_false_iff_ne, ne_eq, bne_iff_ne, bne_eq_false_iff_eq] at hc6
              refine Wps_skip ?_
              refine Wps_seq ?_
              refine Wps_reg (T := [(30, e30), (31, e31), (32, e32), (33, e33), (34, e34), (35, e35), (36, e36)]) ⟨e30_ok, e31_ok, e32_ok, e33_ok, e34_ok, e35_ok, e36_ok, trivial⟩ [1, 3, 4, 5, 6, 7, 8, 9] rfl (by simp) fun K hK => ?_
              repeat
                (first | refine X0 rfl fun K1 hK1 => ?_ | refine X1 rfl rfl fun K1 hK1 => ?_)
                simp only [↓EP, EQ, implies_true, forall_const, tys, zoks, zeros, Nat.reduceEqDiff, Nat.reduceAdd, Nat.reduceLT, Nat.reduceLeDiff, reduceIte, reduceCtorEq, e30, e31, e32, e33, e34, e35_ap, e36, List.length_map, dId, ↓dSt_size, ↓dSt_isAg, ↓dSt_nav, ↓dSt_vp, dSt_fold, ↓dBuc_size, ↓dBuc_isAg, ↓dBuc_nav, ↓dBuc_vp, dBuc_fold, ↓dObj_size, ↓dObj_isAg, ↓dObj_nav, ↓dObj_vp, dObj_fold, ↓dVer_size, ↓dVer_isAg, ↓dVer_nav, ↓dVer_vp, dVer_fold, ↓dUp_size, ↓dUp_isAg, ↓dUp_nav, ↓dUp_vp, dUp_fold, ↓dLock_size, ↓dLock_isAg, ↓dLock_nav, ↓dLock_vp, dLock_fold, Int.toNat_natCast, toNat_pred]
                try simp (disch := omega) only [wrap64, wrapU64]
                repeat (first | refine And.intro cl ?_ | intro e)
                refine hK1 _ ?_
                clear hK1 K1
              refine XE ?_
              refine hK _ _ (by simp only [St.keep, keepL, at_cons, at_nil, Nat.reduceEqDiff, reduceIte, eq_self]; rfl) ?_
              clear hK K
              refine Wps_block ?_
              -- live at the head: [1, 3, 4, 5, 6, 7, 8, 9]
              refine Wps_loop (fun n_ st_ => ∃ (j : Nat), ∃ (ids2 : List Int), n_ = ((s.bucs.getD i default).objs.getD k default).vers.length - j ∧ (j ≤ ((s.bucs.getD i default).objs.getD k default).vers.length) ∧ ((ids2.length : Int) + (((s.bucs.getD i default).objs.getD k default).vers.length - j) ≤ vs1 + ((s.bucs.getD i default).objs.getD k default).vers.length + 4 * i) ∧ st_ = ⟨[(1, .ptr 0 0 []), (3, .own 1 1 (ids2.map dId)), (4, _), (5, I i), (6, .ptr 2 0 []), (7, I k), (8, .ptr 3 0 []), (9, I j)], [.box (.d (dSt s)), .tok 22 1 ids2.length, .box (.d (dBuc (s.bucs.getD i default))), .box (.d (dObj ((s.bucs.getD i default).objs.getD k default)))]⟩) _ ⟨0, ids1, rfl, (by simp), (by omega), rfl⟩ (Wk.refl _) fun n_ st_ hI => ?_
              obtain ⟨j, ids2, rfl, hj0, hj1, rfl⟩ := hI
              refine Wps_seq ?_
              refine Wps_seq ?_
              refine Wps_reg (T := [(30, e30), (31, e31), (32, e32), (33, e33), (34, e34), (35, e35), (36, e36)]) ⟨e30_ok, e31_ok, e32_ok, e33_ok, e34_ok, e35_ok, e36_ok, trivial⟩ [1, 3, 4, 5, 6, 7, 8, 9, 145] rfl (by simp) fun K hK => ?_
              repeat
                (first | refine X0 rfl fun K1 hK1 => ?_ | refine X1 rfl rfl fun K1 hK1 => ?_)
                simp only [↓EP, EQ, implies_true, forall_const, tys, zoks, zeros, Nat.reduceEqDiff, Nat.reduceAdd, Nat.reduceLT, Nat.reduceLeDiff, reduceIte, reduceCtorEq, e30, e31, e32, e33, e34, e35_ap, e36, List.length_map, dId, ↓dSt_size, ↓dSt_isAg, ↓dSt_nav, ↓dSt_vp, dSt_fold, ↓dBuc_size, ↓dBuc_isAg, ↓dBuc_nav, ↓dBuc_vp, dBuc_fold, ↓dObj_size, ↓dObj_isAg, ↓dObj_nav, ↓dObj_vp, dObj_fold, ↓dVer_size, ↓dVer_isAg, ↓dVer_nav, ↓dVer_vp, dVer_fold, ↓dUp_size, ↓dUp_isAg, ↓dUp_nav, ↓dUp_vp, dUp_fold, ↓dLock_size, ↓dLock_isAg, ↓dLock_nav, ↓dLock_vp, dLock_fold, Int.toNat_natCast, toNat_pred]
                try simp (disch := omega) only [wrap64, wrapU64]
                repeat (first | refine And.intro cl ?_ | intro e)
                refine hK1 _ ?_
                clear hK1 K1
              refine XE ?_
              refine hK _ _ (by simp only [St.keep, keepL, at_cons, at_nil, Nat.reduceEqDiff, reduceIte, eq_self]; rfl) ?_
              clear hK K
              refine Wps_cond rfl (fun hc7 => ?_) (fun hc7 => ?_)
              · try simp only [decide_eq_true_eq, decide_eq_false_iff_not, Bool.not_eq_true', Bool.not_eq_false', Int.not_lt, Int.not_le, ge_iff_le, gt_iff_lt, Bool.or_eq_false_iff, Bool.or_eq_true, Bool.and_eq_true, Bool.and_eq_false_imp, beq_iff_eq, beq_eq_false_iff_ne, ne_eq, bne_iff_ne, bne_eq_false_iff_eq] at hc7
                refine Wps_skip ?_
                refine Wps_seq ?_
                refine Wps_block ?_
                refine Wps_seq ?_
                have hj : j < ((s.bucs.getD i default).objs.getD k default).vers.length := by omega
                refine Wps_reg (T := [(30, e30), (31, e31), (32, e32), (33, e33), (34, e34), (35, e35), (36, e36)]) ⟨e30_ok, e31_ok, e32_ok, e33_ok, e34_ok, e35_ok, e36_ok, trivial⟩ [1, 3, 4, 5, 6, 7, 8, 9, 10] rfl (by simp) fun K hK => ?_
                repeat
                  (first | refine X0 rfl fun K1 hK1 => ?_ | refine X1 rfl rfl fun K1 hK1 => ?_)
                  simp only [↓EP, EQ, implies_true, forall_const, tys, zoks, zeros, Nat.reduceEqDiff, Nat.reduceAdd, Nat.reduceLT, Nat.reduceLeDiff, reduceIte, reduceCtorEq, e30, e31, e32, e33, e34, e35_ap, e36, List.length_map, dId, ↓dSt_size, ↓dSt_isAg, ↓dSt_nav, ↓dSt_vp, dSt_fold, ↓dBuc_size, ↓dBuc_isAg, ↓dBuc_nav, ↓dBuc_vp, dBuc_fold, ↓dObj_size, ↓dObj_isAg, ↓dObj_nav, ↓dObj_vp, dObj_fold, ↓dVer_size, ↓dVer_isAg, ↓dVer_nav, ↓dVer_vp, dVer_fold, ↓dUp_size, ↓dUp_isAg, ↓dUp_nav, ↓dUp_vp, dUp_fold, ↓dLock_size, ↓dLock_isAg, ↓dLock_nav, ↓dLock_vp, dLock_fold, Int.toNat_natCast, toNat_pred, getD_map_lt hj]
                  try simp (disch := omega) only [wrap64, wrapU64]
                  repeat (first | refine And.intro cl ?_ | intro e)
                  refine hK1 _ ?_
                  clear hK1 K1
                refine XE ?_
                refine hK _ _ (by simp only [St.keep, keepL, at_cons, at_nil, Nat.reduceEqDiff, reduceIte, eq_self]; rfl) ?_
                clear hK K
                refine Wps_seq ?_
                refine Wps_seq ?_
                refine Wps_reg (T := [(30, e30), (31, e31), (32, e32), (33, e33), (34, e34), (35, e35), (36, e36)]) ⟨e30_ok, e31_ok, e32_ok, e33_ok, e34_ok, e35_ok, e36_ok, trivial⟩ [1, 3, 4, 5, 6, 7, 8, 9, 10, 164] rfl (by simp) fun K hK => ?_
                repeat
                  (first | refine X0 rfl fun K1 hK1 => ?_ | refine X1 rfl rfl fun K1 hK1 => ?_)
                  simp only [↓EP, EQ, implies_true, forall_const, tys, zoks, zeros, Nat.reduceEqDiff, Nat.reduceAdd, Nat.reduceLT, Nat.reduceLeDiff, reduceIte, reduceCtorEq, e30, e31, e32, e33, e34, e35_ap, e36, List.length_map, dId, ↓dSt_size, ↓dSt_isAg, ↓dSt_nav, ↓dSt_vp, dSt_fold, ↓dBuc_size, ↓dBuc_isAg, ↓dBuc_nav, ↓dBuc_vp, dBuc_fold, ↓dObj_size, ↓dObj_isAg, ↓dObj_nav, ↓dObj_vp, dObj_fold, ↓dVer_size, ↓dVer_isAg, ↓dVer_nav, ↓dVer_vp, dVer_fold, ↓dUp_size, ↓dUp_isAg, ↓dUp_nav, ↓dUp_vp, dUp_fold, ↓dLock_size, ↓dLock_isAg, ↓dLock_nav, ↓dLock_vp, dLock_fold, Int.toNat_natCast, toNat_pred]
                  try simp (disch := omega) only [wrap64, wrapU64]
                  repeat (first | refine And.intro cl ?_ | intro e)
                  refine hK1 _ ?_
                  clear hK1 K1
                refine XE ?_
                refine hK _ _ (by simp only [St.keep, keepL, at_cons, at_nil, Nat.reduceEqDiff, reduceIte, eq_self]; rfl) ?_
                clear hK K
                refine Wps_cond rfl (fun hc8 => ?_) (fun hc8 => ?_)
                · try simp only [decide_eq_true_eq, decide_eq_false_iff_not, Bool.not_eq_true', Bool.not_eq_false', Int.not_lt, Int.not_le, ge_iff_le, gt_iff_lt, Bool.or_eq_false_iff, Bool.or_eq_true, Bool.and_eq_true, Bool.and_eq_false_imp, beq_iff_eq, beq_eq_false_iff_ne, ne_eq, bne_iff_ne, bne_eq_false_iff_eq] at hc8
                  refine Wps_seq ?_
                  refine Wps_reg (T := [(30, e30), (31, e31), (32, e32), (33, e33), (34, e34), (35, e35), (36, e36)]) ⟨e30_ok, e31_ok, e32_ok, e33_ok, e34_ok, e35_ok, e36_ok, trivial⟩ [2] rfl (by simp) fun K hK => ?_
                  repeat
                    (first | refine X0 rfl fun K1 hK1 => ?_ | refine X1 rfl rfl fun K1 hK1 => ?_)
                    simp only [↓EP, EQ, implies_true, forall_const, tys, zoks, zeros, Nat.reduceEqDiff, Nat.reduceAdd, Nat.reduceLT, Nat.reduceLeDiff, reduceIte, reduceCtorEq, e30, e31, e32, e33, e34, e35_ap, e36, List.length_map, dId, ↓dSt_size, ↓dSt_isAg, ↓dSt_nav, ↓dSt_vp, dSt_fold, ↓dBuc_size, ↓dBuc_isAg, ↓dBuc_nav, ↓dBuc_vp, dBuc_fold, ↓dObj_size, ↓dObj_isAg, ↓dObj_nav, ↓dObj_vp, dObj_fold, ↓dVer_size, ↓dVer_isAg, ↓dVer_nav, ↓dVer_vp, dVer_fold, ↓dUp_size, ↓dUp_isAg, ↓dUp_nav, ↓dUp_vp, dUp_fold, ↓dLock_size, ↓dLock_isAg, ↓dLock_nav, ↓dLock_vp, dLock_fold, Int.toNat_natCast, toNat_pred]
                    try simp (disch := omega) only [wrap64, wrapU64]
                    repeat (first | refine And.intro cl ?_ | intro e)
                    refine hK1 _ ?_
                    clear hK1 K1
                  refine XE ?_
                  refine hK _ _ (by simp only [St.keep, keepL, at_cons, at_nil, Nat.reduceEqDiff, reduceIte, eq_self]; rfl) ?_
                  clear hK K
                  refine Wps_ret ?_
                  try simp only [Wps_nil, thenQ_normal, thenQ_exit, thenQ_ret, blkQ_normal, blkQ_ret, blkQ_if, blkQ_same, scQ_normal, scQ_ret, scQ_exit, Nat.reduceEqDiff, reduceIte, eq_self, reduceCtorEq, if_true, if_false]
                  first | refine ret_pureQ rfl ?_ | refine ret_pureN rfl ?_
                  simp only [retP, at_cons, at_nil, Nat.reduceEqDiff, reduceIte, eq_self, AV.use, retV, AV.bel, AV.bels, true_and, and_true]
                  exact ⟨_, rfl, by simp⟩
                · try simp only [decide_eq_true_eq, decide_eq_false_iff_not, Bool.not_eq_true', Bool.not_eq_false', Int.not_lt, Int.not_le, ge_iff_le, gt_iff_lt, Bool.or_eq_false_iff, Bool.or_eq_true, Bool.and_eq_true, Bool.and_eq_false_imp, beq_iff_eq, beq_eq_false_iff_ne, ne_eq, bne_iff_ne, bne_eq_false_iff_eq] at hc8
                  refine Wps_skip ?_
                  refine Wps_regionX' (T := [(30, e30), (31, e31), (32, e32), (33, e33), (34, e34), (35, e35), (36, e36)]) ⟨e30_ok, e31_ok, e32_ok, e33_ok, e34_ok, e35_ok, e36_ok, trivial⟩ rfl fun K hK => ?_
                  repeat
                    (first | refine X0 rfl fun K1 hK1 => ?_ | refine X1 rfl rfl fun K1 hK1 => ?_)
                    simp only [↓EP, EQ, implies_true, forall_const, tys, zoks, zeros, Nat.reduceEqDiff, Nat.reduceAdd, Nat.reduceLT, Nat.reduceLeDiff, reduceIte, reduceCtorEq, e30, e31, e32, e33, e34, e35_ap, e36, List.length_map, dId, ↓dSt_size, ↓dSt_isAg, ↓dSt_nav, ↓dSt_vp, dSt_fold, ↓dBuc_size, ↓dBuc_isAg, ↓dBuc_nav, ↓dBuc_vp, dBuc_fold, ↓dObj_size, ↓dObj_isAg, ↓dObj_nav, ↓dObj_vp, dObj_fold, ↓dVer_size, ↓dVer_isAg, ↓dVer_nav, ↓dVer_vp, dVer_fold, ↓dUp_size, ↓dUp_isAg, ↓dUp_nav, ↓dUp_vp, dUp_fold, ↓dLock_size, ↓dLock_isAg, ↓dLock_nav, ↓dLock_vp, dLock_fold, Int.toNat_natCast, toNat_pred]
                    try simp (disch := omega) only [wrap64, wrapU64]
                    repeat (first | refine And.intro cl ?_ | intro e)
                    refine hK1 _ ?_
                    clear hK1 K1
                  refine XE ?_
                  refine hK _ ?_
                  clear hK K
                  simp only [Wps_nil, thenQ_normal, thenQ_exit, thenQ_ret, blkQ_normal, blkQ_ret, blkQ_if, blkQ_same, scQ_normal, scQ_ret, scQ_exit, Nat.reduceEqDiff, reduceIte, eq_self, reduceCtorEq, if_true, if_false]
                  refine Wps_regionX' (T := [(30, e30), (31, e31), (32, e32), (33, e33), (34, e34), (35, e35), (36, e36)]) ⟨e30_ok, e31_ok, e32_ok, e33_ok, e34_ok, e35_ok, e36_ok, trivial⟩ rfl fun K hK => ?_
                  repeat
                    (first | refine X0 rfl fun K1 hK1 => ?_ | refine X1 rfl rfl fun K1 hK1 => ?_)
                    simp only [↓EP, EQ, implies_true, forall_const, tys, zoks, zeros, Nat.reduceEqDiff, Nat.reduceAdd, Nat.reduceLT, Nat.reduceLeDiff, reduceIte, reduceCtorEq, e30, e31, e32, e33, e34, e35_ap, e36, List.length_map, dId, ↓dSt_size, ↓dSt_isAg, ↓dSt_nav, ↓dSt_vp, dSt_fold, ↓dBuc_size, ↓dBuc_isAg, ↓dBuc_nav, ↓dBuc_vp, dBuc_fold, ↓dObj_size, ↓dObj_isAg, ↓dObj_nav, ↓dObj_vp, dObj_fold, ↓dVer_size, ↓dVer_isAg, ↓dVer_nav, ↓dVer_vp, dVer_fold, ↓dUp_size, ↓dUp_isAg, ↓dUp_nav, ↓dUp_vp, dUp_fold, ↓dLock_size, ↓dLock_isAg, ↓dLock_nav, ↓dLock_vp, dLock_fold, Int.toNat_natCast, toNat_pred]
                    try simp (disch := omega) only [wrap64, wrapU64]
                    repeat (first | refine And.intro cl ?_ | intro e)
                    refine hK1 _ ?_
                    clear hK1 K1
                  refine XE ?_
                  refine hK _ ?_
                  clear hK K
                  simp only [Wps_nil, thenQ_normal, thenQ_exit, thenQ_ret, blkQ_normal, blkQ_ret, blkQ_if, blkQ_same, scQ_normal, scQ_ret, scQ_exit, Nat.reduceEqDiff, reduceIte, eq_self, reduceCtorEq, if_true, if_false]
                  refine ⟨_, _, ?h1, ⟨j + 1, ids2 ++ [(((s.bucs.getD i default).objs.getD k default).vers.getD j default).id], rfl, (by omega), (by simp; omega), ?h2⟩, Wk_cut (L' := [.box (.d (dSt s)), .tok 22 1 (ids2.length + 1), .box (.d (dBuc (s.bucs.getD i default))), .box (.d (dObj ((s.bucs.getD i default).objs.getD k default)))]) rfl [1, 3, 4, 5, 6, 7, 8, 9] rfl (by simp [belS, keepL, at_cons, at_nil, AV.bel, AV.bels]) (by simp [BelL, Res.bel, AV.bel, AV.bels]) (by simp) rfl⟩
                  case h2 =>
                    simp only [St.keep, keepL, at_cons, at_nil, Nat.reduceEqDiff, reduceIte, eq_self, List.map_append, List.map_cons, List.map_nil, dId]
                    first | rfl | (apply St_eq <;> first | rfl | (simp; done))
                  case h1 => omega
              · try simp only [decide_eq_true_eq, decide_eq_false_iff_not, Bool.not_eq_true', Bool.not_eq_false', Int.not_lt, Int.not_le, ge_iff_le, gt_iff_lt, Bool.or_eq_false_iff, Bool.or_eq_true, Bool.and_eq_true, Bool.and_eq_false_imp, beq_iff_eq, beq_eq_false_iff_ne, ne_eq, bne_iff_ne, bne_eq_false_iff_eq] at hc7
                refine Wps_exit ?_
                simp only [Wps_nil, thenQ_normal, thenQ_exit, thenQ_ret, blkQ_normal, blkQ_ret, blkQ_if, blkQ_same, scQ_normal, scQ_ret, scQ_exit, Nat.reduceEqDiff, reduceIte, eq_self, reduceCtorEq, if_true, if_false]
                try simp only [Wps_nil, thenQ_normal, thenQ_exit, thenQ_ret, blkQ_normal, blkQ_ret, blkQ_if, blkQ_same, scQ_normal, scQ_ret, scQ_exit, Nat.reduceEqDiff, reduceIte, eq_self, reduceCtorEq, if_true, if_false]
                refine Wps_regionX' (T := [(30, e30), (31, e31), (32, e32), (33, e33), (34, e34), (35, e35), (36, e36)]) ⟨e30_ok, e31_ok, e32_ok, e33_ok, e34_ok, e35_ok, e36_ok, trivial⟩ rfl fun K hK => ?_
                repeat
                  (first | refine X0 rfl fun K1 hK1 => ?_ | refine X1 rfl rfl fun K1 hK1 => ?_)
                  simp only [↓EP, EQ, implies_true, forall_const, tys, zoks, zeros, Nat.reduceEqDiff, Nat.reduceAdd, Nat.reduceLT, Nat.reduceLeDiff, reduceIte, reduceCtorEq, e30, e31, e32, e33, e34, e35_ap, e36, List.length_map, dId, ↓dSt_size, ↓dSt_isAg, ↓dSt_nav, ↓dSt_vp, dSt_fold, ↓dBuc_size, ↓dBuc_isAg, ↓dBuc_nav, ↓dBuc_vp, dBuc_fold, ↓dObj_size, ↓dObj_isAg, ↓dObj_nav, ↓dObj_vp, dObj_fold, ↓dVer_size, ↓dVer_isAg, ↓dVer_nav, ↓dVer_vp, dVer_fold, ↓dUp_size, ↓dUp_isAg, ↓dUp_nav, ↓dUp_vp, dUp_fold, ↓dLock_size, ↓dLock_isAg, ↓dLock_nav, ↓dLock_vp, dLock_fold, Int.toNat_natCast, toNat_pred]
                  try simp (disch := omega) only [wrap64, wrapU64]
                  repeat (first | refine And.intro cl ?_ | intro e)
                  refine hK1 _ ?_
                  clear hK1 K1
                refine XE ?_
                refine hK _ ?_
                clear hK K
                simp only [Wps_nil, thenQ_normal, thenQ_exit, thenQ_ret, blkQ_normal, blkQ_ret, blkQ_if, blkQ_same, scQ_normal, scQ_ret, scQ_exit, Nat.reduceEqDiff, reduceIte, eq_self, reduceCtorEq, if_true, if_false]
                refine ⟨_, _, ?h1, ⟨k + 1, vs1 + (((s.bucs.getD i default).objs.getD k default).vers.length : Int), ids2, rfl, (by omega), (by omega), (by omega), (by omega), (fun a ha => by
                  rcases Nat.lt_or_ge a k with h | h
                  · exact hk4 a h
                  · obtain rfl : a = k := by omega
                    exact ⟨by grind, by grind, by omega⟩), ?h2⟩, Wk_cut (L' := [.box (.d (dSt s)), .tok 22 1 ids2.length, .box (.d (dBuc (s.bucs.getD i default)))]) rfl [1, 3, 4, 5, 6, 7] rfl (by simp [belS, keepL, at_cons, at_nil, AV.bel, AV.bels]) (by simp [BelL, Res.bel, AV.bel, AV.bels]) (by simp) rfl⟩
                case h2 =>
                  simp only [St.keep, keepL, at_cons, at_nil, Nat.reduceEqDiff, reduceIte, eq_self]
                  first | rfl | (apply St_eq <;> first | rfl | (simp; done)) | (rw [wrapS (i := k) (by omega)]; first | rfl | (apply St_eq <;> first | rfl | (simp; done)))
                case h1 => omega
        · try simp only [decide_eq_true_eq, decide_eq_false_iff_not, Bool.not_eq_true', Bool.not_eq_false', Int.not_lt, Int.not_le, ge_iff_le, gt_iff_lt, Bool.or_eq_false_iff, Bool.or_eq_true, Bool.and_eq_true, Bool.and_eq_false_imp, beq_iff_eq, beq_eq_false_iff_ne, ne_eq, bne_iff_ne, bne_eq_false_iff_eq] at hc4
          refine Wps_exit ?_
          simp only [Wps_nil, thenQ_normal, thenQ_exit, thenQ_ret, blkQ_normal, blkQ_ret, blkQ_if, blkQ_same, scQ_normal, scQ_ret, scQ_exit, Nat.reduceEqDiff, reduceIte, eq_self, reduceCtorEq, if_true, if_false]
          refine Wps_seq ?_
          refine Wps_reg (T := [(30, e30), (31, e31), (32, e32), (33, e33), (34, e34), (35, e35), (36, e36)]) ⟨e30_ok, e31_ok, e32_ok, e33_ok, e34_ok, e35_ok, e36_ok, trivial⟩ [1, 3, 4, 5, 6, 11] rfl (by simp) fun K hK => ?_
          repeat
            (first | refine X0 rfl fun K1 hK1 => ?_ | refine X1 rfl rfl fun K1 hK1 => ?_)
            simp only [↓EP, EQ, implies_true, forall_const, tys, zoks, zeros, Nat.reduceEqDiff, Nat.reduceAdd, Nat.reduceLT, Nat.reduceLeDiff, reduceIte, reduceCtorEq, e30, e31, e32, e33, e34, e35_ap, e36, List.length_map, dId, ↓dSt_size, ↓dSt_isAg, ↓dSt_nav, ↓dSt_vp, dSt_fold, ↓dBuc_size, ↓dBuc_isAg, ↓dBuc_nav, ↓dBuc_vp, dBuc_fold, ↓dObj_size, ↓dObj_isAg, ↓dObj_nav, ↓dObj_vp, dObj_fold, ↓dVer_size, ↓dVer_isAg, ↓dVer_nav, ↓dVer_vp, dVer_fold, ↓dUp_size, ↓dUp_isAg, ↓dUp_nav, ↓dUp_vp, dUp_fold, ↓dLock_size, ↓dLock_isAg, ↓dLock_nav, ↓dLock_vp, dLock_fold, Int.toNat_natCast, toNat_pred]
            try simp (disch := omega) only [wrap64, wrapU64]
            repeat (first | refine And.intro cl ?_ | intro e)
            refine hK1 _ ?_
            clear hK1 K1
          refine XE ?_
          refine hK _ _ (by simp only [St.keep, keepL, at_cons, at_nil, Nat.reduceEqDiff, reduceIte, eq_self]; rfl) ?_
          clear hK K
          refine Wps_block ?_
          -- live at the head: [1, 3, 4, 5, 6, 11]
          refine Wps_loop (fun n_ st_ => ∃ (q : Nat), ∃ (ids3 : List Int), n_ = (s.bucs.getD i default).ups.length - q ∧ (q ≤ (s.bucs.getD i default).ups.length) ∧ ((ids3.length : Int) ≤ vs1 + 4 * i + q) ∧ st_ = ⟨[(1, .ptr 0 0 []), (3, .own 1 1 (ids3.map dId)), (4, I vs1), (5, I i), (6, .ptr 2 0 []), (11, I q)], [.box (.d (dSt s)), .tok 22 1 ids3.length, .box (.d (dBuc (s.bucs.getD i default)))]⟩) _ ⟨0, ids1, rfl, (by simp), (by omega), rfl⟩ (Wk.refl _) fun n_ st_ hI => ?_
          obtain ⟨q, ids3, rfl, hq0, hq1, rfl⟩ := hI
          refine Wps_seq ?_
          refine Wps_seq ?_
          refine Wps_reg (T := [(30, e30), (31, e31), (32, e32), (33, e33), (34, e34), (35, e35), (36, e36)]) ⟨e30_ok, e31_ok, e32_ok, e33_ok, e34_ok, e35_ok, e36_ok, trivial⟩ [1, 3, 4, 5, 6, 11, 174] rfl (by simp) fun K hK => ?_
          repeat
            (first | refine X0 rfl fun K1 hK1 => ?_ | refine X1 rfl rfl fun K1 hK1 => ?_)
            simp only [↓EP, EQ, implies_true, forall_const, tys, zoks, zeros, Nat.reduceEqDiff, Nat.reduceAdd, Nat.reduceLT, Nat.reduceLeDiff, reduceIte, reduceCtorEq, e30, e31, e32, e33, e34, e35_ap, e36, List.length_map, dId, ↓dSt_size, ↓dSt_isAg, ↓dSt_nav, ↓dSt_vp, dSt_fold, ↓dBuc_size, ↓dBuc_isAg, ↓dBuc_nav, ↓dBuc_vp, dBuc_fold, ↓dObj_size, ↓dObj_isAg, ↓dObj_nav, ↓dObj_vp, dObj_fold, ↓dVer_size, ↓dVer_isAg, ↓dVer_nav, ↓dVer_vp, dVer_fold, ↓dUp_size, ↓dUp_isAg, ↓dUp_nav, ↓dUp_vp, dUp_fold, ↓dLock_size, ↓dLock_isAg, ↓dLock_nav, ↓dLock_vp, dLock_fold, Int.toNat_natCast, toNat_pred]
            try simp (disch := omega) only [wrap64, wrapU64]
            repeat (first | refine And.intro cl ?_ | intro e)
            refine hK1 _ ?_
            clear hK1 K1
          refine XE ?_
          refine hK _ _ (by simp only [St.keep, keepL, at_cons, at_nil, Nat.reduceEqDiff, reduceIte, eq_self]; rfl) ?_
          clear hK K
          refine Wps_cond rfl (fun hc9 => ?_) (fun hc9 => ?_)
          · try simp only [decide_eq_true_eq, decide_eq_false_iff_not, Bool.not_eq_true', Bool.not_eq_false', Int.not_lt, Int.not_le, ge_iff_le, gt_iff_lt, Bool.or_eq_false_iff, Bool.or_eq_true, Bool.and_eq_true, Bool.and_eq_false_imp, beq_iff_eq, beq_eq_false_iff_ne, ne_eq, bne_iff_ne, bne_eq_false_iff_eq] at hc9
            refine Wps_skip ?_
            refine Wps_seq ?_
            refine Wps_block ?_
            refine Wps_seq ?_
            refine Wps_seq ?_
            have hq : q < (s.bucs.getD i default).ups.length := by omega
            have hu := okL_get hp5 hq
            refine Wps_drw (T := [(30, e30), (31, e31), (32, e32), (33, e33), (34, e34), (35, e35), (36, e36)]) ⟨e30_ok, e31_ok, e32_ok, e33_ok, e34_ok, e35_ok, e36_ok, trivial⟩ (by kernel_rfl) [(0, true), (1, true), (2, true), (3, true), (4, true), (5, true), (6, true), (7, false), (8, true)] (by kernel_rfl) [1, 3, 4, 5, 6, 11, 185] rfl (by simp) fun K hK => ?_
            repeat
              (first | refine R0 rfl rfl fun K1 hK1 => ?_ | refine R1 rfl rfl rfl fun K1 hK1 => ?_ | refine Q0 rfl rfl fun K1 hK1 => ?_ | refine Q1 rfl rfl rfl fun K1 hK1 => ?_)
              simp only [↓EP, EQ, implies_true, forall_const, tys, zoks, zeros, Nat.reduceEqDiff, Nat.reduceAdd, Nat.reduceLT, Nat.reduceLeDiff, reduceIte, reduceCtorEq, e30, e31, e32, e33, e34, e35_ap, e36, List.length_map, dId, ↓dSt_size, ↓dSt_isAg, ↓dSt_nav, ↓dSt_vp, dSt_fold, ↓dBuc_size, ↓dBuc_isAg, ↓dBuc_nav, ↓dBuc_vp, dBuc_fold, ↓dObj_size, ↓dObj_isAg, ↓dObj_nav, ↓dObj_vp, dObj_fold, ↓dVer_size, ↓dVer_isAg, ↓dVer_nav, ↓dVer_vp, dVer_fold, ↓dUp_size, ↓dUp_isAg, ↓dUp_nav, ↓dUp_vp, dUp_fold, ↓dLock_size, ↓dLock_isAg, ↓dLock_nav, ↓dLock_vp, dLock_fold, Int.toNat_natCast, toNat_pred, getD_map_lt hq]
              try simp (disch := omega) only [wrap64, wrapU64]
              repeat (first | refine And.intro cl ?_ | intro e)
              refine hK1 _ ?_
              clear hK1 K1
            refine OE ?_
            refine hK _ _ (by simp only [St.keep, keepL, at_cons, at_nil, Nat.reduceEqDiff, reduceIte, eq_self]; rfl) ?_
            clear hK K
            refine Wps_cond rfl (fun hc10 => ?_) (fun hc10 => ?_)
            · try simp only [decide_eq_true_eq, decide_eq_false_iff_not, Bool.not_eq_true', Bool.not_eq_false', Int.not_lt, Int.not_le, ge_iff_le, gt_iff_lt, Bool.or_eq_false_iff, Bool.or_eq_true, Bool.and_eq_true, Bool.and_eq_false_imp, beq_iff_eq, beq_eq_false_iff_ne, ne_eq, bne_iff_ne, bne_eq_false_iff_eq] at hc10
              refine Wps_seq ?_
              refine Wps_reg (T := [(30, e30), (31, e31), (32, e32), (33, e33), (34, e34), (35, e35), (36, e36)]) ⟨e30_ok, e31_ok, e32_ok, e33_ok, e34_ok, e35_ok, e36_ok, trivial⟩ [2] rfl (by simp) fun K hK => ?_
              repeat
                (first | refine X0 rfl fun K1 hK1 => ?_ | refine X1 rfl rfl fun K1 hK1 => ?_)
                simp only [↓EP, EQ, implies_true, forall_const, tys, zoks, zeros, Nat.reduceEqDiff, Nat.reduceAdd, Nat.reduceLT, Nat.reduceLeDiff, reduceIte, reduceCtorEq, e30, e31, e32, e33, e34, e35_ap, e36, List.length_map, dId, ↓dSt_size, ↓dSt_isAg, ↓dSt_nav, ↓dSt_vp, dSt_fold, ↓dBuc_size, ↓dBuc_isAg, ↓dBuc_nav, ↓dBuc_vp, dBuc_fold, ↓dObj_size, ↓dObj_isAg, ↓dObj_nav, ↓dObj_vp, dObj_fold, ↓dVer_size, ↓dVer_isAg, ↓dVer_nav, ↓dVer_vp, dVer_fold, ↓dUp_size, ↓dUp_isAg, ↓dUp_nav, ↓dUp_vp, dUp_fold, ↓dLock_size, ↓dLock_isAg, ↓dLock_nav, ↓dLock_vp, dLock_fold, Int.toNat_natCast, toNat_pred]
                try simp (disch := omega) only [wrap64, wrapU64]
                repeat (first | refine And.intro cl ?_ | intro e)
                refine hK1 _ ?_
                clear hK1 K1
              refine XE ?_
              refine hK _ _ (by simp only [St.keep, keepL, at_cons, at_nil, Nat.reduceEqDiff, reduceIte, eq_self]; rfl) ?_
              clear hK K
              refine Wps_ret ?_
              try simp only [Wps_nil, thenQ_normal, thenQ_exit, thenQ_ret, blkQ_normal, blkQ_ret, blkQ_if, blkQ_same, scQ_normal, scQ_ret, scQ_exit, Nat.reduceEqDiff, reduceIte, eq_self, reduceCtorEq, if_true, if_false]
              first | refine ret_pureQ rfl ?_ | refine ret_pureN rfl ?_
              simp only [retP, at_cons, at_nil, Nat.reduceEqDiff, reduceIte, eq_self, AV.use, retV, AV.bel, AV.bels, true_and, and_true]
              exact ⟨_, rfl, by simp⟩
            · try simp only [decide_eq_true_eq, decide_eq_false_iff_not, Bool.not_eq_true', Bool.not_eq_false', Int.not_lt, Int.not_le, ge_iff_le, gt_iff_lt, Bool.or_eq_false_iff, Bool.or_eq_true, Bool.and_eq_true, Bool.and_eq_false_imp, beq_iff_eq, beq_eq_false_iff_ne, ne_eq, bne_iff_ne, bne_eq_false_iff_eq] at hc10
              refine Wps_skip ?_
              refine Wps_seq ?_
              refine Wps_seq ?_
              refine Wps_drw (T := [(30, e30), (31, e31), (32, e32), (33, e33), (34, e34), (35, e35), (36, e36)]) ⟨e30_ok, e31_ok, e32_ok, e33_ok, e34_ok, e35_ok, e36_ok, trivial⟩ (by kernel_rfl) [(0, true), (1, true), (2, true), (3, true), (4, true), (5, true), (6, true), (7, true), (8, true), (9, true), (10, true), (11, true), (12, true), (13, true), (14, true), (15, true), (16, true), (17, true)] (by kernel_rfl) [1, 3, 4, 5, 6, 11, 203] rfl (by simp) fun K hK => ?_
              repeat
                (first | refine R0 rfl rfl fun K1 hK1 => ?_ | refine R1 rfl rfl rfl fun K1 hK1 => ?_ | refine Q0 rfl rfl fun K1 hK1 => ?_ | refine Q1 rfl rfl rfl fun K1 hK1 => ?_)
                simp only [↓EP, EQ, implies_true, forall_const, tys, zoks, zeros, Nat.reduceEqDiff, Nat.reduceAdd, Nat.reduceLT, Nat.reduceLeDiff, reduceIte, reduceCtorEq, e30, e31, e32, e33, e34, e35_ap, e36, List.length_map, dId, ↓dSt_size, ↓dSt_isAg, ↓dSt_nav, ↓dSt_vp, dSt_fold, ↓dBuc_size, ↓dBuc_isAg, ↓dBuc_nav, ↓dBuc_vp, dBuc_fold, ↓dObj_size, ↓dObj_isAg, ↓dObj_nav, ↓dObj_vp, dObj_fold, ↓dVer_size, ↓dVer_isAg, ↓dVer_nav, ↓dVer_vp, dVer_fold, ↓dUp_size, ↓dUp_isAg, ↓dUp_nav, ↓dUp_vp, dUp_fold, ↓dLock_size, ↓dLock_isAg, ↓dLock_nav, ↓dLock_vp, dLock_fold, Int.toNat_natCast, toNat_pred, getD_map_lt hq, getD_map_lt (show q - 1 < (s.bucs.getD i default).ups.length by omega)]
                try simp (disch := omega) only [wrap64, wrapU64]
                repeat (first | refine And.intro cl ?_ | intro e)
                refine hK1 _ ?_
                clear hK1 K1
              refine OE ?_
              refine hK _ _ (by simp only [St.keep, keepL, at_cons, at_nil, Nat.reduceEqDiff, reduceIte, eq_self]; rfl) ?_
              clear hK K
              refine Wps_cond rfl (fun hc11 => ?_) (fun hc11 => ?_)
              · try simp only [decide_eq_true_eq, decide_eq_false_iff_not, Bool.not_eq_true', Bool.not_eq_false', Int.not_lt, Int.not_le, ge_iff_le, gt_iff_lt, Bool.or_eq_false_iff, Bool.or_eq_true, Bool.and_eq_true, Bool.and_eq_false_imp, beq_iff_eq, beq_eq_false_iff_ne, ne_eq, bne_iff_ne, bne_eq_false_iff_eq] at hc11
                refine Wps_seq ?_
                refine Wps_reg (T := [(30, e30), (31, e31), (32, e32), (33, e33), (34, e34), (35, e35), (36, e36)]) ⟨e30_ok, e31_ok, e32_ok, e33_ok, e34_ok, e35_ok, e36_ok, trivial⟩ [2] rfl (by simp) fun K hK => ?_
                repeat
                  (first | refine X0 rfl fun K1 hK1 => ?_ | refine X1 rfl rfl fun K1 hK1 => ?_)
                  simp only [↓EP, EQ, implies_true, forall_const, tys, zoks, zeros, Nat.reduceEqDiff, Nat.reduceAdd, Nat.reduceLT, Nat.reduceLeDiff, reduceIte, reduceCtorEq, e30, e31, e32, e33, e34, e35_ap, e36, List.length_map, dId, ↓dSt_size, ↓dSt_isAg, ↓dSt_nav, ↓dSt_vp, dSt_fold, ↓dBuc_size, ↓dBuc_isAg, ↓dBuc_nav, ↓dBuc_vp, dBuc_fold, ↓dObj_size, ↓dObj_isAg, ↓dObj_nav, ↓dObj_vp, dObj_fold, ↓dVer_size, ↓dVer_isAg, ↓dVer_nav, ↓dVer_vp, dVer_fold, ↓dUp_size, ↓dUp_isAg, ↓dUp_nav, ↓dUp_vp, dUp_fold, ↓dLock_size, ↓dLock_isAg, ↓dLock_nav, ↓dLock_vp, dLock_fold, Int.toNat_natCast, toNat_pred]
                  try simp (disch := omega) only [wrap64, wrapU64]
                  repeat (first | refine And.intro cl ?_ | intro e)
                  refine hK1 _ ?_
                  clear hK1 K1
                refine XE ?_
                refine hK _ _ (by simp only [St.keep, keepL, at_cons, at_nil, Nat.reduceEqDiff, reduceIte, eq_self]; rfl) ?_
                clear hK K
                refine Wps_ret ?_
                try simp only [Wps_nil, thenQ_normal, thenQ_exit, thenQ_ret, blkQ_normal, blkQ_ret, blkQ_if, blkQ_same, scQ_normal, scQ_ret, scQ_exit, Nat.reduceEqDiff, reduceIte, eq_self, reduceCtorEq, if_true, if_false]
                first | refine ret_pureQ rfl ?_ | refine ret_pureN rfl ?_
                simp only [retP, at_cons, at_nil, Nat.reduceEqDiff, reduceIte, eq_self, AV.use, retV, AV.bel, AV.bels, true_and, and_true]
                exact ⟨_, rfl, by simp⟩
              · try simp only [decide_eq_true_eq, decide_eq_false_iff_not, Bool.not_eq_true', Bool.not_eq_false', Int.not_lt, Int.not_le, ge_iff_le, gt_iff_lt, Bool.or_eq_false_iff, Bool.or_eq_true, Bool.and_eq_true, Bool.and_eq_false_imp, beq_iff_eq, beq_eq_false_iff_ne, ne_eq, bne_iff_ne, bne_eq_false_iff_eq] at hc11
                refine Wps_skip ?_
                refine Wps_regionX' (T := [(30, e30), (31, e31), (32, e32), (33, e33), (34, e34), (35, e35), (36, e36)]) ⟨e30_ok, e31_ok, e32_ok, e33_ok, e34_ok, e35_ok, e36_ok, trivial⟩ rfl fun K hK => ?_
                repeat
                  (first | refine X0 rfl fun K1 hK1 => ?_ | refine X1 rfl rfl fun K1 hK1 => ?_)
                  simp only [↓EP, EQ, implies_true, forall_const, tys, zoks, zeros, Nat.reduceEqDiff, Nat.reduceAdd, Nat.reduceLT, Nat.reduceLeDiff, reduceIte, reduceCtorEq, e30, e31, e32, e33, e34, e35_ap, e36, List.length_map, dId, ↓dSt_size, ↓dSt_isAg, ↓dSt_nav, ↓dSt_vp, dSt_fold, ↓dBuc_size, ↓dBuc_isAg, ↓dBuc_nav, ↓dBuc_vp, dBuc_fold, ↓dObj_size, ↓dObj_isAg, ↓dObj_nav, ↓dObj_vp, dObj_fold, ↓dVer_size, ↓dVer_isAg, ↓dVer_nav, ↓dVer_vp, dVer_fold, ↓dUp_size, ↓dUp_isAg, ↓dUp_nav, ↓dUp_vp, dUp_fold, ↓dLock_size, ↓dLock_isAg, ↓dLock_nav, ↓dLock_vp, dLock_fold, Int.toNat_natCast, toNat_pred, getD_map_lt hq]
                  try simp (disch := omega) only [wrap64, wrapU64]
                  repeat (first | refine And.intro cl ?_ | intro e)
                  refine hK1 _ ?_
                  clear hK1 K1
                refine XE ?_
                refine hK _ ?_
                clear hK K
                simp only [Wps_nil, thenQ_normal, thenQ_exit, thenQ_ret, blkQ_normal, blkQ_ret, blkQ_if, blkQ_same, scQ_normal, scQ_ret, scQ_exit, Nat.reduceEqDiff, reduceIte, eq_self, reduceCtorEq, if_true, if_false]
                refine Wps_regionX' (T := [(30, e30), (31, e31), (32, e32), (33, e33), (34, e34), (35, e35), (36, e36)]) ⟨e30_ok, e31_ok, e32_ok, e33_ok, e34_ok, e35_ok, e36_ok, trivial⟩ rfl fun K hK => ?_
                repeat
                  (first | refine X0 rfl fun K1 hK1 => ?_ | refine X1 rfl rfl fun K1 hK1 => ?_)
                  simp only [↓EP, EQ, implies_true, forall_const, tys, zoks, zeros, Nat.reduceEqDiff, Nat.reduceAdd, Nat.reduceLT, Nat.reduceLeDiff, reduceIte, reduceCtorEq, e30, e31, e32, e33, e34, e35_ap, e36, List.length_map, dId, ↓dSt_size, ↓dSt_isAg, ↓dSt_nav, ↓dSt_vp, dSt_fold, ↓dBuc_size, ↓dBuc_isAg, ↓dBuc_nav, ↓dBuc_vp, dBuc_fold, ↓dObj_size, ↓dObj_isAg, ↓dObj_nav, ↓dObj_vp, dObj_fold, ↓dVer_size, ↓dVer_isAg, ↓dVer_nav, ↓dVer_vp, dVer_fold, ↓dUp_size, ↓dUp_isAg, ↓dUp_nav, ↓dUp_vp, dUp_fold, ↓dLock_size, ↓dLock_isAg, ↓dLock_nav, ↓dLock_vp, dLock_fold, Int.toNat_natCast, toNat_pred]
                  try simp (disch := omega) only [wrap64, wrapU64]
                  repeat (first | refine And.intro cl ?_ | intro e)
                  refine hK1 _ ?_
                  clear hK1 K1
                refine XE ?_
                refine hK _ ?_
                clear hK K
                simp only [Wps_nil, thenQ_normal, thenQ_exit, thenQ_ret, blkQ_normal, blkQ_ret, blkQ_if, blkQ_same, scQ_normal, scQ_ret, scQ_exit, Nat.reduceEqDiff, reduceIte, eq_self, reduceCtorEq, if_true, if_false]
                refine ⟨_, _, ?h1, ⟨q + 1, ids3 ++ [((s.bucs.getD i default).ups.getD q default).id], rfl, (by omega), (by simp; omega), ?h2⟩, Wk_cut (L' := [.box (.d (dSt s)), .tok 22 1 (ids3.length + 1), .box (.d (dBuc (s.bucs.getD i default)))]) rfl [1, 3, 4, 5, 6, 11] rfl (by simp [belS, keepL, at_cons, at_nil, AV.bel, AV.bels]) (by simp [BelL, Res.bel, AV.bel, AV.bels]) (by simp) rfl⟩
                case h2 =>
                  simp only [St.keep, keepL, at_cons, at_nil, Nat.reduceEqDiff, reduceIte, eq_self, List.map_append, List.map_cons, List.map_nil, dId]
                  first | rfl | (apply St_eq <;> first | rfl | (simp; done))
                case h1 => omega
          · try simp only [decide_eq_true_eq, decide_eq_false_iff_not, Bool.not_eq_true', Bool.not_eq_false', Int.not_lt, Int.not_le, ge_iff_le, gt_iff_lt, Bool.or_eq_false_iff, Bool.or_eq_true, Bool.and_eq_true, Bool.and_eq_false_imp, beq_iff_eq, beq_eq_false_iff_ne, ne_eq, bne_iff_ne, bne_eq_false_iff_eq] at hc9
            refine Wps_exit ?_
            simp only [Wps_nil, thenQ_normal, thenQ_exit, thenQ_ret, blkQ_normal, blkQ_ret, blkQ_if, blkQ_same, scQ_normal, scQ_ret, scQ_exit, Nat.reduceEqDiff, reduceIte, eq_self, reduceCtorEq, if_true, if_false]
            try simp only [Wps_nil, thenQ_normal, thenQ_exit, thenQ_ret, blkQ_normal, blkQ_ret, blkQ_if, blkQ_same, scQ_normal, scQ_ret, scQ_exit, Nat.reduceEqDiff, reduceIte, eq_self, reduceCtorEq, if_true, if_false]
            refine Wps_regionX' (T := [(30, e30), (31, e31), (32, e32), (33, e33), (34, e34), (35, e35), (36, e36)]) ⟨e30_ok, e31_ok, e32_ok, e33_ok, e34_ok, e35_ok, e36_ok, trivial⟩ rfl fun K hK => ?_
            repeat
              (first | refine X0 rfl fun K1 hK1 => ?_ | refine X1 rfl rfl fun K1 hK1 => ?_)
              simp only [↓EP, EQ, implies_true, forall_const, tys, zoks, zeros, Nat.reduceEqDiff, Nat.reduceAdd, Nat.reduceLT, Nat.reduceLeDiff, reduceIte, reduceCtorEq, e30, e31, e32, e33, e34, e35_ap, e36, List.length_map, dId, ↓dSt_size, ↓dSt_isAg, ↓dSt_nav, ↓dSt_vp, dSt_fold, ↓dBuc_size, ↓dBuc_isAg, ↓dBuc_nav, ↓dBuc_vp, dBuc_fold, ↓dObj_size, ↓dObj_isAg, ↓dObj_nav, ↓dObj_vp, dObj_fold, ↓dVer_size, ↓dVer_isAg, ↓dVer_nav, ↓dVer_vp, dVer_fold, ↓dUp_size, ↓dUp_isAg, ↓dUp_nav, ↓dUp_vp, dUp_fold, ↓dLock_size, ↓dLock_isAg, ↓dLock_nav, ↓dLock_vp, dLock_fold, Int.toNat_natCast, toNat_pred]
              try simp (disch := omega) only [wrap64, wrapU64]
              repeat (first | refine And.intro cl ?_ | intro e)
              refine hK1 _ ?_
              clear hK1 K1
            refine XE ?_
            refine hK _ ?_
            clear hK K
            simp only [Wps_nil, thenQ_normal, thenQ_exit, thenQ_ret, blkQ_normal, blkQ_ret, blkQ_if, blkQ_same, scQ_normal, scQ_ret, scQ_exit, Nat.reduceEqDiff, reduceIte, eq_self, reduceCtorEq, if_true, if_false]
            refine ⟨_, _, ?h1, ⟨i + 1, vs1, ids3, rfl, (by omega), (by omega), (by omega), (by omega), (fun a ha => by
              rcases Nat.lt_or_ge a i with h | h
              · exact hi4 a h
              · obtain rfl : a = i := by omega
                exact fun b hb => hk4 b (by omega)), ?h2⟩, Wk_cut (L' := [.box (.d (dSt s)), .tok 22 1 ids3.length]) rfl [1, 3, 4, 5] rfl (by simp [belS, keepL, at_cons, at_nil, AV.bel, AV.bels]) (by simp [BelL, Res.bel, AV.bel, AV.bels]) (by simp) rfl⟩
            case h2 =>
              simp only [St.keep, keepL, at_cons, at_nil, Nat.reduceEqDiff, reduceIte, eq_self]
              first | rfl | (apply St_eq <;> first | rfl | (simp; done)) | (rw [wrapS (i := i) (by omega)]; first | rfl | (apply St_eq <;> first | rfl | (simp; done)))
            case h1 => omega
    · try simp only [decide_eq_true_eq, decide_eq_false_iff_not, Bool.not_eq_true', Bool.not_eq_false', Int.not_lt, Int.not_le, ge_iff_le, gt_iff_lt, Bool.or_eq_false_iff, Bool.or_eq_true, Bool.and_eq_true, Bool.and_eq_false_imp, beq_iff_eq, beq_eq_false_iff_ne, ne_eq, bne_iff_ne, bne_eq_false_iff_eq] at hc2
      refine Wps_exit ?_
      simp only [Wps_nil, thenQ_normal, thenQ_exit, thenQ_ret, blkQ_normal, blkQ_ret, blkQ_if, blkQ_same, scQ_normal, scQ_ret, scQ_exit, Nat.reduceEqDiff, reduceIte, eq_self, reduceCtorEq, if_true, if_false]
      refine Wps_seq ?_
      refine Wps_seq ?_
      refine Wps_reg (T := [(30, e30), (31, e31), (32, e32), (33, e33), (34, e34), (35, e35), (36, e36)]) ⟨e30_ok, e31_ok, e32_ok, e33_ok, e34_ok, e35_ok, e36_ok, trivial⟩ [1, 3, 12] rfl (by simp) fun K hK => ?_
      repeat
        (first | refine X0 rfl fun K1 hK1 => ?_ | refine X1 rfl rfl fun K1 hK1 => ?_)
        simp only [↓EP, EQ, implies_true, forall_const, tys, zoks, zeros, Nat.reduceEqDiff, Nat.reduceAdd, Nat.reduceLT, Nat.reduceLeDiff, reduceIte, reduceCtorEq, e30, e31, e32, e33, e34, e35_ap, e36, List.length_map, dId, ↓dSt_size, ↓dSt_isAg, ↓dSt_nav, ↓dSt_vp, dSt_fold, ↓dBuc_size, ↓dBuc_isAg, ↓dBuc_nav, ↓dBuc_vp, dBuc_fold, ↓dObj_size, ↓dObj_isAg, ↓dObj_nav, ↓dObj_vp, dObj_fold, ↓dVer_size, ↓dVer_isAg, ↓dVer_nav, ↓dVer_vp, dVer_fold, ↓dUp_size, ↓dUp_isAg, ↓dUp_nav, ↓dUp_vp, dUp_fold, ↓dLock_size, ↓dLock_isAg, ↓dLock_nav, ↓dLock_vp, dLock_fold, Int.toNat_natCast, toNat_pred]
        try simp (disch := omega) only [wrap64, wrapU64]
        repeat (first | refine And.intro cl ?_ | intro e)
        refine hK1 _ ?_
        clear hK1 K1
      refine XE ?_
      refine hK _ _ (by simp only [St.keep, keepL, at_cons, at_nil, Nat.reduceEqDiff, reduceIte, eq_self]; rfl) ?_
      clear hK K
      refine Wps_block ?_
      -- live at the head: [1, 3, 12]
      refine Wps_loop (fun n_ st_ => ∃ (a : Nat), n_ = ids.length - a ∧ (a ≤ ids.length) ∧ st_ = ⟨[(1, .ptr 0 0 []), (3, .own 1 1 (ids.map dId)), (12, I a)], [.box (.d (dSt s)), .tok 22 1 ids.length]⟩) _ ⟨0, rfl, (by simp), rfl⟩ (Wk.refl _) fun n_ st_ hI => ?_
      obtain ⟨a, rfl, ha0, rfl⟩ := hI
      refine Wps_seq ?_
      refine Wps_seq ?_
      refine Wps_reg (T := [(30, e30), (31, e31), (32, e32), (33, e33), (34, e34), (35, e35), (36, e36)]) ⟨e30_ok, e31_ok, e32_ok, e33_ok, e34_ok, e35_ok, e36_ok, trivial⟩ [1, 3, 12, 216] rfl (by simp) fun K hK => ?_
      repeat
        (first | refine X0 rfl fun K1 hK1 => ?_ | refine X1 rfl rfl fun K1 hK1 => ?_)
        simp only [↓EP, EQ, implies_true, forall_const, tys, zoks, zeros, Nat.reduceEqDiff, Nat.reduceAdd, Nat.reduceLT, Nat.reduceLeDiff, reduceIte, reduceCtorEq, e30, e31, e32, e33, e34, e35_ap, e36, List.length_map, dId, ↓dSt_size, ↓dSt_isAg, ↓dSt_nav, ↓dSt_vp, dSt_fold, ↓dBuc_size, ↓dBuc_isAg, ↓dBuc_nav, ↓dBuc_vp, dBuc_fold, ↓dObj_size, ↓dObj_isAg, ↓dObj_nav, ↓dObj_vp, dObj_fold, ↓dVer_size, ↓dVer_isAg, ↓dVer_nav, ↓dVer_vp, dVer_fold, ↓dUp_size, ↓dUp_isAg, ↓dUp_nav, ↓dUp_vp, dUp_fold, ↓dLock_size, ↓dLock_isAg, ↓dLock_nav, ↓dLock_vp, dLock_fold, Int.toNat_natCast, toNat_pred]
        try simp (disch := omega) only [wrap64, wrapU64]
        repeat (first | refine And.intro cl ?_ | intro e)
        refine hK1 _ ?_
        clear hK1 K1
      refine XE ?_
      refine hK _ _ (by simp only [St.keep, keepL, at_cons, at_nil, Nat.reduceEqDiff, reduceIte, eq_self]; rfl) ?_
      clear hK K
      refine Wps_cond rfl (fun hc12 => ?_) (fun hc12 => ?_)
      · try simp only [decide_eq_true_eq, decide_eq_false_iff_not, Bool.not_eq_true', Bool.not_eq_false', Int.not_lt, Int.not_le, ge_iff_le, gt_iff_lt, Bool.or_eq_false_iff, Bool.or_eq_true, Bool.and_eq_true, Bool.and_eq_false_imp, beq_iff_eq, beq_eq_false_iff_ne, ne_eq, bne_iff_ne, bne_eq_false_iff_eq] at hc12
        refine Wps_skip ?_
        refine Wps_seq ?_
        refine Wps_block ?_
        refine Wps_seq ?_
        refine Wps_seq ?_
        have ha : a < ids.length := by omega
        refine Wps_drw (T := [(30, e30), (31, e31), (32, e32), (33, e33), (34, e34), (35, e35), (36, e36)]) ⟨e30_ok, e31_ok, e32_ok, e33_ok, e34_ok, e35_ok, e36_ok, trivial⟩ (by kernel_rfl) [(0, true), (1, true), (2, true), (3, true), (4, true), (5, true), (6, true), (7, true), (8, true), (9, true), (10, true), (11, true), (12, true), (13, true)] (by kernel_rfl) [1, 3, 12, 232] rfl (by simp) fun K hK => ?_
        repeat
          (first | refine R0 rfl rfl fun K1 hK1 => ?_ | refine R1 rfl rfl rfl fun K1 hK1 => ?_ | refine Q0 rfl rfl fun K1 hK1 => ?_ | refine Q1 rfl rfl rfl fun K1 hK1 => ?_)
          simp only [↓EP, EQ, implies_true, forall_const, tys, zoks, zeros, Nat.reduceEqDiff, Nat.reduceAdd, Nat.reduceLT, Nat.reduceLeDiff, reduceIte, reduceCtorEq, e30, e31, e32, e33, e34, e35_ap, e36, List.length_map, dId, ↓dSt_size, ↓dSt_isAg, ↓dSt_nav, ↓dSt_vp, dSt_fold, ↓dBuc_size, ↓dBuc_isAg, ↓dBuc_nav, ↓dBuc_vp, dBuc_fold, ↓dObj_size, ↓dObj_isAg, ↓dObj_nav, ↓dObj_vp, dObj_fold, ↓dVer_size, ↓dVer_isAg, ↓dVer_nav, ↓dVer_vp, dVer_fold, ↓dUp_size, ↓dUp_isAg, ↓dUp_nav, ↓dUp_vp, dUp_fold, ↓dLock_size, ↓dLock_isAg, ↓dLock_nav, ↓dLock_vp, dLock_fold, Int.toNat_natCast, toNat_pred, getD_map_lt ha]
          try simp (disch := omega) only [wrap64, wrapU64]
          repeat (first | refine And.intro cl ?_ | intro e)
          refine hK1 _ ?_
          clear hK1 K1
        refine OE ?_
        refine hK _ _ (by simp only [St.keep, keepL, at_cons, at_nil, Nat.reduceEqDiff, reduceIte, eq_self]; rfl) ?_
        clear hK K
        refine Wps_cond rfl (fun hc13 => ?_) (fun hc13 => ?_)
        · try simp only [decide_eq_true_eq, decide_eq_false_iff_not, Bool.not_eq_true', Bool.not_eq_false', Int.not_lt, Int.not_le, ge_iff_le, gt_iff_lt, Bool.or_eq_false_iff, Bool.or_eq_true, Bool.and_eq_true, Bool.and_eq_false_imp, beq_iff_eq, beq_eq_false_iff_ne, ne_eq, bne_iff_ne, bne_eq_false_iff_eq] at hc13
          refine Wps_seq ?_
          refine Wps_reg (T := [(30, e30), (31, e31), (32, e32), (33, e33), (34, e34), (35, e35), (36, e36)]) ⟨e30_ok, e31_ok, e32_ok, e33_ok, e34_ok, e35_ok, e36_ok, trivial⟩ [2] rfl (by simp) fun K hK => ?_
          repeat
            (first | refine X0 rfl fun K1 hK1 => ?_ | refine X1 rfl rfl fun K1 hK1 => ?_)
            simp only [↓EP, EQ, implies_true, forall_const, tys, zoks, zeros, Nat.reduceEqDiff, Nat.reduceAdd, Nat.reduceLT, Nat.reduceLeDiff, reduceIte, reduceCtorEq, e30, e31, e32, e33, e34, e35_ap, e36, List.length_map, dId, ↓dSt_size, ↓dSt_isAg, ↓dSt_nav, ↓dSt_vp, dSt_fold, ↓dBuc_size, ↓dBuc_isAg, ↓dBuc_nav, ↓dBuc_vp, dBuc_fold, ↓dObj_size, ↓dObj_isAg, ↓dObj_nav, ↓dObj_vp, dObj_fold, ↓dVer_size, ↓dVer_isAg, ↓dVer_nav, ↓dVer_vp, dVer_fold, ↓dUp_size, ↓dUp_isAg, ↓dUp_nav, ↓dUp_vp, dUp_fold, ↓dLock_size, ↓dLock_isAg, ↓dLock_nav, ↓dLock_vp, dLock_fold, Int.toNat_natCast, toNat_pred]
            try simp (disch := omega) only [wrap64, wrapU64]
            repeat (first | refine And.intro cl ?_ | intro e)
            refine hK1 _ ?_
            clear hK1 K1
          refine XE ?_
          refine hK _ _ (by simp only [St.keep, keepL, at_cons, at_nil, Nat.reduceEqDiff, reduceIte, eq_self]; rfl) ?_
          clear hK K
          refine Wps_ret ?_
          try simp only [Wps_nil, thenQ_normal, thenQ_exit, thenQ_ret, blkQ_normal, blkQ_ret, blkQ_if, blkQ_same, scQ_normal, scQ_ret, scQ_exit, Nat.reduceEqDiff, reduceIte, eq_self, reduceCtorEq, if_true, if_false]
          first | refine ret_pureQ rfl ?_ | refine ret_pureN rfl ?_
          simp only [retP, at_cons, at_nil, Nat.reduceEqDiff, reduceIte, eq_self, AV.use, retV, AV.bel, AV.bels, true_and, and_true]
          exact ⟨_, rfl, by simp⟩
        · try simp only [decide_eq_true_eq, decide_eq_false_iff_not, Bool.not_eq_true', Bool.not_eq_false', Int.not_lt, Int.not_le, ge_iff_le, gt_iff_lt, Bool.or_eq_false_iff, Bool.or_eq_true, Bool.and_eq_true, Bool.and_eq_false_imp, beq_iff_eq, beq_eq_false_iff_ne, ne_eq, bne_iff_ne, bne_eq_false_iff_eq] at hc13
          refine Wps_skip ?_
          refine Wps_seq ?_
          refine Wps_reg (T := [(30, e30), (31, e31), (32, e32), (33, e33), (34, e34), (35, e35), (36, e36)]) ⟨e30_ok, e31_ok, e32_ok, e33_ok, e34_ok, e35_ok, e36_ok, trivial⟩ [1, 3, 12, 13] rfl (by simp) fun K hK => ?_
          repeat
            (first | refine X0 rfl fun K1 hK1 => ?_ | refine X1 rfl rfl fun K1 hK1 => ?_)
            simp only [↓EP, EQ, implies_true, forall_const, tys, zoks, zeros, Nat.reduceEqDiff, Nat.reduceAdd, Nat.reduceLT, Nat.reduceLeDiff, reduceIte, reduceCtorEq, e30, e31, e32, e33, e34, e35_ap, e36, List.length_map, dId, ↓dSt_size, ↓dSt_isAg, ↓dSt_nav, ↓dSt_vp, dSt_fold, ↓dBuc_size, ↓dBuc_isAg, ↓dBuc_nav, ↓dBuc_vp, dBuc_fold, ↓dObj_size, ↓dObj_isAg, ↓dObj_nav, ↓dObj_vp, dObj_fold, ↓dVer_size, ↓dVer_isAg, ↓dVer_nav, ↓dVer_vp, dVer_fold, ↓dUp_size, ↓dUp_isAg, ↓dUp_nav, ↓dUp_vp, dUp_fold, ↓dLock_size, ↓dLock_isAg, ↓dLock_nav, ↓dLock_vp, dLock_fold, Int.toNat_natCast, toNat_pred]
            try simp (disch := omega) only [wrap64, wrapU64]
            repeat (first | refine And.intro cl ?_ | intro e)
            refine hK1 _ ?_
            clear hK1 K1
          refine XE ?_
          refine hK _ _ (by simp only [St.keep, keepL, at_cons, at_nil, Nat.reduceEqDiff, reduceIte, eq_self]; rfl) ?_
          clear hK K
          refine Wps_block ?_
          -- live at the head: [1, 3, 12, 13]
          refine Wps_loop (fun n_ st_ => ∃ (c : Nat), n_ = a - c ∧ (c ≤ a) ∧ st_ = ⟨[(1, .ptr 0 0 []), (3, .own 1 1 (ids.map dId)), (12, I a), (13, I c)], [.box (.d (dSt s)), .tok 22 1 ids.length]⟩) _ ⟨0, rfl, (by simp), rfl⟩ (Wk.refl _) fun n_ st_ hI => ?_
          obtain ⟨c, rfl, hc0, rfl⟩ := hI
          refine Wps_seq ?_
          refine Wps_seq ?_
          refine Wps_reg (T := [(30, e30), (31, e31), (32, e32), (33, e33), (34, e34), (35, e35), (36, e36)]) ⟨e30_ok, e31_ok, e32_ok, e33_ok, e34_ok, e35_ok, e36_ok, trivial⟩ [1, 3, 12, 13, 235] rfl (by simp) fun K hK => ?_
          repeat
            (first | refine X0 rfl fun K1 hK1 => ?_ | refine X1 rfl rfl fun K1 hK1 => ?_)
            simp only [↓EP, EQ, implies_true, forall_const, tys, zoks, zeros, Nat.reduceEqDiff, Nat.reduceAdd, Nat.reduceLT, Nat.reduceLeDiff, reduceIte, reduceCtorEq, e30, e31, e32, e33, e34, e35_ap, e36, List.length_map, dId, ↓dSt_size, ↓dSt_isAg, ↓dSt_nav, ↓dSt_vp, dSt_fold, ↓dBuc_size, ↓dBuc_isAg, ↓dBuc_nav, ↓dBuc_vp, dBuc_fold, ↓dObj_size, ↓dObj_isAg, ↓dObj_nav, ↓dObj_vp, dObj_fold, ↓dVer_size, ↓dVer_isAg, ↓dVer_nav, ↓dVer_vp, dVer_fold, ↓dUp_size, ↓dUp_isAg, ↓dUp_nav, ↓dUp_vp, dUp_fold, ↓dLock_size, ↓dLock_isAg, ↓dLock_nav, ↓dLock_vp, dLock_fold, Int.toNat_natCast, toNat_pred]
            try simp (disch := omega) only [wrap64, wrapU64]
            repeat (first | refine And.intro cl ?_ | intro e)
            refine hK1 _ ?_
            clear hK1 K1
          refine XE ?_
          refine hK _ _ (by simp only [St.keep, keepL, at_cons, at_nil, Nat.reduceEqDiff, reduceIte, eq_self]; rfl) ?_
          clear hK K
          refine Wps_cond rfl (fun hc14 => ?_) (fun hc14 => ?_)
          · try simp only [decide_eq_true_eq, decide_eq_false_iff_not, Bool.not_eq_true', Bool.not_eq_false', Int.not_lt, Int.not_le, ge_iff_le, gt_iff_lt, Bool.or_eq_false_iff, Bool.or_eq_true, Bool.and_eq_true, Bool.and_eq_false_imp, beq_iff_eq, beq_eq_false_iff_ne, ne_eq, bne_iff_ne, bne_eq_false_iff_eq] at hc14
            refine Wps_skip ?_
            refine Wps_seq ?_
            refine Wps_block ?_
            refine Wps_seq ?_
            have hc : c < ids.length := by omega
            refine Wps_drw (T := [(30, e30), (31, e31), (32, e32), (33, e33), (34, e34), (35, e35), (36, e36)]) ⟨e30_ok, e31_ok, e32_ok, e33_ok, e34_ok, e35_ok, e36_ok, trivial⟩ (by kernel_rfl) [(0, true), (1, true), (2, true), (3, true), (4, true), (5, true), (6, true), (7, true), (8, true)] (by kernel_rfl) [1, 3, 12, 13, 246] rfl (by simp) fun K hK => ?_
            repeat
              (first | refine R0 rfl rfl fun K1 hK1 => ?_ | refine R1 rfl rfl rfl fun K1 hK1 => ?_ | refine Q0 rfl rfl fun K1 hK1 => ?_ | refine Q1 rfl rfl rfl fun K1 hK1 => ?_)
              simp only [↓EP, EQ, implies_true, forall_const, tys, zoks, zeros, Nat.reduceEqDiff, Nat.reduceAdd, Nat.reduceLT, Nat.reduceLeDiff, reduceIte, reduceCtorEq, e30, e31, e32, e33, e34, e35_ap, e36, List.length_map, dId, ↓dSt_size, ↓dSt_isAg, ↓dSt_nav, ↓dSt_vp, dSt_fold, ↓dBuc_size, ↓dBuc_isAg, ↓dBuc_nav, ↓dBuc_vp, dBuc_fold, ↓dObj_size, ↓dObj_isAg, ↓dObj_nav, ↓dObj_vp, dObj_fold, ↓dVer_size, ↓dVer_isAg, ↓dVer_nav, ↓dVer_vp, dVer_fold, ↓dUp_size, ↓dUp_isAg, ↓dUp_nav, ↓dUp_vp, dUp_fold, ↓dLock_size, ↓dLock_isAg, ↓dLock_nav, ↓dLock_vp, dLock_fold, Int.toNat_natCast, toNat_pred, getD_map_lt ha, getD_map_lt hc]
              try simp (disch := omega) only [wrap64, wrapU64]
              repeat (first | refine And.intro cl ?_ | intro e)
              refine hK1 _ ?_
              clear hK1 K1
            refine OE ?_
            refine hK _ _ (by simp only [St.keep, keepL, at_cons, at_nil, Nat.reduceEqDiff, reduceIte, eq_self]; rfl) ?_
            clear hK K
            refine Wps_cond rfl (fun hc15 => ?_) (fun hc15 => ?_)
            · try simp only [decide_eq_true_eq, decide_eq_false_iff_not, Bool.not_eq_true', Bool.not_eq_false', Int.not_lt, Int.not_le, ge_iff_le, gt_iff_lt, Bool.or_eq_false_iff, Bool.or_eq_true, Bool.and_eq_true, Bool.and_eq_false_imp, beq_iff_eq, beq_eq_false_iff_ne, ne_eq, bne_iff_ne, bne_eq_false_iff_eq] at hc15
              refine Wps_seq ?_
              refine Wps_reg (T := [(30, e30), (31, e31), (32, e32), (33, e33), (34, e34), (35, e35), (36, e36)]) ⟨e30_ok, e31_ok, e32_ok, e33_ok, e34_ok, e35_ok, e36_ok, trivial⟩ [2] rfl (by simp) fun K hK => ?_
              repeat
                (first | refine X0 rfl fun K1 hK1 => ?_ | refine X1 rfl rfl fun K1 hK1 => ?_)
                simp only [↓EP, EQ, implies_true, forall_const, tys, zoks, zeros, Nat.reduceEqDiff, Nat.reduceAdd, Nat.reduceLT, Nat.reduceLeDiff, reduceIte, reduceCtorEq, e30, e31, e32, e33, e34, e35_ap, e36, List.length_map, dId, ↓dSt_size, ↓dSt_isAg, ↓dSt_nav, ↓dSt_vp, dSt_fold, ↓dBuc_size, ↓dBuc_isAg, ↓dBuc_nav, ↓dBuc_vp, dBuc_fold, ↓dObj_size, ↓dObj_isAg, ↓dObj_nav, ↓dObj_vp, dObj_fold, ↓dVer_size, ↓dVer_isAg, ↓dVer_nav, ↓dVer_vp, dVer_fold, ↓dUp_size, ↓dUp_isAg, ↓dUp_nav, ↓dUp_vp, dUp_fold, ↓dLock_size, ↓dLock_isAg, ↓dLock_nav, ↓dLock_vp, dLock_fold, Int.toNat_natCast, toNat_pred]
                try simp (disch := omega) only [wrap64, wrapU64]
                repeat (first | refine And.intro cl ?_ | intro e)
                refine hK1 _ ?_
                clear hK1 K1
              refine XE ?_
              refine hK _ _ (by simp only [St.keep, keepL, at_cons, at_nil, Nat.reduceEqDiff, reduceIte, eq_self]; rfl) ?_
              clear hK K
              refine Wps_ret ?_
              try simp only [Wps_nil, thenQ_normal, thenQ_exit, thenQ_ret, blkQ_normal, blkQ_ret, blkQ_if, blkQ_same, scQ_normal, scQ_ret, scQ_exit, Nat.reduceEqDiff, reduceIte, eq_self, reduceCtorEq, if_true, if_false]
              first | refine ret_pureQ rfl ?_ | refine ret_pureN rfl ?_
              simp only [retP, at_cons, at_nil, Nat.reduceEqDiff, reduceIte, eq_self, AV.use, retV, AV.bel, AV.bels, true_and, and_true]
              exact ⟨_, rfl, by simp⟩
            · try simp only [decide_eq_true_eq, decide_eq_false_iff_not, Bool.not_eq_true', Bool.not_eq_false', Int.not_lt, Int.not_le, ge_iff_le, gt_iff_lt, Bool.or_eq_false_iff, Bool.or_eq_true, Bool.and_eq_true, Bool.and_eq_false_imp, beq_iff_eq, beq_eq_false_iff_ne, ne_eq, bne_iff_ne, bne_eq_false_iff_eq] at hc15
              refine Wps_skip ?_
              simp only [Wps_nil, thenQ_normal, thenQ_exit, thenQ_ret, blkQ_normal, blkQ_ret, blkQ_if, blkQ_same, scQ_normal, scQ_ret, scQ_exit, Nat.reduceEqDiff, reduceIte, eq_self, reduceCtorEq, if_true, if_false]
              refine Wps_regionX' (T := [(30, e30), (31, e31), (32, e32), (33, e33), (34, e34), (35, e35), (36, e36)]) ⟨e30_ok, e31_ok, e32_ok, e33_ok, e34_ok, e35_ok, e36_ok, trivial⟩ rfl fun K hK => ?_
              repeat
                (first | refine X0 rfl fun K1 hK1 => ?_ | refine X1 rfl rfl fun K1 hK1 => ?_)
                simp only [↓EP, EQ, implies_true, forall_const, tys, zoks, zeros, Nat.reduceEqDiff, Nat.reduceAdd, Nat.reduceLT, Nat.reduceLeDiff, reduceIte, reduceCtorEq, e30, e31, e32, e33, e34, e35_ap, e36, List.length_map, dId, ↓dSt_size, ↓dSt_isAg, ↓dSt_nav, ↓dSt_vp, dSt_fold, ↓dBuc_size, ↓dBuc_isAg, ↓dBuc_nav, ↓dBuc_vp, dBuc_fold, ↓dObj_size, ↓dObj_isAg, ↓dObj_nav, ↓dObj_vp, dObj_fold, ↓dVer_size, ↓dVer_isAg, ↓dVer_nav, ↓dVer_vp, dVer_fold, ↓dUp_size, ↓dUp_isAg, ↓dUp_nav, ↓dUp_vp, dUp_fold, ↓dLock_size, ↓dLock_isAg, ↓dLock_nav, ↓dLock_vp, dLock_fold, Int.toNat_natCast, toNat_pred]
                try simp (disch := omega) only [wrap64, wrapU64]
                repeat (first | refine And.intro cl ?_ | intro e)
                refine hK1 _ ?_
                clear hK1 K1
              refine XE ?_
              refine hK _ ?_
              clear hK K
              simp only [Wps_nil, thenQ_normal, thenQ_exit, thenQ_ret, blkQ_normal, blkQ_ret, blkQ_if, blkQ_same, scQ_normal, scQ_ret, scQ_exit, Nat.reduceEqDiff, reduceIte, eq_self, reduceCtorEq, if_true, if_false]
              refine ⟨_, _, ?h1, ⟨c + 1, rfl, (by omega), ?h2⟩, Wk_keep [1, 3, 12, 13]⟩
              case h2 =>
                simp only [St.keep, keepL, at_cons, at_nil, Nat.reduceEqDiff, reduceIte, eq_self]
                first | rfl | (apply St_eq <;> first | rfl | (simp; done)) | (rw [wrapS (i := c) (by omega)]; first | rfl | (apply St_eq <;> first | rfl | (simp; done)))
              case h1 => omega
          · try simp only [decide_eq_true_eq, decide_eq_false_iff_not, Bool.not_eq_true', Bool.not_eq_false', Int.not_lt, Int.not_le, ge_iff_le, gt_iff_lt, Bool.or_eq_false_iff, Bool.or_eq_true, Bool.and_eq_true, Bool.and_eq_false_imp, beq_iff_eq, beq_eq_false_iff_ne, ne_eq, bne_iff_ne, bne_eq_false_iff_eq] at hc14
            refine Wps_exit ?_
            simp only [Wps_nil, thenQ_normal, thenQ_exit, thenQ_ret, blkQ_normal, blkQ_ret, blkQ_if, blkQ_same, scQ_normal, scQ_ret, scQ_exit, Nat.reduceEqDiff, reduceIte, eq_self, reduceCtorEq, if_true, if_false]
            try simp only [Wps_nil, thenQ_normal, thenQ_exit, thenQ_ret, blkQ_normal, blkQ_ret, blkQ_if, blkQ_same, scQ_normal, scQ_ret, scQ_exit, Nat.reduceEqDiff, reduceIte, eq_self, reduceCtorEq, if_true, if_false]
            refine Wps_regionX' (T := [(30, e30), (31, e31), (32, e32), (33, e33), (34, e34), (35, e35), (36, e36)]) ⟨e30_ok, e31_ok, e32_ok, e33_ok, e34_ok, e35_ok, e36_ok, trivial⟩ rfl fun K hK => ?_
            repeat
              (first | refine X0 rfl fun K1 hK1 => ?_ | refine X1 rfl rfl fun K1 hK1 => ?_)
              simp only [↓EP, EQ, implies_true, forall_const, tys, zoks, zeros, Nat.reduceEqDiff, Nat.reduceAdd, Nat.reduceLT, Nat.reduceLeDiff, reduceIte, reduceCtorEq, e30, e31, e32, e33, e34, e35_ap, e36, List.length_map, dId, ↓dSt_size, ↓dSt_isAg, ↓dSt_nav, ↓dSt_vp, dSt_fold, ↓dBuc_size, ↓dBuc_isAg, ↓dBuc_nav, ↓dBuc_vp, dBuc_fold, ↓dObj_size, ↓dObj_isAg, ↓dObj_nav, ↓dObj_vp, dObj_fold, ↓dVer_size, ↓dVer_isAg, ↓dVer_nav, ↓dVer_vp, dVer_fold, ↓dUp_size, ↓dUp_isAg, ↓dUp_nav, ↓dUp_vp, dUp_fold, ↓dLock_size, ↓dLock_isAg, ↓dLock_nav, ↓dLock_vp, dLock_fold, Int.toNat_natCast, toNat_pred]
              try simp (disch := omega) only [wrap64, wrapU64]
              repeat (first | refine And.intro cl ?_ | intro e)
              refine hK1 _ ?_
              clear hK1 K1
            refine XE ?_
            refine hK _ ?_
            clear hK K
            simp only [Wps_nil, thenQ_normal, thenQ_exit, thenQ_ret, blkQ_normal, blkQ_ret, blkQ_if, blkQ_same, scQ_normal, scQ_ret, scQ_exit, Nat.reduceEqDiff, reduceIte, eq_self, reduceCtorEq, if_true, if_false]
            refine ⟨_, _, ?h1, ⟨a + 1, rfl, (by omega), ?h2⟩, Wk_keep [1, 3, 12]⟩
            case h2 =>
              simp only [St.keep, keepL, at_cons, at_nil, Nat.reduceEqDiff, reduceIte, eq_self]
              first | rfl | (apply St_eq <;> first | rfl | (simp; done)) | (rw [wrapS (i := a) (by omega)]; first | rfl | (apply St_eq <;> first | rfl | (simp; done)))
            case h1 => omega
      · try simp only [decide_eq_true_eq, decide_eq_false_iff_not, Bool.not_eq_true', Bool.not_eq_false', Int.not_lt, Int.not_le, ge_iff_le, gt_iff_lt, Bool.or_eq_false_iff, Bool.or_eq_true, Bool.and_eq_true, Bool.and_eq_false_imp, beq_iff_eq, beq_eq_false_iff_ne, ne_eq, bne_iff_ne, bne_eq_false_iff_eq] at hc12
        refine Wps_exit ?_
        simp only [Wps_nil, thenQ_normal, thenQ_exit, thenQ_ret, blkQ_normal, blkQ_ret, blkQ_if, blkQ_same, scQ_normal, scQ_ret, scQ_exit, Nat.reduceEqDiff, reduceIte, eq_self, reduceCtorEq, if_true, if_false]
        refine Wps_seq ?_
        refine Wps_reg (T := [(30, e30), (31, e31), (32, e32), (33, e33), (34, e34), (35, e35), (36, e36)]) ⟨e30_ok, e31_ok, e32_ok, e33_ok, e34_ok, e35_ok, e36_ok, trivial⟩ [2] rfl (by simp) fun K hK => ?_
        repeat
          (first | refine X0 rfl fun K1 hK1 => ?_ | refine X1 rfl rfl fun K1 hK1 => ?_)
          simp only [↓EP, EQ, implies_true, forall_const, tys, zoks, zeros, Nat.reduceEqDiff, Nat.reduceAdd, Nat.reduceLT, Nat.reduceLeDiff, reduceIte, reduceCtorEq, e30, e31, e32, e33, e34, e35_ap, e36, List.length_map, dId, ↓dSt_size, ↓dSt_isAg, ↓dSt_nav, ↓dSt_vp, dSt_fold, ↓dBuc_size, ↓dBuc_isAg, ↓dBuc_nav, ↓dBuc_vp, dBuc_fold, ↓dObj_size, ↓dObj_isAg, ↓dObj_nav, ↓dObj_vp, dObj_fold, ↓dVer_size, ↓dVer_isAg, ↓dVer_nav, ↓dVer_vp, dVer_fold, ↓dUp_size, ↓dUp_isAg, ↓dUp_nav, ↓dUp_vp, dUp_fold, ↓dLock_size, ↓dLock_isAg, ↓dLock_nav, ↓dLock_vp, dLock_fold, Int.toNat_natCast, toNat_pred]
          try simp (disch := omega) only [wrap64, wrapU64]
          repeat (first | refine And.intro cl ?_ | intro e)
          refine hK1 _ ?_
          clear hK1 K1
        refine XE ?_
        refine hK _ _ (by simp only [St.keep, keepL, at_cons, at_nil, Nat.reduceEqDiff, reduceIte, eq_self]; rfl) ?_
        clear hK K
        refine Wps_ret ?_
        try simp only [Wps_nil, thenQ_normal, thenQ_exit, thenQ_ret, blkQ_normal, blkQ_ret, blkQ_if, blkQ_same, scQ_normal, scQ_ret, scQ_exit, Nat.reduceEqDiff, reduceIte, eq_self, reduceCtorEq, if_true, if_false]
        first | refine ret_pureQ rfl ?_ | refine ret_pureN rfl ?_
        simp only [retP, at_cons, at_nil, Nat.reduceEqDiff, reduceIte, eq_self, AV.use, retV, AV.bel, AV.bels, true_and, and_true]
        refine ⟨_, rfl, fun _ a ha => hi4 a (by omega)⟩

end Go.Proofs.Ytolplbfonlhbhaa
