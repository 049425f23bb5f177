/- Laws: ListWalks. -/
import Derived.Test.YtolplbfonlhbhaaC24
set_option maxRecDepth 20000
set_option maxHeartbeats 4000000
set_option linter.unusedVariables false
set_option linter.unusedSectionVars false
set_option linter.unusedSimpArgs false
namespace Go.Proofs.Ytolplbfonlhbhaa
open Go Go.Eng
variable [Globs]

variable [G23]
-- chartularylaw23.ListWalks
theorem f6_ok (s : StL) (pre : ByteArray) (most : Int) (hs : okSt s) (hm0 : 0 ≤ most) (hm1 : most ≤ 255) : PureOk Try.prog 6 [.d (dSt s), S pre, .d (.raw (.int .u8 most))] fun r => r = B true := by
  refine PureOk_of (fn := Try.f6) (rs := [.tmp 6]) (n := 119) (hf := Try.func6) (hn := by kernel_rfl) (hb := rfl) (hr := rfl) (hN := rfl) (hargs := by simp) (ha := by simp [AV.bels, AV.bel]) (hrb := by rintro _ rfl; simp [AV.bel, AV.bels]) (h := fun Z0 w0 => ?_)
  simp only [enumA, Nat.zero_add]
  refine Wps_seq ?_
  refine Wps_reg (T := [(8, e8b), (9, e9), (12, e12), (13, e13)]) ⟨e8b_ok, e9_ok, e12_ok, e13_ok, trivial⟩ [1, 2, 3] rfl (by simp) fun K hK => ?_
  repeat
    (first | refine X0 rfl fun K1 hK1 => ?_ | refine X1 rfl rfl fun K1 hK1 => ?_)
    simp only [↓EP, EQ, implies_true, forall_const, tys, zoks, zeros, Nat.reduceEqDiff, Nat.reduceAdd, Nat.reduceLT, Nat.reduceLeDiff, reduceIte, reduceCtorEq, e8b_ap, e9, e12_ap, e13_ap, all_exT, List.length_map, Int.toNat_natCast, toNat_pred, spot_mk, ↓dBuc_size, ↓dBuc_isAg, ↓dBuc_nav, ↓dBuc_vp, dBuc_fold, ↓dSt_size, ↓dSt_isAg, ↓dSt_nav, ↓dSt_vp, dSt_fold, ↓dRow_size, ↓dRow_isAg, ↓dRow_nav, ↓dRow_vp, dRow_fold, ↓dVer_size, ↓dVer_isAg, ↓dVer_nav, ↓dVer_vp, dVer_fold, ↓dObj_size, ↓dObj_isAg, ↓dObj_nav, ↓dObj_vp, dObj_fold, ↓dSpot_size, ↓dSpot_isAg, ↓dSpot_nav, ↓dSpot_vp, dSpot_fold]
    try simp (disch := omega) only [wrap64, wrapU64]
    repeat (first | refine And.intro cl ?_ | intro e)
    refine hK1 _ ?_
    clear hK1 K1
  refine XE ?_
  refine hK _ _ (by simp only [St.keep, keepL, at_cons, at_nil, Nat.reduceEqDiff, reduceIte, eq_self]; rfl) ?_
  clear hK K
  refine Wps_seq ?_
  refine Wps_reg (T := [(8, e8b), (9, e9), (12, e12), (13, e13)]) ⟨e8b_ok, e9_ok, e12_ok, e13_ok, trivial⟩ [1, 2, 7, 8] rfl (by simp) fun K hK => ?_
  repeat
    (first | refine X0 rfl fun K1 hK1 => ?_ | refine X1 rfl rfl fun K1 hK1 => ?_)
    simp only [↓EP, EQ, implies_true, forall_const, tys, zoks, zeros, Nat.reduceEqDiff, Nat.reduceAdd, Nat.reduceLT, Nat.reduceLeDiff, reduceIte, reduceCtorEq, e8b_ap, e9, e12_ap, e13_ap, all_exT, List.length_map, Int.toNat_natCast, toNat_pred, spot_mk, ↓dBuc_size, ↓dBuc_isAg, ↓dBuc_nav, ↓dBuc_vp, dBuc_fold, ↓dSt_size, ↓dSt_isAg, ↓dSt_nav, ↓dSt_vp, dSt_fold, ↓dRow_size, ↓dRow_isAg, ↓dRow_nav, ↓dRow_vp, dRow_fold, ↓dVer_size, ↓dVer_isAg, ↓dVer_nav, ↓dVer_vp, dVer_fold, ↓dObj_size, ↓dObj_isAg, ↓dObj_nav, ↓dObj_vp, dObj_fold, ↓dSpot_size, ↓dSpot_isAg, ↓dSpot_nav, ↓dSpot_vp, dSpot_fold]
    try simp (disch := omega) only [wrap64, wrapU64]
    try (refine And.intro hs ?_)
    try (rintro ⟨pb, b⟩ hp1)
    repeat (first | refine And.intro cl ?_ | intro e)
    refine hK1 _ ?_
    clear hK1 K1
  refine XE ?_
  refine hK _ _ (by simp only [St.keep, keepL, at_cons, at_nil, Nat.reduceEqDiff, reduceIte, eq_self]; rfl) ?_
  clear hK K
  refine Wps_seq ?_
  refine Wps_seq ?_
  refine Wps_reg (T := [(8, e8b), (9, e9), (12, e12), (13, e13)]) ⟨e8b_ok, e9_ok, e12_ok, e13_ok, trivial⟩ [1, 2, 7, 32] rfl (by simp) fun K hK => ?_
  repeat
    (first | refine X0 rfl fun K1 hK1 => ?_ | refine X1 rfl rfl fun K1 hK1 => ?_)
    simp only [↓EP, EQ, implies_true, forall_const, tys, zoks, zeros, Nat.reduceEqDiff, Nat.reduceAdd, Nat.reduceLT, Nat.reduceLeDiff, reduceIte, reduceCtorEq, e8b_ap, e9, e12_ap, e13_ap, all_exT, List.length_map, Int.toNat_natCast, toNat_pred, spot_mk, ↓dBuc_size, ↓dBuc_isAg, ↓dBuc_nav, ↓dBuc_vp, dBuc_fold, ↓dSt_size, ↓dSt_isAg, ↓dSt_nav, ↓dSt_vp, dSt_fold, ↓dRow_size, ↓dRow_isAg, ↓dRow_nav, ↓dRow_vp, dRow_fold, ↓dVer_size, ↓dVer_isAg, ↓dVer_nav, ↓dVer_vp, dVer_fold, ↓dObj_size, ↓dObj_isAg, ↓dObj_nav, ↓dObj_vp, dObj_fold, ↓dSpot_size, ↓dSpot_isAg, ↓dSpot_nav, ↓dSpot_vp, dSpot_fold]
    try simp (disch := omega) only [wrap64, wrapU64]
    repeat (first | refine And.intro cl ?_ | intro e)
    refine hK1 _ ?_
    clear hK1 K1
  refine XE ?_
  refine hK _ _ (by simp only [St.keep, keepL, at_cons, at_nil, Nat.reduceEqDiff, reduceIte, eq_self]; rfl) ?_
  clear hK K
  refine Wps_cond rfl (fun hc1 => ?_) (fun hc1 => ?_)
  · have hr1 := hc1
    try simp only [decide_eq_true_eq, decide_eq_false_iff_not, Bool.not_eq_true', Bool.not_eq_false', Int.not_lt, Int.not_le, ge_iff_le, gt_iff_lt, Bool.or_eq_false_iff, Bool.or_eq_true, Bool.and_eq_true, Bool.and_eq_false_imp, beq_iff_eq, beq_eq_false_iff_ne, ne_eq, bne_iff_ne, bne_eq_false_iff_eq] at hc1
    refine Wps_seq ?_
    refine Wps_reg (T := [(8, e8b), (9, e9), (12, e12), (13, e13)]) ⟨e8b_ok, e9_ok, e12_ok, e13_ok, trivial⟩ [6] rfl (by simp) fun K hK => ?_
    repeat
      (first | refine X0 rfl fun K1 hK1 => ?_ | refine X1 rfl rfl fun K1 hK1 => ?_)
      simp only [↓EP, EQ, implies_true, forall_const, tys, zoks, zeros, Nat.reduceEqDiff, Nat.reduceAdd, Nat.reduceLT, Nat.reduceLeDiff, reduceIte, reduceCtorEq, e8b_ap, e9, e12_ap, e13_ap, all_exT, List.length_map, Int.toNat_natCast, toNat_pred, spot_mk, ↓dBuc_size, ↓dBuc_isAg, ↓dBuc_nav, ↓dBuc_vp, dBuc_fold, ↓dSt_size, ↓dSt_isAg, ↓dSt_nav, ↓dSt_vp, dSt_fold, ↓dRow_size, ↓dRow_isAg, ↓dRow_nav, ↓dRow_vp, dRow_fold, ↓dVer_size, ↓dVer_isAg, ↓dVer_nav, ↓dVer_vp, dVer_fold, ↓dObj_size, ↓dObj_isAg, ↓dObj_nav, ↓dObj_vp, dObj_fold, ↓dSpot_size, ↓dSpot_isAg, ↓dSpot_nav, ↓dSpot_vp, dSpot_fold]
      try simp (disch := omega) only [wrap64, wrapU64]
      repeat (first | refine And.intro cl ?_ | intro e)
      refine hK1 _ ?_
      clear hK1 K1
    refine XE ?_
    refine hK _ _ (by simp only [St.keep, keepL, at_cons, at_nil, Nat.reduceEqDiff, reduceIte, eq_self]; rfl) ?_
    clear hK K
    refine Wps_ret ?_
    try simp only [Wps_nil, thenQ_normal, thenQ_exit, thenQ_ret, blkQ_normal, blkQ_ret, blkQ_if, blkQ_same, scQ_normal, scQ_ret, scQ_exit, Nat.reduceEqDiff, reduceIte, eq_self, reduceCtorEq, if_true, if_false]
    first | refine ret_pureQ rfl ?_ | refine ret_pureN rfl ?_
    simp only [retP, at_cons, at_nil, Nat.reduceEqDiff, reduceIte, eq_self, AV.use, retV, AV.bel, AV.bels, true_and, and_true]
    all_goals rfl
  · have hr1 := hc1
    try simp only [decide_eq_true_eq, decide_eq_false_iff_not, Bool.not_eq_true', Bool.not_eq_false', Int.not_lt, Int.not_le, ge_iff_le, gt_iff_lt, Bool.or_eq_false_iff, Bool.or_eq_true, Bool.and_eq_true, Bool.and_eq_false_imp, beq_iff_eq, beq_eq_false_iff_ne, ne_eq, bne_iff_ne, bne_eq_false_iff_eq] at hc1
    have hpt : pb = true := by simpa using hc1
    obtain ⟨hlen, hbe, hgood⟩ := hp1 hpt
    have hbe2 : b = s.bucs.getD 0 default := hbe
    have hb0 : okBuc b := hbe2 ▸ okL_get hs hlen
    have hgood : goodB b := hgood
    have hol : b.objs.length ≤ 1048576 := hb0.2.2.2.1.1
    refine Wps_skip ?_
    refine Wps_seq ?_
    refine Wps_reg (T := [(8, e8b), (9, e9), (12, e12), (13, e13)]) ⟨e8b_ok, e9_ok, e12_ok, e13_ok, trivial⟩ [1, 2, 7, 9] rfl (by simp) fun K hK => ?_
    repeat
      (first | refine X0 rfl fun K1 hK1 => ?_ | refine X1 rfl rfl fun K1 hK1 => ?_)
      simp only [↓EP, EQ, implies_true, forall_const, tys, zoks, zeros, Nat.reduceEqDiff, Nat.reduceAdd, Nat.reduceLT, Nat.reduceLeDiff, reduceIte, reduceCtorEq, e8b_ap, e9, e12_ap, e13_ap, all_exT, List.length_map, Int.toNat_natCast, toNat_pred, spot_mk, ↓dBuc_size, ↓dBuc_isAg, ↓dBuc_nav, ↓dBuc_vp, dBuc_fold, ↓dSt_size, ↓dSt_isAg, ↓dSt_nav, ↓dSt_vp, dSt_fold, ↓dRow_size, ↓dRow_isAg, ↓dRow_nav, ↓dRow_vp, dRow_fold, ↓dVer_size, ↓dVer_isAg, ↓dVer_nav, ↓dVer_vp, dVer_fold, ↓dObj_size, ↓dObj_isAg, ↓dObj_nav, ↓dObj_vp, dObj_fold, ↓dSpot_size, ↓dSpot_isAg, ↓dSpot_nav, ↓dSpot_vp, dSpot_fold]
      try simp (disch := omega) only [wrap64, wrapU64]
      repeat (first | refine And.intro cl ?_ | intro e)
      refine hK1 _ ?_
      clear hK1 K1
    refine XE ?_
    refine hK _ _ (by simp only [St.keep, keepL, at_cons, at_nil, Nat.reduceEqDiff, reduceIte, eq_self]; rfl) ?_
    clear hK K
    refine Wps_seq ?_
    refine Wps_seq ?_
    refine Wps_reg (T := [(8, e8b), (9, e9), (12, e12), (13, e13)]) ⟨e8b_ok, e9_ok, e12_ok, e13_ok, trivial⟩ [1, 2, 7, 9, 10] rfl (by simp) fun K hK => ?_
    repeat
      (first | refine X0 rfl fun K1 hK1 => ?_ | refine X1 rfl rfl fun K1 hK1 => ?_)
      simp only [↓EP, EQ, implies_true, forall_const, tys, zoks, zeros, Nat.reduceEqDiff, Nat.reduceAdd, Nat.reduceLT, Nat.reduceLeDiff, reduceIte, reduceCtorEq, e8b_ap, e9, e12_ap, e13_ap, all_exT, List.length_map, Int.toNat_natCast, toNat_pred, spot_mk, ↓dBuc_size, ↓dBuc_isAg, ↓dBuc_nav, ↓dBuc_vp, dBuc_fold, ↓dSt_size, ↓dSt_isAg, ↓dSt_nav, ↓dSt_vp, dSt_fold, ↓dRow_size, ↓dRow_isAg, ↓dRow_nav, ↓dRow_vp, dRow_fold, ↓dVer_size, ↓dVer_isAg, ↓dVer_nav, ↓dVer_vp, dVer_fold, ↓dObj_size, ↓dObj_isAg, ↓dObj_nav, ↓dObj_vp, dObj_fold, ↓dSpot_size, ↓dSpot_isAg, ↓dSpot_nav, ↓dSpot_vp, dSpot_fold]
      try simp (disch := omega) only [wrap64, wrapU64]
      repeat (first | refine And.intro cl ?_ | intro e)
      refine hK1 _ ?_
      clear hK1 K1
    refine XE ?_
    refine hK _ _ (by simp only [St.keep, keepL, at_cons, at_nil, Nat.reduceEqDiff, reduceIte, eq_self]; rfl) ?_
    clear hK K
    refine Wps_block ?_
    -- live at the head: [1, 2, 7, 9, 10]
    refine Wps_loop (fun n_ st_ => ∃ (j : Nat), n_ = b.objs.length - j ∧ (j ≤ b.objs.length) ∧ st_ = ⟨[(1, S pre), (2, .d (.raw (.int .u8 most))), (7, .ptr 1 0 []), (9, I (tot b j : Nat)), (10, I j)], [.box (.d (dSt s)), .box (.d (dBuc b))]⟩) _ ⟨0, rfl, (by simp), rfl⟩ (Wk.refl _) fun n_ st_ hI => ?_
    obtain ⟨j, rfl, hj0, rfl⟩ := hI
    refine Wps_seq ?_
    refine Wps_seq ?_
    refine Wps_reg (T := [(8, e8b), (9, e9), (12, e12), (13, e13)]) ⟨e8b_ok, e9_ok, e12_ok, e13_ok, trivial⟩ [1, 2, 7, 9, 10, 38] rfl (by simp) fun K hK => ?_
    repeat
      (first | refine X0 rfl fun K1 hK1 => ?_ | refine X1 rfl rfl fun K1 hK1 => ?_)
      simp only [↓EP, EQ, implies_true, forall_const, tys, zoks, zeros, Nat.reduceEqDiff, Nat.reduceAdd, Nat.reduceLT, Nat.reduceLeDiff, reduceIte, reduceCtorEq, e8b_ap, e9, e12_ap, e13_ap, all_exT, List.length_map, Int.toNat_natCast, toNat_pred, spot_mk, ↓dBuc_size, ↓dBuc_isAg, ↓dBuc_nav, ↓dBuc_vp, dBuc_fold, ↓dSt_size, ↓dSt_isAg, ↓dSt_nav, ↓dSt_vp, dSt_fold, ↓dRow_size, ↓dRow_isAg, ↓dRow_nav, ↓dRow_vp, dRow_fold, ↓dVer_size, ↓dVer_isAg, ↓dVer_nav, ↓dVer_vp, dVer_fold, ↓dObj_size, ↓dObj_isAg, ↓dObj_nav, ↓dObj_vp, dObj_fold, ↓dSpot_size, ↓dSpot_isAg, ↓dSpot_nav, ↓dSpot_vp, dSpot_fold]
      try simp (disch := omega) only [wrap64, wrapU64]
      repeat (first | refine And.intro cl ?_ | intro e)
      refine hK1 _ ?_
      clear hK1 K1
    refine XE ?_
    refine hK _ _ (by simp only [St.keep, keepL, at_cons, at_nil, Nat.reduceEqDiff, reduceIte, eq_self]; rfl) ?_
    clear hK K
    refine Wps_cond rfl (fun hc2 => ?_) (fun hc2 => ?_)
    · have hr2 := hc2
      try simp only [decide_eq_true_eq, decide_eq_false_iff_not, Bool.not_eq_true', Bool.not_eq_false', Int.not_lt, Int.not_le, ge_iff_le, gt_iff_lt, Bool.or_eq_false_iff, Bool.or_eq_true, Bool.and_eq_true, Bool.and_eq_false_imp, beq_iff_eq, beq_eq_false_iff_ne, ne_eq, bne_iff_ne, bne_eq_false_iff_eq] at hc2
      refine Wps_skip ?_
      refine Wps_seq ?_
      refine Wps_block ?_
      have hj : j < b.objs.length := by omega
      have htl := tot_le hgood j (by omega)
      have hvl : (b.objs.getD j default).vers.length ≤ 256 := by rw [List.getD_eq_getElem?_getD, List.getElem?_eq_getElem hj]; exact (goodB_mem hgood (List.getElem_mem hj)).2
      have hts := tot_succ hj
      refine Wps_regionX' (T := [(8, e8b), (9, e9), (12, e12), (13, e13)]) ⟨e8b_ok, e9_ok, e12_ok, e13_ok, trivial⟩ rfl fun K hK => ?_
      repeat
        (first | refine X0 rfl fun K1 hK1 => ?_ | refine X1 rfl rfl fun K1 hK1 => ?_)
        simp only [↓EP, EQ, implies_true, forall_const, tys, zoks, zeros, Nat.reduceEqDiff, Nat.reduceAdd, Nat.reduceLT, Nat.reduceLeDiff, reduceIte, reduceCtorEq, e8b_ap, e9, e12_ap, e13_ap, all_exT, List.length_map, Int.toNat_natCast, toNat_pred, spot_mk, ↓dBuc_size, ↓dBuc_isAg, ↓dBuc_nav, ↓dBuc_vp, dBuc_fold, ↓dSt_size, ↓dSt_isAg, ↓dSt_nav, ↓dSt_vp, dSt_fold, ↓dRow_size, ↓dRow_isAg, ↓dRow_nav, ↓dRow_vp, dRow_fold, ↓dVer_size, ↓dVer_isAg, ↓dVer_nav, ↓dVer_vp, dVer_fold, ↓dObj_size, ↓dObj_isAg, ↓dObj_nav, ↓dObj_vp, dObj_fold, ↓dSpot_size, ↓dSpot_isAg, ↓dSpot_nav, ↓dSpot_vp, dSpot_fold, getD_map_lt hj]
        try simp (disch := omega) only [wrap64, wrapU64]
        repeat (first | refine And.intro cl ?_ | intro e)
        refine hK1 _ ?_
        clear hK1 K1
      refine XE ?_
      refine hK _ ?_
      clear hK K
      simp only [Wps_nil, thenQ_normal, thenQ_exit, thenQ_ret, blkQ_normal, blkQ_ret, blkQ_if, blkQ_same, scQ_normal, scQ_ret, scQ_exit, Nat.reduceEqDiff, reduceIte, eq_self, reduceCtorEq, if_true, if_false]
      refine Wps_regionX' (T := [(8, e8b), (9, e9), (12, e12), (13, e13)]) ⟨e8b_ok, e9_ok, e12_ok, e13_ok, trivial⟩ rfl fun K hK => ?_
      repeat
        (first | refine X0 rfl fun K1 hK1 => ?_ | refine X1 rfl rfl fun K1 hK1 => ?_)
        simp only [↓EP, EQ, implies_true, forall_const, tys, zoks, zeros, Nat.reduceEqDiff, Nat.reduceAdd, Nat.reduceLT, Nat.reduceLeDiff, reduceIte, reduceCtorEq, e8b_ap, e9, e12_ap, e13_ap, all_exT, List.length_map, Int.toNat_natCast, toNat_pred, spot_mk, ↓dBuc_size, ↓dBuc_isAg, ↓dBuc_nav, ↓dBuc_vp, dBuc_fold, ↓dSt_size, ↓dSt_isAg, ↓dSt_nav, ↓dSt_vp, dSt_fold, ↓dRow_size, ↓dRow_isAg, ↓dRow_nav, ↓dRow_vp, dRow_fold, ↓dVer_size, ↓dVer_isAg, ↓dVer_nav, ↓dVer_vp, dVer_fold, ↓dObj_size, ↓dObj_isAg, ↓dObj_nav, ↓dObj_vp, dObj_fold, ↓dSpot_size, ↓dSpot_isAg, ↓dSpot_nav, ↓dSpot_vp, dSpot_fold]
        try simp (disch := omega) only [wrap64, wrapU64]
        repeat (first | refine And.intro cl ?_ | intro e)
        refine hK1 _ ?_
        clear hK1 K1
      refine XE ?_
      refine hK _ ?_
      clear hK K
      simp only [Wps_nil, thenQ_normal, thenQ_exit, thenQ_ret, blkQ_normal, blkQ_ret, blkQ_if, blkQ_same, scQ_normal, scQ_ret, scQ_exit, Nat.reduceEqDiff, reduceIte, eq_self, reduceCtorEq, if_true, if_false]
      refine ⟨_, _, ?h1, ⟨j + 1, rfl, (by omega), ?h2⟩, Wk_keep [1, 2, 7, 9, 10]⟩
      case h2 =>
        simp only [St.keep, keepL, at_cons, at_nil, Nat.reduceEqDiff, reduceIte, eq_self]
        rw [show ((tot b j : Nat) : Int) + (((b.objs.getD j default).vers.length : Nat) : Int) = ((tot b (j + 1) : Nat) : Int) by omega]
        rfl
      case h1 => omega
    · have hr2 := hc2
      try simp only [decide_eq_true_eq, decide_eq_false_iff_not, Bool.not_eq_true', Bool.not_eq_false', Int.not_lt, Int.not_le, ge_iff_le, gt_iff_lt, Bool.or_eq_false_iff, Bool.or_eq_true, Bool.and_eq_true, Bool.and_eq_false_imp, beq_iff_eq, beq_eq_false_iff_ne, ne_eq, bne_iff_ne, bne_eq_false_iff_eq] at hc2
      refine Wps_exit ?_
      simp only [Wps_nil, thenQ_normal, thenQ_exit, thenQ_ret, blkQ_normal, blkQ_ret, blkQ_if, blkQ_same, scQ_normal, scQ_ret, scQ_exit, Nat.reduceEqDiff, reduceIte, eq_self, reduceCtorEq, if_true, if_false]
      refine Wps_seq ?_
      refine Wps_seq ?_
      refine Wps_reg (T := [(8, e8b), (9, e9), (12, e12), (13, e13)]) ⟨e8b_ok, e9_ok, e12_ok, e13_ok, trivial⟩ [1, 2, 7, 51] rfl (by simp) fun K hK => ?_
      repeat
        (first | refine X0 rfl fun K1 hK1 => ?_ | refine X1 rfl rfl fun K1 hK1 => ?_)
        simp only [↓EP, EQ, implies_true, forall_const, tys, zoks, zeros, Nat.reduceEqDiff, Nat.reduceAdd, Nat.reduceLT, Nat.reduceLeDiff, reduceIte, reduceCtorEq, e8b_ap, e9, e12_ap, e13_ap, all_exT, List.length_map, Int.toNat_natCast, toNat_pred, spot_mk, ↓dBuc_size, ↓dBuc_isAg, ↓dBuc_nav, ↓dBuc_vp, dBuc_fold, ↓dSt_size, ↓dSt_isAg, ↓dSt_nav, ↓dSt_vp, dSt_fold, ↓dRow_size, ↓dRow_isAg, ↓dRow_nav, ↓dRow_vp, dRow_fold, ↓dVer_size, ↓dVer_isAg, ↓dVer_nav, ↓dVer_vp, dVer_fold, ↓dObj_size, ↓dObj_isAg, ↓dObj_nav, ↓dObj_vp, dObj_fold, ↓dSpot_size, ↓dSpot_isAg, ↓dSpot_nav, ↓dSpot_vp, dSpot_fold]
        try simp (disch := omega) only [wrap64, wrapU64]
        repeat (first | refine And.intro cl ?_ | intro e)
        refine hK1 _ ?_
        clear hK1 K1
      refine XE ?_
      refine hK _ _ (by simp only [St.keep, keepL, at_cons, at_nil, Nat.reduceEqDiff, reduceIte, eq_self]; rfl) ?_
      clear hK K
      refine Wps_cond rfl (fun hc3 => ?_) (fun hc3 => ?_)
      · have hr3 := hc3
        try simp only [decide_eq_true_eq, decide_eq_false_iff_not, Bool.not_eq_true', Bool.not_eq_false', Int.not_lt, Int.not_le, ge_iff_le, gt_iff_lt, Bool.or_eq_false_iff, Bool.or_eq_true, Bool.and_eq_true, Bool.and_eq_false_imp, beq_iff_eq, beq_eq_false_iff_ne, ne_eq, bne_iff_ne, bne_eq_false_iff_eq] at hc3
        refine Wps_seq ?_
        refine Wps_reg (T := [(8, e8b), (9, e9), (12, e12), (13, e13)]) ⟨e8b_ok, e9_ok, e12_ok, e13_ok, trivial⟩ [6] rfl (by simp) fun K hK => ?_
        repeat
          (first | refine X0 rfl fun K1 hK1 => ?_ | refine X1 rfl rfl fun K1 hK1 => ?_)
          simp only [↓EP, EQ, implies_true, forall_const, tys, zoks, zeros, Nat.reduceEqDiff, Nat.reduceAdd, Nat.reduceLT, Nat.reduceLeDiff, reduceIte, reduceCtorEq, e8b_ap, e9, e12_ap, e13_ap, all_exT, List.length_map, Int.toNat_natCast, toNat_pred, spot_mk, ↓dBuc_size, ↓dBuc_isAg, ↓dBuc_nav, ↓dBuc_vp, dBuc_fold, ↓dSt_size, ↓dSt_isAg, ↓dSt_nav, ↓dSt_vp, dSt_fold, ↓dRow_size, ↓dRow_isAg, ↓dRow_nav, ↓dRow_vp, dRow_fold, ↓dVer_size, ↓dVer_isAg, ↓dVer_nav, ↓dVer_vp, dVer_fold, ↓dObj_size, ↓dObj_isAg, ↓dObj_nav, ↓dObj_vp, dObj_fold, ↓dSpot_size, ↓dSpot_isAg, ↓dSpot_nav, ↓dSpot_vp, dSpot_fold]
          try simp (disch := omega) only [wrap64, wrapU64]
          repeat (first | refine And.intro cl ?_ | intro e)
          refine hK1 _ ?_
          clear hK1 K1
        refine XE ?_
        refine hK _ _ (by simp only [St.keep, keepL, at_cons, at_nil, Nat.reduceEqDiff, reduceIte, eq_self]; rfl) ?_
        clear hK K
        refine Wps_ret ?_
        try simp only [Wps_nil, thenQ_normal, thenQ_exit, thenQ_ret, blkQ_normal, blkQ_ret, blkQ_if, blkQ_same, scQ_normal, scQ_ret, scQ_exit, Nat.reduceEqDiff, reduceIte, eq_self, reduceCtorEq, if_true, if_false]
        first | refine ret_pureQ rfl ?_ | refine ret_pureN rfl ?_
        simp only [retP, at_cons, at_nil, Nat.reduceEqDiff, reduceIte, eq_self, AV.use, retV, AV.bel, AV.bels, true_and, and_true]
        all_goals rfl
      · have hr3 := hc3
        try simp only [decide_eq_true_eq, decide_eq_false_iff_not, Bool.not_eq_true', Bool.not_eq_false', Int.not_lt, Int.not_le, ge_iff_le, gt_iff_lt, Bool.or_eq_false_iff, Bool.or_eq_true, Bool.and_eq_true, Bool.and_eq_false_imp, beq_iff_eq, beq_eq_false_iff_ne, ne_eq, bne_iff_ne, bne_eq_false_iff_eq] at hc3
        have hje : j = b.objs.length := by omega
        have h2 : tot b b.objs.length ≤ 100 := by rw [← hje]; omega
        have h4 : (b.objs.map fun o => o.vers.length).sum = tot b b.objs.length := by rw [tot, List.take_length]
        have h3 := rv_len pre noSpot b.objs []
        rw [List.length_nil, h4] at h3
        have hfl : (fullV pre b).length ≤ 100 := by show (rvers pre noSpot b.objs []).length ≤ 100; omega
        have hrow : okL okRow (fullV pre b) := ⟨by omega, rvers_ok pre noSpot b.objs [] (fun o ho => hb0.2.2.2.1.2 o ho) (by simp)⟩
        refine Wps_skip ?_
        refine Wps_seq ?_
        refine Wps_reg (T := [(8, e8b), (9, e9), (12, e12), (13, e13)]) ⟨e8b_ok, e9_ok, e12_ok, e13_ok, trivial⟩ [1, 2, 7, 11, 13] rfl (by simp) fun K hK => ?_
        repeat
          (first | refine X0 rfl fun K1 hK1 => ?_ | refine X1 rfl rfl fun K1 hK1 => ?_)
          simp only [↓EP, EQ, implies_true, forall_const, tys, zoks, zeros, Nat.reduceEqDiff, Nat.reduceAdd, Nat.reduceLT, Nat.reduceLeDiff, reduceIte, reduceCtorEq, e8b_ap, e9, e12_ap, e13_ap, all_exT, List.length_map, Int.toNat_natCast, toNat_pred, spot_mk, ↓dBuc_size, ↓dBuc_isAg, ↓dBuc_nav, ↓dBuc_vp, dBuc_fold, ↓dSt_size, ↓dSt_isAg, ↓dSt_nav, ↓dSt_vp, dSt_fold, ↓dRow_size, ↓dRow_isAg, ↓dRow_nav, ↓dRow_vp, dRow_fold, ↓dVer_size, ↓dVer_isAg, ↓dVer_nav, ↓dVer_vp, dVer_fold, ↓dObj_size, ↓dObj_isAg, ↓dObj_nav, ↓dObj_vp, dObj_fold, ↓dSpot_size, ↓dSpot_isAg, ↓dSpot_nav, ↓dSpot_vp, dSpot_fold, vers_eq, pagedR_tup, fullV_page hfl]
          try simp (disch := omega) only [wrap64, wrapU64]
          try (refine And.intro hb0 ?_)
          repeat (first | refine And.intro cl ?_ | intro e)
          refine hK1 _ ?_
          clear hK1 K1
        refine XE ?_
        refine hK _ _ (by simp only [St.keep, keepL, at_cons, at_nil, Nat.reduceEqDiff, reduceIte, eq_self]; rfl) ?_
        clear hK K
        refine Wps_seq ?_
        refine Wps_reg (T := [(8, e8b), (9, e9), (12, e12), (13, e13)]) ⟨e8b_ok, e9_ok, e12_ok, e13_ok, trivial⟩ [1, 2, 7, 11, 13, 14] rfl (by simp) fun K hK => ?_
        repeat
          (first | refine X0 rfl fun K1 hK1 => ?_ | refine X1 rfl rfl fun K1 hK1 => ?_)
          simp only [↓EP, EQ, implies_true, forall_const, tys, zoks, zeros, Nat.reduceEqDiff, Nat.reduceAdd, Nat.reduceLT, Nat.reduceLeDiff, reduceIte, reduceCtorEq, e8b_ap, e9, e12_ap, e13_ap, all_exT, List.length_map, Int.toNat_natCast, toNat_pred, spot_mk, ↓dBuc_size, ↓dBuc_isAg, ↓dBuc_nav, ↓dBuc_vp, dBuc_fold, ↓dSt_size, ↓dSt_isAg, ↓dSt_nav, ↓dSt_vp, dSt_fold, ↓dRow_size, ↓dRow_isAg, ↓dRow_nav, ↓dRow_vp, dRow_fold, ↓dVer_size, ↓dVer_isAg, ↓dVer_nav, ↓dVer_vp, dVer_fold, ↓dObj_size, ↓dObj_isAg, ↓dObj_nav, ↓dObj_vp, dObj_fold, ↓dSpot_size, ↓dSpot_isAg, ↓dSpot_nav, ↓dSpot_vp, dSpot_fold]
          try simp (disch := omega) only [wrap64, wrapU64]
          repeat (first | refine And.intro cl ?_ | intro e)
          refine hK1 _ ?_
          clear hK1 K1
        refine XE ?_
        refine hK _ _ (by simp only [St.keep, keepL, at_cons, at_nil, Nat.reduceEqDiff, reduceIte, eq_self]; rfl) ?_
        clear hK K
        refine Wps_seq ?_
        refine Wps_reg (T := [(8, e8b), (9, e9), (12, e12), (13, e13)]) ⟨e8b_ok, e9_ok, e12_ok, e13_ok, trivial⟩ [1, 2, 7, 11, 13, 14, 15] rfl (by simp) fun K hK => ?_
        repeat
          (first | refine X0 rfl fun K1 hK1 => ?_ | refine X1 rfl rfl fun K1 hK1 => ?_)
          simp only [↓EP, EQ, implies_true, forall_const, tys, zoks, zeros, Nat.reduceEqDiff, Nat.reduceAdd, Nat.reduceLT, Nat.reduceLeDiff, reduceIte, reduceCtorEq, e8b_ap, e9, e12_ap, e13_ap, all_exT, List.length_map, Int.toNat_natCast, toNat_pred, spot_mk, ↓dBuc_size, ↓dBuc_isAg, ↓dBuc_nav, ↓dBuc_vp, dBuc_fold, ↓dSt_size, ↓dSt_isAg, ↓dSt_nav, ↓dSt_vp, dSt_fold, ↓dRow_size, ↓dRow_isAg, ↓dRow_nav, ↓dRow_vp, dRow_fold, ↓dVer_size, ↓dVer_isAg, ↓dVer_nav, ↓dVer_vp, dVer_fold, ↓dObj_size, ↓dObj_isAg, ↓dObj_nav, ↓dObj_vp, dObj_fold, ↓dSpot_size, ↓dSpot_isAg, ↓dSpot_nav, ↓dSpot_vp, dSpot_fold]
          try simp (disch := omega) only [wrap64, wrapU64]
          repeat (first | refine And.intro cl ?_ | intro e)
          refine hK1 _ ?_
          clear hK1 K1
        refine XE ?_
        refine hK _ _ (by simp only [St.keep, keepL, at_cons, at_nil, Nat.reduceEqDiff, reduceIte, eq_self]; rfl) ?_
        clear hK K
        refine Wps_seq ?_
        refine Wps_reg (T := [(8, e8b), (9, e9), (12, e12), (13, e13)]) ⟨e8b_ok, e9_ok, e12_ok, e13_ok, trivial⟩ [1, 7, 11, 13, 14, 15, 16] rfl (by simp) fun K hK => ?_
        repeat
          (first | refine X0 rfl fun K1 hK1 => ?_ | refine X1 rfl rfl fun K1 hK1 => ?_)
          simp only [↓EP, EQ, implies_true, forall_const, tys, zoks, zeros, Nat.reduceEqDiff, Nat.reduceAdd, Nat.reduceLT, Nat.reduceLeDiff, reduceIte, reduceCtorEq, e8b_ap, e9, e12_ap, e13_ap, all_exT, List.length_map, Int.toNat_natCast, toNat_pred, spot_mk, ↓dBuc_size, ↓dBuc_isAg, ↓dBuc_nav, ↓dBuc_vp, dBuc_fold, ↓dSt_size, ↓dSt_isAg, ↓dSt_nav, ↓dSt_vp, dSt_fold, ↓dRow_size, ↓dRow_isAg, ↓dRow_nav, ↓dRow_vp, dRow_fold, ↓dVer_size, ↓dVer_isAg, ↓dVer_nav, ↓dVer_vp, dVer_fold, ↓dObj_size, ↓dObj_isAg, ↓dObj_nav, ↓dObj_vp, dObj_fold, ↓dSpot_size, ↓dSpot_isAg, ↓dSpot_nav, ↓dSpot_vp, dSpot_fold]
          try simp (disch := omega) only [wrap64, wrapU64]
          repeat (first | refine And.intro cl ?_ | intro e)
          refine hK1 _ ?_
          clear hK1 K1
        refine XE ?_
        refine hK _ _ (by simp only [St.keep, keepL, at_cons, at_nil, Nat.reduceEqDiff, reduceIte, eq_self]; rfl) ?_
        clear hK K
        refine Wps_seq ?_
        refine Wps_seq ?_
        rw [Int.tmod_eq_emod_of_nonneg hm0]
        simp (disch := omega) only [wrap64]
        generalize hk : 1 + most % 7 = k
        have hk1 : 1 ≤ k := by omega
        have hk7 : k ≤ 7 := by omega
        refine Wps_weak (Wk_tok0 55 44 14 (by rfl)) ?_ (by simp)
        refine Wps_reg (T := [(8, e8b), (9, e9), (12, e12), (13, e13)]) ⟨e8b_ok, e9_ok, e12_ok, e13_ok, trivial⟩ [1, 7, 11, 13, 14, 15, 16, 17] rfl (by simp) fun K hK => ?_
        repeat
          (first | refine X0 rfl fun K1 hK1 => ?_ | refine X1 rfl rfl fun K1 hK1 => ?_)
          simp only [↓EP, EQ, implies_true, forall_const, tys, zoks, zeros, Nat.reduceEqDiff, Nat.reduceAdd, Nat.reduceLT, Nat.reduceLeDiff, reduceIte, reduceCtorEq, e8b_ap, e9, e12_ap, e13_ap, all_exT, List.length_map, Int.toNat_natCast, toNat_pred, spot_mk, ↓dBuc_size, ↓dBuc_isAg, ↓dBuc_nav, ↓dBuc_vp, dBuc_fold, ↓dSt_size, ↓dSt_isAg, ↓dSt_nav, ↓dSt_vp, dSt_fold, ↓dRow_size, ↓dRow_isAg, ↓dRow_nav, ↓dRow_vp, dRow_fold, ↓dVer_size, ↓dVer_isAg, ↓dVer_nav, ↓dVer_vp, dVer_fold, ↓dObj_size, ↓dObj_isAg, ↓dObj_nav, ↓dObj_vp, dObj_fold, ↓dSpot_size, ↓dSpot_isAg, ↓dSpot_nav, ↓dSpot_vp, dSpot_fold]
          try simp (disch := omega) only [wrap64, wrapU64]
          repeat (first | refine And.intro cl ?_ | intro e)
          refine hK1 _ ?_
          clear hK1 K1
        refine XE ?_
        refine hK _ _ (by simp only [St.keep, keepL, at_cons, at_nil, Nat.reduceEqDiff, reduceIte, eq_self]; rfl) ?_
        clear hK K
        -- a join; live: [11, 13, 14]
        refine Wps_joinW (by simp) (fun st_ => ∃ (frm : SpotL), st_ = ⟨[(11, .d (dRows (fullV pre b))), (13, I 0), (14, .own 3 44 ((fullV pre b).map dRow))], [.box (.d (dSt s)), .box (.d (dBuc b)), .box (.d (dSpot frm)), .tok 55 44 (fullV pre b).length]⟩ ∧ (True)) ?_ fun st_ hJ => ?_
        · skip
          refine Wps_block ?_
          -- live at the head: [1, 7, 11, 13, 14, 15, 16, 17]
          refine Wps_loop (fun n_ st_ => ∃ (i : Nat), ∃ (c : Nat), ∃ (frm : SpotL), n_ = 120 - i ∧ (i ≤ 120) ∧ (i ≤ c) ∧ (c ≤ (fullV pre b).length) ∧ (rvers pre frm b.objs [] = (fullV pre b).drop c) ∧ st_ = ⟨[(1, S pre), (7, .ptr 1 0 []), (11, .d (dRows (fullV pre b))), (13, I 0), (14, .own 3 44 (((fullV pre b).take c).map dRow)), (15, .ptr 2 0 []), (16, I k), (17, I i)], [.box (.d (dSt s)), .box (.d (dBuc b)), .box (.d (dSpot frm)), .tok 55 44 ((fullV pre b).take c).length]⟩) _ ⟨0, 0, noSpot, rfl, (by simp), (by simp), (by simp), (by rw [List.drop_zero]), rfl⟩ (Wk.refl _) fun n_ st_ hI => ?_
          obtain ⟨i, c, frm, rfl, hi0, hi1, hi2, hi3, rfl⟩ := hI
          refine Wps_seq ?_
          refine Wps_seq ?_
          refine Wps_reg (T := [(8, e8b), (9, e9), (12, e12), (13, e13)]) ⟨e8b_ok, e9_ok, e12_ok, e13_ok, trivial⟩ [1, 7, 11, 13, 14, 15, 16, 17, 66] rfl (by simp) fun K hK => ?_
          repeat
            (first | refine X0 rfl fun K1 hK1 => ?_ | refine X1 rfl rfl fun K1 hK1 => ?_)
            simp only [↓EP, EQ, implies_true, forall_const, tys, zoks, zeros, Nat.reduceEqDiff, Nat.reduceAdd, Nat.reduceLT, Nat.reduceLeDiff, reduceIte, reduceCtorEq, e8b_ap, e9, e12_ap, e13_ap, all_exT, List.length_map, Int.toNat_natCast, toNat_pred, spot_mk, ↓dBuc_size, ↓dBuc_isAg, ↓dBuc_nav, ↓dBuc_vp, dBuc_fold, ↓dSt_size, ↓dSt_isAg, ↓dSt_nav, ↓dSt_vp, dSt_fold, ↓dRow_size, ↓dRow_isAg, ↓dRow_nav, ↓dRow_vp, dRow_fold, ↓dVer_size, ↓dVer_isAg, ↓dVer_nav, ↓dVer_vp, dVer_fold, ↓dObj_size, ↓dObj_isAg, ↓dObj_nav, ↓dObj_vp, dObj_fold, ↓dSpot_size, ↓dSpot_isAg, ↓dSpot_nav, ↓dSpot_vp, dSpot_fold]
            try simp (disch := omega) only [wrap64, wrapU64]
            repeat (first | refine And.intro cl ?_ | intro e)
            refine hK1 _ ?_
            clear hK1 K1
          refine XE ?_
          refine hK _ _ (by simp only [St.keep, keepL, at_cons, at_nil, Nat.reduceEqDiff, reduceIte, eq_self]; rfl) ?_
          clear hK K
          refine Wps_cond rfl (fun hc4 => ?_) (fun hc4 => ?_)
          · have hr4 := hc4
            try simp only [decide_eq_true_eq, decide_eq_false_iff_not, Bool.not_eq_true', Bool.not_eq_false', Int.not_lt, Int.not_le, ge_iff_le, gt_iff_lt, Bool.or_eq_false_iff, Bool.or_eq_true, Bool.and_eq_true, Bool.and_eq_false_imp, beq_iff_eq, beq_eq_false_iff_ne, ne_eq, bne_iff_ne, bne_eq_false_iff_eq] at hc4
            refine Wps_skip ?_
            refine Wps_seq ?_
            refine Wps_block ?_
            refine Wps_seq ?_
            obtain ⟨pl, pm, hpg, hl1, hl2, htk, hpc, hl3⟩ := page_any hk1 hk7 hi2 hi3
            refine Wps_reg (T := [(8, e8b), (9, e9), (12, e12), (13, e13)]) ⟨e8b_ok, e9_ok, e12_ok, e13_ok, trivial⟩ [1, 7, 11, 13, 14, 15, 16, 17, 18, 19, 20] rfl (by simp) fun K hK => ?_
            repeat
              (first | refine X0 rfl fun K1 hK1 => ?_ | refine X1 rfl rfl fun K1 hK1 => ?_)
              simp only [↓EP, EQ, implies_true, forall_const, tys, zoks, zeros, Nat.reduceEqDiff, Nat.reduceAdd, Nat.reduceLT, Nat.reduceLeDiff, reduceIte, reduceCtorEq, e8b_ap, e9, e12_ap, e13_ap, all_exT, List.length_map, Int.toNat_natCast, toNat_pred, spot_mk, ↓dBuc_size, ↓dBuc_isAg, ↓dBuc_nav, ↓dBuc_vp, dBuc_fold, ↓dSt_size, ↓dSt_isAg, ↓dSt_nav, ↓dSt_vp, dSt_fold, ↓dRow_size, ↓dRow_isAg, ↓dRow_nav, ↓dRow_vp, dRow_fold, ↓dVer_size, ↓dVer_isAg, ↓dVer_nav, ↓dVer_vp, dVer_fold, ↓dObj_size, ↓dObj_isAg, ↓dObj_nav, ↓dObj_vp, dObj_fold, ↓dSpot_size, ↓dSpot_isAg, ↓dSpot_nav, ↓dSpot_vp, dSpot_fold, vers_eq, pagedR_tup, hpg]
              try simp (disch := omega) only [wrap64, wrapU64]
              try (refine And.intro hb0 ?_)
              repeat (first | refine And.intro cl ?_ | intro e)
              refine hK1 _ ?_
              clear hK1 K1
            refine XE ?_
            refine hK _ _ (by simp only [St.keep, keepL, at_cons, at_nil, Nat.reduceEqDiff, reduceIte, eq_self]; rfl) ?_
            clear hK K
            refine Wps_seq ?_
            refine Wps_seq ?_
            refine Wps_reg (T := [(8, e8b), (9, e9), (12, e12), (13, e13)]) ⟨e8b_ok, e9_ok, e12_ok, e13_ok, trivial⟩ [1, 7, 11, 13, 14, 15, 16, 17, 18, 19, 94] rfl (by simp) fun K hK => ?_
            repeat
              (first | refine X0 rfl fun K1 hK1 => ?_ | refine X1 rfl rfl fun K1 hK1 => ?_)
              simp only [↓EP, EQ, implies_true, forall_const, tys, zoks, zeros, Nat.reduceEqDiff, Nat.reduceAdd, Nat.reduceLT, Nat.reduceLeDiff, reduceIte, reduceCtorEq, e8b_ap, e9, e12_ap, e13_ap, all_exT, List.length_map, Int.toNat_natCast, toNat_pred, spot_mk, ↓dBuc_size, ↓dBuc_isAg, ↓dBuc_nav, ↓dBuc_vp, dBuc_fold, ↓dSt_size, ↓dSt_isAg, ↓dSt_nav, ↓dSt_vp, dSt_fold, ↓dRow_size, ↓dRow_isAg, ↓dRow_nav, ↓dRow_vp, dRow_fold, ↓dVer_size, ↓dVer_isAg, ↓dVer_nav, ↓dVer_vp, dVer_fold, ↓dObj_size, ↓dObj_isAg, ↓dObj_nav, ↓dObj_vp, dObj_fold, ↓dSpot_size, ↓dSpot_isAg, ↓dSpot_nav, ↓dSpot_vp, dSpot_fold]
              try simp (disch := omega) only [wrap64, wrapU64]
              repeat (first | refine And.intro cl ?_ | intro e)
              refine hK1 _ ?_
              clear hK1 K1
            refine XE ?_
            refine hK _ _ (by simp only [St.keep, keepL, at_cons, at_nil, Nat.reduceEqDiff, reduceIte, eq_self]; rfl) ?_
            clear hK K
            refine Wps_cond rfl (fun hc5 => ?_) (fun hc5 => ?_)
            · have hr5 := hc5
              try simp only [decide_eq_true_eq, decide_eq_false_iff_not, Bool.not_eq_true', Bool.not_eq_false', Int.not_lt, Int.not_le, ge_iff_le, gt_iff_lt, Bool.or_eq_false_iff, Bool.or_eq_true, Bool.and_eq_true, Bool.and_eq_false_imp, beq_iff_eq, beq_eq_false_iff_ne, ne_eq, bne_iff_ne, bne_eq_false_iff_eq] at hc5
              refine Wps_seq ?_
              refine Wps_reg (T := [(8, e8b), (9, e9), (12, e12), (13, e13)]) ⟨e8b_ok, e9_ok, e12_ok, e13_ok, trivial⟩ [6] rfl (by simp) fun K hK => ?_
              repeat
                (first | refine X0 rfl fun K1 hK1 => ?_ | refine X1 rfl rfl fun K1 hK1 => ?_)
                simp only [↓EP, EQ, implies_true, forall_const, tys, zoks, zeros, Nat.reduceEqDiff, Nat.reduceAdd, Nat.reduceLT, Nat.reduceLeDiff, reduceIte, reduceCtorEq, e8b_ap, e9, e12_ap, e13_ap, all_exT, List.length_map, Int.toNat_natCast, toNat_pred, spot_mk, ↓dBuc_size, ↓dBuc_isAg, ↓dBuc_nav, ↓dBuc_vp, dBuc_fold, ↓dSt_size, ↓dSt_isAg, ↓dSt_nav, ↓dSt_vp, dSt_fold, ↓dRow_size, ↓dRow_isAg, ↓dRow_nav, ↓dRow_vp, dRow_fold, ↓dVer_size, ↓dVer_isAg, ↓dVer_nav, ↓dVer_vp, dVer_fold, ↓dObj_size, ↓dObj_isAg, ↓dObj_nav, ↓dObj_vp, dObj_fold, ↓dSpot_size, ↓dSpot_isAg, ↓dSpot_nav, ↓dSpot_vp, dSpot_fold]
                try simp (disch := omega) only [wrap64, wrapU64]
                repeat (first | refine And.intro cl ?_ | intro e)
                refine hK1 _ ?_
                clear hK1 K1
              refine XE ?_
              refine hK _ _ (by simp only [St.keep, keepL, at_cons, at_nil, Nat.reduceEqDiff, reduceIte, eq_self]; rfl) ?_
              clear hK K
              refine Wps_ret ?_
              try simp only [Wps_nil, thenQ_normal, thenQ_exit, thenQ_ret, blkQ_normal, blkQ_ret, blkQ_if, blkQ_same, scQ_normal, scQ_ret, scQ_exit, Nat.reduceEqDiff, reduceIte, eq_self, reduceCtorEq, if_true, if_false]
              first | refine ret_pureQ rfl ?_ | refine ret_pureN rfl ?_
              simp only [retP, at_cons, at_nil, Nat.reduceEqDiff, reduceIte, eq_self, AV.use, retV, AV.bel, AV.bels, true_and, and_true]
              exfalso
              grind
            · have hr5 := hc5
              try simp only [decide_eq_true_eq, decide_eq_false_iff_not, Bool.not_eq_true', Bool.not_eq_false', Int.not_lt, Int.not_le, ge_iff_le, gt_iff_lt, Bool.or_eq_false_iff, Bool.or_eq_true, Bool.and_eq_true, Bool.and_eq_false_imp, beq_iff_eq, beq_eq_false_iff_ne, ne_eq, bne_iff_ne, bne_eq_false_iff_eq] at hc5
              refine Wps_skip ?_
              refine Wps_seq ?_
              refine Wps_reg (T := [(8, e8b), (9, e9), (12, e12), (13, e13)]) ⟨e8b_ok, e9_ok, e12_ok, e13_ok, trivial⟩ [1, 7, 11, 13, 14, 15, 16, 17, 18, 19] rfl (by simp) fun K hK => ?_
              repeat
                (first | refine X0 rfl fun K1 hK1 => ?_ | refine X1 rfl rfl fun K1 hK1 => ?_)
                simp only [↓EP, EQ, implies_true, forall_const, tys, zoks, zeros, Nat.reduceEqDiff, Nat.reduceAdd, Nat.reduceLT, Nat.reduceLeDiff, reduceIte, reduceCtorEq, e8b_ap, e9, e12_ap, e13_ap, all_exT, List.length_map, Int.toNat_natCast, toNat_pred, spot_mk, ↓dBuc_size, ↓dBuc_isAg, ↓dBuc_nav, ↓dBuc_vp, dBuc_fold, ↓dSt_size, ↓dSt_isAg, ↓dSt_nav, ↓dSt_vp, dSt_fold, ↓dRow_size, ↓dRow_isAg, ↓dRow_nav, ↓dRow_vp, dRow_fold, ↓dVer_size, ↓dVer_isAg, ↓dVer_nav, ↓dVer_vp, dVer_fold, ↓dObj_size, ↓dObj_isAg, ↓dObj_nav, ↓dObj_vp, dObj_fold, ↓dSpot_size, ↓dSpot_isAg, ↓dSpot_nav, ↓dSpot_vp, dSpot_fold]
                try simp (disch := omega) only [wrap64, wrapU64]
                repeat (first | refine And.intro cl ?_ | intro e)
                refine hK1 _ ?_
                clear hK1 K1
              refine XE ?_
              refine hK _ _ (by simp only [St.keep, keepL, at_cons, at_nil, Nat.reduceEqDiff, reduceIte, eq_self]; rfl) ?_
              clear hK K
              refine Wps_seq ?_
              refine Wps_seq ?_
              refine Wps_reg (T := [(8, e8b), (9, e9), (12, e12), (13, e13)]) ⟨e8b_ok, e9_ok, e12_ok, e13_ok, trivial⟩ [1, 7, 11, 13, 14, 15, 16, 17, 18, 99] rfl (by simp) fun K hK => ?_
              repeat
                (first | refine X0 rfl fun K1 hK1 => ?_ | refine X1 rfl rfl fun K1 hK1 => ?_)
                simp only [↓EP, EQ, implies_true, forall_const, tys, zoks, zeros, Nat.reduceEqDiff, Nat.reduceAdd, Nat.reduceLT, Nat.reduceLeDiff, reduceIte, reduceCtorEq, e8b_ap, e9, e12_ap, e13_ap, all_exT, List.length_map, Int.toNat_natCast, toNat_pred, spot_mk, ↓dBuc_size, ↓dBuc_isAg, ↓dBuc_nav, ↓dBuc_vp, dBuc_fold, ↓dSt_size, ↓dSt_isAg, ↓dSt_nav, ↓dSt_vp, dSt_fold, ↓dRow_size, ↓dRow_isAg, ↓dRow_nav, ↓dRow_vp, dRow_fold, ↓dVer_size, ↓dVer_isAg, ↓dVer_nav, ↓dVer_vp, dVer_fold, ↓dObj_size, ↓dObj_isAg, ↓dObj_nav, ↓dObj_vp, dObj_fold, ↓dSpot_size, ↓dSpot_isAg, ↓dSpot_nav, ↓dSpot_vp, dSpot_fold]
                try simp (disch := omega) only [wrap64, wrapU64]
                repeat (first | refine And.intro cl ?_ | intro e)
                refine hK1 _ ?_
                clear hK1 K1
              refine XE ?_
              refine hK _ _ (by simp only [St.keep, keepL, at_cons, at_nil, Nat.reduceEqDiff, reduceIte, eq_self]; rfl) ?_
              clear hK K
              refine Wps_cond rfl (fun hc6 => ?_) (fun hc6 => ?_)
              · have hr6 := hc6
                try simp only [decide_eq_true_eq, decide_eq_false_iff_not, Bool.not_eq_true', Bool.not_eq_false', Int.not_lt, Int.not_le, ge_iff_le, gt_iff_lt, Bool.or_eq_false_iff, Bool.or_eq_true, Bool.and_eq_true, Bool.and_eq_false_imp, beq_iff_eq, beq_eq_false_iff_ne, ne_eq, bne_iff_ne, bne_eq_false_iff_eq] at hc6
                have hct : (fullV pre b).take c ++ pl = (fullV pre b) := by rw [htk, hl3 (by simpa using hc6), List.take_length]
                refine Wps_exit ?_
                simp only [Wps_nil, thenQ_normal, thenQ_exit, thenQ_ret, blkQ_normal, blkQ_ret, blkQ_if, blkQ_same, scQ_normal, scQ_ret, scQ_exit, Nat.reduceEqDiff, reduceIte, eq_self, reduceCtorEq, if_true, if_false]
                try simp only [Wps_nil, thenQ_normal, thenQ_exit, thenQ_ret, blkQ_normal, blkQ_ret, blkQ_if, blkQ_same, scQ_normal, scQ_ret, scQ_exit, Nat.reduceEqDiff, reduceIte, eq_self, reduceCtorEq, if_true, if_false]
                refine ⟨_, ⟨?v1_0, ?he, ?hf0⟩, Wk_keep [11, 13, 14]⟩
                case he =>
                  simp only [St.keep, keepL, at_cons, at_nil, Nat.reduceEqDiff, reduceIte, eq_self, ← List.map_append, ← List.length_append, hct]
                  all_goals rfl
                case hf0 => trivial
              · have hr6 := hc6
                try simp only [decide_eq_true_eq, decide_eq_false_iff_not, Bool.not_eq_true', Bool.not_eq_false', Int.not_lt, Int.not_le, ge_iff_le, gt_iff_lt, Bool.or_eq_false_iff, Bool.or_eq_true, Bool.and_eq_true, Bool.and_eq_false_imp, beq_iff_eq, beq_eq_false_iff_ne, ne_eq, bne_iff_ne, bne_eq_false_iff_eq] at hc6
                have hpm : pm = true := by simpa using hc6
                have hl2 := hl2 hpm
                have hx := next_vers hgood (by omega) htk
                refine Wps_skip ?_
                refine Wps_seq ?_
                have hplt : pl.length - 1 < pl.length := by omega
                refine Wps_reg (T := [(8, e8b), (9, e9), (12, e12), (13, e13)]) ⟨e8b_ok, e9_ok, e12_ok, e13_ok, trivial⟩ [1, 7, 11, 13, 14, 15, 16, 17, 21] rfl (by simp) fun K hK => ?_
                repeat
                  (first | refine X0 rfl fun K1 hK1 => ?_ | refine X1 rfl rfl fun K1 hK1 => ?_)
                  simp only [↓EP, EQ, implies_true, forall_const, tys, zoks, zeros, Nat.reduceEqDiff, Nat.reduceAdd, Nat.reduceLT, Nat.reduceLeDiff, reduceIte, reduceCtorEq, e8b_ap, e9, e12_ap, e13_ap, all_exT, List.length_map, Int.toNat_natCast, toNat_pred, spot_mk, ↓dBuc_size, ↓dBuc_isAg, ↓dBuc_nav, ↓dBuc_vp, dBuc_fold, ↓dSt_size, ↓dSt_isAg, ↓dSt_nav, ↓dSt_vp, dSt_fold, ↓dRow_size, ↓dRow_isAg, ↓dRow_nav, ↓dRow_vp, dRow_fold, ↓dVer_size, ↓dVer_isAg, ↓dVer_nav, ↓dVer_vp, dVer_fold, ↓dObj_size, ↓dObj_isAg, ↓dObj_nav, ↓dObj_vp, dObj_fold, ↓dSpot_size, ↓dSpot_isAg, ↓dSpot_nav, ↓dSpot_vp, dSpot_fold, getD_map_lt hplt]
                  try simp (disch := omega) only [wrap64, wrapU64]
                  repeat (first | refine And.intro cl ?_ | intro e)
                  refine hK1 _ ?_
                  clear hK1 K1
                refine XE ?_
                refine hK _ _ (by simp only [St.keep, keepL, at_cons, at_nil, Nat.reduceEqDiff, reduceIte, eq_self]; rfl) ?_
                clear hK K
                refine Wps_regionX' (T := [(8, e8b), (9, e9), (12, e12), (13, e13)]) ⟨e8b_ok, e9_ok, e12_ok, e13_ok, trivial⟩ rfl fun K hK => ?_
                repeat
                  (first | refine X0 rfl fun K1 hK1 => ?_ | refine X1 rfl rfl fun K1 hK1 => ?_)
                  simp only [↓EP, EQ, implies_true, forall_const, tys, zoks, zeros, Nat.reduceEqDiff, Nat.reduceAdd, Nat.reduceLT, Nat.reduceLeDiff, reduceIte, reduceCtorEq, e8b_ap, e9, e12_ap, e13_ap, all_exT, List.length_map, Int.toNat_natCast, toNat_pred, spot_mk, ↓dBuc_size, ↓dBuc_isAg, ↓dBuc_nav, ↓dBuc_vp, dBuc_fold, ↓dSt_size, ↓dSt_isAg, ↓dSt_nav, ↓dSt_vp, dSt_fold, ↓dRow_size, ↓dRow_isAg, ↓dRow_nav, ↓dRow_vp, dRow_fold, ↓dVer_size, ↓dVer_isAg, ↓dVer_nav, ↓dVer_vp, dVer_fold, ↓dObj_size, ↓dObj_isAg, ↓dObj_nav, ↓dObj_vp, dObj_fold, ↓dSpot_size, ↓dSpot_isAg, ↓dSpot_nav, ↓dSpot_vp, dSpot_fold]
                  try simp (disch := omega) only [wrap64, wrapU64]
                  repeat (first | refine And.intro cl ?_ | intro e)
                  refine hK1 _ ?_
                  clear hK1 K1
                refine XE ?_
                refine hK _ ?_
                clear hK K
                simp only [Wps_nil, thenQ_normal, thenQ_exit, thenQ_ret, blkQ_normal, blkQ_ret, blkQ_if, blkQ_same, scQ_normal, scQ_ret, scQ_exit, Nat.reduceEqDiff, reduceIte, eq_self, reduceCtorEq, if_true, if_false]
                refine Wps_regionX' (T := [(8, e8b), (9, e9), (12, e12), (13, e13)]) ⟨e8b_ok, e9_ok, e12_ok, e13_ok, trivial⟩ rfl fun K hK => ?_
                repeat
                  (first | refine X0 rfl fun K1 hK1 => ?_ | refine X1 rfl rfl fun K1 hK1 => ?_)
                  simp only [↓EP, EQ, implies_true, forall_const, tys, zoks, zeros, Nat.reduceEqDiff, Nat.reduceAdd, Nat.reduceLT, Nat.reduceLeDiff, reduceIte, reduceCtorEq, e8b_ap, e9, e12_ap, e13_ap, all_exT, List.length_map, Int.toNat_natCast, toNat_pred, spot_mk, ↓dBuc_size, ↓dBuc_isAg, ↓dBuc_nav, ↓dBuc_vp, dBuc_fold, ↓dSt_size, ↓dSt_isAg, ↓dSt_nav, ↓dSt_vp, dSt_fold, ↓dRow_size, ↓dRow_isAg, ↓dRow_nav, ↓dRow_vp, dRow_fold, ↓dVer_size, ↓dVer_isAg, ↓dVer_nav, ↓dVer_vp, dVer_fold, ↓dObj_size, ↓dObj_isAg, ↓dObj_nav, ↓dObj_vp, dObj_fold, ↓dSpot_size, ↓dSpot_isAg, ↓dSpot_nav, ↓dSpot_vp, dSpot_fold]
                  try simp (disch := omega) only [wrap64, wrapU64]
                  repeat (first | refine And.intro cl ?_ | intro e)
                  refine hK1 _ ?_
                  clear hK1 K1
                refine XE ?_
                refine hK _ ?_
                clear hK K
                simp only [Wps_nil, thenQ_normal, thenQ_exit, thenQ_ret, blkQ_normal, blkQ_ret, blkQ_if, blkQ_same, scQ_normal, scQ_ret, scQ_exit, Nat.reduceEqDiff, reduceIte, eq_self, reduceCtorEq, if_true, if_false]
                refine ⟨_, _, ?h1, ⟨i + 1, c + pl.length, ⟨nil0, (pl.getD (pl.length - 1) default).key, (pl.getD (pl.length - 1) default).ver.id⟩, rfl, (by omega), (by omega), hpc, hx, ?h2⟩, Wk_cut (L' := [.box (.d (dSt s)), .box (.d (dBuc b)), .box (.d (dSpot ⟨nil0, (pl.getD (pl.length - 1) default).key, (pl.getD (pl.length - 1) default).ver.id⟩)), .tok 55 44 (((fullV pre b).take c).length + pl.length)]) rfl [1, 7, 11, 13, 14, 15, 16, 17] rfl (by simp [belS, keepL, at_cons, at_nil, AV.bel, AV.bels]) (by simp [BelL, Res.bel, AV.bel, AV.bels]) (by simp) rfl⟩
                case h2 =>
                  simp only [St.keep, keepL, at_cons, at_nil, Nat.reduceEqDiff, reduceIte, eq_self, ← htk, List.map_append, List.length_append]
                  first | rfl | (apply St_eq <;> first | rfl | (simp; done))
                case h1 => omega
          · have hr4 := hc4
            try simp only [decide_eq_true_eq, decide_eq_false_iff_not, Bool.not_eq_true', Bool.not_eq_false', Int.not_lt, Int.not_le, ge_iff_le, gt_iff_lt, Bool.or_eq_false_iff, Bool.or_eq_true, Bool.and_eq_true, Bool.and_eq_false_imp, beq_iff_eq, beq_eq_false_iff_ne, ne_eq, bne_iff_ne, bne_eq_false_iff_eq] at hc4
            have hct : (fullV pre b).take c = (fullV pre b) := by rw [show c = (fullV pre b).length by omega, List.take_length]
            refine Wps_exit ?_
            simp only [Wps_nil, thenQ_normal, thenQ_exit, thenQ_ret, blkQ_normal, blkQ_ret, blkQ_if, blkQ_same, scQ_normal, scQ_ret, scQ_exit, Nat.reduceEqDiff, reduceIte, eq_self, reduceCtorEq, if_true, if_false]
            try simp only [Wps_nil, thenQ_normal, thenQ_exit, thenQ_ret, blkQ_normal, blkQ_ret, blkQ_if, blkQ_same, scQ_normal, scQ_ret, scQ_exit, Nat.reduceEqDiff, reduceIte, eq_self, reduceCtorEq, if_true, if_false]
            refine ⟨_, ⟨?v2_0, ?he, ?hf0⟩, Wk_keep [11, 13, 14]⟩
            case he =>
              simp only [St.keep, keepL, at_cons, at_nil, Nat.reduceEqDiff, reduceIte, eq_self, ← List.map_append, ← List.length_append, hct]
              all_goals rfl
            case hf0 => trivial
        · obtain ⟨frm, rfl, hj2_0⟩ := hJ
          refine Wps_seq ?_
          refine Wps_reg (T := [(8, e8b), (9, e9), (12, e12), (13, e13)]) ⟨e8b_ok, e9_ok, e12_ok, e13_ok, trivial⟩ [6] rfl (by simp) fun K hK => ?_
          repeat
            (first | refine X0 rfl fun K1 hK1 => ?_ | refine X1 rfl rfl fun K1 hK1 => ?_)
            simp only [↓EP, EQ, implies_true, forall_const, tys, zoks, zeros, Nat.reduceEqDiff, Nat.reduceAdd, Nat.reduceLT, Nat.reduceLeDiff, reduceIte, reduceCtorEq, e8b_ap, e9, e12_ap, e13_ap, all_exT, List.length_map, Int.toNat_natCast, toNat_pred, spot_mk, ↓dBuc_size, ↓dBuc_isAg, ↓dBuc_nav, ↓dBuc_vp, dBuc_fold, ↓dSt_size, ↓dSt_isAg, ↓dSt_nav, ↓dSt_vp, dSt_fold, ↓dRow_size, ↓dRow_isAg, ↓dRow_nav, ↓dRow_vp, dRow_fold, ↓dVer_size, ↓dVer_isAg, ↓dVer_nav, ↓dVer_vp, dVer_fold, ↓dObj_size, ↓dObj_isAg, ↓dObj_nav, ↓dObj_vp, dObj_fold, ↓dSpot_size, ↓dSpot_isAg, ↓dSpot_nav, ↓dSpot_vp, dSpot_fold]
            try simp (disch := omega) only [wrap64, wrapU64]
            try (refine And.intro (fun _ => ⟨hrow, hrow⟩) ?_)
            repeat (first | refine And.intro cl ?_ | intro e)
            refine hK1 _ ?_
            clear hK1 K1
          refine XE ?_
          refine hK _ _ (by simp only [St.keep, keepL, at_cons, at_nil, Nat.reduceEqDiff, reduceIte, eq_self]; rfl) ?_
          clear hK K
          refine Wps_ret ?_
          try simp only [Wps_nil, thenQ_normal, thenQ_exit, thenQ_ret, blkQ_normal, blkQ_ret, blkQ_if, blkQ_same, scQ_normal, scQ_ret, scQ_exit, Nat.reduceEqDiff, reduceIte, eq_self, reduceCtorEq, if_true, if_false]
          first | refine ret_pureQ rfl ?_ | refine ret_pureN rfl ?_
          simp only [retP, at_cons, at_nil, Nat.reduceEqDiff, reduceIte, eq_self, AV.use, retV, AV.bel, AV.bels, true_and, and_true]
          all_goals rfl

end Go.Proofs.Ytolplbfonlhbhaa
