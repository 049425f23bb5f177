/- Laws: ListPages. -/
import Derived.Test.YtolplbfonlhbhaaC22
set_option maxRecDepth 20000
set_option maxHeartbeats 4000000
set_option linter.unusedVariables false
set_option linter.unusedSectionVars false
set_option linter.unusedSimpArgs false
namespace Go.Proofs.Ytolplbfonlhbhaa
open Go Go.Eng
variable [Globs]

variable [G23]
-- chartularylaw23.ListPages
theorem f5_ok (s : StL) (pre mark : ByteArray) (most : Int) (hs : okSt s) (hpre : pre.size ≤ 1048576) (hmark : mark.size ≤ 1048576) (hm0 : 0 ≤ most) (hm1 : most ≤ 255) : PureOk Try.prog 5 [.d (dSt s), S pre, S mark, .d (.raw (.int .u8 most))] fun r => r = B true := by
  refine PureOk_of (fn := Try.f5) (rs := [.tmp 8]) (n := 127) (hf := Try.func5) (hn := by kernel_rfl) (hb := rfl) (hr := rfl) (hN := rfl) (hargs := by simp) (ha := by simp [AV.bels, AV.bel]) (hrb := by rintro _ rfl; simp [AV.bel, AV.bels]) (h := fun Z0 w0 => ?_)
  simp only [enumA, Nat.zero_add]
  refine Wps_seq ?_
  refine Wps_reg (T := [(8, e8b), (9, e9), (10, e10), (12, e12), (15, e15)]) ⟨e8b_ok, e9_ok, e10_ok, e12_ok, e15_ok, trivial⟩ [1, 2, 3, 4] rfl (by simp) fun K hK => ?_
  repeat
    (first | refine X0 rfl fun K1 hK1 => ?_ | refine X1 rfl rfl fun K1 hK1 => ?_)
    simp only [↓EP, EQ, implies_true, forall_const, tys, zoks, zeros, Nat.reduceEqDiff, Nat.reduceAdd, Nat.reduceLT, Nat.reduceLeDiff, reduceIte, reduceCtorEq, e8b_ap, e9, e10_ap, e12_ap, e15_ap, all_exT, List.length_map, Int.toNat_natCast, toNat_pred, ↓dBuc_size, ↓dBuc_isAg, ↓dBuc_nav, ↓dBuc_vp, dBuc_fold, ↓dSt_size, ↓dSt_isAg, ↓dSt_nav, ↓dSt_vp, dSt_fold, ↓dRow_size, ↓dRow_isAg, ↓dRow_nav, ↓dRow_vp, dRow_fold, ↓dVer_size, ↓dVer_isAg, ↓dVer_nav, ↓dVer_vp, dVer_fold]
    try simp (disch := omega) only [wrap64, wrapU64]
    repeat (first | refine And.intro cl ?_ | intro e)
    refine hK1 _ ?_
    clear hK1 K1
  refine XE ?_
  refine hK _ _ (by simp only [St.keep, keepL, at_cons, at_nil, Nat.reduceEqDiff, reduceIte, eq_self]; rfl) ?_
  clear hK K
  refine Wps_seq ?_
  refine Wps_reg (T := [(8, e8b), (9, e9), (10, e10), (12, e12), (15, e15)]) ⟨e8b_ok, e9_ok, e10_ok, e12_ok, e15_ok, trivial⟩ [1, 2, 3, 9, 10] rfl (by simp) fun K hK => ?_
  repeat
    (first | refine X0 rfl fun K1 hK1 => ?_ | refine X1 rfl rfl fun K1 hK1 => ?_)
    simp only [↓EP, EQ, implies_true, forall_const, tys, zoks, zeros, Nat.reduceEqDiff, Nat.reduceAdd, Nat.reduceLT, Nat.reduceLeDiff, reduceIte, reduceCtorEq, e8b_ap, e9, e10_ap, e12_ap, e15_ap, all_exT, List.length_map, Int.toNat_natCast, toNat_pred, ↓dBuc_size, ↓dBuc_isAg, ↓dBuc_nav, ↓dBuc_vp, dBuc_fold, ↓dSt_size, ↓dSt_isAg, ↓dSt_nav, ↓dSt_vp, dSt_fold, ↓dRow_size, ↓dRow_isAg, ↓dRow_nav, ↓dRow_vp, dRow_fold, ↓dVer_size, ↓dVer_isAg, ↓dVer_nav, ↓dVer_vp, dVer_fold]
    try simp (disch := omega) only [wrap64, wrapU64]
    try (refine And.intro hs ?_)
    try (rintro ⟨pb, b⟩ hp1)
    repeat (first | refine And.intro cl ?_ | intro e)
    refine hK1 _ ?_
    clear hK1 K1
  refine XE ?_
  refine hK _ _ (by simp only [St.keep, keepL, at_cons, at_nil, Nat.reduceEqDiff, reduceIte, eq_self]; rfl) ?_
  clear hK K
  refine Wps_seq ?_
  refine Wps_seq ?_
  refine Wps_reg (T := [(8, e8b), (9, e9), (10, e10), (12, e12), (15, e15)]) ⟨e8b_ok, e9_ok, e10_ok, e12_ok, e15_ok, trivial⟩ [1, 2, 3, 9, 39] rfl (by simp) fun K hK => ?_
  repeat
    (first | refine X0 rfl fun K1 hK1 => ?_ | refine X1 rfl rfl fun K1 hK1 => ?_)
    simp only [↓EP, EQ, implies_true, forall_const, tys, zoks, zeros, Nat.reduceEqDiff, Nat.reduceAdd, Nat.reduceLT, Nat.reduceLeDiff, reduceIte, reduceCtorEq, e8b_ap, e9, e10_ap, e12_ap, e15_ap, all_exT, List.length_map, Int.toNat_natCast, toNat_pred, ↓dBuc_size, ↓dBuc_isAg, ↓dBuc_nav, ↓dBuc_vp, dBuc_fold, ↓dSt_size, ↓dSt_isAg, ↓dSt_nav, ↓dSt_vp, dSt_fold, ↓dRow_size, ↓dRow_isAg, ↓dRow_nav, ↓dRow_vp, dRow_fold, ↓dVer_size, ↓dVer_isAg, ↓dVer_nav, ↓dVer_vp, dVer_fold]
    try simp (disch := omega) only [wrap64, wrapU64]
    repeat (first | refine And.intro cl ?_ | intro e)
    refine hK1 _ ?_
    clear hK1 K1
  refine XE ?_
  refine hK _ _ (by simp only [St.keep, keepL, at_cons, at_nil, Nat.reduceEqDiff, reduceIte, eq_self]; rfl) ?_
  clear hK K
  refine Wps_cond rfl (fun hc1 => ?_) (fun hc1 => ?_)
  · have hr1 := hc1
    try simp only [decide_eq_true_eq, decide_eq_false_iff_not, Bool.not_eq_true', Bool.not_eq_false', Int.not_lt, Int.not_le, ge_iff_le, gt_iff_lt, Bool.or_eq_false_iff, Bool.or_eq_true, Bool.and_eq_true, Bool.and_eq_false_imp, beq_iff_eq, beq_eq_false_iff_ne, ne_eq, bne_iff_ne, bne_eq_false_iff_eq] at hc1
    refine Wps_seq ?_
    refine Wps_reg (T := [(8, e8b), (9, e9), (10, e10), (12, e12), (15, e15)]) ⟨e8b_ok, e9_ok, e10_ok, e12_ok, e15_ok, trivial⟩ [8] rfl (by simp) fun K hK => ?_
    repeat
      (first | refine X0 rfl fun K1 hK1 => ?_ | refine X1 rfl rfl fun K1 hK1 => ?_)
      simp only [↓EP, EQ, implies_true, forall_const, tys, zoks, zeros, Nat.reduceEqDiff, Nat.reduceAdd, Nat.reduceLT, Nat.reduceLeDiff, reduceIte, reduceCtorEq, e8b_ap, e9, e10_ap, e12_ap, e15_ap, all_exT, List.length_map, Int.toNat_natCast, toNat_pred, ↓dBuc_size, ↓dBuc_isAg, ↓dBuc_nav, ↓dBuc_vp, dBuc_fold, ↓dSt_size, ↓dSt_isAg, ↓dSt_nav, ↓dSt_vp, dSt_fold, ↓dRow_size, ↓dRow_isAg, ↓dRow_nav, ↓dRow_vp, dRow_fold, ↓dVer_size, ↓dVer_isAg, ↓dVer_nav, ↓dVer_vp, dVer_fold]
      try simp (disch := omega) only [wrap64, wrapU64]
      repeat (first | refine And.intro cl ?_ | intro e)
      refine hK1 _ ?_
      clear hK1 K1
    refine XE ?_
    refine hK _ _ (by simp only [St.keep, keepL, at_cons, at_nil, Nat.reduceEqDiff, reduceIte, eq_self]; rfl) ?_
    clear hK K
    refine Wps_ret ?_
    try simp only [Wps_nil, thenQ_normal, thenQ_exit, thenQ_ret, blkQ_normal, blkQ_ret, blkQ_if, blkQ_same, scQ_normal, scQ_ret, scQ_exit, Nat.reduceEqDiff, reduceIte, eq_self, reduceCtorEq, if_true, if_false]
    first | refine ret_pureQ rfl ?_ | refine ret_pureN rfl ?_
    simp only [retP, at_cons, at_nil, Nat.reduceEqDiff, reduceIte, eq_self, AV.use, retV, AV.bel, AV.bels, true_and, and_true]
    all_goals rfl
  · have hr1 := hc1
    try simp only [decide_eq_true_eq, decide_eq_false_iff_not, Bool.not_eq_true', Bool.not_eq_false', Int.not_lt, Int.not_le, ge_iff_le, gt_iff_lt, Bool.or_eq_false_iff, Bool.or_eq_true, Bool.and_eq_true, Bool.and_eq_false_imp, beq_iff_eq, beq_eq_false_iff_ne, ne_eq, bne_iff_ne, bne_eq_false_iff_eq] at hc1
    have hpt : pb = true := by simpa using hc1.1
    obtain ⟨hlen, hbe, hgood⟩ := hp1 hpt
    have hbe2 : b = s.bucs.getD 0 default := hbe
    have hb0 : okBuc b := hbe2 ▸ okL_get hs hlen
    have hgood : goodB b := hgood
    have hl100 : b.objs.length ≤ 100 := by have := hc1.2; omega
    have hfl : (full pre mark b).length ≤ b.objs.length := by have := rk_len pre mark nil0 b.objs []; rw [List.length_nil] at this; show (rkeys pre mark nil0 b.objs []).length ≤ _; omega
    have hsz := rk_size pre mark nil0 b.objs [] (fun o ho => (hb0.2.2.2.1.2 o ho).1) (by simp)
    have hmem : ∀ o ∈ b.objs, okObj o ∧ 1 ≤ o.vers.length := fun o ho => ⟨hb0.2.2.2.1.2 o ho, (goodB_mem hgood ho).1.2.1⟩
    have hrow : okL okRow (full pre mark b) := ⟨by omega, rkeys_ok pre mark nil0 b.objs [] hmem (by simp)⟩
    refine Wps_skip ?_
    refine Wps_seq ?_
    refine Wps_reg (T := [(8, e8b), (9, e9), (10, e10), (12, e12), (15, e15)]) ⟨e8b_ok, e9_ok, e10_ok, e12_ok, e15_ok, trivial⟩ [1, 2, 3, 9, 11, 13] rfl (by simp) fun K hK => ?_
    repeat
      (first | refine X0 rfl fun K1 hK1 => ?_ | refine X1 rfl rfl fun K1 hK1 => ?_)
      simp only [↓EP, EQ, implies_true, forall_const, tys, zoks, zeros, Nat.reduceEqDiff, Nat.reduceAdd, Nat.reduceLT, Nat.reduceLeDiff, reduceIte, reduceCtorEq, e8b_ap, e9, e10_ap, e12_ap, e15_ap, all_exT, List.length_map, Int.toNat_natCast, toNat_pred, ↓dBuc_size, ↓dBuc_isAg, ↓dBuc_nav, ↓dBuc_vp, dBuc_fold, ↓dSt_size, ↓dSt_isAg, ↓dSt_nav, ↓dSt_vp, dSt_fold, ↓dRow_size, ↓dRow_isAg, ↓dRow_nav, ↓dRow_vp, dRow_fold, ↓dVer_size, ↓dVer_isAg, ↓dVer_nav, ↓dVer_vp, dVer_fold, keys_eq hgood, pagedR_tup, full_page hl100]
      try simp (disch := omega) only [wrap64, wrapU64]
      try (refine And.intro ⟨hb0, hpre, hmark⟩ ?_)
      repeat (first | refine And.intro cl ?_ | intro e)
      refine hK1 _ ?_
      clear hK1 K1
    refine XE ?_
    refine hK _ _ (by simp only [St.keep, keepL, at_cons, at_nil, Nat.reduceEqDiff, reduceIte, eq_self]; rfl) ?_
    clear hK K
    refine Wps_seq ?_
    refine Wps_reg (T := [(8, e8b), (9, e9), (10, e10), (12, e12), (15, e15)]) ⟨e8b_ok, e9_ok, e10_ok, e12_ok, e15_ok, trivial⟩ [1, 2, 3, 9, 11, 13, 14] rfl (by simp) fun K hK => ?_
    repeat
      (first | refine X0 rfl fun K1 hK1 => ?_ | refine X1 rfl rfl fun K1 hK1 => ?_)
      simp only [↓EP, EQ, implies_true, forall_const, tys, zoks, zeros, Nat.reduceEqDiff, Nat.reduceAdd, Nat.reduceLT, Nat.reduceLeDiff, reduceIte, reduceCtorEq, e8b_ap, e9, e10_ap, e12_ap, e15_ap, all_exT, List.length_map, Int.toNat_natCast, toNat_pred, ↓dBuc_size, ↓dBuc_isAg, ↓dBuc_nav, ↓dBuc_vp, dBuc_fold, ↓dSt_size, ↓dSt_isAg, ↓dSt_nav, ↓dSt_vp, dSt_fold, ↓dRow_size, ↓dRow_isAg, ↓dRow_nav, ↓dRow_vp, dRow_fold, ↓dVer_size, ↓dVer_isAg, ↓dVer_nav, ↓dVer_vp, dVer_fold]
      try simp (disch := omega) only [wrap64, wrapU64]
      repeat (first | refine And.intro cl ?_ | intro e)
      refine hK1 _ ?_
      clear hK1 K1
    refine XE ?_
    refine hK _ _ (by simp only [St.keep, keepL, at_cons, at_nil, Nat.reduceEqDiff, reduceIte, eq_self]; rfl) ?_
    clear hK K
    refine Wps_seq ?_
    refine Wps_reg (T := [(8, e8b), (9, e9), (10, e10), (12, e12), (15, e15)]) ⟨e8b_ok, e9_ok, e10_ok, e12_ok, e15_ok, trivial⟩ [1, 2, 3, 9, 11, 13, 14, 15] rfl (by simp) fun K hK => ?_
    repeat
      (first | refine X0 rfl fun K1 hK1 => ?_ | refine X1 rfl rfl fun K1 hK1 => ?_)
      simp only [↓EP, EQ, implies_true, forall_const, tys, zoks, zeros, Nat.reduceEqDiff, Nat.reduceAdd, Nat.reduceLT, Nat.reduceLeDiff, reduceIte, reduceCtorEq, e8b_ap, e9, e10_ap, e12_ap, e15_ap, all_exT, List.length_map, Int.toNat_natCast, toNat_pred, ↓dBuc_size, ↓dBuc_isAg, ↓dBuc_nav, ↓dBuc_vp, dBuc_fold, ↓dSt_size, ↓dSt_isAg, ↓dSt_nav, ↓dSt_vp, dSt_fold, ↓dRow_size, ↓dRow_isAg, ↓dRow_nav, ↓dRow_vp, dRow_fold, ↓dVer_size, ↓dVer_isAg, ↓dVer_nav, ↓dVer_vp, dVer_fold]
      try simp (disch := omega) only [wrap64, wrapU64]
      repeat (first | refine And.intro cl ?_ | intro e)
      refine hK1 _ ?_
      clear hK1 K1
    refine XE ?_
    refine hK _ _ (by simp only [St.keep, keepL, at_cons, at_nil, Nat.reduceEqDiff, reduceIte, eq_self]; rfl) ?_
    clear hK K
    refine Wps_seq ?_
    refine Wps_reg (T := [(8, e8b), (9, e9), (10, e10), (12, e12), (15, e15)]) ⟨e8b_ok, e9_ok, e10_ok, e12_ok, e15_ok, trivial⟩ [1, 2, 9, 11, 13, 14, 15, 16] rfl (by simp) fun K hK => ?_
    repeat
      (first | refine X0 rfl fun K1 hK1 => ?_ | refine X1 rfl rfl fun K1 hK1 => ?_)
      simp only [↓EP, EQ, implies_true, forall_const, tys, zoks, zeros, Nat.reduceEqDiff, Nat.reduceAdd, Nat.reduceLT, Nat.reduceLeDiff, reduceIte, reduceCtorEq, e8b_ap, e9, e10_ap, e12_ap, e15_ap, all_exT, List.length_map, Int.toNat_natCast, toNat_pred, ↓dBuc_size, ↓dBuc_isAg, ↓dBuc_nav, ↓dBuc_vp, dBuc_fold, ↓dSt_size, ↓dSt_isAg, ↓dSt_nav, ↓dSt_vp, dSt_fold, ↓dRow_size, ↓dRow_isAg, ↓dRow_nav, ↓dRow_vp, dRow_fold, ↓dVer_size, ↓dVer_isAg, ↓dVer_nav, ↓dVer_vp, dVer_fold]
      try simp (disch := omega) only [wrap64, wrapU64]
      repeat (first | refine And.intro cl ?_ | intro e)
      refine hK1 _ ?_
      clear hK1 K1
    refine XE ?_
    refine hK _ _ (by simp only [St.keep, keepL, at_cons, at_nil, Nat.reduceEqDiff, reduceIte, eq_self]; rfl) ?_
    clear hK K
    refine Wps_seq ?_
    refine Wps_seq ?_
    rw [Int.tmod_eq_emod_of_nonneg hm0]
    simp (disch := omega) only [wrap64]
    generalize hk : 1 + most % 7 = k
    have hk1 : 1 ≤ k := by omega
    have hk7 : k ≤ 7 := by omega
    refine Wps_weak (Wk_tok0 55 44 14 (by rfl)) ?_ (by simp)
    refine Wps_reg (T := [(8, e8b), (9, e9), (10, e10), (12, e12), (15, e15)]) ⟨e8b_ok, e9_ok, e10_ok, e12_ok, e15_ok, trivial⟩ [1, 2, 9, 11, 13, 14, 15, 16, 17] rfl (by simp) fun K hK => ?_
    repeat
      (first | refine X0 rfl fun K1 hK1 => ?_ | refine X1 rfl rfl fun K1 hK1 => ?_)
      simp only [↓EP, EQ, implies_true, forall_const, tys, zoks, zeros, Nat.reduceEqDiff, Nat.reduceAdd, Nat.reduceLT, Nat.reduceLeDiff, reduceIte, reduceCtorEq, e8b_ap, e9, e10_ap, e12_ap, e15_ap, all_exT, List.length_map, Int.toNat_natCast, toNat_pred, ↓dBuc_size, ↓dBuc_isAg, ↓dBuc_nav, ↓dBuc_vp, dBuc_fold, ↓dSt_size, ↓dSt_isAg, ↓dSt_nav, ↓dSt_vp, dSt_fold, ↓dRow_size, ↓dRow_isAg, ↓dRow_nav, ↓dRow_vp, dRow_fold, ↓dVer_size, ↓dVer_isAg, ↓dVer_nav, ↓dVer_vp, dVer_fold]
      try simp (disch := omega) only [wrap64, wrapU64]
      repeat (first | refine And.intro cl ?_ | intro e)
      refine hK1 _ ?_
      clear hK1 K1
    refine XE ?_
    refine hK _ _ (by simp only [St.keep, keepL, at_cons, at_nil, Nat.reduceEqDiff, reduceIte, eq_self]; rfl) ?_
    clear hK K
    -- a join; live: [9, 11, 13, 14]
    refine Wps_joinW (by simp) (fun st_ => ∃ (z : Int), st_ = ⟨[(9, .ptr 1 0 []), (11, .d (dRows (full pre mark b))), (13, I z), (14, .own 2 44 ((full pre mark b).map dRow))], [.box (.d (dSt s)), .box (.d (dBuc b)), .tok 55 44 (full pre mark b).length]⟩ ∧ (z = 0)) ?_ fun st_ hJ => ?_
    · skip
      refine Wps_block ?_
      -- live at the head: [1, 2, 9, 11, 13, 14, 15, 16, 17]
      refine Wps_loop (fun n_ st_ => ∃ (i : Nat), ∃ (c : Nat), ∃ (after : ByteArray), n_ = 120 - i ∧ (i ≤ 120) ∧ (i ≤ c) ∧ (c ≤ (full pre mark b).length) ∧ (rkeys pre mark after b.objs [] = (full pre mark b).drop c) ∧ st_ = ⟨[(1, S pre), (2, S mark), (9, .ptr 1 0 []), (11, .d (dRows (full pre mark b))), (13, I 0), (14, .own 2 44 (((full pre mark b).take c).map dRow)), (15, S after), (16, I k), (17, I i)], [.box (.d (dSt s)), .box (.d (dBuc b)), .tok 55 44 ((full pre mark b).take c).length]⟩) _ ⟨0, 0, nil0, rfl, (by simp), (by simp), (by simp), (by rw [List.drop_zero]), rfl⟩ (Wk.refl _) fun n_ st_ hI => ?_
      obtain ⟨i, c, after, rfl, hi0, hi1, hi2, hi3, rfl⟩ := hI
      refine Wps_seq ?_
      refine Wps_seq ?_
      refine Wps_reg (T := [(8, e8b), (9, e9), (10, e10), (12, e12), (15, e15)]) ⟨e8b_ok, e9_ok, e10_ok, e12_ok, e15_ok, trivial⟩ [1, 2, 9, 11, 13, 14, 15, 16, 17, 54] rfl (by simp) fun K hK => ?_
      repeat
        (first | refine X0 rfl fun K1 hK1 => ?_ | refine X1 rfl rfl fun K1 hK1 => ?_)
        simp only [↓EP, EQ, implies_true, forall_const, tys, zoks, zeros, Nat.reduceEqDiff, Nat.reduceAdd, Nat.reduceLT, Nat.reduceLeDiff, reduceIte, reduceCtorEq, e8b_ap, e9, e10_ap, e12_ap, e15_ap, all_exT, List.length_map, Int.toNat_natCast, toNat_pred, ↓dBuc_size, ↓dBuc_isAg, ↓dBuc_nav, ↓dBuc_vp, dBuc_fold, ↓dSt_size, ↓dSt_isAg, ↓dSt_nav, ↓dSt_vp, dSt_fold, ↓dRow_size, ↓dRow_isAg, ↓dRow_nav, ↓dRow_vp, dRow_fold, ↓dVer_size, ↓dVer_isAg, ↓dVer_nav, ↓dVer_vp, dVer_fold]
        try simp (disch := omega) only [wrap64, wrapU64]
        repeat (first | refine And.intro cl ?_ | intro e)
        refine hK1 _ ?_
        clear hK1 K1
      refine XE ?_
      refine hK _ _ (by simp only [St.keep, keepL, at_cons, at_nil, Nat.reduceEqDiff, reduceIte, eq_self]; rfl) ?_
      clear hK K
      refine Wps_cond rfl (fun hc2 => ?_) (fun hc2 => ?_)
      · have hr2 := hc2
        try simp only [decide_eq_true_eq, decide_eq_false_iff_not, Bool.not_eq_true', Bool.not_eq_false', Int.not_lt, Int.not_le, ge_iff_le, gt_iff_lt, Bool.or_eq_false_iff, Bool.or_eq_true, Bool.and_eq_true, Bool.and_eq_false_imp, beq_iff_eq, beq_eq_false_iff_ne, ne_eq, bne_iff_ne, bne_eq_false_iff_eq] at hc2
        refine Wps_skip ?_
        refine Wps_seq ?_
        refine Wps_block ?_
        refine Wps_seq ?_
        obtain ⟨pl, pm, hpg, hl1, hl2, htk, hpc, hl3⟩ := page_facts hk1 hk7 hi2 hi3
        refine Wps_reg (T := [(8, e8b), (9, e9), (10, e10), (12, e12), (15, e15)]) ⟨e8b_ok, e9_ok, e10_ok, e12_ok, e15_ok, trivial⟩ [1, 2, 9, 11, 13, 14, 16, 17, 18, 19, 20] rfl (by simp) fun K hK => ?_
        repeat
          (first | refine X0 rfl fun K1 hK1 => ?_ | refine X1 rfl rfl fun K1 hK1 => ?_)
          simp only [↓EP, EQ, implies_true, forall_const, tys, zoks, zeros, Nat.reduceEqDiff, Nat.reduceAdd, Nat.reduceLT, Nat.reduceLeDiff, reduceIte, reduceCtorEq, e8b_ap, e9, e10_ap, e12_ap, e15_ap, all_exT, List.length_map, Int.toNat_natCast, toNat_pred, ↓dBuc_size, ↓dBuc_isAg, ↓dBuc_nav, ↓dBuc_vp, dBuc_fold, ↓dSt_size, ↓dSt_isAg, ↓dSt_nav, ↓dSt_vp, dSt_fold, ↓dRow_size, ↓dRow_isAg, ↓dRow_nav, ↓dRow_vp, dRow_fold, ↓dVer_size, ↓dVer_isAg, ↓dVer_nav, ↓dVer_vp, dVer_fold, keys_eq hgood, pagedR_tup, hpg]
          try simp (disch := omega) only [wrap64, wrapU64]
          try (refine And.intro ⟨hb0, hpre, hmark⟩ ?_)
          repeat (first | refine And.intro cl ?_ | intro e)
          refine hK1 _ ?_
          clear hK1 K1
        refine XE ?_
        refine hK _ _ (by simp only [St.keep, keepL, at_cons, at_nil, Nat.reduceEqDiff, reduceIte, eq_self]; rfl) ?_
        clear hK K
        refine Wps_seq ?_
        refine Wps_seq ?_
        refine Wps_reg (T := [(8, e8b), (9, e9), (10, e10), (12, e12), (15, e15)]) ⟨e8b_ok, e9_ok, e10_ok, e12_ok, e15_ok, trivial⟩ [1, 2, 9, 11, 13, 14, 16, 17, 18, 19, 83] rfl (by simp) fun K hK => ?_
        repeat
          (first | refine X0 rfl fun K1 hK1 => ?_ | refine X1 rfl rfl fun K1 hK1 => ?_)
          simp only [↓EP, EQ, implies_true, forall_const, tys, zoks, zeros, Nat.reduceEqDiff, Nat.reduceAdd, Nat.reduceLT, Nat.reduceLeDiff, reduceIte, reduceCtorEq, e8b_ap, e9, e10_ap, e12_ap, e15_ap, all_exT, List.length_map, Int.toNat_natCast, toNat_pred, ↓dBuc_size, ↓dBuc_isAg, ↓dBuc_nav, ↓dBuc_vp, dBuc_fold, ↓dSt_size, ↓dSt_isAg, ↓dSt_nav, ↓dSt_vp, dSt_fold, ↓dRow_size, ↓dRow_isAg, ↓dRow_nav, ↓dRow_vp, dRow_fold, ↓dVer_size, ↓dVer_isAg, ↓dVer_nav, ↓dVer_vp, dVer_fold]
          try simp (disch := omega) only [wrap64, wrapU64]
          repeat (first | refine And.intro cl ?_ | intro e)
          refine hK1 _ ?_
          clear hK1 K1
        refine XE ?_
        refine hK _ _ (by simp only [St.keep, keepL, at_cons, at_nil, Nat.reduceEqDiff, reduceIte, eq_self]; rfl) ?_
        clear hK K
        refine Wps_cond rfl (fun hc3 => ?_) (fun hc3 => ?_)
        · have hr3 := hc3
          try simp only [decide_eq_true_eq, decide_eq_false_iff_not, Bool.not_eq_true', Bool.not_eq_false', Int.not_lt, Int.not_le, ge_iff_le, gt_iff_lt, Bool.or_eq_false_iff, Bool.or_eq_true, Bool.and_eq_true, Bool.and_eq_false_imp, beq_iff_eq, beq_eq_false_iff_ne, ne_eq, bne_iff_ne, bne_eq_false_iff_eq] at hc3
          refine Wps_seq ?_
          refine Wps_reg (T := [(8, e8b), (9, e9), (10, e10), (12, e12), (15, e15)]) ⟨e8b_ok, e9_ok, e10_ok, e12_ok, e15_ok, trivial⟩ [8] rfl (by simp) fun K hK => ?_
          repeat
            (first | refine X0 rfl fun K1 hK1 => ?_ | refine X1 rfl rfl fun K1 hK1 => ?_)
            simp only [↓EP, EQ, implies_true, forall_const, tys, zoks, zeros, Nat.reduceEqDiff, Nat.reduceAdd, Nat.reduceLT, Nat.reduceLeDiff, reduceIte, reduceCtorEq, e8b_ap, e9, e10_ap, e12_ap, e15_ap, all_exT, List.length_map, Int.toNat_natCast, toNat_pred, ↓dBuc_size, ↓dBuc_isAg, ↓dBuc_nav, ↓dBuc_vp, dBuc_fold, ↓dSt_size, ↓dSt_isAg, ↓dSt_nav, ↓dSt_vp, dSt_fold, ↓dRow_size, ↓dRow_isAg, ↓dRow_nav, ↓dRow_vp, dRow_fold, ↓dVer_size, ↓dVer_isAg, ↓dVer_nav, ↓dVer_vp, dVer_fold]
            try simp (disch := omega) only [wrap64, wrapU64]
            repeat (first | refine And.intro cl ?_ | intro e)
            refine hK1 _ ?_
            clear hK1 K1
          refine XE ?_
          refine hK _ _ (by simp only [St.keep, keepL, at_cons, at_nil, Nat.reduceEqDiff, reduceIte, eq_self]; rfl) ?_
          clear hK K
          refine Wps_ret ?_
          try simp only [Wps_nil, thenQ_normal, thenQ_exit, thenQ_ret, blkQ_normal, blkQ_ret, blkQ_if, blkQ_same, scQ_normal, scQ_ret, scQ_exit, Nat.reduceEqDiff, reduceIte, eq_self, reduceCtorEq, if_true, if_false]
          first | refine ret_pureQ rfl ?_ | refine ret_pureN rfl ?_
          simp only [retP, at_cons, at_nil, Nat.reduceEqDiff, reduceIte, eq_self, AV.use, retV, AV.bel, AV.bels, true_and, and_true]
          exfalso
          grind
        · have hr3 := hc3
          try simp only [decide_eq_true_eq, decide_eq_false_iff_not, Bool.not_eq_true', Bool.not_eq_false', Int.not_lt, Int.not_le, ge_iff_le, gt_iff_lt, Bool.or_eq_false_iff, Bool.or_eq_true, Bool.and_eq_true, Bool.and_eq_false_imp, beq_iff_eq, beq_eq_false_iff_ne, ne_eq, bne_iff_ne, bne_eq_false_iff_eq] at hc3
          refine Wps_skip ?_
          refine Wps_seq ?_
          refine Wps_reg (T := [(8, e8b), (9, e9), (10, e10), (12, e12), (15, e15)]) ⟨e8b_ok, e9_ok, e10_ok, e12_ok, e15_ok, trivial⟩ [1, 2, 9, 11, 13, 14, 16, 17, 18, 19] rfl (by simp) fun K hK => ?_
          repeat
            (first | refine X0 rfl fun K1 hK1 => ?_ | refine X1 rfl rfl fun K1 hK1 => ?_)
            simp only [↓EP, EQ, implies_true, forall_const, tys, zoks, zeros, Nat.reduceEqDiff, Nat.reduceAdd, Nat.reduceLT, Nat.reduceLeDiff, reduceIte, reduceCtorEq, e8b_ap, e9, e10_ap, e12_ap, e15_ap, all_exT, List.length_map, Int.toNat_natCast, toNat_pred, ↓dBuc_size, ↓dBuc_isAg, ↓dBuc_nav, ↓dBuc_vp, dBuc_fold, ↓dSt_size, ↓dSt_isAg, ↓dSt_nav, ↓dSt_vp, dSt_fold, ↓dRow_size, ↓dRow_isAg, ↓dRow_nav, ↓dRow_vp, dRow_fold, ↓dVer_size, ↓dVer_isAg, ↓dVer_nav, ↓dVer_vp, dVer_fold]
            try simp (disch := omega) only [wrap64, wrapU64]
            repeat (first | refine And.intro cl ?_ | intro e)
            refine hK1 _ ?_
            clear hK1 K1
          refine XE ?_
          refine hK _ _ (by simp only [St.keep, keepL, at_cons, at_nil, Nat.reduceEqDiff, reduceIte, eq_self]; rfl) ?_
          clear hK K
          refine Wps_seq ?_
          refine Wps_seq ?_
          refine Wps_reg (T := [(8, e8b), (9, e9), (10, e10), (12, e12), (15, e15)]) ⟨e8b_ok, e9_ok, e10_ok, e12_ok, e15_ok, trivial⟩ [1, 2, 9, 11, 13, 14, 16, 17, 18, 88] rfl (by simp) fun K hK => ?_
          repeat
            (first | refine X0 rfl fun K1 hK1 => ?_ | refine X1 rfl rfl fun K1 hK1 => ?_)
            simp only [↓EP, EQ, implies_true, forall_const, tys, zoks, zeros, Nat.reduceEqDiff, Nat.reduceAdd, Nat.reduceLT, Nat.reduceLeDiff, reduceIte, reduceCtorEq, e8b_ap, e9, e10_ap, e12_ap, e15_ap, all_exT, List.length_map, Int.toNat_natCast, toNat_pred, ↓dBuc_size, ↓dBuc_isAg, ↓dBuc_nav, ↓dBuc_vp, dBuc_fold, ↓dSt_size, ↓dSt_isAg, ↓dSt_nav, ↓dSt_vp, dSt_fold, ↓dRow_size, ↓dRow_isAg, ↓dRow_nav, ↓dRow_vp, dRow_fold, ↓dVer_size, ↓dVer_isAg, ↓dVer_nav, ↓dVer_vp, dVer_fold]
            try simp (disch := omega) only [wrap64, wrapU64]
            repeat (first | refine And.intro cl ?_ | intro e)
            refine hK1 _ ?_
            clear hK1 K1
          refine XE ?_
          refine hK _ _ (by simp only [St.keep, keepL, at_cons, at_nil, Nat.reduceEqDiff, reduceIte, eq_self]; rfl) ?_
          clear hK K
          refine Wps_cond rfl (fun hc4 => ?_) (fun hc4 => ?_)
          · have hr4 := hc4
            try simp only [decide_eq_true_eq, decide_eq_false_iff_not, Bool.not_eq_true', Bool.not_eq_false', Int.not_lt, Int.not_le, ge_iff_le, gt_iff_lt, Bool.or_eq_false_iff, Bool.or_eq_true, Bool.and_eq_true, Bool.and_eq_false_imp, beq_iff_eq, beq_eq_false_iff_ne, ne_eq, bne_iff_ne, bne_eq_false_iff_eq] at hc4
            have hct : (full pre mark b).take c ++ pl = (full pre mark b) := by rw [htk, hl3 (by simpa using hc4), List.take_length]
            refine Wps_exit ?_
            simp only [Wps_nil, thenQ_normal, thenQ_exit, thenQ_ret, blkQ_normal, blkQ_ret, blkQ_if, blkQ_same, scQ_normal, scQ_ret, scQ_exit, Nat.reduceEqDiff, reduceIte, eq_self, reduceCtorEq, if_true, if_false]
            try simp only [Wps_nil, thenQ_normal, thenQ_exit, thenQ_ret, blkQ_normal, blkQ_ret, blkQ_if, blkQ_same, scQ_normal, scQ_ret, scQ_exit, Nat.reduceEqDiff, reduceIte, eq_self, reduceCtorEq, if_true, if_false]
            refine ⟨_, ⟨0, ?he, ?hf0⟩, Wk_keep [9, 11, 13, 14]⟩
            case he =>
              simp only [St.keep, keepL, at_cons, at_nil, Nat.reduceEqDiff, reduceIte, eq_self, ← List.map_append, ← List.length_append, hct]
              all_goals rfl
            case hf0 => rfl
          · have hr4 := hc4
            try simp only [decide_eq_true_eq, decide_eq_false_iff_not, Bool.not_eq_true', Bool.not_eq_false', Int.not_lt, Int.not_le, ge_iff_le, gt_iff_lt, Bool.or_eq_false_iff, Bool.or_eq_true, Bool.and_eq_true, Bool.and_eq_false_imp, beq_iff_eq, beq_eq_false_iff_ne, ne_eq, bne_iff_ne, bne_eq_false_iff_eq] at hc4
            have hpm : pm = true := by simpa using hc4
            have hl2 := hl2 hpm
            have hx := next_page (t := ffs) hgood (by omega) htk hpc hi2
            have hxs := hsz _ hx.2
            refine Wps_skip ?_
            refine Wps_seq ?_
            have hplt : pl.length - 1 < pl.length := by omega
            refine Wps_reg (T := [(8, e8b), (9, e9), (10, e10), (12, e12), (15, e15)]) ⟨e8b_ok, e9_ok, e10_ok, e12_ok, e15_ok, trivial⟩ [1, 2, 9, 11, 13, 14, 16, 17, 21] rfl (by simp) fun K hK => ?_
            repeat
              (first | refine X0 rfl fun K1 hK1 => ?_ | refine X1 rfl rfl fun K1 hK1 => ?_)
              simp only [↓EP, EQ, implies_true, forall_const, tys, zoks, zeros, Nat.reduceEqDiff, Nat.reduceAdd, Nat.reduceLT, Nat.reduceLeDiff, reduceIte, reduceCtorEq, e8b_ap, e9, e10_ap, e12_ap, e15_ap, all_exT, List.length_map, Int.toNat_natCast, toNat_pred, ↓dBuc_size, ↓dBuc_isAg, ↓dBuc_nav, ↓dBuc_vp, dBuc_fold, ↓dSt_size, ↓dSt_isAg, ↓dSt_nav, ↓dSt_vp, dSt_fold, ↓dRow_size, ↓dRow_isAg, ↓dRow_nav, ↓dRow_vp, dRow_fold, ↓dVer_size, ↓dVer_isAg, ↓dVer_nav, ↓dVer_vp, dVer_fold, getD_map_lt hplt]
              try simp (disch := omega) only [wrap64, wrapU64]
              repeat (first | refine And.intro cl ?_ | intro e)
              refine hK1 _ ?_
              clear hK1 K1
            refine XE ?_
            refine hK _ _ (by simp only [St.keep, keepL, at_cons, at_nil, Nat.reduceEqDiff, reduceIte, eq_self]; rfl) ?_
            clear hK K
            refine Wps_seq ?_
            refine Wps_reg (T := [(8, e8b), (9, e9), (10, e10), (12, e12), (15, e15)]) ⟨e8b_ok, e9_ok, e10_ok, e12_ok, e15_ok, trivial⟩ [1, 2, 9, 11, 13, 14, 15, 16, 17, 21] rfl (by simp) fun K hK => ?_
            repeat
              (first | refine X0 rfl fun K1 hK1 => ?_ | refine X1 rfl rfl fun K1 hK1 => ?_)
              simp only [↓EP, EQ, implies_true, forall_const, tys, zoks, zeros, Nat.reduceEqDiff, Nat.reduceAdd, Nat.reduceLT, Nat.reduceLeDiff, reduceIte, reduceCtorEq, e8b_ap, e9, e10_ap, e12_ap, e15_ap, all_exT, List.length_map, Int.toNat_natCast, toNat_pred, ↓dBuc_size, ↓dBuc_isAg, ↓dBuc_nav, ↓dBuc_vp, dBuc_fold, ↓dSt_size, ↓dSt_isAg, ↓dSt_nav, ↓dSt_vp, dSt_fold, ↓dRow_size, ↓dRow_isAg, ↓dRow_nav, ↓dRow_vp, dRow_fold, ↓dVer_size, ↓dVer_isAg, ↓dVer_nav, ↓dVer_vp, dVer_fold]
              try simp (disch := omega) only [wrap64, wrapU64]
              repeat (first | refine And.intro cl ?_ | intro e)
              refine hK1 _ ?_
              clear hK1 K1
            refine XE ?_
            refine hK _ _ (by simp only [St.keep, keepL, at_cons, at_nil, Nat.reduceEqDiff, reduceIte, eq_self]; rfl) ?_
            clear hK K
            refine Wps_seq ?_
            refine Wps_reg (T := [(8, e8b), (9, e9), (10, e10), (12, e12), (15, e15)]) ⟨e8b_ok, e9_ok, e10_ok, e12_ok, e15_ok, trivial⟩ [1, 2, 9, 11, 13, 14, 15, 16, 17, 21, 98] rfl (by simp) fun K hK => ?_
            repeat
              (first | refine X0 rfl fun K1 hK1 => ?_ | refine X1 rfl rfl fun K1 hK1 => ?_)
              simp only [↓EP, EQ, implies_true, forall_const, tys, zoks, zeros, Nat.reduceEqDiff, Nat.reduceAdd, Nat.reduceLT, Nat.reduceLeDiff, reduceIte, reduceCtorEq, e8b_ap, e9, e10_ap, e12_ap, e15_ap, all_exT, List.length_map, Int.toNat_natCast, toNat_pred, ↓dBuc_size, ↓dBuc_isAg, ↓dBuc_nav, ↓dBuc_vp, dBuc_fold, ↓dSt_size, ↓dSt_isAg, ↓dSt_nav, ↓dSt_vp, dSt_fold, ↓dRow_size, ↓dRow_isAg, ↓dRow_nav, ↓dRow_vp, dRow_fold, ↓dVer_size, ↓dVer_isAg, ↓dVer_nav, ↓dVer_vp, dVer_fold]
              try simp (disch := omega) only [wrap64, wrapU64]
              repeat (first | refine And.intro cl ?_ | intro e)
              refine hK1 _ ?_
              clear hK1 K1
            refine XE ?_
            refine hK _ _ (by simp only [St.keep, keepL, at_cons, at_nil, Nat.reduceEqDiff, reduceIte, eq_self]; rfl) ?_
            clear hK K
            refine Wps_cond rfl (fun hc5 => ?_) (fun hc5 => ?_)
            · have hr5 := hc5
              try simp only [decide_eq_true_eq, decide_eq_false_iff_not, Bool.not_eq_true', Bool.not_eq_false', Int.not_lt, Int.not_le, ge_iff_le, gt_iff_lt, Bool.or_eq_false_iff, Bool.or_eq_true, Bool.and_eq_true, Bool.and_eq_false_imp, beq_iff_eq, beq_eq_false_iff_ne, ne_eq, bne_iff_ne, bne_eq_false_iff_eq] at hc5
              refine Wps_regionX' (T := [(8, e8b), (9, e9), (10, e10), (12, e12), (15, e15)]) ⟨e8b_ok, e9_ok, e10_ok, e12_ok, e15_ok, trivial⟩ rfl fun K hK => ?_
              repeat
                (first | refine X0 rfl fun K1 hK1 => ?_ | refine X1 rfl rfl fun K1 hK1 => ?_)
                simp only [↓EP, EQ, implies_true, forall_const, tys, zoks, zeros, Nat.reduceEqDiff, Nat.reduceAdd, Nat.reduceLT, Nat.reduceLeDiff, reduceIte, reduceCtorEq, e8b_ap, e9, e10_ap, e12_ap, e15_ap, all_exT, List.length_map, Int.toNat_natCast, toNat_pred, ↓dBuc_size, ↓dBuc_isAg, ↓dBuc_nav, ↓dBuc_vp, dBuc_fold, ↓dSt_size, ↓dSt_isAg, ↓dSt_nav, ↓dSt_vp, dSt_fold, ↓dRow_size, ↓dRow_isAg, ↓dRow_nav, ↓dRow_vp, dRow_fold, ↓dVer_size, ↓dVer_isAg, ↓dVer_nav, ↓dVer_vp, dVer_fold, ffs_sz]
                try simp (disch := omega) only [wrap64, wrapU64]
                repeat (first | refine And.intro cl ?_ | intro e)
                refine hK1 _ ?_
                clear hK1 K1
              refine XE ?_
              refine hK _ ?_
              clear hK K
              simp only [Wps_nil, thenQ_normal, thenQ_exit, thenQ_ret, blkQ_normal, blkQ_ret, blkQ_if, blkQ_same, scQ_normal, scQ_ret, scQ_exit, Nat.reduceEqDiff, reduceIte, eq_self, reduceCtorEq, if_true, if_false]
              refine Wps_regionX' (T := [(8, e8b), (9, e9), (10, e10), (12, e12), (15, e15)]) ⟨e8b_ok, e9_ok, e10_ok, e12_ok, e15_ok, trivial⟩ rfl fun K hK => ?_
              repeat
                (first | refine X0 rfl fun K1 hK1 => ?_ | refine X1 rfl rfl fun K1 hK1 => ?_)
                simp only [↓EP, EQ, implies_true, forall_const, tys, zoks, zeros, Nat.reduceEqDiff, Nat.reduceAdd, Nat.reduceLT, Nat.reduceLeDiff, reduceIte, reduceCtorEq, e8b_ap, e9, e10_ap, e12_ap, e15_ap, all_exT, List.length_map, Int.toNat_natCast, toNat_pred, ↓dBuc_size, ↓dBuc_isAg, ↓dBuc_nav, ↓dBuc_vp, dBuc_fold, ↓dSt_size, ↓dSt_isAg, ↓dSt_nav, ↓dSt_vp, dSt_fold, ↓dRow_size, ↓dRow_isAg, ↓dRow_nav, ↓dRow_vp, dRow_fold, ↓dVer_size, ↓dVer_isAg, ↓dVer_nav, ↓dVer_vp, dVer_fold]
                try simp (disch := omega) only [wrap64, wrapU64]
                repeat (first | refine And.intro cl ?_ | intro e)
                refine hK1 _ ?_
                clear hK1 K1
              refine XE ?_
              refine hK _ ?_
              clear hK K
              simp only [Wps_nil, thenQ_normal, thenQ_exit, thenQ_ret, blkQ_normal, blkQ_ret, blkQ_if, blkQ_same, scQ_normal, scQ_ret, scQ_exit, Nat.reduceEqDiff, reduceIte, eq_self, reduceCtorEq, if_true, if_false]
              refine ⟨_, _, ?h1, ⟨i + 1, c + pl.length, (pl.getD (pl.length - 1) default).key ++ ffs, rfl, (by omega), (by omega), hpc, (by have h := hx.1; rw [aft, if_pos hr5] at h; exact h), ?h2⟩, Wk_cut (L' := [.box (.d (dSt s)), .box (.d (dBuc b)), .tok 55 44 (((full pre mark b).take c).length + pl.length)]) rfl [1, 2, 9, 11, 13, 14, 15, 16, 17] rfl (by simp [belS, keepL, at_cons, at_nil, AV.bel, AV.bels]) (by simp [BelL, Res.bel, AV.bel, AV.bels]) (by simp) rfl⟩
              case h2 =>
                simp only [St.keep, keepL, at_cons, at_nil, Nat.reduceEqDiff, reduceIte, eq_self, ← htk, List.map_append, List.length_append]
                first | rfl | (apply St_eq <;> first | rfl | (simp; done))
              case h1 => omega
            · have hr5 := hc5
              try simp only [decide_eq_true_eq, decide_eq_false_iff_not, Bool.not_eq_true', Bool.not_eq_false', Int.not_lt, Int.not_le, ge_iff_le, gt_iff_lt, Bool.or_eq_false_iff, Bool.or_eq_true, Bool.and_eq_true, Bool.and_eq_false_imp, beq_iff_eq, beq_eq_false_iff_ne, ne_eq, bne_iff_ne, bne_eq_false_iff_eq] at hc5
              refine Wps_skip ?_
              simp only [Wps_nil, thenQ_normal, thenQ_exit, thenQ_ret, blkQ_normal, blkQ_ret, blkQ_if, blkQ_same, scQ_normal, scQ_ret, scQ_exit, Nat.reduceEqDiff, reduceIte, eq_self, reduceCtorEq, if_true, if_false]
              refine Wps_regionX' (T := [(8, e8b), (9, e9), (10, e10), (12, e12), (15, e15)]) ⟨e8b_ok, e9_ok, e10_ok, e12_ok, e15_ok, trivial⟩ rfl fun K hK => ?_
              repeat
                (first | refine X0 rfl fun K1 hK1 => ?_ | refine X1 rfl rfl fun K1 hK1 => ?_)
                simp only [↓EP, EQ, implies_true, forall_const, tys, zoks, zeros, Nat.reduceEqDiff, Nat.reduceAdd, Nat.reduceLT, Nat.reduceLeDiff, reduceIte, reduceCtorEq, e8b_ap, e9, e10_ap, e12_ap, e15_ap, all_exT, List.length_map, Int.toNat_natCast, toNat_pred, ↓dBuc_size, ↓dBuc_isAg, ↓dBuc_nav, ↓dBuc_vp, dBuc_fold, ↓dSt_size, ↓dSt_isAg, ↓dSt_nav, ↓dSt_vp, dSt_fold, ↓dRow_size, ↓dRow_isAg, ↓dRow_nav, ↓dRow_vp, dRow_fold, ↓dVer_size, ↓dVer_isAg, ↓dVer_nav, ↓dVer_vp, dVer_fold]
                try simp (disch := omega) only [wrap64, wrapU64]
                repeat (first | refine And.intro cl ?_ | intro e)
                refine hK1 _ ?_
                clear hK1 K1
              refine XE ?_
              refine hK _ ?_
              clear hK K
              simp only [Wps_nil, thenQ_normal, thenQ_exit, thenQ_ret, blkQ_normal, blkQ_ret, blkQ_if, blkQ_same, scQ_normal, scQ_ret, scQ_exit, Nat.reduceEqDiff, reduceIte, eq_self, reduceCtorEq, if_true, if_false]
              refine ⟨_, _, ?h1, ⟨i + 1, c + pl.length, (pl.getD (pl.length - 1) default).key, rfl, (by omega), (by omega), hpc, (by have h := hx.1; rw [aft, if_neg (by rw [hr5]; simp)] at h; exact h), ?h2⟩, Wk_cut (L' := [.box (.d (dSt s)), .box (.d (dBuc b)), .tok 55 44 (((full pre mark b).take c).length + pl.length)]) rfl [1, 2, 9, 11, 13, 14, 15, 16, 17] rfl (by simp [belS, keepL, at_cons, at_nil, AV.bel, AV.bels]) (by simp [BelL, Res.bel, AV.bel, AV.bels]) (by simp) rfl⟩
              case h2 =>
                simp only [St.keep, keepL, at_cons, at_nil, Nat.reduceEqDiff, reduceIte, eq_self, ← htk, List.map_append, List.length_append]
                first | rfl | (apply St_eq <;> first | rfl | (simp; done))
              case h1 => omega
      · have hr2 := hc2
        try simp only [decide_eq_true_eq, decide_eq_false_iff_not, Bool.not_eq_true', Bool.not_eq_false', Int.not_lt, Int.not_le, ge_iff_le, gt_iff_lt, Bool.or_eq_false_iff, Bool.or_eq_true, Bool.and_eq_true, Bool.and_eq_false_imp, beq_iff_eq, beq_eq_false_iff_ne, ne_eq, bne_iff_ne, bne_eq_false_iff_eq] at hc2
        have hct : (full pre mark b).take c = (full pre mark b) := by rw [show c = (full pre mark b).length by omega, List.take_length]
        refine Wps_exit ?_
        simp only [Wps_nil, thenQ_normal, thenQ_exit, thenQ_ret, blkQ_normal, blkQ_ret, blkQ_if, blkQ_same, scQ_normal, scQ_ret, scQ_exit, Nat.reduceEqDiff, reduceIte, eq_self, reduceCtorEq, if_true, if_false]
        try simp only [Wps_nil, thenQ_normal, thenQ_exit, thenQ_ret, blkQ_normal, blkQ_ret, blkQ_if, blkQ_same, scQ_normal, scQ_ret, scQ_exit, Nat.reduceEqDiff, reduceIte, eq_self, reduceCtorEq, if_true, if_false]
        refine ⟨_, ⟨0, ?he, ?hf0⟩, Wk_keep [9, 11, 13, 14]⟩
        case he =>
          simp only [St.keep, keepL, at_cons, at_nil, Nat.reduceEqDiff, reduceIte, eq_self, ← List.map_append, ← List.length_append, hct]
          all_goals rfl
        case hf0 => rfl
    · obtain ⟨z, rfl, hj2_0⟩ := hJ
      refine Wps_seq ?_
      refine Wps_seq ?_
      refine Wps_reg (T := [(8, e8b), (9, e9), (10, e10), (12, e12), (15, e15)]) ⟨e8b_ok, e9_ok, e10_ok, e12_ok, e15_ok, trivial⟩ [9, 11, 14, 103] rfl (by simp) fun K hK => ?_
      repeat
        (first | refine X0 rfl fun K1 hK1 => ?_ | refine X1 rfl rfl fun K1 hK1 => ?_)
        simp only [↓EP, EQ, implies_true, forall_const, tys, zoks, zeros, Nat.reduceEqDiff, Nat.reduceAdd, Nat.reduceLT, Nat.reduceLeDiff, reduceIte, reduceCtorEq, e8b_ap, e9, e10_ap, e12_ap, e15_ap, all_exT, List.length_map, Int.toNat_natCast, toNat_pred, ↓dBuc_size, ↓dBuc_isAg, ↓dBuc_nav, ↓dBuc_vp, dBuc_fold, ↓dSt_size, ↓dSt_isAg, ↓dSt_nav, ↓dSt_vp, dSt_fold, ↓dRow_size, ↓dRow_isAg, ↓dRow_nav, ↓dRow_vp, dRow_fold, ↓dVer_size, ↓dVer_isAg, ↓dVer_nav, ↓dVer_vp, dVer_fold]
        try simp (disch := omega) only [wrap64, wrapU64]
        repeat (first | refine And.intro cl ?_ | intro e)
        refine hK1 _ ?_
        clear hK1 K1
      refine XE ?_
      refine hK _ _ (by simp only [St.keep, keepL, at_cons, at_nil, Nat.reduceEqDiff, reduceIte, eq_self]; rfl) ?_
      clear hK K
      refine Wps_cond rfl (fun hc6 => ?_) (fun hc6 => ?_)
      · have hr6 := hc6
        try simp only [decide_eq_true_eq, decide_eq_false_iff_not, Bool.not_eq_true', Bool.not_eq_false', Int.not_lt, Int.not_le, ge_iff_le, gt_iff_lt, Bool.or_eq_false_iff, Bool.or_eq_true, Bool.and_eq_true, Bool.and_eq_false_imp, beq_iff_eq, beq_eq_false_iff_ne, ne_eq, bne_iff_ne, bne_eq_false_iff_eq] at hc6
        refine Wps_seq ?_
        refine Wps_reg (T := [(8, e8b), (9, e9), (10, e10), (12, e12), (15, e15)]) ⟨e8b_ok, e9_ok, e10_ok, e12_ok, e15_ok, trivial⟩ [8] rfl (by simp) fun K hK => ?_
        repeat
          (first | refine X0 rfl fun K1 hK1 => ?_ | refine X1 rfl rfl fun K1 hK1 => ?_)
          simp only [↓EP, EQ, implies_true, forall_const, tys, zoks, zeros, Nat.reduceEqDiff, Nat.reduceAdd, Nat.reduceLT, Nat.reduceLeDiff, reduceIte, reduceCtorEq, e8b_ap, e9, e10_ap, e12_ap, e15_ap, all_exT, List.length_map, Int.toNat_natCast, toNat_pred, ↓dBuc_size, ↓dBuc_isAg, ↓dBuc_nav, ↓dBuc_vp, dBuc_fold, ↓dSt_size, ↓dSt_isAg, ↓dSt_nav, ↓dSt_vp, dSt_fold, ↓dRow_size, ↓dRow_isAg, ↓dRow_nav, ↓dRow_vp, dRow_fold, ↓dVer_size, ↓dVer_isAg, ↓dVer_nav, ↓dVer_vp, dVer_fold]
          try simp (disch := omega) only [wrap64, wrapU64]
          repeat (first | refine And.intro cl ?_ | intro e)
          refine hK1 _ ?_
          clear hK1 K1
        refine XE ?_
        refine hK _ _ (by simp only [St.keep, keepL, at_cons, at_nil, Nat.reduceEqDiff, reduceIte, eq_self]; rfl) ?_
        clear hK K
        refine Wps_ret ?_
        try simp only [Wps_nil, thenQ_normal, thenQ_exit, thenQ_ret, blkQ_normal, blkQ_ret, blkQ_if, blkQ_same, scQ_normal, scQ_ret, scQ_exit, Nat.reduceEqDiff, reduceIte, eq_self, reduceCtorEq, if_true, if_false]
        first | refine ret_pureQ rfl ?_ | refine ret_pureN rfl ?_
        simp only [retP, at_cons, at_nil, Nat.reduceEqDiff, reduceIte, eq_self, AV.use, retV, AV.bel, AV.bels, true_and, and_true]
        exfalso
        omega
      · have hr6 := hc6
        try simp only [decide_eq_true_eq, decide_eq_false_iff_not, Bool.not_eq_true', Bool.not_eq_false', Int.not_lt, Int.not_le, ge_iff_le, gt_iff_lt, Bool.or_eq_false_iff, Bool.or_eq_true, Bool.and_eq_true, Bool.and_eq_false_imp, beq_iff_eq, beq_eq_false_iff_ne, ne_eq, bne_iff_ne, bne_eq_false_iff_eq] at hc6
        refine Wps_skip ?_
        refine Wps_seq ?_
        refine Wps_seq ?_
        refine Wps_reg (T := [(8, e8b), (9, e9), (10, e10), (12, e12), (15, e15)]) ⟨e8b_ok, e9_ok, e10_ok, e12_ok, e15_ok, trivial⟩ [9, 11, 14, 22] rfl (by simp) fun K hK => ?_
        repeat
          (first | refine X0 rfl fun K1 hK1 => ?_ | refine X1 rfl rfl fun K1 hK1 => ?_)
          simp only [↓EP, EQ, implies_true, forall_const, tys, zoks, zeros, Nat.reduceEqDiff, Nat.reduceAdd, Nat.reduceLT, Nat.reduceLeDiff, reduceIte, reduceCtorEq, e8b_ap, e9, e10_ap, e12_ap, e15_ap, all_exT, List.length_map, Int.toNat_natCast, toNat_pred, ↓dBuc_size, ↓dBuc_isAg, ↓dBuc_nav, ↓dBuc_vp, dBuc_fold, ↓dSt_size, ↓dSt_isAg, ↓dSt_nav, ↓dSt_vp, dSt_fold, ↓dRow_size, ↓dRow_isAg, ↓dRow_nav, ↓dRow_vp, dRow_fold, ↓dVer_size, ↓dVer_isAg, ↓dVer_nav, ↓dVer_vp, dVer_fold]
          try simp (disch := omega) only [wrap64, wrapU64]
          repeat (first | refine And.intro cl ?_ | intro e)
          refine hK1 _ ?_
          clear hK1 K1
        refine XE ?_
        refine hK _ _ (by simp only [St.keep, keepL, at_cons, at_nil, Nat.reduceEqDiff, reduceIte, eq_self]; rfl) ?_
        clear hK K
        refine Wps_block ?_
        -- live at the head: [9, 11, 14, 22]
        refine Wps_loop (fun n_ st_ => ∃ (j : Nat), n_ = (full pre mark b).length - j ∧ (j ≤ (full pre mark b).length) ∧ st_ = ⟨[(9, .ptr 1 0 []), (11, .d (dRows (full pre mark b))), (14, .own 2 44 ((full pre mark b).map dRow)), (22, I j)], [.box (.d (dSt s)), .box (.d (dBuc b)), .tok 55 44 (full pre mark b).length]⟩) _ ⟨0, rfl, (by simp), rfl⟩ (Wk.refl _) fun n_ st_ hI => ?_
        obtain ⟨j, rfl, hj0, rfl⟩ := hI
        refine Wps_seq ?_
        refine Wps_seq ?_
        refine Wps_reg (T := [(8, e8b), (9, e9), (10, e10), (12, e12), (15, e15)]) ⟨e8b_ok, e9_ok, e10_ok, e12_ok, e15_ok, trivial⟩ [9, 11, 14, 22, 107] rfl (by simp) fun K hK => ?_
        repeat
          (first | refine X0 rfl fun K1 hK1 => ?_ | refine X1 rfl rfl fun K1 hK1 => ?_)
          simp only [↓EP, EQ, implies_true, forall_const, tys, zoks, zeros, Nat.reduceEqDiff, Nat.reduceAdd, Nat.reduceLT, Nat.reduceLeDiff, reduceIte, reduceCtorEq, e8b_ap, e9, e10_ap, e12_ap, e15_ap, all_exT, List.length_map, Int.toNat_natCast, toNat_pred, ↓dBuc_size, ↓dBuc_isAg, ↓dBuc_nav, ↓dBuc_vp, dBuc_fold, ↓dSt_size, ↓dSt_isAg, ↓dSt_nav, ↓dSt_vp, dSt_fold, ↓dRow_size, ↓dRow_isAg, ↓dRow_nav, ↓dRow_vp, dRow_fold, ↓dVer_size, ↓dVer_isAg, ↓dVer_nav, ↓dVer_vp, dVer_fold]
          try simp (disch := omega) only [wrap64, wrapU64]
          repeat (first | refine And.intro cl ?_ | intro e)
          refine hK1 _ ?_
          clear hK1 K1
        refine XE ?_
        refine hK _ _ (by simp only [St.keep, keepL, at_cons, at_nil, Nat.reduceEqDiff, reduceIte, eq_self]; rfl) ?_
        clear hK K
        refine Wps_cond rfl (fun hc7 => ?_) (fun hc7 => ?_)
        · have hr7 := hc7
          try simp only [decide_eq_true_eq, decide_eq_false_iff_not, Bool.not_eq_true', Bool.not_eq_false', Int.not_lt, Int.not_le, ge_iff_le, gt_iff_lt, Bool.or_eq_false_iff, Bool.or_eq_true, Bool.and_eq_true, Bool.and_eq_false_imp, beq_iff_eq, beq_eq_false_iff_ne, ne_eq, bne_iff_ne, bne_eq_false_iff_eq] at hc7
          refine Wps_skip ?_
          refine Wps_seq ?_
          refine Wps_block ?_
          refine Wps_seq ?_
          have hj : j < (full pre mark b).length := by omega
          have hjs : ((full pre mark b).getD j default).key.size ≤ 1048576 := by rw [List.getD_eq_getElem?_getD, List.getElem?_eq_getElem hj]; exact hsz _ (List.getElem_mem hj)
          refine Wps_drw (T := [(8, e8b), (9, e9), (10, e10), (12, e12), (15, e15)]) ⟨e8b_ok, e9_ok, e10_ok, e12_ok, e15_ok, trivial⟩ (by kernel_rfl) [(0, true), (1, true), (2, true), (3, true), (4, true), (5, true), (6, true), (7, true), (8, true), (9, true), (10, true), (11, true), (12, false), (13, true)] (by kernel_rfl) [9, 11, 14, 22, 123] rfl (by simp) fun K hK => ?_
          repeat
            (first | refine R0 rfl rfl fun K1 hK1 => ?_ | refine R1 rfl rfl rfl fun K1 hK1 => ?_ | refine Q0 rfl rfl fun K1 hK1 => ?_ | refine Q1 rfl rfl rfl fun K1 hK1 => ?_)
            simp only [↓EP, EQ, implies_true, forall_const, tys, zoks, zeros, Nat.reduceEqDiff, Nat.reduceAdd, Nat.reduceLT, Nat.reduceLeDiff, reduceIte, reduceCtorEq, e8b_ap, e9, e10_ap, e12_ap, e15_ap, all_exT, List.length_map, Int.toNat_natCast, toNat_pred, ↓dBuc_size, ↓dBuc_isAg, ↓dBuc_nav, ↓dBuc_vp, dBuc_fold, ↓dSt_size, ↓dSt_isAg, ↓dSt_nav, ↓dSt_vp, dSt_fold, ↓dRow_size, ↓dRow_isAg, ↓dRow_nav, ↓dRow_vp, dRow_fold, ↓dVer_size, ↓dVer_isAg, ↓dVer_nav, ↓dVer_vp, dVer_fold, getD_map_lt hj]
            try simp (disch := omega) only [wrap64, wrapU64]
            try (refine And.intro (fun _ => ⟨hb0, hjs⟩) ?_)
            repeat (first | refine And.intro cl ?_ | intro e)
            refine hK1 _ ?_
            clear hK1 K1
          refine OE ?_
          refine hK _ _ (by simp only [St.keep, keepL, at_cons, at_nil, Nat.reduceEqDiff, reduceIte, eq_self]; rfl) ?_
          clear hK K
          refine Wps_cond rfl (fun hc8 => ?_) (fun hc8 => ?_)
          · have hr8 := hc8
            try simp only [decide_eq_true_eq, decide_eq_false_iff_not, Bool.not_eq_true', Bool.not_eq_false', Int.not_lt, Int.not_le, ge_iff_le, gt_iff_lt, Bool.or_eq_false_iff, Bool.or_eq_true, Bool.and_eq_true, Bool.and_eq_false_imp, beq_iff_eq, beq_eq_false_iff_ne, ne_eq, bne_iff_ne, bne_eq_false_iff_eq] at hc8
            refine Wps_seq ?_
            refine Wps_reg (T := [(8, e8b), (9, e9), (10, e10), (12, e12), (15, e15)]) ⟨e8b_ok, e9_ok, e10_ok, e12_ok, e15_ok, trivial⟩ [8] rfl (by simp) fun K hK => ?_
            repeat
              (first | refine X0 rfl fun K1 hK1 => ?_ | refine X1 rfl rfl fun K1 hK1 => ?_)
              simp only [↓EP, EQ, implies_true, forall_const, tys, zoks, zeros, Nat.reduceEqDiff, Nat.reduceAdd, Nat.reduceLT, Nat.reduceLeDiff, reduceIte, reduceCtorEq, e8b_ap, e9, e10_ap, e12_ap, e15_ap, all_exT, List.length_map, Int.toNat_natCast, toNat_pred, ↓dBuc_size, ↓dBuc_isAg, ↓dBuc_nav, ↓dBuc_vp, dBuc_fold, ↓dSt_size, ↓dSt_isAg, ↓dSt_nav, ↓dSt_vp, dSt_fold, ↓dRow_size, ↓dRow_isAg, ↓dRow_nav, ↓dRow_vp, dRow_fold, ↓dVer_size, ↓dVer_isAg, ↓dVer_nav, ↓dVer_vp, dVer_fold]
              try simp (disch := omega) only [wrap64, wrapU64]
              repeat (first | refine And.intro cl ?_ | intro e)
              refine hK1 _ ?_
              clear hK1 K1
            refine XE ?_
            refine hK _ _ (by simp only [St.keep, keepL, at_cons, at_nil, Nat.reduceEqDiff, reduceIte, eq_self]; rfl) ?_
            clear hK K
            refine Wps_ret ?_
            try simp only [Wps_nil, thenQ_normal, thenQ_exit, thenQ_ret, blkQ_normal, blkQ_ret, blkQ_if, blkQ_same, scQ_normal, scQ_ret, scQ_exit, Nat.reduceEqDiff, reduceIte, eq_self, reduceCtorEq, if_true, if_false]
            first | refine ret_pureQ rfl ?_ | refine ret_pureN rfl ?_
            simp only [retP, at_cons, at_nil, Nat.reduceEqDiff, reduceIte, eq_self, AV.use, retV, AV.bel, AV.bels, true_and, and_true]
            all_goals rfl
          · have hr8 := hc8
            try simp only [decide_eq_true_eq, decide_eq_false_iff_not, Bool.not_eq_true', Bool.not_eq_false', Int.not_lt, Int.not_le, ge_iff_le, gt_iff_lt, Bool.or_eq_false_iff, Bool.or_eq_true, Bool.and_eq_true, Bool.and_eq_false_imp, beq_iff_eq, beq_eq_false_iff_ne, ne_eq, bne_iff_ne, bne_eq_false_iff_eq] at hc8
            refine Wps_skip ?_
            simp only [Wps_nil, thenQ_normal, thenQ_exit, thenQ_ret, blkQ_normal, blkQ_ret, blkQ_if, blkQ_same, scQ_normal, scQ_ret, scQ_exit, Nat.reduceEqDiff, reduceIte, eq_self, reduceCtorEq, if_true, if_false]
            refine Wps_regionX' (T := [(8, e8b), (9, e9), (10, e10), (12, e12), (15, e15)]) ⟨e8b_ok, e9_ok, e10_ok, e12_ok, e15_ok, trivial⟩ rfl fun K hK => ?_
            repeat
              (first | refine X0 rfl fun K1 hK1 => ?_ | refine X1 rfl rfl fun K1 hK1 => ?_)
              simp only [↓EP, EQ, implies_true, forall_const, tys, zoks, zeros, Nat.reduceEqDiff, Nat.reduceAdd, Nat.reduceLT, Nat.reduceLeDiff, reduceIte, reduceCtorEq, e8b_ap, e9, e10_ap, e12_ap, e15_ap, all_exT, List.length_map, Int.toNat_natCast, toNat_pred, ↓dBuc_size, ↓dBuc_isAg, ↓dBuc_nav, ↓dBuc_vp, dBuc_fold, ↓dSt_size, ↓dSt_isAg, ↓dSt_nav, ↓dSt_vp, dSt_fold, ↓dRow_size, ↓dRow_isAg, ↓dRow_nav, ↓dRow_vp, dRow_fold, ↓dVer_size, ↓dVer_isAg, ↓dVer_nav, ↓dVer_vp, dVer_fold]
              try simp (disch := omega) only [wrap64, wrapU64]
              repeat (first | refine And.intro cl ?_ | intro e)
              refine hK1 _ ?_
              clear hK1 K1
            refine XE ?_
            refine hK _ ?_
            clear hK K
            simp only [Wps_nil, thenQ_normal, thenQ_exit, thenQ_ret, blkQ_normal, blkQ_ret, blkQ_if, blkQ_same, scQ_normal, scQ_ret, scQ_exit, Nat.reduceEqDiff, reduceIte, eq_self, reduceCtorEq, if_true, if_false]
            refine ⟨_, _, ?h1, ⟨j + 1, rfl, (by omega), ?h2⟩, Wk_keep [9, 11, 14, 22]⟩
            case h2 =>
              simp only [St.keep, keepL, at_cons, at_nil, Nat.reduceEqDiff, reduceIte, eq_self]
              first | rfl | (apply St_eq <;> first | rfl | (simp; done)) | (rw [wrapS (i := j) (by omega)]; first | rfl | (apply St_eq <;> first | rfl | (simp; done)))
            case h1 => omega
        · have hr7 := hc7
          try simp only [decide_eq_true_eq, decide_eq_false_iff_not, Bool.not_eq_true', Bool.not_eq_false', Int.not_lt, Int.not_le, ge_iff_le, gt_iff_lt, Bool.or_eq_false_iff, Bool.or_eq_true, Bool.and_eq_true, Bool.and_eq_false_imp, beq_iff_eq, beq_eq_false_iff_ne, ne_eq, bne_iff_ne, bne_eq_false_iff_eq] at hc7
          refine Wps_exit ?_
          simp only [Wps_nil, thenQ_normal, thenQ_exit, thenQ_ret, blkQ_normal, blkQ_ret, blkQ_if, blkQ_same, scQ_normal, scQ_ret, scQ_exit, Nat.reduceEqDiff, reduceIte, eq_self, reduceCtorEq, if_true, if_false]
          refine Wps_seq ?_
          refine Wps_reg (T := [(8, e8b), (9, e9), (10, e10), (12, e12), (15, e15)]) ⟨e8b_ok, e9_ok, e10_ok, e12_ok, e15_ok, trivial⟩ [8] rfl (by simp) fun K hK => ?_
          repeat
            (first | refine X0 rfl fun K1 hK1 => ?_ | refine X1 rfl rfl fun K1 hK1 => ?_)
            simp only [↓EP, EQ, implies_true, forall_const, tys, zoks, zeros, Nat.reduceEqDiff, Nat.reduceAdd, Nat.reduceLT, Nat.reduceLeDiff, reduceIte, reduceCtorEq, e8b_ap, e9, e10_ap, e12_ap, e15_ap, all_exT, List.length_map, Int.toNat_natCast, toNat_pred, ↓dBuc_size, ↓dBuc_isAg, ↓dBuc_nav, ↓dBuc_vp, dBuc_fold, ↓dSt_size, ↓dSt_isAg, ↓dSt_nav, ↓dSt_vp, dSt_fold, ↓dRow_size, ↓dRow_isAg, ↓dRow_nav, ↓dRow_vp, dRow_fold, ↓dVer_size, ↓dVer_isAg, ↓dVer_nav, ↓dVer_vp, dVer_fold]
            try simp (disch := omega) only [wrap64, wrapU64]
            try (refine And.intro ⟨hrow, hrow⟩ ?_)
            repeat (first | refine And.intro cl ?_ | intro e)
            refine hK1 _ ?_
            clear hK1 K1
          refine XE ?_
          refine hK _ _ (by simp only [St.keep, keepL, at_cons, at_nil, Nat.reduceEqDiff, reduceIte, eq_self]; rfl) ?_
          clear hK K
          refine Wps_ret ?_
          try simp only [Wps_nil, thenQ_normal, thenQ_exit, thenQ_ret, blkQ_normal, blkQ_ret, blkQ_if, blkQ_same, scQ_normal, scQ_ret, scQ_exit, Nat.reduceEqDiff, reduceIte, eq_self, reduceCtorEq, if_true, if_false]
          first | refine ret_pureQ rfl ?_ | refine ret_pureN rfl ?_
          simp only [retP, at_cons, at_nil, Nat.reduceEqDiff, reduceIte, eq_self, AV.use, retV, AV.bel, AV.bels, true_and, and_true]
          all_goals rfl

end Go.Proofs.Ytolplbfonlhbhaa
