/- Contracts, nineteenth part: the simplest facts. -/
import Derived.Test.YtolplbfonlhbhaaC18
set_option maxRecDepth 20000
set_option maxHeartbeats 4000000
set_option linter.unusedVariables false
set_option linter.unusedSectionVars false
set_option linter.unusedSimpArgs false
namespace Go.Proofs.Ytolplbfonlhbhaa
open Go Go.Eng
variable [Globs]

variable [G23]
/-- what a box holds, that may be read as data -/
theorem Wk_rebox' {c : Ctx} {s : St} {j : Nat} {x : AV} {d y : D} (hj : s.L[j]? = some (.box x)) (hx : x.asD = some d) (h : DImp d y) : Wk c s ⟨s.sl, s.L.set j (.box (.d y))⟩ := by
  rintro a w ⟨Z, γ, hR⟩
  obtain ⟨he, ha⟩ := hR.env.rebox (x' := .d y) hj (fun cs h' => by simp only [RepA]; exact h _ _ _ (asD_rep _ _ _ hx h'))
  exact ⟨Z, γ, hR.go he ha⟩
def awV (n : Int) : VerL := ⟨n, false, 0, 1, List.replicate 32 0, 0, ⟨0, 0, false⟩, []⟩
def awB : BucL := ⟨⟨#[97, 98, 99]⟩, 0, 0, [], [], [⟨⟨#[97, 47, 49]⟩, [awV 1, awV 4]⟩, ⟨⟨#[97, 47, 50]⟩, [awV 2]⟩, ⟨⟨#[98]⟩, [awV 3]⟩], []⟩
def awF : SpotL := ⟨nil0, nil0, 0⟩
def dvz (n : Int) : D := .ag [.raw (.int .u64 n), .raw (.bool false), .raw (.int .i64 0), .raw (.int .u64 1), .arr 32 1 (List.replicate 32 (.raw (.int .u8 0))), .raw (.int .i64 0), .ag [.raw (.int .i64 0), .raw (.int .i64 0), .raw (.bool false)], .raw (.slice none 0 0)]
theorem dimp_v (n : Int) : DImp (dvz n) (dVer (awV n)) :=
  DImp_ag ⟨DImp.refl _, DImp.refl _, DImp.refl _, DImp.refl _, DImp.refl _, DImp.refl _, DImp.refl _, DImp_nil 2, trivial⟩
theorem dimp_aw : DImp (.ag [.raw (.string ⟨#[97, 98, 99]⟩), .ag [.raw (.int .i64 0), .raw (.int .i64 0)], .raw (.slice none 0 0), .raw (.slice none 0 0),
    .sl 2 [.ag [.raw (.string ⟨#[97, 47, 49]⟩), .sl 41 [dvz 1, dvz 4]], .ag [.raw (.string ⟨#[97, 47, 50]⟩), .sl 41 [dvz 2]], .ag [.raw (.string ⟨#[98]⟩), .sl 41 [dvz 3]]], .raw (.slice none 0 0)]) (dBuc awB) :=
  DImp_ag ⟨DImp.refl _, DImp.refl _, DImp_nil 5, DImp_nil 4, DImp_sl ⟨DImp_ag ⟨DImp.refl _, DImp_sl ⟨dimp_v 1, dimp_v 4, trivial⟩, trivial⟩, DImp_ag ⟨DImp.refl _, DImp_sl ⟨dimp_v 2, trivial⟩, trivial⟩, DImp_ag ⟨DImp.refl _, DImp_sl ⟨dimp_v 3, trivial⟩, trivial⟩, trivial⟩, DImp_nil 4, trivial⟩
theorem okL_nil {α : Type} (p : α → Prop) : okL p [] := ⟨by simp, by simp⟩
theorem awF_fold : AV.d (.ag [.raw (.string ⟨#[]⟩), .raw (.string ⟨#[]⟩), .raw (.int .u64 0)]) = .d (dSpot awF) := rfl
theorem toNat1 : (1 : Int).toNat = 1 := rfl
theorem rep2 (x : D) : List.replicate 2 x = [x, x] := rfl
theorem rep3 (x : D) : List.replicate 3 x = [x, x, x] := rfl
theorem aw_ok : okBuc awB := by
  have hv : ∀ n, okVer (awV n) := fun n => ⟨rfl, okL_nil _⟩
  refine ⟨by decide, okL_nil _, okL_nil _, ⟨by decide, ?_⟩, okL_nil _⟩
  intro o ho
  simp only [awB, List.mem_cons, List.not_mem_nil, or_false] at ho
  rcases ho with rfl | rfl | rfl
  · exact ⟨by decide, by decide, by simp only [List.mem_cons, List.not_mem_nil, or_false]; rintro x (rfl | rfl) <;> exact hv _⟩
  · exact ⟨by decide, by decide, by simp only [List.mem_cons, List.not_mem_nil, or_false]; rintro x rfl; exact hv _⟩
  · exact ⟨by decide, by decide, by simp only [List.mem_cons, List.not_mem_nil, or_false]; rintro x rfl; exact hv _⟩
theorem hasPre_bl (a b : ByteArray) : hasPre a b = (bl b).isPrefixOf (bl a) := by rw [Bool.eq_iff_iff, hasPre_iff, List.isPrefixOf_iff_prefix]
theorem strEq_bl (a b : ByteArray) : strEq a b = (bl a == bl b) := by rw [strEq, ByteArray.toList_eq, ByteArray.toList_eq]
theorem grp_yes (x : UInt8) : progGroup ⟨#[97, 47, x]⟩ nil0 ⟨#[47]⟩ = (⟨#[97, 47]⟩, true) := by
  have hg : IsGrp [97, 47, x] [] [47] [97, 47] := by
    refine ⟨by simp, List.nil_prefix, 1, by simp, by simp, by simp, ?_⟩
    intro j _ h
    obtain rfl : j = 0 := by omega
    simp
  rcases progGroup_spec ⟨#[97, 47, x]⟩ nil0 ⟨#[47]⟩ with ⟨h1, h2⟩ | ⟨h1, h2⟩
  · exact Prod.ext (bl_inj (h2.uniq hg)) h1
  · exact (h2 _ hg).elim
theorem grp_no : progGroup ⟨#[98]⟩ nil0 ⟨#[47]⟩ = (nil0, false) := by
  rcases progGroup_spec ⟨#[98]⟩ nil0 ⟨#[47]⟩ with ⟨h1, h2⟩ | ⟨h1, h2⟩
  · obtain ⟨_, _, i, _, _, h3, _⟩ := h2
    have h3' : ([47] : List UInt8) <+: ([98] : List UInt8).drop i := by simpa [bl] using h3
    rcases i with _ | i
    · simp at h3'
    · simp at h3'
  · exact h1
theorem aw_keys : keysR awB nil0 ⟨#[47]⟩ nil0 5 = .tup [.d (dRows [grpRow ⟨#[97, 47]⟩, ⟨⟨#[98]⟩, false, awV 3, true⟩]), B false, I 0] := by
  have e1 : strEq (⟨#[97, 47]⟩ : ByteArray) nil0 = false := by rw [strEq_bl]; rfl
  have e2 : strEq (⟨#[97, 47]⟩ : ByteArray) ⟨#[97, 47]⟩ = true := by rw [strEq_bl]; rfl
  rw [keysR, if_neg (by omega)]
  simp only [awB, pkeys, hasPre_bl, strLt_eq, grp_yes, grp_no]
  simp [lt, Op.bytesLess, bl, lastV, awV, keyRow, strEq_bl]
theorem versIn_one (skip : VerL → Bool → Bool) (key : ByteArray) (vs : List VerL) (most : Int) (rows : List RowL) : versIn skip key vs most 1 rows = if skip (vs.getD 0 default) (((0 : Nat) : Int) == (vs.length : Int) - 1) = true then (rows, false) else if (rows.length : Int) = most then (rows, true) else (rows ++ [⟨key, false, vs.getD 0 default, (((0 : Nat) : Int) == (vs.length : Int) - 1)⟩], false) := rfl
theorem versIn_two (skip : VerL → Bool → Bool) (key : ByteArray) (vs : List VerL) (most : Int) (rows : List RowL) : versIn skip key vs most 2 rows = if skip (vs.getD 1 default) (((1 : Nat) : Int) == (vs.length : Int) - 1) = true then versIn skip key vs most 1 rows else if (rows.length : Int) = most then (rows, true) else versIn skip key vs most 1 (rows ++ [⟨key, false, vs.getD 1 default, (((1 : Nat) : Int) == (vs.length : Int) - 1)⟩]) := rfl
theorem aw_vers : rowsR (versB (skO ⟨#[97]⟩ awF) (skV awF) 2 awB.objs []) 2 = .tup [.d (dRows [⟨⟨#[97, 47, 49]⟩, false, awV 4, true⟩, ⟨⟨#[97, 47, 49]⟩, false, awV 1, false⟩]), B true, I 0] := by
  rw [rowsR, if_neg (by omega)]
  simp only [awB, versB, List.length_cons, List.length_nil, Nat.zero_add, Nat.reduceAdd, versIn_two, versIn_one, skO, skV, awF, hasPre_bl, strLt_eq, strEq_bl]
  simp [lt, Op.bytesLess, bl, awV]

-- chartularylaw23.awake
theorem f9_ok  : PureOk Try.prog 9 [] fun r => r = B true := by
  refine PureOk_of (fn := Try.f9) (rs := [.tmp 0]) (n := 83) (hf := Try.func9) (hn := by kernel_rfl) (hb := rfl) (hr := rfl) (hN := rfl) (hargs := by simp) (ha := by simp [AV.bels, AV.bel]) (hrb := by rintro _ rfl; simp [AV.bel, AV.bels]) (h := fun Z0 w0 => ?_)
  simp only [enumA, Nat.zero_add]
  refine Wps_seq ?_
  refine Wps_reg (T := [(10, e10), (13, e13)]) ⟨e10_ok, e13_ok, trivial⟩ [] rfl (by simp) fun K hK => ?_
  repeat
    (first | refine X0 rfl fun K1 hK1 => ?_ | refine X1 rfl rfl fun K1 hK1 => ?_)
    simp only [↓EP, EQ, implies_true, forall_const, tys, zoks, zeros, Nat.reduceEqDiff, Nat.reduceAdd, Nat.reduceLT, Nat.reduceLeDiff, reduceIte, reduceCtorEq, e10_ap, e13_ap, toNat1, awF_fold, aw_keys, aw_vers, List.length_map, List.length_cons, List.length_nil, ↓dBuc_size, ↓dBuc_isAg, ↓dBuc_nav, ↓dBuc_vp, dBuc_fold, ↓dRow_size, ↓dRow_isAg, ↓dRow_nav, ↓dRow_vp, dRow_fold, ↓dVer_size, ↓dVer_isAg, ↓dVer_nav, ↓dVer_vp, dVer_fold, ↓dSpot_size, ↓dSpot_isAg, ↓dSpot_nav, ↓dSpot_vp, dSpot_fold]
    try simp (disch := omega) only [wrap64, wrapU64]
    repeat (first | refine And.intro cl ?_ | intro e)
    refine hK1 _ ?_
    clear hK1 K1
  refine XE ?_
  refine hK _ _ (by simp only [St.keep, keepL, at_cons, at_nil, Nat.reduceEqDiff, reduceIte, eq_self]; rfl) ?_
  clear hK K
  refine Wps_seq ?_
  refine Wps_reg (T := [(10, e10), (13, e13)]) ⟨e10_ok, e13_ok, trivial⟩ [1] rfl (by simp) fun K hK => ?_
  repeat
    (first | refine X0 rfl fun K1 hK1 => ?_ | refine X1 rfl rfl fun K1 hK1 => ?_)
    simp only [↓EP, EQ, implies_true, forall_const, tys, zoks, zeros, Nat.reduceEqDiff, Nat.reduceAdd, Nat.reduceLT, Nat.reduceLeDiff, reduceIte, reduceCtorEq, e10_ap, e13_ap, toNat1, awF_fold, aw_keys, aw_vers, List.length_map, List.length_cons, List.length_nil, ↓dBuc_size, ↓dBuc_isAg, ↓dBuc_nav, ↓dBuc_vp, dBuc_fold, ↓dRow_size, ↓dRow_isAg, ↓dRow_nav, ↓dRow_vp, dRow_fold, ↓dVer_size, ↓dVer_isAg, ↓dVer_nav, ↓dVer_vp, dVer_fold, ↓dSpot_size, ↓dSpot_isAg, ↓dSpot_nav, ↓dSpot_vp, dSpot_fold, rep2, rep3]
    try simp (disch := omega) only [wrap64, wrapU64]
    repeat (first | refine And.intro cl ?_ | intro e)
    refine hK1 _ ?_
    clear hK1 K1
  refine XE ?_
  refine hK _ _ (by simp only [St.keep, keepL, at_cons, at_nil, Nat.reduceEqDiff, reduceIte, eq_self]; rfl) ?_
  clear hK K
  refine Wps_weak (Wk_rebox' (j := 4) rfl rfl (y := dBuc awB) dimp_aw) ?_ (by simp)
  simp only [List.set_cons_succ, List.set_cons_zero]
  refine Wps_seq ?_
  refine Wps_reg (T := [(10, e10), (13, e13)]) ⟨e10_ok, e13_ok, trivial⟩ [1, 2, 3, 4] rfl (by simp) fun K hK => ?_
  repeat
    (first | refine X0 rfl fun K1 hK1 => ?_ | refine X1 rfl rfl fun K1 hK1 => ?_)
    simp only [↓EP, EQ, implies_true, forall_const, tys, zoks, zeros, Nat.reduceEqDiff, Nat.reduceAdd, Nat.reduceLT, Nat.reduceLeDiff, reduceIte, reduceCtorEq, e10_ap, e13_ap, toNat1, awF_fold, aw_keys, aw_vers, List.length_map, List.length_cons, List.length_nil, ↓dBuc_size, ↓dBuc_isAg, ↓dBuc_nav, ↓dBuc_vp, dBuc_fold, ↓dRow_size, ↓dRow_isAg, ↓dRow_nav, ↓dRow_vp, dRow_fold, ↓dVer_size, ↓dVer_isAg, ↓dVer_nav, ↓dVer_vp, dVer_fold, ↓dSpot_size, ↓dSpot_isAg, ↓dSpot_nav, ↓dSpot_vp, dSpot_fold]
    try simp (disch := omega) only [wrap64, wrapU64]
    try (refine And.intro ⟨aw_ok, by decide, by decide⟩ ?_)
    repeat (first | refine And.intro cl ?_ | intro e)
    refine hK1 _ ?_
    clear hK1 K1
  refine XE ?_
  refine hK _ _ (by simp only [St.keep, keepL, at_cons, at_nil, Nat.reduceEqDiff, reduceIte, eq_self]; rfl) ?_
  clear hK K
  refine Wps_seq ?_
  refine Wps_reg (T := [(10, e10), (13, e13)]) ⟨e10_ok, e13_ok, trivial⟩ [2, 3, 4, 5, 6, 7] rfl (by simp) fun K hK => ?_
  repeat
    (first | refine X0 rfl fun K1 hK1 => ?_ | refine X1 rfl rfl fun K1 hK1 => ?_)
    simp only [↓EP, EQ, implies_true, forall_const, tys, zoks, zeros, Nat.reduceEqDiff, Nat.reduceAdd, Nat.reduceLT, Nat.reduceLeDiff, reduceIte, reduceCtorEq, e10_ap, e13_ap, toNat1, awF_fold, aw_keys, aw_vers, List.length_map, List.length_cons, List.length_nil, ↓dBuc_size, ↓dBuc_isAg, ↓dBuc_nav, ↓dBuc_vp, dBuc_fold, ↓dRow_size, ↓dRow_isAg, ↓dRow_nav, ↓dRow_vp, dRow_fold, ↓dVer_size, ↓dVer_isAg, ↓dVer_nav, ↓dVer_vp, dVer_fold, ↓dSpot_size, ↓dSpot_isAg, ↓dSpot_nav, ↓dSpot_vp, dSpot_fold]
    try simp (disch := omega) only [wrap64, wrapU64]
    try (refine And.intro aw_ok ?_)
    repeat (first | refine And.intro cl ?_ | intro e)
    refine hK1 _ ?_
    clear hK1 K1
  refine XE ?_
  refine hK _ _ (by simp only [St.keep, keepL, at_cons, at_nil, Nat.reduceEqDiff, reduceIte, eq_self]; rfl) ?_
  clear hK K
  refine Wps_seq ?_
  refine Wps_reg (T := [(10, e10), (13, e13)]) ⟨e10_ok, e13_ok, trivial⟩ [0] rfl (by simp) fun K hK => ?_
  repeat
    (first | refine X0 rfl fun K1 hK1 => ?_ | refine X1 rfl rfl fun K1 hK1 => ?_)
    simp only [↓EP, EQ, implies_true, forall_const, tys, zoks, zeros, Nat.reduceEqDiff, Nat.reduceAdd, Nat.reduceLT, Nat.reduceLeDiff, reduceIte, reduceCtorEq, e10_ap, e13_ap, toNat1, awF_fold, aw_keys, aw_vers, List.length_map, List.length_cons, List.length_nil, ↓dBuc_size, ↓dBuc_isAg, ↓dBuc_nav, ↓dBuc_vp, dBuc_fold, ↓dRow_size, ↓dRow_isAg, ↓dRow_nav, ↓dRow_vp, dRow_fold, ↓dVer_size, ↓dVer_isAg, ↓dVer_nav, ↓dVer_vp, dVer_fold, ↓dSpot_size, ↓dSpot_isAg, ↓dSpot_nav, ↓dSpot_vp, dSpot_fold]
    try simp (disch := omega) only [wrap64, wrapU64]
    repeat (first | refine And.intro cl ?_ | intro e)
    refine hK1 _ ?_
    clear hK1 K1
  refine XE ?_
  refine hK _ _ (by simp only [St.keep, keepL, at_cons, at_nil, Nat.reduceEqDiff, reduceIte, eq_self]; rfl) ?_
  clear hK K
  refine Wps_ret ?_
  try simp only [Wps_nil, thenQ_normal, thenQ_exit, thenQ_ret, blkQ_normal, blkQ_ret, blkQ_if, blkQ_same, scQ_normal, scQ_ret, scQ_exit, Nat.reduceEqDiff, reduceIte, eq_self, reduceCtorEq, if_true, if_false]
  first | refine ret_pureQ rfl ?_ | refine ret_pureN rfl ?_
  simp only [retP, at_cons, at_nil, Nat.reduceEqDiff, reduceIte, eq_self, AV.use, retV, AV.bel, AV.bels, true_and, and_true]
  simp [grpRow, awV, strEq_bl, bl]

end Go.Proofs.Ytolplbfonlhbhaa
