/- The engine, part R: the rules by which a walk reckons, in two bundles. -/
import Derived.Test.YtolplbfonlhbhaaEngQ
set_option linter.unusedVariables false
set_option maxRecDepth 4000
namespace Go.Eng
open Go

theorem EP : type_of% (And.intro (And.intro (And.intro (And.intro @wpe.eq_1 @wpGo.eq_1) (And.intro @wpGo.eq_2 @wpGoX.eq_1)) (And.intro (And.intro @wpGoX.eq_2 @wpCall.eq_1) (And.intro @wpStore.eq_1
  (And.intro @wpBuildSlice.eq_1 @wpAppend.eq_1)))) (And.intro (And.intro (And.intro @wpMake.eq_1 @wpConv.eq_1) (And.intro @grdG.eq_1 @grdG.eq_2)) (And.intro (And.intro @wpgG.eq_1 @wpgG.eq_2)
  (And.intro @wpxG.eq_1 (And.intro @wprG.eq_1 @wpgCall.eq_1))))) := (And.intro (And.intro (And.intro (And.intro @wpe.eq_1 @wpGo.eq_1) (And.intro @wpGo.eq_2 @wpGoX.eq_1)) (And.intro (And.intro
  @wpGoX.eq_2 @wpCall.eq_1) (And.intro @wpStore.eq_1 (And.intro @wpBuildSlice.eq_1 @wpAppend.eq_1)))) (And.intro (And.intro (And.intro @wpMake.eq_1 @wpConv.eq_1) (And.intro @grdG.eq_1 @grdG.eq_2))
  (And.intro (And.intro @wpgG.eq_1 @wpgG.eq_2) (And.intro @wpxG.eq_1 (And.intro @wprG.eq_1 @wpgCall.eq_1)))))
theorem EQ : type_of% (And.intro (And.intro (And.intro (And.intro (And.intro (And.intro (And.intro @pureF.eq_1 (And.intro @pureF.eq_2 @entOf.eq_1)) (And.intro (And.intro @entOf.eq_2 @relOp.eq_1)
  (And.intro @relOp.eq_2 @relOp.eq_3))) (And.intro (And.intro (And.intro @isAgD.eq_1 @isAgD.eq_2) (And.intro @isNilS.eq_1 @isNilS.eq_2)) (And.intro (And.intro @eqOp.eq_1 @eqOp.eq_2) (And.intro
  @eqOp.eq_3 @slEq.eq_1)))) (And.intro (And.intro (And.intro (And.intro @eqB.eq_1 @eqB.eq_2) (And.intro @shuts.eq_1 @shuts.eq_2)) (And.intro (And.intro @usAll.eq_1 @usAll.eq_2) (And.intro @usVals.eq_1
  @usVals.eq_2))) (And.intro (And.intro (And.intro @guardV.eq_1 @guardV.eq_2) (And.intro @guardV.eq_3 @List.getElem?_cons_zero.{0})) (And.intro (And.intro @List.getElem?_cons_succ.{0}
  @List.getElem?_nil.{0}) (And.intro @Option.bind_some.{0,0} @Option.bind_none.{0,0}))))) (And.intro (And.intro (And.intro (And.intro (And.intro @pv.eq_1 @pv.eq_2) (And.intro @pv.eq_3 @pv.eq_4))
  (And.intro (And.intro @pv.eq_5 @pv.eq_6) (And.intro @pv.eq_7 @pv.eq_8))) (And.intro (And.intro (And.intro @pv.eq_9 @pv.eq_10) (And.intro @pv.eq_11 @pv.eq_12)) (And.intro (And.intro @pv.eq_13
  @pv.eq_14) (And.intro @pv.eq_15 @pv.eq_16)))) (And.intro (And.intro (And.intro (And.intro @pv.eq_17 @pv.eq_18) (And.intro @pvLen.eq_1 @pvCall.eq_1)) (And.intro (And.intro @pvSlice.eq_1 @pvLoad.eq_1)
  (And.intro @pvField.eq_1 @pvFieldAddr.eq_1))) (And.intro (And.intro (And.intro @pvIdx.eq_1 @pvIdxAddr.eq_1) (And.intro @pvExtract.eq_1 @pvConv.eq_1)) (And.intro (And.intro @pvBuild.eq_1 @fillP.eq_1)
  (And.intro @fillP.eq_2 @fillD.eq_1)))))) (And.intro (And.intro (And.intro (And.intro (And.intro (And.intro @fillD.eq_2 @placeT.eq_1) (And.intro @mkAg.eq_1 @allD.eq_1)) (And.intro (And.intro
  @allD.eq_2 @AV.toD.eq_1) (And.intro @AV.toD.eq_2 @AV.els.eq_1))) (And.intro (And.intro (And.intro @AV.els.eq_2 @AV.els.eq_3) (And.intro @pickV.eq_1 @pickV.eq_2)) (And.intro (And.intro @isShift.eq_1
  @isShift.eq_2) (And.intro @isShift.eq_3 @withC.eq_1)))) (And.intro (And.intro (And.intro (And.intro @withC.eq_2 @intBin.eq_1) (And.intro @intBin.eq_2 @intBin.eq_3)) (And.intro (And.intro
  @intBin.eq_4 @intBin.eq_5) (And.intro @intBin.eq_6 @intBin.eq_7))) (And.intro (And.intro (And.intro @intBin.eq_8 @intBin.eq_9) (And.intro @intBin.eq_10 @intBin.eq_11)) (And.intro (And.intro
  @intBin.eq_12 @intBin.eq_13) (And.intro @intBin.eq_14 @intBin.eq_15))))) (And.intro (And.intro (And.intro (And.intro (And.intro @intBin.eq_16 @strBin.eq_1) (And.intro @strBin.eq_2 @strBin.eq_3))
  (And.intro (And.intro @strBin.eq_4 @strBin.eq_5) (And.intro @strBin.eq_6 @strBin.eq_7))) (And.intro (And.intro (And.intro @strBin.eq_8 @AV.nav.eq_1) (And.intro @AV.nav.eq_2 @AV.nav.eq_3)) (And.intro
  (And.intro @AV.nav.eq_4 @D.nav.eq_1) (And.intro @D.nav.eq_2 @D.nav.eq_3)))) (And.intro (And.intro (And.intro (And.intro @D.nav.eq_4 @AV.putAt.eq_1) (And.intro @AV.putAt.eq_2 @AV.putAt.eq_3))
  (And.intro (And.intro @AV.putAt.eq_4 @AV.putAt.eq_5) (And.intro @AV.okPut.eq_1 @AV.okPut.eq_2))) (And.intro (And.intro (And.intro @AV.okPut.eq_3 @AV.okPut.eq_4) (And.intro @AV.okPut.eq_5
  @D.putAt.eq_1)) (And.intro (And.intro @D.putAt.eq_2 @D.putAt.eq_3) (And.intro @D.putAt.eq_4 @List.getD_cons_zero.{0}))))))) (And.intro (And.intro (And.intro (And.intro (And.intro (And.intro
  (And.intro @List.getD_cons_succ.{0} @AV.isVal.eq_1) (And.intro @AV.isVal.eq_2 @AV.isVal.eq_3)) (And.intro (And.intro @AV.size.eq_1 @AV.size.eq_2) (And.intro @AV.size.eq_3 @AV.size.eq_4))) (And.intro
  (And.intro (And.intro @AV.size.eq_5 @AV.size.eq_6) (And.intro @AV.size.eq_7 @AV.size.eq_8)) (And.intro (And.intro @AV.size.eq_9 @AV.sizes.eq_1) (And.intro @AV.sizes.eq_2 @D.size.eq_1)))) (And.intro
  (And.intro (And.intro (And.intro @D.size.eq_2 @D.size.eq_3) (And.intro @D.size.eq_4 @D.sizes.eq_1)) (And.intro (And.intro @D.sizes.eq_2 @AV.isAg.eq_1) (And.intro @AV.isAg.eq_2 @AV.isAg.eq_3)))
  (And.intro (And.intro (And.intro @D.isAg.eq_1 @D.isAg.eq_2) (And.intro @D.isAg.eq_3 @List.length_cons.{0})) (And.intro (And.intro @List.length_nil.{0} @List.set_cons_zero.{0}) (And.intro
  @List.set_cons_succ.{0} @List.cons_append.{0}))))) (And.intro (And.intro (And.intro (And.intro (And.intro @List.nil_append.{0} @List.take_succ_cons.{0}) (And.intro @List.take_zero.{0}
  @List.take_nil.{0})) (And.intro (And.intro @List.map_cons.{0,0} @List.map_nil.{0,0}) (And.intro @Option.map_some.{0,0} @Option.map_none.{0,0}))) (And.intro (And.intro (And.intro @St.put.eq_1
  @St.put.eq_2) (And.intro @putR.eq_1 @St.ev.eq_1)) (And.intro (And.intro @St.ev.eq_2 @St.ev.eq_3) (And.intro @St.ev.eq_4 @constA.eq_1)))) (And.intro (And.intro (And.intro (And.intro @constA.eq_2
  @constA.eq_3) (And.intro @constA.eq_4 @constA.eq_5)) (And.intro (And.intro @constA.eq_6 @St.us.eq_1) (And.intro @AV.use.eq_1 @St.bd.eq_1))) (And.intro (And.intro (And.intro @St.bd.eq_2 @bdC.eq_1)
  (And.intro @bdC.eq_2 @bdN.eq_1)) (And.intro (And.intro @bdN.eq_2 @intOf.eq_1) (And.intro @intOf.eq_2 @at_cons)))))) (And.intro (And.intro (And.intro (And.intro (And.intro (And.intro @at_nil
  @St.keep.eq_1) (And.intro @keepL.eq_1 @keepL.eq_2)) (And.intro (And.intro @Bool.false_eq_true @if_false.{1}) (And.intro @if_true.{1} @beq_true))) (And.intro (And.intro (And.intro @beq_false
  @Nat.zero_add) (And.intro @Nat.add_zero @Int.toNat_natCast)) (And.intro (And.intro @Int.toNat_zero @true_and) (And.intro @and_true @Bool.true_and)))) (And.intro (And.intro (And.intro (And.intro
  @Bool.and_true @imp_self) (And.intro @and_self @true_implies)) (And.intro (And.intro @beq_self_eq_true.{0} @eq_self.{1}) (And.intro @forall_eq.{1} @all_ex))) (And.intro (And.intro (And.intro
  @all_ex0 @ne_eq.{1}) (And.intro @not_false_eq_true @Option.getD_some.{0})) (And.intro (And.intro @Option.isSome_some.{0} @Bool.not_true) (And.intro @Bool.not_false @Bool.not_not))))) (And.intro
  (And.intro (And.intro (And.intro (And.intro @Bool.cond_true_left @Bool.cond_false_right) (And.intro @use_d @use_ag)) (And.intro (And.intro @use_ptr @use_vp) (And.intro @use_own @use_bsl)))
  (And.intro (And.intro (And.intro @use_tup @use_undef) (And.intro @shut_d @shut_ag)) (And.intro (And.intro @shut_ptr @shut_vp) (And.intro @shut_own @asD_d)))) (And.intro (And.intro (And.intro
  (And.intro @asD_own @asD_ag) (And.intro @asDs_nil @asDs_cons)) (And.intro (And.intro @isVal_d @isVal_ag) (And.intro @isVal_ptr @isVal_vp))) (And.intro (And.intro (And.intro @isVal_own @isVal_bsl)
  (And.intro @pvUn.eq_def @pvBin.eq_def)) (And.intro (And.intro @AnyB.eq_1 @YesB.eq_1) (And.intro @entA.eq_1 @List.replicate_one.{0})))))))) := (And.intro (And.intro (And.intro (And.intro (And.intro
  (And.intro (And.intro @pureF.eq_1 (And.intro @pureF.eq_2 @entOf.eq_1)) (And.intro (And.intro @entOf.eq_2 @relOp.eq_1) (And.intro @relOp.eq_2 @relOp.eq_3))) (And.intro (And.intro (And.intro
  @isAgD.eq_1 @isAgD.eq_2) (And.intro @isNilS.eq_1 @isNilS.eq_2)) (And.intro (And.intro @eqOp.eq_1 @eqOp.eq_2) (And.intro @eqOp.eq_3 @slEq.eq_1)))) (And.intro (And.intro (And.intro (And.intro
  @eqB.eq_1 @eqB.eq_2) (And.intro @shuts.eq_1 @shuts.eq_2)) (And.intro (And.intro @usAll.eq_1 @usAll.eq_2) (And.intro @usVals.eq_1 @usVals.eq_2))) (And.intro (And.intro (And.intro @guardV.eq_1
  @guardV.eq_2) (And.intro @guardV.eq_3 @List.getElem?_cons_zero.{0})) (And.intro (And.intro @List.getElem?_cons_succ.{0} @List.getElem?_nil.{0}) (And.intro @Option.bind_some.{0,0}
  @Option.bind_none.{0,0}))))) (And.intro (And.intro (And.intro (And.intro (And.intro @pv.eq_1 @pv.eq_2) (And.intro @pv.eq_3 @pv.eq_4)) (And.intro (And.intro @pv.eq_5 @pv.eq_6) (And.intro @pv.eq_7
  @pv.eq_8))) (And.intro (And.intro (And.intro @pv.eq_9 @pv.eq_10) (And.intro @pv.eq_11 @pv.eq_12)) (And.intro (And.intro @pv.eq_13 @pv.eq_14) (And.intro @pv.eq_15 @pv.eq_16)))) (And.intro (And.intro
  (And.intro (And.intro @pv.eq_17 @pv.eq_18) (And.intro @pvLen.eq_1 @pvCall.eq_1)) (And.intro (And.intro @pvSlice.eq_1 @pvLoad.eq_1) (And.intro @pvField.eq_1 @pvFieldAddr.eq_1))) (And.intro (And.intro
  (And.intro @pvIdx.eq_1 @pvIdxAddr.eq_1) (And.intro @pvExtract.eq_1 @pvConv.eq_1)) (And.intro (And.intro @pvBuild.eq_1 @fillP.eq_1) (And.intro @fillP.eq_2 @fillD.eq_1)))))) (And.intro (And.intro
  (And.intro (And.intro (And.intro (And.intro @fillD.eq_2 @placeT.eq_1) (And.intro @mkAg.eq_1 @allD.eq_1)) (And.intro (And.intro @allD.eq_2 @AV.toD.eq_1) (And.intro @AV.toD.eq_2 @AV.els.eq_1)))
  (And.intro (And.intro (And.intro @AV.els.eq_2 @AV.els.eq_3) (And.intro @pickV.eq_1 @pickV.eq_2)) (And.intro (And.intro @isShift.eq_1 @isShift.eq_2) (And.intro @isShift.eq_3 @withC.eq_1))))
  (And.intro (And.intro (And.intro (And.intro @withC.eq_2 @intBin.eq_1) (And.intro @intBin.eq_2 @intBin.eq_3)) (And.intro (And.intro @intBin.eq_4 @intBin.eq_5) (And.intro @intBin.eq_6 @intBin.eq_7)))
  (And.intro (And.intro (And.intro @intBin.eq_8 @intBin.eq_9) (And.intro @intBin.eq_10 @intBin.eq_11)) (And.intro (And.intro @intBin.eq_12 @intBin.eq_13) (And.intro @intBin.eq_14 @intBin.eq_15)))))
  (And.intro (And.intro (And.intro (And.intro (And.intro @intBin.eq_16 @strBin.eq_1) (And.intro @strBin.eq_2 @strBin.eq_3)) (And.intro (And.intro @strBin.eq_4 @strBin.eq_5) (And.intro @strBin.eq_6
  @strBin.eq_7))) (And.intro (And.intro (And.intro @strBin.eq_8 @AV.nav.eq_1) (And.intro @AV.nav.eq_2 @AV.nav.eq_3)) (And.intro (And.intro @AV.nav.eq_4 @D.nav.eq_1) (And.intro @D.nav.eq_2
  @D.nav.eq_3)))) (And.intro (And.intro (And.intro (And.intro @D.nav.eq_4 @AV.putAt.eq_1) (And.intro @AV.putAt.eq_2 @AV.putAt.eq_3)) (And.intro (And.intro @AV.putAt.eq_4 @AV.putAt.eq_5) (And.intro
  @AV.okPut.eq_1 @AV.okPut.eq_2))) (And.intro (And.intro (And.intro @AV.okPut.eq_3 @AV.okPut.eq_4) (And.intro @AV.okPut.eq_5 @D.putAt.eq_1)) (And.intro (And.intro @D.putAt.eq_2 @D.putAt.eq_3)
  (And.intro @D.putAt.eq_4 @List.getD_cons_zero.{0}))))))) (And.intro (And.intro (And.intro (And.intro (And.intro (And.intro (And.intro @List.getD_cons_succ.{0} @AV.isVal.eq_1) (And.intro
  @AV.isVal.eq_2 @AV.isVal.eq_3)) (And.intro (And.intro @AV.size.eq_1 @AV.size.eq_2) (And.intro @AV.size.eq_3 @AV.size.eq_4))) (And.intro (And.intro (And.intro @AV.size.eq_5 @AV.size.eq_6) (And.intro
  @AV.size.eq_7 @AV.size.eq_8)) (And.intro (And.intro @AV.size.eq_9 @AV.sizes.eq_1) (And.intro @AV.sizes.eq_2 @D.size.eq_1)))) (And.intro (And.intro (And.intro (And.intro @D.size.eq_2 @D.size.eq_3)
  (And.intro @D.size.eq_4 @D.sizes.eq_1)) (And.intro (And.intro @D.sizes.eq_2 @AV.isAg.eq_1) (And.intro @AV.isAg.eq_2 @AV.isAg.eq_3))) (And.intro (And.intro (And.intro @D.isAg.eq_1 @D.isAg.eq_2)
  (And.intro @D.isAg.eq_3 @List.length_cons.{0})) (And.intro (And.intro @List.length_nil.{0} @List.set_cons_zero.{0}) (And.intro @List.set_cons_succ.{0} @List.cons_append.{0}))))) (And.intro
  (And.intro (And.intro (And.intro (And.intro @List.nil_append.{0} @List.take_succ_cons.{0}) (And.intro @List.take_zero.{0} @List.take_nil.{0})) (And.intro (And.intro @List.map_cons.{0,0}
  @List.map_nil.{0,0}) (And.intro @Option.map_some.{0,0} @Option.map_none.{0,0}))) (And.intro (And.intro (And.intro @St.put.eq_1 @St.put.eq_2) (And.intro @putR.eq_1 @St.ev.eq_1)) (And.intro (And.intro
  @St.ev.eq_2 @St.ev.eq_3) (And.intro @St.ev.eq_4 @constA.eq_1)))) (And.intro (And.intro (And.intro (And.intro @constA.eq_2 @constA.eq_3) (And.intro @constA.eq_4 @constA.eq_5)) (And.intro (And.intro
  @constA.eq_6 @St.us.eq_1) (And.intro @AV.use.eq_1 @St.bd.eq_1))) (And.intro (And.intro (And.intro @St.bd.eq_2 @bdC.eq_1) (And.intro @bdC.eq_2 @bdN.eq_1)) (And.intro (And.intro @bdN.eq_2 @intOf.eq_1)
  (And.intro @intOf.eq_2 @at_cons)))))) (And.intro (And.intro (And.intro (And.intro (And.intro (And.intro @at_nil @St.keep.eq_1) (And.intro @keepL.eq_1 @keepL.eq_2)) (And.intro (And.intro
  @Bool.false_eq_true @if_false.{1}) (And.intro @if_true.{1} @beq_true))) (And.intro (And.intro (And.intro @beq_false @Nat.zero_add) (And.intro @Nat.add_zero @Int.toNat_natCast)) (And.intro (And.intro
  @Int.toNat_zero @true_and) (And.intro @and_true @Bool.true_and)))) (And.intro (And.intro (And.intro (And.intro @Bool.and_true @imp_self) (And.intro @and_self @true_implies)) (And.intro (And.intro
  @beq_self_eq_true.{0} @eq_self.{1}) (And.intro @forall_eq.{1} @all_ex))) (And.intro (And.intro (And.intro @all_ex0 @ne_eq.{1}) (And.intro @not_false_eq_true @Option.getD_some.{0})) (And.intro
  (And.intro @Option.isSome_some.{0} @Bool.not_true) (And.intro @Bool.not_false @Bool.not_not))))) (And.intro (And.intro (And.intro (And.intro (And.intro @Bool.cond_true_left @Bool.cond_false_right)
  (And.intro @use_d @use_ag)) (And.intro (And.intro @use_ptr @use_vp) (And.intro @use_own @use_bsl))) (And.intro (And.intro (And.intro @use_tup @use_undef) (And.intro @shut_d @shut_ag)) (And.intro
  (And.intro @shut_ptr @shut_vp) (And.intro @shut_own @asD_d)))) (And.intro (And.intro (And.intro (And.intro @asD_own @asD_ag) (And.intro @asDs_nil @asDs_cons)) (And.intro (And.intro @isVal_d
  @isVal_ag) (And.intro @isVal_ptr @isVal_vp))) (And.intro (And.intro (And.intro @isVal_own @isVal_bsl) (And.intro @pvUn.eq_def @pvBin.eq_def)) (And.intro (And.intro @AnyB.eq_1 @YesB.eq_1) (And.intro
  @entA.eq_1 @List.replicate_one.{0}))))))))
end Go.Eng
