/- The engine, part Nb: operations that only read, whose value is known in part. -/
import Derived.Test.YtolplbfonlhbhaaEngN
set_option linter.unusedVariables false
set_option linter.unusedSimpArgs false
set_option linter.unusedSectionVars false
namespace Go.Eng
open Go
variable [Globs]

/-- two values that can be compared: what comes out, if they are the same -/
def CmpOk (P : Program) (t : TypeId) (x y : D) : Prop :=
  P.eqGuardType P.depth t = false ∧ x.isAg = true ∧ y.isAg = true ∧
  ∃ c1 c2 b, x.flat = some c1 ∧ y.flat = some c2 ∧ (b = true ↔ x = y) ∧ ∀ w, (Op.equal t (.agg c1.toArray) (.agg c2.toArray)).run P w = .ok b w

def eqB (op : BinOp) (b : Bool) : Bool :=
  match op with
  | .neq => !b
  | _ => b
def slEq (op : BinOp) (b : Bool) : AV := .d (.raw (.bool (eqB op b)))
def eqOp : BinOp → Bool
  | .eql | .neq => true
  | _ => false
def isAgD : AV → Option D
  | .d x => if x.isAg then some x else none
  | _ => none
def isNilS : AV → Bool
  | .d (.raw (.slice none 0 0)) => true
  | _ => false

def relOp (P : Program) (s : St) : Op → Option (Prop × (AV → Prop))
  | .binOp op t x y _ =>
    match isAgD (s.us x).2 with
    | some a => match isAgD (s.us y).2 with
      | some b => if eqOp op then some ((s.us x).1 ∧ (s.us y).1 ∧ CmpOk P t a b, fun r => ∃ e, r = slEq op e ∧ (e = true ↔ a = b)) else none
      | none => none
    | none => if isNilS (s.us y).2 then match (s.us x).2.els with
        | some (k, ds) => if eqOp op then some ((s.us x).1 ∧ (s.us y).1 ∧ (sliceT P t).isSome = true, fun r => ∃ e, r = slEq op e ∧ (e = true → ds = [])) else none
        | none => none
      else none
  | .slice t x none (some h) (some m) => match (s.us x).2.els, sliceT P t, intOf (s.us h).2, intOf (s.us m).2 with
    | some (k, ds), some (_, k', _, _), some (_, n), some (_, c) => some ((s.us x).1 ∧ (s.us h).1 ∧ (s.us m).1 ∧ k' = k ∧ 0 ≤ n ∧ n ≤ c ∧ c ≤ ds.length, fun r => r = .d (.sl k (ds.take n.toNat)))
    | _, _, _, _ => none
  | _ => none

theorem all_ex {f : Bool → AV} {φ : Bool → Prop} {K : AV → Prop} : (∀ r, (∃ e, r = f e ∧ φ e) → K r) ↔ ∀ e, φ e → K (f e) :=
  ⟨fun h e he => h _ ⟨e, rfl, he⟩, fun h r ⟨e, hr, he⟩ => hr ▸ h e he⟩
theorem all_ex0 {f : Bool → AV} {K : AV → Prop} : (∀ r, (∃ e, r = f e) → K r) ↔ ∀ e, K (f e) :=
  ⟨fun h e => h _ ⟨e, rfl⟩, fun h r ⟨e, hr⟩ => hr ▸ h e⟩
section
variable {P : Program} {Z : Zone} {w : World} {γ : List Value} {c : Ctx} {s : St} {a : Act}

mutual
theorem flat_uniq : ∀ (x : D) (cs c1 : List Value), RepD Z w x cs → x.flat = some c1 → cs = c1
  | .raw v, cs, c1, h, hf => by
    simp only [RepD] at h
    simp only [D.flat] at hf
    split at hf
    · simp only [Option.some.injEq] at hf; rw [h.1, hf]
    · simp at hf
  | .ag ds, cs, c1, h, hf => by simp only [RepD] at h; simp only [D.flat] at hf; exact flats_uniq ds cs c1 h hf
  | .arr n k ds, cs, c1, h, hf => by
    simp only [RepD] at h
    simp only [D.flat] at hf
    split at hf
    · exact flats_uniq ds cs c1 h.2.2 hf
    · simp at hf
  | .sl k ds, cs, c1, h, hf => by simp [D.flat] at hf
theorem flats_uniq : ∀ (ds : List D) (cs c1 : List Value), RepDs Z w ds cs → D.flats ds = some c1 → cs = c1
  | [], cs, c1, h, hf => by simp only [RepDs] at h; simp only [D.flats, Option.some.injEq] at hf; rw [h, hf]
  | d :: r, cs, c1, h, hf => by
    simp only [RepDs] at h
    obtain ⟨a1, a2, rfl, h1, h2⟩ := h
    simp only [D.flats] at hf
    split at hf
    · rename_i b1 b2 e1 e2
      simp only [Option.some.injEq] at hf
      rw [flat_uniq d a1 b1 h1 e1, flats_uniq r a2 b2 h2 e2, hf]
    · simp at hf
end

theorem equal_slice_nil {t : Nat} (h : (sliceT P t).isSome = true) (ad : Option Addr) (n c : Nat) : (Op.equal t (.slice ad n c) (.slice none 0 0)).run P w = .ok ad.isNone w := by
  obtain ⟨e, he⟩ := sliceT_isSome h
  obtain ⟨d, hd⟩ : ∃ d, Op.maxDepth = d + 1 := ⟨9999, rfl⟩
  cases ad <;> simp [Op.equal, hd, Op.equalIn, run_under he]

theorem relOp_sound (hR : RelZ c s Z γ a w) {o : Oper} {q : Prop} {post : AV → Prop} (h : relOp P s o.op = some (q, post)) :
    (∃ r, post r) ∧ (q → ∃ v r, (∀ w1, (isLoad o.op = true → Ext w w1) → (execOp a.eval o).run P w1 = .ok (.value v) w1) ∧ post r ∧ RepV Z w γ s.L r v) := by
  have hus : ∀ x : Operand, (s.us x).1 → RepV Z w γ s.L (s.us x).2 (a.eval x) := fun x => use_sound (hR.ev x)
  obtain ⟨dst, op, ty, pos, after, guard⟩ := o
  simp only at h
  unfold relOp at h
  split at h
  · rename_i bop t x y yt
    split at h
    · rename_i da hda
      split at h
      · rename_i db hdb
        split at h
        · rename_i hop
          simp only [Option.some.injEq, Prod.mk.injEq] at h
          obtain ⟨rfl, rfl⟩ := h
          refine ⟨open Classical in ⟨_, decide (da = db), rfl, by simp⟩, fun ⟨q1, q2, hg, ha1, ha2, c1, c2, b, hf1, hf2, hb, hrun⟩ => ?_⟩
          have e1 : (s.us x).2 = .d da := by
            unfold isAgD at hda; split at hda
            · split at hda <;> simp_all
            · simp at hda
          have e2 : (s.us y).2 = .d db := by
            unfold isAgD at hdb; split at hdb
            · split at hdb <;> simp_all
            · simp at hdb
          have h1 := hus x q1
          have h2 := hus y q2
          rw [e1] at h1
          rw [e2] at h2
          obtain ⟨k1, hv1, hr1⟩ := (rep_dag ha1).1 h1
          obtain ⟨k2, hv2, hr2⟩ := (rep_dag ha2).1 h2
          have g1 := flat_uniq da _ _ hr1 hf1
          have g2 := flat_uniq db _ _ hr2 hf2
          have g1' : k1 = c1.toArray := by rw [← g1]
          have g2' : k2 = c2.toArray := by rw [← g2]
          subst g1' g2'
          refine ⟨.bool (eqB bop b), slEq bop b, fun w1 _ => ?_, ⟨b, rfl, hb⟩, ?_⟩
          · have hgd : ∀ bop, (eqGuard bop t x y (.agg c1.toArray) (.agg c2.toArray)).run P w1 = .ok () w1 := fun bop => by
              unfold eqGuard; split <;> simp [hg]
            cases bop <;> simp only [eqOp, Bool.false_eq_true] at hop <;>
              simp only [execOp, hv1, hv2] <;> simp [hgd, binOp, hrun, eqB]
          · unfold slEq; exact rep_raw.2 ⟨rfl, rfl⟩
        · simp at h
      · simp at h
    · split at h
      · rename_i hnil
        split at h
        · rename_i k ds hels
          split at h
          · rename_i hop
            simp only [Option.some.injEq, Prod.mk.injEq] at h
            obtain ⟨rfl, rfl⟩ := h
            refine ⟨⟨_, false, rfl, fun e => by simp at e⟩, fun ⟨q1, q2, ht⟩ => ?_⟩
            have h2 := hus y q2
            have hy : a.eval y = .slice none 0 0 := by
              unfold isNilS at hnil
              split at hnil
              · rename_i e; rw [e] at h2; exact (rep_raw.1 h2).1
              · simp at hnil
            have key : ∀ (ad : Option Addr) (n cp : Nat) (b : Bool), a.eval x = .slice ad n cp → ad.isNone = b → ∀ w1, (execOp a.eval ⟨dst, .binOp bop t x y yt, ty, pos, after, guard⟩).run P w1 = .ok (.value (.bool (eqB bop b))) w1 := by
              intro ad n cp b hx hb w1
              subst hb
              have hgd : ∀ bop, (eqGuard bop t x y (.slice ad n cp) (.slice none 0 0)).run P w1 = .ok () w1 := fun bop => by
                unfold eqGuard; split <;> simp
              have := equal_slice_nil (P := P) (w := w1) ht ad n cp
              cases bop <;> simp only [eqOp, Bool.false_eq_true] at hop <;>
                simp only [execOp, hx, hy] <;> simp [hgd, binOp, this, eqB]
            rcases els_sound hels (hus x q1) with ⟨ad, hx, rfl⟩ | ⟨b, o, cap, hx, _, _⟩
            · exact ⟨_, slEq bop ad.isNone, fun w1 _ => key ad 0 0 _ hx rfl w1, ⟨_, rfl, fun _ => rfl⟩, by unfold slEq; exact rep_raw.2 ⟨rfl, rfl⟩⟩
            · exact ⟨_, slEq bop false, fun w1 _ => key _ _ _ false hx rfl w1, ⟨false, rfl, fun e => by simp at e⟩, by unfold slEq; exact rep_raw.2 ⟨rfl, rfl⟩⟩
          · simp at h
        · simp at h
      · simp at h
  · rename_i t x hh m
    split at h
    · rename_i k ds e k' b0 ag k1 n k2 cc hels ht hn hm
      simp only [Option.some.injEq, Prod.mk.injEq] at h
      obtain ⟨rfl, rfl⟩ := h
      refine ⟨⟨_, rfl⟩, fun ⟨q1, q2, q3, hk, h0, h1, h2⟩ => ?_⟩
      subst hk
      have en := intOf_sound hn (hus hh q2)
      have em := intOf_sound hm (hus m q3)
      obtain ⟨hu, hs, _⟩ := sliceT_some ht
      have hb : ∀ (cap : Nat) (w1 : World), ds.length ≤ cap → (Instr.sliceBounds true ds.length cap none (some (.int k1 n)) (some (.int k2 cc))).run P w1 = .ok (0, n.toNat, cc.toNat) w1 := by
        intro cap w1 hc
        have e1 : cc ≤ cap := by omega
        have e2 : 0 ≤ cc := by omega
        have e3 : n ≤ max cc 0 := by omega
        simp [Instr.sliceBounds, Instr.sliceBound, asIntOf, h0, e1, e2, e3]
      rcases els_sound hels (hus x q1) with ⟨ad, hx, rfl⟩ | ⟨b, o, cap, hx, hle, hr⟩
      · simp only [List.length_nil] at h2 hb
        have hn0 : n = 0 := by simp at h2; omega
        have hc0 : cc = 0 := by simp at h2; omega
        subst hn0 hc0
        refine ⟨.slice ad 0 0, _, fun w1 _ => ?_, rfl, by simp [RepV, RepC, AV.isAg, D.isAg, RepA, RepD]⟩
        have := hb 0 w1 (Nat.le_refl _)
        simp only [execOp, hx, en, em, Option.map_none, Option.map_some]
        simp [Instr.sliceAt, run_under hu, Instr.slice, this, run_sizeOf' hs]
      · refine ⟨.slice (some ⟨b, o, none⟩) n.toNat cc.toNat, _, fun w1 _ => ?_, rfl, ?_⟩
        · have := hb cap w1 hle
          simp only [execOp, hx, en, em, Option.map_none, Option.map_some]
          simp [Instr.sliceAt, run_under hu, Instr.slice, this, run_sizeOf' hs, add_eq]
        · refine rep_sl_mk (b := b) (o := o) ?_ (by omega) (fun _ => ⟨rfl, RepEls_take _ hr⟩) rfl
          rw [List.length_take]; omega
    · simp at h
  · simp at h
end
end Go.Eng
