/- The engine, part F: operations that leave memory alone come to what part D says (2). -/
import Derived.Test.YtolplbfonlhbhaaEngE
set_option linter.unusedVariables false
set_option linter.unusedSectionVars false
set_option linter.unusedSimpArgs false
namespace Go.Eng
open Go
variable [Globs]
section
variable {P : Program} {Z : Zone} {w : World} {γ : List Value} {L : List Res}

theorem repC_d {x : D} {v : Value} : RepC Z w γ L (.d x) v ↔ RepV Z w γ L (.d x) v := by simp only [RepV]

theorem byteAt_get {s : ByteArray} {n : Int} (h0 : 0 ≤ n) (h : n < s.size) : ∃ b : UInt8, s[n.toNat]? = some b ∧ byteAt s n = b.toNat := by
  have hlt : n.toNat < s.size := by omega
  have hl : n.toNat < s.data.toList.length := by simpa using hlt
  refine ⟨s[n.toNat], by simp [hlt], ?_⟩
  simp only [byteAt, List.getD, List.getElem?_eq_getElem hl, Option.getD_some]
  rfl

theorem pvIdx_sound {t : TypeId} {x i : Prop × AV} {v1 v2 : Value} {c : Prop} {r : AV} (hx : x.1 → RepV Z w γ L x.2 v1) (hi : i.1 → RepV Z w γ L i.2 v2)
    (h : pvIdx P t x i = some (c, r)) (hc : c) : ∃ v, (∀ w1, (Instr.index t v1 v2).run P w1 = .ok v w1) ∧ RepV Z w γ L r v := by
  unfold pvIdx at h
  split at h
  · simp at h
  rename_i kd n hn
  split at h
  · rename_i s e1
    simp only [Option.some.injEq, Prod.mk.injEq] at h
    obtain ⟨rfl, rfl⟩ := h
    obtain ⟨c1, c2, ck, c3, c4⟩ := hc
    have hx := hx c1; rw [e1] at hx
    obtain ⟨rfl, _⟩ := rep_raw.1 hx
    obtain rfl := intOf_sound hn (hi c2)
    obtain ⟨b, hb, he⟩ := byteAt_get c3 c4
    refine ⟨.int .u8 b.toNat, ?_, rep_raw.2 ⟨by rw [he], rfl⟩⟩
    intro w1
    simp [Instr.index, asIntOf, run_under (kindT_str ck), c3, hb]
  · rename_i m k ds e1
    split at h
    · rename_i m' k' a hm
      simp only [Option.some.injEq, Prod.mk.injEq] at h
      obtain ⟨rfl, rfl⟩ := h
      obtain ⟨c1, c2, rfl, rfl, c3, c4, rfl⟩ := hc
      have hx := hx c1; rw [e1, rep_dag rfl] at hx
      obtain ⟨cs, rfl, h2⟩ := hx
      obtain rfl := intOf_sound hn (hi c2)
      obtain ⟨e, hu, hs, ha⟩ := arrT_some hm
      simp only [RepD] at h2
      obtain ⟨g1, g2, g3⟩ := h2
      have hlt : n.toNat < ds.length := by omega
      obtain ⟨f1, f2⟩ := RepDs_nth g3 (getD_some hlt)
      have hsz := g2 (ds.getD n.toNat default) (List.mem_of_getElem? (getD_some hlt))
      rw [sizes_take_const g2 (by omega)] at f1 f2
      obtain ⟨v, hv, hr⟩ := run_part_rep (P := P) (t := e) (off := n.toNat * k') (γ := γ) (L := L) (x := .d (ds.getD n.toNat default)) (cs := cs) (by rw [AV.size, hsz]; exact hs) ha (by simpa only [RepA, AV.size] using f1) (by simpa [AV.size] using f2)
      refine ⟨v, ?_, repC_d.1 hr⟩
      intro w1
      simp [Instr.index, asIntOf, run_under hu, c3, c4, run_sizeOf' hs, hv]
    · simp at h
  · simp at h

theorem pvField_sound {t : TypeId} {x : Prop × AV} {i : Nat} {v1 : Value} {c : Prop} {r : AV} (hx : x.1 → RepV Z w γ L x.2 v1)
    (h : pvField P t x i = some (c, r)) (hc : c) : ∃ v, (∀ w1, (Instr.field t v1 i).run P w1 = .ok v w1) ∧ RepV Z w γ L r v := by
  unfold pvField at h
  split at h
  · simp at h
  rename_i o k a hf
  obtain ⟨fs, f, hu, hfi, rfl, hs, ha⟩ := fldT_some hf
  split at h
  · rename_i ds e1
    split at h
    · rename_i y hy
      simp only [Option.some.injEq, Prod.mk.injEq] at h
      obtain ⟨rfl, rfl⟩ := h
      obtain ⟨c1, ho, rfl, rfl⟩ := hc
      have hx := hx c1; rw [e1, rep_dag rfl] at hx
      obtain ⟨cs, rfl, h2⟩ := hx
      simp only [RepD] at h2
      obtain ⟨f1, f2⟩ := RepDs_nth h2 hy
      obtain ⟨v, hv, hr⟩ := run_part_rep (P := P) (t := f.type) (off := f.offset) (γ := γ) (L := L) (x := .d y) (cs := cs) (by rw [AV.size]; exact hs) ha (by rw [ho]; simpa only [RepA, AV.size] using f1) (by rw [ho]; simpa [AV.size] using f2)
      exact ⟨v, fun w1 => by simp [Instr.field, run_under hu, hfi, asAgg, hv], repC_d.1 hr⟩
    · simp at h
  · rename_i xs e1
    split at h
    · rename_i y hy
      simp only [Option.some.injEq, Prod.mk.injEq] at h
      obtain ⟨rfl, rfl⟩ := h
      obtain ⟨c1, ho, rfl, rfl⟩ := hc
      have hx := hx c1; rw [e1] at hx
      simp only [RepV, RepC, AV.isAg, if_true] at hx
      obtain ⟨cs, rfl, h2⟩ := hx
      simp only [RepA] at h2
      obtain ⟨f1, f2⟩ := RepAs_nth h2 hy
      obtain ⟨v, hv, hr⟩ := run_part_rep (P := P) (t := f.type) (off := f.offset) (γ := γ) (L := L) (x := y) (cs := cs) hs ha (by rw [ho]; exact f1) (by rw [ho]; simpa using f2)
      exact ⟨v, fun w1 => by simp [Instr.field, run_under hu, hfi, asAgg, hv], RepV_of_C hr⟩
    · simp at h
  · simp at h

theorem pvFieldAddr_sound {t : TypeId} {x : Prop × AV} {i : Nat} {v1 : Value} {c : Prop} {r : AV} (hx : x.1 → RepV Z w γ L x.2 v1)
    (h : pvFieldAddr P t x i = some (c, r)) (hc : c) : ∃ v, (∀ w1, (Instr.fieldAt t v1 i).run P w1 = .ok v w1) ∧ RepV Z w γ L r v := by
  unfold pvFieldAddr at h
  split at h
  · simp at h
  rename_i o k a hf
  obtain ⟨fs, f, hu, hfi, rfl, hs, ha⟩ := fldT_some hf
  split at h
  · rename_i j off p e1
    simp only [Option.some.injEq, Prod.mk.injEq] at h
    obtain ⟨rfl, rfl⟩ := h
    obtain ⟨c1, hk⟩ := hc
    have hx := hx c1; rw [e1] at hx
    obtain ⟨b, hb, rfl⟩ := rep_ptr hx
    exact ⟨_, fun w1 => by simp [Instr.fieldAt, run_under hu, hfi, Instr.sureAddr, fieldPlace, run_sizeOf' hs, hk, add_eq], rep_ptr_mk hb⟩
  · rename_i ds e1
    split at h
    · rename_i y hy
      simp only [Option.some.injEq, Prod.mk.injEq] at h
      obtain ⟨rfl, rfl⟩ := h
      obtain ⟨c1, hk, ho⟩ := hc
      have hx := hx c1; rw [e1] at hx
      obtain ⟨b, o, cs, rfl, h1, h2⟩ := rep_vp hx
      simp only [RepD] at h2
      obtain ⟨f1, f2⟩ := RepDs_nth h2 hy
      exact ⟨_, fun w1 => by simp [Instr.fieldAt, run_under hu, hfi, Instr.sureAddr, fieldPlace, run_sizeOf' hs, hk, add_eq]; done, rep_vp_mk (cellsAt_sub h1 f.offset _) (by rw [ho]; exact f1)⟩
    · simp at h
  · simp at h

theorem pvExtract_sound {x : Prop × AV} {i : Nat} {v1 : Value} {c : Prop} {r : AV} (hx : x.1 → RepV Z w γ L x.2 v1)
    (h : pvExtract x i = some (c, r)) (hc : c) : ∃ v, (∀ w1, (Instr.extract v1 i).run P w1 = .ok v w1) ∧ RepV Z w γ L r v := by
  unfold pvExtract at h
  split at h
  · rename_i xs e1
    split at h
    · rename_i y hy
      simp only [Option.some.injEq, Prod.mk.injEq] at h
      obtain ⟨rfl, rfl⟩ := h
      have hx := hx hc; rw [e1] at hx
      simp only [RepV] at hx
      obtain ⟨vs, rfl, h2⟩ := hx
      have key : ∀ (xs : List AV) (vs : List Value) (i : Nat) (y : AV), RepVs Z w γ L xs vs → xs[i]? = some y → ∃ v, vs[i]? = some v ∧ RepV Z w γ L y v := by
        intro xs
        induction xs with
        | nil => intro vs i y _ hy; simp at hy
        | cons x r ih =>
          intro vs i y hr hy
          simp only [RepVs] at hr
          obtain ⟨v, l, rfl, h1, h2⟩ := hr
          cases i with
          | zero => simp at hy; subst hy; exact ⟨v, by simp, h1⟩
          | succ i => simp at hy ⊢; exact ih l i y h2 hy
      obtain ⟨v, hv, hr⟩ := key xs vs.toList i y h2 hy
      have hv' : vs[i]? = some v := by simpa using hv
      exact ⟨v, fun w1 => by simp [Instr.extract, hv'], hr⟩
    · simp at h
  · simp at h

theorem sliceT_isSome {t : Nat} (h : (sliceT P t).isSome = true) : ∃ e, P.underlying t = some (.slice e) := by
  obtain ⟨⟨e, k, b, a⟩, hx⟩ := Option.isSome_iff_exists.1 h
  exact ⟨e, (sliceT_some hx).1⟩

theorem pvLen_sound {t ty : TypeId} {x : Prop × AV} {v1 : Value} {c : Prop} {r : AV} (hx : x.1 → RepV Z w γ L x.2 v1)
    (h : pvLen P t x = some (c, r)) (hc : c) : ∃ v, (∀ w1, (Builtin.len_ #[t] ty #[v1]).run P w1 = .ok v w1) ∧ RepV Z w γ L r v := by
  unfold pvLen at h
  split at h
  · rename_i s e1
    simp only [Option.some.injEq, Prod.mk.injEq] at h
    obtain ⟨rfl, rfl⟩ := h
    have hx := hx hc.1; rw [e1] at hx
    obtain ⟨rfl, _⟩ := rep_raw.1 hx
    exact ⟨_, fun w1 => by simp [Builtin.len_, run_under (kindT_str hc.2), goInt]; done, rep_raw.2 ⟨rfl, rfl⟩⟩
  · rename_i e1
    simp only [Option.some.injEq, Prod.mk.injEq] at h
    obtain ⟨rfl, rfl⟩ := h
    have hx := hx hc.1; rw [e1] at hx
    obtain ⟨rfl, _⟩ := rep_raw.1 hx
    obtain ⟨e, he⟩ := sliceT_isSome hc.2
    exact ⟨_, fun w1 => by simp [Builtin.len_, run_under he, goInt]; done, rep_raw.2 ⟨rfl, rfl⟩⟩
  · rename_i j off k lo len p e1
    simp only [Option.some.injEq, Prod.mk.injEq] at h
    obtain ⟨rfl, rfl⟩ := h
    have hx := hx hc.1; rw [e1] at hx
    obtain ⟨b, ad, cap, _, rfl, _⟩ := rep_bsl hx
    obtain ⟨e, he⟩ := sliceT_isSome hc.2
    exact ⟨_, fun w1 => by simp [Builtin.len_, run_under he, goInt]; done, rep_raw.2 ⟨rfl, rfl⟩⟩
  · split at h
    · rename_i k ds hels
      simp only [Option.some.injEq, Prod.mk.injEq] at h
      obtain ⟨rfl, rfl⟩ := h
      obtain ⟨e, he⟩ := sliceT_isSome hc.2
      rcases els_sound hels (hx hc.1) with ⟨ad, rfl, rfl⟩ | ⟨b, o, cap, rfl, _⟩
      · exact ⟨_, fun w1 => by simp [Builtin.len_, run_under he, goInt]; done, rep_raw.2 ⟨rfl, rfl⟩⟩
      · exact ⟨_, fun w1 => by simp [Builtin.len_, run_under he, goInt]; done, rep_raw.2 ⟨rfl, rfl⟩⟩
    · simp at h

theorem pvLoad_sound {c0 : Ctx} {s : St} {a : Act} (hR : RelZ c0 s Z γ a w) {t : TypeId} {x : Prop × AV} {v1 : Value} {c : Prop} {r : AV} (hx : x.1 → RepV Z w γ s.L x.2 v1)
    (h : pvLoad P s t x = some (c, r)) (hc : c) : ∃ v, (∀ w1, Ext w w1 → (Instr.loadAt t v1).run P w1 = .ok v w1) ∧ RepV Z w γ s.L r v := by
  unfold pvLoad at h
  split at h
  · rename_i y e1
    simp only [Option.some.injEq, Prod.mk.injEq] at h
    obtain ⟨rfl, rfl⟩ := h
    obtain ⟨c1, hs, ha⟩ := hc
    have hx := hx c1; rw [e1] at hx
    obtain ⟨b, o, cs, rfl, h1, h2⟩ := rep_vp hx
    obtain ⟨v, hv, hr⟩ := run_loadAt_rep (P := P) (γ := γ) (L := s.L) (x := .d y) hs ha (fun j v hj => (h1 j v hj).2) (by simpa only [RepA] using h2)
    exact ⟨v, hv, repC_d.1 hr⟩
  · rename_i j off p e1
    split at h
    · rename_i y hj
      split at h
      · rename_i z off' hn
        simp only [Option.some.injEq, Prod.mk.injEq] at h
        obtain ⟨rfl, rfl⟩ := h
        obtain ⟨c1, rfl, hs, ha⟩ := hc
        have hx := hx c1; rw [e1] at hx
        obtain ⟨b, hb, rfl⟩ := rep_ptr hx
        obtain ⟨b', cs, ty, fr, hg, hh, _, hrep, _⟩ := hR.env.res j _ _ hj hb
        simp only [Value.pointer.injEq, Option.some.injEq, Addr.mk.injEq, and_true] at hg
        subst hg
        obtain ⟨f1, f2⟩ := RepA_nav p hrep hn
        obtain ⟨v, hv, hr⟩ := run_loadAt_rep (P := P) (t := t) (b := b) (o := off') (w := w) (γ := γ) (L := s.L) (x := z) hs ha (fun i v hi => by
          rw [List.getElem?_take] at hi
          split at hi
          · rw [List.getElem?_drop] at hi
            simpa [World.cell?, hh] using hi
          · simp at hi) f1
        exact ⟨v, hv, RepV_of_C hr⟩
      · simp at h
    · simp at h
  · simp at h
end
end Go.Eng
