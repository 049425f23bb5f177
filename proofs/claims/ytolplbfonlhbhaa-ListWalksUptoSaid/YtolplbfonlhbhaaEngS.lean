/- The engine, part S: contracts that came from elsewhere; a nil slice in a box. -/
import Derived.Test.YtolplbfonlhbhaaEngR
import Derived.Deep.Draws
set_option linter.unusedVariables false
set_option linter.unusedSectionVars false
set_option linter.unusedSimpArgs false
namespace Go.Eng
open Go
variable [Globs]

section
variable {P : Program} {Z : Zone} {w : World} {γ : List Value} {L : List Res} {c : Ctx} {s : St}

theorem drewN_zero (w : World) : w.drewN 0 = w := rfl
theorem drewN_succ (w : World) (n : Nat) : w.drewN (n + 1) = (w.drewN n).drew := rfl

theorem Env.drewN (h : Env L Z γ w) : ∀ n, Env L Z γ (w.drewN n) ∧ Adv L Z γ w L Z γ (w.drewN n)
  | 0 => ⟨h, Adv.refl _ _ _ _⟩
  | n + 1 => by
    obtain ⟨h1, h2⟩ := Env.drewN h n
    have := h1.drew
    rw [drewN_succ]
    exact ⟨this.1, h2.trans this.2⟩

/-- a call whose contract was proved elsewhere, which only reads -/
theorem PureOk_of_calls {f : FuncId} {fn : Func} {args : List AV} {vs0 : Array Value} {r0 : AV} {v0 : Value} (hf : P.funcs[f]? = some fn) (hn : (fn.name == "runtime.NumGoroutine") = false) (hb : fn.body.isSome = true)
    (ha : AV.bels 0 args) (hr0 : r0.bel 0) (hargs : ∀ (Z : Zone) (w : World) (vs : Array Value), RepVs Z w [] [] args vs.toList → vs = vs0)
    (hv : ∀ (Z : Zone) (w : World), RepV Z w [] [] r0 v0)
    (h : ∀ (w : World) (Z : Zone), Env [] Z [] w → Calls P f vs0 w fun e w' => e = .returned v0 ∧ ∃ n, w' = w.drewN n) : PureOk P f args fun r => r = r0 := by
  refine ⟨ha, fun r hr => hr ▸ hr0, ⟨fn, hf, hn, hb⟩, fun w Z γ vs hE hr => ?_⟩
  have hγ : γ = [] := List.length_eq_zero_iff.1 hE.len
  subst hγ
  rw [hargs Z w vs hr]
  refine (h w Z hE).mono ?_
  rintro e w' ⟨rfl, n, rfl⟩
  obtain ⟨h1, h2⟩ := hE.drewN n
  exact ⟨v0, r0, [], Z, [], rfl, ⟨rfl, rfl⟩, hv _ _, h1, h2⟩

theorem glob_cell (h : Env L Z γ w) {g : Nat} {v : Value} (hg : Globs.dat g = some (.raw v)) : w.cell? ⟨g, 0, none⟩ = some v := by
  obtain ⟨cs, h1, h2⟩ := h.glob g _ hg
  simp only [RepD] at h2
  obtain ⟨rfl, _⟩ := h2
  exact (h1 0 v rfl).2

theorem ExtR_set {γ : List Value} {L : List Res} {j : Nat} {x x' : AV} (hj : L[j]? = some (.box x)) : ExtR γ L γ (L.set j (.box x')) := by
  refine ⟨by simp, fun _ _ h => h, fun i e k n' hi h => ?_⟩
  have hjL := (List.getElem?_eq_some_iff.1 hj).1
  by_cases e1 : j = i
  · subst e1
    rw [List.getElem?_set_self hjL] at h
    simp at h
  · rw [List.getElem?_set_ne e1] at h
    exact ⟨n', h, Nat.le_refl _, fun _ => rfl⟩

/-- what a box holds may be read another way -/
theorem Env.rebox (h : Env L Z γ w) {j : Nat} {x x' : AV} (hj : L[j]? = some (.box x)) (himp : ∀ cs, RepA Z w γ L x cs → RepA Z w γ (L.set j (.box x')) x' cs) :
    Env (L.set j (.box x')) Z γ w ∧ Adv L Z γ w (L.set j (.box x')) Z γ w := by
  have hjL := (List.getElem?_eq_some_iff.1 hj).1
  have hjγ : j < γ.length := by rw [h.len]; exact hjL
  have hg : γ[j]? = some γ[j] := List.getElem?_eq_getElem hjγ
  have e : γ.set j γ[j] = γ := by simp
  obtain ⟨b, c', ty, fr, h1, h2, h3, h4, h5⟩ := h.res j _ _ hj hg
  have := h.upd (r' := .box x') (g' := γ[j]) (Z' := Z) (w' := w) hj hg (Step.refl _ _ _) (fun _ _ h => h) (fun _ _ h => .inl h)
    (by rw [e]; exact ExtR_set hj) (by rw [e]; exact ⟨b, c', ty, fr, h1, h2, h3, himp _ h4, h5⟩) (fun b hb => .inl (by cases hh : γ[j] <;> simp_all [Res.blk]))
  rwa [e] at this

/-- a nil slice ahead in a box: nothing, that is owned -/
theorem Wk_nilbox {j : Nat} {ds : List D} (hj : s.L[j]? = some (.box (.d (.ag (.raw (.slice none 0 0) :: ds))))) (e k : Nat) :
    Wk c s ⟨s.sl, s.L.set j (.box (.ag (.own s.L.length k [] :: ds.map .d))) ++ [.tok e k 0]⟩ := by
  rintro a w ⟨Z, γ, hR⟩
  obtain ⟨he, ha, hr⟩ := hR.env.tok0 e k
  have hjL := (List.getElem?_eq_some_iff.1 hj).1
  have hj' : (s.L ++ [.tok e k 0])[j]? = some (.box (.d (.ag (.raw (.slice none 0 0) :: ds)))) := by
    rw [List.getElem?_append_left hjL]; exact hj
  obtain ⟨he', ha'⟩ := he.rebox (x' := .ag (.own s.L.length k [] :: ds.map .d)) hj' (fun cs h => by
    simp only [RepA, RepD, RepDs] at h
    obtain ⟨c1, c2, rfl, ⟨rfl, _⟩, h2⟩ := h
    simp only [RepA, RepAs]
    refine ⟨[.slice none 0 0], c2, rfl, ⟨by simp, by simp [RepD], fun e' n' hn' => ?_⟩, (RepAs_map ds c2).2 h2⟩
    rw [List.getElem?_set_ne (by omega)] at hn'
    simp at hn'
    obtain ⟨_, rfl⟩ := hn'
    exact ⟨by simp, fun _ => ⟨_, by rw [← hR.env.len]; simp, rfl⟩⟩)
  rw [List.set_append_left _ _ hjL] at he' ha'
  exact ⟨Z, _, (hR.go he ha).go he' ha'⟩

/-! ### data that may be read another way -/
def DImp (x y : D) : Prop := ∀ (Z : Zone) (w : World) (cs : List Value), RepD Z w x cs → RepD Z w y cs
def DImps : List D → List D → Prop
  | [], [] => True
  | x :: xs, y :: ys => DImp x y ∧ DImps xs ys
  | _, _ => False
theorem DImp.refl (x : D) : DImp x x := fun _ _ _ h => h
theorem DImp_eq {x y : D} (h : x = y) : DImp x y := h ▸ DImp.refl x
theorem DImp_nil (k : Nat) : DImp (.raw (.slice none 0 0)) (.sl k []) := fun Z w cs h => by
  simp only [RepD] at h ⊢
  exact .inl ⟨none, h.1, trivial⟩
theorem DImps.refl : ∀ xs : List D, DImps xs xs
  | [] => trivial
  | x :: xs => ⟨DImp.refl x, DImps.refl xs⟩
theorem DImps.append : ∀ {xs ys xs' ys' : List D}, DImps xs ys → DImps xs' ys' → DImps (xs ++ xs') (ys ++ ys')
  | [], [], _, _, _, h => h
  | x :: xs, y :: ys, _, _, h, h' => ⟨h.1, DImps.append h.2 h'⟩
  | [], _ :: _, _, _, h, _ => h.elim
  | _ :: _, [], _, _, h, _ => h.elim
theorem DImps.reps (Z : Zone) (w : World) : ∀ {xs ys : List D} {cs : List Value}, DImps xs ys → RepDs Z w xs cs → RepDs Z w ys cs
  | [], [], _, _, h => h
  | x :: xs, y :: ys, cs, h, h' => by
    simp only [RepDs] at h' ⊢
    obtain ⟨c1, c2, e, h1, h2⟩ := h'
    exact ⟨c1, c2, e, h.1 _ _ _ h1, DImps.reps Z w h.2 h2⟩
  | [], _ :: _, _, h, _ => h.elim
  | _ :: _, [], _, h, _ => h.elim
theorem DImps.len : ∀ {xs ys : List D}, DImps xs ys → ys.length = xs.length
  | [], [], _ => rfl
  | x :: xs, y :: ys, h => by simp [DImps.len h.2]
  | [], _ :: _, h => h.elim
  | _ :: _, [], h => h.elim
theorem DImps.els (Z : Zone) (w : World) {k b : Nat} : ∀ {xs ys : List D} {o : Nat}, DImps xs ys → RepEls Z w k b o xs → RepEls Z w k b o ys
  | [], [], _, _, h => h
  | x :: xs, y :: ys, o, h, h' => by
    simp only [RepEls] at h' ⊢
    obtain ⟨⟨cs, h1, h2, h3⟩, h4⟩ := h'
    exact ⟨⟨cs, h1, h2, h.1 _ _ _ h3⟩, DImps.els Z w h.2 h4⟩
  | [], _ :: _, _, h, _ => h.elim
  | _ :: _, [], _, h, _ => h.elim
theorem DImp_ag {xs ys : List D} (h : DImps xs ys) : DImp (.ag xs) (.ag ys) := fun Z w cs h' => by
  simp only [RepD] at h' ⊢
  exact h.reps Z w h'
theorem DImp_sl {k : Nat} {xs ys : List D} (h : DImps xs ys) : DImp (.sl k xs) (.sl k ys) := fun Z w cs h' => by
  simp only [RepD] at h' ⊢
  rcases h' with ⟨ad, h1, rfl⟩ | ⟨b, o, cap, h1, h2, h3⟩
  · have := h.len
    exact .inl ⟨ad, h1, List.length_eq_zero_iff.1 (by simpa using this)⟩
  · exact .inr ⟨b, o, cap, by rw [h.len]; exact h1, by rw [h.len]; exact h2, h.els Z w h3⟩
theorem Imp_d {x y : D} (h : DImp x y) (hg : x.isAg = y.isAg) : Imp (.d x) (.d y) := fun Z w γ L v hv => by
  cases hx : x.isAg with
  | true =>
    obtain ⟨cs, h1, h2⟩ := (rep_dag hx).1 hv
    exact (rep_dag (hg ▸ hx)).2 ⟨cs, h1, h _ _ _ h2⟩
  | false => exact (rep_dna (hg ▸ hx)).2 (h _ _ _ ((rep_dna hx).1 hv))
theorem Imp_own {j k : Nat} {xs ys : List D} (h : DImps xs ys) : Imp (.own j k xs) (.own j k ys) := fun Z w γ L v hv => by
  simp only [RepV, RepC, AV.isAg, Bool.false_eq_true, if_false, RepA] at hv ⊢
  obtain ⟨h1, h2, h3⟩ := hv
  refine ⟨h1, DImp_sl h _ _ _ h2, fun e n hn => ?_⟩
  rw [h.len]
  exact h3 e n hn
theorem Wk_rebox {j : Nat} {x y : D} (hj : s.L[j]? = some (.box (.d x))) (h : DImp x y) : Wk c s ⟨s.sl, s.L.set j (.box (.d y))⟩ := by
  rintro a w ⟨Z, γ, hR⟩
  obtain ⟨he, ha⟩ := hR.env.rebox (x' := .d y) hj (fun cs h' => by simp only [RepA] at h' ⊢; exact h _ _ _ h')
  exact ⟨Z, γ, hR.go he ha⟩
end
end Go.Eng
