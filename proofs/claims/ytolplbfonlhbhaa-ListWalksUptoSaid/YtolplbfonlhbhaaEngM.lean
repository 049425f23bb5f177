/- The engine, part M: weaker views of a state, results, functions' contracts. -/
import Derived.Test.YtolplbfonlhbhaaEngL
set_option linter.unusedVariables false
set_option linter.unusedSimpArgs false
set_option linter.unusedSectionVars false
namespace Go.Eng
open Go
variable [Globs]

mutual
def AV.bel (n : Nat) : AV → Prop
  | .d _ => True
  | .ag xs => AV.bels n xs
  | .ptr j _ _ => j < n
  | .vp _ => True
  | .own j _ _ => j < n
  | .bsl j _ _ _ _ _ => j < n
  | .gd _ x => x.bel n
  | .tup xs => AV.bels n xs
  | .undef => True
def AV.bels (n : Nat) : List AV → Prop
  | [] => True
  | x :: r => x.bel n ∧ AV.bels n r
end
def Res.bel (n : Nat) : Res → Prop
  | .box x => x.bel n
  | _ => True
def BelL (n : Nat) : List Res → Prop
  | [] => True
  | r :: l => r.bel n ∧ BelL n l

theorem BelL_mem {n : Nat} : ∀ {l : List Res}, BelL n l ↔ ∀ r ∈ l, r.bel n
  | [] => by simp [BelL]
  | r :: l => by simp [BelL, BelL_mem (l := l)]

section
variable {P : Program} {Z : Zone} {w : World} {γ : List Value} {L : List Res} {c : Ctx} {s : St}

mutual
theorem RepA_bel (hl : γ.length = L.length) : ∀ (x : AV) (cs : List Value), RepA Z w γ L x cs → x.bel L.length
  | .d x, cs, h => by simp only [AV.bel]
  | .ag xs, cs, h => by simp only [RepA] at h; simp only [AV.bel]; exact RepAs_bel hl xs cs h
  | .ptr j off p, cs, h => by
    simp only [RepA] at h; simp only [AV.bel]
    obtain ⟨b, h, _⟩ := h
    rw [← hl]; exact (List.getElem?_eq_some_iff.1 h).1
  | .vp x, cs, h => by simp only [AV.bel]
  | .own j k xs, cs, h => by simp only [RepA] at h; simp only [AV.bel]; exact h.1
  | .bsl j off k lo len p, cs, h => by
    simp only [RepA] at h; simp only [AV.bel]
    obtain ⟨b, a, cap, h, _⟩ := h
    rw [← hl]; exact (List.getElem?_eq_some_iff.1 h).1
  | .gd _ _, cs, h => by simp [RepA] at h
  | .tup _, cs, h => by simp [RepA] at h
  | .undef, cs, h => by simp [RepA] at h
theorem RepAs_bel (hl : γ.length = L.length) : ∀ (xs : List AV) (cs : List Value), RepAs Z w γ L xs cs → AV.bels L.length xs
  | [], cs, h => by simp only [AV.bels]
  | x :: r, cs, h => by
    simp only [RepAs] at h
    obtain ⟨c1, c2, rfl, h1, h2⟩ := h
    simp only [AV.bels]
    exact ⟨RepA_bel hl x c1 h1, RepAs_bel hl r c2 h2⟩
end

theorem Env.bel (h : Env L Z γ w) : BelL L.length L := by
  rw [BelL_mem]
  intro r hr
  obtain ⟨j, hj⟩ := List.mem_iff_getElem?.1 hr
  have hlt := (List.getElem?_eq_some_iff.1 hj).1
  have hg : γ[j]? = some (γ[j]'(by rw [h.len]; exact hlt)) := List.getElem?_eq_getElem _
  have := h.res j r _ hj hg
  cases r with
  | box x =>
    obtain ⟨b, cs, ty, fr, _, _, _, hx, _⟩ := this
    exact RepA_bel h.len x _ hx
  | _ => trivial

section
variable {G : List Res} {γG : List Value} (hl : γ.length = L.length)
include hl
mutual
theorem RepA_cut : ∀ (x : AV) (cs : List Value), x.bel L.length → RepA Z w (γ ++ γG) (L ++ G) x cs → RepA Z w γ L x cs
  | .d x, cs, hb, h => by simpa only [RepA] using h
  | .ag xs, cs, hb, h => by simp only [RepA, AV.bel] at h hb ⊢; exact RepAs_cut xs cs hb h
  | .ptr j off p, cs, hb, h => by
    simp only [RepA, AV.bel] at h hb ⊢
    obtain ⟨b, h, h'⟩ := h
    rw [List.getElem?_append_left (by omega)] at h
    exact ⟨b, h, h'⟩
  | .vp x, cs, hb, h => by simpa only [RepA] using h
  | .own j k xs, cs, hb, h => by
    simp only [RepA, AV.bel] at h hb ⊢
    refine ⟨hb, h.2.1, fun e n hn => ?_⟩
    have := h.2.2 e n (by rw [List.getElem?_append_left hb]; exact hn)
    rwa [List.getElem?_append_left (by omega)] at this
  | .bsl j off k lo len p, cs, hb, h => by
    simp only [RepA, AV.bel] at h hb ⊢
    obtain ⟨b, a, cap, h, h'⟩ := h
    rw [List.getElem?_append_left (by omega)] at h
    exact ⟨b, a, cap, h, h'⟩
  | .gd _ _, cs, hb, h => by simp [RepA] at h
  | .tup _, cs, hb, h => by simp [RepA] at h
  | .undef, cs, hb, h => by simp [RepA] at h
theorem RepAs_cut : ∀ (xs : List AV) (cs : List Value), AV.bels L.length xs → RepAs Z w (γ ++ γG) (L ++ G) xs cs → RepAs Z w γ L xs cs
  | [], cs, hb, h => by simpa only [RepAs] using h
  | x :: r, cs, hb, h => by
    simp only [RepAs, AV.bels] at h hb ⊢
    obtain ⟨c1, c2, e, h1, h2⟩ := h
    exact ⟨c1, c2, e, RepA_cut x c1 hb.1 h1, RepAs_cut r c2 hb.2 h2⟩
end
theorem RepC_cut (x : AV) (v : Value) (hb : x.bel L.length) (h : RepC Z w (γ ++ γG) (L ++ G) x v) : RepC Z w γ L x v := by
  unfold RepC at h ⊢
  split
  · rename_i hx
    rw [if_pos hx] at h
    obtain ⟨cs, h1, h2⟩ := h
    exact ⟨cs, h1, RepA_cut hl x _ hb h2⟩
  · rename_i hx
    rw [if_neg hx] at h
    exact RepA_cut hl x _ hb h
mutual
theorem RepV_cut : ∀ (x : AV) (v : Value), x.bel L.length → RepV Z w (γ ++ γG) (L ++ G) x v → RepV Z w γ L x v
  | .gd b x, v, hb, h => by simp only [RepV, AV.bel] at h hb ⊢; exact ⟨fun q => RepV_cut x v hb (h.1 q), h.2⟩
  | .tup xs, v, hb, h => by
    simp only [RepV, AV.bel] at h hb ⊢
    obtain ⟨vs, h1, h2⟩ := h
    exact ⟨vs, h1, RepVs_cut xs _ hb h2⟩
  | .undef, v, hb, h => by simp only [RepV]
  | .d x, v, hb, h => by simp only [RepV] at h ⊢; exact RepC_cut hl _ v hb h
  | .ag xs, v, hb, h => by simp only [RepV] at h ⊢; exact RepC_cut hl _ v hb h
  | .ptr .., v, hb, h => by simp only [RepV] at h ⊢; exact RepC_cut hl _ v hb h
  | .vp .., v, hb, h => by simp only [RepV] at h ⊢; exact RepC_cut hl _ v hb h
  | .own .., v, hb, h => by simp only [RepV] at h ⊢; exact RepC_cut hl _ v hb h
  | .bsl .., v, hb, h => by simp only [RepV] at h ⊢; exact RepC_cut hl _ v hb h
theorem RepVs_cut : ∀ (xs : List AV) (vs : List Value), AV.bels L.length xs → RepVs Z w (γ ++ γG) (L ++ G) xs vs → RepVs Z w γ L xs vs
  | [], vs, hb, h => by simpa only [RepVs] using h
  | x :: r, vs, hb, h => by
    simp only [RepVs, AV.bels] at h hb ⊢
    obtain ⟨v, l, e, h1, h2⟩ := h
    exact ⟨v, l, e, RepV_cut x v hb.1 h1, RepVs_cut r l hb.2 h2⟩
end
end

/-- owned memory given up -/
theorem Env.cut {L' G : List Res} {γ' : List Value} (h : Env (L' ++ G) Z γ' w) (hb : BelL L'.length L') :
    ∃ γ γG, γ' = γ ++ γG ∧ γ.length = L'.length ∧ Env L' Z γ w := by
  have hlen := h.len
  simp only [List.length_append] at hlen
  refine ⟨γ'.take L'.length, γ'.drop L'.length, (List.take_append_drop _ _).symm, by rw [List.length_take]; omega, ?_⟩
  have hl : (γ'.take L'.length).length = L'.length := by rw [List.length_take]; omega
  have hγ : γ' = γ'.take L'.length ++ γ'.drop L'.length := (List.take_append_drop _ _).symm
  have h1 : ∀ {j : Nat} {r : Res}, L'[j]? = some r → (L' ++ G)[j]? = some r := fun {j r} hj => by
    rw [List.getElem?_append_left (List.getElem?_eq_some_iff.1 hj).1]; exact hj
  have h2 : ∀ {j : Nat} {g : Value}, (γ'.take L'.length)[j]? = some g → γ'[j]? = some g := fun {j g} hj => by
    have hlt := (List.getElem?_eq_some_iff.1 hj).1
    rw [hl] at hlt
    rw [List.getElem?_take, if_pos hlt] at hj; exact hj
  refine ⟨hl, fun j r g hj hg => ?_, fun i j ri rj gi gj b a1 a2 a3 a4 a5 a6 => h.sep i j ri rj gi gj b (h1 a1) (h2 a2) (h1 a3) (h2 a4) a5 a6, h.zlt, h.glob⟩
  have hr := h.res j r g (h1 hj) (h2 hg)
  rw [hγ] at hr
  cases r with
  | box x =>
    obtain ⟨b, cs, ty, fr, e1, e2, e3, e4, e5⟩ := hr
    exact ⟨b, cs, ty, fr, e1, e2, e3, RepA_cut hl x _ ((BelL_mem.1 hb) _ (List.mem_of_getElem? hj)) e4, e5⟩
  | tok e k n => exact hr
  | dead => trivial

theorem Adv.cut {L0 : List Res} {Z0 : Zone} {γ0 : List Value} {w0 : World} {L' G : List Res} {γ γG : List Value} (h : Adv L0 Z0 γ0 w0 (L' ++ G) Z (γ ++ γG) w) (hl : γ.length = L'.length) (h0 : L0.length ≤ L'.length) (h0' : γ0.length = L0.length) :
    Adv L0 Z0 γ0 w0 L' Z γ w := by
  refine ⟨h.zone, ⟨h0, fun j b hj => ?_, fun j e k n' hj hn' => ?_⟩, h.step, fun b hb => h.foot b ?_, h.znew⟩
  · have := h.ext.ptr j b hj
    have hlt := (List.getElem?_eq_some_iff.1 hj).1
    rwa [List.getElem?_append_left (by omega)] at this
  · obtain ⟨n, g1, g2, g3⟩ := h.ext.tok j e k n' hj (by rw [List.getElem?_append_left (by omega)]; exact hn')
    refine ⟨n, g1, g2, fun q => ?_⟩
    have := g3 q
    rwa [List.getElem?_append_left (by omega)] at this
  · obtain ⟨j, r, g, a1, a2, a3⟩ := hb
    exact ⟨j, r, g, by rw [List.getElem?_append_left (List.getElem?_eq_some_iff.1 a1).1]; exact a1, by rw [List.getElem?_append_left (List.getElem?_eq_some_iff.1 a2).1]; exact a2, a3⟩

/-! ### weaker views -/
def Imp (X Y : AV) : Prop := ∀ (Z : Zone) (w : World) (γ : List Value) (L : List Res) (v : Value), RepV Z w γ L X v → RepV Z w γ L Y v
theorem Imp.refl (X : AV) : Imp X X := fun _ _ _ _ _ h => h
theorem Imp.undef (X : AV) : Imp X .undef := fun _ _ _ _ _ _ => by simp only [RepV]
theorem Imp.own (j k : Nat) (xs : List D) : Imp (.own j k xs) (.d (.sl k xs)) := fun _ _ _ _ _ h => by
  simp only [RepV, RepC, AV.isAg, D.isAg, RepA, Bool.false_eq_true, if_false] at h ⊢
  exact h.2.1
theorem Imp.nil (k : Nat) : Imp (.d (.raw (.slice none 0 0))) (.d (.sl k [])) := fun _ _ _ _ _ h => by
  obtain ⟨rfl, _⟩ := rep_raw.1 h
  simp [RepV, RepC, AV.isAg, D.isAg, RepA, RepD]
theorem Imp.ag (ds : List D) : Imp (.ag (ds.map .d)) (.d (.ag ds)) := fun _ _ _ _ _ h => by
  simp only [RepV, RepC, AV.isAg, D.isAg, if_true, RepA, RepD] at h ⊢
  obtain ⟨cs, h1, h2⟩ := h
  exact ⟨cs, h1, (RepAs_map _ _).1 h2⟩
theorem Imp.eq {X Y : AV} (h : X = Y) : Imp X Y := h ▸ Imp.refl X

def impL (s : St) : List (Nat × AV) → Prop
  | [] => True
  | (t, x) :: r => Imp (s.at t) x ∧ impL s r
def belS (n : Nat) : List (Nat × AV) → Prop
  | [] => True
  | (_, x) :: r => x.bel n ∧ belS n r

theorem at_nil (L : List Res) (t : Nat) : St.at ⟨[], L⟩ t = .undef := rfl
theorem at_cons (t' : Nat) (x : AV) (r : List (Nat × AV)) (L : List Res) (t : Nat) : St.at ⟨(t', x) :: r, L⟩ t = if t = t' then x else St.at ⟨r, L⟩ t := by
  by_cases h : t = t'
  · subst h; simp [St.at]
  · have : (t == t') = false := by simpa using h
    simp [St.at, List.lookup, this, h]

/-- THE STATE, SEEN MORE WEAKLY: fewer slots, less owned memory -/
theorem Wk_all {l' : List (Nat × AV)} {L' G : List Res} (hL : s.L = L' ++ G) (hi : impL s l') (hb : belS L'.length l') (hbl : BelL L'.length L') (h0 : c.L0.length ≤ L'.length) (h0' : c.γ0.length = c.L0.length) :
    Wk c s ⟨l', L'⟩ := by
  rintro a w ⟨Z, γ', hR⟩
  have henv := hR.env
  rw [hL] at henv
  obtain ⟨γ, γG, rfl, hl, henv'⟩ := henv.cut hbl
  have hadv := hR.adv
  rw [hL] at hadv
  refine ⟨Z, γ, hR.defers, hR.ntmps, ?_, henv', hadv.cut hl h0 h0'⟩
  intro t
  have hs := hR.slots
  clear hadv henv
  induction l' with
  | nil => rw [at_nil]; simp only [RepV]
  | cons p r ih =>
    obtain ⟨t', x⟩ := p
    simp only [impL, belS] at hi hb
    rw [at_cons]
    split
    · rename_i e
      subst e
      have := hi.1 _ _ _ _ _ (hs t)
      rw [hL] at this
      exact RepV_cut hl x _ hb.1 this
    · exact ih hi.2 hb.2

theorem Wk_slots {l' : List (Nat × AV)} (hi : impL s l') : Wk c s ⟨l', s.L⟩ := by
  rintro a w ⟨Z, γ, hR⟩
  refine ⟨Z, γ, hR.defers, hR.ntmps, ?_, hR.env, hR.adv⟩
  intro t
  have hs := hR.slots
  induction l' with
  | nil => rw [at_nil]; simp only [RepV]
  | cons p r ih =>
    obtain ⟨t', x⟩ := p
    simp only [impL] at hi
    rw [at_cons]
    split
    · rename_i e; subst e; exact hi.1 _ _ _ _ _ (hs t)
    · exact ih hi.2

/-- a nil slice, owned -/
theorem Wk_tok0 (e k t : Nat) (h : s.at t = .d (.raw (.slice none 0 0))) : Wk c s ⟨(t, .own s.L.length k []) :: s.sl, s.L ++ [.tok e k 0]⟩ := by
  rintro a w ⟨Z, γ, hR⟩
  obtain ⟨he, ha, hr⟩ := hR.env.tok0 e k
  refine ⟨Z, γ ++ [.slice none 0 0], hR.defers, hR.ntmps, fun t' => ?_, he, hR.adv.trans ha⟩
  rw [at_cons]
  split
  · rename_i e; subst e
    have := hR.slots t'
    rw [h] at this
    obtain ⟨e1, _⟩ := rep_raw.1 this
    rw [e1]; exact hr
  · exact RepV_mono ha.zone ha.step.zone ha.ext _ _ (hR.slots t')

omit [Globs] in
theorem ZOK_agg {t : Nat} {z : D} (h1 : P.info? t = some (P.info? t).get!) (h2 : (P.info? t).get!.zero = some (P.info? t).get!.zero.get!) (h3 : (P.info? t).get!.size = z.size)
    (h4 : z.flat = some (P.info? t).get!.zero.get!.cells.toList) (h5 : (P.info? t).get!.zero.get! = .agg (P.info? t).get!.zero.get!.cells) (h6 : z.isAg = true) : ZOK P t z :=
  ⟨_, _, h1, h2, h3, h4, fun _ => ⟨_, h5⟩, fun h => by rw [h6] at h; simp at h⟩
omit [Globs] in
theorem ZOK_one {t : Nat} {z : D} (h1 : P.info? t = some (P.info? t).get!) (h2 : (P.info? t).get!.zero = some (P.info? t).get!.zero.get!) (h3 : (P.info? t).get!.size = z.size)
    (h4 : z.flat = some (P.info? t).get!.zero.get!.cells.toList) (h5 : (P.info? t).get!.zero.get!.cells = #[(P.info? t).get!.zero.get!]) (h6 : z.isAg = false) : ZOK P t z :=
  ⟨_, _, h1, h2, h3, h4, fun h => by rw [h6] at h; simp at h, fun _ => h5⟩

/-! ### results -/
def retP (P : Program) (s : St) : List ResultVar → (List AV → Prop) → Prop
  | [], K => K []
  | .tmp t :: rs, K => (s.at t).use.1 ∧ retP P s rs fun l => K ((s.at t).use.2 :: l)
  | .cell x t :: rs, K => match pvLoad P s t (s.at x).use with
    | some (q, y) => q ∧ retP P s rs fun l => K (y :: l)
    | none => False
def retV : List AV → AV
  | [x] => x
  | l => .tup l

def resF (tmps : Array Value) : ResultVar → Sem Value
  | .tmp t => pure (tmps.getD t undef)
  | .cell x t => do loadVar t (← asAddr (tmps.getD x undef))
theorem results_eq (fn : Func) (tmps : Array Value) : results fn tmps = (fn.results.mapM (resF tmps)) >>= fun vs => pure (if h : vs.size = 1 then vs[0] else .tuple vs) := by
  unfold results
  congr 2

theorem retP_sound {Z : Zone} {γ : List Value} {a : Act} {w : World} (hR : RelZ c s Z γ a w) : ∀ (rs : List ResultVar) {K : List AV → Prop}, retP P s rs K →
    ∃ vs l, (rs.mapM (resF a.tmps)).run P w = .ok vs w ∧ RepVs Z w γ s.L l vs ∧ K l
  | [], K, h => ⟨[], [], by simp, by simp only [RepVs], h⟩
  | .tmp t :: rs, K, h => by
    simp only [retP] at h
    obtain ⟨vs, l, h1, h2, h3⟩ := retP_sound hR rs h.2
    refine ⟨a.tmps.getD t undef :: vs, _ :: l, by simp only [List.mapM_cons, Sem.run_bind, h1, resF, Sem.run_pure, Result.andThen_ok], ?_, h3⟩
    simp only [RepVs]
    exact ⟨_, _, rfl, use_sound (hR.slots t) h.1, h2⟩
  | .cell x t :: rs, K, h => by
    simp only [retP] at h
    split at h
    · rename_i q y hp
      obtain ⟨vs, l, h1, h2, h3⟩ := retP_sound hR rs h.2
      obtain ⟨v, hv, hr⟩ := pvLoad_sound hR (use_sound (hR.slots x)) hp h.1
      have hv := hv w (Ext.refl w)
      have hv' : (do loadVar t (← asAddr (a.tmps.getD x undef)) : Sem Value).run P w = .ok v w := by
        cases hq : a.tmps.getD x undef with
        | pointer p =>
          cases p with
          | some ad => rw [hq] at hv; simpa [Instr.loadAt, Instr.sureAddr, asAddr] using hv
          | none => rw [hq] at hv; simp [Instr.loadAt, Instr.sureAddr] at hv
        | _ => rw [hq] at hv; simp [Instr.loadAt, Instr.sureAddr] at hv
      refine ⟨v :: vs, y :: l, ?_, ?_, h3⟩
      · have e : (resF a.tmps (.cell x t)).run P w = .ok v w := hv'
        simp only [List.mapM_cons, Sem.run_bind, h1, e, Sem.run_pure, Result.andThen_ok]
      · simp only [RepVs]
        exact ⟨_, _, rfl, hr, h2⟩
    · exact h.elim

def retQ (P : Program) (c : Ctx) (rs : List ResultVar) (post : AV → List Res → Prop) : Exit → St → Prop
  | .normal, s | .ret, s => retP P s rs fun l => ∃ L' G, s.L = L' ++ G ∧ (retV l).bel L'.length ∧ BelL L'.length L' ∧ c.L0.length ≤ L'.length ∧ post (retV l) L'
  | _, _ => False

def enumA : Nat → List AV → List (Nat × AV)
  | _, [] => []
  | i, x :: r => (i, x) :: enumA (i + 1) r

theorem enumA_at {Z : Zone} {w : World} {γ : List Value} {L : List Res} : ∀ (args : List AV) (vs : List Value) (i : Nat) (pre : List Value) (tail : List Value), pre.length = i → RepVs Z w γ L args vs →
    ∀ t, RepV Z w γ L (St.at ⟨enumA i args, L⟩ t) ((pre ++ vs ++ tail).getD t undef)
  | [], vs, i, pre, tail, hp, h, t => by simp only [enumA]; rw [at_nil]; simp only [RepV]
  | x :: r, vs, i, pre, tail, hp, h, t => by
    simp only [RepVs] at h
    obtain ⟨v, l, rfl, h1, h2⟩ := h
    simp only [enumA]
    rw [at_cons]
    split
    · rename_i e
      subst e
      have : (pre ++ v :: l ++ tail).getD t undef = v := by
        simp only [List.append_assoc, List.cons_append, List.getD]
        rw [List.getElem?_append_right (by omega)]
        simp [hp]
      rw [this]; exact h1
    · have := enumA_at r l (i + 1) (pre ++ [v]) tail (by simp [hp]) h2 t
      simpa using this

/-- A FUNCTION's CONTRACT, out of its body -/
theorem Ok_intro {f : FuncId} {fn : Func} {code : Code} {args : List AV} {post : AV → List Res → Prop} (hf : P.funcs[f]? = some fn) (hn : (fn.name == "runtime.NumGoroutine") = false) (hb : fn.body = some code) (hargs : args.length ≤ fn.ntmps)
    (h : ∀ c : Ctx, c.N = fn.ntmps → c.L0 = L → c.γ0.length = c.L0.length → BelL L.length L → Wp P c code ⟨enumA 0 args, L⟩ (retQ P c fn.results.toList post)) : Ok P f args L post := by
  refine ⟨⟨fn, hf, hn, by simp [hb]⟩, fun w Z γ vs henv hreps => ?_⟩
  have hlen : vs.size = args.length := by
    have key : ∀ (xs : List AV) (l : List Value), RepVs Z w γ L xs l → l.length = xs.length := by
      intro xs
      induction xs with
      | nil => intro l hl; simp only [RepVs] at hl; subst hl; rfl
      | cons x r ih =>
        intro l hl
        simp only [RepVs] at hl
        obtain ⟨v, l', rfl, _, h2⟩ := hl
        simp [ih l' h2]
    simpa using key args vs.toList hreps
  refine calls_of_wp hf hb ?_
  have hR : Rel ⟨fn.ntmps, L, Z, γ, w⟩ ⟨enumA 0 args, L⟩ { tmps := vs ++ Array.replicate (fn.ntmps - vs.size) undef, defers := [] } w := by
    refine ⟨Z, γ, rfl, by simp; omega, fun t => ?_, henv, Adv.refl _ _ _ _⟩
    have := enumA_at args vs.toList 0 [] (List.replicate (fn.ntmps - vs.size) undef) rfl hreps t
    simp only [List.nil_append, List.getD] at this
    rw [Array.getD_eq_getD_getElem?, ← Array.getElem?_toList, Array.toList_append, Array.toList_replicate]
    exact this
  refine wp_mono (h ⟨fn.ntmps, L, Z, γ, w⟩ rfl rfl henv.len henv.bel _ _ hR) ?_
  rintro e a' w' ⟨s', hq, Z', γ', hR'⟩
  have fin : ∀ (hq : retP P s' fn.results.toList fun l => ∃ L' G, s'.L = L' ++ G ∧ (retV l).bel L'.length ∧ BelL L'.length L' ∧ L.length ≤ L'.length ∧ post (retV l) L'),
      a'.defers = [] ∧ ∃ v, (results fn a'.tmps).run P w' = .ok v w' ∧ ∃ v' r L' Z' γ', Ending.returned v = .returned v' ∧ post r L' ∧ RepV Z' w' γ' L' r v' ∧ Env L' Z' γ' w' ∧ Adv L Z γ w L' Z' γ' w' := by
    intro hq
    obtain ⟨rv, l, h1, h2, L', G, hL, hbel, hbl, h0, hp⟩ := retP_sound hR' fn.results.toList hq
    refine ⟨hR'.defers, ?_⟩
    have henv' := hR'.env
    rw [hL] at henv' h2
    obtain ⟨γ1, γG, rfl, hl1, henv1⟩ := henv'.cut hbl
    have hadv := hR'.adv
    rw [hL] at hadv
    have hadv1 := hadv.cut hl1 h0 henv.len
    have hv : ∃ v, (results fn a'.tmps).run P w' = .ok v w' ∧ RepV Z' w' (γ1 ++ γG) (L' ++ G) (retV l) v := by
      have hrun : (fn.results.mapM (resF a'.tmps)).run P w' = .ok rv.toArray w' := by
        rw [Array.mapM_eq_mapM_toList, Sem.run_map, h1]; rfl
      refine ⟨_, by rw [results_eq, Sem.run_bind, hrun]; rfl, ?_⟩
      match l, rv, h2 with
      | [], rv, h2 =>
        simp only [RepVs] at h2; subst h2
        simp only [retV, RepV]
        exact ⟨_, rfl, by simp only [RepVs]⟩
      | [x], rv, h2 =>
        simp only [RepVs] at h2
        obtain ⟨v, l', rfl, h3, rfl⟩ := h2
        simpa [retV] using h3
      | x :: y :: l, rv, h2 =>
        have h2' := h2
        simp only [RepVs] at h2
        obtain ⟨v, l', rfl, h3, v2, l2, rfl, h4, h5⟩ := h2
        simp only [retV, RepV]
        exact ⟨(v :: v2 :: l2).toArray, by simp, by simpa only [RepVs] using h2'⟩
    obtain ⟨v, hv1, hv2⟩ := hv
    exact ⟨v, hv1, v, retV l, L', Z', γ1, rfl, hp, RepV_cut hl1 _ _ hbel hv2, henv1, hadv1⟩
  cases e with
  | normal => exact fin hq
  | ret => exact fin hq
  | _ => exact hq.elim
end
end Go.Eng
