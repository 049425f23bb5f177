/- The engine, part G: slices, what is built; and all operations that leave memory alone. -/
import Derived.Test.YtolplbfonlhbhaaEngF
set_option linter.unusedVariables false
set_option linter.unusedSectionVars false
set_option linter.unusedSimpArgs false
namespace Go.Eng
open Go
variable [Globs]
section
variable {P : Program} {Z : Zone} {w : World} {γ : List Value} {L : List Res}

/-- what a bound of a slice expression is -/
def VB (v : Option Value) (b : Option (Prop × Int)) : Prop :=
  match v, b with
  | none, none => True
  | some v, some b => b.1 → ∃ k, v = .int k b.2
  | _, _ => False

theorem bd_sound {c0 : Ctx} {s : St} {a : Act} (hR : RelZ c0 s Z γ a w) {lo : Option Operand} {l : Option (Prop × Int)} (h : s.bd lo = some l) : VB (lo.map a.eval) l := by
  unfold St.bd at h
  split at h
  · simp only [Option.some.injEq] at h; subst h; trivial
  · rename_i x
    split at h
    · rename_i k n hn
      simp only [Option.some.injEq] at h
      subst h
      intro hc
      exact ⟨k, intOf_sound hn (use_sound (hR.ev x) hc)⟩
    · simp at h

theorem run_sliceBounds {isS : Bool} {len cap : Nat} {lo hi : Option Value} {l h : Option (Prop × Int)} (hl : VB lo l) (hh : VB hi h) (cl : bdC l) (ch : bdC h)
    (h0 : 0 ≤ bdN l 0) (h1 : bdN l 0 ≤ bdN h len) (h2 : bdN h len ≤ cap) :
    (Instr.sliceBounds isS len cap lo hi none).run P w = .ok ((bdN l 0).toNat, (bdN h len).toNat, cap) w := by
  cases lo with
  | none =>
    cases l with
    | some _ => exact hl.elim
    | none =>
      cases hi with
      | none =>
        cases h with
        | some _ => exact hh.elim
        | none => simp [Instr.sliceBounds, bdN]
      | some v =>
        cases h with
        | none => exact hh.elim
        | some q =>
          obtain ⟨k, rfl⟩ := hh ch
          simp only [bdN] at h0 h1 h2 ⊢
          simp [Instr.sliceBounds, Instr.sliceBound, asIntOf, h1, h2]
  | some u =>
    cases l with
    | none => exact hl.elim
    | some p =>
      obtain ⟨k', rfl⟩ := hl cl
      cases hi with
      | none =>
        cases h with
        | some _ => exact hh.elim
        | none =>
          simp only [bdN] at h0 h1 h2 ⊢
          simp [Instr.sliceBounds, Instr.sliceBound, asIntOf, h0, h1]
      | some v =>
        cases h with
        | none => exact hh.elim
        | some q =>
          obtain ⟨k, rfl⟩ := hh ch
          simp only [bdN] at h0 h1 h2 ⊢
          have h3 : 0 ≤ q.2 := Int.le_trans h0 h1
          have e : p.2 ≤ max q.2 0 := by omega
          simp [Instr.sliceBounds, Instr.sliceBound, asIntOf, h0, h1, h2, h3, e]

theorem rep_sl_mk {k b o cap n : Nat} {ad : Addr} {ds : List D} (hn : n = ds.length) (h1 : n ≤ cap) (h2 : 0 < n → ad = ⟨b, o, none⟩ ∧ RepEls Z w k b o ds) (hs : ad.spot = none) :
    RepV Z w γ L (.d (.sl k ds)) (.slice (some ad) n cap) := by
  subst hn
  simp only [RepV, RepC, AV.isAg, D.isAg, RepA, RepD, Bool.false_eq_true, if_false]
  by_cases h0 : 0 < ds.length
  · obtain ⟨rfl, h3⟩ := h2 h0
    exact .inr ⟨b, o, cap, rfl, h1, h3⟩
  · have : ds = [] := List.length_eq_zero_iff.1 (by omega)
    subst this
    obtain ⟨b', o', sp⟩ := ad
    simp only at hs
    subst hs
    exact .inr ⟨b', o', cap, rfl, h1, by simp only [RepEls]⟩

theorem sliceAt_slice {t e k by_ : Nat} {ag : Bool} {ad : Option Addr} {len cap : Nat} {lo hi : Option Value} {l h : Option (Prop × Int)} (ht : sliceT P t = some (e, k, by_, ag)) (hl : VB lo l) (hh : VB hi h) (cl : bdC l) (ch : bdC h)
    (h0 : 0 ≤ bdN l 0) (h1 : bdN l 0 ≤ bdN h len) (h2 : bdN h len ≤ cap) :
    (Instr.sliceAt t (.slice ad len cap) lo hi none).run P w = .ok (.slice (if cap = (bdN l 0).toNat then ad else ad.map (·.add ((bdN l 0).toNat * k))) ((bdN h len).toNat - (bdN l 0).toNat) (cap - (bdN l 0).toNat)) w := by
  obtain ⟨hu, hs, _⟩ := sliceT_some ht
  simp [Instr.sliceAt, run_under hu, Instr.slice, run_sliceBounds hl hh cl ch h0 h1 h2, run_sizeOf' hs]

theorem pvSlice_sound {t : TypeId} {x : Prop × AV} {v1 : Value} {lo hi : Option Value} {l h : Option (Prop × Int)} {c : Prop} {r : AV} (hx : x.1 → RepV Z w γ L x.2 v1)
    (hl : VB lo l) (hh : VB hi h) (hp : pvSlice P t x l h = some (c, r)) (hc : c) : ∃ v, (∀ w1, (Instr.sliceAt t v1 lo hi none).run P w1 = .ok v w1) ∧ RepV Z w γ L r v := by
  unfold pvSlice at hp
  split at hp
  · rename_i s e1
    simp only [Option.some.injEq, Prod.mk.injEq] at hp
    obtain ⟨rfl, rfl⟩ := hp
    obtain ⟨c1, cl, ch, ck, h0, h1, h2⟩ := hc
    have hx := hx c1; rw [e1] at hx
    obtain ⟨rfl, _⟩ := rep_raw.1 hx
    have hu := kindT_str ck
    exact ⟨_, fun w1 => by simp [Instr.sliceAt, run_under hu, Instr.slice, run_sliceBounds hl hh cl ch h0 h1 h2]; done, rep_raw.2 ⟨rfl, rfl⟩⟩
  · rename_i j off k lo' len p e1
    split at hp
    · rename_i e k' by_ ag ht
      simp only [Option.some.injEq, Prod.mk.injEq] at hp
      obtain ⟨rfl, rfl⟩ := hp
      obtain ⟨c1, cl, ch, rfl, h0, h1, h2⟩ := hc
      have hx := hx c1; rw [e1] at hx
      obtain ⟨b, ad, cap, hb, rfl, hle, had⟩ := rep_bsl hx
      refine ⟨_, fun w1 => sliceAt_slice ht hl hh cl ch h0 h1 (by omega), ?_⟩
      have ha : ∃ a', (if cap = (bdN l 0).toNat then some ad else (some ad).map (·.add ((bdN l 0).toNat * k'))) = some a' ∧ (0 < (bdN h len).toNat - (bdN l 0).toNat → a' = ⟨b, off + (lo' + (bdN l 0).toNat) * k', none⟩) := by
        split
        · exact ⟨ad, rfl, fun hlt => by omega⟩
        · refine ⟨_, rfl, fun hlt => ?_⟩
          obtain rfl := had (by omega)
          show (⟨b, off + lo' * k', none⟩ : Addr).add _ = _
          rw [add_eq, Nat.add_mul, Nat.add_assoc]
      obtain ⟨a', ha', hb'⟩ := ha
      rw [ha']
      exact rep_bsl_mk hb (by omega) hb'
    · simp at hp
  · rename_i j off p e1
    split at hp
    · rename_i n k ag ht
      simp only [Option.some.injEq, Prod.mk.injEq] at hp
      obtain ⟨rfl, rfl⟩ := hp
      obtain ⟨c1, cl, ch, h0, h1, h2⟩ := hc
      have hx := hx c1; rw [e1] at hx
      obtain ⟨b, hb, rfl⟩ := rep_ptr hx
      obtain ⟨e, hu, hs, _⟩ := arrT_some ht
      refine ⟨.slice (some (if n = (bdN l 0).toNat then ⟨b, off, none⟩ else (⟨b, off, none⟩ : Addr).add ((bdN l 0).toNat * k))) ((bdN h n).toNat - (bdN l 0).toNat) (n - (bdN l 0).toNat), ?_, rep_bsl_mk hb (by omega) (fun hlt => ?_)⟩
      · intro w1
        simp [Instr.sliceAt, run_under hu, Instr.sureAddr, run_sliceBounds hl hh cl ch h0 h1 h2, run_sizeOf' hs]
      · rw [if_neg (by omega), add_eq]
    · simp at hp
  · split at hp
    · rename_i k ds e k' by_ ag hels ht
      simp only [Option.some.injEq, Prod.mk.injEq] at hp
      obtain ⟨rfl, rfl⟩ := hp
      obtain ⟨c1, cl, ch, rfl, h0, h1, h2⟩ := hc
      have hlen : ((ds.take (bdN h ds.length).toNat).drop (bdN l 0).toNat).length = (bdN h ds.length).toNat - (bdN l 0).toNat := by
        rw [List.length_drop, List.length_take, Nat.min_eq_left (by omega)]
      rcases els_sound hels (hx c1) with ⟨ad, rfl, rfl⟩ | ⟨b, o, cap, rfl, hle, hr⟩
      · have h3 : bdN h (([] : List D).length) ≤ (0 : Nat) := by simpa using h2
        refine ⟨_, fun w1 => sliceAt_slice (len := 0) (cap := 0) ht hl hh cl ch h0 (by simpa using h1) h3, ?_⟩
        have z1 : (bdN l 0).toNat = 0 := by simp only [List.length_nil] at h1 h2; omega
        simp [z1, RepV, RepC, AV.isAg, D.isAg, RepA, RepD]
        exact .inl (by simpa using h2)
      · refine ⟨_, fun w1 => sliceAt_slice ht hl hh cl ch h0 h1 (by omega), ?_⟩
        have ha : ∃ a', (if cap = (bdN l 0).toNat then some ⟨b, o, none⟩ else (some (⟨b, o, none⟩ : Addr)).map (·.add ((bdN l 0).toNat * k'))) = some a' ∧ a'.spot = none ∧ (0 < (bdN h ds.length).toNat - (bdN l 0).toNat → a' = ⟨b, o + (bdN l 0).toNat * k', none⟩) := by
          split
          · exact ⟨_, rfl, rfl, fun hlt => by omega⟩
          · exact ⟨⟨b, o + (bdN l 0).toNat * k', none⟩, by show some ((⟨b, o, none⟩ : Addr).add _) = _; rw [add_eq], rfl, fun hlt => rfl⟩
        obtain ⟨a', ha', hsp, hb'⟩ := ha
        rw [ha']
        exact rep_sl_mk (b := b) (o := o + (bdN l 0).toNat * k') hlen.symm (by omega) (fun hlt => ⟨hb' hlt, RepEls_drop _ (RepEls_take _ hr)⟩) hsp
    · simp at hp

/-! ### zero values -/
mutual
theorem flat_sound : ∀ (d : D) (cs : List Value), d.flat = some cs → RepD Z w d cs
  | .raw v, cs, h => by
    simp only [D.flat] at h
    split at h
    · simp only [Option.some.injEq] at h
      subst h
      simp only [RepD]
      exact ⟨trivial, by assumption⟩
    · simp at h
  | .ag ds, cs, h => by simp only [D.flat] at h; simp only [RepD]; exact flats_sound ds cs h
  | .arr n k ds, cs, h => by
    simp only [D.flat] at h
    split at h
    · rename_i hk
      simp only [RepD]
      exact ⟨hk.1, alls_sound k ds hk.2, flats_sound ds cs h⟩
    · simp at h
  | .sl k ds, cs, h => by simp [D.flat] at h
theorem flats_sound : ∀ (ds : List D) (cs : List Value), D.flats ds = some cs → RepDs Z w ds cs
  | [], cs, h => by simp only [D.flats, Option.some.injEq] at h; subst h; simp only [RepDs]
  | d :: r, cs, h => by
    simp only [D.flats] at h
    split at h
    · rename_i a b h1 h2
      simp only [Option.some.injEq] at h
      subst h
      simp only [RepDs]
      exact ⟨a, b, rfl, flat_sound d a h1, flats_sound r b h2⟩
    · simp at h
theorem alls_sound (k : Nat) : ∀ (ds : List D), D.alls k ds = true → ∀ x ∈ ds, x.size = k
  | [], _ => by simp
  | d :: r, h => by
    simp only [D.alls, Bool.and_eq_true, beq_iff_eq] at h
    intro x hx
    rcases List.mem_cons.1 hx with rfl | hx
    · exact h.1
    · exact alls_sound k r h.2 x hx
end

theorem ZOK_run {t : Nat} {z : D} (h : ZOK P t z) : ∃ v, (∀ w1, (zeroValue t).run P w1 = .ok v w1) ∧ RepD Z w z v.cells.toList ∧ RepV Z w γ L (.d z) v ∧ szT P t = some z.size := by
  obtain ⟨v, i, h1, h2, h3, h4, h5, h6⟩ := h
  refine ⟨v, fun w1 => by simp [zeroValue, typeInfo, h1, h2], flat_sound z _ h4, ?_, by simp [szT, h1, h3]⟩
  cases hz : z.isAg with
  | true =>
    obtain ⟨c, rfl⟩ := h5 hz
    rw [rep_dag hz]
    exact ⟨c, rfl, flat_sound z _ h4⟩
  | false =>
    rw [rep_dna hz]
    have := flat_sound (Z := Z) (w := w) z _ h4
    have e := h6 hz
    rw [e] at this
    have : v.cells = #[v] := e
    simpa [this] using flat_sound (Z := Z) (w := w) z _ h4

theorem allD_sound : ∀ (xs : List AV) (ds : List D), allD xs = some ds → xs = ds.map .d
  | [], ds, h => by simp only [allD, Option.some.injEq] at h; subst h; rfl
  | x :: r, ds, h => by
    simp only [allD] at h
    split at h
    · rename_i a b h1 h2
      simp only [Option.some.injEq] at h
      subst h
      have := allD_sound r b h2
      subst this
      cases x <;> simp_all [AV.toD]
    · simp at h
theorem RepAs_map : ∀ (ds : List D) (cs : List Value), RepAs Z w γ L (ds.map .d) cs ↔ RepDs Z w ds cs
  | [], cs => by simp only [List.map_nil, RepAs, RepDs]
  | d :: r, cs => by
    simp only [List.map_cons, RepAs, RepDs, RepA]
    constructor
    · rintro ⟨c1, c2, h0, h1, h2⟩; exact ⟨c1, c2, h0, h1, (RepAs_map r c2).1 h2⟩
    · rintro ⟨c1, c2, h0, h1, h2⟩; exact ⟨c1, c2, h0, h1, (RepAs_map r c2).2 h2⟩
theorem mkAg_sound {xs : List AV} {cs : Array Value} (h : RepAs Z w γ L xs cs.toList) : RepV Z w γ L (mkAg xs) (.agg cs) := by
  unfold mkAg
  split
  · rename_i ds hd
    have := allD_sound xs ds hd
    subst this
    rw [rep_dag rfl]
    exact ⟨cs, rfl, by simpa only [RepD] using (RepAs_map ds _).1 h⟩
  · simp only [RepV, RepC, AV.isAg, if_true, RepA]
    exact ⟨cs, rfl, h⟩

theorem AV.sizes_map : ∀ (ds : List D), AV.sizes (ds.map .d) = D.sizes ds
  | [] => rfl
  | x :: r => by simp [AV.sizes, D.sizes, AV.size, AV.sizes_map r]

/-- one part put in -/
theorem RepAs_set : ∀ {xs : List AV} {i : Nat} {x y : AV} {cs c' : List Value}, RepAs Z w γ L xs cs → xs[i]? = some x → y.size = x.size → RepA Z w γ L y c' →
    RepAs Z w γ L (xs.set i y) (cs.take (AV.sizes (xs.take i)) ++ c' ++ cs.drop (AV.sizes (xs.take i) + x.size)) := by
  intro xs i x y cs c' h hi hy hr
  have hlt : i < xs.length := (List.getElem?_eq_some_iff.1 hi).1
  have e := split_at hi
  have h' := h
  rw [e] at h'
  obtain ⟨c1, c2, rfl, h1, h2⟩ := RepAs_append h'
  simp only [RepAs] at h2
  obtain ⟨c3, c4, rfl, h3, h4⟩ := h2
  have l1 := RepAs_len Z w γ L _ _ h1
  have l3 := RepA_len Z w γ L _ _ h3
  have e2 : xs.set i y = xs.take i ++ (y :: xs.drop (i + 1)) := by
    rw [List.set_eq_take_append_cons_drop, if_pos hlt]
  rw [e2]
  have t1 : (c1 ++ (c3 ++ c4)).take (AV.sizes (xs.take i)) = c1 := by rw [← l1]; simp
  have t2 : (c1 ++ (c3 ++ c4)).drop (AV.sizes (xs.take i) + x.size) = c4 := by rw [← l1, ← l3, ← List.drop_drop]; simp
  rw [t1, t2, List.append_assoc]
  refine RepAs_join h1 ?_
  simp only [RepAs]
  exact ⟨c', c4, rfl, hr, h4⟩

theorem AV.sizes_set : ∀ {xs : List AV} {i : Nat} {y : AV}, y.size = (xs.getD i .undef).size → ∀ n, AV.sizes ((xs.set i y).take n) = AV.sizes (xs.take n)
  | [], i, y, h, n => by simp
  | x :: r, 0, y, h, n => by
    cases n with
    | zero => simp
    | succ n => simp only [List.set_cons_zero, List.take_succ_cons, AV.sizes]; simp only [List.getD_cons_zero] at h; rw [h]
  | x :: r, i + 1, y, h, n => by
    cases n with
    | zero => simp
    | succ n => simp only [List.set_cons_succ, List.take_succ_cons, AV.sizes]; rw [AV.sizes_set (by simpa using h)]

/-- a whole value's cells -/
theorem RepC_cells {x : AV} {v : Value} (h : RepC Z w γ L x v) : RepA Z w γ L x v.cells.toList := by
  unfold RepC at h
  split at h
  · obtain ⟨cs, rfl, h⟩ := h; simpa [Value.cells] using h
  · rename_i hx
    have h1 := RepA_one Z w γ L x _ h v (by simp)
    cases v <;> simp_all [Value.cells, Value.oneCell']
theorem RepV_C {x : AV} {v : Value} (h : RepV Z w γ L x v) (h1 : ∀ b y, x ≠ .gd b y) (h2 : ∀ l, x ≠ .tup l) (h3 : x ≠ .undef) : RepC Z w γ L x v := by
  cases x with
  | gd b y => exact (h1 b y rfl).elim
  | tup l => exact (h2 l rfl).elim
  | undef => exact (h3 rfl).elim
  | _ => simpa only [RepV] using h

theorem setCells_eq (v : Array Value) : ∀ (l : List Value) (o : Nat) (cs : Array Value) (m : Nat), o + m + l.length ≤ cs.size →
    ((l.zipIdx m).foldl (fun (cs : Array Value) (p : Value × Nat) => cs.setIfInBounds (o + p.2) p.1) cs).toList = cs.toList.take (o + m) ++ l ++ cs.toList.drop (o + m + l.length)
  | [], o, cs, m, h => by simp
  | x :: l, o, cs, m, h => by
    simp only [List.length_cons] at h
    simp only [List.zipIdx_cons, List.foldl_cons]
    rw [setCells_eq v l o _ (m + 1) (by simp; omega)]
    simp only [Array.toList_setIfInBounds]
    have h1 : o + m < cs.toList.length := by simpa using (by omega : o + m < cs.size)
    rw [List.take_set, List.drop_set_of_lt (by omega)]
    rw [show o + (m + 1) = (o + m) + 1 by omega, List.take_succ_eq_append_getElem h1]
    have h2 : (List.take (o + m) cs.toList).length = o + m := by rw [List.length_take]; omega
    rw [List.set_append_right _ _ (by omega), h2]
    simp only [Nat.sub_self, List.set_cons_zero, List.append_assoc, List.singleton_append, List.cons_append, List.length_cons]
    rw [show o + m + (l.length + 1) = o + m + 1 + l.length by omega]
    simp

theorem zeroD_info {n t : Nat} {cs : List Value} (h : (zeroD P n t).flat = some cs) : ∃ i, P.info? t = some i := by
  cases n with
  | zero => simp [zeroD, D.flat, undef, Value.oneCell'] at h
  | succ n =>
    cases hi : P.info? t with
    | some i => exact ⟨i, rfl⟩
    | none =>
      have hu : P.underlying t = none := by simp [Program.underlying, hi]
      simp [zeroD, hu, hi, D.flat, undef, Value.oneCell'] at h
theorem flats_mem : ∀ {ds : List D} {cs : List Value}, D.flats ds = some cs → ∀ d ∈ ds, ∃ c, d.flat = some c
  | [], cs, h => by simp
  | d :: r, cs, h => by
    simp only [D.flats] at h
    split at h
    · rename_i a b h1 h2
      intro x hx
      rcases List.mem_cons.1 hx with rfl | hx
      · exact ⟨a, h1⟩
      · exact flats_mem h2 x hx
    · simp at h

theorem run_mapM_fields (fs : List Field) (h : ∀ f ∈ fs, ∃ i, P.info? f.type = some i) :
    (fs.mapM fun f => (do pure (f.offset, ← sizeOf f.type) : Sem (Nat × Nat))).run P w = .ok (fs.map fun f => (f.offset, P.cellsOf f.type)) w := by
  induction fs with
  | nil => simp
  | cons f r ih =>
    obtain ⟨i, hi⟩ := h f (by simp)
    have ih := ih (fun g hg => h g (by simp [hg]))
    simp only [List.mapM_cons, Sem.run_bind, List.map_cons]
    have e : (sizeOf f.type).run P w = .ok (P.cellsOf f.type) w := by simp [sizeOf, typeInfo, hi, Program.cellsOf]
    simp only [bind_pure_comp] at ih
    simp [e, ih]

theorem fill_sound (place : Nat → Option (Nat × Nat)) : ∀ (parts : List (Nat × (Prop × AV))) (vs : List (Nat × Value)) (xs : List AV) (cells : Array Value),
    parts.length = vs.length →
    (∀ (j : Nat) (i : Nat) (q : Prop) (y : AV) (i' : Nat) (v : Value), parts[j]? = some (i, q, y) → vs[j]? = some (i', v) → i = i' ∧ (q → RepV Z w γ L y v)) →
    RepAs Z w γ L xs cells.toList → (fillP place parts xs).1 → ∃ cs, Instr.fill place cells vs = some cs ∧ RepAs Z w γ L (fillP place parts xs).2 cs.toList
  | [], [], xs, cells, _, _, hr, _ => ⟨cells, rfl, hr⟩
  | [], _ :: _, _, _, hl, _, _, _ => by simp at hl
  | _ :: _, [], _, _, hl, _, _, _ => by simp at hl
  | (i, q, y) :: r, (i', v) :: vs, xs, cells, hl, hm, hr, hc => by
    simp only [fillP] at hc ⊢
    obtain ⟨hq, hi, hsz, hpl, hval, hrest⟩ := hc
    obtain ⟨rfl, hrep⟩ := hm 0 i q y i' v rfl rfl
    have hx : xs[i]? = some (xs.getD i .undef) := by simp [List.getD, hi]
    have hC := RepV_C (hrep hq) (fun b z e => by rw [e] at hval; simp [AV.isVal] at hval) (fun l e => by rw [e] at hval; simp [AV.isVal] at hval) (fun e => by rw [e] at hval; simp [AV.isVal] at hval)
    have hcells := RepC_cells hC
    have hlen := RepA_len Z w γ L _ _ hcells
    have hset := RepAs_set hr hx hsz hcells
    have hfit := (RepAs_nth hr hx).2
    rw [Array.length_toList] at hfit
    have hvs : v.cells.size = y.size := by simpa using hlen
    have hstep : (v.cells.zipIdx.foldl (fun cs (p : Value × Nat) => cs.setIfInBounds (AV.sizes (xs.take i) + p.2) p.1) cells).toList =
        cells.toList.take (AV.sizes (xs.take i)) ++ v.cells.toList ++ cells.toList.drop (AV.sizes (xs.take i) + (xs.getD i .undef).size) := by
      have := setCells_eq v.cells v.cells.toList (AV.sizes (xs.take i)) cells 0 (by rw [Nat.add_zero, hlen, hsz]; exact hfit)
      rw [← Array.foldl_toList, Array.toList_zipIdx]
      simp only [Nat.add_zero] at this
      rw [this, hlen, hsz]
    rw [← hstep] at hset
    have ih := fill_sound place r vs (xs.set i y) (v.cells.zipIdx.foldl (fun cs (p : Value × Nat) => cs.setIfInBounds (AV.sizes (xs.take i) + p.2) p.1) cells) (by simpa using hl)
      (fun j a b c d e h1 h2 => hm (j + 1) a b c d e (by simpa using h1) (by simpa using h2)) hset hrest
    obtain ⟨cs, h1, h2⟩ := ih
    refine ⟨cs, ?_, h2⟩
    simp only [Instr.fill, hpl]
    have c1 : ¬ (v.cells.size ≠ y.size) := by simp [hvs]
    have c2 : ¬ (AV.sizes (xs.take i) + y.size > cells.size) := by rw [hsz]; omega
    simp only [ne_eq, hvs, not_true_eq_false, decide_false, Bool.false_or]
    rw [if_neg (by simpa using c2)]
    exact h1

theorem pvBuild_sound {c0 : Ctx} {s : St} {a : Act} (hR : RelZ c0 s Z γ a w) {t : TypeId} {parts : List (Nat × Operand)} {c : Prop} {r : AV}
    (h : pvBuild P s t parts = some (c, r)) (hc : c) : ∃ v, (∀ w1, (Instr.build t (parts.map fun q => (q.1, a.eval q.2)).toArray).run P w1 = .ok v w1) ∧ RepV Z w γ s.L r v := by
  unfold pvBuild at h
  split at h
  · rename_i zs hz
    simp only [Option.some.injEq, Prod.mk.injEq] at h
    obtain ⟨rfl, rfl⟩ := h
    obtain ⟨hzok, hfill⟩ := hc
    obtain ⟨v, hv, hrd, _, _⟩ := ZOK_run (P := P) (Z := Z) (w := w) (γ := γ) (L := s.L) hzok
    have hu : ∃ fs, P.underlying t = some (.struct fs) ∧ zs = fs.toList.map fun f => zeroD P 8 f.type := by
      unfold zeroD at hz
      split at hz
      · rename_i fs hu
        simp only [D.ag.injEq] at hz
        exact ⟨fs, hu, hz.symm⟩
      · simp at hz
      · split at hz <;> simp at hz
    obtain ⟨fs, hu, hzs⟩ := hu
    obtain ⟨v', i', g1, g2, g3, g4, g5, g6⟩ := hzok
    have hinfo : ∀ f ∈ fs.toList, ∃ i, P.info? f.type = some i := by
      intro f hf
      simp only [D.flat] at g4
      obtain ⟨c, hc⟩ := flats_mem g4 (zeroD P 8 f.type) (by rw [hzs]; exact List.mem_map_of_mem hf)
      exact zeroD_info hc
    have hmap := fun w1 => run_mapM_fields (P := P) (w := w1) fs.toList hinfo
    simp only [RepD] at hrd
    have hplace : ∀ (i o k : Nat) (ag : Bool), fldT P t i = some (o, k, ag) → ((fs.toList.map fun f => (f.offset, P.cellsOf f.type)).toArray)[i]? = some (o, k) := by
      intro i o k ag hf
      obtain ⟨fs', f, hu', hfi, rfl, hs, _⟩ := fldT_some hf
      rw [hu] at hu'
      simp only [Option.some.injEq, TypeDesc.struct.injEq] at hu'
      subst hu'
      have : fs.toList[i]? = some f := by simpa using hfi
      have hk : P.cellsOf f.type = k := by simpa [szT, Program.cellsOf] using (by rw [Program.cellsOf]; rw [szT] at hs; rw [hs]; rfl : P.cellsOf f.type = k)
      simp only [List.getElem?_toArray, List.getElem?_map, this, Option.map_some, hk]
    have hf := fill_sound (Z := Z) (w := w) (γ := γ) (L := s.L) (placeT P t) (parts.map fun q => (q.1, s.us q.2)) (parts.map fun q => (q.1, a.eval q.2)) (zs.map .d) v.cells (by simp) (by
      intro j i q y i' u h1 h2
      simp only [List.getElem?_map, Option.map_eq_some_iff, Prod.mk.injEq] at h1 h2
      obtain ⟨p1, hp1, rfl, hq⟩ := h1
      obtain ⟨p2, hp2, rfl, rfl⟩ := h2
      rw [hp1] at hp2
      simp only [Option.some.injEq] at hp2
      subst hp2
      refine ⟨rfl, fun hh => ?_⟩
      have := use_sound (hR.ev p1.2)
      have e : s.us p1.2 = (q, y) := hq
      unfold St.us at e
      rw [e] at this
      exact this hh) ((RepAs_map zs _).2 hrd) hfill
    obtain ⟨cs, hcs, hrep⟩ := hf
    refine ⟨.agg cs, ?_, mkAg_sound hrep⟩
    have hfe : ∀ (l : List (Nat × Value)) (cells cs : Array Value), Instr.fill (placeT P t) cells l = some cs → Instr.fill (fun i => ((fs.toList.map fun f => (f.offset, P.cellsOf f.type)).toArray)[i]?) cells l = some cs := by
      intro l
      induction l with
      | nil => intro cells cs h; simpa [Instr.fill] using h
      | cons q l ih =>
        intro cells cs h
        simp only [Instr.fill] at h ⊢
        cases hp : placeT P t q.1 with
        | none => simp [hp] at h
        | some ok =>
          have : ((fs.toList.map fun f => (f.offset, P.cellsOf f.type)).toArray)[q.1]? = some ok := by
            unfold placeT at hp
            cases hfl : fldT P t q.1 with
            | none => simp [hfl] at hp
            | some f =>
              simp [hfl] at hp
              obtain ⟨o, k, ag⟩ := f
              subst hp
              exact hplace _ _ _ _ hfl
          simp only [hp, this] at h ⊢
          split at h
          · simp at h
          · rename_i hne
            rw [if_neg hne]
            exact ih _ _ h
    have := hfe _ _ _ hcs
    intro w1
    simp only [Instr.build, Sem.run_bind, hv, Result.andThen_ok, run_under hu, Array.mapM_eq_mapM_toList, Sem.run_map, hmap]
    simp only [this, Sem.run_pure]
  · simp at h

def isLoad : Op → Bool
  | .load _ _ => true
  | _ => false

theorem pv_sound {c0 : Ctx} {s : St} {a : Act} (hR : RelZ c0 s Z γ a w) {o : Oper} {c : Prop} {r : AV} (h : pv P s o.op = some (c, r)) (hc : c) :
    ∃ v, (∀ w1, (isLoad o.op = true → Ext w w1) → (execOp a.eval o).run P w1 = .ok (.value v) w1) ∧ RepV Z w γ s.L r v := by
  have hus : ∀ x : Operand, (s.us x).1 → RepV Z w γ s.L (s.us x).2 (a.eval x) := fun x => use_sound (hR.ev x)
  obtain ⟨dst, op, ty, pos, after, guard⟩ := o
  simp only at h
  cases op with
  | move x => simp only [pv, Option.some.injEq, Prod.mk.injEq] at h; obtain ⟨rfl, rfl⟩ := h; exact ⟨_, fun w1 hw1 => by simp [execOp], hR.ev x⟩
  | assign x => simp only [pv, Option.some.injEq, Prod.mk.injEq] at h; obtain ⟨rfl, rfl⟩ := h; exact ⟨_, fun w1 hw1 => by simp [execOp], hR.ev x⟩
  | pick cc x y =>
    simp only [pv] at h
    split at h
    · rename_i b hb
      simp only [Option.some.injEq, Prod.mk.injEq] at h
      obtain ⟨rfl, rfl⟩ := h
      obtain ⟨c1, c2, c3⟩ := hc
      have h1 := hus cc c1
      rw [hb] at h1
      obtain ⟨e1, _⟩ := rep_raw.1 h1
      refine ⟨if b then a.eval x else a.eval y, fun w1 hw1 => by cases b <;> simp [execOp, e1, asBool], ?_⟩
      have key : RepV Z w γ s.L (bif b then (s.us x).2 else (s.us y).2) (if b then a.eval x else a.eval y) := by
        cases b with
        | true => exact hus x (c2 rfl)
        | false => exact hus y (c3 rfl)
      unfold pickV
      split
      · rename_i p q e2 e3
        cases b with
        | true => simpa [e2] using key
        | false => simpa [e3] using key
      · exact key
    · simp at h
  | load t x =>
    obtain ⟨v, h1, h2⟩ := pvLoad_sound hR (hus x) h hc
    exact ⟨v, fun w1 hw1 => by simp [execOp, h1 w1 (hw1 rfl)], h2⟩
  | nilCheck x =>
    simp only [pv] at h
    split at h
    · rename_i j off p e
      simp only [Option.some.injEq] at h
      have h1 := hus x
      rw [h] at h1 e
      simp only at e
      subst e
      obtain ⟨b, hb, hv⟩ := rep_ptr (h1 hc)
      exact ⟨a.eval x, fun w1 hw1 => by simp [execOp, hv], h1 hc⟩
    · rename_i y e
      simp only [Option.some.injEq] at h
      have h1 := hus x
      rw [h] at h1 e
      simp only at e
      subst e
      obtain ⟨b, o, cs, hv, _⟩ := rep_vp (h1 hc)
      exact ⟨a.eval x, fun w1 hw1 => by simp [execOp, hv], h1 hc⟩
    · simp at h
  | binOp op t x y yt =>
    obtain ⟨v, h1, h2⟩ := pvBin_sound (xo := x) (yo := y) (hus x) (hus y) h hc
    exact ⟨v, fun w1 hw1 => by simp only [execOp, Sem.run_bind] at h1 ⊢; simp [h1], h2⟩
  | unOp op t x =>
    obtain ⟨v, h1, h2⟩ := pvUn_sound (P := P) (hus x) h hc
    exact ⟨v, fun w1 hw1 => by simp [execOp, h1], h2⟩
  | convert src dst x =>
    obtain ⟨v, h1, h2⟩ := pvConv_sound (hus x) h hc
    exact ⟨v, fun w1 hw1 => by simp [execOp, h1], h2⟩
  | slice t x lo hi mx =>
    cases mx with
    | some m => simp [pv] at h
    | none =>
      simp only [pv] at h
      split at h
      · rename_i l hh hl hhi
        obtain ⟨v, h1, h2⟩ := pvSlice_sound (hus x) (bd_sound hR hl) (bd_sound hR hhi) h hc
        exact ⟨v, fun w1 hw1 => by simp [execOp, h1], h2⟩
      · simp at h
  | fieldAddr t x i =>
    obtain ⟨v, h1, h2⟩ := pvFieldAddr_sound (hus x) h hc
    exact ⟨v, fun w1 hw1 => by simp [execOp, h1], h2⟩
  | field t x i =>
    obtain ⟨v, h1, h2⟩ := pvField_sound (hus x) h hc
    exact ⟨v, fun w1 hw1 => by simp [execOp, h1], h2⟩
  | indexAddr t x i =>
    obtain ⟨v, h1, h2⟩ := pvIdxAddr_sound (hus x) (hus i) h hc
    exact ⟨v, fun w1 hw1 => by simp [execOp, h1], h2⟩
  | index t x i =>
    obtain ⟨v, h1, h2⟩ := pvIdx_sound (hus x) (hus i) h hc
    exact ⟨v, fun w1 hw1 => by simp [execOp, h1], h2⟩
  | extract x i =>
    obtain ⟨v, h1, h2⟩ := pvExtract_sound (P := P) (hus x) h hc
    exact ⟨v, fun w1 hw1 => by simp [execOp, h1], h2⟩
  | build t ps =>
    obtain ⟨v, h1, h2⟩ := pvBuild_sound hR h hc
    have e : (ps.map fun (q : Nat × Operand) => (q.1, a.eval q.2)) = (ps.toList.map fun q => (q.1, a.eval q.2)).toArray := by
      apply Array.ext'; simp
    exact ⟨v, fun w1 hw1 => by simp only [execOp]; simp only [e]; simp [h1], h2⟩
  | call cl =>
    simp only [pv] at h
    obtain ⟨callee, args, ats⟩ := cl
    obtain ⟨args⟩ := args
    obtain ⟨ats⟩ := ats
    unfold pvCall at h
    simp only at h
    split at h
    · split at h
      · rename_i x t
        obtain ⟨v, h1, h2⟩ := pvLen_sound (P := P) (ty := ty) (hus _) h hc
        exact ⟨v, fun w1 hw1 => by simp [execOp, resolve, invoke, builtin, h1], h2⟩
      · simp at h
    · split at h
      · rename_i x y
        unfold pvMax at h
        split at h
        · rename_i k a' k' b' g1 g2
          simp only [Option.some.injEq, Prod.mk.injEq] at h
          obtain ⟨rfl, rfl⟩ := h
          have r1 := hus x hc.1; rw [g1] at r1
          have r2 := hus y hc.2; rw [g2] at r2
          obtain ⟨f1, _⟩ := rep_raw.1 r1
          obtain ⟨f2, _⟩ := rep_raw.1 r2
          exact ⟨_, fun w1 hw1 => by simp [execOp, resolve, invoke, builtin, Builtin.max_, Builtin.max2, f1, f2]; done, rep_raw.2 ⟨rfl, rfl⟩⟩
        · simp at h
      · simp at h
    · split at h
      · rename_i x y
        unfold pvMax at h
        split at h
        · rename_i k a' k' b' g1 g2
          simp only [Option.some.injEq, Prod.mk.injEq] at h
          obtain ⟨rfl, rfl⟩ := h
          have r1 := hus x hc.1; rw [g1] at r1
          have r2 := hus y hc.2; rw [g2] at r2
          obtain ⟨f1, _⟩ := rep_raw.1 r1
          obtain ⟨f2, _⟩ := rep_raw.1 r2
          exact ⟨_, fun w1 hw1 => by simp [execOp, resolve, invoke, builtin, Builtin.min_, Builtin.min2, f1, f2]; done, rep_raw.2 ⟨rfl, rfl⟩⟩
        · simp at h
      · simp at h
    · simp at h
  | _ => simp [pv] at h
end
end Go.Eng
