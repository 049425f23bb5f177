/- The engine, part W: a row out of a pure contract. -/
import Derived.Test.YtolplbfonlhbhaaEngV
set_option linter.unusedVariables false
set_option linter.unusedSectionVars false
set_option linter.unusedSimpArgs false
namespace Go.Proofs.Ytolplbfonlhbhaa
open Go Go.Eng Go.ChangeShapes Go.RowKit Go.WideShapes Go.ChangeMaps

section
variable {P : Program} {W : World} {H : Type} {enc : TypeId × Value → H}

/-- what a call of a pure function does to the world that came in -/
theorem row_run [Globs] {f : FuncId} {args : List AV} {vs : Array Value} (h : PureOk P f args fun r => r = .d (.raw (.bool true)))
    (hg : ∀ g x, Globs.dat g = some x → ∃ cs, cellsAt (Z0 W) W g 0 cs ∧ RepD (Z0 W) W x cs) (hr : RepVs (Z0 W) W [] [] args vs.toList) :
    Calls P f vs W fun e W' => e = .returned (.bool true) ∧ Below W.heap.size W W' := by
  have hE : Env [] (Z0 W) [] W := ⟨rfl, fun j r g h => by simp at h, fun i j ri rj gi gj b h => by simp at h, fun b o h => h.1, hg⟩
  refine (h.2.2.2 W (Z0 W) [] vs hE hr).mono ?_
  rintro e W' ⟨v, r, L', Z', γ', rfl, ⟨rfl, rfl⟩, hrep, _, ha⟩
  rw [(rep_raw.1 hrep).1]
  have hno : ∀ b, ¬ owns [] [] b := fun b ⟨j, r, g, h, _⟩ => by simp at h
  exact ⟨rfl, ha.step.os, ha.step.tape, ha.step.output, ha.step.size, fun k hk => ha.step.keep k hk (hno k)⟩

theorem below_kept {W W' : World} (hb : Below W.heap.size W W') (p : MemPlace → Prop) : W.keptBut W' p := by
  refine ⟨hb.os, hb.output, fun i hi => ?_⟩
  rw [hb.block i hi]
  cases hh : W.heap[i]? with
  | none => simp
  | some o => cases o <;> simp
/-- an argument that came in as a struct -/
theorem arg_ag {α : Type} {t : TypeId} {f : α → D} {q : α → Prop} (h : RdT P W enc t f q) {fs : Array Field} (hu : P.underlying t = some (.struct fs)) (hag : ∀ x, (f x).isAg = true) {base : Nat} {v : Value} {d : DataW H} {p : List MemPlace}
    (hv : Value.okWide P W .any base t v) (ht : DataW.Trod enc P W 0 (fun _ => true) true t v d p) (hb : Rows.uptoBulk d ≤ 1048576) : ∃ x, RepV (Z0 W) W [] [] (.d (f x)) v ∧ q x := by
  simp only [Value.okWide, hu] at hv
  obtain ⟨cs, rfl, _, _⟩ := hv
  obtain ⟨fuel, hf⟩ := ht
  obtain ⟨x, hx, hq⟩ := h fuel _ d p hf hb
  refine ⟨x, ?_, hq⟩
  have := hag x
  simp only [RepV, RepC, AV.isAg, this, if_true, RepA]
  exact ⟨cs, rfl, hx⟩
theorem arg_str {t : TypeId} (hu : P.underlying t = some .string) {base : Nat} {v : Value} {d : DataW H} {p : List MemPlace}
    (hv : Value.okWide P W .any base t v) (ht : DataW.Trod enc P W 0 (fun _ => true) true t v d p) (hb : Rows.uptoBulk d ≤ 1048576) : ∃ s : ByteArray, RepV (Z0 W) W [] [] (.d (.raw (.string s))) v ∧ s.size ≤ 1048576 := by
  obtain ⟨s, rfl, rfl, rfl, _⟩ := open_string hu hv ht
  refine ⟨s, rep_raw.2 ⟨rfl, rfl⟩, ?_⟩
  simp only [Rows.uptoBulk, Array.length_toList] at hb
  show s.data.size ≤ 1048576
  omega
theorem arg_int {t : TypeId} {k : IntKind} (hu : P.underlying t = some (.int k)) {base : Nat} {v : Value} {d : DataW H} {p : List MemPlace}
    (hv : Value.okWide P W .any base t v) (ht : DataW.Trod enc P W 0 (fun _ => true) true t v d p) : ∃ n : Int, RepV (Z0 W) W [] [] (.d (.raw (.int k n))) v ∧ (Lit.int k n).wf = true := by
  obtain ⟨n, rfl, rfl, rfl, hw⟩ := open_int hu hv ht
  exact ⟨n, rep_raw.2 ⟨rfl, rfl⟩, hw⟩

/-- all that was read reads as it did -/
theorem trodAll_below {W' : World} (hl : laidOutB P = true) (hb : Below W.heap.size W W') : ∀ {ts : List TypeId} {vs : List Value} {ds : List (DataW H)} {p : List MemPlace}, (∀ t ∈ ts, P.readableRec t = true ∧ t < P.types.size) →
    DataW.TrodAll enc P W 0 (fun _ => true) true ts vs ds p → (∀ x ∈ p, x.block < W.heap.size) → DataW.TrodAll enc P W' 0 (fun b => decide (b < W.heap.size)) true ts vs ds p
  | [], vs, ds, p, _, h, _ => by
    obtain ⟨rfl, rfl, rfl⟩ := trodAll_nil h
    exact trodAll_mk0
  | t :: ts, vs, ds, p, ht, h, hlt => by
    obtain ⟨v, vs1, d, ds1, a, b, rfl, rfl, rfl, h1, h2⟩ := trodAll_cons h
    have h0 := ht t (List.mem_cons_self ..)
    exact ⟨_, _, Below.trod hl h0.1 h0.2 h1 hb fun x hx => hlt x (List.mem_append_left _ hx), trodAll_below hl hb (fun t h => ht t (List.mem_cons_of_mem _ h)) h2 fun x hx => hlt x (List.mem_append_right _ hx), rfl⟩
/-- the end of a row that says yes and leaves all that stood as it was -/
theorem post_yes {f : Func} {s : ChangeSpec} {fresh : Bool} {W' : World} {args : Array Value} {ds : List (DataW H)} {ps : List MemPlace} {t : TypeId} (hl : laidOutB P = true)
    (hts : ∀ t ∈ f.params.toList, P.readableRec t = true ∧ t < P.types.size) (hr : f.resultTypes = #[t]) (ht : P.underlying t = some .bool) (hv : s.vars = [])
    (hW : DataW.Whole enc P f.params.toList s.vars false W args.toList ds [] ps) (hb : Below W.heap.size W W') (hs : s.fn H ds = { results := [.lit (.bool true)], args := ds }) :
    s.post enc P f false fresh false false W args (.bool true) W' := by
  have hlt := hW.lt
  obtain ⟨p, q, hA, hV, rfl, hz, hn⟩ := hW
  have hV' := hV
  rw [hv] at hV'
  obtain ⟨_, rfl⟩ := trodVars_none hV'
  simp only [List.append_nil] at hlt
  have hA' := trodAll_below hl hb hts hA hlt
  refine ⟨ds, [], p ++ [], [], p, [], ⟨p, [], hA, hV, rfl, hz, hn⟩, ?_, ?_, ?_, below_kept hb _, fun h => by cases h⟩
  · rw [List.append_nil, hs, hr]
    exact ⟨[], [], shut_bool ht true, trodAll_mk0, rfl⟩
  · rw [List.append_nil, hs]
    exact hA'
  · rw [List.append_nil, hs, hv]
    rfl
end

/-- a row with a bound, over a call that reads a variable of the library's -/
theorem handed_shaped {H : Type} {enc : TypeId × Value → H} {a : Assume} {C : Checked} {os : Os} {f : FuncId} {fn : Func} {s : OpenSpec} {k : (H : Type) → List (DataW H) → Bool} (hk : s.cond = some k) {F : Stop.Interp} {conds : List PathCond} {apart fresh handsOn again : Bool}
    (own : ownKnob C.prog.godebug = none) (started : os.Started) (noInit : C.prog.inits.idxOf? f = none) (hfn : C.prog.funcs[f]? = some fn)
    (witness : ∃ (w : World) (tape : Tape) (i : Input), w.os = os ∧ (w.forCall tape i).Shaped C.prog ∧ i.vars = [] ∧ Input.okWide C.prog (w.forCall tape i) .any w.heap.size f i ∧
      s.pre6 enc C.prog fn conds apart (w.forCall tape i).memory i.args ∧ a.holds C.prog (lone (Frame.enter C.prog f i.args .normal) [] (w.forCall tape i)))
    (contract : ∀ (W : World) (base : Nat) (args : Array Value) (ds gs : List (DataW H)) (before : List MemPlace), W.ShapedOpen C.prog →
      (∀ (j : Nat) t v, fn.params[j]? = some t → args[j]? = some v → Value.okWide C.prog W .any base t v) →
      DataW.Whole enc C.prog fn.params.toList s.vars apart W args.toList ds gs before → k H (ds ++ gs) = true →
      Calls C.prog f args W fun e W' => ∃ v, e = .returned v ∧ (s.at F).post enc C.prog fn apart fresh handsOn again W args v W') :
    ReturnsInHanded a C os f .any (s.pre6 enc C.prog fn conds apart) ((s.at F).post enc C.prog fn apart fresh handsOn again) := by
  refine returnsInHanded_of_calls own started noInit witness ?_
  intro w tape i _ hsh _ hok hpre _
  obtain ⟨_, _, _, fn', hfn', _, _, _, _, hval⟩ := hok
  obtain rfl : fn' = fn := Option.some.inj (hfn'.symm.trans hfn)
  obtain ⟨ds, gs, before, hw, _, hkk⟩ := (OpenSpec.pre_some hk conds apart _ _).1 hpre.1
  refine (contract (w.forCall tape i) w.heap.size i.args ds gs before hsh hval (DataW.Whole.of_heap (by rfl) hw) hkk).mono fun e W' ⟨v, he, hp⟩ => ?_
  subst he
  exact ChangeSpec.post_blind hp
end Go.Proofs.Ytolplbfonlhbhaa
