/- The engine, part K: straight-line code, control, calls: what part J says is so. -/
import Derived.Test.YtolplbfonlhbhaaEngJ
set_option linter.unusedVariables false
set_option linter.unusedSectionVars false
set_option linter.unusedSimpArgs false
namespace Go.Eng
open Go
variable [Globs]
section
variable {P : Program} {Z : Zone} {w : World} {γ : List Value} {c : Ctx} {s : St} {a : Act}

theorem relR (hR : RelZ c s Z γ a w) {dst : Option Nat} (hd : ∀ d, dst = some d → d < c.N) {L' : List Res} {Z' : Zone} {γ' : List Value} {w' : World}
    (he : Env L' Z' γ' w') (ha : Adv s.L Z γ w L' Z' γ' w') {x : AV} {v : Value} (hx : RepV Z' w' γ' L' x v) : Rel c (putR s L' dst x) (a.put dst v) w' :=
  (hR.go he ha).put hd hx |> fun h => ⟨Z', γ', h⟩

theorem isVal_C {L : List Res} {x : AV} {v : Value} (h : RepV Z w γ L x v) (hv : x.isVal = true) : RepC Z w γ L x v :=
  RepV_C h (fun b z e => by rw [e] at hv; simp [AV.isVal] at hv) (fun l e => by rw [e] at hv; simp [AV.isVal] at hv) (fun e => by rw [e] at hv; simp [AV.isVal] at hv)

theorem us_sound (hR : RelZ c s Z γ a w) (x : Operand) : (s.us x).1 → RepV Z w γ s.L (s.us x).2 (a.eval x) := use_sound (hR.ev x)

theorem Ext.alloc (w : World) (o : Obj) : Ext w (w.alloc o) := ⟨rfl, rfl, rfl, by simp, fun b hb => heap_alloc_old w o b hb⟩
theorem Ext.drew (w : World) : Ext w w.drew := ⟨rfl, rfl, rfl, Nat.le_refl _, fun _ _ => rfl⟩

variable {next : Act → World → Prop} {Q : Exit → Act → World → Prop} {K : St → Prop}

theorem wpStore_sound (hR : RelZ c s Z γ a w) {o : Oper} {t : TypeId} {ad x : Operand} (ho : o.op = .store t ad x) (hd : ∀ d, o.dst = some d → d < c.N)
    (h : wpStore P s o.dst t (s.us ad) (s.us x) K) (hK : ∀ s' a' w', K s' → Rel c s' a' w' → next a' w') : o.wp P a w next Q := by
  unfold wpStore at h
  split at h
  · rename_i j off p e1
    split at h
    · rename_i y hj
      split at h
      · rename_i z off' hn
        obtain ⟨c1, c2, rfl, hval, hsz, hst, hok, hk⟩ := h
        have h1 := us_sound hR ad c1
        rw [e1] at h1
        obtain ⟨b, hb, hv1⟩ := rep_ptr h1
        have h2 := isVal_C (us_sound hR x c2) hval
        have hcells := RepC_cells h2
        obtain ⟨b', cs, ty, fr, hg, hh, rfl, hrep, hz0⟩ := hR.env.res j _ _ hj hb
        simp only [Value.pointer.injEq, Option.some.injEq, Addr.mk.injEq, and_true] at hg
        subst hg
        have hl := RepA_len Z w γ s.L _ _ hcells
        have hnav := RepA_nav p hrep hn
        have hrun := run_storeAt (P := P) (v := a.eval x) hst hh (by rw [← Array.length_toList, hl, hsz]) (by simpa using hnav.2) (RepA_one Z w γ s.L _ _ hcells)
        have hput := RepA_putAt p hrep hn hsz hcells hok
        obtain ⟨he, ha⟩ := hR.env.store (x' := y.putAt p (s.us x).2) (c' := (cs.toList.take off' ++ (a.eval x).cells.toList ++ cs.toList.drop (off' + z.size)).toArray) hj hb hh (by simpa using hput)
        exact upon_skip' (by simp [execOp, ho, hv1, hrun]) (hK _ _ _ hk (relR hR hd he ha (by simp only [RepV])))
      · exact h.elim
    · exact h.elim
  · exact h.elim

theorem wpBuildSlice_sound (hR : RelZ c s Z γ a w) {o : Oper} {t n : Nat} {ps : Array (Nat × Operand)} (ho : o.op = .buildSlice t n ps) (hd : ∀ d, o.dst = some d → d < c.N)
    (h : wpBuildSlice P s o.dst t n ps.toList K) (hK : ∀ s' a' w', K s' → Rel c s' a' w' → Ext w w' → next a' w') : o.wp P a w next Q := by
  unfold wpBuildSlice at h
  split at h
  · exact h.elim
  · rename_i e k by_ ag ht
    obtain ⟨hz, hzs, hk0, hbig, hfill, hk⟩ := h
    obtain ⟨hu, hs, _⟩ := sliceT_some ht
    obtain ⟨zv, hzv, hzr, _, _⟩ := ZOK_run (P := P) (Z := Z) (w := w) (γ := γ) (L := s.L) hz
    have hzl := RepD_len Z w _ _ hzr
    have hzsz : zv.cells.size = k := by rw [← Array.length_toList, hzl, hzs]
    have hrow := zero_row hzr n
    rw [← zero_cells hzsz n] at hrow
    obtain ⟨cs, h1, h2, h3, h4⟩ := fillD_sound (Z := Z) (w := w) (γ := γ) k (ps.toList.map fun q => (q.1, s.us q.2)) (ps.toList.map fun q => (q.1, a.eval q.2)) (List.replicate n (zeroD P 9 e)) _ (L := s.L) (by simp) (by
      intro j i q y i' u h1 h2
      simp only [List.getElem?_map, Option.map_eq_some_iff, Prod.mk.injEq] at h1 h2
      obtain ⟨p1, hp1, rfl, hq⟩ := h1
      obtain ⟨p2, hp2, rfl, rfl⟩ := h2
      rw [hp1] at hp2
      simp only [Option.some.injEq] at hp2
      subst hp2
      refine ⟨rfl, fun hh => ?_⟩
      have := use_sound (hR.ev p1.2)
      have e : s.us p1.2 = (q, y) := hq
      unfold St.us at e
      rw [e] at this
      exact this hh) (fun x hx => by rw [List.eq_of_mem_replicate hx]; exact hzs) hrow hfill
    rw [List.length_replicate] at h4
    have hcs : cs.size = n * k := by
      have := RepDs_len Z w _ _ h2
      rw [sizes_const _ k h3, h4] at this
      simpa using this
    have hpos : 0 < k := Nat.pos_of_ne_zero hk0
    have hn : n ≤ maxLen := by
      have := Nat.le_mul_of_pos_right n hpos
      unfold maxLen; omega
    obtain ⟨he, ha⟩ := hR.env.row (e := e) (k := k) (cs := cs) hcs hn
    have hrun : (Instr.buildSlice t n (ps.map fun q => (q.1, a.eval q.2))).run P w = .ok (.slice (some ⟨w.heap.size, 0, none⟩) n n) (w.alloc (.cells cs e)) := by
      have hb : ¬ (n * k > 2 ^ 24) := by omega
      have ep : (ps.map fun (q : Nat × Operand) => (q.1, a.eval q.2)).toList = ps.toList.map fun q => (q.1, a.eval q.2) := by simp
      by_cases h0 : n * k = 0
      · have hn0 : n = 0 := by
          rcases Nat.mul_eq_zero.1 h0 with h | h
          · exact h
          · exact (hk0 h).elim
        subst hn0
        have e0 : (Array.range (0 * k)).map (fun i => zv.cells[i % zv.cells.size]!) = #[] := by simp [Array.range_zero']
        rw [e0] at h1
        simp [Instr.buildSlice, run_under hu, run_sizeOf' hs, newRow, ep, h1, Array.range_zero']
      · simp only [Instr.buildSlice, Sem.run_bind, run_under hu, Result.andThen_ok, run_sizeOf' hs, hb, if_false, h0, hzv, Sem.run_pure]
        simp only [ep, h1]
        simp [newRow]
    have hrep : RepV (Z.plus w.heap.size (n * k)) (w.alloc (.cells cs e)) (γ ++ [.slice (some ⟨w.heap.size, 0, none⟩) n n]) (s.L ++ [.tok e k n])
        (.own s.L.length k (fillD (ps.toList.map fun q => (q.1, s.us q.2)) (List.replicate n (zeroD P 9 e))).2) (.slice (some ⟨w.heap.size, 0, none⟩) n n) := by
      simp only [RepV, RepC, AV.isAg, RepA, RepD, Bool.false_eq_true, if_false]
      refine ⟨by simp, .inr ⟨w.heap.size, 0, n, by rw [h4], by rw [h4]; exact Nat.le_refl _, RepEls_cells (RepDs_mono ha.zone ha.step.zone _ _ h2) h3 (fun j v hj => ⟨.inr ⟨rfl, ?_⟩, ?_⟩)⟩, fun e' n' hn' => ?_⟩
      · have := (List.getElem?_eq_some_iff.1 hj).1
        simp at this
        omega
      · simpa using hj
      · simp at hn'
        obtain ⟨_, rfl⟩ := hn'
        rw [h4]
        exact ⟨Nat.le_refl _, fun _ => ⟨_, by rw [← hR.env.len]; simp, rfl⟩⟩
    exact upon_value (v := .slice (some ⟨w.heap.size, 0, none⟩) n n) (w' := w.alloc (.cells cs e)) (by simp only [execOp, ho]; simp [hrun]) (hK _ _ _ hk (relR hR hd he ha hrep) (Ext.alloc _ _))

theorem wpMake_sound (hR : RelZ c s Z γ a w) {o : Oper} {t : Nat} {l m : Operand} (ho : o.op = .makeSlice t l m) (hd : ∀ d, o.dst = some d → d < c.N)
    (h : wpMake P s o.dst t (s.us l) (s.us m) K) (hK : ∀ s' a' w', K s' → Rel c s' a' w' → Ext w w' → next a' w') : o.wp P a w next Q := by
  unfold wpMake at h
  split at h
  · rename_i e k b ag k1 n0 k2 n ht hl hm
    obtain ⟨c1, c2, hz, hzs, hk0, hn0, rfl, hbytes, h63, hk⟩ := h
    obtain ⟨hu, hs, _, i, hi, rfl, rfl⟩ := sliceT_some ht
    have e1 := intOf_sound hl (us_sound hR l c1)
    have e2 := intOf_sound hm (us_sound hR m c2)
    obtain ⟨v, i', g1, g2, g3, g4, g5, g6⟩ := hz
    rw [hi] at g1
    simp only [Option.some.injEq] at g1
    subst g1
    have hrun := run_make (P := P) w t e i v hu hi g2 k1 k2 n n hn0 (Int.le_refl _) hbytes h63
    have hzr := flat_sound (Z := Z) (w := w) _ _ g4
    have hzl := RepD_len Z w _ _ hzr
    have hzsz : v.cells.size = i.size := by rw [← Array.length_toList, hzl, hzs]
    have hrow := zero_row hzr n.toNat
    rw [← zero_cells hzsz n.toNat] at hrow
    have hmc : madeCells v.cells (n.toNat * i.size) = (Array.range (n.toNat * i.size)).map fun j => v.cells[j % v.cells.size]! := rfl
    obtain ⟨he, ha⟩ := hR.env.box (x := .d (.arr n.toNat i.size (List.replicate n.toNat (zeroD P 9 e)))) (cs := madeCells v.cells (n.toNat * i.size)) (t := e) (by
      simp only [RepA, RepD]
      exact ⟨by simp, fun x hx => by rw [List.eq_of_mem_replicate hx]; exact hzs, by rw [hmc]; exact hrow⟩)
    refine upon_value (v := .slice (some ⟨w.heap.size, 0, none⟩) n.toNat n.toNat) (w' := _) (by simp only [execOp, ho, Sem.run_bind, e1, e2, hrun]; rfl) (hK _ _ _ hk (relR hR hd he ha ?_) (Ext.alloc _ _))
    exact rep_bsl_mk (b := w.heap.size) (by rw [← hR.env.len]; simp) (Nat.le_refl _) (fun _ => by simp)
  · exact h.elim

theorem modify_push {α : Type} (a : Array α) (x : α) (f : α → α) : (a.push x).modify a.size f = a.push (f x) := by
  apply Array.ext_getElem?
  intro i
  rw [Array.getElem?_modify]
  by_cases h : a.size = i
  · subst h; simp
  · rw [if_neg h, Array.getElem?_push, Array.getElem?_push, if_neg (fun e => h e.symm), if_neg (fun e => h e.symm)]

theorem wpConv_sound (hR : RelZ c s Z γ a w) {o : Oper} {src t : Nat} {x : Operand} (ho : o.op = .convert src t x) (hd : ∀ d, o.dst = some d → d < c.N)
    (h : wpConv P s o.dst src t (s.us x) K) (hK : ∀ s' a' w', K s' → Rel c s' a' w' → Ext w w' → next a' w') : o.wp P a w next Q := by
  unfold wpConv at h
  split at h
  · rename_i b e1
    split at h
    · rename_i e k by_ ag ht
      obtain ⟨c1, hks, hke, rfl, hk⟩ := h
      have hx := us_sound hR x c1
      rw [e1] at hx
      obtain ⟨hxv, _⟩ := rep_raw.1 hx
      obtain ⟨hu, hs, _⟩ := sliceT_some ht
      have hus := kindT_str hks
      have hue := kindT_int hke
      have hrun : ∃ cap fr, b.size ≤ cap ∧ (Conv.stringToBytes e b).run P w = .ok (.slice (some ⟨w.heap.size, 0, none⟩) b.size cap)
          (w.drew.alloc (.cells ((b.data.map fun u => .int .u8 u.toNat) ++ Array.replicate (cap - b.size) (.int .u8 0)) e fr)) := by
        have hq : ∃ cap, (Question.appendCap b.size 0 e).cut (w.tape w.drawn (.appendCap b.size 0 e)) = cap ∧ b.size ≤ cap := ⟨_, rfl, by simp [Question.cut]⟩
        obtain ⟨cap, hcap, hle⟩ := hq
        obtain ⟨cs, hcs⟩ : ∃ cs : Array Value, ((b.data.map fun u => Value.int .u8 u.toNat) ++ Array.replicate (cap - b.size) (.int .u8 0)) = cs := ⟨_, rfl⟩
        refine ⟨cap, (cs.size, cs.size + 1), hle, ?_⟩
        simp only [Conv.stringToBytes, Sem.run_bind, run_choose, Question.forced, Bool.false_eq_true, if_false, Result.andThen_ok, newRow, run_newObj, Sem.run_pure, markStringish, hcap, hcs, run_shape, World.shape?]
        simp [World.freeze, World.alloc]
        refine ⟨?_, rfl, rfl⟩
        rw [modify_push]
        rfl
      obtain ⟨cap, fr, hge, hrun⟩ := hrun
      obtain ⟨he0, ha0⟩ := hR.env.drew
      obtain ⟨he, ha⟩ := he0.data b.size (.cells ((b.data.map fun u => .int .u8 u.toNat) ++ Array.replicate (cap - b.size) (.int .u8 0)) e fr)
      have hexec : (execOp a.eval o).run P w = .ok (.value (.slice (some ⟨w.heap.size, 0, none⟩) b.size cap)) (w.drew.alloc (.cells ((b.data.map fun u => .int .u8 u.toNat) ++ Array.replicate (cap - b.size) (.int .u8 0)) e fr)) := by
        simp only [execOp, ho, Sem.run_bind, convert, run_under hus, run_under hu, run_under hue, Result.andThen_ok, hxv, hrun, Sem.run_pure]
      refine upon_value hexec (hK _ _ _ hk ?_ (Ext.trans (Ext.drew w) (Ext.alloc _ _)))
      refine relR hR (L' := s.L) hd he (ha0.trans ha) ?_
      have hlen : (strBytes b).length = b.size := by simp [strBytes]
      simp only [RepV, RepC, AV.isAg, D.isAg, RepA, RepD, Bool.false_eq_true, if_false]
      refine .inr ⟨w.heap.size, 0, cap, by rw [hlen], by rw [hlen]; exact hge, ?_⟩
      refine RepEls_cells (cs := b.data.toList.map fun u => .int .u8 u.toNat) ?_ (fun x hx => ?_) (fun j v hj => ⟨.inr ⟨rfl, ?_⟩, ?_⟩)
      · unfold strBytes
        generalize b.data.toList = l
        induction l with
        | nil => simp [RepDs]
        | cons u l ih => simp only [List.map_cons, RepDs]; exact ⟨[_], _, rfl, by simp [RepD, Value.oneCell'], ih⟩
      · simp only [strBytes, List.mem_map] at hx
        obtain ⟨u, _, rfl⟩ := hx
        rfl
      · have := (List.getElem?_eq_some_iff.1 hj).1
        simp at this
        have e : b.data.size = b.size := rfl
        omega
      · have hlt := (List.getElem?_eq_some_iff.1 hj).1
        simp at hlt hj
        have : (w.drew.alloc (.cells ((b.data.map fun u => .int .u8 u.toNat) ++ Array.replicate (cap - b.size) (.int .u8 0)) e fr)).heap[w.heap.size]? = some (.cells ((b.data.map fun u => .int .u8 u.toNat) ++ Array.replicate (cap - b.size) (.int .u8 0)) e fr) := heap_alloc_new w.drew _
        simp only [World.cell?, Nat.zero_add, this]
        simp only [Option.isSome_none, Bool.false_eq_true, if_false]
        rw [Array.getElem?_append_left (by simpa using hlt)]
        simp
        exact hj
    · exact h.elim
  · exact h.elim

theorem wpAppend_sound (hR : RelZ c s Z γ a w) {o : Oper} {cl : Call} (ho : o.op = .call cl) {t : Nat} {x y : Operand} (hc : cl.callee = .builtin .append) (hargs : cl.args.toList = [x, y]) (hts : cl.argTypes.toList = [t, t])
    (hd : ∀ d, o.dst = some d → d < c.N)
    (h : wpAppend P s o.dst t (s.us x) (s.us y) K) (hK : ∀ s' a' w', K s' → Rel c s' a' w' → next a' w') : o.wp P a w next Q := by
  obtain ⟨callee, ⟨args⟩, ⟨ats⟩⟩ := cl
  simp only at hc hargs hts
  subst hc hargs hts
  have hexec : ∀ {v : Value} {w' : World}, (Builtin.append_ #[t, t] o.type #[a.eval x, a.eval y]).run P w = .ok v w' → (execOp a.eval o).run P w = .ok (.value v) w' := by
    intro v w' h
    simp [execOp, ho, resolve, invoke, builtin, h]
  unfold wpAppend at h
  split at h
  · exact h.elim
  · rename_i e k by_ ag ht
    obtain ⟨hu, hs, _, i, hi, rfl, rfl⟩ := sliceT_some ht
    split at h
    · exact h.elim
    · rename_i k' ys hels
      split at h
      · rename_i j k'' xs e1
        obtain ⟨c1, c2, rfl, rfl, hj, hk0, hz, hzs, hbytes, h63, hk⟩ := h
        have hx := us_sound hR x c1
        rw [e1] at hx
        obtain ⟨v, i', g1, g2, g3, g4, g5, g6⟩ := hz
        rw [hi] at g1
        simp only [Option.some.injEq] at g1
        subst g1
        have hzl := RepD_len Z w _ _ (flat_sound (Z := Z) (w := w) _ _ g4)
        have hzsz : v.cells.size = i.size := by rw [← Array.length_toList, hzl, hzs]
        have hpos : 0 < i.size := Nat.pos_of_ne_zero hk0
        rcases els_sound hels (us_sound hR y c2) with ⟨sd, hy, rfl⟩ | ⟨b, oo, cap, hy, hle, hr⟩
        · -- nothing to append
          have hv := hx
          simp only [RepV, RepC, AV.isAg, RepA, Bool.false_eq_true, if_false] at hv
          obtain ⟨_, _, htok⟩ := hv
          obtain ⟨g0, hγ, hg0⟩ := (htok e _ hj).2 rfl
          simp only [List.cons.injEq, and_true] at hg0
          obtain ⟨xc, hown, _⟩ := hR.env.res j _ _ hj hγ
          obtain ⟨ad, cc, hsv, hn⟩ := ownsRow_slice hown
          have hrun := run_append_nothing (P := P) (w := w) (ty := o.type) hu hi (b := ad) (sd := sd) hn
          have hset : s.L.set j (.tok e i.size (xs.length + ([] : List D).length)) = s.L := by
            apply List.ext_getElem?
            intro q
            by_cases eq : j = q
            · subst eq; rw [List.getElem?_set_self (List.getElem?_eq_some_iff.1 hj).1, hj]; simp
            · rw [List.getElem?_set_ne eq]
          rw [hset, List.append_nil] at hk
          refine upon_value (hexec (v := a.eval x) (w' := w) (by rw [hg0, hsv, hy]; exact hrun)) (hK _ _ _ hk ?_)
          exact hR.putR' hd hx
        · obtain ⟨v', w', Z', hrun, he, ha, hrep⟩ := hR.env.append (ty := o.type) (c := cap) hu hi g2 rfl hzsz hpos hj hx hr (by unfold maxLen; omega) hbytes
          exact upon_value (hexec (by rw [hy]; exact hrun)) (hK _ _ _ hk (relR hR hd he ha hrep))
      · rename_i e1
        obtain ⟨c1, c2, rfl, hk0, hz, hzs, hbytes, h63, hk⟩ := h
        have hx := us_sound hR x c1
        rw [e1] at hx
        obtain ⟨hxv, _⟩ := rep_raw.1 hx
        obtain ⟨v, i', g1, g2, g3, g4, g5, g6⟩ := hz
        rw [hi] at g1
        simp only [Option.some.injEq] at g1
        subst g1
        have hzl := RepD_len Z w _ _ (flat_sound (Z := Z) (w := w) _ _ g4)
        have hzsz : v.cells.size = i.size := by rw [← Array.length_toList, hzl, hzs]
        have hpos : 0 < i.size := Nat.pos_of_ne_zero hk0
        obtain ⟨he0, ha0, hr0⟩ := hR.env.tok0 e i.size
        have hset : (s.L ++ [Res.tok e i.size 0]).set s.L.length (.tok e i.size (([] : List D).length + ys.length)) = s.L ++ [.tok e i.size ys.length] := by simp
        rcases els_sound hels (us_sound hR y c2) with ⟨sd, hy, rfl⟩ | ⟨b, oo, cap, hy, hle, hr⟩
        · have hrun := run_append_nothing (P := P) (w := w) (ty := o.type) hu hi (b := none) (sd := sd) (n := 0) (c := 0) (Nat.le_refl _)
          exact upon_value (hexec (by rw [hxv, hy]; exact hrun)) (hK _ _ _ hk (relR hR hd he0 ha0 hr0))
        · obtain ⟨v', w', Z', hrun, he, ha, hrep⟩ := he0.append (ty := o.type) (c := cap) hu hi g2 rfl hzsz hpos (j := s.L.length) (xs := []) (by simp) hr0 hr (by simp only [List.length_nil]; unfold maxLen; omega) (by simpa using hbytes)
          rw [hset, List.nil_append] at hrep
          rw [hset] at he ha
          exact upon_value (hexec (by rw [hxv, hy]; exact hrun)) (hK _ _ _ hk (relR hR hd he (ha0.trans ha) hrep))
      · exact h.elim
end
end Go.Eng
