/- Each operation does in the machine what the interpreter says: all of them. -/
import Derived.Test.YtpgjihkaocahbaaKf
namespace Go.Lan
section
variable {P : Program} {T : Tab} {Φ : Fns} {β β0 : List (Option Nat)} {w0 w : World} {h : Hp} {a : Act} {ρ : Operand → Value}

theorem eql_run {w : World} (hT : TabOK P T) {t : TypeId} {x y x' y' : Value} {r : Bool} (h : eqT T M0 20 t x y = some r) (hx : VR β x x') (hy : VR β y y') : (Op.equal t x' y').run P w = .ok r w :=
  eqT_sound hT 20 10000 (by omega) w t x y x' y' r h hx hy

theorem agg_cmp (hT : TabOK P T) {t : TypeId} {l m : Array Value} {r : Bool} (h : eqT T M0 20 t (.agg l) (.agg m) = some r) : P.eqGuardType P.depth t = false := by
  obtain ⟨l⟩ := l
  obtain ⟨m⟩ := m
  unfold eqT at h
  cases ht : T.get t with
  | none => simp [ht] at h
  | some ti =>
    obtain ⟨info, dd, z, hi, hd, hz, hs, _, hk, hcmp, _⟩ := hT _ _ ht
    simp only [ht] at h
    cases hkk : ti.k <;> simp only [hkk, reduceCtorEq] at h
    case struct =>
      split at h
      · rename_i hc; exact (cmp_facts (hcmp hc)).2.1
      · cases h
    case array =>
      split at h
      · rename_i hc _; exact (cmp_facts (hcmp hc)).2.1
      · cases h

/-- '==' and '!=' where neither side is a number. -/
theorem eql_op (hT : TabOK P T) {w : World} {t : TypeId} {x y x' y' : Value} {r : Bool} (h : eqT T M0 20 t x y = some r) (hx : VR β x x') (hy : VR β y y') (ox oy : Operand)
    (hn : ∀ k n, x ≠ .int k n) (hf : ∀ k n, x ≠ .float k n) :
    ((do eqGuard .eql t ox oy x' y'; binOp .eql t x' y') : Sem Value).run P w = .ok (.bool r) w ∧ ((do eqGuard .neq t ox oy x' y'; binOp .neq t x' y') : Sem Value).run P w = .ok (.bool (!r)) w := by
  have he : (Op.equal t x' y').run P w = .ok r w := eql_run hT h hx hy
  cases hx
  case int => exact absurd rfl (hn _ _)
  case float => exact absurd rfl (hf _ _)
  case agg hl =>
    cases hy
    case agg hm =>
      have hg := agg_cmp hT h
      constructor <;> simp [run_eqGuard_agg w _ t ox oy _ _ hg, binOp, he]
    all_goals (unfold eqT at h; split at h; (cases h); split at h <;> simp_all)
  case bool =>
    cases hy
    case bool => constructor <;> simp [eqGuard_num, binOp, he]
    all_goals (unfold eqT at h; split at h; (cases h); split at h <;> simp_all)
  case ptrNil =>
    cases hy
    case ptrNil => constructor <;> simp [eqGuard_num, binOp, he]
    case ptr => constructor <;> simp [eqGuard_num, binOp, he]
    all_goals (unfold eqT at h; split at h; (cases h); split at h <;> simp_all)
  case ptr =>
    cases hy
    case ptrNil => constructor <;> simp [eqGuard_num, binOp, he]
    all_goals (unfold eqT at h; split at h; (cases h); split at h <;> simp_all)
  case sliceNil =>
    cases hy
    case sliceNil => constructor <;> simp [eqGuard_num, binOp, he]
    case slice => constructor <;> simp [eqGuard_num, binOp, he]
    all_goals (unfold eqT at h; split at h; (cases h); split at h <;> simp_all)
  case slice =>
    cases hy
    case sliceNil => constructor <;> simp [eqGuard_num, binOp, he]
    all_goals (unfold eqT at h; split at h; (cases h); split at h <;> simp_all)
  all_goals (unfold eqT at h; split at h; (cases h); split at h <;> simp_all)

theorem notInt {t : TypeId} {x y : Value} {r : Bool} (he : eqT T M0 20 t x y = some r) (n1 : ∀ k c k' d, x = .int k c → y = .int k' d → False) : ∀ k n, x ≠ .int k n := by
  intro k n e
  subst e
  cases y with
  | int k' d => exact n1 k n k' d rfl rfl
  | _ =>
    unfold eqT at he
    split at he
    · cases he
    · split at he <;> simp_all

theorem notFloat {t : TypeId} {x y : Value} {r : Bool} (he : eqT T M0 20 t x y = some r) (n1 : ∀ k c k' d, x = .float k c → y = .float k' d → False) : ∀ k n, x ≠ .float k n := by
  intro k n e
  subst e
  cases y with
  | float k' d => exact n1 k n k' d rfl rfl
  | _ =>
    unfold eqT at he
    split at he
    · cases he
    · split at he <;> simp_all

theorem repL_get {α : Type} (l : List α) : ∀ (n i : Nat), i < n * l.length → (repL n l)[i]? = l[i % l.length]?
  | 0, i, h => by simp at h
  | n + 1, i, h => by
    rw [repL, appL_eq]
    rcases Nat.lt_or_ge i l.length with h1 | h1
    · rw [List.getElem?_append_left h1, Nat.mod_eq_of_lt h1]
    · rw [List.getElem?_append_right h1, repL_get l n (i - l.length) (by rw [Nat.succ_mul] at h; omega), Nat.mod_eq_sub_mod h1]
theorem repL_len {α : Type} (l : List α) : ∀ n : Nat, (repL n l).length = n * l.length
  | 0 => by simp [repL]
  | n + 1 => by rw [repL, appL_eq, List.length_append, repL_len l n, Nat.succ_mul]; omega
theorem rep_range (l : List Value) (n : Nat) : (Array.range (n * l.length)).map ((⟨l⟩ : Array Value)[· % l.length]!) = ⟨repL n l⟩ := by
  apply Array.ext
  · simp [repL_len]
  · intro i h1 h2
    simp only [Array.size_map, Array.size_range] at h1
    have hpos : 0 < l.length := by
      rcases Nat.eq_zero_or_pos l.length with h | h
      · rw [h] at h1; omega
      · exact h
    have hm : i % l.length < l.length := Nat.mod_lt _ hpos
    have e := repL_get l n i h1
    rw [List.getElem?_eq_getElem (by rw [repL_len]; exact h1), List.getElem?_eq_getElem hm] at e
    simp only [Array.getElem_map, Array.getElem_range]
    rw [getElem!_pos _ _ (by simpa using hm)]
    simpa using (Option.some.inj e).symm

theorem min_run {a n b m : Nat} (h1 : FW a n) (h2 : FW b m) (w : World) : ∃ v' w', (Builtin.min2 (.float .f64 n) (.float .f64 m)).run P w = .ok v' w' ∧ Drew w w' ∧ VR β (.float .f64 (M0.min a b)) v' := by
  have ho := op_cong nan_order h1 h2
  cases hr : FloatKind.f64.format.order a b with
  | none =>
    rw [hr] at ho
    refine ⟨.float .f64 ((Question.nanMinMax .f64 false n m).cut (w.tape w.drawn (.nanMinMax .f64 false n m))), { w with drawn := w.drawn + 1 }, ?_, ⟨_, rfl⟩, ?_⟩
    · simp [Builtin.min2, ho, Question.forced]
    · simp only [M0, hr]
      exact .nan (drawn_nan _)
  | some r =>
    rw [hr] at ho
    have e1 : n = a := by
      rcases h1 with e | ⟨rfl, _⟩
      · exact e
      · rw [(nan_order nanW b nanW_nan).1] at hr; cases hr
    have e2 : m = b := by
      rcases h2 with e | ⟨rfl, _⟩
      · exact e
      · rw [(nan_order nanW a nanW_nan).2] at hr; cases hr
    subst e1 e2
    refine ⟨_, w, ?_, Drew.refl w, .float _ _⟩
    cases r <;> simp [Builtin.min2, M0, hr]
theorem max_run {a n b m : Nat} (h1 : FW a n) (h2 : FW b m) (w : World) : ∃ v' w', (Builtin.max2 (.float .f64 n) (.float .f64 m)).run P w = .ok v' w' ∧ Drew w w' ∧ VR β (.float .f64 (M0.max a b)) v' := by
  have ho := op_cong nan_order h1 h2
  cases hr : FloatKind.f64.format.order a b with
  | none =>
    rw [hr] at ho
    refine ⟨.float .f64 ((Question.nanMinMax .f64 true n m).cut (w.tape w.drawn (.nanMinMax .f64 true n m))), { w with drawn := w.drawn + 1 }, ?_, ⟨_, rfl⟩, ?_⟩
    · simp [Builtin.max2, ho, Question.forced]
    · simp only [M0, hr]
      exact .nan (drawn_nan _)
  | some r =>
    rw [hr] at ho
    have e1 : n = a := by
      rcases h1 with e | ⟨rfl, _⟩
      · exact e
      · rw [(nan_order nanW b nanW_nan).1] at hr; cases hr
    have e2 : m = b := by
      rcases h2 with e | ⟨rfl, _⟩
      · exact e
      · rw [(nan_order nanW a nanW_nan).2] at hr; cases hr
    subst e1 e2
    refine ⟨_, w, ?_, Drew.refl w, .float _ _⟩
    cases r <;> simp [Builtin.max2, M0, hr]

theorem builtin_sound (hT : TabOK P T) {b : Builtin} {ats : Array TypeId} {args args' : List Value} {v : Value} (h : builtinV T M0 b ats.toList args = some (true, v)) (hr : VRL β args args') (ty : TypeId) (cs : Array Bool) :
    ∃ v' w', (builtin b ats ty cs ⟨args'⟩).run P w = .ok (.value v') w' ∧ Drew w w' ∧ VR β v v' := by
  have stay : ∀ {v'}, (builtin b ats ty cs ⟨args'⟩).run P w = .ok (.value v') w → VR β v v' → ∃ v' w', (builtin b ats ty cs ⟨args'⟩).run P w = .ok (.value v') w' ∧ Drew w w' ∧ VR β v v' := fun h1 h2 => ⟨_, w, h1, Drew.refl w, h2⟩
  unfold builtinV at h
  split at h
  · rename_i x y
    simp only [Option.some.injEq, Prod.mk.injEq, true_and] at h
    subst h
    cases hr with
    | cons a1 hr => cases hr with
      | cons a2 hr =>
        cases hr
        obtain ⟨n, rfl, h1⟩ := fw_of a1
        obtain ⟨m, rfl, h2⟩ := fw_of a2
        obtain ⟨v', w', e1, e2, e3⟩ := min_run (P := P) (β := β) h1 h2 w
        exact ⟨v', w', by simp [builtin, Builtin.min_, e1], e2, e3⟩
  · rename_i x y
    simp only [Option.some.injEq, Prod.mk.injEq, true_and] at h
    subst h
    cases hr with
    | cons a1 hr => cases hr with
      | cons a2 hr =>
        cases hr
        obtain ⟨n, rfl, h1⟩ := fw_of a1
        obtain ⟨m, rfl, h2⟩ := fw_of a2
        obtain ⟨v', w', e1, e2, e3⟩ := max_run (P := P) (β := β) h1 h2 w
        exact ⟨v', w', by simp [builtin, Builtin.max_, e1], e2, e3⟩
  · simp only [Option.some.injEq, Prod.mk.injEq, true_and] at h
    subst h
    cases hr with
    | cons a1 hr => cases hr with
      | cons a2 hr => cases hr; cases a1; cases a2
                      exact stay (by simp [builtin, Builtin.min_, Builtin.min2]) (.int _ _)
  · simp only [Option.some.injEq, Prod.mk.injEq, true_and] at h
    subst h
    cases hr with
    | cons a1 hr => cases hr with
      | cons a2 hr => cases hr; cases a1; cases a2
                      exact stay (by simp [builtin, Builtin.max_, Builtin.max2]) (.int _ _)
  · split at h
    · rename_i t hats
      split at h
      · rename_i ht
        simp only [Option.some.injEq, Prod.mk.injEq, true_and] at h
        subst h
        obtain ⟨info, d, z, hi, hd, _, _, _, hk, _⟩ := hT _ _ ht
        dsimp only at hk
        cases d <;> simp only [kindOf, reduceCtorEq] at hk
        have e : ats[0]? = some t := by
          have : ats = ⟨[t]⟩ := by apply Array.ext'; simpa using hats
          simp [this]
        cases hr with
        | cons a1 hr =>
          cases hr
          cases a1 <;> exact stay (by simp [builtin, Builtin.len_, e, run_underlying hd, goInt]) (.int _ _)
      · cases h
    · cases h
  · cases h

theorem callFunc_of {f : FuncId} {first captured : List Value} (ρ' : Operand → Value) (c : Call) (ty : TypeId) (x : Operand) (hc : c.callee = .value x) (hx : ρ' x = .func (.func f) ⟨first⟩ ⟨captured⟩) (w : World) :
    ((do let d ← resolve ρ' c ty; invoke d.target d.args) : Sem Next).run P w = (callFunc f ⟨first ++ ((c.args.toList.map ρ') ++ captured)⟩).run P w := by
  simp only [resolve, hc, hx, Deferred.ofValue]
  simp only [Sem.run_bind, Sem.run_pure, Result.andThen_ok, invoke]
  congr 2
  apply Array.ext'
  simp

/-- A block's maker, with the block's number put in. -/
def nameV (p : Nat) : Value → Value
  | .pointer (some ⟨_, o, x⟩) => .pointer (some ⟨p, o, x⟩)
  | .slice (some ⟨_, o, x⟩) l c => .slice (some ⟨p, o, x⟩) l c
  | v => v

/-- What makes a block: whatever blocks there are. -/
theorem al_run (hT : TabOK P T) (hρ : ∀ x, VR β (ρ x) (a.eval x)) (w : World) (o : Oper) {v : Value} {h' : Hp} (ha : isAl o.op = true) (hop : opR T M0 Φ ρ h o.op = some (true, v, h')) :
    ∃ (cells cells' : List Value) (t : TypeId) (mk : Nat → Value), h' = h ++ [(cells, t)] ∧ (execOp a.eval o).run P w = .ok (.value (mk w.heap.size)) { w with heap := w.heap.push (.cells ⟨cells'⟩ t (0, 0)) } ∧ VRL β cells cells' ∧
      (∀ (β' : List (Option Nat)) (p b : Nat), β'[p]? = some (some b) → VR β' (nameV p v) (mk b)) ∧ v = nameV (lenL h) v ∧ ∀ h2, opR T M0 Φ ρ h2 o.op = some (true, nameV (lenL h2) v, h2 ++ [(cells, t)]) := by
  obtain ⟨dst, op, ty, pos, after, guard⟩ := o
  dsimp only at hop ha
  cases op with
  | alloc t =>
    simp only [opR] at hop
    split at hop
    · rename_i ti ht
      simp only [Option.some.injEq, Prod.mk.injEq, true_and] at hop
      obtain ⟨rfl, rfl⟩ := hop
      obtain ⟨info, d, z, hi, hd, hz, hs, hzl, hk, _, hpl⟩ := hT _ _ ht
      refine ⟨ti.zero, z.cells.toList, t, fun n => .pointer (some ⟨n, 0, none⟩), appL_eq _ _, ?_, by rw [hzl]; exact plainL_rel _ hpl, fun β' p b hb => .ptr 0 hb, rfl, fun h2 => ?_⟩
      · simp [execOp, Instr.alloc, zeroValue, typeInfo, hi, hz, newVar, newRow]
      · simp only [opR, ht, appL_eq]; rfl
    · cases hop
  | box t x =>
    simp only [opR] at hop
    split at hop
    · cases hop
    · rename_i vs hvs
      simp only [Option.some.injEq, Prod.mk.injEq, true_and] at hop
      obtain ⟨rfl, rfl⟩ := hop
      obtain ⟨vs', hvs', hrel⟩ := cellsL_rel (hρ x) hvs
      refine ⟨vs, vs', t, fun n => .pointer (some ⟨n, 0, none⟩), appL_eq _ _, ?_, hrel, fun β' p b hb => .ptr 0 hb, rfl, fun h2 => ?_⟩
      · simp [execOp, Instr.box, newVar, newRow, hvs']
      · simp only [opR, hvs, appL_eq]; rfl
  | buildSlice t n parts =>
    simp only [opR] at hop
    split at hop
    · rename_i _ _ el _ ht
      split at hop
      · rename_i ei hel
        split at hop
        · rename_i hb0
          have hb := hb0
          simp only [Bool.and_eq_true, Nat.ble_eq, Nat.beq_eq, Bool.not_eq_true', lenL_eq] at hb
          split at hop
          · rename_i l hl
            simp only [Option.some.injEq, Prod.mk.injEq, true_and] at hop
            obtain ⟨rfl, rfl⟩ := hop
            obtain ⟨info, d, z, hi, hd, _, _, _, hk, _⟩ := hT _ _ ht
            obtain ⟨info2, d2, z2, hi2, hd2, hz2, hs2, hzl2, hk2, _, hpl2⟩ := hT _ _ hel
            dsimp only at hk
            cases d <;> simp only [kindOf, reduceCtorEq, TK.slice.injEq] at hk
            subst hk
            have hzr : VRL β (repL n ei.zero) (repL n ei.zero) := plainL_rel _ (plainL_app n _ hpl2)
            obtain ⟨l', e1, e2⟩ := fill_rel (place' := fun i => some (i * info2.size, info2.size)) (fun i x hx => by rw [hs2]; exact hx) _ _ _ _ l hzr (parts_rel hρ parts.toList) hl
            have hrep : (Array.range (n * info2.size)).map (z2.cells[· % z2.cells.size]!) = ⟨repL n ei.zero⟩ := by
              have hz3 : z2.cells = ⟨ei.zero⟩ := by rw [← hzl2]
              rw [hz3, hs2, ← hb.2]
              exact rep_range ei.zero n
            have e : (parts.map fun (i, x) => (i, a.eval x)) = (parts.toList.map fun p => (p.1, a.eval p.2)).toArray := by apply Array.ext'; simp
            refine ⟨l, l', _, fun g => .slice (some ⟨g, 0, none⟩) n n, appL_eq _ _, ?_, e2, fun β' p b hb => .slice 0 n n hb, rfl, fun h2 => ?_⟩
            · simp only [execOp]
              rw [e]
              have := run_buildSlice w t _ n (parts.toList.map fun p => (p.1, a.eval p.2)).toArray ⟨l'⟩ info2 z2 hd hi2 hz2 (by rw [hs2]; omega) (by rw [hs2]; intro e; rw [e] at hb; simp at hb) (by rw [hrep]; exact e1)
              simp only [Sem.run_bind, this, Result.andThen_ok]
              rfl
            · simp only [opR, ht, hel, hb0, hl, appL_eq]; rfl
          · cases hop
        · cases hop
      · cases hop
    · cases hop
  | _ => simp [isAl] at ha

theorem op_goes (hT : TabOK P T) (hΦ : FnsOK P Φ) (hr : Rel w0 β0 β h w) (hρ : ∀ x, VR β (ρ x) (a.eval x)) (o : Oper) {v : Value} {h' : Hp}
    (hop : opR T M0 Φ ρ h o.op = some (true, v, h')) : Goes P o a w w0 β0 β h' v := by
  obtain ⟨dst, op, ty, pos, after, guard⟩ := o
  dsimp only at hop
  cases op with
  | move x => simp only [opR, Option.some.injEq, Prod.mk.injEq, true_and] at hop; obtain ⟨rfl, rfl⟩ := hop; exact goes_value hr rfl (hρ x)
  | assign x => simp only [opR, Option.some.injEq, Prod.mk.injEq, true_and] at hop; obtain ⟨rfl, rfl⟩ := hop; exact goes_value hr rfl (hρ x)
  | alloc t =>
    simp only [opR] at hop
    split at hop
    · rename_i ti ht
      simp only [Option.some.injEq, Prod.mk.injEq, true_and] at hop
      obtain ⟨rfl, rfl⟩ := hop
      obtain ⟨info, d, z, hi, hd, hz, hs, hzl, hk, _, hpl⟩ := hT _ _ ht
      rw [appL_eq]
      refine goes_alloc hr (fun n => .pointer (some ⟨n, 0, none⟩)) (cells' := z.cells.toList) ?_ (by rw [hzl]; exact plainL_rel _ hpl) (new_ptr hr)
      simp [execOp, Instr.alloc, zeroValue, typeInfo, hi, hz, newVar, newRow]
    · cases hop
  | box t x =>
    simp only [opR] at hop
    split at hop
    · cases hop
    · rename_i vs hvs
      simp only [Option.some.injEq, Prod.mk.injEq, true_and] at hop
      obtain ⟨rfl, rfl⟩ := hop
      obtain ⟨vs', hvs', hrel⟩ := cellsL_rel (hρ x) hvs
      rw [appL_eq]
      refine goes_alloc hr (fun n => .pointer (some ⟨n, 0, none⟩)) (cells' := vs') ?_ hrel (new_ptr hr)
      simp [execOp, Instr.box, newVar, newRow, hvs']
  | build t parts =>
    simp only [opR] at hop
    split at hop
    · rename_i ti ht
      split at hop
      · rename_i ha
        split at hop
        · rename_i l hl
          simp only [Option.some.injEq, Prod.mk.injEq, true_and] at hop
          obtain ⟨rfl, rfl⟩ := hop
          obtain ⟨l', h1, h2⟩ := build_run (w := w) hT ht ha (parts_rel hρ parts.toList) hl
          refine goes_value hr ?_ (.agg h2)
          have e : (parts.map fun (i, x) => (i, a.eval x)) = (parts.toList.map fun p => (p.1, a.eval p.2)).toArray := by apply Array.ext'; simp
          simp only [execOp]
          rw [e]
          simp [h1]
        · cases hop
      · cases hop
    · cases hop
  | load t x =>
    simp only [opR] at hop
    split at hop
    · rename_i ti ht
      split at hop
      · rename_i b off hx
        split at hop
        · rename_i cells t' hb
          split at hop
          · rename_i v' hv'
            simp only [Option.some.injEq, Prod.mk.injEq, true_and] at hop
            obtain ⟨rfl, rfl⟩ := hop
            obtain ⟨info, d, z, hi, hd, hz, hs, hzl, hk, _, hpl⟩ := hT _ _ ht
            have hxr := hρ x
            rw [hx] at hxr
            obtain ⟨g, cells', e, _, hg, hc⟩ := ptr_block hr hxr hb
            obtain ⟨v', h1, h2⟩ := load_run hi hd hs hk hg hc hv'
            exact goes_value hr (by simp [execOp, Instr.loadAt, Instr.sureAddr, e, h1]) h2
          · cases hop
        · cases hop
      · cases hop
    · cases hop
  | store t x y =>
    simp only [opR] at hop
    split at hop
    · rename_i ti ht
      split at hop
      · rename_i b off hx
        split at hop
        · rename_i cells t' hb
          split at hop
          · rename_i cells2 hc2
            simp only [Option.some.injEq, Prod.mk.injEq, true_and] at hop
            obtain ⟨rfl, rfl⟩ := hop
            obtain ⟨info, d, z, hi, hd, hz, hs, hzl, hk, _, hpl⟩ := hT _ _ ht
            have hxr := hρ x
            rw [hx] at hxr
            obtain ⟨g, cells', e, hbg, hg, hc⟩ := ptr_block hr hxr hb
            obtain ⟨cells2', h1, h2⟩ := store_run hi hs hg hc (hρ y) hc2
            intro K Q hk'
            unfold Oper.wp
            have hrun : (execOp a.eval { dst := dst, op := .store t x y, type := ty, pos := pos, after := after, guard := guard }).run P w = .ok .skip (w.setRow g ⟨cells2'⟩) := by
              simp [execOp, Instr.storeAt, Instr.sureAddr, e, h1]
            rw [hrun]
            refine hk' [] undef _ ?_ (.tuple .nil)
            rw [setL_eq, List.append_nil]
            rw [nth_eq] at hb
            exact hr.store hb hbg h2
          · cases hop
        · cases hop
      · cases hop
    · cases hop
  | nilCheck x =>
    simp only [opR] at hop
    split at hop
    · rename_i ad hx
      simp only [Option.some.injEq, Prod.mk.injEq, true_and] at hop
      obtain ⟨rfl, rfl⟩ := hop
      have hxr := hρ x
      rw [hx] at hxr
      generalize hv' : a.eval x = v' at hxr
      cases hxr with
      | ptr o' hb => exact goes_value hr (by simp [execOp, hv']) (.ptr o' hb)
    · cases hop
  | binOp op t x y yt =>
    simp only [opR] at hop
    split at hop
    · rename_i k c k' d hx hy
      split at hop
      · rename_i g u hb
        simp only [Option.some.injEq, Prod.mk.injEq] at hop
        obtain ⟨rfl, rfl, rfl⟩ := hop
        have hxr := hρ x
        have hyr := hρ y
        rw [hx] at hxr
        rw [hy] at hyr
        obtain ⟨v', w', h1, hw, h2⟩ := binV_sound (P := P) (w := w) hb hxr hyr t
        refine goes_drew hr ?_ hw h2
        simp only [execOp]
        have : ∀ l, a.eval x ≠ .agg l := by intro l e; rw [e] at hxr; cases hxr
        have h3 : a.eval x ≠ .nilIface := by intro e; rw [e] at hxr; cases hxr
        simp [eqGuard_num _ _ _ _ _ _ this h3, h1]
      · cases hop
    · rename_i k c k' d hx hy
      split at hop
      · rename_i g u hb
        simp only [Option.some.injEq, Prod.mk.injEq] at hop
        obtain ⟨rfl, rfl, rfl⟩ := hop
        have hxr := hρ x
        have hyr := hρ y
        rw [hx] at hxr
        rw [hy] at hyr
        obtain ⟨v', w', h1, hw, h2⟩ := binV_sound (P := P) (w := w) hb hxr hyr t
        refine goes_drew hr ?_ hw h2
        simp only [execOp]
        have : ∀ l, a.eval x ≠ .agg l := by intro l e; rw [e] at hxr; cases hxr
        have h3 : a.eval x ≠ .nilIface := by intro e; rw [e] at hxr; cases hxr
        simp [eqGuard_num _ _ _ _ _ _ this h3, h1]
      · cases hop
    · rename_i xx yy n1 n2
      split at hop
      · split at hop
        · rename_i r he
          simp only [Option.some.injEq, Prod.mk.injEq, true_and] at hop
          obtain ⟨rfl, rfl⟩ := hop
          have hn := eql_op (P := P) (w := w) hT he (hρ x) (hρ y) x y (notInt he n1) (notFloat he n2)
          exact goes_value hr (by simp only [execOp]; rw [Sem.run_bind, hn.1]; rfl) (.bool _)
        · cases hop
      · split at hop
        · rename_i r he
          simp only [Option.some.injEq, Prod.mk.injEq, true_and] at hop
          obtain ⟨rfl, rfl⟩ := hop
          have hn := eql_op (P := P) (w := w) hT he (hρ x) (hρ y) x y (notInt he n1) (notFloat he n2)
          exact goes_value hr (by simp only [execOp]; rw [Sem.run_bind, hn.2]; rfl) (.bool _)
        · cases hop
      · cases hop
  | unOp op t x =>
    simp only [opR] at hop
    split at hop
    · rename_i g u hb
      simp only [Option.some.injEq, Prod.mk.injEq] at hop
      obtain ⟨rfl, rfl, rfl⟩ := hop
      obtain ⟨v', h1, h2⟩ := unV_sound (P := P) (w := w) hb (hρ x)
      exact goes_value hr (by simp [execOp, h1]) h2
    · cases hop
  | convert s d x =>
    simp only [opR] at hop
    split at hop
    · rename_i si di hs hd
      split at hop
      · rename_i g u hb
        simp only [Option.some.injEq, Prod.mk.injEq] at hop
        obtain ⟨rfl, rfl, rfl⟩ := hop
        obtain ⟨_, sd, _, _, hsu, _⟩ := hT _ _ hs
        obtain ⟨_, dd, _, _, hdu, _, _, _, hk, _⟩ := hT _ _ hd
        obtain ⟨v', h1, h2⟩ := convV_sound (P := P) (w := w) ⟨sd, hsu⟩ hdu hk hb (hρ x)
        exact goes_value hr (by simp [execOp, h1]) h2
      · cases hop
    · cases hop
  | fieldAddr s x f =>
    simp only [opR] at hop
    split at hop
    · rename_i ti ht
      split at hop
      · rename_i fs hfs
        split at hop
        · rename_i off t hf
          split at hop
          · rename_i fi hfi
            split at hop
            · rename_i hz
              split at hop
              · rename_i b o' hx
                simp only [Option.some.injEq, Prod.mk.injEq, true_and] at hop
                obtain ⟨rfl, rfl⟩ := hop
                obtain ⟨info, d, z, hi, hd, _, _, _, hk, _⟩ := hT _ _ ht
                obtain ⟨info2, d2, z2, hi2, _, _, hs2, _⟩ := hT _ _ hfi
                have hxr := hρ x
                rw [hx] at hxr
                generalize hv' : a.eval x = v' at hxr
                cases hxr with
                | ptr _ hb =>
                  rename_i g
                  refine goes_value hr (v' := .pointer (some ⟨g, o' + off, none⟩)) ?_ (.ptr _ hb)
                  cases d <;> simp only [kindOf, hfs, reduceCtorEq, TK.struct.injEq] at hk
                  rename_i gs
                  subst hk
                  rw [nth_eq] at hf
                  simp only [List.getElem?_map, Option.map_eq_some_iff, Prod.mk.injEq] at hf
                  obtain ⟨fld, hfld, rfl, rfl⟩ := hf
                  have hz2 : info2.size ≠ 0 := by
                    intro e; rw [e] at hs2; rw [← hs2] at hz; simp at hz
                  have hfld' : gs[f]? = some fld := by simpa using hfld
                  simp [execOp, Instr.fieldAt, run_underlying hd, hfld', hv', Instr.sureAddr, fieldPlace, sizeOf_run hi2, hz2, Addr.add_mid]
              · cases hop
            · cases hop
          · cases hop
        · cases hop
      · cases hop
    · cases hop
  | indexAddr t x ix =>
    simp only [opR] at hop
    split at hop
    · rename_i ti ht
      obtain ⟨info, d, z, hi, hd, _, _, _, hk, _⟩ := hT _ _ ht
      split at hop
      · rename_i k i hix
        have hixr := hρ ix
        rw [hix] at hixr
        generalize hvi : a.eval ix = vi at hixr
        cases hixr
        split at hop
        · rename_i n el b off hkk hx
          split at hop
          · rename_i ei hel
            simp only [Option.some.injEq, Prod.mk.injEq, Bool.and_eq_true, decide_eq_true_eq] at hop
            obtain ⟨hb, rfl, rfl⟩ := hop
            obtain ⟨info2, d2, z2, hi2, _, _, hs2, _⟩ := hT _ _ hel
            have hxr := hρ x
            rw [hx] at hxr
            generalize hv' : a.eval x = v' at hxr
            cases hxr with
            | ptr _ hbg =>
              rename_i g
              cases d <;> simp only [kindOf, hkk, reduceCtorEq, TK.array.injEq] at hk
              obtain ⟨rfl, rfl⟩ := hk
              refine goes_value hr (v' := .pointer (some ⟨g, off + i.toNat * ei.size, none⟩)) ?_ (.ptr _ hbg)
              simp [execOp, Instr.indexAt, hvi, asIntOf, run_underlying hd, hv', Instr.sureAddr, hb.1, hb.2, sizeOf_run hi2, hs2, Addr.add_mid]
          · cases hop
        · rename_i el b off n c hkk hx
          split at hop
          · rename_i ei hel
            simp only [Option.some.injEq, Prod.mk.injEq, Bool.and_eq_true, decide_eq_true_eq] at hop
            obtain ⟨hb, rfl, rfl⟩ := hop
            obtain ⟨info2, d2, z2, hi2, _, _, hs2, _⟩ := hT _ _ hel
            have hxr := hρ x
            rw [hx] at hxr
            generalize hv' : a.eval x = v' at hxr
            cases hxr with
            | slice _ _ _ hbg =>
              rename_i g
              cases d <;> simp only [kindOf, hkk, reduceCtorEq, TK.slice.injEq] at hk
              subst hk
              refine goes_value hr (v' := .pointer (some ⟨g, off + i.toNat * ei.size, none⟩)) ?_ (.ptr _ hbg)
              simp [execOp, Instr.indexAt, hvi, asIntOf, run_underlying hd, hv', hb.1, hb.2, sizeOf_run hi2, hs2, Addr.add_mid]
          · cases hop
        · cases hop
      · cases hop
    · cases hop
  | field t x f =>
    simp only [opR] at hop
    split at hop
    · rename_i ti ht
      split at hop
      · rename_i fs l hfs hx
        split at hop
        · rename_i off ft hf
          split at hop
          · rename_i fi hfi
            split at hop
            · rename_i u hu
              simp only [Option.some.injEq, Prod.mk.injEq, true_and] at hop
              obtain ⟨rfl, rfl⟩ := hop
              obtain ⟨info, d, z, hi, hd, _, _, _, hk, _⟩ := hT _ _ ht
              obtain ⟨info2, d2, z2, hi2, hd2, _, hs2, _, hk2, _⟩ := hT _ _ hfi
              have hxr := hρ x
              rw [hx] at hxr
              generalize hv' : a.eval x = v' at hxr
              cases hxr with
              | agg hl =>
                cases d <;> simp only [kindOf, hfs, reduceCtorEq, TK.struct.injEq] at hk
                rename_i gs
                subst hk
                rw [nth_eq] at hf
                simp only [List.getElem?_map, Option.map_eq_some_iff, Prod.mk.injEq] at hf
                obtain ⟨fld, hfld, rfl, rfl⟩ := hf
                have hfld' : gs[f]? = some fld := by simpa using hfld
                obtain ⟨u', h1, h2⟩ := partL_sound (w := w) hi2 hd2 hs2 hk2 hu hl
                exact goes_value hr (by simp [execOp, Instr.field, run_underlying hd, hfld', hv', asAgg, h1]) h2
            · cases hop
          · cases hop
        · cases hop
      · cases hop
    · cases hop
  | index t x ix =>
    simp only [opR] at hop
    split at hop
    · rename_i ti ht
      obtain ⟨info, d, z, hi, hd, _, _, _, hk, _⟩ := hT _ _ ht
      split at hop
      · rename_i k i hix
        have hixr := hρ ix
        rw [hix] at hixr
        generalize hvi : a.eval ix = vi at hixr
        cases hixr
        split at hop
        · rename_i n el l hkk hx
          split at hop
          · rename_i ei hel
            split at hop
            · rename_i hb
              simp only [Bool.and_eq_true, decide_eq_true_eq] at hb
              split at hop
              · rename_i u hu
                simp only [Option.some.injEq, Prod.mk.injEq, true_and] at hop
                obtain ⟨rfl, rfl⟩ := hop
                obtain ⟨info2, d2, z2, hi2, hd2, _, hs2, _, hk2, _⟩ := hT _ _ hel
                have hxr := hρ x
                rw [hx] at hxr
                generalize hv' : a.eval x = v' at hxr
                cases hxr with
                | agg hl =>
                  cases d <;> simp only [kindOf, hkk, reduceCtorEq, TK.array.injEq] at hk
                  obtain ⟨rfl, rfl⟩ := hk
                  obtain ⟨u', h1, h2⟩ := partL_sound (w := w) hi2 hd2 hs2 hk2 hu hl
                  exact goes_value hr (by simp [execOp, Instr.index, hvi, asIntOf, run_underlying hd, hv', hb.1, hb.2, sizeOf_run hi2, hs2, h1]) h2
              · cases hop
            · cases hop
          · cases hop
        · rename_i s hkk hx
          simp only [Option.some.injEq, Prod.mk.injEq, Bool.and_eq_true, decide_eq_true_eq] at hop
          obtain ⟨hb, rfl, rfl⟩ := hop
          have hxr := hρ x
          rw [hx] at hxr
          generalize hv' : a.eval x = v' at hxr
          cases hxr
          cases d <;> simp only [kindOf, hkk, reduceCtorEq] at hk
          have hlt : i.toNat < s.size := by omega
          have hlt' : i.toNat < s.data.toList.length := by simpa using hlt
          have e1 : s[i.toNat]? = some s[i.toNat] := by simp [hlt]
          have e2 : (s.data.toList.getD i.toNat 0) = s[i.toNat] := by
            rw [List.getD_eq_getElem?_getD, List.getElem?_eq_getElem hlt']
            simp [ByteArray.getElem_eq_getElem_data]
          rw [e2]
          refine goes_value hr ?_ (.int _ _)
          simp [execOp, Instr.index, hvi, asIntOf, run_underlying hd, hv', hb.1, e1]
        · cases hop
      · cases hop
    · cases hop
  | buildSlice t n parts =>
    simp only [opR] at hop
    split at hop
    · rename_i _ _ el _ ht
      split at hop
      · rename_i ei hel
        split at hop
        · rename_i hb
          simp only [Bool.and_eq_true, Nat.ble_eq, Nat.beq_eq, Bool.not_eq_true', lenL_eq] at hb
          split at hop
          · rename_i l hl
            simp only [Option.some.injEq, Prod.mk.injEq, true_and] at hop
            obtain ⟨rfl, rfl⟩ := hop
            obtain ⟨info, d, z, hi, hd, _, _, _, hk, _⟩ := hT _ _ ht
            obtain ⟨info2, d2, z2, hi2, hd2, hz2, hs2, hzl2, hk2, _, hpl2⟩ := hT _ _ hel
            dsimp only at hk
            cases d <;> simp only [kindOf, reduceCtorEq, TK.slice.injEq] at hk
            subst hk
            rw [appL_eq]
            have hzr : VRL β (repL n ei.zero) (repL n ei.zero) := plainL_rel _ (plainL_app n _ hpl2)
            obtain ⟨l', e1, e2⟩ := fill_rel (place' := fun i => some (i * info2.size, info2.size)) (fun i x hx => by rw [hs2]; exact hx) _ _ _ _ l hzr (parts_rel hρ parts.toList) hl
            have hrep : (Array.range (n * info2.size)).map (z2.cells[· % z2.cells.size]!) = ⟨repL n ei.zero⟩ := by
              have hz3 : z2.cells = ⟨ei.zero⟩ := by rw [← hzl2]
              rw [hz3, hs2, ← hb.2]
              exact rep_range ei.zero n
            have e : (parts.map fun (i, x) => (i, a.eval x)) = (parts.toList.map fun p => (p.1, a.eval p.2)).toArray := by apply Array.ext'; simp
            refine goes_alloc hr (fun g => .slice (some ⟨g, 0, none⟩) n n) (cells' := l') ?_ e2 ?_
            · simp only [execOp]
              rw [e]
              have := run_buildSlice w t _ n (parts.toList.map fun p => (p.1, a.eval p.2)).toArray ⟨l'⟩ info2 z2 hd hi2 hz2 (by rw [hs2]; omega) (by rw [hs2]; intro e; rw [e] at hb; simp at hb) (by rw [hrep]; exact e1)
              simp only [Sem.run_bind, this, Result.andThen_ok]
              rfl
            · refine .slice 0 n n ?_
              rw [lenL_eq, ← hr.len]
              simp
          · cases hop
        · cases hop
      · cases hop
    · cases hop
  | extract x i =>
    simp only [opR] at hop
    split at hop
    · rename_i l hx
      split at hop
      · rename_i u hu
        simp only [Option.some.injEq, Prod.mk.injEq, true_and] at hop
        obtain ⟨rfl, rfl⟩ := hop
        have hxr := hρ x
        rw [hx] at hxr
        generalize hv' : a.eval x = v' at hxr
        cases hxr with
        | tuple hl =>
          rw [nth_eq] at hu
          obtain ⟨u', h1, h2⟩ := hl.get i hu
          exact goes_value hr (by simp [execOp, Instr.extract, hv', h1]) h2
      · cases hop
    · cases hop
  | makeFunc fn first captured =>
    simp only [opR, Option.some.injEq, Prod.mk.injEq, true_and] at hop
    obtain ⟨rfl, rfl⟩ := hop
    refine goes_value hr (v' := .func fn ⟨first.toList.map a.eval⟩ ⟨captured.toList.map a.eval⟩) ?_ (.func fn (opvs_rel hρ _) (opvs_rel hρ _))
    simp only [execOp, Instr.makeFunc]
    simp
    constructor <;> (apply Array.ext'; simp)
  | call c =>
    simp only [opR, callV] at hop
    split at hop
    · rename_i b hc
      split at hop
      · rename_i g u hu
        simp only [Option.some.injEq, Prod.mk.injEq] at hop
        obtain ⟨rfl, rfl, rfl⟩ := hop
        obtain ⟨v', w', h1, hw, h2⟩ := builtin_sound (P := P) (w := w) hT hu (opvs_rel hρ c.args.toList) ty (c.args.map fun | .const _ => true | _ => false)
        refine goes_drew hr ?_ hw h2
        simp only [execOp, resolve, hc]
        simp only [Sem.run_bind, Sem.run_pure, Result.andThen_ok, invoke]
        have e : (c.args.map a.eval) = ⟨c.args.toList.map a.eval⟩ := by apply Array.ext'; simp
        rw [e]
        exact h1
      · cases hop
    · rename_i f hc
      split at hop
      · rename_i f' first captured hf
        have hfr := hρ f
        rw [hf] at hfr
        generalize hv' : a.eval f = v' at hfr
        cases hfr with
        | func _ h1 h2 =>
          rw [appL_eq, appL_eq] at hop
          have hcall := hΦ _ _ _ _ _ hop β w _ hr.start (h1.append ((opvs_rel hρ c.args.toList).append h2))
          intro K Q hk
          unfold Oper.wp
          simp only [execOp]
          rw [callFunc_of a.eval c ty f hc hv']
          exact hcall _ a K Q fun v'' w' ⟨γ, hr', hv''⟩ => hk γ v'' w' (hr.trans hr') hv''
      · cases hop
    · cases hop
  | _ => simp [opR] at hop

end
end Go.Lan
