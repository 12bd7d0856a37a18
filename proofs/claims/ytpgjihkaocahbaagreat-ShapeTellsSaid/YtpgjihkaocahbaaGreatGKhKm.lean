import Derived.Test.YtpgjihkaocahbaaGreatGKbKg
/- A region's operations, one behind the other: the interpreter's run and the machine's. -/
namespace Go.Lan

def opF (f : Nat → Value) : Operand → Value
  | .tmp t => f t
  | .const v => constV v
  | .func g => .func (.func g) ⟨[]⟩ ⟨[]⟩
  | .global _ => .complex .f32 0 0

theorem opv_eq (e : Env) : opv e = opF (getE e) := by funext x; cases x <;> rfl

def upd (d : Option Tmp) (v : Value) (f : Nat → Value) : Nat → Value :=
  match d with
  | some d => fun n => if d = n then v else f n
  | none => f

theorem getE_cons (k : Nat) (v : Value) (e : Env) (n : Nat) : getE ((k, v) :: e) n = if k = n then v else getE e n := by
  simp only [getE]
  split
  · rename_i h; rw [if_pos (Nat.eq_of_beq_eq_true h)]
  · rename_i h; rw [if_neg (fun e => by subst e; simp at h)]

theorem getE_putE (d : Option Tmp) (v : Value) (e : Env) : getE (putE d v e) = upd d v (getE e) := by
  funext n
  cases d with
  | none => rfl
  | some d => exact getE_cons d v e n

def guardD (all : List Oper) (f : Nat → Value) (o : Oper) : Option Bool :=
  match o.guard with
  | none => some true
  | some (j, want) => match guardSlot all j with
    | none => none
    | some s => match f s with
      | .bool b => some (b == want)
      | .tuple _ => some false
      | _ => none

def outD (T : Tab) (M : Prims) (Φ : Fns) (all : List Oper) (o : Oper) (f : Nat → Value) (h : Hp) : Option (Value × Hp) :=
  match guardD all f o with
  | none => none
  | some false => some (.tuple #[], h)
  | some true => match asPick o.op with
    | some (c, a, b) => match opF f c with
      | .bool x => some (cond x (opF f a) (opF f b), h)
      | _ => none
    | none => match opR T M Φ (opF f) h o.op with
      | some (true, v, h') => some (v, h')
      | _ => none

abbrev S := (Nat → Value) × Hp

def stepD (T : Tab) (M : Prims) (Φ : Fns) (all : List Oper) (o : Oper) (s : S) : Option S :=
  match outD T M Φ all o s.1 s.2 with
  | some (v, h) => some (upd o.dst v s.1, h)
  | none => none

def runI (T : Tab) (M : Prims) (Φ : Fns) (all : List Oper) : List Nat → S → Option S
  | [], s => some s
  | i :: l, s => match all[i]? with
    | none => none
    | some o => match stepD T M Φ all o s with
      | none => none
      | some s' => runI T M Φ all l s'

section
variable {P : Program} {T : Tab} {M : Prims} {Φ : Fns} {β β0 : List (Option Nat)} {w0 w : World} {h : Hp} {a : Act} {ρ : Operand → Value}

theorem cond_some {α : Type} {g : Bool} {x : Option α} {r : α} (h : cond g x none = some r) : g = true ∧ x = some r := by
  cases g
  · cases h
  · exact ⟨rfl, h⟩

theorem upd_self {f : Nat → Value} {s : Nat} {v : Value} (h : f s = v) : upd (some s) v f = f := by
  funext n
  simp only [upd]
  split
  · rename_i e; rw [← e, h]
  · rfl

theorem getE_refine {e : Env} {c : Operand} {b : Bool} (h : opv e c = .bool b) : getE (refine c b e) = getE e := by
  cases c with
  | tmp t =>
    funext n
    simp only [refine, getE_cons]
    split
    · rename_i he; rw [← he]; exact h.symm
    · rfl
  | _ => rfl

theorem evOne_run {o : Oper} {e : Env} {h : Hp} {res : Type} {k : Env → Hp → Option res} {r : res} (all : List Oper) (hg : guardD all (getE e) o = some true) (hev : evOne T M Φ o e h k = some r) :
    ∃ v h' e', outD T M Φ all o (getE e) h = some (v, h') ∧ getE e' = upd o.dst v (getE e) ∧ k e' h' = some r := by
  unfold evOne at hev
  unfold outD
  rw [hg]
  dsimp only
  split at hev
  · rename_i c a b hp
    rw [hp, ← opv_eq]
    split at hev
    · rename_i x hx
      dsimp only
      rw [hx]
      cases x
      · exact ⟨_, _, _, rfl, by rw [getE_putE, getE_refine hx]; rfl, hev⟩
      · exact ⟨_, _, _, rfl, by rw [getE_putE, getE_refine hx]; rfl, hev⟩
    · cases hev
  · rename_i hp
    rw [hp, ← opv_eq]
    split at hev
    · rename_i g v h' hop
      obtain ⟨rfl, hk⟩ := cond_some hev
      dsimp only
      rw [hop]
      exact ⟨v, h', _, rfl, getE_putE _ _ _, hk⟩
    · cases hev

theorem evOps_run {res : Type} (all : List Oper) : ∀ (l : List Oper) (j : Nat) (e : Env) (h : Hp) (k : Env → Hp → Option res) (r : res), all.drop j = l → evOps T M Φ all l e h k = some r →
    ∃ f' h' e', runI T M Φ all (List.range' j l.length) (getE e, h) = some (f', h') ∧ getE e' = f' ∧ k e' h' = some r
  | [], j, e, h, k, r, _, hev => ⟨_, _, e, rfl, rfl, hev⟩
  | o :: l, j, e, h, k, r, hd, hev => by
    have ho : all[j]? = some o := by
      have : (all.drop j)[0]? = some o := by rw [hd]; rfl
      simpa using this
    have hd' : all.drop (j + 1) = l := by
      have : (all.drop j).drop 1 = l := by rw [hd]; rfl
      rw [List.drop_drop] at this
      exact this
    rw [List.length_cons, List.range'_succ]
    have done : ∀ v h1 e1, outD T M Φ all o (getE e) h = some (v, h1) → getE e1 = upd o.dst v (getE e) → evOps T M Φ all l e1 h1 k = some r →
        ∃ f' h' e', runI T M Φ all (j :: List.range' (j + 1) l.length) (getE e, h) = some (f', h') ∧ getE e' = f' ∧ k e' h' = some r := by
      intro v h1 e1 h2 h3 h4
      obtain ⟨f', h', e', a1, a2, a3⟩ := evOps_run all l (j + 1) e1 h1 k r hd' h4
      refine ⟨f', h', e', ?_, a2, a3⟩
      simp only [runI, ho, stepD, h2]
      rw [← h3]
      exact a1
    have one : ∀ e2, getE e2 = getE e → guardD all (getE e) o = some true → (evOne T M Φ o e2 h fun e h => evOps T M Φ all l e h k) = some r →
        ∃ f' h' e', runI T M Φ all (j :: List.range' (j + 1) l.length) (getE e, h) = some (f', h') ∧ getE e' = f' ∧ k e' h' = some r := by
      intro e2 he hg hh
      rw [← he] at hg
      obtain ⟨v, h1, e1, b1, b2, b3⟩ := evOne_run all hg hh
      rw [he] at b1 b2
      exact done v h1 e1 b1 b2 b3
    have skip : ∀ e2, getE e2 = getE e → guardD all (getE e) o = some false → evOps T M Φ all l (putE o.dst (.tuple #[]) e2) h k = some r →
        ∃ f' h' e', runI T M Φ all (j :: List.range' (j + 1) l.length) (getE e, h) = some (f', h') ∧ getE e' = f' ∧ k e' h' = some r := by
      intro e2 he hg hh
      refine done (.tuple #[]) h _ ?_ ?_ hh
      · simp [outD, hg]
      · rw [getE_putE, he]
    simp only [evOps] at hev
    split at hev
    · rename_i hg
      exact one e rfl (by simp [guardD, hg]) hev
    · rename_i j' want hg
      split at hev
      · cases hev
      · rename_i s hs
        split at hev
        · rename_i b hb
          have hself : ∀ c, c = b → getE ((s, .bool c) :: e) = getE e := by
            intro c hc
            funext n
            rw [getE_cons]
            split
            · rename_i h1; rw [← h1, hb, hc]
            · rfl
          cases b <;> cases want <;> simp only [cond_true, cond_false] at hev
          · exact one _ (hself _ rfl) (by simp [guardD, hg, hs, hb]) hev
          · exact skip _ (hself _ rfl) (by simp [guardD, hg, hs, hb]) hev
          · exact skip _ (hself _ rfl) (by simp [guardD, hg, hs, hb]) hev
          · exact one _ (hself _ rfl) (by simp [guardD, hg, hs, hb]) hev
        · rename_i l' hb
          exact skip e rfl (by simp [guardD, hg, hs, hb]) hev
        · cases hev

end
end Go.Lan

/- A region's operations, carried out by the machine in a given order. -/
namespace Go.Lan
section
variable {P : Program} {T : Tab} {Φ : Fns} {β β0 : List (Option Nat)} {w0 w : World} {h : Hp} {a : Act}

/-- The registers. -/
structure FR (tn : Nat) (β : List (Option Nat)) (f : Nat → Value) (a : Act) : Prop where
  reg : ∀ d, VR β (f d) (a.tmps.getD d undef)
  size : tn ≤ a.tmps.size
  defers : a.defers = []

theorem FR.mono {tn : Nat} {f : Nat → Value} (γ : List (Option Nat)) (r : FR tn β f a) : FR tn (β ++ γ) f a := ⟨fun d => (r.reg d).mono γ, r.size, r.defers⟩

theorem opF_rel {tn : Nat} {f : Nat → Value} (r : FR tn β f a) : ∀ x, VR β (opF f x) (a.eval x)
  | .tmp t => r.reg t
  | .const v => constV_rel v
  | .func _ => .func _ .nil .nil
  | .global _ => .unk _ _ _ _

def dstOK (n : Nat) (d : Option Tmp) : Bool :=
  match d with
  | some d => Nat.blt d n
  | none => true

theorem FR.put {tn : Nat} {f : Nat → Value} (r : FR tn β f a) {d : Option Tmp} (hd : dstOK tn d = true) {v v' : Value} (hv : VR β v v') : FR tn β (upd d v f) (a.put d v') := by
  cases d with
  | none => exact r
  | some d =>
    simp only [dstOK, Nat.blt_eq] at hd
    refine ⟨fun n => ?_, by simpa [Act.put] using r.size, r.defers⟩
    simp only [upd, Act.put]
    have hs := r.size
    split
    · rename_i e
      subst e
      rw [Array.getD_eq_getD_getElem?, Array.getElem?_setIfInBounds_self_of_lt (by omega)]
      exact hv
    · rename_i e
      rw [Array.getD_eq_getD_getElem?, Array.getElem?_setIfInBounds_ne e, ← Array.getD_eq_getD_getElem?]
      exact r.reg n

theorem dstsOK_get {n : Nat} : ∀ (l : List Oper), dstsOK n l = true → ∀ (i : Nat) (o : Oper), l[i]? = some o → dstOK n o.dst = true
  | [], _, i, o, h => by simp at h
  | o' :: l, hd, 0, o, h => by
    simp only [dstsOK, Bool.and_eq_true] at hd
    simp at h
    subst h
    exact hd.1
  | o' :: l, hd, i + 1, o, h => by
    simp only [dstsOK, Bool.and_eq_true] at hd
    exact dstsOK_get l hd.2 i o (by simpa using h)

theorem slot_get {tn : Nat} {f : Nat → Value} (r : FR tn β f a) {s : Nat} : (∀ b, f s = .bool b → a.tmps[s]? = some (.bool b)) ∧ (∀ l, f s = .tuple l → ∀ b, a.tmps[s]? ≠ some (.bool b)) := by
  have hr := r.reg s
  rw [Array.getD_eq_getD_getElem?] at hr
  constructor
  · intro b hb
    rw [hb] at hr
    generalize hv : (a.tmps[s]?).getD undef = v at hr
    cases hr
    cases ht : a.tmps[s]? with
    | none => rw [ht] at hv; simp [undef] at hv
    | some u => rw [ht] at hv; simp at hv; rw [hv]
  · intro l hb b ht
    rw [hb, ht] at hr
    simp at hr
    cases hr

theorem guard_rel {tn : Nat} {ops : Array Oper} {f : Nat → Value} (r : FR tn β f a) {o : Oper} {g : Bool} (hg : guardD ops.toList f o = some g) : Region.wanted o (yielded ops a.tmps) = g := by
  unfold guardD at hg
  unfold Region.wanted
  split at hg
  · rename_i h; cases hg; simp [h]
  · rename_i j want h
    simp only [h]
    split at hg
    · cases hg
    · rename_i s hs
      have hy : yielded ops a.tmps j = match a.tmps[s]? with | some (.bool b) => some b | _ => none := by
        unfold guardSlot at hs
        rw [nth_eq] at hs
        split at hs
        · rename_i oj hj
          have hj' : ops[j]? = some oj := by simpa using hj
          simp only [yielded, hj', Option.bind_some, hs]
          rfl
        · cases hs
      rw [hy]
      obtain ⟨h1, h2⟩ := slot_get r (s := s)
      split at hg
      · rename_i b hb
        cases hg
        simp only [h1 b hb]
        cases b <;> cases want <;> rfl
      · rename_i l hl
        cases hg
        have := h2 _ hl
        split
        · rename_i b hb; exact absurd hb (this b)
        · simp
      · cases hg

theorem step_sound (hT : TabOK P T) (hΦ : FnsOK P Φ) {ops : Array Oper} {tn : Nat} (hdst : dstsOK tn ops.toList = true) {f f' : Nat → Value} {h' : Hp} {i : Nat} {o : Oper} (ho : ops.toList[i]? = some o)
    (hst : stepD T M0 Φ ops.toList o (f, h) = some (f', h')) (hf : FR tn β f a) (hr : Rel w0 β0 β h w) {K : Act → World → Prop} {Q : Exit → Act → World → Prop}
    (hk : ∀ γ a' w', FR tn (β ++ γ) f' a' → Rel w0 β0 (β ++ γ) h' w' → K a' w') : wpOp P ops Q i K a w := by
  have hdo := dstsOK_get _ hdst i o ho
  unfold wpOp
  rw [show ops[i]? = some o by simpa using ho]
  dsimp only
  unfold stepD at hst
  split at hst
  · rename_i v h1 hout
    cases hst
    unfold outD at hout
    dsimp only at hout
    split at hout
    · cases hout
    · rename_i hg
      cases hout
      rw [guard_rel hf hg]
      exact hk [] _ _ (by rw [List.append_nil]; exact hf.put hdo (.tuple .nil)) (by rw [List.append_nil]; exact hr)
    · rename_i hg
      rw [guard_rel hf hg, if_pos rfl]
      left
      split at hout
      · rename_i c x y hp
        split at hout
        · rename_i b hb
          cases hout
          have hc := opF_rel hf c
          rw [hb] at hc
          have hop : o.op = .pick c x y := by
            unfold asPick at hp
            split at hp
            · rename_i h1; rw [h1]; cases hp; rfl
            · cases hp
          have hrun : (execOp a.eval o).run P w = .ok (.value (if b then a.eval x else a.eval y)) w := by
            generalize hv : a.eval c = v' at hc
            cases hc
            simp only [execOp, hop, hv]
            cases b <;> simp [asBool]
          unfold Oper.wp
          rw [hrun]
          refine hk [] _ _ ?_ (by rw [List.append_nil]; exact hr)
          rw [List.append_nil]
          refine hf.put hdo ?_
          cases b
          · exact opF_rel hf y
          · exact opF_rel hf x
        · cases hout
      · split at hout
        · rename_i v1 h2 hop
          cases hout
          exact op_goes hT hΦ hr (opF_rel hf) o hop K Q fun γ v' w' hr' hv' => hk γ _ w' ((hf.mono γ).put hdo hv') hr'
        · cases hout
  · cases hst

theorem wpOps_of_run (hT : TabOK P T) (hΦ : FnsOK P Φ) {ops : Array Oper} {tn : Nat} (hdst : dstsOK tn ops.toList = true) {Q : Exit → Act → World → Prop} {f' : Nat → Value} {h' : Hp} :
    ∀ (l : List Nat) (f : Nat → Value) (h : Hp) (β : List (Option Nat)) (a : Act) (w : World), runI T M0 Φ ops.toList l (f, h) = some (f', h') → FR tn β f a → Rel w0 β0 β h w →
      (∀ γ a' w', FR tn (β ++ γ) f' a' → Rel w0 β0 (β ++ γ) h' w' → Q .normal a' w') → wpOps P ops Q l a w
  | [], f, h, β, a, w, hrun, hf, hr, hk => by
    cases hrun
    exact hk [] a w (by simpa using hf) (by simpa using hr)
  | i :: l, f, h, β, a, w, hrun, hf, hr, hk => by
    rw [wpOps_cons]
    simp only [runI] at hrun
    split at hrun
    · cases hrun
    · rename_i o ho
      split at hrun
      · cases hrun
      · rename_i s' hs
        obtain ⟨f1, h1⟩ := s'
        refine step_sound hT hΦ hdst ho hs hf hr fun γ a' w' hf' hr' => ?_
        refine wpOps_of_run hT hΦ hdst l f1 h1 _ a' w' hrun hf' hr' fun γ' a'' w'' hf'' hr'' => ?_
        rw [List.append_assoc] at hf'' hr''
        exact hk _ a'' w'' hf'' hr''

end
end Go.Lan

/- A region that draws its order: in whatever order it is carried out, it comes to the same. -/
namespace Go.Lan

/-- The functions that are called turn no memory, and look at no other than that of their arguments. -/
def PureF (Φ : Fns) : Prop := ∀ f args h h2, (∀ b ∈ blks args, nth h2 b = nth h b) → Φ f args h2 = (Φ f args h).map fun p => (p.1, p.2.1, h2)

section
variable {T : Tab} {M : Prims} {Φ : Fns}

theorem opvs_congr {ρ ρ' : Operand → Value} : ∀ (l : List Operand), (∀ x ∈ l, ρ x = ρ' x) → opvs ρ l = opvs ρ' l
  | [], _ => rfl
  | x :: l, h => by simp only [opvs, h x (by simp), opvs_congr l fun y hy => h y (by simp [hy])]
theorem partsV_congr {ρ ρ' : Operand → Value} : ∀ (l : List (Nat × Operand)), (∀ x ∈ l.map (·.2), ρ x = ρ' x) → partsV ρ l = partsV ρ' l
  | [], _ => rfl
  | (i, x) :: l, h => by simp only [partsV, h x (by simp), partsV_congr l fun y hy => h y (by simp only [List.map_cons, List.mem_cons]; exact .inr hy)]

theorem callV_congr {ρ ρ' : Operand → Value} (h : Hp) (c : Call) (hh : ∀ x ∈ c.operands, ρ x = ρ' x) : callV T M Φ ρ h c = callV T M Φ ρ' h c := by
  have hargs : opvs ρ c.args.toList = opvs ρ' c.args.toList := opvs_congr _ fun x hx => hh x (by simp only [Call.operands, Array.mem_append]; exact .inr (Array.mem_toList_iff.1 hx))
  unfold callV
  rw [hargs]
  cases hc : c.callee with
  | value f =>
    have : ρ f = ρ' f := hh f (by simp [Call.operands, hc])
    simp only [this]
  | builtin b => rfl
  | invoke r m => rfl

theorem opR_congr {ρ ρ' : Operand → Value} (h : Hp) (op : Op) (hh : ∀ x ∈ op.operands.toList, ρ x = ρ' x) : opR T M Φ ρ h op = opR T M Φ ρ' h op := by
  cases op with
  | build t ps =>
    have : partsV ρ ps.toList = partsV ρ' ps.toList := partsV_congr _ fun x hx => hh x (by simpa [Op.operands] using hx)
    simp only [opR, this]
  | buildSlice t n ps =>
    have : partsV ρ ps.toList = partsV ρ' ps.toList := partsV_congr _ fun x hx => hh x (by simpa [Op.operands] using hx)
    simp only [opR, this]
  | makeFunc fn a b =>
    have h1 : opvs ρ a.toList = opvs ρ' a.toList := opvs_congr _ fun x hx => hh x (by simp [Op.operands, hx])
    have h2 : opvs ρ b.toList = opvs ρ' b.toList := opvs_congr _ fun x hx => hh x (by simp [Op.operands, hx])
    simp only [opR, h1, h2]
  | call c =>
    simp only [opR]
    exact callV_congr h c fun x hx => hh x (by simpa [Op.operands] using hx)
  | _ => simp_all [opR, Op.operands]

theorem opF_congr {f g : Nat → Value} (l : List Operand) (h : ∀ d ∈ tmpsOf l, f d = g d) : ∀ x ∈ l, opF f x = opF g x := by
  induction l with
  | nil => simp
  | cons y l ih =>
    intro x hx
    cases y with
    | tmp t =>
      simp only [tmpsOf, List.mem_cons, forall_eq_or_imp] at h
      rcases List.mem_cons.1 hx with rfl | hx
      · exact h.1
      · exact ih h.2 x hx
    | _ =>
      rcases List.mem_cons.1 hx with rfl | hx
      · rfl
      · exact ih h x hx

theorem looks_ops {all : List Oper} {o : Oper} : ∀ d ∈ tmpsOf o.op.operands.toList, d ∈ looks all o := by
  intro d hd
  unfold looks
  split
  · exact hd
  · split
    · exact List.mem_cons_of_mem _ hd
    · exact hd

theorem guardD_congr {all : List Oper} {o : Oper} {f g : Nat → Value} (h : ∀ d ∈ looks all o, f d = g d) : guardD all f o = guardD all g o := by
  unfold guardD
  split
  · rfl
  · rename_i j want hg
    split
    · rfl
    · rename_i s hs
      have : f s = g s := h s (by simp [looks, hg, hs])
      rw [this]

theorem asPick_op {op : Op} {c x y : Operand} (h : asPick op = some (c, x, y)) : op = .pick c x y := by
  unfold asPick at h
  split at h
  · cases h; rfl
  · cases h

theorem outD_congr {all : List Oper} {o : Oper} {f g : Nat → Value} {h : Hp} (hh : ∀ d ∈ looks all o, f d = g d) : outD T M Φ all o f h = outD T M Φ all o g h := by
  unfold outD
  rw [guardD_congr hh]
  have hops : ∀ x ∈ o.op.operands.toList, opF f x = opF g x := opF_congr _ fun d hd => hh d (looks_ops d hd)
  split
  · rfl
  · rfl
  · split
    · rename_i c x y hp
      rw [asPick_op hp] at hops
      have h1 := hops c (by simp [Op.operands])
      have h2 := hops x (by simp [Op.operands])
      have h3 := hops y (by simp [Op.operands])
      rw [h1, h2, h3]
    · rw [opR_congr h o.op hops]

/-- An operation that writes no memory leaves it as it is. -/
theorem opR_keeps {pc : Bool} (hpc : pc = true → PureF Φ) {ρ : Operand → Value} {h h' : Hp} {op : Op} {g : Bool} {v : Value} (hm : memK pc op ≤ 1) (hop : opR T M Φ ρ h op = some (g, v, h')) : h' = h := by
  cases op with
  | call c =>
    simp only [opR, callV] at hop
    split at hop
    · split at hop
      · cases hop; rfl
      · cases hop
    · rename_i f hc
      have hp : pc = true := by
        cases pc
        · simp [memK, hc] at hm
        · rfl
      split at hop
      · rename_i g' first captured _
        have := hpc hp g' (appL first (appL (opvs ρ c.args.toList) captured)) h h fun _ _ => rfl
        rw [hop] at this
        simp at this
        exact this
      · cases hop
    · cases hop
  | alloc t => simp [memK] at hm
  | box t x => simp [memK] at hm
  | store t x y => simp [memK] at hm
  | buildSlice t n ps => simp [memK] at hm
  | _ =>
    simp only [opR] at hop
    repeat' split at hop
    all_goals first
      | (cases hop; done)
      | (cases hop; rfl)

/-- An operation that doesn't look at memory does the same whatever it holds. -/
theorem opR_blind {pc : Bool} {ρ : Operand → Value} {h : Hp} (h2 : Hp) {op : Op} (hm : memK pc op = 0) : opR T M Φ ρ h2 op = (opR T M Φ ρ h op).map fun p => (p.1, p.2.1, h2) := by
  cases op with
  | call c =>
    simp only [opR, callV]
    split
    · split <;> rfl
    · rename_i f hc
      cases pc <;> simp [memK, hc] at hm
    · rfl
  | alloc t => simp [memK] at hm
  | box t x => simp [memK] at hm
  | store t x y => simp [memK] at hm
  | load t x => simp [memK] at hm
  | buildSlice t n ps => simp [memK] at hm
  | _ =>
    simp only [opR]
    repeat' split
    all_goals first | rfl | simp_all

end
end Go.Lan

/- A region that draws its order: in whatever order it is carried out, it comes to the same. -/
namespace Go.Lan
section
variable {T : Tab} {M : Prims} {Φ : Fns} {pc : Bool}

theorem outD_keeps (hpc : pc = true → PureF Φ) {all : List Oper} {o : Oper} {f : Nat → Value} {h h' : Hp} {v : Value} (hm : memK pc o.op ≤ 1) (hout : outD T M Φ all o f h = some (v, h')) : h' = h := by
  unfold outD at hout
  split at hout
  · cases hout
  · cases hout; rfl
  · split at hout
    · split at hout
      · cases hout; rfl
      · cases hout
    · split at hout
      · rename_i hop
        cases hout
        exact opR_keeps hpc hm hop
      · cases hout

theorem outD_blind {all : List Oper} {o : Oper} {f : Nat → Value} {h : Hp} (h2 : Hp) (hm : memK pc o.op = 0) : outD T M Φ all o f h2 = (outD T M Φ all o f h).map fun p => (p.1, h2) := by
  unfold outD
  split
  · rfl
  · rfl
  · split
    · split <;> rfl
    · rw [opR_blind (h := h) h2 hm]
      cases hq : opR T M Φ (opF f) h o.op with
      | none => rfl
      | some p =>
        obtain ⟨g, v, h'⟩ := p
        cases g <;> rfl

theorem indep_spec {all : List Oper} {x y : Oper} (h : indep pc all x y = true) :
    (∀ d, x.dst = some d → d ∉ looks all y) ∧ (∀ d, y.dst = some d → d ∉ looks all x) ∧ (∀ d, x.dst = some d → y.dst ≠ some d) ∧ memK pc x.op * memK pc y.op ≤ 1 := by
  simp only [indep, Bool.and_eq_true, Bool.not_eq_true', Nat.ble_eq] at h
  obtain ⟨⟨⟨h1, h2⟩, h3⟩, h4⟩ := h
  refine ⟨fun d hd hm => ?_, fun d hd hm => ?_, fun d hd he => ?_, h4⟩
  · rw [hd, dstIn, (memN_iff _ _).2 hm] at h1; cases h1
  · rw [hd, dstIn, (memN_iff _ _).2 hm] at h2; cases h2
  · rw [hd, he, dstEq] at h3; simp at h3

theorem upd_other {d : Option Tmp} {v : Value} {f : Nat → Value} {n : Nat} (h : d ≠ some n) : upd d v f n = f n := by
  cases d with
  | none => rfl
  | some d => simp only [upd]; rw [if_neg (fun e => h (by rw [e]))]

theorem upd_comm {d e : Option Tmp} {v u : Value} {f : Nat → Value} (h : ∀ n, d = some n → e ≠ some n) : upd e u (upd d v f) = upd d v (upd e u f) := by
  funext n
  by_cases hd : d = some n
  · have he := h n hd
    rw [upd_other he]
    subst hd
    simp [upd]
  · rw [upd_other hd]
    by_cases he : e = some n
    · subst he
      simp [upd]
    · rw [upd_other he, upd_other he, upd_other hd]

theorem step_comm (hpc : pc = true → PureF Φ) {all : List Oper} {x y : Oper} (hi : indep pc all x y = true) (s : S) :
    (stepD T M Φ all x s).bind (stepD T M Φ all y) = (stepD T M Φ all y s).bind (stepD T M Φ all x) := by
  obtain ⟨f, h⟩ := s
  obtain ⟨i1, i2, i3, i4⟩ := indep_spec hi
  have cy : ∀ v h', outD T M Φ all y (upd x.dst v f) h' = outD T M Φ all y f h' := fun v h' => outD_congr fun d hd => upd_other fun e => i1 d e hd
  have cx : ∀ v h', outD T M Φ all x (upd y.dst v f) h' = outD T M Φ all x f h' := fun v h' => outD_congr fun d hd => upd_other fun e => i2 d e hd
  have hc : ∀ v u, upd y.dst u (upd x.dst v f) = upd x.dst v (upd y.dst u f) := fun v u => upd_comm i3
  simp only [stepD]
  cases hx : outD T M Φ all x f h with
  | none =>
    cases hy : outD T M Φ all y f h with
    | none => rfl
    | some q =>
      obtain ⟨u, h2⟩ := q
      simp only [Option.bind_none, Option.bind_some, stepD, cx]
      rcases Nat.eq_zero_or_pos (memK pc x.op) with hz | hz
      · rw [outD_blind (h := h) h2 hz, hx]
        rfl
      · have : memK pc y.op ≤ 1 := by
          rcases Nat.lt_or_ge 1 (memK pc y.op) with hlt | hge
          · have := Nat.mul_le_mul hz hlt
            omega
          · exact hge
        rw [outD_keeps hpc this hy, hx]
  | some p =>
    obtain ⟨v, h1⟩ := p
    cases hy : outD T M Φ all y f h with
    | none =>
      simp only [Option.bind_none, Option.bind_some, stepD, cy]
      rcases Nat.eq_zero_or_pos (memK pc y.op) with hz | hz
      · rw [outD_blind (h := h) h1 hz, hy]
        rfl
      · have : memK pc x.op ≤ 1 := by
          rcases Nat.lt_or_ge 1 (memK pc x.op) with hlt | hge
          · have := Nat.mul_le_mul hlt hz
            omega
          · exact hge
        rw [outD_keeps hpc this hx, hy]
    | some q =>
      obtain ⟨u, h2⟩ := q
      simp only [Option.bind_some, stepD, cx, cy]
      have key : outD T M Φ all y f h1 = some (u, if memK pc x.op ≤ 1 then h2 else h1) ∧ outD T M Φ all x f h2 = some (v, if memK pc x.op ≤ 1 then h2 else h1) := by
        by_cases hx1 : memK pc x.op ≤ 1
        · rw [if_pos hx1]
          have e1 := outD_keeps hpc hx1 hx
          subst e1
          refine ⟨hy, ?_⟩
          rcases Nat.eq_zero_or_pos (memK pc x.op) with hz | hz
          · rw [outD_blind (h := h1) h2 hz, hx]; rfl
          · have : memK pc y.op ≤ 1 := by
              rcases Nat.lt_or_ge 1 (memK pc y.op) with hlt | hge
              · have := Nat.mul_le_mul hz hlt
                omega
              · exact hge
            have e2 := outD_keeps hpc this hy
            subst e2
            exact hx
        · rw [if_neg hx1]
          have hy0 : memK pc y.op = 0 := by
            rcases Nat.eq_zero_or_pos (memK pc y.op) with hz | hz
            · exact hz
            · have := Nat.mul_le_mul (show 2 ≤ memK pc x.op by omega) hz
              omega
          have e2 := outD_keeps hpc (by omega) hy
          subst e2
          refine ⟨?_, hx⟩
          rw [outD_blind (h := h2) h1 hy0, hy]; rfl
      rw [key.1, key.2]
      simp only [hc]

/-! ### Lists that keep what must be kept come to one end -/
def stepI (T : Tab) (M : Prims) (Φ : Fns) (all : List Oper) (i : Nat) (s : S) : Option S :=
  match all[i]? with
  | none => none
  | some o => stepD T M Φ all o s

theorem runI_cons (all : List Oper) (i : Nat) (l : List Nat) (s : S) : runI T M Φ all (i :: l) s = (stepI T M Φ all i s).bind (runI T M Φ all l) := by
  simp only [runI, stepI]
  cases all[i]? with
  | none => rfl
  | some o => dsimp only; cases stepD T M Φ all o s <;> rfl

theorem runI_append (all : List Oper) : ∀ (l m : List Nat) (s : S), runI T M Φ all (l ++ m) s = (runI T M Φ all l s).bind (runI T M Φ all m)
  | [], m, s => rfl
  | i :: l, m, s => by
    rw [List.cons_append, runI_cons, runI_cons, Option.bind_assoc]
    congr 1
    funext s'
    exact runI_append all l m s'

def Comm (T : Tab) (M : Prims) (Φ : Fns) (all : List Oper) (i j : Nat) : Prop :=
  ∀ s, (stepI T M Φ all i s).bind (stepI T M Φ all j) = (stepI T M Φ all j s).bind (stepI T M Φ all i)

def ins (i : Nat) : List Nat → List Nat
  | [] => [i]
  | j :: l => if i < j then i :: j :: l else j :: ins i l

def isort : List Nat → List Nat
  | [] => []
  | i :: l => ins i (isort l)

theorem mem_ins {i x : Nat} : ∀ {l : List Nat}, x ∈ ins i l ↔ x = i ∨ x ∈ l
  | [] => by simp [ins]
  | j :: l => by
    simp only [ins]
    split
    · simp
    · simp only [List.mem_cons, mem_ins]
      exact ⟨fun h => by rcases h with h | h | h <;> simp [h], fun h => by rcases h with h | h | h <;> simp [h]⟩
theorem mem_isort {x : Nat} : ∀ {l : List Nat}, x ∈ isort l ↔ x ∈ l
  | [] => by simp [isort]
  | i :: l => by rw [isort, mem_ins, mem_isort, List.mem_cons]
theorem len_ins {i : Nat} : ∀ {l : List Nat}, (ins i l).length = l.length + 1
  | [] => rfl
  | j :: l => by simp only [ins]; split <;> simp [len_ins]
theorem len_isort : ∀ {l : List Nat}, (isort l).length = l.length
  | [] => rfl
  | i :: l => by rw [isort, len_ins, len_isort]; rfl

theorem ins_sorted {i : Nat} : ∀ {l : List Nat}, l.Pairwise (· < ·) → i ∉ l → (ins i l).Pairwise (· < ·)
  | [], _, _ => by simp [ins]
  | j :: l, h, hi => by
    obtain ⟨h1, h2⟩ := List.pairwise_cons.1 h
    simp only [ins]
    split
    · rename_i hlt
      refine List.pairwise_cons.2 ⟨fun x hx => ?_, h⟩
      rcases List.mem_cons.1 hx with rfl | hx
      · exact hlt
      · exact Nat.lt_trans hlt (h1 x hx)
    · rename_i hge
      refine List.pairwise_cons.2 ⟨fun x hx => ?_, ins_sorted h2 fun hm => hi (List.mem_cons_of_mem _ hm)⟩
      rcases mem_ins.1 hx with rfl | hx
      · have : x ≠ j := fun e => hi (by simp [e])
        omega
      · exact h1 x hx
theorem isort_sorted : ∀ {l : List Nat}, l.Nodup → (isort l).Pairwise (· < ·)
  | [], _ => by simp [isort]
  | i :: l, h => by
    obtain ⟨h1, h2⟩ := List.nodup_cons.1 h
    exact ins_sorted (isort_sorted h2) fun hm => h1 (mem_isort.1 hm)

/-- There are no more different numbers than there are places. -/
theorem sorted_len : ∀ (m : List Nat) (a n : Nat), m.Pairwise (· < ·) → (∀ x ∈ m, a ≤ x ∧ x < a + n) → m.length ≤ n
  | [], _, _, _, _ => Nat.zero_le _
  | y :: m, a, 0, _, hq => by have := hq y (by simp); omega
  | y :: m, a, n + 1, hp, hq => by
    obtain ⟨p1, p2⟩ := List.pairwise_cons.1 hp
    have hy := hq y (by simp)
    have := sorted_len m (a + 1) n p2 fun x hx => by
      have c1 := p1 x hx
      have c2 := (hq x (by simp [hx])).2
      exact ⟨by omega, by omega⟩
    simp; omega

theorem sorted_range : ∀ (l : List Nat) (k : Nat), l.Pairwise (· < ·) → (∀ x ∈ l, k ≤ x ∧ x < k + l.length) → l = List.range' k l.length
  | [], _, _, _ => rfl
  | i :: l, k, hs, hb => by
    obtain ⟨h1, h2⟩ := List.pairwise_cons.1 hs
    have hi := hb i (by simp)
    have hik : i = k := by
      rcases Nat.eq_or_lt_of_le hi.1 with e | e
      · exact e.symm
      · exfalso
        have hall : ∀ x ∈ (i :: l), k + 1 ≤ x ∧ x < k + 1 + l.length := by
          intro x hx
          have hx2 := (hb x hx).2
          simp only [List.length_cons] at hx2
          rcases List.mem_cons.1 hx with rfl | hx
          · exact ⟨e, by omega⟩
          · have := h1 x hx; exact ⟨by omega, by omega⟩
        have := sorted_len (i :: l) (k + 1) l.length hs hall
        simp only [List.length_cons] at this
        omega
    subst hik
    rw [List.length_cons, List.range'_succ]
    congr 1
    refine sorted_range l (i + 1) h2 fun x hx => ?_
    have c1 := h1 x hx
    have c2 := (hb x (by simp [hx])).2
    simp only [List.length_cons] at c2
    exact ⟨by omega, by omega⟩

theorem run_ins (all : List Oper) {i : Nat} : ∀ {l : List Nat} (s : S), (∀ j ∈ l, j < i → Comm T M Φ all i j) → i ∉ l → runI T M Φ all (ins i l) s = runI T M Φ all (i :: l) s
  | [], s, _, _ => rfl
  | j :: l, s, hc, hi => by
    simp only [ins]
    split
    · rfl
    · rename_i hge
      have hji : j < i := by
        have : j ≠ i := fun e => hi (by simp [e])
        omega
      rw [runI_cons, runI_cons, show (stepI T M Φ all i s).bind (runI T M Φ all (j :: l)) = ((stepI T M Φ all i s).bind (stepI T M Φ all j)).bind (runI T M Φ all l) by
        rw [Option.bind_assoc]; congr 1; funext s'; exact runI_cons all j l s']
      rw [hc j (by simp) hji s, Option.bind_assoc]
      congr 1
      funext s'
      rw [run_ins all s' (fun x hx => hc x (by simp [hx])) (fun hm => hi (List.mem_cons_of_mem _ hm)), runI_cons]

theorem run_isort (all : List Oper) : ∀ {l : List Nat} (s : S), l.Nodup → l.Pairwise (fun i j => j < i → Comm T M Φ all i j) → runI T M Φ all (isort l) s = runI T M Φ all l s
  | [], _, _, _ => rfl
  | i :: l, s, hn, hp => by
    obtain ⟨n1, n2⟩ := List.nodup_cons.1 hn
    obtain ⟨p1, p2⟩ := List.pairwise_cons.1 hp
    rw [isort, run_ins all s (fun j hj => p1 j (mem_isort.1 hj)) (fun hm => n1 (mem_isort.1 hm)), runI_cons, runI_cons]
    congr 1
    funext s'
    exact run_isort all s' n2 p2

end
end Go.Lan

/- Every order that a region may draw. -/
namespace Go.Lan
section
variable {P : Program} {T : Tab} {M : Prims} {Φ : Fns} {pc : Bool}

theorem edgeTo_mem {j : Nat} : ∀ {l : List Edge}, edgeTo j l = true → ∃ e ∈ l, Region.binds .any e = true ∧ e.on = j
  | [], h => by simp [edgeTo] at h
  | e :: l, h => by
    simp only [edgeTo, Bool.or_eq_true, Bool.and_eq_true, Nat.beq_eq] at h
    rcases h with ⟨h1, h2⟩ | h
    · refine ⟨e, by simp, ?_, h1⟩
      unfold Region.binds
      split <;> first | rfl | simp_all
    · obtain ⟨e', h1, h2⟩ := edgeTo_mem h
      exact ⟨e', by simp [h1], h2⟩

theorem edgesBack_lt {i : Nat} : ∀ {l : List Edge}, edgesBack i l = true → ∀ e ∈ l, Region.binds .any e = true → e.on < i
  | [], _, e, h, _ => by simp at h
  | e' :: l, hb, e, h, hn => by
    simp only [edgesBack, Bool.and_eq_true, Bool.or_eq_true, Nat.blt_eq] at hb
    rcases List.mem_cons.1 h with rfl | h
    · rcases hb.1 with h | h
      · exact h
      · exfalso
        unfold Region.binds at hn
        split at h <;> simp_all
    · exact edgesBack_lt hb.2 e h hn

theorem drawOne_get {all : List Oper} {o : Oper} : ∀ {l : List Oper} {j : Nat}, drawOne pc all o j l = true → ∀ (k : Nat) (x : Oper), l[k]? = some x → edgeTo (j + k) o.after.toList = true ∨ indep pc all x o = true
  | [], _, _, k, x, h => by simp at h
  | y :: l, j, hd, 0, x, h => by
    simp only [drawOne, Bool.and_eq_true, Bool.or_eq_true] at hd
    simp at h
    subst h
    exact hd.1
  | y :: l, j, hd, k + 1, x, h => by
    simp only [drawOne, Bool.and_eq_true, Bool.or_eq_true] at hd
    have := drawOne_get hd.2 k x (by simpa using h)
    rwa [show j + 1 + k = j + (k + 1) by omega] at this

theorem drawAll_get {all : List Oper} : ∀ {l before : List Oper} {i : Nat}, drawAll pc all i before l = true → before.length = i → ∀ (k : Nat) (o : Oper), l[k]? = some o →
    edgesBack (i + k) o.after.toList = true ∧ ∀ (j : Nat) (x : Oper), j < i + k → (before ++ l)[j]? = some x → edgeTo j o.after.toList = true ∨ indep pc all x o = true
  | [], _, _, _, _, k, o, h => by simp at h
  | o' :: l, before, i, hd, hb, 0, o, h => by
    simp only [drawAll, Bool.and_eq_true] at hd
    simp at h
    subst h
    refine ⟨hd.1.1, fun j x hj hx => ?_⟩
    rw [List.getElem?_append_left (by omega)] at hx
    have := drawOne_get hd.1.2 j x hx
    rwa [Nat.zero_add] at this
  | o' :: l, before, i, hd, hb, k + 1, o, h => by
    simp only [drawAll, Bool.and_eq_true, appL_eq] at hd
    have := drawAll_get hd.2 (by simp [hb]) k o (by simpa using h)
    rw [show i + 1 + k = i + (k + 1) by omega] at this
    simpa using this

/-- What the look says of each two. -/
theorem drawOK_spec {ops : List Oper} (hd : drawOK pc ops = true) : ∀ (i : Nat) (o : Oper), ops[i]? = some o →
    (∀ e ∈ o.after.toList, Region.binds .any e = true → e.on < i) ∧ ∀ (j : Nat) (x : Oper), j < i → ops[j]? = some x → (∃ e ∈ o.after.toList, Region.binds .any e = true ∧ e.on = j) ∨ indep pc ops x o = true := by
  intro i o ho
  obtain ⟨h1, h2⟩ := drawAll_get hd rfl i o ho
  rw [Nat.zero_add] at h1 h2
  exact ⟨edgesBack_lt h1, fun j x hj hx => (h2 j x hj (by simpa using hx)).imp edgeTo_mem id⟩

/-- What has been carried out at some point of an order. -/
structure Seen (ops : Array Oper) (listed : Array Bool) (X : List Nat) : Prop where
  nodup : X.Nodup
  mem : ∀ i, i ∈ X ↔ listed.getD i false = true
  size : listed.size = ops.size
  closed : ∀ i ∈ X, ∀ o, ops[i]? = some o → ∀ e ∈ o.after.toList, Region.binds .any e = true → e.on ∈ X

theorem Seen.bound {ops : Array Oper} {listed : Array Bool} {X : List Nat} (h : Seen ops listed X) : ∀ i ∈ X, i < ops.size := by
  intro i hi
  have := (h.mem i).1 hi
  rcases Nat.lt_or_ge i listed.size with h1 | h1
  · rw [← h.size]; exact h1
  · simp [Array.getElem?_eq_none h1] at this

theorem ready_iff {ops : Array Oper} {listed : Array Bool} {X : List Nat} (h : Seen ops listed X) {i : Nat} : i ∈ Region.ready .any ops listed ↔ ∃ o, ops[i]? = some o ∧ i ∉ X ∧ ∀ e ∈ o.after.toList, Region.binds .any e = true → e.on ∈ X := by
  unfold Region.ready
  simp only [List.mem_filter, List.mem_range, Bool.and_eq_true, Bool.not_eq_true']
  constructor
  · rintro ⟨hi, h1, h2⟩
    have ho : ops[i]? = some ops[i] := by simp [hi]
    refine ⟨ops[i], ho, fun hm => ?_, fun e he hb => ?_⟩
    · have := (h.mem i).1 hm
      have hl : i < listed.size := by rw [h.size]; exact hi
      simp [hl] at h1 this
      rw [this] at h1
      cases h1
    · rw [ho] at h2
      simp only [Option.map_some, Option.getD_some, Array.all_eq_true_iff_forall_mem] at h2
      have := h2 e (Array.mem_toList_iff.1 he)
      simp only [hb, Bool.not_true, Bool.false_or] at this
      exact (h.mem _).2 this
  · rintro ⟨o, ho, h1, h2⟩
    have hi : i < ops.size := (Array.getElem?_eq_some_iff.1 ho).1
    refine ⟨hi, ?_, ?_⟩
    · have hl : i < listed.size := by rw [h.size]; exact hi
      have : ¬ listed.getD i false = true := fun e => h1 ((h.mem i).2 e)
      simp [hl] at this ⊢
      exact this
    · rw [ho]
      simp only [Option.map_some, Option.getD_some, Array.all_eq_true_iff_forall_mem]
      intro e he
      cases hb : Region.binds .any e
      · rfl
      · simp only [Bool.not_true, Bool.false_or]
        exact (h.mem _).1 (h2 e (Array.mem_toList_iff.2 he) hb)

theorem Seen.next {ops : Array Oper} {listed : Array Bool} {X : List Nat} (h : Seen ops listed X) {i : Nat} {o : Oper} (ho : ops[i]? = some o) (hi : i ∉ X) (ha : ∀ e ∈ o.after.toList, Region.binds .any e = true → e.on ∈ X) :
    Seen ops (listed.setIfInBounds i true) (X ++ [i]) := by
  have hlt : i < ops.size := (Array.getElem?_eq_some_iff.1 ho).1
  refine ⟨?_, ?_, by simp [h.size], ?_⟩
  · rw [List.nodup_append]
    exact ⟨h.nodup, by simp, fun a ha b hb => by simp at hb; subst hb; exact fun e => hi (e ▸ ha)⟩
  · intro j
    rw [List.mem_append, List.mem_singleton]
    by_cases e : j = i
    · subst e
      have : j < listed.size := by rw [h.size]; exact hlt
      simp [this]
    · rw [Array.getD_eq_getD_getElem?, Array.getElem?_setIfInBounds_ne (Ne.symm e), ← Array.getD_eq_getD_getElem?, ← h.mem j]
      simp [e]
  · intro j hj o' ho' e he hb
    rcases List.mem_append.1 hj with hj | hj
    · exact List.mem_append_left _ (h.closed j hj o' ho' e he hb)
    · rw [List.mem_singleton] at hj
      subst hj
      rw [ho] at ho'
      cases ho'
      exact List.mem_append_left _ (ha e he hb)

/-- No edge says that j comes ahead of i. -/
def NoEdge (ops : Array Oper) (i j : Nat) : Prop := j < i → ∀ o, ops[i]? = some o → ∀ e ∈ o.after.toList, Region.binds .any e = true → e.on ≠ j

def restOf (n : Nat) (X : List Nat) : List Nat := (List.range' 0 n).filter (fun i => !X.contains i)

theorem stepI_comm (hpc : pc = true → PureF Φ) {all : List Oper} {i j : Nat} {x y : Oper} (hi : all[i]? = some x) (hj : all[j]? = some y) (h : indep pc all x y = true) : Comm T M Φ all j i := by
  intro s
  have := step_comm (T := T) (M := M) hpc h s
  unfold stepI
  rw [hi, hj]
  exact this.symm

theorem rest_facts {ops : Array Oper} {listed : Array Bool} {X : List Nat} (h : Seen ops listed X) (hX : X.Pairwise (NoEdge ops)) :
    (X ++ restOf ops.size X).Nodup ∧ (X ++ restOf ops.size X).Pairwise (NoEdge ops) ∧ ∀ i, i ∈ X ++ restOf ops.size X ↔ i < ops.size := by
  generalize hrest : restOf ops.size X = rest
  have hmem : ∀ i, i ∈ rest ↔ i < ops.size ∧ i ∉ X := by
    intro i
    rw [← hrest]
    simp [restOf, List.mem_filter, List.mem_range']
  have hrs : rest.Pairwise (· < ·) := by
    rw [← hrest]
    exact List.Pairwise.filter _ (by rw [← List.range_eq_range']; exact List.pairwise_lt_range)
  refine ⟨?_, ?_, fun i => ?_⟩
  · rw [List.nodup_append]
    refine ⟨h.nodup, hrs.imp (fun h => Nat.ne_of_lt h), fun a ha b hb e => ?_⟩
    subst e
    exact ((hmem a).1 hb).2 ha
  · rw [List.pairwise_append]
    refine ⟨hX, hrs.imp (fun h h' => absurd h' (by omega)), fun i hi j hj hlt o ho e he hb hon => ?_⟩
    exact ((hmem j).1 hj).2 (hon ▸ h.closed i hi o ho e he hb)
  · rw [List.mem_append, hmem]
    constructor
    · rintro (h1 | h1)
      · exact h.bound i h1
      · exact h1.1
    · intro h1
      by_cases hm : i ∈ X
      · exact .inl hm
      · exact .inr ⟨h1, hm⟩

theorem isort_range {n : Nat} {Y : List Nat} (hn : Y.Nodup) (hm : ∀ i, i ∈ Y ↔ i < n) : isort Y = List.range' 0 n := by
  have hs := isort_sorted hn
  have hlen : (isort Y).length = n := by
    have hperm : (isort Y).Perm (List.range n) := by
      rw [List.perm_ext_iff_of_nodup (hs.imp fun h => Nat.ne_of_lt h) List.nodup_range]
      intro x
      rw [List.mem_range, mem_isort, hm]
    simpa using hperm.length_eq
  have := sorted_range (isort Y) 0 hs fun x hx => ⟨Nat.zero_le _, by
    rw [hlen, Nat.zero_add]
    exact (hm x).1 (mem_isort.1 hx)⟩
  rw [this, hlen]

/-- Every order that keeps the edges comes to what the text's order comes to. -/
def AnyOrder (T : Tab) (M : Prims) (Φ : Fns) (ops : Array Oper) (s : S) : Prop :=
  ∀ Y : List Nat, Y.Nodup → Y.Pairwise (NoEdge ops) → (∀ i, i ∈ Y ↔ i < ops.size) → runI T M Φ ops.toList Y s = runI T M Φ ops.toList (List.range' 0 ops.size) s

theorem anyOrder_static (hpc : pc = true → PureF Φ) {ops : Array Oper} (hd : drawOK pc ops.toList = true) (s : S) : AnyOrder T M Φ ops s := by
  intro Y hn hp hm
  have hspec := drawOK_spec hd
  rw [← isort_range hn hm, run_isort ops.toList s hn]
  refine hp.imp_of_mem fun {i j} hi hj hne hlt => ?_
  have hib := (hm i).1 hi
  have hjb := (hm j).1 hj
  have hio : ops.toList[i]? = some ops[i] := by simp [hib]
  have hjo : ops.toList[j]? = some ops[j] := by simp [hjb]
  rcases (hspec i _ hio).2 j _ hlt hjo with ⟨e, he, hb, hon⟩ | hind
  · exact absurd hon (hne hlt ops[i] (by simp [hib]) e he hb)
  · exact stepI_comm hpc hjo hio hind

def Backs (ops : Array Oper) : Prop := ∀ (i : Nat) (o : Oper), ops.toList[i]? = some o → ∀ e ∈ o.after.toList, Region.binds .any e = true → e.on < i

/-- All orders that keep the edges come to one end; what holds step by step holds then. -/
theorem wpAny_gen {σ : Type} {st : Nat → σ → Option σ} {run : List Nat → σ → Option σ} (run_app : ∀ l m s, run (l ++ m) s = (run l s).bind (run m)) (run_cons : ∀ i l s, run (i :: l) s = (st i s).bind (run l)) (run_nil : ∀ s, run [] s = some s)
    {ops : Array Oper} (hback : Backs ops) {Q : Exit → Act → World → Prop} {R : List Nat → σ → Act → World → Prop}
    (hsound : ∀ (X : List Nat) (i : Nat) (s s' : σ) (a : Act) (w : World) (K : Act → World → Prop), i ∉ X → i < ops.size → st i s = some s' → R X s a w → (∀ a' w', R (X ++ [i]) s' a' w' → K a' w') → wpOp P ops Q i K a w)
    {s0 s1 : σ} (hany : ∀ Y : List Nat, Y.Nodup → Y.Pairwise (NoEdge ops) → (∀ i, i ∈ Y ↔ i < ops.size) → run Y s0 = some s1) :
    ∀ (fuel : Nat) (listed : Array Bool) (X : List Nat) (s : σ) (a : Act) (w : World), X.length + fuel = ops.size → Seen ops listed X →
      X.Pairwise (NoEdge ops) → run X s0 = some s → R X s a w → (∀ X' a' w', R X' s1 a' w' → Q .normal a' w') → wpAny P .any ops Q fuel listed a w := by
  -- when all has been carried out
  have fin : ∀ (listed : Array Bool) (X : List Nat) (s : σ), Seen ops listed X → X.Pairwise (NoEdge ops) → run X s0 = some s →
      Region.ready .any ops listed = [] → s = s1 := by
    intro listed X s hs hX hr hnil
    have hall : ∀ i, i < ops.size → i ∈ X := by
      intro i
      induction i using Nat.strongRecOn with
      | _ i ih =>
        intro hi
        by_cases hm : i ∈ X
        · exact hm
        · exfalso
          have : i ∈ Region.ready .any ops listed := (ready_iff hs).2 ⟨ops[i], by simp [hi], hm, fun e he hb => by
            have hlt := hback i ops[i] (by simp [hi]) e he hb
            exact ih e.on hlt (by omega)⟩
          rw [hnil] at this
          cases this
    obtain ⟨n1, n2, n3⟩ := rest_facts hs hX
    have h1 := hany _ n1 n2 n3
    have h2 : restOf ops.size X = [] := by
      rw [restOf, List.filter_eq_nil_iff]
      intro i hi
      have : i < ops.size := by simpa [List.mem_range'] using hi
      simp [hall i this]
    rw [h2, List.append_nil, hr] at h1
    cases h1
    rfl
  intro fuel
  induction fuel with
  | zero =>
    intro listed X s a w hl hs hX hr hR hk
    have hnil : Region.ready .any ops listed = [] := by
      rcases List.eq_nil_or_concat (Region.ready .any ops listed) with e | ⟨l, b, e⟩
      · exact e
      · exfalso
        have hb : b ∈ Region.ready .any ops listed := by rw [e]; simp
        obtain ⟨o, ho, hbX, _⟩ := (ready_iff hs).1 hb
        have hlt : b < ops.size := (Array.getElem?_eq_some_iff.1 ho).1
        have hnd : (b :: X).Nodup := List.nodup_cons.2 ⟨hbX, hs.nodup⟩
        have := sorted_len (isort (b :: X)) 0 ops.size (isort_sorted hnd) fun x hx => ⟨Nat.zero_le _, by
          rw [Nat.zero_add]
          rcases List.mem_cons.1 (mem_isort.1 hx) with rfl | hx
          · exact hlt
          · exact hs.bound x hx⟩
        rw [len_isort, List.length_cons] at this
        omega
    refine ⟨hnil, ?_⟩
    obtain rfl := fin listed X s hs hX hr hnil
    exact hk X a w hR
  | succ fuel ih =>
    intro listed X s a w hl hs hX hr hR hk
    refine ⟨fun hnil => ?_, fun i hi => ?_⟩
    · obtain rfl := fin listed X s hs hX hr hnil
      exact hk X a w hR
    · obtain ⟨o, ho, hiX, ha⟩ := (ready_iff hs).1 hi
      have hs' := hs.next ho hiX ha
      have hib : i < ops.size := (Array.getElem?_eq_some_iff.1 ho).1
      have hX' : (X ++ [i]).Pairwise (NoEdge ops) := by
        rw [List.pairwise_append]
        refine ⟨hX, by simp, fun x hx y hy hlt o' ho' e he hb hon => ?_⟩
        rw [List.mem_singleton] at hy
        subst hy
        exact hiX (hon ▸ hs.closed x hx o' ho' e he hb)
      obtain ⟨n1, n2, n3⟩ := rest_facts hs' hX'
      have h1 := hany _ n1 n2 n3
      rw [run_app, run_app, hr, Option.bind_some, run_cons] at h1
      cases hst : st i s with
      | none => rw [hst] at h1; simp at h1
      | some s' =>
        refine hsound X i s s' a w _ hiX hib hst hR fun a' w' hR' => ?_
        refine ih _ (X ++ [i]) s' a' w' (by simp; omega) hs' hX' ?_ hR' hk
        rw [run_app, hr, Option.bind_some, run_cons, hst, Option.bind_some, run_nil]

theorem wpAny_of_seen (hT : TabOK P T) (hΦ : FnsOK P Φ) {ops : Array Oper} (hback : Backs ops) {tn : Nat} (hdst : dstsOK tn ops.toList = true)
    {w0 w : World} {β0 β : List (Option Nat)} {Q : Exit → Act → World → Prop} {f : Nat → Value} {h : Hp} {a : Act} (hany : AnyOrder T M0 Φ ops (f, h)) {f' : Nat → Value} {h' : Hp} (hrun : runI T M0 Φ ops.toList (List.range' 0 ops.size) (f, h) = some (f', h'))
    {listed : Array Bool} (hs : Seen ops listed []) (hf : FR tn β f a) (hr : Rel w0 β0 β h w)
    (hk : ∀ γ a' w', FR tn (β ++ γ) f' a' → Rel w0 β0 (β ++ γ) h' w' → Q .normal a' w') : wpAny P .any ops Q ops.size listed a w := by
  refine wpAny_gen (σ := S) (st := stepI T M0 Φ ops.toList) (run := runI T M0 Φ ops.toList) (runI_append _) (runI_cons _) (fun _ => rfl) hback (R := fun _ s a w => ∃ γ, FR tn (β ++ γ) s.1 a ∧ Rel w0 β0 (β ++ γ) s.2 w) (s0 := (f, h)) (s1 := (f', h')) ?_ (fun Y h1 h2 h3 => (hany Y h1 h2 h3).trans hrun) ops.size listed [] (f, h) a w (by simp) hs (by simp) rfl ⟨[], by simpa using hf, by simpa using hr⟩ fun X' a' w' ⟨γ, h1, h2⟩ => hk γ a' w' h1 h2
  intro X i s s' a w K _ hi hst ⟨γ, h1, h2⟩ hk
  have ho : ops.toList[i]? = some ops[i] := by simp [hi]
  unfold stepI at hst
  rw [ho] at hst
  refine step_sound hT hΦ hdst ho hst h1 h2 fun γ' a' w' h1' h2' => ?_
  rw [List.append_assoc] at h1' h2'
  exact hk a' w' ⟨_, h1', h2'⟩

end
end Go.Lan
