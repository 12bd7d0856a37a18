/- A region's operations, carried out by the machine in a given order. -/
import Derived.Test.YtpgjihkaocahbaaKh
namespace Go.Lan
section
variable {P : Program} {T : Tab} {Φ : Fns} {β β0 : List (Option Nat)} {w0 w : World} {h : Hp} {a : Act}

/-- The registers. -/
structure FR (tn : Nat) (β : List (Option Nat)) (f : Nat → Value) (a : Act) : Prop where
  reg : ∀ d, VR β (f d) (a.tmps.getD d undef)
  size : tn ≤ a.tmps.size
  defers : a.defers = []

theorem FR.mono {tn : Nat} {f : Nat → Value} (γ : List (Option Nat)) (r : FR tn β f a) : FR tn (β ++ γ) f a := ⟨fun d => (r.reg d).mono γ, r.size, r.defers⟩

theorem opF_rel {tn : Nat} {f : Nat → Value} (r : FR tn β f a) : ∀ x, VR β (opF f x) (a.eval x)
  | .tmp t => r.reg t
  | .const v => constV_rel v
  | .func _ => .func _ .nil .nil
  | .global _ => .unk _ _ _ _

def dstOK (n : Nat) (d : Option Tmp) : Bool :=
  match d with
  | some d => Nat.blt d n
  | none => true

theorem FR.put {tn : Nat} {f : Nat → Value} (r : FR tn β f a) {d : Option Tmp} (hd : dstOK tn d = true) {v v' : Value} (hv : VR β v v') : FR tn β (upd d v f) (a.put d v') := by
  cases d with
  | none => exact r
  | some d =>
    simp only [dstOK, Nat.blt_eq] at hd
    refine ⟨fun n => ?_, by simpa [Act.put] using r.size, r.defers⟩
    simp only [upd, Act.put]
    have hs := r.size
    split
    · rename_i e
      subst e
      rw [Array.getD_eq_getD_getElem?, Array.getElem?_setIfInBounds_self_of_lt (by omega)]
      exact hv
    · rename_i e
      rw [Array.getD_eq_getD_getElem?, Array.getElem?_setIfInBounds_ne e, ← Array.getD_eq_getD_getElem?]
      exact r.reg n

theorem dstsOK_get {n : Nat} : ∀ (l : List Oper), dstsOK n l = true → ∀ (i : Nat) (o : Oper), l[i]? = some o → dstOK n o.dst = true
  | [], _, i, o, h => by simp at h
  | o' :: l, hd, 0, o, h => by
    simp only [dstsOK, Bool.and_eq_true] at hd
    simp at h
    subst h
    exact hd.1
  | o' :: l, hd, i + 1, o, h => by
    simp only [dstsOK, Bool.and_eq_true] at hd
    exact dstsOK_get l hd.2 i o (by simpa using h)

theorem slot_get {tn : Nat} {f : Nat → Value} (r : FR tn β f a) {s : Nat} : (∀ b, f s = .bool b → a.tmps[s]? = some (.bool b)) ∧ (∀ l, f s = .tuple l → ∀ b, a.tmps[s]? ≠ some (.bool b)) := by
  have hr := r.reg s
  rw [Array.getD_eq_getD_getElem?] at hr
  constructor
  · intro b hb
    rw [hb] at hr
    generalize hv : (a.tmps[s]?).getD undef = v at hr
    cases hr
    cases ht : a.tmps[s]? with
    | none => rw [ht] at hv; simp [undef] at hv
    | some u => rw [ht] at hv; simp at hv; rw [hv]
  · intro l hb b ht
    rw [hb, ht] at hr
    simp at hr
    cases hr

theorem guard_rel {tn : Nat} {ops : Array Oper} {f : Nat → Value} (r : FR tn β f a) {o : Oper} {g : Bool} (hg : guardD ops.toList f o = some g) : Region.wanted o (yielded ops a.tmps) = g := by
  unfold guardD at hg
  unfold Region.wanted
  split at hg
  · rename_i h; cases hg; simp [h]
  · rename_i j want h
    simp only [h]
    split at hg
    · cases hg
    · rename_i s hs
      have hy : yielded ops a.tmps j = match a.tmps[s]? with | some (.bool b) => some b | _ => none := by
        unfold guardSlot at hs
        rw [nth_eq] at hs
        split at hs
        · rename_i oj hj
          have hj' : ops[j]? = some oj := by simpa using hj
          simp only [yielded, hj', Option.bind_some, hs]
          rfl
        · cases hs
      rw [hy]
      obtain ⟨h1, h2⟩ := slot_get r (s := s)
      split at hg
      · rename_i b hb
        cases hg
        simp only [h1 b hb]
        cases b <;> cases want <;> rfl
      · rename_i l hl
        cases hg
        have := h2 _ hl
        split
        · rename_i b hb; exact absurd hb (this b)
        · simp
      · cases hg

theorem step_sound (hT : TabOK P T) (hΦ : FnsOK P Φ) {ops : Array Oper} {tn : Nat} (hdst : dstsOK tn ops.toList = true) {f f' : Nat → Value} {h' : Hp} {i : Nat} {o : Oper} (ho : ops.toList[i]? = some o)
    (hst : stepD T M0 Φ ops.toList o (f, h) = some (f', h')) (hf : FR tn β f a) (hr : Rel w0 β0 β h w) {K : Act → World → Prop} {Q : Exit → Act → World → Prop}
    (hk : ∀ γ a' w', FR tn (β ++ γ) f' a' → Rel w0 β0 (β ++ γ) h' w' → K a' w') : wpOp P ops Q i K a w := by
  have hdo := dstsOK_get _ hdst i o ho
  unfold wpOp
  rw [show ops[i]? = some o by simpa using ho]
  dsimp only
  unfold stepD at hst
  split at hst
  · rename_i v h1 hout
    cases hst
    unfold outD at hout
    dsimp only at hout
    split at hout
    · cases hout
    · rename_i hg
      cases hout
      rw [guard_rel hf hg]
      exact hk [] _ _ (by rw [List.append_nil]; exact hf.put hdo (.tuple .nil)) (by rw [List.append_nil]; exact hr)
    · rename_i hg
      rw [guard_rel hf hg, if_pos rfl]
      left
      split at hout
      · rename_i c x y hp
        split at hout
        · rename_i b hb
          cases hout
          have hc := opF_rel hf c
          rw [hb] at hc
          have hop : o.op = .pick c x y := by
            unfold asPick at hp
            split at hp
            · rename_i h1; rw [h1]; cases hp; rfl
            · cases hp
          have hrun : (execOp a.eval o).run P w = .ok (.value (if b then a.eval x else a.eval y)) w := by
            generalize hv : a.eval c = v' at hc
            cases hc
            simp only [execOp, hop, hv]
            cases b <;> simp [asBool]
          unfold Oper.wp
          rw [hrun]
          refine hk [] _ _ ?_ (by rw [List.append_nil]; exact hr)
          rw [List.append_nil]
          refine hf.put hdo ?_
          cases b
          · exact opF_rel hf y
          · exact opF_rel hf x
        · cases hout
      · split at hout
        · rename_i v1 h2 hop
          cases hout
          exact op_goes hT hΦ hr (opF_rel hf) o hop K Q fun γ v' w' hr' hv' => hk γ _ w' ((hf.mono γ).put hdo hv') hr'
        · cases hout
  · cases hst

theorem wpOps_of_run (hT : TabOK P T) (hΦ : FnsOK P Φ) {ops : Array Oper} {tn : Nat} (hdst : dstsOK tn ops.toList = true) {Q : Exit → Act → World → Prop} {f' : Nat → Value} {h' : Hp} :
    ∀ (l : List Nat) (f : Nat → Value) (h : Hp) (β : List (Option Nat)) (a : Act) (w : World), runI T M0 Φ ops.toList l (f, h) = some (f', h') → FR tn β f a → Rel w0 β0 β h w →
      (∀ γ a' w', FR tn (β ++ γ) f' a' → Rel w0 β0 (β ++ γ) h' w' → Q .normal a' w') → wpOps P ops Q l a w
  | [], f, h, β, a, w, hrun, hf, hr, hk => by
    cases hrun
    exact hk [] a w (by simpa using hf) (by simpa using hr)
  | i :: l, f, h, β, a, w, hrun, hf, hr, hk => by
    rw [wpOps_cons]
    simp only [runI] at hrun
    split at hrun
    · cases hrun
    · rename_i o ho
      split at hrun
      · cases hrun
      · rename_i s' hs
        obtain ⟨f1, h1⟩ := s'
        refine step_sound hT hΦ hdst ho hs hf hr fun γ a' w' hf' hr' => ?_
        refine wpOps_of_run hT hΦ hdst l f1 h1 _ a' w' hrun hf' hr' fun γ' a'' w'' hf'' hr'' => ?_
        rw [List.append_assoc] at hf'' hr''
        exact hk _ a'' w'' hf'' hr''

end
end Go.Lan
