/- From what a call computes to a law's row: arguments of numbers and bools, and structs and arrays of them. -/
import Derived.Test.YtpgjihkaocahbaaKq
import Derived.ProofKit
namespace Go.Lan
open Go.ChangeShapes Go.WideShapes Go.ChangeAt Go.RowKit

/-- A leaf: a number or a bool. -/
inductive LK where
  | i (k : IntKind)
  | f
  | b

def LeafOK : LK → Value → Prop
  | .i k, v => ∃ n, v = .int k n ∧ k.min ≤ n ∧ n ≤ k.max
  | .f, v => ∃ x, v = .float .f64 x ∧ x < 18446744073709551616
  | .b, v => ∃ x, v = .bool x

def lkOf (P : Program) (t : TypeId) : Option LK :=
  match P.underlying t with
  | some (.int k) => some (.i k)
  | some (.float .f64) => some .f
  | some .bool => some .b
  | _ => none
def lksOf (P : Program) : List TypeId → Option (List LK)
  | [] => some []
  | t :: l => match lkOf P t, lksOf P l with
    | some k, some ks => some (k :: ks)
    | _, _ => none

inductive Leafs : List LK → List Value → Prop
  | nil : Leafs [] []
  | cons {k : LK} {v : Value} {ks : List LK} {l : List Value} (h : LeafOK k v) (t : Leafs ks l) : Leafs (k :: ks) (v :: l)

section
variable {P : Program} {W : World} {base : Nat}

theorem leaf_cell {u : TypeId} {v : Value} {k : LK} (hk : lkOf P u = some k) (h : Cell.okWide P W .any base u v) : LeafOK k v := by
  unfold lkOf at hk
  split at hk
  · rename_i k' hu
    cases hk
    cases v <;> simp only [Cell.okWide, hu, Cell.ok] at h
    obtain ⟨rfl, h⟩ := h
    exact ⟨_, rfl, h.1, h.2⟩
  · rename_i hu
    cases hk
    cases v <;> simp only [Cell.okWide, hu, Cell.ok] at h
    obtain ⟨rfl, h⟩ := h
    exact ⟨_, rfl, h⟩
  · rename_i hu
    cases hk
    cases v <;> simp only [Cell.okWide, hu, Cell.ok] at h
    exact ⟨_, rfl⟩
  · cases hk

theorem leafs_of : ∀ (ts : List TypeId) (ks : List LK) (l : List Value), lksOf P ts = some ks → l.length = ts.length → (∀ (i : Nat) v, l[i]? = some v → ∃ u, ts[i]? = some u ∧ Cell.okWide P W .any base u v) → Leafs ks l
  | [], ks, [], hk, _, _ => by cases hk; exact .nil
  | [], ks, _ :: _, _, hl, _ => by simp at hl
  | _ :: _, ks, [], _, hl, _ => by simp at hl
  | t :: ts, ks, v :: l, hk, hl, h => by
    simp only [lksOf] at hk
    split at hk
    · rename_i k ks' h1 h2
      cases hk
      obtain ⟨u, hu, hc⟩ := h 0 v rfl
      simp at hu
      subst hu
      exact .cons (leaf_cell h1 hc) (leafs_of ts ks' l h2 (by simpa using hl) fun i v hv => h (i + 1) v (by simpa using hv))
    · cases hk

/-- What is asked of a type, closed facts all: its leaves, and whether it is a struct or an array. -/
def aggB (P : Program) (t : TypeId) : Bool :=
  match P.underlying t with
  | some (.struct _) => true
  | some (.array _ _) => true
  | _ => false

theorem open_flat {t : TypeId} {v : Value} {ts : List TypeId} {ks : List LK} (ha : aggB P t = true) (ht : P.cellTypes P.depth t = some ts) (hk : lksOf P ts = some ks) (hc : P.cellsOf t = ts.length) (h : Value.okWide P W .any base t v) :
    ∃ l, v = .agg ⟨l⟩ ∧ Leafs ks l := by
  have key : ∃ cs, v = .agg cs ∧ cs.size = P.cellsOf t ∧ Row.okWide P W .any base t cs := by
    unfold aggB at ha
    unfold Value.okWide at h
    split at h
    · exact h
    · exact h
    · split at ha <;> simp_all
  obtain ⟨⟨l⟩, rfl, hsz, ts', ht', _, hcell⟩ := key
  rw [ht] at ht'
  cases ht'
  refine ⟨l, rfl, leafs_of (W := W) (base := base) ts ks l hk (by simpa [hc] using hsz) fun i v hv => ?_⟩
  obtain ⟨u, hu, ho⟩ := hcell i v (by simpa using hv)
  have hlt : i < ts.length := by
    have := (List.getElem?_eq_some_iff.1 hv).1
    have hl : l.length = ts.length := by simpa [hc] using hsz
    omega
  rw [Nat.mod_eq_of_lt hlt] at hu
  exact ⟨u, hu, ho⟩

theorem open_leaf {t : TypeId} {v : Value} {k : LK} (hk : lkOf P t = some k) (h : Value.okWide P W .any base t v) : LeafOK k v := by
  refine leaf_cell (W := W) (base := base) hk ?_
  unfold lkOf at hk
  unfold Value.okWide at h
  split at h
  · rename_i hu; rw [hu] at hk; cases hk
  · rename_i hu; rw [hu] at hk; cases hk
  · exact h

/-! ### Behind the call -/
variable {H : Type} {enc : TypeId × Value → H}

def readB (P : Program) (t : TypeId) : Bool := P.readableRec t && decide (t < P.types.size)

theorem trodAll_below (hl : laidOutB P = true) {W W' : World} (hb : Below W.heap.size W W') : ∀ {ts : List TypeId} {vs : List Value} {ds : List (DataW H)} {ps : List MemPlace}, ts.all (readB P) = true →
    DataW.TrodAll enc P W 0 (fun _ => true) true ts vs ds ps → (∀ x ∈ ps, x.block < W.heap.size) → DataW.TrodAll enc P W' 0 (fun b => decide (b < W.heap.size)) true ts vs ds ps
  | [], [], [], ps, _, h, _ => h
  | [], [], _ :: _, ps, _, h, _ => by simp [DataW.TrodAll] at h
  | [], _ :: _, _, ps, _, h, _ => by simp [DataW.TrodAll] at h
  | _ :: _, [], _, ps, _, h, _ => by simp [DataW.TrodAll] at h
  | _ :: _, _ :: _, [], ps, _, h, _ => by simp [DataW.TrodAll] at h
  | t :: ts, v :: vs, d :: ds, ps, hr, h, hlt => by
    simp only [List.all_cons, Bool.and_eq_true, readB, decide_eq_true_eq] at hr
    obtain ⟨p, q, h1, h2, rfl⟩ := h
    exact ⟨p, q, Below.trod hl hr.1.1 hr.1.2 h1 hb fun x hx => hlt x (List.mem_append_left _ hx), trodAll_below hl hb (by simpa [readB] using hr.2) h2 fun x hx => hlt x (List.mem_append_right _ hx), rfl⟩

/-- A law that answered true and left all memory as it was. -/
theorem law_post {f : Func} {s : ChangeSpec} {W W' : World} {args : Array Value} {ds : List (DataW H)} {before : List MemPlace} {tb : TypeId} (hl : laidOutB P = true) (hr : f.params.toList.all (readB P) = true)
    (hvars : s.vars = []) (hW : DataW.Whole enc P f.params.toList s.vars false W args.toList ds [] before) (hb : Below W.heap.size W W') (hres : f.resultTypes = #[tb]) (htb : P.underlying tb = some .bool)
    (hspec : s.fn H ds = { results := [.lit (.bool true)], args := ds }) : s.post enc P f false true false false W args (.bool true) W' := by
  have hlt : ∀ x ∈ before, x.block < W.heap.size := fun x hx => by simpa using hW.lt x hx
  have hW0 := hW
  obtain ⟨p, q, hA, hV, rfl, _, _⟩ := hW
  rw [hvars] at hV
  have hq : q = [] := hV
  subst hq
  refine ⟨ds, [], _, [], p, [], hW0, ?_, ?_, ?_, Below.frame hb _, fun h => by cases h⟩
  · rw [List.append_nil, hspec, hres]
    exact ⟨[], [], ⟨1, by simp [DataW.trod, Value.cells, htb]⟩, rfl, rfl⟩
  · rw [List.append_nil, hspec]
    exact trodAll_below hl hb hr hA fun x hx => hlt x (by simpa using hx)
  · rw [List.append_nil, hspec, hvars]
    rfl

end
end Go.Lan
