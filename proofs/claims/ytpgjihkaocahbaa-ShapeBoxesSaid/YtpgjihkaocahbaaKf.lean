/- Each operation does in the machine what the interpreter says. -/
import Derived.Test.YtpgjihkaocahbaaKe
namespace Go.Lan
section
variable {P : Program} {T : Tab} {Φ : Fns} {β β0 : List (Option Nat)} {w0 w : World} {h : Hp}

/-- What the operation must show of what is behind it. -/
def Goes (P : Program) (o : Oper) (a : Act) (w : World) (w0 : World) (β0 β : List (Option Nat)) (h' : Hp) (v : Value) : Prop :=
  ∀ (K : Act → World → Prop) (Q : Exit → Act → World → Prop), (∀ γ v' w', Rel w0 β0 (β ++ γ) h' w' → VR (β ++ γ) v v' → K (a.put o.dst v') w') → o.wp P a w K Q

theorem goes_value {o : Oper} {a : Act} {v v' : Value} (hr : Rel w0 β0 β h w) (hrun : (execOp a.eval o).run P w = .ok (.value v') w) (hv : VR β v v') : Goes P o a w w0 β0 β h v := by
  intro K Q hk
  unfold Oper.wp
  rw [hrun]
  exact hk [] v' w (by simpa using hr) (by simpa using hv)

theorem goes_drew {o : Oper} {a : Act} {v v' : Value} {w' : World} (hr : Rel w0 β0 β h w) (hrun : (execOp a.eval o).run P w = .ok (.value v') w') (hd : Drew w w') (hv : VR β v v') : Goes P o a w w0 β0 β h v := by
  intro K Q hk
  unfold Oper.wp
  rw [hrun]
  obtain ⟨d, rfl⟩ := hd
  exact hk [] v' _ (by simpa using hr.drew d) (by simpa using hv)

theorem goes_alloc {o : Oper} {a : Act} {cells cells' : List Value} {t : TypeId} {v : Value} (hr : Rel w0 β0 β h w) (mk : Nat → Value) (hrun : (execOp a.eval o).run P w = .ok (.value (mk w.heap.size)) { w with heap := w.heap.push (.cells ⟨cells'⟩ t (0, 0)) })
    (hc : VRL β cells cells') (hv : VR (β ++ [some w.heap.size]) v (mk w.heap.size)) : Goes P o a w w0 β0 β (h ++ [(cells, t)]) v := by
  intro K Q hk
  unfold Oper.wp
  rw [hrun]
  exact hk [some w.heap.size] _ _ (hr.alloc t hc) hv

theorem new_ptr (hr : Rel w0 β0 β h w) : VR (β ++ [some w.heap.size]) (ptrAt (lenL h) 0) (.pointer (some ⟨w.heap.size, 0, none⟩)) := by
  refine .ptr 0 ?_
  rw [lenL_eq, ← hr.len]
  simp

theorem ptr_block {b off : Nat} {cells : List Value} {t : TypeId} {v' : Value} (hr : Rel w0 β0 β h w) (hv : VR β (.pointer (some ⟨b, off, none⟩)) v') (hb : nth h b = some (cells, t)) :
    ∃ g cells', v' = .pointer (some ⟨g, off, none⟩) ∧ β[b]? = some (some g) ∧ w.heap[g]? = some (.cells ⟨cells'⟩ t (0, 0)) ∧ VRL β cells cells' := by
  cases hv with
  | ptr _ hg =>
    rename_i g
    rw [nth_eq] at hb
    obtain ⟨cells', h1, h2⟩ := hr.blk b cells t g hb hg
    exact ⟨g, cells', rfl, hg, h1, h2⟩

theorem isRow_of (d : TypeDesc) : d.isRow = (kindOf d).agg := by cases d <;> rfl

theorem load_run {w : World} {g off : Nat} {cells cells' : List Value} {t ty : TypeId} {ti : TI} {info : TypeInfo} {d : TypeDesc} {v : Value} (hi : P.info? ty = some info) (hd : P.underlying ty = some d) (hs : info.size = ti.size) (hk : kindOf d = ti.k)
    (hg : w.heap[g]? = some (.cells ⟨cells'⟩ t (0, 0))) (hc : VRL β cells cells') (h : partL ti cells off = some v) :
    ∃ v', (loadVar ty ⟨g, off, none⟩).run P w = .ok v' w ∧ VR β v v' := by
  unfold partL at h
  split at h
  · rename_i ha
    split at h
    · rename_i hb
      cases h
      simp only [Nat.ble_eq, lenL_eq] at hb
      have hl := hc.length
      refine ⟨.agg ((cells'.drop off).take ti.size).toArray, ?_, ?_⟩
      · refine run_loadVar_mid w g off ty ((cells'.drop off).take ti.size) d ?_ hd ?_ ?_
        · intro j v hj
          rw [cell_of_row w g (off + j) _ t _ hg]
          rw [List.getElem?_take] at hj
          split at hj
          · rw [List.getElem?_drop] at hj; simpa using hj
          · cases hj
        · rw [← hk] at ha; exact (isRow_of d).trans ha
        · simp [hi, hs]; omega
      · rw [takeL_eq, dropL_eq]; exact .agg ((hc.drop off).take _)
    · cases h
  · rename_i ha
    rw [nth_eq] at h
    obtain ⟨v', h1, h2⟩ := hc.get off h
    refine ⟨v', ?_, h2⟩
    unfold loadVar
    rw [Sem.run_bind, isAgg_run hd, Result.andThen_ok, hk, ha]
    simp [run_load, cell_of_row w g off _ t _ hg, h1]

theorem store_run {w : World} {g off : Nat} {cells cells' cells2 : List Value} {t ty : TypeId} {ti : TI} {info : TypeInfo} {v v' : Value} (hi : P.info? ty = some info) (hs : info.size = ti.size)
    (hg : w.heap[g]? = some (.cells ⟨cells'⟩ t (0, 0))) (hc : VRL β cells cells') (hv : VR β v v') (h : storeL ti cells off v = some cells2) :
    ∃ cells2', (storeVar ty ⟨g, off, none⟩ v').run P w = .ok () (w.setRow g ⟨cells2'⟩) ∧ VRL β cells2 cells2' := by
  unfold storeL at h
  split at h
  · cases h
  · rename_i vs hvs
    split at h
    · rename_i hb
      cases h
      simp only [Bool.and_eq_true, Nat.beq_eq, Nat.ble_eq, lenL_eq] at hb
      obtain ⟨vs', hvs', hr⟩ := cellsL_rel hv hvs
      have hl := hc.length
      have hl2 := hr.length
      refine ⟨putL cells' off vs', ?_, putL_rel off hc hr⟩
      have h1 := run_storeCells_at P g off t vs' 0 ⟨cells'⟩ w hg (by simp; omega) (allOne_rel hr hb.2)
      unfold storeVar
      have hsz : vs'.length = info.size := by omega
      simp only [Sem.run_bind, sizeOf_run hi, Result.andThen_ok, hvs']
      rw [Sem.run_ite, if_neg (by simp [hsz])]
      rw [h1, putL_eq vs' cells' off (by omega)]
      simp
    · cases h

theorem places_ok (hT : TabOK P T) : ∀ (fs : List Field), allTyped.go T (fs.map fun f => (f.offset, f.type)) = true →
    ∃ pl, fs.mapM (fun f => (P.info? f.type).map fun i => (f.offset, i.size)) = some pl ∧ ∀ i x, placeOf T (.struct (fs.map fun f => (f.offset, f.type))) i = some x → pl[i]? = some x
  | [], _ => ⟨[], rfl, fun i x h => by simp [placeOf, nth] at h⟩
  | f :: fs, h => by
    simp only [List.map_cons, allTyped.go] at h
    split at h
    · rename_i ti ht
      obtain ⟨info, d, z, hi, _, _, hs, _⟩ := hT _ _ ht
      obtain ⟨pl, h1, h2⟩ := places_ok hT fs h
      refine ⟨(f.offset, info.size) :: pl, by simp [List.mapM_cons, hi, h1], ?_⟩
      intro i x hx
      cases i with
      | zero =>
        simp only [placeOf, List.map_cons, nth, ht, Option.some.injEq] at hx
        subst hx
        simp [hs]
      | succ i =>
        have := h2 i x hx
        simpa using this
    · cases h

theorem zip_nth {α : Type} (a : α) (l : List α) (i : Nat) : nth (a :: l) (i + 1) = nth l i := rfl

theorem build_run {w : World} (hT : TabOK P T) {t : TypeId} {ti : TI} (ht : T.get t = some ti) (ha : allTyped T ti.k = true) {parts parts' : List (Nat × Value)} {l : List Value} (hp : PRL β parts parts')
    (h : fillL (placeOf T ti.k) ti.zero parts = some l) : ∃ l', (Instr.build t parts'.toArray).run P w = .ok (.agg ⟨l'⟩) w ∧ VRL β l l' := by
  obtain ⟨info, d, z, hi, hd, hz, hs, hzl, hk, _, hpl⟩ := hT _ _ ht
  have hzr : VRL β ti.zero z.cells.toList := by rw [hzl]; exact plainL_rel _ hpl
  cases d <;> simp only [← hk, kindOf, allTyped, Bool.false_eq_true] at ha
  case struct fs =>
    obtain ⟨pl, h1, h2⟩ := places_ok hT fs.toList ha
    obtain ⟨l', e1, e2⟩ := fill_rel (place' := fun i => pl.toArray[i]?) (fun i x hx => by
      rw [← hk] at hx
      simpa using h2 i x (by simpa [kindOf] using hx)) parts parts' _ _ l hzr hp h
    refine ⟨l', run_build w t _ _ ?_, e2⟩
    simp only [Program.built, hi, hd, hz, h1]
    exact e1
  case array n e =>
    obtain ⟨ei, he⟩ := Option.isSome_iff_exists.1 ha
    obtain ⟨info2, d2, z2, hi2, _, _, hs2, _⟩ := hT _ _ he
    obtain ⟨l', e1, e2⟩ := fill_rel (place' := fun i => some (i * info2.size, info2.size)) (fun i x hx => by
      rw [← hk] at hx
      simp only [placeOf, kindOf, he] at hx
      rw [hs2]; exact hx) parts parts' _ _ l hzr hp h
    refine ⟨l', run_build w t _ _ ?_, e2⟩
    simp only [Program.built, hi, hd, hz, hi2]
    exact e1

theorem eqGuard_num {w : World} (op : BinOp) (t : TypeId) (x y : Operand) (a b : Value) (h : ∀ l, a ≠ .agg l) (h' : a ≠ .nilIface) : (eqGuard op t x y a b).run P w = .ok () w := by
  unfold eqGuard
  cases op <;> simp <;> (split <;> first | rfl | exact absurd rfl h' | exact absurd rfl (h _))

end
end Go.Lan
