/- The engine's soundness: what 'opWp', 'regWp', 'wpc' ask is enough for the model's own weakest precondition. It speaks of any program. -/
import Derived.Test.YthhgbpmihhljdaaGreatDoorBaa
import Derived.ChangeKeysEq
import Derived.Lib.MakeNoZero
import Derived.Laws.Externs
namespace Go.Eng
open Go

section ops
variable {P : Program} {w : World}

theorem run_info {t : TypeId} {i : TypeInfo} (h : P.info? t = some i) (w : World) : (typeInfo t).run P w = .ok i w := by
  simp [typeInfo, h]
theorem run_size {t : TypeId} {n : Nat} (h : szOf P t = some n) (w : World) : (sizeOf t).run P w = .ok n w := by
  unfold szOf at h
  cases hi : P.info? t with
  | none => simp [hi] at h
  | some i => simp [hi] at h; simp [sizeOf, run_info hi, h]
theorem run_zero {t : TypeId} {z : Value} (h : zr P t = some z) (w : World) : (zeroValue t).run P w = .ok z w := by
  unfold zr at h
  cases hi : P.info? t with
  | none => simp [hi] at h
  | some i => simp [hi] at h; simp [zeroValue, run_info hi, h]
theorem run_isAgg {t : TypeId} {b : Bool} (h : aggT P t = some b) (w : World) : (isAgg t).run P w = .ok b w := by
  unfold aggT at h
  cases hi : P.underlying t with
  | none => simp [hi] at h
  | some d => cases d <;> simp [hi] at h <;> subst h <;> simp [isAgg, run_underlying hi]

theorem cellsAt_get : ∀ {vs : List Value} {a : Addr} {i : Nat}, CellsAt w a i vs → ∀ j v, vs[j]? = some v → w.cell? (a.add (i + j)) = some v
  | [], _, _, _, j, v, h => by simp at h
  | u :: r, a, i, hc, j, v, h => by
    cases j with
    | zero =>
      simp only [List.getElem?_cons_zero, Option.some.injEq] at h
      subst h
      exact hc.1
    | succ j =>
      have := cellsAt_get hc.2 j v (by simpa using h)
      rw [← this]; congr 2; omega

theorem run_loadVar_agg {t : TypeId} {a : Addr} {vs : List Value} (h1 : aggT P t = some true) (h2 : szOf P t = some vs.length) (hc : CellsAt w a 0 vs) :
    (loadVar t a).run P w = .ok (.agg vs.toArray) w := by
  have := run_loadCells_list (P := P) (w := w) a vs (fun j v h => by simpa using cellsAt_get hc j v h)
  simp [loadVar, run_isAgg h1, run_size h2, this]
theorem run_loadVar_one {t : TypeId} {a : Addr} {v : Value} (h1 : aggT P t = some false) (hc : w.cell? a = some v) :
    (loadVar t a).run P w = .ok v w := by
  simp [loadVar, run_isAgg h1, hc]

theorem load_sound {t : TypeId} {a : Addr} {K : Value → Prop} (h : loadWp P t a w K) : ∃ v, (loadVar t a).run P w = .ok v w ∧ K v := by
  unfold loadWp at h
  split at h
  · rename_i h1
    split at h
    · rename_i i hi
      split at h
      · rename_i cs hz
        cases hb : Nat.beq cs.toList.length i.size with
        | false => rw [hb] at h; exact h.elim
        | true =>
          rw [hb, cond_true] at h
          obtain ⟨vs, hl, hc, hk⟩ := likes1_some h
          refine ⟨_, run_loadVar_agg h1 ?_ hc, hk⟩
          have := Nat.eq_of_beq_eq_true hb
          simp [szOf, hi, hl, this]
      · exact h.elim
    · exact h.elim
  · rename_i h1
    split at h
    · obtain ⟨v, hc, hk⟩ := like1_some h
      exact ⟨v, run_loadVar_one h1 hc, hk⟩
    · exact h.elim
  · exact h.elim

theorem stores_sound : ∀ {vs : List Value} {a : Addr} {i : Nat} {w : World} {F : World → Prop}, Stores a i vs w F → ∃ w', (storeCells a vs i).run P w = .ok () w' ∧ F w'
  | [], a, i, w, F, h => ⟨w, by simp [storeCells], h⟩
  | v :: r, a, i, w, F, h => by
    simp only [Stores] at h
    cases hv : v.oneCell' with
    | false => simp [hv] at h
    | true =>
      simp only [hv, cond_true] at h
      obtain ⟨⟨u, hu⟩, hf, hw⟩ := h
      obtain ⟨w', hr, hF⟩ := stores_sound (hw _ rfl)
      refine ⟨w', ?_, hF⟩
      simp [storeCells, run_store _ _ _ _ _ hv, hu, hf, hr]

theorem store_sound {t : TypeId} {a : Addr} {v : Value} {F : World → Prop} (hn : szOf P t = some v.cells.toList.length) (h : Stores a 0 v.cells.toList w F) :
    ∃ w', (storeVar t a v).run P w = .ok () w' ∧ F w' := by
  obtain ⟨w', hr, hF⟩ := stores_sound (P := P) h
  refine ⟨w', ?_, hF⟩
  simp [storeVar, run_size hn, hr]

theorem run_part {t : TypeId} {cs : Array Value} {off : Nat} {v : Value} (h : partOf P t cs off = some v) (w : World) : (part t cs off).run P w = .ok v w := by
  unfold partOf at h
  split at h
  · rename_i h1
    split at h
    · rename_i n hn
      simp only [Option.some.injEq] at h
      simp [part, run_isAgg h1, run_size hn, h]
    · cases h
  · rename_i h1
    simp [part, run_isAgg h1, h]
  · cases h

theorem intBin_sound {op : BinOp} {k : IntKind} {a b : Int} {v : Value} {t : TypeId} (h : intBin op k a b = some v) (w : World) :
    (binOp op t (.int k a) (.int k b)).run P w = .ok v w := by
  cases op <;> simp only [intBin, Option.some.injEq, reduceCtorEq] at h <;> subst h <;>
    simp [binOp, Op.intArith, Op.intBits, Op.intCmp, bitv]
  all_goals first | rfl | (simp [bne]; done) | skip

theorem run_boolBin' {op : BinOp} {b : Bool} {v : Value} (h : binV.boolBin' op b = some v) : (op = .eql ∧ v = .bool b) ∨ (op = .neq ∧ v = .bool (!b)) := by
  cases op <;> simp [binV.boolBin'] at h <;> simp [h]

theorem evParts_sound {N : Nat} {E : Env} {D : List Deferred} {a : Act} (hA : Agrees N E D a) : ∀ {ps : List (Nat × Operand)} {l : List (Nat × Value)}, evParts E ps = some l → ps.map (fun x => (x.1, a.eval x.2)) = l
  | [], l, h => by simp [evParts] at h; simp [h]
  | (i, x) :: r, l, h => by
    simp only [evParts] at h
    cases h1 : ev E x with
    | none => simp [h1] at h
    | some v =>
      cases h2 : evParts E r with
      | none => simp [h1, h2] at h
      | some us =>
        simp only [h1, h2, Option.some.injEq] at h
        subst h
        simp [hA.ev h1, evParts_sound hA h2]

theorem places_sound {fs : List Field} {l : List (Nat × Nat)} (h : places P fs = some l) (w : World) :
    (fs.mapM (fun f => do pure (f.offset, ← sizeOf f.type)) : Sem (List (Nat × Nat))).run P w = .ok l w := by
  induction fs generalizing l with
  | nil => simp [places] at h; simp [h]
  | cons f r ih =>
    simp only [places] at h
    cases h1 : szOf P f.type with
    | none => simp [h1] at h
    | some n =>
      cases h2 : places P r with
      | none => simp [h1, h2] at h
      | some us =>
        simp only [h1, h2, Option.some.injEq] at h
        subst h
        have := ih h2
        simp only [List.mapM_cons, Sem.run_bind, run_size h1, Result.andThen_ok, Sem.run_pure, this]

theorem arr_mapM {fs : Array Field} {l : List (Nat × Nat)} (h : places P fs.toList = some l) (w : World) :
    (fs.mapM (fun f => do pure (f.offset, ← sizeOf f.type)) : Sem (Array (Nat × Nat))).run P w = .ok l.toArray w := by
  have := places_sound h w
  rw [Array.mapM_eq_mapM_toList, Sem.run_map, this]
  rfl

theorem eqGuard_agree {op : BinOp} {t : TypeId} {x y : Operand} {u v : Value} (h1 : ∀ cs, u ≠ .agg cs) (h2 : u ≠ .nilIface) (w : World) : (eqGuard op t x y u v).run P w = .ok () w := by
  unfold eqGuard
  cases u <;> first
    | exact absurd rfl h2
    | exact absurd rfl (h1 _)
    | (cases op <;> rfl)

theorem equal_eq (t : TypeId) (x y : Value) : Op.equal t x y = Op.equalIn (9999 + 1) t x y := rfl

theorem run_equal_bool {t : TypeId} (ht : P.underlying t = some .bool) (a b : Bool) (w : World) : (Op.equal t (.bool a) (.bool b)).run P w = .ok (a == b) w := by
  rw [equal_eq]
  generalize 9999 = d
  simp [Op.equalIn, run_underlying ht]
theorem run_equal_ptr {t e : TypeId} (ht : P.underlying t = some (.pointer e)) (p : Option Addr) (w : World) : (Op.equal t (.pointer p) (.pointer none)).run P w = .ok p.isNone w := by
  rw [equal_eq]
  generalize 9999 = d
  cases p <;> simp [Op.equalIn, run_underlying ht]
theorem run_equal_slice {t e : TypeId} (ht : P.underlying t = some (.slice e)) (A : Option Addr) (n c n' c' : Nat) (w : World) :
    (Op.equal t (.slice A n c) (.slice none n' c')).run P w = .ok A.isNone w := by
  rw [equal_eq]
  generalize 9999 = d
  cases A <;> simp [Op.equalIn, run_underlying ht]

theorem binOp_eql_bool (t : TypeId) (a b : Bool) : binOp .eql t (.bool a) (.bool b) = (do pure (.bool (← Op.equal t (.bool a) (.bool b)))) := rfl
theorem binOp_neq_bool (t : TypeId) (a b : Bool) : binOp .neq t (.bool a) (.bool b) = (do pure (.bool (!(← Op.equal t (.bool a) (.bool b))))) := rfl
theorem binOp_eql_ptr (t : TypeId) (a b : Option Addr) : binOp .eql t (.pointer a) (.pointer b) = (do pure (.bool (← Op.equal t (.pointer a) (.pointer b)))) := rfl
theorem binOp_neq_ptr (t : TypeId) (a b : Option Addr) : binOp .neq t (.pointer a) (.pointer b) = (do pure (.bool (!(← Op.equal t (.pointer a) (.pointer b))))) := rfl
theorem binOp_eql_slice (t : TypeId) (A B : Option Addr) (n c n' c' : Nat) : binOp .eql t (.slice A n c) (.slice B n' c') = (do pure (.bool (← Op.equal t (.slice A n c) (.slice B n' c')))) := rfl
theorem binOp_neq_slice (t : TypeId) (A B : Option Addr) (n c n' c' : Nat) : binOp .neq t (.slice A n c) (.slice B n' c') = (do pure (.bool (!(← Op.equal t (.slice A n c) (.slice B n' c'))))) := rfl

theorem eqGuard_agg {op : BinOp} {t : TypeId} {x y : Operand} {xs ys : Array Value} (h : P.eqGuardType P.depth t = false) (w : World) : (eqGuard op t x y (.agg xs) (.agg ys)).run P w = .ok () w := by
  unfold eqGuard
  cases op <;> simp [run_program, h]
theorem binOp_eql_agg (t : TypeId) (a b : Array Value) : binOp .eql t (.agg a) (.agg b) = (do pure (.bool (← Op.equal t (.agg a) (.agg b)))) := rfl
theorem binOp_neq_agg (t : TypeId) (a b : Array Value) : binOp .neq t (.agg a) (.agg b) = (do pure (.bool (!(← Op.equal t (.agg a) (.agg b))))) := rfl
theorem eqV_sound : ∀ (d D : Nat) (t : TypeId) (x y : Value) (b : Bool), eqV P d t x y = some b → ∀ w : World, (Op.equalIn (D + d) t x y).run P w = .ok b w
  | 0, _, _, _, _, _, h, _ => by simp [eqV] at h
  | d + 1, D, t, x, y, b, h, w => by
    have ih := fun t x y b h w => eqV_sound d D t x y b h w
    unfold eqV at h
    rw [show D + (d + 1) = (D + d) + 1 from rfl]
    split at h
    · rename_i ht
      split at h
      · simp only [Option.some.injEq] at h
        subst h
        simp [Op.equalIn, run_underlying ht]
      · cases h
    · rename_i ht
      split at h
      · split at h
        · rename_i hk
          subst hk
          simp only [Option.some.injEq] at h
          subst h
          simp [Op.equalIn, run_underlying ht]
          rfl
        · cases h
      · cases h
    · rename_i n e ht
      split at h
      · rename_i xs ys i hi
        rw [run_equalIn_array w (D + d) xs ys ht hi]
        have key : ∀ (is : List Nat) (b : Bool), allB (fun i => match partOf P e xs (i * P.cellsOf e), partOf P e ys (i * P.cellsOf e) with
            | some a, some b => eqV P d e a b
            | _, _ => none) is = some b → (Op.eqItems (D + d) e (P.cellsOf e) xs ys is).run P w = .ok b w := by
          intro is
          induction is with
          | nil => intro b hb; simp [allB] at hb; subst hb; simp [Op.eqItems]
          | cons j is ihs =>
            intro b hb
            simp only [allB] at hb
            split at hb
            · rename_i b1 h1
              split at hb
              · rename_i c hc
                split at h1
                · rename_i u v hu hv
                  simp only [Option.some.injEq] at hb
                  subst hb
                  simp only [Op.eqItems, Sem.run_bind, run_part hu, run_part hv, ih e u v b1 h1 w, Result.andThen_ok]
                  cases b1
                  · simp
                  · simpa using ihs c hc
                · cases h1
              · cases hb
            · cases hb
        exact key _ b h
      · cases h
    · rename_i fs ht
      split at h
      · rename_i xs ys hst
        have hf : P.fieldsOf t = fs := by simp [Program.fieldsOf, ht]
        rw [run_equalIn_struct w (D + d) t xs ys (by rw [hf]; exact ht) hst, hf]
        have key : ∀ (gs : List Field) (b : Bool), allB (fun f : Field => if f.name ≠ "_" then match partOf P f.type xs f.offset, partOf P f.type ys f.offset with
            | some a, some b => eqV P d f.type a b
            | _, _ => none else none) gs = some b → (Op.eqFields (D + d) xs ys gs).run P w = .ok b w := by
          intro gs
          induction gs with
          | nil => intro b hb; simp [allB] at hb; subst hb; simp [Op.eqFields]
          | cons f gs ihs =>
            intro b hb
            simp only [allB] at hb
            split at hb
            · rename_i b1 h1
              split at hb
              · rename_i c hc
                split at h1
                · rename_i hname
                  split at h1
                  · rename_i u v hu hv
                    simp only [Option.some.injEq] at hb
                    subst hb
                    rw [Op.eqFields, if_pos hname]
                    simp only [Sem.run_bind, run_part hu, run_part hv, ih f.type u v b1 h1 w, Result.andThen_ok]
                    cases b1
                    · simp
                    · simpa using ihs c hc
                  · cases h1
                · cases h1
              · cases hb
            · cases hb
        exact key _ b h
      · cases h
    · cases h

theorem binV_sound {op : BinOp} {t : TypeId} {u v r : Value} {x y : Operand} (h : binV P op t u v = some r) (w : World) :
    (do eqGuard op t x y u v; binOp op t u v : Sem Value).run P w = .ok r w := by
  rw [Sem.run_bind]
  unfold binV at h
  split at h
  · rename_i k a k' b
    rw [eqGuard_agree (by simp) (by simp), Result.andThen_ok]
    split at h
    · rename_i hk
      subst hk
      exact intBin_sound h w
    · cases h
  · rename_i a b
    rw [eqGuard_agree (by simp) (by simp), Result.andThen_ok]
    rcases run_boolBin' h with ⟨rfl, rfl⟩ | ⟨rfl, rfl⟩ <;> rfl
  · rename_i a b
    rw [eqGuard_agree (by simp) (by simp), Result.andThen_ok]
    split at h
    · rename_i ht
      cases op <;> simp only [boolBin, Option.some.injEq, reduceCtorEq] at h <;> subst h
      · rw [binOp_eql_bool, Sem.run_bind, run_equal_bool ht]; rfl
      · rw [binOp_neq_bool, Sem.run_bind, run_equal_bool ht]; rfl
    · cases h
  · rename_i p
    rw [eqGuard_agree (by simp) (by simp), Result.andThen_ok]
    split at h
    · rename_i e ht
      rcases run_boolBin' h with ⟨rfl, rfl⟩ | ⟨rfl, rfl⟩
      · rw [binOp_eql_ptr, Sem.run_bind, run_equal_ptr ht]; rfl
      · rw [binOp_neq_ptr, Sem.run_bind, run_equal_ptr ht]; rfl
    · cases h
  · rename_i A n c n' c'
    rw [eqGuard_agree (by simp) (by simp), Result.andThen_ok]
    split at h
    · rename_i e ht
      rcases run_boolBin' h with ⟨rfl, rfl⟩ | ⟨rfl, rfl⟩
      · rw [binOp_eql_slice, Sem.run_bind, run_equal_slice ht]; rfl
      · rw [binOp_neq_slice, Sem.run_bind, run_equal_slice ht]; rfl
    · cases h
  · rename_i xs ys
    split at h
    · rename_i b hg he
      rw [eqGuard_agg hg, Result.andThen_ok]
      have hr : (Op.equal t (.agg xs) (.agg ys)).run P w = .ok b w := eqV_sound 6 9994 t _ _ b he w
      rcases run_boolBin' h with ⟨rfl, rfl⟩ | ⟨rfl, rfl⟩
      · rw [binOp_eql_agg, Sem.run_bind, hr]; rfl
      · rw [binOp_neq_agg, Sem.run_bind, hr]; rfl
    · cases h
  · cases h

end ops
end Go.Eng
