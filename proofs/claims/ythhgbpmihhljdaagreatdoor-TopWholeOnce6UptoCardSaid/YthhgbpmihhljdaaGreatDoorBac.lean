/- The engine's soundness, second part: one operation. It speaks of any program. -/
import Derived.Test.YthhgbpmihhljdaaGreatDoorBab
namespace Go.Eng
open Go

section ops
variable {P : Program} {w : World} {N : Nat} {E : Env} {D : List Deferred} {a : Act}

theorem map_eval {xs : Array Operand} {vs : List Value} (hA : Agrees N E D a) (h : evs E xs.toList = some vs) : xs.map a.eval = vs.toArray := by
  apply Array.ext'
  simpa using hA.evs h

theorem map_parts {xs : Array (Nat × Operand)} {l : List (Nat × Value)} (hA : Agrees N E D a) (h : evParts E xs.toList = some l) : xs.map (fun (i, x) => (i, a.eval x)) = l.toArray := by
  apply Array.ext'
  simpa using evParts_sound hA h

theorem run_convert_int {s d : TypeId} {k k' : IntKind} {n : Int} {ds : TypeDesc} (h1 : P.underlying s = some ds) (h2 : P.underlying d = some (.int k)) (w : World) :
    (convert s d (.int k' n)).run P w = .ok (.int k (k.wrap n)) w := by
  simp [convert, run_underlying h1, run_underlying h2, Conv.intToInt]
theorem run_convert_str {s d : TypeId} {b : ByteArray} {ds : TypeDesc} (h1 : P.underlying s = some ds) (h2 : P.underlying d = some .string) (w : World) :
    (convert s d (.string b)).run P w = .ok (.string b) w := by
  simp [convert, run_underlying h1, run_underlying h2]

theorem toList_one {α : Type} {xs : Array α} {x : α} (h : xs.toList = [x]) : xs = #[x] := by
  apply Array.ext'; simpa using h

theorem pure_sound {o : Oper} {v : Value} (hA : Agrees N E D a) (h : pureOp P E o.op = some v) (w : World) : (execOp a.eval o).run P w = .ok (.value v) w := by
  unfold execOp
  generalize o.op = op at h
  cases op <;> simp only [pureOp, reduceCtorEq] at h
  case move x => simp [hA.ev h]
  case assign x => simp [hA.ev h]
  case pick c x y =>
    cases hc : ev E c with
    | none => simp [hc] at h
    | some u =>
      cases u <;> simp only [hc, reduceCtorEq] at h
      rename_i b
      cases b <;> simp only at h <;> simp [hA.ev hc, asBool, hA.ev h]
  case binOp op t x y t' =>
    cases hx : ev E x with
    | none => simp [hx] at h
    | some u =>
      cases hy : ev E y with
      | none => simp [hx, hy] at h
      | some u' =>
        simp only [hx, hy] at h
        have := binV_sound (x := x) (y := y) h w
        simp only [hA.ev hx, hA.ev hy]
        rw [Sem.run_bind, this]
        rfl
  case unOp op t x =>
    split at h
    · rename_i b hx
      simp only [Option.some.injEq] at h
      simp [hA.ev hx, Op.unary, h]
    · rename_i k n hx
      simp only [Option.some.injEq] at h
      subst h
      simp [hA.ev hx, Op.unary, Op.intArith]
    · rename_i k n hx
      simp only [Option.some.injEq] at h
      subst h
      simp only [hA.ev hx, Op.unary, Op.intBits, bitv]
      rfl
    · cases h
  case convert s d x =>
    split at h
    · rename_i ds k k' n h1 h2 hx
      simp only [Option.some.injEq] at h
      simp [hA.ev hx, run_convert_int h1 h2, h]
    · rename_i ds b h1 h2 hx
      simp only [Option.some.injEq] at h
      subst h
      simp [hA.ev hx, run_convert_str h1 h2]
    · cases h
  case call c =>
    split at h
    · rename_i t u hc ht hu
      have hts := toList_one ht
      have hvs := map_eval hA hu
      split at h
      · rename_i s hty
        simp only [Option.some.injEq] at h
        subst h
        simp [resolve, hc, invoke, builtin, Builtin.len_, hts, hvs, run_underlying hty, goInt]
      · rename_i e A n c' hty
        simp only [Option.some.injEq] at h
        subst h
        simp [resolve, hc, invoke, builtin, Builtin.len_, hts, hvs, run_underlying hty, goInt]
      · rename_i e n hty
        simp only [Option.some.injEq] at h
        subst h
        simp [resolve, hc, invoke, builtin, Builtin.len_, hts, hvs, run_underlying hty, goInt]
      · cases h
    · rename_i t u hc ht hu
      have hts := toList_one ht
      have hvs := map_eval hA hu
      split at h
      · rename_i e A n c' hty
        simp only [Option.some.injEq] at h
        subst h
        simp [resolve, hc, invoke, builtin, Builtin.cap_, hts, hvs, run_underlying hty, goInt]
      · rename_i e n hty
        simp only [Option.some.injEq] at h
        subst h
        simp [resolve, hc, invoke, builtin, Builtin.cap_, hts, hvs, run_underlying hty, goInt]
      · cases h
    · rename_i k x k' y hc hu
      have hvs := map_eval hA hu
      simp only [Option.some.injEq] at h
      subst h
      simp [resolve, hc, invoke, builtin, Builtin.min_, Builtin.min2, hvs]
    · rename_i k x k' y hc hu
      have hvs := map_eval hA hu
      simp only [Option.some.injEq] at h
      subst h
      simp [resolve, hc, invoke, builtin, Builtin.max_, Builtin.max2, hvs]
    · cases h
  case extract x i =>
    split at h
    · rename_i vs hx
      simp [hA.ev hx, Instr.extract, h]
    · cases h
  case makeInterface t x =>
    split at h
    · cases h
    · rename_i d v' hni hd hx
      simp only [Option.some.injEq] at h
      subst h
      simp only [hA.ev hx, Instr.makeInterface, Sem.run_bind, run_underlying hd, Result.andThen_ok]
      cases d <;> first | exact absurd rfl (hni _) | rfl
    · cases h
  case makeFunc fn first cap =>
    split at h
    · rename_i u v' h1 h2
      simp only [Option.some.injEq] at h
      subst h
      simp [Instr.makeFunc, map_eval hA h1, map_eval hA h2]
    · cases h
  case fieldAddr s x f =>
    split at h
    · rename_i fs ad hs hx
      split at h
      · rename_i fd hf
        split at h
        · rename_i n hn
          simp only [Option.some.injEq] at h
          subst h
          simp [hA.ev hx, Instr.fieldAt, run_underlying hs, hf, Instr.sureAddr, fieldPlace, run_size hn]
        · cases h
      · cases h
    · cases h
  case field t x f =>
    split at h
    · rename_i fs cs hs hx
      split at h
      · rename_i fd hf
        simp [hA.ev hx, Instr.field, run_underlying hs, hf, asAgg, run_part h]
      · cases h
    · cases h
  case build t parts =>
    split at h
    · rename_i z ps hz hp
      have hps := map_parts hA hp
      split at h
      · rename_i fs hs
        split at h
        · rename_i pl hpl
          split at h
          · rename_i cs hcs
            simp only [Option.some.injEq] at h
            subst h
            simp only [Instr.build, hps, Sem.run_bind, run_zero hz, run_underlying hs, Result.andThen_ok, arr_mapM hpl]
            simp [hcs]
          · cases h
        · cases h
      · rename_i n e hs
        split at h
        · rename_i m hm
          split at h
          · rename_i cs hcs
            simp only [Option.some.injEq] at h
            subst h
            simp [Instr.build, hps, run_zero hz, run_underlying hs, run_size hm, hcs]
          · cases h
        · cases h
      · cases h
    · cases h

/-- A function that a call may enter. -/
def callableB (P : Program) (f : FuncId) : Bool :=
  match P.funcs[f]? with
  | some fn => !(fn.name == "runtime.NumGoroutine") && fn.body.isSome
  | none => false
theorem run_callFunc {f : FuncId} (h : callableB P f = true) (args : Array Value) (w : World) : (callFunc f args).run P w = .ok (.enter f args) w := by
  unfold callableB at h
  split at h
  · rename_i fn hf
    simp only [Bool.and_eq_true, Bool.not_eq_true'] at h
    have h2 : fn.body.isNone = false := by cases hb : fn.body <;> simp [hb] at h ⊢
    simp only [callFunc, Sem.run_bind, run_program, Result.andThen_ok, hf, h.1, h2]
    rfl
  · cases h

theorem noZero_next : Extern.allNextRows.lookup "internal/bytealg.MakeNoZero" = none ∧ Extern.allNextRows.lookup "" = none := ⟨by kernel_rfl, by kernel_rfl⟩
theorem noZero_row : Extern.allGenericRows.lookup "internal/bytealg.MakeNoZero" = none ∧ Extern.allTypedRows.lookup "internal/bytealg.MakeNoZero" = some Extern.BytealgMakeNoZero.makeNoZero := ⟨by kernel_rfl, by kernel_rfl⟩
theorem noZero_run {f : FuncId} {e : TypeId} (h : noZeroT P f = some e) (n : Nat) (hn : n ≤ 281474976710656) (w : World) :
    ∃ cs : Array Value, (callFunc f #[.int .i64 n]).run P w = .ok (.value (.slice (some ⟨w.heap.size, 0, none⟩) n cs.size)) (w.drew.drew.alloc (.cells cs e)) ∧ n ≤ cs.size ∧ (n ≤ maxLen → cs.size ≤ maxLen) := by
  unfold noZeroT at h
  split at h
  · rename_i fn hf
    cases hb : (!(fn.name == "runtime.NumGoroutine") && (fn.name == "internal/bytealg.MakeNoZero" && (fn.origin == "" && fn.body.isNone))) with
    | false => rw [hb] at h; cases h
    | true =>
      rw [hb, cond_true] at h
      simp only [Bool.and_eq_true, Bool.not_eq_true', beq_iff_eq] at hb
      obtain ⟨h1, h2, h3, h4⟩ := hb
      split at h
      · rename_i t ht
        split at h
        · rename_i e' he'
          injection h with h
          subst h
          obtain ⟨cs, hr, hc⟩ := Lib.run_makeNoZero (P := P) w fn.params t e' he' n hn
          refine ⟨cs, ?_, hc⟩
          have hrt : fn.resultTypes = #[t] := by
            have := congrArg List.toArray ht
            simpa using this
          rw [run_callFunc_extern (e := Extern.BytealgMakeNoZero.makeNoZero fn.params fn.resultTypes) hf h1 h4 (by simp only [Extern.findNext, h2, h3, noZero_next.1, noZero_next.2]; rfl) (by simp only [Extern.find, h2, noZero_row.1, noZero_row.2]; rfl), hrt]
          simp only [hr]
          rfl
        · cases h
      · cases h
  · cases h

theorem zeros_length (z : List Value) : ∀ n, (zeros z n).length = n * z.length
  | 0 => by simp [zeros]
  | n + 1 => by simp [zeros, zeros_length z n, Nat.add_mul, Nat.add_comm]
theorem zeros_get (z : List Value) (hz : 0 < z.length) : ∀ n i, i < n * z.length → (zeros z n)[i]? = z[i % z.length]?
  | 0, i, h => by simp at h
  | n + 1, i, h => by
    simp only [zeros]
    rcases Nat.lt_or_ge i z.length with hlt | hge
    · rw [List.getElem?_append_left hlt, Nat.mod_eq_of_lt hlt]
    · rw [List.getElem?_append_right hge, zeros_get z hz n _ (by rw [Nat.add_mul] at h; omega)]
      congr 1
      conv => rhs; rw [show i = (i - z.length) + z.length by omega, Nat.add_mod_right]
theorem zeros_made (z : Array Value) (n : Nat) (hz : 0 < z.size) : (Array.range (n * z.size)).map (fun i => z[i % z.size]!) = (zeros z.toList n).toArray := by
  apply Array.ext'
  apply List.ext_getElem?
  intro i
  rcases Nat.lt_or_ge i (n * z.size) with hlt | hge
  · have h1 := zeros_get z.toList (by simpa using hz) n i (by simpa using hlt)
    have hm : i % z.size < z.size := Nat.mod_lt _ hz
    have e1 : (Array.map (fun i => z[i % z.size]!) (Array.range (n * z.size))).toList[i]? = some (z[i % z.size]'hm) := by
      simp [hlt, hm]
    rw [e1]
    have e2 : (zeros z.toList n).toArray.toList[i]? = (zeros z.toList n)[i]? := rfl
    rw [e2, h1]
    simp [hm]
  · have e1 : (Array.map (fun i => z[i % z.size]!) (Array.range (n * z.size))).toList[i]? = none := by
      apply List.getElem?_eq_none
      simpa using hge
    rw [e1]
    symm
    apply List.getElem?_eq_none
    simp [zeros_length]
    exact hge

theorem makeSlice_sound {t e : TypeId} {i : TypeInfo} {z : Value} {k k' : IntKind} {l c : Int} {F : Nat → World → Prop}
    (ht : P.underlying t = some (.slice e)) (hi : P.info? e = some i) (hz : i.zero = some z) (hs : z.cells.toList.length = i.size) (hp : 0 < i.size) (hb0 : 0 < i.bytes)
    (h : MakeVC w e i.bytes z.cells.toList l c F) : ∃ w', (Instr.makeSlice t (.int k l) (.int k' c)).run P w = .ok (.slice (some ⟨w.heap.size, 0, none⟩) l.toNat c.toNat) w' ∧ F w.heap.size w' := by
  obtain ⟨h0, hlc, hb, hF⟩ := h
  have hbig : c ≤ 281474976710656 := by
    have : (1 : Int) * c ≤ (i.bytes : Int) * c := Int.mul_le_mul_of_nonneg_right (by omega) (by omega)
    omega
  have hr := run_make (P := P) w t e i z ht hi hz k k' l c h0 hlc hb (by omega)
  refine ⟨_, hr, hF _ _ rfl ?_⟩
  have hsz : z.cells.size = i.size := by simpa using hs
  have := zeros_made z.cells c.toNat (by omega)
  rw [hsz] at this
  rw [madeCells, hsz, this]

theorem sliceBound_ok {k : IntKind} {i : Int} {y : Nat} {code : BoundsCode} (h0 : 0 ≤ i) (h1 : i ≤ y) (w : World) :
    (Instr.sliceBound (.int k i) y code).run P w = .ok i.toNat w := by
  simp [Instr.sliceBound, asIntOf, h0, h1]

theorem evo_sound (hA : Agrees N E D a) {x : Option Operand} {i : Option Int} (h : evo E x = some i) :
    (i = none ∧ x.map a.eval = none) ∨ (∃ k j, i = some j ∧ x.map a.eval = some (.int k j)) := by
  cases x with
  | none => simp [evo] at h; exact .inl ⟨h.symm, rfl⟩
  | some x =>
    simp only [evo] at h
    split at h
    · rename_i k j hx
      simp only [Option.some.injEq] at h
      exact .inr ⟨k, j, h.symm, by simp [hA.ev hx]⟩
    · cases h

theorem slice_sound {t e : TypeId} {A : Option Addr} {n c sz : Nat} {lo hi mx : Option Int} {vlo vhi vmx : Option Value} {F : Option Addr → Nat → Nat → Prop}
    (ht : P.underlying t = some (.slice e)) (hs : szOf P e = some sz)
    (h1 : (lo = none ∧ vlo = none) ∨ (∃ k j, lo = some j ∧ vlo = some (.int k j))) (h2 : (hi = none ∧ vhi = none) ∨ (∃ k j, hi = some j ∧ vhi = some (.int k j)))
    (h3 : (mx = none ∧ vmx = none) ∨ (∃ k j, mx = some j ∧ vmx = some (.int k j)))
    (h : SliceVC A n c sz lo hi mx F) : ∃ A' n' c', (Instr.sliceAt t (.slice A n c) vlo vhi vmx).run P w = .ok (.slice A' n' c') w ∧ F A' n' c' := by
  have hz : ∀ m : Nat, (if m = 0 then A else A.map (·.add (0 * sz))) = A := by
    intro m; cases A <;> simp [Addr.add]
  unfold Instr.sliceAt
  simp only [Sem.run_bind, run_underlying ht, Result.andThen_ok]
  unfold Instr.slice
  simp only [Sem.run_bind, run_underlying ht, Result.andThen_ok, Instr.sliceBounds]
  rcases h1 with ⟨rfl, rfl⟩ | ⟨k1, l, rfl, rfl⟩ <;> rcases h2 with ⟨rfl, rfl⟩ | ⟨k2, h', rfl, rfl⟩ <;> rcases h3 with ⟨rfl, rfl⟩ | ⟨k3, m, rfl, rfl⟩ <;>
    simp only [SliceVC] at h
  · refine ⟨_, _, _, ?_, h⟩
    simp only [Sem.run_pure, Result.andThen_ok, run_size hs, Sem.run_bind, hz, Nat.sub_zero]
  · obtain ⟨h0, h1, hF⟩ := h
    refine ⟨_, _, _, ?_, hF⟩
    simp only [Sem.run_pure, Result.andThen_ok, run_size hs, Sem.run_bind, hz, Nat.sub_zero, if_true, sliceBound_ok h0 h1]
  · obtain ⟨h0, h1, h2, hF⟩ := h
    refine ⟨_, _, _, ?_, hF⟩
    have h1' : h' ≤ (m.toNat : Nat) := by omega
    simp only [Sem.run_pure, Result.andThen_ok, run_size hs, Sem.run_bind, hz, Nat.sub_zero, if_true, sliceBound_ok (by omega : (0 : Int) ≤ m) h2, sliceBound_ok h0 h1']
  · obtain ⟨h0, h1, hF⟩ := h
    refine ⟨_, _, _, ?_, hF⟩
    simp only [Sem.run_pure, Result.andThen_ok, run_size hs, Sem.run_bind, sliceBound_ok h0 h1]
  · obtain ⟨h0, h1, h2, hF⟩ := h
    refine ⟨_, _, _, ?_, hF⟩
    have h1' : l ≤ (h'.toNat : Nat) := by omega
    simp only [Sem.run_pure, Result.andThen_ok, run_size hs, Sem.run_bind, if_true, sliceBound_ok (by omega : (0 : Int) ≤ h') h2, sliceBound_ok h0 h1']
  · obtain ⟨h0, h1, h2, h3, hF⟩ := h
    refine ⟨_, _, _, ?_, hF⟩
    have h1' : l ≤ (h'.toNat : Nat) := by omega
    have h2' : h' ≤ (m.toNat : Nat) := by omega
    simp only [Sem.run_pure, Result.andThen_ok, run_size hs, Sem.run_bind, sliceBound_ok (by omega : (0 : Int) ≤ m) h3, sliceBound_ok (by omega : (0 : Int) ≤ h') h2', sliceBound_ok h0 h1']

theorem str_cut_sound {t : TypeId} {s : ByteArray} {lo hi : Option Int} {vlo vhi : Option Value} {F : ByteArray → Prop}
    (ht : P.underlying t = some .string) (h1 : (lo = none ∧ vlo = none) ∨ (∃ k j, lo = some j ∧ vlo = some (.int k j))) (h2 : (hi = none ∧ vhi = none) ∨ (∃ k j, hi = some j ∧ vhi = some (.int k j)))
    (h : StrCutVC s lo hi F) : ∃ s', (∀ w : World, (Instr.sliceAt t (.string s) vlo vhi none).run P w = .ok (.string s') w) ∧ F s' := by
  unfold Instr.sliceAt
  simp only [Sem.run_bind, run_underlying ht, Result.andThen_ok]
  unfold Instr.slice
  simp only [Sem.run_bind, run_underlying ht, Result.andThen_ok, Instr.sliceBounds]
  rcases h1 with ⟨rfl, rfl⟩ | ⟨k1, l, rfl, rfl⟩ <;> rcases h2 with ⟨rfl, rfl⟩ | ⟨k2, h', rfl, rfl⟩ <;>
    simp only [StrCutVC] at h
  · refine ⟨_, fun w => ?_, h⟩
    simp
  · obtain ⟨h0, h1, hF⟩ := h
    refine ⟨_, fun w => ?_, hF⟩
    simp [sliceBound_ok h0 h1]
  · obtain ⟨h0, h1, hF⟩ := h
    refine ⟨_, fun w => ?_, hF⟩
    simp [sliceBound_ok h0 h1]
  · obtain ⟨h0, h1, h2, hF⟩ := h
    refine ⟨_, fun w => ?_, hF⟩
    have h1' : l ≤ (h'.toNat : Nat) := by omega
    simp [sliceBound_ok (by omega : (0 : Int) ≤ h') h2, sliceBound_ok h0 h1']

theorem arr_slice_sound {t e : TypeId} {ad : Addr} {n sz : Nat} {lo hi mx : Option Int} {vlo vhi vmx : Option Value} {F : Option Addr → Nat → Nat → Prop}
    (ht : P.underlying t = some (.array n e)) (hs : szOf P e = some sz)
    (h1 : (lo = none ∧ vlo = none) ∨ (∃ k j, lo = some j ∧ vlo = some (.int k j))) (h2 : (hi = none ∧ vhi = none) ∨ (∃ k j, hi = some j ∧ vhi = some (.int k j)))
    (h3 : (mx = none ∧ vmx = none) ∨ (∃ k j, mx = some j ∧ vmx = some (.int k j)))
    (h : SliceVC (some ad) n n sz lo hi mx F) : ∃ A' n' c', (Instr.sliceAt t (.pointer (some ad)) vlo vhi vmx).run P w = .ok (.slice A' n' c') w ∧ F A' n' c' := by
  have hz : ∀ m : Nat, (if m = 0 then ad else ad.add (0 * sz)) = ad := by
    intro m; simp [Addr.add]
  have hif : ∀ l m : Nat, (if m = l then some ad else (some ad).map (·.add (l * sz))) = some (if m = l then ad else ad.add (l * sz)) := by
    intro l m; split <;> rfl
  unfold Instr.sliceAt
  simp only [Sem.run_bind, run_underlying ht, Result.andThen_ok, Instr.sureAddr, Sem.run_pure, Instr.sliceBounds]
  rcases h1 with ⟨rfl, rfl⟩ | ⟨k1, l, rfl, rfl⟩ <;> rcases h2 with ⟨rfl, rfl⟩ | ⟨k2, h', rfl, rfl⟩ <;> rcases h3 with ⟨rfl, rfl⟩ | ⟨k3, m, rfl, rfl⟩ <;>
    simp only [SliceVC, hif] at h
  · refine ⟨_, _, _, ?_, h⟩
    simp only [Sem.run_pure, Result.andThen_ok, run_size hs, Sem.run_bind, hz, Nat.sub_zero]
  · obtain ⟨h0, h1, hF⟩ := h
    refine ⟨_, _, _, ?_, hF⟩
    simp only [Sem.run_pure, Result.andThen_ok, run_size hs, Sem.run_bind, hz, Nat.sub_zero, sliceBound_ok h0 h1]
  · obtain ⟨h0, h1, h2, hF⟩ := h
    refine ⟨_, _, _, ?_, hF⟩
    have h1' : h' ≤ (m.toNat : Nat) := by omega
    simp only [Sem.run_pure, Result.andThen_ok, run_size hs, Sem.run_bind, hz, Nat.sub_zero, sliceBound_ok (by omega : (0 : Int) ≤ m) h2, sliceBound_ok h0 h1']
  · obtain ⟨h0, h1, hF⟩ := h
    refine ⟨_, _, _, ?_, hF⟩
    simp only [Sem.run_pure, Result.andThen_ok, run_size hs, Sem.run_bind, sliceBound_ok h0 h1]
  · obtain ⟨h0, h1, h2, hF⟩ := h
    refine ⟨_, _, _, ?_, hF⟩
    have h1' : l ≤ (h'.toNat : Nat) := by omega
    simp only [Sem.run_pure, Result.andThen_ok, run_size hs, Sem.run_bind, sliceBound_ok (by omega : (0 : Int) ≤ h') h2, sliceBound_ok h0 h1']
  · obtain ⟨h0, h1, h2, h3, hF⟩ := h
    refine ⟨_, _, _, ?_, hF⟩
    have h1' : l ≤ (h'.toNat : Nat) := by omega
    have h2' : h' ≤ (m.toNat : Nat) := by omega
    simp only [Sem.run_pure, Result.andThen_ok, run_size hs, Sem.run_bind, sliceBound_ok (by omega : (0 : Int) ≤ m) h3, sliceBound_ok (by omega : (0 : Int) ≤ h') h2', sliceBound_ok h0 h1']

theorem idx_val_sound {t : TypeId} {x : Value} {k : IntKind} {i : Int} {K : Value → Prop} (h : idxWp P t x i K) :
    ∃ v, (∀ w : World, (Instr.index t x (.int k i)).run P w = .ok v w) ∧ K v := by
  unfold idxWp at h
  split at h
  · rename_i s ht
    obtain ⟨h0, h1, hk⟩ := h
    refine ⟨_, fun w => ?_, hk⟩
    have hlt : i.toNat < s.size := by omega
    have hg : s.toList.getD i.toNat 0 = s[i.toNat] := by
      rw [ByteArray.toList_eq, List.getD_eq_getElem?_getD]
      have : i.toNat < s.data.toList.length := by simpa using hlt
      rw [List.getElem?_eq_getElem this]; rfl
    rw [hg]
    simp only [Instr.index, Sem.run_bind, asIntOf, Sem.run_pure, Result.andThen_ok, run_underlying ht]
    rw [if_pos h0]
    simp [hlt]
  · rename_i len e cs ht
    split at h
    · rename_i inf h1 hi
      split at h
      · rename_i zs hz
        cases hb : Nat.beq zs.toList.length inf.size with
        | false => rw [hb] at h; exact h.elim
        | true =>
          rw [hb, cond_true] at h
          obtain ⟨vs, hl, ⟨h0, hlt, hp⟩, hk⟩ := likes1_some h
          refine ⟨_, fun w => ?_, hk⟩
          have hsz : szOf P e = some inf.size := by simp [szOf, hi]
          have hpart : partOf P e cs (i.toNat * inf.size) = some (.agg vs.toArray) := by
            unfold partOf
            rw [h1, hsz]
            simp only [Option.some.injEq, Value.agg.injEq]
            apply Array.ext'
            rw [Array.toList_extract, List.extract]
            simpa using hp
          simp only [Instr.index, Sem.run_bind, asIntOf, Sem.run_pure, Result.andThen_ok, run_underlying ht]
          rw [if_pos ⟨h0, hlt⟩]
          simp only [Sem.run_bind, run_size hsz, Result.andThen_ok, run_part hpart]
      · exact h.elim
    · rename_i inf h1 hi
      split at h
      · rename_i z hz
        obtain ⟨v, ⟨h0, hlt, hp⟩, hk⟩ := like1_some h
        refine ⟨v, fun w => ?_, hk⟩
        have hsz : szOf P e = some inf.size := by simp [szOf, hi]
        have hpart : partOf P e cs (i.toNat * inf.size) = some v := by
          unfold partOf
          rw [h1]
          simp only
          have : ((cs.toList.drop (i.toNat * inf.size)).take inf.size)[0]? = some v := by rw [hp]; rfl
          rw [List.getElem?_take, List.getElem?_drop] at this
          split at this
          · simpa using this
          · cases this
        simp only [Instr.index, Sem.run_bind, asIntOf, Sem.run_pure, Result.andThen_ok, run_underlying ht]
        rw [if_pos ⟨h0, hlt⟩]
        simp only [Sem.run_bind, run_size hsz, Result.andThen_ok, run_part hpart]
      · exact h.elim
    · exact h.elim
  · exact h.elim

theorem add_block (ad : Addr) (n : Nat) : (ad.add n).block = ad.block := by unfold Addr.add; split <;> rfl

theorem idx_slice_sound {t e : TypeId} {A : Option Addr} {n c sz : Nat} {k : IntKind} {i : Int} {F : Addr → Prop}
    (ht : P.underlying t = some (.slice e)) (hs : szOf P e = some sz) (h : IdxVC A n sz i F) :
    ∃ b, (Instr.indexAt t (.slice A n c) (.int k i)).run P w = .ok (.pointer (some b)) w ∧ F b := by
  obtain ⟨b, rfl, h0, h1, hF⟩ := h
  refine ⟨_, ?_, hF⟩
  simp only [Instr.indexAt, Sem.run_bind, asIntOf, Sem.run_pure, Result.andThen_ok, run_underlying ht]
  simp [h0, h1, run_size hs]
theorem idx_array_sound {t e : TypeId} {ad : Addr} {len sz : Nat} {k : IntKind} {i : Int} {F : Addr → Prop}
    (ht : P.underlying t = some (.array len e)) (hs : szOf P e = some sz) (h : IdxVC (some ad) len sz i F) :
    ∃ b, (Instr.indexAt t (.pointer (some ad)) (.int k i)).run P w = .ok (.pointer (some b)) w ∧ F b := by
  obtain ⟨b, hb, h0, h1, hF⟩ := h
  simp only [Option.some.injEq] at hb
  subst hb
  refine ⟨_, ?_, hF⟩
  simp only [Instr.indexAt, Sem.run_bind, asIntOf, Sem.run_pure, Result.andThen_ok, run_underlying ht, Instr.sureAddr]
  simp [h0, h1, run_size hs]

theorem run_shift {op : BinOp} {k yk : IntKind} {x y : Int} (hop : isSh op = true) (hy : 0 ≤ y) (w : World) (t : TypeId) :
    (binOp op t (.int k x) (.int yk y)).run P w = .ok (shWp op k x y.toNat) w := by
  have : ¬ y < 0 := by omega
  cases op <;> simp [isSh] at hop <;> simp [binOp, Op.shift, this, shWp]
theorem run_div {op : BinOp} {k : IntKind} {x y : Int} (hop : isDiv op = true) (hy : y ≠ 0) (w : World) (t : TypeId) :
    (binOp op t (.int k x) (.int k y)).run P w = .ok (divV op k x y) w := by
  cases op <;> simp [isDiv] at hop <;> simp [binOp, Op.intDiv, hy, divV]

theorem run_method {t : TypeId} {name : String} {f : FuncId} (h : methT P t name = some f) (n : Nat) (v : Value) (w : World) : (method (n + 1) t v name).run P w = .ok (f, v) w := by
  unfold methT at h
  split at h
  · rename_i i u hi hu
    split at h
    · rename_i m hm
      have hm' : i.methods.find? (·.name == name) = some m := by rw [← Array.find?_toList]; exact hm
      split at h
      · cases h
      · rename_i u' _ _ _ f' hp hf hnp
        simp only [Option.some.injEq] at h
        subst h
        have hfo : (follow m.path.toList t (.val v)).run P w = .ok (t, .val v) w := by rw [hp]; rfl
        have hra : ∀ o, (receiverAt t (.val v) false o).run P w = .ok v w := by
          intro o
          unfold receiverAt
          rw [Sem.run_bind, run_underlying hu, Result.andThen_ok]
          cases u' <;> first | rfl | exact (hnp _ rfl).elim
        unfold method
        simp only [Sem.run_bind, run_info hi, Result.andThen_ok, hm', hfo, hf, hra, Sem.run_pure]
      · cases h
    · cases h
  · cases h
theorem op_sound {F : Nat → Bool} (hF : ∀ f, F f = true → callableB P f = true) {o : Oper} {K : Value → World → Prop} {Qp : List PanicEntry → World → Prop}
    {K' : Act → World → Prop} {Q' : Exit → Act → World → Prop} (hA : Agrees N E D a)
    (hK : ∀ v w', K v w' → K' (a.put o.dst v) w') (hQ : ∀ ch w', Qp ch w' → Q' (.panic ch) a w')
    (h : opWp P F E o w K Qp) : o.wp P a w K' Q' := by
  have val : ∀ {v w'}, (execOp a.eval o).run P w = .ok (.value v) w' → K v w' → o.wp P a w K' Q' := by
    intro v w' hr hk
    unfold Oper.wp
    rw [hr]
    exact hK _ _ hk
  have pureCase : ∀ {op}, o.op = op → (match pureOp P E op with | some v => K v w | none => False) → o.wp P a w K' Q' := by
    intro op hop hh
    split at hh
    · rename_i v hv
      exact val (pure_sound hA (by rw [hop]; exact hv) w) hh
    · exact hh.elim
  unfold opWp at h
  cases hop : o.op <;> rw [hop] at h
  case load t x =>
    simp only at h
    split at h
    · rename_i ad hx
      obtain ⟨v, hr, hk⟩ := load_sound h
      refine val (v := v) ?_ hk
      simp [execOp, hop, hA.ev hx, Instr.loadAt, Instr.sureAddr, hr]
    · exact h.elim
  case store t x y =>
    simp only at h
    split at h
    · rename_i ad v hx hy
      split at h
      · rename_i n hn
        cases hb : Nat.beq v.cells.toList.length n with
        | false => rw [hb] at h; exact h.elim
        | true =>
          rw [hb, cond_true] at h
          have hb := Nat.eq_of_beq_eq_true hb
          obtain ⟨w', hr, hk⟩ := store_sound (by rw [hb]; exact hn) h
          unfold Oper.wp
          have : (execOp a.eval o).run P w = .ok .skip w' := by
            simp [execOp, hop, hA.ev hx, hA.ev hy, Instr.storeAt, Instr.sureAddr, hr]
          rw [this]
          exact hK _ _ hk
      · exact h.elim
    · exact h.elim
  case alloc t =>
    simp only at h
    split at h
    · rename_i z hz
      refine val (v := .pointer (some ⟨w.heap.size, 0, none⟩)) ?_ (h _ _ rfl rfl)
      simp [execOp, hop, Instr.alloc, run_zero hz, newVar, newRow]
    · exact h.elim
  case box t x =>
    simp only at h
    split at h
    · rename_i v hx
      refine val (v := .pointer (some ⟨w.heap.size, 0, none⟩)) ?_ (h _ _ rfl rfl)
      simp [execOp, hop, Instr.box, hA.ev hx, newVar, newRow]
    · exact h.elim
  case buildSlice t len parts =>
    simp only at h
    split at h
    · rename_i e ps ht hp
      split at h
      · rename_i n z hn hz
        cases hb : (Nat.ble (len * n) 16777216 && Nat.beq z.cells.toList.length n && !Nat.beq n 0) with
        | false => rw [hb] at h; exact h.elim
        | true =>
          rw [hb, cond_true] at h
          simp only [Bool.and_eq_true, Bool.not_eq_true'] at hb
          obtain ⟨⟨hb1, hb2⟩, hb3⟩ := hb
          have hb1 : len * n ≤ 16777216 := Nat.le_of_ble_eq_true hb1
          have hb2 := Nat.eq_of_beq_eq_true hb2
          have hb3 : n ≠ 0 := by rintro rfl; exact absurd hb3 (by decide)
          split at h
          · rename_i cs hcs
            refine val (v := .slice (some ⟨w.heap.size, 0, none⟩) len len) ?_ (h _ _ rfl rfl)
            have hps := map_parts hA hp
            have hsz : z.cells.size = n := by simpa using hb2
            have hmade := zeros_made z.cells len (by omega)
            rw [hsz] at hmade
            have hb1' : ¬ (len * n > 2 ^ 24) := by omega
            simp only [execOp, hop, Instr.buildSlice, hps, Sem.run_bind, run_underlying ht, Result.andThen_ok, run_size hn, if_neg hb1']
            by_cases hl : len * n = 0
            · have hl0 : len = 0 := by
                rcases Nat.mul_eq_zero.1 hl with h | h
                · exact h
                · exact absurd h hb3
              subst hl0
              simp only [zeros] at hcs
              rw [if_pos hl]
              have hm : ∀ z' : Array Value, (Array.range (0 * n)).map (fun i => z'[i % z'.size]!) = #[] := fun z' => by rw [hl]; simp
              simp only [Sem.run_bind, Sem.run_pure, Result.andThen_ok, hm, hcs]
              simp [newRow]
            · simp only [hl, if_false, Sem.run_bind, run_zero hz, Result.andThen_ok, Sem.run_pure, hsz, hmade, hcs]
              simp [newRow]
          · exact h.elim
      · exact h.elim
    · exact h.elim
  case makeSlice t l c =>
    simp only at h
    split at h
    · rename_i e k x k' y ht hl hc
      split at h
      · rename_i i hi
        split at h
        · rename_i z hz
          cases hb : (Nat.beq z.cells.toList.length i.size && !Nat.beq i.size 0 && !Nat.beq i.bytes 0) with
          | false => rw [hb] at h; exact h.elim
          | true =>
            rw [hb, cond_true] at h
            simp only [Bool.and_eq_true, Bool.not_eq_true'] at hb
            obtain ⟨⟨hb1, hb2⟩, hb3⟩ := hb
            have hb1 := Nat.eq_of_beq_eq_true hb1
            have hb2 : i.size ≠ 0 := by intro e0; rw [e0] at hb2; exact absurd hb2 (by decide)
            have hb3 : i.bytes ≠ 0 := by intro e0; rw [e0] at hb3; exact absurd hb3 (by decide)
            obtain ⟨w', hr, hk⟩ := makeSlice_sound (k := k) (k' := k') ht hi hz hb1 (by omega) (by omega) h
            refine val (v := .slice (some ⟨w.heap.size, 0, none⟩) x.toNat y.toNat) (w' := w') ?_ hk
            simp [execOp, hop, hA.ev hl, hA.ev hc, hr]
        · exact h.elim
      · exact h.elim
    · exact h.elim
  case slice t x lo hi mx =>
    simp only at h
    split at h
    · rename_i e A n c ht hx
      split at h
      · rename_i sz lo' hi' mx' hs h1 h2 h3
        obtain ⟨A', n', c', hr, hk⟩ := slice_sound (w := w) ht hs (evo_sound hA h1) (evo_sound hA h2) (evo_sound hA h3) h
        refine val (v := .slice A' n' c') (w' := w) ?_ hk
        simp only [execOp, hop, hA.ev hx, Sem.run_bind, hr, Result.andThen_ok, Sem.run_pure]
      · exact h.elim
    · rename_i n e ad ht hx
      split at h
      · rename_i sz lo' hi' mx' hs h1 h2 h3
        obtain ⟨A', n', c', hr, hk⟩ := arr_slice_sound (w := w) ht hs (evo_sound hA h1) (evo_sound hA h2) (evo_sound hA h3) h
        refine val (v := .slice A' n' c') (w' := w) ?_ hk
        simp only [execOp, hop, hA.ev hx, Sem.run_bind, hr, Result.andThen_ok, Sem.run_pure]
      · exact h.elim
    · rename_i s ht hx
      split at h
      · rename_i lo' hi' h1 h2
        obtain ⟨s', hr, hk⟩ := str_cut_sound ht (evo_sound hA h1) (evo_sound hA h2) h
        refine val (v := .string s') (w' := w) ?_ hk
        simp only [execOp, hop, hA.ev hx, Option.map_none, Sem.run_bind, hr, Result.andThen_ok, Sem.run_pure]
      · exact h.elim
    · exact h.elim
  case sliceToArrayPointer t x =>
    simp only at h
    split at h
    · rename_i n e A len c ht hx
      obtain ⟨hn, ad, rfl, hk⟩ := h
      refine val (v := .pointer (some ad)) (w' := w) ?_ hk
      simp only [execOp, hop, hA.ev hx, Instr.arrayAt, Sem.run_bind, run_underlying ht, Result.andThen_ok, Sem.run_pure]
      simp [show ¬ len < n by omega]
    · exact h.elim
  case indexAddr t x ix =>
    simp only at h
    split at h
    · rename_i e A n c k i ht hx hi
      split at h
      · rename_i sz hs
        obtain ⟨b, hr, hk⟩ := idx_slice_sound (w := w) (c := c) (k := k) ht hs h
        refine val (v := .pointer (some b)) (w' := w) ?_ hk
        simp only [execOp, hop, hA.ev hx, hA.ev hi, Sem.run_bind, hr, Result.andThen_ok, Sem.run_pure]
      · exact h.elim
    · rename_i len e ad k i ht hx hi
      split at h
      · rename_i sz hs
        obtain ⟨b, hr, hk⟩ := idx_array_sound (w := w) (k := k) ht hs h
        refine val (v := .pointer (some b)) (w' := w) ?_ hk
        simp only [execOp, hop, hA.ev hx, hA.ev hi, Sem.run_bind, hr, Result.andThen_ok, Sem.run_pure]
      · exact h.elim
    · exact h.elim
  case index t x ix =>
    simp only at h
    split at h
    · rename_i u k i hx hi
      obtain ⟨v, hr, hk⟩ := idx_val_sound (k := k) h
      refine val (v := v) (w' := w) ?_ hk
      simp only [execOp, hop, hA.ev hx, hA.ev hi, Sem.run_bind, hr, Result.andThen_ok, Sem.run_pure]
    · exact h.elim
  case nilCheck x =>
    simp only at h
    split at h
    · rename_i p hx
      obtain ⟨b, rfl, hk⟩ := h
      refine val (v := .pointer (some b)) (w' := w) ?_ hk
      simp [execOp, hop, hA.ev hx]
    · rename_i f u v hx
      refine val (v := .func (.func f) u v) (w' := w) ?_ h
      simp [execOp, hop, hA.ev hx]
    · exact h.elim
  case binOp op t x y t' =>
    simp only at h
    cases hsh : isSh op with
    | true =>
      rw [hsh, cond_true] at h
      split at h
      · rename_i k u k' n hx
        have := run_shift (P := P) (k := k) (yk := k') (x := u) (y := (Int.ofNat n)) hsh (Int.natCast_nonneg n) w t
        refine val (v := shWp op k u n) (w' := w) ?_ h
        simp only [execOp, hop, Act.eval]
        have hx' := hA.ev hx
        simp only [Act.eval] at hx'
        simp only [hx']
        rw [Sem.run_bind, Sem.run_bind, eqGuard_agree (by simp) (by simp), Result.andThen_ok, this]
        rfl
      · rename_i k u hx _
        split at h
        · rename_i k' b hy
          obtain ⟨h0, hk⟩ := h
          have := run_shift (P := P) (k := k) (yk := k') (x := u) hsh h0 w t
          refine val (v := shWp op k u b.toNat) (w' := w) ?_ hk
          simp only [execOp, hop, hA.ev hx, hA.ev hy]
          rw [Sem.run_bind, Sem.run_bind, eqGuard_agree (by simp) (by simp), Result.andThen_ok, this]
          rfl
        · exact h.elim
      · exact h.elim
    | false =>
      rw [hsh, cond_false] at h
      cases hdv : isDiv op with
      | true =>
        rw [hdv, cond_true] at h
        split at h
        · rename_i k u k' n hx
          split at h
          · rename_i hkk
            subst hkk
            have := run_div (P := P) (k := k) (x := u) (y := ((n + 1 : Nat) : Int)) hdv (by omega) w t
            refine val (v := divV op k u ((n + 1 : Nat) : Int)) (w' := w) ?_ h
            have hx' := hA.ev hx
            simp only [execOp, hop, hx']
            have he : a.eval (Operand.const (Value.int k (Int.ofNat (n + 1)))) = .int k ((n + 1 : Nat) : Int) := rfl
            rw [he, Sem.run_bind, Sem.run_bind, eqGuard_agree (by simp) (by simp), Result.andThen_ok, this]
            rfl
          · exact h.elim
        · rename_i k u hx _
          split at h
          · rename_i k' b hy
            split at h
            · rename_i hkk
              subst hkk
              obtain ⟨h0, hk⟩ := h
              have := run_div (P := P) (k := k) (x := u) hdv h0 w t
              refine val (v := divV op k u b) (w' := w) ?_ hk
              simp only [execOp, hop, hA.ev hx, hA.ev hy]
              rw [Sem.run_bind, Sem.run_bind, eqGuard_agree (by simp) (by simp), Result.andThen_ok, this]
              rfl
            · exact h.elim
          · exact h.elim
        · exact h.elim
      | false =>
        rw [hdv, cond_false] at h
        split at h
        · rename_i u v hx hy
          split at h
          · rename_i r hr
            refine val (v := r) (w' := w) ?_ h
            have := binV_sound (x := x) (y := y) hr w
            simp only [execOp, hop, hA.ev hx, hA.ev hy]
            rw [Sem.run_bind, this]
            rfl
          · exact h.elim
        · exact h.elim
  case convert s d x =>
    simp only at h
    split at h
    · rename_i e v hs hd hx
      split at h
      · rename_i he
        obtain ⟨str, hr, hk⟩ := h
        refine val (v := .string str) (w' := w) ?_ hk
        simp only [execOp, hop, hA.ev hx, convert, Sem.run_bind, run_underlying hs, run_underlying hd, Result.andThen_ok]
        cases v <;> simp only [Sem.run_bind, run_underlying he, Result.andThen_ok, hr, Sem.run_pure] <;> (simp [Conv.bytesToString] at hr)
      · exact h.elim
    · exact pureCase hop h
  case call c =>
    simp only at h
    split at h
    · rename_i s x hc hargs
      obtain ⟨A, n, c', w', hr, hk⟩ := h
      refine val (v := .slice A n c') (w' := w') ?_ hk
      simp only [execOp, hop, resolve, hc, Sem.run_bind, Sem.run_pure, Result.andThen_ok, invoke, builtin, map_eval hA hargs, hr]
    · rename_i s x hc hargs
      obtain ⟨n, w', hr, hk⟩ := h
      refine val (v := .int .i64 n) (w' := w') ?_ hk
      simp only [execOp, hop, resolve, hc, Sem.run_bind, Sem.run_pure, Result.andThen_ok, invoke, builtin, map_eval hA hargs, hr]
    · rename_i m k hc hargs
      obtain ⟨w', hr, hF⟩ := h
      refine val (v := .tuple #[]) (w' := w') ?_ hF
      simp only [execOp, hop, resolve, hc, Sem.run_bind, Sem.run_pure, Result.andThen_ok, invoke, builtin, map_eval hA hargs, hr]
    · rename_i m hc hargs
      obtain ⟨n, hr, hF⟩ := h
      refine val (v := .int .i64 n) (w' := w) ?_ hF
      simp only [execOp, hop, resolve, hc, Sem.run_bind, Sem.run_pure, Result.andThen_ok, invoke, builtin, map_eval hA hargs, hr]
    · rename_i y vs hc hargs
      split at h
      · rename_i f first cap z hy hz
        cases hb : F f with
        | false =>
          rw [hb, cond_false] at h
          split at h
          · rename_i e n he hl
            obtain ⟨h0, h1, h2⟩ := h
            obtain ⟨cs, hrun, hc0, hc1⟩ := noZero_run he n.toNat (by omega) w
            have hn : ((n.toNat : Nat) : Int) = n := Int.toNat_of_nonneg h0
            rw [hn] at hrun
            refine val (v := .slice (some ⟨w.heap.size, 0, none⟩) n.toNat cs.size) (w' := w.drew.drew.alloc (.cells cs e)) ?_ (h2 w.heap.size cs _ rfl (by omega) (hc1 (by simp only [maxLen]; omega)) rfl)
            have ha : first ++ vs.toArray ++ cap = #[.int .i64 n] := by
              have := congrArg List.toArray hl
              simpa using this
            simp only [execOp, hop, resolve, hc, hA.ev hy, Deferred.ofValue, Sem.run_bind, Sem.run_pure, Result.andThen_ok, invoke, map_eval hA hargs, ha, hrun]
          · exact h.elim
        | true =>
          rw [hb, cond_true] at h
          have hr : (execOp a.eval o).run P w = .ok (.enter f (first ++ vs.toArray ++ cap)) w := by
            simp only [execOp, hop, resolve, hc, hA.ev hy, Deferred.ofValue, Sem.run_bind, Sem.run_pure, Result.andThen_ok, invoke, map_eval hA hargs, run_callFunc (hF f hb)]
          unfold Oper.wp
          rw [hr]
          refine Calls.mono h ?_
          intro e w' he
          cases e with
          | returned v =>
            obtain ⟨u, rfl, hk⟩ := likeRes_some he
            exact hK _ _ hk
          | panicked ch => exact hQ _ _ he
          | outgrown => exact he.elim
      · exact h.elim
    · rename_i y name vs hc hargs
      split at h
      · rename_i t v z hy hz
        split at h
        · rename_i f hm
          cases hb : F f with
          | false => rw [hb, cond_false] at h; exact h.elim
          | true =>
            rw [hb, cond_true] at h
            have hr : (execOp a.eval o).run P w = .ok (.enter f (#[v] ++ vs.toArray)) w := by
              have hme := run_method hm (P.types.size + (Made.depth - 1)) v w
              have hex : (#[Value.iface t v] ++ vs.toArray).extract 1 (#[Value.iface t v] ++ vs.toArray).size = vs.toArray := by simp
              have hfi : (#[Value.iface t v] ++ vs.toArray)[0]? = some (.iface t v) := by simp
              simp only [execOp, hop, resolve, hc, hA.ev hy, Sem.run_bind, Sem.run_pure, Result.andThen_ok, invoke, map_eval hA hargs, hfi, hex, callMethod, run_program]
              rw [show P.types.size + Made.depth = P.types.size + (Made.depth - 1) + 1 from rfl, hme]
              simp only [Result.andThen_ok, run_callFunc (hF f hb)]
            unfold Oper.wp
            rw [hr]
            refine Calls.mono h ?_
            intro e w' he
            cases e with
            | returned v =>
              obtain ⟨u, rfl, hk⟩ := likeRes_some he
              exact hK _ _ hk
            | panicked ch => exact hQ _ _ he
            | outgrown => exact he.elim
        · exact h.elim
      · exact h.elim
    · exact pureCase hop h
  case makeMap t r =>
    simp only at h
    split at h
    · refine val (v := .map (some w.heap.size)) ?_ (h _ _ rfl rfl)
      simp [execOp, hop, Instr.makeMap]
    · exact h.elim
  case lookup t m x ok =>
    simp only at h
    split at h
    · rename_i kt e m' k' ht hm hk
      split at h
      · rename_i z hz
        cases ok with
        | true =>
          obtain ⟨v, b, hr, hF⟩ := like_some h
          refine val (v := .tuple #[v, .bool b]) ?_ hF
          simp only [execOp, hop, hA.ev hm, hA.ev hk, Sem.run_bind, hr, Result.andThen_ok, Sem.run_pure]
        | false =>
          obtain ⟨v, hr, hF⟩ := like_some h
          refine val (v := v) ?_ hF
          simp only [execOp, hop, hA.ev hm, hA.ev hk, Sem.run_bind, hr, Result.andThen_ok, Sem.run_pure]
      · exact h.elim
    · exact h.elim
  case mapUpdate t m k x =>
    simp only at h
    split at h
    · rename_i m' k' v' hm hk hx
      obtain ⟨w', hr, hF⟩ := h
      unfold Oper.wp
      have : (execOp a.eval o).run P w = .ok .skip w' := by
        simp only [execOp, hop, hA.ev hm, hA.ev hk, hA.ev hx, Sem.run_bind, hr, Result.andThen_ok, Sem.run_pure]
      rw [this]
      exact hK _ _ hF
    · exact h.elim
  case range t x =>
    simp only at h
    split at h
    · rename_i m hx
      obtain ⟨g, w', hr, hF⟩ := h
      refine val ?_ hF
      simp only [execOp, hop, hA.ev hx, Sem.run_bind, hr, Result.andThen_ok, Sem.run_pure]
    · exact h.elim
  case next it s =>
    simp only at h
    split at h
    · rename_i ad hx
      rcases h with ⟨w', hr, hF⟩ | ⟨k, v, w', hr, hF⟩
      · refine val ?_ hF
        simp only [execOp, hop, hA.ev hx, Sem.run_bind, hr, Result.andThen_ok, Sem.run_pure]
      · refine val ?_ hF
        simp only [execOp, hop, hA.ev hx, Sem.run_bind, hr, Result.andThen_ok, Sem.run_pure]
    · exact h.elim
  case entry it =>
    simp only at h
    split at h
    · rename_i ad hx
      obtain ⟨k, p, hr, hF⟩ := h
      refine val ?_ hF
      simp only [execOp, hop, hA.ev hx, Sem.run_bind, hr, Result.andThen_ok, Sem.run_pure]
    · exact h.elim
  case panic x =>
    simp only at h
    split at h
    · rename_i t v hx
      unfold Oper.wp
      have : (execOp a.eval o).run P w = .halt (.panic (.iface t v)) w := by
        simp [execOp, hop, hA.ev hx, Instr.panic]
      rw [this]
      exact hQ _ _ h
    · exact h.elim
  all_goals exact pureCase hop h
end ops
end Go.Eng
