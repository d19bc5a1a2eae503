/- The engine: a region whose order is open. One order serves: what only reads is taken first, in every world that meets a condition S; what acts comes up one at a time. It speaks of any program. -/
import Derived.Test.YthhgbpmihhljdaaGreatDoorBac
import Derived.OrdersHeld
namespace Go.Eng
open Go

def reach (ops : Array Oper) : Nat → Nat → Nat → Bool
  | 0, _, _ => false
  | n + 1, j, k => match ops[j]? with
    | some o => (o.after.toList.any fun e => Region.binds .any e && Nat.beq e.on k) || (o.after.toList.any fun e => Region.binds .any e && reach ops n e.on k)
    | none => false
def lastOp (ops : Array Oper) (j : Nat) : Bool := (List.range ops.size).all fun k => Nat.beq k j || reach ops ops.size j k

def steadyOp : Op → Bool
  | .store .. => false
  | .alloc .. => false
  | .box .. => false
  | .buildSlice .. => false
  | .makeSlice .. => false
  | .defer .. => false
  | .panic .. => false
  | .makeMap .. => false
  | .mapUpdate .. => false
  | .range .. => false
  | .next .. => false
  | .entry .. => false
  | .call c => match c.callee with
    | .builtin .len => true
    | .builtin .cap => true
    | _ => false
  | _ => true

def readsOp : Op → Bool
  | .load .. => true
  | .lookup .. => true
  | .convert .. => true
  | .call .. => true
  | _ => false
/-- Behind this one nothing is read any more. -/
def readsDone (ops : Array Oper) (j : Nat) : Bool :=
  (match ops[j]? with | some o => !steadyOp o.op | none => false) && (List.range ops.size).all fun k => Nat.beq k j || reach ops ops.size j k || (match ops[k]? with | some o => !readsOp o.op | none => true)
def lastS (soft : Bool) (ops : Array Oper) (j : Nat) : Bool := lastOp ops j || (soft && readsDone ops j)

/-- What an operation that only reads asks, in every world that meets S. -/
def steadyWp (P : Program) (E : Env) (S : World → Prop) (o : Oper) (K : Value → Prop) : Prop :=
  match o.op with
  | .load t x => match ev E x with
    | some (.pointer (some a)) => match aggT P t with
      | some true => match P.info? t with
        | some i => match i.zero with
          | some (.agg cs) => bif Nat.beq cs.toList.length i.size then likes1 cs.toList fun vs => (∀ w, S w → CellsAt w a 0 vs) ∧ K (.agg vs.toArray) else False
          | _ => False
        | none => False
      | some false => match zr P t with
        | some z => like1 z fun v => (∀ w, S w → w.cell? a = some v) ∧ K v
        | none => False
      | none => False
    | _ => False
  | .slice t x lo hi mx => match P.underlying t, ev E x with
    | some (.slice e), some (.slice A n c) => match szOf P e, evo E lo, evo E hi, evo E mx with
      | some sz, some lo, some hi, some mx => SliceVC A n c sz lo hi mx fun A n c => K (.slice A n c)
      | _, _, _, _ => False
    | some (.array n e), some (.pointer (some a)) => match szOf P e, evo E lo, evo E hi, evo E mx with
      | some sz, some lo, some hi, some mx => SliceVC (some a) n n sz lo hi mx fun A n c => K (.slice A n c)
      | _, _, _, _ => False
    | some .string, some (.string s) => match evo E lo, evo E hi, mx with
      | some lo, some hi, none => StrCutVC s lo hi fun s => K (.string s)
      | _, _, _ => False
    | _, _ => False
  | .indexAddr t x ix => match P.underlying t, ev E x, ev E ix with
    | some (.slice e), some (.slice A n _), some (.int _ i) => match szOf P e with
      | some sz => IdxVC A n sz i fun a => K (.pointer (some a))
      | none => False
    | some (.array len e), some (.pointer (some a)), some (.int _ i) => match szOf P e with
      | some sz => IdxVC (some a) len sz i fun a => K (.pointer (some a))
      | none => False
    | _, _, _ => False
  | .index t x ix => match ev E x, ev E ix with
    | some x, some (.int _ i) => idxWp P t x i K
    | _, _ => False
  | .sliceToArrayPointer t x => match P.underlying t, ev E x with
    | some (.array n _), some (.slice A m _) => n ≤ m ∧ NilVC A fun a => K (.pointer (some a))
    | _, _ => False
  | .nilCheck x => match ev E x with
    | some (.pointer p) => NilVC p fun a => K (.pointer (some a))
    | some (.func (.func f) a b) => K (.func (.func f) a b)
    | _ => False
  | .binOp op t x y _ =>
    bif isSh op then
      match ev E x, y with
      | some (.int k a), .const (.int _ (.ofNat n)) => K (shWp op k a n)
      | some (.int k a), y => match ev E y with
        | some (.int _ b) => ShVC b (K (shWp op k a b.toNat))
        | _ => False
      | _, _ => False
    else bif isDiv op then
      match ev E x, y with
      | some (.int k a), .const (.int k' (.ofNat (n + 1))) => if k = k' then K (divV op k a ((n + 1 : Nat) : Int)) else False
      | some (.int k a), y => match ev E y with
        | some (.int k' b) => if k = k' then DivVC b (K (divV op k a b)) else False
        | _ => False
      | _, _ => False
    else match ev E x, ev E y with
      | some x, some y => match binV P op t x y with
        | some v => K v
        | none => False
      | _, _ => False
  | .convert s d x => match P.underlying s, P.underlying d, ev E x with
    | some (.slice e), some .string, some v => match P.underlying e with
      | some (.int .u8) => ∃ str, (∀ w, S w → (Conv.bytesToString v).run P w = .ok (.string str) w) ∧ K (.string str)
      | _ => False
    | _, _, _ => match pureOp P E (.convert s d x) with
      | some v => K v
      | none => False
  | .lookup t m x ok => match P.underlying t, ev E m, ev E x with
    | some (.map _ e), some m, some k => match zr P e, ok with
      | some z, true => like z fun v => ∃ b : Bool, (∀ w, S w → (Instr.lookup t m k true).run P w = .ok (.tuple #[v, .bool b]) w) ∧ K (.tuple #[v, .bool b])
      | some z, false => like z fun v => (∀ w, S w → (Instr.lookup t m k false).run P w = .ok v w) ∧ K v
      | none, _ => False
    | _, _, _ => False
  | .call c => match c.callee, evs E c.args.toList with
    | .builtin .len, some [.map m] => ∃ n : Int, (∀ w, S w → (Builtin.len_ c.argTypes o.type #[.map m]).run P w = .ok (.int .i64 n) w) ∧ K (.int .i64 n)
    | _, _ => match pureOp P E (.call c) with
      | some v => K v
      | none => False
  | op => match pureOp P E op with
    | some v => K v
    | none => False

def pickSteady (ops : Array Oper) (listed : Array Bool) : List Nat → Option Nat
  | [] => none
  | i :: r => match ops[i]? with
    | some o => bif steadyOp o.op && Region.free .any ops listed i then some i else pickSteady ops listed r
    | none => pickSteady ops listed r

/-- An operation under its guard: 'act' is asked in the frame in which the guard is known, or it is skipped. -/
def guarded (N : Nat) (ops : Array Oper) (o : Oper) (E : Env) (act : Env → Prop) (skip : Env → Prop) : Prop :=
  bif putOk N o.dst then
    match o.guard with
    | none => act E
    | some (j, want) => match (ops[j]?).bind (·.dst) with
      | some d => match get d E with
        | some (.bool b) => Br b
          (bif want then act (put (some d) (some (.bool true)) E) else skip (put o.dst (some undef) (put (some d) (some (.bool true)) E)))
          (bif want then skip (put o.dst (some undef) (put (some d) (some (.bool false)) E)) else act (put (some d) (some (.bool false)) E))
        | some (.tuple _) => skip (put o.dst (some undef) E)
        | _ => False
      | none => False
  else False

def allR (f : Nat → Prop) : List Nat → Prop
  | [] => True
  | i :: [] => f i
  | i :: (j :: r) => f i ∧ allR f (j :: r)

def drawWp (P : Program) (F : Nat → Bool) (soft : Bool) (N : Nat) (ops : Array Oper) (S : World → Prop) (K : Env → World → Prop) : Nat → Array Bool → Env → World → Prop
  | 0, listed, E, w => match Region.ready .any ops listed with
    | [] => K E w
    | _ :: _ => False
  | fuel + 1, listed, E, w =>
    match Region.ready .any ops listed with
    | [] => K E w
    | r0 :: rs => match pickSteady ops listed (r0 :: rs) with
      | some i => match ops[i]? with
        | some o => guarded N ops o E (fun E1 => steadyWp P E1 S o fun v => drawWp P F soft N ops S K fuel (listed.setIfInBounds i true) (put o.dst (some v) E1) w)
            (fun E1 => drawWp P F soft N ops S K fuel (listed.setIfInBounds i true) E1 w)
        | none => False
      | none => allR (fun i => match ops[i]? with
        | some o => guarded N ops o E
            (fun E1 => opWp P F E1 o w (fun v w' => bif lastS soft ops i then drawWp P F soft N ops S K fuel (listed.setIfInBounds i true) (put o.dst (some v) E1) w'
              else S w' ∧ drawWp P F soft N ops S K fuel (listed.setIfInBounds i true) (put o.dst (some v) E1) w') fun _ _ => False)
            (fun E1 => drawWp P F soft N ops S K fuel (listed.setIfInBounds i true) E1 w)
        | none => False) (r0 :: rs)

/-! ### Soundness -/
section
variable {P : Program} {F : Nat → Bool} {soft : Bool} {N : Nat} {ops : Array Oper} {S : World → Prop} {Q : Exit → Act → World → Prop}

/-- Behind some operation that came up nothing is read any more. -/
def LastIn (soft : Bool) (ops : Array Oper) (listed : Array Bool) : Prop := ∃ m, lastS soft ops m = true ∧ listed.getD m false = true
def wpAnyD (P : Program) (soft : Bool) (ops : Array Oper) (Q : Exit → Act → World → Prop) (S : World → Prop) : Nat → Array Bool → Act → World → Prop
  | 0, listed, a, w => Region.ready .any ops listed = [] ∧ Q .normal a w
  | fuel + 1, listed, a, w =>
    (Region.ready .any ops listed = [] → Q .normal a w) ∧
    ∀ i ∈ Region.ready .any ops listed, wpOp P ops Q i (fun a' w' => (LastIn soft ops (listed.setIfInBounds i true) ∨ S w') ∧ wpAnyD P soft ops Q S fuel (listed.setIfInBounds i true) a' w') a w
theorem wpAny_of_D : ∀ (fuel : Nat) (listed : Array Bool) (a : Act) (w : World), wpAnyD P soft ops Q S fuel listed a w → wpAny P .any ops Q fuel listed a w
  | 0, _, _, _, h => h
  | fuel + 1, _, _, _, h => ⟨h.1, fun i hi => wpOp_mono (fun _ _ h' => wpAny_of_D fuel _ _ _ h'.2) (h.2 i hi)⟩

/-- What is listed, its predecessors are. -/
def Closed (ops : Array Oper) (listed : Array Bool) : Prop :=
  ∀ j o, ops[j]? = some o → listed.getD j false = true → ∀ e ∈ o.after, Region.binds .any e = true → listed.getD e.on false = true
theorem Closed.set {listed : Array Bool} {i : Nat} (hc : Closed ops listed) (hi : i ∈ Region.ready .any ops listed) : Closed ops (listed.setIfInBounds i true) := by
  obtain ⟨_, oi, hoi, hall⟩ := mem_ready.1 hi
  intro j o hj hl e he hb
  by_cases hij : i = j
  · subst hij
    have : o = oi := Option.some.inj (hj.symm.trans hoi)
    subst this
    exact getD_set_true (hall e he hb)
  · rw [getD_set_ne false hij] at hl
    exact getD_set_true (hc j o hj hl e he hb)
theorem reach_listed {listed : Array Bool} (hc : Closed ops listed) : ∀ (n j k : Nat), reach ops n j k = true → (∀ o, ops[j]? = some o → ∀ e ∈ o.after, Region.binds .any e = true → listed.getD e.on false = true) → listed.getD k false = true
  | 0, _, _, h, _ => by cases h
  | n + 1, j, k, h, hall => by
    unfold reach at h
    split at h
    · rename_i o ho
      rw [Bool.or_eq_true] at h
      rcases h with h | h
      · obtain ⟨e, he, hb⟩ := List.any_eq_true.1 h
        rw [Bool.and_eq_true] at hb
        have := hall o ho e (by simpa using he) hb.1
        rw [Nat.eq_of_beq_eq_true hb.2] at this
        exact this
      · obtain ⟨e, he, hb⟩ := List.any_eq_true.1 h
        rw [Bool.and_eq_true] at hb
        have he' : e ∈ o.after := by simpa using he
        refine reach_listed hc n e.on k hb.2 fun o' ho' e' he'' hb' => ?_
        exact hc e.on o' ho' (hall o ho e he' hb.1) e' he'' hb'
    · cases h
/-- The last operation comes up when all others have. -/
theorem last_listed {listed : Array Bool} {j k : Nat} (hc : Closed ops listed) (hl : lastOp ops j = true) (hj : ∀ o, ops[j]? = some o → ∀ e ∈ o.after, Region.binds .any e = true → listed.getD e.on false = true) (hk : k < ops.size) (hne : k ≠ j) : listed.getD k false = true := by
  have h := List.all_eq_true.1 hl k (List.mem_range.2 hk)
  rw [Bool.or_eq_true] at h
  rcases h with h | h
  · exact absurd (Nat.eq_of_beq_eq_true h) hne
  · exact reach_listed hc _ j k h hj
theorem reads_listed {listed : Array Bool} {j k : Nat} {ok : Oper} (hc : Closed ops listed) (hl : readsDone ops j = true) (hj : ∀ o, ops[j]? = some o → ∀ e ∈ o.after, Region.binds .any e = true → listed.getD e.on false = true) (hk : ops[k]? = some ok) (hs : readsOp ok.op = true) (hne : k ≠ j) : listed.getD k false = true := by
  unfold readsDone at hl
  rw [Bool.and_eq_true] at hl
  have hlt : k < ops.size := (Array.getElem?_eq_some_iff.1 hk).1
  have h := List.all_eq_true.1 hl.2 k (List.mem_range.2 hlt)
  rw [hk] at h
  simp only [hs, Bool.not_true, Bool.or_false, Bool.or_eq_true] at h
  rcases h with h | h
  · exact absurd (Nat.eq_of_beq_eq_true h) hne
  · exact reach_listed hc _ j k h hj
theorem ready_after {listed : Array Bool} {j : Nat} (hj : j ∈ Region.ready .any ops listed) : ∀ o, ops[j]? = some o → ∀ e ∈ o.after, Region.binds .any e = true → listed.getD e.on false = true := by
  obtain ⟨_, o, ho, hall⟩ := mem_ready.1 hj
  intro o' ho' e he hb
  have : o' = o := Option.some.inj (ho'.symm.trans ho)
  subst this
  exact hall e he hb
/-- What reads and is still to come has nothing last ahead of it. -/
theorem not_last {listed : Array Bool} {i j : Nat} {oi : Oper} (hc : Closed ops listed) (hi : ops[i]? = some oi) (hst : steadyOp oi.op = true) (hr : i ∈ Region.ready .any ops listed) (hun : listed.getD i false = false)
    (hj : j ∈ Region.ready .any ops listed) (hunj : listed.getD j false = false) (hji : j ≠ i) (h : LastIn soft ops ((listed.setIfInBounds i true).setIfInBounds j true)) : readsOp oi.op = false ∧ LastIn soft ops (listed.setIfInBounds j true) := by
  obtain ⟨m, hl0, hm⟩ := h
  have hl := hl0
  have hilt : i < ops.size := (Array.getElem?_eq_some_iff.1 hi).1
  obtain ⟨_, oj, hoj, _⟩ := mem_ready.1 hj
  have hjlt : j < ops.size := (Array.getElem?_eq_some_iff.1 hoj).1
  unfold lastS at hl
  rw [Bool.or_eq_true, Bool.and_eq_true] at hl
  by_cases hmi : m = i
  · subst hmi
    rcases hl with hl | ⟨_, hl⟩
    · have := last_listed hc hl (ready_after hr) hjlt hji
      rw [hunj] at this; cases this
    · unfold readsDone at hl
      rw [hi] at hl
      simp [hst] at hl
  · have hm2 : (listed.setIfInBounds j true).getD m false = true := by
      rw [Array.setIfInBounds_comm _ _ (fun e => hji e.symm), getD_set_ne false (fun e => hmi e.symm)] at hm
      exact hm
    have hmj : ∀ o, ops[m]? = some o → ∀ e ∈ o.after, Region.binds .any e = true → listed.getD e.on false = true := by
      by_cases hmj : m = j
      · subst hmj; exact ready_after hj
      · have hml : listed.getD m false = true := by
          rw [getD_set_ne false (fun e => hmj e.symm)] at hm2
          exact hm2
        intro o ho e he hb
        exact hc m o ho hml e he hb
    rcases hl with hl | ⟨_, hl⟩
    · have := last_listed hc hl hmj hilt (fun e => hmi e.symm)
      rw [hun] at this; cases this
    · refine ⟨?_, m, hl0, hm2⟩
      cases hrd : readsOp oi.op with
      | false => rfl
      | true =>
        have := reads_listed hc hl hmj hi hrd (fun e => hmi e.symm)
        rw [hun] at this; cases this
theorem not_last' {listed : Array Bool} {i : Nat} {oi : Oper} (hc : Closed ops listed) (hi : ops[i]? = some oi) (hst : readsOp oi.op = true) (hun : listed.getD i false = false) : ¬ LastIn soft ops listed := by
  rintro ⟨m, hl, hm⟩
  have hilt : i < ops.size := (Array.getElem?_eq_some_iff.1 hi).1
  have hmi : m ≠ i := fun e => by rw [e, hun] at hm; cases hm
  have hmj : ∀ o, ops[m]? = some o → ∀ e ∈ o.after, Region.binds .any e = true → listed.getD e.on false = true := fun o ho e he hb => hc m o ho hm e he hb
  unfold lastS at hl
  rw [Bool.or_eq_true, Bool.and_eq_true] at hl
  rcases hl with hl | ⟨_, hl⟩
  · have := last_listed hc hl hmj hilt (fun e => hmi e.symm)
    rw [hun] at this; cases this
  · have := reads_listed hc hl hmj hi hst (fun e => hmi e.symm)
    rw [hun] at this; cases this

theorem getD_both' {listed : Array Bool} {i : Nat} (h : listed.getD i true = false) : listed.getD i false = false := by
  rcases Nat.lt_or_ge i listed.size with h' | h'
  · simp [h'] at h ⊢; exact h
  · simp [Array.getElem?_eq_none h'] at h

theorem wpAnyD_first {i : Nat} {oi : Oper} {v : Value} (hi : ops[i]? = some oi) (hst : steadyOp oi.op = true) {S0 : World → Prop} (hS0 : (∀ w, S w → S0 w) ∧ (readsOp oi.op = true ∨ ∀ w, S0 w)) (hsel : ∀ (j : Nat) (o : Oper) cs b, ops[j]? = some o → o.op ≠ .select cs b)
    (hQ : ∀ c a w, Q (.panic c) (a.put oi.dst v) w → Q (.panic c) a w) :
    ∀ (fuel : Nat) (listed : Array Bool) (a : Act) (w : World), Closed ops listed →
      (∀ j oj, ops[j]? = some oj → j ≠ i → listed.getD j true = false → (∀ e ∈ oj.after, Region.binds .any e = true → e.on ≠ i) → oi.apart ops oj = true) →
      i ∈ Region.ready .any ops listed → YieldsIf P ops S0 oi v a → S0 w → (S w ∨ LastIn soft ops (listed.setIfInBounds i true)) →
      wpAnyD P soft ops Q S fuel (listed.setIfInBounds i true) (a.put oi.dst v) w → wpAnyD P soft ops Q S (fuel + 1) listed a w := by
  intro fuel
  induction fuel with
  | zero =>
    intro listed a w _ hfree hr hy hS hSL H
    refine ⟨fun h => (by rw [h] at hr; cases hr), fun j hj => ?_⟩
    by_cases hji : j = i
    · subst hji; exact hy.wpOp hi hS ⟨hSL.symm, H⟩
    · have := ready_mono hj hji
      rw [H.1] at this
      cases this
  | succ fuel ih =>
    intro listed a w hc hfree hr hy hS hSL H
    refine ⟨fun h => (by rw [h] at hr; cases hr), fun j hj => ?_⟩
    by_cases hji : j = i
    · subst hji; exact hy.wpOp hi hS ⟨hSL.symm, H⟩
    · have h1 := H.2 j (ready_mono hj hji)
      obtain ⟨hjun, oj, hoj, hall⟩ := mem_ready.1 hj
      have hiun := (mem_ready.1 hr).1
      have hnl := not_last (soft := soft) hc hi hst hr (getD_both' hiun) hj (getD_both' hjun) hji
      have hnot : ∀ e ∈ oj.after, Region.binds .any e = true → e.on ≠ i := fun e he hb heq => by
        have h1 := hall e he hb
        rw [heq, getD_both' hiun] at h1
        cases h1
      have h2 := wpOp_putIf hoj (hfree j oj hoj hji hjun hnot) (fun cs b => hsel i oi cs b hi) (fun cs b => hsel j oj cs b hoj) hQ hy h1
      have hfree' : ∀ k ok, ops[k]? = some ok → k ≠ i → (listed.setIfInBounds j true).getD k true = false →
          (∀ e ∈ ok.after, Region.binds .any e = true → e.on ≠ i) → oi.apart ops ok = true := fun k ok hk hki hun hno => by
        refine hfree k ok hk hki ?_ hno
        by_cases hjk : j = k
        · subst hjk; exact hjun
        · rw [getD_set_ne true hjk] at hun; exact hun
      refine wpOp_mono (fun a' w' h3 => ?_) h2
      have hS' : S0 w' := by
        rcases hS0.2 with hrd | hall'
        · exact hS0.1 w' (h3.2.1.resolve_left fun hL => by rw [(hnl hL).1] at hrd; cases hrd)
        · exact hall' w'
      have hSL' : S w' ∨ LastIn soft ops (listed.setIfInBounds j true) := h3.2.1.symm.imp_right fun hL => (hnl hL).2
      have hSL2 : S w' ∨ LastIn soft ops ((listed.setIfInBounds j true).setIfInBounds i true) := by
        rw [← Array.setIfInBounds_comm _ _ (fun e => hji e.symm)]
        exact h3.2.1.symm
      refine ⟨hSL'.symm, ih (listed.setIfInBounds j true) a' w' (hc.set hj) hfree' (ready_mono hr (Ne.symm hji)) h3.1 hS' hSL2 ?_⟩
      rw [Array.setIfInBounds_comm _ _ hji]
      exact h3.2.2

theorem steady_sound {E : Env} {D : List Deferred} {a : Act} {o : Oper} {K : Value → Prop} (hA : Agrees N E D a) (h : steadyWp P E S o K) :
    ∃ v, (∀ w, S w → (execOp a.eval o).run P w = .ok (.value v) w) ∧ K v := by
  have pureCase : ∀ {op}, o.op = op → (match pureOp P E op with | some v => K v | none => False) → ∃ v, (∀ w, S w → (execOp a.eval o).run P w = .ok (.value v) w) ∧ K v := by
    intro op hop hh
    split at hh
    · rename_i v hv
      exact ⟨v, fun w _ => pure_sound hA (by rw [hop]; exact hv) w, hh⟩
    · exact hh.elim
  unfold steadyWp at h
  cases hop : o.op <;> rw [hop] at h
  case load t x =>
    simp only at h
    split at h
    · rename_i ad hx
      split at h
      · rename_i h1
        split at h
        · rename_i i hi
          split at h
          · rename_i cs hz
            cases hb : Nat.beq cs.toList.length i.size with
            | false => rw [hb] at h; exact h.elim
            | true =>
              rw [hb, cond_true] at h
              obtain ⟨vs, hl, hc, hk⟩ := likes1_some h
              refine ⟨_, fun w hw => ?_, hk⟩
              have hb := Nat.eq_of_beq_eq_true hb
              have hr := run_loadVar_agg (P := P) h1 (by simp [szOf, hi, hl, hb]) (hc w hw)
              simp [execOp, hop, hA.ev hx, Instr.loadAt, Instr.sureAddr, hr]
          · exact h.elim
        · exact h.elim
      · rename_i h1
        split at h
        · obtain ⟨v, hc, hk⟩ := like1_some h
          refine ⟨v, fun w hw => ?_, hk⟩
          simp [execOp, hop, hA.ev hx, Instr.loadAt, Instr.sureAddr, run_loadVar_one h1 (hc w hw)]
        · exact h.elim
      · exact h.elim
    · exact h.elim
  case slice t x lo hi mx =>
    simp only at h
    split at h
    · rename_i e A n c ht hx
      split at h
      · rename_i sz lo' hi' mx' hs h1 h2 h3
        have key : ∀ w, ∃ A' n' c', (Instr.sliceAt t (.slice A n c) (lo.map a.eval) (hi.map a.eval) (mx.map a.eval)).run P w = .ok (.slice A' n' c') w ∧
            (K (.slice A' n' c') ∧ ∀ w', (Instr.sliceAt t (.slice A n c) (lo.map a.eval) (hi.map a.eval) (mx.map a.eval)).run P w' = .ok (.slice A' n' c') w') := by
          intro w
          refine slice_sound (w := w) (F := fun A' n' c' => K (.slice A' n' c') ∧ ∀ w', (Instr.sliceAt t (.slice A n c) (lo.map a.eval) (hi.map a.eval) (mx.map a.eval)).run P w' = .ok (.slice A' n' c') w')
            ht hs (evo_sound hA h1) (evo_sound hA h2) (evo_sound hA h3) ?_
          have hall : ∀ {A' n' c'}, SliceVC A n c sz lo' hi' mx' (fun A2 n2 c2 => A2 = A' ∧ n2 = n' ∧ c2 = c') → ∀ w', (Instr.sliceAt t (.slice A n c) (lo.map a.eval) (hi.map a.eval) (mx.map a.eval)).run P w' = .ok (.slice A' n' c') w' := by
            intro A' n' c' hv w'
            obtain ⟨_, _, _, hr, rfl, rfl, rfl⟩ := slice_sound (w := w') ht hs (evo_sound hA h1) (evo_sound hA h2) (evo_sound hA h3) hv
            exact hr
          cases lo' <;> cases hi' <;> cases mx' <;> simp only [SliceVC] at h hall ⊢
          · exact ⟨h, hall ⟨rfl, rfl, rfl⟩⟩
          · exact ⟨h.1, h.2.1, h.2.2, hall ⟨h.1, h.2.1, rfl, rfl, rfl⟩⟩
          · exact ⟨h.1, h.2.1, h.2.2.1, h.2.2.2, hall ⟨h.1, h.2.1, h.2.2.1, rfl, rfl, rfl⟩⟩
          · exact ⟨h.1, h.2.1, h.2.2, hall ⟨h.1, h.2.1, rfl, rfl, rfl⟩⟩
          · exact ⟨h.1, h.2.1, h.2.2.1, h.2.2.2, hall ⟨h.1, h.2.1, h.2.2.1, rfl, rfl, rfl⟩⟩
          · exact ⟨h.1, h.2.1, h.2.2.1, h.2.2.2.1, h.2.2.2.2, hall ⟨h.1, h.2.1, h.2.2.1, h.2.2.2.1, rfl, rfl, rfl⟩⟩
        obtain ⟨A', n', c', _, hk, hr⟩ := key default
        refine ⟨.slice A' n' c', fun w _ => ?_, hk⟩
        simp only [execOp, hop, hA.ev hx, Sem.run_bind, hr, Result.andThen_ok, Sem.run_pure]
      · exact h.elim
    · rename_i n e ad ht hx
      split at h
      · rename_i sz lo' hi' mx' hs h1 h2 h3
        have key : ∀ w, ∃ A' n' c', (Instr.sliceAt t (.pointer (some ad)) (lo.map a.eval) (hi.map a.eval) (mx.map a.eval)).run P w = .ok (.slice A' n' c') w ∧
            (K (.slice A' n' c') ∧ ∀ w', (Instr.sliceAt t (.pointer (some ad)) (lo.map a.eval) (hi.map a.eval) (mx.map a.eval)).run P w' = .ok (.slice A' n' c') w') := by
          intro w
          refine arr_slice_sound (w := w) (F := fun A' n' c' => K (.slice A' n' c') ∧ ∀ w', (Instr.sliceAt t (.pointer (some ad)) (lo.map a.eval) (hi.map a.eval) (mx.map a.eval)).run P w' = .ok (.slice A' n' c') w')
            ht hs (evo_sound hA h1) (evo_sound hA h2) (evo_sound hA h3) ?_
          have hall : ∀ {A' n' c'}, SliceVC (some ad) n n sz lo' hi' mx' (fun A2 n2 c2 => A2 = A' ∧ n2 = n' ∧ c2 = c') → ∀ w', (Instr.sliceAt t (.pointer (some ad)) (lo.map a.eval) (hi.map a.eval) (mx.map a.eval)).run P w' = .ok (.slice A' n' c') w' := by
            intro A' n' c' hv w'
            obtain ⟨_, _, _, hr, rfl, rfl, rfl⟩ := arr_slice_sound (w := w') ht hs (evo_sound hA h1) (evo_sound hA h2) (evo_sound hA h3) hv
            exact hr
          cases lo' <;> cases hi' <;> cases mx' <;> simp only [SliceVC] at h hall ⊢
          · exact ⟨h, hall ⟨rfl, rfl, rfl⟩⟩
          · exact ⟨h.1, h.2.1, h.2.2, hall ⟨h.1, h.2.1, rfl, rfl, rfl⟩⟩
          · exact ⟨h.1, h.2.1, h.2.2.1, h.2.2.2, hall ⟨h.1, h.2.1, h.2.2.1, rfl, rfl, rfl⟩⟩
          · exact ⟨h.1, h.2.1, h.2.2, hall ⟨h.1, h.2.1, rfl, rfl, rfl⟩⟩
          · exact ⟨h.1, h.2.1, h.2.2.1, h.2.2.2, hall ⟨h.1, h.2.1, h.2.2.1, rfl, rfl, rfl⟩⟩
          · exact ⟨h.1, h.2.1, h.2.2.1, h.2.2.2.1, h.2.2.2.2, hall ⟨h.1, h.2.1, h.2.2.1, h.2.2.2.1, rfl, rfl, rfl⟩⟩
        obtain ⟨A', n', c', _, hk, hr⟩ := key default
        refine ⟨.slice A' n' c', fun w _ => ?_, hk⟩
        simp only [execOp, hop, hA.ev hx, Sem.run_bind, hr, Result.andThen_ok, Sem.run_pure]
      · exact h.elim
    · rename_i s ht hx
      split at h
      · rename_i lo' hi' h1 h2
        obtain ⟨s', hr, hk⟩ := str_cut_sound ht (evo_sound hA h1) (evo_sound hA h2) h
        refine ⟨.string s', fun w _ => ?_, hk⟩
        simp only [execOp, hop, hA.ev hx, Option.map_none, Sem.run_bind, hr, Result.andThen_ok, Sem.run_pure]
      · exact h.elim
    · exact h.elim
  case indexAddr t x ix =>
    simp only at h
    split at h
    · rename_i e A n c k i ht hx hi
      split at h
      · rename_i sz hs
        obtain ⟨b, rfl, h0, h1, hk⟩ := h
        refine ⟨.pointer (some (b.add (i.toNat * sz))), fun w _ => ?_, hk⟩
        obtain ⟨b', hr, rfl⟩ := idx_slice_sound (w := w) (c := c) (k := k) (F := fun b' => b' = b.add (i.toNat * sz)) ht hs ⟨b, rfl, h0, h1, rfl⟩
        simp only [execOp, hop, hA.ev hx, hA.ev hi, Sem.run_bind, hr, Result.andThen_ok, Sem.run_pure]
      · exact h.elim
    · rename_i len e ad k i ht hx hi
      split at h
      · rename_i sz hs
        obtain ⟨b, hb, h0, h1, hk⟩ := h
        refine ⟨.pointer (some (b.add (i.toNat * sz))), fun w _ => ?_, hk⟩
        obtain ⟨b', hr, rfl⟩ := idx_array_sound (w := w) (k := k) (F := fun b' => b' = b.add (i.toNat * sz)) ht hs ⟨b, hb, h0, h1, rfl⟩
        simp only [execOp, hop, hA.ev hx, hA.ev hi, Sem.run_bind, hr, Result.andThen_ok, Sem.run_pure]
      · exact h.elim
    · exact h.elim
  case index t x ix =>
    simp only at h
    split at h
    · rename_i u k i hx hi
      obtain ⟨v, hr, hk⟩ := idx_val_sound (k := k) h
      refine ⟨v, fun w _ => ?_, hk⟩
      simp only [execOp, hop, hA.ev hx, hA.ev hi, Sem.run_bind, hr, Result.andThen_ok, Sem.run_pure]
    · exact h.elim
  case sliceToArrayPointer t x =>
    simp only at h
    split at h
    · rename_i n e A len c ht hx
      obtain ⟨hn, ad, rfl, hk⟩ := h
      refine ⟨.pointer (some ad), fun w _ => ?_, hk⟩
      simp only [execOp, hop, hA.ev hx, Instr.arrayAt, Sem.run_bind, run_underlying ht, Result.andThen_ok, Sem.run_pure]
      simp [show ¬ len < n by omega]
    · exact h.elim
  case nilCheck x =>
    simp only at h
    split at h
    · rename_i p hx
      obtain ⟨b, rfl, hk⟩ := h
      exact ⟨.pointer (some b), fun w _ => by simp [execOp, hop, hA.ev hx], hk⟩
    · rename_i f u v hx
      exact ⟨.func (.func f) u v, fun w _ => by simp [execOp, hop, hA.ev hx], h⟩
    · exact h.elim
  case binOp op t x y t' =>
    simp only at h
    cases hsh : isSh op with
    | true =>
      rw [hsh, cond_true] at h
      split at h
      · rename_i k u k' n hx
        refine ⟨shWp op k u n, fun w _ => ?_, h⟩
        have := run_shift (P := P) (k := k) (yk := k') (x := u) (y := (Int.ofNat n)) hsh (Int.natCast_nonneg n) w t
        simp only [execOp, hop, Act.eval]
        have hx' := hA.ev hx
        simp only [Act.eval] at hx'
        simp only [hx']
        rw [Sem.run_bind, Sem.run_bind, eqGuard_agree (by simp) (by simp), Result.andThen_ok, this]
        rfl
      · rename_i k u hx _
        split at h
        · rename_i k' b hy
          obtain ⟨h0, hk⟩ := h
          refine ⟨shWp op k u b.toNat, fun w _ => ?_, hk⟩
          have := run_shift (P := P) (k := k) (yk := k') (x := u) hsh h0 w t
          simp only [execOp, hop, hA.ev hx, hA.ev hy]
          rw [Sem.run_bind, Sem.run_bind, eqGuard_agree (by simp) (by simp), Result.andThen_ok, this]
          rfl
        · exact h.elim
      · exact h.elim
    | false =>
      rw [hsh, cond_false] at h
      cases hdv : isDiv op with
      | true =>
        rw [hdv, cond_true] at h
        split at h
        · rename_i k u k' n hx
          split at h
          · rename_i hkk
            subst hkk
            refine ⟨divV op k u ((n + 1 : Nat) : Int), fun w _ => ?_, h⟩
            have := run_div (P := P) (k := k) (x := u) (y := ((n + 1 : Nat) : Int)) hdv (by omega) w t
            have hx' := hA.ev hx
            simp only [execOp, hop, hx']
            have he : a.eval (Operand.const (Value.int k (Int.ofNat (n + 1)))) = .int k ((n + 1 : Nat) : Int) := rfl
            rw [he, Sem.run_bind, Sem.run_bind, eqGuard_agree (by simp) (by simp), Result.andThen_ok, this]
            rfl
          · exact h.elim
        · rename_i k u hx _
          split at h
          · rename_i k' b hy
            split at h
            · rename_i hkk
              subst hkk
              obtain ⟨h0, hk⟩ := h
              refine ⟨divV op k u b, fun w _ => ?_, hk⟩
              have := run_div (P := P) (k := k) (x := u) hdv h0 w t
              simp only [execOp, hop, hA.ev hx, hA.ev hy]
              rw [Sem.run_bind, Sem.run_bind, eqGuard_agree (by simp) (by simp), Result.andThen_ok, this]
              rfl
            · exact h.elim
          · exact h.elim
        · exact h.elim
      | false =>
        rw [hdv, cond_false] at h
        split at h
        · rename_i u v hx hy
          split at h
          · rename_i r hr
            refine ⟨r, fun w _ => ?_, h⟩
            have := binV_sound (x := x) (y := y) hr w
            simp only [execOp, hop, hA.ev hx, hA.ev hy]
            rw [Sem.run_bind, this]
            rfl
          · exact h.elim
        · exact h.elim
  case convert s d x =>
    simp only at h
    split at h
    · rename_i e v hs hd hx
      split at h
      · rename_i he
        obtain ⟨str, hr, hk⟩ := h
        refine ⟨.string str, fun w hw => ?_, hk⟩
        have hr := hr w hw
        simp only [execOp, hop, hA.ev hx, convert, Sem.run_bind, run_underlying hs, run_underlying hd, Result.andThen_ok]
        cases v <;> simp only [Sem.run_bind, run_underlying he, Result.andThen_ok, hr, Sem.run_pure] <;> (simp [Conv.bytesToString] at hr)
      · exact h.elim
    · exact pureCase hop h
  case lookup t m x ok =>
    simp only at h
    split at h
    · rename_i kt e m' k' ht hm hk
      split at h
      · rename_i z hz
        obtain ⟨v, b, hr, hF⟩ := like_some h
        refine ⟨.tuple #[v, .bool b], fun w hw => ?_, hF⟩
        simp only [execOp, hop, hA.ev hm, hA.ev hk, Sem.run_bind, hr w hw, Result.andThen_ok, Sem.run_pure]
      · rename_i z hz
        obtain ⟨v, hr, hF⟩ := like_some h
        refine ⟨v, fun w hw => ?_, hF⟩
        simp only [execOp, hop, hA.ev hm, hA.ev hk, Sem.run_bind, hr w hw, Result.andThen_ok, Sem.run_pure]
      · exact h.elim
    · exact h.elim
  case call c =>
    simp only at h
    split at h
    · rename_i m hc hargs
      obtain ⟨n, hr, hF⟩ := h
      refine ⟨.int .i64 n, fun w hw => ?_, hF⟩
      simp only [execOp, hop, resolve, hc, Sem.run_bind, Sem.run_pure, Result.andThen_ok, invoke, builtin, map_eval hA hargs, hr w hw]
    · exact pureCase hop h
  all_goals exact pureCase hop h

/-- What reads nothing asks nothing of the world. -/
theorem steady_pure {E : Env} {o : Oper} {K : Value → Prop} (hr : readsOp o.op = false) (h : steadyWp P E S o K) : steadyWp P E (fun _ => True) o K := by
  unfold steadyWp at h ⊢
  cases hop : o.op <;> rw [hop] at h hr <;> first
    | (simp [readsOp] at hr; done)
    | exact h
theorem pickSteady_spec {listed : Array Bool} {i : Nat} : ∀ {l : List Nat}, pickSteady ops listed l = some i → i ∈ l ∧ Region.free .any ops listed i = true ∧ ∃ o, ops[i]? = some o ∧ steadyOp o.op = true
  | [], h => by cases h
  | j :: r, h => by
    unfold pickSteady at h
    split at h
    · rename_i o ho
      cases hb : (steadyOp o.op && Region.free .any ops listed j) with
      | true =>
        rw [hb, cond_true, Option.some.injEq] at h
        subst h
        rw [Bool.and_eq_true] at hb
        exact ⟨by simp, hb.2, o, ho, hb.1⟩
      | false =>
        rw [hb, cond_false] at h
        have := pickSteady_spec h
        exact ⟨by simp [this.1], this.2⟩
    · have := pickSteady_spec h
      exact ⟨by simp [this.1], this.2⟩
theorem allR_spec {f : Nat → Prop} : ∀ {l : List Nat}, allR f l → ∀ i ∈ l, f i
  | [], _, i, hi => by cases hi
  | j :: [], h, i, hi => by
    simp only [List.mem_cons, List.not_mem_nil, or_false] at hi
    subst hi; exact h
  | j :: (k :: r), h, i, hi => by
    rcases List.mem_cons.1 hi with rfl | hi
    · exact h.1
    · exact allR_spec h.2 i hi

def KeepD (ws : List Nat) (E E' : Env) : Prop := ∀ t, t ∉ ws → get t E' = get t E
def dstsD : List Oper → List Nat
  | [] => []
  | o :: r => match o.dst with
    | some d => d :: dstsD r
    | none => dstsD r
theorem mem_dstsD {t : Nat} : ∀ {l : List Oper}, (∃ o ∈ l, o.dst = some t) → t ∈ dstsD l
  | [], h => by obtain ⟨o, ho, _⟩ := h; cases ho
  | o :: r, ⟨u, hu, hd⟩ => by
    simp only [dstsD]
    rcases List.mem_cons.1 hu with rfl | hr
    · simp [hd]
    · have := mem_dstsD ⟨u, hr, hd⟩
      split <;> simp [this]
theorem KeepD.put {ws : List Nat} {E0 E : Env} (h : KeepD ws E0 E) {d : Option Tmp} (v : Option Value) (hd : ∀ t, d = some t → t ∈ ws) : KeepD ws E0 (Eng.put d v E) := by
  intro t ht
  cases d with
  | none => exact h t ht
  | some d => rw [get_put_ne _ _ (fun e => by subst e; exact ht (hd _ rfl))]; exact h t ht

theorem Agrees.rebind' {E : Env} {D : List Deferred} {a : Act} (hA : Agrees N E D a) {d : Tmp} {v : Value} (h : get d E = some v) : Agrees N (Eng.put (some d) (some v) E) D a := by
  refine ⟨hA.size, hA.defers, fun t u ht => ?_⟩
  by_cases e : d = t
  · subst e
    rw [get_put_same] at ht
    rw [← ht]
    exact hA.at_ d v h
  · rw [get_put_ne _ _ e] at ht
    exact hA.at_ t u ht

/-- An operation under its guard. -/
theorem guarded_sound {E0 E : Env} {D : List Deferred} {a : Act} {o : Oper} {i : Nat} (hi : ops[i]? = some o) (hA : Agrees N E D a) (hk : KeepD (dstsD ops.toList) E0 E) {act skip : Env → Prop} (h : guarded N ops o E act skip) :
    (∃ E1, Agrees N E1 D a ∧ KeepD (dstsD ops.toList) E0 E1 ∧ putOk N o.dst = true ∧ Region.wanted o (yielded ops a.tmps) = true ∧ act E1) ∨
    (∃ E1, Agrees N E1 D (a.put o.dst undef) ∧ KeepD (dstsD ops.toList) E0 E1 ∧ Region.wanted o (yielded ops a.tmps) = false ∧ skip E1) := by
  have hdst : ∀ t, o.dst = some t → t ∈ dstsD ops.toList := fun t ht => mem_dstsD ⟨o, by simpa using Array.mem_of_getElem? hi, ht⟩
  unfold guarded at h
  cases hp : putOk N o.dst with
  | false => rw [hp] at h; exact h.elim
  | true =>
    rw [hp, cond_true] at h
    cases hg : o.guard with
    | none =>
      rw [hg] at h
      exact .inl ⟨E, hA, hk, rfl, by simp [Region.wanted, hg], h⟩
    | some g =>
      obtain ⟨j, want⟩ := g
      rw [hg] at h
      simp only at h
      split at h
      · rename_i d hd
        split at h
        · rename_i b hb
          have hy : yielded ops a.tmps j = some b := by
            have := hA.at_ d _ hb
            simp [yielded, hd, this]
          have hdm : d ∈ dstsD ops.toList := by
            cases hj : ops[j]? with
            | none => simp [hj] at hd
            | some oj =>
              simp only [hj, Option.bind_some] at hd
              exact mem_dstsD ⟨oj, by simpa using Array.mem_of_getElem? hj, hd⟩
          have hA1 : Agrees N (Eng.put (some d) (some (.bool b)) E) D a := hA.rebind' hb
          have hk1 : KeepD (dstsD ops.toList) E0 (Eng.put (some d) (some (.bool b)) E) := hk.put _ (by rintro t ⟨rfl⟩; exact hdm)
          have hw : Region.wanted o (yielded ops a.tmps) = (b == want) := by simp [Region.wanted, hg, hy]
          cases b <;> cases want <;> simp only [Br, cond_true, cond_false] at h
          · exact .inl ⟨_, hA1, hk1, rfl, by rw [hw]; rfl, h⟩
          · exact .inr ⟨_, hA1.put hp undef, hk1.put _ hdst, by rw [hw]; rfl, h⟩
          · exact .inr ⟨_, hA1.put hp undef, hk1.put _ hdst, by rw [hw]; rfl, h⟩
          · exact .inl ⟨_, hA1, hk1, rfl, by rw [hw]; rfl, h⟩
        · rename_i vs hb
          refine .inr ⟨_, hA.put hp undef, hk.put _ hdst, ?_, h⟩
          have := hA.at_ d _ hb
          simp [Region.wanted, hg, yielded, hd, this]
        · exact h.elim
      · exact h.elim

theorem draw_sound (hF : ∀ f, F f = true → callableB P f = true) (hsel : Region.noSelect ops = true) {K : Env → World → Prop} {E0 : Env} {D : List Deferred}
    (hK : ∀ E' a' w', Agrees N E' D a' → KeepD (dstsD ops.toList) E0 E' → K E' w' → Q .normal a' w') (hQ : ∀ c a w, Q (.panic c) a w → False) :
    ∀ (fuel : Nat) (listed : Array Bool) (E : Env) (a : Act) (w : World), listed.size = ops.size → Closed ops listed → (S w ∨ LastIn soft ops listed) → Agrees N E D a → KeepD (dstsD ops.toList) E0 E →
      drawWp P F soft N ops S K fuel listed E w → wpAnyD P soft ops Q S fuel listed a w := by
  have hQ' : ∀ (d : Option Tmp) (v : Value) c a w, Q (.panic c) (a.put d v) w → Q (.panic c) a w := fun d v c a w h => (hQ _ _ _ h).elim
  intro fuel
  induction fuel with
  | zero =>
    intro listed E a w _ _ _ hA hk h
    unfold drawWp at h
    cases hr : Region.ready .any ops listed with
    | nil => rw [hr] at h; exact ⟨hr, hK E a w hA hk h⟩
    | cons r0 rs => rw [hr] at h; exact h.elim
  | succ fuel ih =>
    intro listed E a w hsz hc hS hA hk h
    unfold drawWp at h
    cases hr : Region.ready .any ops listed with
    | nil =>
      rw [hr] at h
      exact ⟨fun _ => hK E a w hA hk h, by rw [hr]; simp⟩
    | cons r0 rs =>
      rw [hr] at h
      simp only at h
      cases hp : pickSteady ops listed (r0 :: rs) with
      | some i =>
        rw [hp] at h
        simp only at h
        obtain ⟨him, hfree, oS, hoS, hstS⟩ := pickSteady_spec hp
        rw [← hr] at him
        have hun := getD_both' (mem_ready.1 him).1
        have hS1 : S w ∨ LastIn soft ops (listed.setIfInBounds i true) := hS.imp_right fun ⟨m, hm, hml⟩ => ⟨m, hm, getD_set_true hml⟩
        cases ho : ops[i]? with
        | none => rw [ho] at h; exact h.elim
        | some o =>
          rw [ho] at h
          simp only at h
          have hst0 : steadyOp o.op = true := by rw [ho] at hoS; injection hoS with hoS; rw [hoS]; exact hstS
          have hc' := hc.set him
          have hsz' : (listed.setIfInBounds i true).size = ops.size := by simpa using hsz
          rcases guarded_sound ho hA hk h with ⟨E1, hA1, hk1, hpo, hw, hst⟩ | ⟨E1, hA1, hk1, hw, hsk⟩
          · have hdst : ∀ t, o.dst = some t → t ∈ dstsD ops.toList := fun t ht => mem_dstsD ⟨o, by simpa using Array.mem_of_getElem? ho, ht⟩
            cases hrd : readsOp o.op with
            | true =>
              have hSw : S w := hS.resolve_right (not_last' hc ho hrd hun)
              obtain ⟨v, hv, hkv⟩ := steady_sound hA1 hst
              exact wpAnyD_first ho hst0 (S0 := S) ⟨fun _ h => h, .inl hrd⟩ (Region.noSelect_spec hsel) (hQ' _ _) fuel listed a w hc (Region.free_spec ho hfree) him (.inl ⟨hw, hv⟩) hSw hS1
                (ih _ _ _ w hsz' hc' hS1 (hA1.put hpo v) (hk1.put _ hdst) hkv)
            | false =>
              obtain ⟨v, hv, hkv⟩ := steady_sound hA1 (steady_pure hrd hst)
              exact wpAnyD_first ho hst0 (S0 := fun _ => True) ⟨fun _ _ => trivial, .inr fun _ => trivial⟩ (Region.noSelect_spec hsel) (hQ' _ _) fuel listed a w hc (Region.free_spec ho hfree) him (.inl ⟨hw, hv⟩) trivial hS1
                (ih _ _ _ w hsz' hc' hS1 (hA1.put hpo v) (hk1.put _ hdst) hkv)
          · exact wpAnyD_first ho hst0 (S0 := fun _ => True) ⟨fun _ _ => trivial, .inr fun _ => trivial⟩ (Region.noSelect_spec hsel) (hQ' _ _) fuel listed a w hc (Region.free_spec ho hfree) him (.inr ⟨hw, rfl⟩) trivial hS1
              (ih _ _ _ w hsz' hc' hS1 hA1 hk1 hsk)
      | none =>
        rw [hp] at h
        simp only at h
        refine ⟨fun h0 => (by rw [hr] at h0; cases h0), fun i him => ?_⟩
        have h := allR_spec h i (by rw [← hr]; exact him)
        have hc' := hc.set him
        have hsz' : (listed.setIfInBounds i true).size = ops.size := by simpa using hsz
        cases ho : ops[i]? with
        | none => rw [ho] at h; exact h.elim
        | some o =>
          rw [ho] at h
          simp only at h
          have hdst : ∀ t, o.dst = some t → t ∈ dstsD ops.toList := fun t ht => mem_dstsD ⟨o, by simpa using Array.mem_of_getElem? ho, ht⟩
          unfold wpOp
          simp only [ho]
          rcases guarded_sound ho hA hk h with ⟨E1, hA1, hk1, hpo, hw, hop⟩ | ⟨E1, hA1, hk1, hw, hsk⟩
          · rw [if_pos hw]
            refine .inl (op_sound hF hA1 ?_ (fun _ _ h => h.elim) hop)
            intro v w' hv
            cases hl : lastS soft ops i with
            | true =>
              rw [hl, cond_true] at hv
              have hin : LastIn soft ops (listed.setIfInBounds i true) := ⟨i, hl, by
                have hilt : i < ops.size := (Array.getElem?_eq_some_iff.1 ho).1
                simp [hsz, hilt]⟩
              exact ⟨.inl hin, ih _ _ _ w' hsz' hc' (.inr hin) (hA1.put hpo v) (hk1.put _ hdst) hv⟩
            | false =>
              rw [hl, cond_false] at hv
              exact ⟨.inr hv.1, ih _ _ _ w' hsz' hc' (.inl hv.1) (hA1.put hpo v) (hk1.put _ hdst) hv.2⟩
          · rw [if_neg (by rw [hw]; decide)]
            have hS' : S w ∨ LastIn soft ops (listed.setIfInBounds i true) := hS.imp_right fun ⟨m, hm, hml⟩ => ⟨m, hm, getD_set_true hml⟩
            exact ⟨hS'.symm, ih _ _ _ w hsz' hc' hS' hA1 hk1 hsk⟩

theorem closed_start : Closed ops (Array.replicate ops.size false) := by
  intro j o hj hl
  rw [show (Array.replicate ops.size false).getD j false = false by
    rcases Nat.lt_or_ge j ops.size with h | h
    · simp [h]
    · simp [h]] at hl
  cases hl
end

/-- A region whose order is open: a condition S on the world, of the prover's choice. -/
def DrawVC (w : World) (B : (World → Prop) → World → Prop) : Prop := ∀ w' : World, w' = w.drew → ∃ S : World → Prop, S w' ∧ B S w'

theorem region_draw_sound {P : Program} {F : Nat → Bool} {soft : Bool} {N : Nat} {ops : Array Oper} (hF : ∀ f, F f = true → callableB P f = true) (hm : P.follows .mixedOrders = true) (hsel : Region.noSelect ops = true) {K : Env → World → Prop} {Q : Exit → Act → World → Prop}
    {E : Env} {D : List Deferred} {a : Act} {w : World} {id : Nat} (hA : Agrees N E D a) (hK : ∀ E' a' w', Agrees N E' D a' → KeepD (dstsD ops.toList) E E' → K E' w' → Q .normal a' w')
    (h : DrawVC w fun S w' => drawWp P F soft N ops S K ops.size (Array.replicate ops.size false) E w') : (Code.region id ops true).wp P Q a w := by
  obtain ⟨S, hS, h⟩ := h _ rfl
  let Q' : Exit → Act → World → Prop := fun e a w => match e with | .normal => Q .normal a w | _ => False
  refine Code.wp_mono (Q := Q') (fun e a w q => by cases e <;> first | exact q | exact q.elim) ?_
  exact wp_region_any hm (wpAny_of_D _ _ _ _ (draw_sound (Q := Q') hF hsel (fun E' a' w' h1 h2 h3 => hK E' a' w' h1 h2 h3) (fun c a w h => h) ops.size _ E a _ (by simp) closed_start (.inl hS) hA (fun _ _ => rfl) h))
end Go.Eng
