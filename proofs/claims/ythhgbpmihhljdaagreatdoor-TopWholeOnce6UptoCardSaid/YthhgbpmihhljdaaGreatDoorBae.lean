/- The engine: regions, statements, loops (with an invariant), joins, whole functions (deferred calls too); soundness. It speaks of any program. -/
import Derived.Test.YthhgbpmihhljdaaGreatDoorBad
import Derived.Scope
namespace Go.Eng
open Go

def memb (t : Nat) : List Nat → Bool
  | [] => false
  | k :: r => bif Nat.beq k t then true else memb t r
def strip (ws : List Nat) : Env → Env
  | [] => []
  | (k, v) :: r => bif memb k ws then strip ws r else (k, v) :: strip ws r

def dstsOf : List Oper → List Nat
  | [] => []
  | o :: r => match o.dst with
    | some d => d :: dstsOf r
    | none => dstsOf r
def writes : Code → List Nat
  | .region _ ops _ => dstsOf ops.toList
  | .seq a b => writes a ++ writes b
  | .cond _ a b => writes a ++ writes b
  | .block _ c => writes c
  | .loop c => writes c
  | .scope c => writes c
  | _ => []

def deferOf (E : Env) (c : Call) : Option Deferred :=
  match c.callee, evs E c.args.toList with
  | .value y, some vs => match ev E y with
    | some (.func fn first cap) => some { target := .fn fn cap, args := first ++ vs.toArray }
    | _ => none
  | _, _ => none

def regWp (P : Program) (F : Nat → Bool) (N : Nat) (ops : Array Oper) (K : Env → List Deferred → World → Prop) (Qp : List PanicEntry → Env → List Deferred → World → Prop) :
    List Oper → Env → List Deferred → World → Prop
  | [], E, D, w => K E D w
  | o :: r, E, D, w =>
    bif putOk N o.dst then
      match o.guard with
      | none => match o.op with
        | .defer c => match deferOf E c with
          | some d => regWp P F N ops K Qp r (put o.dst none E) (d :: D) w
          | none => False
        | _ => opWp P F E o w (fun v w' => regWp P F N ops K Qp r (put o.dst (some v) E) D w') (fun ch w' => Qp ch E D w')
      | some (j, want) => match (ops[j]?).bind (·.dst) with
        | some d => match get d E with
          | some (.bool b) => Br b
            (bif want then opWp P F (put (some d) (some (.bool true)) E) o w (fun v w' => regWp P F N ops K Qp r (put o.dst (some v) (put (some d) (some (.bool true)) E)) D w') (fun ch w' => Qp ch E D w')
              else regWp P F N ops K Qp r (put o.dst (some undef) (put (some d) (some (.bool true)) E)) D w)
            (bif want then regWp P F N ops K Qp r (put o.dst (some undef) (put (some d) (some (.bool false)) E)) D w
              else opWp P F (put (some d) (some (.bool false)) E) o w (fun v w' => regWp P F N ops K Qp r (put o.dst (some v) (put (some d) (some (.bool false)) E)) D w') (fun ch w' => Qp ch E D w'))
          | some (.tuple _) => regWp P F N ops K Qp r (put o.dst (some undef) E) D w
          | _ => False
        | none => False
    else False

/-! ### What a loop or a join carries -/
inductive Sh where
  | int (k : IntKind)
  | bool
  | str
  | slice
  | ptr
  | any
def Sh.Ty : Sh → Type
  | .int _ => Int
  | .bool => Bool
  | .str => ByteArray
  | .slice => Option Addr × Nat × Nat
  | .ptr => Option Addr
  | .any => Value
def Sh.val : (s : Sh) → s.Ty → Value
  | .int k, x => .int k x
  | .bool, x => .bool x
  | .str, x => .string x
  | .slice, x => .slice x.1 x.2.1 x.2.2
  | .ptr, x => .pointer x
  | .any, x => x
def Sh.read : (s : Sh) → Value → Option s.Ty
  | .int k, .int k' x => if k = k' then some x else none
  | .bool, .bool x => some x
  | .str, .string x => some x
  | .slice, .slice a n c => some (a, n, c)
  | .ptr, .pointer p => some p
  | .any, v => some v
  | _, _ => none
theorem Sh.read_val {s : Sh} {v : Value} {x : s.Ty} (h : s.read v = some x) : s.val x = v := by
  cases s <;> cases v <;> first
    | (cases h; done)
    | (cases h; rfl)
    | (simp only [Sh.read] at h
       split at h
       · rename_i hk
         subst hk
         cases h
         rfl
       · cases h)

abbrev Slots := List (Nat × Sh)
def STy : Slots → Type
  | [] => Unit
  | (_, s) :: [] => s.Ty
  | (_, s) :: (b :: r) => s.Ty × STy (b :: r)
def envOf : (L : Slots) → STy L → Env
  | [], _ => []
  | (t, s) :: [], x => [(t, some (s.val x))]
  | (t, s) :: (b :: r), x => (t, some (s.val x.1)) :: envOf (b :: r) x.2
def readAll : (L : Slots) → Env → Option (STy L)
  | [], _ => some ()
  | (t, s) :: [], E => match get t E with
    | some v => s.read v
    | none => none
  | (t, s) :: (b :: r), E => match get t E with
    | some v => match s.read v with
      | some x => match readAll (b :: r) E with
        | some y => some (x, y)
        | none => none
      | none => none
    | none => none
def within (L : Slots) (ws : List Nat) : Bool :=
  match L with
  | [] => true
  | (t, _) :: r => memb t ws && within r ws

def LoopVC {S : Type} (body : S → World → (S → World → Prop) → Prop) (s : S) (w : World) : Prop :=
  ∃ (I : S → World → Prop) (μ : S → World → Nat), I s w ∧ ∀ s w, I s w → body s w fun s' w' => I s' w' ∧ μ s' w' < μ s w
def JoinVC {S : Type} (A : (S → World → Prop) → Prop) (B : S → World → Prop) : Prop := ∃ J : S → World → Prop, A J ∧ ∀ s w, J s w → B s w
def SameD (D' D : List Deferred) (X : Prop) : Prop :=
  match D', D with
  | [], [] => X
  | D', D => D' = D ∧ X
theorem SameD.out {D' D : List Deferred} {X : Prop} (h : SameD D' D X) : D' = D ∧ X := by
  unfold SameD at h
  split at h
  · exact ⟨rfl, h⟩
  · exact h

abbrev Hints := List (Nat × Slots)
def hint (p : Nat) : Hints → Option Slots
  | [] => none
  | (k, L) :: r => bif Nat.beq k p then some L else hint p r

abbrev Post := Exit → Env → List Deferred → World → Prop

/-- What is asked ahead of a statement. -/
def wpc (P : Program) (F : Nat → Bool) (N : Nat) (H : Hints) : Nat → Code → Env → List Deferred → World → Post → Prop
  | _, .skip, E, D, w, Q => Q .normal E D w
  | p, .region _ ops draw, E, D, w, Q =>
    bif draw then (bif Region.noSelect ops then DrawVC w fun S w' => drawWp P F (match hint p H with | some _ => true | none => false) N ops S (fun E' w' => Q .normal E' D w') ops.size (Array.replicate ops.size false) E w' else False) else regWp P F N ops (fun E' D' w' => Q .normal E' D' w') (fun ch E' D' w' => Q (.panic ch) E' D' w') ops.toList E D w
  | p, .seq a b, E, D, w, Q => match hint p H with
    | none => wpc P F N H (2 * p) a E D w fun e E' D' w' => match e with
      | .normal => wpc P F N H (2 * p + 1) b E' D' w' Q
      | e => Q e E' D' w'
    | some L => bif within L (writes a) then
        JoinVC (S := STy L) (fun J => wpc P F N H (2 * p) a E D w fun e E' D' w' => match e with
            | .normal => SameD D' D (match readAll L E' with | some s => J s w' | none => False)
            | e => Q e E' D' w')
          (fun s w' => wpc P F N H (2 * p + 1) b (envOf L s ++ strip (writes a) E) D w' Q)
      else False
  | p, .cond c x y, E, D, w, Q => match ev E c with
    | some (.bool b) => Br b (wpc P F N H (2 * p) x E D w Q) (wpc P F N H (2 * p + 1) y E D w Q)
    | _ => False
  | p, .block id c, E, D, w, Q => wpc P F N H (2 * p) c E D w fun e E' D' w' => match e with
    | .exit id' => bif Nat.beq id' id then Q .normal E' D' w' else Q (.exit id') E' D' w'
    | e => Q e E' D' w'
  | p, .loop c, E, D, w, Q => match hint p H with
    | some L => bif within L (writes c) then
        match readAll L E with
        | some s => LoopVC (S := STy L) (fun s w' K => wpc P F N H (2 * p) c (envOf L s ++ strip (writes c) E) D w' fun e E' D' w'' => match e with
            | .normal => SameD D' D (match readAll L E' with | some s' => K s' w'' | none => False)
            | e => Q e E' D' w'') s w
        | none => False
      else False
    | none => False
  | _, .exit id, E, D, w, Q => Q (.exit id) E D w
  | _, .ret, E, D, w, Q => Q .ret E D w
  | _, .label _, E, D, w, Q => Q .normal E D w
  | p, .scope c, E, D, w, Q => wpc P F N H (2 * p) c E D w fun e E' D' w' => match e with
    | .goto _ => False
    | e => Q e E' D' w'
  | _, _, _, _, _, _ => False

/-! ### Soundness -/
section
variable {P : Program} {F : Nat → Bool} {N : Nat} {H : Hints}

theorem memb_iff {t : Nat} : ∀ {l : List Nat}, memb t l = true ↔ t ∈ l
  | [] => by simp [memb]
  | k :: r => by
    simp only [memb, List.mem_cons]
    cases h : Nat.beq k t with
    | true => exact ⟨fun _ => .inl (Nat.eq_of_beq_eq_true h).symm, fun _ => rfl⟩
    | false =>
      have hne : t ≠ k := by rintro rfl; simp at h
      rw [cond_false, memb_iff]
      exact ⟨.inr, fun h => h.resolve_left hne⟩

def Keep (ws : List Nat) (E E' : Env) : Prop := ∀ t, t ∉ ws → get t E' = get t E
theorem Keep.refl (ws : List Nat) (E : Env) : Keep ws E E := fun _ _ => rfl
theorem Keep.trans {ws : List Nat} {A B C : Env} (h : Keep ws A B) (k : Keep ws B C) : Keep ws A C := fun t ht => (k t ht).trans (h t ht)
theorem Keep.mono {ws ws' : List Nat} {A B : Env} (h : Keep ws A B) (hs : ∀ t, t ∈ ws → t ∈ ws') : Keep ws' A B := fun t ht => h t fun hm => ht (hs t hm)
theorem Keep.put {ws : List Nat} {E : Env} {d : Option Tmp} (v : Option Value) (hd : ∀ t, d = some t → t ∈ ws) : Keep ws E (Eng.put d v E) := by
  intro t ht
  cases d with
  | none => rfl
  | some d => exact get_put_ne _ _ (fun e => ht (e ▸ hd d rfl))

theorem mem_dstsOf {t : Nat} : ∀ {l : List Oper}, (∃ o ∈ l, o.dst = some t) → t ∈ dstsOf l
  | [], h => by obtain ⟨o, ho, _⟩ := h; cases ho
  | o :: r, ⟨u, hu, hd⟩ => by
    simp only [dstsOf]
    rcases List.mem_cons.1 hu with rfl | hr
    · simp [hd]
    · have := mem_dstsOf ⟨u, hr, hd⟩
      split <;> simp [this]

theorem yielded_of {ops : Array Oper} {E : Env} {D : List Deferred} {a : Act} (hA : Agrees N E D a) {j : Nat} {d : Tmp} {b : Bool}
    (hd : (ops[j]?).bind (·.dst) = some d) (hb : get d E = some (.bool b)) : yielded ops a.tmps j = some b := by
  have := hA.at_ d _ hb
  simp [yielded, hd, this]

theorem Agrees.rebind {E : Env} {D : List Deferred} {a : Act} (hA : Agrees N E D a) {d : Tmp} {v : Value} (h : get d E = some v) : Agrees N (Eng.put (some d) (some v) E) D a := by
  refine ⟨hA.size, hA.defers, fun t u ht => ?_⟩
  by_cases e : d = t
  · subst e
    rw [get_put_same] at ht
    rw [← ht]
    exact hA.at_ d v h
  · rw [get_put_ne _ _ e] at ht
    exact hA.at_ t u ht

theorem reg_sound (hF : ∀ f, F f = true → callableB P f = true) {ops : Array Oper} {K : Env → List Deferred → World → Prop} {Qp : List PanicEntry → Env → List Deferred → World → Prop} {E0 : Env} {Q : Exit → Act → World → Prop}
    (hK : ∀ E' D' a' w', Agrees N E' D' a' → Keep (dstsOf ops.toList) E0 E' → K E' D' w' → Q .normal a' w')
    (hQ : ∀ ch E' D' a' w', Agrees N E' D' a' → Keep (dstsOf ops.toList) E0 E' → Qp ch E' D' w' → Q (.panic ch) a' w') :
    ∀ (l : List Oper) (E : Env) (D : List Deferred) (a : Act) (w : World), (∀ o ∈ l, o ∈ ops.toList) → Agrees N E D a → Keep (dstsOf ops.toList) E0 E → regWp P F N ops K Qp l E D w → wpList P ops Q l a w
  | [], E, D, a, w, _, hA, hk, h => hK E D a w hA hk h
  | o :: r, E, D, a, w, hl, hA, hk, h => by
    have hmem : o ∈ ops.toList := hl o (by simp)
    have hr : ∀ o ∈ r, o ∈ ops.toList := fun o ho => hl o (by simp [ho])
    have hdst : ∀ t, o.dst = some t → t ∈ dstsOf ops.toList := fun t ht => mem_dstsOf ⟨o, hmem, ht⟩
    unfold regWp at h
    cases hp : putOk N o.dst with
    | false => rw [hp] at h; exact h.elim
    | true =>
      rw [hp, cond_true] at h
      refine wpList_step fun K' hK' => ?_
      -- an operation that is carried out, in a frame E1
      have run : ∀ E1 : Env, Agrees N E1 D a → Keep (dstsOf ops.toList) E0 E1 →
          opWp P F E1 o w (fun v w' => regWp P F N ops K Qp r (put o.dst (some v) E1) D w') (fun ch w' => Qp ch E D w') → o.wp P a w K' Q := by
        intro E1 hA1 hk1 hop
        refine op_sound hF hA1 ?_ ?_ hop
        · intro v w' hv
          exact hK' _ _ (reg_sound hF hK hQ r _ D _ w' hr (hA1.put hp v) (hk1.trans (Keep.put _ hdst)) hv)
        · intro ch w' hq
          exact hQ ch E D a w' hA hk hq
      have skip : ∀ E1 : Env, Agrees N E1 D a → Keep (dstsOf ops.toList) E0 E1 → regWp P F N ops K Qp r (put o.dst (some undef) E1) D w → K' (a.put o.dst undef) w := by
        intro E1 hA1 hk1 hreg
        exact hK' _ _ (reg_sound hF hK hQ r _ D _ w hr (hA1.put hp undef) (hk1.trans (Keep.put _ hdst)) hreg)
      cases hg : o.guard with
      | none =>
        rw [hg] at h
        simp only at h
        have hw : Region.wanted o (yielded ops a.tmps) = true := by simp [Region.wanted, hg]
        rw [if_pos hw]
        split at h
        · rename_i c hop
          split at h
          · rename_i d hd
            unfold deferOf at hd
            split at hd
            · rename_i y vs hc hargs
              split at hd
              · rename_i fn first cap hy
                simp only [Option.some.injEq] at hd
                subst hd
                unfold Oper.wp
                have hrun : (execOp a.eval o).run P w = .ok (.defer { target := .fn fn cap, args := first ++ vs.toArray }) w := by
                  simp only [execOp, hop, resolve, hc, hA.ev hy, Deferred.ofValue, Sem.run_bind, Sem.run_pure, Result.andThen_ok, map_eval hA hargs]
                rw [hrun]
                refine hK' _ _ (reg_sound hF hK hQ r _ _ _ w hr ?_ (hk.trans (Keep.put _ hdst)) h)
                have := (hA.kill (d := o.dst) undef)
                refine ⟨?_, ?_, ?_⟩
                · have := this.size
                  cases hdd : o.dst <;> simpa [Act.put, hdd] using this
                · cases hdd : o.dst <;> simp [Act.put, hA.defers]
                · intro t u ht
                  have := this.at_ t u ht
                  cases hdd : o.dst <;> simpa [Act.put, hdd] using this
              · cases hd
            · cases hd
          · exact h.elim
        · exact run E hA hk h
      | some g =>
        obtain ⟨j, want⟩ := g
        rw [hg] at h
        simp only at h
        split at h
        · rename_i d hd
          split at h
          · rename_i b hb
            have hy := yielded_of hA hd hb
            have hdm : d ∈ dstsOf ops.toList := by
              cases hj : ops[j]? with
              | none => simp [hj] at hd
              | some oj =>
                simp only [hj, Option.bind_some] at hd
                exact mem_dstsOf ⟨oj, by simpa using Array.mem_of_getElem? hj, hd⟩
            have hA1 : Agrees N (put (some d) (some (.bool b)) E) D a := hA.rebind hb
            have hk1 : Keep (dstsOf ops.toList) E0 (put (some d) (some (.bool b)) E) := hk.trans (Keep.put _ (by rintro t ⟨rfl⟩; exact hdm))
            have hw : Region.wanted o (yielded ops a.tmps) = (b == want) := by simp [Region.wanted, hg, hy]
            rw [hw]
            cases b <;> cases want <;> simp only [Br, cond_true, cond_false] at h
            · rw [if_pos (by rfl)]; exact run _ hA1 hk1 h
            · rw [if_neg (by decide)]; exact skip _ hA1 hk1 h
            · rw [if_neg (by decide)]; exact skip _ hA1 hk1 h
            · rw [if_pos (by rfl)]; exact run _ hA1 hk1 h
          · rename_i vs hb
            have hw : Region.wanted o (yielded ops a.tmps) = false := by
              have := hA.at_ d _ hb
              simp [Region.wanted, hg, yielded, hd, this]
            rw [hw, if_neg (by decide)]
            exact skip _ hA hk h
          · exact h.elim
        · exact h.elim

theorem get_strip {ws : List Nat} {t : Nat} (ht : t ∉ ws) : ∀ E : Env, get t (strip ws E) = get t E
  | [] => rfl
  | (k, v) :: r => by
    simp only [strip]
    cases hm : memb k ws with
    | true =>
      have hne : Nat.beq k t = false := by
        cases hb : Nat.beq k t with
        | false => rfl
        | true => exact absurd (Nat.eq_of_beq_eq_true hb ▸ memb_iff.1 hm) ht
      simp only [cond_true, get, hne, cond_false]
      exact get_strip ht r
    | false =>
      simp only [cond_false, get]
      rw [get_strip ht r]
theorem get_strip_in {ws : List Nat} {t : Nat} (ht : t ∈ ws) : ∀ E : Env, get t (strip ws E) = none
  | [] => rfl
  | (k, v) :: r => by
    simp only [strip]
    cases hm : memb k ws with
    | true => simp only [cond_true]; exact get_strip_in ht r
    | false =>
      have hne : Nat.beq k t = false := by
        cases hb : Nat.beq k t with
        | false => rfl
        | true => rw [Nat.eq_of_beq_eq_true hb, memb_iff.2 ht] at hm; cases hm
      simp only [cond_false, get, hne]
      exact get_strip_in ht r

/-- What the carried slots hold, ahead of the rest of the frame. -/
theorem get_envOf {t : Nat} {B : Env} : ∀ {L : Slots} (s : STy L), (∀ x ∈ L, x.1 ≠ t) → get t (envOf L s ++ B) = get t B
  | [], _, _ => rfl
  | (k, sh) :: [], s, h => by
    have : Nat.beq k t = false := by
      cases hb : Nat.beq k t with
      | false => rfl
      | true => exact absurd (Nat.eq_of_beq_eq_true hb) (h (k, sh) (by simp))
    simp [envOf, get, this]
  | (k, sh) :: (b :: r), s, h => by
    have : Nat.beq k t = false := by
      cases hb : Nat.beq k t with
      | false => rfl
      | true => exact absurd (Nat.eq_of_beq_eq_true hb) (h (k, sh) (by simp))
    simp only [envOf, List.cons_append, get, this, cond_false]
    exact get_envOf s.2 (fun x hx => h x (by simp [hx]))
theorem get_read {t : Nat} {B E : Env} {v : Value} : ∀ {L : Slots} {s : STy L}, readAll L E = some s → (∃ x ∈ L, x.1 = t) → get t (envOf L s ++ B) = some v → get t E = some v
  | [], _, _, ⟨_, hx, _⟩, _ => by cases hx
  | (k, sh) :: [], s, hr, hx, hg => by
    obtain ⟨x, hx, hxt⟩ := hx
    simp only [List.mem_cons, List.not_mem_nil, or_false] at hx
    subst hx
    simp only at hxt
    subst hxt
    simp only [readAll] at hr
    split at hr
    · rename_i u hu
      have := Sh.read_val hr
      simp only [envOf, List.cons_append, get, Nat.beq_refl, cond_true, Option.some.injEq] at hg
      rw [hu, ← hg, this]
    · cases hr
  | (k, sh) :: (b :: r), s, hr, hx, hg => by
    simp only [readAll] at hr
    split at hr
    · rename_i u hu
      split at hr
      · rename_i x hx'
        split at hr
        · rename_i y hy
          injection hr with hr
          subst hr
          simp only [envOf, List.cons_append, get] at hg
          cases hb : Nat.beq k t with
          | true =>
            have := Nat.eq_of_beq_eq_true hb
            subst this
            rw [hb, cond_true, Option.some.injEq] at hg
            rw [hu, ← hg, Sh.read_val hx']
          | false =>
            rw [hb, cond_false] at hg
            refine get_read hy ?_ hg
            obtain ⟨z, hz, hzt⟩ := hx
            rcases List.mem_cons.1 hz with rfl | hz
            · have hkt : k = t := hzt
              subst hkt; rw [Nat.beq_refl] at hb; cases hb
            · exact ⟨z, hz, hzt⟩
        · cases hr
      · cases hr
    · cases hr

theorem within_mem {ws : List Nat} : ∀ {L : Slots}, within L ws = true → ∀ x ∈ L, x.1 ∈ ws
  | [], _, x, hx => by cases hx
  | (t, s) :: r, h, x, hx => by
    simp only [within, Bool.and_eq_true] at h
    rcases List.mem_cons.1 hx with rfl | hx
    · exact memb_iff.1 h.1
    · exact within_mem h.2 x hx

def readAct : (L : Slots) → Act → Option (STy L)
  | [], _ => some ()
  | (t, s) :: [], a => match a.tmps[t]? with
    | some v => s.read v
    | none => none
  | (t, s) :: (b :: r), a => match a.tmps[t]? with
    | some v => match s.read v with
      | some x => match readAct (b :: r) a with
        | some y => some (x, y)
        | none => none
      | none => none
    | none => none
theorem readAct_of {E : Env} {D : List Deferred} {a : Act} (hA : Agrees N E D a) : ∀ {L : Slots} {s : STy L}, readAll L E = some s → readAct L a = some s
  | [], _, h => h
  | (t, sh) :: [], s, h => by
    simp only [readAll] at h
    split at h
    · rename_i v hv
      simp only [readAct, hA.at_ t v hv, h]
    · cases h
  | (t, sh) :: (b :: r), s, h => by
    simp only [readAll] at h
    split at h
    · rename_i v hv
      split at h
      · rename_i x hx
        split at h
        · rename_i y hy
          simp only [readAct, hA.at_ t v hv, hx, readAct_of hA hy, h]
        · cases h
      · cases h
    · cases h

/-- The frame behind a statement, cut down to what is carried. -/
theorem Agrees.carry {L : Slots} {ws : List Nat} {E E' : Env} {D : List Deferred} {a : Act} {s : STy L} (hA : Agrees N E' D a) (hk : Keep ws E E') (hr : readAll L E' = some s) :
    Agrees N (envOf L s ++ strip ws E) D a := by
  refine ⟨hA.size, hA.defers, fun t v ht => hA.at_ t v ?_⟩
  by_cases hL : ∃ x ∈ L, x.1 = t
  · exact get_read hr hL ht
  · rw [get_envOf s (fun x hx e => hL ⟨x, hx, e⟩)] at ht
    by_cases hin : t ∈ ws
    · rw [get_strip_in hin] at ht; cases ht
    · rw [get_strip hin] at ht
      rw [hk t hin, ht]
theorem Keep.carry {L : Slots} {ws : List Nat} {E : Env} (s : STy L) (hw : within L ws = true) : Keep ws E (envOf L s ++ strip ws E) := by
  intro t ht
  rw [get_envOf s (fun x hx e => by subst e; exact ht (within_mem hw x hx)), get_strip ht]

theorem dstsD_eq : ∀ l : List Oper, dstsD l = dstsOf l
  | [] => rfl
  | o :: r => by simp only [dstsD, dstsOf, dstsD_eq r]; cases o.dst <;> rfl

theorem wpc_sound (hF : ∀ f, F f = true → callableB P f = true) (hm : P.follows .mixedOrders = true) : ∀ (c : Code) (p : Nat) (E : Env) (D : List Deferred) (a : Act) (w : World) (Q : Post), Agrees N E D a → wpc P F N H p c E D w Q →
    c.wp P (fun e a' w' => ∃ E' D', Agrees N E' D' a' ∧ Keep (writes c) E E' ∧ Q e E' D' w') a w := by
  intro c
  induction c with
  | skip => intro p E D a w Q hA h; exact wp_skip ⟨E, D, hA, Keep.refl _ _, h⟩
  | region id ops draw =>
    intro p E D a w Q hA h
    unfold wpc at h
    cases draw with
    | true =>
      rw [cond_true] at h
      cases hs : Region.noSelect ops with
      | false => rw [hs] at h; exact h.elim
      | true =>
        rw [hs, cond_true] at h
        refine region_draw_sound hF hm hs hA ?_ h
        intro E' a' w' hA' hk hq
        exact ⟨E', D, hA', fun t ht => hk t (by rw [dstsD_eq]; exact ht), hq⟩
    | false =>
      refine wp_region_list (reg_sound (E0 := E) hF ?_ ?_ ops.toList E D a w (fun _ h => h) hA (Keep.refl _ _) h)
      · exact fun E' D' a' w' hA' hk hq => ⟨E', D', hA', hk, hq⟩
      · exact fun ch E' D' a' w' hA' hk hq => ⟨E', D', hA', hk, hq⟩
  | seq x y ihx ihy =>
    intro p E D a w Q hA h
    unfold wpc at h
    have kx : ∀ t, t ∈ writes x → t ∈ writes (.seq x y) := fun t ht => by simp [writes, ht]
    have ky : ∀ t, t ∈ writes y → t ∈ writes (.seq x y) := fun t ht => by simp [writes, ht]
    refine wp_seq ?_
    cases hh : hint p H with
    | none =>
      rw [hh] at h
      refine wp_mono (ihx _ E D a w _ hA h) ?_
      rintro e a' w' ⟨E', D', hA', hk, hq⟩
      cases e with
      | normal =>
        refine wp_mono (ihy _ E' D' a' w' Q hA' hq) ?_
        rintro e a'' w'' ⟨E'', D'', hA'', hk', hq'⟩
        exact ⟨E'', D'', hA'', (hk.mono kx).trans (hk'.mono ky), hq'⟩
      | _ => exact ⟨E', D', hA', hk.mono kx, hq⟩
    | some L =>
      rw [hh] at h
      simp only at h
      cases hw : within L (writes x) with
      | false => rw [hw] at h; exact h.elim
      | true =>
        rw [hw, cond_true] at h
        obtain ⟨J, hA1, hB⟩ := h
        refine wp_mono (ihx _ E D a w _ hA hA1) ?_
        rintro e a' w' ⟨E', D', hA', hk, hq⟩
        cases e with
        | normal =>
          have hq2 := SameD.out hq; clear hq; obtain ⟨hD, hq⟩ := hq2
          subst hD
          cases hs : readAll L E' with
          | none => rw [hs] at hq; exact hq.elim
          | some s =>
            rw [hs] at hq
            refine wp_mono (ihy _ _ _ a' w' Q (hA'.carry hk hs) (hB _ _ hq)) ?_
            rintro e a'' w'' ⟨E'', D'', hA'', hk', hq'⟩
            exact ⟨E'', D'', hA'', ((Keep.carry s hw).mono kx).trans (hk'.mono ky), hq'⟩
        | _ => exact ⟨E', D', hA', hk.mono kx, hq⟩
  | cond c x y ihx ihy =>
    intro p E D a w Q hA h
    unfold wpc at h
    have kx : ∀ t, t ∈ writes x → t ∈ writes (.cond c x y) := fun t ht => by simp [writes, ht]
    have ky : ∀ t, t ∈ writes y → t ∈ writes (.cond c x y) := fun t ht => by simp [writes, ht]
    split at h
    · rename_i b hb
      refine wp_cond_split (hA.ev hb) ?_ ?_
      · rintro rfl
        refine wp_mono (ihx _ E D a w Q hA h) ?_
        rintro e a' w' ⟨E', D', hA', hk, hq⟩
        exact ⟨E', D', hA', hk.mono kx, hq⟩
      · rintro rfl
        refine wp_mono (ihy _ E D a w Q hA h) ?_
        rintro e a' w' ⟨E', D', hA', hk, hq⟩
        exact ⟨E', D', hA', hk.mono ky, hq⟩
    · exact h.elim
  | block id x ih =>
    intro p E D a w Q hA h
    unfold wpc at h
    refine wp_block (wp_mono (ih _ E D a w _ hA h) ?_)
    rintro e a' w' ⟨E', D', hA', hk, hq⟩
    cases e with
    | exit id' =>
      simp only [Exit.inBlock]
      simp only at hq
      cases hb : Nat.beq id' id with
      | true => rw [hb, cond_true] at hq; rw [if_pos (Nat.eq_of_beq_eq_true hb)]; exact ⟨E', D', hA', hk, hq⟩
      | false =>
        rw [hb, cond_false] at hq
        have hne : id' ≠ id := by rintro rfl; simp at hb
        rw [if_neg hne]
        exact ⟨E', D', hA', hk, hq⟩
    | _ => exact ⟨E', D', hA', hk, hq⟩
  | loop x ih =>
    intro p E D a w Q hA h
    unfold wpc at h
    split at h
    · rename_i L hh
      cases hw : within L (writes x) with
      | false => rw [hw] at h; exact h.elim
      | true =>
        rw [hw, cond_true] at h
        split at h
        · rename_i s hs
          obtain ⟨I, μ, hI, hround⟩ := h
          refine wp_loop (fun a' w' => ∃ s' : STy L, Agrees N (envOf L s' ++ strip (writes x) E) D a' ∧ readAct L a' = some s' ∧ I s' w')
            (fun a' w' => match readAct L a' with | some s' => μ s' w' | none => 0) ⟨s, hA.carry (Keep.refl _ _) hs, readAct_of hA hs, hI⟩ ?_
          rintro a' w' ⟨s', hA', hra, hI'⟩
          refine wp_mono (ih _ _ D a' w' _ hA' (hround s' w' hI')) ?_
          rintro e a'' w'' ⟨E', D', hA'', hk, hq⟩
          have hk' := (Keep.carry (E := E) s' hw).trans hk
          cases e with
          | normal =>
            have hq2 := SameD.out hq; clear hq; obtain ⟨hD, hq⟩ := hq2
            subst hD
            cases hs'' : readAll L E' with
            | none => rw [hs''] at hq; exact hq.elim
            | some s'' =>
              rw [hs''] at hq
              refine ⟨⟨s'', hA''.carry hk' hs'', readAct_of hA'' hs'', hq.1⟩, ?_⟩
              simp only [hra, readAct_of hA'' hs'']
              exact hq.2
          | _ => exact ⟨E', D', hA'', hk', hq⟩
        · exact h.elim
    · exact h.elim
  | exit id => intro p E D a w Q hA h; exact wp_exit ⟨E, D, hA, Keep.refl _ _, h⟩
  | ret => intro p E D a w Q hA h; exact wp_ret ⟨E, D, hA, Keep.refl _ _, h⟩
  | rangeFunc => intro p E D a w Q hA h; exact h.elim
  | scope x ih =>
    intro p E D a w Q hA h
    unfold wpc at h
    refine wp_scope_straight (wp_mono (ih _ E D a w _ hA h) ?_)
    rintro e a' w' ⟨E', D', hA', hk, hq⟩
    cases e with
    | goto l => exact hq.elim
    | _ => exact ⟨E', D', hA', hk, hq⟩
  | label l => intro p E D a w Q hA h; exact wp_label ⟨E, D, hA, Keep.refl _ _, h⟩
  | goto => intro p E D a w Q hA h; exact h.elim
  | refuse => intro p E D a w Q hA h; exact h.elim

/-! ### A whole function -/
def resVals (P : Program) (E : Env) (w : World) : List ResultVar → (List Value → Prop) → Prop
  | [], K => K []
  | .tmp t :: r, K => match get t E with
    | some v => resVals P E w r fun vs => K (v :: vs)
    | none => False
  | .cell t ty :: r, K => match get t E with
    | some (.pointer (some a)) => loadWp P ty a w fun v => resVals P E w r fun vs => K (v :: vs)
    | _ => False
def oneOrTuple : List Value → Value
  | [v] => v
  | vs => .tuple vs.toArray
def leaveWp (P : Program) (F : Nat → Bool) (fin : World → Prop) (R : Ending → World → Prop) : List Deferred → FrameMode → World → Prop
  | [], u, w => match u with
    | .returning => fin w
    | .panicking ch => R (.panicked ch) w
    | .run => False
  | d :: ds, u, w => match d.target with
    | .fn (.func f) cap => bif F f then u ≠ .run ∧ CallsD P f (d.args ++ cap) u w fun e u' w' => match e with
        | .returned _ => leaveWp P F fin R ds (settle u') w'
        | .panicked c => leaveWp P F fin R ds (raised u' c) w'
        | .outgrown => False
      else False
    | _ => False
def finish (P : Program) (F : Nat → Bool) (rs : List ResultVar) (R : Ending → World → Prop) : Post := fun e E D w =>
  match e with
  | .normal => leaveWp P F (fun w' => resVals P E w' rs fun vs => R (.returned (oneOrTuple vs)) w') R D .returning w
  | .ret => leaveWp P F (fun w' => resVals P E w' rs fun vs => R (.returned (oneOrTuple vs)) w') R D .returning w
  | .panic ch => leaveWp P F (fun w' => resVals P E w' rs fun vs => R (.returned (oneOrTuple vs)) w') R D (.panicking ch) w
  | _ => False
def argEnv : Nat → List Value → Env
  | _, [] => []
  | i, v :: r => (i, some v) :: argEnv (i + 1) r

theorem resVals_sound {E : Env} {D : List Deferred} {a : Act} {w : World} (hA : Agrees N E D a) (g : ResultVar → Sem Value) (h1 : ∀ t, g (.tmp t) = pure (a.tmps.getD t undef))
    (h2 : ∀ x t, g (.cell x t) = (do loadVar t (← asAddr (a.tmps.getD x undef)))) : ∀ {rs : List ResultVar} {K : List Value → Prop}, resVals P E w rs K →
    ∃ vs, (rs.mapM g).run P w = .ok vs w ∧ K vs
  | [], K, h => ⟨[], by simp, h⟩
  | .tmp t :: r, K, h => by
    simp only [resVals] at h
    split at h
    · rename_i v hv
      obtain ⟨vs, hr, hk⟩ := resVals_sound hA g h1 h2 h
      have : a.tmps.getD t undef = v := by have := hA.at_ t v hv; simp [Array.getD_eq_getD_getElem?, this]
      refine ⟨v :: vs, ?_, hk⟩
      simp only [List.mapM_cons, Sem.run_bind, Sem.run_pure, Result.andThen_ok, h1, this, hr]
    · exact h.elim
  | .cell t ty :: r, K, h => by
    simp only [resVals] at h
    split at h
    · rename_i ad hv
      obtain ⟨v, hl, h⟩ := load_sound h
      obtain ⟨vs, hr, hk⟩ := resVals_sound hA g h1 h2 h
      have : a.tmps.getD t undef = .pointer (some ad) := by have := hA.at_ t _ hv; simp [Array.getD_eq_getD_getElem?, this]
      refine ⟨v :: vs, ?_, hk⟩
      have e : asAddr (.pointer (some ad)) = pure ad := rfl
      simp only [List.mapM_cons, Sem.run_bind, Sem.run_pure, Result.andThen_ok, h2, this, e, hl, hr]
    · exact h.elim

theorem results_sound {fn : Func} {E : Env} {D : List Deferred} {a : Act} {w : World} (hA : Agrees N E D a) {K : Value → Prop} (h : resVals P E w fn.results.toList fun vs => K (oneOrTuple vs)) :
    ∃ v, (results fn a.tmps).run P w = .ok v w ∧ K v := by
  have key : ∀ g : ResultVar → Sem Value, (∀ t, g (.tmp t) = pure (a.tmps.getD t undef)) → (∀ x t, g (.cell x t) = (do loadVar t (← asAddr (a.tmps.getD x undef)))) →
      ∃ v, (do let vs ← fn.results.mapM g; pure (if h : vs.size = 1 then vs[0] else .tuple vs) : Sem Value).run P w = .ok v w ∧ K v := by
    intro g h1 h2
    obtain ⟨vs, hr, hk⟩ := resVals_sound hA g h1 h2 h
    refine ⟨_, ?_, hk⟩
    rw [Array.mapM_eq_mapM_toList, Sem.run_bind, Sem.run_map, hr]
    simp only [Result.andThen_ok, Sem.run_pure]
    congr 1
    match vs with
    | [] => rfl
    | [v] => rfl
    | v :: u :: r => simp [oneOrTuple]
  exact key _ (fun _ => rfl) (fun _ _ => rfl)

theorem leave_sound (hF : ∀ f, F f = true → callableB P f = true) {fn : Func} {tmps : Array Value} {fin : World → Prop} {R : Ending → World → Prop}
    (hfin : ∀ w, fin w → ∃ v, (results fn tmps).run P w = .ok v w ∧ R (.returned v) w) :
    ∀ (ds : List Deferred) (u : FrameMode) (w : World), leaveWp P F fin R ds u w → Leaves P fn tmps R ds u w
  | [], u, w, h => by
    cases u with
    | run => exact h.elim
    | returning => exact hfin w h
    | panicking ch => exact h
  | d :: ds, u, w, h => by
    obtain ⟨t, args⟩ := d
    unfold leaveWp at h
    simp only at h
    split at h
    · rename_i f cap
      cases hb : F f with
      | false => rw [hb] at h; exact h.elim
      | true =>
        rw [hb, cond_true] at h
        refine leaves_cons (f := f) (args := args ++ cap) h.1 ?_ (h.2.mono ?_)
        · simp only [invoke]
          exact run_callFunc (hF f hb) _ w
        · intro e u' w' he
          cases e with
          | returned v => exact leave_sound hF hfin ds _ w' he
          | panicked c => exact leave_sound hF hfin ds _ w' he
          | outgrown => exact he.elim
    · exact h.elim

theorem argEnv_get (n : Nat) : ∀ (l : List Value) (i t : Nat) (v : Value), get t (argEnv i l) = some v → i ≤ t ∧ l[t - i]? = some v
  | [], i, t, v, h => by cases h
  | u :: r, i, t, v, h => by
    simp only [argEnv, get] at h
    cases hb : Nat.beq i t with
    | true =>
      rw [hb, cond_true, Option.some.injEq] at h
      have := Nat.eq_of_beq_eq_true hb
      subst this
      simp [h]
    | false =>
      rw [hb, cond_false] at h
      have hne : i ≠ t := by rintro rfl; simp at hb
      obtain ⟨h1, h2⟩ := argEnv_get n r (i + 1) t v h
      refine ⟨by omega, ?_⟩
      rw [show t - i = (t - (i + 1)) + 1 by omega]
      simpa using h2

/-- **A FUNCTION's CONTRACT OUT OF WHAT 'wpc' ASKS.** -/
theorem calls_of_wpc (hF : ∀ f, F f = true → callableB P f = true) (hm : P.follows .mixedOrders = true) {f : FuncId} {fn : Func} {c : Code} {args : List Value} {w : World} {R : Ending → World → Prop}
    (hf : P.funcs[f]? = some fn) (hb : fn.body = some c) (hn : args.length ≤ fn.ntmps) (h : wpc P F fn.ntmps H 1 c (argEnv 0 args) [] w (finish P F fn.results.toList R)) : Calls P f args.toArray w R := by
  refine calls_of_wp_defers hf hb ?_
  have hA : Agrees fn.ntmps (argEnv 0 args) [] { tmps := args.toArray ++ Array.replicate (fn.ntmps - args.toArray.size) undef, defers := [] } := by
    refine ⟨by simp; omega, rfl, fun t v ht => ?_⟩
    obtain ⟨_, h2⟩ := argEnv_get 0 args 0 t v ht
    have hlt : t < args.length := by
      rcases Nat.lt_or_ge t args.length with h | h
      · exact h
      · rw [Nat.sub_zero, List.getElem?_eq_none h] at h2; cases h2
    rw [Array.getElem?_append_left (by simpa using hlt)]
    simpa using h2
  refine wp_mono (wpc_sound hF hm c 1 _ _ _ w _ hA h) ?_
  rintro e a' w' ⟨E', D', hA', _, hq⟩
  have hfin : ∀ w'', (resVals P E' w'' fn.results.toList fun vs => R (.returned (oneOrTuple vs)) w'') → ∃ v, (results fn a'.tmps).run P w'' = .ok v w'' ∧ R (.returned v) w'' :=
    fun w'' h'' => results_sound (K := fun v => R (.returned v) w'') hA' h''
  cases e with
  | normal => have := leave_sound hF hfin _ _ _ hq; rw [← hA'.defers] at this; exact this
  | ret => have := leave_sound hF hfin _ _ _ hq; rw [← hA'.defers] at this; exact this
  | panic ch => have := leave_sound hF hfin _ _ _ hq; rw [← hA'.defers] at this; exact this
  | _ => exact hq.elim
end
end Go.Eng
