/- Ranges over maps; keys that are structs. It speaks of any program. -/
import Derived.Test.YthhgbpmihhljdaaDoorBay
import Derived.Test.YthhgbpmihhljdaaDoorBaw
import Derived.Test.YthhgbpmihhljdaaDoorBar
namespace Go.Eng
open Go Go.RowKit
section
variable {w0 w w' : World} {Γ : List Fct} {P : Program} {t kt e : TypeId} {g r : Nat} {es : Array MapEntry} {clock : Nat}
def Fct.mpx (g : Nat) (es : Array MapEntry) (clock : Nat) : Fct := ⟨fun k => k = g, fun w => w.heap[g]? = some (.map es clock), fun _ _ _ h _ hm hn => (hm.block g (heap_lt h) (hn g rfl)).trans h⟩
def ItAt (w : World) (r g : Nat) (es : Array MapEntry) (clock : Nat) (left : List MapEntry) : Prop :=
  ∃ since seen c0, w.heap[r]? = some (.mapIter (some g) since seen c0) ∧ (∀ x ∈ es.toList, x.born < since) ∧ since ≤ c0 ∧ since ≤ clock ∧ left.Perm (leftOf es seen).toList
def Fct.it (r g : Nat) (es : Array MapEntry) (clock : Nat) (left : List MapEntry) : Fct :=
  ⟨fun k => k = r, fun w => ItAt w r g es clock left, fun _ _ _ ⟨a, b, c, h, h'⟩ _ hm hn => ⟨a, b, c, (hm.block r (heap_lt h) (hn r rfl)).trans h, h'⟩⟩
theorem RangeVC.sep {F : Nat → World → Prop} {kv : List (Value × Value)} (H : Sep Γ w) (i : Nat) (ht : P.underlying t = some (.map kt e)) (hi : Γ[i]? = some (Fct.mp g kv))
    (h : ∀ r es clock w', MapIs es clock kv → Sep (Γ.set i (Fct.mpx g es clock) ++ [Fct.it r g es clock es.toList]) w' → F r w') : RangeVC P t (.map (some g)) w F := by
  obtain ⟨es, clock, hb, hm⟩ := H.yes i _ hi
  refine ⟨_, _, run_range_map w t kt e g es clock ht hb, h _ es clock _ hm ?_⟩
  have H1 : Sep (Γ.set i (Fct.mpx g es clock)) w := H.weaken i hi hb fun k hk => hk
  refine H1.push (Ext.alloc w _) (Fct.it w.heap.size g es clock es.toList) ⟨clock, #[], clock, (MapKept.heap_alloc w _).1, hm.born, Nat.le_refl _, Nat.le_refl _, ?_⟩ fun k hk => by
    have : k = w.heap.size := hk
    subst this
    exact ⟨Nat.le_refl _, by simp⟩
  have : (leftOf es #[]).toList = es.toList := by unfold leftOf; simp
  rw [this]
theorem NextVC.sep {F0 : World → Prop} {F1 : Value → Value → World → Prop} {ty : TypeId} {left : List MapEntry} (H : Sep Γ w) (i j : Nat) (hi : Γ[i]? = some (Fct.mpx g es clock)) (hj : Γ[j]? = some (Fct.it r g es clock left)) (hn : (es.toList.map (·.born)).Nodup)
    (h0 : left = [] → F0 w) (h1 : ∀ e left' w', left.Perm (e :: left') → e ∈ es.toList → Sep (Γ.set j (Fct.it r g es clock left')) w' → (Instr.entry (.pointer (some ⟨r, 0, none⟩))).run P w' = .ok (.tuple #[e.key, e.val]) w' → F1 e.key e.val w') :
    NextVC P (.pointer (some ⟨r, 0, none⟩)) ty w F0 F1 := by
  have hb : w.heap[g]? = some (.map es clock) := H.yes i _ hi
  obtain ⟨since, seen, c0, hr, hold, hsc, hcl, hp⟩ := H.yes j _ hj
  have hne : r ≠ g := fun e => by rw [e, hb] at hr; cases hr
  rcases run_next_at (P := P) w ty r g since c0 seen es clock hr hb hold hsc with ⟨hz, hrun⟩ | ⟨c, hc, w1, hal, hrun⟩
  · refine .inl ⟨w, hrun, h0 ?_⟩
    have : (leftOf es seen).toList = [] := List.eq_nil_of_length_eq_zero (by simpa using hz)
    rw [this] at hp
    exact hp.eq_nil
  · obtain ⟨hem, hes⟩ := mem_left hc
    have hE1 : Ext w w1 := by rcases hal with rfl | rfl; exact Mod.refl _ _; exact Ext.drew w
    have hr1 : w1.heap[r]? = some (.mapIter (some g) since seen c0) := by rcases hal with rfl | rfl <;> exact hr
    have hb1 : w1.heap[g]? = some (.map es clock) := by rcases hal with rfl | rfl <;> exact hb
    have hset := MapKept.heap_set (o' := Obj.mapIter (some g) since (seen.push c.born) clock) hr1
    have hm : Mod (fun k => k = r) w (ChangeMaps.setBlock w1 r (.mapIter (some g) since (seen.push c.born) clock)) := by
      refine (hE1.to _).trans ⟨rfl, rfl, rfl, by simp [ChangeMaps.setBlock], fun k _ hk => hset.2 k hk⟩
    have hr2 : (ChangeMaps.setBlock w1 r (.mapIter (some g) since (seen.push c.born) clock)).heap[r]? = some (.mapIter (some g) since (seen.push c.born) clock) := hset.1
    have hb2 : (ChangeMaps.setBlock w1 r (.mapIter (some g) since (seen.push c.born) clock)).heap[g]? = some (.map es clock) := (hset.2 g fun e => hne e.symm).trans hb1
    refine .inr ⟨_, _, _, hrun, ?_⟩
    obtain ⟨left', hl'⟩ : ∃ left' : List MapEntry, left' = (leftOf es (seen.push c.born)).toList := ⟨_, rfl⟩
    have hperm : left.Perm (c :: left') := by
      refine hp.trans ?_
      rw [hl']
      have e1 : (leftOf es seen).toList = es.toList.filter fun x => !seen.contains x.born := by unfold leftOf; simp
      have e2 : (leftOf es (seen.push c.born)).toList = es.toList.filter fun x => !(seen.push c.born).contains x.born := by unfold leftOf; simp
      rw [e1, e2]
      have key : ∀ (l : List MapEntry), (l.map (·.born)).Nodup → c ∈ l → seen.contains c.born = false → (l.filter fun x => !seen.contains x.born).Perm (c :: l.filter fun x => !(seen.push c.born).contains x.born) := by
        intro l
        induction l with
        | nil => intro _ h; cases h
        | cons x l ih =>
          intro hn hx hs
          rw [List.map_cons, List.nodup_cons] at hn
          rcases List.mem_cons.1 hx with rfl | hx
          · have e3 : ∀ y ∈ l, (!(seen.push c.born).contains y.born) = !seen.contains y.born := fun y hy => by
              rw [contains_push]
              have : (y.born == c.born) = false := by
                rw [beq_eq_false_iff_ne]; intro e; exact hn.1 (List.mem_map.2 ⟨y, hy, e⟩)
              rw [this, Bool.or_false]
            rw [List.filter_cons, if_pos (by rw [hs]; rfl), List.filter_cons, if_neg (by rw [contains_push]; simp), List.filter_congr e3]
          · have hxc : (x.born == c.born) = false := by
              rw [beq_eq_false_iff_ne]; intro e; exact hn.1 (List.mem_map.2 ⟨c, hx, e.symm⟩)
            have e4 : (seen.push c.born).contains x.born = seen.contains x.born := by rw [contains_push, hxc, Bool.or_false]
            have := ih hn.2 hx hs
            rw [List.filter_cons, List.filter_cons, e4]
            cases hsx : seen.contains x.born with
            | true => simpa using this
            | false =>
              simp only [Bool.not_false, if_true]
              exact (this.cons x).trans (List.Perm.swap c x _)
      exact key es.toList hn hem hes
    refine h1 c left' _ hperm hem (H.mod j hj hm (fun k _ hk => hk) (Fct.it r g es clock left') ⟨since, seen.push c.born, clock, hr2, hold, hcl, hcl, by rw [hl']⟩ fun k hk => .inl hk) (run_entry_at _ r g since seen es clock c hr2 hb2 hem hn)
/-- How many rounds are to come. -/
def leftN (w : World) (g r : Nat) : Nat :=
  match w.heap[g]?, w.heap[r]? with
  | some (.map es _), some (.mapIter _ _ seen _) => (leftOf es seen).size
  | _, _ => 0
theorem Sep.leftN {left : List MapEntry} (H : Sep Γ w) (i j : Nat) (hi : Γ[i]? = some (Fct.mpx g es clock)) (hj : Γ[j]? = some (Fct.it r g es clock left)) : Eng.leftN w g r = left.length := by
  have hb : w.heap[g]? = some (.map es clock) := H.yes i _ hi
  obtain ⟨since, seen, c0, hr, _, _, _, hp⟩ := H.yes j _ hj
  unfold Eng.leftN
  rw [hb, hr, hp.length_eq]
  simp
/-- What is apart. -/
theorem Sep.far {F : List Fct} {f g : Fct} {i : Nat} (H : Sep (Γ ++ F) w) (hi : Γ[i]? = some f) (hg : g ∈ F) : ∀ k, f.R k → g.R k → False := by
  have h := (List.pairwise_append.1 (Sep.iff.1 H).2).2.2
  exact h f (List.mem_of_getElem? hi) g hg
/-- A range is over: the map as it was. -/
theorem Sep.mpOf {kv : List (Value × Value)} (H : Sep Γ w) (i : Nat) (hi : Γ[i]? = some (Fct.mpx g es clock)) (hm : MapIs es clock kv) : Sep (Γ.set i (Fct.mp g kv)) w :=
  H.weaken i hi ⟨es, clock, H.yes i _ hi, hm⟩ fun _k hk => hk
end
theorem perm_back {α β : Type} (f : α → β) {l : List α} {m : List β} (h : (l.map f).Perm m) : ∃ l' : List α, l'.Perm l ∧ l'.map f = m := by
  generalize hk : l.map f = k at h
  induction h generalizing l with
  | nil => exact ⟨[], by rw [List.map_eq_nil_iff.1 hk], rfl⟩
  | cons x _ ih =>
    cases l with
    | nil => cases hk
    | cons a l =>
      injection hk with h1 h2
      obtain ⟨l', h3, h4⟩ := ih h2
      exact ⟨a :: l', h3.cons a, by simp [h1, h4]⟩
  | swap x y m =>
    match l, hk with
    | a :: b :: l, hk =>
      injection hk with h1 h2
      injection h2 with h2 h3
      exact ⟨b :: a :: l, .swap a b l, by simp [h1, h2, h3]⟩
  | trans _ _ ih1 ih2 =>
    obtain ⟨l1, h1, h2⟩ := ih1 hk
    obtain ⟨l2, h3, h4⟩ := ih2 h2
    exact ⟨l2, h3.trans h1, h4⟩
/-! ### Keys that are structs -/
def ckV (P : Program) : Nat → TypeId → Value → Bool
  | 0, _, _ => false
  | d + 1, t, v => match P.underlying t, v with
    | some (.interface _), _ => false
    | some (.array n e), .agg cs => match P.info? e with
      | some _ => (List.range n).all fun i => match partOf P e cs (i * P.cellsOf e) with
        | some x => ckV P d e x
        | none => false
      | none => false
    | some (.array _ _), _ => false
    | some (.struct fs), .agg cs => fs.toList.all fun f => f.name != "_" && match partOf P f.type cs f.offset with
      | some x => ckV P d f.type x
      | none => false
    | some (.struct _), _ => false
    | some _, _ => true
    | none, _ => false
theorem ck_sound {P : Program} {em : Bool} : ∀ (d D : Nat) (t : TypeId) (v : Value), ckV P d t v = true → ∀ w : World, (Instr.checkKey em (D + d) t v).run P w = .ok () w
  | 0, _, _, _, h, _ => by simp [ckV] at h
  | d + 1, D, t, v, h, w => by
    have ih := fun t v h => ck_sound (P := P) (em := em) d D t v h w
    unfold ckV at h
    rw [show D + (d + 1) = (D + d) + 1 from rfl, Instr.checkKey]
    cases hu : P.underlying t with
    | none => simp [hu] at h
    | some td =>
      rw [hu] at h
      simp only [Sem.run_bind, run_underlying hu, Result.andThen_ok]
      cases td
      case interface ms => cases h
      case array n e =>
        cases v <;> simp only [Bool.false_eq_true] at h
        rename_i cs
        cases hi : P.info? e with
        | none => rw [hi] at h; cases h
        | some i =>
          rw [hi] at h
          simp only [Std.Legacy.Range.forIn_eq_forIn_range', Std.Legacy.Range.size, Nat.sub_zero, Nat.add_one_sub_one, Nat.div_one]
          rw [List.range_eq_range'] at h
          have each := List.all_eq_true.1 h
          clear h
          generalize List.range' 0 n = is at each
          induction is with
          | nil => simp
          | cons j is ihs =>
            have hj := each j (by simp)
            cases hp : partOf P e cs (j * P.cellsOf e) with
            | none => rw [hp] at hj; cases hj
            | some a =>
              rw [hp] at hj
              simp only [List.forIn_cons, Sem.run_bind, run_sizeOf w hi, Result.andThen_ok, run_part hp, ih e a hj, Sem.run_pure]
              have hr := ihs (fun y hy => each y (by simp [hy]))
              simp only [Sem.run_bind] at hr
              exact hr
      case struct fs =>
        cases v <;> simp only [Bool.false_eq_true] at h
        rename_i cs
        have each := List.all_eq_true.1 h
        clear h
        simp only
        rw [← Array.forIn_toList]
        generalize fs.toList = L at each
        induction L with
        | nil => simp
        | cons f L ihs =>
          have hf := each f (by simp)
          simp only [Bool.and_eq_true, bne_iff_ne, ne_eq] at hf
          cases hp : partOf P f.type cs f.offset with
          | none => rw [hp] at hf; cases hf.2
          | some a =>
            rw [hp] at hf
            simp only [List.forIn_cons, Sem.run_bind, hf.1, ne_eq, not_false_eq_true, if_true, Result.andThen_ok, run_part hp, ih f.type a hf.2, Sem.run_pure]
            have hr := ihs (fun y hy => each y (by simp [hy]))
            simp only [Sem.run_bind] at hr
            exact hr
      all_goals (cases v <;> rfl)
end Go.Eng
/- Chapter 11: a datagram in the making, in memory; New, Total, Whole, top, refused. -/
namespace Go.Eng
open Go Go.RowKit
section
variable {w : World} {Γ : List Fct} {b e size n c : Nat} {A : Option Addr} {xs : List Value}
/-- A row of the call's own, as the block that it is. -/
theorem Sep.ownBlk (H : Sep Γ w) (i : Nat) (hi : Γ[i]? = some (Fct.own b e size (.slice A n c) n xs)) (hn : A ≠ none) :
    ∃ g cs, A = some ⟨g, 0, none⟩ ∧ b ≤ g ∧ cs.take (n * size) = xs ∧ cs.length = c * size ∧ c ≤ maxLen ∧ n ≤ c ∧ Sep (Γ.set i (Fct.blk g e cs)) w := by
  have ho := H.own i hi
  rcases ho.2 with ⟨hv, _⟩ | ⟨g, cap, cur, hv, hb, hg, hc, hm, hs, ht⟩
  · injection hv with h1; exact absurd h1 hn
  · injection hv with h1 h2 h3
    subst h1; subst h3
    refine ⟨g, cur.toList, rfl, hb, ht, by simpa using hs, hm, hc, H.weaken i hi (by show Blk w g e cur.toList; unfold Blk; simpa using hg) fun k hk => ?_⟩
    have : k = g := hk
    subst this; rfl
theorem Sep.blkOwn' {g : Nat} {cs : List Value} (H : Sep Γ w) (i : Nat) (hi : Γ[i]? = some (Fct.blk g e cs)) (hb : b ≤ g) (hc : cs.length = c * size) (hn : n ≤ c) (hm : c ≤ maxLen) :
    Sep (Γ.set i (Fct.own b e size (.slice (some ⟨g, 0, none⟩) n c) n (cs.take (n * size)))) w := by
  refine H.weaken i hi ⟨?_, .inr ⟨g, c, cs.toArray, rfl, hb, H.blk i hi, hn, hm, by simpa using hc, by simp⟩⟩ fun k hk => ?_
  · rw [List.length_take, hc]
    have : n * size ≤ c * size := Nat.mul_le_mul_right _ hn
    omega
  · have : some g = some k := hk
    injection this with this
    exact this.symm
end
end Go.Eng
namespace Go.Proofs.YthhgbpmihhljdaaDoor
namespace N6
open Go Go.Eng Go.RowKit
theorem pcv_beq {a b : PcV} : PcV.beq a b = true ↔ a = b := by
  unfold PcV.beq
  simp only [Bool.and_eq_true, decide_eq_true_eq, beq_iff_eq, and_true]
  constructor
  · rintro ⟨h1, h2, h3⟩
    cases a; cases b
    simp only at h1 h2 h3
    subst h1; subst h2; subst h3; rfl
  · rintro rfl; exact ⟨rfl, rfl, rfl⟩
theorem pcv_key : KeyOk Tryd.prog 110 PcV.val PcV.beq where
  wide := by kernel_rfl
  check x em w := ck_sound 6 9994 _ _ (by kernel_rfl) w
  eq x y w := eqV_sound 6 9994 _ _ _ _ (by kernel_rfl) w
  same x y := pcv_beq
  bits x := by simp [Instr.sameBits, PcV.val]
structure HolR where
  g : Nat
  m : Nat
  bufA : Sl
  gapA : Sl
  held : Int
  s : HolS
def gapC (l : List (Int × Int)) : List Value := (l.map fun g => (⟨g.1, g.2⟩ : GapV).cells).flatten
def seenK (l : List PcV) : List (PcV × Value) := l.map fun p => (p, .agg #[])
def HolR.cells (r : HolR) : List Value := [.int .i64 r.s.max, .slice r.bufA.A r.bufA.n r.bufA.k, .slice r.gapA.A r.gapA.n r.gapA.k, .int .i64 r.s.fin, .int .i64 r.held, .map (some r.m)]
abbrev rowG (b : Nat) (s : Sl) (l : List (Int × Int)) : Fct := Fct.own b 107 2 s.val s.n (gapC l)
abbrev seenF (m : Nat) (l : List PcV) : Fct := Fct.mp m (kvs PcV.val (seenK l))
def holFs (r : HolR) : List Fct := [Fct.blk r.g 97 r.cells, rowB 0 r.bufA r.s.buf, rowG 0 r.gapA r.s.gaps, seenF r.m r.s.seen]
abbrev HolR.p (r : HolR) : Value := .pointer (some ⟨r.g, 0, none⟩)
theorem tG : TypeIs Tryd.prog 107 (.agg #[.int .i64 0, .int .i64 0]) 2 16 := .of (by kernel_rfl)
section
variable {w : World} {Γ : List Fct} {r : HolR}
theorem gapC_len : ∀ l : List (Int × Int), (gapC l).length = l.length * 2
  | [] => rfl
  | g :: l => by
    have := gapC_len l
    unfold gapC at this ⊢
    rw [List.map_cons, List.flatten_cons, List.length_append, this, List.length_cons]
    show 2 + _ = _
    omega
theorem gapC_app (a b : List (Int × Int)) : gapC (a ++ b) = gapC a ++ gapC b := by unfold gapC; simp
theorem gapC_get {l : List (Int × Int)} {i : Nat} {g : Int × Int} (h : l[i]? = some g) : (gapC l)[i * 2]? = some (.int .i64 g.1) ∧ (gapC l)[i * 2 + 1]? = some (.int .i64 g.2) := by
  induction l generalizing i with
  | nil => simp at h
  | cons x l ih =>
    have e : gapC (x :: l) = .int .i64 x.1 :: .int .i64 x.2 :: gapC l := rfl
    rw [e]
    cases i with
    | zero => simp at h; subst h; exact ⟨rfl, rfl⟩
    | succ i =>
      have := ih (by simpa using h)
      rw [show (i + 1) * 2 = (i * 2 + 1) + 1 by omega]
      simpa using this
theorem gapC_take (l : List (Int × Int)) (n : Nat) : (gapC l).take (n * 2) = gapC (l.take n) := by
  induction l generalizing n with
  | nil => simp [gapC]
  | cons x l ih =>
    have e : gapC (x :: l) = .int .i64 x.1 :: .int .i64 x.2 :: gapC l := rfl
    cases n with
    | zero => rw [Nat.zero_mul]; rfl
    | succ n =>
      rw [e, show (n + 1) * 2 = n * 2 + 1 + 1 by omega, List.take_succ_cons, List.take_succ_cons, ih n]
      rfl
theorem gapC_drop (l : List (Int × Int)) (n : Nat) : (gapC l).drop (n * 2) = gapC (l.drop n) := by
  induction l generalizing n with
  | nil => simp [gapC]
  | cons x l ih =>
    have e : gapC (x :: l) = .int .i64 x.1 :: .int .i64 x.2 :: gapC l := rfl
    cases n with
    | zero => rw [Nat.zero_mul]; rfl
    | succ n =>
      rw [e, show (n + 1) * 2 = n * 2 + 1 + 1 by omega, List.drop_succ_cons, List.drop_succ_cons, ih n]
      rfl
theorem gapC_one (l : List (Int × Int)) : ∀ u ∈ gapC l, u.oneCell' = true := by
  intro u hu
  unfold gapC at hu
  obtain ⟨cs, hcs, hu⟩ := List.mem_flatten.1 hu
  obtain ⟨g, _, rfl⟩ := List.mem_map.1 hcs
  exact GapV.one _ u hu
theorem gaps_n (ho : w.ownsRow 0 107 2 r.gapA.val r.gapA.n (gapC r.s.gaps)) : r.gapA.n = r.s.gaps.length := by
  have := ho.1
  rw [gapC_len] at this
  omega
theorem buf_n (ho : w.ownsRow 0 5 1 r.bufA.val r.bufA.n (r.s.buf.map (.int .u8))) : r.bufA.n = r.s.buf.length := by
  have := ho.1
  simpa using this.symm
/-- One gap is looked at. -/
theorem gap_idx {i m : Nat} {gs : List (Int × Int)} {A : Option Addr} {ix : Int} {F : Addr → Prop} (hc : Cells w A (gapC gs)) (hx : ix = i) (hm : i < m) {g : Int × Int} (hg : gs[i]? = some g)
    (hF : ∀ a, (∀ w', Cells w' A (gapC gs) → CellsAt w' a 0 (⟨g.1, g.2⟩ : GapV).cells) → F a) : IdxVC A m 2 ix F := by
  subst hx
  have h12 := gapC_get hg
  obtain ⟨a, ha, _⟩ := hc _ _ h12.1
  refine ⟨a, ha, by omega, by omega, hF _ fun w' hc' => ?_⟩
  obtain ⟨a1, ha1, h1⟩ := hc' _ _ h12.1
  obtain ⟨a2, ha2, h2⟩ := hc' _ _ h12.2
  rw [ha] at ha1 ha2; cases ha1; cases ha2
  rw [Int.toNat_natCast]
  exact ⟨by rw [add_add]; exact h1, by rw [add_add]; exact h2, trivial⟩
theorem hole_new {max : Int} (h1 : 1 ≤ max) (h2 : max ≤ 65535) : Calls Tryd.prog 27 #[.int .i64 max] w fun e w' => ∃ r : HolR, e = .returned (.tuple #[r.p, .int .i64 0]) ∧ r.s = HolS.start max ∧ Sep (Fct.rest w None :: holFs r) w' := by
  refine hole_New_of max w _ ?_
  unfold hole_New_VC
  refine Br.no (by omega) (Br.no (by omega) (NewVC.sep (Sep.start0 w) fun g1 w1 H => NewMapVC.sep H fun g2 w2 H => NewVC.sep H fun g3 w3 H => ?_))
  refine ⟨⟨g3, g2, Sl.z, ⟨some ⟨g1, 0, none⟩, 1, 1⟩, 0, HolS.start max⟩, rfl, rfl, ?_⟩
  have H := H.blkOwn' 1 rfl (b := 0) (size := 2) (n := 1) (c := 1) (Nat.zero_le _) rfl (Nat.le_refl _) (by decide)
  have H := H.nil 0 5 1
  have key : ∀ (a b c d e : Fct), [a, d, e, b, c].Perm [a, b, c, d, e] := fun a b c d e => perm_cn fun c o h1 h2 h3 => by simp only [h2, h3]; omega
  exact H.perm (key _ _ _ _ _)
/-! ### What only reads -/
theorem hol_sub {w' : World} (H : Sep (holFs r) w) (hE : Ext w w') : Blk w' r.g 97 r.cells ∧ Cells w' r.gapA.A (gapC r.s.gaps) ∧ Cells w' r.bufA.A (r.s.buf.map (.int .u8)) ∧ MapAt w' r.m (kvs PcV.val (seenK r.s.seen)) := by
  have H := H.ext hE
  exact ⟨H.blk 0 rfl, own_cells (A := r.gapA.A) (c := r.gapA.k) (H.own 2 rfl), own_cells (A := r.bufA.A) (c := r.bufA.k) (H.own 1 rfl), H.yes 3 _ rfl⟩
theorem total_spec (H : Sep (holFs r) w) (_hk : HolOk r.s) : Calls Tryd.prog 28 #[r.p] w fun e w' => Ext w w' ∧ e = .returned (.tuple #[.int .i64 (if r.s.fin < 0 then 0 else r.s.fin), .bool (decide (0 ≤ r.s.fin))]) := by
  refine hole_Holes_Total_of _ w _ ?_
  unfold hole_Holes_Total_VC
  refine DrawVC.of (fun w' => Blk w' r.g 97 r.cells) fun w1 hE1 _ => ⟨(hol_sub H hE1).1, ?_⟩
  exact ⟨_, rfl, _, fun w' hb => hb.cell 3, _, rfl, _, fun w' hb => hb.cell 3, (hol_sub H hE1).1, hE1, rfl⟩
theorem whole_spec (H : Sep (holFs r) w) : Calls Tryd.prog 33 #[r.p] w fun e w' => w' = w ∧ e = .returned (.bool (decide (0 ≤ r.s.fin ∧ r.s.gaps = []))) := by
  refine hole_Holes_Whole_of _ w _ ?_
  unfold hole_Holes_Whole_VC
  have hb := H.blk 0 rfl
  have hn := gaps_n (r := r) (H.own 2 rfl)
  refine ⟨_, rfl, _, hb.cell 3, Br.dec (fun h => ⟨_, rfl, _, _, _, hb.cell 2, rfl, ?_⟩) fun h => ⟨rfl, ?_⟩⟩
  · congr 2
    refine decide_eq_decide.2 ⟨fun h0 => ⟨h, List.eq_nil_of_length_eq_zero (by omega)⟩, fun h0 => by rw [hn, h0.2]; rfl⟩
  · congr 2
    exact (decide_eq_false fun h0 => h h0.1).symm
theorem top_spec (H : Sep (holFs r) w) : Calls Tryd.prog 51 #[r.p] w fun e w' => Ext w w' ∧ e = .returned (.int .i64 (topS r.s.gaps r.s.max)) := by
  refine hole_Holes_top_of _ w _ ?_
  unfold hole_Holes_top_VC
  have hb := H.blk 0 rfl
  have hn := gaps_n (r := r) (H.own 2 rfl)
  refine ⟨_, rfl, _, _, _, hb.cell 2, Br.dec (fun h => ?_) fun h => ?_⟩
  · refine ⟨_, rfl, _, hb.cell 0, Mod.refl _ _, ?_⟩
    have : r.s.gaps = [] := List.eq_nil_of_length_eq_zero (by omega)
    unfold topS
    rw [this]; rfl
  · obtain ⟨l, g, hlg⟩ : ∃ l g, r.s.gaps = l ++ [g] := by
      rcases List.eq_nil_or_concat r.s.gaps with h0 | ⟨l, g, h0⟩
      · rw [h0] at hn; exact absurd hn (by simp; omega)
      · exact ⟨l, g, by simpa using h0⟩
    have hlen : r.s.gaps.length = l.length + 1 := by rw [hlg]; simp
    have hg : r.s.gaps[l.length]? = some g := by rw [hlg]; simp
    have ht : topS r.s.gaps r.s.max = if g.2 = r.s.max then g.1 else r.s.max := by unfold topS; rw [hlg, List.getLast?_concat]
    have hsmall := own_le (H.own 2 rfl)
    have hok := (H.own 2 rfl)
    have hmax : r.gapA.n ≤ maxLen := by
      rcases hok.2 with ⟨hv, h0⟩ | ⟨g', cap, cur, hv, _, _, hc, hm, _, _⟩
      · rw [h0]; exact Nat.zero_le _
      · omega
    have hx : IntKind.i64.wrap ((r.gapA.n : Int) - 1) = (l.length : Int) := by
      unfold maxLen at hmax
      rw [w64 (by omega) (by omega)]; omega
    rw [ht]
    refine ⟨_, rfl, _, _, _, hb.cell 2, gap_idx (hol_sub H (Mod.refl _ _)).2.1 hx (by omega) hg fun a hc => ?_⟩
    refine GapV.of ⟨g.1, g.2⟩ ⟨hc w (hol_sub H (Mod.refl _ _)).2.1, ?_⟩
    refine NewVC.sep ((Sep.start0 w)) fun g1 w2 H2 => Stores.sep H2 1 rfl (GapV.one _) (Nat.le_refl _) (splice_all rfl) fun w3 H2 => ?_
    have hE3 := H2.restOf 0 rfl
    refine DrawVC.sep H2 (fun w' => Blk w' g1 107 (⟨g.1, g.2⟩ : GapV).cells ∧ Blk w' r.g 97 r.cells) fun w4 H2 => ?_
    have hE4 : Ext w w4 := H2.restOf 0 rfl
    refine ⟨⟨H2.blk 1 rfl, (hol_sub H hE4).1⟩, ⟨_, rfl, by decide, by decide, ⟨g.2, fun w' hb => hb.1.cell 1, _, rfl, _, fun w' hb => hb.2.cell 0, Br.dec (fun he => ?_) fun he => ?_⟩⟩⟩
    · rw [if_pos he]
      exact ⟨_, rfl, by decide, by decide, _, (H2.blk 1 rfl).cell 0, hE4, rfl⟩
    · rw [if_neg he]
      exact ⟨_, rfl, _, (hol_sub H hE4).1.cell 0, hE4, rfl⟩
theorem refused_spec {off : Int} {S : Sl} {more : Bool} (H : Sep (holFs r) w) (hk : HolOk r.s) :
    Calls Tryd.prog 41 #[r.p, .int .i64 off, S.val, .bool more] w fun e w' => Ext w w' ∧ e = .returned (.int .i64 (refusedS r.s off S.n more)) := by
  refine hole_Holes_refused_of _ off S.A S.n S.k more w _ ?_
  unfold hole_Holes_refused_VC refusedS
  have hm1 := hk.m1
  have hm2 := hk.m2
  refine Br.dec (fun h1 => ⟨Mod.refl _ _, by rw [if_pos h1]⟩) fun h1 => ?_
  rw [if_neg h1]
  refine JoinVC.of (fun b w' => w' = w ∧ b = decide (off < 0 ∨ off % 8 ≠ 0 ∨ (more = true ∧ (S.n : Int) % 8 ≠ 0))) ?_ ?_
  · refine Br.dec (fun h => ⟨rfl, (decide_eq_true (.inl h)).symm⟩) fun h => ?_
    rw [Int.tmod_eq_emod_of_nonneg (by omega), Int.tmod_eq_emod_of_nonneg (by omega)]
    refine Br.dec (fun h2 => ⟨rfl, (decide_eq_true (.inr (.inl h2))).symm⟩) fun h2 => ?_
    cases more with
    | true => exact Br.t rfl ⟨rfl, decide_eq_decide.2 ⟨fun h3 => .inr (.inr ⟨rfl, h3⟩), fun h3 => h3.elim (fun h4 => absurd h4 h) fun h3 => h3.elim (fun h4 => absurd h4 h2) fun h4 => h4.2⟩⟩
    | false => exact Br.f rfl ⟨rfl, (decide_eq_false fun h3 => h3.elim (fun h4 => absurd h4 h) fun h3 => h3.elim (fun h4 => absurd h4 h2) fun h4 => by cases h4.1).symm⟩
  rintro _ w1 ⟨rfl, rfl⟩
  unfold hole_Holes_refused_J115
  refine Br.dec (fun h2 => ⟨Mod.refl _ _, by rw [if_pos h2]⟩) fun h2 => ?_
  rw [if_neg h2]
  refine Br.dec (fun h3 => ⟨Mod.refl _ _, by rw [if_pos (by omega)]⟩) fun h3 => ?_
  rw [if_neg (by omega)]
  have hb := H.blk 0 rfl
  refine JoinVC.of (fun b w' => w' = w1 ∧ b = decide (r.s.max < off ∨ r.s.max < off + S.n)) ?_ ?_
  · refine ⟨_, rfl, _, hb.cell 0, Br.dec (fun h => ⟨rfl, (decide_eq_true (.inl h)).symm⟩) fun h => ⟨_, rfl, _, hb.cell 0, rfl, ?_⟩⟩
    rw [w64 (by omega) (by omega)]
    exact decide_eq_decide.2 ⟨fun h4 => .inr h4, fun h4 => h4.elim (fun h5 => absurd h5 h) id⟩
  rintro _ w2 ⟨rfl, rfl⟩
  unfold hole_Holes_refused_J1855
  refine Br.dec (fun h4 => ⟨Mod.refl _ _, by rw [if_pos h4]⟩) fun h4 => ?_
  rw [if_neg h4]
  have hw : IntKind.i64.wrap (off + (S.n : Int)) = off + S.n := w64 (by omega) (by omega)
  refine JoinVC.of (fun b w' => w' = w2 ∧ b = decide (0 ≤ r.s.fin ∧ more = false ∧ off + S.n ≠ r.s.fin)) ?_ ?_
  · refine ⟨_, rfl, _, hb.cell 3, Br.dec (fun h => ?_) fun h => ⟨rfl, (decide_eq_false fun h5 => h h5.1).symm⟩⟩
    cases more with
    | false =>
      refine Br.t rfl ⟨_, rfl, _, hb.cell 3, rfl, ?_⟩
      rw [hw]
      exact decide_eq_decide.2 ⟨fun h5 => ⟨h, rfl, h5⟩, fun h5 => h5.2.2⟩
    | true => exact Br.f rfl ⟨rfl, (decide_eq_false fun h5 => by cases h5.2.1).symm⟩
  rintro _ w3 ⟨rfl, rfl⟩
  unfold hole_Holes_refused_J7423
  refine Br.dec (fun h5 => ⟨Mod.refl _ _, by rw [if_pos h5]⟩) fun h5 => ?_
  rw [if_neg h5]
  refine JoinVC.of (fun b w' => w' = w3 ∧ b = decide (0 ≤ r.s.fin ∧ more = true ∧ r.s.fin < off + S.n)) ?_ ?_
  · refine ⟨_, rfl, _, hb.cell 3, Br.dec (fun h => ?_) fun h => ⟨rfl, (decide_eq_false fun h6 => h h6.1).symm⟩⟩
    cases more with
    | true =>
      refine Br.t rfl ⟨_, rfl, _, hb.cell 3, rfl, ?_⟩
      rw [hw]
      exact decide_eq_decide.2 ⟨fun h6 => ⟨h, rfl, h6⟩, fun h6 => h6.2.2⟩
    | false => exact Br.f rfl ⟨rfl, (decide_eq_false fun h6 => by cases h6.2.1).symm⟩
  rintro _ w4 ⟨rfl, rfl⟩
  unfold hole_Holes_refused_J29695
  refine Br.dec (fun h6 => ⟨Mod.refl _ _, by rw [if_pos h6]⟩) fun h6 => ?_
  rw [if_neg h6]
  refine ⟨_, rfl, _, hb.cell 3, Br.dec (fun h7 => ?_) fun h7 => ⟨Mod.refl _ _, by rw [if_neg fun h8 => h7 h8.1]⟩⟩
  cases more with
  | true => exact Br.f rfl ⟨Mod.refl _ _, by rw [if_neg fun h8 => by cases h8.2.1]⟩
  | false =>
    refine Br.t rfl ((top_spec H).mono ?_)
    rintro _ w5 ⟨hE5, rfl⟩
    refine ⟨_, rfl, ?_⟩
    rw [hw]
    exact Br.dec (fun h8 => ⟨hE5, by rw [if_pos ⟨h7, rfl, h8⟩]⟩) fun h8 => ⟨hE5, by rw [if_neg fun h9 => h8 h9.2.2]⟩
/-- The whole, where all has come. -/
theorem bytes_spec (H : Sep (holFs r) w) (hk : HolOk r.s) : Calls Tryd.prog 16 #[r.p] w fun e w' =>
    (0 ≤ r.s.fin ∧ r.s.gaps = [] ∧ ∃ s' : Sl, e = .returned (.tuple #[s'.val, .bool true]) ∧ BFine s' (r.s.buf.take r.s.fin.toNat) ∧ Sep [Fct.rest w None, rowB 0 s' (r.s.buf.take r.s.fin.toNat)] w') ∨
    (¬ (0 ≤ r.s.fin ∧ r.s.gaps = []) ∧ e = .returned (.tuple #[.slice none 0 0, .bool false]) ∧ Ext w w') := by
  refine hole_Holes_Bytes_of _ w _ ?_
  unfold hole_Holes_Bytes_VC
  refine (whole_spec H).mono ?_
  rintro _ w1 ⟨rfl, rfl⟩
  refine ⟨_, rfl, ?_⟩
  by_cases hw : 0 ≤ r.s.fin ∧ r.s.gaps = []
  · rw [decide_eq_true hw]
    have hn := buf_n (r := r) (H.own 1 rfl)
    have hm2 := hk.m2
    have hbl := hk.blen
    have hfin : r.s.fin ≤ r.s.max ∧ r.s.fin ≤ r.s.buf.length := by
      rcases hk.fin with h | h
      · omega
      · exact h.2
    refine Br.f rfl (DrawVC.of (fun w' => Blk w' r.g 97 r.cells) fun w2 hE2 _ => ⟨(hol_sub H hE2).1, ?_⟩)
    refine ⟨_, rfl, _, _, _, fun w' hb => hb.cell 1, _, rfl, _, fun w' hb => hb.cell 3, ?_⟩
    have hcap := own_le (H.own 1 rfl)
    refine ⟨hw.1, by omega, ?_⟩
    refine (clone_spec (s := ⟨r.bufA.A, r.s.fin.toNat, r.bufA.k⟩) (l := r.s.buf.take r.s.fin.toNat) ⟨by rw [List.length_take]; show _ = r.s.fin.toNat; omega, by show r.s.fin.toNat ≤ r.bufA.k; omega, by show r.s.fin.toNat ≤ 4000000; omega, fun x hx => hk.bts x (List.mem_of_mem_take hx), ?_⟩).mono ?_
    · rw [List.map_take]; exact (hol_sub H hE2).2.2.1.take _
    · rintro _ w3 ⟨s', rfl, hB, hn', H3⟩
      have hE3 : Ext w1 w3 := hE2.ext (H3.restOf 0 rfl)
      refine ⟨_, _, _, rfl, (hol_sub H hE3).1, .inl ⟨hw.1, hw.2, s', rfl, hB, ?_⟩⟩
      have H4 := (Sep.start0 w1).ext hE2 |>.made H3
      exact H4.lower 1 rfl (Nat.zero_le _)
  · rw [decide_eq_false hw]
    exact Br.t rfl (.inr ⟨hw, rfl, Mod.refl _ _⟩)
end
end N6
end Go.Proofs.YthhgbpmihhljdaaDoor
/- Chapter 11: what Put walks with. -/
namespace Go.Eng
open Go Go.RowKit
section
variable {off to hi : Int} {d : List Int}
theorem newN_app : ∀ (a b : List (Int × Int)), newN off to (a ++ b) = newN off to a + newN off to b
  | [], b => by simp [newN]
  | g :: a, b => by simp only [List.cons_append, newN, newN_app a b]; omega
theorem bufN_app (x : List Int) : ∀ (a b : List (Int × Int)), bufN off to d x (a ++ b) = bufN off to d (bufN off to d x a) b
  | [], _ => rfl
  | g :: a, b => by simp only [List.cons_append, bufN, bufN_app _ a b]
theorem bufN_behind {x : List Int} : ∀ {gs : List (Int × Int)}, (∀ g ∈ gs, to ≤ g.1) → bufN off to d x gs = x
  | [], _ => rfl
  | g :: r, h => by
    have : buf1 off to d x g = x := by unfold buf1; rw [if_pos (h g (by simp))]
    simp only [bufN, this]
    exact bufN_behind fun y hy => h y (by simp [hy])
theorem cuts_behind : ∀ {gs : List (Int × Int)}, (∀ g ∈ gs, to ≤ g.1) → gs.flatMap (cutG off to) = gs
  | [], _ => rfl
  | g :: r, h => by
    have : cutG off to g = [g] := by unfold cutG; rw [if_pos (h g (by simp))]
    rw [List.flatMap_cons, this, cuts_behind fun y hy => h y (by simp [hy])]
    rfl
theorem Gs.drop {gs : List (Int × Int)} {g : Int × Int} : ∀ {l : List (Int × Int)} {lo : Int} {i : Nat}, Gs lo hi l → l[i]? = some g → to ≤ g.1 → ∀ x ∈ l.drop i, to ≤ x.1
  | [], _, i, _, h, _ => by simp at h
  | y :: l, lo, 0, hG, h, ht => by
    simp at h; subst h
    intro x hx
    rcases List.mem_cons.1 hx with rfl | hx
    · exact ht
    · have := hG.2.2.2.mem hx
      have := hG.2.1
      omega
  | y :: l, lo, i + 1, hG, h, ht => by
    rw [List.drop_succ_cons]
    exact Gs.drop (gs := gs) hG.2.2.2 (by simpa using h) ht
theorem lay1_cells (x d : List Int) (lo : Nat) : splice (x.map (Value.int .u8)) lo (d.map (Value.int .u8)) = (lay1 x lo d).map (Value.int .u8) := by
  unfold splice lay1
  simp [List.map_take, List.map_drop]
end
theorem Cells.from_ {w : World} {A : Option Addr} {vs : List Value} (h : Cells w A vs) (k : Nat) : Cells w (A.map (·.add k)) (vs.drop k) := by
  intro i v hv
  rw [List.getElem?_drop] at hv
  obtain ⟨a, rfl, hc⟩ := h _ v hv
  exact ⟨a.add k, rfl, by rw [add_add]; exact hc⟩
end Go.Eng
namespace Go.Proofs.YthhgbpmihhljdaaDoor
namespace N6
open Go Go.Eng Go.RowKit
section
variable {w : World} {Γ : List Fct} {r : HolR}
theorem seen_find (p : PcV) : ∀ (l : List PcV) (i : Nat), (findS PcV.beq p (seenK l) i).isSome = l.any (PcV.beq p)
  | [], _ => rfl
  | x :: l, i => by
    show (if PcV.beq p x then some (i, Value.agg #[]) else findS PcV.beq p (seenK l) (i + 1)).isSome = (PcV.beq p x || l.any (PcV.beq p))
    cases PcV.beq p x with
    | true => rfl
    | false => simpa using seen_find p l (i + 1)
theorem seen_get (p : PcV) (l : List PcV) : (mget PcV.beq p (seenK l)).getD (.agg #[]) = .agg #[] ∧ (mget PcV.beq p (seenK l)).isSome = l.any (PcV.beq p) := by
  have h := seen_find p l 0
  unfold mget
  cases hf : findS PcV.beq p (seenK l) 0 with
  | none => rw [hf] at h; exact ⟨rfl, h⟩
  | some q =>
    rw [hf] at h
    obtain ⟨k, y, _, hy, _, _⟩ := findS_at (show findS PcV.beq p (seenK l) 0 = some (q.1, q.2) from hf)
    unfold seenK at hy
    rw [List.getElem?_map] at hy
    cases hl : l[k]? with
    | none => rw [hl] at hy; cases hy
    | some z =>
      rw [hl] at hy
      injection hy with hy
      injection hy with _ hy
      exact ⟨by show q.2 = _; exact hy.symm, h⟩
theorem seen_set (p : PcV) (l : List PcV) : mset PcV.beq p (.agg #[]) (seenK l) = seenK (addSeen l p) := by
  have h := seen_find p l 0
  unfold mset addSeen
  cases hf : findS PcV.beq p (seenK l) 0 with
  | none =>
    rw [hf] at h
    rw [← h, if_neg (by simp)]
    simp [seenK]
  | some q =>
    rw [hf] at h
    rw [← h]
    simp only [Option.isSome_some, if_true]
    obtain ⟨k, y, hk, hy, he, _⟩ := findS_at (show findS PcV.beq p (seenK l) 0 = some (q.1, q.2) from hf)
    have hp := pcv_beq.1 he
    subst hp
    show (seenK l).set q.1 (p, .agg #[]) = seenK l
    rw [show q.1 = k by omega]
    apply List.ext_getElem?
    intro m
    rw [List.getElem?_set]
    by_cases hm : k = m
    · subst hm
      rw [if_pos rfl, hy, if_pos (List.getElem?_eq_some_iff.1 hy).1]
      unfold seenK at hy
      rw [List.getElem?_map] at hy
      cases hl : l[k]? with
      | none => rw [hl] at hy; cases hy
      | some z => rw [hl] at hy; injection hy with hy; injection hy with h1 h2; rw [← h2]
    · rw [if_neg hm]
/-- Bytes are copied into a part of a row of the call's own. -/
theorem copyB (H : Sep Γ w) (i : Nat) {b n c c' lo m : Nat} {A A' : Option Addr} {xs ys : List Int} {F : Int → World → Prop} (hi : Γ[i]? = some (ownB b (.slice A n c) n xs)) (h0 : 0 < m) (hfit : lo + m ≤ n)
    (hs : Cells w A' (ys.map (.int .u8))) (hl : ys.length = m)
    (h : ∀ w', Sep (Γ.set i (ownB b (.slice A n c) n (lay1 xs lo ys))) w' → F m w') :
    CopyVC Tryd.prog #[32, 32] 3 (.slice (if c = lo then A else A.map (·.add (lo * 1))) m (c - lo)) (.slice A' m c') w F := by
  have ho := H.own i hi
  have hn : A ≠ none := by
    rintro rfl
    rcases ho.2 with ⟨_, h1⟩ | ⟨g, cap, cur, hv, _⟩
    · omega
    · cases hv
  obtain ⟨g, cs, rfl, hbg, ht, hcl, hm, hnc, H⟩ := H.ownBlk i hi hn
  rw [if_neg (by omega), Option.map_some, addr_add, Nat.zero_add, Nat.mul_one]
  have hlt : i < Γ.length := (List.getElem?_eq_some_iff.1 hi).1
  have hset : ∀ x, (Γ.set i x)[i]? = some x := fun x => by rw [List.getElem?_set]; simp [hlt]
  have hset2 : ∀ x y, ((Γ.set i x).set i y)[i]? = some y := fun x y => by rw [List.getElem?_set]; simp [hlt]
  refine CopyVC.sep H i Tryd.underlying32 (by kernel_rfl) (hset _) hs (by simpa using hl) (Nat.le_refl _) (by omega) (ints_one _ _) fun w' H => h w' ?_
  have hsl : (splice cs lo (ys.map (Value.int .u8))).length = c * 1 := by rw [splice_len (by simp; omega), hcl]
  have H := H.blkOwn' i (b := b) (size := 1) (n := n) (c := c) (hset2 _ _) hbg hsl hnc hm
  rw [List.set_set, List.set_set] at H
  have e : (splice cs lo (ys.map (Value.int .u8))).take (n * 1) = (lay1 xs lo ys).map (.int .u8) := by
    rw [← lay1_cells, ← ht]
    unfold splice
    rw [Nat.mul_one]
    simp only [List.length_map, hl]
    rw [List.take_append, List.take_append, List.take_take, List.take_take, List.length_take, List.length_map, hl, hcl, List.drop_take, show min n lo = lo by omega, show min lo n = lo by omega, List.take_of_length_le (l := ys.map (Value.int .u8)) (by simp; omega)]
    congr 2
    simp; congr 1; omega
  rw [e] at H
  exact H
/-- Gaps are laid behind a row of the call's own. -/
theorem appG (H : Sep Γ w) (i : Nat) {b n c m c' : Nat} {A A' : Option Addr} {xs ys : List (Int × Int)} {F : Option Addr → Nat → Nat → World → Prop} (hi : Γ[i]? = some (rowG b ⟨A, n, c⟩ xs)) (hs : Cells w A' (gapC ys)) (hl : ys.length = m) (hb : n + m ≤ 1000000000) (hbase : b ≤ w.heap.size)
    (h : ∀ A2 c2 w', Sep (Γ.set i (rowG b ⟨A2, n + m, c2⟩ (xs ++ ys))) w' → n + m ≤ c2 → F A2 (n + m) c2 w') :
    AppVC Tryd.prog #[94, 94] 94 (.slice A n c) (.slice A' m c') w F :=
  AppVC.sep H i Tryd.underlying94 tG rfl (by decide) hi hs (by rw [gapC_len, hl]) (gapC_one _) (by omega) (by decide) hbase fun A2 c2 w' H hc => h A2 c2 w' (by
    have : rowG b ⟨A2, n + m, c2⟩ (xs ++ ys) = Fct.own b 107 2 (.slice A2 (n + m) c2) (n + m) (gapC xs ++ gapC ys) := by rw [← gapC_app]; rfl
    rw [this]; exact H) hc
end
end N6
end Go.Proofs.YthhgbpmihhljdaaDoor
/- Chapter 11: Put. -/
namespace Go.Proofs.YthhgbpmihhljdaaDoor
namespace N6
open Go Go.Eng Go.RowKit
section
variable {w : World} {r : HolR}
/-- The parts while a piece is laid in: the rest, what is held, its bytes, its gaps, what was seen, the answer's cell, the answer. -/
def putG (w : World) (M : Nat → Prop) (g m g1 g2 : Nat) (bufA gapA : Sl) (held : Int) (s : HolS) (fit : FitV) : List Fct :=
  [Fct.rest w M, Fct.blk g 97 (HolR.cells ⟨g, m, bufA, gapA, held, s⟩), rowB 0 bufA s.buf, rowG 0 gapA s.gaps, seenF m s.seen, Fct.blk g1 58 (FitV.z : FitV).cells, Fct.blk g2 58 fit.cells]
theorem equalB {s t : Sl} {xs ys : List Int} (hx : BytesAt w s xs) (hy : BytesAt w t ys) : Calls Tryd.prog 42 #[s.val, t.val] w fun e w' => w' = w ∧ e = .returned (.bool (decide (xs = ys))) := by
  refine bytes_Equal_of s.A s.n s.k t.A t.n t.k w _ ?_
  unfold bytes_Equal_VC
  rw [← hx.len, ← hy.len]
  refine StrVC.of hx.cells (StrVC.of hy.cells ⟨rfl, ?_⟩)
  rw [str_eq xs ys hx.bts hy.bts]
/-- Its end: how many are held, the answer, what was seen. -/
theorem put_end {M : Nat → Prop} {g m g1 g2 : Nat} {bufA gapA S : Sl} {held new off : Int} {s : HolS} {d : List Int} {more : Bool} {w1 : World} {R : Ending → World → Prop} (h0 : 0 ≤ off) (h1 : off + d.length ≤ 65535) (hb : off + d.length ≤ s.buf.length) (hbt : Bts s.buf)
    (hn0 : 0 ≤ new) (hn1 : new ≤ d.length) (hS : ∀ w', Mod M w w' → BytesAt w' S d) (H : Sep (putG w M g m g1 g2 bufA gapA held s ⟨new, 0, false⟩) w1)
    (hR : ∀ (held' : Int) (w' : World), Sep (Fct.rest w M :: holFs ⟨g, m, bufA, gapA, held', { s with seen := addSeen s.seen ⟨off, d.length, more⟩ }⟩) w' →
      R (.returned (.tuple #[(⟨new, d.length - new, s.seen.any (PcV.beq ⟨off, d.length, more⟩) && decide (bpart s.buf off.toNat d.length = d)⟩ : FitV).val, .int .i64 0])) w') :
    hole_Holes_Put_J1791 R (some ⟨g, 0, none⟩) off S.A S.n S.k more g1 g2 w1 := by
  unfold hole_Holes_Put_J1791
  have hlen : S.n = d.length := by have := (hS w (Mod.refl _ _)).len; omega
  have hw : IntKind.i64.wrap (off + (S.n : Int)) = off + d.length := by rw [w64 (by omega) (by omega)]; omega
  refine DrawVC.sep H (fun w' => Blk w' g 97 (HolR.cells ⟨g, m, bufA, gapA, held, s⟩) ∧ Blk w' g2 58 (⟨new, 0, false⟩ : FitV).cells) fun w2 H => ⟨⟨H.blk 1 rfl, H.blk 6 rfl⟩, ?_⟩
  refine ⟨_, rfl, _, fun w' hb => hb.1.cell 4, _, fun w' hb => hb.2.cell 0, _, rfl, SetVC.sep H 1 (k := 4) rfl (show 4 < 6 by decide) fun w3 H => ⟨_, H.cell 6 rfl 0 rfl, SetVC.sep H 6 (k := 1) rfl (show 1 < 3 by decide) fun w4 H => NewVC.sep H fun g9 w5 H => Stores.sep H 7 rfl (PcV.one _) (Nat.le_refl _) (splice_all rfl) fun w6 H => ?_⟩⟩
  rw [w64 (n := (S.n : Int) - new) (by omega) (by omega)] at H
  obtain ⟨held', hh⟩ : ∃ h' : Int, h' = IntKind.i64.wrap (held + new) := ⟨_, rfl⟩
  rw [← hh] at H
  have hd' : (S.n : Int) - new = d.length - new := by omega
  rw [hd'] at H
  have hp : (⟨off, (S.n : Int), more⟩ : PcV) = ⟨off, d.length, more⟩ := by rw [hlen]
  rw [hp] at H
  obtain ⟨p, hpe⟩ : ∃ p : PcV, p = ⟨off, d.length, more⟩ := ⟨_, rfl⟩
  rw [← hpe] at H hR
  have H : Sep [Fct.rest w M, Fct.blk g 97 (HolR.cells ⟨g, m, bufA, gapA, held', s⟩), rowB 0 bufA s.buf, rowG 0 gapA s.gaps, seenF m s.seen, Fct.blk g1 58 (FitV.z : FitV).cells, Fct.blk g2 58 (⟨new, d.length - new, false⟩ : FitV).cells, Fct.blk g9 110 p.cells] w6 := H
  have hsg := seen_get p s.seen
  refine DrawVC.sep H (fun w' => Blk w' g 97 (HolR.cells ⟨g, m, bufA, gapA, held', s⟩) ∧ Blk w' g9 110 p.cells ∧ MapAt w' m (kvs PcV.val (seenK s.seen))) fun w7 H => ?_
  refine ⟨⟨H.blk 1 rfl, H.blk 7 rfl, H.yes 4 _ rfl⟩, _, rfl, _, fun w' hb => hb.1.cell 5, PcV.of p ⟨fun w' hb => CellsAt.blk hb.2.1, s.seen.any (PcV.beq p), fun w' hb => ?_, ?_⟩⟩
  · have := run_look pcv_key Tryd.underlying95 (z := .agg #[]) (by kernel_rfl) p true hb.2.2
    rw [hsg.1, hsg.2] at this
    exact this
  refine NewVC.sep H fun g10 w8 H => ?_
  have hS1 : Blk w8 g 97 (HolR.cells ⟨g, m, bufA, gapA, held', s⟩) ∧ Blk w8 g9 110 p.cells ∧ MapAt w8 m (kvs PcV.val (seenK s.seen)) := ⟨H.blk 1 rfl, H.blk 7 rfl, H.yes 4 _ rfl⟩
  refine ⟨hS1, hS1, ?_⟩
  have H := H.take 8
  have fin : ∀ (b : Bool) (w9 : World), b = (s.seen.any (PcV.beq p) && decide (bpart s.buf off.toNat d.length = d)) →
      Sep [Fct.rest w M, Fct.blk g 97 (HolR.cells ⟨g, m, bufA, gapA, held', s⟩), rowB 0 bufA s.buf, rowG 0 gapA s.gaps, seenF m s.seen, Fct.blk g1 58 (FitV.z : FitV).cells, Fct.blk g2 58 (⟨new, d.length - new, b⟩ : FitV).cells, Fct.blk g9 110 p.cells] w9 →
      DrawVC w9 fun S8 w50 => NilVC (some ⟨g, 0, none⟩) fun p22 => ∃ x24 : Option Nat, (∀ w' : World, S8 w' → w'.cell? (p22.add 5) = some (.map x24)) ∧ PcV.ex fun h4 => (∀ w' : World, S8 w' → CellsAt w' ⟨g9, 0, none⟩ 0 h4.cells) ∧
        MapSetVC Tryd.prog 95 (.map x24) (h4.val) (.agg #[]) w50 fun w51 => FitV.ex fun h5 => CellsAt w51 ⟨g2, 0, none⟩ 0 h5.cells ∧ Stores ⟨g1, 0, none⟩ 0 h5.cells w51 fun w52 => FitV.ex fun res1 => CellsAt w52 ⟨g1, 0, none⟩ 0 res1.cells ∧ R (.returned (.tuple #[res1.val, .int .i64 0])) w52 := by
    intro b w9 hb H
    refine DrawVC.sep H (fun w' => Blk w' g 97 (HolR.cells ⟨g, m, bufA, gapA, held', s⟩) ∧ Blk w' g9 110 p.cells) fun w10 H => ⟨⟨H.blk 1 rfl, H.blk 7 rfl⟩, _, rfl, _, fun w' hb => hb.1.cell 5, PcV.of p ⟨fun w' hb => CellsAt.blk hb.2, ?_⟩⟩
    refine MapSetVC.sep H 4 pcv_key Tryd.underlying95 rfl p (.agg #[]) fun w11 H => ?_
    rw [seen_set] at H
    refine FitV.of ⟨new, d.length - new, b⟩ ⟨H.at 6 rfl, Stores.sep H 5 rfl (FitV.one _) (Nat.le_refl _) (splice_all rfl) fun w12 H => FitV.of ⟨new, d.length - new, b⟩ ⟨H.at 5 rfl, ?_⟩⟩
    rw [hb]
    exact hR held' w12 (H.take 5)
  refine Br.intro (fun hb => ?_) fun hb => ?_
  · have ho := H.own 2 rfl
    have hbn : bufA.n = s.buf.length := by have := ho.1; simpa using this.symm
    have hcap := own_le ho
    refine ⟨_, rfl, bufA.A, bufA.n, bufA.k, (H.blk 1 rfl).cell 1, h0, by rw [hw]; omega, by rw [hw]; omega, ?_⟩
    rw [hw]
    have hx : BytesAt w8 ⟨if bufA.k = off.toNat then bufA.A else bufA.A.map (·.add (off.toNat * 1)), (off + d.length).toNat - off.toNat, bufA.k - off.toNat⟩ (bpart s.buf off.toNat d.length) := by
      refine ⟨by rw [bpart_len (by omega)]; show _ = (off + (d.length : Int)).toNat - off.toNat; omega, by show (off + (d.length : Int)).toNat - off.toNat ≤ bufA.k - off.toNat; omega, by show (off + (d.length : Int)).toNat - off.toNat ≤ 4000000; omega, fun x hx => hbt x (List.mem_of_mem_drop (List.mem_of_mem_take hx)), ?_⟩
      have hc := own_cells (A := bufA.A) (c := bufA.k) ho
      unfold bpart
      rw [List.map_take, List.map_drop]
      refine Cells.take ?_ _
      exact hc.drop off.toNat (c := bufA.k) (by simp; omega) 1 (.inl rfl)
    refine (equalB hx (hS w8 (H.restOf 0 rfl))).mono ?_
    rintro _ w9 ⟨rfl, rfl⟩
    refine ⟨_, rfl, SetVC.sep H 6 (k := 2) rfl (show 2 < 3 by decide) fun w10 H => ?_⟩
    exact fin (decide (bpart s.buf off.toNat d.length = d)) w10 (by rw [hb, Bool.true_and]) H
  · refine SetVC.sep H 6 (k := 2) rfl (show 2 < 3 by decide) fun w10 H => fin false w10 (by rw [hb, Bool.false_and]) H
end
end N6
end Go.Proofs.YthhgbpmihhljdaaDoor
