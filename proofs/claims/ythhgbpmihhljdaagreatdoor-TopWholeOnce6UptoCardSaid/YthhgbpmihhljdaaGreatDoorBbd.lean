/- What is read of bytes: windows of them, and memory of the reader's own. -/
import Derived.Test.YthhgbpmihhljdaaGreatDoorBax
import Derived.Test.YthhgbpmihhljdaaGreatDoorBaw
import Derived.Test.YthhgbpmihhljdaaGreatDoorBaj
import Derived.Test.YthhgbpmihhljdaaGreatDoorBbc
import Derived.Test.YthhgbpmihhljdaaGreatDoorBau
namespace Go.Eng
open Go Go.RowKit
inductive All2 {α β : Type} (R : α → β → Prop) : List α → List β → Prop
  | nil : All2 R [] []
  | cons {a : α} {b : β} {l : List α} {m : List β} (h : R a b) (t : All2 R l m) : All2 R (a :: l) (b :: m)
section
variable {α β : Type} {R : α → β → Prop} {l l' : List α} {m m' : List β}
theorem All2.append (h : All2 R l m) (h' : All2 R l' m') : All2 R (l ++ l') (m ++ m') := by
  induction h with
  | nil => exact h'
  | cons h _ ih => exact .cons h ih
theorem All2.len (h : All2 R l m) : l.length = m.length := by
  induction h with
  | nil => rfl
  | cons _ _ ih => simp [ih]
theorem All2.right (h : All2 R l m) : ∀ y ∈ m, ∃ x ∈ l, R x y := by
  induction h with
  | nil => intro y hy; cases hy
  | cons h _ ih =>
    intro y hy
    rcases List.mem_cons.1 hy with rfl | hy
    · exact ⟨_, List.mem_cons_self, h⟩
    · obtain ⟨x, hx, hr⟩ := ih y hy
      exact ⟨x, List.mem_cons_of_mem _ hx, hr⟩
theorem All2.map_eq {γ : Type} {f : α → γ} {g : β → γ} (h : All2 R l m) (hf : ∀ x y, R x y → g y = f x) : m.map g = l.map f := by
  induction h with
  | nil => rfl
  | cons h _ ih => rw [List.map_cons, List.map_cons, ih, hf _ _ h]
end
theorem onRet_is {A : Value → World → Prop} {Q : List PanicEntry → World → Prop} {v : Value} {w' : World} (h : A v w') : onRet A Q (.returned v) w' := h
def Fct.nil : Fct := ⟨fun _ => False, fun _ => True, fun _ _ _ _ _ _ _ => trivial⟩
/-- n bytes from p on, with no room behind. -/
def winSl (s : Sl) (p n : Nat) : Sl := ⟨if n = 0 then s.A else s.A.map (·.add p), n, n⟩
theorem BytesAt.win {w : World} {s : Sl} {l : List Int} (h : BytesAt w s l) {p n : Nat} (hp : p + n ≤ l.length) : BytesAt w (winSl s p n) (bpart l p n) := by
  have hl := h.len
  refine ⟨bpart_len hp, Nat.le_refl _, ?_, (h.bts.drop p).take n, ?_⟩
  · have := h.small; show n ≤ 4000000; omega
  · have := Cells.win h.cells (p := (p : Int)) (k := (n : Int))
    unfold bpart winSl
    rw [List.map_take, List.map_drop]
    simp only [Int.toNat_natCast] at this
    by_cases h0 : n = 0
    · subst h0; simpa using this
    · rw [if_neg h0]
      rw [if_neg (by omega)] at this
      exact this
/-- A row that was read of an option. -/
structure OptIs (s : Sl) (l : List Int) (o : OP) (r : OptR) : Prop where
  d : r.d = o.d l
  kind : r.v.kind = o.kind
  n : r.v.data.n = o.n
  win : o.kind ≠ 0 → r.v.data = winSl s o.p o.n
structure ExtIs (s : Sl) (l : List Int) (x : EP) (r : ExtR) : Prop where
  kind : r.v.kind = x.kind
  opts : All2 (OptIs (winSl s x.p x.n) (bpart l x.p x.n)) x.opts r.opts
  on : r.opts.length = r.v.opts.n
  data : r.v.data = (if x.kind = 43 then winSl s x.p x.n else Sl.z)
  bytes : r.data = (if x.kind = 43 then bpart l x.p x.n else [])
theorem ExtIs.d {s : Sl} {l : List Int} {x : EP} {r : ExtR} (h : ExtIs s l x r) : r.d = x.d l := by
  unfold ExtR.d EP.d
  rw [h.kind, h.bytes, h.opts.map_eq fun o r h => h.d]
end Go.Eng
namespace Go.Proofs.YthhgbpmihhljdaaGreatDoor
namespace N6
open Go.Eng Go.RowKit
def padF (b : Nat) (r : OptR) : Fct := if r.v.kind = 0 then rowB b r.v.data r.data else Fct.nil
def readO (b : Nat) (s : Sl) (rs : List OptR) : List Fct := rowO b s rs :: rs.map (padF b)
def readX1 (b : Nat) (r : ExtR) : List Fct := readO b r.v.opts r.opts
def readX (b : Nat) (s : Sl) (rs : List ExtR) : List Fct := rowE b s rs :: rs.flatMap (readX1 b)
section
variable {w : World} {b b' : Nat} {s so se : Sl} {l : List Int}
theorem padF_less (h : b' ≤ b) (r : OptR) : (∀ w, (padF b r).φ w → (padF b' r).φ w) ∧ ∀ k, (padF b' r).R k → (padF b r).R k := by
  unfold padF
  split
  · exact own_less h
  · exact ⟨fun _ h => h, fun _ h => h⟩
theorem readO_less {rs : List OptR} (h : b' ≤ b) : AllLe (readO b s rs) (readO b' s rs) := .cons (own_less h).1 (own_less h).2 (AllLe.map rs fun r _ => padF_less h r)
theorem optsAt_read {os : List OP} {rs : List OptR} (h : ∀ f ∈ readO b so rs, f.φ w) (hB : BytesAt w s l) (hA : All2 (OptIs s l) os rs) (hin : ∀ o ∈ os, o.inside l) (hl : rs.length = so.n) (hn : so.n ≤ 4000000) : OptsAt w so rs := by
  have h0 := h (rowO b so rs) (by simp [readO])
  refine ⟨hl, own_le h0, hn, Recs.of_cells (by decide) (fun r hr => ?_) (own_cells (A := so.A) (c := so.k) h0), fun r hr => ?_⟩
  · obtain ⟨x, _, rfl⟩ := List.mem_map.1 hr; rfl
  · obtain ⟨o, ho, hr'⟩ := hA.right r hr
    have hd := congrArg OptD.data hr'.d
    by_cases hk : o.kind = 0
    · have hp := h (padF b r) (List.mem_cons_of_mem _ (List.mem_map_of_mem hr))
      unfold padF at hp
      rw [if_pos (hr'.kind.trans hk)] at hp
      have hon : o.n ≤ l.length := by
        rcases hin o ho with ⟨_, _, h⟩ | ⟨h, _⟩
        · exact h
        · omega
      have hls := hB.small
      have hll := hB.len
      refine bytesAt_of hp ⟨by rw [hr'.n]; omega, ?_⟩
      have : r.data = List.replicate o.n 0 := by
        have e : (o.d l).data = List.replicate o.n 0 := by unfold OP.d; rw [if_pos hk]
        rw [← e]; exact hd
      rw [this]
      exact bts_zeros _
    · have e : (o.d l).data = bpart l o.p o.n := by unfold OP.d; rw [if_neg hk]
      have : r.data = bpart l o.p o.n := by rw [← e]; exact hd
      rw [this, hr'.win hk]
      exact hB.win (by
        rcases hin o ho with ⟨h, _⟩ | ⟨_, _, h, _⟩
        · exact absurd h hk
        · exact h)
theorem optsS_count {b : List Int} : ∀ (k p run : Nat) (l : List OP), b.length - p ≤ k → optsS b p run = some l → l.length ≤ (b.length - p) + (if run = 0 then 0 else 1) := by
  have hf : ∀ run, (flushS run).length = if run = 0 then 0 else 1 := fun run => by unfold flushS; split <;> rfl
  intro k
  induction k with
  | zero =>
    intro p run l hk h
    rw [optsS_end (by omega)] at h
    injection h with h; subst h
    rw [hf]; omega
  | succ k ih =>
    intro p run l hk h
    rcases Nat.lt_or_ge p b.length with hlt | hge
    · by_cases h0 : b.getD p 0 = 0
      · rw [optsS_zero hlt h0] at h
        have := ih _ _ _ (by omega) h
        rw [if_neg (by omega)] at this
        split <;> omega
      · rcases Nat.lt_or_ge b.length (p + 2 + (b.getD (p + 1) 0).toNat) with h2 | h2
        · rw [optsS_none hlt h0 h2] at h; cases h
        · by_cases h1 : b.getD p 0 = 1
          · rw [optsS_pad h1 h2] at h
            have := ih _ _ _ (by omega) h
            rw [if_neg (by omega)] at this
            split <;> omega
          · rw [optsS_opt h0 h1 h2] at h
            cases hr2 : optsS b (p + 2 + (b.getD (p + 1) 0).toNat) 0 with
            | none => rw [hr2] at h; cases h
            | some m =>
              rw [hr2] at h
              injection h with h; subst h
              have := ih _ _ _ (by omega) hr2
              rw [if_pos rfl] at this
              rw [List.length_append, List.length_cons, hf]
              omega
    · rw [optsS_end hge] at h
      injection h with h; subst h
      rw [hf]; omega
theorem extsAt_read {xs : List EP} {rs : List ExtR} (h : ∀ f ∈ readX b se rs, f.φ w) (hB : BytesAt w s l) (hA : All2 (ExtIs s l) xs rs) (hin : ∀ x ∈ xs, x.inside l) (hl : rs.length = se.n) (hn : se.n ≤ 4000000) : ExtsAt w se rs := by
  have h0 := h (rowE b se rs) (by simp [readX])
  have h1 : ∀ r ∈ rs, ∀ f ∈ readX1 b r, f.φ w := fun r hr f hf => h f (List.mem_cons_of_mem _ (List.mem_flatMap.2 ⟨r, hr, hf⟩))
  refine ⟨hl, own_le h0, hn, Recs.of_cells (by decide) (fun r hr => ?_) (own_cells (A := se.A) (c := se.k) h0), fun r hr => ?_, fun r hr => ?_⟩
  · obtain ⟨x, _, rfl⟩ := List.mem_map.1 hr; rfl
  · obtain ⟨x, hx, hr'⟩ := hA.right r hr
    obtain ⟨hk, hp, hnn, h8, hi⟩ := hin x hx
    have hW := hB.win hp
    have hpl : (bpart l x.p x.n).length = x.n := bpart_len hp
    have hcount : x.opts.length ≤ x.n := by
      unfold inS at hi
      split at hi
      · injection hi with hi; rw [← hi]; exact Nat.zero_le _
      · have := optsS_count _ 0 0 _ (Nat.le_refl _) hi
        rw [if_pos rfl, hpl] at this
        omega
    have hoi : ∀ o ∈ x.opts, o.inside (bpart l x.p x.n) := by
      unfold inS at hi
      split at hi
      · injection hi with hi; rw [← hi]; intro o ho; cases ho
      · exact optsS_inside hW.bts _ 0 0 _ (Nat.le_refl _) (Nat.le_refl _) (Nat.zero_le _) hi
    have := hr'.opts.len
    have := hr'.on
    exact optsAt_read (h1 r hr) hW hr'.opts hoi hr'.on (by omega)
  · obtain ⟨x, hx, hr'⟩ := hA.right r hr
    obtain ⟨hk, hp, hnn, h8, hi⟩ := hin x hx
    rw [hr'.data, hr'.bytes]
    split
    · exact hB.win hp
    · exact BytesAt.nil _ _ _
end
end N6
end Go.Proofs.YthhgbpmihhljdaaGreatDoor
/- Chapter 7, reading: options, the program's. -/
namespace Go.Proofs.YthhgbpmihhljdaaGreatDoor
namespace N6
open Go.Eng Go.RowKit
def cutc : List PanicEntry := [{ v := .iface 204 (.agg #[]), recovered := false }]
section
variable {u : TypeId} {pv : Value} {older : List PanicEntry} {w : World} {g1 g2 : Nat} {x1 x2 : Value}
theorem options_catch (h1 : w.cell? ⟨g1, 0, none⟩ = some x1) (f1 : w.frozen? ⟨g1, 0, none⟩ = false) (h2 : w.cell? ⟨g2, 0, none⟩ = some x2) (f2 : w.frozen? ⟨g2, 0, none⟩ = false) (hne : g1 ≠ g2) :
    CallsD Tryz.prog 121 #[.pointer (some ⟨g1, 0, none⟩), .pointer (some ⟨g2, 0, none⟩)] (.panicking ({ v := .iface u pv, recovered := false } :: older)) w fun e u' w' =>
      e = .returned (.tuple #[]) ∧ u' = .panicking ({ v := .iface u pv, recovered := true } :: older) ∧ w' = (w.setCell ⟨g1, 0, none⟩ (.slice none 0 0)).setCell ⟨g2, 0, none⟩ (.int .i64 75) := by
  have hc2 : (w.setCell ⟨g1, 0, none⟩ (.slice none 0 0)).cell? ⟨g2, 0, none⟩ = some x2 := by
    rw [World.cell?_setCell_other]
    · exact h2
    · intro e; injection e with e; exact hne e
  refine callsD_of_wpS Tryz.func121 rfl fun c₀ cs hu => ?_
  apply wpS_seq
  apply wpS_region
  simp [wpOpsS, go_sem, recoverD, hu, Tryz.ntmps121, Exit.thenS]
  refine wpS_cond (t := true) (by simp [Act.eval, Array.replicate]) ?_
  simp only [if_true]
  apply wpS_region
  simp [wpOpsS, go_sem, h1, f1, hc2, f2, bodyPostS, results, Tryz.results121]
theorem options_idle :
    CallsD Tryz.prog 121 #[.pointer (some ⟨g1, 0, none⟩), .pointer (some ⟨g2, 0, none⟩)] .returning w fun e u' w' => e = .returned (.tuple #[]) ∧ u' = .returning ∧ w' = w := by
  refine callsD_of_wpS Tryz.func121 rfl fun c₀ cs hu => ?_
  apply wpS_seq
  apply wpS_region
  simp [wpOpsS, go_sem, recoverD, hu, Tryz.ntmps121, Exit.thenS]
  refine wpS_cond (t := false) (by simp [Act.eval, Array.replicate]) ?_
  simp only [Bool.false_eq_true, if_false]
  refine wpS_of_wp (wp_skip ?_)
  cases c₀
  simp_all [bodyPostS, results, Tryz.results121]
end
section
variable {w : World} {s : Sl} {l : List Int}
theorem uintS_one {p : Nat} (h : p + 1 ≤ l.length) : uintS l (p : Int) 1 = (l.getD p 0, 0) := by
  unfold uintS
  rw [if_neg (by omega), if_pos (by omega)]
  have e : (l.drop p).take 1 = [l.getD p 0] := by
    rw [List.take_one, List.head?_drop, List.getElem?_eq_getElem (by omega), List.getD_eq_getElem?_getD, List.getElem?_eq_getElem (by omega)]; rfl
  rw [Int.toNat_natCast, show (1 : Int).toNat = 1 from rfl, e]
  simp [beNum]
theorem uintS_out {p : Nat} (h : l.length < p + 1) : uintS l (p : Int) 1 = (0, 10) := by
  unfold uintS
  rw [if_neg (by omega), if_neg (by omega)]
theorem option_yes (hB : BytesAt w s l) {p : Nat} (h : p + 2 + (l.getD (p + 1) 0).toNat ≤ l.length) : Calls Tryz.prog 123 #[s.val, .int .i64 p] w fun e w' => Ext w w' ∧ e = .returned (.int .i64 ((2 + (l.getD (p + 1) 0).toNat : Nat) : Int)) := by
  refine ip6_option_of s.A s.n s.k p w _ ?_
  unfold ip6_option_VC
  have hl := hB.len
  have hs := hB.small
  have hb := getD_byte hB.bts (p + 1)
  rw [w64 (n := (p : Int) + 1) (by omega) (by omega), w64 (n := (p : Int) + 2) (by omega) (by omega)]
  refine (Nd.uint_spec hB.cells hB.len hB.bts (by omega)).mono ?_
  rintro _ w1 ⟨hE, rfl⟩
  have := uintS_one (l := l) (p := p + 1) (by omega)
  rw [show (((p + 1 : Nat)) : Int) = (p : Int) + 1 by omega] at this
  rw [this]
  refine ⟨_, _, rfl, Br.no (fun h => h rfl) ?_⟩
  rw [w64 (n := l.getD (p + 1) 0) (by omega) (by omega), w64 (by omega) (by omega)]
  refine Br.no (by omega) ⟨hE, ?_⟩
  rw [w64 (by omega) (by omega)]
  congr 3
  omega
theorem option_no (hB : BytesAt w s l) {p : Nat} (hp : p ≤ l.length) (h : l.length < p + 2 + (l.getD (p + 1) 0).toNat) : Calls Tryz.prog 123 #[s.val, .int .i64 p] w fun e w' => Ext w w' ∧ e = .panicked cutc := by
  refine ip6_option_of s.A s.n s.k p w _ ?_
  unfold ip6_option_VC
  have hl := hB.len
  have hs := hB.small
  have hb := getD_byte hB.bts (p + 1)
  rw [w64 (n := (p : Int) + 1) (by omega) (by omega), w64 (n := (p : Int) + 2) (by omega) (by omega)]
  refine (Nd.uint_spec hB.cells hB.len hB.bts (by omega)).mono ?_
  rintro _ w1 ⟨hE, rfl⟩
  rcases Nat.lt_or_ge l.length (p + 1 + 1) with h1 | h1
  · have := uintS_out (l := l) (p := p + 1) (by omega)
    rw [show (((p + 1 : Nat)) : Int) = (p : Int) + 1 by omega] at this
    rw [this]
    exact ⟨_, _, rfl, Br.yes (show ¬ ((10 : Int) = 0) by decide) ⟨hE, rfl⟩⟩
  · have := uintS_one (l := l) (p := p + 1) (by omega)
    rw [show (((p + 1 : Nat)) : Int) = (p : Int) + 1 by omega] at this
    rw [this]
    refine ⟨_, _, rfl, Br.no (fun h => h rfl) ?_⟩
    rw [w64 (n := l.getD (p + 1) 0) (by omega) (by omega), w64 (by omega) (by omega)]
    exact Br.yes (by omega) ⟨hE, rfl⟩
abbrev oBlks (g1 g2 g3 : Nat) (so : Sl) (run : Nat) : List Fct := [Fct.blk g1 54 [so.val], Fct.blk g2 36 [.int .i64 0], Fct.blk g3 3 [.int .i64 run]]
set_option maxHeartbeats 1000000 in
theorem flush_spec {w0 : World} {g1 g2 g3 run : Nat} {so : Sl} {rs : List OptR} (H : Sep (Fct.rest w0 None :: (oBlks g1 g2 g3 so run ++ readO w0.heap.size so rs)) w) (hn : so.n = rs.length) (hs : so.n ≤ 1000000000) (hr : run ≤ 4000000) :
    Calls Tryz.prog 122 #[.pointer (some ⟨g3, 0, none⟩), .pointer (some ⟨g1, 0, none⟩)] w fun e w' => e = .returned (.tuple #[]) ∧ ∃ (so' : Sl) (nr : List OptR), All2 (OptIs s l) (flushS run) nr ∧ so'.n = (rs ++ nr).length ∧
      Sep (Fct.rest w0 None :: (oBlks g1 g2 g3 so' 0 ++ readO w0.heap.size so' (rs ++ nr))) w' := by
  refine ip6_flush_of g3 g1 w _ ?_
  unfold ip6_flush_VC
  refine ⟨_, H.cell 3 rfl 0 rfl, Br.dec (fun hpos => ?_) fun hz => ?_⟩
  · refine DrawVC.sep H (fun w' => Blk w' g1 54 [so.val] ∧ Blk w' g3 3 [.int .i64 run]) fun w1 H => ⟨⟨H.blk 1 rfl, H.blk 3 rfl⟩, _, _, _, fun w' hb => hb.1.cell 0, _, fun w' hb => hb.2.cell 0, ?_⟩
    refine MakeVC.sep H (by omega) (Int.le_refl _) (by omega) fun g4 w2 H => ⟨⟨H.blk 1 rfl, H.blk 3 rfl⟩, ?_⟩
    have H := H.front
    refine NewVC.sep H fun g5 w3 H => ?_
    have H := H.front
    refine ⟨⟨H.blk 3 rfl, H.blk 5 rfl⟩, ?_⟩
    have hsz := (H.restOf 2 rfl).size
    have hg4 := H.fresh 2 1 (by decide) rfl rfl
    rw [Int.toNat_natCast] at H
    have H := H.blkOwn 1 rfl (b := w0.heap.size) (n := run) (c := run) hg4 (by simp) (Nat.le_refl _) (by simp only [maxLen]; omega)
    rw [List.take_of_length_le (by simp)] at H
    refine appO (o := ⟨0, ⟨some ⟨g4, 0, none⟩, run, run⟩⟩) H 6 rfl (Cells.blk0 (H.blk 0 rfl)) hs (by omega) fun A2 c2 w4 H hc2 => ?_
    refine ⟨⟨H.blk 3 rfl, H.blk 5 rfl⟩, SetVC.sep H 3 rfl (show 0 < 1 by decide) fun w5 H => SetVC.sep H 5 rfl (show 0 < 1 by decide) fun w6 H => ?_⟩
    refine ⟨rfl, ⟨A2, so.n + 1, c2⟩, [⟨⟨0, ⟨some ⟨g4, 0, none⟩, run, run⟩⟩, List.replicate run 0⟩], ?_, by simp [hn], ?_⟩
    · unfold flushS
      rw [if_neg (by omega)]
      exact .cons ⟨rfl, rfl, rfl, fun h => absurd rfl h⟩ .nil
    · have H := H.tail.rot
      unfold readO rowO
      have e : padF w0.heap.size ⟨⟨0, ⟨some ⟨g4, 0, none⟩, run, run⟩⟩, List.replicate run 0⟩ = Fct.own w0.heap.size 5 1 (.slice (some ⟨g4, 0, none⟩) run run) run (List.replicate run (.int .u8 0)) := by
        unfold padF
        rw [if_pos rfl]
        show Fct.own _ _ _ _ _ ((List.replicate run 0).map (Value.int .u8)) = _
        rw [List.map_replicate]; rfl
      simp only [List.map_append, List.map_cons, List.map_nil, List.flatten_append, List.flatten_cons, List.flatten_nil, List.append_nil, e]
      exact H
  · have h0 : run = 0 := by omega
    subst h0
    refine SetVC.sep H 3 rfl (show 0 < 1 by decide) fun w1 H => ⟨rfl, so, [], .nil, by simpa using hn, ?_⟩
    rw [List.append_nil]
    exact H
end
end N6
end Go.Proofs.YthhgbpmihhljdaaGreatDoor
/- Chapter 7, reading: options, the program's (the loop). -/
namespace Go.Proofs.YthhgbpmihhljdaaGreatDoor
namespace N6
open Go.Eng Go.RowKit
section
variable {w : World} {s : Sl} {l : List Int}
/-- What a reader of options hands back. -/
def OptsRead (w : World) (s : Sl) (l : List Int) (r : Option (List OP)) (err : Int) (e : Ending) (w' : World) : Prop :=
  ∃ (so : Sl) (rs : List OptR), Sep (Fct.rest w None :: readO w.heap.size so rs) w' ∧ so.n = rs.length ∧ match r with
    | some os => e = .returned (.tuple #[so.val, .int .i64 0]) ∧ All2 (OptIs s l) os rs
    | none => e = .returned (.tuple #[so.val, .int .i64 err]) ∧ so = Sl.z ∧ rs = []
theorem map_some {α β : Type} {f : α → β} {o : Option α} {x : α} (h : o = some x) : o.map f = some (f x) := by rw [h]; rfl
set_option maxHeartbeats 4000000 in
theorem options_read (hB : BytesAt w s l) : Calls Tryz.prog 110 #[s.val] w (OptsRead w s l (optsS l 0 0) 75) := by
  refine ip6_options_of s.A s.n s.k w _ ?_
  unfold ip6_options_VC
  have hl := hB.len
  have hsm := hB.small
  refine NewVC.sep (Sep.start0 w) fun g1 w1 H => NewVC.sep H fun g2 w2 H => NewVC.sep H fun g3 w3 H => SetVC.sep H 3 rfl (show 0 < 1 by decide) fun w4 H => ?_
  refine LoopVC.of (fun st w' => ∃ (p run : Nat) (os : List OP) (rs : List OptR) (so : Sl), st = (p : Int) ∧ p ≤ l.length ∧ run ≤ p ∧ rs.length + run ≤ p ∧ optsS l 0 0 = (optsS l p run).map (os ++ ·) ∧ All2 (OptIs s l) os rs ∧ so.n = rs.length ∧
      Sep (Fct.rest w None :: (oBlks g1 g2 g3 so run ++ readO w.heap.size so rs)) w') (fun st _ => ((s.n : Int) - st).toNat)
    ⟨0, 0, [], [], Sl.z, rfl, Nat.zero_le _, Nat.le_refl _, Nat.le_refl _, by simp, .nil, rfl, H.nil _ _ _⟩ ?_
  rintro _ w5 ⟨p, run, os, rs, so, rfl, hp, hrp, hrn, ho, hA, hn, H⟩
  unfold ip6_options_L250
  have hE := H.start1
  have hne : g1 ≠ g2 := fun e => H.apart 1 2 _ _ (by decide) rfl rfl g1 rfl e
  refine Br.dec (fun hlt => ?_) fun hge => ?_
  · have hpl : p < l.length := by omega
    refine (hB.ext hE).idx (i := p) rfl (by omega) fun a x hx hx0 hx1 hc => ⟨_, hc, ?_⟩
    have hg : l.getD p 0 = x := by rw [List.getD_eq_getElem?_getD, hx]; rfl
    rw [w64 (n := x) (by omega) (by omega)]
    refine Br.dec (fun h0 => ?_) fun h0 => ?_
    · refine ⟨_, H.cell 3 rfl 0 rfl, SetVC.sep H 3 rfl (show 0 < 1 by decide) fun w6 H => ⟨rfl, ?_⟩⟩
      rw [w64 (by omega) (by omega)]
      refine ⟨⟨p + 1, run + 1, os, rs, so, by omega, by omega, by omega, by omega, ?_, hA, hn, ?_⟩, by omega⟩
      · rw [ho, optsS_zero hpl (hg.trans h0)]
      · have e : IntKind.i64.wrap ((run : Int) + 1) = ((run + 1 : Nat) : Int) := by rw [w64 (by omega) (by omega)]; omega
        rw [e] at H
        exact H
    · rcases Nat.lt_or_ge l.length (p + 2 + (l.getD (p + 1) 0).toNat) with h2 | h2
      · refine (option_no (hB.ext hE) hp h2).mono ?_
        rintro _ w7 ⟨hE7, rfl⟩
        have H := H.ext hE7
        have hb1 := H.blk 1 rfl
        have hb2 := H.blk 2 rfl
        refine leave_ret (u := .panicking cutc) rfl (fun h => by cases h) (options_catch (hb1.cell 0) (hb1.frozen 0) (hb2.cell 0) (hb2.frozen 0) hne) rfl ?_
        have hm8 := Mod.setCell w7 ⟨g1, 0, none⟩ (.slice none 0 0)
        have H8 := H.mod 1 rfl hm8 (fun k _ e => e) (Fct.blk g1 54 [.slice none 0 0]) (hb1.set 0 (.slice none 0 0)) fun k hk => .inl hk
        have hm9 := Mod.setCell (w7.setCell ⟨g1, 0, none⟩ (.slice none 0 0)) ⟨g2, 0, none⟩ (.int .i64 75)
        have H9 := H8.mod 2 rfl hm9 (fun k _ e => e) (Fct.blk g2 36 [.int .i64 75]) ((H8.blk 2 rfl).set 0 (.int .i64 75)) fun k hk => .inl hk
        refine ⟨_, _, _, H9.cell 1 rfl 0 rfl, _, H9.cell 2 rfl 0 rfl, Sl.z, [], (H9.take 1).nil _ _ _, rfl, ?_⟩
        rw [ho, optsS_none hpl (by rw [hg]; exact h0) h2]
        exact ⟨rfl, rfl, rfl⟩
      · refine (option_yes (hB.ext hE) h2).mono ?_
        rintro _ w7 ⟨hE7, rfl⟩
        have H := H.ext hE7
        refine ⟨_, rfl, Br.dec (fun h1 => ?_) fun h1 => ?_⟩
        · refine ⟨_, H.cell 3 rfl 0 rfl, SetVC.sep H 3 rfl (show 0 < 1 by decide) fun w8 H => ⟨rfl, ?_⟩⟩
          rw [w64 (by omega) (by omega)]
          refine ⟨⟨p + 2 + (l.getD (p + 1) 0).toNat, run + 2 + (l.getD (p + 1) 0).toNat, os, rs, so, by omega, by omega, by omega, by omega, ?_, hA, hn, ?_⟩, by omega⟩
          · rw [ho, optsS_pad (hg.trans h1) h2]
          · have e : IntKind.i64.wrap ((run : Int) + ((2 + (l.getD (p + 1) 0).toNat : Nat) : Int)) = ((run + 2 + (l.getD (p + 1) 0).toNat : Nat) : Int) := by rw [w64 (by omega) (by omega)]; omega
            rw [e] at H
            exact H
        · refine (flush_spec (s := s) (l := l) H hn (by omega) (by omega)).mono ?_
          rintro _ w9 ⟨rfl, so', nr, hnr, hn', H⟩
          have hE9 := H.start1
          refine ⟨rfl, ?_⟩
          obtain ⟨m, hm⟩ : ∃ m, m = (l.getD (p + 1) 0).toNat := ⟨_, rfl⟩
          rw [← hm] at h2 ⊢
          rw [w64 (n := (p : Int) + 2) (by omega) (by omega), w64 (n := ((2 + m : Nat) : Int) - 2) (by omega) (by omega)]
          have hW := Nd.window_yes (p := (p : Int) + 2) (k := ((2 + m : Nat) : Int) - 2) (hB.ext hE9).cells (by rw [List.length_map]; exact hl) hB.cap (by omega) (by omega) (by omega) (by omega)
          refine hW.mono ?_
          rintro _ w10 ⟨hE10, A', rfl, -, hA'⟩
          have H := H.ext hE10
          have e1 : (((2 + m : Nat) : Int) - 2).toNat = m := by omega
          have e2 : ((p : Int) + 2).toNat = p + 2 := by omega
          rw [e1]
          have hsl : (⟨A', m, m⟩ : Sl) = winSl s (p + 2) m := by
            unfold winSl
            rw [hA', e2]
            congr 1
            by_cases h : m = 0
            · rw [if_pos (by omega), if_pos h]
            · rw [if_neg (by omega), if_neg h]
          refine ⟨_, _, _, _, rfl, _, _, _, H.cell 1 rfl 0 rfl, NewVC.sep H fun g4 w11 H => ?_⟩
          have H := H.front
          have hsz := (H.restOf 1 rfl).size
          have hnrl := hnr.len
          have hfl : (flushS run).length ≤ run := by unfold flushS; split <;> simp; omega
          rw [List.length_append] at hn'
          refine appO (o := ⟨x, ⟨A', m, m⟩⟩) H 5 rfl (Cells.blk0 (H.blk 0 rfl)) (by omega) (by omega) fun A2 c2 w12 H hc2 => SetVC.sep H 2 rfl (show 0 < 1 by decide) fun w13 H => ⟨rfl, ?_⟩
          rw [w64 (by omega) (by omega)]
          have hnew : OptIs s l ⟨x, p + 2, m⟩ ⟨⟨x, ⟨A', m, m⟩⟩, bpart l (p + 2) m⟩ := by
            refine ⟨?_, rfl, rfl, fun _ => hsl⟩
            unfold OP.d OptR.d
            rw [if_neg h0]
          refine ⟨⟨p + 2 + m, 0, os ++ (flushS run ++ [⟨x, p + 2, m⟩]), (rs ++ nr) ++ [⟨⟨x, ⟨A', m, m⟩⟩, bpart l (p + 2) m⟩], ⟨A2, so'.n + 1, c2⟩, by omega, by omega, Nat.zero_le _, by simp only [List.length_append, List.length_singleton]; omega, ?_, ?_, by simp only [List.length_append, List.length_singleton]; omega, ?_⟩, by omega⟩
          · rw [ho, optsS_opt (by rw [hg]; exact h0) (by rw [hg]; exact h1) (by omega), ← hm, hg, Option.map_map]
            congr 1
            funext q
            simp
          · rw [List.append_assoc rs]; exact hA.append (hnr.append (.cons hnew .nil))
          · have H := H.tail
            have hp0 : padF w.heap.size ⟨⟨x, ⟨A', m, m⟩⟩, bpart l (p + 2) m⟩ = Fct.nil := by unfold padF; rw [if_neg h0]
            unfold readO rowO
            rw [List.map_append (f := padF _), List.map_append (f := fun r : OptR => r.v.cells), List.flatten_append]
            simp only [List.map_cons, List.map_nil, List.flatten_cons, List.flatten_nil, List.append_nil, hp0]
            have H := H.push (Mod.refl _ _) Fct.nil trivial (fun k hk => hk.elim)
            exact H
  · have hpe : p = l.length := by omega
    refine (flush_spec (s := s) (l := l) H hn (by omega) (by omega)).mono ?_
    rintro _ w17 ⟨rfl, so', nr, hnr, hn', H⟩
    refine ⟨rfl, _, _, _, H.cell 1 rfl 0 rfl, SetVC.sep H 1 rfl (show 0 < 1 by decide) fun w18 H => SetVC.sep H 2 rfl (show 0 < 1 by decide) fun w19 H => ?_⟩
    refine leave_ret rfl nofun options_idle rfl ?_
    refine ⟨_, _, _, H.cell 1 rfl 0 rfl, _, H.cell 2 rfl 0 rfl, so', rs ++ nr, ?_, hn', ?_⟩
    · exact H.sub (.cons_cons _ (.cons _ (.cons _ (.cons _ (List.Sublist.refl _)))))
    · rw [ho, optsS_end (by omega)]
      exact ⟨rfl, hA.append hnr⟩
end
end N6
end Go.Proofs.YthhgbpmihhljdaaGreatDoor
/- Chapter 7, reading: cursors, one extension header, the program's. -/
namespace Go.Proofs.YthhgbpmihhljdaaGreatDoor
namespace N6
open Go.Eng Go.RowKit
section
variable {w w0 : World} {s : Sl} {l : List Int} {Γ : List Fct}
abbrev curB (g : Nat) (s : Sl) (p : Nat) : Fct := Fct.blk g 180 [s.val, .int .i64 p]
theorem winSl_of {A' : Option Addr} {p k : Nat} (h : A' = if (k : Int) = 0 then s.A else s.A.map (·.add (p : Int).toNat)) : (⟨A', k, k⟩ : Sl) = winSl s p k := by
  unfold winSl
  rw [h, Int.toNat_natCast]
  congr 1
  by_cases h : k = 0
  · rw [if_pos (by omega), if_pos h]
  · rw [if_neg (by omega), if_neg h]
theorem curWin_yes {g p k i j : Nat} {kk : Int} (H : Sep Γ w) (h0 : Γ[j]? = some (Fct.rest w0 None)) (hi : Γ[i]? = some (curB g s p)) (hB : BytesAt w0 s l) (hk : p + k ≤ l.length) (hkk : kk = k) :
    Calls Tryz.prog 91 #[.pointer (some ⟨g, 0, none⟩), .int .i64 kk] w fun e w' => e = .returned (.tuple #[(winSl s p k).val, .int .i64 0]) ∧ Sep (Γ.set i (curB g s (p + k))) w' := by
  subst hkk
  refine Nd.view_Cursor_Window_of _ k w _ ?_
  unfold Nd.view_Cursor_Window_VC
  have hl := hB.len
  have hs := hB.small
  refine DrawVC.sep H (fun w' => Blk w' g 180 [s.val, .int .i64 p]) fun w1 H => ⟨H.blk i hi, _, rfl, _, _, _, fun w' hb => hb.cell 0, _, rfl, _, fun w' hb => hb.cell 1, ?_⟩
  refine (Nd.window_yes (p := (p : Int)) (k := (k : Int)) (hB.ext (H.restOf j h0)).cells (by rw [List.length_map]; exact hl) hB.cap (by omega) (by omega) (by omega) (by omega)).mono ?_
  rintro _ w2 ⟨hE, A', rfl, -, hA'⟩
  have H := H.ext hE
  have hsl := winSl_of hA'
  refine ⟨_, _, _, _, rfl, H.blk i hi, Br.yes rfl ⟨_, rfl, _, (H.blk i hi).cell 1, _, rfl, SetVC.sep H i hi (show 1 < 2 by decide) fun w3 H => ⟨?_, ?_⟩⟩⟩
  · rw [← hsl, Int.toNat_natCast]; rfl
  · have e : IntKind.i64.wrap ((p : Int) + (k : Int)) = ((p + k : Nat) : Int) := by rw [w64 (by omega) (by omega)]; omega
    rw [e] at H
    exact H
theorem curWin_no {g p k i j : Nat} {kk : Int} (H : Sep Γ w) (_h0 : Γ[j]? = some (Fct.rest w0 None)) (hi : Γ[i]? = some (curB g s p)) (hB : BytesAt w0 s l) (_hp : p ≤ l.length) (hk : l.length < p + k) (hkk : kk = k) :
    Calls Tryz.prog 91 #[.pointer (some ⟨g, 0, none⟩), .int .i64 kk] w fun e w' => e = .returned (.tuple #[Sl.z.val, .int .i64 10]) ∧ Sep Γ w' := by
  subst hkk
  refine Nd.view_Cursor_Window_of _ k w _ ?_
  unfold Nd.view_Cursor_Window_VC
  have hl := hB.len
  have hs := hB.small
  refine DrawVC.sep H (fun w' => Blk w' g 180 [s.val, .int .i64 p]) fun w1 H => ⟨H.blk i hi, _, rfl, _, _, _, fun w' hb => hb.cell 0, _, rfl, _, fun w' hb => hb.cell 1, ?_⟩
  refine (Nd.window_no (A := s.A) (n := s.n) (c := s.k) (p := (p : Int)) (k := (k : Int)) (by omega) (by omega)).mono ?_
  rintro _ w2 ⟨hE, rfl⟩
  have H := H.ext hE
  rw [if_neg (by omega)]
  exact ⟨_, _, _, _, rfl, H.blk i hi, Br.no (show ¬ ((10 : Int) = 0) by decide) ⟨rfl, H⟩⟩
theorem curUint_one {g p i j : Nat} (H : Sep Γ w) (h0 : Γ[j]? = some (Fct.rest w0 None)) (hi : Γ[i]? = some (curB g s p)) (hB : BytesAt w0 s l) (hk : p + 1 ≤ l.length) :
    Calls Tryz.prog 109 #[.pointer (some ⟨g, 0, none⟩), .int .i64 1] w fun e w' => e = .returned (.tuple #[.int .u64 (l.getD p 0), .int .i64 0]) ∧ Sep (Γ.set i (curB g s (p + 1))) w' := by
  refine Nd.view_Cursor_Uint_of _ 1 w _ ?_
  unfold Nd.view_Cursor_Uint_VC
  have hl := hB.len
  have hs := hB.small
  refine DrawVC.sep H (fun w' => Blk w' g 180 [s.val, .int .i64 p]) fun w1 H => ⟨H.blk i hi, _, rfl, _, _, _, fun w' hb => hb.cell 0, _, rfl, _, fun w' hb => hb.cell 1, ?_⟩
  refine (Nd.uint_spec (p := (p : Int)) (k := 1) (hB.ext (H.restOf j h0)).cells hl hB.bts (by omega)).mono ?_
  rintro _ w2 ⟨hE, rfl⟩
  have H := H.ext hE
  rw [uintS_one hk]
  refine ⟨_, _, rfl, H.blk i hi, Br.yes rfl ⟨_, rfl, _, (H.blk i hi).cell 1, _, rfl, SetVC.sep H i hi (show 1 < 2 by decide) fun w3 H => ⟨rfl, ?_⟩⟩⟩
  have e : IntKind.i64.wrap ((p : Int) + 1) = ((p + 1 : Nat) : Int) := by rw [w64 (by omega) (by omega)]; omega
  rw [e] at H
  exact H
theorem curLeft {g p i : Nat} (H : Sep Γ w) (hi : Γ[i]? = some (curB g s p)) (hl : l.length = s.n) (hs : s.n ≤ 4000000) (hp : p ≤ l.length) :
    Calls Tryz.prog 92 #[.pointer (some ⟨g, 0, none⟩)] w fun e w' => e = .returned (.int .i64 ((l.length - p : Nat) : Int)) ∧ Sep Γ w' := by
  refine Nd.view_Cursor_Left_of _ w _ ?_
  unfold Nd.view_Cursor_Left_VC
  refine DrawVC.sep H (fun w' => Blk w' g 180 [s.val, .int .i64 p]) fun w1 H => ⟨H.blk i hi, _, rfl, _, _, _, fun w' hb => hb.cell 0, _, rfl, _, fun w' hb => hb.cell 1, ?_⟩
  refine ⟨?_, H⟩
  rw [w64 (by omega) (by omega)]
  congr 3
  omega
abbrev chB (g : Nat) (c : ChnV) : Fct := Fct.blk g 142 c.cells
abbrev hdG (w0 : World) (g1 gc gk : Nat) (c : ChnV) (s : Sl) (p : Nat) (xs : List ExtR) : List Fct := Fct.rest w0 None :: chB g1 ChnV.z :: chB gc c :: curB gk s p :: readX w0.heap.size c.exts xs
/-- How reading a header ends. -/
def HdrRead (w0 : World) (g1 gc gk : Nat) (c : ChnV) (s : Sl) (l : List Int) (p : Nat) (xs : List ExtR) (e : Ending) (w' : World) : Prop :=
  (∃ err : Int, e = .returned (.int .i64 err) ∧ err ≠ 0 ∧ (∀ top, ¬ (c.next = 0 ∧ (top = false ∨ 0 < xs.length)) → hdrsS l top c.next p xs.length = .error err) ∧ Sep [Fct.rest w0 None, chB g1 ChnV.z] w') ∨
  (∃ (os : List OP) (x : ExtR) (se : Sl), e = .returned (.int .i64 0) ∧ xs.length < 8 ∧ p + 2 + lenH l p ≤ l.length ∧ inS c.next l (p + 2) (lenH l p) = some os ∧ ExtIs s l ⟨c.next, os, p + 2, lenH l p⟩ x ∧ se.n = (xs ++ [x]).length ∧
    Sep (hdG w0 g1 gc gk { c with exts := se, next := l.getD p 0 } s (p + 2 + lenH l p) (xs ++ [x])) w')
theorem sortS_43 {k : Int} (h : isH k) : sortS k = 2 ↔ k = 43 := by
  unfold isH at h
  unfold sortS
  rcases h with h | h | h <;> subst h <;> decide
set_option maxHeartbeats 4000000 in
theorem header_spec {g1 gc gk p : Nat} {c : ChnV} {xs : List ExtR} (H : Sep (hdG w0 g1 gc gk c s p xs) w) (hB : BytesAt w0 s l) (hK : Kn w0) (hp : p ≤ l.length) (hk : isH c.next) (hn : c.exts.n = xs.length) (hx8 : xs.length ≤ 8) :
    Calls Tryz.prog 90 #[.pointer (some ⟨gc, 0, none⟩), .pointer (some ⟨gk, 0, none⟩)] w (HdrRead w0 g1 gc gk c s l p xs) := by
  refine ip6_header_of _ _ w _ ?_
  unfold ip6_header_VC
  have hl := hB.len
  have hs := hB.small
  have b0 := getD_byte hB.bts p
  have b1 := getD_byte hB.bts (p + 1)
  refine ⟨_, rfl, _, _, _, H.cell 2 rfl 0 rfl, Br.dec (fun h8 => ?_) fun h8 => ?_⟩
  · exact .inl ⟨74, rfl, by decide, fun top ht => hdrsS_many hk ht (by omega), H.take 2⟩
  refine (curLeft H (i := 3) rfl hl hs hp).mono ?_
  rintro _ w1 ⟨rfl, H⟩
  refine ⟨_, rfl, Br.dec (fun hlt => ?_) fun hge => ?_⟩
  · exact .inl ⟨72, rfl, by decide, fun top ht => hdrsS_short hk ht (by omega) (.inl (by omega)), H.take 2⟩
  have hlen : lenH l p = 8 * (l.getD (p + 1) 0).toNat + 6 := rfl
  refine (curUint_one H (j := 0) rfl (i := 3) rfl hB (by omega)).mono ?_
  rintro _ w2 ⟨rfl, H⟩
  refine ⟨_, _, rfl, ?_⟩
  refine (curUint_one (p := p + 1) H (j := 0) rfl (i := 3) rfl hB (by omega)).mono ?_
  rintro _ w3 ⟨rfl, H⟩
  refine ⟨_, _, rfl, ?_⟩
  have hkk : IntKind.i64.wrap (IntKind.i64.wrap (8 * IntKind.i64.wrap (l.getD (p + 1) 0)) + 6) = ((lenH l p : Nat) : Int) := by
    rw [w64 (n := l.getD (p + 1) 0) (by omega) (by omega), w64 (n := 8 * l.getD (p + 1) 0) (by omega) (by omega), w64 (by omega) (by omega)]
    omega
  rw [hkk]
  rcases Nat.lt_or_ge l.length (p + 2 + lenH l p) with hw | hw
  · refine (curWin_no (p := p + 1 + 1) H (j := 0) rfl (i := 3) rfl hB (by omega) (by omega) rfl).mono ?_
    rintro _ w4 ⟨rfl, H⟩
    exact ⟨_, _, _, _, rfl, Br.yes (show ¬ ((10 : Int) = 0) by decide) (.inl ⟨72, rfl, by decide, fun top ht => hdrsS_short hk ht (by omega) (.inr hw), H.take 2⟩)⟩
  refine (curWin_yes (p := p + 1 + 1) (k := lenH l p) H (j := 0) rfl (i := 3) rfl hB (by omega) rfl).mono ?_
  rintro _ w4 ⟨rfl, H⟩
  refine ⟨_, _, _, _, rfl, Br.no (fun h => h rfl) ⟨_, rfl, _, H.cell 2 rfl 5 rfl, NewVC.sep H fun g5 w5 H => ?_⟩⟩
  have H := H.front
  refine Stores.sep H 0 rfl (ExtV.one ⟨c.next, Sl.z, Sl.z⟩) (Nat.le_refl _) (splice_all rfl) fun w6 H => ?_
  refine JoinVC.of (fun _ w' => ∃ (xv : ExtV) (ro : List OptR) (os : List OP), inS c.next l (p + 2) (lenH l p) = some os ∧ xv.kind = c.next ∧ All2 (OptIs (winSl s (p + 2) (lenH l p)) (bpart l (p + 2) (lenH l p))) os ro ∧ ro.length = xv.opts.n ∧ xv.data = (if c.next = 43 then winSl s (p + 2) (lenH l p) else Sl.z) ∧
      Sep (Fct.blk g5 56 xv.cells :: Fct.rest w0 None :: chB g1 ChnV.z :: chB gc c :: curB gk s (p + 2 + lenH l p) :: (readX w0.heap.size c.exts xs ++ readO w0.heap.size xv.opts ro)) w') ?_ ?_
  · refine ⟨_, rfl, _, H.cell 3 rfl 5 rfl, ?_⟩
    refine (sort_spec (k := c.next) (hK.ext (H.restOf 1 rfl))).mono ?_
    rintro _ w7 ⟨hE7, rfl⟩
    have H := H.ext hE7
    refine ⟨_, rfl, Br.dec (fun h2 => ?_) fun h2 => ?_⟩
    · have h43 : c.next = 43 := (sortS_43 hk).1 h2
      refine SetVC.sep H 0 rfl (show 2 < 3 by decide) fun w8 H => ⟨⟨c.next, Sl.z, winSl s (p + 2) (lenH l p)⟩, [], [], by unfold inS; rw [if_pos h43], rfl, .nil, rfl, by rw [if_pos h43], ?_⟩
      exact H.nil _ _ _
    · have h43 : c.next ≠ 43 := fun h => h2 ((sortS_43 hk).2 h)
      have hz7 := (H.restOf 1 rfl).size
      have hin : inS c.next l (p + 2) (lenH l p) = optsS (bpart l (p + 2) (lenH l p)) 0 0 := by unfold inS; rw [if_neg h43]
      refine (options_read ((hB.win (p := p + 2) (n := lenH l p) hw).ext (H.restOf 1 rfl))).mono ?_
      rintro e w9 ⟨so, ro, H9, hro, hm⟩
      have H9 := (AllLe.append (AllLe.refl [Fct.rest w7 None]) (readO_less hz7)).sep H9
      have H := H.mades H9
      cases ho : optsS (bpart l (p + 2) (lenH l p)) 0 0 with
      | none =>
        rw [ho] at hm
        obtain ⟨rfl, rfl, rfl⟩ := hm
        refine ⟨_, _, _, _, rfl, SetVC.sep H 0 rfl (show 1 < 3 by decide) fun w10 H => Br.yes (show ¬ ((75 : Int) = 0) by decide) (.inl ⟨75, rfl, by decide, fun top ht => hdrsS_opts hk ht (by omega) hw (hin.trans ho), ?_⟩)⟩
        exact H.tail.take 2
      | some os =>
        rw [ho] at hm
        obtain ⟨rfl, hA⟩ := hm
        refine ⟨_, _, _, _, rfl, SetVC.sep H 0 rfl (show 1 < 3 by decide) fun w10 H => Br.no (fun h => h rfl) ⟨⟨c.next, so, Sl.z⟩, ro, os, hin.trans ho, rfl, hA, hro.symm, by rw [if_neg h43], H⟩⟩
  · rintro _ w11 ⟨xv, ro, os, hin, hxk, hA, hro, hxd, H⟩
    unfold ip6_header_J511
    refine DrawVC.sep H (fun w' => Blk w' gc 142 c.cells ∧ Blk w' g5 56 xv.cells) fun w12 H => ⟨⟨H.blk 3 rfl, H.blk 0 rfl⟩, _, rfl, _, _, _, fun w' hb => hb.1.cell 0, ExtV.of xv ⟨fun w' hb => CellsAt.blk hb.2, NewVC.sep H fun g6 w13 H => ?_⟩⟩
    have H := H.front
    refine ⟨⟨H.blk 4 rfl, H.blk 1 rfl⟩, ?_⟩
    have hsz := (H.restOf 2 rfl).size
    refine appE (o := xv) H 6 rfl (Cells.blk0 (H.blk 0 rfl)) (by omega) (by omega) fun A2 c2 w14 H hc2 => ⟨⟨H.blk 4 rfl, H.blk 1 rfl⟩, _, rfl, SetVC.sep H 4 rfl (show 0 < 7 by decide) fun w15 H => ⟨_, rfl, SetVC.sep H 4 rfl (show 5 < 7 by decide) fun w16 H => ?_⟩⟩
    refine .inr ⟨os, ⟨xv, ro, if c.next = 43 then bpart l (p + 2) (lenH l p) else []⟩, ⟨A2, c.exts.n + 1, c2⟩, rfl, by omega, hw, hin, ⟨hxk, hA, hro, hxd, rfl⟩, by simp [hn], ?_⟩
    rw [w64 (n := l.getD p 0) (by omega) (by omega)] at H
    have H := H.tail.tail
    unfold hdG readX rowE readX1
    simp only [List.map_append, List.flatten_append, List.map_cons, List.map_nil, List.flatten_cons, List.flatten_nil, List.append_nil, List.flatMap_append, List.flatMap_cons, List.flatMap_nil]
    exact H
end
end N6
end Go.Proofs.YthhgbpmihhljdaaGreatDoor
