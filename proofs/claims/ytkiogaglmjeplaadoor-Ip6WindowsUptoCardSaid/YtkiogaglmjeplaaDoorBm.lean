/- Chapter 13, the program's small functions: copies of bytes, of options, of headers; how many are kept; how long what is put is. -/
import Derived.Test.YtkiogaglmjeplaaDoorBl
import Derived.Test.YtkiogaglmjeplaaDoorBh
import Derived.Test.YtkiogaglmjeplaaDoorBj
import Derived.Test.YtkiogaglmjeplaaDoorBk
namespace Go.Proofs.YtkiogaglmjeplaaDoor
namespace N6
open Go.Eng Go.RowKit
theorem tO : TypeIs Tryd.prog 65 (.agg #[.int .i64 0, .slice none 0 0]) 2 32 := .of (by kernel_rfl)
theorem tE : TypeIs Tryd.prog 54 (.agg #[.int .i64 0, .slice none 0 0, .slice none 0 0]) 3 56 := .of (by kernel_rfl)
section
variable {w : World} {Γ : List Fct}
def keepO (copied : Bool) (o : OptD) : Bool := !copied || decide (bitv .and .i64 o.kind 128 ≠ 0)
theorem appO (H : Sep Γ w) (i : Nat) {b n c : Nat} {A A' : Option Addr} {xs : List Value} {o : OptV} {c' : Nat} (hi : Γ[i]? = some (Fct.own b 65 2 (.slice A n c) n xs)) (hs : Cells w A' o.cells) (hn : n ≤ 1000000000) (hb : b ≤ w.heap.size)
    {F : Option Addr → Nat → Nat → World → Prop} (h : ∀ A2 c2 w', Sep (Γ.set i (Fct.own b 65 2 (.slice A2 (n + 1) c2) (n + 1) (xs ++ o.cells))) w' → n + 1 ≤ c2 → F A2 (n + 1) c2 w') :
    AppVC Tryd.prog #[52, 52] 52 (.slice A n c) (.slice A' 1 c') w F :=
  AppVC.sep H i Tryd.underlying52 tO rfl (by decide) hi hs rfl o.one (by omega) (by decide) hb h
end
end N6
end Go.Proofs.YtkiogaglmjeplaaDoor
/- Chapter 13, the program's: copies of headers; how many are kept; PutChain, Size, Check, how long options are. -/
namespace Go.Eng
theorem last43_at {l : List ExtD} {i : Nat} {x : ExtD} (h : l[i]? = some x) (hx : x.kind = 43) (hn : ∀ j y, i < j → l[j]? = some y → y.kind ≠ 43) : last43 l = i + 1 := by
  induction l generalizing i with
  | nil => simp at h
  | cons y r ih =>
    cases i with
    | zero =>
      simp at h; subst h
      have h0 : last43 r = 0 := by
        have : ∀ (r : List ExtD), (∀ y ∈ r, y.kind ≠ 43) → last43 r = 0 := by
          intro r
          induction r with
          | nil => intro _; rfl
          | cons z r ih =>
            intro hz
            unfold last43
            rw [ih fun y hy => hz y (by simp [hy]), if_neg (by omega), if_neg (hz z (by simp))]
        refine this r fun z hz => ?_
        obtain ⟨j, hj⟩ := List.mem_iff_getElem?.1 hz
        exact hn (j + 1) z (by omega) (by simpa using hj)
      unfold last43
      rw [h0, if_neg (by omega), if_pos hx]
    | succ i =>
      have := ih (i := i) (by simpa using h) fun j y hj hy => hn (j + 1) y (by omega) (by simpa using hy)
      unfold last43
      rw [this, if_pos (by omega)]
theorem last43_none {l : List ExtD} (h : ∀ x ∈ l, x.kind ≠ 43) : last43 l = 0 := by
  induction l with
  | nil => rfl
  | cons z r ih =>
    unfold last43
    rw [ih fun y hy => h y (by simp [hy]), if_neg (by omega), if_neg (h z (by simp))]
def putChainS (l : List ExtD) (next : Int) : List Int × Int :=
  if next < 0 ∨ 255 < next then ([], 1) else if (headersS l next false).2 ≠ 0 then ([], (headersS l next false).2) else if upperS next = true then ((headersS l next false).1, 0) else ([], 72)
end Go.Eng
namespace Go.Proofs.YtkiogaglmjeplaaDoor
namespace N6
open Go.Eng Go.RowKit
section
variable {w : World} {Γ : List Fct}
theorem appE (H : Sep Γ w) (i : Nat) {b n c : Nat} {A A' : Option Addr} {xs : List Value} {o : ExtV} {c' : Nat} (hi : Γ[i]? = some (Fct.own b 54 3 (.slice A n c) n xs)) (hs : Cells w A' o.cells) (hn : n ≤ 1000000000) (hb : b ≤ w.heap.size)
    {F : Option Addr → Nat → Nat → World → Prop} (h : ∀ A2 c2 w', Sep (Γ.set i (Fct.own b 54 3 (.slice A2 (n + 1) c2) (n + 1) (xs ++ o.cells))) w' → n + 1 ≤ c2 → F A2 (n + 1) c2 w') :
    AppVC Tryd.prog #[26, 26] 26 (.slice A n c) (.slice A' 1 c') w F :=
  AppVC.sep H i Tryd.underlying26 tE rfl (by decide) hi hs rfl o.one (by omega) (by decide) hb h
theorem keep_all (l : List OptD) : l.filter (keepO false) = l := List.filter_eq_self.2 fun _ _ => rfl
theorem check6_spec {h : Ip6V} {es : List ExtR} {data : List Int} (hA : Ip6At w h es data) (hK : Kn w) : Calls Tryd.prog 38 #[h.val] w fun e w' => Ext w w' ∧ e = .returned (.int .i64 (ser6S (h.d es data)).2) := by
  refine ip6_Check_of h w _ ?_
  unfold ip6_Check_VC
  refine NewVC.sep (Sep.start0 w) fun g1 w1 H => Ip6V.of h ⟨H.at 1 rfl, ?_⟩
  refine (made_spec (hA.ext (H.restOf 0 rfl)) (hK.ext (H.restOf 0 rfl))).mono ?_
  rintro _ w2 ⟨A, c, rfl, H2⟩
  exact ⟨_, _, _, _, rfl, (H.restOf 0 rfl).trans (H2.restOf 0 rfl), rfl⟩
theorem size6_spec {h : Ip6V} {es : List ExtR} {data : List Int} (hA : Ip6At w h es data) (hK : Kn w) : Calls Tryd.prog 39 #[h.val] w fun e w' => Ext w w' ∧ e = .returned (.int .i64 ((ser6S (h.d es data)).1.length : Nat)) := by
  refine ip6_Size_of h w _ ?_
  unfold ip6_Size_VC
  refine NewVC.sep (Sep.start0 w) fun g1 w1 H => Ip6V.of h ⟨H.at 1 rfl, ?_⟩
  refine (made_spec (hA.ext (H.restOf 0 rfl)) (hK.ext (H.restOf 0 rfl))).mono ?_
  rintro _ w2 ⟨A, c, rfl, H2⟩
  exact ⟨_, _, _, _, rfl, (H.restOf 0 rfl).trans (H2.restOf 0 rfl), rfl⟩
theorem putChain_spec {s : Sl} {rs : List ExtR} {next : Int} (hX : ExtsAt w s rs) (hK : Kn w) : Calls Tryd.prog 25 #[s.val, .int .i64 next] w (Made w (putChainS (rs.map ExtR.d) next)) := by
  refine ip6_PutChain_of s.A s.n s.k next w _ ?_
  unfold ip6_PutChain_VC
  have r1 : next < 0 ∨ 255 < next → putChainS (rs.map ExtR.d) next = ([], 1) := fun h => by unfold putChainS; rw [if_pos h]
  refine Br.dec (fun h1 => Made.err (Mod.refl _ _) (r1 (by omega))) fun h1 => Br.dec (fun h2 => Made.err (Mod.refl _ _) (r1 (by omega))) fun h2 => ?_
  refine (headers_spec (next := next) (inner := true) hX hK).mono ?_
  rintro _ w2 ⟨A, c, rfl, H⟩
  have hs : putChainS (rs.map ExtR.d) next = if (headersS (rs.map ExtR.d) next (!true)).2 ≠ 0 then ([], (headersS (rs.map ExtR.d) next (!true)).2) else if upperS next = true then ((headersS (rs.map ExtR.d) next (!true)).1, 0) else ([], 72) := by
    unfold putChainS; rw [if_neg (by omega)]; rfl
  refine ⟨_, _, _, _, rfl, Br.dec (fun h3 => Made.err (H.restOf 0 rfl) (by rw [hs, if_pos h3])) fun h3 => ?_⟩
  rw [if_neg h3] at hs
  refine (sort_spec (hK.ext (H.restOf 0 rfl))).mono ?_
  rintro _ w3 ⟨hE, rfl⟩
  have H := H.ext hE
  refine ⟨_, rfl, Br.dec (fun h4 => Made.err (H.restOf 0 rfl) ?_) fun h4 => Made.ok ?_ H⟩
  · rw [hs, if_neg (fun hu => h4 ((sort_upper next).2 hu))]
  · rw [hs, if_pos ((sort_upper next).1 (by omega))]
end
end N6
end Go.Proofs.YtkiogaglmjeplaaDoor
/- Chapter 13, the program's cut: the parts, each in memory of its own. -/
namespace Go.Eng
open Go Go.RowKit
structure PieR where
  v : PieV
  data : List Int
def PieR.d (r : PieR) : Int × List Int × Bool := (r.v.off, r.data, r.v.last)
def partV (l : List Int) (x : Nat × Nat) : Int × List Int × Bool := ((x.1 : Int), (l.drop x.1).take x.2, !decide (x.1 + x.2 < l.length))
/-- A window of bytes, without room behind. -/
theorem BytesAt.cut {w : World} {s : Sl} {l : List Int} (h : BytesAt w s l) {p k : Nat} (hk : p + k ≤ s.n) {lo hi mx : Int} (h1 : lo = p) (h2 : hi = (p + k : Nat)) (h3 : mx = (p + k : Nat)) {F : Option Addr → Nat → Nat → Prop}
    (hF : ∀ s' : Sl, s'.n = k → s'.k = k → BytesAt w s' ((l.drop p).take k) → F s'.A s'.n s'.k) : SliceVC s.A s.n s.k 1 (some lo) (some hi) (some mx) F := by
  subst h1; subst h2; subst h3
  have hc := h.cap
  have hs := h.small
  have hl := h.len
  refine ⟨by omega, by omega, by omega, by omega, ?_⟩
  simp only [Int.toNat_natCast, Nat.mul_one]
  have e : p + k - p = k := by omega
  rw [e]
  refine hF ⟨_, k, k⟩ rfl rfl ⟨by simp; omega, Nat.le_refl _, by show k ≤ 4000000; omega, fun x hx => h.bts x (List.mem_of_mem_drop (List.mem_of_mem_take hx)), ?_⟩
  have := h.cells.win (p := p) (k := k)
  rw [List.map_take, List.map_drop]
  simp only [Int.toNat_natCast] at this
  show Cells w (if p + k = p then s.A else s.A.map (·.add p)) _
  by_cases h0 : k = 0
  · subst h0; simpa using Cells.nil _ _
  · rw [if_neg (by omega)] at this ⊢
    exact this
theorem BytesAt.part {w : World} {s : Sl} {l : List Int} (h : BytesAt w s l) {p k : Nat} (hk : p + k ≤ s.n) {lo hi : Int} (h1 : lo = p) (h2 : hi = (p + k : Nat)) {F : Option Addr → Nat → Nat → Prop}
    (hF : ∀ s' : Sl, BytesAt w s' ((l.drop p).take k) → F s'.A s'.n s'.k) : SliceVC s.A s.n s.k 1 (some lo) (some hi) none F := by
  subst h1; subst h2
  have hc := h.cap
  have hs := h.small
  have hl := h.len
  refine ⟨by omega, by omega, by omega, ?_⟩
  simp only [Int.toNat_natCast, Nat.mul_one]
  have e : p + k - p = k := by omega
  rw [e]
  refine hF ⟨_, k, s.k - p⟩ ⟨by simp; omega, by show k ≤ s.k - p; omega, by show k ≤ 4000000; omega, fun x hx => h.bts x (List.mem_of_mem_drop (List.mem_of_mem_take hx)), ?_⟩
  have := h.cells.win (p := p) (k := k)
  rw [List.map_take, List.map_drop]
  simp only [Int.toNat_natCast] at this
  show Cells w (if s.k = p then s.A else s.A.map (·.add p)) _
  by_cases h0 : k = 0
  · subst h0; simpa using Cells.nil _ _
  · rw [if_neg (by omega)] at this ⊢
    exact this
end Go.Eng
namespace Go.Proofs.YtkiogaglmjeplaaDoor
namespace N6
open Go.Eng Go.RowKit
structure PiesFine (s : Sl) (ps : List PieR) : Prop where
  len : ps.length = s.n
  small : s.n ≤ 4000001
  each : ∀ r ∈ ps, BFine r.v.data r.data
section
variable {w : World} {Γ : List Fct}
end
end N6
end Go.Proofs.YtkiogaglmjeplaaDoor
/- Chapter 13, the program's Split4: the pieces, each in memory of its own. -/
namespace Go.Eng
open Go Go.RowKit
structure Ip4R where
  v : Ip4V
  opts : List OptR
  data : List Int
def Ip4R.d (r : Ip4R) : Ip4D := r.v.d r.opts r.data
theorem bit128 : ∀ k : Fin 256, (bitv .and .i64 (k.val : Int) 128 ≠ 0) ↔ 128 ≤ k.val := by decide +kernel
theorem Sep.blkRec {w : World} {Γ : List Fct} {g e b n size : Nat} {cs : List Value} (H : Sep Γ w) (i : Nat) (hi : Γ[i]? = some (Fct.blk g e cs)) (hb : b ≤ g) (hc : cs.length = n * size) (hm : n ≤ maxLen) :
    Sep (Γ.set i (Fct.own b e size (.slice (some ⟨g, 0, none⟩) n n) n cs)) w :=
  H.weaken i hi ⟨hc, .inr ⟨g, n, cs.toArray, rfl, hb, H.blk i hi, Nat.le_refl _, hm, by simpa using hc, by simp [← hc]⟩⟩ fun k hk => by
    have hk : (Value.slice (some ⟨g, 0, none⟩) n n).ownBlock = some k := hk
    simp [Value.ownBlock] at hk
    exact hk.symm
end Go.Eng
namespace Go.Proofs.YtkiogaglmjeplaaDoor
namespace N6
open Go.Eng Go.RowKit
theorem keepO_hi {o : OptD} (h0 : 0 ≤ o.kind) (h1 : o.kind ≤ 255) : keepO true o = hi o := by
  have := bit128 ⟨o.kind.toNat, by omega⟩
  have e : ((o.kind.toNat : Nat) : Int) = o.kind := Int.toNat_of_nonneg h0
  simp only [e] at this
  unfold keepO hi
  rw [Bool.not_true, Bool.false_or]
  exact decide_eq_decide.2 (this.trans (by omega))
theorem keep_hi {l : List OptD} (h : (putOpts4 l).2 = 0) : l.filter (keepO true) = l.filter hi :=
  List.filter_congr fun o ho => keepO_hi (by have := putOpts4_kinds h o ho; omega) (putOpts4_kinds h o ho).2.1
structure Ip4Fine (r : Ip4R) : Prop where
  opts : OptsFine r.v.opts r.opts
  data : BFine r.v.data r.data
  src : Bts r.v.src.bytes
  dst : Bts r.v.dst.bytes
structure Ip4sFine (s : Sl) (rs : List Ip4R) : Prop where
  len : rs.length = s.n
  small : s.n ≤ 4000001
  each : ∀ r ∈ rs, Ip4Fine r
section
variable {w : World} {Γ : List Fct}
/-- The i-th part is looked at. -/
theorem pie_idx {s : Sl} {ps : List PieR} (h : Cells w s.A (ps.map fun r => r.v.cells).flatten) (hl : ps.length = s.n) {i : Nat} (hi : i < s.n) {F : Addr → Prop} (hF : ∀ a r, ps[i]? = some r → CellsAt w a 0 r.v.cells → F a) : IdxVC s.A s.n 3 (i : Int) F := by
  refine IdxVC.rec (Recs.of_cells (by decide) (fun r hr => ?_) h) (by omega) (by omega) (by simpa using hl) fun a hc => ?_
  · obtain ⟨x, _, rfl⟩ := List.mem_map.1 hr; rfl
  · have he : ps[i]? = some ps[i] := List.getElem?_eq_getElem (by omega)
    refine hF a ps[i] he ?_
    simpa [List.getD_eq_getElem?_getD, he] using hc
/-- A piece, out of its part. -/
theorem piece_eq {h : Ip4V} {os : List OptR} {data : List Int} {x : Nat × Nat} {os' : List OptR} {so sd : Sl} (hk : (putOpts4 (os.map OptR.d)).2 = 0) (ho : os'.map OptR.d = (os.map OptR.d).filter (keepO (decide ((0 : Int) < (x.1 : Int))))) :
    Ip4R.d ⟨{ h with off := h.off + x.1, data := sd, mf := decide (x.1 + x.2 < data.length) || h.mf, opts := so }, os', (data.drop x.1).take x.2⟩ = piece4 (h.d os data) x := by
  unfold Ip4R.d Ip4V.d piece4
  simp only [ho]
  by_cases h0 : x.1 = 0
  · rw [if_pos h0, show decide ((0 : Int) < (x.1 : Int)) = false from decide_eq_false (by omega), keep_all]
  · rw [if_neg h0, show decide ((0 : Int) < (x.1 : Int)) = true from decide_eq_true (by omega), keep_hi hk]
end
end N6
end Go.Proofs.YtkiogaglmjeplaaDoor
/- Chapter 13, the program's Split4 and Fits4. -/
namespace Go.Proofs.YtkiogaglmjeplaaDoor
namespace N6
open Go.Eng Go.RowKit
section
theorem two {a b : Int} : ∀ v ∈ ([.int .i64 a, .int .i64 b] : List Value), v.oneCell' = true := fun v hv => by simp at hv; rcases hv with rfl | rfl <;> rfl
variable {w : World} {Γ : List Fct} {h : Ip4V} {os : List OptR} {data : List Int}
theorem hd4_le (d : Ip4D) : hd4 d ≤ 60 ∧ hd4k d ≤ 60 := by
  have := putOpts4_len d.opts
  have := putOpts4_len (d.opts.filter hi)
  unfold hd4 hd4k; omega
end
end N6
end Go.Proofs.YtkiogaglmjeplaaDoor
/- Chapter 13, the program's Split6 and Fits6. -/
namespace Go.Eng
open Go Go.RowKit
structure Ip6R where
  v : Ip6V
  exts : List ExtR
  data : List Int
def Ip6R.d (r : Ip6R) : Ip6D := r.v.d r.exts r.data
theorem Recs.drop {w : World} {A : Option Addr} {size : Nat} {rs : List (List Value)} (h : Recs w A size rs) (k : Nat) {c : Nat} (hc : rs.length ≤ c) : Recs w (if c = k then A else A.map (·.add (k * size))) size (rs.drop k) := by
  intro i cs hi
  rw [List.getElem?_drop] at hi
  have hlt := (List.getElem?_eq_some_iff.1 hi).1
  obtain ⟨a, rfl, hcs⟩ := h _ _ hi
  rw [if_neg (by omega)]
  refine ⟨a.add (k * size), rfl, ?_⟩
  rw [add_add, ← Nat.add_mul]
  exact hcs
theorem ExtsAt.drop {w : World} {s : Sl} {rs : List ExtR} (h : ExtsAt w s rs) {k : Nat} (hk : k ≤ s.n) : ExtsAt w ⟨if s.k = k then s.A else s.A.map (·.add (k * 3)), s.n - k, s.k - k⟩ (rs.drop k) := by
  have h1 := h.len
  have h2 := h.cap
  have h3 := h.small
  refine ⟨by simp; omega, by show s.n - k ≤ s.k - k; omega, by show s.n - k ≤ 4000000; omega, ?_, fun r hr => h.opts r (List.mem_of_mem_drop hr), fun r hr => h.data r (List.mem_of_mem_drop hr)⟩
  rw [List.map_drop]
  exact h.recs.drop k (by simp; omega)
theorem ExtsAt.take {w : World} {s : Sl} {rs : List ExtR} (h : ExtsAt w s rs) {k : Nat} (hk : k ≤ s.n) : ExtsAt w ⟨s.A, k, s.k⟩ (rs.take k) := by
  have h1 := h.len
  have h2 := h.cap
  have h3 := h.small
  refine ⟨by simp; omega, by show k ≤ s.k; omega, by show k ≤ 4000000; omega, fun i cs hi => ?_, fun r hr => h.opts r (List.mem_of_mem_take hr), fun r hr => h.data r (List.mem_of_mem_take hr)⟩
  rw [List.map_take, List.getElem?_take] at hi
  split at hi
  · exact h.recs i cs hi
  · cases hi
end Go.Eng
namespace Go.Proofs.YtkiogaglmjeplaaDoor
namespace N6
open Go.Eng Go.RowKit
abbrev rowI6 (b : Nat) (s : Sl) (rs : List Ip6R) : Fct := Fct.own b 30 44 s.val s.n (rs.map fun r => r.v.cells).flatten
def ip6Fs (b : Nat) (s : Sl) (rs : List Ip6R) : List Fct := rowI6 b s rs :: (rs.map (fun r => rowB b r.v.data r.data) ++ rs.flatMap fun r => extFs b r.v.exts r.exts)
structure Ip6Fine (r : Ip6R) : Prop where
  exts : ExtsFine r.v.exts r.exts
  data : BFine r.v.data r.data
  src : Bts r.v.src.bytes
  dst : Bts r.v.dst.bytes
structure Ip6sFine (s : Sl) (rs : List Ip6R) : Prop where
  len : rs.length = s.n
  small : s.n ≤ 4000001
  each : ∀ r ∈ rs, Ip6Fine r
def Cut6 (w : World) (r : List Ip6D × Int) (e : Ending) (w' : World) : Prop :=
  ∃ (s' : Sl) (rs : List Ip6R), e = .returned (.tuple #[s'.val, .int .i64 r.2]) ∧ rs.map Ip6R.d = r.1 ∧ Ip6sFine s' rs ∧ Sep (Fct.rest w None :: ip6Fs w.heap.size s' rs) w'
theorem tI6 : TypeIs Tryd.prog 30 (.agg (Ip6V.z : Ip6V).cells.toArray) 44 152 := .of (by kernel_rfl)
section
variable {w : World} {Γ : List Fct}
theorem Cut6.err {w' : World} {r : List Ip6D × Int} {k : Int} (h : Ext w w') (hr : r = ([], k)) : Cut6 w r (.returned (.tuple #[.slice none 0 0, .int .i64 k])) w' := by
  subst hr
  exact ⟨⟨none, 0, 0⟩, [], rfl, rfl, ⟨rfl, Nat.zero_le _, fun r h => by cases h⟩, ((Sep.start0 w).ext h).nil _ _ _⟩
theorem ip6At_of {w : World} {b : Nat} {s : Sl} {rs : List Ip6R} (h : ∀ f ∈ ip6Fs b s rs, f.φ w) (hf : Ip6sFine s rs) {r : Ip6R} (hr : r ∈ rs) : Ip6At w r.v r.exts r.data :=
  ⟨extsAt_of (b := b) (fun f hfm => h f (by simp only [ip6Fs, List.mem_cons, List.mem_append, List.mem_flatMap]; exact .inr (.inr ⟨r, hr, hfm⟩))) (hf.each r hr).exts,
   bytesAt_of (b := b) (h _ (by simp only [ip6Fs, List.mem_cons, List.mem_append, List.mem_map]; exact .inr (.inl ⟨r, hr, rfl⟩))) (hf.each r hr).data, (hf.each r hr).src, (hf.each r hr).dst⟩
theorem appI6 (H : Sep Γ w) (i : Nat) {b n c : Nat} {A A' : Option Addr} {xs : List Value} {o : Ip6V} {c' : Nat} (hi : Γ[i]? = some (Fct.own b 30 44 (.slice A n c) n xs)) (hs : Cells w A' o.cells) (hn : n ≤ 1000000000) (hb : b ≤ w.heap.size)
    {F : Option Addr → Nat → Nat → World → Prop} (h : ∀ A2 c2 w', Sep (Γ.set i (Fct.own b 30 44 (.slice A2 (n + 1) c2) (n + 1) (xs ++ o.cells))) w' → n + 1 ≤ c2 → F A2 (n + 1) c2 w') :
    AppVC Tryd.prog #[67, 67] 67 (.slice A n c) (.slice A' 1 c') w F :=
  AppVC.sep H i Tryd.underlying67 tI6 rfl (by decide) hi hs rfl o.one (by omega) (by decide) hb h
end
end N6
end Go.Proofs.YtkiogaglmjeplaaDoor
/- Chapter 13, the program's Split6 and Fits6. -/
namespace Go.Proofs.YtkiogaglmjeplaaDoor
namespace N6
open Go.Eng Go.RowKit
section
variable {w : World} {Γ : List Fct} {h : Ip6V} {es : List ExtR} {data : List Int}
end
end N6
end Go.Proofs.YtkiogaglmjeplaaDoor
