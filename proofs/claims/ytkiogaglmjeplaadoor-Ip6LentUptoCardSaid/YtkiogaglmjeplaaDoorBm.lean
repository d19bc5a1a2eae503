/- Chapter 13, the program's small functions: copies of bytes, of options, of headers; how many are kept; how long what is put is. -/
import Derived.Test.YtkiogaglmjeplaaDoorBl
import Derived.Test.YtkiogaglmjeplaaDoorBh
import Derived.Test.YtkiogaglmjeplaaDoorBj
import Derived.Test.YtkiogaglmjeplaaDoorBk
namespace Go.Proofs.YtkiogaglmjeplaaDoor
namespace N6
open Go.Eng Go.RowKit
theorem tO : TypeIs Tryd.prog 65 (.agg #[.int .i64 0, .slice none 0 0]) 2 32 := .of (by kernel_rfl)
theorem tE : TypeIs Tryd.prog 54 (.agg #[.int .i64 0, .slice none 0 0, .slice none 0 0]) 3 56 := .of (by kernel_rfl)
section
variable {w : World} {Γ : List Fct}
theorem appO (H : Sep Γ w) (i : Nat) {b n c : Nat} {A A' : Option Addr} {xs : List Value} {o : OptV} {c' : Nat} (hi : Γ[i]? = some (Fct.own b 65 2 (.slice A n c) n xs)) (hs : Cells w A' o.cells) (hn : n ≤ 1000000000) (hb : b ≤ w.heap.size)
    {F : Option Addr → Nat → Nat → World → Prop} (h : ∀ A2 c2 w', Sep (Γ.set i (Fct.own b 65 2 (.slice A2 (n + 1) c2) (n + 1) (xs ++ o.cells))) w' → n + 1 ≤ c2 → F A2 (n + 1) c2 w') :
    AppVC Tryd.prog #[52, 52] 52 (.slice A n c) (.slice A' 1 c') w F :=
  AppVC.sep H i Tryd.underlying52 tO rfl (by decide) hi hs rfl o.one (by omega) (by decide) hb h
end
end N6
end Go.Proofs.YtkiogaglmjeplaaDoor
/- Chapter 13, the program's: copies of headers; how many are kept; PutChain, Size, Check, how long options are. -/
namespace Go.Eng
def putChainS (l : List ExtD) (next : Int) : List Int × Int :=
  if next < 0 ∨ 255 < next then ([], 1) else if (headersS l next false).2 ≠ 0 then ([], (headersS l next false).2) else if upperS next = true then ((headersS l next false).1, 0) else ([], 72)
end Go.Eng
namespace Go.Proofs.YtkiogaglmjeplaaDoor
namespace N6
open Go.Eng Go.RowKit
section
variable {w : World} {Γ : List Fct}
theorem appE (H : Sep Γ w) (i : Nat) {b n c : Nat} {A A' : Option Addr} {xs : List Value} {o : ExtV} {c' : Nat} (hi : Γ[i]? = some (Fct.own b 54 3 (.slice A n c) n xs)) (hs : Cells w A' o.cells) (hn : n ≤ 1000000000) (hb : b ≤ w.heap.size)
    {F : Option Addr → Nat → Nat → World → Prop} (h : ∀ A2 c2 w', Sep (Γ.set i (Fct.own b 54 3 (.slice A2 (n + 1) c2) (n + 1) (xs ++ o.cells))) w' → n + 1 ≤ c2 → F A2 (n + 1) c2 w') :
    AppVC Tryd.prog #[26, 26] 26 (.slice A n c) (.slice A' 1 c') w F :=
  AppVC.sep H i Tryd.underlying26 tE rfl (by decide) hi hs rfl o.one (by omega) (by decide) hb h
theorem putChain_spec {s : Sl} {rs : List ExtR} {next : Int} (hX : ExtsAt w s rs) (hK : Kn w) : Calls Tryd.prog 25 #[s.val, .int .i64 next] w (Made w (putChainS (rs.map ExtR.d) next)) := by
  refine ip6_PutChain_of s.A s.n s.k next w _ ?_
  unfold ip6_PutChain_VC
  have r1 : next < 0 ∨ 255 < next → putChainS (rs.map ExtR.d) next = ([], 1) := fun h => by unfold putChainS; rw [if_pos h]
  refine Br.dec (fun h1 => Made.err (Mod.refl _ _) (r1 (by omega))) fun h1 => Br.dec (fun h2 => Made.err (Mod.refl _ _) (r1 (by omega))) fun h2 => ?_
  refine (headers_spec (next := next) (inner := true) hX hK).mono ?_
  rintro _ w2 ⟨A, c, rfl, H⟩
  have hs : putChainS (rs.map ExtR.d) next = if (headersS (rs.map ExtR.d) next (!true)).2 ≠ 0 then ([], (headersS (rs.map ExtR.d) next (!true)).2) else if upperS next = true then ((headersS (rs.map ExtR.d) next (!true)).1, 0) else ([], 72) := by
    unfold putChainS; rw [if_neg (by omega)]; rfl
  refine ⟨_, _, _, _, rfl, Br.dec (fun h3 => Made.err (H.restOf 0 rfl) (by rw [hs, if_pos h3])) fun h3 => ?_⟩
  rw [if_neg h3] at hs
  refine (sort_spec (hK.ext (H.restOf 0 rfl))).mono ?_
  rintro _ w3 ⟨hE, rfl⟩
  have H := H.ext hE
  refine ⟨_, rfl, Br.dec (fun h4 => Made.err (H.restOf 0 rfl) ?_) fun h4 => Made.ok ?_ H⟩
  · rw [hs, if_neg (fun hu => h4 ((sort_upper next).2 hu))]
  · rw [hs, if_pos ((sort_upper next).1 (by omega))]
end
end N6
end Go.Proofs.YtkiogaglmjeplaaDoor
/- Chapter 13, the program's cut: the parts, each in memory of its own. -/
namespace Go.Eng
open Go Go.RowKit
structure PieR where
  v : PieV
  data : List Int
def PieR.d (r : PieR) : Int × List Int × Bool := (r.v.off, r.data, r.v.last)
theorem BytesAt.part {w : World} {s : Sl} {l : List Int} (h : BytesAt w s l) {p k : Nat} (hk : p + k ≤ s.n) {lo hi : Int} (h1 : lo = p) (h2 : hi = (p + k : Nat)) {F : Option Addr → Nat → Nat → Prop}
    (hF : ∀ s' : Sl, BytesAt w s' ((l.drop p).take k) → F s'.A s'.n s'.k) : SliceVC s.A s.n s.k 1 (some lo) (some hi) none F := by
  subst h1; subst h2
  have hc := h.cap
  have hs := h.small
  have hl := h.len
  refine ⟨by omega, by omega, by omega, ?_⟩
  simp only [Int.toNat_natCast, Nat.mul_one]
  have e : p + k - p = k := by omega
  rw [e]
  refine hF ⟨_, k, s.k - p⟩ ⟨by simp; omega, by show k ≤ s.k - p; omega, by show k ≤ 4000000; omega, fun x hx => h.bts x (List.mem_of_mem_drop (List.mem_of_mem_take hx)), ?_⟩
  have := h.cells.win (p := p) (k := k)
  rw [List.map_take, List.map_drop]
  simp only [Int.toNat_natCast] at this
  show Cells w (if s.k = p then s.A else s.A.map (·.add p)) _
  by_cases h0 : k = 0
  · subst h0; simpa using Cells.nil _ _
  · rw [if_neg (by omega)] at this ⊢
    exact this
end Go.Eng
namespace Go.Proofs.YtkiogaglmjeplaaDoor
namespace N6
open Go.Eng Go.RowKit
section
variable {w : World} {Γ : List Fct}
end
end N6
end Go.Proofs.YtkiogaglmjeplaaDoor
/- Chapter 13, the program's Split4: the pieces, each in memory of its own. -/
namespace Go.Eng
open Go Go.RowKit
structure Ip4R where
  v : Ip4V
  opts : List OptR
  data : List Int
def Ip4R.d (r : Ip4R) : Ip4D := r.v.d r.opts r.data
end Go.Eng
namespace Go.Proofs.YtkiogaglmjeplaaDoor
namespace N6
open Go.Eng Go.RowKit
section
variable {w : World} {Γ : List Fct}
end
end N6
end Go.Proofs.YtkiogaglmjeplaaDoor
/- Chapter 13, the program's Split4 and Fits4. -/
namespace Go.Proofs.YtkiogaglmjeplaaDoor
namespace N6
open Go.Eng Go.RowKit
section
theorem two {a b : Int} : ∀ v ∈ ([.int .i64 a, .int .i64 b] : List Value), v.oneCell' = true := fun v hv => by simp at hv; rcases hv with rfl | rfl <;> rfl
variable {w : World} {Γ : List Fct} {h : Ip4V} {os : List OptR} {data : List Int}
end
end N6
end Go.Proofs.YtkiogaglmjeplaaDoor
/- Chapter 13, the program's Split6 and Fits6. -/
namespace Go.Eng
open Go Go.RowKit
structure Ip6R where
  v : Ip6V
  exts : List ExtR
  data : List Int
def Ip6R.d (r : Ip6R) : Ip6D := r.v.d r.exts r.data
theorem Recs.drop {w : World} {A : Option Addr} {size : Nat} {rs : List (List Value)} (h : Recs w A size rs) (k : Nat) {c : Nat} (hc : rs.length ≤ c) : Recs w (if c = k then A else A.map (·.add (k * size))) size (rs.drop k) := by
  intro i cs hi
  rw [List.getElem?_drop] at hi
  have hlt := (List.getElem?_eq_some_iff.1 hi).1
  obtain ⟨a, rfl, hcs⟩ := h _ _ hi
  rw [if_neg (by omega)]
  refine ⟨a.add (k * size), rfl, ?_⟩
  rw [add_add, ← Nat.add_mul]
  exact hcs
theorem ExtsAt.drop {w : World} {s : Sl} {rs : List ExtR} (h : ExtsAt w s rs) {k : Nat} (hk : k ≤ s.n) : ExtsAt w ⟨if s.k = k then s.A else s.A.map (·.add (k * 3)), s.n - k, s.k - k⟩ (rs.drop k) := by
  have h1 := h.len
  have h2 := h.cap
  have h3 := h.small
  refine ⟨by simp; omega, by show s.n - k ≤ s.k - k; omega, by show s.n - k ≤ 4000000; omega, ?_, fun r hr => h.opts r (List.mem_of_mem_drop hr), fun r hr => h.data r (List.mem_of_mem_drop hr)⟩
  rw [List.map_drop]
  exact h.recs.drop k (by simp; omega)
theorem ExtsAt.take {w : World} {s : Sl} {rs : List ExtR} (h : ExtsAt w s rs) {k : Nat} (hk : k ≤ s.n) : ExtsAt w ⟨s.A, k, s.k⟩ (rs.take k) := by
  have h1 := h.len
  have h2 := h.cap
  have h3 := h.small
  refine ⟨by simp; omega, by show k ≤ s.k; omega, by show k ≤ 4000000; omega, fun i cs hi => ?_, fun r hr => h.opts r (List.mem_of_mem_take hr), fun r hr => h.data r (List.mem_of_mem_take hr)⟩
  rw [List.map_take, List.getElem?_take] at hi
  split at hi
  · exact h.recs i cs hi
  · cases hi
end Go.Eng
namespace Go.Proofs.YtkiogaglmjeplaaDoor
namespace N6
open Go.Eng Go.RowKit
abbrev rowI6 (b : Nat) (s : Sl) (rs : List Ip6R) : Fct := Fct.own b 30 44 s.val s.n (rs.map fun r => r.v.cells).flatten
def ip6Fs (b : Nat) (s : Sl) (rs : List Ip6R) : List Fct := rowI6 b s rs :: (rs.map (fun r => rowB b r.v.data r.data) ++ rs.flatMap fun r => extFs b r.v.exts r.exts)
structure Ip6Fine (r : Ip6R) : Prop where
  exts : ExtsFine r.v.exts r.exts
  data : BFine r.v.data r.data
  src : Bts r.v.src.bytes
  dst : Bts r.v.dst.bytes
structure Ip6sFine (s : Sl) (rs : List Ip6R) : Prop where
  len : rs.length = s.n
  small : s.n ≤ 4000001
  each : ∀ r ∈ rs, Ip6Fine r
def Cut6 (w : World) (r : List Ip6D × Int) (e : Ending) (w' : World) : Prop :=
  ∃ (s' : Sl) (rs : List Ip6R), e = .returned (.tuple #[s'.val, .int .i64 r.2]) ∧ rs.map Ip6R.d = r.1 ∧ Ip6sFine s' rs ∧ Sep (Fct.rest w None :: ip6Fs w.heap.size s' rs) w'
theorem tI6 : TypeIs Tryd.prog 30 (.agg (Ip6V.z : Ip6V).cells.toArray) 44 152 := .of (by kernel_rfl)
section
variable {w : World} {Γ : List Fct}
theorem Cut6.err {w' : World} {r : List Ip6D × Int} {k : Int} (h : Ext w w') (hr : r = ([], k)) : Cut6 w r (.returned (.tuple #[.slice none 0 0, .int .i64 k])) w' := by
  subst hr
  exact ⟨⟨none, 0, 0⟩, [], rfl, rfl, ⟨rfl, Nat.zero_le _, fun r h => by cases h⟩, ((Sep.start0 w).ext h).nil _ _ _⟩
theorem ip6At_of {w : World} {b : Nat} {s : Sl} {rs : List Ip6R} (h : ∀ f ∈ ip6Fs b s rs, f.φ w) (hf : Ip6sFine s rs) {r : Ip6R} (hr : r ∈ rs) : Ip6At w r.v r.exts r.data :=
  ⟨extsAt_of (b := b) (fun f hfm => h f (by simp only [ip6Fs, List.mem_cons, List.mem_append, List.mem_flatMap]; exact .inr (.inr ⟨r, hr, hfm⟩))) (hf.each r hr).exts,
   bytesAt_of (b := b) (h _ (by simp only [ip6Fs, List.mem_cons, List.mem_append, List.mem_map]; exact .inr (.inl ⟨r, hr, rfl⟩))) (hf.each r hr).data, (hf.each r hr).src, (hf.each r hr).dst⟩
end
end N6
end Go.Proofs.YtkiogaglmjeplaaDoor
/- Chapter 13, the program's Split6 and Fits6. -/
namespace Go.Proofs.YtkiogaglmjeplaaDoor
namespace N6
open Go.Eng Go.RowKit
section
variable {w : World} {Γ : List Fct} {h : Ip6V} {es : List ExtR} {data : List Int}
end
end N6
end Go.Proofs.YtkiogaglmjeplaaDoor
