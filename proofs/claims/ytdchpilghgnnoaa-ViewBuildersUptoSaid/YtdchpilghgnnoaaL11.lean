/- Two builders of any bounds, any calls. -/
import Derived.Test.YtdchpilghgnnoaaAct9
namespace Go.Proofs.Ytdchpilghgnnoaa
open Go.Eng Go.RowKit

/-- One step of the script: kind, object, place, number of bytes, value, parts. -/
structure ActV where
  kind : Int
  obj : Int
  at_ : Int
  n : Int
  v : Int
  PA : Option Addr
  m : Nat
  mc : Nat
def ActV.vals (a : ActV) : List Value := [.int .i64 a.kind, .int .i64 a.obj, .int .i64 a.at_, .int .i64 a.n, .int .u64 a.v, .slice a.PA a.m a.mc]
structure ActsIs (w : World) (A : Option Addr) (n : Nat) (l : List ActV) : Prop where
  recs : Recs w A 6 (l.map ActV.vals)
  len : l.length = n
  ok : ∀ a ∈ l, (0 ≤ a.v ∧ a.v < 18446744073709551616) ∧ ∃ ps, PartsIs w a.PA ps ∧ ps.length = a.m ∧ a.m ≤ 1048700
theorem ActsIs.ext {w w' : World} {A : Option Addr} {n : Nat} {l : List ActV} (h : ActsIs w A n l) (hE : Ext w w') : ActsIs w' A n l :=
  ⟨h.recs.ext hE, h.len, fun a ha => ⟨(h.ok a ha).1, by obtain ⟨ps, h1, h2⟩ := (h.ok a ha).2; exact ⟨ps, h1.ext hE, h2⟩⟩⟩
theorem Acted.grow {w0 w w' : World} {gb gr c d n : Nat} {A B : Option Addr} {xs : List Int} {max : Int} {e : Ending} (T : BP w w0.heap.size gb gr A c B d n xs max) (hgb : w0.heap.size ≤ gb) (hgr : w0.heap.size ≤ gr) (hE : Ext w0 w) (h : Acted w w0.heap.size gb gr A c B d n max e w') : Ext w0 w' :=
  hE.trans' h.2.1 fun k hk e => by
    rcases e with (rfl | e) | (rfl | e)
    · omega
    · have := own_new T.b.own k e.symm; omega
    · omega
    · have := own_new T.r.own k e.symm; omega
end Go.Proofs.Ytdchpilghgnnoaa
