/- How long the lists of a datagram may be. -/
import Derived.Test.YteppichfkeknbaaDoorBe
namespace Go.Eng
open Go Go.RowKit
def Small4 (b : Nat) (h : Ip4V) (os : List OptR) : Prop := h.data.n ≤ b ∧ h.opts.n ≤ b ∧ ∀ r ∈ os, r.v.data.n ≤ b
def SmallE (b : Nat) (r : ExtR) : Prop := r.v.data.n ≤ b ∧ r.v.opts.n ≤ b ∧ ∀ o ∈ r.opts, o.v.data.n ≤ b
def Small6 (b : Nat) (h : Ip6V) (es : List ExtR) : Prop := h.data.n ≤ b ∧ h.exts.n ≤ b ∧ ∀ r ∈ es, SmallE b r
end Go.Eng
