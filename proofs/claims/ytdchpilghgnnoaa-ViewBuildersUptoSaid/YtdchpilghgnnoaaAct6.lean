/- One call of a builder, and of its twin: Put, Patch, Len. -/
import Derived.Test.YtdchpilghgnnoaaAct5
namespace Go.Proofs.Ytdchpilghgnnoaa
open Go.Eng Go.RowKit

section
variable {w w1 : World} {base gb gr c d n g1 : Nat} {A B : Option Addr} {xs : List Int} {max : Int} {k v p : Int}
theorem acted_put (T : BP w base gb gr A c B d n xs max) (hv : 0 ≤ v ∧ v < 18446744073709551616) {R : Ending → World → Prop} (hR : ∀ e w', Acted w base gb gr A c B d n max e w' → R e w') :
    Calls Try.prog 24 #[.pointer (some ⟨gb, 0, none⟩), .int .i64 k, .int .u64 v] w fun e2 w2 => ∃ x, e2 = .returned (.int .i64 x) ∧
      Calls Try.prog 53 #[.pointer (some ⟨gr, 0, none⟩), .int .i64 k, .int .u64 v] w2 fun e3 w3 => e3 = .returned (.int .i64 x) ∧ R (.returned (.bool true)) w3 := by
  refine (bdPut_spec T.b hv).mono ?_
  rintro _ w2 ⟨rfl, hm2, A', c', hn2, hb2⟩
  refine ⟨_, rfl, ?_⟩
  refine (rbPut_spec (T.rAfter hm2) hv).mono ?_
  rintro _ w3 ⟨rfl, hm3, B', d', hn3, hr3⟩
  obtain ⟨h1, h2, h3⟩ := T.both hm2 hn2 hb2 hm3 hn3 hr3
  exact ⟨rfl, hR _ _ ⟨rfl, h1, A', c', B', d', _, _, h2, h3⟩⟩
theorem acted_patch (T : BP w base gb gr A c B d n xs max) (hv : 0 ≤ v ∧ v < 18446744073709551616) {R : Ending → World → Prop} (hR : ∀ e w', Acted w base gb gr A c B d n max e w' → R e w') :
    Calls Try.prog 57 #[.pointer (some ⟨gb, 0, none⟩), .int .i64 p, .int .i64 k, .int .u64 v] w fun e2 w2 => ∃ x, e2 = .returned (.int .i64 x) ∧
      Calls Try.prog 58 #[.pointer (some ⟨gr, 0, none⟩), .int .i64 p, .int .i64 k, .int .u64 v] w2 fun e3 w3 => e3 = .returned (.int .i64 x) ∧ R (.returned (.bool true)) w3 := by
  refine (bdPatch_spec T.b hv).mono ?_
  rintro _ w2 ⟨rfl, hm2, hb2⟩
  refine ⟨_, rfl, ?_⟩
  refine (rbPatch_spec (T.rAfter hm2) hv).mono ?_
  rintro _ w3 ⟨rfl, hm3, hr3⟩
  obtain ⟨h1, h2, h3⟩ := T.both hm2 (Near.refl w A c n) hb2 hm3 (Near.refl w2 B d n) hr3
  exact ⟨rfl, hR _ _ ⟨rfl, h1, A, c, B, d, _, _, h2, h3⟩⟩
end
end Go.Proofs.Ytdchpilghgnnoaa
