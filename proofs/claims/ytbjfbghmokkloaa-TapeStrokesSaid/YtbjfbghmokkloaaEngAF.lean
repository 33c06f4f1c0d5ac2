/- Two contracts of one function, by what it is called with. -/
import Derived.Test.YtbjfbghmokkloaaEngAE
namespace Go.Eng
open Go
section
variable {P : Program} {Γ : Nat → AV}
def CT.orElse (sel : List AV → List Blk → Bool) (c1 c2 : CT P Γ) (h : c2.f = c1.f) : CT P Γ where
  f := c1.f
  spec := fun args Hin => match sel args Hin with
    | true => c1.spec args Hin
    | false => c2.spec args Hin
  enters := c1.enters
  ok := fun args Hin r hr => by
    cases hs : sel args Hin with
    | true => rw [hs] at hr; exact c1.ok args Hin r hr
    | false => rw [hs] at hr; rw [← h]; exact c2.ok args Hin r hr
end
end Go.Eng
