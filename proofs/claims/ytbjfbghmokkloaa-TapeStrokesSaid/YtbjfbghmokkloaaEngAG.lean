/- One way through a tree. -/
import Derived.Test.YtbjfbghmokkloaaEngAF
namespace Go.Eng
open Go
variable {α : Type}
/-- the way that the list tells, its conditions as checks -/
def Tree.prune : List Bool → Tree α → Tree α
  | _, .leaf a => .leaf a
  | cs, .chk c t => .chk c (Tree.prune cs t)
  | true :: cs, .br c t _ => .chk c (Tree.prune cs t)
  | false :: cs, .br c _ e => .chk (!c) (Tree.prune cs e)
  | [], .br _ _ _ => .fail
  | _, .fail => .fail
theorem prune_get {a : α} : ∀ {t : Tree α} {cs : List Bool}, (Tree.prune cs t).get = some a → t.get = some a := by
  intro t
  induction t with
  | leaf b => intro cs h; simpa [Tree.prune] using h
  | chk c t ih =>
    intro cs h
    have h' : (Tree.chk c (Tree.prune cs t)).get = some a := by cases cs <;> simpa [Tree.prune] using h
    obtain ⟨h1, h2⟩ := Tree.chk_get h'
    rw [h1]; exact ih h2
  | br c t e iht ihe =>
    intro cs h
    match cs, h with
    | [], h => simp [Tree.prune, Tree.get] at h
    | true :: cs, h =>
      obtain ⟨h1, h2⟩ := Tree.chk_get (show (Tree.chk c (Tree.prune cs t)).get = some a from by simpa [Tree.prune] using h)
      rw [h1]; exact iht h2
    | false :: cs, h =>
      obtain ⟨h1, h2⟩ := Tree.chk_get (show (Tree.chk (!c) (Tree.prune cs e)).get = some a from by simpa [Tree.prune] using h)
      have h1 : c = false := by simpa using h1
      rw [h1]; exact ihe h2
  | fail => intro cs h; cases cs <;> simp [Tree.prune, Tree.get] at h
/-- the next condition on a way -/
def nextC : List Bool → Tree α → Option Bool
  | _, .leaf _ => none
  | cs, .chk _ t => nextC cs t
  | true :: cs, .br _ t _ => nextC cs t
  | false :: cs, .br _ _ e => nextC cs e
  | [], .br c _ _ => some c
  | _, .fail => none
end Go.Eng
