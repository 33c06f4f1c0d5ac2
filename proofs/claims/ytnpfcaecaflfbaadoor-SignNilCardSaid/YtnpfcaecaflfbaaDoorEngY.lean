/- An abstract evaluator of the model's code, part Y: contracts out of a body, by its own evaluation. -/
import Derived.Test.YtnpfcaecaflfbaaDoorEngX
namespace Go.Eng
open Go
set_option linter.unusedSimpArgs false
set_option linter.unusedVariables false

def somes : List (Option Blk) → Option (List Blk)
  | [] => some []
  | some b :: l => match somes l with
    | some bs => some (b :: bs)
    | none => none
  | none :: _ => none
theorem somes_map : ∀ {l : List (Option Blk)} {bs : List Blk}, somes l = some bs → bs.map some = l
  | [], bs, h => by simp only [somes, Option.some.injEq] at h; subst h; rfl
  | some b :: l, bs, h => by
    simp only [somes] at h
    split at h
    · rename_i bs' h'
      simp only [Option.some.injEq] at h
      subst h
      simp [somes_map h']
    · simp at h
  | none :: _, _, h => by simp [somes] at h

theorem Tree.chk_get {α : Type} {c : Bool} {t : Tree α} {r : α} (h : (Tree.chk c t).get = some r) : c = true ∧ t.get = some r := by
  cases c with
  | true => exact ⟨rfl, h⟩
  | false => simp [Tree.get] at h
theorem Tree.leaf_get {α : Type} {a r : α} (h : (Tree.leaf a).get = some r) : r = a := by
  simp only [Tree.get, Option.some.injEq] at h; exact h.symm

/-- an answer as what a call does to 'n' blocks -/
def toRes (n : Nat) (s : Ans) : Tree Res := match somes (s.H.drop n) with
  | some bs => match Nat.beq (s.H.take n).length n with
    | true => .leaf { val := s.val, upd := (s.H.take n).map some, new := bs }
    | false => .fail
  | none => .fail

theorem outOf_somes : ∀ (Hin : List Blk) (us : List (Option Blk)), us.length = Hin.length → outOf Hin (us.map some) = us
  | [], [], _ => rfl
  | b :: bs, u :: us, h => by simp [outOf, outOf_somes bs us (by simpa using h)]
  | [], _ :: _, h => by simp at h
  | _ :: _, [], h => by simp at h
theorem toRes_ok {Hin : List Blk} {s : Ans} {r : Res} (h : (toRes Hin.length s).get = some r) : r.val = s.val ∧ r.heap Hin = s.H := by
  unfold toRes at h
  split at h
  · rename_i bs hbs
    split at h
    · rename_i hl
      simp only [Tree.get, Option.some.injEq] at h
      subst h
      refine ⟨rfl, ?_⟩
      simp only [Res.heap]
      rw [outOf_somes _ _ (Nat.eq_of_beq_eq_true hl), somes_map hbs, List.take_append_drop]
    · simp [Tree.get] at h
  · simp [Tree.get] at h

section
variable {P : Program} {Γ : Nat → AV}

def inlineSpec (T : List (CT P Γ)) (L : Nat → LSpec) (ip : Bool) (m ntmps : Nat) (results : List ResultVar) (c : Code) (args : List AV) (Hin : List Blk) : Tree Res :=
  match Nat.beq Hin.length m && Nat.ble args.length ntmps with
  | true => (bodyE T L ip ntmps results c args Hin).bind (toRes m)
  | false => .fail

theorem callFunc_enters {f : FuncId} {fn : Func} (hf : P.funcs[f]? = some fn) (hb : fn.body.isSome = true) (hn : (fn.name == "runtime.NumGoroutine") = false) (args : Array Value) (w : World) :
    (callFunc f args).run P w = .ok (.enter f args) w := by
  have hb' : fn.body ≠ none := fun h => by rw [h] at hb; simp at hb
  have hn' : fn.name ≠ "runtime.NumGoroutine" := by simpa using hn
  simp [callFunc, program, Sem.run, hf, hn', hb']

/-- a function's contract by its own body -/
def CT.inline (f : FuncId) (fn : Func) (c : Code) (T : List (CT P Γ)) (L : Nat → LSpec) (ip : Bool) (m ntmps : Nat) (results : List ResultVar) (hf : P.funcs[f]? = some fn) (hb : fn.body = some c) (hr : fn.results.toList = results) (hnt : fn.ntmps = ntmps)
    (hn : (fn.name == "runtime.NumGoroutine") = false)
    (hL : ∀ (j : Nat) (b : Code), (loopBodies c)[j]? = some b → LoopOK P Γ m ntmps b (L j)) : CT P Γ where
  f := f
  spec := inlineSpec T L ip m ntmps results c
  enters := callFunc_enters hf (by rw [hb]; rfl) hn
  ok := fun args Hin r h => by
    unfold inlineSpec at h
    split at h
    · rename_i hc
      simp only [Bool.and_eq_true] at hc
      have hm := Nat.eq_of_beq_eq_true hc.1
      have hl := Nat.le_of_ble_eq_true hc.2
      obtain ⟨s, h1, h2⟩ := Tree.get_bind_some h
      rw [← hm] at h2
      obtain ⟨k1, k2⟩ := toRes_ok h2
      subst hr; subst hnt
      refine contract_of (T := T) (ip := ip) hf hb L (fun j b hj => by rw [hm]; exact hL j b hj) hl (Tree.sat_iff.2 ⟨s, h1, ?_, ?_⟩)
      · rw [k1]; exact .refl _
      · rw [k2]; exact LeH.refl _
    · simp [Tree.get] at h

/-- a function's contract, with a summary of its own -/
def CT.summed (f : FuncId) (fn : Func) (c : Code) (T : List (CT P Γ)) (L : Nat → LSpec) (ip : Bool) (ntmps : Nat) (results : List ResultVar) (spec : List AV → List Blk → Tree Res) (hf : P.funcs[f]? = some fn) (hb : fn.body = some c) (hr : fn.results.toList = results)
    (hnt : fn.ntmps = ntmps) (hn : (fn.name == "runtime.NumGoroutine") = false)
    (hL : ∀ (args : List AV) (Hin : List Blk) (r : Res), (spec args Hin).get = some r → ∀ (j : Nat) (b : Code), (loopBodies c)[j]? = some b → LoopOK P Γ Hin.length ntmps b (L j))
    (hs : ∀ (args : List AV) (Hin : List Blk) (r : Res), (spec args Hin).get = some r → args.length ≤ ntmps ∧ (bodyE T L ip ntmps results c args Hin).sat fun s => AV.le s.val r.val ∧ LeH s.H (r.heap Hin)) : CT P Γ where
  f := f
  spec := spec
  enters := callFunc_enters hf (by rw [hb]; rfl) hn
  ok := fun args Hin r h => by
    obtain ⟨h1, h2⟩ := hs args Hin r h
    subst hr; subst hnt
    exact contract_of (T := T) (ip := ip) hf hb L (hL args Hin r h) h1 h2

theorem noLoops {m N : Nat} {c : Code} {L : Nat → LSpec} (h : (nloops c).beq 0 = true) : ∀ (j : Nat) (b : Code), (loopBodies c)[j]? = some b → LoopOK P Γ m N b (L j) := by
  intro j b hj
  have h0 := Nat.eq_of_beq_eq_true h
  rw [← nloops_len] at h0
  rw [List.eq_nil_of_length_eq_zero h0] at hj
  simp at hj
theorem oneLoop {m N : Nat} {c b : Code} {L : Nat → LSpec} (h : loopBodies c = [b]) (hb : LoopOK P Γ m N b (L 0)) : ∀ (j : Nat) (b : Code), (loopBodies c)[j]? = some b → LoopOK P Γ m N b (L j) := by
  intro j b' hj
  rw [h] at hj
  cases j with
  | zero => simp at hj; subst hj; exact hb
  | succ j => simp at hj

def spec1 (k : IntKind) (pre : Int → Bool) (g : Int → AV) (args : List AV) (Hin : List Blk) : Tree Res := match args, Hin with
  | [.v (.int k' a)], [] => .chk (decide (k' = k) && pre a) (.leaf { val := g a })
  | _, _ => .fail
/-- a function of one integer that only answers -/
def CT.fun1 (f : FuncId) (fn : Func) (c : Code) (T : List (CT P Γ)) (L : Nat → LSpec) (ip : Bool) (ntmps : Nat) (results : List ResultVar) (k : IntKind) (pre : Int → Bool) (g : Int → AV) (hf : P.funcs[f]? = some fn) (hb : fn.body = some c) (hr : fn.results.toList = results)
    (hnt : fn.ntmps = ntmps) (hn : (fn.name == "runtime.NumGoroutine") = false) (hsz : 1 ≤ ntmps) (hL : ∀ (j : Nat) (b : Code), (loopBodies c)[j]? = some b → LoopOK P Γ 0 ntmps b (L j))
    (hs : ∀ a, pre a = true → (bodyE T L ip ntmps results c [.v (.int k a)] []).sat fun s => AV.le s.val (g a) ∧ LeH s.H []) : CT P Γ :=
  CT.summed f fn c T L ip ntmps results (spec1 k pre g) hf hb hr hnt hn
    (fun args Hin r h => by
      unfold spec1 at h
      split at h
      · exact hL
      · simp [Tree.get] at h)
    (fun args Hin r h => by
      unfold spec1 at h
      split at h
      · obtain ⟨hc, h⟩ := Tree.chk_get h
        obtain rfl := Tree.leaf_get h
        simp only [Bool.and_eq_true, decide_eq_true_eq] at hc
        obtain ⟨rfl, hp⟩ := hc
        exact ⟨by simpa using hsz, hs _ hp⟩
      · simp [Tree.get] at h)
def spec2 (k k' : IntKind) (pre : Int → Int → Bool) (g : Int → Int → AV) (args : List AV) (Hin : List Blk) : Tree Res := match args, Hin with
  | [.v (.int q a), .v (.int q' b)], [] => .chk (decide (q = k) && decide (q' = k') && pre a b) (.leaf { val := g a b })
  | _, _ => .fail
/-- a function of two integers that only answers -/
def CT.fun2 (f : FuncId) (fn : Func) (c : Code) (T : List (CT P Γ)) (L : Nat → LSpec) (ip : Bool) (ntmps : Nat) (results : List ResultVar) (k k' : IntKind) (pre : Int → Int → Bool) (g : Int → Int → AV) (hf : P.funcs[f]? = some fn) (hb : fn.body = some c) (hr : fn.results.toList = results)
    (hnt : fn.ntmps = ntmps) (hn : (fn.name == "runtime.NumGoroutine") = false) (hsz : 2 ≤ ntmps) (hL : ∀ (j : Nat) (b : Code), (loopBodies c)[j]? = some b → LoopOK P Γ 0 ntmps b (L j))
    (hs : ∀ a b, pre a b = true → (bodyE T L ip ntmps results c [.v (.int k a), .v (.int k' b)] []).sat fun s => AV.le s.val (g a b) ∧ LeH s.H []) : CT P Γ :=
  CT.summed f fn c T L ip ntmps results (spec2 k k' pre g) hf hb hr hnt hn
    (fun args Hin r h => by
      unfold spec2 at h
      split at h
      · exact hL
      · simp [Tree.get] at h)
    (fun args Hin r h => by
      unfold spec2 at h
      split at h
      · obtain ⟨hc, h⟩ := Tree.chk_get h
        obtain rfl := Tree.leaf_get h
        simp only [Bool.and_eq_true, decide_eq_true_eq] at hc
        obtain ⟨⟨rfl, rfl⟩, hp⟩ := hc
        exact ⟨by simpa using hsz, hs _ _ hp⟩
      · simp [Tree.get] at h)
theorem AV.le.int {k : IntKind} {a b : Int} (h : a = b) : AV.le (.v (.int k a)) (.v (.int k b)) := h ▸ .refl _
end
end Go.Eng
