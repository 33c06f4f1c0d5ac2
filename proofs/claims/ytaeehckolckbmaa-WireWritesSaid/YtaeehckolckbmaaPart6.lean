/- WireWrites holds at every input: no condition beyond the row own cells. -/
import Derived.Test.YtaeehckolckbmaaPart5
import Derived.Test.YtaeehckolckbmaaRows
import Derived.ProofKit
import Derived.LaidMore
import Derived.OpenShut
import Derived.Stop.Joined
/- wire: the law on what is written: all ways. -/
namespace Go.Eng.W
open Go Go.Eng Go.Proofs
set_option linter.unusedSimpArgs false
set_option linter.unusedVariables false
structure X3 where
  b : Option ByteArray
  n : Int
  s : ByteArray
  l : Option (Nat × (Nat → Int))
def A3 (x : X3) : List AV := [bArg x.b, .v (.int .i64 x.n), .v (.string x.s), slArg .i64 x.l]
theorem runGnn (n : Int) (s : ByteArray) : bodyE (P := Try.prog) (Γ := Γw) [c6] Lno false 154 [.tmp 8] (bodyOf Try.f3) [.v (.slice none 0 0), .v (.int .i64 n), .v (.string s), .v (.slice none 0 0)] [] =
  Tree.br (bif false then true else bif decide ((70000 : Int) < (↑s.size : Int)) then true else false)
  (Tree.leaf (Ans.mk (AV.v (Value.bool true)) [])) Tree.fail := by kernel_rfl
theorem runGns (n : Int) (s : ByteArray) (m : Nat) (g : Nat → Int) : bodyE (P := Try.prog) (Γ := Γw) [c6] Lno false 154 [.tmp 8] (bodyOf Try.f3) [.v (.slice none 0 0), .v (.int .i64 n), .v (.string s), .sl 1 m (i64F g)] [] =
  Tree.br
  (bif false then true
  else bif decide ((70000 : Int) < (↑s.size : Int)) then true else decide ((500 : Int) < (↑m : Int)))
  (Tree.leaf (Ans.mk (AV.v (Value.bool true)) [])) Tree.fail := by kernel_rfl
theorem runGsn (b : ByteArray) (n : Int) (s : ByteArray) : bodyE (P := Try.prog) (Γ := Γw) [c6] Lno false 154 [.tmp 8] (bodyOf Try.f3) [.sl 1 b.size (bsF b), .v (.int .i64 n), .v (.string s), .v (.slice none 0 0)] [] =
  Tree.br
  (bif decide ((2000 : Int) < (↑b.size : Int)) then true
  else bif decide ((70000 : Int) < (↑s.size : Int)) then true else false)
  (Tree.leaf (Ans.mk (AV.v (Value.bool true)) [])) (Tree.chk (allBytes b.size (bsF b)) Tree.fail) := by kernel_rfl
theorem runGss (b : ByteArray) (n : Int) (s : ByteArray) (m : Nat) (g : Nat → Int) : bodyE (P := Try.prog) (Γ := Γw) [c6] Lno false 154 [.tmp 8] (bodyOf Try.f3) [.sl 1 b.size (bsF b), .v (.int .i64 n), .v (.string s), .sl 1 m (i64F g)] [] =
  Tree.br
  (bif decide ((2000 : Int) < (↑b.size : Int)) then true
  else bif decide ((70000 : Int) < (↑s.size : Int)) then true else decide ((500 : Int) < (↑m : Int)))
  (Tree.leaf (Ans.mk (AV.v (Value.bool true)) [])) (Tree.chk (allBytes b.size (bsF b)) Tree.fail) := by kernel_rfl
theorem firstBad {g : Nat → Int} : ∀ (m : Nat), (∀ j, j < m → okN (g j) = true) ∨ ∃ c, c < m ∧ (∀ j, j < c → okN (g j) = true) ∧ okN (g c) = false
  | 0 => .inl fun j hj => absurd hj (Nat.not_lt_zero _)
  | m + 1 => by
    rcases firstBad (g := g) m with h | ⟨c, h1, h2, h3⟩
    · cases hb : okN (g m) with
      | false => exact .inr ⟨m, Nat.lt_succ_self m, h, hb⟩
      | true =>
        refine .inl fun j hj => ?_
        rcases Nat.lt_succ_iff_lt_or_eq.1 hj with h' | rfl
        · exact h j h'
        · exact hb
    · exact .inr ⟨c, Nat.lt_succ_of_lt h1, h2, h3⟩
theorem splitN (n : Int) : (∃ k : Nat, n = k ∧ k ≤ 4611686018427387904) ∨ (n < 0 ∨ 4611686018427387904 < n) := by
  by_cases h : n < 0
  · exact .inr (.inl h)
  · by_cases h2 : 4611686018427387904 < n
    · exact .inr (.inr h2)
    · exact .inl ⟨n.toNat, by omega, by omega⟩
theorem law3 (x : X3) : LawOK Try.prog Γw 154 [.tmp 8] (bodyOf Try.f3) (A3 x) := by
  obtain ⟨b, n, s, l⟩ := x
  cases b with
  | none =>
    cases l with
    | none =>
      by_cases hG : 70000 < s.size
      · refine LawOK.mk' (T := [c6]) (L := Lno) (ip := false) (fun _ _ _ => fail_ok) ?_
        refine Right.of (runGnn n s) ?_
        refine ⟨fun _ => ⟨.refl _, trivial⟩, fun h0 => ?_⟩
        obtain ⟨h1, h2, h3⟩ := guard3 h0
        exfalso
        have := of_decide_eq_false h2
        omega
      · skip
        have hb : BA.nil.ok := trivial
        rcases splitN n with ⟨k, rfl, hn⟩ | hn
        · rcases Nat.lt_or_ge 65536 s.size with hs | hs
          · skip
            have hl : NA.nil.ok := ⟨fun j hj => absurd hj (Nat.not_lt_zero _), by decide, fun h => by simp [NA.k] at h⟩
            exact LawOK.mk' (oneLoop (b := loopL) (by kernel_rfl) (loopLg_ok BA.nil rfl .nil rfl ⟨#[]⟩ hl.1 (Nat.zero_le _) 0 (Nat.zero_le _))) (lawWgbnn s hb k hn hs (by omega) hl)
          · skip
            have hl : NA.nil.ok := ⟨fun j hj => absurd hj (Nat.not_lt_zero _), by decide, fun h => by simp [NA.k] at h⟩
            exact LawOK.mk' (oneLoop (b := loopL) (by kernel_rfl) (loopLg_ok BA.nil rfl .nil rfl ⟨#[]⟩ hl.1 (Nat.zero_le _) 0 (Nat.zero_le _))) (lawWggnn s hb k hn hs hl)
        · rcases Nat.lt_or_ge 65536 s.size with hs | hs
          · skip
            have hl : NA.nil.ok := ⟨fun j hj => absurd hj (Nat.not_lt_zero _), by decide, fun h => by simp [NA.k] at h⟩
            exact LawOK.mk' (oneLoop (b := loopL) (by kernel_rfl) (loopLg_ok BA.nil rfl .nil rfl ⟨#[]⟩ hl.1 (Nat.zero_le _) 0 (Nat.zero_le _))) (lawWbbnn s hb n hn hs (by omega) hl)
          · skip
            have hl : NA.nil.ok := ⟨fun j hj => absurd hj (Nat.not_lt_zero _), by decide, fun h => by simp [NA.k] at h⟩
            exact LawOK.mk' (oneLoop (b := loopL) (by kernel_rfl) (loopLg_ok BA.nil rfl .nil rfl ⟨#[]⟩ hl.1 (Nat.zero_le _) 0 (Nat.zero_le _))) (lawWbgnn s hb n hn hs hl)
    | some q =>
      obtain ⟨m, g⟩ := q
      by_cases hG : 70000 < s.size ∨ 500 < m
      · refine LawOK.mk' (T := [c6]) (L := Lno) (ip := false) (fun _ _ _ => fail_ok) ?_
        refine Right.of (runGns n s m g) ?_
        refine ⟨fun _ => ⟨.refl _, trivial⟩, fun h0 => ?_⟩
        obtain ⟨h1, h2, h3⟩ := guard3 h0
        exfalso
        have := of_decide_eq_false h2
        have := of_decide_eq_false h3
        omega
      · skip
        have hb : BA.nil.ok := trivial
        rcases splitN n with ⟨k, rfl, hn⟩ | hn
        · rcases Nat.lt_or_ge 65536 s.size with hs | hs
          · skip
            rcases firstBad (g := g) m with hok | ⟨c, hc, hok, hbad⟩
            · have hl : (NA.sl m g).ok := ⟨hok, by show m ≤ 100000; omega, fun h => by simp [NA.k] at h⟩
              cases m with
              | zero => exact LawOK.mk' (oneLoop (b := loopL) (by kernel_rfl) (loopLg_ok BA.nil rfl (.sl 0 g) rfl ⟨#[]⟩ hl.1 (Nat.zero_le _) 0 (Nat.zero_le _))) (lawWgbn0 s hb k hn hs (by omega) g hl)
              | succ m => exact LawOK.mk' (oneLoop (b := loopL) (by kernel_rfl) (loopLg_ok BA.nil rfl (.sl (m + 1) g) rfl ⟨#[]⟩ hl.1 (by show m + 1 ≤ 500; omega) 0 (Nat.zero_le _))) (lawWgbnm s hb k hn hs (by omega) m g hl)
            · exact LawOK.mk' (oneLoop (b := loopL) (by kernel_rfl) (loopLb_ok BA.nil rfl m g c hc hok hbad (by omega) 0 (Nat.zero_le _))) (lawWgbnb s hb k hn hs (by omega) m g c hc hok hbad (by omega))
          · skip
            rcases firstBad (g := g) m with hok | ⟨c, hc, hok, hbad⟩
            · have hl : (NA.sl m g).ok := ⟨hok, by show m ≤ 100000; omega, fun h => by simp [NA.k] at h⟩
              cases m with
              | zero => exact LawOK.mk' (oneLoop (b := loopL) (by kernel_rfl) (loopLg_ok BA.nil rfl (.sl 0 g) rfl ⟨#[]⟩ hl.1 (Nat.zero_le _) 0 (Nat.zero_le _))) (lawWggn0 s hb k hn hs g hl)
              | succ m => exact LawOK.mk' (oneLoop (b := loopL) (by kernel_rfl) (loopLg_ok BA.nil rfl (.sl (m + 1) g) rfl ⟨#[]⟩ hl.1 (by show m + 1 ≤ 500; omega) 0 (Nat.zero_le _))) (lawWggnm s hb k hn hs m g hl)
            · exact LawOK.mk' (oneLoop (b := loopL) (by kernel_rfl) (loopLb_ok BA.nil rfl m g c hc hok hbad (by omega) 0 (Nat.zero_le _))) (lawWggnb s hb k hn hs m g c hc hok hbad (by omega))
        · rcases Nat.lt_or_ge 65536 s.size with hs | hs
          · skip
            rcases firstBad (g := g) m with hok | ⟨c, hc, hok, hbad⟩
            · have hl : (NA.sl m g).ok := ⟨hok, by show m ≤ 100000; omega, fun h => by simp [NA.k] at h⟩
              cases m with
              | zero => exact LawOK.mk' (oneLoop (b := loopL) (by kernel_rfl) (loopLg_ok BA.nil rfl (.sl 0 g) rfl ⟨#[]⟩ hl.1 (Nat.zero_le _) 0 (Nat.zero_le _))) (lawWbbn0 s hb n hn hs (by omega) g hl)
              | succ m => exact LawOK.mk' (oneLoop (b := loopL) (by kernel_rfl) (loopLg_ok BA.nil rfl (.sl (m + 1) g) rfl ⟨#[]⟩ hl.1 (by show m + 1 ≤ 500; omega) 0 (Nat.zero_le _))) (lawWbbnm s hb n hn hs (by omega) m g hl)
            · exact LawOK.mk' (oneLoop (b := loopL) (by kernel_rfl) (loopLb_ok BA.nil rfl m g c hc hok hbad (by omega) 0 (Nat.zero_le _))) (lawWbbnb s hb n hn hs (by omega) m g c hc hok hbad (by omega))
          · skip
            rcases firstBad (g := g) m with hok | ⟨c, hc, hok, hbad⟩
            · have hl : (NA.sl m g).ok := ⟨hok, by show m ≤ 100000; omega, fun h => by simp [NA.k] at h⟩
              cases m with
              | zero => exact LawOK.mk' (oneLoop (b := loopL) (by kernel_rfl) (loopLg_ok BA.nil rfl (.sl 0 g) rfl ⟨#[]⟩ hl.1 (Nat.zero_le _) 0 (Nat.zero_le _))) (lawWbgn0 s hb n hn hs g hl)
              | succ m => exact LawOK.mk' (oneLoop (b := loopL) (by kernel_rfl) (loopLg_ok BA.nil rfl (.sl (m + 1) g) rfl ⟨#[]⟩ hl.1 (by show m + 1 ≤ 500; omega) 0 (Nat.zero_le _))) (lawWbgnm s hb n hn hs m g hl)
            · exact LawOK.mk' (oneLoop (b := loopL) (by kernel_rfl) (loopLb_ok BA.nil rfl m g c hc hok hbad (by omega) 0 (Nat.zero_le _))) (lawWbgnb s hb n hn hs m g c hc hok hbad (by omega))
  | some b =>
    cases l with
    | none =>
      by_cases hG : 2000 < b.size ∨ 70000 < s.size
      · refine LawOK.mk' (T := [c6]) (L := Lno) (ip := false) (fun _ _ _ => fail_ok) ?_
        refine Right.of (runGsn b n s) ?_
        refine ⟨fun _ => ⟨.refl _, trivial⟩, fun h0 => ?_⟩
        obtain ⟨h1, h2, h3⟩ := guard3 h0
        exfalso
        have := of_decide_eq_false h1
        have := of_decide_eq_false h2
        omega
      · skip
        have hb : (BA.sl b).ok := by show b.size ≤ _; omega
        rcases splitN n with ⟨k, rfl, hn⟩ | hn
        · rcases Nat.lt_or_ge 65536 s.size with hs | hs
          · skip
            have hl : NA.nil.ok := ⟨fun j hj => absurd hj (Nat.not_lt_zero _), by decide, fun h => by simp [NA.k] at h⟩
            exact LawOK.mk' (oneLoop (b := loopL) (by kernel_rfl) (loopLg_ok (BA.sl b) rfl .nil rfl b hl.1 (Nat.zero_le _) 0 (Nat.zero_le _))) (lawWgbsn b s hb k hn hs (by omega) hl)
          · skip
            have hl : NA.nil.ok := ⟨fun j hj => absurd hj (Nat.not_lt_zero _), by decide, fun h => by simp [NA.k] at h⟩
            exact LawOK.mk' (oneLoop (b := loopL) (by kernel_rfl) (loopLg_ok (BA.sl b) rfl .nil rfl b hl.1 (Nat.zero_le _) 0 (Nat.zero_le _))) (lawWggsn b s hb k hn hs hl)
        · rcases Nat.lt_or_ge 65536 s.size with hs | hs
          · skip
            have hl : NA.nil.ok := ⟨fun j hj => absurd hj (Nat.not_lt_zero _), by decide, fun h => by simp [NA.k] at h⟩
            exact LawOK.mk' (oneLoop (b := loopL) (by kernel_rfl) (loopLg_ok (BA.sl b) rfl .nil rfl b hl.1 (Nat.zero_le _) 0 (Nat.zero_le _))) (lawWbbsn b s hb n hn hs (by omega) hl)
          · skip
            have hl : NA.nil.ok := ⟨fun j hj => absurd hj (Nat.not_lt_zero _), by decide, fun h => by simp [NA.k] at h⟩
            exact LawOK.mk' (oneLoop (b := loopL) (by kernel_rfl) (loopLg_ok (BA.sl b) rfl .nil rfl b hl.1 (Nat.zero_le _) 0 (Nat.zero_le _))) (lawWbgsn b s hb n hn hs hl)
    | some q =>
      obtain ⟨m, g⟩ := q
      by_cases hG : 2000 < b.size ∨ 70000 < s.size ∨ 500 < m
      · refine LawOK.mk' (T := [c6]) (L := Lno) (ip := false) (fun _ _ _ => fail_ok) ?_
        refine Right.of (runGss b n s m g) ?_
        refine ⟨fun _ => ⟨.refl _, trivial⟩, fun h0 => ?_⟩
        obtain ⟨h1, h2, h3⟩ := guard3 h0
        exfalso
        have := of_decide_eq_false h1
        have := of_decide_eq_false h2
        have := of_decide_eq_false h3
        omega
      · skip
        have hb : (BA.sl b).ok := by show b.size ≤ _; omega
        rcases splitN n with ⟨k, rfl, hn⟩ | hn
        · rcases Nat.lt_or_ge 65536 s.size with hs | hs
          · skip
            rcases firstBad (g := g) m with hok | ⟨c, hc, hok, hbad⟩
            · have hl : (NA.sl m g).ok := ⟨hok, by show m ≤ 100000; omega, fun h => by simp [NA.k] at h⟩
              cases m with
              | zero => exact LawOK.mk' (oneLoop (b := loopL) (by kernel_rfl) (loopLg_ok (BA.sl b) rfl (.sl 0 g) rfl b hl.1 (Nat.zero_le _) 0 (Nat.zero_le _))) (lawWgbs0 b s hb k hn hs (by omega) g hl)
              | succ m => exact LawOK.mk' (oneLoop (b := loopL) (by kernel_rfl) (loopLg_ok (BA.sl b) rfl (.sl (m + 1) g) rfl b hl.1 (by show m + 1 ≤ 500; omega) 0 (Nat.zero_le _))) (lawWgbsm b s hb k hn hs (by omega) m g hl)
            · exact LawOK.mk' (oneLoop (b := loopL) (by kernel_rfl) (loopLb_ok (BA.sl b) rfl m g c hc hok hbad (by omega) 0 (Nat.zero_le _))) (lawWgbsb b s hb k hn hs (by omega) m g c hc hok hbad (by omega))
          · skip
            rcases firstBad (g := g) m with hok | ⟨c, hc, hok, hbad⟩
            · have hl : (NA.sl m g).ok := ⟨hok, by show m ≤ 100000; omega, fun h => by simp [NA.k] at h⟩
              cases m with
              | zero => exact LawOK.mk' (oneLoop (b := loopL) (by kernel_rfl) (loopLg_ok (BA.sl b) rfl (.sl 0 g) rfl b hl.1 (Nat.zero_le _) 0 (Nat.zero_le _))) (lawWggs0 b s hb k hn hs g hl)
              | succ m => exact LawOK.mk' (oneLoop (b := loopL) (by kernel_rfl) (loopLg_ok (BA.sl b) rfl (.sl (m + 1) g) rfl b hl.1 (by show m + 1 ≤ 500; omega) 0 (Nat.zero_le _))) (lawWggsm b s hb k hn hs m g hl)
            · exact LawOK.mk' (oneLoop (b := loopL) (by kernel_rfl) (loopLb_ok (BA.sl b) rfl m g c hc hok hbad (by omega) 0 (Nat.zero_le _))) (lawWggsb b s hb k hn hs m g c hc hok hbad (by omega))
        · rcases Nat.lt_or_ge 65536 s.size with hs | hs
          · skip
            rcases firstBad (g := g) m with hok | ⟨c, hc, hok, hbad⟩
            · have hl : (NA.sl m g).ok := ⟨hok, by show m ≤ 100000; omega, fun h => by simp [NA.k] at h⟩
              cases m with
              | zero => exact LawOK.mk' (oneLoop (b := loopL) (by kernel_rfl) (loopLg_ok (BA.sl b) rfl (.sl 0 g) rfl b hl.1 (Nat.zero_le _) 0 (Nat.zero_le _))) (lawWbbs0 b s hb n hn hs (by omega) g hl)
              | succ m => exact LawOK.mk' (oneLoop (b := loopL) (by kernel_rfl) (loopLg_ok (BA.sl b) rfl (.sl (m + 1) g) rfl b hl.1 (by show m + 1 ≤ 500; omega) 0 (Nat.zero_le _))) (lawWbbsm b s hb n hn hs (by omega) m g hl)
            · exact LawOK.mk' (oneLoop (b := loopL) (by kernel_rfl) (loopLb_ok (BA.sl b) rfl m g c hc hok hbad (by omega) 0 (Nat.zero_le _))) (lawWbbsb b s hb n hn hs (by omega) m g c hc hok hbad (by omega))
          · skip
            rcases firstBad (g := g) m with hok | ⟨c, hc, hok, hbad⟩
            · have hl : (NA.sl m g).ok := ⟨hok, by show m ≤ 100000; omega, fun h => by simp [NA.k] at h⟩
              cases m with
              | zero => exact LawOK.mk' (oneLoop (b := loopL) (by kernel_rfl) (loopLg_ok (BA.sl b) rfl (.sl 0 g) rfl b hl.1 (Nat.zero_le _) 0 (Nat.zero_le _))) (lawWbgs0 b s hb n hn hs g hl)
              | succ m => exact LawOK.mk' (oneLoop (b := loopL) (by kernel_rfl) (loopLg_ok (BA.sl b) rfl (.sl (m + 1) g) rfl b hl.1 (by show m + 1 ≤ 500; omega) 0 (Nat.zero_le _))) (lawWbgsm b s hb n hn hs m g hl)
            · exact LawOK.mk' (oneLoop (b := loopL) (by kernel_rfl) (loopLb_ok (BA.sl b) rfl m g c hc hok hbad (by omega) 0 (Nat.zero_le _))) (lawWbgsb b s hb n hn hs m g c hc hok hbad (by omega))
noncomputable def c3 : CT Try.prog Γw := CT.lawE A3 (fun _ => True) 3 Try.f3 (bodyOf Try.f3) 154 [.tmp 8] Try.func3 (by kernel_rfl) (by kernel_rfl) (by kernel_rfl) (by kernel_rfl) (fun _ _ => by simp [A3]) (fun x _ => law3 x)
end Go.Eng.W

/- WireWrites holds at every input: no condition beyond the row own cells. -/
namespace Go.Proofs.Ytaeehckolckbmaa
open Go Go.ChangeShapes Go.WideShapes Go.ChangeAt Go.WideMaps Go.WideElems Go.RowKit Go.Eng Go.Eng.W
set_option linter.unusedSimpArgs false
set_option linter.unusedVariables false

theorem own0 : ownKnob Try.prog.godebug = none := by kernel_rfl
set_option maxRecDepth 100000 in
theorem wireWrites_lifted (os : Os) (started : os.Started) (H : Type) (enc : TypeId × Value → H) :
    ReturnsInHanded {} Try.checked os 3 .any (Rows.wireWritesSpec.pre6 enc Try.prog Try.f3 Rows.wireWritesRow.domain false)
      (Rows.wireWritesSpec.post enc Try.prog Try.f3 false true false false) := by
  refine returnsInHanded_of_change (C := Try.checked) own0 started (by kernel_rfl) Try.func3
    (ChangeSpec.witness6 (enc := enc) (C := Try.checked) false ⟨#[], #[.slice none 0 0, .int .i64 0, .string ⟨#[]⟩, .slice none 0 0], []⟩ 8 (by kernel_rfl) (by kernel_rfl) (by kernel_rfl) (by kernel_rfl)) ?_
  intro W base args ds gs before hval0 hW hcnd _
  have hval : ∀ (j : Nat) t v, Try.f3.params[j]? = some t → args[j]? = some v → Value.okWide Try.prog W .any base t v := hval0
  have hW' := hW
  obtain ⟨p, q, hA0, hV, rfl, hfz, hnd⟩ := hW
  have hA : DataW.TrodAll enc Try.prog W 0 (fun _ => true) true Try.f3.params.toList args.toList ds p := hA0
  rw [Try.params3] at hA hval
  obtain ⟨v0, v1, v2, v3, d0, d1, d2, d3, p0, p1, p2, p3, rfl, rfl, rfl, h0, h1, h2, h3⟩ := trodAll_four hA
  obtain ⟨rfl, rfl⟩ := trodVars_none hV
  obtain ⟨n0, s0⟩ := open_bytes Try.underlying22 Try.underlying5 (by kernel_rfl) (hval 0 22 v0 rfl rfl) h0
  obtain ⟨n1, rfl, rfl, rfl, w1⟩ := open_int Try.underlying2 (hval 1 2 v1 rfl rfl) h1
  obtain ⟨n2, rfl, rfl, rfl, w2⟩ := Go.ChangeMaps.open_string Try.underlying9 (hval 2 9 v2 rfl rfl) h2
  obtain ⟨n3, s3, w3⟩ := open_slArg Try.underlying23 Try.underlying2 (by kernel_rfl) (hval 3 23 v3 rfl rfl) h3
  refine (calls_true c3 (xs := [bArg n0, .v (.int .i64 n1), .v (.string n2), slArg .i64 n3]) (law_in (A := A3) (pre := fun _ => True) (x := ⟨n0, n1, n2, n3⟩) trivial (.refl _)) (fun _ => .any _) (.one (.base s0) (.one (V_v _) (.one (V_v _) (.one (.base s3) .none))))).mono fun e W' ⟨he, ho⟩ => ?_
  subst he
  exact ⟨_, rfl, post_true (tb := 4) (by kernel_rfl) (by kernel_rfl) (by kernel_rfl) (by kernel_rfl) (by kernel_rfl) Try.underlying4 hW' rfl rfl ho⟩

theorem wireWrites_holds : Rows.WireWritesSaid :=
  OpenClaim.holds_of_wide 3 Try.f3 rfl rfl rfl rfl rfl rfl rfl ⟨rfl, rfl, rfl, rfl, rfl⟩ rfl rfl rfl rfl rfl (by kernel_rfl) Try.func3 (by kernel_rfl)
    (of_decide_eq_true (by kernel_rfl)) (by unfold Func.isWrapper; first | (rw [if_pos (by decide +kernel)]; kernel_rfl) | (rw [if_neg (by decide +kernel)]; exact ⟨rfl, rfl⟩))
    (fun os started H enc _ => wireWrites_lifted os started H enc)
#print axioms wireWrites_holds
end Go.Proofs.Ytaeehckolckbmaa
