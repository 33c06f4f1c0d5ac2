/- tape: writing under a fuse: the loop's summary. -/
import Derived.Test.YtbjfbghmokkloaaK2
namespace Go.Eng.T
open Go Go.Eng Go.Proofs
set_option linter.unusedSimpArgs false
set_option linter.unusedVariables false
def getB : List AV → Int
  | [.v (.int _ x)] => x
  | _ => 0
open Classical in
noncomputable def isU8 (g : Nat → List AV) : Bool := decide (g = bytesF fun j => getB (g j))
open Classical in
theorem isU8_eq {g : Nat → List AV} (h : isU8 g = true) : g = bytesF fun j => getB (g j) := by unfold isU8 at h; exact decide_eq_true_iff.1 h
open Classical in
theorem isU8_bytes (f : Nat → Int) : isU8 (bytesF f) = true := by unfold isU8; exact decide_eq_true_iff.2 rfl
def hsH (r : Int) (l : Int) (o : Bool) (n : Nat) (g : Nat → List AV) (c : Nat) : Heap := [some (tp r (.hs 2 0 c) l o), some (.arr 1 n g), some (.arr 1 c anyF)]
def nilH (r : Int) (l : Int) (o : Bool) (n : Nat) (g : Nat → List AV) : Heap := [some (tp r (.v (.slice none 0 0)) l o), some (.arr 1 n g)]
theorem HA_pos {r l : Int} {o : Bool} {n c : Nat} {f : Nat → Int} (h : Nat.beq c 0 = false) : HA r l o n f c = hsH r l o n (bytesF f) c := by
  cases c with
  | zero => simp at h
  | succ k => rfl
def doneF (e : Int) : List AV := [.ptr 0 0, .v (.int .i64 e), .any, .any, .any, .any]
noncomputable def list15 (vals : List AV) (H : Heap) : Tree Out := match vals, H with
  | [.ptr a b, .v (.int .i64 0), .fn c [.ptr a' b'] [], .hs d e n, .v (.int .i64 m), .v (.int .i64 0)], [some (.row [.v (.int .i64 r), .v (.int .i64 0), .v (.int .i64 0), .v (.slice none 0 0), .v (.int .i64 l), .v (.bool false)]), some (.arr sz q g)] =>
    .chk (Nat.beq a 0 && Nat.beq b 0 && Nat.beq c 22 && Nat.beq a' 0 && Nat.beq b' 0 && Nat.beq d 1 && Nat.beq e 0 && Nat.beq sz 1 && Nat.beq q n && decide (m = (n : Int)) && decide (n ≤ 3000) && decide (0 ≤ l) && decide (l ≤ 9223372036854775807)) (.chk (isU8 g)
      (.br (Nat.ble n l.toNat)
        (.br (Nat.beq n 0) (.leaf ⟨.exit 0, doneF 0, nilH r (l.toNat - n : Nat) false n g⟩) (.leaf ⟨.exit 0, doneF 0, hsH r (l.toNat - n : Nat) false n g n⟩))
        (.br (Nat.beq l.toNat 0) (.leaf ⟨.ret, doneF 170, nilH r 0 true n g⟩) (.leaf ⟨.ret, doneF 170, hsH r 0 true n g l.toNat⟩))))
  | _, _ => .fail
theorem br2_get {α : Type} {c c1 c2 : Bool} {a b d e r : α} (h : (Tree.br c (.br c1 (.leaf a) (.leaf b)) (.br c2 (.leaf d) (.leaf e))).get = some r) : r = bif c then (bif c1 then a else b) else (bif c2 then d else e) := by
  cases c <;> cases c1 <;> cases c2 <;> (simp only [Tree.get, Option.some.injEq] at h; exact h.symm)
theorem list15_sp (vals : List AV) (H : Heap) (o : Out) (h : (list15 vals H).get = some o) : Sp15 vals H o := by
  unfold list15 at h
  split at h
  · rename_i a b c a' b' d e n m r l sz q g
    have hc := (Tree.chk_get h).1
    replace h := (Tree.chk_get h).2
    have hf := (Tree.chk_get h).1
    replace h := br2_get (Tree.chk_get h).2
    simp only [Bool.and_eq_true, decide_eq_true_eq] at hc
    have hl2 := hc.2
    have hl1 := hc.1.2
    have hn := hc.1.1.2
    have hm := hc.1.1.1.2
    have hq := hc.1.1.1.1.2
    have hsz := hc.1.1.1.1.1.2
    have he := hc.1.1.1.1.1.1.2
    have hd := hc.1.1.1.1.1.1.1.2
    have hb' := hc.1.1.1.1.1.1.1.1.2
    have ha' := hc.1.1.1.1.1.1.1.1.1.2
    have hcc := hc.1.1.1.1.1.1.1.1.1.1.2
    have hb := hc.1.1.1.1.1.1.1.1.1.1.1.2
    have ha := hc.1.1.1.1.1.1.1.1.1.1.1.1
    clear hc
    obtain rfl := Nat.eq_of_beq_eq_true ha
    obtain rfl := Nat.eq_of_beq_eq_true hb
    obtain rfl := Nat.eq_of_beq_eq_true hcc
    obtain rfl := Nat.eq_of_beq_eq_true ha'
    obtain rfl := Nat.eq_of_beq_eq_true hb'
    obtain rfl := Nat.eq_of_beq_eq_true hd
    obtain rfl := Nat.eq_of_beq_eq_true he
    obtain rfl := Nat.eq_of_beq_eq_true hsz
    obtain rfl := Nat.eq_of_beq_eq_true hq
    subst hm
    obtain ⟨k, hk⟩ := Int.eq_ofNat_of_zero_le hl1
    subst hk
    have hg := isU8_eq hf
    generalize (fun j => getB (g j)) = f at hg
    subst hg
    rw [Int.toNat_natCast] at h
    refine ⟨r, k, q, 0, f, Nat.zero_le _, hn, by omega, rfl, rfl, ?_⟩
    rw [h]
    unfold fin
    rw [Nat.sub_zero, Nat.zero_add]
    cases c1 : Nat.ble q k with
    | true =>
      cases c2 : Nat.beq q 0 with
      | true =>
        obtain rfl := Nat.eq_of_beq_eq_true c2
        rfl
      | false => rw [HA_pos c2]; rfl
    | false =>
      cases c2 : Nat.beq k 0 with
      | true =>
        obtain rfl := Nat.eq_of_beq_eq_true c2
        rfl
      | false => rw [HA_pos c2]; rfl
  · simp [Tree.get] at h
noncomputable def L15 : Nat → LSpec := fun _ => ⟨[0, 4, 6, 30, 31, 32], [], list15⟩
theorem loop15_ok : LoopOK Try.prog Γt 2 52 loop15 (L15 0) :=
  loop_rel (T := [S.c22]) (L := Lno) (ip := false) (k := 0) Sp15 mu15 (noLoops (by kernel_rfl)) list15_sp loop15_round
end Go.Eng.T
