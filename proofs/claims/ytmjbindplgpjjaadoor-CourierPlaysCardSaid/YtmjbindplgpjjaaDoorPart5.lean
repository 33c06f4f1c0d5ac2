/- Texts that CF15r needs: EngAU and what follows it. -/
import Derived.Test.YtmjbindplgpjjaaDoorPart4
set_option linter.unnecessarySimpa false
set_option linter.unusedSectionVars false
set_option linter.unusedSimpArgs false
set_option linter.unusedVariables false
namespace Go.Eng
open Go
theorem mixU (c : Bool) (a b : Int) : mixL c [.v (.int .u8 a)] [.v (.int .u8 b)] = [.v (.int .u8 (bif c then a else b))] := by cases c <;> rfl
section
variable {P : Program} {Γ : Nat → AV}
theorem V.ptr_inv {σ : Store} {φ : Places} {i o : Nat} {y : Value} (h : V σ φ (.ptr i o) y) : ∃ L, φ i = some L ∧ L.virt = false := by
  cases h with
  | base h => cases h
  | ptr h hr => exact ⟨_, h, hr⟩
theorem V.hs_inv {σ : Store} {φ : Places} {i e n : Nat} {y : Value} (h : V σ φ (.hs i e n) y) : ∃ L, φ i = some L := by
  cases h with
  | base h => cases h
  | hs h hr => exact ⟨_, h⟩
  | hsnil A h => exact ⟨_, h⟩
theorem Answers.boxOut {f : FuncId} {args : List AV} {Hin : List Blk} {v : AV} {H1 : List (Option Blk)} {new : List Blk} (a i o j c c0 e0 n0 : Nat) {cs0 cs1 : List AV} {sz N : Nat} {g : Nat → List AV} (ha : args[a]? = some (.ptr i o)) (h0 : Hin[i]? = some (.row cs0)) (hc0 : cs0[c0]? = some (.hs j e0 n0))
    (hj : j < Hin.length) (h1 : H1[i]? = some (some (.row cs1))) (hc1 : cs1[c]? = some (.v (.slice none 0 0))) (hjr : H1[j]? = some (some (.arr sz N g))) (h : Answers P Γ f args Hin v H1 new) :
    Answers P Γ f args Hin v (H1.set i (some (.row (cs1.set c (.hs j N 0))))) new where
  len := by rw [List.length_set]; exact h.len
  enters := h.enters
  ok := by
    intro σ φ w vals hG hV hn hR
    have hlen := h.len
    have e0 : ({ val := v, upd := H1.map some, new := new } : Res).heap Hin = H1 ++ new.map some := by
      unfold Res.heap; rw [outOf_all _ _ hlen]
    have e1 : ({ val := v, upd := (H1.set i (some (.row (cs1.set c (.hs j N 0))))).map some, new := new } : Res).heap Hin = (H1 ++ new.map some).set i (some (.row (cs1.set c (.hs j N 0)))) := by
      unfold Res.heap
      rw [outOf_all _ _ (by rw [List.length_set]; exact hlen)]
      have hil : i < H1.length := (List.getElem?_eq_some_iff.1 h1).1
      rw [List.set_append_left _ _ hil]
    rw [e1]
    refine (h.ok σ φ w vals hG hV hn hR).mono fun e w' ⟨σ', φ', x, k1, k2, k3, k4, k5⟩ => ⟨σ', φ', x, k1, k2, ?_, k4, fun k hk => k5 k (by rw [e0]; rw [List.length_set] at hk; exact hk)⟩
    rw [e0] at k3
    obtain ⟨y, hy, hyv⟩ : ∃ y, vals.toList[a]? = some y ∧ V σ φ (.ptr i o) y := by
      have hal : a < args.length := (List.getElem?_eq_some_iff.1 ha).1
      have hal' : a < vals.toList.length := hV.1 ▸ hal
      exact ⟨_, List.getElem?_eq_getElem hal', hV.2 a _ _ ha (List.getElem?_eq_getElem hal')⟩
    obtain ⟨L, hL, hv⟩ := hyv.ptr_inv
    have hg0 : getH (Hin.map some) i = some (.row cs0) := by rw [getHmap, h0]
    obtain ⟨cc, _, _, _, hcell⟩ := hR.obj i _ L hg0 hL hv
    obtain ⟨yc, _, hyc⟩ := hcell c0 _ hc0
    obtain ⟨Lj, hLj⟩ := hyc.hs_inv
    have hLj' : φ' j = some Lj := by rw [k4 j hj]; exact hLj
    have hgj : getH (H1 ++ new.map some) j = some (.arr sz N g) := by
      unfold getH
      rw [List.getElem?_append_left (List.getElem?_eq_some_iff.1 hjr).1, hjr]
    have hgi : getH (H1 ++ new.map some) i = some (.row cs1) := by
      unfold getH
      rw [List.getElem?_append_left (List.getElem?_eq_some_iff.1 h1).1, h1]
    have hN := k3.len j Lj sz N g hgj hLj'
    refine k3.setRow hgi hc1 fun y hy => ?_
    obtain rfl := hy.v_eq
    exact .hsnil none hLj' (by omega) rfl
theorem Answers.nilSl {f : FuncId} {sz : Nat} {z : List AV} {g : Nat → List AV} (hz : z.length = sz) {M : List AV} (hM : M.length = sz) (h1 : ∀ cap, Answers P Γ f [.v (.slice none 0 cap)] [] (.v (.slice none 0 0)) [] [])
    (h2 : Answers P Γ f [.sl sz 0 fun _ => M] [] (.hs 0 0 0) [] [.arr sz 0 fun _ => z]) : Answers P Γ f [.sl sz 0 g] [] (.hs 0 0 0) [] [.arr sz 0 fun _ => z] where
  len := rfl
  enters := h2.enters
  ok := by
    intro σ φ w vals hG hV hn hR
    obtain ⟨y, hy, hv⟩ := hV.one_inv
    have hsl : ∀ (A : Option Addr) (cap : Nat), A ≠ none → y = .slice A 0 cap → VL σ φ [.sl sz 0 fun _ => M] vals.toList := fun A cap hA e => by
      rw [hy, e]
      exact .one (.base (.slnil sz 0 _ A cap (fun _ => hM) rfl (fun h => absurd h hA))) .none
    have hnil : ∀ cap : Nat, y = .slice none 0 cap → Calls P f vals w fun e w' => ∃ σ' φ' v, e = .returned v ∧ V σ' φ' (.hs 0 0 0) v ∧
      R ⟨w, σ, fun b => ∃ k L, φ k = some L ∧ L.virt = false ∧ L.b = b⟩ σ' φ' (getH (Res.heap [] { val := .hs 0 0 0, upd := [], new := [.arr sz 0 fun _ => z] })) w' ∧ (∀ k, k < 0 → φ' k = φ k) ∧ (∀ k, 1 ≤ k → φ' k = none) := fun cap he => by
      refine ((h1 cap).ok σ φ w vals hG (by rw [hy, he]; exact .one (V_v _) .none) hn hR).mono fun e w' ⟨σ', φ', v, e1, e2, e3, e4, e5⟩ => ?_
      have hnb : φ' 0 = none := e5 0 (Nat.le_refl 0)
      obtain rfl := e2.v_eq
      have hg : getH (Res.heap [] { val := .hs 0 0 0, upd := [], new := [.arr sz 0 fun _ => z] }) = updG (getH (Res.heap [] { val := .v (.slice none 0 0), upd := [] })) 0 (some (.arr sz 0 fun _ => z)) := by
        funext k
        exact getH_append (H := []) (bs := [Blk.arr sz 0 fun _ => z]) (k := k)
      refine ⟨σ', fresh φ' 0 ⟨0, 0, sz, 0, 0, true⟩, _, e1, .hsnil none fresh_at (Nat.le_refl 0) rfl, ?_, fun k hk => absurd hk (Nat.not_lt_zero k), fun k hk => ?_⟩
      · rw [hg]
        exact e3.virtual (L := ⟨0, 0, sz, 0, 0, true⟩) hnb rfl (some (.arr sz 0 fun _ => z)) (fun b' hb' => by simp at hb'; subst hb'; exact fun _ => hz) (fun _ _ _ h' => by cases h'; rfl)
      · have : k ≠ 0 := by omega
        simp only [fresh, this, if_false]
        exact e5 k (Nat.zero_le k)
    cases hv with
    | base h =>
      cases h with
      | sl _ _ _ ad cap ys hs => exact h2.ok σ φ w vals hG (hsl (some ad) cap (by simp) rfl) hn hR
      | slnil _ _ _ A cap hl _ ha =>
        by_cases hA : A = none
        · subst hA; exact hnil cap rfl
        · exact h2.ok σ φ w vals hG (hsl A cap hA rfl) hn hR
theorem Answers.cU {f : FuncId} {a0 : List AV} {H0 : List Blk} {v : AV} {H1 : List (Option Blk)} {new : List Blk} (h : Answers P Γ f a0 H0 v H1 new) {upd : List (Option (Option Blk))} (hu : outOf H0 upd = H1) : Contract P Γ f a0 H0 { val := v, upd := upd, new := new } :=
  h.ok.more (LeL.refl _) (LeH.refl _) (by
    unfold Res.heap
    rw [outOf_all _ _ h.len, hu]) rfl
noncomputable def exSpec {X : Type} (ext : List AV → List Blk → Option X) (pre : X → Prop) (v : X → AV) (upd : X → List (Option (Option Blk))) (new : X → List Blk) (args : List AV) (Hin : List Blk) : Tree Res :=
  match ext args Hin with
  | some x => .chk (cl (pre x)) (.leaf { val := v x, upd := upd x, new := new x })
  | none => .fail
noncomputable def CT.ex {X : Type} (f : FuncId) (ext : List AV → List Blk → Option X) (pre : X → Prop) (v : X → AV) (upd : X → List (Option (Option Blk))) (new : X → List Blk)
    (enters : ∀ (args : Array Value) (w : World), (callFunc f args).run P w = .ok (.enter f args) w) (h : ∀ args Hin x, ext args Hin = some x → pre x → Contract P Γ f args Hin { val := v x, upd := upd x, new := new x }) : CT P Γ where
  f := f
  spec := exSpec ext pre v upd new
  enters := enters
  ok := fun args Hin r hr => by
    unfold exSpec at hr
    split at hr
    · rename_i x hx
      obtain ⟨h1, hr⟩ := Tree.chk_get hr
      obtain rfl := Tree.leaf_get hr
      exact h args Hin x hx (cl_iff.1 h1)
    · simp [Tree.get] at hr
end
end Go.Eng

namespace Go.Eng.TA.C
open Go Go.Eng Go.Eng.M Go.Lib Go.Proofs
structure Pc where
  tx : Tx
  st : Int
  due : Int
  gap : Int
instance : Inhabited Pc := ⟨⟨default, 0, 0, 0⟩⟩
def Pc.c (x : Pc) : List AV := [.v (.int .i64 x.tx.k), .v (.string x.tx.fr), .v (.string x.tx.to), .v (.string x.tx.ky), .v (.string x.tx.vl), .v (.int .i64 x.tx.am), .v (.int .i64 x.tx.nn), .v (.int .i64 x.st), .v (.int .i64 x.due), .v (.int .i64 x.gap)]
def Pc.cells (x : Pc) : List Value := [.int .i64 x.tx.k, .string x.tx.fr, .string x.tx.to, .string x.tx.ky, .string x.tx.vl, .int .i64 x.tx.am, .int .i64 x.tx.nn, .int .i64 x.st, .int .i64 x.due, .int .i64 x.gap]
theorem Pc.cod : Cod Pc.c 10 := ⟨fun _ => rfl, fun b x y => by cases b <;> rfl⟩
theorem Pc.dec (vs : List Value) (h0 : GoodVs [.int .i64, .str, .str, .str, .str, .int .i64, .int .i64, .int .i64, .int .i64, .int .i64] vs) : ∃ a : Pc, vs = a.cells := by
  obtain ⟨_, _, rfl, ⟨a0, rfl, _⟩, h1⟩ := h0.cons
  obtain ⟨_, _, rfl, ⟨a1, rfl, _⟩, h2⟩ := h1.cons
  obtain ⟨_, _, rfl, ⟨a2, rfl, _⟩, h3⟩ := h2.cons
  obtain ⟨_, _, rfl, ⟨a3, rfl, _⟩, h4⟩ := h3.cons
  obtain ⟨_, _, rfl, ⟨a4, rfl, _⟩, h5⟩ := h4.cons
  obtain ⟨_, _, rfl, ⟨a5, rfl, _⟩, h6⟩ := h5.cons
  obtain ⟨_, _, rfl, ⟨a6, rfl, _⟩, h7⟩ := h6.cons
  obtain ⟨_, _, rfl, ⟨a7, rfl, _⟩, h8⟩ := h7.cons
  obtain ⟨_, _, rfl, ⟨a8, rfl, _⟩, h9⟩ := h8.cons
  obtain ⟨_, _, rfl, ⟨a9, rfl, _⟩, h10⟩ := h9.cons
  obtain rfl := h10.nil
  exact ⟨⟨⟨a0, a1, a2, a3, a4, a5, a6⟩, a7, a8, a9⟩, rfl⟩
abbrev Pc.ks : List Cel := [.int .i64, .str, .str, .str, .str, .int .i64, .int .i64, .int .i64, .int .i64, .int .i64]
structure Od where
  tx : Tx
  st : Int
instance : Inhabited Od := ⟨⟨default, 0⟩⟩
def Od.c (x : Od) : List AV := [.v (.int .i64 x.tx.k), .v (.string x.tx.fr), .v (.string x.tx.to), .v (.string x.tx.ky), .v (.string x.tx.vl), .v (.int .i64 x.tx.am), .v (.int .i64 x.tx.nn), .v (.int .i64 x.st)]
def Od.cells (x : Od) : List Value := [.int .i64 x.tx.k, .string x.tx.fr, .string x.tx.to, .string x.tx.ky, .string x.tx.vl, .int .i64 x.tx.am, .int .i64 x.tx.nn, .int .i64 x.st]
theorem Od.cod : Cod Od.c 8 := ⟨fun _ => rfl, fun b x y => by cases b <;> rfl⟩
theorem Od.dec (vs : List Value) (h0 : GoodVs [.int .i64, .str, .str, .str, .str, .int .i64, .int .i64, .int .i64] vs) : ∃ a : Od, vs = a.cells := by
  obtain ⟨_, _, rfl, ⟨a0, rfl, _⟩, h1⟩ := h0.cons
  obtain ⟨_, _, rfl, ⟨a1, rfl, _⟩, h2⟩ := h1.cons
  obtain ⟨_, _, rfl, ⟨a2, rfl, _⟩, h3⟩ := h2.cons
  obtain ⟨_, _, rfl, ⟨a3, rfl, _⟩, h4⟩ := h3.cons
  obtain ⟨_, _, rfl, ⟨a4, rfl, _⟩, h5⟩ := h4.cons
  obtain ⟨_, _, rfl, ⟨a5, rfl, _⟩, h6⟩ := h5.cons
  obtain ⟨_, _, rfl, ⟨a6, rfl, _⟩, h7⟩ := h6.cons
  obtain ⟨_, _, rfl, ⟨a7, rfl, _⟩, h8⟩ := h7.cons
  obtain rfl := h8.nil
  exact ⟨⟨⟨a0, a1, a2, a3, a4, a5, a6⟩, a7⟩, rfl⟩
abbrev Od.ks : List Cel := [.int .i64, .str, .str, .str, .str, .int .i64, .int .i64, .int .i64]
structure Oc where
  blk : Int
  hgt : Int
  tx : Tx
  err : Int
instance : Inhabited Oc := ⟨⟨0, 0, default, 0⟩⟩
def Oc.c (x : Oc) : List AV := [.v (.int .i64 x.blk), .v (.int .i64 x.hgt), .v (.int .i64 x.tx.k), .v (.string x.tx.fr), .v (.string x.tx.to), .v (.string x.tx.ky), .v (.string x.tx.vl), .v (.int .i64 x.tx.am), .v (.int .i64 x.tx.nn), .v (.int .i64 x.err)]
def Oc.cells (x : Oc) : List Value := [.int .i64 x.blk, .int .i64 x.hgt, .int .i64 x.tx.k, .string x.tx.fr, .string x.tx.to, .string x.tx.ky, .string x.tx.vl, .int .i64 x.tx.am, .int .i64 x.tx.nn, .int .i64 x.err]
theorem Oc.cod : Cod Oc.c 10 := ⟨fun _ => rfl, fun b x y => by cases b <;> rfl⟩
theorem Oc.dec (vs : List Value) (h0 : GoodVs [.int .i64, .int .i64, .int .i64, .str, .str, .str, .str, .int .i64, .int .i64, .int .i64] vs) : ∃ a : Oc, vs = a.cells := by
  obtain ⟨_, _, rfl, ⟨a0, rfl, _⟩, h1⟩ := h0.cons
  obtain ⟨_, _, rfl, ⟨a1, rfl, _⟩, h2⟩ := h1.cons
  obtain ⟨_, _, rfl, ⟨a2, rfl, _⟩, h3⟩ := h2.cons
  obtain ⟨_, _, rfl, ⟨a3, rfl, _⟩, h4⟩ := h3.cons
  obtain ⟨_, _, rfl, ⟨a4, rfl, _⟩, h5⟩ := h4.cons
  obtain ⟨_, _, rfl, ⟨a5, rfl, _⟩, h6⟩ := h5.cons
  obtain ⟨_, _, rfl, ⟨a6, rfl, _⟩, h7⟩ := h6.cons
  obtain ⟨_, _, rfl, ⟨a7, rfl, _⟩, h8⟩ := h7.cons
  obtain ⟨_, _, rfl, ⟨a8, rfl, _⟩, h9⟩ := h8.cons
  obtain ⟨_, _, rfl, ⟨a9, rfl, _⟩, h10⟩ := h9.cons
  obtain rfl := h10.nil
  exact ⟨⟨a0, a1, ⟨a2, a3, a4, a5, a6, a7, a8⟩, a9⟩, rfl⟩
abbrev Oc.ks : List Cel := [.int .i64, .int .i64, .int .i64, .str, .str, .str, .str, .int .i64, .int .i64, .int .i64]
structure Cs where
  who : ByteArray
  most : Int
  now : Int
  heard : Int
  wt : Int
  en : Int
  go : Int
def Cs.row (c : Cs) (n : Nat) : Blk := .row [.v (.string c.who), .v (.int .i64 c.most), .hs 1 0 n, .v (.int .i64 c.now), .v (.int .i64 c.heard), .v (.int .i64 c.wt), .v (.int .i64 c.en), .v (.int .i64 c.go)]
abbrev lsP (l : List Pc) : Blk := .arr 10 l.length (lsF Pc.c l)
def Cs.bl (c : Cs) (l : List Pc) : List Blk := [c.row l.length, lsP l]
def od (p : Pc) : Od := ⟨p.tx, p.st⟩
abbrev lsO (l : List Od) : Blk := .arr 8 l.length (lsF Od.c l)
noncomputable abbrev lpO : Code := loopOf (bodyOf Tryd.f65) 0
abbrev lvO : List Nat := [11, 3, 12, 13]
abbrev nlO : List (Nat × TypeId) := [(1, 95)]
def SO (c : Cs) (l : List Pc) (i : Nat) (o : List Od) : List AV × Heap := ([.hs 1 0 l.length, .hs 2 0 o.length, .v (.int .i64 (l.length : Int)), .v (.int .i64 (i : Int))], (c.bl l ++ [lsO o]).map some)
def OO (c : Cs) (l : List Pc) : Out := ⟨.exit 0, [.any, .hs 2 0 (l.map od).length, .any, .any], (c.bl l ++ [lsO (l.map od)]).map some⟩
theorem rO (c : Cs) (l : List Pc) (i : Nat) (o : List Od) : roundE (P := Tryd.prog) (Γ := Γm) [] Lno false 2 0 lpO lvO nlO 24 (SO c l i o).1 (SO c l i o).2 =
  Tree.br (decide ((↑i : Int) < (↑(List.length l) : Int))) (Tree.chk (decide ((0 : Int) ≤ (↑i : Int)) && decide ((↑i : Int) < (↑(List.length l) : Int))) (Tree.chk (roomOk (96 : Nat)
    (List.length o + (1 : Nat))) (Tree.leaf (Out.mk AEx.normal [AV.hs (1 : Nat) (0 : Nat) (List.length l), AV.hs (2 : Nat) (0 : Nat) (List.length o + (1 : Nat)), AV.v (Value.int IntKind.i64
    (↑(List.length l) : Int)), AV.v (Value.int IntKind.i64 (IntKind.wrap IntKind.i64 ((↑i : Int) + (1 : Int))))] [some (Blk.row [AV.v (Value.string c.who), AV.v (Value.int IntKind.i64
    c.most), AV.hs (1 : Nat) (0 : Nat) (List.length l), AV.v (Value.int IntKind.i64 c.now), AV.v (Value.int IntKind.i64 c.heard), AV.v (Value.int IntKind.i64 c.wt), AV.v (Value.int
    IntKind.i64 c.en), AV.v (Value.int IntKind.i64 c.go)]), some (Blk.arr (10 : Nat) (List.length l) (lsF Pc.c l)), some (Blk.arr (8 : Nat) (List.length o + (1 : Nat)) fun j => mixL (decide
    (j < List.length o)) (lsF Od.c o ((0 : Nat) + j)) (chain [AV.v (Value.int IntKind.i64 (0 : Int)), AV.v (Value.string (ByteArray.mk #[])), AV.v (Value.string (ByteArray.mk #[])), AV.v
    (Value.string (ByteArray.mk #[])), AV.v (Value.string (ByteArray.mk #[])), AV.v (Value.int IntKind.i64 (0 : Int)), AV.v (Value.int IntKind.i64 (0 : Int)), AV.v (Value.int IntKind.i64 (0
    : Int))] (0 : Nat) [[AV.v (Value.int IntKind.i64 (List.getD l ((0 : Nat) + i) default).tx.k), AV.v (Value.string (List.getD l ((0 : Nat) + i) default).tx.fr), AV.v (Value.string
    (List.getD l ((0 : Nat) + i) default).tx.to), AV.v (Value.string (List.getD l ((0 : Nat) + i) default).tx.ky), AV.v (Value.string (List.getD l ((0 : Nat) + i) default).tx.vl), AV.v
    (Value.int IntKind.i64 (List.getD l ((0 : Nat) + i) default).tx.am), AV.v (Value.int IntKind.i64 (List.getD l ((0 : Nat) + i) default).tx.nn), AV.v (Value.int IntKind.i64 (List.getD l
    ((0 : Nat) + i) default).st)]] ((0 : Nat) + (j - List.length o))))])))) (Tree.leaf (Out.mk (AEx.exit (0 : Nat)) [AV.hs (1 : Nat) (0 : Nat) (List.length l), AV.hs (2 : Nat) (0 : Nat)
    (List.length o), AV.v (Value.int IntKind.i64 (↑(List.length l) : Int)), AV.v (Value.int IntKind.i64 (↑i : Int))] [some (Blk.row [AV.v (Value.string c.who), AV.v (Value.int IntKind.i64
    c.most), AV.hs (1 : Nat) (0 : Nat) (List.length l), AV.v (Value.int IntKind.i64 c.now), AV.v (Value.int IntKind.i64 c.heard), AV.v (Value.int IntKind.i64 c.wt), AV.v (Value.int
    IntKind.i64 c.en), AV.v (Value.int IntKind.i64 c.go)]), some (Blk.arr (10 : Nat) (List.length l) (lsF Pc.c l)), some (Blk.arr (8 : Nat) (List.length o) (lsF Od.c o))])) := by kernel_rfl
theorem room96 {n : Nat} (h : n ≤ 10000000) : roomOk 96 n = true := by
  unfold roomOk
  exact decide_eq_true (by omega)
theorem take_next {α : Type} [Inhabited α] {l : List α} {i : Nat} (h : i < l.length) : l.take (i + 1) = l.take i ++ [l.getD i default] := by
  rw [List.take_add_one, List.getD_eq_getElem?_getD, List.getElem?_eq_getElem h]; rfl
theorem loopO {c : Cs} {l : List Pc} (hl : l.length ≤ 100000) : ∀ i : Nat, i ≤ l.length → LoopOK Tryd.prog Γm 2 24 lpO (LSpec.at lvO nlO (SO c l i ((l.take i).map od)) (OO c l)) := by
  refine loop_at (S := fun i => SO c l i ((l.take i).map od)) (pre := fun i => i ≤ l.length) (O := fun _ => OO c l) (k := 0) (fun i => l.length - i) fun i hi => .of (noLoops (by kernel_rfl)) (rO c l i ((l.take i).map od)) ?_
  rcases Nat.lt_or_ge i l.length with h | h
  · have hz : ((l.take i).map od).length = i := by rw [List.length_map, List.length_take]; omega
    have hn : (l.take (i + 1)).map od = (l.take i).map od ++ [od (l.getD i default)] := by rw [take_next h, List.map_append]; rfl
    have hz1 : ((l.take (i + 1)).map od).length = i + 1 := by rw [List.length_map, List.length_take]; omega
    have hO := Od.cod.app0 ((l.take i).map od) (od (l.getD i default)) default hz.symm (N := i + 1) (by rw [hz])
    have hr := room96 (n := i + 1) (by omega)
    rw [← hn] at hO
    have e1 : IntKind.i64.wrap ((i : Int) + 1) = ((i + 1 : Nat) : Int) := wrapUpN (by omega)
    simp only [Nat.zero_add, hz, e1]
    repeat' (first | refine wC (by first | omega | (simp only [W1, cond_true, cond_false]; first | done | omega)) ?_ | refine wT (by first | omega | (simp only [W1, cond_true, cond_false]; first | done | omega)) ?_ | refine wF (by intro _h; first | omega | (simp only [W1, cond_true, cond_false] at _h; first | done | omega)) ?_ | (refine wS ?_ ?_ <;> intro _h <;> simp only [W1, cond_true, cond_false] at _h))
    all_goals simp only [W1, W2, owesN, owesX, owesR, cond_true, cond_false]
    repeat' (first | apply And.intro | intro _hc)
    all_goals first | exact hr | ((refine ⟨i + 1, ⟨.refl _, ?_, .refl _, .refl _, trivial⟩, ⟨.refl _, .refl _, hO, trivial⟩, h, Nat.sub_lt_sub_left h (Nat.lt_succ_self i)⟩; rw [hz1]; exact .refl _)) | exact AV.le_refl _ | exact AV.le_any _ | exact OLe.refl _ | exact OLe.none _ | exact LeH.refl _ | exact LeL.refl _ | exact AV.le.bs _ | exact AV.le.sb _ | omega | contradiction
  · obtain rfl : i = l.length := by omega
    rw [List.take_of_length_le (Nat.le_refl _)]
    repeat' (first | refine wC (by first | omega | (simp only [W1, cond_true, cond_false]; first | done | omega)) ?_ | refine wT (by first | omega | (simp only [W1, cond_true, cond_false]; first | done | omega)) ?_ | refine wF (by intro _h; first | omega | (simp only [W1, cond_true, cond_false] at _h; first | done | omega)) ?_ | (refine wS ?_ ?_ <;> intro _h <;> simp only [W1, cond_true, cond_false] at _h))
    all_goals simp only [W1, W2, owesN, owesX, owesR, cond_true, cond_false]
    repeat' (first | apply And.intro | intro _hc)
    all_goals first | exact rfl | exact ⟨.any _, .refl _, .any _, .any _, trivial⟩ | exact AV.le_refl _ | exact AV.le_any _ | exact OLe.refl _ | exact OLe.none _ | exact LeH.refl _ | exact LeL.refl _ | exact AV.le.bs _ | exact AV.le.sb _ | omega | contradiction
def due (n : Int) (p : Pc) : Bool := decide (p.st = 0) && decide (p.due ≤ n)
def tk (n : Int) (p : Pc) : Pc := bif due n p then ⟨p.tx, p.st, n + p.gap, if 16 < 2 * p.gap then 16 else 2 * p.gap⟩ else p
abbrev lsT (l : List Tx) : Blk := .arr 7 l.length (lsF Tx.c l)
noncomputable abbrev lpT : Code := loopOf (bodyOf Tryd.f63) 0
abbrev lvT : List Nat := [0, 3, 19, 20]
abbrev nlT : List (Nat × TypeId) := [(1, 40)]
def ST (c : Cs) (l : List Pc) (i : Nat) (o : List Tx) : List AV × Heap := ([.ptr 0 0, .hs 2 0 o.length, .v (.int .i64 (l.length : Int)), .v (.int .i64 (i : Int))], (c.bl l ++ [lsT o]).map some)
theorem rT (c : Cs) (l : List Pc) (i : Nat) (o : List Tx) : roundE (P := Tryd.prog) (Γ := Γm) [] Lno false 2 0 lpT lvT nlT 77 (ST c l i o).1 (ST c l i o).2 =
  Tree.br (decide ((↑i : Int) < (↑(List.length l) : Int))) (Tree.chk (decide ((0 : Int) ≤ (↑i : Int)) && decide ((↑i : Int) < (↑(List.length l) : Int))) (Tree.br (bif !decide ((List.getD l ((0
    : Nat) + i) default).st = (0 : Int)) then true else decide (c.now < (List.getD l ((0 : Nat) + i) default).due)) (Tree.leaf (Out.mk AEx.normal [AV.ptr (0 : Nat) (0 : Nat), AV.hs (2 : Nat)
    (0 : Nat) (List.length o), AV.v (Value.int IntKind.i64 (↑(List.length l) : Int)), AV.v (Value.int IntKind.i64 (IntKind.wrap IntKind.i64 ((↑i : Int) + (1 : Int))))] [some (Blk.row [AV.v
    (Value.string c.who), AV.v (Value.int IntKind.i64 c.most), AV.hs (1 : Nat) (0 : Nat) (List.length l), AV.v (Value.int IntKind.i64 c.now), AV.v (Value.int IntKind.i64 c.heard), AV.v
    (Value.int IntKind.i64 c.wt), AV.v (Value.int IntKind.i64 c.en), AV.v (Value.int IntKind.i64 c.go)]), some (Blk.arr (10 : Nat) (List.length l) (lsF Pc.c l)), some (Blk.arr (7 : Nat)
    (List.length o) (lsF Tx.c o))])) (Tree.chk (roomOk (88 : Nat) (List.length o + (1 : Nat))) (Tree.leaf (Out.mk AEx.normal [AV.ptr (0 : Nat) (0 : Nat), AV.hs (2 : Nat) (0 : Nat)
    (List.length o + (1 : Nat)), AV.v (Value.int IntKind.i64 (↑(List.length l) : Int)), AV.v (Value.int IntKind.i64 (IntKind.wrap IntKind.i64 ((↑i : Int) + (1 : Int))))] [some (Blk.row [AV.v
    (Value.string c.who), AV.v (Value.int IntKind.i64 c.most), AV.hs (1 : Nat) (0 : Nat) (List.length l), AV.v (Value.int IntKind.i64 c.now), AV.v (Value.int IntKind.i64 c.heard), AV.v
    (Value.int IntKind.i64 c.wt), AV.v (Value.int IntKind.i64 c.en), AV.v (Value.int IntKind.i64 c.go)]), some (Blk.arr (10 : Nat) (List.length l) fun k => mixL (Nat.beq k ((0 : Nat) + i))
    [AV.v (Value.int IntKind.i64 (bif Nat.beq ((0 : Nat) + i) ((0 : Nat) + i) then (List.getD l ((0 : Nat) + i) default).tx.k else (List.getD l ((0 : Nat) + i) default).tx.k)), AV.v
    (Value.string (bif Nat.beq ((0 : Nat) + i) ((0 : Nat) + i) then (List.getD l ((0 : Nat) + i) default).tx.fr else (List.getD l ((0 : Nat) + i) default).tx.fr)), AV.v (Value.string (bif
    Nat.beq ((0 : Nat) + i) ((0 : Nat) + i) then (List.getD l ((0 : Nat) + i) default).tx.to else (List.getD l ((0 : Nat) + i) default).tx.to)), AV.v (Value.string (bif Nat.beq ((0 : Nat) +
    i) ((0 : Nat) + i) then (List.getD l ((0 : Nat) + i) default).tx.ky else (List.getD l ((0 : Nat) + i) default).tx.ky)), AV.v (Value.string (bif Nat.beq ((0 : Nat) + i) ((0 : Nat) + i)
    then (List.getD l ((0 : Nat) + i) default).tx.vl else (List.getD l ((0 : Nat) + i) default).tx.vl)), AV.v (Value.int IntKind.i64 (bif Nat.beq ((0 : Nat) + i) ((0 : Nat) + i) then
    (List.getD l ((0 : Nat) + i) default).tx.am else (List.getD l ((0 : Nat) + i) default).tx.am)), AV.v (Value.int IntKind.i64 (bif Nat.beq ((0 : Nat) + i) ((0 : Nat) + i) then (List.getD l
    ((0 : Nat) + i) default).tx.nn else (List.getD l ((0 : Nat) + i) default).tx.nn)), AV.v (Value.int IntKind.i64 (bif Nat.beq ((0 : Nat) + i) ((0 : Nat) + i) then (List.getD l ((0 : Nat) +
    i) default).st else (List.getD l ((0 : Nat) + i) default).st)), AV.v (Value.int IntKind.i64 (bif Nat.beq ((0 : Nat) + i) ((0 : Nat) + i) then IntKind.wrap IntKind.i64 (c.now + (List.getD
    l ((0 : Nat) + i) default).gap) else (List.getD l ((0 : Nat) + i) default).due)), AV.v (Value.int IntKind.i64 (if (16 : Int) < IntKind.wrap IntKind.i64 ((2 : Int) * bif Nat.beq ((0 :
    Nat) + i) ((0 : Nat) + i) then (List.getD l ((0 : Nat) + i) default).gap else (List.getD l ((0 : Nat) + i) default).gap) then (16 : Int) else IntKind.wrap IntKind.i64 ((2 : Int) * bif
    Nat.beq ((0 : Nat) + i) ((0 : Nat) + i) then (List.getD l ((0 : Nat) + i) default).gap else (List.getD l ((0 : Nat) + i) default).gap)))] (mixL (Nat.beq k ((0 : Nat) + i)) [AV.v
    (Value.int IntKind.i64 (List.getD l ((0 : Nat) + i) default).tx.k), AV.v (Value.string (List.getD l ((0 : Nat) + i) default).tx.fr), AV.v (Value.string (List.getD l ((0 : Nat) + i)
    default).tx.to), AV.v (Value.string (List.getD l ((0 : Nat) + i) default).tx.ky), AV.v (Value.string (List.getD l ((0 : Nat) + i) default).tx.vl), AV.v (Value.int IntKind.i64 (List.getD
    l ((0 : Nat) + i) default).tx.am), AV.v (Value.int IntKind.i64 (List.getD l ((0 : Nat) + i) default).tx.nn), AV.v (Value.int IntKind.i64 (List.getD l ((0 : Nat) + i) default).st), AV.v
    (Value.int IntKind.i64 (IntKind.wrap IntKind.i64 (c.now + (List.getD l ((0 : Nat) + i) default).gap))), AV.v (Value.int IntKind.i64 (List.getD l ((0 : Nat) + i) default).gap)] (lsF Pc.c
    l k))), some (Blk.arr (7 : Nat) (List.length o + (1 : Nat)) fun j => mixL (decide (j < List.length o)) (lsF Tx.c o ((0 : Nat) + j)) (chain [AV.v (Value.int IntKind.i64 (0 : Int)), AV.v
    (Value.string (ByteArray.mk #[])), AV.v (Value.string (ByteArray.mk #[])), AV.v (Value.string (ByteArray.mk #[])), AV.v (Value.string (ByteArray.mk #[])), AV.v (Value.int IntKind.i64 (0
    : Int)), AV.v (Value.int IntKind.i64 (0 : Int))] (0 : Nat) [[AV.v (Value.int IntKind.i64 (List.getD l ((0 : Nat) + i) default).tx.k), AV.v (Value.string (List.getD l ((0 : Nat) + i)
    default).tx.fr), AV.v (Value.string (List.getD l ((0 : Nat) + i) default).tx.to), AV.v (Value.string (List.getD l ((0 : Nat) + i) default).tx.ky), AV.v (Value.string (List.getD l ((0 :
    Nat) + i) default).tx.vl), AV.v (Value.int IntKind.i64 (List.getD l ((0 : Nat) + i) default).tx.am), AV.v (Value.int IntKind.i64 (List.getD l ((0 : Nat) + i) default).tx.nn)]] ((0 : Nat)
    + (j - List.length o))))]))))) (Tree.leaf (Out.mk (AEx.exit (0 : Nat)) [AV.ptr (0 : Nat) (0 : Nat), AV.hs (2 : Nat) (0 : Nat) (List.length o), AV.v (Value.int IntKind.i64 (↑(List.length
    l) : Int)), AV.v (Value.int IntKind.i64 (↑i : Int))] [some (Blk.row [AV.v (Value.string c.who), AV.v (Value.int IntKind.i64 c.most), AV.hs (1 : Nat) (0 : Nat) (List.length l), AV.v
    (Value.int IntKind.i64 c.now), AV.v (Value.int IntKind.i64 c.heard), AV.v (Value.int IntKind.i64 c.wt), AV.v (Value.int IntKind.i64 c.en), AV.v (Value.int IntKind.i64 c.go)]), some
    (Blk.arr (10 : Nat) (List.length l) (lsF Pc.c l)), some (Blk.arr (7 : Nat) (List.length o) (lsF Tx.c o))])) := by kernel_rfl
def outT (n : Int) (l : List Pc) (i : Nat) : List Tx := ((l.take i).filter (due n)).map (·.tx)
def aftT (n : Int) (l : List Pc) (i : Nat) : List Pc := (l.take i).map (tk n) ++ l.drop i
def OT (c : Cs) (l : List Pc) : Out := ⟨.exit 0, [.any, .hs 2 0 (outT c.now l l.length).length, .any, .any], (c.bl (l.map (tk c.now)) ++ [lsT (outT c.now l l.length)]).map some⟩
theorem aft_len {n : Int} {l : List Pc} {i : Nat} (h : i ≤ l.length) : (aftT n l i).length = l.length := by
  unfold aftT
  rw [List.length_append, List.length_map, List.length_take, List.length_drop]; omega
theorem aft_at {n : Int} {l : List Pc} {i : Nat} (h : i < l.length) : (aftT n l i).getD i default = l.getD i default := by
  unfold aftT
  have hz : ((l.take i).map (tk n)).length = i := by rw [List.length_map, List.length_take]; omega
  rw [getD_app' (by omega), hz, Nat.sub_self, List.getD_eq_getElem?_getD, List.getElem?_drop, Nat.add_zero, List.getD_eq_getElem?_getD]
theorem aft_next {n : Int} {l : List Pc} {i : Nat} (h : i < l.length) : aftT n l (i + 1) = (aftT n l i).set i (tk n (l.getD i default)) := by
  unfold aftT
  have hz : ((l.take i).map (tk n)).length = i := by rw [List.length_map, List.length_take]; omega
  rw [take_next h, List.map_append, List.set_append_right _ _ (by omega), hz, Nat.sub_self, List.drop_eq_getElem_cons h, List.set_cons_zero, List.append_assoc]
  rfl
theorem set_same {α : Type} [Inhabited α] {l : List α} {i : Nat} (h : i < l.length) : l.set i (l.getD i default) = l := by
  refine List.ext_getElem? fun j => ?_
  rw [List.getElem?_set]
  by_cases e : i = j
  · subst e
    rw [if_pos rfl, if_pos h, getD_get h, List.getElem?_eq_getElem h]
  · rw [if_neg e]
theorem out_next {n : Int} {l : List Pc} {i : Nat} (h : i < l.length) : outT n l (i + 1) = outT n l i ++ (bif due n (l.getD i default) then [(l.getD i default).tx] else []) := by
  unfold outT
  rw [take_next h, List.filter_append, List.map_append]
  congr 1
  cases hd : due n (l.getD i default) with
  | true => rw [List.filter_cons_of_pos hd]; rfl
  | false => rw [List.filter_cons_of_neg (by rw [hd]; decide)]; rfl
theorem out_le {n : Int} {l : List Pc} {i : Nat} : (outT n l i).length ≤ i := by
  unfold outT
  rw [List.length_map]
  exact Nat.le_trans (List.length_filter_le _ _) (by rw [List.length_take]; omega)
def okP (p : Pc) : Prop := 0 ≤ p.gap ∧ p.gap ≤ 16
theorem room88 {n : Nat} (h : n ≤ 10000000) : roomOk 88 n = true := by
  unfold roomOk
  exact decide_eq_true (by omega)
theorem set_twice (l : List Pc) (i : Nat) (p q : Pc) (hi : i < l.length) : OLe (some (.arr 10 l.length fun k => mixL (Nat.beq k i) (Pc.c q) (mixL (Nat.beq k i) (Pc.c p) (lsF Pc.c l k)))) (some (lsP (l.set i q))) := by
  have h1 : (fun k => mixL (Nat.beq k i) (Pc.c q) (mixL (Nat.beq k i) (Pc.c p) (lsF Pc.c l k))) = fun k => mixL (Nat.beq k i) (Pc.c q) (lsF Pc.c l k) := by
    funext k
    cases Nat.beq k i with
    | true => rw [lsF_at, Pc.cod.mixT, Pc.cod.mixT, Pc.cod.mixT]
    | false => rw [lsF_at, Pc.cod.mixF, Pc.cod.mixF]
  rw [h1]
  exact Pc.cod.set l q hi rfl
theorem loopT {c : Cs} {l : List Pc} (hl : l.length ≤ 100000) (hn : 0 ≤ c.now) (hn2 : c.now ≤ 1000000) (hp : ∀ i, okP (l.getD i default)) : ∀ i : Nat, i ≤ l.length → LoopOK Tryd.prog Γm 2 77 lpT (LSpec.at lvT nlT (ST c (aftT c.now l i) i (outT c.now l i)) (OT c l)) := by
  refine loop_at (S := fun i => ST c (aftT c.now l i) i (outT c.now l i)) (pre := fun i => i ≤ l.length) (O := fun _ => OT c l) (k := 0) (fun i => l.length - i) fun i hi => .of (noLoops (by kernel_rfl)) (rT c (aftT c.now l i) i (outT c.now l i)) ?_
  have hz := aft_len (n := c.now) hi
  simp only [Nat.zero_add, hz]
  rcases Nat.lt_or_ge i l.length with h | h
  · have e1 : IntKind.i64.wrap ((i : Int) + 1) = ((i + 1 : Nat) : Int) := wrapUpN (by omega)
    have hg := aft_at (n := c.now) h
    have hgp : (aftT c.now l i).getD i default = l.getD i default := hg
    have hz1 := aft_len (n := c.now) (l := l) (i := i + 1) h
    have hn1 := aft_next (n := c.now) h
    have ho1 := out_next (n := c.now) h
    have hpi := hp i
    have hb : Nat.beq i i = true := Nat.beq_refl i
    simp only [hg, e1, hb, cond_true]
    generalize l.getD i default = p at *
    cases hd : due c.now p with
    | true =>
      rw [hd, cond_true] at ho1
      have hd2 : p.st = 0 ∧ p.due ≤ c.now := by unfold due at hd; simpa using hd
      have ht : tk c.now p = ⟨p.tx, p.st, c.now + p.gap, if 16 < 2 * p.gap then 16 else 2 * p.gap⟩ := by unfold tk; rw [hd]; rfl
      obtain ⟨g1, g2⟩ := hpi
      have w1 : IntKind.i64.wrap (c.now + p.gap) = c.now + p.gap := wrap64 (by omega) (by omega)
      have w2 : IntKind.i64.wrap (2 * p.gap) = 2 * p.gap := wrap64 (by omega) (by omega)
      have hO := Tx.cod.app0 (outT c.now l i) p.tx default rfl (N := (outT c.now l i).length + 1) rfl
      have hS := set_twice (aftT c.now l i) i ⟨p.tx, p.st, c.now + p.gap, p.gap⟩ (tk c.now p) (by omega)
      rw [← hn1, ht, hz] at hS
      rw [← ho1] at hO
      have hz2 : (outT c.now l (i + 1)).length = (outT c.now l i).length + 1 := by rw [ho1, List.length_append]; rfl
      have hr := room88 (n := (outT c.now l i).length + 1) (by have := out_le (n := c.now) (l := l) (i := i); omega)
      simp only [w1, w2]
      repeat' (first | refine wC (by first | omega | (simp only [W1, cond_true, cond_false]; first | done | omega)) ?_ | refine wT (by first | omega | (simp only [W1, cond_true, cond_false]; first | done | omega)) ?_ | refine wF (by intro _h; first | omega | (simp only [W1, cond_true, cond_false] at _h; first | done | omega)) ?_ | (refine wS ?_ ?_ <;> intro _h <;> simp only [W1, cond_true, cond_false] at _h))
      all_goals simp only [W1, W2, owesN, owesX, owesR, cond_true, cond_false]
      repeat' (first | apply And.intro | intro _hc)
      all_goals first | exact hr | ((refine ⟨i + 1, ⟨.refl _, ?_, ?_, .refl _, trivial⟩, ⟨?_, ?_, ?_, trivial⟩, h, Nat.sub_lt_sub_left h (Nat.lt_succ_self i)⟩; rw [hz2]; exact .refl _; rw [hz1]; exact .refl _; unfold Cs.row; rw [hz1]; exact .refl _; exact hS; exact hO)) | exact AV.le_refl _ | exact AV.le_any _ | exact OLe.refl _ | exact OLe.none _ | exact LeH.refl _ | exact LeL.refl _ | exact AV.le.bs _ | exact AV.le.sb _ | omega | contradiction
    | false =>
      rw [hd, cond_false, List.append_nil] at ho1
      have hd2 : ¬ (p.st = 0 ∧ p.due ≤ c.now) := by unfold due at hd; simpa using hd
      have ht : tk c.now p = p := by unfold tk; rw [hd]; rfl
      have hn2 : aftT c.now l (i + 1) = aftT c.now l i := by
        rw [hn1, ht, ← hgp]
        exact set_same (by omega)
      repeat' (first | refine wC (by first | omega | (simp only [W1, cond_true, cond_false]; first | done | omega)) ?_ | refine wT (by first | omega | (simp only [W1, cond_true, cond_false]; first | done | omega)) ?_ | refine wF (by intro _h; first | omega | (simp only [W1, cond_true, cond_false] at _h; first | done | omega)) ?_ | (refine wS ?_ ?_ <;> intro _h <;> simp only [W1, cond_true, cond_false] at _h))
      all_goals simp only [W1, W2, owesN, owesX, owesR, cond_true, cond_false]
      repeat' (first | apply And.intro | intro _hc)
      all_goals first | ((refine ⟨i + 1, ⟨.refl _, ?_, ?_, .refl _, trivial⟩, ⟨?_, ?_, ?_, trivial⟩, h, Nat.sub_lt_sub_left h (Nat.lt_succ_self i)⟩; rw [ho1]; exact .refl _; rw [hz1]; exact .refl _; unfold Cs.row; rw [hz1]; exact .refl _; rw [hn2]; show OLe _ (some (.arr 10 (aftT c.now l i).length _)); rw [hz]; exact .refl _; rw [ho1]; exact .refl _)) | exact AV.le_refl _ | exact AV.le_any _ | exact OLe.refl _ | exact OLe.none _ | exact LeH.refl _ | exact LeL.refl _ | exact AV.le.bs _ | exact AV.le.sb _ | omega | contradiction
  · obtain rfl : i = l.length := by omega
    have h1 : aftT c.now l l.length = l.map (tk c.now) := by unfold aftT; rw [List.take_of_length_le (Nat.le_refl _), List.drop_length, List.append_nil]
    rw [h1] at hz ⊢
    repeat' (first | refine wC (by first | omega | (simp only [W1, cond_true, cond_false]; first | done | omega)) ?_ | refine wT (by first | omega | (simp only [W1, cond_true, cond_false]; first | done | omega)) ?_ | refine wF (by intro _h; first | omega | (simp only [W1, cond_true, cond_false] at _h; first | done | omega)) ?_ | (refine wS ?_ ?_ <;> intro _h <;> simp only [W1, cond_true, cond_false] at _h))
    all_goals simp only [W1, W2, owesN, owesX, owesR, cond_true, cond_false]
    repeat' (first | apply And.intro | intro _hc)
    all_goals first | exact rfl | exact ⟨.any _, .refl _, .any _, .any _, trivial⟩ | ((unfold Cs.row; rw [hz]; exact .refl _)) | ((rw [← hz]; exact .refl _)) | exact AV.le_refl _ | exact AV.le_any _ | exact OLe.refl _ | exact OLe.none _ | exact LeH.refl _ | exact LeL.refl _ | exact AV.le.bs _ | exact AV.le.sb _ | omega | contradiction
end Go.Eng.TA.C

namespace Go.Eng.TA.C
open Go Go.Eng Go.Eng.M Go.Lib Go.Proofs
theorem runO (c : Cs) (l : List Pc) : bodyE (P := Tryd.prog) (Γ := Γm) [] (fun _ => LSpec.at lvO nlO (SO c l 0 []) (OO c l)) false 24 [.tmp 2] (bodyOf Tryd.f65) [.ptr 0 0] (c.bl l) =
  Tree.chk (cl (LeL [AV.hs (1 : Nat) (0 : Nat) (List.length l), AV.hs (2 : Nat) (0 : Nat) (0 : Nat), AV.v (Value.int IntKind.i64 (↑(List.length l) : Int)), AV.v (Value.int IntKind.i64 (0 :
    Int))] [AV.hs (1 : Nat) (0 : Nat) (List.length l), AV.hs (2 : Nat) (0 : Nat) (0 : Nat), AV.v (Value.int IntKind.i64 (↑(List.length l) : Int)), AV.v (Value.int IntKind.i64 (↑(0 : Nat) :
    Int))] ∧ LeH [some (Blk.row [AV.v (Value.string c.who), AV.v (Value.int IntKind.i64 c.most), AV.hs (1 : Nat) (0 : Nat) (List.length l), AV.v (Value.int IntKind.i64 c.now), AV.v
    (Value.int IntKind.i64 c.heard), AV.v (Value.int IntKind.i64 c.wt), AV.v (Value.int IntKind.i64 c.en), AV.v (Value.int IntKind.i64 c.go)]), some (Blk.arr (10 : Nat) (List.length l) (lsF
    Pc.c l)), some (Blk.arr (8 : Nat) (0 : Nat) fun x => [AV.v (Value.int IntKind.i64 (0 : Int)), AV.v (Value.string (ByteArray.mk #[])), AV.v (Value.string (ByteArray.mk #[])), AV.v
    (Value.string (ByteArray.mk #[])), AV.v (Value.string (ByteArray.mk #[])), AV.v (Value.int IntKind.i64 (0 : Int)), AV.v (Value.int IntKind.i64 (0 : Int)), AV.v (Value.int IntKind.i64 (0
    : Int))])] [some (Blk.row [AV.v (Value.string c.who), AV.v (Value.int IntKind.i64 c.most), AV.hs (1 : Nat) (0 : Nat) (List.length l), AV.v (Value.int IntKind.i64 c.now), AV.v (Value.int
    IntKind.i64 c.heard), AV.v (Value.int IntKind.i64 c.wt), AV.v (Value.int IntKind.i64 c.en), AV.v (Value.int IntKind.i64 c.go)]), some (Blk.arr (10 : Nat) (List.length l) (lsF Pc.c l)),
    some (Blk.arr (8 : Nat) (0 : Nat) (lsF Od.c []))])) (Tree.leaf (Ans.mk (AV.hs (2 : Nat) (0 : Nat) (List.length (List.map od l))) [some (Blk.row [AV.v (Value.string c.who), AV.v
    (Value.int IntKind.i64 c.most), AV.hs (1 : Nat) (0 : Nat) (List.length l), AV.v (Value.int IntKind.i64 c.now), AV.v (Value.int IntKind.i64 c.heard), AV.v (Value.int IntKind.i64 c.wt),
    AV.v (Value.int IntKind.i64 c.en), AV.v (Value.int IntKind.i64 c.go)]), some (Blk.arr (10 : Nat) (List.length l) (lsF Pc.c l)), some (Blk.arr (8 : Nat) (List.length (List.map od l)) (lsF
    Od.c (List.map od l)))])) := by kernel_rfl
theorem hOd : OLe (some (.arr 8 0 fun _ => [AV.v (Value.int IntKind.i64 0), AV.v (Value.string ⟨#[]⟩), AV.v (Value.string ⟨#[]⟩), AV.v (Value.string ⟨#[]⟩), AV.v (Value.string ⟨#[]⟩), AV.v (Value.int IntKind.i64 0), AV.v (Value.int IntKind.i64 0), AV.v (Value.int IntKind.i64 0)])) (some (lsO [])) := OLe.arr rfl (fun e he => absurd he (Nat.not_lt_zero e)) (fun _ => rfl)
theorem hTx0 : OLe (some (.arr 7 0 fun _ => [AV.v (Value.int IntKind.i64 0), AV.v (Value.string ⟨#[]⟩), AV.v (Value.string ⟨#[]⟩), AV.v (Value.string ⟨#[]⟩), AV.v (Value.string ⟨#[]⟩), AV.v (Value.int IntKind.i64 0), AV.v (Value.int IntKind.i64 0)])) (some (lsT [])) := OLe.arr rfl (fun e he => absurd he (Nat.not_lt_zero e)) (fun _ => rfl)
theorem ansO {c : Cs} {l : List Pc} (hl : l.length ≤ 100000) : Answers Tryd.prog Γm 65 [.ptr 0 0] (c.bl l) (.hs 2 0 (l.map od).length) ((c.bl l).map some) [lsO (l.map od)] := by
  refine answers (fn := Tryd.f65) (c := bodyOf Tryd.f65) (ntmps := 24) (results := [.tmp 2]) [] (fun _ => LSpec.at lvO nlO (SO c l 0 []) (OO c l)) false Tryd.func65 (by kernel_rfl) (by kernel_rfl) (by kernel_rfl) (by kernel_rfl) (by simp) rfl (oneLoop (b := lpO) (by kernel_rfl) (loopO hl 0 (Nat.zero_le _))) <| Meets.of (runO c l) <| ?_
  repeat' (first | refine wC (by first | omega | (simp only [W1, cond_true, cond_false]; first | done | omega)) ?_ | refine wT (by first | omega | (simp only [W1, cond_true, cond_false]; first | done | omega)) ?_ | refine wF (by intro _h; first | omega | (simp only [W1, cond_true, cond_false] at _h; first | done | omega)) ?_ | (refine wS ?_ ?_ <;> intro _h <;> simp only [W1, cond_true, cond_false] at _h))
  all_goals simp only [W1, W2, owesN, owesX, owesR, cond_true, cond_false]
  repeat' (first | apply And.intro | intro _hc)
  all_goals first | exact hOd | exact AV.le_refl _ | exact AV.le_any _ | exact OLe.refl _ | exact OLe.none _ | exact LeH.refl _ | exact LeL.refl _ | exact AV.le.bs _ | exact AV.le.sb _ | omega | contradiction
theorem runT (c : Cs) (n : Int) (l : List Pc) : bodyE (P := Tryd.prog) (Γ := Γm) [] (fun _ => LSpec.at lvT nlT (ST { c with now := n } l 0 []) (OT { c with now := n } l)) false 77 [.tmp 2] (bodyOf Tryd.f63) [.ptr 0 0] (c.bl l) =
  Tree.chk (cl (LeL [AV.ptr (0 : Nat) (0 : Nat), AV.hs (2 : Nat) (0 : Nat) (0 : Nat), AV.v (Value.int IntKind.i64 (↑(List.length l) : Int)), AV.v (Value.int IntKind.i64 (0 : Int))] [AV.ptr (0
    : Nat) (0 : Nat), AV.hs (2 : Nat) (0 : Nat) (0 : Nat), AV.v (Value.int IntKind.i64 (↑(List.length l) : Int)), AV.v (Value.int IntKind.i64 (↑(0 : Nat) : Int))] ∧ LeH [some (Blk.row [AV.v
    (Value.string c.who), AV.v (Value.int IntKind.i64 c.most), AV.hs (1 : Nat) (0 : Nat) (List.length l), AV.v (Value.int IntKind.i64 (IntKind.wrap IntKind.i64 (c.now + (1 : Int)))), AV.v
    (Value.int IntKind.i64 c.heard), AV.v (Value.int IntKind.i64 c.wt), AV.v (Value.int IntKind.i64 c.en), AV.v (Value.int IntKind.i64 c.go)]), some (Blk.arr (10 : Nat) (List.length l) (lsF
    Pc.c l)), some (Blk.arr (7 : Nat) (0 : Nat) fun x => [AV.v (Value.int IntKind.i64 (0 : Int)), AV.v (Value.string (ByteArray.mk #[])), AV.v (Value.string (ByteArray.mk #[])), AV.v
    (Value.string (ByteArray.mk #[])), AV.v (Value.string (ByteArray.mk #[])), AV.v (Value.int IntKind.i64 (0 : Int)), AV.v (Value.int IntKind.i64 (0 : Int))])] [some (Blk.row [AV.v
    (Value.string c.who), AV.v (Value.int IntKind.i64 c.most), AV.hs (1 : Nat) (0 : Nat) (List.length l), AV.v (Value.int IntKind.i64 n), AV.v (Value.int IntKind.i64 c.heard), AV.v
    (Value.int IntKind.i64 c.wt), AV.v (Value.int IntKind.i64 c.en), AV.v (Value.int IntKind.i64 c.go)]), some (Blk.arr (10 : Nat) (List.length l) (lsF Pc.c l)), some (Blk.arr (7 : Nat) (0 :
    Nat) (lsF Tx.c []))])) (Tree.leaf (Ans.mk (AV.hs (2 : Nat) (0 : Nat) (List.length (outT (Cs.mk c.who c.most n c.heard c.wt c.en c.go).now l (List.length l)))) [some (Blk.row [AV.v
    (Value.string c.who), AV.v (Value.int IntKind.i64 c.most), AV.hs (1 : Nat) (0 : Nat) (List.length (List.map (tk (Cs.mk c.who c.most n c.heard c.wt c.en c.go).now) l)), AV.v (Value.int
    IntKind.i64 n), AV.v (Value.int IntKind.i64 c.heard), AV.v (Value.int IntKind.i64 c.wt), AV.v (Value.int IntKind.i64 c.en), AV.v (Value.int IntKind.i64 c.go)]), some (Blk.arr (10 : Nat)
    (List.length (List.map (tk (Cs.mk c.who c.most n c.heard c.wt c.en c.go).now) l)) (lsF Pc.c (List.map (tk (Cs.mk c.who c.most n c.heard c.wt c.en c.go).now) l))), some (Blk.arr (7 : Nat)
    (List.length (outT (Cs.mk c.who c.most n c.heard c.wt c.en c.go).now l (List.length l))) (lsF Tx.c (outT (Cs.mk c.who c.most n c.heard c.wt c.en c.go).now l (List.length l))))])) := by kernel_rfl
theorem ansT {c : Cs} {l : List Pc} (hl : l.length ≤ 100000) (hn : 0 ≤ c.now) (hn2 : c.now < 1000000) (hp : ∀ i, okP (l.getD i default)) :
    Answers Tryd.prog Γm 63 [.ptr 0 0] (c.bl l) (.hs 2 0 (outT (c.now + 1) l l.length).length) ((Cs.bl { c with now := c.now + 1 } (l.map (tk (c.now + 1)))).map some) [lsT (outT (c.now + 1) l l.length)] := by
  have w1 : IntKind.i64.wrap (c.now + 1) = c.now + 1 := wrap64 (by omega) (by omega)
  have h0 := loopT (c := { c with now := c.now + 1 }) (l := l) hl (by show 0 ≤ c.now + 1; omega) (by show c.now + 1 ≤ 1000000; omega) hp 0 (Nat.zero_le _)
  have e0 : aftT (c.now + 1) l 0 = l := rfl
  have e1 : outT (c.now + 1) l 0 = [] := rfl
  simp only [e0, e1] at h0
  refine answers (fn := Tryd.f63) (c := bodyOf Tryd.f63) (ntmps := 77) (results := [.tmp 2]) [] (fun _ => LSpec.at lvT nlT (ST { c with now := c.now + 1 } l 0 []) (OT { c with now := c.now + 1 } l)) false Tryd.func63 (by kernel_rfl) (by kernel_rfl) (by kernel_rfl) (by kernel_rfl) (by simp) rfl (oneLoop (b := lpT) (by kernel_rfl) h0) <| Meets.of (runT c (c.now + 1) l) <| ?_
  simp only [w1]
  repeat' (first | refine wC (by first | omega | (simp only [W1, cond_true, cond_false]; first | done | omega)) ?_ | refine wT (by first | omega | (simp only [W1, cond_true, cond_false]; first | done | omega)) ?_ | refine wF (by intro _h; first | omega | (simp only [W1, cond_true, cond_false] at _h; first | done | omega)) ?_ | (refine wS ?_ ?_ <;> intro _h <;> simp only [W1, cond_true, cond_false] at _h))
  all_goals simp only [W1, W2, owesN, owesX, owesR, cond_true, cond_false]
  repeat' (first | apply And.intro | intro _hc)
  all_goals first | exact hTx0 | exact AV.le_refl _ | exact AV.le_any _ | exact OLe.refl _ | exact OLe.none _ | exact LeH.refl _ | exact LeL.refl _ | exact AV.le.bs _ | exact AV.le.sb _ | omega | contradiction
def sameT (a b : Tx) : Bool := decide (a.k = b.k) && (decide (a.fr = b.fr) && (decide (a.to = b.to) && (decide (a.ky = b.ky) && (decide (a.vl = b.vl) && (decide (a.am = b.am) && decide (a.nn = b.nn))))))
theorem sameT_iff {a b : Tx} : sameT a b = true ↔ a = b := by
  obtain ⟨k, f, t, y, v, m, n⟩ := a
  obtain ⟨k', f', t', y', v', m', n'⟩ := b
  unfold sameT
  simp only [Bool.and_eq_true, decide_eq_true_eq, Tx.mk.injEq]
def kO (t : Tx) : Nat := (t.nn - 1).toNat
def noE (c : Cs) (l : List Pc) (t : Tx) : Prop := ¬ t.fr = c.who ∨ t.nn < 1 ∨ (l.length : Int) < t.nn ∨ ¬ (l.getD (kO t) default).st = 0
def w64 (n : Int) : Int := IntKind.i64.wrap n
theorem runE (c : Cs) (l : List Pc) (t : Tx) : bodyE (P := Tryd.prog) (Γ := Γm) [] Lno false 78 [.tmp 4] (bodyOf Tryd.f106) [.ptr 0 0, txV t] (c.bl l) =
  Tree.br (bif !decide (t.fr = c.who) then true else bif decide (t.nn < (1 : Int)) then true else decide ((↑(List.length l) : Int) < t.nn)) (Tree.leaf (Ans.mk (AV.v (Value.bool false)) [some
    (Blk.row [AV.v (Value.string c.who), AV.v (Value.int IntKind.i64 c.most), AV.hs (1 : Nat) (0 : Nat) (List.length l), AV.v (Value.int IntKind.i64 c.now), AV.v (Value.int IntKind.i64
    c.heard), AV.v (Value.int IntKind.i64 c.wt), AV.v (Value.int IntKind.i64 c.en), AV.v (Value.int IntKind.i64 c.go)]), some (Blk.arr (10 : Nat) (List.length l) (lsF Pc.c l))])) (Tree.chk
    (decide ((0 : Int) ≤ IntKind.wrap IntKind.i64 (t.nn - (1 : Int))) && decide (IntKind.wrap IntKind.i64 (t.nn - (1 : Int)) < (↑(List.length l) : Int))) (Tree.br (!decide ((List.getD l ((0
    : Nat) + Int.toNat (IntKind.wrap IntKind.i64 (t.nn - (1 : Int)))) default).st = (0 : Int))) (Tree.leaf (Ans.mk (AV.v (Value.bool false)) [some (Blk.row [AV.v (Value.string c.who), AV.v
    (Value.int IntKind.i64 c.most), AV.hs (1 : Nat) (0 : Nat) (List.length l), AV.v (Value.int IntKind.i64 c.now), AV.v (Value.int IntKind.i64 c.heard), AV.v (Value.int IntKind.i64 c.wt),
    AV.v (Value.int IntKind.i64 c.en), AV.v (Value.int IntKind.i64 c.go)]), some (Blk.arr (10 : Nat) (List.length l) (lsF Pc.c l))])) (Tree.br (decide ((List.getD l ((0 : Nat) + Int.toNat
    (IntKind.wrap IntKind.i64 (t.nn - (1 : Int)))) default).tx.k = t.k) && (decide ((List.getD l ((0 : Nat) + Int.toNat (IntKind.wrap IntKind.i64 (t.nn - (1 : Int)))) default).tx.fr = t.fr)
    && (decide ((List.getD l ((0 : Nat) + Int.toNat (IntKind.wrap IntKind.i64 (t.nn - (1 : Int)))) default).tx.to = t.to) && (decide ((List.getD l ((0 : Nat) + Int.toNat (IntKind.wrap
    IntKind.i64 (t.nn - (1 : Int)))) default).tx.ky = t.ky) && (decide ((List.getD l ((0 : Nat) + Int.toNat (IntKind.wrap IntKind.i64 (t.nn - (1 : Int)))) default).tx.vl = t.vl) && (decide
    ((List.getD l ((0 : Nat) + Int.toNat (IntKind.wrap IntKind.i64 (t.nn - (1 : Int)))) default).tx.am = t.am) && decide ((List.getD l ((0 : Nat) + Int.toNat (IntKind.wrap IntKind.i64 (t.nn
    - (1 : Int)))) default).tx.nn = t.nn))))))) (Tree.leaf (Ans.mk (AV.v (Value.bool true)) [some (Blk.row [AV.v (Value.string c.who), AV.v (Value.int IntKind.i64 c.most), AV.hs (1 : Nat) (0
    : Nat) (List.length l), AV.v (Value.int IntKind.i64 c.now), AV.v (Value.int IntKind.i64 c.heard), AV.v (Value.int IntKind.i64 (IntKind.wrap IntKind.i64 (c.wt - (1 : Int)))), AV.v
    (Value.int IntKind.i64 (IntKind.wrap IntKind.i64 (c.en + (1 : Int)))), AV.v (Value.int IntKind.i64 c.go)]), some (Blk.arr (10 : Nat) (List.length l) fun k => mixL (Nat.beq k ((0 : Nat) +
    Int.toNat (IntKind.wrap IntKind.i64 (t.nn - (1 : Int))))) [AV.v (Value.int IntKind.i64 (List.getD l ((0 : Nat) + Int.toNat (IntKind.wrap IntKind.i64 (t.nn - (1 : Int)))) default).tx.k),
    AV.v (Value.string (List.getD l ((0 : Nat) + Int.toNat (IntKind.wrap IntKind.i64 (t.nn - (1 : Int)))) default).tx.fr), AV.v (Value.string (List.getD l ((0 : Nat) + Int.toNat
    (IntKind.wrap IntKind.i64 (t.nn - (1 : Int)))) default).tx.to), AV.v (Value.string (List.getD l ((0 : Nat) + Int.toNat (IntKind.wrap IntKind.i64 (t.nn - (1 : Int)))) default).tx.ky),
    AV.v (Value.string (List.getD l ((0 : Nat) + Int.toNat (IntKind.wrap IntKind.i64 (t.nn - (1 : Int)))) default).tx.vl), AV.v (Value.int IntKind.i64 (List.getD l ((0 : Nat) + Int.toNat
    (IntKind.wrap IntKind.i64 (t.nn - (1 : Int)))) default).tx.am), AV.v (Value.int IntKind.i64 (List.getD l ((0 : Nat) + Int.toNat (IntKind.wrap IntKind.i64 (t.nn - (1 : Int))))
    default).tx.nn), AV.v (Value.int IntKind.i64 (1 : Int)), AV.v (Value.int IntKind.i64 (List.getD l ((0 : Nat) + Int.toNat (IntKind.wrap IntKind.i64 (t.nn - (1 : Int)))) default).due),
    AV.v (Value.int IntKind.i64 (List.getD l ((0 : Nat) + Int.toNat (IntKind.wrap IntKind.i64 (t.nn - (1 : Int)))) default).gap)] (lsF Pc.c l k))])) (Tree.leaf (Ans.mk (AV.v (Value.bool
    true)) [some (Blk.row [AV.v (Value.string c.who), AV.v (Value.int IntKind.i64 c.most), AV.hs (1 : Nat) (0 : Nat) (List.length l), AV.v (Value.int IntKind.i64 c.now), AV.v (Value.int
    IntKind.i64 c.heard), AV.v (Value.int IntKind.i64 (IntKind.wrap IntKind.i64 (c.wt - (1 : Int)))), AV.v (Value.int IntKind.i64 c.en), AV.v (Value.int IntKind.i64 (IntKind.wrap IntKind.i64
    (c.go + (1 : Int))))]), some (Blk.arr (10 : Nat) (List.length l) fun k => mixL (Nat.beq k ((0 : Nat) + Int.toNat (IntKind.wrap IntKind.i64 (t.nn - (1 : Int))))) [AV.v (Value.int
    IntKind.i64 (List.getD l ((0 : Nat) + Int.toNat (IntKind.wrap IntKind.i64 (t.nn - (1 : Int)))) default).tx.k), AV.v (Value.string (List.getD l ((0 : Nat) + Int.toNat (IntKind.wrap
    IntKind.i64 (t.nn - (1 : Int)))) default).tx.fr), AV.v (Value.string (List.getD l ((0 : Nat) + Int.toNat (IntKind.wrap IntKind.i64 (t.nn - (1 : Int)))) default).tx.to), AV.v
    (Value.string (List.getD l ((0 : Nat) + Int.toNat (IntKind.wrap IntKind.i64 (t.nn - (1 : Int)))) default).tx.ky), AV.v (Value.string (List.getD l ((0 : Nat) + Int.toNat (IntKind.wrap
    IntKind.i64 (t.nn - (1 : Int)))) default).tx.vl), AV.v (Value.int IntKind.i64 (List.getD l ((0 : Nat) + Int.toNat (IntKind.wrap IntKind.i64 (t.nn - (1 : Int)))) default).tx.am), AV.v
    (Value.int IntKind.i64 (List.getD l ((0 : Nat) + Int.toNat (IntKind.wrap IntKind.i64 (t.nn - (1 : Int)))) default).tx.nn), AV.v (Value.int IntKind.i64 (2 : Int)), AV.v (Value.int
    IntKind.i64 (List.getD l ((0 : Nat) + Int.toNat (IntKind.wrap IntKind.i64 (t.nn - (1 : Int)))) default).due), AV.v (Value.int IntKind.i64 (List.getD l ((0 : Nat) + Int.toNat
    (IntKind.wrap IntKind.i64 (t.nn - (1 : Int)))) default).gap)] (lsF Pc.c l k))]))))) := by kernel_rfl
structure RE where
  b : Bool
  c : Cs
  l : List Pc
def setS (p : Pc) (s : Int) : Pc := ⟨p.tx, s, p.due, p.gap⟩
open Classical in
noncomputable def endF (c : Cs) (l : List Pc) (t : Tx) : RE := if noE c l t then ⟨false, c, l⟩ else if sameT (l.getD (kO t) default).tx t = true then ⟨true, { c with wt := w64 (c.wt - 1), en := w64 (c.en + 1) }, l.set (kO t) (setS (l.getD (kO t) default) 1)⟩
  else ⟨true, { c with wt := w64 (c.wt - 1), go := w64 (c.go + 1) }, l.set (kO t) (setS (l.getD (kO t) default) 2)⟩
theorem endF_no {c : Cs} {l : List Pc} {t : Tx} (h : noE c l t) : endF c l t = ⟨false, c, l⟩ := if_pos h
theorem endF_one {c : Cs} {l : List Pc} {t : Tx} (h : ¬ noE c l t) (hs : sameT (l.getD (kO t) default).tx t = true) : endF c l t = ⟨true, { c with wt := w64 (c.wt - 1), en := w64 (c.en + 1) }, l.set (kO t) (setS (l.getD (kO t) default) 1)⟩ := by
  unfold endF; rw [if_neg h, if_pos hs]
theorem endF_two {c : Cs} {l : List Pc} {t : Tx} (h : ¬ noE c l t) (hs : sameT (l.getD (kO t) default).tx t = false) : endF c l t = ⟨true, { c with wt := w64 (c.wt - 1), go := w64 (c.go + 1) }, l.set (kO t) (setS (l.getD (kO t) default) 2)⟩ := by
  unfold endF; rw [if_neg h, if_neg (by rw [hs]; decide)]
theorem ansE {c : Cs} {l : List Pc} {t : Tx} (hl : l.length ≤ 100000) (ht : -9223372036854775808 ≤ t.nn ∧ t.nn ≤ 9223372036854775807) : Answers Tryd.prog Γm 106 [.ptr 0 0, txV t] (c.bl l) (.sb (endF c l t).b) ((Cs.bl (endF c l t).c (endF c l t).l).map some) [] := by
  refine answers (fn := Tryd.f106) (c := bodyOf Tryd.f106) (ntmps := 78) (results := [.tmp 4]) [] (Lno) false Tryd.func106 (by kernel_rfl) (by kernel_rfl) (by kernel_rfl) (by kernel_rfl) (by simp) rfl (failOK fun _ _ _ => rfl) <| Meets.of (runE c l t) <| ?_
  by_cases h1 : ¬ t.fr = c.who ∨ t.nn < 1 ∨ (l.length : Int) < t.nn
  · have hn : noE c l t := by unfold noE; rcases h1 with h | h | h; exact .inl h; exact .inr (.inl h); exact .inr (.inr (.inl h))
    rw [endF_no hn]
    have hc : (bif !decide (t.fr = c.who) then true else bif decide (t.nn < (1 : Int)) then true else decide ((l.length : Int) < t.nn)) = true := by
      simp only [Bool.cond_true_left, Bool.or_eq_true, Bool.not_eq_true', decide_eq_false_iff_not, decide_eq_true_eq]; exact h1
    simp only [hc]
    repeat' (first | refine wC (by first | omega | (simp only [W1, cond_true, cond_false]; first | done | omega)) ?_ | refine wT (by first | omega | (simp only [W1, cond_true, cond_false]; first | done | omega)) ?_ | refine wF (by intro _h; first | omega | (simp only [W1, cond_true, cond_false] at _h; first | done | omega)) ?_ | (refine wS ?_ ?_ <;> intro _h <;> simp only [W1, cond_true, cond_false] at _h))
    all_goals simp only [W1, W2, owesN, owesX, owesR, cond_true, cond_false]
    repeat' (first | apply And.intro | intro _hc)
    all_goals first | exact AV.le.bs _ | exact leB rfl | exact AV.le_refl _ | exact AV.le_any _ | exact OLe.refl _ | exact OLe.none _ | exact LeH.refl _ | exact LeL.refl _ | exact AV.le.bs _ | exact AV.le.sb _ | omega | contradiction
  · have hc : (bif !decide (t.fr = c.who) then true else bif decide (t.nn < (1 : Int)) then true else decide ((l.length : Int) < t.nn)) = false := by
      rw [Bool.eq_false_iff]
      simp only [ne_eq, Bool.cond_true_left, Bool.or_eq_true, Bool.not_eq_true', decide_eq_false_iff_not, decide_eq_true_eq]; exact h1
    have hb : 1 ≤ t.nn ∧ t.nn ≤ (l.length : Int) := by omega
    have hw : IntKind.i64.wrap (t.nn - 1) = t.nn - 1 := wrap64 (by omega) (by omega)
    have hk : (t.nn - 1).toNat = kO t := rfl
    have hkl : kO t < l.length := by unfold kO; omega
    simp only [hc, hw, hk, Nat.zero_add]
    by_cases hs : (l.getD (kO t) default).st = 0
    · have hn : ¬ noE c l t := by unfold noE; rintro (h | h | h | h); exact h1 (.inl h); exact h1 (.inr (.inl h)); exact h1 (.inr (.inr h)); exact h hs
      have hq : ∀ p : Pc, (decide (p.tx.k = t.k) && (decide (p.tx.fr = t.fr) && (decide (p.tx.to = t.to) && (decide (p.tx.ky = t.ky) && (decide (p.tx.vl = t.vl) && (decide (p.tx.am = t.am) && decide (p.tx.nn = t.nn))))))) = sameT p.tx t := fun p => rfl
      simp only [hq]
      have hW : ∀ n, IntKind.i64.wrap n = w64 n := fun _ => rfl
      simp only [hW]
      cases he : sameT (l.getD (kO t) default).tx t with
      | true =>
        rw [endF_one hn he]
        have hO := Pc.cod.set l (setS (l.getD (kO t) default) 1) hkl rfl
        have hz : (l.set (kO t) (setS (l.getD (kO t) default) 1)).length = l.length := List.length_set ..
        repeat' (first | refine wC (by first | omega | (simp only [W1, cond_true, cond_false, hs, he]; first | done | omega)) ?_ | refine wT (by first | omega | (simp only [W1, cond_true, cond_false, hs, he]; first | done | omega)) ?_ | refine wF (by intro _h; first | omega | (simp only [W1, cond_true, cond_false, hs, he] at _h; first | done | omega)) ?_ | (refine wS ?_ ?_ <;> intro _h <;> simp only [W1, cond_true, cond_false, hs, he] at _h))
        all_goals simp only [W1, W2, owesN, owesX, owesR, cond_true, cond_false, hs, he]
        repeat' (first | apply And.intro | intro _hc)
        all_goals first | exact leB rfl | exact hO | ((unfold Cs.row; rw [hz]; exact .refl _)) | exact AV.le_refl _ | exact AV.le_any _ | exact OLe.refl _ | exact OLe.none _ | exact LeH.refl _ | exact LeL.refl _ | exact AV.le.bs _ | exact AV.le.sb _ | omega | contradiction
      | false =>
        rw [endF_two hn he]
        have hO := Pc.cod.set l (setS (l.getD (kO t) default) 2) hkl rfl
        have hz : (l.set (kO t) (setS (l.getD (kO t) default) 2)).length = l.length := List.length_set ..
        repeat' (first | refine wC (by first | omega | (simp only [W1, cond_true, cond_false, hs, he]; first | done | omega)) ?_ | refine wT (by first | omega | (simp only [W1, cond_true, cond_false, hs, he]; first | done | omega)) ?_ | refine wF (by intro _h; first | omega | (simp only [W1, cond_true, cond_false, hs, he] at _h; first | done | omega)) ?_ | (refine wS ?_ ?_ <;> intro _h <;> simp only [W1, cond_true, cond_false, hs, he] at _h))
        all_goals simp only [W1, W2, owesN, owesX, owesR, cond_true, cond_false, hs, he]
        repeat' (first | apply And.intro | intro _hc)
        all_goals first | exact leB rfl | exact hO | ((unfold Cs.row; rw [hz]; exact .refl _)) | exact AV.le_refl _ | exact AV.le_any _ | exact OLe.refl _ | exact OLe.none _ | exact LeH.refl _ | exact LeL.refl _ | exact AV.le.bs _ | exact AV.le.sb _ | omega | contradiction
    · have hn : noE c l t := .inr (.inr (.inr hs))
      rw [endF_no hn]
      repeat' (first | refine wC (by first | omega | (simp only [W1, cond_true, cond_false, hs]; first | done | omega)) ?_ | refine wT (by first | omega | (simp only [W1, cond_true, cond_false, hs]; first | done | omega)) ?_ | refine wF (by intro _h; first | omega | (simp only [W1, cond_true, cond_false, hs] at _h; first | done | omega)) ?_ | (refine wS ?_ ?_ <;> intro _h <;> simp only [W1, cond_true, cond_false, hs] at _h))
      all_goals simp only [W1, W2, owesN, owesX, owesR, cond_true, cond_false, hs]
      repeat' (first | apply And.intro | intro _hc)
      all_goals first | exact leB rfl | exact AV.le_refl _ | exact AV.le_any _ | exact OLe.refl _ | exact OLe.none _ | exact LeH.refl _ | exact LeL.refl _ | exact AV.le.bs _ | exact AV.le.sb _ | omega | contradiction
theorem endF_len {c : Cs} {l : List Pc} {t : Tx} : (endF c l t).l.length = l.length := by
  unfold endF
  split
  · rfl
  · split <;> exact List.length_set ..
end Go.Eng.TA.C

namespace Go.Eng.TA.C
open Go Go.Eng Go.Eng.M Go.Lib Go.Proofs
structure RH where
  c : Cs
  l : List Pc
  n : Int
noncomputable def stepH (x : RH) (o : Oc) : RH := if o.err = 0 then ⟨(endF x.c x.l o.tx).c, (endF x.c x.l o.tx).l, bif (endF x.c x.l o.tx).b then w64 (x.n + 1) else x.n⟩ else x
abbrev lsOc (l : List Oc) : Blk := .arr 10 l.length (lsF Oc.c l)
noncomputable abbrev lpH : Code := loopOf (bodyOf Tryd.f64) 0
abbrev lvH : List Nat := [0, 24, 5, 25, 26, 1]
def SH (os : List Oc) (h : Nat) (x : RH) (i : Nat) : List AV × Heap := ([.ptr 0 0, .hs 2 h (os.length - h), .v (.int .i64 x.n), .v (.int .i64 ((os.length - h : Nat) : Int)), .v (.int .i64 (i : Int)), .hs 2 0 os.length], (x.c.bl x.l ++ [lsOc os]).map some)
def OH (os : List Oc) (r : RH) : Out := ⟨.exit 0, [.ptr 0 0, .any, .v (.int .i64 r.n), .any, .any, .hs 2 0 os.length], (r.c.bl r.l ++ [lsOc os]).map some⟩
theorem rH (os : List Oc) (h : Nat) (x : RH) (i : Nat) (b : Bool) (c' : Cs) (l' : List Pc) (hE : Answers Tryd.prog Γm 106 [.ptr 0 0, txV (os.getD (h + i) default).tx] (x.c.bl x.l) (.sb b) ((c'.bl l').map some) []) : roundE (P := Tryd.prog) (Γ := Γm) [CT.at 106 hE] Lno false 3 0 lpH lvH [] 48 (SH os h x i).1 (SH os h x i).2 =
  Tree.br (decide ((↑i : Int) < (↑(List.length os - h) : Int))) (Tree.chk (decide ((0 : Int) ≤ (↑i : Int)) && decide ((↑i : Int) < (↑(List.length os - h) : Int))) (Tree.br (decide ((List.getD
    os (h + i) default).err = (0 : Int))) (Tree.chk (cl (LeL [AV.ptr (0 : Nat) (0 : Nat), AV.agg [AV.v (Value.int IntKind.i64 (List.getD os (h + i) default).tx.k), AV.v (Value.string
    (List.getD os (h + i) default).tx.fr), AV.v (Value.string (List.getD os (h + i) default).tx.to), AV.v (Value.string (List.getD os (h + i) default).tx.ky), AV.v (Value.string (List.getD
    os (h + i) default).tx.vl), AV.v (Value.int IntKind.i64 (List.getD os (h + i) default).tx.am), AV.v (Value.int IntKind.i64 (List.getD os (h + i) default).tx.nn)]] [AV.ptr (0 : Nat) (0 :
    Nat), AV.agg [AV.v (Value.int IntKind.i64 (List.getD os (h + i) default).tx.k), AV.v (Value.string (List.getD os (h + i) default).tx.fr), AV.v (Value.string (List.getD os (h + i)
    default).tx.to), AV.v (Value.string (List.getD os (h + i) default).tx.ky), AV.v (Value.string (List.getD os (h + i) default).tx.vl), AV.v (Value.int IntKind.i64 (List.getD os (h + i)
    default).tx.am), AV.v (Value.int IntKind.i64 (List.getD os (h + i) default).tx.nn)]] ∧ LeH [some (Blk.row [AV.v (Value.string x.c.who), AV.v (Value.int IntKind.i64 x.c.most), AV.hs (1 :
    Nat) (0 : Nat) (List.length x.l), AV.v (Value.int IntKind.i64 x.c.now), AV.v (Value.int IntKind.i64 x.c.heard), AV.v (Value.int IntKind.i64 x.c.wt), AV.v (Value.int IntKind.i64 x.c.en),
    AV.v (Value.int IntKind.i64 x.c.go)]), some (Blk.arr (10 : Nat) (List.length x.l) (lsF Pc.c x.l))] [some (Blk.row [AV.v (Value.string x.c.who), AV.v (Value.int IntKind.i64 x.c.most),
    AV.hs (1 : Nat) (0 : Nat) (List.length x.l), AV.v (Value.int IntKind.i64 x.c.now), AV.v (Value.int IntKind.i64 x.c.heard), AV.v (Value.int IntKind.i64 x.c.wt), AV.v (Value.int
    IntKind.i64 x.c.en), AV.v (Value.int IntKind.i64 x.c.go)]), some (Blk.arr (10 : Nat) (List.length x.l) (lsF Pc.c x.l))])) (Tree.br b (Tree.leaf (Out.mk AEx.normal [AV.ptr (0 : Nat) (0 :
    Nat), AV.hs (2 : Nat) h (List.length os - h), AV.v (Value.int IntKind.i64 (IntKind.wrap IntKind.i64 (x.n + (1 : Int)))), AV.v (Value.int IntKind.i64 (↑(List.length os - h) : Int)), AV.v
    (Value.int IntKind.i64 (IntKind.wrap IntKind.i64 ((↑i : Int) + (1 : Int)))), AV.hs (2 : Nat) (0 : Nat) (List.length os)] [some (Blk.row [AV.v (Value.string c'.who), AV.v (Value.int
    IntKind.i64 c'.most), AV.hs (1 : Nat) (0 : Nat) (List.length l'), AV.v (Value.int IntKind.i64 c'.now), AV.v (Value.int IntKind.i64 c'.heard), AV.v (Value.int IntKind.i64 c'.wt), AV.v
    (Value.int IntKind.i64 c'.en), AV.v (Value.int IntKind.i64 c'.go)]), some (Blk.arr (10 : Nat) (List.length l') (lsF Pc.c l')), some (Blk.arr (10 : Nat) (List.length os) (lsF Oc.c os))]))
    (Tree.leaf (Out.mk AEx.normal [AV.ptr (0 : Nat) (0 : Nat), AV.hs (2 : Nat) h (List.length os - h), AV.v (Value.int IntKind.i64 x.n), AV.v (Value.int IntKind.i64 (↑(List.length os - h) :
    Int)), AV.v (Value.int IntKind.i64 (IntKind.wrap IntKind.i64 ((↑i : Int) + (1 : Int)))), AV.hs (2 : Nat) (0 : Nat) (List.length os)] [some (Blk.row [AV.v (Value.string c'.who), AV.v
    (Value.int IntKind.i64 c'.most), AV.hs (1 : Nat) (0 : Nat) (List.length l'), AV.v (Value.int IntKind.i64 c'.now), AV.v (Value.int IntKind.i64 c'.heard), AV.v (Value.int IntKind.i64
    c'.wt), AV.v (Value.int IntKind.i64 c'.en), AV.v (Value.int IntKind.i64 c'.go)]), some (Blk.arr (10 : Nat) (List.length l') (lsF Pc.c l')), some (Blk.arr (10 : Nat) (List.length os) (lsF
    Oc.c os))])))) (Tree.leaf (Out.mk AEx.normal [AV.ptr (0 : Nat) (0 : Nat), AV.hs (2 : Nat) h (List.length os - h), AV.v (Value.int IntKind.i64 x.n), AV.v (Value.int IntKind.i64
    (↑(List.length os - h) : Int)), AV.v (Value.int IntKind.i64 (IntKind.wrap IntKind.i64 ((↑i : Int) + (1 : Int)))), AV.hs (2 : Nat) (0 : Nat) (List.length os)] [some (Blk.row [AV.v
    (Value.string x.c.who), AV.v (Value.int IntKind.i64 x.c.most), AV.hs (1 : Nat) (0 : Nat) (List.length x.l), AV.v (Value.int IntKind.i64 x.c.now), AV.v (Value.int IntKind.i64 x.c.heard),
    AV.v (Value.int IntKind.i64 x.c.wt), AV.v (Value.int IntKind.i64 x.c.en), AV.v (Value.int IntKind.i64 x.c.go)]), some (Blk.arr (10 : Nat) (List.length x.l) (lsF Pc.c x.l)), some (Blk.arr
    (10 : Nat) (List.length os) (lsF Oc.c os))])))) (Tree.leaf (Out.mk (AEx.exit (0 : Nat)) [AV.ptr (0 : Nat) (0 : Nat), AV.hs (2 : Nat) h (List.length os - h), AV.v (Value.int IntKind.i64
    x.n), AV.v (Value.int IntKind.i64 (↑(List.length os - h) : Int)), AV.v (Value.int IntKind.i64 (↑i : Int)), AV.hs (2 : Nat) (0 : Nat) (List.length os)] [some (Blk.row [AV.v (Value.string
    x.c.who), AV.v (Value.int IntKind.i64 x.c.most), AV.hs (1 : Nat) (0 : Nat) (List.length x.l), AV.v (Value.int IntKind.i64 x.c.now), AV.v (Value.int IntKind.i64 x.c.heard), AV.v
    (Value.int IntKind.i64 x.c.wt), AV.v (Value.int IntKind.i64 x.c.en), AV.v (Value.int IntKind.i64 x.c.go)]), some (Blk.arr (10 : Nat) (List.length x.l) (lsF Pc.c x.l)), some (Blk.arr (10
    : Nat) (List.length os) (lsF Oc.c os))])) := by kernel_rfl
theorem loopH {os : List Oc} {h : Nat} {R : RH} (hos : os.length ≤ 100000) (ht : ∀ i, -9223372036854775808 ≤ (os.getD i default).tx.nn ∧ (os.getD i default).tx.nn ≤ 9223372036854775807) (hh : h ≤ os.length) :
    ∀ y : RH × Nat, (h + y.2 ≤ os.length ∧ y.1.l.length ≤ 100000 ∧ (os.drop (h + y.2)).foldl stepH y.1 = R) → LoopOK Tryd.prog Γm 3 48 lpH (LSpec.at lvH [] (SH os h y.1 y.2) (OH os R)) := by
  refine loop_at (S := fun y : RH × Nat => SH os h y.1 y.2) (pre := fun y => h + y.2 ≤ os.length ∧ y.1.l.length ≤ 100000 ∧ (os.drop (h + y.2)).foldl stepH y.1 = R) (O := fun _ => OH os R) (k := 0) (fun y => os.length - h - y.2) fun y hy => ?_
  obtain ⟨x, i⟩ := y
  obtain ⟨h1, h2, h3⟩ := hy
  dsimp only at h1 h2 h3 ⊢
  have hE := ansE (c := x.c) (l := x.l) (t := (os.getD (h + i) default).tx) h2 (ht _)
  refine .of (noLoops (by kernel_rfl)) (rH os h x i _ _ _ hE) ?_
  rcases Nat.lt_or_ge (h + i) os.length with hi | hi
  · have e1 : IntKind.i64.wrap ((i : Int) + 1) = ((i + 1 : Nat) : Int) := wrapUpN (by omega)
    have hd : os.drop (h + i) = os.getD (h + i) default :: os.drop (h + (i + 1)) := by rw [List.drop_eq_getElem_cons hi, getD_get hi]; rfl
    rw [hd, List.foldl_cons] at h3
    have hlt : os.length - h - (i + 1) < os.length - h - i := by omega
    have hx : Tx.mk (os.getD (h + i) default).tx.k (os.getD (h + i) default).tx.fr (os.getD (h + i) default).tx.to (os.getD (h + i) default).tx.ky (os.getD (h + i) default).tx.vl (os.getD (h + i) default).tx.am (os.getD (h + i) default).tx.nn = (os.getD (h + i) default).tx := rfl
    simp only [e1, Nat.zero_add]
    have hW : ∀ n, IntKind.i64.wrap n = w64 n := fun _ => rfl
    simp only [hW]
    by_cases he : (os.getD (h + i) default).err = 0
    · have hs : stepH x (os.getD (h + i) default) = ⟨(endF x.c x.l (os.getD (h + i) default).tx).c, (endF x.c x.l (os.getD (h + i) default).tx).l, bif (endF x.c x.l (os.getD (h + i) default).tx).b then w64 (x.n + 1) else x.n⟩ := if_pos he
      rw [hs] at h3
      have hl : (endF x.c x.l (os.getD (h + i) default).tx).l.length ≤ 100000 := by rw [endF_len]; exact h2
      cases hb : (endF x.c x.l (os.getD (h + i) default).tx).b with
      | true =>
        rw [hb, cond_true] at h3
        repeat' (first | refine wC (by first | omega | (simp only [W1, cond_true, cond_false, he, hb]; first | done | omega)) ?_ | refine wT (by first | omega | (simp only [W1, cond_true, cond_false, he, hb]; first | done | omega)) ?_ | refine wF (by intro _h; first | omega | (simp only [W1, cond_true, cond_false, he, hb] at _h; first | done | omega)) ?_ | (refine wS ?_ ?_ <;> intro _h <;> simp only [W1, cond_true, cond_false, he, hb] at _h))
        all_goals simp only [W1, W2, owesN, owesX, owesR, cond_true, cond_false, he, hb]
        repeat' (first | apply And.intro | intro _hc)
        all_goals first | exact ⟨(_, i + 1), LeL.refl _, LeH.refl _, ⟨by show h + (i + 1) ≤ _; omega, hl, h3⟩, hlt⟩ | exact AV.le_refl _ | exact AV.le_any _ | exact OLe.refl _ | exact OLe.none _ | exact LeH.refl _ | exact LeL.refl _ | exact AV.le.bs _ | exact AV.le.sb _ | omega | contradiction
      | false =>
        rw [hb, cond_false] at h3
        repeat' (first | refine wC (by first | omega | (simp only [W1, cond_true, cond_false, he, hb]; first | done | omega)) ?_ | refine wT (by first | omega | (simp only [W1, cond_true, cond_false, he, hb]; first | done | omega)) ?_ | refine wF (by intro _h; first | omega | (simp only [W1, cond_true, cond_false, he, hb] at _h; first | done | omega)) ?_ | (refine wS ?_ ?_ <;> intro _h <;> simp only [W1, cond_true, cond_false, he, hb] at _h))
        all_goals simp only [W1, W2, owesN, owesX, owesR, cond_true, cond_false, he, hb]
        repeat' (first | apply And.intro | intro _hc)
        all_goals first | exact ⟨((⟨(endF x.c x.l (os.getD (h + i) default).tx).c, (endF x.c x.l (os.getD (h + i) default).tx).l, x.n⟩ : RH), i + 1), LeL.refl _, LeH.refl _, ⟨by show h + (i + 1) ≤ _; omega, hl, h3⟩, hlt⟩ | exact AV.le_refl _ | exact AV.le_any _ | exact OLe.refl _ | exact OLe.none _ | exact LeH.refl _ | exact LeL.refl _ | exact AV.le.bs _ | exact AV.le.sb _ | omega | contradiction
    · have hs : stepH x (os.getD (h + i) default) = x := if_neg he
      rw [hs] at h3
      repeat' (first | refine wC (by first | omega | (simp only [W1, cond_true, cond_false, he]; first | done | omega)) ?_ | refine wT (by first | omega | (simp only [W1, cond_true, cond_false, he]; first | done | omega)) ?_ | refine wF (by intro _h; first | omega | (simp only [W1, cond_true, cond_false, he] at _h; first | done | omega)) ?_ | (refine wS ?_ ?_ <;> intro _h <;> simp only [W1, cond_true, cond_false, he] at _h))
      all_goals simp only [W1, W2, owesN, owesX, owesR, cond_true, cond_false, he]
      repeat' (first | apply And.intro | intro _hc)
      all_goals first | exact ⟨(x, i + 1), LeL.refl _, LeH.refl _, ⟨by show h + (i + 1) ≤ _; omega, h2, h3⟩, hlt⟩ | exact AV.le_refl _ | exact AV.le_any _ | exact OLe.refl _ | exact OLe.none _ | exact LeH.refl _ | exact LeL.refl _ | exact AV.le.bs _ | exact AV.le.sb _ | omega | contradiction
  · have hz : h + i = os.length := by omega
    rw [hz, List.drop_length] at h3
    have h3 : x = R := h3
    subst h3
    have hi2 : i = os.length - h := by omega
    subst hi2
    repeat' (first | refine wC (by first | omega | (simp only [W1, cond_true, cond_false]; first | done | omega)) ?_ | refine wT (by first | omega | (simp only [W1, cond_true, cond_false]; first | done | omega)) ?_ | refine wF (by intro _h; first | omega | (simp only [W1, cond_true, cond_false] at _h; first | done | omega)) ?_ | (refine wS ?_ ?_ <;> intro _h <;> simp only [W1, cond_true, cond_false] at _h))
    all_goals simp only [W1, W2, owesN, owesX, owesR, cond_true, cond_false]
    repeat' (first | apply And.intro | intro _hc)
    all_goals first | exact rfl | exact ⟨.refl _, .any _, .refl _, .any _, .any _, .refl _, trivial⟩ | exact AV.le_refl _ | exact AV.le_any _ | exact OLe.refl _ | exact OLe.none _ | exact LeH.refl _ | exact LeL.refl _ | exact AV.le.bs _ | exact AV.le.sb _ | omega | contradiction
theorem runH (c : Cs) (l : List Pc) (os : List Oc) (h : Nat) (r : RH) : bodyE (P := Tryd.prog) (Γ := Γm) [] (fun _ => LSpec.at lvH [] (SH os h ⟨c, l, 0⟩ 0) (OH os r)) false 48 [.tmp 4] (bodyOf Tryd.f64) [.ptr 0 0, .hs 2 0 os.length] (c.bl l ++ [lsOc os]) =
  Tree.br (decide ((↑(List.length os) : Int) ≤ c.heard)) (Tree.leaf (Ans.mk (AV.v (Value.int IntKind.i64 (0 : Int))) [some (Blk.row [AV.v (Value.string c.who), AV.v (Value.int IntKind.i64
    c.most), AV.hs (1 : Nat) (0 : Nat) (List.length l), AV.v (Value.int IntKind.i64 c.now), AV.v (Value.int IntKind.i64 c.heard), AV.v (Value.int IntKind.i64 c.wt), AV.v (Value.int
    IntKind.i64 c.en), AV.v (Value.int IntKind.i64 c.go)]), some (Blk.arr (10 : Nat) (List.length l) (lsF Pc.c l)), some (Blk.arr (10 : Nat) (List.length os) (lsF Oc.c os))])) (Tree.chk
    (decide ((0 : Int) ≤ c.heard) && decide (c.heard ≤ (↑(List.length os) : Int)) && decide ((↑(List.length os) : Int) ≤ (↑(List.length os) : Int))) (Tree.chk (cl (LeL [AV.ptr (0 : Nat) (0 :
    Nat), AV.hs (2 : Nat) ((0 : Nat) + Int.toNat c.heard) (List.length os - Int.toNat c.heard), AV.v (Value.int IntKind.i64 (0 : Int)), AV.v (Value.int IntKind.i64 (↑(List.length os -
    Int.toNat c.heard) : Int)), AV.v (Value.int IntKind.i64 (0 : Int)), AV.hs (2 : Nat) (0 : Nat) (List.length os)] [AV.ptr (0 : Nat) (0 : Nat), AV.hs (2 : Nat) h (List.length os - h), AV.v
    (Value.int IntKind.i64 (0 : Int)), AV.v (Value.int IntKind.i64 (↑(List.length os - h) : Int)), AV.v (Value.int IntKind.i64 (↑(0 : Nat) : Int)), AV.hs (2 : Nat) (0 : Nat) (List.length
    os)] ∧ LeH [some (Blk.row [AV.v (Value.string c.who), AV.v (Value.int IntKind.i64 c.most), AV.hs (1 : Nat) (0 : Nat) (List.length l), AV.v (Value.int IntKind.i64 c.now), AV.v (Value.int
    IntKind.i64 c.heard), AV.v (Value.int IntKind.i64 c.wt), AV.v (Value.int IntKind.i64 c.en), AV.v (Value.int IntKind.i64 c.go)]), some (Blk.arr (10 : Nat) (List.length l) (lsF Pc.c l)),
    some (Blk.arr (10 : Nat) (List.length os) (lsF Oc.c os))] [some (Blk.row [AV.v (Value.string c.who), AV.v (Value.int IntKind.i64 c.most), AV.hs (1 : Nat) (0 : Nat) (List.length (RH.mk c
    l (0 : Int)).l), AV.v (Value.int IntKind.i64 c.now), AV.v (Value.int IntKind.i64 c.heard), AV.v (Value.int IntKind.i64 c.wt), AV.v (Value.int IntKind.i64 c.en), AV.v (Value.int
    IntKind.i64 c.go)]), some (Blk.arr (10 : Nat) (List.length (RH.mk c l (0 : Int)).l) (lsF Pc.c (RH.mk c l (0 : Int)).l)), some (Blk.arr (10 : Nat) (List.length os) (lsF Oc.c os))]))
    (Tree.leaf (Ans.mk (AV.v (Value.int IntKind.i64 r.n)) [some (Blk.row [AV.v (Value.string r.c.who), AV.v (Value.int IntKind.i64 r.c.most), AV.hs (1 : Nat) (0 : Nat) (List.length r.l),
    AV.v (Value.int IntKind.i64 r.c.now), AV.v (Value.int IntKind.i64 (↑(List.length os) : Int)), AV.v (Value.int IntKind.i64 r.c.wt), AV.v (Value.int IntKind.i64 r.c.en), AV.v (Value.int
    IntKind.i64 r.c.go)]), some (Blk.arr (10 : Nat) (List.length r.l) (lsF Pc.c r.l)), some (Blk.arr (10 : Nat) (List.length os) (lsF Oc.c os))])))) := by kernel_rfl
def setH' (c : Cs) (h : Int) : Cs := { c with heard := h }
noncomputable def hearF (c : Cs) (l : List Pc) (os : List Oc) : RH := if (os.length : Int) ≤ c.heard then ⟨c, l, 0⟩ else
  ⟨setH' ((os.drop c.heard.toNat).foldl stepH ⟨c, l, 0⟩).c (os.length : Int), ((os.drop c.heard.toNat).foldl stepH ⟨c, l, 0⟩).l, ((os.drop c.heard.toNat).foldl stepH ⟨c, l, 0⟩).n⟩
theorem ansH {c : Cs} {l : List Pc} {os : List Oc} (hos : os.length ≤ 100000) (ht : ∀ i, -9223372036854775808 ≤ (os.getD i default).tx.nn ∧ (os.getD i default).tx.nn ≤ 9223372036854775807) (hl : l.length ≤ 100000) (hh : 0 ≤ c.heard) :
    Answers Tryd.prog Γm 64 [.ptr 0 0, .hs 2 0 os.length] (c.bl l ++ [lsOc os]) (.v (.int .i64 (hearF c l os).n)) ((Cs.bl (hearF c l os).c (hearF c l os).l ++ [lsOc os]).map some) [] := by
  by_cases h : (os.length : Int) ≤ c.heard
  · have e : hearF c l os = ⟨c, l, 0⟩ := if_pos h
    rw [e]
    refine answers (fn := Tryd.f64) (c := bodyOf Tryd.f64) (ntmps := 48) (results := [.tmp 4]) [] (fun _ => LSpec.at lvH [] (SH os os.length ⟨c, l, 0⟩ 0) (OH os ⟨c, l, 0⟩)) false Tryd.func64 (by kernel_rfl) (by kernel_rfl) (by kernel_rfl) (by kernel_rfl) (by simp) rfl (oneLoop (b := lpH) (by kernel_rfl) (loopH hos ht (Nat.le_refl _) (⟨c, l, 0⟩, 0) ⟨by show os.length + 0 ≤ _; omega, hl, by show (os.drop (os.length + 0)).foldl stepH _ = _; rw [Nat.add_zero, List.drop_length]; rfl⟩)) <| Meets.of (runH c l os os.length ⟨c, l, 0⟩) <| ?_
    repeat' (first | refine wC (by first | omega | (simp only [W1, cond_true, cond_false]; first | done | omega)) ?_ | refine wT (by first | omega | (simp only [W1, cond_true, cond_false]; first | done | omega)) ?_ | refine wF (by intro _h; first | omega | (simp only [W1, cond_true, cond_false] at _h; first | done | omega)) ?_ | (refine wS ?_ ?_ <;> intro _h <;> simp only [W1, cond_true, cond_false] at _h))
    all_goals simp only [W1, W2, owesN, owesX, owesR, cond_true, cond_false]
    repeat' (first | apply And.intro | intro _hc)
    all_goals first | exact AV.le_refl _ | exact AV.le_any _ | exact OLe.refl _ | exact OLe.none _ | exact LeH.refl _ | exact LeL.refl _ | exact AV.le.bs _ | exact AV.le.sb _ | omega | contradiction
  · have e : hearF c l os = ⟨setH' ((os.drop c.heard.toNat).foldl stepH ⟨c, l, 0⟩).c (os.length : Int), ((os.drop c.heard.toNat).foldl stepH ⟨c, l, 0⟩).l, ((os.drop c.heard.toNat).foldl stepH ⟨c, l, 0⟩).n⟩ := if_neg h
    rw [e]
    refine answers (fn := Tryd.f64) (c := bodyOf Tryd.f64) (ntmps := 48) (results := [.tmp 4]) [] (fun _ => LSpec.at lvH [] (SH os c.heard.toNat ⟨c, l, 0⟩ 0) (OH os ((os.drop c.heard.toNat).foldl stepH ⟨c, l, 0⟩))) false Tryd.func64 (by kernel_rfl) (by kernel_rfl) (by kernel_rfl) (by kernel_rfl) (by simp) rfl (oneLoop (b := lpH) (by kernel_rfl) (loopH hos ht (by omega) (⟨c, l, 0⟩, 0) ⟨by show c.heard.toNat + 0 ≤ _; omega, hl, rfl⟩)) <| Meets.of (runH c l os c.heard.toNat ((os.drop c.heard.toNat).foldl stepH ⟨c, l, 0⟩)) <| ?_
    repeat' (first | refine wC (by first | omega | (simp only [W1, cond_true, cond_false]; first | done | omega)) ?_ | refine wT (by first | omega | (simp only [W1, cond_true, cond_false]; first | done | omega)) ?_ | refine wF (by intro _h; first | omega | (simp only [W1, cond_true, cond_false] at _h; first | done | omega)) ?_ | (refine wS ?_ ?_ <;> intro _h <;> simp only [W1, cond_true, cond_false] at _h))
    all_goals simp only [W1, W2, owesN, owesX, owesR, cond_true, cond_false]
    repeat' (first | apply And.intro | intro _hc)
    all_goals first | exact AV.le_refl _ | exact AV.le_any _ | exact OLe.refl _ | exact OLe.none _ | exact LeH.refl _ | exact LeL.refl _ | exact AV.le.bs _ | exact AV.le.sb _ | omega | contradiction
end Go.Eng.TA.C

namespace Go.Eng.TA.C
open Go Go.Eng Go.Eng.M Go.Lib Go.Proofs
def tz : Tx := ⟨0, ⟨#[]⟩, ⟨#[]⟩, ⟨#[]⟩, ⟨#[]⟩, 0, 0⟩
def ownT (c : Cs) (l : List Pc) (t : Tx) : Tx := ⟨t.k, c.who, t.to, t.ky, t.vl, t.am, (l.length : Int) + 1⟩
theorem runG (c : Cs) (l : List Pc) (t : Tx) : bodyE (P := Tryd.prog) (Γ := Γm) [kTx] Lno false 65 [.cell 4 40, .tmp 5] (bodyOf Tryd.f62) [.ptr 0 0, txV t] (c.bl l) =
  Tree.br (decide (c.most ≤ c.wt)) (Tree.leaf (Ans.mk (AV.tup [AV.agg [AV.v (Value.int IntKind.i64 (0 : Int)), AV.v (Value.string (ByteArray.mk #[])), AV.v (Value.string (ByteArray.mk #[])),
    AV.v (Value.string (ByteArray.mk #[])), AV.v (Value.string (ByteArray.mk #[])), AV.v (Value.int IntKind.i64 (0 : Int)), AV.v (Value.int IntKind.i64 (0 : Int))], AV.v (Value.int
    IntKind.i64 (101 : Int))]) [some (Blk.row [AV.v (Value.string c.who), AV.v (Value.int IntKind.i64 c.most), AV.hs (1 : Nat) (0 : Nat) (List.length l), AV.v (Value.int IntKind.i64 c.now),
    AV.v (Value.int IntKind.i64 c.heard), AV.v (Value.int IntKind.i64 c.wt), AV.v (Value.int IntKind.i64 c.en), AV.v (Value.int IntKind.i64 c.go)]), some (Blk.arr (10 : Nat) (List.length l)
    (lsF Pc.c l))])) (Tree.chk (cl (smallT (Tx.mk t.k c.who t.to t.ky t.vl t.am (IntKind.wrap IntKind.i64 ((↑(List.length l) : Int) + (1 : Int)))) ∧ LeL [AV.agg [AV.v (Value.int IntKind.i64
    t.k), AV.v (Value.string c.who), AV.v (Value.string t.to), AV.v (Value.string t.ky), AV.v (Value.string t.vl), AV.v (Value.int IntKind.i64 t.am), AV.v (Value.int IntKind.i64
    (IntKind.wrap IntKind.i64 ((↑(List.length l) : Int) + (1 : Int))))]] [AV.agg [AV.v (Value.int IntKind.i64 t.k), AV.v (Value.string c.who), AV.v (Value.string t.to), AV.v (Value.string
    t.ky), AV.v (Value.string t.vl), AV.v (Value.int IntKind.i64 t.am), AV.v (Value.int IntKind.i64 (IntKind.wrap IntKind.i64 ((↑(List.length l) : Int) + (1 : Int))))]] ∧ LeH [] []))
    (Tree.br (!decide (erT (txB (Tx.mk t.k c.who t.to t.ky t.vl t.am (IntKind.wrap IntKind.i64 ((↑(List.length l) : Int) + (1 : Int))))) = (0 : Int))) (Tree.leaf (Ans.mk (AV.tup [AV.agg
    [AV.v (Value.int IntKind.i64 (0 : Int)), AV.v (Value.string (ByteArray.mk #[])), AV.v (Value.string (ByteArray.mk #[])), AV.v (Value.string (ByteArray.mk #[])), AV.v (Value.string
    (ByteArray.mk #[])), AV.v (Value.int IntKind.i64 (0 : Int)), AV.v (Value.int IntKind.i64 (0 : Int))], AV.v (Value.int IntKind.i64 (erT (txB (Tx.mk t.k c.who t.to t.ky t.vl t.am
    (IntKind.wrap IntKind.i64 ((↑(List.length l) : Int) + (1 : Int)))))))]) [some (Blk.row [AV.v (Value.string c.who), AV.v (Value.int IntKind.i64 c.most), AV.hs (1 : Nat) (0 : Nat)
    (List.length l), AV.v (Value.int IntKind.i64 c.now), AV.v (Value.int IntKind.i64 c.heard), AV.v (Value.int IntKind.i64 c.wt), AV.v (Value.int IntKind.i64 c.en), AV.v (Value.int
    IntKind.i64 c.go)]), some (Blk.arr (10 : Nat) (List.length l) (lsF Pc.c l))])) (Tree.chk (roomOk (112 : Nat) (List.length l + (1 : Nat))) (Tree.leaf (Ans.mk (AV.tup [AV.agg [AV.v
    (Value.int IntKind.i64 t.k), AV.v (Value.string c.who), AV.v (Value.string t.to), AV.v (Value.string t.ky), AV.v (Value.string t.vl), AV.v (Value.int IntKind.i64 t.am), AV.v (Value.int
    IntKind.i64 (IntKind.wrap IntKind.i64 ((↑(List.length l) : Int) + (1 : Int))))], AV.v (Value.int IntKind.i64 (0 : Int))]) [some (Blk.row [AV.v (Value.string c.who), AV.v (Value.int
    IntKind.i64 c.most), AV.hs (2 : Nat) (0 : Nat) (List.length l + (1 : Nat)), AV.v (Value.int IntKind.i64 c.now), AV.v (Value.int IntKind.i64 c.heard), AV.v (Value.int IntKind.i64
    (IntKind.wrap IntKind.i64 (c.wt + (1 : Int)))), AV.v (Value.int IntKind.i64 c.en), AV.v (Value.int IntKind.i64 c.go)]), none, some (Blk.arr (10 : Nat) (List.length l + (1 : Nat)) fun j
    => mixL (decide (j < List.length l)) (lsF Pc.c l ((0 : Nat) + j)) (chain [AV.v (Value.int IntKind.i64 (0 : Int)), AV.v (Value.string (ByteArray.mk #[])), AV.v (Value.string (ByteArray.mk
    #[])), AV.v (Value.string (ByteArray.mk #[])), AV.v (Value.string (ByteArray.mk #[])), AV.v (Value.int IntKind.i64 (0 : Int)), AV.v (Value.int IntKind.i64 (0 : Int)), AV.v (Value.int
    IntKind.i64 (0 : Int)), AV.v (Value.int IntKind.i64 (0 : Int)), AV.v (Value.int IntKind.i64 (0 : Int))] (0 : Nat) [[AV.v (Value.int IntKind.i64 t.k), AV.v (Value.string c.who), AV.v
    (Value.string t.to), AV.v (Value.string t.ky), AV.v (Value.string t.vl), AV.v (Value.int IntKind.i64 t.am), AV.v (Value.int IntKind.i64 (IntKind.wrap IntKind.i64 ((↑(List.length l) :
    Int) + (1 : Int)))), AV.v (Value.int IntKind.i64 (0 : Int)), AV.v (Value.int IntKind.i64 (IntKind.wrap IntKind.i64 (c.now + (1 : Int)))), AV.v (Value.int IntKind.i64 (2 : Int))]] ((0 :
    Nat) + (j - List.length l))))]))))) := by kernel_rfl
theorem room112 {n : Nat} (h : n ≤ 10000000) : roomOk 112 n = true := by
  unfold roomOk
  exact decide_eq_true (by omega)
def Cs.rowJ (c : Cs) (j n : Nat) : Blk := .row [.v (.string c.who), .v (.int .i64 c.most), .hs j 0 n, .v (.int .i64 c.now), .v (.int .i64 c.heard), .v (.int .i64 c.wt), .v (.int .i64 c.en), .v (.int .i64 c.go)]
def okG (c : Cs) (l : List Pc) (t : Tx) : Bool := decide (c.wt < c.most) && txB (ownT c l t)
def addL (c : Cs) (l : List Pc) (t : Tx) : List Pc := l ++ [⟨ownT c l t, 0, c.now + 1, 2⟩]
def upW (c : Cs) : Cs := { c with wt := w64 (c.wt + 1) }
theorem ansG1 {c : Cs} {l : List Pc} {t : Tx} (hl : l.length ≤ 100000) (hs : smallT t) (hw : c.who.size ≤ 10000000) (hn : 0 ≤ c.now ∧ c.now ≤ 1000000) (hg : okG c l t = true) :
    Answers Tryd.prog Γm 62 [.ptr 0 0, txV t] (c.bl l) (.tup [txV (ownT c l t), .v (.int .i64 0)]) [some ((upW c).rowJ 2 (addL c l t).length), none] [lsP (addL c l t)] := by
  refine answers (fn := Tryd.f62) (c := bodyOf Tryd.f62) (ntmps := 65) (results := [.cell 4 40, .tmp 5]) [kTx] (Lno) false Tryd.func62 (by kernel_rfl) (by kernel_rfl) (by kernel_rfl) (by kernel_rfl) (by simp) rfl (failOK fun _ _ _ => rfl) <| Meets.of (runG c l t) <| ?_
  have e1 : IntKind.i64.wrap ((l.length : Int) + 1) = (l.length : Int) + 1 := wrap64 (by omega) (by omega)
  have e2 : IntKind.i64.wrap (c.now + 1) = c.now + 1 := wrap64 (by omega) (by omega)
  have hW : IntKind.i64.wrap (c.wt + 1) = w64 (c.wt + 1) := rfl
  have hx : Tx.mk t.k c.who t.to t.ky t.vl t.am ((l.length : Int) + 1) = ownT c l t := rfl
  have hsm : smallT (ownT c l t) := ⟨hw, hs.2.1, hs.2.2.1, hs.2.2.2⟩
  have et : erT true = 0 := rfl
  have ef : erT false = 80 := rfl
  simp only [e1, e2, hW, hx]
  unfold okG at hg
  simp only [Bool.and_eq_true, decide_eq_true_eq] at hg
  obtain ⟨h, hb⟩ := hg
  have hz : (addL c l t).length = l.length + 1 := by unfold addL; rw [List.length_append]; rfl
  have hO : OLe _ (some (lsP (addL c l t))) := Pc.cod.app0 l ⟨ownT c l t, 0, c.now + 1, 2⟩ default rfl (N := l.length + 1) rfl
  have hr := room112 (n := l.length + 1) (by omega)
  repeat' (first | refine wC (by first | omega | (simp only [W1, cond_true, cond_false, hsm, hb, et]; first | done | omega)) ?_ | refine wT (by first | omega | (simp only [W1, cond_true, cond_false, hsm, hb, et]; first | done | omega)) ?_ | refine wF (by intro _h; first | omega | (simp only [W1, cond_true, cond_false, hsm, hb, et] at _h; first | done | omega)) ?_ | (refine wS ?_ ?_ <;> intro _h <;> simp only [W1, cond_true, cond_false, hsm, hb, et] at _h))
  all_goals simp only [W1, W2, owesN, owesX, owesR, cond_true, cond_false, hsm, hb, et]
  repeat' (first | apply And.intro | intro _hc)
  all_goals first | exact hr | exact tup2 (.refl _) (leI rfl) | exact hO | ((unfold Cs.rowJ upW; rw [hz]; exact .refl _)) | exact ⟨hO, trivial⟩ | exact AV.le_refl _ | exact AV.le_any _ | exact OLe.refl _ | exact OLe.none _ | exact LeH.refl _ | exact LeL.refl _ | exact AV.le.bs _ | exact AV.le.sb _ | omega | contradiction
theorem ansG0 {c : Cs} {l : List Pc} {t : Tx} (hl : l.length ≤ 100000) (hs : smallT t) (hw : c.who.size ≤ 10000000) (hn : 0 ≤ c.now ∧ c.now ≤ 1000000) (hg : okG c l t = false) :
    Answers Tryd.prog Γm 62 [.ptr 0 0, txV t] (c.bl l) (.tup [txV tz, .v (.int .i64 (if c.most ≤ c.wt then 101 else 80))]) ((c.bl l).map some) [] := by
  refine answers (fn := Tryd.f62) (c := bodyOf Tryd.f62) (ntmps := 65) (results := [.cell 4 40, .tmp 5]) [kTx] (Lno) false Tryd.func62 (by kernel_rfl) (by kernel_rfl) (by kernel_rfl) (by kernel_rfl) (by simp) rfl (failOK fun _ _ _ => rfl) <| Meets.of (runG c l t) <| ?_
  have e1 : IntKind.i64.wrap ((l.length : Int) + 1) = (l.length : Int) + 1 := wrap64 (by omega) (by omega)
  have e2 : IntKind.i64.wrap (c.now + 1) = c.now + 1 := wrap64 (by omega) (by omega)
  have hW : IntKind.i64.wrap (c.wt + 1) = w64 (c.wt + 1) := rfl
  have hx : Tx.mk t.k c.who t.to t.ky t.vl t.am ((l.length : Int) + 1) = ownT c l t := rfl
  have hsm : smallT (ownT c l t) := ⟨hw, hs.2.1, hs.2.2.1, hs.2.2.2⟩
  have et : erT true = 0 := rfl
  have ef : erT false = 80 := rfl
  simp only [e1, e2, hW, hx]
  by_cases h : c.most ≤ c.wt
  · rw [if_pos h]
    repeat' (first | refine wC (by first | omega | (simp only [W1, cond_true, cond_false]; first | done | omega)) ?_ | refine wT (by first | omega | (simp only [W1, cond_true, cond_false]; first | done | omega)) ?_ | refine wF (by intro _h; first | omega | (simp only [W1, cond_true, cond_false] at _h; first | done | omega)) ?_ | (refine wS ?_ ?_ <;> intro _h <;> simp only [W1, cond_true, cond_false] at _h))
    all_goals simp only [W1, W2, owesN, owesX, owesR, cond_true, cond_false]
    repeat' (first | apply And.intro | intro _hc)
    all_goals first | exact tup2 (.refl _) (leI rfl) | exact AV.le_refl _ | exact AV.le_any _ | exact OLe.refl _ | exact OLe.none _ | exact LeH.refl _ | exact LeL.refl _ | exact AV.le.bs _ | exact AV.le.sb _ | omega | contradiction
  · have hb : txB (ownT c l t) = false := by
      unfold okG at hg
      rw [decide_eq_true (by omega), Bool.true_and] at hg
      exact hg
    rw [if_neg h]
    repeat' (first | refine wC (by first | omega | (simp only [W1, cond_true, cond_false, hsm, hb, ef]; first | done | omega)) ?_ | refine wT (by first | omega | (simp only [W1, cond_true, cond_false, hsm, hb, ef]; first | done | omega)) ?_ | refine wF (by intro _h; first | omega | (simp only [W1, cond_true, cond_false, hsm, hb, ef] at _h; first | done | omega)) ?_ | (refine wS ?_ ?_ <;> intro _h <;> simp only [W1, cond_true, cond_false, hsm, hb, ef] at _h))
    all_goals simp only [W1, W2, owesN, owesX, owesR, cond_true, cond_false, hsm, hb, ef]
    repeat' (first | apply And.intro | intro _hc)
    all_goals first | exact tup2 (.refl _) (leI rfl) | exact AV.le_refl _ | exact AV.le_any _ | exact OLe.refl _ | exact OLe.none _ | exact LeH.refl _ | exact LeL.refl _ | exact AV.le.bs _ | exact AV.le.sb _ | omega | contradiction
def newC (who : ByteArray) (most : Int) : Blk := .row [.v (.string who), .v (.int .i64 most), .v (.slice none 0 0), .v (.int .i64 0), .v (.int .i64 0), .v (.int .i64 0), .v (.int .i64 0), .v (.int .i64 0)]
theorem runN (who : ByteArray) (most : Int) : bodyE (P := Tryd.prog) (Γ := Γm) [kChk] Lno false 21 [.tmp 4, .tmp 5] (bodyOf Tryd.f61) [.v (.string who), .v (.int .i64 most)] [] =
  Tree.chk (cl (ByteArray.size who ≤ (1000000000 : Nat) ∧ LeL [AV.v (Value.string who)] [AV.v (Value.string who)] ∧ LeH [] [])) (Tree.br (!decide (erN (nameB who) = (0 : Int))) (Tree.leaf
    (Ans.mk (AV.tup [AV.v (Value.pointer none), AV.v (Value.int IntKind.i64 (20 : Int))]) [])) (Tree.br (bif decide (most < (1 : Int)) then true else decide ((64 : Int) < most)) (Tree.leaf
    (Ans.mk (AV.tup [AV.v (Value.pointer none), AV.v (Value.int IntKind.i64 (1 : Int))]) [])) (Tree.leaf (Ans.mk (AV.tup [AV.ptr (0 : Nat) (0 : Nat), AV.v (Value.int IntKind.i64 (0 : Int))])
    [some (Blk.row [AV.v (Value.string who), AV.v (Value.int IntKind.i64 most), AV.v (Value.slice none (0 : Nat) (0 : Nat)), AV.v (Value.int IntKind.i64 (0 : Int)), AV.v (Value.int
    IntKind.i64 (0 : Int)), AV.v (Value.int IntKind.i64 (0 : Int)), AV.v (Value.int IntKind.i64 (0 : Int)), AV.v (Value.int IntKind.i64 (0 : Int))])])))) := by kernel_rfl
theorem ansN {who : ByteArray} {most : Int} (hw : who.size ≤ 10000000) (hb : nameB who = true) (h1 : 1 ≤ most) (h2 : most ≤ 64) : Answers Tryd.prog Γm 61 [.v (.string who), .v (.int .i64 most)] [] (.tup [.ptr 0 0, .v (.int .i64 0)]) [] [newC who most] := by
  refine answers (fn := Tryd.f61) (c := bodyOf Tryd.f61) (ntmps := 21) (results := [.tmp 4, .tmp 5]) [kChk] (Lno) false Tryd.func61 (by kernel_rfl) (by kernel_rfl) (by kernel_rfl) (by kernel_rfl) (by simp) rfl (failOK fun _ _ _ => rfl) <| Meets.of (runN who most) <| ?_
  have en : erN true = 0 := rfl
  repeat' (first | refine wC (by first | omega | (simp only [W1, cond_true, cond_false, hb, en, clS hw]; first | done | omega)) ?_ | refine wT (by first | omega | (simp only [W1, cond_true, cond_false, hb, en, clS hw]; first | done | omega)) ?_ | refine wF (by intro _h; first | omega | (simp only [W1, cond_true, cond_false, hb, en, clS hw] at _h; first | done | omega)) ?_ | (refine wS ?_ ?_ <;> intro _h <;> simp only [W1, cond_true, cond_false, hb, en, clS hw] at _h))
  all_goals simp only [W1, W2, owesN, owesX, owesR, cond_true, cond_false, hb, en, clS hw]
  repeat' (first | apply And.intro | intro _hc)
  all_goals first | exact tup2 (.refl _) (leI rfl) | exact AV.le_refl _ | exact AV.le_any _ | exact OLe.refl _ | exact OLe.none _ | exact LeH.refl _ | exact LeL.refl _ | exact AV.le.bs _ | exact AV.le.sb _ | omega | contradiction
theorem ansN0 {who : ByteArray} {most : Int} (hw : who.size ≤ 10000000) (hb : nameB who = false) : Answers Tryd.prog Γm 61 [.v (.string who), .v (.int .i64 most)] [] (.tup [.v (.pointer none), .v (.int .i64 20)]) [] [] := by
  refine answers (fn := Tryd.f61) (c := bodyOf Tryd.f61) (ntmps := 21) (results := [.tmp 4, .tmp 5]) [kChk] (Lno) false Tryd.func61 (by kernel_rfl) (by kernel_rfl) (by kernel_rfl) (by kernel_rfl) (by simp) rfl (failOK fun _ _ _ => rfl) <| Meets.of (runN who most) <| ?_
  have en : erN false = 20 := rfl
  repeat' (first | refine wC (by first | omega | (simp only [W1, cond_true, cond_false, hb, en, clS hw]; first | done | omega)) ?_ | refine wT (by first | omega | (simp only [W1, cond_true, cond_false, hb, en, clS hw]; first | done | omega)) ?_ | refine wF (by intro _h; first | omega | (simp only [W1, cond_true, cond_false, hb, en, clS hw] at _h; first | done | omega)) ?_ | (refine wS ?_ ?_ <;> intro _h <;> simp only [W1, cond_true, cond_false, hb, en, clS hw] at _h))
  all_goals simp only [W1, W2, owesN, owesX, owesR, cond_true, cond_false, hb, en, clS hw]
  repeat' (first | apply And.intro | intro _hc)
  all_goals first | exact tup2 (.refl _) (leI rfl) | exact AV.le_refl _ | exact AV.le_any _ | exact OLe.refl _ | exact OLe.none _ | exact LeH.refl _ | exact LeL.refl _ | exact AV.le.bs _ | exact AV.le.sb _ | omega | contradiction
theorem ansN1 {who : ByteArray} {most : Int} (hw : who.size ≤ 10000000) (hb : nameB who = true) (h1 : most < 1 ∨ 64 < most) : Answers Tryd.prog Γm 61 [.v (.string who), .v (.int .i64 most)] [] (.tup [.v (.pointer none), .v (.int .i64 1)]) [] [] := by
  refine answers (fn := Tryd.f61) (c := bodyOf Tryd.f61) (ntmps := 21) (results := [.tmp 4, .tmp 5]) [kChk] (Lno) false Tryd.func61 (by kernel_rfl) (by kernel_rfl) (by kernel_rfl) (by kernel_rfl) (by simp) rfl (failOK fun _ _ _ => rfl) <| Meets.of (runN who most) <| ?_
  have en : erN true = 0 := rfl
  repeat' (first | refine wC (by first | omega | (simp only [W1, cond_true, cond_false, hb, en, clS hw]; first | done | omega)) ?_ | refine wT (by first | omega | (simp only [W1, cond_true, cond_false, hb, en, clS hw]; first | done | omega)) ?_ | refine wF (by intro _h; first | omega | (simp only [W1, cond_true, cond_false, hb, en, clS hw] at _h; first | done | omega)) ?_ | (refine wS ?_ ?_ <;> intro _h <;> simp only [W1, cond_true, cond_false, hb, en, clS hw] at _h))
  all_goals simp only [W1, W2, owesN, owesX, owesR, cond_true, cond_false, hb, en, clS hw]
  repeat' (first | apply And.intro | intro _hc)
  all_goals first | exact tup2 (.refl _) (leI rfl) | exact AV.le_refl _ | exact AV.le_any _ | exact OLe.refl _ | exact OLe.none _ | exact LeH.refl _ | exact LeL.refl _ | exact AV.le.bs _ | exact AV.le.sb _ | omega | contradiction
end Go.Eng.TA.C

namespace Go.Eng.TA.C
open Go Go.Eng Go.Eng.M Go.Lib Go.Proofs
structure Ac where
  k : Int
  tx : Tx
  os : List Oc
instance : Inhabited Ac := ⟨⟨0, default, []⟩⟩
def Ac.c (a : Ac) : List AV := [.v (.int .i64 a.k), .v (.int .i64 a.tx.k), .v (.string a.tx.fr), .v (.string a.tx.to), .v (.string a.tx.ky), .v (.string a.tx.vl), .v (.int .i64 a.tx.am), .v (.int .i64 a.tx.nn), .sl 10 a.os.length (lsF Oc.c a.os)]
abbrev slA (l : List Ac) : AV := .sl 9 l.length (lsF Ac.c l)
noncomputable abbrev lpF : Code := loopOf (bodyOf Tryd.f60) 0
noncomputable abbrev lpF' : Code := loopOf (bodyOf Tryd.f60) 1
abbrev lvF : List Nat := [0, 3, 2]
abbrev lvF' : List Nat := [0, 3, 4, 2]
def SF (l : List Ac) (i : Nat) : List AV × Heap := ([slA l, .v (.int .i64 (i : Int)), .v (.bool false)], [])
def SF' (l : List Ac) (i k : Nat) : List AV × Heap := ([slA l, .v (.int .i64 (i : Int)), .v (.int .i64 (k : Int)), .v (.bool false)], [])
def grO (os : List Oc) : Bool := os.any fun o => grT o.tx
def grA (a : Ac) : Bool := grT a.tx || (decide (30 < a.os.length) || grO a.os)
def farB (l : List Ac) : Bool := decide (60 < l.length) || l.any grA
def OF (b : Bool) : Out := match b with
  | true => ⟨.ret, [.any, .any, .v (.bool true)], []⟩
  | false => ⟨.exit 0, [.any, .any, .any], []⟩
def OF' (l : List Ac) (i : Nat) (b : Bool) : Out := match b with
  | true => ⟨.ret, [.any, .any, .any, .v (.bool true)], []⟩
  | false => ⟨.exit 2, [slA l, .v (.int .i64 (i : Int)), .any, .v (.bool false)], []⟩
def toTx : List AV → List Blk → Option Tx
  | [.agg [.v (.int .i64 k), .v (.string f), .v (.string t), .v (.string y), .v (.string v), .v (.int .i64 a), .v (.int .i64 n)]], [] => some ⟨k, f, t, y, v, a, n⟩
  | _, _ => none
theorem toTx_inv {args : List AV} {Hin : List Blk} {x : Tx} (h : toTx args Hin = some x) : args = [txV x] ∧ Hin = [] := by
  unfold toTx at h
  split at h
  · cases h; exact ⟨rfl, rfl⟩
  · cases h
noncomputable def hGr : CT Tryd.prog Γm := CT.ex 29 toTx (fun _ => True) (fun x => .sb (grT x)) (fun _ => []) (fun _ => [])
  (callFunc_enters Tryd.func29 (by kernel_rfl) (by kernel_rfl)) (fun args Hin x hx hp => by
    obtain ⟨rfl, rfl⟩ := toTx_inv hx
    exact ansGr.cU rfl)
theorem rF' (l : List Ac) (i k : Nat) : roundE (P := Tryd.prog) (Γ := Γm) [hGr] Lno false 0 0 lpF' lvF' [] 49 (SF' l i k).1 (SF' l i k).2 =
  Tree.chk (decide ((0 : Int) ≤ (↑i : Int)) && decide ((↑i : Int) < (↑(List.length l) : Int))) (Tree.br (decide ((↑k : Int) < (↑(List.length (List.getD l (Int.toNat (↑i : Int)) default).os) :
    Int))) (Tree.chk (decide ((0 : Int) ≤ (↑i : Int)) && decide ((↑i : Int) < (↑(List.length l) : Int)) && (decide ((0 : Int) ≤ (↑k : Int)) && decide ((↑k : Int) < (↑(List.length (List.getD
    l (Int.toNat (↑i : Int)) default).os) : Int)) && cl True)) (Tree.br (grT (Tx.mk (List.getD (List.getD l (Int.toNat (↑i : Int)) default).os k default).tx.k (List.getD (List.getD l
    (Int.toNat (↑i : Int)) default).os k default).tx.fr (List.getD (List.getD l (Int.toNat (↑i : Int)) default).os k default).tx.to (List.getD (List.getD l (Int.toNat (↑i : Int)) default).os
    k default).tx.ky (List.getD (List.getD l (Int.toNat (↑i : Int)) default).os k default).tx.vl (List.getD (List.getD l (Int.toNat (↑i : Int)) default).os k default).tx.am (List.getD
    (List.getD l (Int.toNat (↑i : Int)) default).os k default).tx.nn)) (Tree.leaf (Out.mk AEx.ret [AV.sl (9 : Nat) (List.length l) (lsF Ac.c l), AV.v (Value.int IntKind.i64 (↑i : Int)), AV.v
    (Value.int IntKind.i64 (↑k : Int)), AV.v (Value.bool true)] [])) (Tree.leaf (Out.mk AEx.normal [AV.sl (9 : Nat) (List.length l) (lsF Ac.c l), AV.v (Value.int IntKind.i64 (↑i : Int)),
    AV.v (Value.int IntKind.i64 (IntKind.wrap IntKind.i64 ((↑k : Int) + (1 : Int)))), AV.v (Value.bool false)] [])))) (Tree.leaf (Out.mk (AEx.exit (2 : Nat)) [AV.sl (9 : Nat) (List.length l)
    (lsF Ac.c l), AV.v (Value.int IntKind.i64 (↑i : Int)), AV.v (Value.int IntKind.i64 (↑k : Int)), AV.v (Value.bool false)] []))) := by kernel_rfl
theorem rF0 (l : List Ac) (i : Nat) : roundE (P := Tryd.prog) (Γ := Γm) [hGr] Lno false 0 0 lpF lvF [] 49 (SF l i).1 (SF l i).2 =
  Tree.br (decide ((↑i : Int) < (↑(List.length l) : Int))) (Tree.chk (decide ((0 : Int) ≤ (↑i : Int)) && decide ((↑i : Int) < (↑(List.length l) : Int)) && (cl True && bif grT (Tx.mk (List.getD
    l i default).tx.k (List.getD l i default).tx.fr (List.getD l i default).tx.to (List.getD l i default).tx.ky (List.getD l i default).tx.vl (List.getD l i default).tx.am (List.getD l i
    default).tx.nn) then true else decide ((0 : Int) ≤ (↑i : Int)) && decide ((↑i : Int) < (↑(List.length l) : Int)))) (Tree.br (bif grT (Tx.mk (List.getD l i default).tx.k (List.getD l i
    default).tx.fr (List.getD l i default).tx.to (List.getD l i default).tx.ky (List.getD l i default).tx.vl (List.getD l i default).tx.am (List.getD l i default).tx.nn) then true else
    decide ((30 : Int) < (↑(List.length (List.getD l (Int.toNat (↑i : Int)) default).os) : Int))) (Tree.leaf (Out.mk AEx.ret [AV.sl (9 : Nat) (List.length l) (lsF Ac.c l), AV.v (Value.int
    IntKind.i64 (↑i : Int)), AV.v (Value.bool true)] [])) Tree.fail)) (Tree.leaf (Out.mk (AEx.exit (0 : Nat)) [AV.sl (9 : Nat) (List.length l) (lsF Ac.c l), AV.v (Value.int IntKind.i64 (↑i :
    Int)), AV.v (Value.bool false)] [])) := by kernel_rfl
theorem rF (l : List Ac) (i : Nat) : roundE (P := Tryd.prog) (Γ := Γm) [hGr] (fun _ => LSpec.at lvF' [] (SF' l i 0) (OF' l i true)) false 0 0 lpF lvF [] 49 (SF l i).1 (SF l i).2 =
  Tree.br (decide ((↑i : Int) < (↑(List.length l) : Int))) (Tree.chk (decide ((0 : Int) ≤ (↑i : Int)) && decide ((↑i : Int) < (↑(List.length l) : Int)) && (cl True && bif grT (Tx.mk (List.getD
    l i default).tx.k (List.getD l i default).tx.fr (List.getD l i default).tx.to (List.getD l i default).tx.ky (List.getD l i default).tx.vl (List.getD l i default).tx.am (List.getD l i
    default).tx.nn) then true else decide ((0 : Int) ≤ (↑i : Int)) && decide ((↑i : Int) < (↑(List.length l) : Int)))) (Tree.br (bif grT (Tx.mk (List.getD l i default).tx.k (List.getD l i
    default).tx.fr (List.getD l i default).tx.to (List.getD l i default).tx.ky (List.getD l i default).tx.vl (List.getD l i default).tx.am (List.getD l i default).tx.nn) then true else
    decide ((30 : Int) < (↑(List.length (List.getD l (Int.toNat (↑i : Int)) default).os) : Int))) (Tree.leaf (Out.mk AEx.ret [AV.sl (9 : Nat) (List.length l) (lsF Ac.c l), AV.v (Value.int
    IntKind.i64 (↑i : Int)), AV.v (Value.bool true)] [])) (Tree.chk (cl (LeL [AV.sl (9 : Nat) (List.length l) (lsF Ac.c l), AV.v (Value.int IntKind.i64 (↑i : Int)), AV.v (Value.int
    IntKind.i64 (0 : Int)), AV.v (Value.bool false)] [AV.sl (9 : Nat) (List.length l) (lsF Ac.c l), AV.v (Value.int IntKind.i64 (↑i : Int)), AV.v (Value.int IntKind.i64 (↑(0 : Nat) : Int)),
    AV.v (Value.bool false)] ∧ LeH [] [])) (Tree.leaf (Out.mk AEx.ret [AV.any, AV.any, AV.v (Value.bool true)] []))))) (Tree.leaf (Out.mk (AEx.exit (0 : Nat)) [AV.sl (9 : Nat) (List.length
    l) (lsF Ac.c l), AV.v (Value.int IntKind.i64 (↑i : Int)), AV.v (Value.bool false)] [])) := by kernel_rfl
theorem rFf (l : List Ac) (i : Nat) : roundE (P := Tryd.prog) (Γ := Γm) [hGr] (fun _ => LSpec.at lvF' [] (SF' l i 0) (OF' l i false)) false 0 0 lpF lvF [] 49 (SF l i).1 (SF l i).2 =
  Tree.br (decide ((↑i : Int) < (↑(List.length l) : Int))) (Tree.chk (decide ((0 : Int) ≤ (↑i : Int)) && decide ((↑i : Int) < (↑(List.length l) : Int)) && (cl True && bif grT (Tx.mk (List.getD
    l i default).tx.k (List.getD l i default).tx.fr (List.getD l i default).tx.to (List.getD l i default).tx.ky (List.getD l i default).tx.vl (List.getD l i default).tx.am (List.getD l i
    default).tx.nn) then true else decide ((0 : Int) ≤ (↑i : Int)) && decide ((↑i : Int) < (↑(List.length l) : Int)))) (Tree.br (bif grT (Tx.mk (List.getD l i default).tx.k (List.getD l i
    default).tx.fr (List.getD l i default).tx.to (List.getD l i default).tx.ky (List.getD l i default).tx.vl (List.getD l i default).tx.am (List.getD l i default).tx.nn) then true else
    decide ((30 : Int) < (↑(List.length (List.getD l (Int.toNat (↑i : Int)) default).os) : Int))) (Tree.leaf (Out.mk AEx.ret [AV.sl (9 : Nat) (List.length l) (lsF Ac.c l), AV.v (Value.int
    IntKind.i64 (↑i : Int)), AV.v (Value.bool true)] [])) (Tree.chk (cl (LeL [AV.sl (9 : Nat) (List.length l) (lsF Ac.c l), AV.v (Value.int IntKind.i64 (↑i : Int)), AV.v (Value.int
    IntKind.i64 (0 : Int)), AV.v (Value.bool false)] [AV.sl (9 : Nat) (List.length l) (lsF Ac.c l), AV.v (Value.int IntKind.i64 (↑i : Int)), AV.v (Value.int IntKind.i64 (↑(0 : Nat) : Int)),
    AV.v (Value.bool false)] ∧ LeH [] [])) (Tree.leaf (Out.mk AEx.normal [AV.sl (9 : Nat) (List.length l) (lsF Ac.c l), AV.v (Value.int IntKind.i64 (IntKind.wrap IntKind.i64 ((↑i : Int) + (1
    : Int)))), AV.v (Value.bool false)] []))))) (Tree.leaf (Out.mk (AEx.exit (0 : Nat)) [AV.sl (9 : Nat) (List.length l) (lsF Ac.c l), AV.v (Value.int IntKind.i64 (↑i : Int)), AV.v
    (Value.bool false)] [])) := by kernel_rfl
theorem any_drop {α : Type} [Inhabited α] {p : α → Bool} {l : List α} {i : Nat} (h : i < l.length) : (l.drop i).any p = (p (l.getD i default) || (l.drop (i + 1)).any p) := by
  rw [List.drop_eq_getElem_cons h, getD_get h, List.any_cons]
theorem loopF' {l : List Ac} {i : Nat} {b : Bool} (hl : l.length ≤ 100000) (hi : i < l.length) (hos : (l.getD i default).os.length ≤ 100000) : ∀ k : Nat, (k ≤ (l.getD i default).os.length ∧ ((l.getD i default).os.drop k).any (fun o => grT o.tx) = b) → LoopOK Tryd.prog Γm 0 49 lpF' (LSpec.at lvF' [] (SF' l i k) (OF' l i b)) := by
  refine loop_at (S := SF' l i) (pre := fun k => k ≤ (l.getD i default).os.length ∧ ((l.getD i default).os.drop k).any (fun o => grT o.tx) = b) (O := fun _ => OF' l i b) (k := 0) (fun k => (l.getD i default).os.length - k) fun k hk => .of (noLoops (by kernel_rfl)) (rF' l i k) ?_
  obtain ⟨h1, h2⟩ := hk
  have hc : cl True = true := cl_iff.2 trivial
  have hx : ∀ t : Tx, Tx.mk t.k t.fr t.to t.ky t.vl t.am t.nn = t := fun _ => rfl
  simp only [Int.toNat_natCast, hc, hx, Bool.and_true]
  rcases Nat.lt_or_ge k (l.getD i default).os.length with hk | hk
  · have e1 : IntKind.i64.wrap ((k : Int) + 1) = ((k + 1 : Nat) : Int) := wrapUpN (by omega)
    rw [any_drop hk] at h2
    simp only [e1]
    cases hg : grT ((l.getD i default).os.getD k default).tx with
    | true =>
      rw [hg, Bool.true_or] at h2
      subst h2
      unfold OF'
      repeat' (first | refine wC (by first | omega | (simp only [W1, cond_true, cond_false, hg]; first | done | omega)) ?_ | refine wT (by first | omega | (simp only [W1, cond_true, cond_false, hg]; first | done | omega)) ?_ | refine wF (by intro _h; first | omega | (simp only [W1, cond_true, cond_false, hg] at _h; first | done | omega)) ?_ | (refine wS ?_ ?_ <;> intro _h <;> simp only [W1, cond_true, cond_false, hg] at _h))
      all_goals simp only [W1, W2, owesN, owesX, owesR, cond_true, cond_false, hg]
      repeat' (first | apply And.intro | intro _hc)
      all_goals first | exact rfl | exact ⟨.any _, .any _, .any _, .refl _, trivial⟩ | exact AV.le_refl _ | exact AV.le_any _ | exact OLe.refl _ | exact OLe.none _ | exact LeH.refl _ | exact LeL.refl _ | exact AV.le.bs _ | exact AV.le.sb _ | omega | contradiction
    | false =>
      rw [hg, Bool.false_or] at h2
      repeat' (first | refine wC (by first | omega | (simp only [W1, cond_true, cond_false, hg]; first | done | omega)) ?_ | refine wT (by first | omega | (simp only [W1, cond_true, cond_false, hg]; first | done | omega)) ?_ | refine wF (by intro _h; first | omega | (simp only [W1, cond_true, cond_false, hg] at _h; first | done | omega)) ?_ | (refine wS ?_ ?_ <;> intro _h <;> simp only [W1, cond_true, cond_false, hg] at _h))
      all_goals simp only [W1, W2, owesN, owesX, owesR, cond_true, cond_false, hg]
      repeat' (first | apply And.intro | intro _hc)
      all_goals first | exact ⟨k + 1, LeL.refl _, LeH.refl _, ⟨by show k + 1 ≤ _; omega, h2⟩, by omega⟩ | exact AV.le_refl _ | exact AV.le_any _ | exact OLe.refl _ | exact OLe.none _ | exact LeH.refl _ | exact LeL.refl _ | exact AV.le.bs _ | exact AV.le.sb _ | omega | contradiction
  · rw [List.drop_eq_nil_of_le hk] at h2
    have h2 : b = false := h2.symm
    subst h2
    unfold OF'
    repeat' (first | refine wC (by first | omega | (simp only [W1, cond_true, cond_false]; first | done | omega)) ?_ | refine wT (by first | omega | (simp only [W1, cond_true, cond_false]; first | done | omega)) ?_ | refine wF (by intro _h; first | omega | (simp only [W1, cond_true, cond_false] at _h; first | done | omega)) ?_ | (refine wS ?_ ?_ <;> intro _h <;> simp only [W1, cond_true, cond_false] at _h))
    all_goals simp only [W1, W2, owesN, owesX, owesR, cond_true, cond_false]
    repeat' (first | apply And.intro | intro _hc)
    all_goals first | exact rfl | exact ⟨.refl _, .refl _, .any _, .refl _, trivial⟩ | exact AV.le_refl _ | exact AV.le_any _ | exact OLe.refl _ | exact OLe.none _ | exact LeH.refl _ | exact LeL.refl _ | exact AV.le.bs _ | exact AV.le.sb _ | omega | contradiction
theorem loopF {l : List Ac} {b : Bool} (hl : l.length ≤ 60) : ∀ i : Nat, (i ≤ l.length ∧ (l.drop i).any grA = b) → LoopOK Tryd.prog Γm 0 49 lpF (LSpec.at lvF [] (SF l i) (OF b)) := by
  refine loop_at (S := SF l) (pre := fun i => i ≤ l.length ∧ (l.drop i).any grA = b) (O := fun _ => OF b) (k := 0) (fun i => l.length - i) fun i hi => ?_
  obtain ⟨h1, h2⟩ := hi
  have hc : cl True = true := cl_iff.2 trivial
  have hx : ∀ t : Tx, Tx.mk t.k t.fr t.to t.ky t.vl t.am t.nn = t := fun _ => rfl
  rcases Nat.lt_or_ge i l.length with h | h
  · have e1 : IntKind.i64.wrap ((i : Int) + 1) = ((i + 1 : Nat) : Int) := wrapUpN (by omega)
    rw [any_drop h] at h2
    have hs : decide ((0 : Int) ≤ (i : Int)) = true := decide_eq_true (by omega)
    have hs2 : decide ((i : Int) < (l.length : Int)) = true := decide_eq_true (by omega)
    by_cases hf : grT (l.getD i default).tx = true ∨ 30 < (l.getD i default).os.length
    · have hb : b = true := by
        rw [← h2]; unfold grA
        rcases hf with hf | hf
        · rw [hf]; rfl
        · rw [decide_eq_true hf]; simp
      subst hb
      refine .of (L := Lno) (failOK fun _ _ _ => rfl) (rF0 l i) ?_
      have hq : (bif grT (l.getD i default).tx then true else decide ((30 : Int) < ((l.getD i default).os.length : Int))) = true := by
        rcases hf with hf | hf
        · rw [hf]; rfl
        · rw [decide_eq_true (show (30 : Int) < ((l.getD i default).os.length : Int) by omega)]; simp
      simp only [Int.toNat_natCast, hc, hx, hs, hs2, Bool.and_true, Bool.true_and, hq]
      unfold OF
      repeat' (first | refine wC (by first | omega | (simp only [W1, cond_true, cond_false]; first | done | omega)) ?_ | refine wT (by first | omega | (simp only [W1, cond_true, cond_false]; first | done | omega)) ?_ | refine wF (by intro _h; first | omega | (simp only [W1, cond_true, cond_false] at _h; first | done | omega)) ?_ | (refine wS ?_ ?_ <;> intro _h <;> simp only [W1, cond_true, cond_false] at _h))
      all_goals simp only [W1, W2, owesN, owesX, owesR, cond_true, cond_false]
      repeat' (first | apply And.intro | intro _hc)
      all_goals first | exact rfl | exact ⟨.any _, .any _, .refl _, trivial⟩ | exact AV.le_refl _ | exact AV.le_any _ | exact OLe.refl _ | exact OLe.none _ | exact LeH.refl _ | exact LeL.refl _ | exact AV.le.bs _ | exact AV.le.sb _ | omega | contradiction
    · have hf1 : grT (l.getD i default).tx = false := by
        cases hg : grT (l.getD i default).tx with
        | true => exact absurd (.inl hg) hf
        | false => rfl
      have hf2 : (l.getD i default).os.length ≤ 30 := Nat.le_of_not_lt fun h => hf (.inr h)
      have hq : (bif grT (l.getD i default).tx then true else decide ((30 : Int) < ((l.getD i default).os.length : Int))) = false := by
        rw [hf1, cond_false, decide_eq_false (by omega)]
      have hA : grA (l.getD i default) = grO (l.getD i default).os := by
        unfold grA; rw [hf1, decide_eq_false (by omega)]; rfl
      rw [hA] at h2
      cases hg : grO (l.getD i default).os with
      | true =>
        rw [hg, Bool.true_or] at h2
        subst h2
        refine .of (oneLoop (b := lpF') (by kernel_rfl) (loopF' (by omega) h (by omega) 0 ⟨Nat.zero_le _, by rw [List.drop_zero]; exact hg⟩)) (rF l i) ?_
        simp only [Int.toNat_natCast, hc, hx, hs, hs2, Bool.and_true, Bool.true_and, hq]
        unfold OF
        repeat' (first | refine wC (by first | omega | (simp only [W1, cond_true, cond_false]; first | done | omega)) ?_ | refine wT (by first | omega | (simp only [W1, cond_true, cond_false]; first | done | omega)) ?_ | refine wF (by intro _h; first | omega | (simp only [W1, cond_true, cond_false] at _h; first | done | omega)) ?_ | (refine wS ?_ ?_ <;> intro _h <;> simp only [W1, cond_true, cond_false] at _h))
        all_goals simp only [W1, W2, owesN, owesX, owesR, cond_true, cond_false]
        repeat' (first | apply And.intro | intro _hc)
        all_goals first | exact rfl | exact ⟨.any _, .any _, .refl _, trivial⟩ | exact AV.le_refl _ | exact AV.le_any _ | exact OLe.refl _ | exact OLe.none _ | exact LeH.refl _ | exact LeL.refl _ | exact AV.le.bs _ | exact AV.le.sb _ | omega | contradiction
      | false =>
        rw [hg, Bool.false_or] at h2
        refine .of (oneLoop (b := lpF') (by kernel_rfl) (loopF' (by omega) h (by omega) 0 ⟨Nat.zero_le _, by rw [List.drop_zero]; exact hg⟩)) (rFf l i) ?_
        simp only [Int.toNat_natCast, hc, hx, hs, hs2, Bool.and_true, Bool.true_and, hq, e1]
        repeat' (first | refine wC (by first | omega | (simp only [W1, cond_true, cond_false]; first | done | omega)) ?_ | refine wT (by first | omega | (simp only [W1, cond_true, cond_false]; first | done | omega)) ?_ | refine wF (by intro _h; first | omega | (simp only [W1, cond_true, cond_false] at _h; first | done | omega)) ?_ | (refine wS ?_ ?_ <;> intro _h <;> simp only [W1, cond_true, cond_false] at _h))
        all_goals simp only [W1, W2, owesN, owesX, owesR, cond_true, cond_false]
        repeat' (first | apply And.intro | intro _hc)
        all_goals first | exact ⟨i + 1, LeL.refl _, LeH.refl _, ⟨by show i + 1 ≤ _; omega, h2⟩, by omega⟩ | exact AV.le_refl _ | exact AV.le_any _ | exact OLe.refl _ | exact OLe.none _ | exact LeH.refl _ | exact LeL.refl _ | exact AV.le.bs _ | exact AV.le.sb _ | omega | contradiction
  · rw [List.drop_eq_nil_of_le h] at h2
    have h2 : b = false := h2.symm
    subst h2
    refine .of (L := Lno) (failOK fun _ _ _ => rfl) (rF0 l i) ?_
    unfold OF
    repeat' (first | refine wC (by first | omega | (simp only [W1, cond_true, cond_false]; first | done | omega)) ?_ | refine wT (by first | omega | (simp only [W1, cond_true, cond_false]; first | done | omega)) ?_ | refine wF (by intro _h; first | omega | (simp only [W1, cond_true, cond_false] at _h; first | done | omega)) ?_ | (refine wS ?_ ?_ <;> intro _h <;> simp only [W1, cond_true, cond_false] at _h))
    all_goals simp only [W1, W2, owesN, owesX, owesR, cond_true, cond_false]
    repeat' (first | apply And.intro | intro _hc)
    all_goals first | exact rfl | exact AV.le_refl _ | exact AV.le_any _ | exact OLe.refl _ | exact OLe.none _ | exact LeH.refl _ | exact LeL.refl _ | exact AV.le.bs _ | exact AV.le.sb _ | omega | contradiction
noncomputable def LFar (l : List Ac) (b : Bool) : Nat → LSpec
  | 0 => LSpec.at lvF [] (SF l 0) (OF b)
  | _ => Lno 0
theorem runF (l : List Ac) (b : Bool) : bodyE (P := Tryd.prog) (Γ := Γm) [] (LFar l true) false 49 [.tmp 2] (bodyOf Tryd.f60) [slA l] [] =
  Tree.br (decide ((60 : Int) < (↑(List.length l) : Int))) (Tree.leaf (Ans.mk (AV.v (Value.bool true)) [])) (Tree.chk (cl (LeL [AV.sl (9 : Nat) (List.length l) (lsF Ac.c l), AV.v (Value.int
    IntKind.i64 (0 : Int)), AV.v (Value.bool false)] [AV.sl (9 : Nat) (List.length l) (lsF Ac.c l), AV.v (Value.int IntKind.i64 (↑(0 : Nat) : Int)), AV.v (Value.bool false)] ∧ LeH [] []))
    (Tree.leaf (Ans.mk (AV.v (Value.bool true)) []))) := by kernel_rfl
theorem runFf (l : List Ac) (b : Bool) : bodyE (P := Tryd.prog) (Γ := Γm) [] (LFar l false) false 49 [.tmp 2] (bodyOf Tryd.f60) [slA l] [] =
  Tree.br (decide ((60 : Int) < (↑(List.length l) : Int))) (Tree.leaf (Ans.mk (AV.v (Value.bool true)) [])) (Tree.chk (cl (LeL [AV.sl (9 : Nat) (List.length l) (lsF Ac.c l), AV.v (Value.int
    IntKind.i64 (0 : Int)), AV.v (Value.bool false)] [AV.sl (9 : Nat) (List.length l) (lsF Ac.c l), AV.v (Value.int IntKind.i64 (↑(0 : Nat) : Int)), AV.v (Value.bool false)] ∧ LeH [] []))
    (Tree.leaf (Ans.mk (AV.v (Value.bool false)) []))) := by kernel_rfl
theorem runFl (l : List Ac) : bodyE (P := Tryd.prog) (Γ := Γm) [] Lno false 49 [.tmp 2] (bodyOf Tryd.f60) [slA l] [] =
  Tree.br (decide ((60 : Int) < (↑(List.length l) : Int))) (Tree.leaf (Ans.mk (AV.v (Value.bool true)) [])) Tree.fail := by kernel_rfl
theorem ansF {l : List Ac} : Answers Tryd.prog Γm 60 [slA l] [] (.sb (farB l)) [] [] := by
  by_cases hl : 60 < l.length
  · have e : farB l = true := by unfold farB; rw [decide_eq_true hl]; rfl
    rw [e]
    refine answers (fn := Tryd.f60) (c := bodyOf Tryd.f60) (ntmps := 49) (results := [.tmp 2]) [] (Lno) false Tryd.func60 (by kernel_rfl) (by kernel_rfl) (by kernel_rfl) (by kernel_rfl) (by simp) rfl (failOK fun _ _ _ => rfl) <| Meets.of (runFl l) <| ?_
    repeat' (first | refine wC (by first | omega | (simp only [W1, cond_true, cond_false]; first | done | omega)) ?_ | refine wT (by first | omega | (simp only [W1, cond_true, cond_false]; first | done | omega)) ?_ | refine wF (by intro _h; first | omega | (simp only [W1, cond_true, cond_false] at _h; first | done | omega)) ?_ | (refine wS ?_ ?_ <;> intro _h <;> simp only [W1, cond_true, cond_false] at _h))
    all_goals simp only [W1, W2, owesN, owesX, owesR, cond_true, cond_false]
    repeat' (first | apply And.intro | intro _hc)
    all_goals first | exact leB rfl | exact AV.le_refl _ | exact AV.le_any _ | exact OLe.refl _ | exact OLe.none _ | exact LeH.refl _ | exact LeL.refl _ | exact AV.le.bs _ | exact AV.le.sb _ | omega | contradiction
  · have e : farB l = l.any grA := by unfold farB; rw [decide_eq_false hl]; rfl
    rw [e]
    cases hg : l.any grA with
    | true =>
      refine answers (fn := Tryd.f60) (c := bodyOf Tryd.f60) (ntmps := 49) (results := [.tmp 2]) [] (LFar l true) false Tryd.func60 (by kernel_rfl) (by kernel_rfl) (by kernel_rfl) (by kernel_rfl) (by simp) rfl (twoLoops (b := lpF) (b' := lpF') (by kernel_rfl) (loopF (by omega) 0 ⟨Nat.zero_le _, by rw [List.drop_zero]; exact hg⟩) fail_ok) <| Meets.of (runF l true) <| ?_
      repeat' (first | refine wC (by first | omega | (simp only [W1, cond_true, cond_false]; first | done | omega)) ?_ | refine wT (by first | omega | (simp only [W1, cond_true, cond_false]; first | done | omega)) ?_ | refine wF (by intro _h; first | omega | (simp only [W1, cond_true, cond_false] at _h; first | done | omega)) ?_ | (refine wS ?_ ?_ <;> intro _h <;> simp only [W1, cond_true, cond_false] at _h))
      all_goals simp only [W1, W2, owesN, owesX, owesR, cond_true, cond_false]
      repeat' (first | apply And.intro | intro _hc)
      all_goals first | exact leB rfl | exact AV.le_refl _ | exact AV.le_any _ | exact OLe.refl _ | exact OLe.none _ | exact LeH.refl _ | exact LeL.refl _ | exact AV.le.bs _ | exact AV.le.sb _ | omega | contradiction
    | false =>
      refine answers (fn := Tryd.f60) (c := bodyOf Tryd.f60) (ntmps := 49) (results := [.tmp 2]) [] (LFar l false) false Tryd.func60 (by kernel_rfl) (by kernel_rfl) (by kernel_rfl) (by kernel_rfl) (by simp) rfl (twoLoops (b := lpF) (b' := lpF') (by kernel_rfl) (loopF (by omega) 0 ⟨Nat.zero_le _, by rw [List.drop_zero]; exact hg⟩) fail_ok) <| Meets.of (runFf l false) <| ?_
      repeat' (first | refine wC (by first | omega | (simp only [W1, cond_true, cond_false]; first | done | omega)) ?_ | refine wT (by first | omega | (simp only [W1, cond_true, cond_false]; first | done | omega)) ?_ | refine wF (by intro _h; first | omega | (simp only [W1, cond_true, cond_false] at _h; first | done | omega)) ?_ | (refine wS ?_ ?_ <;> intro _h <;> simp only [W1, cond_true, cond_false] at _h))
      all_goals simp only [W1, W2, owesN, owesX, owesR, cond_true, cond_false]
      repeat' (first | apply And.intro | intro _hc)
      all_goals first | exact leB rfl | exact AV.le_refl _ | exact AV.le_any _ | exact OLe.refl _ | exact OLe.none _ | exact LeH.refl _ | exact LeL.refl _ | exact AV.le.bs _ | exact AV.le.sb _ | omega | contradiction
end Go.Eng.TA.C

namespace Go.Eng.TA.C
open Go Go.Eng Go.Eng.M Go.Lib Go.Proofs
structure okAt (who : ByteArray) (now : Int) (j : Nat) (p : Pc) : Prop where
  nn : p.tx.nn = (j : Int) + 1
  fr : p.tx.fr = who
  due : p.due ≤ now + 16
  gap : okP p
def Inv (who : ByteArray) (now : Int) (l : List Pc) : Prop := ∀ j, j < l.length → okAt who now j (l.getD j default)
def Mono (l l' : List Pc) : Prop := l.length ≤ l'.length ∧ ∀ k, k < l.length → (l'.getD k default).tx = (l.getD k default).tx ∧ (¬ (l.getD k default).st = 0 → (l'.getD k default).st = (l.getD k default).st)
theorem Mono.refl (l : List Pc) : Mono l l := ⟨Nat.le_refl _, fun k _ => ⟨rfl, fun _ => rfl⟩⟩
theorem Mono.trans {a b c : List Pc} (h : Mono a b) (k : Mono b c) : Mono a c := ⟨Nat.le_trans h.1 k.1, fun j hj => by
  obtain ⟨h1, h2⟩ := h.2 j hj
  obtain ⟨k1, k2⟩ := k.2 j (Nat.lt_of_lt_of_le hj h.1)
  exact ⟨k1.trans h1, fun hs => (k2 (by rw [h2 hs]; exact hs)).trans (h2 hs)⟩⟩
theorem getD_map {α β : Type} [Inhabited α] [Inhabited β] {f : α → β} {l : List α} {j : Nat} (h : j < l.length) : (l.map f).getD j default = f (l.getD j default) := by
  rw [List.getD_eq_getElem?_getD, List.getElem?_map, List.getElem?_eq_getElem h, getD_get h]; rfl
theorem tk_tx (n : Int) (p : Pc) : (tk n p).tx = p.tx ∧ (tk n p).st = p.st := by
  unfold tk
  cases due n p <;> exact ⟨rfl, rfl⟩
theorem tk_ok {n : Int} {p : Pc} (h : okP p) : okP (tk n p) := by
  unfold tk
  cases due n p with
  | false => exact h
  | true =>
    obtain ⟨h1, h2⟩ := h
    show 0 ≤ (if 16 < 2 * p.gap then (16 : Int) else 2 * p.gap) ∧ (if 16 < 2 * p.gap then (16 : Int) else 2 * p.gap) ≤ 16
    split <;> omega
theorem tk_due {n m : Int} {p : Pc} (h : okP p) (hd : p.due ≤ n + 16) : (tk n p).due ≤ n + 16 := by
  unfold tk
  cases due n p with
  | false => exact hd
  | true => obtain ⟨h1, h2⟩ := h; show n + p.gap ≤ n + 16; omega
theorem inv_tick {who : ByteArray} {n : Int} {l : List Pc} (h : Inv who n l) : Inv who (n + 1) (l.map (tk (n + 1))) ∧ Mono l (l.map (tk (n + 1))) := by
  refine ⟨fun j hj => ?_, by simp, fun k hk => ?_⟩
  · rw [List.length_map] at hj
    obtain ⟨h1, h2, h3, h4⟩ := h j hj
    rw [getD_map hj]
    obtain ⟨t1, t2⟩ := tk_tx (n + 1) (l.getD j default)
    exact ⟨by rw [t1]; exact h1, by rw [t1]; exact h2, tk_due (m := 0) h4 (by omega), tk_ok h4⟩
  · rw [getD_map hk]
    obtain ⟨t1, t2⟩ := tk_tx (n + 1) (l.getD k default)
    exact ⟨t1, fun _ => t2⟩
theorem inv_give {who : ByteArray} {c : Cs} {l : List Pc} {t : Tx} (hw : c.who = who) (h : Inv who c.now l) : Inv who c.now (addL c l t) ∧ Mono l (addL c l t) := by
  unfold addL
  refine ⟨fun j hj => ?_, by simp, fun k hk => ?_⟩
  · by_cases hl : j < l.length
    · rw [getD_app hl]; exact h j hl
    · have hz : j = l.length := by rw [List.length_append] at hj; simp only [List.length_singleton] at hj; omega
      subst hz
      rw [getD_app' (Nat.le_refl _), Nat.sub_self]
      exact ⟨rfl, hw, by show c.now + 1 ≤ c.now + 16; omega, by show (0 : Int) ≤ 2 ∧ (2 : Int) ≤ 16; omega⟩
  · rw [getD_app hk]; exact ⟨rfl, fun _ => rfl⟩
theorem inv_set {who : ByteArray} {n : Int} {l : List Pc} {k : Nat} {s : Int} (hk : k < l.length) (hs : (l.getD k default).st = 0) (h : Inv who n l) : Inv who n (l.set k (setS (l.getD k default) s)) ∧ Mono l (l.set k (setS (l.getD k default) s)) := by
  refine ⟨fun j hj => ?_, by simp, fun j hj => ?_⟩
  · rw [List.length_set] at hj
    rw [getD_setI hk]
    by_cases e : j = k
    · rw [if_pos e]
      subst e
      obtain ⟨h1, h2, h3, h4⟩ := h j hj
      exact ⟨h1, h2, h3, h4⟩
    · rw [if_neg e]; exact h j hj
  · rw [getD_setI hk]
    by_cases e : j = k
    · rw [if_pos e]
      subst e
      exact ⟨rfl, fun h0 => absurd hs h0⟩
    · rw [if_neg e]; exact ⟨rfl, fun _ => rfl⟩
theorem inv_end {who : ByteArray} {c : Cs} {l : List Pc} {t : Tx} (h : Inv who c.now l) : Inv who c.now (endF c l t).l ∧ Mono l (endF c l t).l ∧ (endF c l t).c.now = c.now ∧ (endF c l t).c.who = c.who ∧ (endF c l t).c.heard = c.heard ∧ (endF c l t).c.most = c.most := by
  by_cases hn : noE c l t
  · rw [endF_no hn]; exact ⟨h, Mono.refl l, rfl, rfl, rfl, rfl⟩
  · have hn' := hn
    unfold noE at hn'
    have hk : kO t < l.length := by unfold kO; omega
    have hs : (l.getD (kO t) default).st = 0 := by
      by_cases e : (l.getD (kO t) default).st = 0
      · exact e
      · exact absurd (.inr (.inr (.inr e))) hn'
    cases hq : sameT (l.getD (kO t) default).tx t with
    | true =>
      rw [endF_one hn hq]
      exact ⟨(inv_set hk hs h).1, (inv_set hk hs h).2, rfl, rfl, rfl, rfl⟩
    | false =>
      rw [endF_two hn hq]
      exact ⟨(inv_set hk hs h).1, (inv_set hk hs h).2, rfl, rfl, rfl, rfl⟩
theorem inv_fold {who : ByteArray} : ∀ (os : List Oc) (x : RH), Inv who x.c.now x.l → Inv who x.c.now (os.foldl stepH x).l ∧ Mono x.l (os.foldl stepH x).l ∧ (os.foldl stepH x).c.now = x.c.now ∧ (os.foldl stepH x).c.who = x.c.who ∧ (os.foldl stepH x).c.heard = x.c.heard ∧ (os.foldl stepH x).c.most = x.c.most ∧ (os.foldl stepH x).l.length = x.l.length
  | [], x, h => ⟨h, Mono.refl _, rfl, rfl, rfl, rfl, rfl⟩
  | o :: os, x, h => by
    rw [List.foldl_cons]
    by_cases he : o.err = 0
    · have hs : stepH x o = ⟨(endF x.c x.l o.tx).c, (endF x.c x.l o.tx).l, bif (endF x.c x.l o.tx).b then w64 (x.n + 1) else x.n⟩ := if_pos he
      obtain ⟨a1, a2, a3, a4, a5, a6⟩ := inv_end (c := x.c) (t := o.tx) h
      have a7 := endF_len (c := x.c) (l := x.l) (t := o.tx)
      rw [hs]
      obtain ⟨b1, b2, b3, b4, b5, b6, b7⟩ := inv_fold os ⟨(endF x.c x.l o.tx).c, (endF x.c x.l o.tx).l, bif (endF x.c x.l o.tx).b then w64 (x.n + 1) else x.n⟩ (by show Inv who (endF x.c x.l o.tx).c.now _; rw [a3]; exact a1)
      dsimp only at b1 b2 b3 b4 b5 b6 b7
      exact ⟨by rw [a3] at b1; exact b1, a2.trans b2, b3.trans a3, b4.trans a4, b5.trans a5, b6.trans a6, b7.trans a7⟩
    · have hs : stepH x o = x := if_neg he
      rw [hs]; exact inv_fold os x h
theorem inv_hear {who : ByteArray} {c : Cs} {l : List Pc} {os : List Oc} (h : Inv who c.now l) : Inv who c.now (hearF c l os).l ∧ Mono l (hearF c l os).l ∧ (hearF c l os).c.now = c.now ∧ (hearF c l os).c.who = c.who ∧ (hearF c l os).c.most = c.most ∧ (hearF c l os).l.length = l.length ∧ (0 ≤ c.heard → 0 ≤ (hearF c l os).c.heard) := by
  by_cases hh : (os.length : Int) ≤ c.heard
  · have e : hearF c l os = ⟨c, l, 0⟩ := if_pos hh
    rw [e]; exact ⟨h, Mono.refl l, rfl, rfl, rfl, rfl, fun h => h⟩
  · have e : hearF c l os = ⟨setH' ((os.drop c.heard.toNat).foldl stepH ⟨c, l, 0⟩).c (os.length : Int), ((os.drop c.heard.toNat).foldl stepH ⟨c, l, 0⟩).l, ((os.drop c.heard.toNat).foldl stepH ⟨c, l, 0⟩).n⟩ := if_neg hh
    rw [e]
    obtain ⟨b1, b2, b3, b4, b5, b6, b7⟩ := inv_fold (os.drop c.heard.toNat) ⟨c, l, 0⟩ h
    exact ⟨b1, b2, b3, b4, b6, b7, fun _ => Int.natCast_nonneg _⟩
theorem out_mem {who : ByteArray} {n m : Int} {l : List Pc} (h : Inv who m l) {t : Tx} (ht : t ∈ outT n l l.length) : ∃ j, j < l.length ∧ t = (l.getD j default).tx ∧ (l.getD j default).st = 0 ∧ t.nn = (j : Int) + 1 ∧ (l.getD j default).due ≤ n := by
  unfold outT at ht
  rw [List.take_of_length_le (Nat.le_refl _), List.mem_map] at ht
  obtain ⟨p, hp, rfl⟩ := ht
  rw [List.mem_filter] at hp
  obtain ⟨j, hj, rfl⟩ := List.getElem_of_mem hp.1
  have hd := hp.2
  unfold due at hd
  simp only [Bool.and_eq_true, decide_eq_true_eq] at hd
  refine ⟨j, hj, ?_⟩
  rw [getD_get hj]
  have := (h j hj).nn
  rw [getD_get hj] at this
  exact ⟨rfl, hd.1, this, hd.2⟩
theorem out_has {n : Int} {l : List Pc} {j : Nat} (hj : j < l.length) (hs : (l.getD j default).st = 0) (hd : (l.getD j default).due ≤ n) : (l.getD j default).tx ∈ outT n l l.length := by
  unfold outT
  rw [List.take_of_length_le (Nat.le_refl _), List.mem_map]
  refine ⟨l.getD j default, List.mem_filter.2 ⟨by rw [getD_get hj]; exact List.getElem_mem hj, ?_⟩, rfl⟩
  unfold due
  rw [decide_eq_true hs, decide_eq_true hd]; rfl
end Go.Eng.TA.C

namespace Go.Eng.TA.C
open Go Go.Eng Go.Eng.M Go.Lib Go.Proofs
structure Iv where
  n : Int
instance : Inhabited Iv := ⟨⟨0⟩⟩
def Iv.c (x : Iv) : List AV := [.v (.int .i64 x.n)]
def Iv.cells (x : Iv) : List Value := [.int .i64 x.n]
theorem Iv.cod : Cod Iv.c 1 := ⟨fun _ => rfl, fun b x y => by cases b <;> rfl⟩
theorem Iv.dec (vs : List Value) (h0 : GoodVs [.int .i64] vs) : ∃ a : Iv, vs = a.cells := by
  obtain ⟨_, _, rfl, ⟨a0, rfl, _⟩, h1⟩ := h0.cons
  obtain rfl := h1.nil
  exact ⟨⟨a0⟩, rfl⟩
abbrev Iv.ks : List Cel := [.int .i64]
structure Ro where
  tx : Tx
  st : Int
  gv : Int
  tm : List Iv
instance : Inhabited Ro := ⟨⟨default, 0, 0, []⟩⟩
def Ro.c (r : Ro) : List AV := [.v (.int .i64 r.tx.k), .v (.string r.tx.fr), .v (.string r.tx.to), .v (.string r.tx.ky), .v (.string r.tx.vl), .v (.int .i64 r.tx.am), .v (.int .i64 r.tx.nn), .v (.int .i64 r.st), .v (.int .i64 r.gv), .sl 1 r.tm.length (lsF Iv.c r.tm)]
theorem Ro.cod : Cod Ro.c 10 := ⟨fun _ => rfl, fun b x y => by cases b <;> rfl⟩
abbrev lsR (l : List Ro) : Blk := .arr 10 l.length (lsF Ro.c l)
structure Ds where
  who : ByteArray
  most : Int
  now : Int
  heard : Int
def Ds.rowJ (d : Ds) (j n : Nat) : Blk := .row [.v (.string d.who), .v (.int .i64 d.most), .hs j 0 n, .v (.int .i64 d.now), .v (.int .i64 d.heard)]
def Ds.row (d : Ds) (n : Nat) : Blk := d.rowJ 1 n
def Ds.bl (d : Ds) (l : List Ro) : List Blk := [d.row l.length, lsR l]
noncomputable abbrev lpC : Code := loopOf (bodyOf Tryd.f71) 0
abbrev lvC : List Nat := [0, 1, 5, 6]
def cnt (s : Int) (l : List Ro) : Nat := (l.filter fun r => decide (r.st = s)).length
def SC (d : Ds) (l : List Ro) (s : Int) (i : Nat) (n : Nat) : List AV × Heap := ([.ptr 0 0, .v (.int .i64 s), .v (.int .i64 (n : Int)), .v (.int .i64 (i : Int))], (d.bl l).map some)
def OC (d : Ds) (l : List Ro) (s : Int) : Out := ⟨.exit 0, [.any, .any, .v (.int .i64 (cnt s l : Int)), .any], (d.bl l).map some⟩
theorem rC (d : Ds) (l : List Ro) (s : Int) (i n : Nat) : roundE (P := Tryd.prog) (Γ := Γm) [] Lno false 2 0 lpC lvC [] 29 (SC d l s i n).1 (SC d l s i n).2 =
  Tree.br (decide ((↑i : Int) < (↑(List.length l) : Int))) (Tree.chk (decide ((0 : Int) ≤ (↑i : Int)) && decide ((↑i : Int) < (↑(List.length l) : Int))) (Tree.br (decide ((List.getD l ((0 :
    Nat) + i) default).st = s)) (Tree.leaf (Out.mk AEx.normal [AV.ptr (0 : Nat) (0 : Nat), AV.v (Value.int IntKind.i64 s), AV.v (Value.int IntKind.i64 (IntKind.wrap IntKind.i64 ((↑n : Int) +
    (1 : Int)))), AV.v (Value.int IntKind.i64 (IntKind.wrap IntKind.i64 ((↑i : Int) + (1 : Int))))] [some (Blk.row [AV.v (Value.string d.who), AV.v (Value.int IntKind.i64 d.most), AV.hs (1 :
    Nat) (0 : Nat) (List.length l), AV.v (Value.int IntKind.i64 d.now), AV.v (Value.int IntKind.i64 d.heard)]), some (Blk.arr (10 : Nat) (List.length l) (lsF Ro.c l))])) (Tree.leaf (Out.mk
    AEx.normal [AV.ptr (0 : Nat) (0 : Nat), AV.v (Value.int IntKind.i64 s), AV.v (Value.int IntKind.i64 (↑n : Int)), AV.v (Value.int IntKind.i64 (IntKind.wrap IntKind.i64 ((↑i : Int) + (1 :
    Int))))] [some (Blk.row [AV.v (Value.string d.who), AV.v (Value.int IntKind.i64 d.most), AV.hs (1 : Nat) (0 : Nat) (List.length l), AV.v (Value.int IntKind.i64 d.now), AV.v (Value.int
    IntKind.i64 d.heard)]), some (Blk.arr (10 : Nat) (List.length l) (lsF Ro.c l))])))) (Tree.leaf (Out.mk (AEx.exit (0 : Nat)) [AV.ptr (0 : Nat) (0 : Nat), AV.v (Value.int IntKind.i64 s),
    AV.v (Value.int IntKind.i64 (↑n : Int)), AV.v (Value.int IntKind.i64 (↑i : Int))] [some (Blk.row [AV.v (Value.string d.who), AV.v (Value.int IntKind.i64 d.most), AV.hs (1 : Nat) (0 :
    Nat) (List.length l), AV.v (Value.int IntKind.i64 d.now), AV.v (Value.int IntKind.i64 d.heard)]), some (Blk.arr (10 : Nat) (List.length l) (lsF Ro.c l))])) := by kernel_rfl
theorem runC (d : Ds) (l : List Ro) (s : Int) : bodyE (P := Tryd.prog) (Γ := Γm) [] (fun _ => LSpec.at lvC [] (SC d l s 0 0) (OC d l s)) false 29 [.tmp 4] (bodyOf Tryd.f71) [.ptr 0 0, .v (.int .i64 s)] (d.bl l) =
  Tree.chk (cl (LeL [AV.ptr (0 : Nat) (0 : Nat), AV.v (Value.int IntKind.i64 s), AV.v (Value.int IntKind.i64 (0 : Int)), AV.v (Value.int IntKind.i64 (0 : Int))] [AV.ptr (0 : Nat) (0 : Nat),
    AV.v (Value.int IntKind.i64 s), AV.v (Value.int IntKind.i64 (↑(0 : Nat) : Int)), AV.v (Value.int IntKind.i64 (↑(0 : Nat) : Int))] ∧ LeH [some (Blk.row [AV.v (Value.string d.who), AV.v
    (Value.int IntKind.i64 d.most), AV.hs (1 : Nat) (0 : Nat) (List.length l), AV.v (Value.int IntKind.i64 d.now), AV.v (Value.int IntKind.i64 d.heard)]), some (Blk.arr (10 : Nat)
    (List.length l) (lsF Ro.c l))] [some (Blk.row [AV.v (Value.string d.who), AV.v (Value.int IntKind.i64 d.most), AV.hs (1 : Nat) (0 : Nat) (List.length l), AV.v (Value.int IntKind.i64
    d.now), AV.v (Value.int IntKind.i64 d.heard)]), some (Blk.arr (10 : Nat) (List.length l) (lsF Ro.c l))])) (Tree.leaf (Ans.mk (AV.v (Value.int IntKind.i64 (↑(cnt s l) : Int))) [some
    (Blk.row [AV.v (Value.string d.who), AV.v (Value.int IntKind.i64 d.most), AV.hs (1 : Nat) (0 : Nat) (List.length l), AV.v (Value.int IntKind.i64 d.now), AV.v (Value.int IntKind.i64
    d.heard)]), some (Blk.arr (10 : Nat) (List.length l) (lsF Ro.c l))])) := by kernel_rfl
noncomputable abbrev lpD : Code := loopOf (bodyOf Tryd.f107) 0
abbrev lvD : List Nat := [2, 5, 6, 1]
def roV (r : Ro) : AV := .agg (Ro.c r)
def rowR (r : Ro) : Blk := .row (Ro.c r)
def SD (r : Ro) (n : Int) (g : Int) (i : Nat) : List AV × Heap := ([.ptr 0 0, .v (.int .i64 g), .v (.int .i64 (i : Int)), .v (.int .i64 n)], [some (rowR r)])
def OD (r : Ro) (n : Int) (g : Int) : Out := ⟨.exit 0, [.ptr 0 0, .v (.int .i64 g), .any, .v (.int .i64 n)], [some (rowR r)]⟩
theorem rD (r : Ro) (n g : Int) (i : Nat) : roundE (P := Tryd.prog) (Γ := Γm) [] Lno false 0 0 lpD lvD [] 41 (SD r n g i).1 (SD r n g i).2 =
  Tree.br (bif decide ((↑i : Int) < (↑(List.length r.tm) : Int)) then decide (g < (16 : Int)) else false) (Tree.leaf (Out.mk AEx.normal [AV.ptr (0 : Nat) (0 : Nat), AV.v (Value.int IntKind.i64
    (IntKind.wrap IntKind.i64 (g * (2 : Int)))), AV.v (Value.int IntKind.i64 (IntKind.wrap IntKind.i64 ((↑i : Int) + (1 : Int)))), AV.v (Value.int IntKind.i64 n)] [some (Blk.row [AV.v
    (Value.int IntKind.i64 r.tx.k), AV.v (Value.string r.tx.fr), AV.v (Value.string r.tx.to), AV.v (Value.string r.tx.ky), AV.v (Value.string r.tx.vl), AV.v (Value.int IntKind.i64 r.tx.am),
    AV.v (Value.int IntKind.i64 r.tx.nn), AV.v (Value.int IntKind.i64 r.st), AV.v (Value.int IntKind.i64 r.gv), AV.sl (1 : Nat) (List.length r.tm) (lsF Iv.c r.tm)])])) (Tree.leaf (Out.mk
    (AEx.exit (0 : Nat)) [AV.ptr (0 : Nat) (0 : Nat), AV.v (Value.int IntKind.i64 g), AV.v (Value.int IntKind.i64 (↑i : Int)), AV.v (Value.int IntKind.i64 n)] [some (Blk.row [AV.v (Value.int
    IntKind.i64 r.tx.k), AV.v (Value.string r.tx.fr), AV.v (Value.string r.tx.to), AV.v (Value.string r.tx.ky), AV.v (Value.string r.tx.vl), AV.v (Value.int IntKind.i64 r.tx.am), AV.v
    (Value.int IntKind.i64 r.tx.nn), AV.v (Value.int IntKind.i64 r.st), AV.v (Value.int IntKind.i64 r.gv), AV.sl (1 : Nat) (List.length r.tm) (lsF Iv.c r.tm)])])) := by kernel_rfl
theorem runD (r : Ro) (n g : Int) : bodyE (P := Tryd.prog) (Γ := Γm) [] (fun _ => LSpec.at lvD [] (SD r n 1 0) (OD r n g)) false 41 [.tmp 4] (bodyOf Tryd.f107) [roV r, .v (.int .i64 n)] [] =
  Tree.br (decide ((↑(List.length r.tm) : Int) = (0 : Int))) (Tree.leaf (Ans.mk (AV.sb (decide (IntKind.wrap IntKind.i64 (r.gv + (1 : Int)) ≤ n))) [])) (Tree.chk (cl (LeL [AV.ptr (0 : Nat) (0
    : Nat), AV.v (Value.int IntKind.i64 (1 : Int)), AV.v (Value.int IntKind.i64 (0 : Int)), AV.v (Value.int IntKind.i64 n)] [AV.ptr (0 : Nat) (0 : Nat), AV.v (Value.int IntKind.i64 (1 :
    Int)), AV.v (Value.int IntKind.i64 (↑(0 : Nat) : Int)), AV.v (Value.int IntKind.i64 n)] ∧ LeH [some (Blk.row [AV.v (Value.int IntKind.i64 r.tx.k), AV.v (Value.string r.tx.fr), AV.v
    (Value.string r.tx.to), AV.v (Value.string r.tx.ky), AV.v (Value.string r.tx.vl), AV.v (Value.int IntKind.i64 r.tx.am), AV.v (Value.int IntKind.i64 r.tx.nn), AV.v (Value.int IntKind.i64
    r.st), AV.v (Value.int IntKind.i64 r.gv), AV.sl (1 : Nat) (List.length r.tm) (lsF Iv.c r.tm)])] [some (Blk.row [AV.v (Value.int IntKind.i64 r.tx.k), AV.v (Value.string r.tx.fr), AV.v
    (Value.string r.tx.to), AV.v (Value.string r.tx.ky), AV.v (Value.string r.tx.vl), AV.v (Value.int IntKind.i64 r.tx.am), AV.v (Value.int IntKind.i64 r.tx.nn), AV.v (Value.int IntKind.i64
    r.st), AV.v (Value.int IntKind.i64 r.gv), AV.sl (1 : Nat) (List.length r.tm) (lsF Iv.c r.tm)])])) (Tree.chk (decide ((0 : Int) ≤ IntKind.wrap IntKind.i64 ((↑(List.length r.tm) : Int) -
    (1 : Int))) && decide (IntKind.wrap IntKind.i64 ((↑(List.length r.tm) : Int) - (1 : Int)) < (↑(List.length r.tm) : Int))) (Tree.leaf (Ans.mk (AV.sb (decide (IntKind.wrap IntKind.i64
    ((List.getD r.tm (Int.toNat (IntKind.wrap IntKind.i64 ((↑(List.length r.tm) : Int) - (1 : Int)))) default).n + g) ≤ n))) [])))) := by kernel_rfl
theorem runRN (who : ByteArray) (most : Int) (b : Bool) (hC : Answers Tryd.prog Γm 21 [.v (.string who)] [] (.sb b) [] []) : bodyE (P := Tryd.prog) (Γ := Γm) [CT.at 21 hC] Lno false 19 [.tmp 4, .tmp 5] (bodyOf Tryd.f66) [.v (.string who), .v (.int .i64 most)] [] =
  Tree.chk (cl (LeL [AV.v (Value.string who)] [AV.v (Value.string who)] ∧ LeH [] [])) (Tree.br (!b) (Tree.leaf (Ans.mk (AV.tup [AV.v (Value.pointer none), AV.v (Value.int IntKind.i64 (20 :
    Int))]) [])) (Tree.br (bif decide (most < (1 : Int)) then true else decide ((64 : Int) < most)) (Tree.leaf (Ans.mk (AV.tup [AV.v (Value.pointer none), AV.v (Value.int IntKind.i64 (1 :
    Int))]) [])) (Tree.leaf (Ans.mk (AV.tup [AV.ptr (0 : Nat) (0 : Nat), AV.v (Value.int IntKind.i64 (0 : Int))]) [some (Blk.row [AV.v (Value.string who), AV.v (Value.int IntKind.i64 most),
    AV.v (Value.slice none (0 : Nat) (0 : Nat)), AV.v (Value.int IntKind.i64 (0 : Int)), AV.v (Value.int IntKind.i64 (0 : Int))])])))) := by kernel_rfl
end Go.Eng.TA.C

namespace Go.Eng.TA.C
open Go Go.Eng Go.Eng.M Go.Lib Go.Proofs
theorem cnt_next {s : Int} {l : List Ro} {i : Nat} (h : i < l.length) : cnt s (l.take (i + 1)) = cnt s (l.take i) + (if (l.getD i default).st = s then 1 else 0) := by
  unfold cnt
  rw [take_next h, List.filter_append, List.length_append]
  congr 1
  by_cases e : (l.getD i default).st = s
  · rw [if_pos e, List.filter_cons_of_pos (by simpa using e)]; rfl
  · rw [if_neg e, List.filter_cons_of_neg (by simpa using e)]; rfl
theorem cnt_le (s : Int) (l : List Ro) : cnt s l ≤ l.length := List.length_filter_le _ _
theorem loopC {d : Ds} {l : List Ro} {s : Int} (hl : l.length ≤ 100000) : ∀ i : Nat, i ≤ l.length → LoopOK Tryd.prog Γm 2 29 lpC (LSpec.at lvC [] (SC d l s i (cnt s (l.take i))) (OC d l s)) := by
  refine loop_at (S := fun i => SC d l s i (cnt s (l.take i))) (pre := fun i => i ≤ l.length) (O := fun _ => OC d l s) (k := 0) (fun i => l.length - i) fun i hi => .of (noLoops (by kernel_rfl)) (rC d l s i (cnt s (l.take i))) ?_
  rcases Nat.lt_or_ge i l.length with h | h
  · have e1 : IntKind.i64.wrap ((i : Int) + 1) = ((i + 1 : Nat) : Int) := wrapUpN (by omega)
    have hc := cnt_next (s := s) h
    have hle : cnt s (l.take i) ≤ i := Nat.le_trans (cnt_le _ _) (by rw [List.length_take]; omega)
    have e2 : IntKind.i64.wrap ((cnt s (l.take i) : Int) + 1) = ((cnt s (l.take i) + 1 : Nat) : Int) := wrapUpN (by omega)
    simp only [Nat.zero_add, e1, e2]
    by_cases he : (l.getD i default).st = s
    · rw [if_pos he] at hc
      repeat' (first | refine wC (by first | omega | (simp only [W1, cond_true, cond_false, he]; first | done | omega)) ?_ | refine wT (by first | omega | (simp only [W1, cond_true, cond_false, he]; first | done | omega)) ?_ | refine wF (by intro _h; first | omega | (simp only [W1, cond_true, cond_false, he] at _h; first | done | omega)) ?_ | (refine wS ?_ ?_ <;> intro _h <;> simp only [W1, cond_true, cond_false, he] at _h))
      all_goals simp only [W1, W2, owesN, owesX, owesR, cond_true, cond_false, he]
      repeat' (first | apply And.intro | intro _hc)
      all_goals first | ((refine ⟨i + 1, ?_, LeH.refl _, h, Nat.sub_lt_sub_left h (Nat.lt_succ_self i)⟩; rw [hc]; exact LeL.refl _)) | exact AV.le_refl _ | exact AV.le_any _ | exact OLe.refl _ | exact OLe.none _ | exact LeH.refl _ | exact LeL.refl _ | exact AV.le.bs _ | exact AV.le.sb _ | omega | contradiction
    · rw [if_neg he, Nat.add_zero] at hc
      repeat' (first | refine wC (by first | omega | (simp only [W1, cond_true, cond_false, he]; first | done | omega)) ?_ | refine wT (by first | omega | (simp only [W1, cond_true, cond_false, he]; first | done | omega)) ?_ | refine wF (by intro _h; first | omega | (simp only [W1, cond_true, cond_false, he] at _h; first | done | omega)) ?_ | (refine wS ?_ ?_ <;> intro _h <;> simp only [W1, cond_true, cond_false, he] at _h))
      all_goals simp only [W1, W2, owesN, owesX, owesR, cond_true, cond_false, he]
      repeat' (first | apply And.intro | intro _hc)
      all_goals first | ((refine ⟨i + 1, ?_, LeH.refl _, h, Nat.sub_lt_sub_left h (Nat.lt_succ_self i)⟩; rw [hc]; exact LeL.refl _)) | exact AV.le_refl _ | exact AV.le_any _ | exact OLe.refl _ | exact OLe.none _ | exact LeH.refl _ | exact LeL.refl _ | exact AV.le.bs _ | exact AV.le.sb _ | omega | contradiction
  · obtain rfl : i = l.length := by omega
    rw [List.take_of_length_le (Nat.le_refl _)]
    repeat' (first | refine wC (by first | omega | (simp only [W1, cond_true, cond_false]; first | done | omega)) ?_ | refine wT (by first | omega | (simp only [W1, cond_true, cond_false]; first | done | omega)) ?_ | refine wF (by intro _h; first | omega | (simp only [W1, cond_true, cond_false] at _h; first | done | omega)) ?_ | (refine wS ?_ ?_ <;> intro _h <;> simp only [W1, cond_true, cond_false] at _h))
    all_goals simp only [W1, W2, owesN, owesX, owesR, cond_true, cond_false]
    repeat' (first | apply And.intro | intro _hc)
    all_goals first | exact rfl | exact ⟨.any _, .any _, .refl _, .any _, trivial⟩ | exact AV.le_refl _ | exact AV.le_any _ | exact OLe.refl _ | exact OLe.none _ | exact LeH.refl _ | exact LeL.refl _ | exact AV.le.bs _ | exact AV.le.sb _ | omega | contradiction
theorem ansC {d : Ds} {l : List Ro} (s : Int) (hl : l.length ≤ 100000) : Answers Tryd.prog Γm 71 [.ptr 0 0, .v (.int .i64 s)] (d.bl l) (.v (.int .i64 (cnt s l : Int))) ((d.bl l).map some) [] := by
  refine answers (fn := Tryd.f71) (c := bodyOf Tryd.f71) (ntmps := 29) (results := [.tmp 4]) [] (fun _ => LSpec.at lvC [] (SC d l s 0 0) (OC d l s)) false Tryd.func71 (by kernel_rfl) (by kernel_rfl) (by kernel_rfl) (by kernel_rfl) (by simp) rfl (oneLoop (b := lpC) (by kernel_rfl) (loopC hl 0 (Nat.zero_le _))) <| Meets.of (runC d l s) <| ?_
  repeat' (first | refine wC (by first | omega | (simp only [W1, cond_true, cond_false]; first | done | omega)) ?_ | refine wT (by first | omega | (simp only [W1, cond_true, cond_false]; first | done | omega)) ?_ | refine wF (by intro _h; first | omega | (simp only [W1, cond_true, cond_false] at _h; first | done | omega)) ?_ | (refine wS ?_ ?_ <;> intro _h <;> simp only [W1, cond_true, cond_false] at _h))
  all_goals simp only [W1, W2, owesN, owesX, owesR, cond_true, cond_false]
  repeat' (first | apply And.intro | intro _hc)
  all_goals first | exact AV.le_refl _ | exact AV.le_any _ | exact OLe.refl _ | exact OLe.none _ | exact LeH.refl _ | exact LeL.refl _ | exact AV.le.bs _ | exact AV.le.sb _ | omega | contradiction
def gp : Nat → Int
  | 0 => 1
  | 1 => 2
  | 2 => 4
  | 3 => 8
  | _ + 4 => 16
theorem gp_le (i : Nat) : 1 ≤ gp i ∧ gp i ≤ 16 := by
  match i with
  | 0 => decide
  | 1 => decide
  | 2 => decide
  | 3 => decide
  | _ + 4 => show (1 : Int) ≤ 16 ∧ (16 : Int) ≤ 16; decide
theorem gp_next {i : Nat} (h : gp i < 16) : gp (i + 1) = gp i * 2 := by
  match i, h with
  | 0, _ => rfl
  | 1, _ => rfl
  | 2, _ => rfl
  | 3, _ => rfl
  | _ + 4, h => exact absurd h (by show ¬ (16 : Int) < 16; decide)
theorem gp_four {i : Nat} (h : 4 ≤ i) : gp i = 16 := by
  obtain ⟨k, rfl⟩ : ∃ k, i = k + 4 := ⟨i - 4, by omega⟩
  rfl
theorem gp_small {i : Nat} (h : gp i < 16) : i < 4 := by
  rcases Nat.lt_or_ge i 4 with k | k
  · exact k
  · rw [gp_four k] at h; omega
theorem gp_big {i n : Nat} (h : ¬ gp i < 16) (hn : i ≤ n) : gp n = gp i := by
  have h1 := gp_le i
  have hi : 4 ≤ i := by
    match i, h with
    | 0, h => exact absurd (by decide) h
    | 1, h => exact absurd (by decide) h
    | 2, h => exact absurd (by decide) h
    | 3, h => exact absurd (by decide) h
    | _ + 4, _ => omega
  rw [gp_four hi, gp_four (by omega)]
attribute [irreducible] gp
theorem loopD {r : Ro} {n : Int} (hl : r.tm.length ≤ 100000) : ∀ i : Nat, i ≤ r.tm.length → LoopOK Tryd.prog Γm 0 41 lpD (LSpec.at lvD [] (SD r n (gp i) i) (OD r n (gp r.tm.length))) := by
  refine loop_at (S := fun i => SD r n (gp i) i) (pre := fun i => i ≤ r.tm.length) (O := fun _ => OD r n (gp r.tm.length)) (k := 0) (fun i => r.tm.length - i) fun i hi => .of (noLoops (by kernel_rfl)) (rD r n (gp i) i) ?_
  obtain ⟨g1, g2⟩ := gp_le i
  rcases Nat.lt_or_ge i r.tm.length with h | h
  · have e1 : IntKind.i64.wrap ((i : Int) + 1) = ((i + 1 : Nat) : Int) := wrapUpN (by omega)
    have e2 : IntKind.i64.wrap (gp i * 2) = gp i * 2 := wrap64 (by omega) (by omega)
    simp only [e1, e2]
    have hb : decide ((i : Int) < (r.tm.length : Int)) = true := decide_eq_true (by omega)
    by_cases hg : gp i < 16
    · have hn := gp_next hg
      rw [hb, decide_eq_true hg]
      repeat' (first | refine wC (by first | omega | (simp only [W1, cond_true, cond_false]; first | done | omega)) ?_ | refine wT (by first | omega | (simp only [W1, cond_true, cond_false]; first | done | omega)) ?_ | refine wF (by intro _h; first | omega | (simp only [W1, cond_true, cond_false] at _h; first | done | omega)) ?_ | (refine wS ?_ ?_ <;> intro _h <;> simp only [W1, cond_true, cond_false] at _h))
      all_goals simp only [W1, W2, owesN, owesX, owesR, cond_true, cond_false]
      repeat' (first | apply And.intro | intro _hc)
      all_goals first | ((refine ⟨i + 1, ?_, LeH.refl _, h, Nat.sub_lt_sub_left h (Nat.lt_succ_self i)⟩; rw [hn]; exact LeL.refl _)) | exact AV.le_refl _ | exact AV.le_any _ | exact OLe.refl _ | exact OLe.none _ | exact LeH.refl _ | exact LeL.refl _ | exact AV.le.bs _ | exact AV.le.sb _ | omega | contradiction
    · have hn := gp_big hg hi
      rw [hb, decide_eq_false hg, hn]
      repeat' (first | refine wC (by first | omega | (simp only [W1, cond_true, cond_false]; first | done | omega)) ?_ | refine wT (by first | omega | (simp only [W1, cond_true, cond_false]; first | done | omega)) ?_ | refine wF (by intro _h; first | omega | (simp only [W1, cond_true, cond_false] at _h; first | done | omega)) ?_ | (refine wS ?_ ?_ <;> intro _h <;> simp only [W1, cond_true, cond_false] at _h))
      all_goals simp only [W1, W2, owesN, owesX, owesR, cond_true, cond_false]
      repeat' (first | apply And.intro | intro _hc)
      all_goals first | exact rfl | exact AV.le_refl _ | exact AV.le_any _ | exact OLe.refl _ | exact OLe.none _ | exact LeH.refl _ | exact LeL.refl _ | exact AV.le.bs _ | exact AV.le.sb _ | omega | contradiction
  · obtain rfl : i = r.tm.length := by omega
    have hb : decide ((r.tm.length : Int) < (r.tm.length : Int)) = false := decide_eq_false (by omega)
    rw [hb]
    repeat' (first | refine wC (by first | omega | (simp only [W1, cond_true, cond_false]; first | done | omega)) ?_ | refine wT (by first | omega | (simp only [W1, cond_true, cond_false]; first | done | omega)) ?_ | refine wF (by intro _h; first | omega | (simp only [W1, cond_true, cond_false] at _h; first | done | omega)) ?_ | (refine wS ?_ ?_ <;> intro _h <;> simp only [W1, cond_true, cond_false] at _h))
    all_goals simp only [W1, W2, owesN, owesX, owesR, cond_true, cond_false]
    repeat' (first | apply And.intro | intro _hc)
    all_goals first | exact rfl | exact AV.le_refl _ | exact AV.le_any _ | exact OLe.refl _ | exact OLe.none _ | exact LeH.refl _ | exact LeL.refl _ | exact AV.le.bs _ | exact AV.le.sb _ | omega | contradiction
def dueR (r : Ro) : Int := if r.tm.length = 0 then r.gv + 1 else (r.tm.getD (r.tm.length - 1) default).n + gp r.tm.length
def okR (r : Ro) : Prop := r.tm.length ≤ 100000 ∧ (-1000000 ≤ r.gv ∧ r.gv ≤ 1000000) ∧ ∀ j, -1000000 ≤ (r.tm.getD j default).n ∧ (r.tm.getD j default).n ≤ 1000000
theorem ansD {r : Ro} {n : Int} (h : okR r) : Answers Tryd.prog Γm 107 [roV r, .v (.int .i64 n)] [] (.sb (decide (dueR r ≤ n))) [] [] := by
  obtain ⟨h1, h2, h3⟩ := h
  obtain ⟨g1, g2⟩ := gp_le r.tm.length
  refine answers (fn := Tryd.f107) (c := bodyOf Tryd.f107) (ntmps := 41) (results := [.tmp 4]) [] (fun _ => LSpec.at lvD [] (SD r n 1 0) (OD r n (gp r.tm.length))) false Tryd.func107 (by kernel_rfl) (by kernel_rfl) (by kernel_rfl) (by kernel_rfl) (by simp) rfl (oneLoop (b := lpD) (by kernel_rfl) (by have := loopD (n := n) h1 0 (Nat.zero_le _); rwa [show gp 0 = 1 by unfold gp; rfl] at this)) <| Meets.of (runD r n (gp r.tm.length)) <| ?_
  have w1 : IntKind.i64.wrap (r.gv + 1) = r.gv + 1 := wrap64 (by omega) (by omega)
  unfold dueR
  by_cases hz : r.tm.length = 0
  · rw [if_pos hz]
    have hq : decide ((r.tm.length : Int) = 0) = true := decide_eq_true (by omega)
    simp only [w1, hq]
    repeat' (first | refine wC (by first | omega | (simp only [W1, cond_true, cond_false]; first | done | omega)) ?_ | refine wT (by first | omega | (simp only [W1, cond_true, cond_false]; first | done | omega)) ?_ | refine wF (by intro _h; first | omega | (simp only [W1, cond_true, cond_false] at _h; first | done | omega)) ?_ | (refine wS ?_ ?_ <;> intro _h <;> simp only [W1, cond_true, cond_false] at _h))
    all_goals simp only [W1, W2, owesN, owesX, owesR, cond_true, cond_false]
    repeat' (first | apply And.intro | intro _hc)
    all_goals first | exact AV.le_refl _ | exact AV.le_any _ | exact OLe.refl _ | exact OLe.none _ | exact LeH.refl _ | exact LeL.refl _ | exact AV.le.bs _ | exact AV.le.sb _ | omega | contradiction
  · have hq : decide ((r.tm.length : Int) = 0) = false := decide_eq_false (by omega)
    rw [if_neg hz]
    have w2 : IntKind.i64.wrap ((r.tm.length : Int) - 1) = (r.tm.length : Int) - 1 := wrap64 (by omega) (by omega)
    have w3 : ((r.tm.length : Int) - 1).toNat = r.tm.length - 1 := by omega
    have hj := h3 (r.tm.length - 1)
    have w4 : IntKind.i64.wrap ((r.tm.getD (r.tm.length - 1) default).n + gp r.tm.length) = (r.tm.getD (r.tm.length - 1) default).n + gp r.tm.length := wrap64 (by omega) (by omega)
    simp only [hq, w2, w3, w4]
    repeat' (first | refine wC (by first | omega | (simp only [W1, cond_true, cond_false]; first | done | omega)) ?_ | refine wT (by first | omega | (simp only [W1, cond_true, cond_false]; first | done | omega)) ?_ | refine wF (by intro _h; first | omega | (simp only [W1, cond_true, cond_false] at _h; first | done | omega)) ?_ | (refine wS ?_ ?_ <;> intro _h <;> simp only [W1, cond_true, cond_false] at _h))
    all_goals simp only [W1, W2, owesN, owesX, owesR, cond_true, cond_false]
    repeat' (first | apply And.intro | intro _hc)
    all_goals first | exact AV.le_refl _ | exact AV.le_any _ | exact OLe.refl _ | exact OLe.none _ | exact LeH.refl _ | exact LeL.refl _ | exact AV.le.bs _ | exact AV.le.sb _ | omega | contradiction
def newD (who : ByteArray) (most : Int) : Blk := .row [.v (.string who), .v (.int .i64 most), .v (.slice none 0 0), .v (.int .i64 0), .v (.int .i64 0)]
theorem ansRN {who : ByteArray} {most : Int} (hw : who.size ≤ 10000000) (hb : nameB who = true) (h1 : 1 ≤ most) (h2 : most ≤ 64) : Answers Tryd.prog Γm 66 [.v (.string who), .v (.int .i64 most)] [] (.tup [.ptr 0 0, .v (.int .i64 0)]) [] [newD who most] := by
  have hC := ansChkR (s := who) (by omega)
  refine answers (fn := Tryd.f66) (c := bodyOf Tryd.f66) (ntmps := 19) (results := [.tmp 4, .tmp 5]) [CT.at 21 hC] (Lno) false Tryd.func66 (by kernel_rfl) (by kernel_rfl) (by kernel_rfl) (by kernel_rfl) (by simp) rfl (failOK fun _ _ _ => rfl) <| Meets.of (runRN who most _ hC) <| ?_
  have hq : (bif decide (most < (1 : Int)) then true else decide ((64 : Int) < most)) = false := by rw [decide_eq_false (by omega), decide_eq_false (by omega)]; rfl
  simp only [hb, hq]
  unfold newD
  repeat' (first | refine wC (by first | omega | (simp only [W1, cond_true, cond_false]; first | done | omega)) ?_ | refine wT (by first | omega | (simp only [W1, cond_true, cond_false]; first | done | omega)) ?_ | refine wF (by intro _h; first | omega | (simp only [W1, cond_true, cond_false] at _h; first | done | omega)) ?_ | (refine wS ?_ ?_ <;> intro _h <;> simp only [W1, cond_true, cond_false] at _h))
  all_goals simp only [W1, W2, owesN, owesX, owesR, cond_true, cond_false]
  repeat' (first | apply And.intro | intro _hc)
  all_goals first | exact cl_iff.2 ⟨LeL.refl _, trivial⟩ | exact tup2 (.refl _) (leI rfl) | exact AV.le_refl _ | exact AV.le_any _ | exact OLe.refl _ | exact OLe.none _ | exact LeH.refl _ | exact LeL.refl _ | exact AV.le.bs _ | exact AV.le.sb _ | omega | contradiction
theorem ansRN0 {who : ByteArray} {most : Int} (hw : who.size ≤ 10000000) (hb : nameB who = false) : Answers Tryd.prog Γm 66 [.v (.string who), .v (.int .i64 most)] [] (.tup [.v (.pointer none), .v (.int .i64 20)]) [] [] := by
  have hC := ansChkR (s := who) (by omega)
  refine answers (fn := Tryd.f66) (c := bodyOf Tryd.f66) (ntmps := 19) (results := [.tmp 4, .tmp 5]) [CT.at 21 hC] (Lno) false Tryd.func66 (by kernel_rfl) (by kernel_rfl) (by kernel_rfl) (by kernel_rfl) (by simp) rfl (failOK fun _ _ _ => rfl) <| Meets.of (runRN who most _ hC) <| ?_
  simp only [hb]
  repeat' (first | refine wC (by first | omega | (simp only [W1, cond_true, cond_false]; first | done | omega)) ?_ | refine wT (by first | omega | (simp only [W1, cond_true, cond_false]; first | done | omega)) ?_ | refine wF (by intro _h; first | omega | (simp only [W1, cond_true, cond_false] at _h; first | done | omega)) ?_ | (refine wS ?_ ?_ <;> intro _h <;> simp only [W1, cond_true, cond_false] at _h))
  all_goals simp only [W1, W2, owesN, owesX, owesR, cond_true, cond_false]
  repeat' (first | apply And.intro | intro _hc)
  all_goals first | exact cl_iff.2 ⟨LeL.refl _, trivial⟩ | exact tup2 (.refl _) (leI rfl) | exact AV.le_refl _ | exact AV.le_any _ | exact OLe.refl _ | exact OLe.none _ | exact LeH.refl _ | exact LeL.refl _ | exact AV.le.bs _ | exact AV.le.sb _ | omega | contradiction
theorem ansRN1 {who : ByteArray} {most : Int} (hw : who.size ≤ 10000000) (hb : nameB who = true) (h1 : most < 1 ∨ 64 < most) : Answers Tryd.prog Γm 66 [.v (.string who), .v (.int .i64 most)] [] (.tup [.v (.pointer none), .v (.int .i64 1)]) [] [] := by
  have hC := ansChkR (s := who) (by omega)
  refine answers (fn := Tryd.f66) (c := bodyOf Tryd.f66) (ntmps := 19) (results := [.tmp 4, .tmp 5]) [CT.at 21 hC] (Lno) false Tryd.func66 (by kernel_rfl) (by kernel_rfl) (by kernel_rfl) (by kernel_rfl) (by simp) rfl (failOK fun _ _ _ => rfl) <| Meets.of (runRN who most _ hC) <| ?_
  have hq : (bif decide (most < (1 : Int)) then true else decide ((64 : Int) < most)) = true := by rcases h1 with h | h <;> simp [h]
  simp only [hb, hq]
  repeat' (first | refine wC (by first | omega | (simp only [W1, cond_true, cond_false]; first | done | omega)) ?_ | refine wT (by first | omega | (simp only [W1, cond_true, cond_false]; first | done | omega)) ?_ | refine wF (by intro _h; first | omega | (simp only [W1, cond_true, cond_false] at _h; first | done | omega)) ?_ | (refine wS ?_ ?_ <;> intro _h <;> simp only [W1, cond_true, cond_false] at _h))
  all_goals simp only [W1, W2, owesN, owesX, owesR, cond_true, cond_false]
  repeat' (first | apply And.intro | intro _hc)
  all_goals first | exact cl_iff.2 ⟨LeL.refl _, trivial⟩ | exact tup2 (.refl _) (leI rfl) | exact AV.le_refl _ | exact AV.le_any _ | exact OLe.refl _ | exact OLe.none _ | exact LeH.refl _ | exact LeL.refl _ | exact AV.le.bs _ | exact AV.le.sb _ | omega | contradiction
end Go.Eng.TA.C

namespace Go.Eng
open Go
section
variable {P : Program} {Γ : Nat → AV}
theorem outOf_nil : ∀ H : List Blk, outOf H [] = H.map some
  | [] => rfl
  | b :: H => by show some b :: outOf H [] = _; rw [outOf_nil H]; rfl
noncomputable def CT.atN (f : FuncId) {a0 : List AV} {H0 : List Blk} {v : AV} {new : List Blk} (h : Answers P Γ f a0 H0 v (H0.map some) new) : CT P Γ where
  f := f
  spec := fun args Hin => .chk (cl (args = a0 ∧ Hin = H0)) (.leaf { val := v, upd := [], new := new })
  enters := h.enters
  ok := fun args Hin r hr => by
    obtain ⟨h1, hr⟩ := Tree.chk_get hr
    obtain rfl := Tree.leaf_get hr
    obtain ⟨rfl, rfl⟩ := cl_iff.1 h1
    exact h.cU (outOf_nil _)
end
end Go.Eng
namespace Go.Eng
open Go
section
variable {P : Program} {Γ : Nat → AV}
noncomputable def famSpec {X : Type} (ext : List AV → Option X) (H0 : List Blk) (v : X → AV) (args : List AV) (Hin : List Blk) : Tree Res :=
  match ext args with
  | some x => .chk (cl (Hin = H0)) (.leaf { val := v x })
  | none => .fail
noncomputable def CT.famN {X : Type} (f : FuncId) (ext : List AV → Option X) (H0 : List Blk) (v : X → AV) (enters : ∀ (args : Array Value) (w : World), (callFunc f args).run P w = .ok (.enter f args) w)
    (h : ∀ args x, ext args = some x → Answers P Γ f args H0 (v x) (H0.map some) []) : CT P Γ where
  f := f
  spec := famSpec ext H0 v
  enters := enters
  ok := fun args Hin r hr => by
    unfold famSpec at hr
    split at hr
    · rename_i x hx
      obtain ⟨h1, hr⟩ := Tree.chk_get hr
      obtain rfl := Tree.leaf_get hr
      have := cl_iff.1 h1
      subst this
      exact (h args x hx).cU (outOf_nil _)
    · simp [Tree.get] at hr
end
end Go.Eng

namespace Go.Eng.TA.C
open Go Go.Eng Go.Eng.M Go.Lib Go.Proofs
theorem runRG (d : Ds) (l : List Ro) (t : Tx) (n : Int) (hC : Answers Tryd.prog Γm 71 [.ptr 0 0, .v (.int .i64 0)] (d.bl l) (.v (.int .i64 n)) ((d.bl l).map some) []) : bodyE (P := Tryd.prog) (Γ := Γm) [CT.atN 71 hC, kTxR] Lno false 46 [.cell 4 40, .tmp 5] (bodyOf Tryd.f67) [.ptr 0 0, txV t] (d.bl l) =
  Tree.chk (cl ([AV.ptr (0 : Nat) (0 : Nat), AV.v (Value.int IntKind.i64 (0 : Int))] = [AV.ptr (0 : Nat) (0 : Nat), AV.v (Value.int IntKind.i64 (0 : Int))] ∧ [Blk.row [AV.v (Value.string
    d.who), AV.v (Value.int IntKind.i64 d.most), AV.hs (1 : Nat) (0 : Nat) (List.length l), AV.v (Value.int IntKind.i64 d.now), AV.v (Value.int IntKind.i64 d.heard)], Blk.arr (10 : Nat)
    (List.length l) (lsF Ro.c l)] = [Blk.row [AV.v (Value.string d.who), AV.v (Value.int IntKind.i64 d.most), AV.hs (1 : Nat) (0 : Nat) (List.length l), AV.v (Value.int IntKind.i64 d.now),
    AV.v (Value.int IntKind.i64 d.heard)], Blk.arr (10 : Nat) (List.length l) (lsF Ro.c l)])) (Tree.br (decide (d.most ≤ n)) (Tree.leaf (Ans.mk (AV.tup [AV.agg [AV.v (Value.int IntKind.i64
    (0 : Int)), AV.v (Value.string (ByteArray.mk #[])), AV.v (Value.string (ByteArray.mk #[])), AV.v (Value.string (ByteArray.mk #[])), AV.v (Value.string (ByteArray.mk #[])), AV.v
    (Value.int IntKind.i64 (0 : Int)), AV.v (Value.int IntKind.i64 (0 : Int))], AV.v (Value.int IntKind.i64 (101 : Int))]) [some (Blk.row [AV.v (Value.string d.who), AV.v (Value.int
    IntKind.i64 d.most), AV.hs (1 : Nat) (0 : Nat) (List.length l), AV.v (Value.int IntKind.i64 d.now), AV.v (Value.int IntKind.i64 d.heard)]), some (Blk.arr (10 : Nat) (List.length l) (lsF
    Ro.c l))])) (Tree.chk (cl (smallT (Tx.mk t.k d.who t.to t.ky t.vl t.am (IntKind.wrap IntKind.i64 ((↑(List.length l) : Int) + (1 : Int)))) ∧ LeL [AV.agg [AV.v (Value.int IntKind.i64 t.k),
    AV.v (Value.string d.who), AV.v (Value.string t.to), AV.v (Value.string t.ky), AV.v (Value.string t.vl), AV.v (Value.int IntKind.i64 t.am), AV.v (Value.int IntKind.i64 (IntKind.wrap
    IntKind.i64 ((↑(List.length l) : Int) + (1 : Int))))]] [AV.agg [AV.v (Value.int IntKind.i64 t.k), AV.v (Value.string d.who), AV.v (Value.string t.to), AV.v (Value.string t.ky), AV.v
    (Value.string t.vl), AV.v (Value.int IntKind.i64 t.am), AV.v (Value.int IntKind.i64 (IntKind.wrap IntKind.i64 ((↑(List.length l) : Int) + (1 : Int))))]] ∧ LeH [] [])) (Tree.br (!txB
    (Tx.mk t.k d.who t.to t.ky t.vl t.am (IntKind.wrap IntKind.i64 ((↑(List.length l) : Int) + (1 : Int))))) (Tree.leaf (Ans.mk (AV.tup [AV.agg [AV.v (Value.int IntKind.i64 (0 : Int)), AV.v
    (Value.string (ByteArray.mk #[])), AV.v (Value.string (ByteArray.mk #[])), AV.v (Value.string (ByteArray.mk #[])), AV.v (Value.string (ByteArray.mk #[])), AV.v (Value.int IntKind.i64 (0
    : Int)), AV.v (Value.int IntKind.i64 (0 : Int))], AV.v (Value.int IntKind.i64 (80 : Int))]) [some (Blk.row [AV.v (Value.string d.who), AV.v (Value.int IntKind.i64 d.most), AV.hs (1 :
    Nat) (0 : Nat) (List.length l), AV.v (Value.int IntKind.i64 d.now), AV.v (Value.int IntKind.i64 d.heard)]), some (Blk.arr (10 : Nat) (List.length l) (lsF Ro.c l))])) (Tree.chk (roomOk
    (128 : Nat) (List.length l + (1 : Nat))) (Tree.leaf (Ans.mk (AV.tup [AV.agg [AV.v (Value.int IntKind.i64 t.k), AV.v (Value.string d.who), AV.v (Value.string t.to), AV.v (Value.string
    t.ky), AV.v (Value.string t.vl), AV.v (Value.int IntKind.i64 t.am), AV.v (Value.int IntKind.i64 (IntKind.wrap IntKind.i64 ((↑(List.length l) : Int) + (1 : Int))))], AV.v (Value.int
    IntKind.i64 (0 : Int))]) [some (Blk.row [AV.v (Value.string d.who), AV.v (Value.int IntKind.i64 d.most), AV.hs (2 : Nat) (0 : Nat) (List.length l + (1 : Nat)), AV.v (Value.int
    IntKind.i64 d.now), AV.v (Value.int IntKind.i64 d.heard)]), none, some (Blk.arr (10 : Nat) (List.length l + (1 : Nat)) fun j => mixL (decide (j < List.length l)) (lsF Ro.c l ((0 : Nat) +
    j)) (chain [AV.v (Value.int IntKind.i64 (0 : Int)), AV.v (Value.string (ByteArray.mk #[])), AV.v (Value.string (ByteArray.mk #[])), AV.v (Value.string (ByteArray.mk #[])), AV.v
    (Value.string (ByteArray.mk #[])), AV.v (Value.int IntKind.i64 (0 : Int)), AV.v (Value.int IntKind.i64 (0 : Int)), AV.v (Value.int IntKind.i64 (0 : Int)), AV.v (Value.int IntKind.i64 (0
    : Int)), AV.v (Value.slice none (0 : Nat) (0 : Nat))] (0 : Nat) [[AV.v (Value.int IntKind.i64 t.k), AV.v (Value.string d.who), AV.v (Value.string t.to), AV.v (Value.string t.ky), AV.v
    (Value.string t.vl), AV.v (Value.int IntKind.i64 t.am), AV.v (Value.int IntKind.i64 (IntKind.wrap IntKind.i64 ((↑(List.length l) : Int) + (1 : Int)))), AV.v (Value.int IntKind.i64 (0 :
    Int)), AV.v (Value.int IntKind.i64 d.now), AV.v (Value.slice none (0 : Nat) (0 : Nat))]] ((0 : Nat) + (j - List.length l))))])))))) := by kernel_rfl
noncomputable abbrev lpK : Code := loopOf (bodyOf Tryd.f68) 0
abbrev lvK : List Nat := [0, 3, 4]
def SK (d : Ds) (l : List Ro) (i : Nat) (o : List Tx) : List AV × Heap := ([.ptr 0 0, .hs 2 0 o.length, .v (.int .i64 (i : Int))], (d.bl l ++ [lsT o]).map some)
theorem rK (d : Ds) (l : List Ro) (i : Nat) (o : List Tx) (b : Bool) (hD : Answers Tryd.prog Γm 107 [roV (l.getD i default), .v (.int .i64 d.now)] [] (.sb b) [] []) : roundE (P := Tryd.prog) (Γ := Γm) [CT.at 107 hD] Lno false 2 0 lpK lvK [(1, 40)] 79 (SK d l i o).1 (SK d l i o).2 =
  Tree.br (decide ((↑i : Int) < (↑(List.length l) : Int))) (Tree.chk (decide ((0 : Int) ≤ (↑i : Int)) && decide ((↑i : Int) < (↑(List.length l) : Int)) && bif decide ((List.getD l ((0 : Nat) +
    i) default).st = (0 : Int)) then decide ((0 : Int) ≤ (↑i : Int)) && decide ((↑i : Int) < (↑(List.length l) : Int)) && cl (LeL [AV.agg [AV.v (Value.int IntKind.i64 (List.getD l ((0 : Nat)
    + i) default).tx.k), AV.v (Value.string (List.getD l ((0 : Nat) + i) default).tx.fr), AV.v (Value.string (List.getD l ((0 : Nat) + i) default).tx.to), AV.v (Value.string (List.getD l ((0
    : Nat) + i) default).tx.ky), AV.v (Value.string (List.getD l ((0 : Nat) + i) default).tx.vl), AV.v (Value.int IntKind.i64 (List.getD l ((0 : Nat) + i) default).tx.am), AV.v (Value.int
    IntKind.i64 (List.getD l ((0 : Nat) + i) default).tx.nn), AV.v (Value.int IntKind.i64 (List.getD l ((0 : Nat) + i) default).st), AV.v (Value.int IntKind.i64 (List.getD l ((0 : Nat) + i)
    default).gv), AV.sl (1 : Nat) (List.length (List.getD l ((0 : Nat) + Int.toNat (↑i : Int)) default).tm) (lsF Iv.c (List.getD l ((0 : Nat) + Int.toNat (↑i : Int)) default).tm)], AV.v
    (Value.int IntKind.i64 d.now)] [AV.agg [AV.v (Value.int IntKind.i64 (List.getD l i default).tx.k), AV.v (Value.string (List.getD l i default).tx.fr), AV.v (Value.string (List.getD l i
    default).tx.to), AV.v (Value.string (List.getD l i default).tx.ky), AV.v (Value.string (List.getD l i default).tx.vl), AV.v (Value.int IntKind.i64 (List.getD l i default).tx.am), AV.v
    (Value.int IntKind.i64 (List.getD l i default).tx.nn), AV.v (Value.int IntKind.i64 (List.getD l i default).st), AV.v (Value.int IntKind.i64 (List.getD l i default).gv), AV.sl (1 : Nat)
    (List.length (List.getD l i default).tm) (lsF Iv.c (List.getD l i default).tm)], AV.v (Value.int IntKind.i64 d.now)] ∧ LeH [] []) else true) (Tree.br (bif decide ((List.getD l ((0 : Nat)
    + i) default).st = (0 : Int)) then b else false) (Tree.chk (decide ((0 : Int) ≤ (↑i : Int)) && decide ((↑i : Int) < (↑(List.length l) : Int))) (Tree.chk (roomOk (88 : Nat) (List.length o
    + (1 : Nat))) (Tree.chk (decide ((0 : Int) ≤ (↑i : Int)) && decide ((↑i : Int) < (↑(List.length l) : Int))) (Tree.chk (roomOk (8 : Nat) ((0 : Nat) + List.length (List.getD l ((0 : Nat) +
    Int.toNat (↑i : Int)) default).tm)) (Tree.chk (roomOk (8 : Nat) ((0 : Nat) + List.length (List.getD l ((0 : Nat) + Int.toNat (↑i : Int)) default).tm + (1 : Nat))) (Tree.chk (decide ((0 :
    Int) ≤ (↑i : Int)) && decide ((↑i : Int) < (↑(List.length l) : Int))) (Tree.leaf (Out.mk AEx.normal [AV.ptr (0 : Nat) (0 : Nat), AV.hs (2 : Nat) (0 : Nat) (List.length o + (1 : Nat)),
    AV.v (Value.int IntKind.i64 (IntKind.wrap IntKind.i64 ((↑i : Int) + (1 : Int))))] [some (Blk.row [AV.v (Value.string d.who), AV.v (Value.int IntKind.i64 d.most), AV.hs (1 : Nat) (0 :
    Nat) (List.length l), AV.v (Value.int IntKind.i64 d.now), AV.v (Value.int IntKind.i64 d.heard)]), some (Blk.arr (10 : Nat) (List.length l) fun k => mixL (Nat.beq k ((0 : Nat) + i)) [AV.v
    (Value.int IntKind.i64 (List.getD l ((0 : Nat) + i) default).tx.k), AV.v (Value.string (List.getD l ((0 : Nat) + i) default).tx.fr), AV.v (Value.string (List.getD l ((0 : Nat) + i)
    default).tx.to), AV.v (Value.string (List.getD l ((0 : Nat) + i) default).tx.ky), AV.v (Value.string (List.getD l ((0 : Nat) + i) default).tx.vl), AV.v (Value.int IntKind.i64 (List.getD
    l ((0 : Nat) + i) default).tx.am), AV.v (Value.int IntKind.i64 (List.getD l ((0 : Nat) + i) default).tx.nn), AV.v (Value.int IntKind.i64 (List.getD l ((0 : Nat) + i) default).st), AV.v
    (Value.int IntKind.i64 (List.getD l ((0 : Nat) + i) default).gv), AV.sl (1 : Nat) ((0 : Nat) + List.length (List.getD l ((0 : Nat) + Int.toNat (↑i : Int)) default).tm + (1 : Nat)) fun k
    => mixL (decide ((0 : Nat) + k < (0 : Nat) + List.length (List.getD l ((0 : Nat) + Int.toNat (↑i : Int)) default).tm)) (mixL (decide ((0 : Nat) + ((0 : Nat) + k) < (0 : Nat))) (chain
    [AV.v (Value.int IntKind.i64 (0 : Int))] (0 : Nat) [] ((0 : Nat) + ((0 : Nat) + ((0 : Nat) + k)))) (lsF Iv.c (List.getD l ((0 : Nat) + Int.toNat (↑i : Int)) default).tm ((0 : Nat) + ((0
    : Nat) + k)))) (chain [AV.v (Value.int IntKind.i64 (0 : Int))] (0 : Nat) [[AV.v (Value.int IntKind.i64 d.now)]] ((0 : Nat) + ((0 : Nat) + k - ((0 : Nat) + List.length (List.getD l ((0 :
    Nat) + Int.toNat (↑i : Int)) default).tm))))] (lsF Ro.c l k)), some (Blk.arr (7 : Nat) (List.length o + (1 : Nat)) fun j => mixL (decide (j < List.length o)) (lsF Tx.c o ((0 : Nat) + j))
    (chain [AV.v (Value.int IntKind.i64 (0 : Int)), AV.v (Value.string (ByteArray.mk #[])), AV.v (Value.string (ByteArray.mk #[])), AV.v (Value.string (ByteArray.mk #[])), AV.v (Value.string
    (ByteArray.mk #[])), AV.v (Value.int IntKind.i64 (0 : Int)), AV.v (Value.int IntKind.i64 (0 : Int))] (0 : Nat) [[AV.v (Value.int IntKind.i64 (List.getD l ((0 : Nat) + i) default).tx.k),
    AV.v (Value.string (List.getD l ((0 : Nat) + i) default).tx.fr), AV.v (Value.string (List.getD l ((0 : Nat) + i) default).tx.to), AV.v (Value.string (List.getD l ((0 : Nat) + i)
    default).tx.ky), AV.v (Value.string (List.getD l ((0 : Nat) + i) default).tx.vl), AV.v (Value.int IntKind.i64 (List.getD l ((0 : Nat) + i) default).tx.am), AV.v (Value.int IntKind.i64
    (List.getD l ((0 : Nat) + i) default).tx.nn)]] ((0 : Nat) + (j - List.length o))))])))))))) (Tree.leaf (Out.mk AEx.normal [AV.ptr (0 : Nat) (0 : Nat), AV.hs (2 : Nat) (0 : Nat)
    (List.length o), AV.v (Value.int IntKind.i64 (IntKind.wrap IntKind.i64 ((↑i : Int) + (1 : Int))))] [some (Blk.row [AV.v (Value.string d.who), AV.v (Value.int IntKind.i64 d.most), AV.hs
    (1 : Nat) (0 : Nat) (List.length l), AV.v (Value.int IntKind.i64 d.now), AV.v (Value.int IntKind.i64 d.heard)]), some (Blk.arr (10 : Nat) (List.length l) (lsF Ro.c l)), some (Blk.arr (7
    : Nat) (List.length o) (lsF Tx.c o))])))) (Tree.leaf (Out.mk (AEx.exit (0 : Nat)) [AV.ptr (0 : Nat) (0 : Nat), AV.hs (2 : Nat) (0 : Nat) (List.length o), AV.v (Value.int IntKind.i64 (↑i
    : Int))] [some (Blk.row [AV.v (Value.string d.who), AV.v (Value.int IntKind.i64 d.most), AV.hs (1 : Nat) (0 : Nat) (List.length l), AV.v (Value.int IntKind.i64 d.now), AV.v (Value.int
    IntKind.i64 d.heard)]), some (Blk.arr (10 : Nat) (List.length l) (lsF Ro.c l)), some (Blk.arr (7 : Nat) (List.length o) (lsF Tx.c o))])) := by kernel_rfl
end Go.Eng.TA.C

namespace Go.Eng.TA.C
open Go Go.Eng Go.Eng.M Go.Lib Go.Proofs
def dueB (n : Int) (r : Ro) : Bool := decide (r.st = 0) && decide (dueR r ≤ n)
def rtk (n : Int) (r : Ro) : Ro := bif dueB n r then { r with tm := r.tm ++ [⟨n⟩] } else r
def outR (n : Int) (l : List Ro) (i : Nat) : List Tx := ((l.take i).filter (dueB n)).map (·.tx)
def aftR (n : Int) (l : List Ro) (i : Nat) : List Ro := (l.take i).map (rtk n) ++ l.drop i
theorem aftR_len {n : Int} {l : List Ro} {i : Nat} (h : i ≤ l.length) : (aftR n l i).length = l.length := by
  unfold aftR
  rw [List.length_append, List.length_map, List.length_take, List.length_drop]; omega
theorem aftR_at {n : Int} {l : List Ro} {i : Nat} (h : i < l.length) : (aftR n l i).getD i default = l.getD i default := by
  unfold aftR
  have hz : ((l.take i).map (rtk n)).length = i := by rw [List.length_map, List.length_take]; omega
  rw [getD_app' (by omega), hz, Nat.sub_self, List.getD_eq_getElem?_getD, List.getElem?_drop, Nat.add_zero, List.getD_eq_getElem?_getD]
theorem aftR_next {n : Int} {l : List Ro} {i : Nat} (h : i < l.length) : aftR n l (i + 1) = (aftR n l i).set i (rtk n (l.getD i default)) := by
  unfold aftR
  have hz : ((l.take i).map (rtk n)).length = i := by rw [List.length_map, List.length_take]; omega
  rw [take_next h, List.map_append, List.set_append_right _ _ (by omega), hz, Nat.sub_self, List.drop_eq_getElem_cons h, List.set_cons_zero, List.append_assoc]
  rfl
theorem outR_next {n : Int} {l : List Ro} {i : Nat} (h : i < l.length) : outR n l (i + 1) = outR n l i ++ (bif dueB n (l.getD i default) then [(l.getD i default).tx] else []) := by
  unfold outR
  rw [take_next h, List.filter_append, List.map_append]
  congr 1
  cases hd : dueB n (l.getD i default) with
  | true => rw [List.filter_cons_of_pos hd]; rfl
  | false => rw [List.filter_cons_of_neg (by rw [hd]; decide)]; rfl
theorem outR_le {n : Int} {l : List Ro} {i : Nat} : (outR n l i).length ≤ i := by
  unfold outR
  rw [List.length_map]
  exact Nat.le_trans (List.length_filter_le _ _) (by rw [List.length_take]; omega)
theorem room8 {n : Nat} (h : n ≤ 10000000) : roomOk 8 n = true := by
  unfold roomOk
  exact decide_eq_true (by omega)
theorem fz_eq (tm : List Iv) (n : Int) : (fun k => mixL (decide (k < tm.length)) (mixL (decide (k < 0)) (chain [AV.v (Value.int IntKind.i64 0)] 0 [] k) (lsF Iv.c tm k)) (chain [AV.v (Value.int IntKind.i64 0)] 0 [[AV.v (Value.int IntKind.i64 n)]] (k - tm.length))) = lsF Iv.c (tm ++ [⟨n⟩]) := by
  funext k
  have h0 : decide (k < 0) = false := decide_eq_false (Nat.not_lt_zero k)
  have h1 : mixL (decide (k < 0)) (chain [AV.v (Value.int IntKind.i64 0)] 0 [] k) (lsF Iv.c tm k) = Iv.c (tm.getD k default) := by rw [h0, lsF_at]; rfl
  rw [h1, lsF_at]
  have h2 : chain [AV.v (Value.int IntKind.i64 0)] 0 [[AV.v (Value.int IntKind.i64 n)]] (k - tm.length) = Iv.c (bif Nat.beq (k - tm.length) 0 then ⟨n⟩ else ⟨0⟩) := Iv.cod.chain1 ⟨0⟩ ⟨n⟩ _
  rw [h2, Iv.cod.mix]
  congr 1
  by_cases h : k < tm.length
  · rw [decide_eq_true h, cond_true, getD_app h]
  · rw [decide_eq_false h, cond_false, getD_app' (by omega)]
    by_cases e : k - tm.length = 0
    · rw [e]; rfl
    · obtain ⟨m, hm⟩ : ∃ m, k - tm.length = m + 1 := ⟨k - tm.length - 1, by omega⟩
      rw [hm]; rfl
def OK' (d : Ds) (l : List Ro) : Out := ⟨.exit 0, [.any, .hs 2 0 (outR d.now l l.length).length, .any], (d.bl (l.map (rtk d.now)) ++ [lsT (outR d.now l l.length)]).map some⟩
theorem loopK {d : Ds} {l : List Ro} (hl : l.length ≤ 100000) (hp : ∀ i, okR (l.getD i default)) : ∀ i : Nat, i ≤ l.length → LoopOK Tryd.prog Γm 2 79 lpK (LSpec.at lvK [(1, 40)] (SK d (aftR d.now l i) i (outR d.now l i)) (OK' d l)) := by
  refine loop_at (S := fun i => SK d (aftR d.now l i) i (outR d.now l i)) (pre := fun i => i ≤ l.length) (O := fun _ => OK' d l) (k := 0) (fun i => l.length - i) fun i hi => ?_
  have hz := aftR_len (n := d.now) hi
  have hpi := hp i
  rcases Nat.lt_or_ge i l.length with h | h
  · have hg := aftR_at (n := d.now) h
    have hD := ansD (n := d.now) (hp i)
    rw [← hg] at hD
    refine .of (noLoops (by kernel_rfl)) (rK d (aftR d.now l i) i (outR d.now l i) _ hD) ?_
    have e1 : IntKind.i64.wrap ((i : Int) + 1) = ((i + 1 : Nat) : Int) := wrapUpN (by omega)
    have hz1 := aftR_len (n := d.now) (l := l) (i := i + 1) h
    have hn1 := aftR_next (n := d.now) h
    have ho1 := outR_next (n := d.now) h
    have hc : cl True = true := cl_iff.2 trivial
    simp only [Nat.zero_add, Int.toNat_natCast, hz, hg, e1, fz_eq]
    have hi0 : decide ((0 : Int) ≤ (i : Int)) = true := decide_eq_true (by omega)
    have hi1 : decide ((i : Int) < (l.length : Int)) = true := decide_eq_true (by omega)
    have hcl : ∀ a b : List AV, a = b → cl (LeL a b ∧ LeH [] []) = true := fun a b e => cl_iff.2 ⟨e ▸ LeL.refl _, trivial⟩
    simp only [hi0, hi1, hcl _ _ rfl, Bool.and_self, Bool.true_and, Bool.cond_self]
    have hfull : ∀ r : Ro, Ro.mk (Tx.mk r.tx.k r.tx.fr r.tx.to r.tx.ky r.tx.vl r.tx.am r.tx.nn) r.st r.gv r.tm = r := fun _ => rfl
    cases hd : dueB d.now (l.getD i default) with
    | true =>
      rw [hd, cond_true] at ho1
      have hd2 : (bif decide ((l.getD i default).st = 0) then decide (dueR (l.getD i default) ≤ d.now) else false) = true := by
        unfold dueB at hd; rw [Bool.and_eq_true] at hd; rw [hd.1, cond_true, hd.2]
      have ht : rtk d.now (l.getD i default) = { (l.getD i default) with tm := (l.getD i default).tm ++ [⟨d.now⟩] } := by unfold rtk; rw [hd]; rfl
      have hO := Tx.cod.app0 (outR d.now l i) (l.getD i default).tx default rfl (N := (outR d.now l i).length + 1) rfl
      have hS := Ro.cod.set (aftR d.now l i) (rtk d.now (l.getD i default)) (by omega : i < (aftR d.now l i).length) (N := (aftR d.now l i).length) rfl
      rw [← hn1, ht, hz] at hS
      rw [← ho1] at hO
      have hz2 : (outR d.now l (i + 1)).length = (outR d.now l i).length + 1 := by rw [ho1, List.length_append]; rfl
      have hzt : ((l.getD i default).tm ++ [(⟨d.now⟩ : Iv)]).length = (l.getD i default).tm.length + 1 := by rw [List.length_append]; rfl
      have hr := room88 (n := (outR d.now l i).length + 1) (by have := outR_le (n := d.now) (l := l) (i := i); omega)
      have ht1 := hpi.1
      have hr1 := room8 (n := (l.getD i default).tm.length) (by omega)
      have hr2 := room8 (n := (l.getD i default).tm.length + 1) (by omega)
      have hS' : OLe (some (.arr 10 l.length fun k => mixL (Nat.beq k i) [.v (.int .i64 (l.getD i default).tx.k), .v (.string (l.getD i default).tx.fr), .v (.string (l.getD i default).tx.to), .v (.string (l.getD i default).tx.ky), .v (.string (l.getD i default).tx.vl), .v (.int .i64 (l.getD i default).tx.am), .v (.int .i64 (l.getD i default).tx.nn), .v (.int .i64 (l.getD i default).st), .v (.int .i64 (l.getD i default).gv), .sl 1 ((l.getD i default).tm.length + 1) (lsF Iv.c ((l.getD i default).tm ++ [⟨d.now⟩]))] (lsF Ro.c (aftR d.now l i) k))) (some (.arr 10 l.length (lsF Ro.c (aftR d.now l (i + 1))))) := by
        rw [← hzt]
        rw [hz1] at hS
        exact hS
      rw [hd2, hr, hr1, hr2]
      refine wT rfl (wC rfl (wT rfl (wC rfl (wC rfl (wC rfl (wC rfl (wC rfl (wC rfl ?_))))))))
      exact by (refine ⟨i + 1, ⟨.refl _, ?_, .refl _, trivial⟩, ⟨?_, ?_, ?_, trivial⟩, h, rfl, Nat.sub_lt_sub_left h (Nat.lt_succ_self i)⟩; rw [hz2]; exact .refl _; unfold Ds.row Ds.rowJ; rw [hz1]; exact .refl _; show OLe _ (some (.arr 10 (aftR d.now l (i + 1)).length _)); rw [hz1]; exact hS'; exact hO)
    | false =>
      rw [hd, cond_false, List.append_nil] at ho1
      have hd2 : (bif decide ((l.getD i default).st = 0) then decide (dueR (l.getD i default) ≤ d.now) else false) = false := by
        unfold dueB at hd
        rw [Bool.and_eq_false_iff] at hd
        rcases hd with h | h
        · rw [h]; rfl
        · rw [h]; cases decide ((l.getD i default).st = 0) <;> rfl
      have ht : rtk d.now (l.getD i default) = l.getD i default := by unfold rtk; rw [hd]; rfl
      have hn2 : aftR d.now l (i + 1) = aftR d.now l i := by
        rw [hn1, ht, ← hg]
        exact set_same (by omega)
      rw [hd2]
      repeat' (first | refine wC (by first | omega | (simp only [W1, cond_true, cond_false]; first | done | omega)) ?_ | refine wT (by first | omega | (simp only [W1, cond_true, cond_false]; first | done | omega)) ?_ | refine wF (by intro _h; first | omega | (simp only [W1, cond_true, cond_false] at _h; first | done | omega)) ?_ | (refine wS ?_ ?_ <;> intro _h <;> simp only [W1, cond_true, cond_false] at _h))
      all_goals simp only [W1, W2, owesN, owesX, owesR, cond_true, cond_false]
      repeat' (first | apply And.intro | intro _hc)
      all_goals first | ((refine ⟨i + 1, ⟨.refl _, ?_, .refl _, trivial⟩, ⟨?_, ?_, ?_, trivial⟩, h, Nat.sub_lt_sub_left h (Nat.lt_succ_self i)⟩; rw [ho1]; exact .refl _; unfold Ds.row Ds.rowJ; rw [hz1]; exact .refl _; rw [hn2]; show OLe _ (some (.arr 10 (aftR d.now l i).length _)); rw [hz]; exact .refl _; rw [ho1]; exact .refl _)) | exact AV.le_refl _ | exact AV.le_any _ | exact OLe.refl _ | exact OLe.none _ | exact LeH.refl _ | exact LeL.refl _ | exact AV.le.bs _ | exact AV.le.sb _ | omega | contradiction
  · obtain rfl : i = l.length := by omega
    have hD : Answers Tryd.prog Γm 107 [roV ((aftR d.now l l.length).getD l.length default), .v (.int .i64 d.now)] [] (.sb (decide (dueR ((aftR d.now l l.length).getD l.length default) ≤ d.now))) [] [] := ansD (by
      have : (aftR d.now l l.length).getD l.length default = l.getD l.length default := by
        rw [List.getD_eq_getElem?_getD, List.getD_eq_getElem?_getD, List.getElem?_eq_none (by omega), List.getElem?_eq_none (Nat.le_refl _)]
      rw [this]; exact hp _)
    refine .of (noLoops (by kernel_rfl)) (rK d (aftR d.now l l.length) l.length (outR d.now l l.length) _ hD) ?_
    have h1 : aftR d.now l l.length = l.map (rtk d.now) := by unfold aftR; rw [List.take_of_length_le (Nat.le_refl _), List.drop_length, List.append_nil]
    rw [h1] at hz ⊢
    simp only [hz]
    repeat' (first | refine wC (by first | omega | (simp only [W1, cond_true, cond_false]; first | done | omega)) ?_ | refine wT (by first | omega | (simp only [W1, cond_true, cond_false]; first | done | omega)) ?_ | refine wF (by intro _h; first | omega | (simp only [W1, cond_true, cond_false] at _h; first | done | omega)) ?_ | (refine wS ?_ ?_ <;> intro _h <;> simp only [W1, cond_true, cond_false] at _h))
    all_goals simp only [W1, W2, owesN, owesX, owesR, cond_true, cond_false]
    repeat' (first | apply And.intro | intro _hc)
    all_goals first | exact rfl | ((refine ⟨.any _, .refl _, .any _, trivial⟩)) | ((unfold Ds.row Ds.rowJ; rw [hz]; exact .refl _)) | ((show OLe _ (some (.arr 10 (l.map (rtk d.now)).length _)); rw [hz]; exact .refl _)) | exact AV.le_refl _ | exact AV.le_any _ | exact OLe.refl _ | exact OLe.none _ | exact LeH.refl _ | exact LeL.refl _ | exact AV.le.bs _ | exact AV.le.sb _ | omega | contradiction
theorem runK (d : Ds) (n : Int) (l : List Ro) : bodyE (P := Tryd.prog) (Γ := Γm) [] (fun _ => LSpec.at lvK [(1, 40)] (SK { d with now := n } l 0 []) (OK' { d with now := n } l)) false 79 [.tmp 2] (bodyOf Tryd.f68) [.ptr 0 0] (d.bl l) =
  Tree.chk (cl (LeL [AV.ptr (0 : Nat) (0 : Nat), AV.hs (2 : Nat) (0 : Nat) (0 : Nat), AV.v (Value.int IntKind.i64 (0 : Int))] [AV.ptr (0 : Nat) (0 : Nat), AV.hs (2 : Nat) (0 : Nat) (0 : Nat),
    AV.v (Value.int IntKind.i64 (↑(0 : Nat) : Int))] ∧ LeH [some (Blk.row [AV.v (Value.string d.who), AV.v (Value.int IntKind.i64 d.most), AV.hs (1 : Nat) (0 : Nat) (List.length l), AV.v
    (Value.int IntKind.i64 (IntKind.wrap IntKind.i64 (d.now + (1 : Int)))), AV.v (Value.int IntKind.i64 d.heard)]), some (Blk.arr (10 : Nat) (List.length l) (lsF Ro.c l)), some (Blk.arr (7 :
    Nat) (0 : Nat) fun x => [AV.v (Value.int IntKind.i64 (0 : Int)), AV.v (Value.string (ByteArray.mk #[])), AV.v (Value.string (ByteArray.mk #[])), AV.v (Value.string (ByteArray.mk #[])),
    AV.v (Value.string (ByteArray.mk #[])), AV.v (Value.int IntKind.i64 (0 : Int)), AV.v (Value.int IntKind.i64 (0 : Int))])] [some (Blk.row [AV.v (Value.string d.who), AV.v (Value.int
    IntKind.i64 d.most), AV.hs (1 : Nat) (0 : Nat) (List.length l), AV.v (Value.int IntKind.i64 n), AV.v (Value.int IntKind.i64 d.heard)]), some (Blk.arr (10 : Nat) (List.length l) (lsF Ro.c
    l)), some (Blk.arr (7 : Nat) (0 : Nat) (lsF Tx.c []))])) (Tree.leaf (Ans.mk (AV.hs (2 : Nat) (0 : Nat) (List.length (outR (Ds.mk d.who d.most n d.heard).now l (List.length l)))) [some
    (Blk.row [AV.v (Value.string d.who), AV.v (Value.int IntKind.i64 d.most), AV.hs (1 : Nat) (0 : Nat) (List.length (List.map (rtk (Ds.mk d.who d.most n d.heard).now) l)), AV.v (Value.int
    IntKind.i64 n), AV.v (Value.int IntKind.i64 d.heard)]), some (Blk.arr (10 : Nat) (List.length (List.map (rtk (Ds.mk d.who d.most n d.heard).now) l)) (lsF Ro.c (List.map (rtk (Ds.mk d.who
    d.most n d.heard).now) l))), some (Blk.arr (7 : Nat) (List.length (outR (Ds.mk d.who d.most n d.heard).now l (List.length l))) (lsF Tx.c (outR (Ds.mk d.who d.most n d.heard).now l
    (List.length l))))])) := by kernel_rfl
theorem ansK {d : Ds} {l : List Ro} (hl : l.length ≤ 100000) (hn : 0 ≤ d.now) (hn2 : d.now < 1000000) (hp : ∀ i, okR (l.getD i default)) :
    Answers Tryd.prog Γm 68 [.ptr 0 0] (d.bl l) (.hs 2 0 (outR (d.now + 1) l l.length).length) ((Ds.bl { d with now := d.now + 1 } (l.map (rtk (d.now + 1)))).map some) [lsT (outR (d.now + 1) l l.length)] := by
  have w1 : IntKind.i64.wrap (d.now + 1) = d.now + 1 := wrap64 (by omega) (by omega)
  have h0 := loopK (d := { d with now := d.now + 1 }) (l := l) hl hp 0 (Nat.zero_le _)
  have e0 : aftR (d.now + 1) l 0 = l := rfl
  have e1 : outR (d.now + 1) l 0 = [] := rfl
  simp only [e0, e1] at h0
  refine answers (fn := Tryd.f68) (c := bodyOf Tryd.f68) (ntmps := 79) (results := [.tmp 2]) [] (fun _ => LSpec.at lvK [(1, 40)] (SK { d with now := d.now + 1 } l 0 []) (OK' { d with now := d.now + 1 } l)) false Tryd.func68 (by kernel_rfl) (by kernel_rfl) (by kernel_rfl) (by kernel_rfl) (by simp) rfl (oneLoop (b := lpK) (by kernel_rfl) h0) <| Meets.of (runK d (d.now + 1) l) <| ?_
  simp only [w1]
  repeat' (first | refine wC (by first | omega | (simp only [W1, cond_true, cond_false]; first | done | omega)) ?_ | refine wT (by first | omega | (simp only [W1, cond_true, cond_false]; first | done | omega)) ?_ | refine wF (by intro _h; first | omega | (simp only [W1, cond_true, cond_false] at _h; first | done | omega)) ?_ | (refine wS ?_ ?_ <;> intro _h <;> simp only [W1, cond_true, cond_false] at _h))
  all_goals simp only [W1, W2, owesN, owesX, owesR, cond_true, cond_false]
  repeat' (first | apply And.intro | intro _hc)
  all_goals first | exact hTx0 | exact AV.le_refl _ | exact AV.le_any _ | exact OLe.refl _ | exact OLe.none _ | exact LeH.refl _ | exact LeL.refl _ | exact AV.le.bs _ | exact AV.le.sb _ | omega | contradiction
end Go.Eng.TA.C

namespace Go.Eng.TA.C
open Go Go.Eng Go.Eng.M Go.Lib Go.Proofs
def ownD (d : Ds) (l : List Ro) (t : Tx) : Tx := ⟨t.k, d.who, t.to, t.ky, t.vl, t.am, (l.length : Int) + 1⟩
def okD (d : Ds) (l : List Ro) (t : Tx) : Bool := decide ((cnt 0 l : Int) < d.most) && txB (ownD d l t)
def addR (d : Ds) (l : List Ro) (t : Tx) : List Ro := l ++ [⟨ownD d l t, 0, d.now, []⟩]
abbrev rc0 (t : Tx) (g : Int) : List AV := [.v (.int .i64 t.k), .v (.string t.fr), .v (.string t.to), .v (.string t.ky), .v (.string t.vl), .v (.int .i64 t.am), .v (.int .i64 t.nn), .v (.int .i64 0), .v (.int .i64 g), .v (.slice none 0 0)]
theorem wN {α : Type} {Q : α → Prop} {c : Bool} {t e : Tree α} (h : c = false) (he : e.sat Q) : (Tree.br c t e).sat Q := ⟨fun q => by rw [h] at q; exact absurd q (by decide), fun _ => he⟩
theorem app_nil (l : List Ro) (t : Tx) (g : Int) (z : Tx) (zg : Int) : OLe (some (.arr 10 (l.length + 1) fun j => mixL (decide (j < l.length)) (lsF Ro.c l j) (chain (rc0 z zg) 0 [rc0 t g] (j - l.length)))) (some (.arr 10 (l.length + 1) (lsF Ro.c (l ++ [⟨t, 0, g, []⟩])))) := by
  refine .some (.arr (fun e he => ?_) (fun e => rfl))
  rw [lsF_at, lsF_at]
  by_cases h : e < l.length
  · rw [decide_eq_true h, getD_app h]
    show LeL (Ro.c (l.getD e default)) (Ro.c (l.getD e default))
    exact LeL.refl _
  · have h' : e - l.length = 0 := by omega
    rw [decide_eq_false h, getD_app' (by omega), h']
    show LeL (mixL false (Ro.c (l.getD e default)) (rc0 t g)) (Ro.c ⟨t, 0, g, []⟩)
    exact ⟨.refl _, .refl _, .refl _, .refl _, .refl _, .refl _, .refl _, .refl _, .refl _, .sl (fun e j x y he => absurd he (Nat.not_lt_zero e)) (fun _ => rfl) (fun _ _ => rfl), trivial⟩
theorem room128 {n : Nat} (h : n ≤ 10000000) : roomOk 128 n = true := by
  unfold roomOk
  exact decide_eq_true (by omega)
theorem clE {p : Prop} (h : p) : cl p = true := cl_iff.2 h
theorem ansRG1 {d : Ds} {l : List Ro} {t : Tx} (hl : l.length ≤ 100000) (hs : smallT t) (hw : d.who.size ≤ 10000000) (hg : okD d l t = true) :
    Answers Tryd.prog Γm 67 [.ptr 0 0, txV t] (d.bl l) (.tup [txV (ownD d l t), .v (.int .i64 0)]) [some (d.rowJ 2 (addR d l t).length), none] [lsR (addR d l t)] := by
  have hC := ansC (d := d) (l := l) 0 hl
  refine answers (fn := Tryd.f67) (c := bodyOf Tryd.f67) (ntmps := 46) (results := [.cell 4 40, .tmp 5]) [CT.atN 71 hC, kTxR] (Lno) false Tryd.func67 (by kernel_rfl) (by kernel_rfl) (by kernel_rfl) (by kernel_rfl) (by simp) rfl (failOK fun _ _ _ => rfl) <| Meets.of (runRG d l t _ hC) <| ?_
  have e1 : IntKind.i64.wrap ((l.length : Int) + 1) = (l.length : Int) + 1 := wrap64 (by omega) (by omega)
  have hx : Tx.mk t.k d.who t.to t.ky t.vl t.am ((l.length : Int) + 1) = ownD d l t := rfl
  have hsm : smallT (ownD d l t) := ⟨hw, hs.2.1, hs.2.2.1, hs.2.2.2⟩
  simp only [e1, hx, Nat.zero_add]
  unfold okD at hg
  simp only [Bool.and_eq_true, decide_eq_true_eq] at hg
  obtain ⟨h, hb⟩ := hg
  have hz : (addR d l t).length = l.length + 1 := by unfold addR; rw [List.length_append]; rfl
  have hO := app_nil l (ownD d l t) d.now ⟨0, ⟨#[]⟩, ⟨#[]⟩, ⟨#[]⟩, ⟨#[]⟩, 0, 0⟩ 0
  have hR : lsR (addR d l t) = .arr 10 (l.length + 1) (lsF Ro.c (l ++ [⟨ownD d l t, 0, d.now, []⟩])) := by
    show Blk.arr 10 (addR d l t).length _ = _
    rw [hz]; rfl
  have hr := room128 (n := l.length + 1) (by omega)
  refine wC (cl_iff.2 (by simp)) (wN (decide_eq_false (by omega)) (wC (cl_iff.2 ⟨hsm, LeL.refl _, trivial⟩) (wN (by rw [hb]; rfl) (wC hr ⟨tup2 (.refl _) (.refl _), ?_, .none _, ?_, trivial⟩))))
  · unfold Ds.rowJ
    rw [hz]
    exact .refl _
  · rw [hR]; exact hO
theorem ansRG0 {d : Ds} {l : List Ro} {t : Tx} (hl : l.length ≤ 100000) (hs : smallT t) (hw : d.who.size ≤ 10000000) (hg : okD d l t = false) :
    Answers Tryd.prog Γm 67 [.ptr 0 0, txV t] (d.bl l) (.tup [txV tz, .v (.int .i64 (if d.most ≤ (cnt 0 l : Int) then 101 else 80))]) ((d.bl l).map some) [] := by
  have hC := ansC (d := d) (l := l) 0 hl
  refine answers (fn := Tryd.f67) (c := bodyOf Tryd.f67) (ntmps := 46) (results := [.cell 4 40, .tmp 5]) [CT.atN 71 hC, kTxR] (Lno) false Tryd.func67 (by kernel_rfl) (by kernel_rfl) (by kernel_rfl) (by kernel_rfl) (by simp) rfl (failOK fun _ _ _ => rfl) <| Meets.of (runRG d l t _ hC) <| ?_
  have e1 : IntKind.i64.wrap ((l.length : Int) + 1) = (l.length : Int) + 1 := wrap64 (by omega) (by omega)
  have hx : Tx.mk t.k d.who t.to t.ky t.vl t.am ((l.length : Int) + 1) = ownD d l t := rfl
  have hsm : smallT (ownD d l t) := ⟨hw, hs.2.1, hs.2.2.1, hs.2.2.2⟩
  simp only [e1, hx, Nat.zero_add]
  by_cases h : d.most ≤ (cnt 0 l : Int)
  · rw [if_pos h]
    refine wC (cl_iff.2 (by simp)) (wT (decide_eq_true h) ⟨tup2 (.refl _) (.refl _), LeH.refl _⟩)
  · have hb : txB (ownD d l t) = false := by
      unfold okD at hg
      rw [decide_eq_true (by omega), Bool.true_and] at hg
      exact hg
    rw [if_neg h]
    refine wC (cl_iff.2 (by simp)) (wN (decide_eq_false h) (wC (cl_iff.2 ⟨hsm, LeL.refl _, trivial⟩) (wT (by rw [hb]; rfl) ⟨tup2 (.refl _) (.refl _), LeH.refl _⟩)))
noncomputable abbrev lpR (k : Nat) : Code := loopOf (bodyOf Tryd.f69) k
abbrev lvR' : List Nat := [0, 1, 5, 6, 7]
def SR' (d : Ds) (l : List Ro) (os : List Oc) (n : Int) (i k : Nat) : List AV × Heap := ([.ptr 0 0, .hs 2 0 os.length, .v (.int .i64 n), .v (.int .i64 (i : Int)), .v (.int .i64 (k : Int))], (d.bl l ++ [lsOc os]).map some)
theorem rR' (d : Ds) (l : List Ro) (os : List Oc) (n : Int) (i k : Nat) : roundE (P := Tryd.prog) (Γ := Γm) [] Lno false 3 0 (lpR 1) lvR' [] 110 (SR' d l os n i k).1 (SR' d l os n i k).2 =
  Tree.br (decide ((↑k : Int) < (↑(List.length l) : Int))) (Tree.chk (decide ((0 : Int) ≤ (↑i : Int)) && decide ((↑i : Int) < (↑(List.length os) : Int))) (Tree.chk (decide ((0 : Int) ≤ (↑i :
    Int)) && decide ((↑i : Int) < (↑(List.length os) : Int)) && bif !decide ((List.getD os ((0 : Nat) + i) default).err = (0 : Int)) then true else bif !decide ((List.getD os ((0 : Nat) + i)
    default).tx.fr = d.who) then true else decide ((0 : Int) ≤ (↑k : Int)) && decide ((↑k : Int) < (↑(List.length l) : Int)) && bif !decide ((List.getD os ((0 : Nat) + i) default).tx.nn =
    (List.getD l ((0 : Nat) + k) default).tx.nn) then true else decide ((0 : Int) ≤ (↑k : Int)) && decide ((↑k : Int) < (↑(List.length l) : Int))) (Tree.br (bif !decide ((List.getD os ((0 :
    Nat) + i) default).err = (0 : Int)) then true else bif !decide ((List.getD os ((0 : Nat) + i) default).tx.fr = d.who) then true else bif !decide ((List.getD os ((0 : Nat) + i)
    default).tx.nn = (List.getD l ((0 : Nat) + k) default).tx.nn) then true else !decide ((List.getD l ((0 : Nat) + k) default).st = (0 : Int))) (Tree.leaf (Out.mk AEx.normal [AV.ptr (0 :
    Nat) (0 : Nat), AV.hs (2 : Nat) (0 : Nat) (List.length os), AV.v (Value.int IntKind.i64 n), AV.v (Value.int IntKind.i64 (↑i : Int)), AV.v (Value.int IntKind.i64 (IntKind.wrap IntKind.i64
    ((↑k : Int) + (1 : Int))))] [some (Blk.row [AV.v (Value.string d.who), AV.v (Value.int IntKind.i64 d.most), AV.hs (1 : Nat) (0 : Nat) (List.length l), AV.v (Value.int IntKind.i64 d.now),
    AV.v (Value.int IntKind.i64 d.heard)]), some (Blk.arr (10 : Nat) (List.length l) (lsF Ro.c l)), some (Blk.arr (10 : Nat) (List.length os) (lsF Oc.c os))])) (Tree.chk (decide ((0 : Int) ≤
    (↑k : Int)) && decide ((↑k : Int) < (↑(List.length l) : Int))) (Tree.chk (decide ((0 : Int) ≤ (↑k : Int)) && decide ((↑k : Int) < (↑(List.length l) : Int))) (Tree.br (decide ((List.getD
    os ((0 : Nat) + i) default).tx.k = bif Nat.beq ((0 : Nat) + k) ((0 : Nat) + k) then (List.getD l ((0 : Nat) + k) default).tx.k else (List.getD l ((0 : Nat) + k) default).tx.k) && (decide
    ((List.getD os ((0 : Nat) + i) default).tx.fr = bif Nat.beq ((0 : Nat) + k) ((0 : Nat) + k) then (List.getD l ((0 : Nat) + k) default).tx.fr else (List.getD l ((0 : Nat) + k)
    default).tx.fr) && (decide ((List.getD os ((0 : Nat) + i) default).tx.to = bif Nat.beq ((0 : Nat) + k) ((0 : Nat) + k) then (List.getD l ((0 : Nat) + k) default).tx.to else (List.getD l
    ((0 : Nat) + k) default).tx.to) && (decide ((List.getD os ((0 : Nat) + i) default).tx.ky = bif Nat.beq ((0 : Nat) + k) ((0 : Nat) + k) then (List.getD l ((0 : Nat) + k) default).tx.ky
    else (List.getD l ((0 : Nat) + k) default).tx.ky) && (decide ((List.getD os ((0 : Nat) + i) default).tx.vl = bif Nat.beq ((0 : Nat) + k) ((0 : Nat) + k) then (List.getD l ((0 : Nat) + k)
    default).tx.vl else (List.getD l ((0 : Nat) + k) default).tx.vl) && (decide ((List.getD os ((0 : Nat) + i) default).tx.am = bif Nat.beq ((0 : Nat) + k) ((0 : Nat) + k) then (List.getD l
    ((0 : Nat) + k) default).tx.am else (List.getD l ((0 : Nat) + k) default).tx.am) && decide ((List.getD os ((0 : Nat) + i) default).tx.nn = bif Nat.beq ((0 : Nat) + k) ((0 : Nat) + k)
    then (List.getD l ((0 : Nat) + k) default).tx.nn else (List.getD l ((0 : Nat) + k) default).tx.nn))))))) (Tree.chk (decide ((0 : Int) ≤ (↑k : Int)) && decide ((↑k : Int) < (↑(List.length
    l) : Int))) (Tree.leaf (Out.mk AEx.normal [AV.ptr (0 : Nat) (0 : Nat), AV.hs (2 : Nat) (0 : Nat) (List.length os), AV.v (Value.int IntKind.i64 (IntKind.wrap IntKind.i64 (n + (1 :
    Int)))), AV.v (Value.int IntKind.i64 (↑i : Int)), AV.v (Value.int IntKind.i64 (IntKind.wrap IntKind.i64 ((↑k : Int) + (1 : Int))))] [some (Blk.row [AV.v (Value.string d.who), AV.v
    (Value.int IntKind.i64 d.most), AV.hs (1 : Nat) (0 : Nat) (List.length l), AV.v (Value.int IntKind.i64 d.now), AV.v (Value.int IntKind.i64 d.heard)]), some (Blk.arr (10 : Nat)
    (List.length l) fun k_1 => mixL (Nat.beq k_1 ((0 : Nat) + k)) [AV.v (Value.int IntKind.i64 (bif Nat.beq ((0 : Nat) + k) ((0 : Nat) + k) then (List.getD l ((0 : Nat) + k) default).tx.k
    else (List.getD l ((0 : Nat) + k) default).tx.k)), AV.v (Value.string (bif Nat.beq ((0 : Nat) + k) ((0 : Nat) + k) then (List.getD l ((0 : Nat) + k) default).tx.fr else (List.getD l ((0
    : Nat) + k) default).tx.fr)), AV.v (Value.string (bif Nat.beq ((0 : Nat) + k) ((0 : Nat) + k) then (List.getD l ((0 : Nat) + k) default).tx.to else (List.getD l ((0 : Nat) + k)
    default).tx.to)), AV.v (Value.string (bif Nat.beq ((0 : Nat) + k) ((0 : Nat) + k) then (List.getD l ((0 : Nat) + k) default).tx.ky else (List.getD l ((0 : Nat) + k) default).tx.ky)),
    AV.v (Value.string (bif Nat.beq ((0 : Nat) + k) ((0 : Nat) + k) then (List.getD l ((0 : Nat) + k) default).tx.vl else (List.getD l ((0 : Nat) + k) default).tx.vl)), AV.v (Value.int
    IntKind.i64 (bif Nat.beq ((0 : Nat) + k) ((0 : Nat) + k) then (List.getD l ((0 : Nat) + k) default).tx.am else (List.getD l ((0 : Nat) + k) default).tx.am)), AV.v (Value.int IntKind.i64
    (bif Nat.beq ((0 : Nat) + k) ((0 : Nat) + k) then (List.getD l ((0 : Nat) + k) default).tx.nn else (List.getD l ((0 : Nat) + k) default).tx.nn)), AV.v (Value.int IntKind.i64 (1 : Int)),
    AV.v (Value.int IntKind.i64 (bif Nat.beq ((0 : Nat) + k) ((0 : Nat) + k) then (List.getD l ((0 : Nat) + k) default).gv else (List.getD l ((0 : Nat) + k) default).gv)), AV.sl (1 : Nat)
    (bif Nat.beq ((0 : Nat) + k) ((0 : Nat) + k) then List.length (List.getD l ((0 : Nat) + Int.toNat (↑k : Int)) default).tm else List.length (List.getD l ((0 : Nat) + Int.toNat (↑k : Int))
    default).tm) fun k_2 => bif Nat.beq ((0 : Nat) + k) ((0 : Nat) + k) then [AV.v (Value.int IntKind.i64 (List.getD (List.getD l ((0 : Nat) + Int.toNat (↑k : Int)) default).tm k_2
    default).n)] else [AV.v (Value.int IntKind.i64 (List.getD (List.getD l ((0 : Nat) + Int.toNat (↑k : Int)) default).tm k_2 default).n)]] (mixL (Nat.beq k_1 ((0 : Nat) + k)) [AV.v
    (Value.int IntKind.i64 (List.getD l ((0 : Nat) + k) default).tx.k), AV.v (Value.string (List.getD l ((0 : Nat) + k) default).tx.fr), AV.v (Value.string (List.getD l ((0 : Nat) + k)
    default).tx.to), AV.v (Value.string (List.getD l ((0 : Nat) + k) default).tx.ky), AV.v (Value.string (List.getD l ((0 : Nat) + k) default).tx.vl), AV.v (Value.int IntKind.i64 (List.getD
    l ((0 : Nat) + k) default).tx.am), AV.v (Value.int IntKind.i64 (List.getD l ((0 : Nat) + k) default).tx.nn), AV.v (Value.int IntKind.i64 (2 : Int)), AV.v (Value.int IntKind.i64
    (List.getD l ((0 : Nat) + k) default).gv), AV.sl (1 : Nat) (List.length (List.getD l ((0 : Nat) + Int.toNat (↑k : Int)) default).tm) (lsF Iv.c (List.getD l ((0 : Nat) + Int.toNat (↑k :
    Int)) default).tm)] (lsF Ro.c l k_1))), some (Blk.arr (10 : Nat) (List.length os) (lsF Oc.c os))]))) (Tree.leaf (Out.mk AEx.normal [AV.ptr (0 : Nat) (0 : Nat), AV.hs (2 : Nat) (0 : Nat)
    (List.length os), AV.v (Value.int IntKind.i64 (IntKind.wrap IntKind.i64 (n + (1 : Int)))), AV.v (Value.int IntKind.i64 (↑i : Int)), AV.v (Value.int IntKind.i64 (IntKind.wrap IntKind.i64
    ((↑k : Int) + (1 : Int))))] [some (Blk.row [AV.v (Value.string d.who), AV.v (Value.int IntKind.i64 d.most), AV.hs (1 : Nat) (0 : Nat) (List.length l), AV.v (Value.int IntKind.i64 d.now),
    AV.v (Value.int IntKind.i64 d.heard)]), some (Blk.arr (10 : Nat) (List.length l) fun k_1 => mixL (Nat.beq k_1 ((0 : Nat) + k)) [AV.v (Value.int IntKind.i64 (List.getD l ((0 : Nat) + k)
    default).tx.k), AV.v (Value.string (List.getD l ((0 : Nat) + k) default).tx.fr), AV.v (Value.string (List.getD l ((0 : Nat) + k) default).tx.to), AV.v (Value.string (List.getD l ((0 :
    Nat) + k) default).tx.ky), AV.v (Value.string (List.getD l ((0 : Nat) + k) default).tx.vl), AV.v (Value.int IntKind.i64 (List.getD l ((0 : Nat) + k) default).tx.am), AV.v (Value.int
    IntKind.i64 (List.getD l ((0 : Nat) + k) default).tx.nn), AV.v (Value.int IntKind.i64 (2 : Int)), AV.v (Value.int IntKind.i64 (List.getD l ((0 : Nat) + k) default).gv), AV.sl (1 : Nat)
    (List.length (List.getD l ((0 : Nat) + Int.toNat (↑k : Int)) default).tm) (lsF Iv.c (List.getD l ((0 : Nat) + Int.toNat (↑k : Int)) default).tm)] (lsF Ro.c l k_1)), some (Blk.arr (10 :
    Nat) (List.length os) (lsF Oc.c os))])))))))) (Tree.leaf (Out.mk (AEx.exit (2 : Nat)) [AV.ptr (0 : Nat) (0 : Nat), AV.hs (2 : Nat) (0 : Nat) (List.length os), AV.v (Value.int IntKind.i64
    n), AV.v (Value.int IntKind.i64 (↑i : Int)), AV.v (Value.int IntKind.i64 (↑k : Int))] [some (Blk.row [AV.v (Value.string d.who), AV.v (Value.int IntKind.i64 d.most), AV.hs (1 : Nat) (0 :
    Nat) (List.length l), AV.v (Value.int IntKind.i64 d.now), AV.v (Value.int IntKind.i64 d.heard)]), some (Blk.arr (10 : Nat) (List.length l) (lsF Ro.c l)), some (Blk.arr (10 : Nat)
    (List.length os) (lsF Oc.c os))])) := by kernel_rfl
end Go.Eng.TA.C

namespace Go.Eng.TA.C
open Go Go.Eng Go.Eng.M Go.Lib Go.Proofs
structure RR where
  l : List Ro
  n : Int
def setR (r : Ro) (s : Int) : Ro := { r with st := s }
def noR (who : ByteArray) (l : List Ro) (o : Oc) : Prop := ¬ o.err = 0 ∨ ¬ o.tx.fr = who ∨ o.tx.nn < 1 ∨ (l.length : Int) < o.tx.nn ∨ ¬ (l.getD (kO o.tx) default).st = 0
def newSt (l : List Ro) (o : Oc) : Ro := setR (l.getD (kO o.tx) default) (bif sameT o.tx (l.getD (kO o.tx) default).tx then 1 else 2)
open Classical in
noncomputable def stepR (who : ByteArray) (x : RR) (o : Oc) : RR := if noR who x.l o then x else ⟨x.l.set (kO o.tx) (newSt x.l o), w64 (x.n + 1)⟩
open Classical in
noncomputable def stX (who : ByteArray) (x : RR) (o : Oc) (k : Nat) : RR := if noR who x.l o ∨ k ≤ kO o.tx then x else ⟨x.l.set (kO o.tx) (newSt x.l o), w64 (x.n + 1)⟩
theorem stX_no {who : ByteArray} {x : RR} {o : Oc} {k : Nat} (h : noR who x.l o ∨ k ≤ kO o.tx) : stX who x o k = x := if_pos h
theorem stX_yes {who : ByteArray} {x : RR} {o : Oc} {k : Nat} (h : ¬ noR who x.l o) (hk : kO o.tx < k) : stX who x o k = ⟨x.l.set (kO o.tx) (newSt x.l o), w64 (x.n + 1)⟩ := if_neg (fun q => by rcases q with q | q; exact h q; omega)
theorem stX_len {who : ByteArray} {x : RR} {o : Oc} {k : Nat} : (stX who x o k).l.length = x.l.length := by
  unfold stX
  split
  · rfl
  · exact List.length_set
theorem stX_end {who : ByteArray} {x : RR} {o : Oc} {k : Nat} (hk : x.l.length ≤ k) : stX who x o k = stepR who x o := by
  unfold stepR
  by_cases h : noR who x.l o
  · rw [stX_no (.inl h), if_pos h]
  · have hh := h
    unfold noR at hh
    rw [stX_yes h (by unfold kO; omega), if_neg h]
def InvN (l : List Ro) : Prop := ∀ k, k < l.length → (l.getD k default).tx.nn = (k : Int) + 1
def OR' (d : Ds) (x : RR) (os : List Oc) (i : Nat) : Out := ⟨.exit 2, [.ptr 0 0, .hs 2 0 os.length, .v (.int .i64 x.n), .v (.int .i64 (i : Int)), .any], (d.bl x.l ++ [lsOc os]).map some⟩
theorem set_twiceR (l : List Ro) (i : Nat) (p q : Ro) (hi : i < l.length) : OLe (some (.arr 10 l.length fun k => mixL (Nat.beq k i) (Ro.c q) (mixL (Nat.beq k i) (Ro.c p) (lsF Ro.c l k)))) (some (lsR (l.set i q))) := by
  have h1 : (fun k => mixL (Nat.beq k i) (Ro.c q) (mixL (Nat.beq k i) (Ro.c p) (lsF Ro.c l k))) = fun k => mixL (Nat.beq k i) (Ro.c q) (lsF Ro.c l k) := by
    funext k
    cases Nat.beq k i with
    | true => rw [lsF_at, Ro.cod.mixT, Ro.cod.mixT, Ro.cod.mixT]
    | false => rw [lsF_at, Ro.cod.mixF, Ro.cod.mixF]
  rw [h1]
  exact Ro.cod.set l q hi rfl
theorem getD_setR {l : List Ro} {i j : Nat} {r : Ro} (h : i < l.length) : (l.set i r).getD j default = if j = i then r else l.getD j default := by
  rw [List.getD_eq_getElem?_getD, List.getElem?_set, List.getD_eq_getElem?_getD]
  by_cases e : j = i
  · rw [if_pos e.symm, if_pos e, if_pos h]; rfl
  · rw [if_neg (Ne.symm e), if_neg e]
theorem loopR' {d : Ds} {x : RR} {os : List Oc} {i : Nat} (hi : i < os.length) (hos : os.length ≤ 100000) (hl : x.l.length ≤ 100000) (hN : InvN x.l) : ∀ k : Nat, k ≤ x.l.length → LoopOK Tryd.prog Γm 3 110 (lpR 1) (LSpec.at lvR' [] (SR' d (stX d.who x (os.getD i default) k).l os (stX d.who x (os.getD i default) k).n i k) (OR' d (stepR d.who x (os.getD i default)) os i)) := by
  refine loop_at (S := fun k => SR' d (stX d.who x (os.getD i default) k).l os (stX d.who x (os.getD i default) k).n i k) (pre := fun k => k ≤ x.l.length) (O := fun _ => OR' d (stepR d.who x (os.getD i default)) os i) (k := 0) (fun k => x.l.length - k) fun k hk => .of (noLoops (by kernel_rfl)) (rR' d _ os _ i k) ?_
  have hlen := stX_len (who := d.who) (x := x) (o := os.getD i default) (k := k)
  rcases Nat.lt_or_ge k x.l.length with h | h
  · have e1 : IntKind.i64.wrap ((k : Int) + 1) = ((k + 1 : Nat) : Int) := wrapUpN (by omega)
    have hnn := hN k h
    have i0 : decide ((0 : Int) ≤ (i : Int)) = true := decide_eq_true (by omega)
    have i1 : decide ((i : Int) < (os.length : Int)) = true := decide_eq_true (by omega)
    have k0 : decide ((0 : Int) ≤ (k : Int)) = true := decide_eq_true (by omega)
    have k1 : decide ((k : Int) < (x.l.length : Int)) = true := decide_eq_true (by omega)
    have hb : Nat.beq k k = true := Nat.beq_refl k
    have hW : ∀ n, IntKind.i64.wrap n = w64 n := fun _ => rfl
    simp only [Nat.zero_add, Int.toNat_natCast, e1, hlen, i0, i1, k0, k1, hb, cond_true, Bool.and_self, Bool.true_and, Bool.cond_self]
    generalize ho : os.getD i default = o at *
    have hm : (fun k => x.l.length - k) (k + 1) < (fun k => x.l.length - k) k := Nat.sub_lt_sub_left h (Nat.lt_succ_self k)
    by_cases hM : noR d.who x.l o ∨ ¬ k = kO o.tx
    · -- nothing here
      have hsame : stX d.who x o (k + 1) = stX d.who x o k := by
        by_cases hn : noR d.who x.l o
        · rw [stX_no (.inl hn), stX_no (.inl hn)]
        · have hkj : ¬ k = kO o.tx := hM.resolve_left hn
          by_cases hlt : k < kO o.tx
          · rw [stX_no (.inr hlt), stX_no (.inr (by omega))]
          · rw [stX_yes hn (by omega), stX_yes hn (by omega)]
      have hel : (stX d.who x o k).l.getD k default = x.l.getD k default := by
        by_cases hn : noR d.who x.l o ∨ k ≤ kO o.tx
        · rw [stX_no hn]
        · have hn1 : ¬ noR d.who x.l o := fun q => hn (.inl q)
          have hlt : kO o.tx < k := by omega
          rw [stX_yes hn1 hlt, getD_setR (by omega), if_neg (by omega)]
      have hskip : (bif !decide (o.err = 0) then true else bif !decide (o.tx.fr = d.who) then true else bif !decide (o.tx.nn = (x.l.getD k default).tx.nn) then true else !decide ((x.l.getD k default).st = 0)) = true := by
        rw [hnn]
        by_cases h1 : o.err = 0
        · by_cases h2 : o.tx.fr = d.who
          · by_cases h3 : o.tx.nn = (k : Int) + 1
            · have hkk : kO o.tx = k := by unfold kO; omega
              have hnr : noR d.who x.l o := hM.resolve_right (fun q => q hkk.symm)
              unfold noR at hnr
              rw [hkk] at hnr
              have h4 : ¬ (x.l.getD k default).st = 0 := by
                rcases hnr with q | q | q | q | q
                · exact absurd h1 q
                · exact absurd h2 q
                · omega
                · omega
                · exact q
              rw [decide_eq_false h4]
              simp
            · rw [decide_eq_false h3]; simp
          · rw [decide_eq_false h2]; simp
        · rw [decide_eq_false h1]; simp
      rw [hel]
      refine wT rfl (wC rfl (wC rfl (wT hskip ?_)))
      refine ⟨k + 1, ?_, ?_, h, rfl, hm⟩
      · show LeL _ [.ptr 0 0, .hs 2 0 os.length, .v (.int .i64 (stX d.who x o (k + 1)).n), .v (.int .i64 (i : Int)), .v (.int .i64 ((k + 1 : Nat) : Int))]
        rw [hsame]; exact LeL.refl _
      · show LeH _ ((d.bl (stX d.who x o (k + 1)).l ++ [lsOc os]).map some)
        rw [hsame]
        unfold Ds.bl Ds.row Ds.rowJ
        show LeH _ [some (.row [.v (.string d.who), .v (.int .i64 d.most), .hs 1 0 (stX d.who x o k).l.length, .v (.int .i64 d.now), .v (.int .i64 d.heard)]), some (.arr 10 (stX d.who x o k).l.length (lsF Ro.c (stX d.who x o k).l)), some (lsOc os)]
        rw [hlen]
        exact LeH.refl _
    · have hn : ¬ noR d.who x.l o := fun q => hM (.inl q)
      have hk : k = kO o.tx := by
        by_cases e : k = kO o.tx
        · exact e
        · exact absurd (.inr e) hM
      have hn' := hn
      unfold noR at hn'
      have h1 : o.err = 0 := by
        by_cases e : o.err = 0
        · exact e
        · exact absurd (.inl e) hn'
      have h2 : o.tx.fr = d.who := by
        by_cases e : o.tx.fr = d.who
        · exact e
        · exact absurd (.inr (.inl e)) hn'
      have h4 : (x.l.getD k default).st = 0 := by
        by_cases e : (x.l.getD k default).st = 0
        · exact e
        · exact absurd (.inr (.inr (.inr (.inr (by rw [← hk]; exact e))))) hn'
      have h3 : o.tx.nn = (x.l.getD k default).tx.nn := by rw [hnn, hk]; unfold kO; omega
      have hst : stX d.who x o k = x := stX_no (.inr (Nat.le_of_eq hk))
      have hst1 : stX d.who x o (k + 1) = ⟨x.l.set k (newSt x.l o), w64 (x.n + 1)⟩ := by rw [stX_yes hn (by omega), hk]
      have hskip : (bif !decide (o.err = 0) then true else bif !decide (o.tx.fr = d.who) then true else bif !decide (o.tx.nn = (x.l.getD k default).tx.nn) then true else !decide ((x.l.getD k default).st = 0)) = false := by
        rw [decide_eq_true h1, decide_eq_true h2, decide_eq_true h3, decide_eq_true h4]; rfl
      have hns : newSt x.l o = setR (x.l.getD k default) (bif sameT o.tx (x.l.getD k default).tx then 1 else 2) := by unfold newSt; rw [hk]
      have hlen1 : (x.l.set k (newSt x.l o)).length = x.l.length := List.length_set
      rw [hst]
      have fin : ∀ b : Blk, OLe (some b) (some (lsR (x.l.set k (newSt x.l o)))) → ∃ x', LeL [.ptr 0 0, .hs 2 0 os.length, .v (.int .i64 (IntKind.i64.wrap (x.n + 1))), .v (.int .i64 (i : Int)), .v (.int .i64 ((k + 1 : Nat) : Int))] ((fun k => SR' d (stX d.who x o k).l os (stX d.who x o k).n i k) x').1 ∧ LeH [some (.row [.v (.string d.who), .v (.int .i64 d.most), .hs 1 0 x.l.length, .v (.int .i64 d.now), .v (.int .i64 d.heard)]), some b, some (lsOc os)] ((fun k => SR' d (stX d.who x o k).l os (stX d.who x o k).n i k) x').2 ∧ x' ≤ x.l.length ∧ OR' d (stepR d.who x o) os i = OR' d (stepR d.who x o) os i ∧ (fun k => x.l.length - k) x' < (fun k => x.l.length - k) k := fun b hb => by
        refine ⟨k + 1, ?_, ?_, h, rfl, hm⟩
        · show LeL _ [.ptr 0 0, .hs 2 0 os.length, .v (.int .i64 (stX d.who x o (k + 1)).n), .v (.int .i64 (i : Int)), .v (.int .i64 ((k + 1 : Nat) : Int))]
          rw [hst1]; exact LeL.refl _
        · show LeH _ ((d.bl (stX d.who x o (k + 1)).l ++ [lsOc os]).map some)
          rw [hst1]
          refine ⟨?_, hb, .refl _, trivial⟩
          unfold Ds.row Ds.rowJ
          dsimp only
          rw [hlen1]
          exact .refl _
      have hsm : (decide (o.tx.k = (x.l.getD k default).tx.k) && (decide (o.tx.fr = (x.l.getD k default).tx.fr) && (decide (o.tx.to = (x.l.getD k default).tx.to) && (decide (o.tx.ky = (x.l.getD k default).tx.ky) && (decide (o.tx.vl = (x.l.getD k default).tx.vl) && (decide (o.tx.am = (x.l.getD k default).tx.am) && decide (o.tx.nn = (x.l.getD k default).tx.nn))))))) = sameT o.tx (x.l.getD k default).tx := rfl
      simp only [hsm]
      have hT1 := set_twiceR x.l k (setR (x.l.getD k default) 2) (setR (x.l.getD k default) 1) h
      have hT2 := Ro.cod.set x.l (setR (x.l.getD k default) 2) h (N := x.l.length) rfl
      refine wT rfl (wC rfl (wC rfl (wN hskip (wC rfl (wC rfl ?_)))))
      cases hs : sameT o.tx (x.l.getD k default).tx with
      | true =>
        rw [hs] at hns
        have hns : newSt x.l o = setR (x.l.getD k default) 1 := hns
        rw [hns] at fin
        exact wT rfl (wC rfl (fin _ hT1))
      | false =>
        rw [hs] at hns
        have hns : newSt x.l o = setR (x.l.getD k default) 2 := hns
        rw [hns] at fin
        exact wN rfl (fin _ hT2)
  · obtain rfl : k = x.l.length := by omega
    rw [stX_end (Nat.le_refl _)] at hlen ⊢
    have k1 : decide ((x.l.length : Int) < (x.l.length : Int)) = false := decide_eq_false (by omega)
    simp only [hlen]
    refine wN k1 ⟨rfl, ⟨.refl _, .refl _, .refl _, .refl _, .any _, trivial⟩, ?_⟩
    unfold OR' Ds.bl Ds.row Ds.rowJ
    show LeH _ [some (.row [.v (.string d.who), .v (.int .i64 d.most), .hs 1 0 (stepR d.who x (os.getD i default)).l.length, .v (.int .i64 d.now), .v (.int .i64 d.heard)]), some (.arr 10 (stepR d.who x (os.getD i default)).l.length (lsF Ro.c (stepR d.who x (os.getD i default)).l)), some (lsOc os)]
    rw [hlen]
    exact LeH.refl _
end Go.Eng.TA.C

namespace Go.Eng.TA.C
open Go Go.Eng Go.Eng.M Go.Lib Go.Proofs
abbrev lvR : List Nat := [0, 1, 5, 6]
def SR (d : Ds) (x : RR) (os : List Oc) (i : Nat) : List AV × Heap := ([.ptr 0 0, .hs 2 0 os.length, .v (.int .i64 x.n), .v (.int .i64 (i : Int))], (d.bl x.l ++ [lsOc os]).map some)
def OR (d : Ds) (x : RR) (os : List Oc) : Out := ⟨.exit 0, [.ptr 0 0, .hs 2 0 os.length, .v (.int .i64 x.n), .any], (d.bl x.l ++ [lsOc os]).map some⟩
theorem rR (d : Ds) (x y : RR) (os : List Oc) (i : Nat) : roundE (P := Tryd.prog) (Γ := Γm) [] (fun _ => LSpec.at lvR' [] (SR' d x.l os x.n i 0) (OR' d y os i)) false 3 0 (lpR 0) lvR [] 110 (SR d x os i).1 (SR d x os i).2 =
  Tree.br (decide ((↑i : Int) < (↑(List.length os) : Int))) (Tree.chk (cl (LeL [AV.ptr (0 : Nat) (0 : Nat), AV.hs (2 : Nat) (0 : Nat) (List.length os), AV.v (Value.int IntKind.i64 x.n), AV.v
    (Value.int IntKind.i64 (↑i : Int)), AV.v (Value.int IntKind.i64 (0 : Int))] [AV.ptr (0 : Nat) (0 : Nat), AV.hs (2 : Nat) (0 : Nat) (List.length os), AV.v (Value.int IntKind.i64 x.n),
    AV.v (Value.int IntKind.i64 (↑i : Int)), AV.v (Value.int IntKind.i64 (↑(0 : Nat) : Int))] ∧ LeH [some (Blk.row [AV.v (Value.string d.who), AV.v (Value.int IntKind.i64 d.most), AV.hs (1 :
    Nat) (0 : Nat) (List.length x.l), AV.v (Value.int IntKind.i64 d.now), AV.v (Value.int IntKind.i64 d.heard)]), some (Blk.arr (10 : Nat) (List.length x.l) (lsF Ro.c x.l)), some (Blk.arr
    (10 : Nat) (List.length os) (lsF Oc.c os))] [some (Blk.row [AV.v (Value.string d.who), AV.v (Value.int IntKind.i64 d.most), AV.hs (1 : Nat) (0 : Nat) (List.length x.l), AV.v (Value.int
    IntKind.i64 d.now), AV.v (Value.int IntKind.i64 d.heard)]), some (Blk.arr (10 : Nat) (List.length x.l) (lsF Ro.c x.l)), some (Blk.arr (10 : Nat) (List.length os) (lsF Oc.c os))]))
    (Tree.leaf (Out.mk AEx.normal [AV.ptr (0 : Nat) (0 : Nat), AV.hs (2 : Nat) (0 : Nat) (List.length os), AV.v (Value.int IntKind.i64 y.n), AV.v (Value.int IntKind.i64 (IntKind.wrap
    IntKind.i64 ((↑i : Int) + (1 : Int))))] [some (Blk.row [AV.v (Value.string d.who), AV.v (Value.int IntKind.i64 d.most), AV.hs (1 : Nat) (0 : Nat) (List.length y.l), AV.v (Value.int
    IntKind.i64 d.now), AV.v (Value.int IntKind.i64 d.heard)]), some (Blk.arr (10 : Nat) (List.length y.l) (lsF Ro.c y.l)), some (Blk.arr (10 : Nat) (List.length os) (lsF Oc.c os))])))
    (Tree.leaf (Out.mk (AEx.exit (0 : Nat)) [AV.ptr (0 : Nat) (0 : Nat), AV.hs (2 : Nat) (0 : Nat) (List.length os), AV.v (Value.int IntKind.i64 x.n), AV.v (Value.int IntKind.i64 (↑i :
    Int))] [some (Blk.row [AV.v (Value.string d.who), AV.v (Value.int IntKind.i64 d.most), AV.hs (1 : Nat) (0 : Nat) (List.length x.l), AV.v (Value.int IntKind.i64 d.now), AV.v (Value.int
    IntKind.i64 d.heard)]), some (Blk.arr (10 : Nat) (List.length x.l) (lsF Ro.c x.l)), some (Blk.arr (10 : Nat) (List.length os) (lsF Oc.c os))])) := by kernel_rfl
theorem rR0 (d : Ds) (x : RR) (os : List Oc) (i : Nat) : roundE (P := Tryd.prog) (Γ := Γm) [] Lno false 3 0 (lpR 0) lvR [] 110 (SR d x os i).1 (SR d x os i).2 =
  Tree.br (decide ((↑i : Int) < (↑(List.length os) : Int))) Tree.fail (Tree.leaf (Out.mk (AEx.exit (0 : Nat)) [AV.ptr (0 : Nat) (0 : Nat), AV.hs (2 : Nat) (0 : Nat) (List.length os), AV.v
    (Value.int IntKind.i64 x.n), AV.v (Value.int IntKind.i64 (↑i : Int))] [some (Blk.row [AV.v (Value.string d.who), AV.v (Value.int IntKind.i64 d.most), AV.hs (1 : Nat) (0 : Nat)
    (List.length x.l), AV.v (Value.int IntKind.i64 d.now), AV.v (Value.int IntKind.i64 d.heard)]), some (Blk.arr (10 : Nat) (List.length x.l) (lsF Ro.c x.l)), some (Blk.arr (10 : Nat)
    (List.length os) (lsF Oc.c os))])) := by kernel_rfl
theorem stepR_len {who : ByteArray} {x : RR} {o : Oc} : (stepR who x o).l.length = x.l.length := by
  rw [← stX_end (Nat.le_refl _)]; exact stX_len
theorem stepR_inv {who : ByteArray} {x : RR} {o : Oc} (h : InvN x.l) : InvN (stepR who x o).l := by
  unfold stepR
  split
  · exact h
  · rename_i hn
    unfold noR at hn
    have hk : kO o.tx < x.l.length := by unfold kO; omega
    intro k hk'
    rw [List.length_set] at hk'
    rw [getD_setR hk]
    split
    · rename_i e; subst e; exact h _ hk
    · exact h k hk'
theorem loopR {d : Ds} {os : List Oc} {R : RR} (hos : os.length ≤ 100000) : ∀ y : RR × Nat, (y.2 ≤ os.length ∧ y.1.l.length ≤ 100000 ∧ InvN y.1.l ∧ (os.drop y.2).foldl (stepR d.who) y.1 = R) → LoopOK Tryd.prog Γm 3 110 (lpR 0) (LSpec.at lvR [] (SR d y.1 os y.2) (OR d R os)) := by
  refine loop_at (S := fun y : RR × Nat => SR d y.1 os y.2) (pre := fun y => y.2 ≤ os.length ∧ y.1.l.length ≤ 100000 ∧ InvN y.1.l ∧ (os.drop y.2).foldl (stepR d.who) y.1 = R) (O := fun _ => OR d R os) (k := 0) (fun y => os.length - y.2) fun y hy => ?_
  obtain ⟨x, i⟩ := y
  obtain ⟨h1, h2, hN, h3⟩ := hy
  dsimp only at h1 h2 hN h3 ⊢
  rcases Nat.lt_or_ge i os.length with hi | hi
  · have hin := loopR' (d := d) (x := x) hi hos h2 hN 0 (Nat.zero_le _)
    rw [stX_no (.inr (Nat.zero_le _))] at hin
    refine .of (oneLoop (b := lpR 1) (by kernel_rfl) hin) (rR d x (stepR d.who x (os.getD i default)) os i) ?_
    have e1 : IntKind.i64.wrap ((i : Int) + 1) = ((i + 1 : Nat) : Int) := wrapUpN (by omega)
    have hd : os.drop i = os.getD i default :: os.drop (i + 1) := by rw [List.drop_eq_getElem_cons hi, getD_get hi]
    rw [hd, List.foldl_cons] at h3
    have i1 : decide ((i : Int) < (os.length : Int)) = true := decide_eq_true (by omega)
    have hl2 := stepR_len (who := d.who) (x := x) (o := os.getD i default)
    simp only [e1, i1]
    refine wT rfl (wC (cl_iff.2 ⟨LeL.refl _, LeH.refl _⟩) ?_)
    exact ⟨(stepR d.who x (os.getD i default), i + 1), LeL.refl _, LeH.refl _, ⟨hi, by show (stepR d.who x (os.getD i default)).l.length ≤ _; omega, stepR_inv hN, h3⟩, rfl, by show os.length - (i + 1) < os.length - i; omega⟩
  · have hz : i = os.length := by omega
    subst hz
    rw [List.drop_length] at h3
    have h3 : x = R := h3
    subst h3
    refine .of (L := Lno) (failOK fun _ _ _ => rfl) (rR0 d x os os.length) ?_
    have i1 : decide ((os.length : Int) < (os.length : Int)) = false := decide_eq_false (by omega)
    simp only [i1]
    exact wN rfl ⟨rfl, ⟨.refl _, .refl _, .refl _, .any _, trivial⟩, LeH.refl _⟩
noncomputable def LHR (d : Ds) (x R : RR) (os : List Oc) (h : Nat) : Nat → LSpec
  | 0 => LSpec.at lvR [] (SR d x os h) (OR d R os)
  | _ => Lno 0
theorem runHR (d : Ds) (l : List Ro) (R : RR) (os : List Oc) (h : Nat) : bodyE (P := Tryd.prog) (Γ := Γm) [] (LHR d ⟨l, 0⟩ R os h) false 110 [.tmp 4] (bodyOf Tryd.f69) [.ptr 0 0, .hs 2 0 os.length] (d.bl l ++ [lsOc os]) =
  Tree.chk (cl (LeL [AV.ptr (0 : Nat) (0 : Nat), AV.hs (2 : Nat) (0 : Nat) (List.length os), AV.v (Value.int IntKind.i64 (0 : Int)), AV.v (Value.int IntKind.i64 d.heard)] [AV.ptr (0 : Nat) (0
    : Nat), AV.hs (2 : Nat) (0 : Nat) (List.length os), AV.v (Value.int IntKind.i64 (0 : Int)), AV.v (Value.int IntKind.i64 (↑h : Int))] ∧ LeH [some (Blk.row [AV.v (Value.string d.who), AV.v
    (Value.int IntKind.i64 d.most), AV.hs (1 : Nat) (0 : Nat) (List.length l), AV.v (Value.int IntKind.i64 d.now), AV.v (Value.int IntKind.i64 d.heard)]), some (Blk.arr (10 : Nat)
    (List.length l) (lsF Ro.c l)), some (Blk.arr (10 : Nat) (List.length os) (lsF Oc.c os))] [some (Blk.row [AV.v (Value.string d.who), AV.v (Value.int IntKind.i64 d.most), AV.hs (1 : Nat)
    (0 : Nat) (List.length (RR.mk l (0 : Int)).l), AV.v (Value.int IntKind.i64 d.now), AV.v (Value.int IntKind.i64 d.heard)]), some (Blk.arr (10 : Nat) (List.length (RR.mk l (0 : Int)).l)
    (lsF Ro.c (RR.mk l (0 : Int)).l)), some (Blk.arr (10 : Nat) (List.length os) (lsF Oc.c os))])) (Tree.leaf (Ans.mk (AV.v (Value.int IntKind.i64 R.n)) [some (Blk.row [AV.v (Value.string
    d.who), AV.v (Value.int IntKind.i64 d.most), AV.hs (1 : Nat) (0 : Nat) (List.length R.l), AV.v (Value.int IntKind.i64 d.now), AV.v (Value.int IntKind.i64 (if (↑(List.length os) : Int) >
    d.heard then (↑(List.length os) : Int) else d.heard))]), some (Blk.arr (10 : Nat) (List.length R.l) (lsF Ro.c R.l)), some (Blk.arr (10 : Nat) (List.length os) (lsF Oc.c os))])) := by kernel_rfl
theorem runCn (c : Cs) (l : List Pc) : bodyE (P := Tryd.prog) (Γ := Γm) [] Lno false 19 [.tmp 2, .tmp 3, .tmp 4] (bodyOf Tryd.f70) [.ptr 0 0] (c.bl l) =
  Tree.leaf (Ans.mk (AV.tup [AV.v (Value.int IntKind.i64 c.wt), AV.v (Value.int IntKind.i64 c.en), AV.v (Value.int IntKind.i64 c.go)]) [some (Blk.row [AV.v (Value.string c.who), AV.v
    (Value.int IntKind.i64 c.most), AV.hs (1 : Nat) (0 : Nat) (List.length l), AV.v (Value.int IntKind.i64 c.now), AV.v (Value.int IntKind.i64 c.heard), AV.v (Value.int IntKind.i64 c.wt),
    AV.v (Value.int IntKind.i64 c.en), AV.v (Value.int IntKind.i64 c.go)]), some (Blk.arr (10 : Nat) (List.length l) (lsF Pc.c l))]) := by kernel_rfl
end Go.Eng.TA.C

namespace Go.Eng.TA.C
open Go Go.Eng Go.Eng.M Go.Lib Go.Proofs
noncomputable def hearR (d : Ds) (l : List Ro) (os : List Oc) : RR := (os.drop d.heard.toNat).foldl (stepR d.who) ⟨l, 0⟩
def hd' (d : Ds) (os : List Oc) : Ds := { d with heard := (os.length : Int) }
theorem ansHR {d : Ds} {l : List Ro} {os : List Oc} (hos : os.length ≤ 100000) (hl : l.length ≤ 100000) (hN : InvN l) (h0 : 0 ≤ d.heard) (h1 : d.heard ≤ (os.length : Int)) :
    Answers Tryd.prog Γm 69 [.ptr 0 0, .hs 2 0 os.length] (d.bl l ++ [lsOc os]) (.v (.int .i64 (hearR d l os).n)) ((Ds.bl (hd' d os) (hearR d l os).l ++ [lsOc os]).map some) [] := by
  have hh : d.heard.toNat ≤ os.length := by omega
  have he : ((d.heard.toNat : Nat) : Int) = d.heard := by omega
  refine answers (fn := Tryd.f69) (c := bodyOf Tryd.f69) (ntmps := 110) (results := [.tmp 4]) [] (LHR d ⟨l, 0⟩ (hearR d l os) os d.heard.toNat) false Tryd.func69 (by kernel_rfl) (by kernel_rfl) (by kernel_rfl) (by kernel_rfl) (by simp) rfl (twoLoops (b := lpR 0) (b' := lpR 1) (by kernel_rfl) (loopR hos (⟨l, 0⟩, d.heard.toNat) ⟨hh, hl, hN, rfl⟩) fail_ok) <| Meets.of (runHR d l (hearR d l os) os d.heard.toNat) <| ?_
  have hm : (if (os.length : Int) > d.heard then (os.length : Int) else d.heard) = (os.length : Int) := by split <;> omega
  simp only [he, hm]
  exact wC (cl_iff.2 ⟨LeL.refl _, LeH.refl _⟩) ⟨.refl _, LeH.refl _⟩
theorem ansCn {c : Cs} {l : List Pc} : Answers Tryd.prog Γm 70 [.ptr 0 0] (c.bl l) (.tup [.v (.int .i64 c.wt), .v (.int .i64 c.en), .v (.int .i64 c.go)]) ((c.bl l).map some) [] := by
  refine answers (fn := Tryd.f70) (c := bodyOf Tryd.f70) (ntmps := 19) (results := [.tmp 2, .tmp 3, .tmp 4]) [] (Lno) false Tryd.func70 (by kernel_rfl) (by kernel_rfl) (by kernel_rfl) (by kernel_rfl) (by simp) rfl (failOK fun _ _ _ => rfl) <| Meets.of (runCn c l) <| ?_
  exact ⟨.refl _, LeH.refl _⟩
def toS : List AV → Option Int
  | [.ptr 0 0, .v (.int .i64 s)] => some s
  | _ => none
noncomputable def hCt (d : Ds) (l : List Ro) (hl : l.length ≤ 100000) : CT Tryd.prog Γm := CT.famN 71 toS (d.bl l) (fun s => .v (.int .i64 (cnt s l : Int))) (callFunc_enters Tryd.func71 (by kernel_rfl) (by kernel_rfl)) (fun args s hx => by
  unfold toS at hx
  split at hx
  · cases hx; exact ansC s hl
  · cases hx)
def pc (r : Ro) : Pc := ⟨r.tx, r.st, dueR r, gp (r.tm.length + 1)⟩
def dOf (c : Cs) : Ds := ⟨c.who, c.most, c.now, c.heard⟩
theorem pc_due (n : Int) (r : Ro) : due n (pc r) = dueB n r := rfl
theorem gp_twice (k : Nat) : (if 16 < 2 * gp k then 16 else 2 * gp k) = gp (k + 1) := by
  obtain ⟨g1, g2⟩ := gp_le k
  obtain ⟨g3, g4⟩ := gp_le (k + 1)
  by_cases h : gp k < 16
  · have := gp_next h
    rw [if_neg (by omega)]; omega
  · have := gp_big h (Nat.le_succ k)
    rw [if_pos (by omega)]
    show (16 : Int) = gp (k.succ)
    omega
theorem pc_tk (n : Int) (r : Ro) : tk n (pc r) = pc (rtk n r) := by
  unfold tk rtk
  rw [pc_due]
  cases hd : dueB n r with
  | false => rfl
  | true =>
    show Pc.mk r.tx r.st (n + gp (r.tm.length + 1)) (if 16 < 2 * gp (r.tm.length + 1) then 16 else 2 * gp (r.tm.length + 1)) = pc { r with tm := r.tm ++ [⟨n⟩] }
    have hz : (r.tm ++ [(⟨n⟩ : Iv)]).length = r.tm.length + 1 := by rw [List.length_append]; rfl
    have hl : (r.tm ++ [(⟨n⟩ : Iv)]).getD (r.tm.length + 1 - 1) default = ⟨n⟩ := by
      rw [getD_app' (by omega), show r.tm.length + 1 - 1 - r.tm.length = 0 by omega]; rfl
    unfold pc dueR
    dsimp only
    rw [hz, gp_twice, if_neg (by omega), hl]
theorem map_tk (n : Int) (l : List Ro) : (l.map pc).map (tk n) = (l.map (rtk n)).map pc := by
  rw [List.map_map, List.map_map]
  exact List.map_congr_left fun r _ => pc_tk n r
theorem out_eq (n : Int) (l : List Ro) : outT n (l.map pc) (l.map pc).length = outR n l l.length := by
  unfold outT outR
  rw [List.take_of_length_le (Nat.le_refl _), List.take_of_length_le (Nat.le_refl _), List.filter_map, List.map_map]
  rfl
theorem getD_pc {l : List Ro} {j : Nat} (h : j < l.length) : (l.map pc).getD j default = pc (l.getD j default) := getD_map h
theorem cnt_set {s : Int} {l : List Ro} {k : Nat} {r : Ro} (h : k < l.length) : cnt s (l.set k r) + (if (l.getD k default).st = s then 1 else 0) = cnt s l + (if r.st = s then 1 else 0) := by
  have e1 : l.set k r = l.take k ++ r :: l.drop (k + 1) := List.set_eq_take_append_cons_drop .. |>.trans (by rw [if_pos h])
  have e2 : l = l.take k ++ l.getD k default :: l.drop (k + 1) := by
    rw [getD_get h, ← List.drop_eq_getElem_cons h, List.take_append_drop]
  have hc : ∀ (a b : List Ro) (x : Ro), cnt s (a ++ x :: b) = cnt s a + cnt s b + (if x.st = s then 1 else 0) := fun a b x => by
    unfold cnt
    rw [List.filter_append, List.length_append]
    by_cases e : x.st = s
    · rw [if_pos e, List.filter_cons_of_pos (by simpa using e), List.length_cons]; omega
    · rw [if_neg e, List.filter_cons_of_neg (by simpa using e)]; omega
  have q1 := hc (l.take k) (l.drop (k + 1)) r
  have q2 := hc (l.take k) (l.drop (k + 1)) (l.getD k default)
  rw [← e1] at q1
  rw [← e2] at q2
  omega
theorem cnt_app {s : Int} {l : List Ro} {r : Ro} : cnt s (l ++ [r]) = cnt s l + (if r.st = s then 1 else 0) := by
  unfold cnt
  rw [List.filter_append, List.length_append]
  by_cases e : r.st = s
  · rw [if_pos e, List.filter_cons_of_pos (by simpa using e)]; rfl
  · rw [if_neg e, List.filter_cons_of_neg (by simpa using e)]; rfl
theorem cnt_map {s : Int} {l : List Ro} {f : Ro → Ro} (h : ∀ r, (f r).st = r.st) : cnt s (l.map f) = cnt s l := by
  unfold cnt
  rw [List.filter_map, List.length_map]
  congr 2
  funext r
  show decide ((f r).st = s) = decide (r.st = s)
  rw [h]
structure CI (c : Cs) (l : List Ro) : Prop where
  w : c.wt = (cnt 0 l : Int)
  e : c.en = (cnt 1 l : Int)
  g : c.go = (cnt 2 l : Int)
theorem rtk_st (n : Int) (r : Ro) : (rtk n r).st = r.st := by unfold rtk; cases dueB n r <;> rfl
theorem rtk_tx (n : Int) (r : Ro) : (rtk n r).tx = r.tx := by unfold rtk; cases dueB n r <;> rfl
theorem sameT_comm (a b : Tx) : sameT a b = sameT b a := by
  cases h : sameT b a with
  | true => rw [sameT_iff] at h ⊢; exact h.symm
  | false =>
    cases h' : sameT a b with
    | false => rfl
    | true => rw [sameT_iff] at h'; rw [h'.symm, sameT_iff.2 rfl] at h; exact absurd h (by decide)
theorem w64_small {n : Int} (h : 0 ≤ n) (h' : n ≤ 1000000) : w64 n = n := wrap64 (by omega) (by omega)
theorem set_map {l : List Ro} {k : Nat} {r : Ro} : (l.map pc).set k (pc r) = (l.set k r).map pc := (List.map_set ..).symm
theorem end_eq {c : Cs} {l : List Ro} {o : Oc} {n : Int} (hc : CI c l) (hl : l.length ≤ 100000) :
    ∃ c', stepH ⟨c, l.map pc, n⟩ o = ⟨c', (stepR c.who ⟨l, n⟩ o).l.map pc, (stepR c.who ⟨l, n⟩ o).n⟩ ∧ CI c' (stepR c.who ⟨l, n⟩ o).l ∧ c'.who = c.who ∧ c'.most = c.most ∧ c'.now = c.now ∧ c'.heard = c.heard := by
  obtain ⟨hw, he, hg⟩ := hc
  have hz : (l.map pc).length = l.length := List.length_map ..
  by_cases h0 : o.err = 0
  · have hs : stepH ⟨c, l.map pc, n⟩ o = ⟨(endF c (l.map pc) o.tx).c, (endF c (l.map pc) o.tx).l, bif (endF c (l.map pc) o.tx).b then w64 (n + 1) else n⟩ := if_pos h0
    by_cases hn : noR c.who l o
    · have hr : stepR c.who ⟨l, n⟩ o = ⟨l, n⟩ := if_pos hn
      have hE : noE c (l.map pc) o.tx := by
        unfold noR at hn
        unfold noE
        rw [hz]
        by_cases h1 : o.tx.fr = c.who
        · by_cases h2 : o.tx.nn < 1
          · exact .inr (.inl h2)
          · by_cases h3 : (l.length : Int) < o.tx.nn
            · exact .inr (.inr (.inl h3))
            · refine .inr (.inr (.inr ?_))
              rw [getD_pc (by unfold kO; omega)]
              rcases hn with q | q | q | q | q
              · exact absurd h0 q
              · exact absurd h1 q
              · exact absurd q h2
              · exact absurd q h3
              · exact q
        · exact .inl h1
      rw [hs, hr, endF_no hE]
      exact ⟨c, rfl, ⟨hw, he, hg⟩, rfl, rfl, rfl, rfl⟩
    · have hr : stepR c.who ⟨l, n⟩ o = ⟨l.set (kO o.tx) (newSt l o), w64 (n + 1)⟩ := if_neg hn
      have hn' := hn
      unfold noR at hn'
      have hk : kO o.tx < l.length := by unfold kO; omega
      have hst : (l.getD (kO o.tx) default).st = 0 := by
        by_cases e : (l.getD (kO o.tx) default).st = 0
        · exact e
        · exact absurd (.inr (.inr (.inr (.inr e)))) hn'
      have hE : ¬ noE c (l.map pc) o.tx := by
        unfold noE
        rw [hz, getD_pc hk]
        rintro (q | q | q | q)
        · exact hn' (.inr (.inl q))
        · exact hn' (.inr (.inr (.inl q)))
        · exact hn' (.inr (.inr (.inr (.inl q))))
        · exact q hst
      have c0 := cnt_set (s := 0) (r := newSt l o) hk
      have c1 := cnt_set (s := 1) (r := newSt l o) hk
      have c2 := cnt_set (s := 2) (r := newSt l o) hk
      rw [hst] at c0 c1 c2
      have b0 := cnt_le 0 l
      have b1 := cnt_le 1 l
      have b2 := cnt_le 2 l
      have hsw : sameT (l.getD (kO o.tx) default).tx o.tx = sameT o.tx (l.getD (kO o.tx) default).tx := sameT_comm _ _
      rw [hs, hr]
      cases hq : sameT o.tx (l.getD (kO o.tx) default).tx with
      | true =>
        have hns : newSt l o = setR (l.getD (kO o.tx) default) 1 := by unfold newSt; rw [hq]; rfl
        have hs1 : (newSt l o).st = 1 := by rw [hns]; rfl
        rw [hs1] at c0 c1 c2
        rw [endF_one hE (by rw [getD_pc hk]; exact hsw.trans hq), getD_pc hk]
        have h1 := w64_small (n := c.wt - 1) (by rw [hw]; simp at c0; omega) (by rw [hw]; omega)
        have h2 := w64_small (n := c.en + 1) (by rw [he]; omega) (by rw [he]; omega)
        refine ⟨{ c with wt := w64 (c.wt - 1), en := w64 (c.en + 1) }, ?_, ⟨?_, ?_, ?_⟩, rfl, rfl, rfl, rfl⟩
        · show RH.mk _ ((l.map pc).set (kO o.tx) (setS (pc (l.getD (kO o.tx) default)) 1)) _ = _
          rw [show setS (pc (l.getD (kO o.tx) default)) 1 = pc (newSt l o) by rw [hns]; rfl, set_map]
          rfl
        · show w64 (c.wt - 1) = _
          rw [h1, hw]; simp at c0; dsimp only; omega
        · show w64 (c.en + 1) = _
          rw [h2, he]; simp at c1; dsimp only; omega
        · show c.go = _
          rw [hg]; simp at c2; dsimp only; omega
      | false =>
        have hns : newSt l o = setR (l.getD (kO o.tx) default) 2 := by unfold newSt; rw [hq]; rfl
        have hs1 : (newSt l o).st = 2 := by rw [hns]; rfl
        rw [hs1] at c0 c1 c2
        rw [endF_two hE (by rw [getD_pc hk]; exact hsw.trans hq), getD_pc hk]
        have h1 := w64_small (n := c.wt - 1) (by rw [hw]; simp at c0; omega) (by rw [hw]; omega)
        have h2 := w64_small (n := c.go + 1) (by rw [hg]; omega) (by rw [hg]; omega)
        refine ⟨{ c with wt := w64 (c.wt - 1), go := w64 (c.go + 1) }, ?_, ⟨?_, ?_, ?_⟩, rfl, rfl, rfl, rfl⟩
        · show RH.mk _ ((l.map pc).set (kO o.tx) (setS (pc (l.getD (kO o.tx) default)) 2)) _ = _
          rw [show setS (pc (l.getD (kO o.tx) default)) 2 = pc (newSt l o) by rw [hns]; rfl, set_map]
          rfl
        · show w64 (c.wt - 1) = _
          rw [h1, hw]; simp at c0; dsimp only; omega
        · show c.en = _
          rw [he]; simp at c1; dsimp only; omega
        · show w64 (c.go + 1) = _
          rw [h2, hg]; simp at c2; dsimp only; omega
  · have hs : stepH ⟨c, l.map pc, n⟩ o = ⟨c, l.map pc, n⟩ := if_neg h0
    have hr : stepR c.who ⟨l, n⟩ o = ⟨l, n⟩ := if_pos (.inl h0)
    rw [hs, hr]
    exact ⟨c, rfl, ⟨hw, he, hg⟩, rfl, rfl, rfl, rfl⟩
theorem fold_eq : ∀ (os : List Oc) {c : Cs} {l : List Ro} {n : Int}, CI c l → l.length ≤ 100000 →
    ∃ c', os.foldl stepH ⟨c, l.map pc, n⟩ = ⟨c', (os.foldl (stepR c.who) ⟨l, n⟩).l.map pc, (os.foldl (stepR c.who) ⟨l, n⟩).n⟩ ∧ CI c' (os.foldl (stepR c.who) ⟨l, n⟩).l ∧ c'.who = c.who ∧ c'.most = c.most ∧ c'.now = c.now ∧ c'.heard = c.heard
  | [], c, l, n, hc, hl => ⟨c, rfl, hc, rfl, rfl, rfl, rfl⟩
  | o :: os, c, l, n, hc, hl => by
    obtain ⟨c1, e1, k1, a1, a2, a3, a4⟩ := end_eq (o := o) (n := n) hc hl
    have hlen : (stepR c.who ⟨l, n⟩ o).l.length = l.length := stepR_len
    obtain ⟨c2, e2, k2, b1, b2, b3, b4⟩ := fold_eq os (c := c1) (l := (stepR c.who ⟨l, n⟩ o).l) (n := (stepR c.who ⟨l, n⟩ o).n) k1 (by omega)
    rw [a1] at e2 k2
    rw [List.foldl_cons, List.foldl_cons, e1]
    exact ⟨c2, e2, k2, b1.trans a1, b2.trans a2, b3.trans a3, b4.trans a4⟩
theorem hear_eq {c : Cs} {l : List Ro} {os : List Oc} (hc : CI c l) (hl : l.length ≤ 100000) (h0 : 0 ≤ c.heard) (h1 : c.heard ≤ (os.length : Int)) :
    ∃ c', hearF c (l.map pc) os = ⟨c', (hearR (dOf c) l os).l.map pc, (hearR (dOf c) l os).n⟩ ∧ CI c' (hearR (dOf c) l os).l ∧ dOf c' = hd' (dOf c) os := by
  by_cases h : (os.length : Int) ≤ c.heard
  · have e : hearF c (l.map pc) os = ⟨c, l.map pc, 0⟩ := if_pos h
    have hz : os.drop c.heard.toNat = [] := List.drop_eq_nil_of_le (by omega)
    have hr : hearR (dOf c) l os = ⟨l, 0⟩ := by
      unfold hearR
      show (os.drop c.heard.toNat).foldl _ _ = _
      rw [hz]; rfl
    rw [e, hr]
    refine ⟨c, rfl, hc, ?_⟩
    unfold hd' dOf
    rw [show c.heard = (os.length : Int) by omega]
  · have e : hearF c (l.map pc) os = ⟨setH' ((os.drop c.heard.toNat).foldl stepH ⟨c, l.map pc, 0⟩).c (os.length : Int), ((os.drop c.heard.toNat).foldl stepH ⟨c, l.map pc, 0⟩).l, ((os.drop c.heard.toNat).foldl stepH ⟨c, l.map pc, 0⟩).n⟩ := if_neg h
    obtain ⟨c1, e1, k1, a1, a2, a3, a4⟩ := fold_eq (os.drop c.heard.toNat) (n := 0) hc hl
    rw [e, e1]
    refine ⟨setH' c1 (os.length : Int), rfl, ⟨k1.w, k1.e, k1.g⟩, ?_⟩
    unfold hd' dOf setH'
    dsimp only
    rw [a1, a2, a3]
end Go.Eng.TA.C
