/- Texts that CE13r needs: EngAU and what follows it. -/
import Derived.Test.YtmjbindplgpjjaaDoorPart4
set_option linter.unnecessarySimpa false
set_option linter.unusedSectionVars false
set_option linter.unusedSimpArgs false
set_option linter.unusedVariables false
namespace Go.Eng
open Go
theorem mixU (c : Bool) (a b : Int) : mixL c [.v (.int .u8 a)] [.v (.int .u8 b)] = [.v (.int .u8 (bif c then a else b))] := by cases c <;> rfl
section
variable {P : Program} {Γ : Nat → AV}
theorem V.ptr_inv {σ : Store} {φ : Places} {i o : Nat} {y : Value} (h : V σ φ (.ptr i o) y) : ∃ L, φ i = some L ∧ L.virt = false := by
  cases h with
  | base h => cases h
  | ptr h hr => exact ⟨_, h, hr⟩
theorem V.hs_inv {σ : Store} {φ : Places} {i e n : Nat} {y : Value} (h : V σ φ (.hs i e n) y) : ∃ L, φ i = some L := by
  cases h with
  | base h => cases h
  | hs h hr => exact ⟨_, h⟩
  | hsnil A h => exact ⟨_, h⟩
theorem Answers.boxOut {f : FuncId} {args : List AV} {Hin : List Blk} {v : AV} {H1 : List (Option Blk)} {new : List Blk} (a i o j c c0 e0 n0 : Nat) {cs0 cs1 : List AV} {sz N : Nat} {g : Nat → List AV} (ha : args[a]? = some (.ptr i o)) (h0 : Hin[i]? = some (.row cs0)) (hc0 : cs0[c0]? = some (.hs j e0 n0))
    (hj : j < Hin.length) (h1 : H1[i]? = some (some (.row cs1))) (hc1 : cs1[c]? = some (.v (.slice none 0 0))) (hjr : H1[j]? = some (some (.arr sz N g))) (h : Answers P Γ f args Hin v H1 new) :
    Answers P Γ f args Hin v (H1.set i (some (.row (cs1.set c (.hs j N 0))))) new where
  len := by rw [List.length_set]; exact h.len
  enters := h.enters
  ok := by
    intro σ φ w vals hG hV hn hR
    have hlen := h.len
    have e0 : ({ val := v, upd := H1.map some, new := new } : Res).heap Hin = H1 ++ new.map some := by
      unfold Res.heap; rw [outOf_all _ _ hlen]
    have e1 : ({ val := v, upd := (H1.set i (some (.row (cs1.set c (.hs j N 0))))).map some, new := new } : Res).heap Hin = (H1 ++ new.map some).set i (some (.row (cs1.set c (.hs j N 0)))) := by
      unfold Res.heap
      rw [outOf_all _ _ (by rw [List.length_set]; exact hlen)]
      have hil : i < H1.length := (List.getElem?_eq_some_iff.1 h1).1
      rw [List.set_append_left _ _ hil]
    rw [e1]
    refine (h.ok σ φ w vals hG hV hn hR).mono fun e w' ⟨σ', φ', x, k1, k2, k3, k4, k5⟩ => ⟨σ', φ', x, k1, k2, ?_, k4, fun k hk => k5 k (by rw [e0]; rw [List.length_set] at hk; exact hk)⟩
    rw [e0] at k3
    obtain ⟨y, hy, hyv⟩ : ∃ y, vals.toList[a]? = some y ∧ V σ φ (.ptr i o) y := by
      have hal : a < args.length := (List.getElem?_eq_some_iff.1 ha).1
      have hal' : a < vals.toList.length := hV.1 ▸ hal
      exact ⟨_, List.getElem?_eq_getElem hal', hV.2 a _ _ ha (List.getElem?_eq_getElem hal')⟩
    obtain ⟨L, hL, hv⟩ := hyv.ptr_inv
    have hg0 : getH (Hin.map some) i = some (.row cs0) := by rw [getHmap, h0]
    obtain ⟨cc, _, _, _, hcell⟩ := hR.obj i _ L hg0 hL hv
    obtain ⟨yc, _, hyc⟩ := hcell c0 _ hc0
    obtain ⟨Lj, hLj⟩ := hyc.hs_inv
    have hLj' : φ' j = some Lj := by rw [k4 j hj]; exact hLj
    have hgj : getH (H1 ++ new.map some) j = some (.arr sz N g) := by
      unfold getH
      rw [List.getElem?_append_left (List.getElem?_eq_some_iff.1 hjr).1, hjr]
    have hgi : getH (H1 ++ new.map some) i = some (.row cs1) := by
      unfold getH
      rw [List.getElem?_append_left (List.getElem?_eq_some_iff.1 h1).1, h1]
    have hN := k3.len j Lj sz N g hgj hLj'
    refine k3.setRow hgi hc1 fun y hy => ?_
    obtain rfl := hy.v_eq
    exact .hsnil none hLj' (by omega) rfl
theorem Answers.nilSl {f : FuncId} {sz : Nat} {z : List AV} {g : Nat → List AV} (hz : z.length = sz) {M : List AV} (hM : M.length = sz) (h1 : ∀ cap, Answers P Γ f [.v (.slice none 0 cap)] [] (.v (.slice none 0 0)) [] [])
    (h2 : Answers P Γ f [.sl sz 0 fun _ => M] [] (.hs 0 0 0) [] [.arr sz 0 fun _ => z]) : Answers P Γ f [.sl sz 0 g] [] (.hs 0 0 0) [] [.arr sz 0 fun _ => z] where
  len := rfl
  enters := h2.enters
  ok := by
    intro σ φ w vals hG hV hn hR
    obtain ⟨y, hy, hv⟩ := hV.one_inv
    have hsl : ∀ (A : Option Addr) (cap : Nat), A ≠ none → y = .slice A 0 cap → VL σ φ [.sl sz 0 fun _ => M] vals.toList := fun A cap hA e => by
      rw [hy, e]
      exact .one (.base (.slnil sz 0 _ A cap (fun _ => hM) rfl (fun h => absurd h hA))) .none
    have hnil : ∀ cap : Nat, y = .slice none 0 cap → Calls P f vals w fun e w' => ∃ σ' φ' v, e = .returned v ∧ V σ' φ' (.hs 0 0 0) v ∧
      R ⟨w, σ, fun b => ∃ k L, φ k = some L ∧ L.virt = false ∧ L.b = b⟩ σ' φ' (getH (Res.heap [] { val := .hs 0 0 0, upd := [], new := [.arr sz 0 fun _ => z] })) w' ∧ (∀ k, k < 0 → φ' k = φ k) ∧ (∀ k, 1 ≤ k → φ' k = none) := fun cap he => by
      refine ((h1 cap).ok σ φ w vals hG (by rw [hy, he]; exact .one (V_v _) .none) hn hR).mono fun e w' ⟨σ', φ', v, e1, e2, e3, e4, e5⟩ => ?_
      have hnb : φ' 0 = none := e5 0 (Nat.le_refl 0)
      obtain rfl := e2.v_eq
      have hg : getH (Res.heap [] { val := .hs 0 0 0, upd := [], new := [.arr sz 0 fun _ => z] }) = updG (getH (Res.heap [] { val := .v (.slice none 0 0), upd := [] })) 0 (some (.arr sz 0 fun _ => z)) := by
        funext k
        exact getH_append (H := []) (bs := [Blk.arr sz 0 fun _ => z]) (k := k)
      refine ⟨σ', fresh φ' 0 ⟨0, 0, sz, 0, 0, true⟩, _, e1, .hsnil none fresh_at (Nat.le_refl 0) rfl, ?_, fun k hk => absurd hk (Nat.not_lt_zero k), fun k hk => ?_⟩
      · rw [hg]
        exact e3.virtual (L := ⟨0, 0, sz, 0, 0, true⟩) hnb rfl (some (.arr sz 0 fun _ => z)) (fun b' hb' => by simp at hb'; subst hb'; exact fun _ => hz) (fun _ _ _ h' => by cases h'; rfl)
      · have : k ≠ 0 := by omega
        simp only [fresh, this, if_false]
        exact e5 k (Nat.zero_le k)
    cases hv with
    | base h =>
      cases h with
      | sl _ _ _ ad cap ys hs => exact h2.ok σ φ w vals hG (hsl (some ad) cap (by simp) rfl) hn hR
      | slnil _ _ _ A cap hl _ ha =>
        by_cases hA : A = none
        · subst hA; exact hnil cap rfl
        · exact h2.ok σ φ w vals hG (hsl A cap hA rfl) hn hR
theorem Answers.cU {f : FuncId} {a0 : List AV} {H0 : List Blk} {v : AV} {H1 : List (Option Blk)} {new : List Blk} (h : Answers P Γ f a0 H0 v H1 new) {upd : List (Option (Option Blk))} (hu : outOf H0 upd = H1) : Contract P Γ f a0 H0 { val := v, upd := upd, new := new } :=
  h.ok.more (LeL.refl _) (LeH.refl _) (by
    unfold Res.heap
    rw [outOf_all _ _ h.len, hu]) rfl
noncomputable def exSpec {X : Type} (ext : List AV → List Blk → Option X) (pre : X → Prop) (v : X → AV) (upd : X → List (Option (Option Blk))) (new : X → List Blk) (args : List AV) (Hin : List Blk) : Tree Res :=
  match ext args Hin with
  | some x => .chk (cl (pre x)) (.leaf { val := v x, upd := upd x, new := new x })
  | none => .fail
noncomputable def CT.ex {X : Type} (f : FuncId) (ext : List AV → List Blk → Option X) (pre : X → Prop) (v : X → AV) (upd : X → List (Option (Option Blk))) (new : X → List Blk)
    (enters : ∀ (args : Array Value) (w : World), (callFunc f args).run P w = .ok (.enter f args) w) (h : ∀ args Hin x, ext args Hin = some x → pre x → Contract P Γ f args Hin { val := v x, upd := upd x, new := new x }) : CT P Γ where
  f := f
  spec := exSpec ext pre v upd new
  enters := enters
  ok := fun args Hin r hr => by
    unfold exSpec at hr
    split at hr
    · rename_i x hx
      obtain ⟨h1, hr⟩ := Tree.chk_get hr
      obtain rfl := Tree.leaf_get hr
      exact h args Hin x hx (cl_iff.1 h1)
    · simp [Tree.get] at hr
end
end Go.Eng

namespace Go.Eng.TA.C
open Go Go.Eng Go.Eng.M Go.Lib Go.Proofs
structure Pc where
  tx : Tx
  st : Int
  due : Int
  gap : Int
instance : Inhabited Pc := ⟨⟨default, 0, 0, 0⟩⟩
def Pc.c (x : Pc) : List AV := [.v (.int .i64 x.tx.k), .v (.string x.tx.fr), .v (.string x.tx.to), .v (.string x.tx.ky), .v (.string x.tx.vl), .v (.int .i64 x.tx.am), .v (.int .i64 x.tx.nn), .v (.int .i64 x.st), .v (.int .i64 x.due), .v (.int .i64 x.gap)]
def Pc.cells (x : Pc) : List Value := [.int .i64 x.tx.k, .string x.tx.fr, .string x.tx.to, .string x.tx.ky, .string x.tx.vl, .int .i64 x.tx.am, .int .i64 x.tx.nn, .int .i64 x.st, .int .i64 x.due, .int .i64 x.gap]
theorem Pc.cod : Cod Pc.c 10 := ⟨fun _ => rfl, fun b x y => by cases b <;> rfl⟩
theorem Pc.dec (vs : List Value) (h0 : GoodVs [.int .i64, .str, .str, .str, .str, .int .i64, .int .i64, .int .i64, .int .i64, .int .i64] vs) : ∃ a : Pc, vs = a.cells := by
  obtain ⟨_, _, rfl, ⟨a0, rfl, _⟩, h1⟩ := h0.cons
  obtain ⟨_, _, rfl, ⟨a1, rfl, _⟩, h2⟩ := h1.cons
  obtain ⟨_, _, rfl, ⟨a2, rfl, _⟩, h3⟩ := h2.cons
  obtain ⟨_, _, rfl, ⟨a3, rfl, _⟩, h4⟩ := h3.cons
  obtain ⟨_, _, rfl, ⟨a4, rfl, _⟩, h5⟩ := h4.cons
  obtain ⟨_, _, rfl, ⟨a5, rfl, _⟩, h6⟩ := h5.cons
  obtain ⟨_, _, rfl, ⟨a6, rfl, _⟩, h7⟩ := h6.cons
  obtain ⟨_, _, rfl, ⟨a7, rfl, _⟩, h8⟩ := h7.cons
  obtain ⟨_, _, rfl, ⟨a8, rfl, _⟩, h9⟩ := h8.cons
  obtain ⟨_, _, rfl, ⟨a9, rfl, _⟩, h10⟩ := h9.cons
  obtain rfl := h10.nil
  exact ⟨⟨⟨a0, a1, a2, a3, a4, a5, a6⟩, a7, a8, a9⟩, rfl⟩
abbrev Pc.ks : List Cel := [.int .i64, .str, .str, .str, .str, .int .i64, .int .i64, .int .i64, .int .i64, .int .i64]
structure Od where
  tx : Tx
  st : Int
instance : Inhabited Od := ⟨⟨default, 0⟩⟩
def Od.c (x : Od) : List AV := [.v (.int .i64 x.tx.k), .v (.string x.tx.fr), .v (.string x.tx.to), .v (.string x.tx.ky), .v (.string x.tx.vl), .v (.int .i64 x.tx.am), .v (.int .i64 x.tx.nn), .v (.int .i64 x.st)]
def Od.cells (x : Od) : List Value := [.int .i64 x.tx.k, .string x.tx.fr, .string x.tx.to, .string x.tx.ky, .string x.tx.vl, .int .i64 x.tx.am, .int .i64 x.tx.nn, .int .i64 x.st]
theorem Od.cod : Cod Od.c 8 := ⟨fun _ => rfl, fun b x y => by cases b <;> rfl⟩
theorem Od.dec (vs : List Value) (h0 : GoodVs [.int .i64, .str, .str, .str, .str, .int .i64, .int .i64, .int .i64] vs) : ∃ a : Od, vs = a.cells := by
  obtain ⟨_, _, rfl, ⟨a0, rfl, _⟩, h1⟩ := h0.cons
  obtain ⟨_, _, rfl, ⟨a1, rfl, _⟩, h2⟩ := h1.cons
  obtain ⟨_, _, rfl, ⟨a2, rfl, _⟩, h3⟩ := h2.cons
  obtain ⟨_, _, rfl, ⟨a3, rfl, _⟩, h4⟩ := h3.cons
  obtain ⟨_, _, rfl, ⟨a4, rfl, _⟩, h5⟩ := h4.cons
  obtain ⟨_, _, rfl, ⟨a5, rfl, _⟩, h6⟩ := h5.cons
  obtain ⟨_, _, rfl, ⟨a6, rfl, _⟩, h7⟩ := h6.cons
  obtain ⟨_, _, rfl, ⟨a7, rfl, _⟩, h8⟩ := h7.cons
  obtain rfl := h8.nil
  exact ⟨⟨⟨a0, a1, a2, a3, a4, a5, a6⟩, a7⟩, rfl⟩
abbrev Od.ks : List Cel := [.int .i64, .str, .str, .str, .str, .int .i64, .int .i64, .int .i64]
structure Oc where
  blk : Int
  hgt : Int
  tx : Tx
  err : Int
instance : Inhabited Oc := ⟨⟨0, 0, default, 0⟩⟩
def Oc.c (x : Oc) : List AV := [.v (.int .i64 x.blk), .v (.int .i64 x.hgt), .v (.int .i64 x.tx.k), .v (.string x.tx.fr), .v (.string x.tx.to), .v (.string x.tx.ky), .v (.string x.tx.vl), .v (.int .i64 x.tx.am), .v (.int .i64 x.tx.nn), .v (.int .i64 x.err)]
def Oc.cells (x : Oc) : List Value := [.int .i64 x.blk, .int .i64 x.hgt, .int .i64 x.tx.k, .string x.tx.fr, .string x.tx.to, .string x.tx.ky, .string x.tx.vl, .int .i64 x.tx.am, .int .i64 x.tx.nn, .int .i64 x.err]
theorem Oc.cod : Cod Oc.c 10 := ⟨fun _ => rfl, fun b x y => by cases b <;> rfl⟩
theorem Oc.dec (vs : List Value) (h0 : GoodVs [.int .i64, .int .i64, .int .i64, .str, .str, .str, .str, .int .i64, .int .i64, .int .i64] vs) : ∃ a : Oc, vs = a.cells := by
  obtain ⟨_, _, rfl, ⟨a0, rfl, _⟩, h1⟩ := h0.cons
  obtain ⟨_, _, rfl, ⟨a1, rfl, _⟩, h2⟩ := h1.cons
  obtain ⟨_, _, rfl, ⟨a2, rfl, _⟩, h3⟩ := h2.cons
  obtain ⟨_, _, rfl, ⟨a3, rfl, _⟩, h4⟩ := h3.cons
  obtain ⟨_, _, rfl, ⟨a4, rfl, _⟩, h5⟩ := h4.cons
  obtain ⟨_, _, rfl, ⟨a5, rfl, _⟩, h6⟩ := h5.cons
  obtain ⟨_, _, rfl, ⟨a6, rfl, _⟩, h7⟩ := h6.cons
  obtain ⟨_, _, rfl, ⟨a7, rfl, _⟩, h8⟩ := h7.cons
  obtain ⟨_, _, rfl, ⟨a8, rfl, _⟩, h9⟩ := h8.cons
  obtain ⟨_, _, rfl, ⟨a9, rfl, _⟩, h10⟩ := h9.cons
  obtain rfl := h10.nil
  exact ⟨⟨a0, a1, ⟨a2, a3, a4, a5, a6, a7, a8⟩, a9⟩, rfl⟩
abbrev Oc.ks : List Cel := [.int .i64, .int .i64, .int .i64, .str, .str, .str, .str, .int .i64, .int .i64, .int .i64]
structure Cs where
  who : ByteArray
  most : Int
  now : Int
  heard : Int
  wt : Int
  en : Int
  go : Int
def Cs.row (c : Cs) (n : Nat) : Blk := .row [.v (.string c.who), .v (.int .i64 c.most), .hs 1 0 n, .v (.int .i64 c.now), .v (.int .i64 c.heard), .v (.int .i64 c.wt), .v (.int .i64 c.en), .v (.int .i64 c.go)]
abbrev lsP (l : List Pc) : Blk := .arr 10 l.length (lsF Pc.c l)
def Cs.bl (c : Cs) (l : List Pc) : List Blk := [c.row l.length, lsP l]
def od (p : Pc) : Od := ⟨p.tx, p.st⟩
abbrev lsO (l : List Od) : Blk := .arr 8 l.length (lsF Od.c l)
noncomputable abbrev lpO : Code := loopOf (bodyOf Tryd.f65) 0
abbrev lvO : List Nat := [11, 3, 12, 13]
abbrev nlO : List (Nat × TypeId) := [(1, 95)]
def SO (c : Cs) (l : List Pc) (i : Nat) (o : List Od) : List AV × Heap := ([.hs 1 0 l.length, .hs 2 0 o.length, .v (.int .i64 (l.length : Int)), .v (.int .i64 (i : Int))], (c.bl l ++ [lsO o]).map some)
def OO (c : Cs) (l : List Pc) : Out := ⟨.exit 0, [.any, .hs 2 0 (l.map od).length, .any, .any], (c.bl l ++ [lsO (l.map od)]).map some⟩
theorem rO (c : Cs) (l : List Pc) (i : Nat) (o : List Od) : roundE (P := Tryd.prog) (Γ := Γm) [] Lno false 2 0 lpO lvO nlO 24 (SO c l i o).1 (SO c l i o).2 =
  Tree.br (decide ((↑i : Int) < (↑(List.length l) : Int))) (Tree.chk (decide ((0 : Int) ≤ (↑i : Int)) && decide ((↑i : Int) < (↑(List.length l) : Int))) (Tree.chk (roomOk (96 : Nat)
    (List.length o + (1 : Nat))) (Tree.leaf (Out.mk AEx.normal [AV.hs (1 : Nat) (0 : Nat) (List.length l), AV.hs (2 : Nat) (0 : Nat) (List.length o + (1 : Nat)), AV.v (Value.int IntKind.i64
    (↑(List.length l) : Int)), AV.v (Value.int IntKind.i64 (IntKind.wrap IntKind.i64 ((↑i : Int) + (1 : Int))))] [some (Blk.row [AV.v (Value.string c.who), AV.v (Value.int IntKind.i64
    c.most), AV.hs (1 : Nat) (0 : Nat) (List.length l), AV.v (Value.int IntKind.i64 c.now), AV.v (Value.int IntKind.i64 c.heard), AV.v (Value.int IntKind.i64 c.wt), AV.v (Value.int
    IntKind.i64 c.en), AV.v (Value.int IntKind.i64 c.go)]), some (Blk.arr (10 : Nat) (List.length l) (lsF Pc.c l)), some (Blk.arr (8 : Nat) (List.length o + (1 : Nat)) fun j => mixL (decide
    (j < List.length o)) (lsF Od.c o ((0 : Nat) + j)) (chain [AV.v (Value.int IntKind.i64 (0 : Int)), AV.v (Value.string (ByteArray.mk #[])), AV.v (Value.string (ByteArray.mk #[])), AV.v
    (Value.string (ByteArray.mk #[])), AV.v (Value.string (ByteArray.mk #[])), AV.v (Value.int IntKind.i64 (0 : Int)), AV.v (Value.int IntKind.i64 (0 : Int)), AV.v (Value.int IntKind.i64 (0
    : Int))] (0 : Nat) [[AV.v (Value.int IntKind.i64 (List.getD l ((0 : Nat) + i) default).tx.k), AV.v (Value.string (List.getD l ((0 : Nat) + i) default).tx.fr), AV.v (Value.string
    (List.getD l ((0 : Nat) + i) default).tx.to), AV.v (Value.string (List.getD l ((0 : Nat) + i) default).tx.ky), AV.v (Value.string (List.getD l ((0 : Nat) + i) default).tx.vl), AV.v
    (Value.int IntKind.i64 (List.getD l ((0 : Nat) + i) default).tx.am), AV.v (Value.int IntKind.i64 (List.getD l ((0 : Nat) + i) default).tx.nn), AV.v (Value.int IntKind.i64 (List.getD l
    ((0 : Nat) + i) default).st)]] ((0 : Nat) + (j - List.length o))))])))) (Tree.leaf (Out.mk (AEx.exit (0 : Nat)) [AV.hs (1 : Nat) (0 : Nat) (List.length l), AV.hs (2 : Nat) (0 : Nat)
    (List.length o), AV.v (Value.int IntKind.i64 (↑(List.length l) : Int)), AV.v (Value.int IntKind.i64 (↑i : Int))] [some (Blk.row [AV.v (Value.string c.who), AV.v (Value.int IntKind.i64
    c.most), AV.hs (1 : Nat) (0 : Nat) (List.length l), AV.v (Value.int IntKind.i64 c.now), AV.v (Value.int IntKind.i64 c.heard), AV.v (Value.int IntKind.i64 c.wt), AV.v (Value.int
    IntKind.i64 c.en), AV.v (Value.int IntKind.i64 c.go)]), some (Blk.arr (10 : Nat) (List.length l) (lsF Pc.c l)), some (Blk.arr (8 : Nat) (List.length o) (lsF Od.c o))])) := by kernel_rfl
theorem room96 {n : Nat} (h : n ≤ 10000000) : roomOk 96 n = true := by
  unfold roomOk
  exact decide_eq_true (by omega)
theorem take_next {α : Type} [Inhabited α] {l : List α} {i : Nat} (h : i < l.length) : l.take (i + 1) = l.take i ++ [l.getD i default] := by
  rw [List.take_add_one, List.getD_eq_getElem?_getD, List.getElem?_eq_getElem h]; rfl
theorem loopO {c : Cs} {l : List Pc} (hl : l.length ≤ 100000) : ∀ i : Nat, i ≤ l.length → LoopOK Tryd.prog Γm 2 24 lpO (LSpec.at lvO nlO (SO c l i ((l.take i).map od)) (OO c l)) := by
  refine loop_at (S := fun i => SO c l i ((l.take i).map od)) (pre := fun i => i ≤ l.length) (O := fun _ => OO c l) (k := 0) (fun i => l.length - i) fun i hi => .of (noLoops (by kernel_rfl)) (rO c l i ((l.take i).map od)) ?_
  rcases Nat.lt_or_ge i l.length with h | h
  · have hz : ((l.take i).map od).length = i := by rw [List.length_map, List.length_take]; omega
    have hn : (l.take (i + 1)).map od = (l.take i).map od ++ [od (l.getD i default)] := by rw [take_next h, List.map_append]; rfl
    have hz1 : ((l.take (i + 1)).map od).length = i + 1 := by rw [List.length_map, List.length_take]; omega
    have hO := Od.cod.app0 ((l.take i).map od) (od (l.getD i default)) default hz.symm (N := i + 1) (by rw [hz])
    have hr := room96 (n := i + 1) (by omega)
    rw [← hn] at hO
    have e1 : IntKind.i64.wrap ((i : Int) + 1) = ((i + 1 : Nat) : Int) := wrapUpN (by omega)
    simp only [Nat.zero_add, hz, e1]
    repeat' (first | refine wC (by first | omega | (simp only [W1, cond_true, cond_false]; first | done | omega)) ?_ | refine wT (by first | omega | (simp only [W1, cond_true, cond_false]; first | done | omega)) ?_ | refine wF (by intro _h; first | omega | (simp only [W1, cond_true, cond_false] at _h; first | done | omega)) ?_ | (refine wS ?_ ?_ <;> intro _h <;> simp only [W1, cond_true, cond_false] at _h))
    all_goals simp only [W1, W2, owesN, owesX, owesR, cond_true, cond_false]
    repeat' (first | apply And.intro | intro _hc)
    all_goals first | exact hr | ((refine ⟨i + 1, ⟨.refl _, ?_, .refl _, .refl _, trivial⟩, ⟨.refl _, .refl _, hO, trivial⟩, h, Nat.sub_lt_sub_left h (Nat.lt_succ_self i)⟩; rw [hz1]; exact .refl _)) | exact AV.le_refl _ | exact AV.le_any _ | exact OLe.refl _ | exact OLe.none _ | exact LeH.refl _ | exact LeL.refl _ | exact AV.le.bs _ | exact AV.le.sb _ | omega | contradiction
  · obtain rfl : i = l.length := by omega
    rw [List.take_of_length_le (Nat.le_refl _)]
    repeat' (first | refine wC (by first | omega | (simp only [W1, cond_true, cond_false]; first | done | omega)) ?_ | refine wT (by first | omega | (simp only [W1, cond_true, cond_false]; first | done | omega)) ?_ | refine wF (by intro _h; first | omega | (simp only [W1, cond_true, cond_false] at _h; first | done | omega)) ?_ | (refine wS ?_ ?_ <;> intro _h <;> simp only [W1, cond_true, cond_false] at _h))
    all_goals simp only [W1, W2, owesN, owesX, owesR, cond_true, cond_false]
    repeat' (first | apply And.intro | intro _hc)
    all_goals first | exact rfl | exact ⟨.any _, .refl _, .any _, .any _, trivial⟩ | exact AV.le_refl _ | exact AV.le_any _ | exact OLe.refl _ | exact OLe.none _ | exact LeH.refl _ | exact LeL.refl _ | exact AV.le.bs _ | exact AV.le.sb _ | omega | contradiction
def due (n : Int) (p : Pc) : Bool := decide (p.st = 0) && decide (p.due ≤ n)
def tk (n : Int) (p : Pc) : Pc := bif due n p then ⟨p.tx, p.st, n + p.gap, if 16 < 2 * p.gap then 16 else 2 * p.gap⟩ else p
abbrev lsT (l : List Tx) : Blk := .arr 7 l.length (lsF Tx.c l)
noncomputable abbrev lpT : Code := loopOf (bodyOf Tryd.f63) 0
abbrev lvT : List Nat := [0, 3, 19, 20]
abbrev nlT : List (Nat × TypeId) := [(1, 40)]
def ST (c : Cs) (l : List Pc) (i : Nat) (o : List Tx) : List AV × Heap := ([.ptr 0 0, .hs 2 0 o.length, .v (.int .i64 (l.length : Int)), .v (.int .i64 (i : Int))], (c.bl l ++ [lsT o]).map some)
theorem rT (c : Cs) (l : List Pc) (i : Nat) (o : List Tx) : roundE (P := Tryd.prog) (Γ := Γm) [] Lno false 2 0 lpT lvT nlT 77 (ST c l i o).1 (ST c l i o).2 =
  Tree.br (decide ((↑i : Int) < (↑(List.length l) : Int))) (Tree.chk (decide ((0 : Int) ≤ (↑i : Int)) && decide ((↑i : Int) < (↑(List.length l) : Int))) (Tree.br (bif !decide ((List.getD l ((0
    : Nat) + i) default).st = (0 : Int)) then true else decide (c.now < (List.getD l ((0 : Nat) + i) default).due)) (Tree.leaf (Out.mk AEx.normal [AV.ptr (0 : Nat) (0 : Nat), AV.hs (2 : Nat)
    (0 : Nat) (List.length o), AV.v (Value.int IntKind.i64 (↑(List.length l) : Int)), AV.v (Value.int IntKind.i64 (IntKind.wrap IntKind.i64 ((↑i : Int) + (1 : Int))))] [some (Blk.row [AV.v
    (Value.string c.who), AV.v (Value.int IntKind.i64 c.most), AV.hs (1 : Nat) (0 : Nat) (List.length l), AV.v (Value.int IntKind.i64 c.now), AV.v (Value.int IntKind.i64 c.heard), AV.v
    (Value.int IntKind.i64 c.wt), AV.v (Value.int IntKind.i64 c.en), AV.v (Value.int IntKind.i64 c.go)]), some (Blk.arr (10 : Nat) (List.length l) (lsF Pc.c l)), some (Blk.arr (7 : Nat)
    (List.length o) (lsF Tx.c o))])) (Tree.chk (roomOk (88 : Nat) (List.length o + (1 : Nat))) (Tree.leaf (Out.mk AEx.normal [AV.ptr (0 : Nat) (0 : Nat), AV.hs (2 : Nat) (0 : Nat)
    (List.length o + (1 : Nat)), AV.v (Value.int IntKind.i64 (↑(List.length l) : Int)), AV.v (Value.int IntKind.i64 (IntKind.wrap IntKind.i64 ((↑i : Int) + (1 : Int))))] [some (Blk.row [AV.v
    (Value.string c.who), AV.v (Value.int IntKind.i64 c.most), AV.hs (1 : Nat) (0 : Nat) (List.length l), AV.v (Value.int IntKind.i64 c.now), AV.v (Value.int IntKind.i64 c.heard), AV.v
    (Value.int IntKind.i64 c.wt), AV.v (Value.int IntKind.i64 c.en), AV.v (Value.int IntKind.i64 c.go)]), some (Blk.arr (10 : Nat) (List.length l) fun k => mixL (Nat.beq k ((0 : Nat) + i))
    [AV.v (Value.int IntKind.i64 (bif Nat.beq ((0 : Nat) + i) ((0 : Nat) + i) then (List.getD l ((0 : Nat) + i) default).tx.k else (List.getD l ((0 : Nat) + i) default).tx.k)), AV.v
    (Value.string (bif Nat.beq ((0 : Nat) + i) ((0 : Nat) + i) then (List.getD l ((0 : Nat) + i) default).tx.fr else (List.getD l ((0 : Nat) + i) default).tx.fr)), AV.v (Value.string (bif
    Nat.beq ((0 : Nat) + i) ((0 : Nat) + i) then (List.getD l ((0 : Nat) + i) default).tx.to else (List.getD l ((0 : Nat) + i) default).tx.to)), AV.v (Value.string (bif Nat.beq ((0 : Nat) +
    i) ((0 : Nat) + i) then (List.getD l ((0 : Nat) + i) default).tx.ky else (List.getD l ((0 : Nat) + i) default).tx.ky)), AV.v (Value.string (bif Nat.beq ((0 : Nat) + i) ((0 : Nat) + i)
    then (List.getD l ((0 : Nat) + i) default).tx.vl else (List.getD l ((0 : Nat) + i) default).tx.vl)), AV.v (Value.int IntKind.i64 (bif Nat.beq ((0 : Nat) + i) ((0 : Nat) + i) then
    (List.getD l ((0 : Nat) + i) default).tx.am else (List.getD l ((0 : Nat) + i) default).tx.am)), AV.v (Value.int IntKind.i64 (bif Nat.beq ((0 : Nat) + i) ((0 : Nat) + i) then (List.getD l
    ((0 : Nat) + i) default).tx.nn else (List.getD l ((0 : Nat) + i) default).tx.nn)), AV.v (Value.int IntKind.i64 (bif Nat.beq ((0 : Nat) + i) ((0 : Nat) + i) then (List.getD l ((0 : Nat) +
    i) default).st else (List.getD l ((0 : Nat) + i) default).st)), AV.v (Value.int IntKind.i64 (bif Nat.beq ((0 : Nat) + i) ((0 : Nat) + i) then IntKind.wrap IntKind.i64 (c.now + (List.getD
    l ((0 : Nat) + i) default).gap) else (List.getD l ((0 : Nat) + i) default).due)), AV.v (Value.int IntKind.i64 (if (16 : Int) < IntKind.wrap IntKind.i64 ((2 : Int) * bif Nat.beq ((0 :
    Nat) + i) ((0 : Nat) + i) then (List.getD l ((0 : Nat) + i) default).gap else (List.getD l ((0 : Nat) + i) default).gap) then (16 : Int) else IntKind.wrap IntKind.i64 ((2 : Int) * bif
    Nat.beq ((0 : Nat) + i) ((0 : Nat) + i) then (List.getD l ((0 : Nat) + i) default).gap else (List.getD l ((0 : Nat) + i) default).gap)))] (mixL (Nat.beq k ((0 : Nat) + i)) [AV.v
    (Value.int IntKind.i64 (List.getD l ((0 : Nat) + i) default).tx.k), AV.v (Value.string (List.getD l ((0 : Nat) + i) default).tx.fr), AV.v (Value.string (List.getD l ((0 : Nat) + i)
    default).tx.to), AV.v (Value.string (List.getD l ((0 : Nat) + i) default).tx.ky), AV.v (Value.string (List.getD l ((0 : Nat) + i) default).tx.vl), AV.v (Value.int IntKind.i64 (List.getD
    l ((0 : Nat) + i) default).tx.am), AV.v (Value.int IntKind.i64 (List.getD l ((0 : Nat) + i) default).tx.nn), AV.v (Value.int IntKind.i64 (List.getD l ((0 : Nat) + i) default).st), AV.v
    (Value.int IntKind.i64 (IntKind.wrap IntKind.i64 (c.now + (List.getD l ((0 : Nat) + i) default).gap))), AV.v (Value.int IntKind.i64 (List.getD l ((0 : Nat) + i) default).gap)] (lsF Pc.c
    l k))), some (Blk.arr (7 : Nat) (List.length o + (1 : Nat)) fun j => mixL (decide (j < List.length o)) (lsF Tx.c o ((0 : Nat) + j)) (chain [AV.v (Value.int IntKind.i64 (0 : Int)), AV.v
    (Value.string (ByteArray.mk #[])), AV.v (Value.string (ByteArray.mk #[])), AV.v (Value.string (ByteArray.mk #[])), AV.v (Value.string (ByteArray.mk #[])), AV.v (Value.int IntKind.i64 (0
    : Int)), AV.v (Value.int IntKind.i64 (0 : Int))] (0 : Nat) [[AV.v (Value.int IntKind.i64 (List.getD l ((0 : Nat) + i) default).tx.k), AV.v (Value.string (List.getD l ((0 : Nat) + i)
    default).tx.fr), AV.v (Value.string (List.getD l ((0 : Nat) + i) default).tx.to), AV.v (Value.string (List.getD l ((0 : Nat) + i) default).tx.ky), AV.v (Value.string (List.getD l ((0 :
    Nat) + i) default).tx.vl), AV.v (Value.int IntKind.i64 (List.getD l ((0 : Nat) + i) default).tx.am), AV.v (Value.int IntKind.i64 (List.getD l ((0 : Nat) + i) default).tx.nn)]] ((0 : Nat)
    + (j - List.length o))))]))))) (Tree.leaf (Out.mk (AEx.exit (0 : Nat)) [AV.ptr (0 : Nat) (0 : Nat), AV.hs (2 : Nat) (0 : Nat) (List.length o), AV.v (Value.int IntKind.i64 (↑(List.length
    l) : Int)), AV.v (Value.int IntKind.i64 (↑i : Int))] [some (Blk.row [AV.v (Value.string c.who), AV.v (Value.int IntKind.i64 c.most), AV.hs (1 : Nat) (0 : Nat) (List.length l), AV.v
    (Value.int IntKind.i64 c.now), AV.v (Value.int IntKind.i64 c.heard), AV.v (Value.int IntKind.i64 c.wt), AV.v (Value.int IntKind.i64 c.en), AV.v (Value.int IntKind.i64 c.go)]), some
    (Blk.arr (10 : Nat) (List.length l) (lsF Pc.c l)), some (Blk.arr (7 : Nat) (List.length o) (lsF Tx.c o))])) := by kernel_rfl
def outT (n : Int) (l : List Pc) (i : Nat) : List Tx := ((l.take i).filter (due n)).map (·.tx)
def aftT (n : Int) (l : List Pc) (i : Nat) : List Pc := (l.take i).map (tk n) ++ l.drop i
def OT (c : Cs) (l : List Pc) : Out := ⟨.exit 0, [.any, .hs 2 0 (outT c.now l l.length).length, .any, .any], (c.bl (l.map (tk c.now)) ++ [lsT (outT c.now l l.length)]).map some⟩
theorem aft_len {n : Int} {l : List Pc} {i : Nat} (h : i ≤ l.length) : (aftT n l i).length = l.length := by
  unfold aftT
  rw [List.length_append, List.length_map, List.length_take, List.length_drop]; omega
theorem aft_at {n : Int} {l : List Pc} {i : Nat} (h : i < l.length) : (aftT n l i).getD i default = l.getD i default := by
  unfold aftT
  have hz : ((l.take i).map (tk n)).length = i := by rw [List.length_map, List.length_take]; omega
  rw [getD_app' (by omega), hz, Nat.sub_self, List.getD_eq_getElem?_getD, List.getElem?_drop, Nat.add_zero, List.getD_eq_getElem?_getD]
theorem aft_next {n : Int} {l : List Pc} {i : Nat} (h : i < l.length) : aftT n l (i + 1) = (aftT n l i).set i (tk n (l.getD i default)) := by
  unfold aftT
  have hz : ((l.take i).map (tk n)).length = i := by rw [List.length_map, List.length_take]; omega
  rw [take_next h, List.map_append, List.set_append_right _ _ (by omega), hz, Nat.sub_self, List.drop_eq_getElem_cons h, List.set_cons_zero, List.append_assoc]
  rfl
theorem set_same {α : Type} [Inhabited α] {l : List α} {i : Nat} (h : i < l.length) : l.set i (l.getD i default) = l := by
  refine List.ext_getElem? fun j => ?_
  rw [List.getElem?_set]
  by_cases e : i = j
  · subst e
    rw [if_pos rfl, if_pos h, getD_get h, List.getElem?_eq_getElem h]
  · rw [if_neg e]
theorem out_next {n : Int} {l : List Pc} {i : Nat} (h : i < l.length) : outT n l (i + 1) = outT n l i ++ (bif due n (l.getD i default) then [(l.getD i default).tx] else []) := by
  unfold outT
  rw [take_next h, List.filter_append, List.map_append]
  congr 1
  cases hd : due n (l.getD i default) with
  | true => rw [List.filter_cons_of_pos hd]; rfl
  | false => rw [List.filter_cons_of_neg (by rw [hd]; decide)]; rfl
theorem out_le {n : Int} {l : List Pc} {i : Nat} : (outT n l i).length ≤ i := by
  unfold outT
  rw [List.length_map]
  exact Nat.le_trans (List.length_filter_le _ _) (by rw [List.length_take]; omega)
def okP (p : Pc) : Prop := 0 ≤ p.gap ∧ p.gap ≤ 16
theorem room88 {n : Nat} (h : n ≤ 10000000) : roomOk 88 n = true := by
  unfold roomOk
  exact decide_eq_true (by omega)
theorem set_twice (l : List Pc) (i : Nat) (p q : Pc) (hi : i < l.length) : OLe (some (.arr 10 l.length fun k => mixL (Nat.beq k i) (Pc.c q) (mixL (Nat.beq k i) (Pc.c p) (lsF Pc.c l k)))) (some (lsP (l.set i q))) := by
  have h1 : (fun k => mixL (Nat.beq k i) (Pc.c q) (mixL (Nat.beq k i) (Pc.c p) (lsF Pc.c l k))) = fun k => mixL (Nat.beq k i) (Pc.c q) (lsF Pc.c l k) := by
    funext k
    cases Nat.beq k i with
    | true => rw [lsF_at, Pc.cod.mixT, Pc.cod.mixT, Pc.cod.mixT]
    | false => rw [lsF_at, Pc.cod.mixF, Pc.cod.mixF]
  rw [h1]
  exact Pc.cod.set l q hi rfl
theorem loopT {c : Cs} {l : List Pc} (hl : l.length ≤ 100000) (hn : 0 ≤ c.now) (hn2 : c.now ≤ 1000000) (hp : ∀ i, okP (l.getD i default)) : ∀ i : Nat, i ≤ l.length → LoopOK Tryd.prog Γm 2 77 lpT (LSpec.at lvT nlT (ST c (aftT c.now l i) i (outT c.now l i)) (OT c l)) := by
  refine loop_at (S := fun i => ST c (aftT c.now l i) i (outT c.now l i)) (pre := fun i => i ≤ l.length) (O := fun _ => OT c l) (k := 0) (fun i => l.length - i) fun i hi => .of (noLoops (by kernel_rfl)) (rT c (aftT c.now l i) i (outT c.now l i)) ?_
  have hz := aft_len (n := c.now) hi
  simp only [Nat.zero_add, hz]
  rcases Nat.lt_or_ge i l.length with h | h
  · have e1 : IntKind.i64.wrap ((i : Int) + 1) = ((i + 1 : Nat) : Int) := wrapUpN (by omega)
    have hg := aft_at (n := c.now) h
    have hgp : (aftT c.now l i).getD i default = l.getD i default := hg
    have hz1 := aft_len (n := c.now) (l := l) (i := i + 1) h
    have hn1 := aft_next (n := c.now) h
    have ho1 := out_next (n := c.now) h
    have hpi := hp i
    have hb : Nat.beq i i = true := Nat.beq_refl i
    simp only [hg, e1, hb, cond_true]
    generalize l.getD i default = p at *
    cases hd : due c.now p with
    | true =>
      rw [hd, cond_true] at ho1
      have hd2 : p.st = 0 ∧ p.due ≤ c.now := by unfold due at hd; simpa using hd
      have ht : tk c.now p = ⟨p.tx, p.st, c.now + p.gap, if 16 < 2 * p.gap then 16 else 2 * p.gap⟩ := by unfold tk; rw [hd]; rfl
      obtain ⟨g1, g2⟩ := hpi
      have w1 : IntKind.i64.wrap (c.now + p.gap) = c.now + p.gap := wrap64 (by omega) (by omega)
      have w2 : IntKind.i64.wrap (2 * p.gap) = 2 * p.gap := wrap64 (by omega) (by omega)
      have hO := Tx.cod.app0 (outT c.now l i) p.tx default rfl (N := (outT c.now l i).length + 1) rfl
      have hS := set_twice (aftT c.now l i) i ⟨p.tx, p.st, c.now + p.gap, p.gap⟩ (tk c.now p) (by omega)
      rw [← hn1, ht, hz] at hS
      rw [← ho1] at hO
      have hz2 : (outT c.now l (i + 1)).length = (outT c.now l i).length + 1 := by rw [ho1, List.length_append]; rfl
      have hr := room88 (n := (outT c.now l i).length + 1) (by have := out_le (n := c.now) (l := l) (i := i); omega)
      simp only [w1, w2]
      repeat' (first | refine wC (by first | omega | (simp only [W1, cond_true, cond_false]; first | done | omega)) ?_ | refine wT (by first | omega | (simp only [W1, cond_true, cond_false]; first | done | omega)) ?_ | refine wF (by intro _h; first | omega | (simp only [W1, cond_true, cond_false] at _h; first | done | omega)) ?_ | (refine wS ?_ ?_ <;> intro _h <;> simp only [W1, cond_true, cond_false] at _h))
      all_goals simp only [W1, W2, owesN, owesX, owesR, cond_true, cond_false]
      repeat' (first | apply And.intro | intro _hc)
      all_goals first | exact hr | ((refine ⟨i + 1, ⟨.refl _, ?_, ?_, .refl _, trivial⟩, ⟨?_, ?_, ?_, trivial⟩, h, Nat.sub_lt_sub_left h (Nat.lt_succ_self i)⟩; rw [hz2]; exact .refl _; rw [hz1]; exact .refl _; unfold Cs.row; rw [hz1]; exact .refl _; exact hS; exact hO)) | exact AV.le_refl _ | exact AV.le_any _ | exact OLe.refl _ | exact OLe.none _ | exact LeH.refl _ | exact LeL.refl _ | exact AV.le.bs _ | exact AV.le.sb _ | omega | contradiction
    | false =>
      rw [hd, cond_false, List.append_nil] at ho1
      have hd2 : ¬ (p.st = 0 ∧ p.due ≤ c.now) := by unfold due at hd; simpa using hd
      have ht : tk c.now p = p := by unfold tk; rw [hd]; rfl
      have hn2 : aftT c.now l (i + 1) = aftT c.now l i := by
        rw [hn1, ht, ← hgp]
        exact set_same (by omega)
      repeat' (first | refine wC (by first | omega | (simp only [W1, cond_true, cond_false]; first | done | omega)) ?_ | refine wT (by first | omega | (simp only [W1, cond_true, cond_false]; first | done | omega)) ?_ | refine wF (by intro _h; first | omega | (simp only [W1, cond_true, cond_false] at _h; first | done | omega)) ?_ | (refine wS ?_ ?_ <;> intro _h <;> simp only [W1, cond_true, cond_false] at _h))
      all_goals simp only [W1, W2, owesN, owesX, owesR, cond_true, cond_false]
      repeat' (first | apply And.intro | intro _hc)
      all_goals first | ((refine ⟨i + 1, ⟨.refl _, ?_, ?_, .refl _, trivial⟩, ⟨?_, ?_, ?_, trivial⟩, h, Nat.sub_lt_sub_left h (Nat.lt_succ_self i)⟩; rw [ho1]; exact .refl _; rw [hz1]; exact .refl _; unfold Cs.row; rw [hz1]; exact .refl _; rw [hn2]; show OLe _ (some (.arr 10 (aftT c.now l i).length _)); rw [hz]; exact .refl _; rw [ho1]; exact .refl _)) | exact AV.le_refl _ | exact AV.le_any _ | exact OLe.refl _ | exact OLe.none _ | exact LeH.refl _ | exact LeL.refl _ | exact AV.le.bs _ | exact AV.le.sb _ | omega | contradiction
  · obtain rfl : i = l.length := by omega
    have h1 : aftT c.now l l.length = l.map (tk c.now) := by unfold aftT; rw [List.take_of_length_le (Nat.le_refl _), List.drop_length, List.append_nil]
    rw [h1] at hz ⊢
    repeat' (first | refine wC (by first | omega | (simp only [W1, cond_true, cond_false]; first | done | omega)) ?_ | refine wT (by first | omega | (simp only [W1, cond_true, cond_false]; first | done | omega)) ?_ | refine wF (by intro _h; first | omega | (simp only [W1, cond_true, cond_false] at _h; first | done | omega)) ?_ | (refine wS ?_ ?_ <;> intro _h <;> simp only [W1, cond_true, cond_false] at _h))
    all_goals simp only [W1, W2, owesN, owesX, owesR, cond_true, cond_false]
    repeat' (first | apply And.intro | intro _hc)
    all_goals first | exact rfl | exact ⟨.any _, .refl _, .any _, .any _, trivial⟩ | ((unfold Cs.row; rw [hz]; exact .refl _)) | ((rw [← hz]; exact .refl _)) | exact AV.le_refl _ | exact AV.le_any _ | exact OLe.refl _ | exact OLe.none _ | exact LeH.refl _ | exact LeL.refl _ | exact AV.le.bs _ | exact AV.le.sb _ | omega | contradiction
end Go.Eng.TA.C

namespace Go.Eng.TA.C
open Go Go.Eng Go.Eng.M Go.Lib Go.Proofs
theorem runO (c : Cs) (l : List Pc) : bodyE (P := Tryd.prog) (Γ := Γm) [] (fun _ => LSpec.at lvO nlO (SO c l 0 []) (OO c l)) false 24 [.tmp 2] (bodyOf Tryd.f65) [.ptr 0 0] (c.bl l) =
  Tree.chk (cl (LeL [AV.hs (1 : Nat) (0 : Nat) (List.length l), AV.hs (2 : Nat) (0 : Nat) (0 : Nat), AV.v (Value.int IntKind.i64 (↑(List.length l) : Int)), AV.v (Value.int IntKind.i64 (0 :
    Int))] [AV.hs (1 : Nat) (0 : Nat) (List.length l), AV.hs (2 : Nat) (0 : Nat) (0 : Nat), AV.v (Value.int IntKind.i64 (↑(List.length l) : Int)), AV.v (Value.int IntKind.i64 (↑(0 : Nat) :
    Int))] ∧ LeH [some (Blk.row [AV.v (Value.string c.who), AV.v (Value.int IntKind.i64 c.most), AV.hs (1 : Nat) (0 : Nat) (List.length l), AV.v (Value.int IntKind.i64 c.now), AV.v
    (Value.int IntKind.i64 c.heard), AV.v (Value.int IntKind.i64 c.wt), AV.v (Value.int IntKind.i64 c.en), AV.v (Value.int IntKind.i64 c.go)]), some (Blk.arr (10 : Nat) (List.length l) (lsF
    Pc.c l)), some (Blk.arr (8 : Nat) (0 : Nat) fun x => [AV.v (Value.int IntKind.i64 (0 : Int)), AV.v (Value.string (ByteArray.mk #[])), AV.v (Value.string (ByteArray.mk #[])), AV.v
    (Value.string (ByteArray.mk #[])), AV.v (Value.string (ByteArray.mk #[])), AV.v (Value.int IntKind.i64 (0 : Int)), AV.v (Value.int IntKind.i64 (0 : Int)), AV.v (Value.int IntKind.i64 (0
    : Int))])] [some (Blk.row [AV.v (Value.string c.who), AV.v (Value.int IntKind.i64 c.most), AV.hs (1 : Nat) (0 : Nat) (List.length l), AV.v (Value.int IntKind.i64 c.now), AV.v (Value.int
    IntKind.i64 c.heard), AV.v (Value.int IntKind.i64 c.wt), AV.v (Value.int IntKind.i64 c.en), AV.v (Value.int IntKind.i64 c.go)]), some (Blk.arr (10 : Nat) (List.length l) (lsF Pc.c l)),
    some (Blk.arr (8 : Nat) (0 : Nat) (lsF Od.c []))])) (Tree.leaf (Ans.mk (AV.hs (2 : Nat) (0 : Nat) (List.length (List.map od l))) [some (Blk.row [AV.v (Value.string c.who), AV.v
    (Value.int IntKind.i64 c.most), AV.hs (1 : Nat) (0 : Nat) (List.length l), AV.v (Value.int IntKind.i64 c.now), AV.v (Value.int IntKind.i64 c.heard), AV.v (Value.int IntKind.i64 c.wt),
    AV.v (Value.int IntKind.i64 c.en), AV.v (Value.int IntKind.i64 c.go)]), some (Blk.arr (10 : Nat) (List.length l) (lsF Pc.c l)), some (Blk.arr (8 : Nat) (List.length (List.map od l)) (lsF
    Od.c (List.map od l)))])) := by kernel_rfl
theorem hOd : OLe (some (.arr 8 0 fun _ => [AV.v (Value.int IntKind.i64 0), AV.v (Value.string ⟨#[]⟩), AV.v (Value.string ⟨#[]⟩), AV.v (Value.string ⟨#[]⟩), AV.v (Value.string ⟨#[]⟩), AV.v (Value.int IntKind.i64 0), AV.v (Value.int IntKind.i64 0), AV.v (Value.int IntKind.i64 0)])) (some (lsO [])) := OLe.arr rfl (fun e he => absurd he (Nat.not_lt_zero e)) (fun _ => rfl)
theorem hTx0 : OLe (some (.arr 7 0 fun _ => [AV.v (Value.int IntKind.i64 0), AV.v (Value.string ⟨#[]⟩), AV.v (Value.string ⟨#[]⟩), AV.v (Value.string ⟨#[]⟩), AV.v (Value.string ⟨#[]⟩), AV.v (Value.int IntKind.i64 0), AV.v (Value.int IntKind.i64 0)])) (some (lsT [])) := OLe.arr rfl (fun e he => absurd he (Nat.not_lt_zero e)) (fun _ => rfl)
theorem ansO {c : Cs} {l : List Pc} (hl : l.length ≤ 100000) : Answers Tryd.prog Γm 65 [.ptr 0 0] (c.bl l) (.hs 2 0 (l.map od).length) ((c.bl l).map some) [lsO (l.map od)] := by
  refine answers (fn := Tryd.f65) (c := bodyOf Tryd.f65) (ntmps := 24) (results := [.tmp 2]) [] (fun _ => LSpec.at lvO nlO (SO c l 0 []) (OO c l)) false Tryd.func65 (by kernel_rfl) (by kernel_rfl) (by kernel_rfl) (by kernel_rfl) (by simp) rfl (oneLoop (b := lpO) (by kernel_rfl) (loopO hl 0 (Nat.zero_le _))) <| Meets.of (runO c l) <| ?_
  repeat' (first | refine wC (by first | omega | (simp only [W1, cond_true, cond_false]; first | done | omega)) ?_ | refine wT (by first | omega | (simp only [W1, cond_true, cond_false]; first | done | omega)) ?_ | refine wF (by intro _h; first | omega | (simp only [W1, cond_true, cond_false] at _h; first | done | omega)) ?_ | (refine wS ?_ ?_ <;> intro _h <;> simp only [W1, cond_true, cond_false] at _h))
  all_goals simp only [W1, W2, owesN, owesX, owesR, cond_true, cond_false]
  repeat' (first | apply And.intro | intro _hc)
  all_goals first | exact hOd | exact AV.le_refl _ | exact AV.le_any _ | exact OLe.refl _ | exact OLe.none _ | exact LeH.refl _ | exact LeL.refl _ | exact AV.le.bs _ | exact AV.le.sb _ | omega | contradiction
theorem runT (c : Cs) (n : Int) (l : List Pc) : bodyE (P := Tryd.prog) (Γ := Γm) [] (fun _ => LSpec.at lvT nlT (ST { c with now := n } l 0 []) (OT { c with now := n } l)) false 77 [.tmp 2] (bodyOf Tryd.f63) [.ptr 0 0] (c.bl l) =
  Tree.chk (cl (LeL [AV.ptr (0 : Nat) (0 : Nat), AV.hs (2 : Nat) (0 : Nat) (0 : Nat), AV.v (Value.int IntKind.i64 (↑(List.length l) : Int)), AV.v (Value.int IntKind.i64 (0 : Int))] [AV.ptr (0
    : Nat) (0 : Nat), AV.hs (2 : Nat) (0 : Nat) (0 : Nat), AV.v (Value.int IntKind.i64 (↑(List.length l) : Int)), AV.v (Value.int IntKind.i64 (↑(0 : Nat) : Int))] ∧ LeH [some (Blk.row [AV.v
    (Value.string c.who), AV.v (Value.int IntKind.i64 c.most), AV.hs (1 : Nat) (0 : Nat) (List.length l), AV.v (Value.int IntKind.i64 (IntKind.wrap IntKind.i64 (c.now + (1 : Int)))), AV.v
    (Value.int IntKind.i64 c.heard), AV.v (Value.int IntKind.i64 c.wt), AV.v (Value.int IntKind.i64 c.en), AV.v (Value.int IntKind.i64 c.go)]), some (Blk.arr (10 : Nat) (List.length l) (lsF
    Pc.c l)), some (Blk.arr (7 : Nat) (0 : Nat) fun x => [AV.v (Value.int IntKind.i64 (0 : Int)), AV.v (Value.string (ByteArray.mk #[])), AV.v (Value.string (ByteArray.mk #[])), AV.v
    (Value.string (ByteArray.mk #[])), AV.v (Value.string (ByteArray.mk #[])), AV.v (Value.int IntKind.i64 (0 : Int)), AV.v (Value.int IntKind.i64 (0 : Int))])] [some (Blk.row [AV.v
    (Value.string c.who), AV.v (Value.int IntKind.i64 c.most), AV.hs (1 : Nat) (0 : Nat) (List.length l), AV.v (Value.int IntKind.i64 n), AV.v (Value.int IntKind.i64 c.heard), AV.v
    (Value.int IntKind.i64 c.wt), AV.v (Value.int IntKind.i64 c.en), AV.v (Value.int IntKind.i64 c.go)]), some (Blk.arr (10 : Nat) (List.length l) (lsF Pc.c l)), some (Blk.arr (7 : Nat) (0 :
    Nat) (lsF Tx.c []))])) (Tree.leaf (Ans.mk (AV.hs (2 : Nat) (0 : Nat) (List.length (outT (Cs.mk c.who c.most n c.heard c.wt c.en c.go).now l (List.length l)))) [some (Blk.row [AV.v
    (Value.string c.who), AV.v (Value.int IntKind.i64 c.most), AV.hs (1 : Nat) (0 : Nat) (List.length (List.map (tk (Cs.mk c.who c.most n c.heard c.wt c.en c.go).now) l)), AV.v (Value.int
    IntKind.i64 n), AV.v (Value.int IntKind.i64 c.heard), AV.v (Value.int IntKind.i64 c.wt), AV.v (Value.int IntKind.i64 c.en), AV.v (Value.int IntKind.i64 c.go)]), some (Blk.arr (10 : Nat)
    (List.length (List.map (tk (Cs.mk c.who c.most n c.heard c.wt c.en c.go).now) l)) (lsF Pc.c (List.map (tk (Cs.mk c.who c.most n c.heard c.wt c.en c.go).now) l))), some (Blk.arr (7 : Nat)
    (List.length (outT (Cs.mk c.who c.most n c.heard c.wt c.en c.go).now l (List.length l))) (lsF Tx.c (outT (Cs.mk c.who c.most n c.heard c.wt c.en c.go).now l (List.length l))))])) := by kernel_rfl
theorem ansT {c : Cs} {l : List Pc} (hl : l.length ≤ 100000) (hn : 0 ≤ c.now) (hn2 : c.now < 1000000) (hp : ∀ i, okP (l.getD i default)) :
    Answers Tryd.prog Γm 63 [.ptr 0 0] (c.bl l) (.hs 2 0 (outT (c.now + 1) l l.length).length) ((Cs.bl { c with now := c.now + 1 } (l.map (tk (c.now + 1)))).map some) [lsT (outT (c.now + 1) l l.length)] := by
  have w1 : IntKind.i64.wrap (c.now + 1) = c.now + 1 := wrap64 (by omega) (by omega)
  have h0 := loopT (c := { c with now := c.now + 1 }) (l := l) hl (by show 0 ≤ c.now + 1; omega) (by show c.now + 1 ≤ 1000000; omega) hp 0 (Nat.zero_le _)
  have e0 : aftT (c.now + 1) l 0 = l := rfl
  have e1 : outT (c.now + 1) l 0 = [] := rfl
  simp only [e0, e1] at h0
  refine answers (fn := Tryd.f63) (c := bodyOf Tryd.f63) (ntmps := 77) (results := [.tmp 2]) [] (fun _ => LSpec.at lvT nlT (ST { c with now := c.now + 1 } l 0 []) (OT { c with now := c.now + 1 } l)) false Tryd.func63 (by kernel_rfl) (by kernel_rfl) (by kernel_rfl) (by kernel_rfl) (by simp) rfl (oneLoop (b := lpT) (by kernel_rfl) h0) <| Meets.of (runT c (c.now + 1) l) <| ?_
  simp only [w1]
  repeat' (first | refine wC (by first | omega | (simp only [W1, cond_true, cond_false]; first | done | omega)) ?_ | refine wT (by first | omega | (simp only [W1, cond_true, cond_false]; first | done | omega)) ?_ | refine wF (by intro _h; first | omega | (simp only [W1, cond_true, cond_false] at _h; first | done | omega)) ?_ | (refine wS ?_ ?_ <;> intro _h <;> simp only [W1, cond_true, cond_false] at _h))
  all_goals simp only [W1, W2, owesN, owesX, owesR, cond_true, cond_false]
  repeat' (first | apply And.intro | intro _hc)
  all_goals first | exact hTx0 | exact AV.le_refl _ | exact AV.le_any _ | exact OLe.refl _ | exact OLe.none _ | exact LeH.refl _ | exact LeL.refl _ | exact AV.le.bs _ | exact AV.le.sb _ | omega | contradiction
def sameT (a b : Tx) : Bool := decide (a.k = b.k) && (decide (a.fr = b.fr) && (decide (a.to = b.to) && (decide (a.ky = b.ky) && (decide (a.vl = b.vl) && (decide (a.am = b.am) && decide (a.nn = b.nn))))))
theorem sameT_iff {a b : Tx} : sameT a b = true ↔ a = b := by
  obtain ⟨k, f, t, y, v, m, n⟩ := a
  obtain ⟨k', f', t', y', v', m', n'⟩ := b
  unfold sameT
  simp only [Bool.and_eq_true, decide_eq_true_eq, Tx.mk.injEq]
def kO (t : Tx) : Nat := (t.nn - 1).toNat
def noE (c : Cs) (l : List Pc) (t : Tx) : Prop := ¬ t.fr = c.who ∨ t.nn < 1 ∨ (l.length : Int) < t.nn ∨ ¬ (l.getD (kO t) default).st = 0
def w64 (n : Int) : Int := IntKind.i64.wrap n
theorem runE (c : Cs) (l : List Pc) (t : Tx) : bodyE (P := Tryd.prog) (Γ := Γm) [] Lno false 78 [.tmp 4] (bodyOf Tryd.f106) [.ptr 0 0, txV t] (c.bl l) =
  Tree.br (bif !decide (t.fr = c.who) then true else bif decide (t.nn < (1 : Int)) then true else decide ((↑(List.length l) : Int) < t.nn)) (Tree.leaf (Ans.mk (AV.v (Value.bool false)) [some
    (Blk.row [AV.v (Value.string c.who), AV.v (Value.int IntKind.i64 c.most), AV.hs (1 : Nat) (0 : Nat) (List.length l), AV.v (Value.int IntKind.i64 c.now), AV.v (Value.int IntKind.i64
    c.heard), AV.v (Value.int IntKind.i64 c.wt), AV.v (Value.int IntKind.i64 c.en), AV.v (Value.int IntKind.i64 c.go)]), some (Blk.arr (10 : Nat) (List.length l) (lsF Pc.c l))])) (Tree.chk
    (decide ((0 : Int) ≤ IntKind.wrap IntKind.i64 (t.nn - (1 : Int))) && decide (IntKind.wrap IntKind.i64 (t.nn - (1 : Int)) < (↑(List.length l) : Int))) (Tree.br (!decide ((List.getD l ((0
    : Nat) + Int.toNat (IntKind.wrap IntKind.i64 (t.nn - (1 : Int)))) default).st = (0 : Int))) (Tree.leaf (Ans.mk (AV.v (Value.bool false)) [some (Blk.row [AV.v (Value.string c.who), AV.v
    (Value.int IntKind.i64 c.most), AV.hs (1 : Nat) (0 : Nat) (List.length l), AV.v (Value.int IntKind.i64 c.now), AV.v (Value.int IntKind.i64 c.heard), AV.v (Value.int IntKind.i64 c.wt),
    AV.v (Value.int IntKind.i64 c.en), AV.v (Value.int IntKind.i64 c.go)]), some (Blk.arr (10 : Nat) (List.length l) (lsF Pc.c l))])) (Tree.br (decide ((List.getD l ((0 : Nat) + Int.toNat
    (IntKind.wrap IntKind.i64 (t.nn - (1 : Int)))) default).tx.k = t.k) && (decide ((List.getD l ((0 : Nat) + Int.toNat (IntKind.wrap IntKind.i64 (t.nn - (1 : Int)))) default).tx.fr = t.fr)
    && (decide ((List.getD l ((0 : Nat) + Int.toNat (IntKind.wrap IntKind.i64 (t.nn - (1 : Int)))) default).tx.to = t.to) && (decide ((List.getD l ((0 : Nat) + Int.toNat (IntKind.wrap
    IntKind.i64 (t.nn - (1 : Int)))) default).tx.ky = t.ky) && (decide ((List.getD l ((0 : Nat) + Int.toNat (IntKind.wrap IntKind.i64 (t.nn - (1 : Int)))) default).tx.vl = t.vl) && (decide
    ((List.getD l ((0 : Nat) + Int.toNat (IntKind.wrap IntKind.i64 (t.nn - (1 : Int)))) default).tx.am = t.am) && decide ((List.getD l ((0 : Nat) + Int.toNat (IntKind.wrap IntKind.i64 (t.nn
    - (1 : Int)))) default).tx.nn = t.nn))))))) (Tree.leaf (Ans.mk (AV.v (Value.bool true)) [some (Blk.row [AV.v (Value.string c.who), AV.v (Value.int IntKind.i64 c.most), AV.hs (1 : Nat) (0
    : Nat) (List.length l), AV.v (Value.int IntKind.i64 c.now), AV.v (Value.int IntKind.i64 c.heard), AV.v (Value.int IntKind.i64 (IntKind.wrap IntKind.i64 (c.wt - (1 : Int)))), AV.v
    (Value.int IntKind.i64 (IntKind.wrap IntKind.i64 (c.en + (1 : Int)))), AV.v (Value.int IntKind.i64 c.go)]), some (Blk.arr (10 : Nat) (List.length l) fun k => mixL (Nat.beq k ((0 : Nat) +
    Int.toNat (IntKind.wrap IntKind.i64 (t.nn - (1 : Int))))) [AV.v (Value.int IntKind.i64 (List.getD l ((0 : Nat) + Int.toNat (IntKind.wrap IntKind.i64 (t.nn - (1 : Int)))) default).tx.k),
    AV.v (Value.string (List.getD l ((0 : Nat) + Int.toNat (IntKind.wrap IntKind.i64 (t.nn - (1 : Int)))) default).tx.fr), AV.v (Value.string (List.getD l ((0 : Nat) + Int.toNat
    (IntKind.wrap IntKind.i64 (t.nn - (1 : Int)))) default).tx.to), AV.v (Value.string (List.getD l ((0 : Nat) + Int.toNat (IntKind.wrap IntKind.i64 (t.nn - (1 : Int)))) default).tx.ky),
    AV.v (Value.string (List.getD l ((0 : Nat) + Int.toNat (IntKind.wrap IntKind.i64 (t.nn - (1 : Int)))) default).tx.vl), AV.v (Value.int IntKind.i64 (List.getD l ((0 : Nat) + Int.toNat
    (IntKind.wrap IntKind.i64 (t.nn - (1 : Int)))) default).tx.am), AV.v (Value.int IntKind.i64 (List.getD l ((0 : Nat) + Int.toNat (IntKind.wrap IntKind.i64 (t.nn - (1 : Int))))
    default).tx.nn), AV.v (Value.int IntKind.i64 (1 : Int)), AV.v (Value.int IntKind.i64 (List.getD l ((0 : Nat) + Int.toNat (IntKind.wrap IntKind.i64 (t.nn - (1 : Int)))) default).due),
    AV.v (Value.int IntKind.i64 (List.getD l ((0 : Nat) + Int.toNat (IntKind.wrap IntKind.i64 (t.nn - (1 : Int)))) default).gap)] (lsF Pc.c l k))])) (Tree.leaf (Ans.mk (AV.v (Value.bool
    true)) [some (Blk.row [AV.v (Value.string c.who), AV.v (Value.int IntKind.i64 c.most), AV.hs (1 : Nat) (0 : Nat) (List.length l), AV.v (Value.int IntKind.i64 c.now), AV.v (Value.int
    IntKind.i64 c.heard), AV.v (Value.int IntKind.i64 (IntKind.wrap IntKind.i64 (c.wt - (1 : Int)))), AV.v (Value.int IntKind.i64 c.en), AV.v (Value.int IntKind.i64 (IntKind.wrap IntKind.i64
    (c.go + (1 : Int))))]), some (Blk.arr (10 : Nat) (List.length l) fun k => mixL (Nat.beq k ((0 : Nat) + Int.toNat (IntKind.wrap IntKind.i64 (t.nn - (1 : Int))))) [AV.v (Value.int
    IntKind.i64 (List.getD l ((0 : Nat) + Int.toNat (IntKind.wrap IntKind.i64 (t.nn - (1 : Int)))) default).tx.k), AV.v (Value.string (List.getD l ((0 : Nat) + Int.toNat (IntKind.wrap
    IntKind.i64 (t.nn - (1 : Int)))) default).tx.fr), AV.v (Value.string (List.getD l ((0 : Nat) + Int.toNat (IntKind.wrap IntKind.i64 (t.nn - (1 : Int)))) default).tx.to), AV.v
    (Value.string (List.getD l ((0 : Nat) + Int.toNat (IntKind.wrap IntKind.i64 (t.nn - (1 : Int)))) default).tx.ky), AV.v (Value.string (List.getD l ((0 : Nat) + Int.toNat (IntKind.wrap
    IntKind.i64 (t.nn - (1 : Int)))) default).tx.vl), AV.v (Value.int IntKind.i64 (List.getD l ((0 : Nat) + Int.toNat (IntKind.wrap IntKind.i64 (t.nn - (1 : Int)))) default).tx.am), AV.v
    (Value.int IntKind.i64 (List.getD l ((0 : Nat) + Int.toNat (IntKind.wrap IntKind.i64 (t.nn - (1 : Int)))) default).tx.nn), AV.v (Value.int IntKind.i64 (2 : Int)), AV.v (Value.int
    IntKind.i64 (List.getD l ((0 : Nat) + Int.toNat (IntKind.wrap IntKind.i64 (t.nn - (1 : Int)))) default).due), AV.v (Value.int IntKind.i64 (List.getD l ((0 : Nat) + Int.toNat
    (IntKind.wrap IntKind.i64 (t.nn - (1 : Int)))) default).gap)] (lsF Pc.c l k))]))))) := by kernel_rfl
structure RE where
  b : Bool
  c : Cs
  l : List Pc
def setS (p : Pc) (s : Int) : Pc := ⟨p.tx, s, p.due, p.gap⟩
open Classical in
noncomputable def endF (c : Cs) (l : List Pc) (t : Tx) : RE := if noE c l t then ⟨false, c, l⟩ else if sameT (l.getD (kO t) default).tx t = true then ⟨true, { c with wt := w64 (c.wt - 1), en := w64 (c.en + 1) }, l.set (kO t) (setS (l.getD (kO t) default) 1)⟩
  else ⟨true, { c with wt := w64 (c.wt - 1), go := w64 (c.go + 1) }, l.set (kO t) (setS (l.getD (kO t) default) 2)⟩
theorem endF_no {c : Cs} {l : List Pc} {t : Tx} (h : noE c l t) : endF c l t = ⟨false, c, l⟩ := if_pos h
theorem endF_one {c : Cs} {l : List Pc} {t : Tx} (h : ¬ noE c l t) (hs : sameT (l.getD (kO t) default).tx t = true) : endF c l t = ⟨true, { c with wt := w64 (c.wt - 1), en := w64 (c.en + 1) }, l.set (kO t) (setS (l.getD (kO t) default) 1)⟩ := by
  unfold endF; rw [if_neg h, if_pos hs]
theorem endF_two {c : Cs} {l : List Pc} {t : Tx} (h : ¬ noE c l t) (hs : sameT (l.getD (kO t) default).tx t = false) : endF c l t = ⟨true, { c with wt := w64 (c.wt - 1), go := w64 (c.go + 1) }, l.set (kO t) (setS (l.getD (kO t) default) 2)⟩ := by
  unfold endF; rw [if_neg h, if_neg (by rw [hs]; decide)]
theorem ansE {c : Cs} {l : List Pc} {t : Tx} (hl : l.length ≤ 100000) (ht : -9223372036854775808 ≤ t.nn ∧ t.nn ≤ 9223372036854775807) : Answers Tryd.prog Γm 106 [.ptr 0 0, txV t] (c.bl l) (.sb (endF c l t).b) ((Cs.bl (endF c l t).c (endF c l t).l).map some) [] := by
  refine answers (fn := Tryd.f106) (c := bodyOf Tryd.f106) (ntmps := 78) (results := [.tmp 4]) [] (Lno) false Tryd.func106 (by kernel_rfl) (by kernel_rfl) (by kernel_rfl) (by kernel_rfl) (by simp) rfl (failOK fun _ _ _ => rfl) <| Meets.of (runE c l t) <| ?_
  by_cases h1 : ¬ t.fr = c.who ∨ t.nn < 1 ∨ (l.length : Int) < t.nn
  · have hn : noE c l t := by unfold noE; rcases h1 with h | h | h; exact .inl h; exact .inr (.inl h); exact .inr (.inr (.inl h))
    rw [endF_no hn]
    have hc : (bif !decide (t.fr = c.who) then true else bif decide (t.nn < (1 : Int)) then true else decide ((l.length : Int) < t.nn)) = true := by
      simp only [Bool.cond_true_left, Bool.or_eq_true, Bool.not_eq_true', decide_eq_false_iff_not, decide_eq_true_eq]; exact h1
    simp only [hc]
    repeat' (first | refine wC (by first | omega | (simp only [W1, cond_true, cond_false]; first | done | omega)) ?_ | refine wT (by first | omega | (simp only [W1, cond_true, cond_false]; first | done | omega)) ?_ | refine wF (by intro _h; first | omega | (simp only [W1, cond_true, cond_false] at _h; first | done | omega)) ?_ | (refine wS ?_ ?_ <;> intro _h <;> simp only [W1, cond_true, cond_false] at _h))
    all_goals simp only [W1, W2, owesN, owesX, owesR, cond_true, cond_false]
    repeat' (first | apply And.intro | intro _hc)
    all_goals first | exact AV.le.bs _ | exact leB rfl | exact AV.le_refl _ | exact AV.le_any _ | exact OLe.refl _ | exact OLe.none _ | exact LeH.refl _ | exact LeL.refl _ | exact AV.le.bs _ | exact AV.le.sb _ | omega | contradiction
  · have hc : (bif !decide (t.fr = c.who) then true else bif decide (t.nn < (1 : Int)) then true else decide ((l.length : Int) < t.nn)) = false := by
      rw [Bool.eq_false_iff]
      simp only [ne_eq, Bool.cond_true_left, Bool.or_eq_true, Bool.not_eq_true', decide_eq_false_iff_not, decide_eq_true_eq]; exact h1
    have hb : 1 ≤ t.nn ∧ t.nn ≤ (l.length : Int) := by omega
    have hw : IntKind.i64.wrap (t.nn - 1) = t.nn - 1 := wrap64 (by omega) (by omega)
    have hk : (t.nn - 1).toNat = kO t := rfl
    have hkl : kO t < l.length := by unfold kO; omega
    simp only [hc, hw, hk, Nat.zero_add]
    by_cases hs : (l.getD (kO t) default).st = 0
    · have hn : ¬ noE c l t := by unfold noE; rintro (h | h | h | h); exact h1 (.inl h); exact h1 (.inr (.inl h)); exact h1 (.inr (.inr h)); exact h hs
      have hq : ∀ p : Pc, (decide (p.tx.k = t.k) && (decide (p.tx.fr = t.fr) && (decide (p.tx.to = t.to) && (decide (p.tx.ky = t.ky) && (decide (p.tx.vl = t.vl) && (decide (p.tx.am = t.am) && decide (p.tx.nn = t.nn))))))) = sameT p.tx t := fun p => rfl
      simp only [hq]
      have hW : ∀ n, IntKind.i64.wrap n = w64 n := fun _ => rfl
      simp only [hW]
      cases he : sameT (l.getD (kO t) default).tx t with
      | true =>
        rw [endF_one hn he]
        have hO := Pc.cod.set l (setS (l.getD (kO t) default) 1) hkl rfl
        have hz : (l.set (kO t) (setS (l.getD (kO t) default) 1)).length = l.length := List.length_set ..
        repeat' (first | refine wC (by first | omega | (simp only [W1, cond_true, cond_false, hs, he]; first | done | omega)) ?_ | refine wT (by first | omega | (simp only [W1, cond_true, cond_false, hs, he]; first | done | omega)) ?_ | refine wF (by intro _h; first | omega | (simp only [W1, cond_true, cond_false, hs, he] at _h; first | done | omega)) ?_ | (refine wS ?_ ?_ <;> intro _h <;> simp only [W1, cond_true, cond_false, hs, he] at _h))
        all_goals simp only [W1, W2, owesN, owesX, owesR, cond_true, cond_false, hs, he]
        repeat' (first | apply And.intro | intro _hc)
        all_goals first | exact leB rfl | exact hO | ((unfold Cs.row; rw [hz]; exact .refl _)) | exact AV.le_refl _ | exact AV.le_any _ | exact OLe.refl _ | exact OLe.none _ | exact LeH.refl _ | exact LeL.refl _ | exact AV.le.bs _ | exact AV.le.sb _ | omega | contradiction
      | false =>
        rw [endF_two hn he]
        have hO := Pc.cod.set l (setS (l.getD (kO t) default) 2) hkl rfl
        have hz : (l.set (kO t) (setS (l.getD (kO t) default) 2)).length = l.length := List.length_set ..
        repeat' (first | refine wC (by first | omega | (simp only [W1, cond_true, cond_false, hs, he]; first | done | omega)) ?_ | refine wT (by first | omega | (simp only [W1, cond_true, cond_false, hs, he]; first | done | omega)) ?_ | refine wF (by intro _h; first | omega | (simp only [W1, cond_true, cond_false, hs, he] at _h; first | done | omega)) ?_ | (refine wS ?_ ?_ <;> intro _h <;> simp only [W1, cond_true, cond_false, hs, he] at _h))
        all_goals simp only [W1, W2, owesN, owesX, owesR, cond_true, cond_false, hs, he]
        repeat' (first | apply And.intro | intro _hc)
        all_goals first | exact leB rfl | exact hO | ((unfold Cs.row; rw [hz]; exact .refl _)) | exact AV.le_refl _ | exact AV.le_any _ | exact OLe.refl _ | exact OLe.none _ | exact LeH.refl _ | exact LeL.refl _ | exact AV.le.bs _ | exact AV.le.sb _ | omega | contradiction
    · have hn : noE c l t := .inr (.inr (.inr hs))
      rw [endF_no hn]
      repeat' (first | refine wC (by first | omega | (simp only [W1, cond_true, cond_false, hs]; first | done | omega)) ?_ | refine wT (by first | omega | (simp only [W1, cond_true, cond_false, hs]; first | done | omega)) ?_ | refine wF (by intro _h; first | omega | (simp only [W1, cond_true, cond_false, hs] at _h; first | done | omega)) ?_ | (refine wS ?_ ?_ <;> intro _h <;> simp only [W1, cond_true, cond_false, hs] at _h))
      all_goals simp only [W1, W2, owesN, owesX, owesR, cond_true, cond_false, hs]
      repeat' (first | apply And.intro | intro _hc)
      all_goals first | exact leB rfl | exact AV.le_refl _ | exact AV.le_any _ | exact OLe.refl _ | exact OLe.none _ | exact LeH.refl _ | exact LeL.refl _ | exact AV.le.bs _ | exact AV.le.sb _ | omega | contradiction
theorem endF_len {c : Cs} {l : List Pc} {t : Tx} : (endF c l t).l.length = l.length := by
  unfold endF
  split
  · rfl
  · split <;> exact List.length_set ..
end Go.Eng.TA.C

namespace Go.Eng.TA.C
open Go Go.Eng Go.Eng.M Go.Lib Go.Proofs
structure RH where
  c : Cs
  l : List Pc
  n : Int
noncomputable def stepH (x : RH) (o : Oc) : RH := if o.err = 0 then ⟨(endF x.c x.l o.tx).c, (endF x.c x.l o.tx).l, bif (endF x.c x.l o.tx).b then w64 (x.n + 1) else x.n⟩ else x
abbrev lsOc (l : List Oc) : Blk := .arr 10 l.length (lsF Oc.c l)
noncomputable abbrev lpH : Code := loopOf (bodyOf Tryd.f64) 0
abbrev lvH : List Nat := [0, 24, 5, 25, 26, 1]
def SH (os : List Oc) (h : Nat) (x : RH) (i : Nat) : List AV × Heap := ([.ptr 0 0, .hs 2 h (os.length - h), .v (.int .i64 x.n), .v (.int .i64 ((os.length - h : Nat) : Int)), .v (.int .i64 (i : Int)), .hs 2 0 os.length], (x.c.bl x.l ++ [lsOc os]).map some)
def OH (os : List Oc) (r : RH) : Out := ⟨.exit 0, [.ptr 0 0, .any, .v (.int .i64 r.n), .any, .any, .hs 2 0 os.length], (r.c.bl r.l ++ [lsOc os]).map some⟩
theorem rH (os : List Oc) (h : Nat) (x : RH) (i : Nat) (b : Bool) (c' : Cs) (l' : List Pc) (hE : Answers Tryd.prog Γm 106 [.ptr 0 0, txV (os.getD (h + i) default).tx] (x.c.bl x.l) (.sb b) ((c'.bl l').map some) []) : roundE (P := Tryd.prog) (Γ := Γm) [CT.at 106 hE] Lno false 3 0 lpH lvH [] 48 (SH os h x i).1 (SH os h x i).2 =
  Tree.br (decide ((↑i : Int) < (↑(List.length os - h) : Int))) (Tree.chk (decide ((0 : Int) ≤ (↑i : Int)) && decide ((↑i : Int) < (↑(List.length os - h) : Int))) (Tree.br (decide ((List.getD
    os (h + i) default).err = (0 : Int))) (Tree.chk (cl (LeL [AV.ptr (0 : Nat) (0 : Nat), AV.agg [AV.v (Value.int IntKind.i64 (List.getD os (h + i) default).tx.k), AV.v (Value.string
    (List.getD os (h + i) default).tx.fr), AV.v (Value.string (List.getD os (h + i) default).tx.to), AV.v (Value.string (List.getD os (h + i) default).tx.ky), AV.v (Value.string (List.getD
    os (h + i) default).tx.vl), AV.v (Value.int IntKind.i64 (List.getD os (h + i) default).tx.am), AV.v (Value.int IntKind.i64 (List.getD os (h + i) default).tx.nn)]] [AV.ptr (0 : Nat) (0 :
    Nat), AV.agg [AV.v (Value.int IntKind.i64 (List.getD os (h + i) default).tx.k), AV.v (Value.string (List.getD os (h + i) default).tx.fr), AV.v (Value.string (List.getD os (h + i)
    default).tx.to), AV.v (Value.string (List.getD os (h + i) default).tx.ky), AV.v (Value.string (List.getD os (h + i) default).tx.vl), AV.v (Value.int IntKind.i64 (List.getD os (h + i)
    default).tx.am), AV.v (Value.int IntKind.i64 (List.getD os (h + i) default).tx.nn)]] ∧ LeH [some (Blk.row [AV.v (Value.string x.c.who), AV.v (Value.int IntKind.i64 x.c.most), AV.hs (1 :
    Nat) (0 : Nat) (List.length x.l), AV.v (Value.int IntKind.i64 x.c.now), AV.v (Value.int IntKind.i64 x.c.heard), AV.v (Value.int IntKind.i64 x.c.wt), AV.v (Value.int IntKind.i64 x.c.en),
    AV.v (Value.int IntKind.i64 x.c.go)]), some (Blk.arr (10 : Nat) (List.length x.l) (lsF Pc.c x.l))] [some (Blk.row [AV.v (Value.string x.c.who), AV.v (Value.int IntKind.i64 x.c.most),
    AV.hs (1 : Nat) (0 : Nat) (List.length x.l), AV.v (Value.int IntKind.i64 x.c.now), AV.v (Value.int IntKind.i64 x.c.heard), AV.v (Value.int IntKind.i64 x.c.wt), AV.v (Value.int
    IntKind.i64 x.c.en), AV.v (Value.int IntKind.i64 x.c.go)]), some (Blk.arr (10 : Nat) (List.length x.l) (lsF Pc.c x.l))])) (Tree.br b (Tree.leaf (Out.mk AEx.normal [AV.ptr (0 : Nat) (0 :
    Nat), AV.hs (2 : Nat) h (List.length os - h), AV.v (Value.int IntKind.i64 (IntKind.wrap IntKind.i64 (x.n + (1 : Int)))), AV.v (Value.int IntKind.i64 (↑(List.length os - h) : Int)), AV.v
    (Value.int IntKind.i64 (IntKind.wrap IntKind.i64 ((↑i : Int) + (1 : Int)))), AV.hs (2 : Nat) (0 : Nat) (List.length os)] [some (Blk.row [AV.v (Value.string c'.who), AV.v (Value.int
    IntKind.i64 c'.most), AV.hs (1 : Nat) (0 : Nat) (List.length l'), AV.v (Value.int IntKind.i64 c'.now), AV.v (Value.int IntKind.i64 c'.heard), AV.v (Value.int IntKind.i64 c'.wt), AV.v
    (Value.int IntKind.i64 c'.en), AV.v (Value.int IntKind.i64 c'.go)]), some (Blk.arr (10 : Nat) (List.length l') (lsF Pc.c l')), some (Blk.arr (10 : Nat) (List.length os) (lsF Oc.c os))]))
    (Tree.leaf (Out.mk AEx.normal [AV.ptr (0 : Nat) (0 : Nat), AV.hs (2 : Nat) h (List.length os - h), AV.v (Value.int IntKind.i64 x.n), AV.v (Value.int IntKind.i64 (↑(List.length os - h) :
    Int)), AV.v (Value.int IntKind.i64 (IntKind.wrap IntKind.i64 ((↑i : Int) + (1 : Int)))), AV.hs (2 : Nat) (0 : Nat) (List.length os)] [some (Blk.row [AV.v (Value.string c'.who), AV.v
    (Value.int IntKind.i64 c'.most), AV.hs (1 : Nat) (0 : Nat) (List.length l'), AV.v (Value.int IntKind.i64 c'.now), AV.v (Value.int IntKind.i64 c'.heard), AV.v (Value.int IntKind.i64
    c'.wt), AV.v (Value.int IntKind.i64 c'.en), AV.v (Value.int IntKind.i64 c'.go)]), some (Blk.arr (10 : Nat) (List.length l') (lsF Pc.c l')), some (Blk.arr (10 : Nat) (List.length os) (lsF
    Oc.c os))])))) (Tree.leaf (Out.mk AEx.normal [AV.ptr (0 : Nat) (0 : Nat), AV.hs (2 : Nat) h (List.length os - h), AV.v (Value.int IntKind.i64 x.n), AV.v (Value.int IntKind.i64
    (↑(List.length os - h) : Int)), AV.v (Value.int IntKind.i64 (IntKind.wrap IntKind.i64 ((↑i : Int) + (1 : Int)))), AV.hs (2 : Nat) (0 : Nat) (List.length os)] [some (Blk.row [AV.v
    (Value.string x.c.who), AV.v (Value.int IntKind.i64 x.c.most), AV.hs (1 : Nat) (0 : Nat) (List.length x.l), AV.v (Value.int IntKind.i64 x.c.now), AV.v (Value.int IntKind.i64 x.c.heard),
    AV.v (Value.int IntKind.i64 x.c.wt), AV.v (Value.int IntKind.i64 x.c.en), AV.v (Value.int IntKind.i64 x.c.go)]), some (Blk.arr (10 : Nat) (List.length x.l) (lsF Pc.c x.l)), some (Blk.arr
    (10 : Nat) (List.length os) (lsF Oc.c os))])))) (Tree.leaf (Out.mk (AEx.exit (0 : Nat)) [AV.ptr (0 : Nat) (0 : Nat), AV.hs (2 : Nat) h (List.length os - h), AV.v (Value.int IntKind.i64
    x.n), AV.v (Value.int IntKind.i64 (↑(List.length os - h) : Int)), AV.v (Value.int IntKind.i64 (↑i : Int)), AV.hs (2 : Nat) (0 : Nat) (List.length os)] [some (Blk.row [AV.v (Value.string
    x.c.who), AV.v (Value.int IntKind.i64 x.c.most), AV.hs (1 : Nat) (0 : Nat) (List.length x.l), AV.v (Value.int IntKind.i64 x.c.now), AV.v (Value.int IntKind.i64 x.c.heard), AV.v
    (Value.int IntKind.i64 x.c.wt), AV.v (Value.int IntKind.i64 x.c.en), AV.v (Value.int IntKind.i64 x.c.go)]), some (Blk.arr (10 : Nat) (List.length x.l) (lsF Pc.c x.l)), some (Blk.arr (10
    : Nat) (List.length os) (lsF Oc.c os))])) := by kernel_rfl
theorem loopH {os : List Oc} {h : Nat} {R : RH} (hos : os.length ≤ 100000) (ht : ∀ i, -9223372036854775808 ≤ (os.getD i default).tx.nn ∧ (os.getD i default).tx.nn ≤ 9223372036854775807) (hh : h ≤ os.length) :
    ∀ y : RH × Nat, (h + y.2 ≤ os.length ∧ y.1.l.length ≤ 100000 ∧ (os.drop (h + y.2)).foldl stepH y.1 = R) → LoopOK Tryd.prog Γm 3 48 lpH (LSpec.at lvH [] (SH os h y.1 y.2) (OH os R)) := by
  refine loop_at (S := fun y : RH × Nat => SH os h y.1 y.2) (pre := fun y => h + y.2 ≤ os.length ∧ y.1.l.length ≤ 100000 ∧ (os.drop (h + y.2)).foldl stepH y.1 = R) (O := fun _ => OH os R) (k := 0) (fun y => os.length - h - y.2) fun y hy => ?_
  obtain ⟨x, i⟩ := y
  obtain ⟨h1, h2, h3⟩ := hy
  dsimp only at h1 h2 h3 ⊢
  have hE := ansE (c := x.c) (l := x.l) (t := (os.getD (h + i) default).tx) h2 (ht _)
  refine .of (noLoops (by kernel_rfl)) (rH os h x i _ _ _ hE) ?_
  rcases Nat.lt_or_ge (h + i) os.length with hi | hi
  · have e1 : IntKind.i64.wrap ((i : Int) + 1) = ((i + 1 : Nat) : Int) := wrapUpN (by omega)
    have hd : os.drop (h + i) = os.getD (h + i) default :: os.drop (h + (i + 1)) := by rw [List.drop_eq_getElem_cons hi, getD_get hi]; rfl
    rw [hd, List.foldl_cons] at h3
    have hlt : os.length - h - (i + 1) < os.length - h - i := by omega
    have hx : Tx.mk (os.getD (h + i) default).tx.k (os.getD (h + i) default).tx.fr (os.getD (h + i) default).tx.to (os.getD (h + i) default).tx.ky (os.getD (h + i) default).tx.vl (os.getD (h + i) default).tx.am (os.getD (h + i) default).tx.nn = (os.getD (h + i) default).tx := rfl
    simp only [e1, Nat.zero_add]
    have hW : ∀ n, IntKind.i64.wrap n = w64 n := fun _ => rfl
    simp only [hW]
    by_cases he : (os.getD (h + i) default).err = 0
    · have hs : stepH x (os.getD (h + i) default) = ⟨(endF x.c x.l (os.getD (h + i) default).tx).c, (endF x.c x.l (os.getD (h + i) default).tx).l, bif (endF x.c x.l (os.getD (h + i) default).tx).b then w64 (x.n + 1) else x.n⟩ := if_pos he
      rw [hs] at h3
      have hl : (endF x.c x.l (os.getD (h + i) default).tx).l.length ≤ 100000 := by rw [endF_len]; exact h2
      cases hb : (endF x.c x.l (os.getD (h + i) default).tx).b with
      | true =>
        rw [hb, cond_true] at h3
        repeat' (first | refine wC (by first | omega | (simp only [W1, cond_true, cond_false, he, hb]; first | done | omega)) ?_ | refine wT (by first | omega | (simp only [W1, cond_true, cond_false, he, hb]; first | done | omega)) ?_ | refine wF (by intro _h; first | omega | (simp only [W1, cond_true, cond_false, he, hb] at _h; first | done | omega)) ?_ | (refine wS ?_ ?_ <;> intro _h <;> simp only [W1, cond_true, cond_false, he, hb] at _h))
        all_goals simp only [W1, W2, owesN, owesX, owesR, cond_true, cond_false, he, hb]
        repeat' (first | apply And.intro | intro _hc)
        all_goals first | exact ⟨(_, i + 1), LeL.refl _, LeH.refl _, ⟨by show h + (i + 1) ≤ _; omega, hl, h3⟩, hlt⟩ | exact AV.le_refl _ | exact AV.le_any _ | exact OLe.refl _ | exact OLe.none _ | exact LeH.refl _ | exact LeL.refl _ | exact AV.le.bs _ | exact AV.le.sb _ | omega | contradiction
      | false =>
        rw [hb, cond_false] at h3
        repeat' (first | refine wC (by first | omega | (simp only [W1, cond_true, cond_false, he, hb]; first | done | omega)) ?_ | refine wT (by first | omega | (simp only [W1, cond_true, cond_false, he, hb]; first | done | omega)) ?_ | refine wF (by intro _h; first | omega | (simp only [W1, cond_true, cond_false, he, hb] at _h; first | done | omega)) ?_ | (refine wS ?_ ?_ <;> intro _h <;> simp only [W1, cond_true, cond_false, he, hb] at _h))
        all_goals simp only [W1, W2, owesN, owesX, owesR, cond_true, cond_false, he, hb]
        repeat' (first | apply And.intro | intro _hc)
        all_goals first | exact ⟨((⟨(endF x.c x.l (os.getD (h + i) default).tx).c, (endF x.c x.l (os.getD (h + i) default).tx).l, x.n⟩ : RH), i + 1), LeL.refl _, LeH.refl _, ⟨by show h + (i + 1) ≤ _; omega, hl, h3⟩, hlt⟩ | exact AV.le_refl _ | exact AV.le_any _ | exact OLe.refl _ | exact OLe.none _ | exact LeH.refl _ | exact LeL.refl _ | exact AV.le.bs _ | exact AV.le.sb _ | omega | contradiction
    · have hs : stepH x (os.getD (h + i) default) = x := if_neg he
      rw [hs] at h3
      repeat' (first | refine wC (by first | omega | (simp only [W1, cond_true, cond_false, he]; first | done | omega)) ?_ | refine wT (by first | omega | (simp only [W1, cond_true, cond_false, he]; first | done | omega)) ?_ | refine wF (by intro _h; first | omega | (simp only [W1, cond_true, cond_false, he] at _h; first | done | omega)) ?_ | (refine wS ?_ ?_ <;> intro _h <;> simp only [W1, cond_true, cond_false, he] at _h))
      all_goals simp only [W1, W2, owesN, owesX, owesR, cond_true, cond_false, he]
      repeat' (first | apply And.intro | intro _hc)
      all_goals first | exact ⟨(x, i + 1), LeL.refl _, LeH.refl _, ⟨by show h + (i + 1) ≤ _; omega, h2, h3⟩, hlt⟩ | exact AV.le_refl _ | exact AV.le_any _ | exact OLe.refl _ | exact OLe.none _ | exact LeH.refl _ | exact LeL.refl _ | exact AV.le.bs _ | exact AV.le.sb _ | omega | contradiction
  · have hz : h + i = os.length := by omega
    rw [hz, List.drop_length] at h3
    have h3 : x = R := h3
    subst h3
    have hi2 : i = os.length - h := by omega
    subst hi2
    repeat' (first | refine wC (by first | omega | (simp only [W1, cond_true, cond_false]; first | done | omega)) ?_ | refine wT (by first | omega | (simp only [W1, cond_true, cond_false]; first | done | omega)) ?_ | refine wF (by intro _h; first | omega | (simp only [W1, cond_true, cond_false] at _h; first | done | omega)) ?_ | (refine wS ?_ ?_ <;> intro _h <;> simp only [W1, cond_true, cond_false] at _h))
    all_goals simp only [W1, W2, owesN, owesX, owesR, cond_true, cond_false]
    repeat' (first | apply And.intro | intro _hc)
    all_goals first | exact rfl | exact ⟨.refl _, .any _, .refl _, .any _, .any _, .refl _, trivial⟩ | exact AV.le_refl _ | exact AV.le_any _ | exact OLe.refl _ | exact OLe.none _ | exact LeH.refl _ | exact LeL.refl _ | exact AV.le.bs _ | exact AV.le.sb _ | omega | contradiction
theorem runH (c : Cs) (l : List Pc) (os : List Oc) (h : Nat) (r : RH) : bodyE (P := Tryd.prog) (Γ := Γm) [] (fun _ => LSpec.at lvH [] (SH os h ⟨c, l, 0⟩ 0) (OH os r)) false 48 [.tmp 4] (bodyOf Tryd.f64) [.ptr 0 0, .hs 2 0 os.length] (c.bl l ++ [lsOc os]) =
  Tree.br (decide ((↑(List.length os) : Int) ≤ c.heard)) (Tree.leaf (Ans.mk (AV.v (Value.int IntKind.i64 (0 : Int))) [some (Blk.row [AV.v (Value.string c.who), AV.v (Value.int IntKind.i64
    c.most), AV.hs (1 : Nat) (0 : Nat) (List.length l), AV.v (Value.int IntKind.i64 c.now), AV.v (Value.int IntKind.i64 c.heard), AV.v (Value.int IntKind.i64 c.wt), AV.v (Value.int
    IntKind.i64 c.en), AV.v (Value.int IntKind.i64 c.go)]), some (Blk.arr (10 : Nat) (List.length l) (lsF Pc.c l)), some (Blk.arr (10 : Nat) (List.length os) (lsF Oc.c os))])) (Tree.chk
    (decide ((0 : Int) ≤ c.heard) && decide (c.heard ≤ (↑(List.length os) : Int)) && decide ((↑(List.length os) : Int) ≤ (↑(List.length os) : Int))) (Tree.chk (cl (LeL [AV.ptr (0 : Nat) (0 :
    Nat), AV.hs (2 : Nat) ((0 : Nat) + Int.toNat c.heard) (List.length os - Int.toNat c.heard), AV.v (Value.int IntKind.i64 (0 : Int)), AV.v (Value.int IntKind.i64 (↑(List.length os -
    Int.toNat c.heard) : Int)), AV.v (Value.int IntKind.i64 (0 : Int)), AV.hs (2 : Nat) (0 : Nat) (List.length os)] [AV.ptr (0 : Nat) (0 : Nat), AV.hs (2 : Nat) h (List.length os - h), AV.v
    (Value.int IntKind.i64 (0 : Int)), AV.v (Value.int IntKind.i64 (↑(List.length os - h) : Int)), AV.v (Value.int IntKind.i64 (↑(0 : Nat) : Int)), AV.hs (2 : Nat) (0 : Nat) (List.length
    os)] ∧ LeH [some (Blk.row [AV.v (Value.string c.who), AV.v (Value.int IntKind.i64 c.most), AV.hs (1 : Nat) (0 : Nat) (List.length l), AV.v (Value.int IntKind.i64 c.now), AV.v (Value.int
    IntKind.i64 c.heard), AV.v (Value.int IntKind.i64 c.wt), AV.v (Value.int IntKind.i64 c.en), AV.v (Value.int IntKind.i64 c.go)]), some (Blk.arr (10 : Nat) (List.length l) (lsF Pc.c l)),
    some (Blk.arr (10 : Nat) (List.length os) (lsF Oc.c os))] [some (Blk.row [AV.v (Value.string c.who), AV.v (Value.int IntKind.i64 c.most), AV.hs (1 : Nat) (0 : Nat) (List.length (RH.mk c
    l (0 : Int)).l), AV.v (Value.int IntKind.i64 c.now), AV.v (Value.int IntKind.i64 c.heard), AV.v (Value.int IntKind.i64 c.wt), AV.v (Value.int IntKind.i64 c.en), AV.v (Value.int
    IntKind.i64 c.go)]), some (Blk.arr (10 : Nat) (List.length (RH.mk c l (0 : Int)).l) (lsF Pc.c (RH.mk c l (0 : Int)).l)), some (Blk.arr (10 : Nat) (List.length os) (lsF Oc.c os))]))
    (Tree.leaf (Ans.mk (AV.v (Value.int IntKind.i64 r.n)) [some (Blk.row [AV.v (Value.string r.c.who), AV.v (Value.int IntKind.i64 r.c.most), AV.hs (1 : Nat) (0 : Nat) (List.length r.l),
    AV.v (Value.int IntKind.i64 r.c.now), AV.v (Value.int IntKind.i64 (↑(List.length os) : Int)), AV.v (Value.int IntKind.i64 r.c.wt), AV.v (Value.int IntKind.i64 r.c.en), AV.v (Value.int
    IntKind.i64 r.c.go)]), some (Blk.arr (10 : Nat) (List.length r.l) (lsF Pc.c r.l)), some (Blk.arr (10 : Nat) (List.length os) (lsF Oc.c os))])))) := by kernel_rfl
def setH' (c : Cs) (h : Int) : Cs := { c with heard := h }
noncomputable def hearF (c : Cs) (l : List Pc) (os : List Oc) : RH := if (os.length : Int) ≤ c.heard then ⟨c, l, 0⟩ else
  ⟨setH' ((os.drop c.heard.toNat).foldl stepH ⟨c, l, 0⟩).c (os.length : Int), ((os.drop c.heard.toNat).foldl stepH ⟨c, l, 0⟩).l, ((os.drop c.heard.toNat).foldl stepH ⟨c, l, 0⟩).n⟩
theorem ansH {c : Cs} {l : List Pc} {os : List Oc} (hos : os.length ≤ 100000) (ht : ∀ i, -9223372036854775808 ≤ (os.getD i default).tx.nn ∧ (os.getD i default).tx.nn ≤ 9223372036854775807) (hl : l.length ≤ 100000) (hh : 0 ≤ c.heard) :
    Answers Tryd.prog Γm 64 [.ptr 0 0, .hs 2 0 os.length] (c.bl l ++ [lsOc os]) (.v (.int .i64 (hearF c l os).n)) ((Cs.bl (hearF c l os).c (hearF c l os).l ++ [lsOc os]).map some) [] := by
  by_cases h : (os.length : Int) ≤ c.heard
  · have e : hearF c l os = ⟨c, l, 0⟩ := if_pos h
    rw [e]
    refine answers (fn := Tryd.f64) (c := bodyOf Tryd.f64) (ntmps := 48) (results := [.tmp 4]) [] (fun _ => LSpec.at lvH [] (SH os os.length ⟨c, l, 0⟩ 0) (OH os ⟨c, l, 0⟩)) false Tryd.func64 (by kernel_rfl) (by kernel_rfl) (by kernel_rfl) (by kernel_rfl) (by simp) rfl (oneLoop (b := lpH) (by kernel_rfl) (loopH hos ht (Nat.le_refl _) (⟨c, l, 0⟩, 0) ⟨by show os.length + 0 ≤ _; omega, hl, by show (os.drop (os.length + 0)).foldl stepH _ = _; rw [Nat.add_zero, List.drop_length]; rfl⟩)) <| Meets.of (runH c l os os.length ⟨c, l, 0⟩) <| ?_
    repeat' (first | refine wC (by first | omega | (simp only [W1, cond_true, cond_false]; first | done | omega)) ?_ | refine wT (by first | omega | (simp only [W1, cond_true, cond_false]; first | done | omega)) ?_ | refine wF (by intro _h; first | omega | (simp only [W1, cond_true, cond_false] at _h; first | done | omega)) ?_ | (refine wS ?_ ?_ <;> intro _h <;> simp only [W1, cond_true, cond_false] at _h))
    all_goals simp only [W1, W2, owesN, owesX, owesR, cond_true, cond_false]
    repeat' (first | apply And.intro | intro _hc)
    all_goals first | exact AV.le_refl _ | exact AV.le_any _ | exact OLe.refl _ | exact OLe.none _ | exact LeH.refl _ | exact LeL.refl _ | exact AV.le.bs _ | exact AV.le.sb _ | omega | contradiction
  · have e : hearF c l os = ⟨setH' ((os.drop c.heard.toNat).foldl stepH ⟨c, l, 0⟩).c (os.length : Int), ((os.drop c.heard.toNat).foldl stepH ⟨c, l, 0⟩).l, ((os.drop c.heard.toNat).foldl stepH ⟨c, l, 0⟩).n⟩ := if_neg h
    rw [e]
    refine answers (fn := Tryd.f64) (c := bodyOf Tryd.f64) (ntmps := 48) (results := [.tmp 4]) [] (fun _ => LSpec.at lvH [] (SH os c.heard.toNat ⟨c, l, 0⟩ 0) (OH os ((os.drop c.heard.toNat).foldl stepH ⟨c, l, 0⟩))) false Tryd.func64 (by kernel_rfl) (by kernel_rfl) (by kernel_rfl) (by kernel_rfl) (by simp) rfl (oneLoop (b := lpH) (by kernel_rfl) (loopH hos ht (by omega) (⟨c, l, 0⟩, 0) ⟨by show c.heard.toNat + 0 ≤ _; omega, hl, rfl⟩)) <| Meets.of (runH c l os c.heard.toNat ((os.drop c.heard.toNat).foldl stepH ⟨c, l, 0⟩)) <| ?_
    repeat' (first | refine wC (by first | omega | (simp only [W1, cond_true, cond_false]; first | done | omega)) ?_ | refine wT (by first | omega | (simp only [W1, cond_true, cond_false]; first | done | omega)) ?_ | refine wF (by intro _h; first | omega | (simp only [W1, cond_true, cond_false] at _h; first | done | omega)) ?_ | (refine wS ?_ ?_ <;> intro _h <;> simp only [W1, cond_true, cond_false] at _h))
    all_goals simp only [W1, W2, owesN, owesX, owesR, cond_true, cond_false]
    repeat' (first | apply And.intro | intro _hc)
    all_goals first | exact AV.le_refl _ | exact AV.le_any _ | exact OLe.refl _ | exact OLe.none _ | exact LeH.refl _ | exact LeL.refl _ | exact AV.le.bs _ | exact AV.le.sb _ | omega | contradiction
end Go.Eng.TA.C

namespace Go.Eng.TA.C
open Go Go.Eng Go.Eng.M Go.Lib Go.Proofs
def tz : Tx := ⟨0, ⟨#[]⟩, ⟨#[]⟩, ⟨#[]⟩, ⟨#[]⟩, 0, 0⟩
def ownT (c : Cs) (l : List Pc) (t : Tx) : Tx := ⟨t.k, c.who, t.to, t.ky, t.vl, t.am, (l.length : Int) + 1⟩
theorem runG (c : Cs) (l : List Pc) (t : Tx) : bodyE (P := Tryd.prog) (Γ := Γm) [kTx] Lno false 65 [.cell 4 40, .tmp 5] (bodyOf Tryd.f62) [.ptr 0 0, txV t] (c.bl l) =
  Tree.br (decide (c.most ≤ c.wt)) (Tree.leaf (Ans.mk (AV.tup [AV.agg [AV.v (Value.int IntKind.i64 (0 : Int)), AV.v (Value.string (ByteArray.mk #[])), AV.v (Value.string (ByteArray.mk #[])),
    AV.v (Value.string (ByteArray.mk #[])), AV.v (Value.string (ByteArray.mk #[])), AV.v (Value.int IntKind.i64 (0 : Int)), AV.v (Value.int IntKind.i64 (0 : Int))], AV.v (Value.int
    IntKind.i64 (101 : Int))]) [some (Blk.row [AV.v (Value.string c.who), AV.v (Value.int IntKind.i64 c.most), AV.hs (1 : Nat) (0 : Nat) (List.length l), AV.v (Value.int IntKind.i64 c.now),
    AV.v (Value.int IntKind.i64 c.heard), AV.v (Value.int IntKind.i64 c.wt), AV.v (Value.int IntKind.i64 c.en), AV.v (Value.int IntKind.i64 c.go)]), some (Blk.arr (10 : Nat) (List.length l)
    (lsF Pc.c l))])) (Tree.chk (cl (smallT (Tx.mk t.k c.who t.to t.ky t.vl t.am (IntKind.wrap IntKind.i64 ((↑(List.length l) : Int) + (1 : Int)))) ∧ LeL [AV.agg [AV.v (Value.int IntKind.i64
    t.k), AV.v (Value.string c.who), AV.v (Value.string t.to), AV.v (Value.string t.ky), AV.v (Value.string t.vl), AV.v (Value.int IntKind.i64 t.am), AV.v (Value.int IntKind.i64
    (IntKind.wrap IntKind.i64 ((↑(List.length l) : Int) + (1 : Int))))]] [AV.agg [AV.v (Value.int IntKind.i64 t.k), AV.v (Value.string c.who), AV.v (Value.string t.to), AV.v (Value.string
    t.ky), AV.v (Value.string t.vl), AV.v (Value.int IntKind.i64 t.am), AV.v (Value.int IntKind.i64 (IntKind.wrap IntKind.i64 ((↑(List.length l) : Int) + (1 : Int))))]] ∧ LeH [] []))
    (Tree.br (!decide (erT (txB (Tx.mk t.k c.who t.to t.ky t.vl t.am (IntKind.wrap IntKind.i64 ((↑(List.length l) : Int) + (1 : Int))))) = (0 : Int))) (Tree.leaf (Ans.mk (AV.tup [AV.agg
    [AV.v (Value.int IntKind.i64 (0 : Int)), AV.v (Value.string (ByteArray.mk #[])), AV.v (Value.string (ByteArray.mk #[])), AV.v (Value.string (ByteArray.mk #[])), AV.v (Value.string
    (ByteArray.mk #[])), AV.v (Value.int IntKind.i64 (0 : Int)), AV.v (Value.int IntKind.i64 (0 : Int))], AV.v (Value.int IntKind.i64 (erT (txB (Tx.mk t.k c.who t.to t.ky t.vl t.am
    (IntKind.wrap IntKind.i64 ((↑(List.length l) : Int) + (1 : Int)))))))]) [some (Blk.row [AV.v (Value.string c.who), AV.v (Value.int IntKind.i64 c.most), AV.hs (1 : Nat) (0 : Nat)
    (List.length l), AV.v (Value.int IntKind.i64 c.now), AV.v (Value.int IntKind.i64 c.heard), AV.v (Value.int IntKind.i64 c.wt), AV.v (Value.int IntKind.i64 c.en), AV.v (Value.int
    IntKind.i64 c.go)]), some (Blk.arr (10 : Nat) (List.length l) (lsF Pc.c l))])) (Tree.chk (roomOk (112 : Nat) (List.length l + (1 : Nat))) (Tree.leaf (Ans.mk (AV.tup [AV.agg [AV.v
    (Value.int IntKind.i64 t.k), AV.v (Value.string c.who), AV.v (Value.string t.to), AV.v (Value.string t.ky), AV.v (Value.string t.vl), AV.v (Value.int IntKind.i64 t.am), AV.v (Value.int
    IntKind.i64 (IntKind.wrap IntKind.i64 ((↑(List.length l) : Int) + (1 : Int))))], AV.v (Value.int IntKind.i64 (0 : Int))]) [some (Blk.row [AV.v (Value.string c.who), AV.v (Value.int
    IntKind.i64 c.most), AV.hs (2 : Nat) (0 : Nat) (List.length l + (1 : Nat)), AV.v (Value.int IntKind.i64 c.now), AV.v (Value.int IntKind.i64 c.heard), AV.v (Value.int IntKind.i64
    (IntKind.wrap IntKind.i64 (c.wt + (1 : Int)))), AV.v (Value.int IntKind.i64 c.en), AV.v (Value.int IntKind.i64 c.go)]), none, some (Blk.arr (10 : Nat) (List.length l + (1 : Nat)) fun j
    => mixL (decide (j < List.length l)) (lsF Pc.c l ((0 : Nat) + j)) (chain [AV.v (Value.int IntKind.i64 (0 : Int)), AV.v (Value.string (ByteArray.mk #[])), AV.v (Value.string (ByteArray.mk
    #[])), AV.v (Value.string (ByteArray.mk #[])), AV.v (Value.string (ByteArray.mk #[])), AV.v (Value.int IntKind.i64 (0 : Int)), AV.v (Value.int IntKind.i64 (0 : Int)), AV.v (Value.int
    IntKind.i64 (0 : Int)), AV.v (Value.int IntKind.i64 (0 : Int)), AV.v (Value.int IntKind.i64 (0 : Int))] (0 : Nat) [[AV.v (Value.int IntKind.i64 t.k), AV.v (Value.string c.who), AV.v
    (Value.string t.to), AV.v (Value.string t.ky), AV.v (Value.string t.vl), AV.v (Value.int IntKind.i64 t.am), AV.v (Value.int IntKind.i64 (IntKind.wrap IntKind.i64 ((↑(List.length l) :
    Int) + (1 : Int)))), AV.v (Value.int IntKind.i64 (0 : Int)), AV.v (Value.int IntKind.i64 (IntKind.wrap IntKind.i64 (c.now + (1 : Int)))), AV.v (Value.int IntKind.i64 (2 : Int))]] ((0 :
    Nat) + (j - List.length l))))]))))) := by kernel_rfl
theorem room112 {n : Nat} (h : n ≤ 10000000) : roomOk 112 n = true := by
  unfold roomOk
  exact decide_eq_true (by omega)
def Cs.rowJ (c : Cs) (j n : Nat) : Blk := .row [.v (.string c.who), .v (.int .i64 c.most), .hs j 0 n, .v (.int .i64 c.now), .v (.int .i64 c.heard), .v (.int .i64 c.wt), .v (.int .i64 c.en), .v (.int .i64 c.go)]
def okG (c : Cs) (l : List Pc) (t : Tx) : Bool := decide (c.wt < c.most) && txB (ownT c l t)
def addL (c : Cs) (l : List Pc) (t : Tx) : List Pc := l ++ [⟨ownT c l t, 0, c.now + 1, 2⟩]
def upW (c : Cs) : Cs := { c with wt := w64 (c.wt + 1) }
theorem ansG1 {c : Cs} {l : List Pc} {t : Tx} (hl : l.length ≤ 100000) (hs : smallT t) (hw : c.who.size ≤ 10000000) (hn : 0 ≤ c.now ∧ c.now ≤ 1000000) (hg : okG c l t = true) :
    Answers Tryd.prog Γm 62 [.ptr 0 0, txV t] (c.bl l) (.tup [txV (ownT c l t), .v (.int .i64 0)]) [some ((upW c).rowJ 2 (addL c l t).length), none] [lsP (addL c l t)] := by
  refine answers (fn := Tryd.f62) (c := bodyOf Tryd.f62) (ntmps := 65) (results := [.cell 4 40, .tmp 5]) [kTx] (Lno) false Tryd.func62 (by kernel_rfl) (by kernel_rfl) (by kernel_rfl) (by kernel_rfl) (by simp) rfl (failOK fun _ _ _ => rfl) <| Meets.of (runG c l t) <| ?_
  have e1 : IntKind.i64.wrap ((l.length : Int) + 1) = (l.length : Int) + 1 := wrap64 (by omega) (by omega)
  have e2 : IntKind.i64.wrap (c.now + 1) = c.now + 1 := wrap64 (by omega) (by omega)
  have hW : IntKind.i64.wrap (c.wt + 1) = w64 (c.wt + 1) := rfl
  have hx : Tx.mk t.k c.who t.to t.ky t.vl t.am ((l.length : Int) + 1) = ownT c l t := rfl
  have hsm : smallT (ownT c l t) := ⟨hw, hs.2.1, hs.2.2.1, hs.2.2.2⟩
  have et : erT true = 0 := rfl
  have ef : erT false = 80 := rfl
  simp only [e1, e2, hW, hx]
  unfold okG at hg
  simp only [Bool.and_eq_true, decide_eq_true_eq] at hg
  obtain ⟨h, hb⟩ := hg
  have hz : (addL c l t).length = l.length + 1 := by unfold addL; rw [List.length_append]; rfl
  have hO : OLe _ (some (lsP (addL c l t))) := Pc.cod.app0 l ⟨ownT c l t, 0, c.now + 1, 2⟩ default rfl (N := l.length + 1) rfl
  have hr := room112 (n := l.length + 1) (by omega)
  repeat' (first | refine wC (by first | omega | (simp only [W1, cond_true, cond_false, hsm, hb, et]; first | done | omega)) ?_ | refine wT (by first | omega | (simp only [W1, cond_true, cond_false, hsm, hb, et]; first | done | omega)) ?_ | refine wF (by intro _h; first | omega | (simp only [W1, cond_true, cond_false, hsm, hb, et] at _h; first | done | omega)) ?_ | (refine wS ?_ ?_ <;> intro _h <;> simp only [W1, cond_true, cond_false, hsm, hb, et] at _h))
  all_goals simp only [W1, W2, owesN, owesX, owesR, cond_true, cond_false, hsm, hb, et]
  repeat' (first | apply And.intro | intro _hc)
  all_goals first | exact hr | exact tup2 (.refl _) (leI rfl) | exact hO | ((unfold Cs.rowJ upW; rw [hz]; exact .refl _)) | exact ⟨hO, trivial⟩ | exact AV.le_refl _ | exact AV.le_any _ | exact OLe.refl _ | exact OLe.none _ | exact LeH.refl _ | exact LeL.refl _ | exact AV.le.bs _ | exact AV.le.sb _ | omega | contradiction
theorem ansG0 {c : Cs} {l : List Pc} {t : Tx} (hl : l.length ≤ 100000) (hs : smallT t) (hw : c.who.size ≤ 10000000) (hn : 0 ≤ c.now ∧ c.now ≤ 1000000) (hg : okG c l t = false) :
    Answers Tryd.prog Γm 62 [.ptr 0 0, txV t] (c.bl l) (.tup [txV tz, .v (.int .i64 (if c.most ≤ c.wt then 101 else 80))]) ((c.bl l).map some) [] := by
  refine answers (fn := Tryd.f62) (c := bodyOf Tryd.f62) (ntmps := 65) (results := [.cell 4 40, .tmp 5]) [kTx] (Lno) false Tryd.func62 (by kernel_rfl) (by kernel_rfl) (by kernel_rfl) (by kernel_rfl) (by simp) rfl (failOK fun _ _ _ => rfl) <| Meets.of (runG c l t) <| ?_
  have e1 : IntKind.i64.wrap ((l.length : Int) + 1) = (l.length : Int) + 1 := wrap64 (by omega) (by omega)
  have e2 : IntKind.i64.wrap (c.now + 1) = c.now + 1 := wrap64 (by omega) (by omega)
  have hW : IntKind.i64.wrap (c.wt + 1) = w64 (c.wt + 1) := rfl
  have hx : Tx.mk t.k c.who t.to t.ky t.vl t.am ((l.length : Int) + 1) = ownT c l t := rfl
  have hsm : smallT (ownT c l t) := ⟨hw, hs.2.1, hs.2.2.1, hs.2.2.2⟩
  have et : erT true = 0 := rfl
  have ef : erT false = 80 := rfl
  simp only [e1, e2, hW, hx]
  by_cases h : c.most ≤ c.wt
  · rw [if_pos h]
    repeat' (first | refine wC (by first | omega | (simp only [W1, cond_true, cond_false]; first | done | omega)) ?_ | refine wT (by first | omega | (simp only [W1, cond_true, cond_false]; first | done | omega)) ?_ | refine wF (by intro _h; first | omega | (simp only [W1, cond_true, cond_false] at _h; first | done | omega)) ?_ | (refine wS ?_ ?_ <;> intro _h <;> simp only [W1, cond_true, cond_false] at _h))
    all_goals simp only [W1, W2, owesN, owesX, owesR, cond_true, cond_false]
    repeat' (first | apply And.intro | intro _hc)
    all_goals first | exact tup2 (.refl _) (leI rfl) | exact AV.le_refl _ | exact AV.le_any _ | exact OLe.refl _ | exact OLe.none _ | exact LeH.refl _ | exact LeL.refl _ | exact AV.le.bs _ | exact AV.le.sb _ | omega | contradiction
  · have hb : txB (ownT c l t) = false := by
      unfold okG at hg
      rw [decide_eq_true (by omega), Bool.true_and] at hg
      exact hg
    rw [if_neg h]
    repeat' (first | refine wC (by first | omega | (simp only [W1, cond_true, cond_false, hsm, hb, ef]; first | done | omega)) ?_ | refine wT (by first | omega | (simp only [W1, cond_true, cond_false, hsm, hb, ef]; first | done | omega)) ?_ | refine wF (by intro _h; first | omega | (simp only [W1, cond_true, cond_false, hsm, hb, ef] at _h; first | done | omega)) ?_ | (refine wS ?_ ?_ <;> intro _h <;> simp only [W1, cond_true, cond_false, hsm, hb, ef] at _h))
    all_goals simp only [W1, W2, owesN, owesX, owesR, cond_true, cond_false, hsm, hb, ef]
    repeat' (first | apply And.intro | intro _hc)
    all_goals first | exact tup2 (.refl _) (leI rfl) | exact AV.le_refl _ | exact AV.le_any _ | exact OLe.refl _ | exact OLe.none _ | exact LeH.refl _ | exact LeL.refl _ | exact AV.le.bs _ | exact AV.le.sb _ | omega | contradiction
def newC (who : ByteArray) (most : Int) : Blk := .row [.v (.string who), .v (.int .i64 most), .v (.slice none 0 0), .v (.int .i64 0), .v (.int .i64 0), .v (.int .i64 0), .v (.int .i64 0), .v (.int .i64 0)]
theorem runN (who : ByteArray) (most : Int) : bodyE (P := Tryd.prog) (Γ := Γm) [kChk] Lno false 21 [.tmp 4, .tmp 5] (bodyOf Tryd.f61) [.v (.string who), .v (.int .i64 most)] [] =
  Tree.chk (cl (ByteArray.size who ≤ (1000000000 : Nat) ∧ LeL [AV.v (Value.string who)] [AV.v (Value.string who)] ∧ LeH [] [])) (Tree.br (!decide (erN (nameB who) = (0 : Int))) (Tree.leaf
    (Ans.mk (AV.tup [AV.v (Value.pointer none), AV.v (Value.int IntKind.i64 (20 : Int))]) [])) (Tree.br (bif decide (most < (1 : Int)) then true else decide ((64 : Int) < most)) (Tree.leaf
    (Ans.mk (AV.tup [AV.v (Value.pointer none), AV.v (Value.int IntKind.i64 (1 : Int))]) [])) (Tree.leaf (Ans.mk (AV.tup [AV.ptr (0 : Nat) (0 : Nat), AV.v (Value.int IntKind.i64 (0 : Int))])
    [some (Blk.row [AV.v (Value.string who), AV.v (Value.int IntKind.i64 most), AV.v (Value.slice none (0 : Nat) (0 : Nat)), AV.v (Value.int IntKind.i64 (0 : Int)), AV.v (Value.int
    IntKind.i64 (0 : Int)), AV.v (Value.int IntKind.i64 (0 : Int)), AV.v (Value.int IntKind.i64 (0 : Int)), AV.v (Value.int IntKind.i64 (0 : Int))])])))) := by kernel_rfl
theorem ansN {who : ByteArray} {most : Int} (hw : who.size ≤ 10000000) (hb : nameB who = true) (h1 : 1 ≤ most) (h2 : most ≤ 64) : Answers Tryd.prog Γm 61 [.v (.string who), .v (.int .i64 most)] [] (.tup [.ptr 0 0, .v (.int .i64 0)]) [] [newC who most] := by
  refine answers (fn := Tryd.f61) (c := bodyOf Tryd.f61) (ntmps := 21) (results := [.tmp 4, .tmp 5]) [kChk] (Lno) false Tryd.func61 (by kernel_rfl) (by kernel_rfl) (by kernel_rfl) (by kernel_rfl) (by simp) rfl (failOK fun _ _ _ => rfl) <| Meets.of (runN who most) <| ?_
  have en : erN true = 0 := rfl
  repeat' (first | refine wC (by first | omega | (simp only [W1, cond_true, cond_false, hb, en, clS hw]; first | done | omega)) ?_ | refine wT (by first | omega | (simp only [W1, cond_true, cond_false, hb, en, clS hw]; first | done | omega)) ?_ | refine wF (by intro _h; first | omega | (simp only [W1, cond_true, cond_false, hb, en, clS hw] at _h; first | done | omega)) ?_ | (refine wS ?_ ?_ <;> intro _h <;> simp only [W1, cond_true, cond_false, hb, en, clS hw] at _h))
  all_goals simp only [W1, W2, owesN, owesX, owesR, cond_true, cond_false, hb, en, clS hw]
  repeat' (first | apply And.intro | intro _hc)
  all_goals first | exact tup2 (.refl _) (leI rfl) | exact AV.le_refl _ | exact AV.le_any _ | exact OLe.refl _ | exact OLe.none _ | exact LeH.refl _ | exact LeL.refl _ | exact AV.le.bs _ | exact AV.le.sb _ | omega | contradiction
theorem ansN0 {who : ByteArray} {most : Int} (hw : who.size ≤ 10000000) (hb : nameB who = false) : Answers Tryd.prog Γm 61 [.v (.string who), .v (.int .i64 most)] [] (.tup [.v (.pointer none), .v (.int .i64 20)]) [] [] := by
  refine answers (fn := Tryd.f61) (c := bodyOf Tryd.f61) (ntmps := 21) (results := [.tmp 4, .tmp 5]) [kChk] (Lno) false Tryd.func61 (by kernel_rfl) (by kernel_rfl) (by kernel_rfl) (by kernel_rfl) (by simp) rfl (failOK fun _ _ _ => rfl) <| Meets.of (runN who most) <| ?_
  have en : erN false = 20 := rfl
  repeat' (first | refine wC (by first | omega | (simp only [W1, cond_true, cond_false, hb, en, clS hw]; first | done | omega)) ?_ | refine wT (by first | omega | (simp only [W1, cond_true, cond_false, hb, en, clS hw]; first | done | omega)) ?_ | refine wF (by intro _h; first | omega | (simp only [W1, cond_true, cond_false, hb, en, clS hw] at _h; first | done | omega)) ?_ | (refine wS ?_ ?_ <;> intro _h <;> simp only [W1, cond_true, cond_false, hb, en, clS hw] at _h))
  all_goals simp only [W1, W2, owesN, owesX, owesR, cond_true, cond_false, hb, en, clS hw]
  repeat' (first | apply And.intro | intro _hc)
  all_goals first | exact tup2 (.refl _) (leI rfl) | exact AV.le_refl _ | exact AV.le_any _ | exact OLe.refl _ | exact OLe.none _ | exact LeH.refl _ | exact LeL.refl _ | exact AV.le.bs _ | exact AV.le.sb _ | omega | contradiction
theorem ansN1 {who : ByteArray} {most : Int} (hw : who.size ≤ 10000000) (hb : nameB who = true) (h1 : most < 1 ∨ 64 < most) : Answers Tryd.prog Γm 61 [.v (.string who), .v (.int .i64 most)] [] (.tup [.v (.pointer none), .v (.int .i64 1)]) [] [] := by
  refine answers (fn := Tryd.f61) (c := bodyOf Tryd.f61) (ntmps := 21) (results := [.tmp 4, .tmp 5]) [kChk] (Lno) false Tryd.func61 (by kernel_rfl) (by kernel_rfl) (by kernel_rfl) (by kernel_rfl) (by simp) rfl (failOK fun _ _ _ => rfl) <| Meets.of (runN who most) <| ?_
  have en : erN true = 0 := rfl
  repeat' (first | refine wC (by first | omega | (simp only [W1, cond_true, cond_false, hb, en, clS hw]; first | done | omega)) ?_ | refine wT (by first | omega | (simp only [W1, cond_true, cond_false, hb, en, clS hw]; first | done | omega)) ?_ | refine wF (by intro _h; first | omega | (simp only [W1, cond_true, cond_false, hb, en, clS hw] at _h; first | done | omega)) ?_ | (refine wS ?_ ?_ <;> intro _h <;> simp only [W1, cond_true, cond_false, hb, en, clS hw] at _h))
  all_goals simp only [W1, W2, owesN, owesX, owesR, cond_true, cond_false, hb, en, clS hw]
  repeat' (first | apply And.intro | intro _hc)
  all_goals first | exact tup2 (.refl _) (leI rfl) | exact AV.le_refl _ | exact AV.le_any _ | exact OLe.refl _ | exact OLe.none _ | exact LeH.refl _ | exact LeL.refl _ | exact AV.le.bs _ | exact AV.le.sb _ | omega | contradiction
end Go.Eng.TA.C

namespace Go.Eng.TA.C
open Go Go.Eng Go.Eng.M Go.Lib Go.Proofs
structure Ac where
  k : Int
  tx : Tx
  os : List Oc
instance : Inhabited Ac := ⟨⟨0, default, []⟩⟩
def Ac.c (a : Ac) : List AV := [.v (.int .i64 a.k), .v (.int .i64 a.tx.k), .v (.string a.tx.fr), .v (.string a.tx.to), .v (.string a.tx.ky), .v (.string a.tx.vl), .v (.int .i64 a.tx.am), .v (.int .i64 a.tx.nn), .sl 10 a.os.length (lsF Oc.c a.os)]
abbrev slA (l : List Ac) : AV := .sl 9 l.length (lsF Ac.c l)
noncomputable abbrev lpF : Code := loopOf (bodyOf Tryd.f60) 0
noncomputable abbrev lpF' : Code := loopOf (bodyOf Tryd.f60) 1
abbrev lvF : List Nat := [0, 3, 2]
abbrev lvF' : List Nat := [0, 3, 4, 2]
def SF (l : List Ac) (i : Nat) : List AV × Heap := ([slA l, .v (.int .i64 (i : Int)), .v (.bool false)], [])
def SF' (l : List Ac) (i k : Nat) : List AV × Heap := ([slA l, .v (.int .i64 (i : Int)), .v (.int .i64 (k : Int)), .v (.bool false)], [])
def grO (os : List Oc) : Bool := os.any fun o => grT o.tx
def grA (a : Ac) : Bool := grT a.tx || (decide (30 < a.os.length) || grO a.os)
def farB (l : List Ac) : Bool := decide (60 < l.length) || l.any grA
def OF (b : Bool) : Out := match b with
  | true => ⟨.ret, [.any, .any, .v (.bool true)], []⟩
  | false => ⟨.exit 0, [.any, .any, .any], []⟩
def OF' (l : List Ac) (i : Nat) (b : Bool) : Out := match b with
  | true => ⟨.ret, [.any, .any, .any, .v (.bool true)], []⟩
  | false => ⟨.exit 2, [slA l, .v (.int .i64 (i : Int)), .any, .v (.bool false)], []⟩
def toTx : List AV → List Blk → Option Tx
  | [.agg [.v (.int .i64 k), .v (.string f), .v (.string t), .v (.string y), .v (.string v), .v (.int .i64 a), .v (.int .i64 n)]], [] => some ⟨k, f, t, y, v, a, n⟩
  | _, _ => none
theorem toTx_inv {args : List AV} {Hin : List Blk} {x : Tx} (h : toTx args Hin = some x) : args = [txV x] ∧ Hin = [] := by
  unfold toTx at h
  split at h
  · cases h; exact ⟨rfl, rfl⟩
  · cases h
noncomputable def hGr : CT Tryd.prog Γm := CT.ex 29 toTx (fun _ => True) (fun x => .sb (grT x)) (fun _ => []) (fun _ => [])
  (callFunc_enters Tryd.func29 (by kernel_rfl) (by kernel_rfl)) (fun args Hin x hx hp => by
    obtain ⟨rfl, rfl⟩ := toTx_inv hx
    exact ansGr.cU rfl)
theorem rF' (l : List Ac) (i k : Nat) : roundE (P := Tryd.prog) (Γ := Γm) [hGr] Lno false 0 0 lpF' lvF' [] 49 (SF' l i k).1 (SF' l i k).2 =
  Tree.chk (decide ((0 : Int) ≤ (↑i : Int)) && decide ((↑i : Int) < (↑(List.length l) : Int))) (Tree.br (decide ((↑k : Int) < (↑(List.length (List.getD l (Int.toNat (↑i : Int)) default).os) :
    Int))) (Tree.chk (decide ((0 : Int) ≤ (↑i : Int)) && decide ((↑i : Int) < (↑(List.length l) : Int)) && (decide ((0 : Int) ≤ (↑k : Int)) && decide ((↑k : Int) < (↑(List.length (List.getD
    l (Int.toNat (↑i : Int)) default).os) : Int)) && cl True)) (Tree.br (grT (Tx.mk (List.getD (List.getD l (Int.toNat (↑i : Int)) default).os k default).tx.k (List.getD (List.getD l
    (Int.toNat (↑i : Int)) default).os k default).tx.fr (List.getD (List.getD l (Int.toNat (↑i : Int)) default).os k default).tx.to (List.getD (List.getD l (Int.toNat (↑i : Int)) default).os
    k default).tx.ky (List.getD (List.getD l (Int.toNat (↑i : Int)) default).os k default).tx.vl (List.getD (List.getD l (Int.toNat (↑i : Int)) default).os k default).tx.am (List.getD
    (List.getD l (Int.toNat (↑i : Int)) default).os k default).tx.nn)) (Tree.leaf (Out.mk AEx.ret [AV.sl (9 : Nat) (List.length l) (lsF Ac.c l), AV.v (Value.int IntKind.i64 (↑i : Int)), AV.v
    (Value.int IntKind.i64 (↑k : Int)), AV.v (Value.bool true)] [])) (Tree.leaf (Out.mk AEx.normal [AV.sl (9 : Nat) (List.length l) (lsF Ac.c l), AV.v (Value.int IntKind.i64 (↑i : Int)),
    AV.v (Value.int IntKind.i64 (IntKind.wrap IntKind.i64 ((↑k : Int) + (1 : Int)))), AV.v (Value.bool false)] [])))) (Tree.leaf (Out.mk (AEx.exit (2 : Nat)) [AV.sl (9 : Nat) (List.length l)
    (lsF Ac.c l), AV.v (Value.int IntKind.i64 (↑i : Int)), AV.v (Value.int IntKind.i64 (↑k : Int)), AV.v (Value.bool false)] []))) := by kernel_rfl
theorem rF0 (l : List Ac) (i : Nat) : roundE (P := Tryd.prog) (Γ := Γm) [hGr] Lno false 0 0 lpF lvF [] 49 (SF l i).1 (SF l i).2 =
  Tree.br (decide ((↑i : Int) < (↑(List.length l) : Int))) (Tree.chk (decide ((0 : Int) ≤ (↑i : Int)) && decide ((↑i : Int) < (↑(List.length l) : Int)) && (cl True && bif grT (Tx.mk (List.getD
    l i default).tx.k (List.getD l i default).tx.fr (List.getD l i default).tx.to (List.getD l i default).tx.ky (List.getD l i default).tx.vl (List.getD l i default).tx.am (List.getD l i
    default).tx.nn) then true else decide ((0 : Int) ≤ (↑i : Int)) && decide ((↑i : Int) < (↑(List.length l) : Int)))) (Tree.br (bif grT (Tx.mk (List.getD l i default).tx.k (List.getD l i
    default).tx.fr (List.getD l i default).tx.to (List.getD l i default).tx.ky (List.getD l i default).tx.vl (List.getD l i default).tx.am (List.getD l i default).tx.nn) then true else
    decide ((30 : Int) < (↑(List.length (List.getD l (Int.toNat (↑i : Int)) default).os) : Int))) (Tree.leaf (Out.mk AEx.ret [AV.sl (9 : Nat) (List.length l) (lsF Ac.c l), AV.v (Value.int
    IntKind.i64 (↑i : Int)), AV.v (Value.bool true)] [])) Tree.fail)) (Tree.leaf (Out.mk (AEx.exit (0 : Nat)) [AV.sl (9 : Nat) (List.length l) (lsF Ac.c l), AV.v (Value.int IntKind.i64 (↑i :
    Int)), AV.v (Value.bool false)] [])) := by kernel_rfl
theorem rF (l : List Ac) (i : Nat) : roundE (P := Tryd.prog) (Γ := Γm) [hGr] (fun _ => LSpec.at lvF' [] (SF' l i 0) (OF' l i true)) false 0 0 lpF lvF [] 49 (SF l i).1 (SF l i).2 =
  Tree.br (decide ((↑i : Int) < (↑(List.length l) : Int))) (Tree.chk (decide ((0 : Int) ≤ (↑i : Int)) && decide ((↑i : Int) < (↑(List.length l) : Int)) && (cl True && bif grT (Tx.mk (List.getD
    l i default).tx.k (List.getD l i default).tx.fr (List.getD l i default).tx.to (List.getD l i default).tx.ky (List.getD l i default).tx.vl (List.getD l i default).tx.am (List.getD l i
    default).tx.nn) then true else decide ((0 : Int) ≤ (↑i : Int)) && decide ((↑i : Int) < (↑(List.length l) : Int)))) (Tree.br (bif grT (Tx.mk (List.getD l i default).tx.k (List.getD l i
    default).tx.fr (List.getD l i default).tx.to (List.getD l i default).tx.ky (List.getD l i default).tx.vl (List.getD l i default).tx.am (List.getD l i default).tx.nn) then true else
    decide ((30 : Int) < (↑(List.length (List.getD l (Int.toNat (↑i : Int)) default).os) : Int))) (Tree.leaf (Out.mk AEx.ret [AV.sl (9 : Nat) (List.length l) (lsF Ac.c l), AV.v (Value.int
    IntKind.i64 (↑i : Int)), AV.v (Value.bool true)] [])) (Tree.chk (cl (LeL [AV.sl (9 : Nat) (List.length l) (lsF Ac.c l), AV.v (Value.int IntKind.i64 (↑i : Int)), AV.v (Value.int
    IntKind.i64 (0 : Int)), AV.v (Value.bool false)] [AV.sl (9 : Nat) (List.length l) (lsF Ac.c l), AV.v (Value.int IntKind.i64 (↑i : Int)), AV.v (Value.int IntKind.i64 (↑(0 : Nat) : Int)),
    AV.v (Value.bool false)] ∧ LeH [] [])) (Tree.leaf (Out.mk AEx.ret [AV.any, AV.any, AV.v (Value.bool true)] []))))) (Tree.leaf (Out.mk (AEx.exit (0 : Nat)) [AV.sl (9 : Nat) (List.length
    l) (lsF Ac.c l), AV.v (Value.int IntKind.i64 (↑i : Int)), AV.v (Value.bool false)] [])) := by kernel_rfl
theorem rFf (l : List Ac) (i : Nat) : roundE (P := Tryd.prog) (Γ := Γm) [hGr] (fun _ => LSpec.at lvF' [] (SF' l i 0) (OF' l i false)) false 0 0 lpF lvF [] 49 (SF l i).1 (SF l i).2 =
  Tree.br (decide ((↑i : Int) < (↑(List.length l) : Int))) (Tree.chk (decide ((0 : Int) ≤ (↑i : Int)) && decide ((↑i : Int) < (↑(List.length l) : Int)) && (cl True && bif grT (Tx.mk (List.getD
    l i default).tx.k (List.getD l i default).tx.fr (List.getD l i default).tx.to (List.getD l i default).tx.ky (List.getD l i default).tx.vl (List.getD l i default).tx.am (List.getD l i
    default).tx.nn) then true else decide ((0 : Int) ≤ (↑i : Int)) && decide ((↑i : Int) < (↑(List.length l) : Int)))) (Tree.br (bif grT (Tx.mk (List.getD l i default).tx.k (List.getD l i
    default).tx.fr (List.getD l i default).tx.to (List.getD l i default).tx.ky (List.getD l i default).tx.vl (List.getD l i default).tx.am (List.getD l i default).tx.nn) then true else
    decide ((30 : Int) < (↑(List.length (List.getD l (Int.toNat (↑i : Int)) default).os) : Int))) (Tree.leaf (Out.mk AEx.ret [AV.sl (9 : Nat) (List.length l) (lsF Ac.c l), AV.v (Value.int
    IntKind.i64 (↑i : Int)), AV.v (Value.bool true)] [])) (Tree.chk (cl (LeL [AV.sl (9 : Nat) (List.length l) (lsF Ac.c l), AV.v (Value.int IntKind.i64 (↑i : Int)), AV.v (Value.int
    IntKind.i64 (0 : Int)), AV.v (Value.bool false)] [AV.sl (9 : Nat) (List.length l) (lsF Ac.c l), AV.v (Value.int IntKind.i64 (↑i : Int)), AV.v (Value.int IntKind.i64 (↑(0 : Nat) : Int)),
    AV.v (Value.bool false)] ∧ LeH [] [])) (Tree.leaf (Out.mk AEx.normal [AV.sl (9 : Nat) (List.length l) (lsF Ac.c l), AV.v (Value.int IntKind.i64 (IntKind.wrap IntKind.i64 ((↑i : Int) + (1
    : Int)))), AV.v (Value.bool false)] []))))) (Tree.leaf (Out.mk (AEx.exit (0 : Nat)) [AV.sl (9 : Nat) (List.length l) (lsF Ac.c l), AV.v (Value.int IntKind.i64 (↑i : Int)), AV.v
    (Value.bool false)] [])) := by kernel_rfl
theorem any_drop {α : Type} [Inhabited α] {p : α → Bool} {l : List α} {i : Nat} (h : i < l.length) : (l.drop i).any p = (p (l.getD i default) || (l.drop (i + 1)).any p) := by
  rw [List.drop_eq_getElem_cons h, getD_get h, List.any_cons]
theorem loopF' {l : List Ac} {i : Nat} {b : Bool} (hl : l.length ≤ 100000) (hi : i < l.length) (hos : (l.getD i default).os.length ≤ 100000) : ∀ k : Nat, (k ≤ (l.getD i default).os.length ∧ ((l.getD i default).os.drop k).any (fun o => grT o.tx) = b) → LoopOK Tryd.prog Γm 0 49 lpF' (LSpec.at lvF' [] (SF' l i k) (OF' l i b)) := by
  refine loop_at (S := SF' l i) (pre := fun k => k ≤ (l.getD i default).os.length ∧ ((l.getD i default).os.drop k).any (fun o => grT o.tx) = b) (O := fun _ => OF' l i b) (k := 0) (fun k => (l.getD i default).os.length - k) fun k hk => .of (noLoops (by kernel_rfl)) (rF' l i k) ?_
  obtain ⟨h1, h2⟩ := hk
  have hc : cl True = true := cl_iff.2 trivial
  have hx : ∀ t : Tx, Tx.mk t.k t.fr t.to t.ky t.vl t.am t.nn = t := fun _ => rfl
  simp only [Int.toNat_natCast, hc, hx, Bool.and_true]
  rcases Nat.lt_or_ge k (l.getD i default).os.length with hk | hk
  · have e1 : IntKind.i64.wrap ((k : Int) + 1) = ((k + 1 : Nat) : Int) := wrapUpN (by omega)
    rw [any_drop hk] at h2
    simp only [e1]
    cases hg : grT ((l.getD i default).os.getD k default).tx with
    | true =>
      rw [hg, Bool.true_or] at h2
      subst h2
      unfold OF'
      repeat' (first | refine wC (by first | omega | (simp only [W1, cond_true, cond_false, hg]; first | done | omega)) ?_ | refine wT (by first | omega | (simp only [W1, cond_true, cond_false, hg]; first | done | omega)) ?_ | refine wF (by intro _h; first | omega | (simp only [W1, cond_true, cond_false, hg] at _h; first | done | omega)) ?_ | (refine wS ?_ ?_ <;> intro _h <;> simp only [W1, cond_true, cond_false, hg] at _h))
      all_goals simp only [W1, W2, owesN, owesX, owesR, cond_true, cond_false, hg]
      repeat' (first | apply And.intro | intro _hc)
      all_goals first | exact rfl | exact ⟨.any _, .any _, .any _, .refl _, trivial⟩ | exact AV.le_refl _ | exact AV.le_any _ | exact OLe.refl _ | exact OLe.none _ | exact LeH.refl _ | exact LeL.refl _ | exact AV.le.bs _ | exact AV.le.sb _ | omega | contradiction
    | false =>
      rw [hg, Bool.false_or] at h2
      repeat' (first | refine wC (by first | omega | (simp only [W1, cond_true, cond_false, hg]; first | done | omega)) ?_ | refine wT (by first | omega | (simp only [W1, cond_true, cond_false, hg]; first | done | omega)) ?_ | refine wF (by intro _h; first | omega | (simp only [W1, cond_true, cond_false, hg] at _h; first | done | omega)) ?_ | (refine wS ?_ ?_ <;> intro _h <;> simp only [W1, cond_true, cond_false, hg] at _h))
      all_goals simp only [W1, W2, owesN, owesX, owesR, cond_true, cond_false, hg]
      repeat' (first | apply And.intro | intro _hc)
      all_goals first | exact ⟨k + 1, LeL.refl _, LeH.refl _, ⟨by show k + 1 ≤ _; omega, h2⟩, by omega⟩ | exact AV.le_refl _ | exact AV.le_any _ | exact OLe.refl _ | exact OLe.none _ | exact LeH.refl _ | exact LeL.refl _ | exact AV.le.bs _ | exact AV.le.sb _ | omega | contradiction
  · rw [List.drop_eq_nil_of_le hk] at h2
    have h2 : b = false := h2.symm
    subst h2
    unfold OF'
    repeat' (first | refine wC (by first | omega | (simp only [W1, cond_true, cond_false]; first | done | omega)) ?_ | refine wT (by first | omega | (simp only [W1, cond_true, cond_false]; first | done | omega)) ?_ | refine wF (by intro _h; first | omega | (simp only [W1, cond_true, cond_false] at _h; first | done | omega)) ?_ | (refine wS ?_ ?_ <;> intro _h <;> simp only [W1, cond_true, cond_false] at _h))
    all_goals simp only [W1, W2, owesN, owesX, owesR, cond_true, cond_false]
    repeat' (first | apply And.intro | intro _hc)
    all_goals first | exact rfl | exact ⟨.refl _, .refl _, .any _, .refl _, trivial⟩ | exact AV.le_refl _ | exact AV.le_any _ | exact OLe.refl _ | exact OLe.none _ | exact LeH.refl _ | exact LeL.refl _ | exact AV.le.bs _ | exact AV.le.sb _ | omega | contradiction
theorem loopF {l : List Ac} {b : Bool} (hl : l.length ≤ 60) : ∀ i : Nat, (i ≤ l.length ∧ (l.drop i).any grA = b) → LoopOK Tryd.prog Γm 0 49 lpF (LSpec.at lvF [] (SF l i) (OF b)) := by
  refine loop_at (S := SF l) (pre := fun i => i ≤ l.length ∧ (l.drop i).any grA = b) (O := fun _ => OF b) (k := 0) (fun i => l.length - i) fun i hi => ?_
  obtain ⟨h1, h2⟩ := hi
  have hc : cl True = true := cl_iff.2 trivial
  have hx : ∀ t : Tx, Tx.mk t.k t.fr t.to t.ky t.vl t.am t.nn = t := fun _ => rfl
  rcases Nat.lt_or_ge i l.length with h | h
  · have e1 : IntKind.i64.wrap ((i : Int) + 1) = ((i + 1 : Nat) : Int) := wrapUpN (by omega)
    rw [any_drop h] at h2
    have hs : decide ((0 : Int) ≤ (i : Int)) = true := decide_eq_true (by omega)
    have hs2 : decide ((i : Int) < (l.length : Int)) = true := decide_eq_true (by omega)
    by_cases hf : grT (l.getD i default).tx = true ∨ 30 < (l.getD i default).os.length
    · have hb : b = true := by
        rw [← h2]; unfold grA
        rcases hf with hf | hf
        · rw [hf]; rfl
        · rw [decide_eq_true hf]; simp
      subst hb
      refine .of (L := Lno) (failOK fun _ _ _ => rfl) (rF0 l i) ?_
      have hq : (bif grT (l.getD i default).tx then true else decide ((30 : Int) < ((l.getD i default).os.length : Int))) = true := by
        rcases hf with hf | hf
        · rw [hf]; rfl
        · rw [decide_eq_true (show (30 : Int) < ((l.getD i default).os.length : Int) by omega)]; simp
      simp only [Int.toNat_natCast, hc, hx, hs, hs2, Bool.and_true, Bool.true_and, hq]
      unfold OF
      repeat' (first | refine wC (by first | omega | (simp only [W1, cond_true, cond_false]; first | done | omega)) ?_ | refine wT (by first | omega | (simp only [W1, cond_true, cond_false]; first | done | omega)) ?_ | refine wF (by intro _h; first | omega | (simp only [W1, cond_true, cond_false] at _h; first | done | omega)) ?_ | (refine wS ?_ ?_ <;> intro _h <;> simp only [W1, cond_true, cond_false] at _h))
      all_goals simp only [W1, W2, owesN, owesX, owesR, cond_true, cond_false]
      repeat' (first | apply And.intro | intro _hc)
      all_goals first | exact rfl | exact ⟨.any _, .any _, .refl _, trivial⟩ | exact AV.le_refl _ | exact AV.le_any _ | exact OLe.refl _ | exact OLe.none _ | exact LeH.refl _ | exact LeL.refl _ | exact AV.le.bs _ | exact AV.le.sb _ | omega | contradiction
    · have hf1 : grT (l.getD i default).tx = false := by
        cases hg : grT (l.getD i default).tx with
        | true => exact absurd (.inl hg) hf
        | false => rfl
      have hf2 : (l.getD i default).os.length ≤ 30 := Nat.le_of_not_lt fun h => hf (.inr h)
      have hq : (bif grT (l.getD i default).tx then true else decide ((30 : Int) < ((l.getD i default).os.length : Int))) = false := by
        rw [hf1, cond_false, decide_eq_false (by omega)]
      have hA : grA (l.getD i default) = grO (l.getD i default).os := by
        unfold grA; rw [hf1, decide_eq_false (by omega)]; rfl
      rw [hA] at h2
      cases hg : grO (l.getD i default).os with
      | true =>
        rw [hg, Bool.true_or] at h2
        subst h2
        refine .of (oneLoop (b := lpF') (by kernel_rfl) (loopF' (by omega) h (by omega) 0 ⟨Nat.zero_le _, by rw [List.drop_zero]; exact hg⟩)) (rF l i) ?_
        simp only [Int.toNat_natCast, hc, hx, hs, hs2, Bool.and_true, Bool.true_and, hq]
        unfold OF
        repeat' (first | refine wC (by first | omega | (simp only [W1, cond_true, cond_false]; first | done | omega)) ?_ | refine wT (by first | omega | (simp only [W1, cond_true, cond_false]; first | done | omega)) ?_ | refine wF (by intro _h; first | omega | (simp only [W1, cond_true, cond_false] at _h; first | done | omega)) ?_ | (refine wS ?_ ?_ <;> intro _h <;> simp only [W1, cond_true, cond_false] at _h))
        all_goals simp only [W1, W2, owesN, owesX, owesR, cond_true, cond_false]
        repeat' (first | apply And.intro | intro _hc)
        all_goals first | exact rfl | exact ⟨.any _, .any _, .refl _, trivial⟩ | exact AV.le_refl _ | exact AV.le_any _ | exact OLe.refl _ | exact OLe.none _ | exact LeH.refl _ | exact LeL.refl _ | exact AV.le.bs _ | exact AV.le.sb _ | omega | contradiction
      | false =>
        rw [hg, Bool.false_or] at h2
        refine .of (oneLoop (b := lpF') (by kernel_rfl) (loopF' (by omega) h (by omega) 0 ⟨Nat.zero_le _, by rw [List.drop_zero]; exact hg⟩)) (rFf l i) ?_
        simp only [Int.toNat_natCast, hc, hx, hs, hs2, Bool.and_true, Bool.true_and, hq, e1]
        repeat' (first | refine wC (by first | omega | (simp only [W1, cond_true, cond_false]; first | done | omega)) ?_ | refine wT (by first | omega | (simp only [W1, cond_true, cond_false]; first | done | omega)) ?_ | refine wF (by intro _h; first | omega | (simp only [W1, cond_true, cond_false] at _h; first | done | omega)) ?_ | (refine wS ?_ ?_ <;> intro _h <;> simp only [W1, cond_true, cond_false] at _h))
        all_goals simp only [W1, W2, owesN, owesX, owesR, cond_true, cond_false]
        repeat' (first | apply And.intro | intro _hc)
        all_goals first | exact ⟨i + 1, LeL.refl _, LeH.refl _, ⟨by show i + 1 ≤ _; omega, h2⟩, by omega⟩ | exact AV.le_refl _ | exact AV.le_any _ | exact OLe.refl _ | exact OLe.none _ | exact LeH.refl _ | exact LeL.refl _ | exact AV.le.bs _ | exact AV.le.sb _ | omega | contradiction
  · rw [List.drop_eq_nil_of_le h] at h2
    have h2 : b = false := h2.symm
    subst h2
    refine .of (L := Lno) (failOK fun _ _ _ => rfl) (rF0 l i) ?_
    unfold OF
    repeat' (first | refine wC (by first | omega | (simp only [W1, cond_true, cond_false]; first | done | omega)) ?_ | refine wT (by first | omega | (simp only [W1, cond_true, cond_false]; first | done | omega)) ?_ | refine wF (by intro _h; first | omega | (simp only [W1, cond_true, cond_false] at _h; first | done | omega)) ?_ | (refine wS ?_ ?_ <;> intro _h <;> simp only [W1, cond_true, cond_false] at _h))
    all_goals simp only [W1, W2, owesN, owesX, owesR, cond_true, cond_false]
    repeat' (first | apply And.intro | intro _hc)
    all_goals first | exact rfl | exact AV.le_refl _ | exact AV.le_any _ | exact OLe.refl _ | exact OLe.none _ | exact LeH.refl _ | exact LeL.refl _ | exact AV.le.bs _ | exact AV.le.sb _ | omega | contradiction
noncomputable def LFar (l : List Ac) (b : Bool) : Nat → LSpec
  | 0 => LSpec.at lvF [] (SF l 0) (OF b)
  | _ => Lno 0
theorem runF (l : List Ac) (b : Bool) : bodyE (P := Tryd.prog) (Γ := Γm) [] (LFar l true) false 49 [.tmp 2] (bodyOf Tryd.f60) [slA l] [] =
  Tree.br (decide ((60 : Int) < (↑(List.length l) : Int))) (Tree.leaf (Ans.mk (AV.v (Value.bool true)) [])) (Tree.chk (cl (LeL [AV.sl (9 : Nat) (List.length l) (lsF Ac.c l), AV.v (Value.int
    IntKind.i64 (0 : Int)), AV.v (Value.bool false)] [AV.sl (9 : Nat) (List.length l) (lsF Ac.c l), AV.v (Value.int IntKind.i64 (↑(0 : Nat) : Int)), AV.v (Value.bool false)] ∧ LeH [] []))
    (Tree.leaf (Ans.mk (AV.v (Value.bool true)) []))) := by kernel_rfl
theorem runFf (l : List Ac) (b : Bool) : bodyE (P := Tryd.prog) (Γ := Γm) [] (LFar l false) false 49 [.tmp 2] (bodyOf Tryd.f60) [slA l] [] =
  Tree.br (decide ((60 : Int) < (↑(List.length l) : Int))) (Tree.leaf (Ans.mk (AV.v (Value.bool true)) [])) (Tree.chk (cl (LeL [AV.sl (9 : Nat) (List.length l) (lsF Ac.c l), AV.v (Value.int
    IntKind.i64 (0 : Int)), AV.v (Value.bool false)] [AV.sl (9 : Nat) (List.length l) (lsF Ac.c l), AV.v (Value.int IntKind.i64 (↑(0 : Nat) : Int)), AV.v (Value.bool false)] ∧ LeH [] []))
    (Tree.leaf (Ans.mk (AV.v (Value.bool false)) []))) := by kernel_rfl
theorem runFl (l : List Ac) : bodyE (P := Tryd.prog) (Γ := Γm) [] Lno false 49 [.tmp 2] (bodyOf Tryd.f60) [slA l] [] =
  Tree.br (decide ((60 : Int) < (↑(List.length l) : Int))) (Tree.leaf (Ans.mk (AV.v (Value.bool true)) [])) Tree.fail := by kernel_rfl
theorem ansF {l : List Ac} : Answers Tryd.prog Γm 60 [slA l] [] (.sb (farB l)) [] [] := by
  by_cases hl : 60 < l.length
  · have e : farB l = true := by unfold farB; rw [decide_eq_true hl]; rfl
    rw [e]
    refine answers (fn := Tryd.f60) (c := bodyOf Tryd.f60) (ntmps := 49) (results := [.tmp 2]) [] (Lno) false Tryd.func60 (by kernel_rfl) (by kernel_rfl) (by kernel_rfl) (by kernel_rfl) (by simp) rfl (failOK fun _ _ _ => rfl) <| Meets.of (runFl l) <| ?_
    repeat' (first | refine wC (by first | omega | (simp only [W1, cond_true, cond_false]; first | done | omega)) ?_ | refine wT (by first | omega | (simp only [W1, cond_true, cond_false]; first | done | omega)) ?_ | refine wF (by intro _h; first | omega | (simp only [W1, cond_true, cond_false] at _h; first | done | omega)) ?_ | (refine wS ?_ ?_ <;> intro _h <;> simp only [W1, cond_true, cond_false] at _h))
    all_goals simp only [W1, W2, owesN, owesX, owesR, cond_true, cond_false]
    repeat' (first | apply And.intro | intro _hc)
    all_goals first | exact leB rfl | exact AV.le_refl _ | exact AV.le_any _ | exact OLe.refl _ | exact OLe.none _ | exact LeH.refl _ | exact LeL.refl _ | exact AV.le.bs _ | exact AV.le.sb _ | omega | contradiction
  · have e : farB l = l.any grA := by unfold farB; rw [decide_eq_false hl]; rfl
    rw [e]
    cases hg : l.any grA with
    | true =>
      refine answers (fn := Tryd.f60) (c := bodyOf Tryd.f60) (ntmps := 49) (results := [.tmp 2]) [] (LFar l true) false Tryd.func60 (by kernel_rfl) (by kernel_rfl) (by kernel_rfl) (by kernel_rfl) (by simp) rfl (twoLoops (b := lpF) (b' := lpF') (by kernel_rfl) (loopF (by omega) 0 ⟨Nat.zero_le _, by rw [List.drop_zero]; exact hg⟩) fail_ok) <| Meets.of (runF l true) <| ?_
      repeat' (first | refine wC (by first | omega | (simp only [W1, cond_true, cond_false]; first | done | omega)) ?_ | refine wT (by first | omega | (simp only [W1, cond_true, cond_false]; first | done | omega)) ?_ | refine wF (by intro _h; first | omega | (simp only [W1, cond_true, cond_false] at _h; first | done | omega)) ?_ | (refine wS ?_ ?_ <;> intro _h <;> simp only [W1, cond_true, cond_false] at _h))
      all_goals simp only [W1, W2, owesN, owesX, owesR, cond_true, cond_false]
      repeat' (first | apply And.intro | intro _hc)
      all_goals first | exact leB rfl | exact AV.le_refl _ | exact AV.le_any _ | exact OLe.refl _ | exact OLe.none _ | exact LeH.refl _ | exact LeL.refl _ | exact AV.le.bs _ | exact AV.le.sb _ | omega | contradiction
    | false =>
      refine answers (fn := Tryd.f60) (c := bodyOf Tryd.f60) (ntmps := 49) (results := [.tmp 2]) [] (LFar l false) false Tryd.func60 (by kernel_rfl) (by kernel_rfl) (by kernel_rfl) (by kernel_rfl) (by simp) rfl (twoLoops (b := lpF) (b' := lpF') (by kernel_rfl) (loopF (by omega) 0 ⟨Nat.zero_le _, by rw [List.drop_zero]; exact hg⟩) fail_ok) <| Meets.of (runFf l false) <| ?_
      repeat' (first | refine wC (by first | omega | (simp only [W1, cond_true, cond_false]; first | done | omega)) ?_ | refine wT (by first | omega | (simp only [W1, cond_true, cond_false]; first | done | omega)) ?_ | refine wF (by intro _h; first | omega | (simp only [W1, cond_true, cond_false] at _h; first | done | omega)) ?_ | (refine wS ?_ ?_ <;> intro _h <;> simp only [W1, cond_true, cond_false] at _h))
      all_goals simp only [W1, W2, owesN, owesX, owesR, cond_true, cond_false]
      repeat' (first | apply And.intro | intro _hc)
      all_goals first | exact leB rfl | exact AV.le_refl _ | exact AV.le_any _ | exact OLe.refl _ | exact OLe.none _ | exact LeH.refl _ | exact LeL.refl _ | exact AV.le.bs _ | exact AV.le.sb _ | omega | contradiction
end Go.Eng.TA.C

namespace Go.Eng.TA.C
open Go Go.Eng Go.Eng.M Go.Lib Go.Proofs
structure okAt (who : ByteArray) (now : Int) (j : Nat) (p : Pc) : Prop where
  nn : p.tx.nn = (j : Int) + 1
  fr : p.tx.fr = who
  due : p.due ≤ now + 16
  gap : okP p
def Inv (who : ByteArray) (now : Int) (l : List Pc) : Prop := ∀ j, j < l.length → okAt who now j (l.getD j default)
def Mono (l l' : List Pc) : Prop := l.length ≤ l'.length ∧ ∀ k, k < l.length → (l'.getD k default).tx = (l.getD k default).tx ∧ (¬ (l.getD k default).st = 0 → (l'.getD k default).st = (l.getD k default).st)
theorem Mono.refl (l : List Pc) : Mono l l := ⟨Nat.le_refl _, fun k _ => ⟨rfl, fun _ => rfl⟩⟩
theorem Mono.trans {a b c : List Pc} (h : Mono a b) (k : Mono b c) : Mono a c := ⟨Nat.le_trans h.1 k.1, fun j hj => by
  obtain ⟨h1, h2⟩ := h.2 j hj
  obtain ⟨k1, k2⟩ := k.2 j (Nat.lt_of_lt_of_le hj h.1)
  exact ⟨k1.trans h1, fun hs => (k2 (by rw [h2 hs]; exact hs)).trans (h2 hs)⟩⟩
theorem getD_map {α β : Type} [Inhabited α] [Inhabited β] {f : α → β} {l : List α} {j : Nat} (h : j < l.length) : (l.map f).getD j default = f (l.getD j default) := by
  rw [List.getD_eq_getElem?_getD, List.getElem?_map, List.getElem?_eq_getElem h, getD_get h]; rfl
theorem tk_tx (n : Int) (p : Pc) : (tk n p).tx = p.tx ∧ (tk n p).st = p.st := by
  unfold tk
  cases due n p <;> exact ⟨rfl, rfl⟩
theorem tk_ok {n : Int} {p : Pc} (h : okP p) : okP (tk n p) := by
  unfold tk
  cases due n p with
  | false => exact h
  | true =>
    obtain ⟨h1, h2⟩ := h
    show 0 ≤ (if 16 < 2 * p.gap then (16 : Int) else 2 * p.gap) ∧ (if 16 < 2 * p.gap then (16 : Int) else 2 * p.gap) ≤ 16
    split <;> omega
theorem tk_due {n m : Int} {p : Pc} (h : okP p) (hd : p.due ≤ n + 16) : (tk n p).due ≤ n + 16 := by
  unfold tk
  cases due n p with
  | false => exact hd
  | true => obtain ⟨h1, h2⟩ := h; show n + p.gap ≤ n + 16; omega
theorem inv_tick {who : ByteArray} {n : Int} {l : List Pc} (h : Inv who n l) : Inv who (n + 1) (l.map (tk (n + 1))) ∧ Mono l (l.map (tk (n + 1))) := by
  refine ⟨fun j hj => ?_, by simp, fun k hk => ?_⟩
  · rw [List.length_map] at hj
    obtain ⟨h1, h2, h3, h4⟩ := h j hj
    rw [getD_map hj]
    obtain ⟨t1, t2⟩ := tk_tx (n + 1) (l.getD j default)
    exact ⟨by rw [t1]; exact h1, by rw [t1]; exact h2, tk_due (m := 0) h4 (by omega), tk_ok h4⟩
  · rw [getD_map hk]
    obtain ⟨t1, t2⟩ := tk_tx (n + 1) (l.getD k default)
    exact ⟨t1, fun _ => t2⟩
theorem inv_give {who : ByteArray} {c : Cs} {l : List Pc} {t : Tx} (hw : c.who = who) (h : Inv who c.now l) : Inv who c.now (addL c l t) ∧ Mono l (addL c l t) := by
  unfold addL
  refine ⟨fun j hj => ?_, by simp, fun k hk => ?_⟩
  · by_cases hl : j < l.length
    · rw [getD_app hl]; exact h j hl
    · have hz : j = l.length := by rw [List.length_append] at hj; simp only [List.length_singleton] at hj; omega
      subst hz
      rw [getD_app' (Nat.le_refl _), Nat.sub_self]
      exact ⟨rfl, hw, by show c.now + 1 ≤ c.now + 16; omega, by show (0 : Int) ≤ 2 ∧ (2 : Int) ≤ 16; omega⟩
  · rw [getD_app hk]; exact ⟨rfl, fun _ => rfl⟩
theorem inv_set {who : ByteArray} {n : Int} {l : List Pc} {k : Nat} {s : Int} (hk : k < l.length) (hs : (l.getD k default).st = 0) (h : Inv who n l) : Inv who n (l.set k (setS (l.getD k default) s)) ∧ Mono l (l.set k (setS (l.getD k default) s)) := by
  refine ⟨fun j hj => ?_, by simp, fun j hj => ?_⟩
  · rw [List.length_set] at hj
    rw [getD_setI hk]
    by_cases e : j = k
    · rw [if_pos e]
      subst e
      obtain ⟨h1, h2, h3, h4⟩ := h j hj
      exact ⟨h1, h2, h3, h4⟩
    · rw [if_neg e]; exact h j hj
  · rw [getD_setI hk]
    by_cases e : j = k
    · rw [if_pos e]
      subst e
      exact ⟨rfl, fun h0 => absurd hs h0⟩
    · rw [if_neg e]; exact ⟨rfl, fun _ => rfl⟩
theorem inv_end {who : ByteArray} {c : Cs} {l : List Pc} {t : Tx} (h : Inv who c.now l) : Inv who c.now (endF c l t).l ∧ Mono l (endF c l t).l ∧ (endF c l t).c.now = c.now ∧ (endF c l t).c.who = c.who ∧ (endF c l t).c.heard = c.heard ∧ (endF c l t).c.most = c.most := by
  by_cases hn : noE c l t
  · rw [endF_no hn]; exact ⟨h, Mono.refl l, rfl, rfl, rfl, rfl⟩
  · have hn' := hn
    unfold noE at hn'
    have hk : kO t < l.length := by unfold kO; omega
    have hs : (l.getD (kO t) default).st = 0 := by
      by_cases e : (l.getD (kO t) default).st = 0
      · exact e
      · exact absurd (.inr (.inr (.inr e))) hn'
    cases hq : sameT (l.getD (kO t) default).tx t with
    | true =>
      rw [endF_one hn hq]
      exact ⟨(inv_set hk hs h).1, (inv_set hk hs h).2, rfl, rfl, rfl, rfl⟩
    | false =>
      rw [endF_two hn hq]
      exact ⟨(inv_set hk hs h).1, (inv_set hk hs h).2, rfl, rfl, rfl, rfl⟩
theorem inv_fold {who : ByteArray} : ∀ (os : List Oc) (x : RH), Inv who x.c.now x.l → Inv who x.c.now (os.foldl stepH x).l ∧ Mono x.l (os.foldl stepH x).l ∧ (os.foldl stepH x).c.now = x.c.now ∧ (os.foldl stepH x).c.who = x.c.who ∧ (os.foldl stepH x).c.heard = x.c.heard ∧ (os.foldl stepH x).c.most = x.c.most ∧ (os.foldl stepH x).l.length = x.l.length
  | [], x, h => ⟨h, Mono.refl _, rfl, rfl, rfl, rfl, rfl⟩
  | o :: os, x, h => by
    rw [List.foldl_cons]
    by_cases he : o.err = 0
    · have hs : stepH x o = ⟨(endF x.c x.l o.tx).c, (endF x.c x.l o.tx).l, bif (endF x.c x.l o.tx).b then w64 (x.n + 1) else x.n⟩ := if_pos he
      obtain ⟨a1, a2, a3, a4, a5, a6⟩ := inv_end (c := x.c) (t := o.tx) h
      have a7 := endF_len (c := x.c) (l := x.l) (t := o.tx)
      rw [hs]
      obtain ⟨b1, b2, b3, b4, b5, b6, b7⟩ := inv_fold os ⟨(endF x.c x.l o.tx).c, (endF x.c x.l o.tx).l, bif (endF x.c x.l o.tx).b then w64 (x.n + 1) else x.n⟩ (by show Inv who (endF x.c x.l o.tx).c.now _; rw [a3]; exact a1)
      dsimp only at b1 b2 b3 b4 b5 b6 b7
      exact ⟨by rw [a3] at b1; exact b1, a2.trans b2, b3.trans a3, b4.trans a4, b5.trans a5, b6.trans a6, b7.trans a7⟩
    · have hs : stepH x o = x := if_neg he
      rw [hs]; exact inv_fold os x h
theorem inv_hear {who : ByteArray} {c : Cs} {l : List Pc} {os : List Oc} (h : Inv who c.now l) : Inv who c.now (hearF c l os).l ∧ Mono l (hearF c l os).l ∧ (hearF c l os).c.now = c.now ∧ (hearF c l os).c.who = c.who ∧ (hearF c l os).c.most = c.most ∧ (hearF c l os).l.length = l.length ∧ (0 ≤ c.heard → 0 ≤ (hearF c l os).c.heard) := by
  by_cases hh : (os.length : Int) ≤ c.heard
  · have e : hearF c l os = ⟨c, l, 0⟩ := if_pos hh
    rw [e]; exact ⟨h, Mono.refl l, rfl, rfl, rfl, rfl, fun h => h⟩
  · have e : hearF c l os = ⟨setH' ((os.drop c.heard.toNat).foldl stepH ⟨c, l, 0⟩).c (os.length : Int), ((os.drop c.heard.toNat).foldl stepH ⟨c, l, 0⟩).l, ((os.drop c.heard.toNat).foldl stepH ⟨c, l, 0⟩).n⟩ := if_neg hh
    rw [e]
    obtain ⟨b1, b2, b3, b4, b5, b6, b7⟩ := inv_fold (os.drop c.heard.toNat) ⟨c, l, 0⟩ h
    exact ⟨b1, b2, b3, b4, b6, b7, fun _ => Int.natCast_nonneg _⟩
theorem out_mem {who : ByteArray} {n m : Int} {l : List Pc} (h : Inv who m l) {t : Tx} (ht : t ∈ outT n l l.length) : ∃ j, j < l.length ∧ t = (l.getD j default).tx ∧ (l.getD j default).st = 0 ∧ t.nn = (j : Int) + 1 ∧ (l.getD j default).due ≤ n := by
  unfold outT at ht
  rw [List.take_of_length_le (Nat.le_refl _), List.mem_map] at ht
  obtain ⟨p, hp, rfl⟩ := ht
  rw [List.mem_filter] at hp
  obtain ⟨j, hj, rfl⟩ := List.getElem_of_mem hp.1
  have hd := hp.2
  unfold due at hd
  simp only [Bool.and_eq_true, decide_eq_true_eq] at hd
  refine ⟨j, hj, ?_⟩
  rw [getD_get hj]
  have := (h j hj).nn
  rw [getD_get hj] at this
  exact ⟨rfl, hd.1, this, hd.2⟩
theorem out_has {n : Int} {l : List Pc} {j : Nat} (hj : j < l.length) (hs : (l.getD j default).st = 0) (hd : (l.getD j default).due ≤ n) : (l.getD j default).tx ∈ outT n l l.length := by
  unfold outT
  rw [List.take_of_length_le (Nat.le_refl _), List.mem_map]
  refine ⟨l.getD j default, List.mem_filter.2 ⟨by rw [getD_get hj]; exact List.getElem_mem hj, ?_⟩, rfl⟩
  unfold due
  rw [decide_eq_true hs, decide_eq_true hd]; rfl
end Go.Eng.TA.C

namespace Go.Eng.TA.C
open Go Go.Eng Go.Eng.M Go.Lib Go.Proofs
noncomputable abbrev lq (k : Nat) : Code := loopOf (bodyOf Tryd.f13) k
structure Fix where
  who : ByteArray
  acts : List Ac
  c : Cs
  l : List Pc
  os : List Oc
  ol : List Od
  i : Nat
def Fix.pre (y : Fix) : List AV := [.ptr 0 0, .hs 2 0 y.os.length, .hs 3 0 y.ol.length]
def Fix.post (y : Fix) : List AV := [.v (.int .i64 (y.i : Int)), .v (.string y.who), slA y.acts]
def Fix.H (y : Fix) : List Blk := y.c.bl y.l ++ [lsOc y.os, lsO y.ol]
abbrev lv1 : List Nat := [5, 7, 8, 11, 12, 9, 0, 1]
def S1 (y : Fix) (x : List Tx) (k : Nat) : List AV × Heap := (y.pre ++ [.hs 4 0 x.length, .v (.int .i64 (k : Int))] ++ y.post, (y.H ++ [lsT x]).map some)
def O1 (y : Fix) : Out := ⟨.exit 3, y.pre ++ [.any, .any] ++ y.post, y.H.map some ++ [none]⟩
theorem r1 (y : Fix) (x : List Tx) (k : Nat) : roundE (P := Tryd.prog) (Γ := Γm) [] Lno false 0 0 (lq 1) lv1 [] 228 (S1 y x k).1 (S1 y x k).2 =
  Tree.br (decide ((↑k : Int) < (↑(List.length x) : Int))) (Tree.chk (decide ((0 : Int) ≤ (↑k : Int)) && decide ((↑k : Int) < (↑(List.length x) : Int))) (Tree.chk (bif decide ((List.getD x ((0
    : Nat) + k) default).nn < (1 : Int)) then true else bif decide ((↑(List.length y.ol) : Int) < (List.getD x ((0 : Nat) + k) default).nn) then true else decide ((0 : Int) ≤ IntKind.wrap
    IntKind.i64 ((List.getD x ((0 : Nat) + k) default).nn - (1 : Int))) && decide (IntKind.wrap IntKind.i64 ((List.getD x ((0 : Nat) + k) default).nn - (1 : Int)) < (↑(List.length y.ol) :
    Int)) && bif !decide ((List.getD y.ol ((0 : Nat) + Int.toNat (IntKind.wrap IntKind.i64 ((List.getD x ((0 : Nat) + k) default).nn - (1 : Int)))) default).st = (0 : Int)) then true else
    decide ((0 : Int) ≤ IntKind.wrap IntKind.i64 ((List.getD x ((0 : Nat) + k) default).nn - (1 : Int))) && decide (IntKind.wrap IntKind.i64 ((List.getD x ((0 : Nat) + k) default).nn - (1 :
    Int)) < (↑(List.length y.ol) : Int)) && (decide ((0 : Int) ≤ (↑k : Int)) && decide ((↑k : Int) < (↑(List.length x) : Int)))) (Tree.br (bif decide ((List.getD x ((0 : Nat) + k)
    default).nn < (1 : Int)) then true else bif decide ((↑(List.length y.ol) : Int) < (List.getD x ((0 : Nat) + k) default).nn) then true else bif !decide ((List.getD y.ol ((0 : Nat) +
    Int.toNat (IntKind.wrap IntKind.i64 ((List.getD x ((0 : Nat) + k) default).nn - (1 : Int)))) default).st = (0 : Int)) then true else !(decide ((List.getD y.ol ((0 : Nat) + Int.toNat
    (IntKind.wrap IntKind.i64 ((List.getD x ((0 : Nat) + k) default).nn - (1 : Int)))) default).tx.k = (List.getD x ((0 : Nat) + k) default).k) && (decide ((List.getD y.ol ((0 : Nat) +
    Int.toNat (IntKind.wrap IntKind.i64 ((List.getD x ((0 : Nat) + k) default).nn - (1 : Int)))) default).tx.fr = (List.getD x ((0 : Nat) + k) default).fr) && (decide ((List.getD y.ol ((0 :
    Nat) + Int.toNat (IntKind.wrap IntKind.i64 ((List.getD x ((0 : Nat) + k) default).nn - (1 : Int)))) default).tx.to = (List.getD x ((0 : Nat) + k) default).to) && (decide ((List.getD y.ol
    ((0 : Nat) + Int.toNat (IntKind.wrap IntKind.i64 ((List.getD x ((0 : Nat) + k) default).nn - (1 : Int)))) default).tx.ky = (List.getD x ((0 : Nat) + k) default).ky) && (decide
    ((List.getD y.ol ((0 : Nat) + Int.toNat (IntKind.wrap IntKind.i64 ((List.getD x ((0 : Nat) + k) default).nn - (1 : Int)))) default).tx.vl = (List.getD x ((0 : Nat) + k) default).vl) &&
    (decide ((List.getD y.ol ((0 : Nat) + Int.toNat (IntKind.wrap IntKind.i64 ((List.getD x ((0 : Nat) + k) default).nn - (1 : Int)))) default).tx.am = (List.getD x ((0 : Nat) + k)
    default).am) && decide ((List.getD y.ol ((0 : Nat) + Int.toNat (IntKind.wrap IntKind.i64 ((List.getD x ((0 : Nat) + k) default).nn - (1 : Int)))) default).tx.nn = (List.getD x ((0 : Nat)
    + k) default).nn)))))))) (Tree.leaf (Out.mk AEx.ret [AV.ptr (0 : Nat) (0 : Nat), AV.hs (2 : Nat) (0 : Nat) (List.length y.os), AV.hs (3 : Nat) (0 : Nat) (List.length y.ol), AV.hs (4 :
    Nat) (0 : Nat) (List.length x), AV.v (Value.int IntKind.i64 (↑k : Int)), AV.v (Value.int IntKind.i64 (↑y.i : Int)), AV.v (Value.string y.who), AV.sl (9 : Nat) (List.length y.acts) (lsF
    Ac.c y.acts)] [some (Blk.row [AV.v (Value.string y.c.who), AV.v (Value.int IntKind.i64 y.c.most), AV.hs (1 : Nat) (0 : Nat) (List.length y.l), AV.v (Value.int IntKind.i64 y.c.now), AV.v
    (Value.int IntKind.i64 y.c.heard), AV.v (Value.int IntKind.i64 y.c.wt), AV.v (Value.int IntKind.i64 y.c.en), AV.v (Value.int IntKind.i64 y.c.go)]), some (Blk.arr (10 : Nat) (List.length
    y.l) (lsF Pc.c y.l)), some (Blk.arr (10 : Nat) (List.length y.os) (lsF Oc.c y.os)), some (Blk.arr (8 : Nat) (List.length y.ol) (lsF Od.c y.ol)), some (Blk.arr (7 : Nat) (List.length x)
    (lsF Tx.c x))])) (Tree.leaf (Out.mk AEx.normal [AV.ptr (0 : Nat) (0 : Nat), AV.hs (2 : Nat) (0 : Nat) (List.length y.os), AV.hs (3 : Nat) (0 : Nat) (List.length y.ol), AV.hs (4 : Nat) (0
    : Nat) (List.length x), AV.v (Value.int IntKind.i64 (IntKind.wrap IntKind.i64 ((↑k : Int) + (1 : Int)))), AV.v (Value.int IntKind.i64 (↑y.i : Int)), AV.v (Value.string y.who), AV.sl (9 :
    Nat) (List.length y.acts) (lsF Ac.c y.acts)] [some (Blk.row [AV.v (Value.string y.c.who), AV.v (Value.int IntKind.i64 y.c.most), AV.hs (1 : Nat) (0 : Nat) (List.length y.l), AV.v
    (Value.int IntKind.i64 y.c.now), AV.v (Value.int IntKind.i64 y.c.heard), AV.v (Value.int IntKind.i64 y.c.wt), AV.v (Value.int IntKind.i64 y.c.en), AV.v (Value.int IntKind.i64 y.c.go)]),
    some (Blk.arr (10 : Nat) (List.length y.l) (lsF Pc.c y.l)), some (Blk.arr (10 : Nat) (List.length y.os) (lsF Oc.c y.os)), some (Blk.arr (8 : Nat) (List.length y.ol) (lsF Od.c y.ol)),
    some (Blk.arr (7 : Nat) (List.length x) (lsF Tx.c x))]))))) (Tree.leaf (Out.mk (AEx.exit (3 : Nat)) [AV.ptr (0 : Nat) (0 : Nat), AV.hs (2 : Nat) (0 : Nat) (List.length y.os), AV.hs (3 :
    Nat) (0 : Nat) (List.length y.ol), AV.hs (4 : Nat) (0 : Nat) (List.length x), AV.v (Value.int IntKind.i64 (↑k : Int)), AV.v (Value.int IntKind.i64 (↑y.i : Int)), AV.v (Value.string
    y.who), AV.sl (9 : Nat) (List.length y.acts) (lsF Ac.c y.acts)] [some (Blk.row [AV.v (Value.string y.c.who), AV.v (Value.int IntKind.i64 y.c.most), AV.hs (1 : Nat) (0 : Nat) (List.length
    y.l), AV.v (Value.int IntKind.i64 y.c.now), AV.v (Value.int IntKind.i64 y.c.heard), AV.v (Value.int IntKind.i64 y.c.wt), AV.v (Value.int IntKind.i64 y.c.en), AV.v (Value.int IntKind.i64
    y.c.go)]), some (Blk.arr (10 : Nat) (List.length y.l) (lsF Pc.c y.l)), some (Blk.arr (10 : Nat) (List.length y.os) (lsF Oc.c y.os)), some (Blk.arr (8 : Nat) (List.length y.ol) (lsF Od.c
    y.ol)), some (Blk.arr (7 : Nat) (List.length x) (lsF Tx.c x))])) := by kernel_rfl
def Brought (ol : List Od) (t : Tx) : Prop := 1 ≤ t.nn ∧ t.nn ≤ (ol.length : Int) ∧ (ol.getD (kO t) default).st = 0 ∧ (ol.getD (kO t) default).tx = t
theorem loop1 {y : Fix} {x : List Tx} (hx : x.length ≤ 100000) (ho : y.ol.length ≤ 100000) (h : ∀ k, k < x.length → Brought y.ol (x.getD k default)) : ∀ k : Nat, k ≤ x.length → LoopOK Tryd.prog Γm 0 228 (lq 1) (LSpec.at lv1 [] (S1 y x k) (O1 y)) := by
  refine loop_at (S := S1 y x) (pre := fun k => k ≤ x.length) (O := fun _ => O1 y) (k := 0) (fun k => x.length - k) fun k hk => .of (noLoops (by kernel_rfl)) (r1 y x k) ?_
  rcases Nat.lt_or_ge k x.length with hl | hl
  · obtain ⟨h1, h2, h3, h4⟩ := h k hl
    have e1 : IntKind.i64.wrap ((k : Int) + 1) = ((k + 1 : Nat) : Int) := wrapUpN (by omega)
    have e2 : IntKind.i64.wrap ((x.getD k default).nn - 1) = (x.getD k default).nn - 1 := wrap64 (by omega) (by omega)
    have e3 : ((x.getD k default).nn - 1).toNat = kO (x.getD k default) := rfl
    simp only [Nat.zero_add, Int.toNat_natCast, e1, e2, e3]
    generalize x.getD k default = t at *
    generalize hod : y.ol.getD (kO t) default = p at *
    obtain ⟨pt, ps⟩ := p
    dsimp only at h3 h4 ⊢
    subst h3 h4
    have hk : kO pt < y.ol.length := by unfold kO; omega
    have hb : (0 : Int) ≤ pt.nn - 1 := by omega
    have hb2 : pt.nn - 1 < (y.ol.length : Int) := by omega
    simp only [decide_true, Bool.and_true, Bool.not_true]
    repeat' (first | refine wC (by first | omega | (simp only [W1, cond_true, cond_false]; first | done | omega)) ?_ | refine wT (by first | omega | (simp only [W1, cond_true, cond_false]; first | done | omega)) ?_ | refine wF (by intro _h; first | omega | (simp only [W1, cond_true, cond_false] at _h; first | done | omega)) ?_ | (refine wS ?_ ?_ <;> intro _h <;> simp only [W1, cond_true, cond_false] at _h))
    all_goals simp only [W1, W2, owesN, owesX, owesR, cond_true, cond_false]
    repeat' (first | apply And.intro | intro _hc)
    all_goals first | exact ⟨k + 1, LeL.refl _, LeH.refl _, hl, by omega⟩ | exact AV.le_refl _ | exact AV.le_any _ | exact OLe.refl _ | exact OLe.none _ | exact LeH.refl _ | exact LeL.refl _ | exact AV.le.bs _ | exact AV.le.sb _ | omega | contradiction
  · repeat' (first | refine wC (by first | omega | (simp only [W1, cond_true, cond_false]; first | done | omega)) ?_ | refine wT (by first | omega | (simp only [W1, cond_true, cond_false]; first | done | omega)) ?_ | refine wF (by intro _h; first | omega | (simp only [W1, cond_true, cond_false] at _h; first | done | omega)) ?_ | (refine wS ?_ ?_ <;> intro _h <;> simp only [W1, cond_true, cond_false] at _h))
    all_goals simp only [W1, W2, owesN, owesX, owesR, cond_true, cond_false]
    repeat' (first | apply And.intro | intro _hc)
    all_goals first | exact rfl | exact LeL.refl _ | exact LeH.refl _ | exact AV.le_refl _ | exact AV.le_any _ | exact OLe.refl _ | exact OLe.none _ | exact LeH.refl _ | exact LeL.refl _ | exact AV.le.bs _ | exact AV.le.sb _ | omega | contradiction
abbrev lv2 : List Nat := [5, 7, 8, 14, 15, 9, 0, 1]
def S2 (y : Fix) (nw : List Od) (k : Nat) : List AV × Heap := (y.pre ++ [.hs 4 0 nw.length, .v (.int .i64 (k : Int))] ++ y.post, (y.H ++ [lsO nw]).map some)
def O2 (y : Fix) (nw : List Od) : Out := ⟨.exit 5, y.pre ++ [.hs 4 0 nw.length, .any] ++ y.post, (y.H ++ [lsO nw]).map some⟩
theorem r2 (y : Fix) (nw : List Od) (k : Nat) : roundE (P := Tryd.prog) (Γ := Γm) [] Lno false 0 0 (lq 2) lv2 [] 228 (S2 y nw k).1 (S2 y nw k).2 =
  Tree.br (decide ((↑k : Int) < (↑(List.length nw) : Int))) (Tree.chk (decide ((0 : Int) ≤ (↑k : Int)) && decide ((↑k : Int) < (↑(List.length nw) : Int)) && bif !decide ((List.getD nw ((0 :
    Nat) + k) default).tx.nn = IntKind.wrap IntKind.i64 ((↑k : Int) + (1 : Int))) then true else decide ((0 : Int) ≤ (↑k : Int)) && decide ((↑k : Int) < (↑(List.length nw) : Int))) (Tree.br
    (bif !decide ((List.getD nw ((0 : Nat) + k) default).tx.nn = IntKind.wrap IntKind.i64 ((↑k : Int) + (1 : Int))) then true else !decide ((List.getD nw ((0 : Nat) + k) default).tx.fr =
    y.who)) (Tree.leaf (Out.mk AEx.ret [AV.ptr (0 : Nat) (0 : Nat), AV.hs (2 : Nat) (0 : Nat) (List.length y.os), AV.hs (3 : Nat) (0 : Nat) (List.length y.ol), AV.hs (4 : Nat) (0 : Nat)
    (List.length nw), AV.v (Value.int IntKind.i64 (↑k : Int)), AV.v (Value.int IntKind.i64 (↑y.i : Int)), AV.v (Value.string y.who), AV.sl (9 : Nat) (List.length y.acts) (lsF Ac.c y.acts)]
    [some (Blk.row [AV.v (Value.string y.c.who), AV.v (Value.int IntKind.i64 y.c.most), AV.hs (1 : Nat) (0 : Nat) (List.length y.l), AV.v (Value.int IntKind.i64 y.c.now), AV.v (Value.int
    IntKind.i64 y.c.heard), AV.v (Value.int IntKind.i64 y.c.wt), AV.v (Value.int IntKind.i64 y.c.en), AV.v (Value.int IntKind.i64 y.c.go)]), some (Blk.arr (10 : Nat) (List.length y.l) (lsF
    Pc.c y.l)), some (Blk.arr (10 : Nat) (List.length y.os) (lsF Oc.c y.os)), some (Blk.arr (8 : Nat) (List.length y.ol) (lsF Od.c y.ol)), some (Blk.arr (8 : Nat) (List.length nw) (lsF Od.c
    nw))])) (Tree.chk (bif decide ((↑k : Int) < (↑(List.length y.ol) : Int)) then decide ((0 : Int) ≤ (↑k : Int)) && decide ((↑k : Int) < (↑(List.length y.ol) : Int)) && (decide ((0 : Int) ≤
    (↑k : Int)) && decide ((↑k : Int) < (↑(List.length nw) : Int)) && bif !(decide ((List.getD y.ol ((0 : Nat) + k) default).tx.k = (List.getD nw ((0 : Nat) + k) default).tx.k) && (decide
    ((List.getD y.ol ((0 : Nat) + k) default).tx.fr = (List.getD nw ((0 : Nat) + k) default).tx.fr) && (decide ((List.getD y.ol ((0 : Nat) + k) default).tx.to = (List.getD nw ((0 : Nat) + k)
    default).tx.to) && (decide ((List.getD y.ol ((0 : Nat) + k) default).tx.ky = (List.getD nw ((0 : Nat) + k) default).tx.ky) && (decide ((List.getD y.ol ((0 : Nat) + k) default).tx.vl =
    (List.getD nw ((0 : Nat) + k) default).tx.vl) && (decide ((List.getD y.ol ((0 : Nat) + k) default).tx.am = (List.getD nw ((0 : Nat) + k) default).tx.am) && decide ((List.getD y.ol ((0 :
    Nat) + k) default).tx.nn = (List.getD nw ((0 : Nat) + k) default).tx.nn))))))) then true else decide ((0 : Int) ≤ (↑k : Int)) && decide ((↑k : Int) < (↑(List.length y.ol) : Int)) && bif
    !decide ((List.getD y.ol ((0 : Nat) + k) default).st = (0 : Int)) then decide ((0 : Int) ≤ (↑k : Int)) && decide ((↑k : Int) < (↑(List.length y.ol) : Int)) && (decide ((0 : Int) ≤ (↑k :
    Int)) && decide ((↑k : Int) < (↑(List.length nw) : Int))) else true) else true) (Tree.br (bif decide ((↑k : Int) < (↑(List.length y.ol) : Int)) then bif !(decide ((List.getD y.ol ((0 :
    Nat) + k) default).tx.k = (List.getD nw ((0 : Nat) + k) default).tx.k) && (decide ((List.getD y.ol ((0 : Nat) + k) default).tx.fr = (List.getD nw ((0 : Nat) + k) default).tx.fr) &&
    (decide ((List.getD y.ol ((0 : Nat) + k) default).tx.to = (List.getD nw ((0 : Nat) + k) default).tx.to) && (decide ((List.getD y.ol ((0 : Nat) + k) default).tx.ky = (List.getD nw ((0 :
    Nat) + k) default).tx.ky) && (decide ((List.getD y.ol ((0 : Nat) + k) default).tx.vl = (List.getD nw ((0 : Nat) + k) default).tx.vl) && (decide ((List.getD y.ol ((0 : Nat) + k)
    default).tx.am = (List.getD nw ((0 : Nat) + k) default).tx.am) && decide ((List.getD y.ol ((0 : Nat) + k) default).tx.nn = (List.getD nw ((0 : Nat) + k) default).tx.nn))))))) then true
    else bif !decide ((List.getD y.ol ((0 : Nat) + k) default).st = (0 : Int)) then !decide ((List.getD y.ol ((0 : Nat) + k) default).st = (List.getD nw ((0 : Nat) + k) default).st) else
    false else false) (Tree.leaf (Out.mk AEx.ret [AV.ptr (0 : Nat) (0 : Nat), AV.hs (2 : Nat) (0 : Nat) (List.length y.os), AV.hs (3 : Nat) (0 : Nat) (List.length y.ol), AV.hs (4 : Nat) (0 :
    Nat) (List.length nw), AV.v (Value.int IntKind.i64 (↑k : Int)), AV.v (Value.int IntKind.i64 (↑y.i : Int)), AV.v (Value.string y.who), AV.sl (9 : Nat) (List.length y.acts) (lsF Ac.c
    y.acts)] [some (Blk.row [AV.v (Value.string y.c.who), AV.v (Value.int IntKind.i64 y.c.most), AV.hs (1 : Nat) (0 : Nat) (List.length y.l), AV.v (Value.int IntKind.i64 y.c.now), AV.v
    (Value.int IntKind.i64 y.c.heard), AV.v (Value.int IntKind.i64 y.c.wt), AV.v (Value.int IntKind.i64 y.c.en), AV.v (Value.int IntKind.i64 y.c.go)]), some (Blk.arr (10 : Nat) (List.length
    y.l) (lsF Pc.c y.l)), some (Blk.arr (10 : Nat) (List.length y.os) (lsF Oc.c y.os)), some (Blk.arr (8 : Nat) (List.length y.ol) (lsF Od.c y.ol)), some (Blk.arr (8 : Nat) (List.length nw)
    (lsF Od.c nw))])) (Tree.leaf (Out.mk AEx.normal [AV.ptr (0 : Nat) (0 : Nat), AV.hs (2 : Nat) (0 : Nat) (List.length y.os), AV.hs (3 : Nat) (0 : Nat) (List.length y.ol), AV.hs (4 : Nat)
    (0 : Nat) (List.length nw), AV.v (Value.int IntKind.i64 (IntKind.wrap IntKind.i64 ((↑k : Int) + (1 : Int)))), AV.v (Value.int IntKind.i64 (↑y.i : Int)), AV.v (Value.string y.who), AV.sl
    (9 : Nat) (List.length y.acts) (lsF Ac.c y.acts)] [some (Blk.row [AV.v (Value.string y.c.who), AV.v (Value.int IntKind.i64 y.c.most), AV.hs (1 : Nat) (0 : Nat) (List.length y.l), AV.v
    (Value.int IntKind.i64 y.c.now), AV.v (Value.int IntKind.i64 y.c.heard), AV.v (Value.int IntKind.i64 y.c.wt), AV.v (Value.int IntKind.i64 y.c.en), AV.v (Value.int IntKind.i64 y.c.go)]),
    some (Blk.arr (10 : Nat) (List.length y.l) (lsF Pc.c y.l)), some (Blk.arr (10 : Nat) (List.length y.os) (lsF Oc.c y.os)), some (Blk.arr (8 : Nat) (List.length y.ol) (lsF Od.c y.ol)),
    some (Blk.arr (8 : Nat) (List.length nw) (lsF Od.c nw))])))))) (Tree.leaf (Out.mk (AEx.exit (5 : Nat)) [AV.ptr (0 : Nat) (0 : Nat), AV.hs (2 : Nat) (0 : Nat) (List.length y.os), AV.hs (3
    : Nat) (0 : Nat) (List.length y.ol), AV.hs (4 : Nat) (0 : Nat) (List.length nw), AV.v (Value.int IntKind.i64 (↑k : Int)), AV.v (Value.int IntKind.i64 (↑y.i : Int)), AV.v (Value.string
    y.who), AV.sl (9 : Nat) (List.length y.acts) (lsF Ac.c y.acts)] [some (Blk.row [AV.v (Value.string y.c.who), AV.v (Value.int IntKind.i64 y.c.most), AV.hs (1 : Nat) (0 : Nat) (List.length
    y.l), AV.v (Value.int IntKind.i64 y.c.now), AV.v (Value.int IntKind.i64 y.c.heard), AV.v (Value.int IntKind.i64 y.c.wt), AV.v (Value.int IntKind.i64 y.c.en), AV.v (Value.int IntKind.i64
    y.c.go)]), some (Blk.arr (10 : Nat) (List.length y.l) (lsF Pc.c y.l)), some (Blk.arr (10 : Nat) (List.length y.os) (lsF Oc.c y.os)), some (Blk.arr (8 : Nat) (List.length y.ol) (lsF Od.c
    y.ol)), some (Blk.arr (8 : Nat) (List.length nw) (lsF Od.c nw))])) := by kernel_rfl
theorem loop2 {y : Fix} {nw : List Od} (hx : nw.length ≤ 100000) (ho : y.ol.length ≤ nw.length) (h : ∀ k, k < nw.length → (nw.getD k default).tx.nn = (k : Int) + 1 ∧ (nw.getD k default).tx.fr = y.who)
    (hm : ∀ k, k < y.ol.length → (y.ol.getD k default).tx = (nw.getD k default).tx ∧ (¬ (y.ol.getD k default).st = 0 → (y.ol.getD k default).st = (nw.getD k default).st)) : ∀ k : Nat, k ≤ nw.length → LoopOK Tryd.prog Γm 0 228 (lq 2) (LSpec.at lv2 [] (S2 y nw k) (O2 y nw)) := by
  refine loop_at (S := S2 y nw) (pre := fun k => k ≤ nw.length) (O := fun _ => O2 y nw) (k := 0) (fun k => nw.length - k) fun k hk => .of (noLoops (by kernel_rfl)) (r2 y nw k) ?_
  rcases Nat.lt_or_ge k nw.length with hl | hl
  · obtain ⟨h1, h2⟩ := h k hl
    have e1 : IntKind.i64.wrap ((k : Int) + 1) = (k : Int) + 1 := wrap64 (by omega) (by omega)
    have e2 : (k : Int) + 1 = ((k + 1 : Nat) : Int) := by omega
    simp only [Nat.zero_add, Int.toNat_natCast, e1]
    by_cases hol : k < y.ol.length
    · obtain ⟨m1, m2⟩ := hm k hol
      generalize y.ol.getD k default = p at *
      generalize nw.getD k default = q at *
      obtain ⟨pt, ps⟩ := p
      obtain ⟨qt, qs⟩ := q
      dsimp only at h1 h2 m1 m2 ⊢
      subst m1
      simp only [decide_true, Bool.and_true, Bool.not_true]
      by_cases hs : ps = 0
      · repeat' (first | refine wC (by first | omega | (simp only [W1, cond_true, cond_false, h1, h2, hs]; first | done | omega)) ?_ | refine wT (by first | omega | (simp only [W1, cond_true, cond_false, h1, h2, hs]; first | done | omega)) ?_ | refine wF (by intro _h; first | omega | (simp only [W1, cond_true, cond_false, h1, h2, hs] at _h; first | done | omega)) ?_ | (refine wS ?_ ?_ <;> intro _h <;> simp only [W1, cond_true, cond_false, h1, h2, hs] at _h))
        all_goals simp only [W1, W2, owesN, owesX, owesR, cond_true, cond_false, h1, h2, hs]
        repeat' (first | apply And.intro | intro _hc)
        all_goals first | exact ⟨k + 1, by (rw [e2]; exact LeL.refl _), LeH.refl _, hl, by omega⟩ | exact AV.le_refl _ | exact AV.le_any _ | exact OLe.refl _ | exact OLe.none _ | exact LeH.refl _ | exact LeL.refl _ | exact AV.le.bs _ | exact AV.le.sb _ | omega | contradiction
      · have hq := m2 hs
        subst hq
        repeat' (first | refine wC (by first | omega | (simp only [W1, cond_true, cond_false, h1, h2, hs]; first | done | omega)) ?_ | refine wT (by first | omega | (simp only [W1, cond_true, cond_false, h1, h2, hs]; first | done | omega)) ?_ | refine wF (by intro _h; first | omega | (simp only [W1, cond_true, cond_false, h1, h2, hs] at _h; first | done | omega)) ?_ | (refine wS ?_ ?_ <;> intro _h <;> simp only [W1, cond_true, cond_false, h1, h2, hs] at _h))
        all_goals simp only [W1, W2, owesN, owesX, owesR, cond_true, cond_false, h1, h2, hs]
        repeat' (first | apply And.intro | intro _hc)
        all_goals first | exact ⟨k + 1, by (rw [e2]; exact LeL.refl _), LeH.refl _, hl, by omega⟩ | exact AV.le_refl _ | exact AV.le_any _ | exact OLe.refl _ | exact OLe.none _ | exact LeH.refl _ | exact LeL.refl _ | exact AV.le.bs _ | exact AV.le.sb _ | omega | contradiction
    · repeat' (first | refine wC (by first | omega | (simp only [W1, cond_true, cond_false, h1, h2]; first | done | omega)) ?_ | refine wT (by first | omega | (simp only [W1, cond_true, cond_false, h1, h2]; first | done | omega)) ?_ | refine wF (by intro _h; first | omega | (simp only [W1, cond_true, cond_false, h1, h2] at _h; first | done | omega)) ?_ | (refine wS ?_ ?_ <;> intro _h <;> simp only [W1, cond_true, cond_false, h1, h2] at _h))
      all_goals simp only [W1, W2, owesN, owesX, owesR, cond_true, cond_false, h1, h2]
      repeat' (first | apply And.intro | intro _hc)
      all_goals first | exact ⟨k + 1, by (rw [e2]; exact LeL.refl _), LeH.refl _, hl, by omega⟩ | exact AV.le_refl _ | exact AV.le_any _ | exact OLe.refl _ | exact OLe.none _ | exact LeH.refl _ | exact LeL.refl _ | exact AV.le.bs _ | exact AV.le.sb _ | omega | contradiction
  · repeat' (first | refine wC (by first | omega | (simp only [W1, cond_true, cond_false]; first | done | omega)) ?_ | refine wT (by first | omega | (simp only [W1, cond_true, cond_false]; first | done | omega)) ?_ | refine wF (by intro _h; first | omega | (simp only [W1, cond_true, cond_false] at _h; first | done | omega)) ?_ | (refine wS ?_ ?_ <;> intro _h <;> simp only [W1, cond_true, cond_false] at _h))
    all_goals simp only [W1, W2, owesN, owesX, owesR, cond_true, cond_false]
    repeat' (first | apply And.intro | intro _hc)
    all_goals first | exact rfl | exact LeL.refl _ | exact LeH.refl _ | exact AV.le_refl _ | exact AV.le_any _ | exact OLe.refl _ | exact OLe.none _ | exact LeH.refl _ | exact LeL.refl _ | exact AV.le.bs _ | exact AV.le.sb _ | omega | contradiction
end Go.Eng.TA.C

namespace Go.Eng.TA.C
open Go Go.Eng Go.Eng.M Go.Lib Go.Proofs
structure XS where
  c : Cs
  l : List Pc
  os : List Oc
noncomputable def stepA (x : XS) (a : Ac) : XS :=
  if a.k = 0 then (if okG x.c x.l a.tx = true then ⟨upW x.c, addL x.c x.l a.tx, x.os⟩ else x)
  else if a.k = 1 then ⟨{ x.c with now := x.c.now + 1 }, x.l.map (tk (x.c.now + 1)), x.os⟩
  else if a.k = 2 then ⟨(hearF x.c x.l (x.os ++ a.os)).c, (hearF x.c x.l (x.os ++ a.os)).l, x.os ++ a.os⟩
  else x
abbrev lv0 : List Nat := [5, 7, 8, 9, 0, 1]
abbrev nl0 : List (Nat × TypeId) := [(1, 107), (2, 95), (300, 170)]
def S0 (who : ByteArray) (acts : List Ac) (x : XS) (i : Nat) : List AV × Heap := ([.ptr 0 0, .hs 2 0 x.os.length, .hs 3 0 (x.l.map od).length, .v (.int .i64 (i : Int)), .v (.string who), slA acts], (x.c.bl x.l ++ [lsOc x.os, lsO (x.l.map od)]).map some)
def O0 (R : XS) : Out := ⟨.exit 0, [.ptr 0 0, .any, .hs 3 0 (R.l.map od).length, .any, .any, .any], (R.c.bl R.l).map some ++ [none, some (lsO (R.l.map od))]⟩
@[reducible] def fx (who : ByteArray) (acts : List Ac) (x : XS) (c' : Cs) (l' : List Pc) (os' : List Oc) (i : Nat) : Fix := ⟨who, acts, c', l', os', x.l.map od, i⟩
noncomputable def L12 (y : Fix) (xs : List Tx) (nw : List Od) : Nat → LSpec
  | 0 => LSpec.at lv1 [] (S1 y xs 0) (O1 y)
  | 1 => LSpec.at lv2 [] (S2 y nw 0) (O2 y nw)
  | _ => Lno 0
noncomputable def L2o (y : Fix) (nw : List Od) : Nat → LSpec
  | 1 => LSpec.at lv2 [] (S2 y nw 0) (O2 y nw)
  | _ => Lno 0
theorem r0e (who : ByteArray) (acts : List Ac) (x : XS) (i : Nat) : roundE (P := Tryd.prog) (Γ := Γm) [] Lno false 0 0 (lq 0) lv0 nl0 228 (S0 who acts x i).1 (S0 who acts x i).2 =
  Tree.br (decide ((↑i : Int) < (↑(List.length acts) : Int))) (Tree.chk (decide ((0 : Int) ≤ (↑i : Int)) && decide ((↑i : Int) < (↑(List.length acts) : Int))) (Tree.br (decide ((List.getD acts
    i default).k = (0 : Int))) Tree.fail (Tree.br (decide ((List.getD acts i default).k = (1 : Int))) Tree.fail (Tree.br (decide ((List.getD acts i default).k = (2 : Int))) (Tree.chk (roomOk
    (112 : Nat) (List.length x.os + List.length (List.getD acts (Int.toNat (↑i : Int)) default).os)) Tree.fail) Tree.fail)))) (Tree.leaf (Out.mk (AEx.exit (0 : Nat)) [AV.ptr (0 : Nat) (0 :
    Nat), AV.hs (2 : Nat) (0 : Nat) (List.length x.os), AV.hs (3 : Nat) (0 : Nat) (List.length (List.map od x.l)), AV.v (Value.int IntKind.i64 (↑i : Int)), AV.v (Value.string who), AV.sl (9
    : Nat) (List.length acts) (lsF Ac.c acts)] [some (Blk.row [AV.v (Value.string x.c.who), AV.v (Value.int IntKind.i64 x.c.most), AV.hs (1 : Nat) (0 : Nat) (List.length x.l), AV.v
    (Value.int IntKind.i64 x.c.now), AV.v (Value.int IntKind.i64 x.c.heard), AV.v (Value.int IntKind.i64 x.c.wt), AV.v (Value.int IntKind.i64 x.c.en), AV.v (Value.int IntKind.i64 x.c.go)]),
    some (Blk.arr (10 : Nat) (List.length x.l) (lsF Pc.c x.l)), some (Blk.arr (10 : Nat) (List.length x.os) (lsF Oc.c x.os)), some (Blk.arr (8 : Nat) (List.length (List.map od x.l)) (lsF
    Od.c (List.map od x.l)))])) := by kernel_rfl
theorem r0g1 (who : ByteArray) (acts : List Ac) (x : XS) (i : Nat) (c' : Cs) (l' : List Pc) (t' : Tx) (hG : Answers Tryd.prog Γm 62 [.ptr 0 0, txV (acts.getD i default).tx] (x.c.bl x.l) (.tup [txV t', .v (.int .i64 0)]) [some (c'.rowJ 2 l'.length), none] [lsP l']) (hO : Answers Tryd.prog Γm 65 [.ptr 0 0] (c'.bl l') (.hs 2 0 (l'.map od).length) ((c'.bl l').map some) [lsO (l'.map od)]) : roundE (P := Tryd.prog) (Γ := Γm) [CT.at 62 hG, CT.at 65 hO] (L2o (fx who acts x c' l' x.os i) (l'.map od)) false 0 0 (lq 0) lv0 nl0 228 (S0 who acts x i).1 (S0 who acts x i).2 =
  Tree.br (decide ((↑i : Int) < (↑(List.length acts) : Int))) (Tree.chk (decide ((0 : Int) ≤ (↑i : Int)) && decide ((↑i : Int) < (↑(List.length acts) : Int))) (Tree.br (decide ((List.getD acts
    i default).k = (0 : Int))) (Tree.chk (cl (LeL [AV.ptr (0 : Nat) (0 : Nat), AV.agg [AV.v (Value.int IntKind.i64 (List.getD acts i default).tx.k), AV.v (Value.string (List.getD acts i
    default).tx.fr), AV.v (Value.string (List.getD acts i default).tx.to), AV.v (Value.string (List.getD acts i default).tx.ky), AV.v (Value.string (List.getD acts i default).tx.vl), AV.v
    (Value.int IntKind.i64 (List.getD acts i default).tx.am), AV.v (Value.int IntKind.i64 (List.getD acts i default).tx.nn)]] [AV.ptr (0 : Nat) (0 : Nat), AV.agg [AV.v (Value.int IntKind.i64
    (List.getD acts i default).tx.k), AV.v (Value.string (List.getD acts i default).tx.fr), AV.v (Value.string (List.getD acts i default).tx.to), AV.v (Value.string (List.getD acts i
    default).tx.ky), AV.v (Value.string (List.getD acts i default).tx.vl), AV.v (Value.int IntKind.i64 (List.getD acts i default).tx.am), AV.v (Value.int IntKind.i64 (List.getD acts i
    default).tx.nn)]] ∧ LeH [some (Blk.row [AV.v (Value.string x.c.who), AV.v (Value.int IntKind.i64 x.c.most), AV.hs (1 : Nat) (0 : Nat) (List.length x.l), AV.v (Value.int IntKind.i64
    x.c.now), AV.v (Value.int IntKind.i64 x.c.heard), AV.v (Value.int IntKind.i64 x.c.wt), AV.v (Value.int IntKind.i64 x.c.en), AV.v (Value.int IntKind.i64 x.c.go)]), some (Blk.arr (10 :
    Nat) (List.length x.l) (lsF Pc.c x.l))] [some (Blk.row [AV.v (Value.string x.c.who), AV.v (Value.int IntKind.i64 x.c.most), AV.hs (1 : Nat) (0 : Nat) (List.length x.l), AV.v (Value.int
    IntKind.i64 x.c.now), AV.v (Value.int IntKind.i64 x.c.heard), AV.v (Value.int IntKind.i64 x.c.wt), AV.v (Value.int IntKind.i64 x.c.en), AV.v (Value.int IntKind.i64 x.c.go)]), some
    (Blk.arr (10 : Nat) (List.length x.l) (lsF Pc.c x.l))])) (Tree.chk (cl (LeL [AV.ptr (0 : Nat) (0 : Nat)] [AV.ptr (0 : Nat) (0 : Nat)] ∧ LeH [some (Blk.row [AV.v (Value.string c'.who),
    AV.v (Value.int IntKind.i64 c'.most), AV.hs (1 : Nat) (0 : Nat) (List.length l'), AV.v (Value.int IntKind.i64 c'.now), AV.v (Value.int IntKind.i64 c'.heard), AV.v (Value.int IntKind.i64
    c'.wt), AV.v (Value.int IntKind.i64 c'.en), AV.v (Value.int IntKind.i64 c'.go)]), some (Blk.arr (10 : Nat) (List.length l') (lsF Pc.c l'))] [some (Blk.row [AV.v (Value.string c'.who),
    AV.v (Value.int IntKind.i64 c'.most), AV.hs (1 : Nat) (0 : Nat) (List.length l'), AV.v (Value.int IntKind.i64 c'.now), AV.v (Value.int IntKind.i64 c'.heard), AV.v (Value.int IntKind.i64
    c'.wt), AV.v (Value.int IntKind.i64 c'.en), AV.v (Value.int IntKind.i64 c'.go)]), some (Blk.arr (10 : Nat) (List.length l') (lsF Pc.c l'))])) (Tree.br (decide ((↑(List.length (List.map
    od l')) : Int) < (↑(List.length (List.map od x.l)) : Int))) (Tree.leaf (Out.mk AEx.ret [AV.ptr (0 : Nat) (0 : Nat), AV.hs (2 : Nat) (0 : Nat) (List.length x.os), AV.hs (3 : Nat) (0 :
    Nat) (List.length (List.map od x.l)), AV.v (Value.int IntKind.i64 (↑i : Int)), AV.v (Value.string who), AV.sl (9 : Nat) (List.length acts) (lsF Ac.c acts)] [some (Blk.row [AV.v
    (Value.string c'.who), AV.v (Value.int IntKind.i64 c'.most), AV.hs (1 : Nat) (0 : Nat) (List.length l'), AV.v (Value.int IntKind.i64 c'.now), AV.v (Value.int IntKind.i64 c'.heard), AV.v
    (Value.int IntKind.i64 c'.wt), AV.v (Value.int IntKind.i64 c'.en), AV.v (Value.int IntKind.i64 c'.go)]), some (Blk.arr (10 : Nat) (List.length l') (lsF Pc.c l')), some (Blk.arr (10 :
    Nat) (List.length x.os) (lsF Oc.c x.os)), some (Blk.arr (8 : Nat) (List.length (List.map od x.l)) (lsF Od.c (List.map od x.l)))])) (Tree.chk (cl (LeL [AV.ptr (0 : Nat) (0 : Nat), AV.hs
    (2 : Nat) (0 : Nat) (List.length x.os), AV.hs (3 : Nat) (0 : Nat) (List.length (List.map od x.l)), AV.hs (4 : Nat) (0 : Nat) (List.length (List.map od l')), AV.v (Value.int IntKind.i64
    (0 : Int)), AV.v (Value.int IntKind.i64 (↑i : Int)), AV.v (Value.string who), AV.sl (9 : Nat) (List.length acts) (lsF Ac.c acts)] [AV.ptr (0 : Nat) (0 : Nat), AV.hs (2 : Nat) (0 : Nat)
    (List.length (fx who acts x c' l' x.os i).os), AV.hs (3 : Nat) (0 : Nat) (List.length (fx who acts x c' l' x.os i).ol), AV.hs (4 : Nat) (0 : Nat) (List.length (List.map od l')), AV.v
    (Value.int IntKind.i64 (↑(0 : Nat) : Int)), AV.v (Value.int IntKind.i64 (↑i : Int)), AV.v (Value.string who), AV.sl (9 : Nat) (List.length (fx who acts x c' l' x.os i).acts) (lsF Ac.c
    (fx who acts x c' l' x.os i).acts)] ∧ LeH [some (Blk.row [AV.v (Value.string c'.who), AV.v (Value.int IntKind.i64 c'.most), AV.hs (1 : Nat) (0 : Nat) (List.length l'), AV.v (Value.int
    IntKind.i64 c'.now), AV.v (Value.int IntKind.i64 c'.heard), AV.v (Value.int IntKind.i64 c'.wt), AV.v (Value.int IntKind.i64 c'.en), AV.v (Value.int IntKind.i64 c'.go)]), some (Blk.arr
    (10 : Nat) (List.length l') (lsF Pc.c l')), some (Blk.arr (10 : Nat) (List.length x.os) (lsF Oc.c x.os)), some (Blk.arr (8 : Nat) (List.length (List.map od x.l)) (lsF Od.c (List.map od
    x.l))), some (Blk.arr (8 : Nat) (List.length (List.map od l')) (lsF Od.c (List.map od l')))] [some (Blk.row [AV.v (Value.string c'.who), AV.v (Value.int IntKind.i64 c'.most), AV.hs (1 :
    Nat) (0 : Nat) (List.length (fx who acts x c' l' x.os i).l), AV.v (Value.int IntKind.i64 c'.now), AV.v (Value.int IntKind.i64 c'.heard), AV.v (Value.int IntKind.i64 c'.wt), AV.v
    (Value.int IntKind.i64 c'.en), AV.v (Value.int IntKind.i64 c'.go)]), some (Blk.arr (10 : Nat) (List.length (fx who acts x c' l' x.os i).l) (lsF Pc.c (fx who acts x c' l' x.os i).l)),
    some (Blk.arr (10 : Nat) (List.length (fx who acts x c' l' x.os i).os) (lsF Oc.c (fx who acts x c' l' x.os i).os)), some (Blk.arr (8 : Nat) (List.length (fx who acts x c' l' x.os i).ol)
    (lsF Od.c (fx who acts x c' l' x.os i).ol)), some (Blk.arr (8 : Nat) (List.length (List.map od l')) (lsF Od.c (List.map od l')))])) (Tree.leaf (Out.mk AEx.normal [AV.ptr (0 : Nat) (0 :
    Nat), AV.hs (2 : Nat) (0 : Nat) (List.length (fx who acts x c' l' x.os i).os), AV.hs (3 : Nat) (0 : Nat) (List.length (List.map od l')), AV.v (Value.int IntKind.i64 (IntKind.wrap
    IntKind.i64 ((↑i : Int) + (1 : Int)))), AV.v (Value.string who), AV.sl (9 : Nat) (List.length (fx who acts x c' l' x.os i).acts) (lsF Ac.c (fx who acts x c' l' x.os i).acts)] [some
    (Blk.row [AV.v (Value.string c'.who), AV.v (Value.int IntKind.i64 c'.most), AV.hs (1 : Nat) (0 : Nat) (List.length (fx who acts x c' l' x.os i).l), AV.v (Value.int IntKind.i64 c'.now),
    AV.v (Value.int IntKind.i64 c'.heard), AV.v (Value.int IntKind.i64 c'.wt), AV.v (Value.int IntKind.i64 c'.en), AV.v (Value.int IntKind.i64 c'.go)]), some (Blk.arr (10 : Nat) (List.length
    (fx who acts x c' l' x.os i).l) (lsF Pc.c (fx who acts x c' l' x.os i).l)), some (Blk.arr (10 : Nat) (List.length (fx who acts x c' l' x.os i).os) (lsF Oc.c (fx who acts x c' l' x.os
    i).os)), some (Blk.arr (8 : Nat) (List.length (List.map od l')) (lsF Od.c (List.map od l')))])))))) (Tree.br (decide ((List.getD acts i default).k = (1 : Int))) Tree.fail (Tree.br
    (decide ((List.getD acts i default).k = (2 : Int))) (Tree.chk (roomOk (112 : Nat) (List.length x.os + List.length (List.getD acts (Int.toNat (↑i : Int)) default).os)) Tree.fail)
    (Tree.chk (cl (LeL [AV.ptr (0 : Nat) (0 : Nat)] [AV.ptr (0 : Nat) (0 : Nat)] ∧ LeH [some (Blk.row [AV.v (Value.string x.c.who), AV.v (Value.int IntKind.i64 x.c.most), AV.hs (1 : Nat) (0
    : Nat) (List.length x.l), AV.v (Value.int IntKind.i64 x.c.now), AV.v (Value.int IntKind.i64 x.c.heard), AV.v (Value.int IntKind.i64 x.c.wt), AV.v (Value.int IntKind.i64 x.c.en), AV.v
    (Value.int IntKind.i64 x.c.go)]), some (Blk.arr (10 : Nat) (List.length x.l) (lsF Pc.c x.l))] [some (Blk.row [AV.v (Value.string c'.who), AV.v (Value.int IntKind.i64 c'.most), AV.hs (1 :
    Nat) (0 : Nat) (List.length l'), AV.v (Value.int IntKind.i64 c'.now), AV.v (Value.int IntKind.i64 c'.heard), AV.v (Value.int IntKind.i64 c'.wt), AV.v (Value.int IntKind.i64 c'.en), AV.v
    (Value.int IntKind.i64 c'.go)]), some (Blk.arr (10 : Nat) (List.length l') (lsF Pc.c l'))])) (Tree.br (decide ((↑(List.length (List.map od l')) : Int) < (↑(List.length (List.map od x.l))
    : Int))) (Tree.leaf (Out.mk AEx.ret [AV.ptr (0 : Nat) (0 : Nat), AV.hs (2 : Nat) (0 : Nat) (List.length x.os), AV.hs (3 : Nat) (0 : Nat) (List.length (List.map od x.l)), AV.v (Value.int
    IntKind.i64 (↑i : Int)), AV.v (Value.string who), AV.sl (9 : Nat) (List.length acts) (lsF Ac.c acts)] [some (Blk.row [AV.v (Value.string c'.who), AV.v (Value.int IntKind.i64 c'.most),
    AV.hs (1 : Nat) (0 : Nat) (List.length l'), AV.v (Value.int IntKind.i64 c'.now), AV.v (Value.int IntKind.i64 c'.heard), AV.v (Value.int IntKind.i64 c'.wt), AV.v (Value.int IntKind.i64
    c'.en), AV.v (Value.int IntKind.i64 c'.go)]), some (Blk.arr (10 : Nat) (List.length l') (lsF Pc.c l')), some (Blk.arr (10 : Nat) (List.length x.os) (lsF Oc.c x.os)), some (Blk.arr (8 :
    Nat) (List.length (List.map od x.l)) (lsF Od.c (List.map od x.l)))])) (Tree.chk (cl (LeL [AV.ptr (0 : Nat) (0 : Nat), AV.hs (2 : Nat) (0 : Nat) (List.length x.os), AV.hs (3 : Nat) (0 :
    Nat) (List.length (List.map od x.l)), AV.hs (4 : Nat) (0 : Nat) (List.length (List.map od l')), AV.v (Value.int IntKind.i64 (0 : Int)), AV.v (Value.int IntKind.i64 (↑i : Int)), AV.v
    (Value.string who), AV.sl (9 : Nat) (List.length acts) (lsF Ac.c acts)] [AV.ptr (0 : Nat) (0 : Nat), AV.hs (2 : Nat) (0 : Nat) (List.length (fx who acts x c' l' x.os i).os), AV.hs (3 :
    Nat) (0 : Nat) (List.length (fx who acts x c' l' x.os i).ol), AV.hs (4 : Nat) (0 : Nat) (List.length (List.map od l')), AV.v (Value.int IntKind.i64 (↑(0 : Nat) : Int)), AV.v (Value.int
    IntKind.i64 (↑i : Int)), AV.v (Value.string who), AV.sl (9 : Nat) (List.length (fx who acts x c' l' x.os i).acts) (lsF Ac.c (fx who acts x c' l' x.os i).acts)] ∧ LeH [some (Blk.row [AV.v
    (Value.string c'.who), AV.v (Value.int IntKind.i64 c'.most), AV.hs (1 : Nat) (0 : Nat) (List.length l'), AV.v (Value.int IntKind.i64 c'.now), AV.v (Value.int IntKind.i64 c'.heard), AV.v
    (Value.int IntKind.i64 c'.wt), AV.v (Value.int IntKind.i64 c'.en), AV.v (Value.int IntKind.i64 c'.go)]), some (Blk.arr (10 : Nat) (List.length l') (lsF Pc.c l')), some (Blk.arr (10 :
    Nat) (List.length x.os) (lsF Oc.c x.os)), some (Blk.arr (8 : Nat) (List.length (List.map od x.l)) (lsF Od.c (List.map od x.l))), some (Blk.arr (8 : Nat) (List.length (List.map od l'))
    (lsF Od.c (List.map od l')))] [some (Blk.row [AV.v (Value.string c'.who), AV.v (Value.int IntKind.i64 c'.most), AV.hs (1 : Nat) (0 : Nat) (List.length (fx who acts x c' l' x.os i).l),
    AV.v (Value.int IntKind.i64 c'.now), AV.v (Value.int IntKind.i64 c'.heard), AV.v (Value.int IntKind.i64 c'.wt), AV.v (Value.int IntKind.i64 c'.en), AV.v (Value.int IntKind.i64 c'.go)]),
    some (Blk.arr (10 : Nat) (List.length (fx who acts x c' l' x.os i).l) (lsF Pc.c (fx who acts x c' l' x.os i).l)), some (Blk.arr (10 : Nat) (List.length (fx who acts x c' l' x.os i).os)
    (lsF Oc.c (fx who acts x c' l' x.os i).os)), some (Blk.arr (8 : Nat) (List.length (fx who acts x c' l' x.os i).ol) (lsF Od.c (fx who acts x c' l' x.os i).ol)), some (Blk.arr (8 : Nat)
    (List.length (List.map od l')) (lsF Od.c (List.map od l')))])) (Tree.leaf (Out.mk AEx.normal [AV.ptr (0 : Nat) (0 : Nat), AV.hs (2 : Nat) (0 : Nat) (List.length (fx who acts x c' l' x.os
    i).os), AV.hs (3 : Nat) (0 : Nat) (List.length (List.map od l')), AV.v (Value.int IntKind.i64 (IntKind.wrap IntKind.i64 ((↑i : Int) + (1 : Int)))), AV.v (Value.string who), AV.sl (9 :
    Nat) (List.length (fx who acts x c' l' x.os i).acts) (lsF Ac.c (fx who acts x c' l' x.os i).acts)] [some (Blk.row [AV.v (Value.string c'.who), AV.v (Value.int IntKind.i64 c'.most), AV.hs
    (1 : Nat) (0 : Nat) (List.length (fx who acts x c' l' x.os i).l), AV.v (Value.int IntKind.i64 c'.now), AV.v (Value.int IntKind.i64 c'.heard), AV.v (Value.int IntKind.i64 c'.wt), AV.v
    (Value.int IntKind.i64 c'.en), AV.v (Value.int IntKind.i64 c'.go)]), some (Blk.arr (10 : Nat) (List.length (fx who acts x c' l' x.os i).l) (lsF Pc.c (fx who acts x c' l' x.os i).l)),
    some (Blk.arr (10 : Nat) (List.length (fx who acts x c' l' x.os i).os) (lsF Oc.c (fx who acts x c' l' x.os i).os)), some (Blk.arr (8 : Nat) (List.length (List.map od l')) (lsF Od.c
    (List.map od l')))]))))))))) (Tree.leaf (Out.mk (AEx.exit (0 : Nat)) [AV.ptr (0 : Nat) (0 : Nat), AV.hs (2 : Nat) (0 : Nat) (List.length x.os), AV.hs (3 : Nat) (0 : Nat) (List.length
    (List.map od x.l)), AV.v (Value.int IntKind.i64 (↑i : Int)), AV.v (Value.string who), AV.sl (9 : Nat) (List.length acts) (lsF Ac.c acts)] [some (Blk.row [AV.v (Value.string x.c.who),
    AV.v (Value.int IntKind.i64 x.c.most), AV.hs (1 : Nat) (0 : Nat) (List.length x.l), AV.v (Value.int IntKind.i64 x.c.now), AV.v (Value.int IntKind.i64 x.c.heard), AV.v (Value.int
    IntKind.i64 x.c.wt), AV.v (Value.int IntKind.i64 x.c.en), AV.v (Value.int IntKind.i64 x.c.go)]), some (Blk.arr (10 : Nat) (List.length x.l) (lsF Pc.c x.l)), some (Blk.arr (10 : Nat)
    (List.length x.os) (lsF Oc.c x.os)), some (Blk.arr (8 : Nat) (List.length (List.map od x.l)) (lsF Od.c (List.map od x.l)))])) := by kernel_rfl
theorem r0g0 (who : ByteArray) (acts : List Ac) (x : XS) (i : Nat) (t' : Tx) (e : Int) (hG : Answers Tryd.prog Γm 62 [.ptr 0 0, txV (acts.getD i default).tx] (x.c.bl x.l) (.tup [txV t', .v (.int .i64 e)]) ((x.c.bl x.l).map some) []) (hO : Answers Tryd.prog Γm 65 [.ptr 0 0] (x.c.bl x.l) (.hs 2 0 (x.l.map od).length) ((x.c.bl x.l).map some) [lsO (x.l.map od)]) : roundE (P := Tryd.prog) (Γ := Γm) [CT.at 62 hG, CT.at 65 hO] (L2o (fx who acts x x.c x.l x.os i) (x.l.map od)) false 0 0 (lq 0) lv0 nl0 228 (S0 who acts x i).1 (S0 who acts x i).2 =
  Tree.br (decide ((↑i : Int) < (↑(List.length acts) : Int))) (Tree.chk (decide ((0 : Int) ≤ (↑i : Int)) && decide ((↑i : Int) < (↑(List.length acts) : Int))) (Tree.br (decide ((List.getD acts
    i default).k = (0 : Int))) (Tree.chk (cl (LeL [AV.ptr (0 : Nat) (0 : Nat), AV.agg [AV.v (Value.int IntKind.i64 (List.getD acts i default).tx.k), AV.v (Value.string (List.getD acts i
    default).tx.fr), AV.v (Value.string (List.getD acts i default).tx.to), AV.v (Value.string (List.getD acts i default).tx.ky), AV.v (Value.string (List.getD acts i default).tx.vl), AV.v
    (Value.int IntKind.i64 (List.getD acts i default).tx.am), AV.v (Value.int IntKind.i64 (List.getD acts i default).tx.nn)]] [AV.ptr (0 : Nat) (0 : Nat), AV.agg [AV.v (Value.int IntKind.i64
    (List.getD acts i default).tx.k), AV.v (Value.string (List.getD acts i default).tx.fr), AV.v (Value.string (List.getD acts i default).tx.to), AV.v (Value.string (List.getD acts i
    default).tx.ky), AV.v (Value.string (List.getD acts i default).tx.vl), AV.v (Value.int IntKind.i64 (List.getD acts i default).tx.am), AV.v (Value.int IntKind.i64 (List.getD acts i
    default).tx.nn)]] ∧ LeH [some (Blk.row [AV.v (Value.string x.c.who), AV.v (Value.int IntKind.i64 x.c.most), AV.hs (1 : Nat) (0 : Nat) (List.length x.l), AV.v (Value.int IntKind.i64
    x.c.now), AV.v (Value.int IntKind.i64 x.c.heard), AV.v (Value.int IntKind.i64 x.c.wt), AV.v (Value.int IntKind.i64 x.c.en), AV.v (Value.int IntKind.i64 x.c.go)]), some (Blk.arr (10 :
    Nat) (List.length x.l) (lsF Pc.c x.l))] [some (Blk.row [AV.v (Value.string x.c.who), AV.v (Value.int IntKind.i64 x.c.most), AV.hs (1 : Nat) (0 : Nat) (List.length x.l), AV.v (Value.int
    IntKind.i64 x.c.now), AV.v (Value.int IntKind.i64 x.c.heard), AV.v (Value.int IntKind.i64 x.c.wt), AV.v (Value.int IntKind.i64 x.c.en), AV.v (Value.int IntKind.i64 x.c.go)]), some
    (Blk.arr (10 : Nat) (List.length x.l) (lsF Pc.c x.l))])) (Tree.chk (cl (LeL [AV.ptr (0 : Nat) (0 : Nat)] [AV.ptr (0 : Nat) (0 : Nat)] ∧ LeH [some (Blk.row [AV.v (Value.string x.c.who),
    AV.v (Value.int IntKind.i64 x.c.most), AV.hs (1 : Nat) (0 : Nat) (List.length x.l), AV.v (Value.int IntKind.i64 x.c.now), AV.v (Value.int IntKind.i64 x.c.heard), AV.v (Value.int
    IntKind.i64 x.c.wt), AV.v (Value.int IntKind.i64 x.c.en), AV.v (Value.int IntKind.i64 x.c.go)]), some (Blk.arr (10 : Nat) (List.length x.l) (lsF Pc.c x.l))] [some (Blk.row [AV.v
    (Value.string x.c.who), AV.v (Value.int IntKind.i64 x.c.most), AV.hs (1 : Nat) (0 : Nat) (List.length x.l), AV.v (Value.int IntKind.i64 x.c.now), AV.v (Value.int IntKind.i64 x.c.heard),
    AV.v (Value.int IntKind.i64 x.c.wt), AV.v (Value.int IntKind.i64 x.c.en), AV.v (Value.int IntKind.i64 x.c.go)]), some (Blk.arr (10 : Nat) (List.length x.l) (lsF Pc.c x.l))])) (Tree.br
    (decide ((↑(List.length (List.map od x.l)) : Int) < (↑(List.length (List.map od x.l)) : Int))) (Tree.leaf (Out.mk AEx.ret [AV.ptr (0 : Nat) (0 : Nat), AV.hs (2 : Nat) (0 : Nat)
    (List.length x.os), AV.hs (3 : Nat) (0 : Nat) (List.length (List.map od x.l)), AV.v (Value.int IntKind.i64 (↑i : Int)), AV.v (Value.string who), AV.sl (9 : Nat) (List.length acts) (lsF
    Ac.c acts)] [some (Blk.row [AV.v (Value.string x.c.who), AV.v (Value.int IntKind.i64 x.c.most), AV.hs (1 : Nat) (0 : Nat) (List.length x.l), AV.v (Value.int IntKind.i64 x.c.now), AV.v
    (Value.int IntKind.i64 x.c.heard), AV.v (Value.int IntKind.i64 x.c.wt), AV.v (Value.int IntKind.i64 x.c.en), AV.v (Value.int IntKind.i64 x.c.go)]), some (Blk.arr (10 : Nat) (List.length
    x.l) (lsF Pc.c x.l)), some (Blk.arr (10 : Nat) (List.length x.os) (lsF Oc.c x.os)), some (Blk.arr (8 : Nat) (List.length (List.map od x.l)) (lsF Od.c (List.map od x.l)))])) (Tree.chk (cl
    (LeL [AV.ptr (0 : Nat) (0 : Nat), AV.hs (2 : Nat) (0 : Nat) (List.length x.os), AV.hs (3 : Nat) (0 : Nat) (List.length (List.map od x.l)), AV.hs (4 : Nat) (0 : Nat) (List.length
    (List.map od x.l)), AV.v (Value.int IntKind.i64 (0 : Int)), AV.v (Value.int IntKind.i64 (↑i : Int)), AV.v (Value.string who), AV.sl (9 : Nat) (List.length acts) (lsF Ac.c acts)] [AV.ptr
    (0 : Nat) (0 : Nat), AV.hs (2 : Nat) (0 : Nat) (List.length (fx who acts x x.c x.l x.os i).os), AV.hs (3 : Nat) (0 : Nat) (List.length (fx who acts x x.c x.l x.os i).ol), AV.hs (4 : Nat)
    (0 : Nat) (List.length (List.map od x.l)), AV.v (Value.int IntKind.i64 (↑(0 : Nat) : Int)), AV.v (Value.int IntKind.i64 (↑i : Int)), AV.v (Value.string who), AV.sl (9 : Nat) (List.length
    (fx who acts x x.c x.l x.os i).acts) (lsF Ac.c (fx who acts x x.c x.l x.os i).acts)] ∧ LeH [some (Blk.row [AV.v (Value.string x.c.who), AV.v (Value.int IntKind.i64 x.c.most), AV.hs (1 :
    Nat) (0 : Nat) (List.length x.l), AV.v (Value.int IntKind.i64 x.c.now), AV.v (Value.int IntKind.i64 x.c.heard), AV.v (Value.int IntKind.i64 x.c.wt), AV.v (Value.int IntKind.i64 x.c.en),
    AV.v (Value.int IntKind.i64 x.c.go)]), some (Blk.arr (10 : Nat) (List.length x.l) (lsF Pc.c x.l)), some (Blk.arr (10 : Nat) (List.length x.os) (lsF Oc.c x.os)), some (Blk.arr (8 : Nat)
    (List.length (List.map od x.l)) (lsF Od.c (List.map od x.l))), some (Blk.arr (8 : Nat) (List.length (List.map od x.l)) (lsF Od.c (List.map od x.l)))] [some (Blk.row [AV.v (Value.string
    x.c.who), AV.v (Value.int IntKind.i64 x.c.most), AV.hs (1 : Nat) (0 : Nat) (List.length (fx who acts x x.c x.l x.os i).l), AV.v (Value.int IntKind.i64 x.c.now), AV.v (Value.int
    IntKind.i64 x.c.heard), AV.v (Value.int IntKind.i64 x.c.wt), AV.v (Value.int IntKind.i64 x.c.en), AV.v (Value.int IntKind.i64 x.c.go)]), some (Blk.arr (10 : Nat) (List.length (fx who
    acts x x.c x.l x.os i).l) (lsF Pc.c (fx who acts x x.c x.l x.os i).l)), some (Blk.arr (10 : Nat) (List.length (fx who acts x x.c x.l x.os i).os) (lsF Oc.c (fx who acts x x.c x.l x.os
    i).os)), some (Blk.arr (8 : Nat) (List.length (fx who acts x x.c x.l x.os i).ol) (lsF Od.c (fx who acts x x.c x.l x.os i).ol)), some (Blk.arr (8 : Nat) (List.length (List.map od x.l))
    (lsF Od.c (List.map od x.l)))])) (Tree.leaf (Out.mk AEx.normal [AV.ptr (0 : Nat) (0 : Nat), AV.hs (2 : Nat) (0 : Nat) (List.length (fx who acts x x.c x.l x.os i).os), AV.hs (3 : Nat) (0
    : Nat) (List.length (List.map od x.l)), AV.v (Value.int IntKind.i64 (IntKind.wrap IntKind.i64 ((↑i : Int) + (1 : Int)))), AV.v (Value.string who), AV.sl (9 : Nat) (List.length (fx who
    acts x x.c x.l x.os i).acts) (lsF Ac.c (fx who acts x x.c x.l x.os i).acts)] [some (Blk.row [AV.v (Value.string x.c.who), AV.v (Value.int IntKind.i64 x.c.most), AV.hs (1 : Nat) (0 : Nat)
    (List.length (fx who acts x x.c x.l x.os i).l), AV.v (Value.int IntKind.i64 x.c.now), AV.v (Value.int IntKind.i64 x.c.heard), AV.v (Value.int IntKind.i64 x.c.wt), AV.v (Value.int
    IntKind.i64 x.c.en), AV.v (Value.int IntKind.i64 x.c.go)]), some (Blk.arr (10 : Nat) (List.length (fx who acts x x.c x.l x.os i).l) (lsF Pc.c (fx who acts x x.c x.l x.os i).l)), some
    (Blk.arr (10 : Nat) (List.length (fx who acts x x.c x.l x.os i).os) (lsF Oc.c (fx who acts x x.c x.l x.os i).os)), some (Blk.arr (8 : Nat) (List.length (List.map od x.l)) (lsF Od.c
    (List.map od x.l)))])))))) (Tree.br (decide ((List.getD acts i default).k = (1 : Int))) Tree.fail (Tree.br (decide ((List.getD acts i default).k = (2 : Int))) (Tree.chk (roomOk (112 :
    Nat) (List.length x.os + List.length (List.getD acts (Int.toNat (↑i : Int)) default).os)) Tree.fail) (Tree.chk (cl (LeL [AV.ptr (0 : Nat) (0 : Nat)] [AV.ptr (0 : Nat) (0 : Nat)] ∧ LeH
    [some (Blk.row [AV.v (Value.string x.c.who), AV.v (Value.int IntKind.i64 x.c.most), AV.hs (1 : Nat) (0 : Nat) (List.length x.l), AV.v (Value.int IntKind.i64 x.c.now), AV.v (Value.int
    IntKind.i64 x.c.heard), AV.v (Value.int IntKind.i64 x.c.wt), AV.v (Value.int IntKind.i64 x.c.en), AV.v (Value.int IntKind.i64 x.c.go)]), some (Blk.arr (10 : Nat) (List.length x.l) (lsF
    Pc.c x.l))] [some (Blk.row [AV.v (Value.string x.c.who), AV.v (Value.int IntKind.i64 x.c.most), AV.hs (1 : Nat) (0 : Nat) (List.length x.l), AV.v (Value.int IntKind.i64 x.c.now), AV.v
    (Value.int IntKind.i64 x.c.heard), AV.v (Value.int IntKind.i64 x.c.wt), AV.v (Value.int IntKind.i64 x.c.en), AV.v (Value.int IntKind.i64 x.c.go)]), some (Blk.arr (10 : Nat) (List.length
    x.l) (lsF Pc.c x.l))])) (Tree.br (decide ((↑(List.length (List.map od x.l)) : Int) < (↑(List.length (List.map od x.l)) : Int))) (Tree.leaf (Out.mk AEx.ret [AV.ptr (0 : Nat) (0 : Nat),
    AV.hs (2 : Nat) (0 : Nat) (List.length x.os), AV.hs (3 : Nat) (0 : Nat) (List.length (List.map od x.l)), AV.v (Value.int IntKind.i64 (↑i : Int)), AV.v (Value.string who), AV.sl (9 : Nat)
    (List.length acts) (lsF Ac.c acts)] [some (Blk.row [AV.v (Value.string x.c.who), AV.v (Value.int IntKind.i64 x.c.most), AV.hs (1 : Nat) (0 : Nat) (List.length x.l), AV.v (Value.int
    IntKind.i64 x.c.now), AV.v (Value.int IntKind.i64 x.c.heard), AV.v (Value.int IntKind.i64 x.c.wt), AV.v (Value.int IntKind.i64 x.c.en), AV.v (Value.int IntKind.i64 x.c.go)]), some
    (Blk.arr (10 : Nat) (List.length x.l) (lsF Pc.c x.l)), some (Blk.arr (10 : Nat) (List.length x.os) (lsF Oc.c x.os)), some (Blk.arr (8 : Nat) (List.length (List.map od x.l)) (lsF Od.c
    (List.map od x.l)))])) (Tree.chk (cl (LeL [AV.ptr (0 : Nat) (0 : Nat), AV.hs (2 : Nat) (0 : Nat) (List.length x.os), AV.hs (3 : Nat) (0 : Nat) (List.length (List.map od x.l)), AV.hs (4 :
    Nat) (0 : Nat) (List.length (List.map od x.l)), AV.v (Value.int IntKind.i64 (0 : Int)), AV.v (Value.int IntKind.i64 (↑i : Int)), AV.v (Value.string who), AV.sl (9 : Nat) (List.length
    acts) (lsF Ac.c acts)] [AV.ptr (0 : Nat) (0 : Nat), AV.hs (2 : Nat) (0 : Nat) (List.length (fx who acts x x.c x.l x.os i).os), AV.hs (3 : Nat) (0 : Nat) (List.length (fx who acts x x.c
    x.l x.os i).ol), AV.hs (4 : Nat) (0 : Nat) (List.length (List.map od x.l)), AV.v (Value.int IntKind.i64 (↑(0 : Nat) : Int)), AV.v (Value.int IntKind.i64 (↑i : Int)), AV.v (Value.string
    who), AV.sl (9 : Nat) (List.length (fx who acts x x.c x.l x.os i).acts) (lsF Ac.c (fx who acts x x.c x.l x.os i).acts)] ∧ LeH [some (Blk.row [AV.v (Value.string x.c.who), AV.v (Value.int
    IntKind.i64 x.c.most), AV.hs (1 : Nat) (0 : Nat) (List.length x.l), AV.v (Value.int IntKind.i64 x.c.now), AV.v (Value.int IntKind.i64 x.c.heard), AV.v (Value.int IntKind.i64 x.c.wt),
    AV.v (Value.int IntKind.i64 x.c.en), AV.v (Value.int IntKind.i64 x.c.go)]), some (Blk.arr (10 : Nat) (List.length x.l) (lsF Pc.c x.l)), some (Blk.arr (10 : Nat) (List.length x.os) (lsF
    Oc.c x.os)), some (Blk.arr (8 : Nat) (List.length (List.map od x.l)) (lsF Od.c (List.map od x.l))), some (Blk.arr (8 : Nat) (List.length (List.map od x.l)) (lsF Od.c (List.map od x.l)))]
    [some (Blk.row [AV.v (Value.string x.c.who), AV.v (Value.int IntKind.i64 x.c.most), AV.hs (1 : Nat) (0 : Nat) (List.length (fx who acts x x.c x.l x.os i).l), AV.v (Value.int IntKind.i64
    x.c.now), AV.v (Value.int IntKind.i64 x.c.heard), AV.v (Value.int IntKind.i64 x.c.wt), AV.v (Value.int IntKind.i64 x.c.en), AV.v (Value.int IntKind.i64 x.c.go)]), some (Blk.arr (10 :
    Nat) (List.length (fx who acts x x.c x.l x.os i).l) (lsF Pc.c (fx who acts x x.c x.l x.os i).l)), some (Blk.arr (10 : Nat) (List.length (fx who acts x x.c x.l x.os i).os) (lsF Oc.c (fx
    who acts x x.c x.l x.os i).os)), some (Blk.arr (8 : Nat) (List.length (fx who acts x x.c x.l x.os i).ol) (lsF Od.c (fx who acts x x.c x.l x.os i).ol)), some (Blk.arr (8 : Nat)
    (List.length (List.map od x.l)) (lsF Od.c (List.map od x.l)))])) (Tree.leaf (Out.mk AEx.normal [AV.ptr (0 : Nat) (0 : Nat), AV.hs (2 : Nat) (0 : Nat) (List.length (fx who acts x x.c x.l
    x.os i).os), AV.hs (3 : Nat) (0 : Nat) (List.length (List.map od x.l)), AV.v (Value.int IntKind.i64 (IntKind.wrap IntKind.i64 ((↑i : Int) + (1 : Int)))), AV.v (Value.string who), AV.sl
    (9 : Nat) (List.length (fx who acts x x.c x.l x.os i).acts) (lsF Ac.c (fx who acts x x.c x.l x.os i).acts)] [some (Blk.row [AV.v (Value.string x.c.who), AV.v (Value.int IntKind.i64
    x.c.most), AV.hs (1 : Nat) (0 : Nat) (List.length (fx who acts x x.c x.l x.os i).l), AV.v (Value.int IntKind.i64 x.c.now), AV.v (Value.int IntKind.i64 x.c.heard), AV.v (Value.int
    IntKind.i64 x.c.wt), AV.v (Value.int IntKind.i64 x.c.en), AV.v (Value.int IntKind.i64 x.c.go)]), some (Blk.arr (10 : Nat) (List.length (fx who acts x x.c x.l x.os i).l) (lsF Pc.c (fx who
    acts x x.c x.l x.os i).l)), some (Blk.arr (10 : Nat) (List.length (fx who acts x x.c x.l x.os i).os) (lsF Oc.c (fx who acts x x.c x.l x.os i).os)), some (Blk.arr (8 : Nat) (List.length
    (List.map od x.l)) (lsF Od.c (List.map od x.l)))]))))))))) (Tree.leaf (Out.mk (AEx.exit (0 : Nat)) [AV.ptr (0 : Nat) (0 : Nat), AV.hs (2 : Nat) (0 : Nat) (List.length x.os), AV.hs (3 :
    Nat) (0 : Nat) (List.length (List.map od x.l)), AV.v (Value.int IntKind.i64 (↑i : Int)), AV.v (Value.string who), AV.sl (9 : Nat) (List.length acts) (lsF Ac.c acts)] [some (Blk.row [AV.v
    (Value.string x.c.who), AV.v (Value.int IntKind.i64 x.c.most), AV.hs (1 : Nat) (0 : Nat) (List.length x.l), AV.v (Value.int IntKind.i64 x.c.now), AV.v (Value.int IntKind.i64 x.c.heard),
    AV.v (Value.int IntKind.i64 x.c.wt), AV.v (Value.int IntKind.i64 x.c.en), AV.v (Value.int IntKind.i64 x.c.go)]), some (Blk.arr (10 : Nat) (List.length x.l) (lsF Pc.c x.l)), some (Blk.arr
    (10 : Nat) (List.length x.os) (lsF Oc.c x.os)), some (Blk.arr (8 : Nat) (List.length (List.map od x.l)) (lsF Od.c (List.map od x.l)))])) := by kernel_rfl
theorem r0t (who : ByteArray) (acts : List Ac) (x : XS) (i : Nat) (c' : Cs) (l' : List Pc) (xs : List Tx) (hT : Answers Tryd.prog Γm 63 [.ptr 0 0] (x.c.bl x.l) (.hs 2 0 xs.length) ((c'.bl l').map some) [lsT xs]) (hO : Answers Tryd.prog Γm 65 [.ptr 0 0] (c'.bl l') (.hs 2 0 (l'.map od).length) ((c'.bl l').map some) [lsO (l'.map od)]) : roundE (P := Tryd.prog) (Γ := Γm) [CT.at 63 hT, CT.at 65 hO] (L12 (fx who acts x c' l' x.os i) xs (l'.map od)) false 0 0 (lq 0) lv0 nl0 228 (S0 who acts x i).1 (S0 who acts x i).2 =
  Tree.br (decide ((↑i : Int) < (↑(List.length acts) : Int))) (Tree.chk (decide ((0 : Int) ≤ (↑i : Int)) && decide ((↑i : Int) < (↑(List.length acts) : Int))) (Tree.br (decide ((List.getD acts
    i default).k = (0 : Int))) Tree.fail (Tree.br (decide ((List.getD acts i default).k = (1 : Int))) (Tree.chk (cl (LeL [AV.ptr (0 : Nat) (0 : Nat)] [AV.ptr (0 : Nat) (0 : Nat)] ∧ LeH [some
    (Blk.row [AV.v (Value.string x.c.who), AV.v (Value.int IntKind.i64 x.c.most), AV.hs (1 : Nat) (0 : Nat) (List.length x.l), AV.v (Value.int IntKind.i64 x.c.now), AV.v (Value.int
    IntKind.i64 x.c.heard), AV.v (Value.int IntKind.i64 x.c.wt), AV.v (Value.int IntKind.i64 x.c.en), AV.v (Value.int IntKind.i64 x.c.go)]), some (Blk.arr (10 : Nat) (List.length x.l) (lsF
    Pc.c x.l))] [some (Blk.row [AV.v (Value.string x.c.who), AV.v (Value.int IntKind.i64 x.c.most), AV.hs (1 : Nat) (0 : Nat) (List.length x.l), AV.v (Value.int IntKind.i64 x.c.now), AV.v
    (Value.int IntKind.i64 x.c.heard), AV.v (Value.int IntKind.i64 x.c.wt), AV.v (Value.int IntKind.i64 x.c.en), AV.v (Value.int IntKind.i64 x.c.go)]), some (Blk.arr (10 : Nat) (List.length
    x.l) (lsF Pc.c x.l))])) (Tree.chk (cl (LeL [AV.ptr (0 : Nat) (0 : Nat), AV.hs (2 : Nat) (0 : Nat) (List.length x.os), AV.hs (3 : Nat) (0 : Nat) (List.length (List.map od x.l)), AV.hs (4
    : Nat) (0 : Nat) (List.length xs), AV.v (Value.int IntKind.i64 (0 : Int)), AV.v (Value.int IntKind.i64 (↑i : Int)), AV.v (Value.string who), AV.sl (9 : Nat) (List.length acts) (lsF Ac.c
    acts)] [AV.ptr (0 : Nat) (0 : Nat), AV.hs (2 : Nat) (0 : Nat) (List.length (fx who acts x c' l' x.os i).os), AV.hs (3 : Nat) (0 : Nat) (List.length (fx who acts x c' l' x.os i).ol),
    AV.hs (4 : Nat) (0 : Nat) (List.length xs), AV.v (Value.int IntKind.i64 (↑(0 : Nat) : Int)), AV.v (Value.int IntKind.i64 (↑i : Int)), AV.v (Value.string who), AV.sl (9 : Nat)
    (List.length (fx who acts x c' l' x.os i).acts) (lsF Ac.c (fx who acts x c' l' x.os i).acts)] ∧ LeH [some (Blk.row [AV.v (Value.string c'.who), AV.v (Value.int IntKind.i64 c'.most),
    AV.hs (1 : Nat) (0 : Nat) (List.length l'), AV.v (Value.int IntKind.i64 c'.now), AV.v (Value.int IntKind.i64 c'.heard), AV.v (Value.int IntKind.i64 c'.wt), AV.v (Value.int IntKind.i64
    c'.en), AV.v (Value.int IntKind.i64 c'.go)]), some (Blk.arr (10 : Nat) (List.length l') (lsF Pc.c l')), some (Blk.arr (10 : Nat) (List.length x.os) (lsF Oc.c x.os)), some (Blk.arr (8 :
    Nat) (List.length (List.map od x.l)) (lsF Od.c (List.map od x.l))), some (Blk.arr (7 : Nat) (List.length xs) (lsF Tx.c xs))] [some (Blk.row [AV.v (Value.string c'.who), AV.v (Value.int
    IntKind.i64 c'.most), AV.hs (1 : Nat) (0 : Nat) (List.length (fx who acts x c' l' x.os i).l), AV.v (Value.int IntKind.i64 c'.now), AV.v (Value.int IntKind.i64 c'.heard), AV.v (Value.int
    IntKind.i64 c'.wt), AV.v (Value.int IntKind.i64 c'.en), AV.v (Value.int IntKind.i64 c'.go)]), some (Blk.arr (10 : Nat) (List.length (fx who acts x c' l' x.os i).l) (lsF Pc.c (fx who acts
    x c' l' x.os i).l)), some (Blk.arr (10 : Nat) (List.length (fx who acts x c' l' x.os i).os) (lsF Oc.c (fx who acts x c' l' x.os i).os)), some (Blk.arr (8 : Nat) (List.length (fx who acts
    x c' l' x.os i).ol) (lsF Od.c (fx who acts x c' l' x.os i).ol)), some (Blk.arr (7 : Nat) (List.length xs) (lsF Tx.c xs))])) (Tree.chk (cl (LeL [AV.ptr (0 : Nat) (0 : Nat)] [AV.ptr (0 :
    Nat) (0 : Nat)] ∧ LeH [some (Blk.row [AV.v (Value.string c'.who), AV.v (Value.int IntKind.i64 c'.most), AV.hs (1 : Nat) (0 : Nat) (List.length (fx who acts x c' l' x.os i).l), AV.v
    (Value.int IntKind.i64 c'.now), AV.v (Value.int IntKind.i64 c'.heard), AV.v (Value.int IntKind.i64 c'.wt), AV.v (Value.int IntKind.i64 c'.en), AV.v (Value.int IntKind.i64 c'.go)]), some
    (Blk.arr (10 : Nat) (List.length (fx who acts x c' l' x.os i).l) (lsF Pc.c (fx who acts x c' l' x.os i).l))] [some (Blk.row [AV.v (Value.string c'.who), AV.v (Value.int IntKind.i64
    c'.most), AV.hs (1 : Nat) (0 : Nat) (List.length l'), AV.v (Value.int IntKind.i64 c'.now), AV.v (Value.int IntKind.i64 c'.heard), AV.v (Value.int IntKind.i64 c'.wt), AV.v (Value.int
    IntKind.i64 c'.en), AV.v (Value.int IntKind.i64 c'.go)]), some (Blk.arr (10 : Nat) (List.length l') (lsF Pc.c l'))])) (Tree.br (decide ((↑(List.length (List.map od l')) : Int) <
    (↑(List.length (fx who acts x c' l' x.os i).ol) : Int))) (Tree.leaf (Out.mk AEx.ret [AV.ptr (0 : Nat) (0 : Nat), AV.hs (2 : Nat) (0 : Nat) (List.length (fx who acts x c' l' x.os i).os),
    AV.hs (3 : Nat) (0 : Nat) (List.length (fx who acts x c' l' x.os i).ol), AV.v (Value.int IntKind.i64 (↑i : Int)), AV.v (Value.string who), AV.sl (9 : Nat) (List.length (fx who acts x c'
    l' x.os i).acts) (lsF Ac.c (fx who acts x c' l' x.os i).acts)] [some (Blk.row [AV.v (Value.string c'.who), AV.v (Value.int IntKind.i64 c'.most), AV.hs (1 : Nat) (0 : Nat) (List.length
    l'), AV.v (Value.int IntKind.i64 c'.now), AV.v (Value.int IntKind.i64 c'.heard), AV.v (Value.int IntKind.i64 c'.wt), AV.v (Value.int IntKind.i64 c'.en), AV.v (Value.int IntKind.i64
    c'.go)]), some (Blk.arr (10 : Nat) (List.length l') (lsF Pc.c l')), some (Blk.arr (10 : Nat) (List.length (fx who acts x c' l' x.os i).os) (lsF Oc.c (fx who acts x c' l' x.os i).os)),
    some (Blk.arr (8 : Nat) (List.length (fx who acts x c' l' x.os i).ol) (lsF Od.c (fx who acts x c' l' x.os i).ol))])) (Tree.chk (cl (LeL [AV.ptr (0 : Nat) (0 : Nat), AV.hs (2 : Nat) (0 :
    Nat) (List.length (fx who acts x c' l' x.os i).os), AV.hs (3 : Nat) (0 : Nat) (List.length (fx who acts x c' l' x.os i).ol), AV.hs (4 : Nat) (0 : Nat) (List.length (List.map od l')),
    AV.v (Value.int IntKind.i64 (0 : Int)), AV.v (Value.int IntKind.i64 (↑i : Int)), AV.v (Value.string who), AV.sl (9 : Nat) (List.length (fx who acts x c' l' x.os i).acts) (lsF Ac.c (fx
    who acts x c' l' x.os i).acts)] [AV.ptr (0 : Nat) (0 : Nat), AV.hs (2 : Nat) (0 : Nat) (List.length (fx who acts x c' l' x.os i).os), AV.hs (3 : Nat) (0 : Nat) (List.length (fx who acts
    x c' l' x.os i).ol), AV.hs (4 : Nat) (0 : Nat) (List.length (List.map od l')), AV.v (Value.int IntKind.i64 (↑(0 : Nat) : Int)), AV.v (Value.int IntKind.i64 (↑i : Int)), AV.v
    (Value.string who), AV.sl (9 : Nat) (List.length (fx who acts x c' l' x.os i).acts) (lsF Ac.c (fx who acts x c' l' x.os i).acts)] ∧ LeH [some (Blk.row [AV.v (Value.string c'.who), AV.v
    (Value.int IntKind.i64 c'.most), AV.hs (1 : Nat) (0 : Nat) (List.length l'), AV.v (Value.int IntKind.i64 c'.now), AV.v (Value.int IntKind.i64 c'.heard), AV.v (Value.int IntKind.i64
    c'.wt), AV.v (Value.int IntKind.i64 c'.en), AV.v (Value.int IntKind.i64 c'.go)]), some (Blk.arr (10 : Nat) (List.length l') (lsF Pc.c l')), some (Blk.arr (10 : Nat) (List.length (fx who
    acts x c' l' x.os i).os) (lsF Oc.c (fx who acts x c' l' x.os i).os)), some (Blk.arr (8 : Nat) (List.length (fx who acts x c' l' x.os i).ol) (lsF Od.c (fx who acts x c' l' x.os i).ol)),
    some (Blk.arr (8 : Nat) (List.length (List.map od l')) (lsF Od.c (List.map od l')))] [some (Blk.row [AV.v (Value.string c'.who), AV.v (Value.int IntKind.i64 c'.most), AV.hs (1 : Nat) (0
    : Nat) (List.length (fx who acts x c' l' x.os i).l), AV.v (Value.int IntKind.i64 c'.now), AV.v (Value.int IntKind.i64 c'.heard), AV.v (Value.int IntKind.i64 c'.wt), AV.v (Value.int
    IntKind.i64 c'.en), AV.v (Value.int IntKind.i64 c'.go)]), some (Blk.arr (10 : Nat) (List.length (fx who acts x c' l' x.os i).l) (lsF Pc.c (fx who acts x c' l' x.os i).l)), some (Blk.arr
    (10 : Nat) (List.length (fx who acts x c' l' x.os i).os) (lsF Oc.c (fx who acts x c' l' x.os i).os)), some (Blk.arr (8 : Nat) (List.length (fx who acts x c' l' x.os i).ol) (lsF Od.c (fx
    who acts x c' l' x.os i).ol)), some (Blk.arr (8 : Nat) (List.length (List.map od l')) (lsF Od.c (List.map od l')))])) (Tree.leaf (Out.mk AEx.normal [AV.ptr (0 : Nat) (0 : Nat), AV.hs (2
    : Nat) (0 : Nat) (List.length (fx who acts x c' l' x.os i).os), AV.hs (3 : Nat) (0 : Nat) (List.length (List.map od l')), AV.v (Value.int IntKind.i64 (IntKind.wrap IntKind.i64 ((↑i :
    Int) + (1 : Int)))), AV.v (Value.string who), AV.sl (9 : Nat) (List.length (fx who acts x c' l' x.os i).acts) (lsF Ac.c (fx who acts x c' l' x.os i).acts)] [some (Blk.row [AV.v
    (Value.string c'.who), AV.v (Value.int IntKind.i64 c'.most), AV.hs (1 : Nat) (0 : Nat) (List.length (fx who acts x c' l' x.os i).l), AV.v (Value.int IntKind.i64 c'.now), AV.v (Value.int
    IntKind.i64 c'.heard), AV.v (Value.int IntKind.i64 c'.wt), AV.v (Value.int IntKind.i64 c'.en), AV.v (Value.int IntKind.i64 c'.go)]), some (Blk.arr (10 : Nat) (List.length (fx who acts x
    c' l' x.os i).l) (lsF Pc.c (fx who acts x c' l' x.os i).l)), some (Blk.arr (10 : Nat) (List.length (fx who acts x c' l' x.os i).os) (lsF Oc.c (fx who acts x c' l' x.os i).os)), some
    (Blk.arr (8 : Nat) (List.length (List.map od l')) (lsF Od.c (List.map od l')))]))))))) (Tree.br (decide ((List.getD acts i default).k = (2 : Int))) (Tree.chk (roomOk (112 : Nat)
    (List.length x.os + List.length (List.getD acts (Int.toNat (↑i : Int)) default).os)) Tree.fail) (Tree.chk (cl (LeL [AV.ptr (0 : Nat) (0 : Nat)] [AV.ptr (0 : Nat) (0 : Nat)] ∧ LeH [some
    (Blk.row [AV.v (Value.string x.c.who), AV.v (Value.int IntKind.i64 x.c.most), AV.hs (1 : Nat) (0 : Nat) (List.length x.l), AV.v (Value.int IntKind.i64 x.c.now), AV.v (Value.int
    IntKind.i64 x.c.heard), AV.v (Value.int IntKind.i64 x.c.wt), AV.v (Value.int IntKind.i64 x.c.en), AV.v (Value.int IntKind.i64 x.c.go)]), some (Blk.arr (10 : Nat) (List.length x.l) (lsF
    Pc.c x.l))] [some (Blk.row [AV.v (Value.string c'.who), AV.v (Value.int IntKind.i64 c'.most), AV.hs (1 : Nat) (0 : Nat) (List.length l'), AV.v (Value.int IntKind.i64 c'.now), AV.v
    (Value.int IntKind.i64 c'.heard), AV.v (Value.int IntKind.i64 c'.wt), AV.v (Value.int IntKind.i64 c'.en), AV.v (Value.int IntKind.i64 c'.go)]), some (Blk.arr (10 : Nat) (List.length l')
    (lsF Pc.c l'))])) (Tree.br (decide ((↑(List.length (List.map od l')) : Int) < (↑(List.length (List.map od x.l)) : Int))) (Tree.leaf (Out.mk AEx.ret [AV.ptr (0 : Nat) (0 : Nat), AV.hs (2
    : Nat) (0 : Nat) (List.length x.os), AV.hs (3 : Nat) (0 : Nat) (List.length (List.map od x.l)), AV.v (Value.int IntKind.i64 (↑i : Int)), AV.v (Value.string who), AV.sl (9 : Nat)
    (List.length acts) (lsF Ac.c acts)] [some (Blk.row [AV.v (Value.string c'.who), AV.v (Value.int IntKind.i64 c'.most), AV.hs (1 : Nat) (0 : Nat) (List.length l'), AV.v (Value.int
    IntKind.i64 c'.now), AV.v (Value.int IntKind.i64 c'.heard), AV.v (Value.int IntKind.i64 c'.wt), AV.v (Value.int IntKind.i64 c'.en), AV.v (Value.int IntKind.i64 c'.go)]), some (Blk.arr
    (10 : Nat) (List.length l') (lsF Pc.c l')), some (Blk.arr (10 : Nat) (List.length x.os) (lsF Oc.c x.os)), some (Blk.arr (8 : Nat) (List.length (List.map od x.l)) (lsF Od.c (List.map od
    x.l)))])) (Tree.chk (cl (LeL [AV.ptr (0 : Nat) (0 : Nat), AV.hs (2 : Nat) (0 : Nat) (List.length x.os), AV.hs (3 : Nat) (0 : Nat) (List.length (List.map od x.l)), AV.hs (4 : Nat) (0 :
    Nat) (List.length (List.map od l')), AV.v (Value.int IntKind.i64 (0 : Int)), AV.v (Value.int IntKind.i64 (↑i : Int)), AV.v (Value.string who), AV.sl (9 : Nat) (List.length acts) (lsF
    Ac.c acts)] [AV.ptr (0 : Nat) (0 : Nat), AV.hs (2 : Nat) (0 : Nat) (List.length (fx who acts x c' l' x.os i).os), AV.hs (3 : Nat) (0 : Nat) (List.length (fx who acts x c' l' x.os i).ol),
    AV.hs (4 : Nat) (0 : Nat) (List.length (List.map od l')), AV.v (Value.int IntKind.i64 (↑(0 : Nat) : Int)), AV.v (Value.int IntKind.i64 (↑i : Int)), AV.v (Value.string who), AV.sl (9 :
    Nat) (List.length (fx who acts x c' l' x.os i).acts) (lsF Ac.c (fx who acts x c' l' x.os i).acts)] ∧ LeH [some (Blk.row [AV.v (Value.string c'.who), AV.v (Value.int IntKind.i64 c'.most),
    AV.hs (1 : Nat) (0 : Nat) (List.length l'), AV.v (Value.int IntKind.i64 c'.now), AV.v (Value.int IntKind.i64 c'.heard), AV.v (Value.int IntKind.i64 c'.wt), AV.v (Value.int IntKind.i64
    c'.en), AV.v (Value.int IntKind.i64 c'.go)]), some (Blk.arr (10 : Nat) (List.length l') (lsF Pc.c l')), some (Blk.arr (10 : Nat) (List.length x.os) (lsF Oc.c x.os)), some (Blk.arr (8 :
    Nat) (List.length (List.map od x.l)) (lsF Od.c (List.map od x.l))), some (Blk.arr (8 : Nat) (List.length (List.map od l')) (lsF Od.c (List.map od l')))] [some (Blk.row [AV.v
    (Value.string c'.who), AV.v (Value.int IntKind.i64 c'.most), AV.hs (1 : Nat) (0 : Nat) (List.length (fx who acts x c' l' x.os i).l), AV.v (Value.int IntKind.i64 c'.now), AV.v (Value.int
    IntKind.i64 c'.heard), AV.v (Value.int IntKind.i64 c'.wt), AV.v (Value.int IntKind.i64 c'.en), AV.v (Value.int IntKind.i64 c'.go)]), some (Blk.arr (10 : Nat) (List.length (fx who acts x
    c' l' x.os i).l) (lsF Pc.c (fx who acts x c' l' x.os i).l)), some (Blk.arr (10 : Nat) (List.length (fx who acts x c' l' x.os i).os) (lsF Oc.c (fx who acts x c' l' x.os i).os)), some
    (Blk.arr (8 : Nat) (List.length (fx who acts x c' l' x.os i).ol) (lsF Od.c (fx who acts x c' l' x.os i).ol)), some (Blk.arr (8 : Nat) (List.length (List.map od l')) (lsF Od.c (List.map
    od l')))])) (Tree.leaf (Out.mk AEx.normal [AV.ptr (0 : Nat) (0 : Nat), AV.hs (2 : Nat) (0 : Nat) (List.length (fx who acts x c' l' x.os i).os), AV.hs (3 : Nat) (0 : Nat) (List.length
    (List.map od l')), AV.v (Value.int IntKind.i64 (IntKind.wrap IntKind.i64 ((↑i : Int) + (1 : Int)))), AV.v (Value.string who), AV.sl (9 : Nat) (List.length (fx who acts x c' l' x.os
    i).acts) (lsF Ac.c (fx who acts x c' l' x.os i).acts)] [some (Blk.row [AV.v (Value.string c'.who), AV.v (Value.int IntKind.i64 c'.most), AV.hs (1 : Nat) (0 : Nat) (List.length (fx who
    acts x c' l' x.os i).l), AV.v (Value.int IntKind.i64 c'.now), AV.v (Value.int IntKind.i64 c'.heard), AV.v (Value.int IntKind.i64 c'.wt), AV.v (Value.int IntKind.i64 c'.en), AV.v
    (Value.int IntKind.i64 c'.go)]), some (Blk.arr (10 : Nat) (List.length (fx who acts x c' l' x.os i).l) (lsF Pc.c (fx who acts x c' l' x.os i).l)), some (Blk.arr (10 : Nat) (List.length
    (fx who acts x c' l' x.os i).os) (lsF Oc.c (fx who acts x c' l' x.os i).os)), some (Blk.arr (8 : Nat) (List.length (List.map od l')) (lsF Od.c (List.map od l')))]))))))))) (Tree.leaf
    (Out.mk (AEx.exit (0 : Nat)) [AV.ptr (0 : Nat) (0 : Nat), AV.hs (2 : Nat) (0 : Nat) (List.length x.os), AV.hs (3 : Nat) (0 : Nat) (List.length (List.map od x.l)), AV.v (Value.int
    IntKind.i64 (↑i : Int)), AV.v (Value.string who), AV.sl (9 : Nat) (List.length acts) (lsF Ac.c acts)] [some (Blk.row [AV.v (Value.string x.c.who), AV.v (Value.int IntKind.i64 x.c.most),
    AV.hs (1 : Nat) (0 : Nat) (List.length x.l), AV.v (Value.int IntKind.i64 x.c.now), AV.v (Value.int IntKind.i64 x.c.heard), AV.v (Value.int IntKind.i64 x.c.wt), AV.v (Value.int
    IntKind.i64 x.c.en), AV.v (Value.int IntKind.i64 x.c.go)]), some (Blk.arr (10 : Nat) (List.length x.l) (lsF Pc.c x.l)), some (Blk.arr (10 : Nat) (List.length x.os) (lsF Oc.c x.os)), some
    (Blk.arr (8 : Nat) (List.length (List.map od x.l)) (lsF Od.c (List.map od x.l)))])) := by kernel_rfl
theorem r0h (who : ByteArray) (acts : List Ac) (x : XS) (i : Nat) (c' : Cs) (l' : List Pc) (os' : List Oc) (n : Int) (hH : Answers Tryd.prog Γm 64 [.ptr 0 0, .hs 2 0 os'.length] (x.c.bl x.l ++ [lsOc os']) (.v (.int .i64 n)) ((c'.bl l' ++ [lsOc os']).map some) []) (hO : Answers Tryd.prog Γm 65 [.ptr 0 0] (c'.bl l') (.hs 2 0 (l'.map od).length) ((c'.bl l').map some) [lsO (l'.map od)]) : roundE (P := Tryd.prog) (Γ := Γm) [CT.at 64 hH, CT.at 65 hO] (L2o (fx who acts x c' l' os' i) (l'.map od)) false 0 0 (lq 0) lv0 nl0 228 (S0 who acts x i).1 (S0 who acts x i).2 =
  Tree.br (decide ((↑i : Int) < (↑(List.length acts) : Int))) (Tree.chk (decide ((0 : Int) ≤ (↑i : Int)) && decide ((↑i : Int) < (↑(List.length acts) : Int))) (Tree.br (decide ((List.getD acts
    i default).k = (0 : Int))) Tree.fail (Tree.br (decide ((List.getD acts i default).k = (1 : Int))) Tree.fail (Tree.br (decide ((List.getD acts i default).k = (2 : Int))) (Tree.chk (roomOk
    (112 : Nat) (List.length x.os + List.length (List.getD acts (Int.toNat (↑i : Int)) default).os)) (Tree.chk (cl (LeL [AV.ptr (0 : Nat) (0 : Nat), AV.hs (2 : Nat) (0 : Nat) (List.length
    x.os + List.length (List.getD acts (Int.toNat (↑i : Int)) default).os)] [AV.ptr (0 : Nat) (0 : Nat), AV.hs (2 : Nat) (0 : Nat) (List.length os')] ∧ LeH [some (Blk.row [AV.v (Value.string
    x.c.who), AV.v (Value.int IntKind.i64 x.c.most), AV.hs (1 : Nat) (0 : Nat) (List.length x.l), AV.v (Value.int IntKind.i64 x.c.now), AV.v (Value.int IntKind.i64 x.c.heard), AV.v
    (Value.int IntKind.i64 x.c.wt), AV.v (Value.int IntKind.i64 x.c.en), AV.v (Value.int IntKind.i64 x.c.go)]), some (Blk.arr (10 : Nat) (List.length x.l) (lsF Pc.c x.l)), some (Blk.arr (10
    : Nat) (List.length x.os + List.length (List.getD acts (Int.toNat (↑i : Int)) default).os) fun j => mixL (decide (j < List.length x.os)) (lsF Oc.c x.os ((0 : Nat) + j)) (lsF Oc.c
    (List.getD acts (Int.toNat (↑i : Int)) default).os (j - List.length x.os)))] [some (Blk.row [AV.v (Value.string x.c.who), AV.v (Value.int IntKind.i64 x.c.most), AV.hs (1 : Nat) (0 : Nat)
    (List.length x.l), AV.v (Value.int IntKind.i64 x.c.now), AV.v (Value.int IntKind.i64 x.c.heard), AV.v (Value.int IntKind.i64 x.c.wt), AV.v (Value.int IntKind.i64 x.c.en), AV.v (Value.int
    IntKind.i64 x.c.go)]), some (Blk.arr (10 : Nat) (List.length x.l) (lsF Pc.c x.l)), some (Blk.arr (10 : Nat) (List.length os') (lsF Oc.c os'))])) (Tree.chk (cl (LeL [AV.ptr (0 : Nat) (0 :
    Nat)] [AV.ptr (0 : Nat) (0 : Nat)] ∧ LeH [some (Blk.row [AV.v (Value.string c'.who), AV.v (Value.int IntKind.i64 c'.most), AV.hs (1 : Nat) (0 : Nat) (List.length l'), AV.v (Value.int
    IntKind.i64 c'.now), AV.v (Value.int IntKind.i64 c'.heard), AV.v (Value.int IntKind.i64 c'.wt), AV.v (Value.int IntKind.i64 c'.en), AV.v (Value.int IntKind.i64 c'.go)]), some (Blk.arr
    (10 : Nat) (List.length l') (lsF Pc.c l'))] [some (Blk.row [AV.v (Value.string c'.who), AV.v (Value.int IntKind.i64 c'.most), AV.hs (1 : Nat) (0 : Nat) (List.length l'), AV.v (Value.int
    IntKind.i64 c'.now), AV.v (Value.int IntKind.i64 c'.heard), AV.v (Value.int IntKind.i64 c'.wt), AV.v (Value.int IntKind.i64 c'.en), AV.v (Value.int IntKind.i64 c'.go)]), some (Blk.arr
    (10 : Nat) (List.length l') (lsF Pc.c l'))])) (Tree.br (decide ((↑(List.length (List.map od l')) : Int) < (↑(List.length (List.map od x.l)) : Int))) (Tree.leaf (Out.mk AEx.ret [AV.ptr (0
    : Nat) (0 : Nat), AV.hs (2 : Nat) (0 : Nat) (List.length x.os + List.length (List.getD acts (Int.toNat (↑i : Int)) default).os), AV.hs (3 : Nat) (0 : Nat) (List.length (List.map od
    x.l)), AV.v (Value.int IntKind.i64 (↑i : Int)), AV.v (Value.string who), AV.sl (9 : Nat) (List.length acts) (lsF Ac.c acts)] [some (Blk.row [AV.v (Value.string c'.who), AV.v (Value.int
    IntKind.i64 c'.most), AV.hs (1 : Nat) (0 : Nat) (List.length l'), AV.v (Value.int IntKind.i64 c'.now), AV.v (Value.int IntKind.i64 c'.heard), AV.v (Value.int IntKind.i64 c'.wt), AV.v
    (Value.int IntKind.i64 c'.en), AV.v (Value.int IntKind.i64 c'.go)]), some (Blk.arr (10 : Nat) (List.length l') (lsF Pc.c l')), some (Blk.arr (10 : Nat) (List.length os') (lsF Oc.c os')),
    some (Blk.arr (8 : Nat) (List.length (List.map od x.l)) (lsF Od.c (List.map od x.l)))])) (Tree.chk (cl (LeL [AV.ptr (0 : Nat) (0 : Nat), AV.hs (2 : Nat) (0 : Nat) (List.length x.os +
    List.length (List.getD acts (Int.toNat (↑i : Int)) default).os), AV.hs (3 : Nat) (0 : Nat) (List.length (List.map od x.l)), AV.hs (4 : Nat) (0 : Nat) (List.length (List.map od l')), AV.v
    (Value.int IntKind.i64 (0 : Int)), AV.v (Value.int IntKind.i64 (↑i : Int)), AV.v (Value.string who), AV.sl (9 : Nat) (List.length acts) (lsF Ac.c acts)] [AV.ptr (0 : Nat) (0 : Nat),
    AV.hs (2 : Nat) (0 : Nat) (List.length (fx who acts x c' l' os' i).os), AV.hs (3 : Nat) (0 : Nat) (List.length (fx who acts x c' l' os' i).ol), AV.hs (4 : Nat) (0 : Nat) (List.length
    (List.map od l')), AV.v (Value.int IntKind.i64 (↑(0 : Nat) : Int)), AV.v (Value.int IntKind.i64 (↑i : Int)), AV.v (Value.string who), AV.sl (9 : Nat) (List.length (fx who acts x c' l'
    os' i).acts) (lsF Ac.c (fx who acts x c' l' os' i).acts)] ∧ LeH [some (Blk.row [AV.v (Value.string c'.who), AV.v (Value.int IntKind.i64 c'.most), AV.hs (1 : Nat) (0 : Nat) (List.length
    l'), AV.v (Value.int IntKind.i64 c'.now), AV.v (Value.int IntKind.i64 c'.heard), AV.v (Value.int IntKind.i64 c'.wt), AV.v (Value.int IntKind.i64 c'.en), AV.v (Value.int IntKind.i64
    c'.go)]), some (Blk.arr (10 : Nat) (List.length l') (lsF Pc.c l')), some (Blk.arr (10 : Nat) (List.length os') (lsF Oc.c os')), some (Blk.arr (8 : Nat) (List.length (List.map od x.l))
    (lsF Od.c (List.map od x.l))), some (Blk.arr (8 : Nat) (List.length (List.map od l')) (lsF Od.c (List.map od l')))] [some (Blk.row [AV.v (Value.string c'.who), AV.v (Value.int
    IntKind.i64 c'.most), AV.hs (1 : Nat) (0 : Nat) (List.length (fx who acts x c' l' os' i).l), AV.v (Value.int IntKind.i64 c'.now), AV.v (Value.int IntKind.i64 c'.heard), AV.v (Value.int
    IntKind.i64 c'.wt), AV.v (Value.int IntKind.i64 c'.en), AV.v (Value.int IntKind.i64 c'.go)]), some (Blk.arr (10 : Nat) (List.length (fx who acts x c' l' os' i).l) (lsF Pc.c (fx who acts
    x c' l' os' i).l)), some (Blk.arr (10 : Nat) (List.length (fx who acts x c' l' os' i).os) (lsF Oc.c (fx who acts x c' l' os' i).os)), some (Blk.arr (8 : Nat) (List.length (fx who acts x
    c' l' os' i).ol) (lsF Od.c (fx who acts x c' l' os' i).ol)), some (Blk.arr (8 : Nat) (List.length (List.map od l')) (lsF Od.c (List.map od l')))])) (Tree.leaf (Out.mk AEx.normal [AV.ptr
    (0 : Nat) (0 : Nat), AV.hs (2 : Nat) (0 : Nat) (List.length (fx who acts x c' l' os' i).os), AV.hs (3 : Nat) (0 : Nat) (List.length (List.map od l')), AV.v (Value.int IntKind.i64
    (IntKind.wrap IntKind.i64 ((↑i : Int) + (1 : Int)))), AV.v (Value.string who), AV.sl (9 : Nat) (List.length (fx who acts x c' l' os' i).acts) (lsF Ac.c (fx who acts x c' l' os' i).acts)]
    [some (Blk.row [AV.v (Value.string c'.who), AV.v (Value.int IntKind.i64 c'.most), AV.hs (1 : Nat) (0 : Nat) (List.length (fx who acts x c' l' os' i).l), AV.v (Value.int IntKind.i64
    c'.now), AV.v (Value.int IntKind.i64 c'.heard), AV.v (Value.int IntKind.i64 c'.wt), AV.v (Value.int IntKind.i64 c'.en), AV.v (Value.int IntKind.i64 c'.go)]), some (Blk.arr (10 : Nat)
    (List.length (fx who acts x c' l' os' i).l) (lsF Pc.c (fx who acts x c' l' os' i).l)), some (Blk.arr (10 : Nat) (List.length (fx who acts x c' l' os' i).os) (lsF Oc.c (fx who acts x c'
    l' os' i).os)), some (Blk.arr (8 : Nat) (List.length (List.map od l')) (lsF Od.c (List.map od l')))]))))))) (Tree.chk (cl (LeL [AV.ptr (0 : Nat) (0 : Nat)] [AV.ptr (0 : Nat) (0 : Nat)] ∧
    LeH [some (Blk.row [AV.v (Value.string x.c.who), AV.v (Value.int IntKind.i64 x.c.most), AV.hs (1 : Nat) (0 : Nat) (List.length x.l), AV.v (Value.int IntKind.i64 x.c.now), AV.v (Value.int
    IntKind.i64 x.c.heard), AV.v (Value.int IntKind.i64 x.c.wt), AV.v (Value.int IntKind.i64 x.c.en), AV.v (Value.int IntKind.i64 x.c.go)]), some (Blk.arr (10 : Nat) (List.length x.l) (lsF
    Pc.c x.l))] [some (Blk.row [AV.v (Value.string c'.who), AV.v (Value.int IntKind.i64 c'.most), AV.hs (1 : Nat) (0 : Nat) (List.length l'), AV.v (Value.int IntKind.i64 c'.now), AV.v
    (Value.int IntKind.i64 c'.heard), AV.v (Value.int IntKind.i64 c'.wt), AV.v (Value.int IntKind.i64 c'.en), AV.v (Value.int IntKind.i64 c'.go)]), some (Blk.arr (10 : Nat) (List.length l')
    (lsF Pc.c l'))])) (Tree.br (decide ((↑(List.length (List.map od l')) : Int) < (↑(List.length (List.map od x.l)) : Int))) (Tree.leaf (Out.mk AEx.ret [AV.ptr (0 : Nat) (0 : Nat), AV.hs (2
    : Nat) (0 : Nat) (List.length x.os), AV.hs (3 : Nat) (0 : Nat) (List.length (List.map od x.l)), AV.v (Value.int IntKind.i64 (↑i : Int)), AV.v (Value.string who), AV.sl (9 : Nat)
    (List.length acts) (lsF Ac.c acts)] [some (Blk.row [AV.v (Value.string c'.who), AV.v (Value.int IntKind.i64 c'.most), AV.hs (1 : Nat) (0 : Nat) (List.length l'), AV.v (Value.int
    IntKind.i64 c'.now), AV.v (Value.int IntKind.i64 c'.heard), AV.v (Value.int IntKind.i64 c'.wt), AV.v (Value.int IntKind.i64 c'.en), AV.v (Value.int IntKind.i64 c'.go)]), some (Blk.arr
    (10 : Nat) (List.length l') (lsF Pc.c l')), some (Blk.arr (10 : Nat) (List.length x.os) (lsF Oc.c x.os)), some (Blk.arr (8 : Nat) (List.length (List.map od x.l)) (lsF Od.c (List.map od
    x.l)))])) (Tree.chk (cl (LeL [AV.ptr (0 : Nat) (0 : Nat), AV.hs (2 : Nat) (0 : Nat) (List.length x.os), AV.hs (3 : Nat) (0 : Nat) (List.length (List.map od x.l)), AV.hs (4 : Nat) (0 :
    Nat) (List.length (List.map od l')), AV.v (Value.int IntKind.i64 (0 : Int)), AV.v (Value.int IntKind.i64 (↑i : Int)), AV.v (Value.string who), AV.sl (9 : Nat) (List.length acts) (lsF
    Ac.c acts)] [AV.ptr (0 : Nat) (0 : Nat), AV.hs (2 : Nat) (0 : Nat) (List.length (fx who acts x c' l' os' i).os), AV.hs (3 : Nat) (0 : Nat) (List.length (fx who acts x c' l' os' i).ol),
    AV.hs (4 : Nat) (0 : Nat) (List.length (List.map od l')), AV.v (Value.int IntKind.i64 (↑(0 : Nat) : Int)), AV.v (Value.int IntKind.i64 (↑i : Int)), AV.v (Value.string who), AV.sl (9 :
    Nat) (List.length (fx who acts x c' l' os' i).acts) (lsF Ac.c (fx who acts x c' l' os' i).acts)] ∧ LeH [some (Blk.row [AV.v (Value.string c'.who), AV.v (Value.int IntKind.i64 c'.most),
    AV.hs (1 : Nat) (0 : Nat) (List.length l'), AV.v (Value.int IntKind.i64 c'.now), AV.v (Value.int IntKind.i64 c'.heard), AV.v (Value.int IntKind.i64 c'.wt), AV.v (Value.int IntKind.i64
    c'.en), AV.v (Value.int IntKind.i64 c'.go)]), some (Blk.arr (10 : Nat) (List.length l') (lsF Pc.c l')), some (Blk.arr (10 : Nat) (List.length x.os) (lsF Oc.c x.os)), some (Blk.arr (8 :
    Nat) (List.length (List.map od x.l)) (lsF Od.c (List.map od x.l))), some (Blk.arr (8 : Nat) (List.length (List.map od l')) (lsF Od.c (List.map od l')))] [some (Blk.row [AV.v
    (Value.string c'.who), AV.v (Value.int IntKind.i64 c'.most), AV.hs (1 : Nat) (0 : Nat) (List.length (fx who acts x c' l' os' i).l), AV.v (Value.int IntKind.i64 c'.now), AV.v (Value.int
    IntKind.i64 c'.heard), AV.v (Value.int IntKind.i64 c'.wt), AV.v (Value.int IntKind.i64 c'.en), AV.v (Value.int IntKind.i64 c'.go)]), some (Blk.arr (10 : Nat) (List.length (fx who acts x
    c' l' os' i).l) (lsF Pc.c (fx who acts x c' l' os' i).l)), some (Blk.arr (10 : Nat) (List.length (fx who acts x c' l' os' i).os) (lsF Oc.c (fx who acts x c' l' os' i).os)), some (Blk.arr
    (8 : Nat) (List.length (fx who acts x c' l' os' i).ol) (lsF Od.c (fx who acts x c' l' os' i).ol)), some (Blk.arr (8 : Nat) (List.length (List.map od l')) (lsF Od.c (List.map od l')))]))
    (Tree.leaf (Out.mk AEx.normal [AV.ptr (0 : Nat) (0 : Nat), AV.hs (2 : Nat) (0 : Nat) (List.length (fx who acts x c' l' os' i).os), AV.hs (3 : Nat) (0 : Nat) (List.length (List.map od
    l')), AV.v (Value.int IntKind.i64 (IntKind.wrap IntKind.i64 ((↑i : Int) + (1 : Int)))), AV.v (Value.string who), AV.sl (9 : Nat) (List.length (fx who acts x c' l' os' i).acts) (lsF Ac.c
    (fx who acts x c' l' os' i).acts)] [some (Blk.row [AV.v (Value.string c'.who), AV.v (Value.int IntKind.i64 c'.most), AV.hs (1 : Nat) (0 : Nat) (List.length (fx who acts x c' l' os'
    i).l), AV.v (Value.int IntKind.i64 c'.now), AV.v (Value.int IntKind.i64 c'.heard), AV.v (Value.int IntKind.i64 c'.wt), AV.v (Value.int IntKind.i64 c'.en), AV.v (Value.int IntKind.i64
    c'.go)]), some (Blk.arr (10 : Nat) (List.length (fx who acts x c' l' os' i).l) (lsF Pc.c (fx who acts x c' l' os' i).l)), some (Blk.arr (10 : Nat) (List.length (fx who acts x c' l' os'
    i).os) (lsF Oc.c (fx who acts x c' l' os' i).os)), some (Blk.arr (8 : Nat) (List.length (List.map od l')) (lsF Od.c (List.map od l')))]))))))))) (Tree.leaf (Out.mk (AEx.exit (0 : Nat))
    [AV.ptr (0 : Nat) (0 : Nat), AV.hs (2 : Nat) (0 : Nat) (List.length x.os), AV.hs (3 : Nat) (0 : Nat) (List.length (List.map od x.l)), AV.v (Value.int IntKind.i64 (↑i : Int)), AV.v
    (Value.string who), AV.sl (9 : Nat) (List.length acts) (lsF Ac.c acts)] [some (Blk.row [AV.v (Value.string x.c.who), AV.v (Value.int IntKind.i64 x.c.most), AV.hs (1 : Nat) (0 : Nat)
    (List.length x.l), AV.v (Value.int IntKind.i64 x.c.now), AV.v (Value.int IntKind.i64 x.c.heard), AV.v (Value.int IntKind.i64 x.c.wt), AV.v (Value.int IntKind.i64 x.c.en), AV.v (Value.int
    IntKind.i64 x.c.go)]), some (Blk.arr (10 : Nat) (List.length x.l) (lsF Pc.c x.l)), some (Blk.arr (10 : Nat) (List.length x.os) (lsF Oc.c x.os)), some (Blk.arr (8 : Nat) (List.length
    (List.map od x.l)) (lsF Od.c (List.map od x.l)))])) := by kernel_rfl
theorem r0n (who : ByteArray) (acts : List Ac) (x : XS) (i : Nat) (hO : Answers Tryd.prog Γm 65 [.ptr 0 0] (x.c.bl x.l) (.hs 2 0 (x.l.map od).length) ((x.c.bl x.l).map some) [lsO (x.l.map od)]) : roundE (P := Tryd.prog) (Γ := Γm) [CT.at 65 hO] (L2o (fx who acts x x.c x.l x.os i) (x.l.map od)) false 0 0 (lq 0) lv0 nl0 228 (S0 who acts x i).1 (S0 who acts x i).2 =
  Tree.br (decide ((↑i : Int) < (↑(List.length acts) : Int))) (Tree.chk (decide ((0 : Int) ≤ (↑i : Int)) && decide ((↑i : Int) < (↑(List.length acts) : Int))) (Tree.br (decide ((List.getD acts
    i default).k = (0 : Int))) Tree.fail (Tree.br (decide ((List.getD acts i default).k = (1 : Int))) Tree.fail (Tree.br (decide ((List.getD acts i default).k = (2 : Int))) (Tree.chk (roomOk
    (112 : Nat) (List.length x.os + List.length (List.getD acts (Int.toNat (↑i : Int)) default).os)) Tree.fail) (Tree.chk (cl (LeL [AV.ptr (0 : Nat) (0 : Nat)] [AV.ptr (0 : Nat) (0 : Nat)] ∧
    LeH [some (Blk.row [AV.v (Value.string x.c.who), AV.v (Value.int IntKind.i64 x.c.most), AV.hs (1 : Nat) (0 : Nat) (List.length x.l), AV.v (Value.int IntKind.i64 x.c.now), AV.v (Value.int
    IntKind.i64 x.c.heard), AV.v (Value.int IntKind.i64 x.c.wt), AV.v (Value.int IntKind.i64 x.c.en), AV.v (Value.int IntKind.i64 x.c.go)]), some (Blk.arr (10 : Nat) (List.length x.l) (lsF
    Pc.c x.l))] [some (Blk.row [AV.v (Value.string x.c.who), AV.v (Value.int IntKind.i64 x.c.most), AV.hs (1 : Nat) (0 : Nat) (List.length x.l), AV.v (Value.int IntKind.i64 x.c.now), AV.v
    (Value.int IntKind.i64 x.c.heard), AV.v (Value.int IntKind.i64 x.c.wt), AV.v (Value.int IntKind.i64 x.c.en), AV.v (Value.int IntKind.i64 x.c.go)]), some (Blk.arr (10 : Nat) (List.length
    x.l) (lsF Pc.c x.l))])) (Tree.br (decide ((↑(List.length (List.map od x.l)) : Int) < (↑(List.length (List.map od x.l)) : Int))) (Tree.leaf (Out.mk AEx.ret [AV.ptr (0 : Nat) (0 : Nat),
    AV.hs (2 : Nat) (0 : Nat) (List.length x.os), AV.hs (3 : Nat) (0 : Nat) (List.length (List.map od x.l)), AV.v (Value.int IntKind.i64 (↑i : Int)), AV.v (Value.string who), AV.sl (9 : Nat)
    (List.length acts) (lsF Ac.c acts)] [some (Blk.row [AV.v (Value.string x.c.who), AV.v (Value.int IntKind.i64 x.c.most), AV.hs (1 : Nat) (0 : Nat) (List.length x.l), AV.v (Value.int
    IntKind.i64 x.c.now), AV.v (Value.int IntKind.i64 x.c.heard), AV.v (Value.int IntKind.i64 x.c.wt), AV.v (Value.int IntKind.i64 x.c.en), AV.v (Value.int IntKind.i64 x.c.go)]), some
    (Blk.arr (10 : Nat) (List.length x.l) (lsF Pc.c x.l)), some (Blk.arr (10 : Nat) (List.length x.os) (lsF Oc.c x.os)), some (Blk.arr (8 : Nat) (List.length (List.map od x.l)) (lsF Od.c
    (List.map od x.l)))])) (Tree.chk (cl (LeL [AV.ptr (0 : Nat) (0 : Nat), AV.hs (2 : Nat) (0 : Nat) (List.length x.os), AV.hs (3 : Nat) (0 : Nat) (List.length (List.map od x.l)), AV.hs (4 :
    Nat) (0 : Nat) (List.length (List.map od x.l)), AV.v (Value.int IntKind.i64 (0 : Int)), AV.v (Value.int IntKind.i64 (↑i : Int)), AV.v (Value.string who), AV.sl (9 : Nat) (List.length
    acts) (lsF Ac.c acts)] [AV.ptr (0 : Nat) (0 : Nat), AV.hs (2 : Nat) (0 : Nat) (List.length (fx who acts x x.c x.l x.os i).os), AV.hs (3 : Nat) (0 : Nat) (List.length (fx who acts x x.c
    x.l x.os i).ol), AV.hs (4 : Nat) (0 : Nat) (List.length (List.map od x.l)), AV.v (Value.int IntKind.i64 (↑(0 : Nat) : Int)), AV.v (Value.int IntKind.i64 (↑i : Int)), AV.v (Value.string
    who), AV.sl (9 : Nat) (List.length (fx who acts x x.c x.l x.os i).acts) (lsF Ac.c (fx who acts x x.c x.l x.os i).acts)] ∧ LeH [some (Blk.row [AV.v (Value.string x.c.who), AV.v (Value.int
    IntKind.i64 x.c.most), AV.hs (1 : Nat) (0 : Nat) (List.length x.l), AV.v (Value.int IntKind.i64 x.c.now), AV.v (Value.int IntKind.i64 x.c.heard), AV.v (Value.int IntKind.i64 x.c.wt),
    AV.v (Value.int IntKind.i64 x.c.en), AV.v (Value.int IntKind.i64 x.c.go)]), some (Blk.arr (10 : Nat) (List.length x.l) (lsF Pc.c x.l)), some (Blk.arr (10 : Nat) (List.length x.os) (lsF
    Oc.c x.os)), some (Blk.arr (8 : Nat) (List.length (List.map od x.l)) (lsF Od.c (List.map od x.l))), some (Blk.arr (8 : Nat) (List.length (List.map od x.l)) (lsF Od.c (List.map od x.l)))]
    [some (Blk.row [AV.v (Value.string x.c.who), AV.v (Value.int IntKind.i64 x.c.most), AV.hs (1 : Nat) (0 : Nat) (List.length (fx who acts x x.c x.l x.os i).l), AV.v (Value.int IntKind.i64
    x.c.now), AV.v (Value.int IntKind.i64 x.c.heard), AV.v (Value.int IntKind.i64 x.c.wt), AV.v (Value.int IntKind.i64 x.c.en), AV.v (Value.int IntKind.i64 x.c.go)]), some (Blk.arr (10 :
    Nat) (List.length (fx who acts x x.c x.l x.os i).l) (lsF Pc.c (fx who acts x x.c x.l x.os i).l)), some (Blk.arr (10 : Nat) (List.length (fx who acts x x.c x.l x.os i).os) (lsF Oc.c (fx
    who acts x x.c x.l x.os i).os)), some (Blk.arr (8 : Nat) (List.length (fx who acts x x.c x.l x.os i).ol) (lsF Od.c (fx who acts x x.c x.l x.os i).ol)), some (Blk.arr (8 : Nat)
    (List.length (List.map od x.l)) (lsF Od.c (List.map od x.l)))])) (Tree.leaf (Out.mk AEx.normal [AV.ptr (0 : Nat) (0 : Nat), AV.hs (2 : Nat) (0 : Nat) (List.length (fx who acts x x.c x.l
    x.os i).os), AV.hs (3 : Nat) (0 : Nat) (List.length (List.map od x.l)), AV.v (Value.int IntKind.i64 (IntKind.wrap IntKind.i64 ((↑i : Int) + (1 : Int)))), AV.v (Value.string who), AV.sl
    (9 : Nat) (List.length (fx who acts x x.c x.l x.os i).acts) (lsF Ac.c (fx who acts x x.c x.l x.os i).acts)] [some (Blk.row [AV.v (Value.string x.c.who), AV.v (Value.int IntKind.i64
    x.c.most), AV.hs (1 : Nat) (0 : Nat) (List.length (fx who acts x x.c x.l x.os i).l), AV.v (Value.int IntKind.i64 x.c.now), AV.v (Value.int IntKind.i64 x.c.heard), AV.v (Value.int
    IntKind.i64 x.c.wt), AV.v (Value.int IntKind.i64 x.c.en), AV.v (Value.int IntKind.i64 x.c.go)]), some (Blk.arr (10 : Nat) (List.length (fx who acts x x.c x.l x.os i).l) (lsF Pc.c (fx who
    acts x x.c x.l x.os i).l)), some (Blk.arr (10 : Nat) (List.length (fx who acts x x.c x.l x.os i).os) (lsF Oc.c (fx who acts x x.c x.l x.os i).os)), some (Blk.arr (8 : Nat) (List.length
    (List.map od x.l)) (lsF Od.c (List.map od x.l)))]))))))))) (Tree.leaf (Out.mk (AEx.exit (0 : Nat)) [AV.ptr (0 : Nat) (0 : Nat), AV.hs (2 : Nat) (0 : Nat) (List.length x.os), AV.hs (3 :
    Nat) (0 : Nat) (List.length (List.map od x.l)), AV.v (Value.int IntKind.i64 (↑i : Int)), AV.v (Value.string who), AV.sl (9 : Nat) (List.length acts) (lsF Ac.c acts)] [some (Blk.row [AV.v
    (Value.string x.c.who), AV.v (Value.int IntKind.i64 x.c.most), AV.hs (1 : Nat) (0 : Nat) (List.length x.l), AV.v (Value.int IntKind.i64 x.c.now), AV.v (Value.int IntKind.i64 x.c.heard),
    AV.v (Value.int IntKind.i64 x.c.wt), AV.v (Value.int IntKind.i64 x.c.en), AV.v (Value.int IntKind.i64 x.c.go)]), some (Blk.arr (10 : Nat) (List.length x.l) (lsF Pc.c x.l)), some (Blk.arr
    (10 : Nat) (List.length x.os) (lsF Oc.c x.os)), some (Blk.arr (8 : Nat) (List.length (List.map od x.l)) (lsF Od.c (List.map od x.l)))])) := by kernel_rfl
end Go.Eng.TA.C

namespace Go.Eng.TA.C
open Go Go.Eng Go.Eng.M Go.Lib Go.Proofs
theorem Cod.cat {α : Type} [Inhabited α] {c : α → List AV} {sz : Nat} (h : Cod c sz) (l r : List α) {n N : Nat} (hn : n = l.length) (hN : N = l.length + r.length) :
    OLe (some (.arr sz N fun j => mixL (decide (j < n)) (lsF c l j) (lsF c r (j - n)))) (some (.arr sz (l ++ r).length (lsF c (l ++ r)))) := by
  subst hn
  refine h.row (by rw [List.length_append]; exact hN) fun e he => ?_
  simp only [lsF_at, h.mix]
  refine congrArg c ?_
  by_cases hl : e < l.length
  · rw [decide_eq_true hl, getD_app hl]; rfl
  · rw [decide_eq_false hl, getD_app' (by omega)]; rfl
theorem z0 : ((0 : Nat) : Int) = 0 := rfl
structure pre0 (who : ByteArray) (acts : List Ac) (x : XS) (i : Nat) : Prop where
  fi : i ≤ acts.length
  fw : x.c.who = who
  inv : Inv who x.c.now x.l
  n0 : 0 ≤ x.c.now
  n1 : x.c.now ≤ (i : Int)
  ll : x.l.length ≤ i
  os : x.os.length ≤ 30 * i
  hd : 0 ≤ x.c.heard
  nn : ∀ j, -9223372036854775808 ≤ (x.os.getD j default).tx.nn ∧ (x.os.getD j default).tx.nn ≤ 9223372036854775807
structure okActs (who : ByteArray) (acts : List Ac) : Prop where
  n : acts.length ≤ 60
  w : who.size ≤ 10000000
  t : ∀ i, i < acts.length → smallT (acts.getD i default).tx
  o : ∀ i, i < acts.length → (acts.getD i default).os.length ≤ 30
  nn : ∀ i, i < acts.length → ∀ j, -9223372036854775808 ≤ ((acts.getD i default).os.getD j default).tx.nn ∧ ((acts.getD i default).os.getD j default).tx.nn ≤ 9223372036854775807
noncomputable def fin (acts : List Ac) (x : XS) (i : Nat) : XS := (acts.drop i).foldl stepA x
theorem fin_next {acts : List Ac} {x : XS} {i : Nat} (h : i < acts.length) : fin acts x i = fin acts (stepA x (acts.getD i default)) (i + 1) := by
  unfold fin
  rw [List.drop_eq_getElem_cons h, List.foldl_cons, getD_get h]
theorem fin_end {acts : List Ac} {x : XS} {i : Nat} (h : acts.length ≤ i) : fin acts x i = x := by
  unfold fin
  rw [List.drop_eq_nil_of_le h]; rfl
abbrev RO (who : ByteArray) (acts : List Ac) (x : XS) (i : Nat) : Prop := RoundOK Tryd.prog Γm 0 228 0 (lq 0) lv0 nl0 (S0 who acts x i) (OwesA (fun y : XS × Nat => S0 who acts y.1 y.2) (fun y => pre0 who acts y.1 y.2) (fun y => O0 (fin acts y.1 y.2)) (fun y => acts.length - y.2) (acts.length - i) (O0 (fin acts x i)))
theorem go {who : ByteArray} {acts : List Ac} {x x' : XS} {i : Nat} {fr : List AV} {H : Heap} (hi : i < acts.length) (hs : stepA x (acts.getD i default) = x') (h1 : LeL fr (S0 who acts x' (i + 1)).1) (h2 : LeH H (S0 who acts x' (i + 1)).2) (hp : pre0 who acts x' (i + 1)) :
    ∃ y : XS × Nat, LeL fr (S0 who acts y.1 y.2).1 ∧ LeH H (S0 who acts y.1 y.2).2 ∧ pre0 who acts y.1 y.2 ∧ O0 (fin acts y.1 y.2) = O0 (fin acts x i) ∧ acts.length - y.2 < acts.length - i :=
  ⟨(x', i + 1), h1, h2, hp, by rw [fin_next hi, hs], by show acts.length - (i + 1) < acts.length - i; omega⟩
theorem nwF {who : ByteArray} {n : Int} {l' : List Pc} (h : Inv who n l') : ∀ k, k < (l'.map od).length → ((l'.map od).getD k default).tx.nn = (k : Int) + 1 ∧ ((l'.map od).getD k default).tx.fr = who := fun k hk => by
  rw [List.length_map] at hk
  rw [getD_map hk]
  exact ⟨(h k hk).nn, (h k hk).fr⟩
theorem olF {l l' : List Pc} (h : Mono l l') : ∀ k, k < (l.map od).length → ((l.map od).getD k default).tx = ((l'.map od).getD k default).tx ∧ (¬ ((l.map od).getD k default).st = 0 → ((l.map od).getD k default).st = ((l'.map od).getD k default).st) := fun k hk => by
  rw [List.length_map] at hk
  have hk' : k < l'.length := Nat.lt_of_lt_of_le hk h.1
  rw [getD_map hk, getD_map hk']
  obtain ⟨h1, h2⟩ := h.2 k hk
  exact ⟨h1.symm, fun hs => (h2 hs).symm⟩
theorem brF {who : ByteArray} {n m : Int} {l : List Pc} (h : Inv who m l) : ∀ k, k < (outT n l l.length).length → Brought (l.map od) ((outT n l l.length).getD k default) := fun k hk => by
  obtain ⟨j, hj, e1, e2, e3, _⟩ := out_mem h (t := (outT n l l.length).getD k default) (by rw [getD_get hk]; exact List.getElem_mem hk)
  have hkO : kO ((outT n l l.length).getD k default) = j := by unfold kO; omega
  refine ⟨by omega, by rw [List.length_map]; omega, ?_, ?_⟩
  · rw [hkO, getD_map hj]; exact e2
  · rw [hkO, getD_map hj]; exact e1.symm
theorem l2ok {y : Fix} {who : ByteArray} {n : Int} {l l' : List Pc} (hw : y.who = who) (ho : y.ol = l.map od) (hl : l'.length ≤ 100000) (h : Inv who n l') (m : Mono l l') : LoopOK Tryd.prog Γm 0 228 (lq 2) (LSpec.at lv2 [] (S2 y (l'.map od) 0) (O2 y (l'.map od))) := by
  refine loop2 (by rw [List.length_map]; exact hl) (by rw [ho, List.length_map, List.length_map]; exact m.1) (by rw [hw]; exact nwF h) (by rw [ho]; exact olF m) 0 (Nat.zero_le _)
theorem l1ok {y : Fix} {who : ByteArray} {n m : Int} {l : List Pc} (ho : y.ol = l.map od) (hl : l.length ≤ 100000) (h : Inv who m l) : LoopOK Tryd.prog Γm 0 228 (lq 1) (LSpec.at lv1 [] (S1 y (outT n l l.length) 0) (O1 y)) :=
  loop1 (by have := out_le (n := n) (l := l) (i := l.length); omega) (by rw [ho, List.length_map]; exact hl) (by rw [ho]; exact brF h) 0 (Nat.zero_le _)
theorem c0end {who : ByteArray} {acts : List Ac} {x : XS} {i : Nat} (hp : pre0 who acts x i) (ha : okActs who acts) (hi : acts.length ≤ i) : RO who acts x i := by
  refine .of (L := Lno) (failOK fun _ _ _ => rfl) (r0e who acts x i) ?_
  rw [fin_end hi]
  have hn := ha.n
  repeat' (first | refine wC (by first | omega | (simp only [W1, cond_true, cond_false]; first | done | omega)) ?_ | refine wT (by first | omega | (simp only [W1, cond_true, cond_false]; first | done | omega)) ?_ | refine wF (by intro _h; first | omega | (simp only [W1, cond_true, cond_false] at _h; first | done | omega)) ?_ | (refine wS ?_ ?_ <;> intro _h <;> simp only [W1, cond_true, cond_false] at _h))
  all_goals simp only [W1, W2, owesN, owesX, owesR, cond_true, cond_false]
  repeat' (first | apply And.intro | intro _hc)
  all_goals first | exact rfl | exact LeL.refl _ | exact ⟨.refl _, .any _, .refl _, .any _, .any _, .any _, trivial⟩ | exact ⟨.refl _, .refl _, .none _, .refl _, trivial⟩ | exact AV.le_refl _ | exact AV.le_any _ | exact OLe.refl _ | exact OLe.none _ | exact LeH.refl _ | exact LeL.refl _ | exact AV.le.bs _ | exact AV.le.sb _ | omega | contradiction
theorem c0g1 {who : ByteArray} {acts : List Ac} {x : XS} {i : Nat} (hp : pre0 who acts x i) (ha : okActs who acts) (hi : i < acts.length) (hk : (acts.getD i default).k = 0) (hg : okG x.c x.l (acts.getD i default).tx = true) : RO who acts x i := by
  obtain ⟨p1, p2, p3, p4, p5, p6, p7, p8, p9⟩ := hp
  have hn := ha.n
  have hs : stepA x (acts.getD i default) = ⟨upW x.c, addL x.c x.l (acts.getD i default).tx, x.os⟩ := by unfold stepA; rw [if_pos hk, if_pos hg]
  have hz : (addL x.c x.l (acts.getD i default).tx).length = x.l.length + 1 := by unfold addL; rw [List.length_append]; rfl
  have hG := ansG1 (by omega) (ha.t i hi) (by rw [p2]; exact ha.w) ⟨p4, by omega⟩ hg
  obtain ⟨v1, v2⟩ := inv_give (t := (acts.getD i default).tx) p2 p3
  have hO := ansO (c := upW x.c) (l := addL x.c x.l (acts.getD i default).tx) (by omega)
  refine .of (twoLoops (b := lq 1) (b' := lq 2) (by kernel_rfl) fail_ok (l2ok rfl rfl (by omega) v1 v2)) (r0g1 who acts x i _ _ _ hG hO) ?_
  have e1 : IntKind.i64.wrap ((i : Int) + 1) = ((i + 1 : Nat) : Int) := wrapUpN (by omega)
  have hq : pre0 who acts ⟨upW x.c, addL x.c x.l (acts.getD i default).tx, x.os⟩ (i + 1) := ⟨hi, p2, v1, p4, by show x.c.now ≤ _; omega, by show (addL _ _ _).length ≤ _; omega, by show x.os.length ≤ _; omega, p8, p9⟩
  have hml : ((addL x.c x.l (acts.getD i default).tx).map od).length = (addL x.c x.l (acts.getD i default).tx).length := List.length_map ..
  have hml2 : (x.l.map od).length = x.l.length := List.length_map ..
  simp only [e1]
  repeat' (first | refine wC (by first | omega | (simp only [W1, cond_true, cond_false, hk, fx, z0]; first | done | omega)) ?_ | refine wT (by first | omega | (simp only [W1, cond_true, cond_false, hk, fx, z0]; first | done | omega)) ?_ | refine wF (by intro _h; first | omega | (simp only [W1, cond_true, cond_false, hk, fx, z0] at _h; first | done | omega)) ?_ | (refine wS ?_ ?_ <;> intro _h <;> simp only [W1, cond_true, cond_false, hk, fx, z0] at _h))
  all_goals simp only [W1, W2, owesN, owesX, owesR, cond_true, cond_false, hk, fx, z0]
  repeat' (first | apply And.intro | intro _hc)
  all_goals first | exact go hi hs (LeL.refl _) (LeH.refl _) hq | exact AV.le_refl _ | exact AV.le_any _ | exact OLe.refl _ | exact OLe.none _ | exact LeH.refl _ | exact LeL.refl _ | exact AV.le.bs _ | exact AV.le.sb _ | omega | contradiction
theorem c0g0 {who : ByteArray} {acts : List Ac} {x : XS} {i : Nat} (hp : pre0 who acts x i) (ha : okActs who acts) (hi : i < acts.length) (hk : (acts.getD i default).k = 0) (hg : okG x.c x.l (acts.getD i default).tx = false) : RO who acts x i := by
  have hp0 := hp
  obtain ⟨p1, p2, p3, p4, p5, p6, p7, p8, p9⟩ := hp
  have hn := ha.n
  have hs : stepA x (acts.getD i default) = x := by unfold stepA; rw [if_pos hk, if_neg (by rw [hg]; decide)]
  have hG := ansG0 (by omega) (ha.t i hi) (by rw [p2]; exact ha.w) ⟨p4, by omega⟩ hg
  have hO := ansO (c := x.c) (l := x.l) (by omega)
  refine .of (twoLoops (b := lq 1) (b' := lq 2) (by kernel_rfl) fail_ok (l2ok rfl rfl (by omega) p3 (Mono.refl _))) (r0g0 who acts x i _ _ hG hO) ?_
  have e1 : IntKind.i64.wrap ((i : Int) + 1) = ((i + 1 : Nat) : Int) := wrapUpN (by omega)
  have hq : pre0 who acts x (i + 1) := ⟨hi, p2, p3, p4, by omega, by omega, by omega, p8, p9⟩
  simp only [e1]
  repeat' (first | refine wC (by first | omega | (simp only [W1, cond_true, cond_false, hk, fx, z0]; first | done | omega)) ?_ | refine wT (by first | omega | (simp only [W1, cond_true, cond_false, hk, fx, z0]; first | done | omega)) ?_ | refine wF (by intro _h; first | omega | (simp only [W1, cond_true, cond_false, hk, fx, z0] at _h; first | done | omega)) ?_ | (refine wS ?_ ?_ <;> intro _h <;> simp only [W1, cond_true, cond_false, hk, fx, z0] at _h))
  all_goals simp only [W1, W2, owesN, owesX, owesR, cond_true, cond_false, hk, fx, z0]
  repeat' (first | apply And.intro | intro _hc)
  all_goals first | exact go hi hs (LeL.refl _) (LeH.refl _) hq | exact AV.le_refl _ | exact AV.le_any _ | exact OLe.refl _ | exact OLe.none _ | exact LeH.refl _ | exact LeL.refl _ | exact AV.le.bs _ | exact AV.le.sb _ | omega | contradiction
theorem c0t {who : ByteArray} {acts : List Ac} {x : XS} {i : Nat} (hp : pre0 who acts x i) (ha : okActs who acts) (hi : i < acts.length) (hk : (acts.getD i default).k = 1) : RO who acts x i := by
  obtain ⟨p1, p2, p3, p4, p5, p6, p7, p8, p9⟩ := hp
  have hn := ha.n
  have hs : stepA x (acts.getD i default) = ⟨{ x.c with now := x.c.now + 1 }, x.l.map (tk (x.c.now + 1)), x.os⟩ := by unfold stepA; rw [if_neg (by omega), if_pos hk]
  have hz : (x.l.map (tk (x.c.now + 1))).length = x.l.length := List.length_map ..
  have hgap : ∀ j, okP (x.l.getD j default) := fun j => by
    rcases Nat.lt_or_ge j x.l.length with hj | hj
    · exact (p3 j hj).gap
    · rw [List.getD_eq_getElem?_getD, List.getElem?_eq_none hj]; show (0 : Int) ≤ 0 ∧ (0 : Int) ≤ 16; omega
  have hT := ansT (c := x.c) (l := x.l) (by omega) p4 (by omega) hgap
  obtain ⟨v1, v2⟩ := inv_tick p3
  have hO := ansO (c := { x.c with now := x.c.now + 1 }) (l := x.l.map (tk (x.c.now + 1))) (by omega)
  refine .of (twoLoops (b := lq 1) (b' := lq 2) (by kernel_rfl) (l1ok rfl (by omega) p3) (l2ok rfl rfl (by omega) v1 v2)) (r0t who acts x i _ _ _ hT hO) ?_
  have e1 : IntKind.i64.wrap ((i : Int) + 1) = ((i + 1 : Nat) : Int) := wrapUpN (by omega)
  have hq : pre0 who acts ⟨{ x.c with now := x.c.now + 1 }, x.l.map (tk (x.c.now + 1)), x.os⟩ (i + 1) := ⟨hi, p2, v1, by show 0 ≤ x.c.now + 1; omega, by show x.c.now + 1 ≤ _; omega, by show (x.l.map _).length ≤ _; omega, by show x.os.length ≤ _; omega, p8, p9⟩
  have hml : decide ((((x.l.map (tk (x.c.now + 1))).map od).length : Int) < ((x.l.map od).length : Int)) = false := decide_eq_false (by rw [List.length_map, List.length_map, List.length_map]; omega)
  have hk0 : ¬ (acts.getD i default).k = 0 := by omega
  simp only [e1, hml]
  repeat' (first | refine wC (by first | omega | (simp only [W1, cond_true, cond_false, hk, fx, z0, hml]; first | done | omega)) ?_ | refine wT (by first | omega | (simp only [W1, cond_true, cond_false, hk, fx, z0, hml]; first | done | omega)) ?_ | refine wF (by intro _h; first | omega | (simp only [W1, cond_true, cond_false, hk, fx, z0, hml] at _h; first | done | omega)) ?_ | (refine wS ?_ ?_ <;> intro _h <;> simp only [W1, cond_true, cond_false, hk, fx, z0, hml] at _h))
  all_goals simp only [W1, W2, owesN, owesX, owesR, cond_true, cond_false, hk, fx, z0, hml]
  repeat' (first | apply And.intro | intro _hc)
  all_goals first | exact go hi hs (LeL.refl _) (LeH.refl _) hq | exact AV.le_refl _ | exact AV.le_any _ | exact OLe.refl _ | exact OLe.none _ | exact LeH.refl _ | exact LeL.refl _ | exact AV.le.bs _ | exact AV.le.sb _ | omega | contradiction
theorem c0h {who : ByteArray} {acts : List Ac} {x : XS} {i : Nat} (hp : pre0 who acts x i) (ha : okActs who acts) (hi : i < acts.length) (hk : (acts.getD i default).k = 2) : RO who acts x i := by
  obtain ⟨p1, p2, p3, p4, p5, p6, p7, p8, p9⟩ := hp
  have hn := ha.n
  have ho := ha.o i hi
  have hs : stepA x (acts.getD i default) = ⟨(hearF x.c x.l (x.os ++ (acts.getD i default).os)).c, (hearF x.c x.l (x.os ++ (acts.getD i default).os)).l, x.os ++ (acts.getD i default).os⟩ := by unfold stepA; rw [if_neg (by omega), if_neg (by omega), if_pos hk]
  have hz : (x.os ++ (acts.getD i default).os).length = x.os.length + (acts.getD i default).os.length := List.length_append
  have hnn : ∀ j, -9223372036854775808 ≤ ((x.os ++ (acts.getD i default).os).getD j default).tx.nn ∧ ((x.os ++ (acts.getD i default).os).getD j default).tx.nn ≤ 9223372036854775807 := fun j => by
    rcases Nat.lt_or_ge j x.os.length with hj | hj
    · rw [getD_app hj]; exact p9 j
    · rw [getD_app' hj]; exact ha.nn i hi _
  have hH := ansH (c := x.c) (l := x.l) (os := x.os ++ (acts.getD i default).os) (by omega) hnn (by omega) p8
  obtain ⟨v1, v2, v3, v4, v5, v6, v7⟩ := inv_hear (os := x.os ++ (acts.getD i default).os) p3
  have hO := ansO (c := (hearF x.c x.l (x.os ++ (acts.getD i default).os)).c) (l := (hearF x.c x.l (x.os ++ (acts.getD i default).os)).l) (by omega)
  refine .of (twoLoops (b := lq 1) (b' := lq 2) (by kernel_rfl) fail_ok (l2ok rfl rfl (by omega) v1 v2)) (r0h who acts x i _ _ _ _ hH hO) ?_
  have e1 : IntKind.i64.wrap ((i : Int) + 1) = ((i + 1 : Nat) : Int) := wrapUpN (by omega)
  have hq : pre0 who acts ⟨(hearF x.c x.l (x.os ++ (acts.getD i default).os)).c, (hearF x.c x.l (x.os ++ (acts.getD i default).os)).l, x.os ++ (acts.getD i default).os⟩ (i + 1) :=
    ⟨hi, v4.trans p2, by show Inv who (hearF _ _ _).c.now _; rw [v3]; exact v1, by show 0 ≤ (hearF _ _ _).c.now; rw [v3]; exact p4, by show (hearF _ _ _).c.now ≤ _; rw [v3]; omega, by show (hearF _ _ _).l.length ≤ _; omega, by show (x.os ++ _).length ≤ _; omega, v7 p8, hnn⟩
  have hA := Cod.cat Oc.cod x.os (acts.getD i default).os rfl (N := x.os.length + (acts.getD i default).os.length) rfl
  have hr : roomOk 112 (x.os.length + (acts.getD i default).os.length) = true := room112 (by omega)
  have hml : decide ((((hearF x.c x.l (x.os ++ (acts.getD i default).os)).l.map od).length : Int) < ((x.l.map od).length : Int)) = false := decide_eq_false (by rw [List.length_map, List.length_map, v6]; omega)
  have hA' := eq_true hA
  have hL' := eq_true (show AV.le (.hs 2 0 (x.os.length + (acts.getD i default).os.length)) (.hs 2 0 (x.os ++ (acts.getD i default).os).length) by rw [hz]; exact .refl _)
  have hk0 : ¬ (acts.getD i default).k = 0 := by omega
  have hk1 : ¬ (acts.getD i default).k = 1 := by omega
  simp only [e1]

  repeat' (first | refine wC (by first | omega | (simp only [W1, cond_true, cond_false, hk, fx, z0, hr, hml, hA', hL']; first | done | omega)) ?_ | refine wT (by first | omega | (simp only [W1, cond_true, cond_false, hk, fx, z0, hr, hml, hA', hL']; first | done | omega)) ?_ | refine wF (by intro _h; first | omega | (simp only [W1, cond_true, cond_false, hk, fx, z0, hr, hml, hA', hL'] at _h; first | done | omega)) ?_ | (refine wS ?_ ?_ <;> intro _h <;> simp only [W1, cond_true, cond_false, hk, fx, z0, hr, hml, hA', hL'] at _h))
  all_goals simp only [W1, W2, owesN, owesX, owesR, cond_true, cond_false, hk, fx, z0, hr, hml, hA', hL']
  repeat' (first | apply And.intro | intro _hc)
  all_goals first | exact go hi hs (LeL.refl _) (LeH.refl _) hq | exact AV.le_refl _ | exact AV.le_any _ | exact OLe.refl _ | exact OLe.none _ | exact LeH.refl _ | exact LeL.refl _ | exact AV.le.bs _ | exact AV.le.sb _ | omega | contradiction
theorem c0n {who : ByteArray} {acts : List Ac} {x : XS} {i : Nat} (hp : pre0 who acts x i) (ha : okActs who acts) (hi : i < acts.length) (hk0 : ¬ (acts.getD i default).k = 0) (hk1 : ¬ (acts.getD i default).k = 1) (hk2 : ¬ (acts.getD i default).k = 2) : RO who acts x i := by
  obtain ⟨p1, p2, p3, p4, p5, p6, p7, p8, p9⟩ := hp
  have hn := ha.n
  have hs : stepA x (acts.getD i default) = x := by unfold stepA; rw [if_neg hk0, if_neg hk1, if_neg hk2]
  have hO := ansO (c := x.c) (l := x.l) (by omega)
  refine .of (twoLoops (b := lq 1) (b' := lq 2) (by kernel_rfl) fail_ok (l2ok rfl rfl (by omega) p3 (Mono.refl _))) (r0n who acts x i hO) ?_
  have e1 : IntKind.i64.wrap ((i : Int) + 1) = ((i + 1 : Nat) : Int) := wrapUpN (by omega)
  have hq : pre0 who acts x (i + 1) := ⟨hi, p2, p3, p4, by omega, by omega, by omega, p8, p9⟩
  simp only [e1]
  repeat' (first | refine wC (by first | omega | (simp only [W1, cond_true, cond_false, fx, z0]; first | done | omega)) ?_ | refine wT (by first | omega | (simp only [W1, cond_true, cond_false, fx, z0]; first | done | omega)) ?_ | refine wF (by intro _h; first | omega | (simp only [W1, cond_true, cond_false, fx, z0] at _h; first | done | omega)) ?_ | (refine wS ?_ ?_ <;> intro _h <;> simp only [W1, cond_true, cond_false, fx, z0] at _h))
  all_goals simp only [W1, W2, owesN, owesX, owesR, cond_true, cond_false, fx, z0]
  repeat' (first | apply And.intro | intro _hc)
  all_goals first | exact go hi hs (LeL.refl _) (LeH.refl _) hq | exact AV.le_refl _ | exact AV.le_any _ | exact OLe.refl _ | exact OLe.none _ | exact LeH.refl _ | exact LeL.refl _ | exact AV.le.bs _ | exact AV.le.sb _ | omega | contradiction
theorem loop0 {who : ByteArray} {acts : List Ac} (ha : okActs who acts) : ∀ y : XS × Nat, pre0 who acts y.1 y.2 → LoopOK Tryd.prog Γm 0 228 (lq 0) (LSpec.at lv0 nl0 (S0 who acts y.1 y.2) (O0 (fin acts y.1 y.2))) := by
  refine loop_at (S := fun y : XS × Nat => S0 who acts y.1 y.2) (pre := fun y => pre0 who acts y.1 y.2) (O := fun y => O0 (fin acts y.1 y.2)) (k := 0) (fun y => acts.length - y.2) fun y hp => ?_
  obtain ⟨x, i⟩ := y
  dsimp only at hp
  show RO who acts x i
  rcases Nat.lt_or_ge i acts.length with hi | hi
  · by_cases k0 : (acts.getD i default).k = 0
    · cases hg : okG x.c x.l (acts.getD i default).tx with
      | true => exact c0g1 hp ha hi k0 hg
      | false => exact c0g0 hp ha hi k0 hg
    · by_cases k1 : (acts.getD i default).k = 1
      · exact c0t hp ha hi k1
      · by_cases k2 : (acts.getD i default).k = 2
        · exact c0h hp ha hi k2
        · exact c0n hp ha hi k0 k1 k2
  · exact c0end hp ha hi
end Go.Eng.TA.C
