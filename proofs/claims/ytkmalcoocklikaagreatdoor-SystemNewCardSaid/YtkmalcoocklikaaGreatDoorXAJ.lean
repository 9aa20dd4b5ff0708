/- What is proved on the way to a statement of the seat, pressed (text AJ). No conditions beyond those its theorems state. -/
import Derived.Test.YtkmalcoocklikaaGreatDoorXAI
import Derived.LaidSub
import Derived.LaidMore
import Derived.MakeChecks
set_option linter.all false
namespace Go.Dm
open Go.ChangeShapes Go.WideShapes Go.RowKit
inductive Sh where
 | nil
 | lf (l : Lf) (r : Sh)
 | sl (e : Sh) (r : Sh)
@[reducible] def Sh.T : Sh → Type
 | .nil => Unit
 | .lf l r => l.T × r.T
 | .sl e r => (Sl × List e.T) × r.T
def Sh.len : Sh → Nat
 | .nil => 0
 | .lf _ r => r.len + 1
 | .sl _ r => r.len + 1
def Sh.cells : (s : Sh) → s.T → List Value
 | .nil, _ => []
 | .lf l r, x => l.val x.1 :: r.cells x.2
 | .sl _ r, x => .slice x.1.1.a x.1.1.len x.1.1.cap :: r.cells x.2
theorem Sh.cells_len : ∀ (s : Sh) (x : s.T), (s.cells x).length = s.len
 | .nil, _ => rfl
 | .lf _ r, x => by simp [Sh.cells, Sh.len, Sh.cells_len r]
 | .sl _ r, x => by simp [Sh.cells, Sh.len, Sh.cells_len r]
theorem zei : ∀ (l : Lf) (x : l.T), oneC (l.val x) = true
 | .int _, _ | .bool, _ | .str, _ | .ptr, _ | .slice, _ | .map, _ | .func, _ | .adr, _ => rfl
 | .iface, none => rfl
 | .iface, some _ => rfl
theorem Sh.cells_one : ∀ (s : Sh) (x : s.T), oneAll (s.cells x) = true
 | .nil, _ => rfl
 | .lf l r, x => by simp [Sh.cells, oneAll, Sh.cells_one r, zei]
 | .sl _ r, x => by simp [Sh.cells, oneAll, Sh.cells_one r, oneC]
theorem Sh.enc (s : Sh) (h : 0 < s.len) : Enc s.cells s.len := ⟨s.cells_len, s.cells_one, h⟩
section
variable {H : Type} {enc : TypeId × Value → H} {P : Program} {w : World}
abbrev Tr1 (enc : TypeId × Value → H) (P : Program) (w : World) (t : TypeId) (c : List Value) : Prop := ∃ fuel x, DataW.trod enc P w 0 (fun _ => true) true fuel t c = some x
inductive Trs (enc : TypeId × Value → H) (P : Program) (w : World) : List TypeId → List (List Value) → Prop
 | nil : Trs enc P w [] []
 | cons {t c ts cs} : Tr1 enc P w t c → Trs enc P w ts cs → Trs enc P w (t :: ts) (c :: cs)
theorem Trs.app {ts cs us ds} (h : Trs enc P w ts cs) (g : Trs enc P w us ds) : Trs enc P w (ts ++ us) (cs ++ ds) := by
 induction h with
 | nil => exact g
 | cons h1 _ ih => exact .cons h1 ih
end
end Go.Dm
namespace Go.Dm
open Go.ChangeShapes Go.WideShapes Go.RowKit
section
variable {H : Type} {enc : TypeId × Value → H} {P : Program} {W : World}
end
end Go.Dm
namespace Go.Dm
def tabB (P : Program) (name : String) (k : IntKind) : Bool := match P.globalNamed name with
 | none => false
 | some g => match (P.globals[g]?).map (·.type) with
  | none => false
  | some t => match P.underlying t with
   | some (.array n e) => (match P.underlying e with
    | some (.int k') => decide (k' = k)
    | _ => false) && (P.cellsOf e == 1) && (P.cellsOf t == n)
   | _ => false
theorem ze6 {P : Program} {W : World} {name : String} {k : IntKind} {zs : List Int} (hb : tabB P name k = true) {l : List (String × DataW Unit)} (hp : (l.all fun x => x.2.handleName?.isNone) = true)
  (hf : (l.filter fun x => x.1 == name) = [(name, Lib.tabData k zs)]) (h : laidMetH P l W) : Lib.TabIs P W name k zs := by
 rw [MakeChecks.laidMetH_plain P l W hp] at h
 have h2 := h.filter fun x => x.1 == name
 rw [hf] at h2
 unfold tabB at hb
 split at hb
 ·cases hb
 ·rename_i g hg
  split at hb
  ·cases hb
  ·rename_i t ht
   split at hb
   ·rename_i n e he
    simp only [Bool.and_eq_true, beq_iff_eq] at hb
    obtain ⟨⟨hb, hce⟩, hct⟩ := hb
    split at hb
    ·rename_i k' hk
     have hb : k' = k := by simpa using hb
     subst hb
     exact Lib.tabIs_of_head hg ht he hk hce hct h2
    ·cases hb
   ·cases hb
end Go.Dm
