/- What is proved on the way to a statement of the seat, pressed (text AM). No conditions beyond those its theorems state. -/
import Derived.Test.YtkebppklbobjcaaGreatDoorSAL
import Derived.LaidSub
import Derived.LaidMore
import Derived.MakeChecks
set_option linter.all false
namespace Go.Dm
open Go.ChangeShapes Go.WideShapes Go.RowKit
inductive Sh where
 | nil
 | lf (l : Lf) (r : Sh)
 | sl (e : Sh) (r : Sh)
@[reducible] def Sh.T : Sh → Type
 | .nil => Unit
 | .lf l r => l.T × r.T
 | .sl e r => (Sl × List e.T) × r.T
def Sh.len : Sh → Nat
 | .nil => 0
 | .lf _ r => r.len + 1
 | .sl _ r => r.len + 1
def Sh.cells : (s : Sh) → s.T → List Value
 | .nil, _ => []
 | .lf l r, x => l.val x.1 :: r.cells x.2
 | .sl _ r, x => .slice x.1.1.a x.1.1.len x.1.1.cap :: r.cells x.2
def okLf : (l : Lf) → l.T → Prop
 | .int k, n => (Lit.int k n).wf = true
 | .str, s => s.size ≤ maxLen
 | _, _ => True
def Sh.deep (w : World) : (s : Sh) → s.T → Prop
 | .nil, _ => True
 | .lf l r, x => okLf l x.1 ∧ r.deep w x.2
 | .sl e r, x => (Old w e.cells x.1.1 x.1.2 ∧ x.1.1.len ≤ x.1.1.cap ∧ x.1.1.cap ≤ maxLen ∧ (x.1.1.a = none → x.1.1.cap = 0) ∧ ∀ y ∈ x.1.2, e.deep w y) ∧ r.deep w x.2
theorem Sh.cells_len : ∀ (s : Sh) (x : s.T), (s.cells x).length = s.len
 | .nil, _ => rfl
 | .lf _ r, x => by simp [Sh.cells, Sh.len, Sh.cells_len r]
 | .sl _ r, x => by simp [Sh.cells, Sh.len, Sh.cells_len r]
theorem zph : ∀ (l : Lf) (x : l.T), oneC (l.val x) = true
 | .int _, _ | .bool, _ | .str, _ | .ptr, _ | .slice, _ | .map, _ | .func, _ | .adr, _ => rfl
 | .iface, none => rfl
 | .iface, some _ => rfl
theorem Sh.cells_one : ∀ (s : Sh) (x : s.T), oneAll (s.cells x) = true
 | .nil, _ => rfl
 | .lf l r, x => by simp [Sh.cells, oneAll, Sh.cells_one r, zph]
 | .sl _ r, x => by simp [Sh.cells, oneAll, Sh.cells_one r, oneC]
theorem Sh.enc (s : Sh) (h : 0 < s.len) : Enc s.cells s.len := ⟨s.cells_len, s.cells_one, h⟩
def offsOk (P : Program) : List Field → Nat → Option Nat
 | [], n => some n
 | f :: fs, n => cond (Nat.beq f.offset n) (offsOk P fs (n + P.cellsOf f.type)) none
def shapeOf (P : Program) : Nat → List TypeId → Option Sh
 | 0, _ => none
 | _ + 1, [] => some .nil
 | n + 1, t :: ts => match P.underlying t with
  | some (.int k) => (shapeOf P n ts).map (.lf (.int k))
  | some .bool => (shapeOf P n ts).map (.lf .bool)
  | some .string => (shapeOf P n ts).map (.lf .str)
  | some (.slice e) => match shapeOf P n [e], shapeOf P n ts with
   | some a, some b => cond (Nat.beq a.len (P.cellsOf e)) (cond (Nat.beq a.len 0) none (some (.sl a b))) none
   | _, _ => none
  | some (.struct fs) => match offsOk P fs.toList 0 with
   | some m => cond (Nat.beq m (P.cellsOf t)) (shapeOf P n (fs.toList.map (·.type) ++ ts)) none
   | none => none
  | _ => none
section
variable {H : Type} {enc : TypeId × Value → H} {P : Program} {w : World}
theorem ziD {α β : Type} {f : α → Option β} : ∀ {l : List α} {r : List β}, l.mapM f = some r → r.length = l.length ∧ ∀ (i : Nat) x, l[i]? = some x → ∃ y, r[i]? = some y ∧ f x = some y
 | [], r, h => by simp at h; subst h; exact ⟨rfl, fun i x h => by simp at h⟩
 | a :: l, r, h => by
  rw [List.mapM_cons] at h
  cases ha : f a with
  | none => rw [ha] at h; cases h
  | some b =>
   rw [ha] at h
   cases hl : l.mapM f with
   | none => rw [hl] at h; cases h
   | some r' =>
    rw [hl] at h
    cases h
    obtain ⟨h1, h2⟩ := ziD hl
    refine ⟨by simp [h1], fun i x hx => ?_⟩
    cases i with
    | zero => simp at hx; subst hx; exact ⟨b, rfl, ha⟩
    | succ i => simpa using h2 i x (by simpa using hx)
abbrev Tr1 (enc : TypeId × Value → H) (P : Program) (w : World) (t : TypeId) (c : List Value) : Prop := ∃ fuel x, DataW.trod enc P w 0 (fun _ => true) true fuel t c = some x
inductive Trs (enc : TypeId × Value → H) (P : Program) (w : World) : List TypeId → List (List Value) → Prop
 | nil : Trs enc P w [] []
 | cons {t c ts cs} : Tr1 enc P w t c → Trs enc P w ts cs → Trs enc P w (t :: ts) (c :: cs)
theorem Trs.app {ts cs us ds} (h : Trs enc P w ts cs) (g : Trs enc P w us ds) : Trs enc P w (ts ++ us) (cs ++ ds) := by
 induction h with
 | nil => exact g
 | cons h1 _ ih => exact .cons h1 ih
theorem zeI (P : Program) (cs : List Value) : ∀ (fs : List Field) (n m : Nat), offsOk P fs n = some m → m ≤ cs.length → (fs.map fun f => (cs.drop f.offset).take (P.cellsOf f.type)).flatten = (cs.drop n).take (m - n) ∧ n ≤ m
 | [], n, m, h, _ => by simp [offsOk] at h; subst h; simp
 | f :: fs, n, m, h, hm => by
  simp only [offsOk] at h
  cases hb : Nat.beq f.offset n with
  | false => rw [hb] at h; cases h
  | true =>
   rw [hb] at h
   have e := Nat.eq_of_beq_eq_true hb
   obtain ⟨h1, h2⟩ := zeI P cs fs _ m h hm
   refine ⟨?_, by omega⟩
   simp only [List.map_cons, List.flatten_cons]
   rw [h1, e]
   have : m - n = P.cellsOf f.type + (m - (n + P.cellsOf f.type)) := by omega
   rw [this, List.take_add, List.drop_drop]
theorem zau : ∀ (n : Nat) (ts : List TypeId) (sh : Sh) (parts : List (List Value)), shapeOf P n ts = some sh → Trs enc P w ts parts → ∃ x : sh.T, parts.flatten = sh.cells x ∧ sh.deep w x
 | 0, _, _, _, h, _ => by cases h
 | n + 1, [], sh, parts, h, ht => by
  cases ht
  cases h
  exact ⟨(), rfl, trivial⟩
 | n + 1, t :: ts, sh, parts, h, ht => by
  cases ht with
  | @cons _ c _ cs h1 h2 =>
  obtain ⟨fuel, x, hx⟩ := h1
  cases fuel with
  | zero => cases hx
  | succ fuel =>
  simp only [shapeOf] at h
  unfold DataW.trod at hx
  cases hu : P.underlying t with
  | none => rw [hu] at h; cases h
  | some d =>
   rw [hu] at h hx
   cases d with
   | int k =>
    simp only at h
    cases hr : shapeOf P n ts with
    | none => rw [hr] at h; cases h
    | some r =>
     rw [hr] at h; cases h
     obtain ⟨y, e1, e2⟩ := zau n ts r cs hr h2
     split at hx <;> try (cases hx; done)
     all_goals (try (rename_i heq; cases heq; done))
     rename_i heq; cases heq
     split at hx <;> try (cases hx; done)
     rename_i hk
     obtain ⟨rfl, hw⟩ := hk
     refine ⟨(_, y), ?_, hw, e2⟩
     simp only [List.flatten_cons, e1]; rfl
   | bool =>
    simp only at h
    cases hr : shapeOf P n ts with
    | none => rw [hr] at h; cases h
    | some r =>
     rw [hr] at h; cases h
     obtain ⟨y, e1, e2⟩ := zau n ts r cs hr h2
     split at hx <;> try (cases hx; done)
     all_goals (try (rename_i heq; cases heq; done))
     rename_i b heq; cases heq
     refine ⟨(b, y), ?_, ⟨trivial, e2⟩⟩
     simp only [List.flatten_cons, e1]; rfl
   | string =>
    simp only at h
    cases hr : shapeOf P n ts with
    | none => rw [hr] at h; cases h
    | some r =>
     rw [hr] at h; cases h
     obtain ⟨y, e1, e2⟩ := zau n ts r cs hr h2
     split at hx <;> try (cases hx; done)
     all_goals (try (rename_i heq; cases heq; done))
     rename_i heq; cases heq
     split at hx <;> try (cases hx; done)
     rename_i hk
     refine ⟨(_, y), ?_, hk, e2⟩
     simp only [List.flatten_cons, e1]; rfl
   | slice e =>
    simp only at h
    cases he : shapeOf P n [e] with
    | none => rw [he] at h; cases h
    | some a =>
     cases hr : shapeOf P n ts with
     | none => rw [he, hr] at h; cases h
     | some r =>
      rw [he, hr] at h
      simp only at h
      cases hb : Nat.beq a.len (P.cellsOf e) with
      | false => rw [hb] at h; cases h
      | true =>
      cases hb0 : Nat.beq a.len 0 with
      | true => rw [hb, hb0] at h; cases h
      | false =>
      rw [hb, hb0] at h; cases h
      have hlen := Nat.eq_of_beq_eq_true hb
      have hpos : 0 < a.len := by
       rcases Nat.eq_zero_or_pos a.len with h | h
       ·rw [h] at hb0; cases hb0
       ·exact h
      obtain ⟨y, e1, e2⟩ := zau n ts r cs hr h2
      split at hx <;> try (cases hx; done)
      all_goals (try (rename_i heq; cases heq; done))
      ·rename_i hh; cases hh
       refine ⟨((⟨none, 0, 0⟩, []), y), ?_, ⟨⟨⟨rfl, fun j u hj => by simp [fl, nth] at hj⟩⟩, Nat.le_refl _, by simp [maxLen], fun _ => rfl, by simp⟩, e2⟩
       simp only [List.flatten_cons, e1]; rfl
      ·rename_i a0 len cap hh; cases hh
       dsimp only at hx
       split at hx <;> try (cases hx; done)
       rename_i hc
       cases hm : (List.range len).mapM (fun i => (w.cells? 0 (a0.add (i * P.cellsOf e)) (P.cellsOf e)).bind (DataW.trod enc P w 0 (fun _ => true) true fuel e)) with
       | none => rw [hm] at hx; cases hx
       | some els =>
        obtain ⟨hl1, hl2⟩ := ziD hm
        have each : ∀ i, i < len → ∃ z : a.T, a.deep w z ∧ w.cells? 0 (a0.add (i * P.cellsOf e)) (P.cellsOf e) = some (a.cells z) := by
         intro i hi
         obtain ⟨q, -, hq⟩ := hl2 i i (by simp [hi])
         cases hcc : w.cells? 0 (a0.add (i * P.cellsOf e)) (P.cellsOf e) with
         | none => rw [hcc] at hq; cases hq
         | some ci =>
          rw [hcc] at hq
          obtain ⟨z, ez, dz⟩ := zau n [e] a [ci] he (.cons ⟨fuel, q, hq⟩ .nil)
          simp only [List.flatten_cons, List.flatten_nil, List.append_nil] at ez
          exact ⟨z, dz, by rw [ez]⟩
        have all : ∀ m, m ≤ len → ∃ zs : List a.T, zs.length = m ∧ ∀ i z, zs[i]? = some z → a.deep w z ∧ w.cells? 0 (a0.add (i * P.cellsOf e)) (P.cellsOf e) = some (a.cells z) := by
         intro m
         induction m with
         | zero => intro _; exact ⟨[], rfl, fun i z h => by simp at h⟩
         | succ m ih =>
          intro hm
          obtain ⟨zs, hz1, hz2⟩ := ih (by omega)
          obtain ⟨z, d1, d2⟩ := each m (by omega)
          refine ⟨zs ++ [z], by simp [hz1], fun i u hu => ?_⟩
          rcases Nat.lt_or_ge i zs.length with h | h
          ·rw [List.getElem?_append_left h] at hu; exact hz2 i u hu
          ·rw [List.getElem?_append_right h] at hu
           have : i - zs.length = 0 := by
            rcases Nat.eq_zero_or_pos (i - zs.length) with h | h
            ·exact h
            ·rw [List.getElem?_eq_none (by simp; omega)] at hu; cases hu
           rw [this] at hu; simp at hu; subst hu
           have : i = m := by omega
           subst this; exact ⟨d1, d2⟩
        obtain ⟨zs, hz1, hz2⟩ := all len (Nat.le_refl _)
        refine ⟨((⟨some a0, len, cap⟩, zs), y), ?_, ⟨⟨⟨hz1.symm, fun j u hj => ⟨a0, rfl, ?_⟩⟩⟩, hc.2.1, hc.2.2, (fun h => by cases h), fun z hz => ?_⟩, e2⟩
        ·simp only [List.flatten_cons, e1]; rfl
        ·have hE := a.enc hpos
         have hjl := zeK hj
         rw [z5Y hE] at hjl
         have hi : j / a.len < zs.length := Nat.div_lt_of_lt_mul (by rw [Nat.mul_comm]; exact hjl)
         have hz := List.getElem?_eq_getElem hi
         have e0 : j = j / a.len * a.len + j % a.len := by rw [Nat.mul_comm]; exact (Nat.div_add_mod j a.len).symm
         have hm := Nat.mod_lt j hpos
         obtain ⟨-, hcz⟩ := hz2 _ _ hz
         obtain ⟨-, hl3, hl4⟩ := World.cells?_some hcz
         have hlx : j % a.len < (a.cells zs[j / a.len]).length := by rw [a.cells_len]; exact hm
         have h2 := z9l hE (l := zs) (i := j / a.len) (f := j % a.len) (u := (a.cells zs[j / a.len])[j % a.len]) hz (by rw [z0a]; exact List.getElem?_eq_getElem hlx)
         rw [← e0, hj] at h2
         have h5 := hl4 (j % a.len) (by rw [← hlen]; exact hm)
         rw [z3I, ← hlen, ← e0, List.getElem?_eq_getElem hlx] at h5
         rw [h5, h2]
        ·obtain ⟨i, hi, rfl⟩ := List.getElem_of_mem hz
         exact (hz2 i _ (List.getElem?_eq_getElem hi)).1
   | struct fs =>
    simp only at h
    cases ho : offsOk P fs.toList 0 with
    | none => rw [ho] at h; cases h
    | some m =>
     rw [ho] at h
     simp only at h
     cases hb : Nat.beq m (P.cellsOf t) with
     | false => rw [hb] at h; cases h
     | true =>
     rw [hb] at h
     have hm := Nat.eq_of_beq_eq_true hb
     simp only at hx
     split at hx <;> try (cases hx; done)
     rename_i hcl
     cases hq : fs.toList.mapM (fun f => DataW.trod enc P w 0 (fun _ => true) true fuel f.type ((c.drop f.offset).take (P.cellsOf f.type))) with
     | none => rw [hq] at hx; cases hx
     | some qs =>
      have key : ∀ (fl : List Field) qs, fl.mapM (fun f => DataW.trod enc P w 0 (fun _ => true) true fuel f.type ((c.drop f.offset).take (P.cellsOf f.type))) = some qs → Trs enc P w (fl.map (·.type)) (fl.map fun f => (c.drop f.offset).take (P.cellsOf f.type)) := by
       intro fl
       induction fl with
       | nil => intro _ _; exact .nil
       | cons f fl ih =>
        intro qs hq
        rw [List.mapM_cons] at hq
        cases ha : DataW.trod enc P w 0 (fun _ => true) true fuel f.type ((c.drop f.offset).take (P.cellsOf f.type)) with
        | none => rw [ha] at hq; cases hq
        | some b =>
         rw [ha] at hq
         cases hl : fl.mapM (fun f => DataW.trod enc P w 0 (fun _ => true) true fuel f.type ((c.drop f.offset).take (P.cellsOf f.type))) with
         | none => rw [hl] at hq; cases hq
         | some r => exact .cons ⟨fuel, b, ha⟩ (ih r hl)
      obtain ⟨y, e1, e2⟩ := zau n _ sh _ h ((key _ _ hq).app h2)
      refine ⟨y, ?_, e2⟩
      rw [← e1]
      obtain ⟨h3, -⟩ := zeI P c fs.toList 0 m ho (by omega)
      simp only [List.flatten_cons, List.flatten_append]
      rw [h3]
      congr 1
      simp [hm, ← hcl]
   | _ => cases h
end
end Go.Dm
namespace Go.Dm
open Go.ChangeShapes Go.WideShapes Go.RowKit
section
variable {H : Type} {enc : TypeId × Value → H} {P : Program} {W : World}
theorem zlx {t e : TypeId} {r : Reach} {b0 n : Nat} {v : Value} {d : DataW H} {ps : List MemPlace} {a : Sh} (ht : P.underlying t = some (.slice e)) (hsh : shapeOf P n [t] = some (.sl a .nil))
  (hval : Value.okWide P W r b0 t v) (hd : DataW.Trod enc P W 0 (fun _ => true) true t v d ps) :
  ∃ (s : Sl) (xs : List a.T), v = .slice s.a s.len s.cap ∧ Old W a.cells s xs ∧ ∀ y ∈ xs, a.deep W y := by
 obtain ⟨a0, len, cap, rfl⟩ := okWide_slice ht hval
 obtain ⟨fuel, hf⟩ := hd
 obtain ⟨x, h1, h2⟩ := zau (H := H) (enc := enc) n [t] _ [_] hsh (.cons ⟨fuel, _, hf⟩ .nil)
 obtain ⟨⟨s, xs⟩, ⟨⟩⟩ := x
 simp only [List.flatten_cons, List.flatten_nil, List.append_nil, Value.cells, Sh.cells] at h1
 simp at h1
 obtain ⟨rfl, rfl, rfl⟩ := h1
 exact ⟨s, xs, rfl, h2.1.1, h2.1.2.2.2.2⟩
theorem zn1 {t e : TypeId} {r : Reach} {b0 n : Nat} {v : Value} {d : DataW H} {ps : List MemPlace} (ht : P.underlying t = some (.slice e)) (hsh : shapeOf P n [t] = some (.sl (.lf .bool .nil) .nil))
  (hval : Value.okWide P W r b0 t v) (hd : DataW.Trod enc P W 0 (fun _ => true) true t v d ps) :
  ∃ (s : Sl) (xs : List Bool), v = .slice s.a s.len s.cap ∧ Old W (fun b => [.bool b]) s xs := by
 obtain ⟨s, xs, h1, h2, -⟩ := zlx ht hsh hval hd
 refine ⟨s, xs.map (·.1), h1, ⟨⟨by rw [List.length_map]; exact h2.rd.len, fun j u hj => h2.rd.rd j u ?_⟩⟩⟩
 rw [← hj]
 congr 1
 clear hj h2
 induction xs with
 | nil => rfl
 | cons x xs ih => simp only [fl, List.flatMap_cons, List.map_cons] at *; rw [ih]; rfl
end
end Go.Dm
namespace Go.Proofs.YtkebppklbobjcaaGreatDoor
open Go.Dm
attribute [local irreducible] L.load L.store L.chk L.new L.nonnil L.guard L.ite L.draw L.idx L.sem L.semR L.semU L.chkSem L.next L.call L.callV L.join L.alts L.loop L.begin L.endRound L.range
variable {w0 w : World} {E : List Seg}
abbrev eBl (b : Bool) : List Value := [.bool b]
theorem encBl : Enc eBl 1 := ⟨fun _ => rfl, fun _ => rfl, by decide⟩
theorem zqe {b4 b5 : Nat} {p : Int} : ∀ e ∈ spEvs b4 p, ∀ s : Seg, EvIn w0 (s :: evB b5 (spEvs b4 p) :: [Cl b4 z07 [.string s_web_1, .string zcO, I p, .string s_, .string zkI, I (100 - p)]] :: E) 0 e := by
 intro e he s
 simp only [spEvs, List.mem_cons, List.not_mem_nil, or_false] at he
 rcases he with rfl | rfl | rfl | rfl | rfl | rfl
 ·exact EvIn.plain rfl rfl fun h => absurd h (show ¬ ((1 : Int) = 12 ∨ (1 : Int) = 13) by decide)
 ·exact EvIn.plain rfl rfl fun h => absurd h (show ¬ ((10 : Int) = 12 ∨ (10 : Int) = 13) by decide)
 ·exact EvIn.plain rfl rfl fun _ => ⟨z6a, 2, by decide, by decide, by decide, by decide +kernel⟩
 ·exact EvIn.plain rfl rfl fun h => absurd h (show ¬ ((6 : Int) = 12 ∨ (6 : Int) = 13) by decide)
 ·refine ⟨?_, Nat.le_refl 2, (fun h => by cases h), (fun t ht => ?_), fun h => absurd h (show ¬ ((2 : Int) = 12 ∨ (2 : Int) = 13) by decide)⟩
  ·exact Rw.re encT 1 rfl (Rw.lit b4 (rt2 p).ts encT rfl rfl (by decide))
  ·simp only [List.mem_cons, List.not_mem_nil, or_false] at ht
   rcases ht with rfl | rfl
   ·exact .inr ⟨z6a, 1, by decide, by decide, by decide, by show s_web_1 = revB z6a 1; decide +kernel⟩
   ·exact .inl rfl
 ·exact EvIn.plain rfl rfl fun h => absurd h (show ¬ ((11 : Int) = 12 ∨ (11 : Int) = 13) by decide)
theorem znO {n pod : Int} : fateB (n, 1, pod, s_, ()) = ((s_sent__475f ++ decD n.toNat) ++ s___b5c5) ++ decD pod.toNat := by
 unfold fateB
 dsimp only
 rw [if_pos rfl]
 unfold lineB
 rw [z83, z83, zbe]
 have e1 : s_sent__475f = zkH ++ spB := by decide
 have e2 : s___b5c5 = spB := by decide
 rw [e1, e2]
 simp only [ByteArray.append_assoc]
 rfl
abbrev ksSp (k : Int) : Bool := k == 1 || k == 2 || k == 4 || k == 6 || k == 10 || k == 11 || k == 13
instance knSp [bTab w0] : Kn w0 ksSp := ⟨by
 intro E w h i b a s hi hs e hks hb ev k0 inv hk0 hn k hk
 have hc : e.kind = 1 ∨ e.kind = 2 ∨ e.kind = 4 ∨ e.kind = 6 ∨ e.kind = 10 ∨ e.kind = 11 ∨ e.kind = 13 := by simpa [ksSp, or_assoc] using hks
 rcases hc with hc | hc | hc | hc | hc | hc | hc
 ·exact zqv h i hi hs hb hc ev inv hk0 hn hk
 ·exact zqu h i hi hs hb hc ev inv hk0 hn hk
 ·exact zqt h i hi hs hb hc ev inv hk0 hn hk
 ·exact zqs h i hi hs hb hc ev inv hk0 hn hk
 ·exact zpX h i hi hs hb hc ev inv hk0 hn hk
 ·exact zpW h i hi hs hb hc ev inv hk0 hn hk
 ·exact zpV h i hi hs hb hc ev inv hk0 hn hk⟩
theorem znM {p : Nat} (h : p ≤ 100) : specE (rt2 p) = 0 := by
 have h1 : ((List.range 101).all fun p => decide (specE (rt2 p) = 0)) = true := by decide +kernel
 exact of_decide_eq_true (List.all_eq_true.1 h1 p (List.mem_range.2 (by omega)))
theorem sp_k {b4 p : Nat} (h : p ≤ 100) : ∀ e ∈ spEvs b4 p, ksSp e.kind = true ∧ chkEv e = 0 := by
 intro e he
 simp only [spEvs, List.mem_cons, List.not_mem_nil, or_false] at he
 rcases he with rfl | rfl | rfl | rfl | rfl | rfl
 ·exact ⟨rfl, by decide +kernel⟩
 ·exact ⟨rfl, by decide +kernel⟩
 ·exact ⟨rfl, by decide +kernel⟩
 ·exact ⟨rfl, by decide +kernel⟩
 ·exact ⟨rfl, zpu ⟨by decide, by decide⟩ (znM h)⟩
 ·exact ⟨rfl, by decide +kernel⟩
theorem zfQ [bTab w0] (x : Int) (p1 p2 : Sl) {xs : List Int} {us : List Bool} (o : Old w0 eI p1 xs) (o2 : Old w0 eBl p2 us) : Calls Pr z4H #[I x, SlV p1, SlV p2] w0 fun e w' => e = .returned (.bool true) ∧ St w0 [] w' := by
 refine zpi (args := [I x, SlV p1, SlV p2]) (z7S x p1 p2) ?_
 unfold z4K
 have h := St.init w0
 refine zlL h fun w h => itF rfl ?_
 refine zoo (ks := ksSp) rfl (c := (s_, (0 : Int), (8 : Int), (1 : Int), (3 : Int), (0 : Int), ())) h (by decide +kernel) (by decide) (by decide) zoY fun b s w hs inv h => ?_
 refine itF rfl (itF rfl ?_)
 refine zf3 (by decide) (by decide) ?_
 have hx : 0 ≤ x % 101 ∧ x % 101 < 101 := by omega
 obtain ⟨p, hp⟩ : ∃ p : Nat, x % 101 = p := ⟨(x % 101).toNat, by omega⟩
 rw [hp] at hx ⊢
 have hp100 : p ≤ 100 := by omega
 have e100 : IntKind.wrap .i64 (100 - (p : Int)) = 100 - (p : Int) := wr (by omega) (by omega)
 rw [e100]
 refine nw h ?_; clear h; (try clear w); intro b4 w h
 refine nw h ?_; clear h; (try clear w); intro b5 w h
 have h : St w0 (evB b5 (spEvs b4 p) :: [Cl b4 z07 [.string s_web_1, .string zcO, I p, .string s_, .string zkI, I (100 - (p : Int))]] :: s :: []) w := h
 have h := fr2_ h
 have ev := zqe (w0 := w0) (b4 := b4) (b5 := b5) (p := (p : Int)) (E := [])
 refine zjc (n := 6) (l := spEvs b4 p) rfl (by decide) h hs (sp_k hp100) ev inv (by decide) (show (rdyA 20 8 50 (cfgW 0 8 1 3 0)).sh.n + ((6 : Nat) : Int) < 99 by decide) fun s w hs inv h => ?_
 have hst := zmc b4 hp100
 change SplI p 0 (sysRun (rdyA 20 8 50 (webC (s_, (0 : Int), (8 : Int), (1 : Int), (3 : Int), (0 : Int), ()))) (spEvs b4 p)) at hst
 generalize sysRun (rdyA 20 8 50 (webC (s_, (0 : Int), (8 : Int), (1 : Int), (3 : Int), (0 : Int), ()))) (spEvs b4 p) = a0 at *
 have h := dl1_ (dl1_ h)
 clear ev
 refine zjS h 0 rfl hs (fun y hy => (inv.ro _ y hy).ok (by omega)) fun px sx w hT h => ?_
 rw [hst.ro] at hT
 rw [hst.is]
 refine nw h ?_; clear h; (try clear w); intro b12 w h
 (refine stC h ?_; clear h; (try clear w); intro w h; dsimp only [putN, setN] at h)
 refine z9t h (by omega) (by omega) fun w h => ?_
 rw [Int.toNat_natCast]
 have d1 := z7O p
 have d2 := z7O (100 - p)
 have q1 : s_web_1_.size = 6 := rfl
 have q2 : s__web_2__467c.size = 7 := rfl
 refine gd (by simp only [maxI64]; omega) ?_
 refine gd (by rw [ByteArray.size_append]; simp only [maxI64]; omega) ?_
 have e101 : 100 - (p : Int) = ((100 - p : Nat) : Int) := by omega
 rw [e101]
 refine z9t h (by omega) (by omega) fun w h => ?_
 rw [Int.toNat_natCast]
 refine gd (by rw [ByteArray.size_append, ByteArray.size_append]; simp only [maxI64]; omega) ?_
 refine z1X (fun (z : ByteArray × Unit) w' => z.1 = (if p = 0 then zat else ((s_web_1_ ++ decD p) ++ s__web_2__467c) ++ decD (100 - p)) ∧ w' = w) (fun k hk => ?_) ?_
 ·refine it (fun hc => ?_) (fun hc => ?_)
  ·exact hk _ _ ⟨by rw [if_pos (by simpa using hc)], rfl⟩
  ·exact hk _ _ ⟨by rw [if_neg (by simpa using hc)], rfl⟩
 rintro ⟨z, ⟨⟩⟩ w' ⟨hz, rfl⟩
 dsimp only at hz ⊢
 refine z1X (fun (y : ByteArray × Unit) w'' => y.1 = spLine p ∧ w'' = w') (fun k hk => ?_) ?_
 ·refine it (fun hc => ?_) (fun hc => ?_)
  ·exact hk _ _ ⟨by unfold spLine; rw [if_pos (by have : (p : Int) = 100 := by simpa using hc
                                                  omega)], rfl⟩
  ·exact hk _ _ ⟨by unfold spLine; rw [if_neg (by have : ¬ (p : Int) = 100 := by simpa using hc
                                                  omega), hz], rfl⟩
 rintro ⟨y, ⟨⟩⟩ w'' ⟨hy, rfl⟩
 dsimp only at hy ⊢
 subst hy
 refine itF rfl ?_
 (refine laC h ?_)
 have hTT : TabR w0 ([Cl b12 z02 [SlV px.1, SlV px.2.1]] :: sx :: [s]) px ⟨spSh p, spTg⟩ := by
  have t := hT (E' := [s])
  exact ⟨fun w h => t.sh w (dl0_ h), fun w h => t.tg w (dl0_ h), t.nsh, t.ntg, t.fsh, t.ftg⟩
 have hsh : ∀ y ∈ spSh p, (0 ≤ @id Int y.2.1 ∧ @id Int y.2.1 ≤ 1000) ∧ y.1.size ≤ 1000 := by
  intro y hy
  unfold spSh at hy
  rcases List.mem_append.1 hy with hy | hy
  ·split at hy
   ·rw [List.mem_singleton] at hy; subst hy
    exact ⟨⟨show (0 : Int) ≤ p by omega, show (p : Int) ≤ 1000 by omega⟩, by show s_web_1.size ≤ 1000; decide⟩
   ·cases hy
  ·split at hy
   ·rw [List.mem_singleton] at hy; subst hy
    exact ⟨⟨show (0 : Int) ≤ 100 - (p : Int) by omega, show 100 - (p : Int) ≤ 1000 by omega⟩, by show s_web_2.size ≤ 1000; decide⟩
   ·cases hy
 have hshl : (spSh p).length ≤ 50 := by unfold spSh; split <;> split <;> simp
 refine zop h hTT hsh (show ∀ s ∈ spTg, s.1.size ≤ 1000 ∧ s.2.1.size ≤ 1000 by decide) hshl (show spTg.length ≤ 50 by decide) fun w h => ?_
 rw [znN hp100]
 have q3 : s__new_web_2_old_web_1_c061.size = 20 := rfl
 have hsl : (spLine p).size ≤ 1000 := by
  unfold spLine
  split
  ·decide
  ·split
   ·decide
   ·simp only [ByteArray.size_append, q1, q2]; omega
 refine gd (by simp only [maxI64]; omega) ?_
 refine itF (by rw [z38]; simp) ?_
 have h := dl0_ (dl0_ h)
 refine z1X (fun (_ : Unit) w => ∃ s : Seg, St w0 [s] w) (fun k21 hk21 => ?_) (fun _ w ⟨s, h⟩ => ⟨rfl, h.fin⟩)
 refine z0O (fun q y w => ∃ (i k0 : Nat) (a : ASys) (s : Seg), q + i = 8 ∧ @Eq Int y.1 i ∧ k0 ≤ 100 + 2 * i ∧ SplI p i a ∧ SInv k0 a ∧ SysS b a s ∧ St w0 [s] w) 8 ⟨0, _, a0, s, rfl, rfl, by omega, hst, inv, hs, h⟩ ?_
 clear hst hs inv h hTT hT
 rintro q ⟨y1, ⟨⟩⟩ w ⟨i, k0, a, s, hq, hy1, hk0, hS, inv, hs, h⟩ again hag
 (try dsimp only)
 simp only at hy1
 subst hy1
 have done : k21 () w := hk21 _ w ⟨s, h⟩
 refine it (fun hb => ?_) (fun hb => done)
 refine it (fun hb2 => ?_) (fun hb2 => done)
 clear done
 have hi : i < 8 := by have := of_decide_eq_true hb2; omega
 have hil : (i : Int) < p1.len := by simpa using hb
 refine oldI o h (by omega) (by (try dsimp only); omega) fun x26 hx26 => ?_
 refine zf3 (by decide) (by decide) ?_
 have hd : 0 ≤ x26 % 2147483648 ∧ x26 % 2147483648 < 2147483648 := by omega
 generalize x26 % 2147483648 = d at *
 have e1 : IntKind.wrap .i64 ((i : Int) + 1) = (i : Int) + 1 := wr (by omega) (by omega)
 rw [e1]
 refine nw h ?_; clear h; (try clear w); intro b28 w h
 (refine stC h ?_; clear h; (try clear w); intro w h; dsimp only [putN, setN] at h)
 refine z1X (fun (z : Int × Unit) w => z.1 = (if d % 100 < p then 1 else 2) ∧ St w0 [[Cl b28 z0t (eEv (evAr ((i : Int) + 1) z1Q s_ d))], s] w) (fun k29 hk29 => ?_) ?_
 ·(refine ldC h ?_)
  refine gd (by decide) ?_
  have et : Int.tmod d 100 = d % 100 := Int.tmod_eq_emod_of_nonneg hd.1
  rw [et]
  refine it (fun hc => ?_) (fun hc => ?_)
  ·exact hk29 _ w ⟨by rw [if_pos (by simpa using hc)], h⟩
  ·exact hk29 _ w ⟨by rw [if_neg (by simpa using hc)], h⟩
 clear h; (try clear w)
 rintro ⟨z30, ⟨⟩⟩ w ⟨hz30, h⟩
 dsimp only at hz30 ⊢
 refine z1X (fun (z : Int × Unit) w => ∃ tag, (tag = s_ ∨ tag = zcO) ∧ z.1 = spPod p tag d ∧ St w0 [[Cl b28 z0t (eEv (evAr ((i : Int) + 1) z1Q tag d))], s] w) (fun k32 hk32 => ?_) ?_
 ·have plain : k32 (z30, ()) w := hk32 _ w ⟨s_, .inl rfl, by unfold spPod; rw [if_pos rfl, hz30], h⟩
  refine it (fun hc => ?_) (fun hc => plain)
  have hc2 : (i : Int) < p2.len := by simpa using hc
  refine old1 o2 encBl h (lf := .bool) (fun x => x) (fun x => ⟨_, rfl, rfl⟩) (by omega) hc2 fun u hu => ?_
  refine it (fun hc3 => ?_) (fun hc3 => plain)
  (refine stC h ?_; clear h; (try clear w); intro w h; dsimp only [putN, setN] at h)
  exact hk32 _ w ⟨zcO, .inr rfl, by unfold spPod; rw [if_neg (by decide)], h⟩
 clear h; (try clear w)
 rintro ⟨z33, ⟨⟩⟩ w ⟨tag, htag, hz33, h⟩
 dsimp only at hz33 ⊢
 (refine laC h ?_)
 obtain ⟨hS2, ho⟩ := zks hS hp100 hi htag hd
 have hchk : chkEv (evAr ((i : Int) + 1) z1Q tag d) = 0 := zpw (by decide +kernel) (by rcases htag with e | e; exact .inl e; exact .inr (by rw [e]; decide +kernel)) (by omega) (by omega)
 refine zpU (ks := ksSp) (e := evAr ((i : Int) + 1) z1Q tag d) h 1 rfl hs rfl hchk (EvIn.plain rfl rfl fun h => absurd h (show ¬ ((4 : Int) = 12 ∨ (4 : Int) = 13) by decide)) inv (by omega) (by rw [hS.n]; decide) fun v sv s' w r hs i2 h => ?_
 rw [ho] at r
 have hlen := Rw.len encS r
 have hpod : spPod p tag d = 1 ∨ spPod p tag d = 2 := by unfold spPod; split <;> (try split) <;> simp
 (dsimp only [setN, List.cons_append, List.nil_append] at h; refine dr h ?_; clear h; (try clear w); intro w h)
 refine itF (by rw [hlen]; rfl) ?_
 refine Rw.ix encS r (by decide) (by simp) fun a38 ha => ?_
 refine Rw.ld0 encS h 0 rfl r ha rfl rfl rfl ?_
 refine z9t h (by omega) (by omega) fun w h => ?_
 refine Rw.cka encS h 0 rfl r ha rfl rfl ?_
 have d3 := z7O ((i : Int) + 1).toNat
 have q4 : s_sent__475f.size = 5 := rfl
 have q5 : s___b5c5.size = 1 := rfl
 refine gd (by simp only [maxI64]; omega) ?_
 refine gd (by rw [ByteArray.size_append]; simp only [maxI64]; omega) ?_
 rw [hz33]
 refine z9t h (by omega) (by omega) fun w h => ?_
 refine Rw.cka encS h 0 rfl r ha rfl rfl ?_
 have d4 := z7O (spPod p tag d).toNat
 refine gd (by rw [ByteArray.size_append, ByteArray.size_append]; simp only [maxI64]; omega) ?_
 refine itF (by rw [z38, znO]; simp) ?_
 refine hag (q - 1) _ w (by omega) ⟨i + 1, _, _, s', by omega, ?_, by omega, hS2, i2, hs, dl0_ (dl0_ h)⟩
 show (i : Int) + 1 = ((i + 1 : Nat) : Int)
 omega
end Go.Proofs.YtkebppklbobjcaaGreatDoor
namespace Go.Dm
def tabB (P : Program) (name : String) (k : IntKind) : Bool := match P.globalNamed name with
 | none => false
 | some g => match (P.globals[g]?).map (·.type) with
  | none => false
  | some t => match P.underlying t with
   | some (.array n e) => (match P.underlying e with
    | some (.int k') => decide (k' = k)
    | _ => false) && (P.cellsOf e == 1) && (P.cellsOf t == n)
   | _ => false
theorem zoU {P : Program} {W : World} {name : String} {k : IntKind} {zs : List Int} (hb : tabB P name k = true) {l : List (String × DataW Unit)} (hp : (l.all fun x => x.2.handleName?.isNone) = true)
  (hf : (l.filter fun x => x.1 == name) = [(name, Lib.tabData k zs)]) (h : laidMetH P l W) : Lib.TabIs P W name k zs := by
 rw [MakeChecks.laidMetH_plain P l W hp] at h
 have h2 := h.filter fun x => x.1 == name
 rw [hf] at h2
 unfold tabB at hb
 split at hb
 ·cases hb
 ·rename_i g hg
  split at hb
  ·cases hb
  ·rename_i t ht
   split at hb
   ·rename_i n e he
    simp only [Bool.and_eq_true, beq_iff_eq] at hb
    obtain ⟨⟨hb, hce⟩, hct⟩ := hb
    split at hb
    ·rename_i k' hk
     have hb : k' = k := by simpa using hb
     subst hb
     exact Lib.tabIs_of_head hg ht he hk hce hct h2
    ·cases hb
   ·cases hb
end Go.Dm
