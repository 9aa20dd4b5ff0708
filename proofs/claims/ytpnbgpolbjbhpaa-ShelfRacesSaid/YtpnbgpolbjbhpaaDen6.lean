/- The reading of code as predicates, and its soundness (text Den6). No conditions beyond those its theorems state. -/
import Derived.Test.YtpnbgpolbjbhpaaDen5
set_option linter.all false
namespace Go.Dm
section
variable {P : Program} {D : Tb} {w w' : World} {a : AT} {c : Act} {o : Oper} {K : AT → PT}

theorem op_fieldAddr (T : TbOk P D) {t : TypeId} {x : Operand} {f : Nat} (h : ok a c) (hd : Dst o c) (hop : o.op = .fieldAddr t x f) (hk : denOp P D o a K w) : OpOk P o c w (Nx K c) := by
  simp only [denOp, hop] at hk
  obtain ⟨s, hs, hk⟩ := needV_some hk
  have hv := ok_ev h hs
  cases s with
  | v x => cases x with
    | pointer p => cases p with
      | none => exact False.elim hk
      | some ad =>
        dsimp only at hk
        cases hD : D.t t with
        | none => rw [hD] at hk; exact False.elim hk
        | some ti =>
          rw [hD] at hk
          obtain ⟨i, d, hi, hu, hd1, hsz, he, hz⟩ := Da T hD
          obtain ⟨td, n, e1, z⟩ := ti
          cases td with
          | struct fs =>
            dsimp only at hk
            obtain ⟨l, rfl, hl⟩ := tdOf_struct hd1
            cases hn : nth fs f with
            | none => rw [hn] at hk; exact False.elim hk
            | some fd =>
              rw [hn] at hk
              dsimp only at hk
              rw [nth_getElem?, hl, List.getElem?_map] at hn
              cases hf : l.toList[f]? with
              | none => rw [hf] at hn; cases hn
              | some fl =>
                rw [hf] at hn; cases hn
                dsimp only at hk
                cases hD2 : D.t fl.type with
                | none => rw [hD2] at hk; exact False.elim hk
                | some tf =>
                  rw [hD2] at hk
                  obtain ⟨i2, d2, hi2, hu2, hd2, hsz2, he2, hz2⟩ := Da T hD2
                  obtain ⟨td2, n2, e2, z2⟩ := tf
                  cases n2 with
                  | zero => exact False.elim hk
                  | succ n2 =>
                    have hne : i2.size ≠ 0 := by rw [← hsz2]; exact Nat.succ_ne_zero _
                    have hf' : l[f]? = some fl := by rw [← Array.getElem?_toList]; exact hf
                    exact fin_s h hd (.v (.pointer (some (ad.add fl.offset)))) (by simp [execOp, hop, hv, Instr.fieldAt, run_underlying hu, hf', Instr.sureAddr, fieldPlace, run_sizeOf' hi2, hne, pure, Sem.run]) rfl hk
          | _ => exact False.elim hk
    | _ => exact False.elim hk
  | _ => exact False.elim hk

theorem op_indexAddr (T : TbOk P D) {t : TypeId} {x i : Operand} (h : ok a c) (hd : Dst o c) (hop : o.op = .indexAddr t x i) (hk : denOp P D o a K w) : OpOk P o c w (Nx K c) := by
  simp only [denOp, hop] at hk
  obtain ⟨s, hs, hk⟩ := needV_some hk
  have hvi := ok_ev h hs
  cases s with
  | v y => cases y with
    | int k n =>
      dsimp only at hk
      obtain ⟨s2, hs2, hk⟩ := needV_some hk
      have hv := ok_ev h hs2
      cases s2 with
      | v y => cases y with
        | pointer p => cases p with
          | none => exact False.elim hk
          | some ad =>
            dsimp only at hk
            cases hD : D.t t with
            | none => rw [hD] at hk; exact False.elim hk
            | some ti =>
              rw [hD] at hk
              obtain ⟨i1, d, hi, hu, hd1, hsz, he, hz⟩ := Da T hD
              obtain ⟨td, m, e1, z⟩ := ti
              cases td with
              | arr len e =>
                dsimp only at hk
                obtain rfl := tdOf_arr hd1
                cases hD2 : D.t e with
                | none => rw [hD2] at hk; exact False.elim hk
                | some te =>
                  rw [hD2] at hk
                  obtain ⟨i2, d2, hi2, hu2, hd2, hsz2, he2, hz2⟩ := Da T hD2
                  obtain ⟨ad', ha, h0, h1, hk⟩ := hk
                  cases ha
                  exact fin_s h hd (.v (.pointer (some (ad.add (n.toNat * te.size))))) (by simp [execOp, hop, hv, hvi, Instr.indexAt, run_underlying hu, asIntOf, Instr.sureAddr, h0, h1, run_sizeOf' hi2, hsz2, pure, Sem.run]) rfl hk
              | _ => exact False.elim hk
        | slice sa len cap =>
            dsimp only at hk
            cases hD : D.t t with
            | none => rw [hD] at hk; exact False.elim hk
            | some ti =>
              rw [hD] at hk
              obtain ⟨i1, d, hi, hu, hd1, hsz, he, hz⟩ := Da T hD
              obtain ⟨td, m, e1, z⟩ := ti
              cases td with
              | slice e =>
                dsimp only at hk
                obtain rfl := tdOf_slice hd1
                cases hD2 : D.t e with
                | none => rw [hD2] at hk; exact False.elim hk
                | some te =>
                  rw [hD2] at hk
                  obtain ⟨i2, d2, hi2, hu2, hd2, hsz2, he2, hz2⟩ := Da T hD2
                  obtain ⟨ad', rfl, h0, h1, hk⟩ := hk
                  exact fin_s h hd (.v (.pointer (some (ad'.add (n.toNat * te.size))))) (by simp [execOp, hop, hv, hvi, Instr.indexAt, run_underlying hu, asIntOf, h0, h1, run_sizeOf' hi2, hsz2, pure, Sem.run]) rfl hk
              | _ => exact False.elim hk
        | _ => exact False.elim hk
      | _ => exact False.elim hk
    | _ => exact False.elim hk
  | _ => exact False.elim hk

theorem takeN_eq {α : Type} : ∀ (n : Nat) (l : List α), takeN n l = l.take n
  | 0, l => by simp [takeN]
  | n + 1, [] => by simp [takeN]
  | n + 1, x :: l => by simp [takeN, takeN_eq n l]
theorem dropN_eq {α : Type} : ∀ (n : Nat) (l : List α), dropN n l = l.drop n
  | 0, l => by simp [dropN]
  | n + 1, [] => by simp [dropN]
  | n + 1, x :: l => by simp [dropN, dropN_eq n l]
theorem run_part (T : TbOk P D) {t : TypeId} {ti : TI} (hD : D.t t = some ti) {cs : List Value} {off : Nat} {s : SV} (hp : partS ti cs off = some s) (w : World) :
    (part t cs.toArray off).run P w = .ok s.toV w := by
  obtain ⟨i, d, hi, hu, hd1, hsz, he, hz⟩ := Da T hD
  unfold partS at hp
  cases hE : ti.e with
  | none => rw [hE] at hp; cases hp
  | some e =>
    rw [hE] at hp he
    cases e with
    | agg ls =>
      cases hp
      have ha := (eOf_agg he.symm).1
      simp [part, run_isAgg' hu, ha, run_sizeOf' hi, pure, Sem.run, takeN_eq, dropN_eq, hsz, List.extract_toArray, List.extract_eq_take_drop]
    | one l =>
      have ha := eOf_one he.symm
      dsimp only at hp
      rw [nth_getElem?] at hp
      cases hn : cs[off]? with
      | none => rw [hn] at hp; cases hp
      | some v =>
        rw [hn] at hp; cases hp
        simp [part, run_isAgg' hu, ha, hn, pure, Sem.run]
theorem op_field (T : TbOk P D) {t : TypeId} {x : Operand} {f : Nat} (h : ok a c) (hd : Dst o c) (hop : o.op = .field t x f) (hk : denOp P D o a K w) : OpOk P o c w (Nx K c) := by
  simp only [denOp, hop] at hk
  cases hs : a.ev x with
  | none => rw [hs] at hk; exact False.elim hk
  | some s =>
    rw [hs] at hk
    have hv := ok_ev h hs
    cases s with
    | ag cs =>
      dsimp only at hk
      cases hD : D.t t with
      | none => rw [hD] at hk; exact False.elim hk
      | some ti =>
        rw [hD] at hk
        obtain ⟨i, d, hi, hu, hd1, hsz, he, hz⟩ := Da T hD
        obtain ⟨td, n, e1, z⟩ := ti
        cases td with
        | struct fs =>
          dsimp only at hk
          obtain ⟨l, rfl, hl⟩ := tdOf_struct hd1
          cases hn : nth fs f with
          | none => rw [hn] at hk; exact False.elim hk
          | some fd =>
            rw [hn] at hk
            dsimp only at hk
            rw [nth_getElem?, hl, List.getElem?_map] at hn
            cases hf : l.toList[f]? with
            | none => rw [hf] at hn; cases hn
            | some fl =>
              rw [hf] at hn; cases hn
              dsimp only at hk
              have hf' : l[f]? = some fl := by rw [← Array.getElem?_toList]; exact hf
              cases hD2 : D.t fl.type with
              | none => rw [hD2] at hk; exact False.elim hk
              | some tf =>
                rw [hD2] at hk
                dsimp only at hk
                cases hp : partS tf cs fl.offset with
                | none => rw [hp] at hk; exact False.elim hk
                | some v =>
                  rw [hp] at hk
                  exact fin_s h hd v (by simp [execOp, hop, hv, Instr.field, run_underlying hu, hf', asAgg, run_part T hD2 hp, pure, Sem.run]) rfl hk
        | _ => exact False.elim hk
    | _ => exact False.elim hk
theorem byteAt_eq {s : ByteArray} {n : Int} (h0 : 0 ≤ n) (h1 : n < s.size) : ∃ b, s[n.toNat]? = some b ∧ byteAt s n = (b.toNat : Int) := by
  have hlt : n.toNat < s.size := by omega
  refine ⟨s[n.toNat], ?_, ?_⟩
  · exact getElem?_pos s n.toNat hlt
  · unfold byteAt
    have : s.data.toList.getD n.toNat 0 = s[n.toNat] := by
      rw [List.getD_eq_getElem?_getD, Array.getElem?_toList]
      have : s.data[n.toNat]? = some s[n.toNat] := by
        rw [Array.getElem?_eq_getElem (by exact hlt)]; rfl
      rw [this]; rfl
    rw [this]
theorem op_index (T : TbOk P D) {t : TypeId} {x i : Operand} (h : ok a c) (hd : Dst o c) (hop : o.op = .index t x i) (hk : denOp P D o a K w) : OpOk P o c w (Nx K c) := by
  simp only [denOp, hop] at hk
  obtain ⟨s, hs, hk⟩ := needV_some hk
  have hvi := ok_ev h hs
  cases s with
  | v y => cases y with
    | int k n =>
      dsimp only at hk
      obtain ⟨s2, hs2, hk⟩ := needV_some hk
      have hv := ok_ev h hs2
      cases s2 with
      | v y => cases y with
        | string s =>
          dsimp only at hk
          cases hD : D.t t with
          | none => rw [hD] at hk; exact False.elim hk
          | some ti =>
            rw [hD] at hk
            obtain ⟨i1, d, hi, hu, hd1, hsz, he, hz⟩ := Da T hD
            obtain ⟨td, m, e1, z⟩ := ti
            cases td with
            | str =>
              obtain rfl := tdOf_str hd1
              obtain ⟨⟨h0, h1⟩, hk⟩ := hk
              obtain ⟨b, hb, hb2⟩ := byteAt_eq h0 h1
              exact fin_s h hd (.v (.int .u8 (byteAt s n))) (by simp [execOp, hop, hv, hvi, Instr.index, run_underlying hu, asIntOf, h0, hb, hb2, pure, Sem.run]) rfl hk
            | _ => exact False.elim hk
        | _ => exact False.elim hk
      | ag cs =>
        dsimp only at hk
        cases hD : D.t t with
        | none => rw [hD] at hk; exact False.elim hk
        | some ti =>
          rw [hD] at hk
          obtain ⟨i1, d, hi, hu, hd1, hsz, he, hz⟩ := Da T hD
          obtain ⟨td, m, e1, z⟩ := ti
          cases td with
          | arr len e =>
            obtain rfl := tdOf_arr hd1
            dsimp only at hk
            cases hD2 : D.t e with
            | none => rw [hD2] at hk; exact False.elim hk
            | some te =>
              rw [hD2] at hk
              dsimp only at hk
              obtain ⟨i2, d2, hi2, hu2, hd2, hsz2, he2, hz2⟩ := Da T hD2
              cases hp : partS te cs (n.toNat * te.size) with
              | none => rw [hp] at hk; exact False.elim hk
              | some v =>
                rw [hp] at hk
                obtain ⟨⟨h0, h1⟩, hk⟩ := hk
                exact fin_s h hd v (by simp [execOp, hop, hv, hvi, Instr.index, run_underlying hu, asIntOf, h0, h1, run_sizeOf' hi2, ← hsz2, run_part T hD2 hp, pure, Sem.run]) rfl hk
          | _ => exact False.elim hk
      | _ => exact False.elim hk
    | _ => exact False.elim hk
  | _ => exact False.elim hk
end
end Go.Dm
