/- The reading of code as predicates, and its soundness (text Den7). No conditions beyond those its theorems state. -/
import Derived.Test.YtpnbgpolbjbhpaaDen6
set_option linter.all false
namespace Go.Dm
section
variable {P : Program} {D : Tb} {w w' : World} {a : AT} {c : Act} {o : Oper} {K : AT → PT}

theorem foldl_set (off : Nat) : ∀ (v : List Value) (k : Nat) (C : Array Value), off + k + v.length ≤ C.size →
    ((v.zipIdx k).foldl (fun cs x => cs.setIfInBounds (off + x.2) x.1) C).toList = C.toList.take (off + k) ++ v ++ C.toList.drop (off + k + v.length)
  | [], k, C, _ => by simp
  | x :: v, k, C, h => by
    simp only [List.length_cons] at h
    have hlt : off + k < C.size := by omega
    simp only [List.zipIdx_cons, List.foldl_cons]
    rw [foldl_set off v (k + 1) _ (by simp; omega)]
    have e1 : off + (k + 1) = off + k + 1 := by omega
    simp only [Array.toList_setIfInBounds, e1, List.length_cons]
    have e2 : (C.toList.set (off + k) x).take (off + k + 1) = C.toList.take (off + k) ++ [x] := by
      rw [List.take_succ_eq_append_getElem (by simpa using hlt), List.take_set_of_le (Nat.le_refl _)]
      simp
    have e3 : (C.toList.set (off + k) x).drop (off + k + 1 + v.length) = C.toList.drop (off + k + (v.length + 1)) := by
      rw [List.drop_set_of_lt (by omega)]
      congr 1; omega
    rw [e2, e3]; simp
theorem fill_of {place : Nat → Option (Nat × Nat)} : ∀ (l : List (Nat × SV)) (cs r : List Value), fillS place cs l = some r →
    Instr.fill place cs.toArray (l.map fun x => (x.1, x.2.toV)) = some r.toArray
  | [], cs, r, h => by cases h; rfl
  | (i, s) :: l, cs, r, h => by
    unfold fillS at h
    cases hp : place i with
    | none => rw [hp] at h; cases h
    | some q =>
      obtain ⟨off, size⟩ := q
      rw [hp] at h
      dsimp only at h
      split at h
      · rename_i hc
        have hn : s.toV.cells.size = size := by rw [← Array.length_toList, cells_toV]; exact hc.1
        have hle : off + s.toV.cells.size ≤ cs.toArray.size := by rw [hn]; simpa using hc.2
        have ih := fill_of l _ _ h
        simp only [List.map_cons, Instr.fill, hp]
        rw [if_neg (by simp [hn]; simpa using hc.2)]
        have e : (s.toV.cells.zipIdx.foldl (fun cs x => cs.setIfInBounds (off + x.2) x.1) cs.toArray) = (spliceAt cs off s.cells).toArray := by
          apply Array.ext'
          rw [← Array.foldl_toList, Array.toList_zipIdx, foldl_set off s.toV.cells.toList 0 cs.toArray (by simpa using hle)]
          simp [spliceAt, takeN_eq, dropN_eq, cells_toV]
        exact (congrArg (fun x => Instr.fill place x _) e).trans ih
      · cases h
theorem run_places (T : TbOk P D) : ∀ (l : List Field) (ps : List (Nat × Nat)), placesOf D (l.map fun f => (f.type, f.offset)) = some ps → ∀ w,
    (l.mapM fun f => (Prod.mk f.offset <$> sizeOf f.type : Sem (Nat × Nat))).run P w = .ok ps w
  | [], ps, h, w => by cases h; simp [pure, Sem.run]
  | f :: l, ps, h, w => by
    simp only [List.map_cons, placesOf] at h
    cases hD : D.t f.type with
    | none => rw [hD] at h; cases h
    | some tf => cases hr : placesOf D (l.map fun f => (f.type, f.offset)) with
      | none => rw [hD, hr] at h; cases h
      | some r =>
        rw [hD, hr] at h; cases h
        obtain ⟨i, d, hi, hu, hd1, hsz, he, hz⟩ := Da T hD
        simp [run_sizeOf' hi, run_places T l r hr, hsz]
theorem op_build (T : TbOk P D) {t : TypeId} {ps : Array (Nat × Operand)} (h : ok a c) (hd : Dst o c) (hop : o.op = .build t ps) (hk : denOp P D o a K w) : OpOk P o c w (Nx K c) := by
  simp only [denOp, hop] at hk
  cases hD : D.t t with
  | none => rw [hD] at hk; exact False.elim hk
  | some ti => cases hps : partsOf a ps.toList with
    | none =>
      rw [hD, hps] at hk
      obtain ⟨td, n, e1, z⟩ := ti
      cases td <;> (try exact False.elim hk) <;> (cases z <;> exact False.elim hk)
    | some l =>
      rw [hD, hps] at hk
      have hl := ok_partsOf h hps
      obtain ⟨i, d, hi, hu, hd1, hsz, he, hz⟩ := Da T hD
      obtain ⟨td, n, e1, z⟩ := ti
      cases z with
      | none => cases td <;> exact False.elim hk
      | some z =>
        obtain ⟨zv, hzv, rfl⟩ := hz z rfl
        have hz' := run_zeroValue' hi hzv
        cases td with
        | struct fs =>
          obtain ⟨fl, rfl, rfl⟩ := tdOf_struct hd1
          dsimp only at hk
          cases hpl : placesOf D (fl.toList.map fun f => (f.type, f.offset)) with
          | none => rw [hpl] at hk; exact False.elim hk
          | some pl =>
            rw [hpl] at hk
            dsimp only at hk
            cases hf : fillS (nth pl) zv.cells.toList l with
            | none => rw [hf] at hk; exact False.elim hk
            | some cs =>
              rw [hf] at hk
              have hfill := fill_of l _ _ hf
              have hpr := run_places T fl.toList pl hpl w
              have hplace : (fun i : Nat => pl[i]?) = nth pl := by funext i; rw [nth_getElem?]
              refine fin_s h hd (.ag cs) (v := .agg cs.toArray) ?_ rfl hk
              simp [execOp, hop, Instr.build, hz', run_underlying hu, Array.mapM_eq_mapM_toList, hpr, hl]
              have hfill' : Instr.fill (nth pl) zv.cells (List.map (fun x => (x.fst, x.snd.toV)) l) = some cs.toArray := by simpa using hfill
              simp [hplace, hfill']
        | arr m e =>
          obtain rfl := tdOf_arr hd1
          dsimp only at hk
          cases hD2 : D.t e with
          | none => rw [hD2] at hk; exact False.elim hk
          | some te =>
            rw [hD2] at hk
            dsimp only at hk
            obtain ⟨i2, d2, hi2, hu2, hd2, hsz2, he2, hz2⟩ := Da T hD2
            cases hf : fillS (fun i => some (i * te.size, te.size)) zv.cells.toList l with
            | none => rw [hf] at hk; exact False.elim hk
            | some cs =>
              rw [hf] at hk
              have hfill := fill_of l _ _ hf
              refine fin_s h hd (.ag cs) (v := .agg cs.toArray) ?_ rfl hk
              rw [hsz2] at hfill
              simp [execOp, hop, Instr.build, hz', run_underlying hu, run_sizeOf' hi2, hl]
              have hfill' : Instr.fill (fun j => some (j * i2.size, i2.size)) zv.cells (List.map (fun x => (x.fst, x.snd.toV)) l) = some cs.toArray := by simpa using hfill
              simp [hfill']
        | _ => exact False.elim hk

theorem catS_len (sz : Nat) : ∀ (l : List (Nat × SV)) (n : Nat) (r : List Value), catS sz n l = some r → r.length = l.length * sz
  | [], n, r, h => by cases h; simp
  | (i, s) :: l, n, r, h => by
    unfold catS at h
    split at h
    · rename_i hc
      cases hr : catS sz (n + 1) l with
      | none => rw [hr] at h; cases h
      | some r' =>
        rw [hr] at h; cases h
        have := catS_len sz l _ _ hr
        simp [this, hc.2, Nat.add_mul, Nat.add_comm]
    · cases h
theorem fill_cat (sz : Nat) : ∀ (l : List (Nat × SV)) (n : Nat) (r : List Value) (C : Array Value), catS sz n l = some r → C.size = (n + l.length) * sz →
    Instr.fill (fun i => some (i * sz, sz)) C (l.map fun x => (x.1, x.2.toV)) = some (C.toList.take (n * sz) ++ r).toArray
  | [], n, r, C, h, hC => by
    cases h
    simp only [List.map_nil, Instr.fill, List.append_nil, List.length_nil, Nat.add_zero] at *
    rw [List.take_of_length_le (by simp [hC])]
  | (i, s) :: l, n, r, C, h, hC => by
    unfold catS at h
    split at h
    · rename_i hc
      obtain ⟨rfl, hs⟩ := hc
      cases hr : catS sz (i + 1) l with
      | none => rw [hr] at h; cases h
      | some r' =>
        rw [hr] at h; cases h
        have hn : s.toV.cells.size = sz := by rw [← Array.length_toList, cells_toV]; exact hs
        have hle : i * sz + sz ≤ C.size := by
          rw [hC, List.length_cons, ← Nat.succ_mul]
          exact Nat.mul_le_mul_right _ (by omega)
        simp only [List.map_cons, Instr.fill]
        rw [if_neg (by simp [hn]; omega)]
        have e : (s.toV.cells.zipIdx.foldl (fun cs x => cs.setIfInBounds (i * sz + x.2) x.1) C).toList = C.toList.take (i * sz) ++ s.cells ++ C.toList.drop (i * sz + sz) := by
          rw [← Array.foldl_toList, Array.toList_zipIdx, foldl_set (i * sz) s.toV.cells.toList 0 C (by simp [hn]; omega)]
          simp [cells_toV, hs]
        have ih := fill_cat sz l (i + 1) r' (s.toV.cells.zipIdx.foldl (fun cs x => cs.setIfInBounds (i * sz + x.2) x.1) C) hr (by
          rw [← Array.length_toList, e]
          simp [hs, hC, Nat.add_mul, Nat.succ_mul]
          omega)
        refine ih.trans ?_
        rw [e, Nat.succ_mul]
        congr 2
        rw [List.take_left' (by simp [hs]; rw [Nat.min_eq_left (by omega)]), List.append_assoc]
    · cases h

theorem op_buildSlice (T : TbOk P D) {t : TypeId} {n : Nat} {ps : Array (Nat × Operand)} (h : ok a c) (hd : Dst o c) (hop : o.op = .buildSlice t n ps) (hk : denOp P D o a K w) : OpOk P o c w (Nx K c) := by
  simp only [denOp, hop] at hk
  cases hD : D.t t with
  | none => rw [hD] at hk; exact False.elim hk
  | some ti =>
    rw [hD] at hk
    obtain ⟨i, d, hi, hu, hd1, hsz, he, hz⟩ := Da T hD
    obtain ⟨td, m, e1, z⟩ := ti
    cases td with
    | slice e =>
      obtain rfl := tdOf_slice hd1
      dsimp only at hk
      cases hD2 : D.t e with
      | none => rw [hD2] at hk; exact False.elim hk
      | some te =>
        rw [hD2] at hk
        obtain ⟨i2, d2, hi2, hu2, hd2, hsz2, he2, hz2⟩ := Da T hD2
        obtain ⟨td2, sz, e2, z2⟩ := te
        cases z2 with
        | none => exact False.elim hk
        | some z2 => cases hps : partsOf a ps.toList with
          | none => rw [hps] at hk; exact False.elim hk
          | some l =>
            rw [hps] at hk
            dsimp only at hk
            have hl := ok_partsOf h hps
            obtain ⟨zv, hzv, rfl⟩ := hz2 z2 rfl
            have hz' := run_zeroValue' hi2 hzv
            split at hk
            · rename_i hc
              obtain ⟨hc1, hc2⟩ := hc
              cases hcat : catS sz 0 l with
              | none => rw [hcat] at hk; exact False.elim hk
              | some cs =>
                rw [hcat] at hk
                have hll : l.length = n := by
                  have := congrArg List.length hl
                  simp at this
                  rw [← this]; simpa using hc1
                dsimp only at hsz2
                refine fin_s h hd (.v (.slice (some ⟨w.heap.size, 0, none⟩) n n)) (w' := w.alloc (.cells cs.toArray e)) ?_ rfl hk
                have hbig : ¬ (2 ^ 24 < n * sz) := by omega
                have fill (C : Array Value) (hC : C.size = n * sz) : Instr.fill (fun i => some (i * sz, sz)) C (List.map (fun x => (x.fst, x.snd.toV)) l) = some cs.toArray := by
                  have := fill_cat sz l 0 cs C hcat (by rw [hC, hll]; simp)
                  simpa using this
                by_cases h0 : n * sz = 0
                · simp [execOp, hop, Instr.buildSlice, run_underlying hu, run_sizeOf' hi2, ← hsz2, hbig, h0, hl, fill, newRow, newObj, Sem.run]
                · simp [execOp, hop, Instr.buildSlice, run_underlying hu, run_sizeOf' hi2, ← hsz2, hbig, h0, hl, hz', fill, newRow, newObj, Sem.run]
            · exact False.elim hk
    | _ => exact False.elim hk
end
end Go.Dm
