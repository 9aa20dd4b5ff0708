/- Contracts of functions, and walks of laws (text He). No conditions beyond those its theorems state. -/
import Derived.Test.YthmpbgloifdcnaaHd
set_option linter.all false
namespace Go.Proofs.Ythmpbgloifdcnaa
open Go.Dm
attribute [local irreducible] L.load L.store L.chk L.new L.nonnil L.guard L.ite L.draw L.idx L.sem L.semR L.semU L.chkSem L.next L.call L.callV L.join L.alts L.loop L.begin L.endRound L.range
variable {w0 w : World} {E : List Seg}
theorem gWith_seen {all : Alls} {rev : ByteArray} {q : Int} (h : q ∈ gWith all rev) : gSeen all q = true := by
  have h := (isort_perm _).mem_iff.1 h
  obtain ⟨p, hp, rfl⟩ := List.mem_map.1 h
  have hp := (List.mem_filter.1 hp).1
  unfold gSeen
  cases hg : mget all p.1 with
  | some v => rfl
  | none => exact absurd (List.mem_map_of_mem (f := (·.1)) hp) (mget_none.1 hg)
theorem W_GateOrder (p0 : Int) (p1 : Sl) {xs : List Int} (o1 : Old w0 eI p1 xs) : Calls Pr n_damperlaw14_GateOrder #[I p0, SlV p1] w0 fun e w' => e = .returned (.bool true) ∧ St w0 [] w' := by
  refine law_of (args := [I p0, SlV p1]) (C_damperlaw14_GateOrder p0 p1) ?_
  unfold F_damperlaw14_GateOrder
  have h := St.init w0
  refine S_known14 h fun w h => itF rfl ?_
  refine S_fNew h fun bf sf w hf h => itF rfl ?_
  have hk0 := Int.emod_nonneg p0 (by decide : (9 : Int) ≠ 0)
  have hk1 := Int.emod_lt_of_pos p0 (by decide : (0 : Int) < 9)
  refine S_within14 (by decide) (by decide) ?_
  refine S_gNew h (by omega) (by omega) fun b sg w hg h => itF rfl ?_
  have O0 : OrdI 0 0 1 ⟨6, 0, []⟩ ⟨[], [], p0 % 9, 50⟩ := ⟨by simp, ⟨by decide, by decide, by simp⟩, by simp, rfl, .nil, by simp [lineOf, mget], fun q hq => (by cases hq), by decide, by decide, by decide, by simp, by simp, by simp only; omega, rfl⟩
  refine jd ?_
  refine loop_of (fun q y w => ∃ (i : Nat) (last next : Int) (F : AFleet) (G : AGate) (sg sf : Seg), y = (last, next, (i : Int), ()) ∧ q + i = 90 ∧ OrdI i last next F G ∧ GtS b bf G sg ∧ FlS bf F sf ∧ St w0 (sg :: sf :: []) w) 90 ⟨0, 0, 1, _, _, sg, sf, rfl, rfl, O0, hg, hf, h⟩ ?_
  clear hf hg O0
  clear h; (try clear w)
  rintro q y w ⟨i, last, next, F, G, sg, sf, rfl, hq, O, hg, hf, h⟩ again hag
  dsimp only
  refine it (fun hb => ?_) (fun _ => ⟨rfl, h.fin⟩)
  refine it (fun hb2 => ?_) (fun _ => ⟨rfl, h.fin⟩)
  simp only [decide_eq_true_eq] at hb hb2
  have hna := O.na; have hnl := O.nl; have hpat := O.pat; have hfl := O.fl; have hfr := O.fr; have hnx := O.nx; have hn0 := O.n0
  refine oldI o1 h (by omega) hb fun x hx => ?_
  refine gd (by decide) ?_
  generalize IntKind.wrap .i64 (Int.tdiv x 6) = kk
  -- the event
  refine join_of (fun z w => ∃ (next' : Int) (v : Sl) (fs : List Fate) (F' : AFleet) (G' : AGate) (sv sg sf : Seg), z = (next', v, ()) ∧ OrdS i last F' G' fs next' ∧ Rw Fate.cells T_gate_Fate 4 v fs sv ∧ fs.length < 10000 ∧ GtS b bf G' sg ∧ FlS bf F' sf ∧ St w0 (sv :: sg :: sf :: []) w) (fun k11 hk11 => ?_) (fun z w ⟨next', v, fs, F', G', sv, sg, sf, hz, ⟨last', o, O'⟩, hv, hfs, hg, hf, h⟩ => ?_)
  · refine oldI o1 h (by omega) hb fun x hx => ?_
    refine S_within14 (by decide) (by decide) ?_
    refine it (fun h0 => ?_) (fun h0 => ?_) <;> (try simp only [decide_eq_true_eq, decide_eq_false_iff_not, beq_iff_eq, bne_iff_ne, beq_eq_false_iff_ne, bne_eq_false_iff_eq, Bool.not_eq_true', Bool.not_eq_false', ne_eq, Bool.not_eq_true, Bool.not_eq_false] at h0)
    · refine S_within14 (by decide) (by decide) ?_
      have hw0 := Int.emod_nonneg kk (by decide : (4 : Int) ≠ 0)
      have hw1 := Int.emod_lt_of_pos kk (by decide : (0 : Int) < 4)
      refine S_fScale h 1 rfl hf (by omega) (by omega) fun v1 v2 sf s1 s2 w hf hr1 hr2 h => ?_
      have h : St w0 (s2 :: s1 :: sg :: sf :: []) w := h
      exact hk11 _ w ⟨next, _, [], _, _, [], sg, sf, rfl, ⟨last, .nil _, O.scale (by omega)⟩, Rw.nil, by decide, hg, hf, (dl0_ (dl0_ h)).nil⟩
    refine it (fun h1 => ?_) (fun h1 => ?_) <;> (try simp only [decide_eq_true_eq, decide_eq_false_iff_not, beq_iff_eq, bne_iff_ne, beq_eq_false_iff_ne, bne_eq_false_iff_eq, Bool.not_eq_true', Bool.not_eq_false', ne_eq, Bool.not_eq_true, Bool.not_eq_false] at h1)
    · refine S_within14 (by decide) (by decide) ?_
      have hw0 := Int.emod_nonneg kk (by decide : (12 : Int) ≠ 0)
      have hw1 := Int.emod_lt_of_pos kk (by decide : (0 : Int) < 12)
      rw [wr (by omega) (by omega)]
      refine S_fUpp h 1 rfl hf fun sf w hf h => ?_
      have O1 := O.up (1 + kk % 12)
      have hl1 := (gFlow_len (F := (fUpp F (1 + kk % 12)).1) hg.1 s_a_1).1
      have O2 := O1.flow hf.1 hg.1
      have hro := O.room
      refine S_gFlow h hg hf O1.few (by omega) (by omega) fun v sv sg sf w hv hg hf h => ?_
      exact hk11 _ w ⟨next, v, _, _, _, sv, sg, sf, rfl, O2, hv, by omega, hg, hf, h⟩
    refine it (fun h2 => ?_) (fun h2 => ?_) <;> (try simp only [decide_eq_true_eq, decide_eq_false_iff_not, beq_iff_eq, bne_iff_ne, beq_eq_false_iff_ne, bne_eq_false_iff_eq, Bool.not_eq_true', Bool.not_eq_false', ne_eq, Bool.not_eq_true, Bool.not_eq_false] at h2)
    · refine S_gInside h hg fun u1 u2 z1 z2 sg w hu1 hu2 hg h => ?_
      have l2 := Rw.len encI hu2
      refine it (fun hl => ?_) (fun hl => ?_)
      · simp only [decide_eq_true_eq] at hl
        have hg2 : (gWith G.all s_a_1).length ≤ G.all.length := by unfold gWith; rw [isort_len, List.length_map]; exact List.length_filter_le ..
        have hx0 := Int.emod_nonneg kk (by omega : ((u2.len : Nat) : Int) ≠ 0)
        have hx1 := Int.emod_lt_of_pos kk (by omega : (0 : Int) < ((u2.len : Nat) : Int))
        have hga := O.room
        refine S_within14 (p1 := ((u2.len : Nat) : Int)) (by omega) (by omega) ?_
        refine rd1 (Rw.rd encI h 1 rfl hu2) encI (lf := .int .i64) (fun x => x) (fun x => ⟨_, rfl, rfl⟩) hx0 hx1 fun qq hqq => ?_
        have hsn := gWith_seen (List.mem_of_getElem? hqq)
        have O2 := O.done hsn hf.1 hg.1
        have hro := O.room
        have hlen : (gDone F G qq).2.2.1.length < 10000 := by
          unfold gDone
          split
          · simp
          · rename_i hgive
            have ok2 := hg.1.reqIn (id := qq) hsn ((fGive F qq).2.1, 3)
            have := (gFlow_len (F := (fGive F qq).1) ok2 (fGive F qq).2.1).1
            simp only [List.length_cons] at this ⊢
            omega
        have h := fr3_ (fr3_ h)
        refine S_gDone h hg hf O.few (by omega) (by omega) fun v sv sg sf w hv hg hf h => ?_
        have h : St w0 (sv :: sg :: sf :: z1 :: z2 :: []) w := h
        exact hk11 _ w ⟨next, v, _, _, _, sv, sg, sf, rfl, O2, hv, hlen, hg, hf, dl3_ (dl3_ h)⟩
      · exact hk11 _ w ⟨next, _, [], _, _, [], sg, sf, rfl, ⟨last, .nil _, O.mono⟩, Rw.nil, by decide, hg, hf, (dl0_ (dl0_ h)).nil⟩
    refine it (fun h3 => ?_) (fun h3 => ?_) <;> (try simp only [decide_eq_true_eq, decide_eq_false_iff_not, beq_iff_eq, bne_iff_ne, beq_eq_false_iff_ne, bne_eq_false_iff_eq, Bool.not_eq_true', Bool.not_eq_false', ne_eq, Bool.not_eq_true, Bool.not_eq_false] at h3)
    · refine S_within14 (by decide) (by decide) ?_
      have hw0 := Int.emod_nonneg kk (by decide : (12 : Int) ≠ 0)
      have hw1 := Int.emod_lt_of_pos kk (by decide : (0 : Int) < 12)
      rw [wr (by omega) (by omega)]
      have hkl : (fKill F (1 + kk % 12)).2.1.length ≤ 1000 := by
        unfold fKill
        split
        · simp
        · rename_i y hy; exact (O.few.q y (List.mem_of_find?_eq_some hy)).1
      refine S_fKill h 1 rfl hf fun vl sf sl w hf hl h => ?_
      have h : St w0 (sl :: sg :: sf :: []) w := h
      have O2 := (O.kill (1 + kk % 12)).lost (fKill F (1 + kk % 12)).2.1
      have hll := (lostA_len (l := (fKill F (1 + kk % 12)).2.1) (all := G.all) (out := [])).1
      simp only [List.length_nil] at hll
      have h := fr1_ h
      refine S_gLost h hg hl (by omega) fun v sv sg w hv hg h => ?_
      have hkl2 := Rw.len encI hl
      refine hk11 _ w ⟨next, v, _, _, _, sv, sg, sf, rfl, O2, hv, ?_, hg, hf, dl2_ h⟩
      show (lostA (fKill F (1 + kk % 12)).2.1 G.all []).2.length < 10000
      have hb10 : (fKill F (1 + kk % 12)).2.1.length ≤ 1000 := hkl
      omega
    · have O2 := O.arr hf.1
      refine S_gArr h hg hf O.few (by omega) (by omega) (by rw [hpat]; decide) fun v sv sg sf w hv hg hf h => ?_
      rw [wr (by omega) (by omega)]
      exact hk11 _ w ⟨next + 1, v, _, _, _, sv, sg, sf, rfl, O2, hv, Nat.lt_of_le_of_lt (Nat.le_refl 1) (by decide), hg, hf, h⟩
  · subst hz
    dsimp only
    have hl := Rw.len encF hv
    refine loop_of (fun q2 y w => ∃ (t : Nat) (a : Int), y = (a, (t : Int), ()) ∧ q2 + t = fs.length ∧ Ord F'.l a (fs.drop t) last' ∧ St w0 (sv :: sg :: sf :: []) w) fs.length ⟨0, last, rfl, rfl, o, h⟩ ?_
    clear h; (try clear w)
    rintro q2 y w ⟨t, a, rfl, hq2, o, h⟩ again2 hag2
    dsimp only
    refine it (fun hb3 => ?_) (fun hb3 => ?_) <;> (try simp only [decide_eq_true_eq, decide_eq_false_iff_not, beq_iff_eq, bne_iff_ne, beq_eq_false_iff_ne, bne_eq_false_iff_eq, Bool.not_eq_true', Bool.not_eq_false', ne_eq, Bool.not_eq_true, Bool.not_eq_false] at hb3)
    · have ht : t < fs.length := by omega
      have hxf : fs[((t : Int)).toNat]? = some fs[t] := by rw [Int.toNat_natCast]; exact List.getElem?_eq_getElem ht
      have hdr : fs.drop t = fs[t] :: fs.drop (t + 1) := List.drop_eq_getElem_cons ht
      rw [hdr] at o
      generalize fs[t] = f at hxf o
      have next : ∀ {a2 : Int} {w}, Ord F'.l a2 (fs.drop (t + 1)) last' → St w0 (sv :: sg :: sf :: []) w → again2 (a2, IntKind.wrap .i64 ((t : Int) + 1), ()) w := by
        intro a2 w o h
        rw [wr (by omega) (by omega)]
        exact hag2 (q2 - 1) _ w (by omega) ⟨t + 1, a2, by simp, by omega, o, h⟩
      refine jd ?_
      refine rf (Rw.rd encF h 0 rfl hv) hxf (by omega) rfl rfl ?_
      cases o with
      | skip h1 o => exact itT (by simpa using h1) (next o h)
      | sent h1 h2 h3 o =>
        refine itF (by simpa using h1) ?_
        refine rf (Rw.rd encF h 0 rfl hv) hxf (by omega) rfl rfl (itF (decide_eq_false (by omega)) ?_)
        refine rf (Rw.rd encF h 0 rfl hv) hxf (by omega) rfl rfl ?_
        refine S_fOf h 2 rfl hf ?_
        rw [h3]
        refine itF (by rw [str_eq]; simp) ?_
        refine rf (Rw.rd encF h 0 rfl hv) hxf (by omega) rfl rfl ?_
        exact next o h
    · have e : fs.drop t = [] := List.drop_of_length_le (by omega)
      rw [e] at o
      have ea : a = last' := by cases o; rfl
      subst ea
      rw [wr (by omega) (by omega)]
      exact hag (q - 1) _ w (by omega) ⟨i + 1, a, next', F', G', sg, sf, by simp, by omega, O', hg, hf, dl0_ h⟩
end Go.Proofs.Ythmpbgloifdcnaa
