/- Contracts of functions, and walks of laws (text Hl). No conditions beyond those its theorems state. -/
import Derived.Test.YthmpbgloifdcnaaGreatHj
set_option linter.all false
namespace Go.Proofs.YthmpbgloifdcnaaGreat
open Go.Dm
attribute [local irreducible] L.load L.store L.chk L.new L.nonnil L.guard L.ite L.draw L.idx L.sem L.semR L.semU L.chkSem L.next L.call L.callV L.join L.alts L.loop L.begin L.endRound L.range
variable {w0 w : World} {E : List Seg}
def eB (x : Bool) : List Value := [.bool x]
theorem encB : Enc eB 1 := ⟨fun _ => rfl, fun _ => rfl, by decide⟩
theorem elB : El Pr T_s_bool T_bool 1 1 (.bool false) := el_of (by kernel_rfl) (by kernel_rfl) rfl (by decide)
theorem Rw.stB {v : Sl} {l : List Bool} {s : Seg} {e : Nat} (h : St w0 E w) (k : Nat) (hi : nth E k = some s) (hr : Rw eB e 1 v l s) {i : Nat} {a : Addr} (ha : ElA v 1 i a) (hx : i < l.length) (y : Bool) {kk : PT}
    (hk : ∀ s' w', Rw eB e 1 v (l.set i y) s' → St w0 (setN E k s') w' → kk w') : L.store a [.bool y] kk w := by
  have := Rw.st encB h k hi hr ha (x := l[i]) (y := y) (List.getElem?_eq_getElem hx) (f := 0) (u := .bool y) (by decide) rfl rfl hk
  rwa [add_zero'] at this
/-- how often sent, how often ended -/
def PS (v a b : Int) : Prop := (v = 0 ∧ a = 0 ∧ b = 0) ∨ (v = 1 ∧ a = 1 ∧ b = 0) ∨ (v = 2 ∧ a = 0 ∧ b = 0) ∨ (v = 3 ∧ a = 1 ∧ b = 1) ∨ (v = 4 ∧ b = 1 ∧ 0 ≤ a ∧ a ≤ 1)
structure ArS (σ : Int → Int) (sn en : List Int) : Prop where
  ls : sn.length = 50
  le : en.length = 50
  qt : ∀ q, 1 ≤ q → q ≤ 40 → ∃ a b, sn[q.toNat]? = some a ∧ en[q.toNat]? = some b ∧ PS (σ q) a b
theorem ArS.upd {σ : Int → Int} {sn en sn' en' : List Int} {q v a b : Int} (h : ArS σ sn en) (hq : 1 ≤ q ∧ q ≤ 40) (h1 : sn'.length = 50) (h2 : en'.length = 50) (h3 : ∀ i, i ≠ q.toNat → sn'[i]? = sn[i]? ∧ en'[i]? = en[i]?)
    (h4 : sn'[q.toNat]? = some a) (h5 : en'[q.toNat]? = some b) (hp : PS v a b) : ArS (upS σ q v) sn' en' := by
  refine ⟨h1, h2, fun x hx1 hx2 => ?_⟩
  unfold upS
  by_cases e : x = q
  · subst e; rw [if_pos rfl]; exact ⟨a, b, h4, h5, hp⟩
  · rw [if_neg e]
    obtain ⟨h6, h7⟩ := h3 x.toNat (by omega)
    rw [h6, h7]; exact h.qt x hx1 hx2
structure CmS (σ : Int → Int) (cm : List Bool) : Prop where
  l : cm.length = 50
  qt : ∀ q, 1 ≤ q → q ≤ 40 → cm[q.toNat]? = some (decide (σ q ≠ 0))
theorem CmS.same {σ τ : Int → Int} {cm : List Bool} (h : CmS σ cm) (e : ∀ q, τ q = 0 ↔ σ q = 0) : CmS τ cm := ⟨h.l, fun q h1 h2 => by rw [h.qt q h1 h2]; simp [e q]⟩
theorem rep_at {α : Type} {x : α} {n i : Nat} (h : i < n) : (List.replicate n x)[i]? = some x := by simp [h]
theorem OnI.few1 {i : Nat} {R : Int} {F : AFleet} {G : AGate} (O : OnI i R F G) (id : Int) : (fKill F id).2.1.length ≤ 1000 := by
  unfold fKill
  split
  · simp
  · rename_i y hy; exact (O.few.q y (List.mem_of_find?_eq_some hy)).1
/-- what an event tells -/
def Told (tw : Bool) (σ τ : Int → Int) (fs : List Fate) : Prop := (tw = false ∧ Run true σ fs τ) ∨ (tw = true ∧ σ = τ ∧ ∃ id : Int, (1 ≤ id ∧ id ≤ 40) ∧ fs = [(id, 4, 0, s_twice, ())])
theorem Run.inv {b : Bool} {σ τ : Int → Int} {f : Fate} (h : Run b σ [f] τ) : okF σ f ∧ τ = upS σ f.1 f.2.1 := by
  cases h with
  | cons h1 _ h2 => cases h2; exact ⟨h1, rfl⟩
theorem Run.inv1 {b : Bool} {σ τ : Int → Int} {f : Fate} {fs : List Fate} (h : Run b σ (f :: fs) τ) : okF σ f ∧ Run b (upS σ f.1 f.2.1) fs τ := by
  cases h with
  | cons h1 _ h2 => exact ⟨h1, h2⟩
theorem Run.inv0 {b : Bool} {σ τ : Int → Int} (h : Run b σ [] τ) : σ = τ := by cases h; rfl
theorem hasU_came {all : Alls} (sn : ∀ q, gSeen all q = true → (1 ≤ stt all q ∧ stt all q ≤ 4) ∧ 1 ≤ q ∧ q ≤ 40) (q : Int) : hasU all (fun _ => true) q = if stt all q ≠ 0 then 1 else 0 := by
  have := sn q
  unfold hasU gSeen stt reqOf at *
  cases hg : mget all q with
  | none => simp
  | some v =>
    rw [hg] at this
    have := (this rfl).1
    simp only [Option.getD_some] at this ⊢
    rw [if_pos (show v.2 ≠ 0 by omega)]
    rfl
theorem hasU_end {all : Alls} {q a b : Int} (h : PS (stt all q) a b) : (hasU all (fun v => v == 3 || v == 4) q : Int) = b := by
  unfold hasU stt reqOf PS at *
  cases hg : mget all q with
  | none => rw [hg] at h; simp at h; simp [h.2]
  | some v =>
    rw [hg] at h
    simp only [Option.getD_some] at h
    rcases h with ⟨e, -, hb⟩ | ⟨e, -, hb⟩ | ⟨e, -, hb⟩ | ⟨e, -, hb⟩ | ⟨e, hb, -⟩ <;> simp [e, hb]
set_option maxHeartbeats 2000000 in
theorem W_GateOnce (p0 p1 : Int) (p2 : Sl) {xs : List Int} (o1 : Old w0 eI p2 xs) : Calls Pr n_damperlaw14_GateOnce #[I p0, I p1, SlV p2] w0 fun e w' => e = .returned (.bool true) ∧ St w0 [] w' := by
  refine law_of (args := [I p0, I p1, SlV p2]) (C_damperlaw14_GateOnce p0 p1 p2) ?_
  unfold F_damperlaw14_GateOnce
  have h := St.init w0
  refine S_known14 h fun w h => itF rfl ?_
  have hp0 := Int.emod_nonneg p0 (by decide : (6 : Int) ≠ 0)
  have hp1 := Int.emod_lt_of_pos p0 (by decide : (0 : Int) < 6)
  refine S_within14 (by decide) (by decide) ?_
  rw [wr (by omega) (by omega)]
  have hR0 : 1 ≤ 1 + p0 % 6 := by omega
  have hR6 : 1 + p0 % 6 ≤ 6 := by omega
  generalize 1 + p0 % 6 = R at hR0 hR6
  refine S_fNew h fun bf sf w hf h => itF rfl ?_
  have hk0 := Int.emod_nonneg p1 (by decide : (5 : Int) ≠ 0)
  have hk1 := Int.emod_lt_of_pos p1 (by decide : (0 : Int) < 5)
  refine S_within14 (by decide) (by decide) ?_
  generalize p1 % 5 = rm at hk0 hk1
  refine S_gNew h (by omega) (by omega) fun b sg w hg h => itF rfl ?_
  have O0 : OnI 0 R ⟨R, 0, []⟩ ⟨[], [], rm, 4⟩ := ⟨⟨fun x hx => (by cases hx), fun x hx => (by cases hx), by simp [lineOf, mget], fun q hq => (by cases hq)⟩, fun x hx => (by cases hx), ⟨by simp only [podsMost]; omega, by simp only [List.length_nil]; omega, fun x hx => (by cases hx)⟩, by simp, rfl, .inl rfl, Nat.le_refl _, by simp only; omega, rfl⟩
  refine join_of (fun z w => ∃ (v1 v2 v3 : Sl) (s1 s2 s3 : Seg), z = (v1, v2, v3, ()) ∧ Rw eI T_int 1 v1 (List.replicate (50 : Int).toNat 0) s1 ∧ Rw eI T_int 1 v2 (List.replicate (50 : Int).toNat 0) s2 ∧ Rw eB T_bool 1 v3 (List.replicate (50 : Int).toNat false) s3 ∧ St w0 (s1 :: s2 :: s3 :: sg :: sf :: []) w) (fun k6 hk6 => ?_) (fun z w ⟨v1, v2, v3, s1, s2, s3, hz, h1, h2, h3, h⟩ => ?_)
  · refine dr h ?_
    clear h
    intro w h
    (repeat' (first | refine altsC ?_ ?_ | exact altsN | (refine mkN elI encI 0 rfl h (by decide) (by decide) (by decide) fun v s w ht h => ?_) | (refine mkN elB encB false rfl h (by decide) (by decide) (by decide) fun v s w ht h => ?_)))
    all_goals (refine hk6 _ _ ⟨_, _, _, _, _, _, rfl, by assumption, by assumption, by assumption, ?_⟩)
    all_goals first
      | exact h
      | (have h := fr2_ (fr2_ (fr1_ h))
         exact h)
      | (have h := fr2_ (fr1_ (fr2_ h))
         exact h)
      | (have h := fr2_ (fr2_ h)
         exact h)
      | (have h := fr2_ (fr1_ (fr1_ h))
         exact h)
      | (have h := fr2_ (fr1_ h)
         exact h)
  · subst hz
    dsimp only
    refine jd ?_
    have A0 : ArS (stt []) (List.replicate (50 : Int).toNat 0) (List.replicate (50 : Int).toNat 0) := ⟨rfl, rfl, fun q h1 h2 => ⟨0, 0, rep_at (by show q.toNat < 50; omega), rep_at (by show q.toNat < 50; omega), .inl ⟨rfl, rfl, rfl⟩⟩⟩
    have C0 : CmS (stt []) (List.replicate (50 : Int).toNat false) := ⟨rfl, fun q h1 h2 => by rw [rep_at (by show q.toNat < 50; omega)]; rfl⟩
    refine loop_of (fun q y w => ∃ (i : Nat) (now : Int) (F : AFleet) (G : AGate) (sn en : List Int) (cm : List Bool) (s1 s2 s3 sg sf : Seg), y = (now, (i : Int), ()) ∧ q + i = 100 ∧ (0 ≤ now ∧ now ≤ i) ∧ OnI i R F G ∧ ArS (stt G.all) sn en ∧ CmS (stt G.all) cm ∧
      Rw eI T_int 1 v1 sn s1 ∧ Rw eI T_int 1 v2 en s2 ∧ Rw eB T_bool 1 v3 cm s3 ∧ GtS b bf G sg ∧ FlS bf F sf ∧ St w0 (s1 :: s2 :: s3 :: sg :: sf :: []) w) 100
      ⟨0, 0, _, _, _, _, _, s1, s2, s3, sg, sf, rfl, rfl, by decide, O0, A0, C0, h1, h2, h3, hg, hf, h⟩ ?_
    clear hf hg O0 A0 C0 h1 h2 h3 h
    rintro q y w ⟨i, now, F, G, sn, en, cm, s1, s2, s3, sg, sf, rfl, hq, hnow, O, A, C, h1, h2, h3, hg, hf, h⟩ again hag
    dsimp only
    refine it (fun hb => ?_) (fun _ => ⟨rfl, h.fin⟩)
    refine it (fun hb2 => ?_) (fun _ => ⟨rfl, h.fin⟩)
    simp only [decide_eq_true_eq] at hb hb2
    have hna := O.na; have hnl := O.nl; have hpt := O.pt; have hfl := O.fl; have hfr := O.fr; have hro := O.room
    refine oldI o1 h (by omega) hb fun x hx => ?_
    refine gd (by decide) ?_
    generalize IntKind.wrap .i64 (Int.tdiv x 7) = kk
    have hi0 := Int.emod_nonneg kk (by decide : (40 : Int) ≠ 0)
    have hi1 := Int.emod_lt_of_pos kk (by decide : (0 : Int) < 40)
    refine S_within14 (by decide) (by decide) ?_
    rw [wr (n := 1 + kk % 40) (by omega) (by omega)]
    obtain ⟨id, hid, hid2⟩ : ∃ id, id = 1 + kk % 40 ∧ (1 ≤ id ∧ id ≤ 40) := ⟨_, rfl, by omega, by omega⟩
    rw [← hid]
    refine join_of (fun z w => ∃ (now' : Int) (v : Sl) (tw : Bool) (fs : List Fate) (F' : AFleet) (G' : AGate) (cm' : List Bool) (sv s3 sg sf : Seg), z = (now', v, tw, ()) ∧ (0 ≤ now' ∧ now' ≤ i + 1) ∧ OnI (i + 1) R F' G' ∧ CmS (stt G'.all) cm' ∧ Told tw (stt G.all) (stt G'.all) fs ∧ fs.length < 10000 ∧
      Rw Fate.cells T_gate_Fate 4 v fs sv ∧ Rw eB T_bool 1 v3 cm' s3 ∧ GtS b bf G' sg ∧ FlS bf F' sf ∧ St w0 (sv :: s1 :: s2 :: s3 :: sg :: sf :: []) w) (fun k41 hk41 => ?_) (fun z w ⟨now', v, tw, fs, F', G', cm', sv, s3, sg, sf, hz, hnow', O', C', hT, hfs, hv, h3, hg, hf, h⟩ => ?_)
    · refine oldI o1 h (by omega) hb fun x hx => ?_
      refine S_within14 (by decide) (by decide) ?_
      refine it (fun e0 => ?_) (fun e0 => ?_) <;> (try simp only [decide_eq_true_eq, decide_eq_false_iff_not, beq_iff_eq, bne_iff_ne, beq_eq_false_iff_ne, bne_eq_false_iff_eq, Bool.not_eq_true', Bool.not_eq_false', ne_eq, Bool.not_eq_true, Bool.not_eq_false] at e0)
      · rw [wr (by omega) (by omega)]
        have h := fr4_ (fr3_ (fr3_ (fr3_ (fr4_ h))))
        have hll := lineOf_len hg.1 s_a_1
        obtain ⟨t1, t2, t3⟩ := O.tick (t := now + 1)
        refine S_gTick h hg O.gwk (by omega) fun v sv sg w hv hg h => ?_
        have h := fr5_ (fr5_ (fr5_ (fr5_ (fr2_ (fr5_ h)))))
        exact hk41 _ w ⟨now + 1, v, false, _, F, _, cm, sv, s3, sg, sf, rfl, by omega, t2, C.same fun q => t1.zero q, .inl ⟨rfl, t1.weak⟩, by omega, hv, h3, hg, hf, h⟩
      refine it (fun e1 => ?_) (fun e1 => ?_) <;> (try simp only [decide_eq_true_eq, decide_eq_false_iff_not, beq_iff_eq, bne_iff_ne, beq_eq_false_iff_ne, bne_eq_false_iff_eq, Bool.not_eq_true', Bool.not_eq_false', ne_eq, Bool.not_eq_true, Bool.not_eq_false] at e1)
      · refine S_within14 (by decide) (by decide) ?_
        refine S_fScale h 4 rfl hf (by omega) (by omega) fun u1 u2 sf t1 t2 w hf hr1 hr2 h => ?_
        have h : St w0 (t2 :: t1 :: s1 :: s2 :: s3 :: sg :: sf :: []) w := h
        exact hk41 _ w ⟨now, _, false, [], _, G, cm, [], s3, sg, sf, rfl, by omega, O.scale hR6, C, .inl ⟨rfl, .nil _⟩, by decide, Rw.nil, h3, hg, hf, (dl0_ (dl0_ h)).nil⟩
      refine it (fun e2 => ?_) (fun e2 => ?_) <;> (try simp only [decide_eq_true_eq, decide_eq_false_iff_not, beq_iff_eq, bne_iff_ne, beq_eq_false_iff_ne, bne_eq_false_iff_eq, Bool.not_eq_true', Bool.not_eq_false', ne_eq, Bool.not_eq_true, Bool.not_eq_false] at e2)
      · refine S_within14 (by decide) (by decide) ?_
        have hw0 := Int.emod_nonneg kk (by decide : (9 : Int) ≠ 0)
        have hw1 := Int.emod_lt_of_pos kk (by decide : (0 : Int) < 9)
        rw [wr (by omega) (by omega)]
        refine S_fUpp h 4 rfl hf fun sf w hf h => ?_
        have h : St w0 (s1 :: s2 :: s3 :: sg :: sf :: []) w := h
        obtain ⟨t1, t2⟩ := (O.up (1 + kk % 9)).flow hf.1
        have hl1 := (gFlow_len (F := (fUpp F (1 + kk % 9)).1) hg.1 s_a_1).1
        have hfw := (O.up (1 + kk % 9)).few
        have h := fr4_ (fr4_ (fr2_ (fr2_ (fr2_ h))))
        refine S_gFlow h hg hf hfw (by omega) (by omega) fun v sv sg sf w hv hg hf h => ?_
        have h := fr5_ (fr5_ (fr5_ (fr5_ (fr2_ (fr2_ h)))))
        exact hk41 _ w ⟨now, v, false, _, _, _, cm, sv, s3, sg, sf, rfl, by omega, t2.mono, C.same fun q => t1.zero q, .inl ⟨rfl, t1.weak⟩, by omega, hv, h3, hg, hf, h⟩
      refine it (fun e3 => ?_) (fun e3 => ?_) <;> (try simp only [decide_eq_true_eq, decide_eq_false_iff_not, beq_iff_eq, bne_iff_ne, beq_eq_false_iff_ne, bne_eq_false_iff_eq, Bool.not_eq_true', Bool.not_eq_false', ne_eq, Bool.not_eq_true, Bool.not_eq_false] at e3)
      · refine S_within14 (by decide) (by decide) ?_
        have hw0 := Int.emod_nonneg kk (by decide : (9 : Int) ≠ 0)
        have hw1 := Int.emod_lt_of_pos kk (by decide : (0 : Int) < 9)
        rw [wr (by omega) (by omega)]
        obtain ⟨t1, t2⟩ := O.lost hf.1 (1 + kk % 9)
        have hkl := O.few1 (1 + kk % 9)
        refine S_fKill h 4 rfl hf fun vl sf sl w hf hl h => ?_
        have h : St w0 (sl :: s1 :: s2 :: s3 :: sg :: sf :: []) w := h
        have hll := (lostA_len (l := (fKill F (1 + kk % 9)).2.1) (all := G.all) (out := [])).1
        simp only [List.length_nil] at hll
        have h := fr4_ h
        refine S_gLost h hg hl (by omega) fun v sv sg w hv hg h => ?_
        have h := dl2_ h
        have h := fr5_ (fr5_ (fr5_ (fr5_ (fr2_ (fr5_ h)))))
        refine hk41 _ w ⟨now, v, false, _, _, _, cm, sv, s3, sg, sf, rfl, by omega, t2, C.same fun q => t1.zero q, .inl ⟨rfl, t1.weak⟩, ?_, hv, h3, hg, hf, h⟩
        show (lostA (fKill F (1 + kk % 9)).2.1 G.all []).2.length < 10000
        omega
      refine it (fun e4 => ?_) (fun e4 => ?_) <;> (try simp only [decide_eq_true_eq, decide_eq_false_iff_not, beq_iff_eq, bne_iff_ne, beq_eq_false_iff_ne, bne_eq_false_iff_eq, Bool.not_eq_true', Bool.not_eq_false', ne_eq, Bool.not_eq_true, Bool.not_eq_false] at e4)
      · obtain ⟨t1, t2⟩ := O.done hf.1 (fun x hx => nodup_of_lt (hf.nd x hx)) id
        have hln : (gDone F G id).2.2.1.length < 10000 := by
          unfold gDone
          split
          · simp
          · rename_i hgive
            have ok2 := hg.1.req (by omega) id ((fGive F id).2.1, 3)
            have := (gFlow_len (F := (fGive F id).1) ok2 (fGive F id).2.1).1
            simp only [List.length_cons] at this ⊢
            omega
        have h := fr4_ (fr4_ (fr2_ (fr2_ (fr2_ h))))
        refine S_gDone h hg hf O.few (by omega) (by omega) fun v sv sg sf w hv hg hf h => ?_
        have h := fr5_ (fr5_ (fr5_ (fr5_ (fr2_ (fr2_ h)))))
        exact hk41 _ w ⟨now, v, false, _, _, _, cm, sv, s3, sg, sf, rfl, by omega, t2, C.same fun q => t1.zero q, .inl ⟨rfl, t1.weak⟩, hln, hv, h3, hg, hf, h⟩
      · have hcl := Rw.len encB h3
        have hcl2 := C.l
        have hca := C.qt id hid2.1 hid2.2
        refine rd1 (Rw.rd encB h 2 rfl h3) encB (lf := .bool) (fun x => x) (fun x => ⟨_, rfl, rfl⟩) (by omega) (by omega) fun y hy => ?_
        rw [hca] at hy
        cases hy
        have h := fr4_ (fr4_ (fr2_ (fr2_ (fr2_ h))))
        refine S_gArr h hg hf O.few (by omega) (by omega) (by rw [hpt]; omega) fun v sv sg sf w hv hg hf h => ?_
        have h := fr5_ (fr5_ (fr5_ (fr5_ (fr2_ (fr2_ h)))))
        refine Rw.ix encB h3 (by omega) (by omega) fun a ha => ?_
        refine Rw.stB h 3 rfl h3 ha (by omega) true fun s3 w h3 h => ?_
        have h : St w0 (sv :: s1 :: s2 :: s3 :: sg :: sf :: []) w := h
        rcases O.arr (now := now) hid2 with ⟨hs, e⟩ | ⟨hs, t1, t2, t3⟩
        · rw [e] at hv hg hf
          have hn0 := (O.on.sn id hs).1.1
          refine hk41 _ w ⟨now, v, _, _, F, G, _, sv, s3, sg, sf, rfl, by omega, O.mono, ⟨?_, fun q q1 q2 => ?_⟩, .inr ⟨?_, rfl, id, hid2, rfl⟩, Nat.lt_of_le_of_lt (Nat.le_refl 1) (by decide), hv, h3, hg, hf, h⟩
          · rw [List.length_set]; exact C.l
          · by_cases e : id = q
            · subst e
              rw [List.getElem?_set_self (by omega)]
              simp; omega
            · rw [List.getElem?_set_ne (by omega)]
              exact C.qt q q1 q2
          · simp; omega
        · have h0 := stt_no hs
          refine hk41 _ w ⟨now, v, _, _, _, _, _, sv, s3, sg, sf, rfl, by omega, t2, ⟨?_, fun q q1 q2 => ?_⟩, .inl ⟨?_, t1⟩, Nat.lt_of_le_of_lt (Nat.le_refl 1) (by decide), hv, h3, hg, hf, h⟩
          · rw [List.length_set]; exact C.l
          · obtain ⟨hok, et⟩ := t1.inv
            rw [et]
            unfold upS
            rw [t3]
            by_cases e : id = q
            · subst e
              rw [List.getElem?_set_self (by omega), if_pos rfl]
              rcases hok.2.2 with ⟨hw, -⟩ | ⟨hw, -⟩ | ⟨hw, -⟩ | ⟨hw, -⟩ <;> rw [hw] <;> rfl
            · rw [List.getElem?_set_ne (by omega), if_neg fun e2 => e e2.symm]
              exact C.qt q q1 q2
          · simp [h0]
    · subst hz
      dsimp only
      have hl := Rw.len encF hv
      refine loop_of (fun q2 y w => ∃ (t : Nat) (σ : Int → Int) (sn en : List Int) (s1 s2 : Seg), y = ((t : Int), ()) ∧ q2 + t = fs.length ∧ ((tw = false ∧ Run true σ (fs.drop t) (stt G'.all)) ∨ (tw = true ∧ σ = stt G'.all ∧ ∃ id : Int, (1 ≤ id ∧ id ≤ 40) ∧ fs = [(id, 4, 0, s_twice, ())])) ∧ ArS σ sn en ∧
        Rw eI T_int 1 v1 sn s1 ∧ Rw eI T_int 1 v2 en s2 ∧ St w0 (sv :: s1 :: s2 :: s3 :: sg :: sf :: []) w) fs.length ⟨0, stt G.all, sn, en, s1, s2, rfl, rfl, hT, A, h1, h2, h⟩ ?_
      clear h h1 h2 A hT
      rintro q2 y w ⟨t, σ, sn, en, s1, s2, rfl, hq2, hT, A, h1, h2, h⟩ again2 hag2
      dsimp only
      have hl1 := Rw.len encI h1
      have hl2 := Rw.len encI h2
      have hA1 := A.ls
      have hA2 := A.le
      refine it (fun hb3 => ?_) (fun hb3 => ?_) <;> (try simp only [decide_eq_true_eq, decide_eq_false_iff_not, beq_iff_eq, bne_iff_ne, beq_eq_false_iff_ne, bne_eq_false_iff_eq, Bool.not_eq_true', Bool.not_eq_false', ne_eq, Bool.not_eq_true, Bool.not_eq_false] at hb3)
      · have ht : t < fs.length := by omega
        have hxf : fs[((t : Int)).toNat]? = some fs[t] := by rw [Int.toNat_natCast]; exact List.getElem?_eq_getElem ht
        have hdr : fs.drop t = fs[t] :: fs.drop (t + 1) := List.drop_eq_getElem_cons ht
        generalize fs[t] = f at hxf hdr
        have next : ∀ {σ : Int → Int} {sn en : List Int} {s1 s2 : Seg} {w}, ((tw = false ∧ Run true σ (fs.drop (t + 1)) (stt G'.all)) ∨ (tw = true ∧ σ = stt G'.all ∧ ∃ id : Int, (1 ≤ id ∧ id ≤ 40) ∧ fs = [(id, 4, 0, s_twice, ())])) → ArS σ sn en →
            Rw eI T_int 1 v1 sn s1 → Rw eI T_int 1 v2 en s2 → St w0 (sv :: s1 :: s2 :: s3 :: sg :: sf :: []) w → again2 (IntKind.wrap .i64 ((t : Int) + 1), ()) w := by
          intro σ sn en s1 s2 w hT A h1 h2 h
          rw [wr (by omega) (by omega)]
          exact hag2 (q2 - 1) _ w (by omega) ⟨t + 1, σ, sn, en, s1, s2, by simp, by omega, hT, A, h1, h2, h⟩
        refine jd ?_
        refine Rw.ix encF hv (by omega) (by omega) fun a ha => ?_
        refine Rw.lda encF h 0 rfl hv ha hxf rfl ?_
        refine nw h ?_; clear h; (try clear w); intro b66 w h
        (repeat (first | refine nn ?_ | (refine dr h ?_; clear h; (try clear w); intro w h) | refine ld0_ h rfl rfl ?_ | refine ld1_ h rfl rfl ?_ | refine ld2_ h rfl rfl ?_ | refine ld3_ h rfl rfl ?_ | refine ld4_ h rfl rfl ?_ | refine ld5_ h rfl rfl ?_ | refine ld6_ h rfl rfl ?_ | refine ld7_ h rfl rfl ?_ | refine ld8_ h rfl rfl ?_ | refine ld9_ h rfl rfl ?_ | refine ld10_ h rfl rfl ?_ | refine ld11_ h rfl rfl ?_ | refine la0_ h rfl ?_ | refine la1_ h rfl ?_ | refine la2_ h rfl ?_ | refine la3_ h rfl ?_ | refine la4_ h rfl ?_ | refine la5_ h rfl ?_ | refine la6_ h rfl ?_ | refine la7_ h rfl ?_ | refine la8_ h rfl ?_ | refine la9_ h rfl ?_ | refine la10_ h rfl ?_ | refine la11_ h rfl ?_ | refine ck0_ h rfl ?_ | refine ck1_ h rfl ?_ | refine ck2_ h rfl ?_ | refine ck3_ h rfl ?_ | refine ck4_ h rfl ?_ | refine ck5_ h rfl ?_ | refine ck6_ h rfl ?_ | refine ck7_ h rfl ?_ | refine ck8_ h rfl ?_ | refine ck9_ h rfl ?_ | refine ck10_ h rfl ?_ | refine ck11_ h rfl ?_ | ((first | refine st0_ h rfl rfl ?_ | refine st1_ h rfl rfl ?_ | refine st2_ h rfl rfl ?_ | refine st3_ h rfl rfl ?_ | refine st4_ h rfl rfl ?_ | refine st5_ h rfl rfl ?_ | refine st6_ h rfl rfl ?_ | refine st7_ h rfl rfl ?_ | refine st8_ h rfl rfl ?_ | refine st9_ h rfl rfl ?_ | refine st10_ h rfl rfl ?_ | refine st11_ h rfl rfl ?_); clear h; (try clear w); intro w h; (try dsimp only [putN, setN] at h))))
        rcases hT with ⟨htw, hT⟩ | ⟨htw, eσ, id2, hid3, efs⟩
        · rw [hdr] at hT
          obtain ⟨⟨hf1, hf2, hf3⟩, hT⟩ := hT.inv1
          subst htw
          refine itF (decide_eq_false (by omega)) ?_
          (repeat (first | refine nn ?_ | (refine dr h ?_; clear h; (try clear w); intro w h) | refine ld0_ h rfl rfl ?_ | refine ld1_ h rfl rfl ?_ | refine ld2_ h rfl rfl ?_ | refine ld3_ h rfl rfl ?_ | refine ld4_ h rfl rfl ?_ | refine ld5_ h rfl rfl ?_ | refine ld6_ h rfl rfl ?_ | refine ld7_ h rfl rfl ?_ | refine ld8_ h rfl rfl ?_ | refine ld9_ h rfl rfl ?_ | refine ld10_ h rfl rfl ?_ | refine ld11_ h rfl rfl ?_ | refine la0_ h rfl ?_ | refine la1_ h rfl ?_ | refine la2_ h rfl ?_ | refine la3_ h rfl ?_ | refine la4_ h rfl ?_ | refine la5_ h rfl ?_ | refine la6_ h rfl ?_ | refine la7_ h rfl ?_ | refine la8_ h rfl ?_ | refine la9_ h rfl ?_ | refine la10_ h rfl ?_ | refine la11_ h rfl ?_ | refine ck0_ h rfl ?_ | refine ck1_ h rfl ?_ | refine ck2_ h rfl ?_ | refine ck3_ h rfl ?_ | refine ck4_ h rfl ?_ | refine ck5_ h rfl ?_ | refine ck6_ h rfl ?_ | refine ck7_ h rfl ?_ | refine ck8_ h rfl ?_ | refine ck9_ h rfl ?_ | refine ck10_ h rfl ?_ | refine ck11_ h rfl ?_ | ((first | refine st0_ h rfl rfl ?_ | refine st1_ h rfl rfl ?_ | refine st2_ h rfl rfl ?_ | refine st3_ h rfl rfl ?_ | refine st4_ h rfl rfl ?_ | refine st5_ h rfl rfl ?_ | refine st6_ h rfl rfl ?_ | refine st7_ h rfl rfl ?_ | refine st8_ h rfl rfl ?_ | refine st9_ h rfl rfl ?_ | refine st10_ h rfl rfl ?_ | refine st11_ h rfl rfl ?_); clear h; (try clear w); intro w h; (try dsimp only [putN, setN] at h))))
          refine itF (decide_eq_false (by omega)) ?_
          (repeat (first | refine nn ?_ | (refine dr h ?_; clear h; (try clear w); intro w h) | refine ld0_ h rfl rfl ?_ | refine ld1_ h rfl rfl ?_ | refine ld2_ h rfl rfl ?_ | refine ld3_ h rfl rfl ?_ | refine ld4_ h rfl rfl ?_ | refine ld5_ h rfl rfl ?_ | refine ld6_ h rfl rfl ?_ | refine ld7_ h rfl rfl ?_ | refine ld8_ h rfl rfl ?_ | refine ld9_ h rfl rfl ?_ | refine ld10_ h rfl rfl ?_ | refine ld11_ h rfl rfl ?_ | refine la0_ h rfl ?_ | refine la1_ h rfl ?_ | refine la2_ h rfl ?_ | refine la3_ h rfl ?_ | refine la4_ h rfl ?_ | refine la5_ h rfl ?_ | refine la6_ h rfl ?_ | refine la7_ h rfl ?_ | refine la8_ h rfl ?_ | refine la9_ h rfl ?_ | refine la10_ h rfl ?_ | refine la11_ h rfl ?_ | refine ck0_ h rfl ?_ | refine ck1_ h rfl ?_ | refine ck2_ h rfl ?_ | refine ck3_ h rfl ?_ | refine ck4_ h rfl ?_ | refine ck5_ h rfl ?_ | refine ck6_ h rfl ?_ | refine ck7_ h rfl ?_ | refine ck8_ h rfl ?_ | refine ck9_ h rfl ?_ | refine ck10_ h rfl ?_ | refine ck11_ h rfl ?_ | ((first | refine st0_ h rfl rfl ?_ | refine st1_ h rfl rfl ?_ | refine st2_ h rfl rfl ?_ | refine st3_ h rfl rfl ?_ | refine st4_ h rfl rfl ?_ | refine st5_ h rfl rfl ?_ | refine st6_ h rfl rfl ?_ | refine st7_ h rfl rfl ?_ | refine st8_ h rfl rfl ?_ | refine st9_ h rfl rfl ?_ | refine st10_ h rfl rfl ?_ | refine st11_ h rfl rfl ?_); clear h; (try clear w); intro w h; (try dsimp only [putN, setN] at h))))
          refine itF (by rw [str_eq]; simpa using hf2) (itF rfl ?_)
          (repeat (first | refine nn ?_ | (refine dr h ?_; clear h; (try clear w); intro w h) | refine ld0_ h rfl rfl ?_ | refine ld1_ h rfl rfl ?_ | refine ld2_ h rfl rfl ?_ | refine ld3_ h rfl rfl ?_ | refine ld4_ h rfl rfl ?_ | refine ld5_ h rfl rfl ?_ | refine ld6_ h rfl rfl ?_ | refine ld7_ h rfl rfl ?_ | refine ld8_ h rfl rfl ?_ | refine ld9_ h rfl rfl ?_ | refine ld10_ h rfl rfl ?_ | refine ld11_ h rfl rfl ?_ | refine la0_ h rfl ?_ | refine la1_ h rfl ?_ | refine la2_ h rfl ?_ | refine la3_ h rfl ?_ | refine la4_ h rfl ?_ | refine la5_ h rfl ?_ | refine la6_ h rfl ?_ | refine la7_ h rfl ?_ | refine la8_ h rfl ?_ | refine la9_ h rfl ?_ | refine la10_ h rfl ?_ | refine la11_ h rfl ?_ | refine ck0_ h rfl ?_ | refine ck1_ h rfl ?_ | refine ck2_ h rfl ?_ | refine ck3_ h rfl ?_ | refine ck4_ h rfl ?_ | refine ck5_ h rfl ?_ | refine ck6_ h rfl ?_ | refine ck7_ h rfl ?_ | refine ck8_ h rfl ?_ | refine ck9_ h rfl ?_ | refine ck10_ h rfl ?_ | refine ck11_ h rfl ?_ | ((first | refine st0_ h rfl rfl ?_ | refine st1_ h rfl rfl ?_ | refine st2_ h rfl rfl ?_ | refine st3_ h rfl rfl ?_ | refine st4_ h rfl rfl ?_ | refine st5_ h rfl rfl ?_ | refine st6_ h rfl rfl ?_ | refine st7_ h rfl rfl ?_ | refine st8_ h rfl rfl ?_ | refine st9_ h rfl rfl ?_ | refine st10_ h rfl rfl ?_ | refine st11_ h rfl rfl ?_); clear h; (try clear w); intro w h; (try dsimp only [putN, setN] at h))))
          obtain ⟨u, v, hu, hv2, hp⟩ := A.qt f.1 hf1.1 hf1.2
          refine rd1 (Rw.rd encI h 3 rfl h2) encI (lf := .int .i64) (fun x => x) (fun x => ⟨_, rfl, rfl⟩) (by omega) (by omega) fun y' hy' => ?_
          rw [hv2] at hy'
          cases hy'
          have hv0 : v = 0 := by unfold PS at hp; omega
          subst hv0
          refine itF rfl ?_
          refine join_of (fun z w => ∃ (sn en : List Int) (s1 s2 : Seg), ArS (upS σ f.1 f.2.1) sn en ∧ Rw eI T_int 1 v1 sn s1 ∧ Rw eI T_int 1 v2 en s2 ∧ St w0 ([Cl b66 T_gate_Fate (Fate.cells f)] :: sv :: s1 :: s2 :: s3 :: sg :: sf :: []) w) (fun k73 hk73 => ?_) (fun z w ⟨sn, en, s1, s2, A, h1, h2, h⟩ => ?_)
          · (repeat (first | refine nn ?_ | (refine dr h ?_; clear h; (try clear w); intro w h) | refine ld0_ h rfl rfl ?_ | refine ld1_ h rfl rfl ?_ | refine ld2_ h rfl rfl ?_ | refine ld3_ h rfl rfl ?_ | refine ld4_ h rfl rfl ?_ | refine ld5_ h rfl rfl ?_ | refine ld6_ h rfl rfl ?_ | refine ld7_ h rfl rfl ?_ | refine ld8_ h rfl rfl ?_ | refine ld9_ h rfl rfl ?_ | refine ld10_ h rfl rfl ?_ | refine ld11_ h rfl rfl ?_ | refine la0_ h rfl ?_ | refine la1_ h rfl ?_ | refine la2_ h rfl ?_ | refine la3_ h rfl ?_ | refine la4_ h rfl ?_ | refine la5_ h rfl ?_ | refine la6_ h rfl ?_ | refine la7_ h rfl ?_ | refine la8_ h rfl ?_ | refine la9_ h rfl ?_ | refine la10_ h rfl ?_ | refine la11_ h rfl ?_ | refine ck0_ h rfl ?_ | refine ck1_ h rfl ?_ | refine ck2_ h rfl ?_ | refine ck3_ h rfl ?_ | refine ck4_ h rfl ?_ | refine ck5_ h rfl ?_ | refine ck6_ h rfl ?_ | refine ck7_ h rfl ?_ | refine ck8_ h rfl ?_ | refine ck9_ h rfl ?_ | refine ck10_ h rfl ?_ | refine ck11_ h rfl ?_ | ((first | refine st0_ h rfl rfl ?_ | refine st1_ h rfl rfl ?_ | refine st2_ h rfl rfl ?_ | refine st3_ h rfl rfl ?_ | refine st4_ h rfl rfl ?_ | refine st5_ h rfl rfl ?_ | refine st6_ h rfl rfl ?_ | refine st7_ h rfl rfl ?_ | refine st8_ h rfl rfl ?_ | refine st9_ h rfl rfl ?_ | refine st10_ h rfl rfl ?_ | refine st11_ h rfl rfl ?_); clear h; (try clear w); intro w h; (try dsimp only [putN, setN] at h))))
            refine it (fun c1 => ?_) (fun c1 => ?_) <;> (try simp only [decide_eq_true_eq, decide_eq_false_iff_not, beq_iff_eq, bne_iff_ne, beq_eq_false_iff_ne, bne_eq_false_iff_eq, Bool.not_eq_true', Bool.not_eq_false', ne_eq, Bool.not_eq_true, Bool.not_eq_false] at c1)
            · (repeat (first | refine nn ?_ | (refine dr h ?_; clear h; (try clear w); intro w h) | refine ld0_ h rfl rfl ?_ | refine ld1_ h rfl rfl ?_ | refine ld2_ h rfl rfl ?_ | refine ld3_ h rfl rfl ?_ | refine ld4_ h rfl rfl ?_ | refine ld5_ h rfl rfl ?_ | refine ld6_ h rfl rfl ?_ | refine ld7_ h rfl rfl ?_ | refine ld8_ h rfl rfl ?_ | refine ld9_ h rfl rfl ?_ | refine ld10_ h rfl rfl ?_ | refine ld11_ h rfl rfl ?_ | refine la0_ h rfl ?_ | refine la1_ h rfl ?_ | refine la2_ h rfl ?_ | refine la3_ h rfl ?_ | refine la4_ h rfl ?_ | refine la5_ h rfl ?_ | refine la6_ h rfl ?_ | refine la7_ h rfl ?_ | refine la8_ h rfl ?_ | refine la9_ h rfl ?_ | refine la10_ h rfl ?_ | refine la11_ h rfl ?_ | refine ck0_ h rfl ?_ | refine ck1_ h rfl ?_ | refine ck2_ h rfl ?_ | refine ck3_ h rfl ?_ | refine ck4_ h rfl ?_ | refine ck5_ h rfl ?_ | refine ck6_ h rfl ?_ | refine ck7_ h rfl ?_ | refine ck8_ h rfl ?_ | refine ck9_ h rfl ?_ | refine ck10_ h rfl ?_ | refine ck11_ h rfl ?_ | ((first | refine st0_ h rfl rfl ?_ | refine st1_ h rfl rfl ?_ | refine st2_ h rfl rfl ?_ | refine st3_ h rfl rfl ?_ | refine st4_ h rfl rfl ?_ | refine st5_ h rfl rfl ?_ | refine st6_ h rfl rfl ?_ | refine st7_ h rfl rfl ?_ | refine st8_ h rfl rfl ?_ | refine st9_ h rfl rfl ?_ | refine st10_ h rfl rfl ?_ | refine st11_ h rfl rfl ?_); clear h; (try clear w); intro w h; (try dsimp only [putN, setN] at h))))
              refine rd1 (Rw.rd encI h 2 rfl h1) encI (lf := .int .i64) (fun x => x) (fun x => ⟨_, rfl, rfl⟩) (by omega) (by omega) fun y' hy' => ?_
              rw [hu] at hy'
              cases hy'
              have hu0 : u = 0 := by unfold PS at hp; omega
              subst hu0
              refine Rw.ix encI h1 (by omega) (by omega) fun a ha => ?_
              refine Rw.stI h 2 rfl h1 ha (by omega) _ fun s1 w h1 h => ?_
              refine hk73 _ w ⟨_, _, s1, s2, A.upd hf1 (by rw [List.length_set]; exact hA1) hA2 (fun i hi => ⟨List.getElem?_set_ne fun e => hi e.symm, rfl⟩) (List.getElem?_set_self (by omega)) hv2 (by rw [c1]; exact .inr (.inl ⟨rfl, rfl, rfl⟩)), h1, h2, h⟩
            · have endd : ∀ {w}, (@Eq Int f.2.1 3 ∨ @Eq Int f.2.1 4) → St w0 ([Cl b66 T_gate_Fate (Fate.cells f)] :: sv :: s1 :: s2 :: s3 :: sg :: sf :: []) w →
                  (L.load (.one (.int .i64)) ((⟨b66, 0, none⟩ : Addr).add 0) fun (x82 : Int) =>
                  L.idx v2.a x82 v2.len 1 fun a83 =>
                  L.load (.one (.int .i64)) a83 fun (x84 : Int) =>
                  L.idx v2.a x82 v2.len 1 fun a85 =>
                  L.store a85 [.int .i64 (IntKind.wrap .i64 (x84 + 1))] <|
                  k73 (())) w := by
                intro w hc h
                (repeat (first | refine nn ?_ | (refine dr h ?_; clear h; (try clear w); intro w h) | refine ld0_ h rfl rfl ?_ | refine ld1_ h rfl rfl ?_ | refine ld2_ h rfl rfl ?_ | refine ld3_ h rfl rfl ?_ | refine ld4_ h rfl rfl ?_ | refine ld5_ h rfl rfl ?_ | refine ld6_ h rfl rfl ?_ | refine ld7_ h rfl rfl ?_ | refine ld8_ h rfl rfl ?_ | refine ld9_ h rfl rfl ?_ | refine ld10_ h rfl rfl ?_ | refine ld11_ h rfl rfl ?_ | refine la0_ h rfl ?_ | refine la1_ h rfl ?_ | refine la2_ h rfl ?_ | refine la3_ h rfl ?_ | refine la4_ h rfl ?_ | refine la5_ h rfl ?_ | refine la6_ h rfl ?_ | refine la7_ h rfl ?_ | refine la8_ h rfl ?_ | refine la9_ h rfl ?_ | refine la10_ h rfl ?_ | refine la11_ h rfl ?_ | refine ck0_ h rfl ?_ | refine ck1_ h rfl ?_ | refine ck2_ h rfl ?_ | refine ck3_ h rfl ?_ | refine ck4_ h rfl ?_ | refine ck5_ h rfl ?_ | refine ck6_ h rfl ?_ | refine ck7_ h rfl ?_ | refine ck8_ h rfl ?_ | refine ck9_ h rfl ?_ | refine ck10_ h rfl ?_ | refine ck11_ h rfl ?_ | ((first | refine st0_ h rfl rfl ?_ | refine st1_ h rfl rfl ?_ | refine st2_ h rfl rfl ?_ | refine st3_ h rfl rfl ?_ | refine st4_ h rfl rfl ?_ | refine st5_ h rfl rfl ?_ | refine st6_ h rfl rfl ?_ | refine st7_ h rfl rfl ?_ | refine st8_ h rfl rfl ?_ | refine st9_ h rfl rfl ?_ | refine st10_ h rfl rfl ?_ | refine st11_ h rfl rfl ?_); clear h; (try clear w); intro w h; (try dsimp only [putN, setN] at h))))
                refine rd1 (Rw.rd encI h 3 rfl h2) encI (lf := .int .i64) (fun x => x) (fun x => ⟨_, rfl, rfl⟩) (by omega) (by omega) fun y' hy' => ?_
                rw [hv2] at hy'
                cases hy'
                refine Rw.ix encI h2 (by omega) (by omega) fun a ha => ?_
                refine Rw.stI h 3 rfl h2 ha (by omega) _ fun s2 w h2 h => ?_
                refine hk73 _ w ⟨_, _, s1, s2, A.upd hf1 hA1 (by rw [List.length_set]; exact hA2) (fun i hi => ⟨rfl, List.getElem?_set_ne fun e => hi e.symm⟩) hu (List.getElem?_set_self (by omega)) ?_, h1, h2, h⟩
                show PS f.2.1 u 1
                unfold PS at hp ⊢
                omega
              refine jd ?_
              refine it (fun c3 => ?_) (fun c3 => ?_) <;> (try simp only [decide_eq_true_eq, decide_eq_false_iff_not, beq_iff_eq, bne_iff_ne, beq_eq_false_iff_ne, bne_eq_false_iff_eq, Bool.not_eq_true', Bool.not_eq_false', ne_eq, Bool.not_eq_true, Bool.not_eq_false] at c3)
              · exact itT (by simp [c3]) (endd (.inl c3) h)
              · dsimp only
                refine it (fun c4 => ?_) (fun c4 => ?_) <;> (try simp only [decide_eq_true_eq, decide_eq_false_iff_not, beq_iff_eq, bne_iff_ne, beq_eq_false_iff_ne, bne_eq_false_iff_eq, Bool.not_eq_true', Bool.not_eq_false', ne_eq, Bool.not_eq_true, Bool.not_eq_false] at c4)
                · exact endd (.inr c4) h
                · refine hk73 _ w ⟨sn, en, s1, s2, A.upd hf1 hA1 hA2 (fun i hi => ⟨rfl, rfl⟩) hu hv2 ?_, h1, h2, h⟩
                  unfold PS at hp ⊢
                  omega
          · have hl1 := Rw.len encI h1
            have hA1 := A.ls
            obtain ⟨u, v, hu, hv2, hp⟩ := A.qt f.1 hf1.1 hf1.2
            unfold upS at hp
            rw [if_pos rfl] at hp
            (repeat (first | refine nn ?_ | (refine dr h ?_; clear h; (try clear w); intro w h) | refine ld0_ h rfl rfl ?_ | refine ld1_ h rfl rfl ?_ | refine ld2_ h rfl rfl ?_ | refine ld3_ h rfl rfl ?_ | refine ld4_ h rfl rfl ?_ | refine ld5_ h rfl rfl ?_ | refine ld6_ h rfl rfl ?_ | refine ld7_ h rfl rfl ?_ | refine ld8_ h rfl rfl ?_ | refine ld9_ h rfl rfl ?_ | refine ld10_ h rfl rfl ?_ | refine ld11_ h rfl rfl ?_ | refine la0_ h rfl ?_ | refine la1_ h rfl ?_ | refine la2_ h rfl ?_ | refine la3_ h rfl ?_ | refine la4_ h rfl ?_ | refine la5_ h rfl ?_ | refine la6_ h rfl ?_ | refine la7_ h rfl ?_ | refine la8_ h rfl ?_ | refine la9_ h rfl ?_ | refine la10_ h rfl ?_ | refine la11_ h rfl ?_ | refine ck0_ h rfl ?_ | refine ck1_ h rfl ?_ | refine ck2_ h rfl ?_ | refine ck3_ h rfl ?_ | refine ck4_ h rfl ?_ | refine ck5_ h rfl ?_ | refine ck6_ h rfl ?_ | refine ck7_ h rfl ?_ | refine ck8_ h rfl ?_ | refine ck9_ h rfl ?_ | refine ck10_ h rfl ?_ | refine ck11_ h rfl ?_ | ((first | refine st0_ h rfl rfl ?_ | refine st1_ h rfl rfl ?_ | refine st2_ h rfl rfl ?_ | refine st3_ h rfl rfl ?_ | refine st4_ h rfl rfl ?_ | refine st5_ h rfl rfl ?_ | refine st6_ h rfl rfl ?_ | refine st7_ h rfl rfl ?_ | refine st8_ h rfl rfl ?_ | refine st9_ h rfl rfl ?_ | refine st10_ h rfl rfl ?_ | refine st11_ h rfl rfl ?_); clear h; (try clear w); intro w h; (try dsimp only [putN, setN] at h))))
            refine rd1 (Rw.rd encI h 2 rfl h1) encI (lf := .int .i64) (fun x => x) (fun x => ⟨_, rfl, rfl⟩) (by omega) (by omega) fun y' hy' => ?_
            rw [hu] at hy'
            cases hy'
            refine itF (decide_eq_false (by unfold PS at hp; omega)) ?_
            (repeat (first | refine nn ?_ | (refine dr h ?_; clear h; (try clear w); intro w h) | refine ld0_ h rfl rfl ?_ | refine ld1_ h rfl rfl ?_ | refine ld2_ h rfl rfl ?_ | refine ld3_ h rfl rfl ?_ | refine ld4_ h rfl rfl ?_ | refine ld5_ h rfl rfl ?_ | refine ld6_ h rfl rfl ?_ | refine ld7_ h rfl rfl ?_ | refine ld8_ h rfl rfl ?_ | refine ld9_ h rfl rfl ?_ | refine ld10_ h rfl rfl ?_ | refine ld11_ h rfl rfl ?_ | refine la0_ h rfl ?_ | refine la1_ h rfl ?_ | refine la2_ h rfl ?_ | refine la3_ h rfl ?_ | refine la4_ h rfl ?_ | refine la5_ h rfl ?_ | refine la6_ h rfl ?_ | refine la7_ h rfl ?_ | refine la8_ h rfl ?_ | refine la9_ h rfl ?_ | refine la10_ h rfl ?_ | refine la11_ h rfl ?_ | refine ck0_ h rfl ?_ | refine ck1_ h rfl ?_ | refine ck2_ h rfl ?_ | refine ck3_ h rfl ?_ | refine ck4_ h rfl ?_ | refine ck5_ h rfl ?_ | refine ck6_ h rfl ?_ | refine ck7_ h rfl ?_ | refine ck8_ h rfl ?_ | refine ck9_ h rfl ?_ | refine ck10_ h rfl ?_ | refine ck11_ h rfl ?_ | ((first | refine st0_ h rfl rfl ?_ | refine st1_ h rfl rfl ?_ | refine st2_ h rfl rfl ?_ | refine st3_ h rfl rfl ?_ | refine st4_ h rfl rfl ?_ | refine st5_ h rfl rfl ?_ | refine st6_ h rfl rfl ?_ | refine st7_ h rfl rfl ?_ | refine st8_ h rfl rfl ?_ | refine st9_ h rfl rfl ?_ | refine st10_ h rfl rfl ?_ | refine st11_ h rfl rfl ?_); clear h; (try clear w); intro w h; (try dsimp only [putN, setN] at h))))
            refine it (fun c3 => ?_) (fun c3 => ?_) <;> (try simp only [decide_eq_true_eq, decide_eq_false_iff_not, beq_iff_eq, bne_iff_ne, beq_eq_false_iff_ne, bne_eq_false_iff_eq, Bool.not_eq_true', Bool.not_eq_false', ne_eq, Bool.not_eq_true, Bool.not_eq_false] at c3)
            · (repeat (first | refine nn ?_ | (refine dr h ?_; clear h; (try clear w); intro w h) | refine ld0_ h rfl rfl ?_ | refine ld1_ h rfl rfl ?_ | refine ld2_ h rfl rfl ?_ | refine ld3_ h rfl rfl ?_ | refine ld4_ h rfl rfl ?_ | refine ld5_ h rfl rfl ?_ | refine ld6_ h rfl rfl ?_ | refine ld7_ h rfl rfl ?_ | refine ld8_ h rfl rfl ?_ | refine ld9_ h rfl rfl ?_ | refine ld10_ h rfl rfl ?_ | refine ld11_ h rfl rfl ?_ | refine la0_ h rfl ?_ | refine la1_ h rfl ?_ | refine la2_ h rfl ?_ | refine la3_ h rfl ?_ | refine la4_ h rfl ?_ | refine la5_ h rfl ?_ | refine la6_ h rfl ?_ | refine la7_ h rfl ?_ | refine la8_ h rfl ?_ | refine la9_ h rfl ?_ | refine la10_ h rfl ?_ | refine la11_ h rfl ?_ | refine ck0_ h rfl ?_ | refine ck1_ h rfl ?_ | refine ck2_ h rfl ?_ | refine ck3_ h rfl ?_ | refine ck4_ h rfl ?_ | refine ck5_ h rfl ?_ | refine ck6_ h rfl ?_ | refine ck7_ h rfl ?_ | refine ck8_ h rfl ?_ | refine ck9_ h rfl ?_ | refine ck10_ h rfl ?_ | refine ck11_ h rfl ?_ | ((first | refine st0_ h rfl rfl ?_ | refine st1_ h rfl rfl ?_ | refine st2_ h rfl rfl ?_ | refine st3_ h rfl rfl ?_ | refine st4_ h rfl rfl ?_ | refine st5_ h rfl rfl ?_ | refine st6_ h rfl rfl ?_ | refine st7_ h rfl rfl ?_ | refine st8_ h rfl rfl ?_ | refine st9_ h rfl rfl ?_ | refine st10_ h rfl rfl ?_ | refine st11_ h rfl rfl ?_); clear h; (try clear w); intro w h; (try dsimp only [putN, setN] at h))))
              refine rd1 (Rw.rd encI h 2 rfl h1) encI (lf := .int .i64) (fun x => x) (fun x => ⟨_, rfl, rfl⟩) (by omega) (by omega) fun y' hy' => ?_
              rw [hu] at hy'
              cases hy'
              refine itF (by simp; unfold PS at hp; omega) ?_
              exact next (.inl ⟨rfl, hT⟩) A h1 h2 (dl0_ h)
            · exact next (.inl ⟨rfl, hT⟩) A h1 h2 (dl0_ h)
        · subst htw
          have ef : f = (id2, 4, 0, s_twice, ()) := by
            have ht0 : t = 0 := by rw [efs] at ht; simpa using ht
            subst ht0
            rw [efs] at hxf
            exact (Option.some.inj hxf).symm
          subst ef
          refine itF (decide_eq_false (fun hlt => by have hlt := hlt; dsimp only at hlt; omega)) ?_
          (repeat (first | refine nn ?_ | (refine dr h ?_; clear h; (try clear w); intro w h) | refine ld0_ h rfl rfl ?_ | refine ld1_ h rfl rfl ?_ | refine ld2_ h rfl rfl ?_ | refine ld3_ h rfl rfl ?_ | refine ld4_ h rfl rfl ?_ | refine ld5_ h rfl rfl ?_ | refine ld6_ h rfl rfl ?_ | refine ld7_ h rfl rfl ?_ | refine ld8_ h rfl rfl ?_ | refine ld9_ h rfl rfl ?_ | refine ld10_ h rfl rfl ?_ | refine ld11_ h rfl rfl ?_ | refine la0_ h rfl ?_ | refine la1_ h rfl ?_ | refine la2_ h rfl ?_ | refine la3_ h rfl ?_ | refine la4_ h rfl ?_ | refine la5_ h rfl ?_ | refine la6_ h rfl ?_ | refine la7_ h rfl ?_ | refine la8_ h rfl ?_ | refine la9_ h rfl ?_ | refine la10_ h rfl ?_ | refine la11_ h rfl ?_ | refine ck0_ h rfl ?_ | refine ck1_ h rfl ?_ | refine ck2_ h rfl ?_ | refine ck3_ h rfl ?_ | refine ck4_ h rfl ?_ | refine ck5_ h rfl ?_ | refine ck6_ h rfl ?_ | refine ck7_ h rfl ?_ | refine ck8_ h rfl ?_ | refine ck9_ h rfl ?_ | refine ck10_ h rfl ?_ | refine ck11_ h rfl ?_ | ((first | refine st0_ h rfl rfl ?_ | refine st1_ h rfl rfl ?_ | refine st2_ h rfl rfl ?_ | refine st3_ h rfl rfl ?_ | refine st4_ h rfl rfl ?_ | refine st5_ h rfl rfl ?_ | refine st6_ h rfl rfl ?_ | refine st7_ h rfl rfl ?_ | refine st8_ h rfl rfl ?_ | refine st9_ h rfl rfl ?_ | refine st10_ h rfl rfl ?_ | refine st11_ h rfl rfl ?_); clear h; (try clear w); intro w h; (try dsimp only [putN, setN] at h))))
          refine itF (decide_eq_false (fun hlt => by have hlt := hlt; dsimp only at hlt; omega)) ?_
          (repeat (first | refine nn ?_ | (refine dr h ?_; clear h; (try clear w); intro w h) | refine ld0_ h rfl rfl ?_ | refine ld1_ h rfl rfl ?_ | refine ld2_ h rfl rfl ?_ | refine ld3_ h rfl rfl ?_ | refine ld4_ h rfl rfl ?_ | refine ld5_ h rfl rfl ?_ | refine ld6_ h rfl rfl ?_ | refine ld7_ h rfl rfl ?_ | refine ld8_ h rfl rfl ?_ | refine ld9_ h rfl rfl ?_ | refine ld10_ h rfl rfl ?_ | refine ld11_ h rfl rfl ?_ | refine la0_ h rfl ?_ | refine la1_ h rfl ?_ | refine la2_ h rfl ?_ | refine la3_ h rfl ?_ | refine la4_ h rfl ?_ | refine la5_ h rfl ?_ | refine la6_ h rfl ?_ | refine la7_ h rfl ?_ | refine la8_ h rfl ?_ | refine la9_ h rfl ?_ | refine la10_ h rfl ?_ | refine la11_ h rfl ?_ | refine ck0_ h rfl ?_ | refine ck1_ h rfl ?_ | refine ck2_ h rfl ?_ | refine ck3_ h rfl ?_ | refine ck4_ h rfl ?_ | refine ck5_ h rfl ?_ | refine ck6_ h rfl ?_ | refine ck7_ h rfl ?_ | refine ck8_ h rfl ?_ | refine ck9_ h rfl ?_ | refine ck10_ h rfl ?_ | refine ck11_ h rfl ?_ | ((first | refine st0_ h rfl rfl ?_ | refine st1_ h rfl rfl ?_ | refine st2_ h rfl rfl ?_ | refine st3_ h rfl rfl ?_ | refine st4_ h rfl rfl ?_ | refine st5_ h rfl rfl ?_ | refine st6_ h rfl rfl ?_ | refine st7_ h rfl rfl ?_ | refine st8_ h rfl rfl ?_ | refine st9_ h rfl rfl ?_ | refine st10_ h rfl rfl ?_ | refine st11_ h rfl rfl ?_); clear h; (try clear w); intro w h; (try dsimp only [putN, setN] at h))))
          refine itT (by rw [str_eq]; simp) (itF rfl (itF (by rw [hl, efs]; rfl) ?_))
          exact next (.inr ⟨rfl, eσ, id2, hid3, efs⟩) A h1 h2 (dl0_ h)
      · have e : fs.drop t = [] := List.drop_of_length_le (by omega)
        have eσ : σ = stt G'.all := by
          rcases hT with ⟨-, hT⟩ | ⟨-, eσ, -⟩
          · rw [e] at hT; exact hT.inv0
          · exact eσ
        subst eσ
        have hnda := hg.1.nda
        have hsn := O'.on.sn
        have hlo := fun (q : Int) (hs : gSeen G'.all q = true) => (hsn q hs).2.1
        have hhi := fun (q : Int) (hs : gSeen G'.all q = true) => (hsn q hs).2.2
        have hv4 : ∀ p ∈ G'.all, 1 ≤ p.2.2 ∧ p.2.2 ≤ 4 := fun p hp => by
          have hm := mget_of_mem hnda (show (p.1, p.2) ∈ G'.all from hp)
          have := (hsn p.1 (by unfold gSeen; rw [hm]; rfl)).1
          unfold stt reqOf at this
          rw [hm] at this
          exact this
        obtain ⟨hc1, hc2⟩ := cnt_all hv4
        have hna' := O'.na
        have h := fr4_ h
        refine S_gCounts h hg fun sg w hg h => ?_
        have hl3 := Rw.len encB h3
        have hC := C'.l
        refine loop_of (fun q3 y w => ∃ n : Nat, y = ((cntU G'.all (fun _ => true) n : Int), (cntU G'.all (fun v => v == 3 || v == 4) n : Int), (n : Int), ()) ∧ 1 ≤ n ∧ q3 + n = 41 ∧ St w0 (sg :: sv :: s1 :: s2 :: s3 :: sf :: []) w) 40
          ⟨1, by rw [show ((1 : Nat) : Int) = 1 from rfl, cntU_lo hlo hnda, cntU_lo hlo hnda]; rfl, Nat.le_refl _, rfl, h⟩ ?_
        clear h
        rintro q3 y w ⟨n, rfl, hn1, hq3, h⟩ again3 hag3
        dsimp only
        have hb1 : cntU G'.all (fun _ => true) n ≤ G'.all.length := List.length_filter_le ..
        have hb2 : cntU G'.all (fun v => v == 3 || v == 4) n ≤ G'.all.length := List.length_filter_le ..
        refine it (fun hb4 => ?_) (fun hb4 => ?_) <;> (try simp only [decide_eq_true_eq, decide_eq_false_iff_not, beq_iff_eq, bne_iff_ne, beq_eq_false_iff_ne, bne_eq_false_iff_eq, Bool.not_eq_true', Bool.not_eq_false', ne_eq, Bool.not_eq_true, Bool.not_eq_false] at hb4)
        · obtain ⟨u, v, hu, hv2, hp⟩ := A.qt n (by omega) hb4
          have hcm := C'.qt n (by omega) hb4
          have s1' := cntU_succ (g := fun _ => true) (q := n) hnda
          have s2' := cntU_succ (g := fun v => v == 3 || v == 4) (q := n) hnda
          have he := hasU_end hp
          have hc := hasU_came hsn n
          have fin : ∀ {w}, St w0 (sg :: sv :: s1 :: s2 :: s3 :: sf :: []) w → again3 ((cntU G'.all (fun _ => true) n : Int) + (hasU G'.all (fun _ => true) n : Int), IntKind.wrap .i64 ((cntU G'.all (fun v => v == 3 || v == 4) n : Int) + v), IntKind.wrap .i64 ((n : Int) + 1), ()) w := by
            intro w h
            have : v = 0 ∨ v = 1 := by unfold PS at hp; omega
            rw [wr (by omega) (by omega), wr (by omega) (by omega)]
            refine hag3 (q3 - 1) _ w (by omega) ⟨n + 1, ?_, by omega, by omega, h⟩
            rw [show ((n + 1 : Nat) : Int) = (n : Int) + 1 by omega, s1', s2', ← he]
            simp
          refine jd ?_
          refine rd1 (Rw.rd encB h 4 rfl h3) encB (lf := .bool) (fun x => x) (fun x => ⟨_, rfl, rfl⟩) (by omega) (by omega) fun y' hy' => ?_
          rw [hcm] at hy'
          cases hy'
          by_cases hs : stt G'.all n ≠ 0
          · rw [if_pos hs] at hc
            refine itT (by simpa using hs) ?_
            refine rd1 (Rw.rd encI h 3 rfl h2) encI (lf := .int .i64) (fun x => x) (fun x => ⟨_, rfl, rfl⟩) (by omega) (by omega) fun y' hy' => ?_
            rw [hv2] at hy'
            cases hy'
            have := fin h
            rw [hc] at this
            dsimp only
            rw [wr (n := (cntU G'.all (fun _ => true) n : Int) + 1) (by omega) (by omega)]
            exact this
          · rw [if_neg hs] at hc
            refine itF (by simpa using hs) ?_
            refine rd1 (Rw.rd encI h 3 rfl h2) encI (lf := .int .i64) (fun x => x) (fun x => ⟨_, rfl, rfl⟩) (by omega) (by omega) fun y' hy' => ?_
            rw [hv2] at hy'
            cases hy'
            have := fin h
            rw [hc] at this
            simpa using this
        · have hn : n = 41 := by omega
          subst hn
          have e1 : cntU G'.all (fun _ => true) ((41 : Nat) : Int) = G'.all.length := by
            rw [show ((41 : Nat) : Int) = 41 from rfl, cntU_hi hhi hnda]; simp
          have e2 : cntU G'.all (fun v => v == 3 || v == 4) ((41 : Nat) : Int) = gCnt G'.all 3 + gCnt G'.all 4 := by
            rw [show ((41 : Nat) : Int) = 41 from rfl, cntU_hi hhi hnda]; exact hc2
          rw [e1, e2]
          refine itF (by simp) (itF (by simp) (itF ?_ ?_))
          · rw [wr (n := (gCnt G'.all 2 : Int) + gCnt G'.all 1) (by omega) (by omega), wr (by omega) (by omega)]
            simp; omega
          · rw [wr (by omega) (by omega)]
            have h := dl1_ h
            have h := fr3_ (fr3_ (fr3_ h))
            exact hag (q - 1) _ w (by omega) ⟨i + 1, now', F', G', sn, en, cm', s1, s2, s3, sg, sf, by simp, by omega, by omega, O', A, C', h1, h2, h3, hg, hf, h⟩
end Go.Proofs.YthmpbgloifdcnaaGreat
