/- Contracts of functions, and walks of laws (text Hi). No conditions beyond those its theorems state. -/
import Derived.Test.YthmpbgloifdcnaaGreatHh
set_option linter.all false
namespace Go.Proofs.YthmpbgloifdcnaaGreat
open Go.Dm
attribute [local irreducible] L.load L.store L.chk L.new L.nonnil L.guard L.ite L.draw L.idx L.sem L.semR L.semU L.chkSem L.next L.call L.callV L.join L.alts L.loop L.begin L.endRound L.range
variable {w0 w : World} {E : List Seg}
section
variable {lo n s pat : Int} {F : AFleet} {G : AGate} {tm : List Int}
theorem Lat.zero (L : Lat 0 0 s pat F G tm) : Lat 1 0 s pat F G tm :=
  ⟨L.f, L.n0, L.n8, L.s0, L.room, L.pt, L.seen, fun x hx => by have := (L.ln x hx).1; omega, L.pw, L.cov, L.lns, L.kn, L.tl, L.tv, L.na⟩
theorem Lat.up (L : Lat lo n s pat F G tm) : Lat lo n s pat (fUpp F 1).1 G tm :=
  ⟨L.f.up, L.n0, L.n8, L.s0, L.room, L.pt, L.seen, L.ln, L.pw, L.cov, L.lns, L.kn, L.tl, L.tv, L.na⟩
theorem Lat.nl (L : Lat lo n s pat F G tm) : G.lines.length ≤ 1 := by
  rcases L.lns with e | ⟨l, e⟩ <;> rw [e] <;> simp
end
theorem W_GateLate (p0 : Int) (p1 : Sl) (p2 : Int) {xs : List Int} (o1 : Old w0 eI p1 xs) : Calls Pr n_damperlaw14_GateLate #[I p0, SlV p1, I p2] w0 fun e w' => e = .returned (.bool true) ∧ St w0 [] w' := by
  refine law_of (args := [I p0, SlV p1, I p2]) (C_damperlaw14_GateLate p0 p1 p2) ?_
  unfold F_damperlaw14_GateLate
  have h := St.init w0
  refine S_known14 h fun w h => itF rfl ?_
  refine S_fNew h fun bf sf w hf h => itF rfl ?_
  have hp0 := Int.emod_nonneg p0 (by decide : (50 : Int) ≠ 0)
  have hp1 := Int.emod_lt_of_pos p0 (by decide : (0 : Int) < 50)
  refine S_within14 (by decide) (by decide) ?_
  have hpp : 1 ≤ 1 + p0 % 50 := by omega
  have hpq : 1 + p0 % 50 ≤ 50 := by omega
  rw [wr (by omega) (by omega)]
  generalize 1 + p0 % 50 = pat at hpp hpq
  refine S_gNew h (by decide) (by decide) fun b sg w hg h => itF rfl ?_
  refine S_fScale h 1 rfl hf (by decide) (by decide) fun v1 v2 sf s1 s2 w hf hr1 hr2 h => ?_
  have h : St w0 (s2 :: s1 :: sg :: sf :: []) w := h
  have h := dl0_ (dl0_ h)
  have hf : FlS bf (F1 1 []) sf := hf
  refine mkN elI encI 0 rfl h (by decide) (by decide) (by decide) fun s6 st w ht h => ?_
  have L0 : Lat 0 0 0 pat (F1 1 []) ⟨[], [], 8, pat⟩ (List.replicate (9 : Int).toNat 0) :=
    ⟨.start, by decide, by decide, by decide, rfl, rfl, fun q hq => (by cases hq), fun x hx => (by cases hx), .nil, fun q h1 h2 => by omega, .inl rfl, fun x hx => (by cases hx), rfl, fun v hv => by have := List.eq_of_mem_replicate hv; omega, Nat.zero_le _⟩
  refine loop_of (fun q y w => ∃ (t : Nat) (n s : Int) (F : AFleet) (G : AGate) (tm : List Int) (st sg sf : Seg), y = (n, s, (t : Int), ()) ∧ q + t = 70 ∧ (t = 0 → n = 0) ∧ Lat t n s pat F G tm ∧ GtS b bf G sg ∧ FlS bf F sf ∧ Rw eI T_int 1 s6 tm st ∧ St w0 (st :: sg :: sf :: []) w) 70
    ⟨0, 0, 0, _, _, _, st, sg, sf, rfl, rfl, fun _ => rfl, L0, hg, hf, ht, h⟩ ?_
  clear hf hg ht L0
  clear h; (try clear w)
  rintro q y w ⟨t, n, s, F, G, tm, st, sg, sf, rfl, hq, hz, L, hg, hf, ht, h⟩ again hag
  dsimp only
  refine it (fun hb => ?_) (fun _ => ⟨rfl, h.fin⟩)
  · simp only [decide_eq_true_eq] at hb
    refine jd ?_
    refine join_of (fun z w => ∃ (G' : AGate) (tm' : List Int) (st' sg' : Seg), Lat ((t : Int) + 1) n s pat F G' tm' ∧ GtS b bf G' sg' ∧ Rw eI T_int 1 s6 tm' st' ∧ St w0 (st' :: sg' :: sf :: []) w) (fun k11 hk11 => ?_) (fun z w ⟨G', tm', st', sg', L', hg', ht', h'⟩ => ?_)
    · refine it (fun hc => ?_) (fun hc => ?_) <;> (try simp only [decide_eq_true_eq, decide_eq_false_iff_not, beq_iff_eq, bne_iff_ne, beq_eq_false_iff_ne, bne_eq_false_iff_eq, Bool.not_eq_true', Bool.not_eq_false', ne_eq, Bool.not_eq_true, Bool.not_eq_false] at hc)
      · have h := fr1_ h
        have hT := L.tick
        have hsh := L.short
        have hn8 := L.n8
        have hlt := lLate_len (lineOf G.lines s_a_1) (t : Int)
        have hlate := L.late
        have hnd := L.late_nd
        refine S_gTick h hg L.gwk (by rw [hT.1, lateF_len]; omega) fun v sv sg' w hv hg' h => ?_
        rw [hT.1] at hv
        obtain ⟨-, L'⟩ := hT
        generalize lLate (lineOf G.lines s_a_1) (t : Int) = late at *
        have hlv := Rw.len encF hv
        rw [lateF_len] at hlv
        refine loop_of (fun q y w => ∃ (j : Nat) (st : Seg), y = ((j : Int), ()) ∧ q + j = late.length ∧ Rw eI T_int 1 s6 (tmL tm (late.take j)) st ∧ St w0 (sv :: sg' :: st :: sf :: []) w) late.length ⟨0, st, rfl, rfl, ht, h⟩ ?_
        clear ht
        clear h; (try clear w)
        rintro q2 y w ⟨j, st, rfl, hq2, ht, h⟩ again2 hag2
        dsimp only
        refine it (fun hj => ?_) (fun hj => ?_) <;> (try simp only [decide_eq_true_eq, decide_eq_false_iff_not, beq_iff_eq, bne_iff_ne, beq_eq_false_iff_ne, bne_eq_false_iff_eq, Bool.not_eq_true', Bool.not_eq_false', ne_eq, Bool.not_eq_true, Bool.not_eq_false] at hj)
        · have hj : j < late.length := by omega
          have hx : late[j]? = some late[j] := List.getElem?_eq_getElem hj
          generalize late[j] = id at hx
          obtain ⟨h1, h2, u, h3, h4, h5⟩ := hlate id (List.mem_of_getElem? hx)
          have hxf : (lateF late)[((j : Int)).toNat]? = some (id, 4, 0, s_timeout, ()) := by
            rw [Int.toNat_natCast]; unfold lateF; rw [List.getElem?_map, hx]; rfl
          have hut : (tmL tm (late.take j))[id.toNat]? = some u := by
            rw [tmL_no, h3]
            intro q hq e
            obtain ⟨i, hi, rfl⟩ := List.getElem_of_mem hq
            have hil : i < j := by rw [List.length_take] at hi; omega
            have hie : (late.take j)[i] = late[i]'(by omega) := List.getElem_take ..
            have h6 := (hlate _ (List.getElem_mem (l := late) (n := i) (by omega))).1
            rw [hie] at e
            have hid : late[i]'(by omega) = late[j] := by
              have := (List.getElem?_eq_some_iff.1 hx).2; omega
            have := (List.getElem_inj hnd).1 hid
            omega
          have htl : (tmL tm (late.take j)).length = 9 := tmL_len.trans L.tl
          have hl6 := Rw.len encI ht
          refine rf (Rw.rd encF h 0 rfl hv) hxf (by omega) rfl rfl (itF (decide_eq_false (by omega)) (itF (decide_eq_false (by omega)) ?_))
          refine rf (Rw.rd encF h 0 rfl hv) hxf (by omega) rfl rfl (itF rfl ?_)
          refine rf (Rw.rd encF h 0 rfl hv) hxf (by omega) rfl rfl (itF (by rw [str_eq]; simp) ?_)
          refine rd1 (Rw.rd encI h 2 rfl ht) encI (lf := .int .i64) (fun x => x) (fun x => ⟨_, rfl, rfl⟩) (by omega) (by omega) fun y' hy' => ?_
          rw [hut] at hy'
          cases hy'
          have hu := L.tv u (List.mem_of_getElem? h3)
          rw [wr (by omega) (by omega)]
          refine itF (by simp; omega) (itF (by simpa using h2) ?_)
          refine Rw.ix encI ht (by omega) (by omega) fun a ha => ?_
          refine Rw.stI h 2 rfl ht ha (by omega) 1000 fun st w ht h => ?_
          rw [wr (by omega) (by omega)]
          exact hag2 (q2 - 1) _ w (by omega) ⟨j + 1, st, by simp, by omega, by rw [tmL_take hx]; exact ht, h⟩
        · have e : late.take j = late := List.take_of_length_le (by omega)
          rw [e] at ht
          have h := dl0_ h
          have h := fr1_ h
          exact hk11 _ w ⟨_, _, st, sg', L', hg', ht, h⟩
      · have ht0 : t = 0 := by omega
        subst ht0
        have := hz rfl
        subst this
        exact hk11 _ w ⟨G, tm, st, sg, L.zero, hg, ht, h⟩
    · clear hg ht h L hz
      have hn0 := L'.n0; have hn8 := L'.n8; have hs0 := L'.s0; have htl := L'.tl; have hna := L'.na; have hnl := L'.nl
      have hl6 := Rw.len encI ht'
      refine loop_of (fun q y w => ∃ (i : Nat), y = ((i : Int), ()) ∧ 1 ≤ i ∧ q + i = n.toNat + 1 ∧ St w0 (st' :: sg' :: sf :: []) w) n.toNat ⟨1, rfl, by omega, by omega, h'⟩ ?_
      clear h'
      rintro q2 y w ⟨i, rfl, hi1, hq2, h⟩ again2 hag2
      dsimp only
      refine it (fun hi => ?_) (fun hi => ?_) <;> (try simp only [decide_eq_true_eq, decide_eq_false_iff_not, beq_iff_eq, bne_iff_ne, beq_eq_false_iff_ne, bne_eq_false_iff_eq, Bool.not_eq_true', Bool.not_eq_false', ne_eq, Bool.not_eq_true, Bool.not_eq_false] at hi)
      · have next : ∀ {w}, St w0 (st' :: sg' :: sf :: []) w → again2 (IntKind.wrap .i64 ((i : Int) + 1), ()) w := by
          intro w h
          rw [wr (by omega) (by omega)]
          exact hag2 (q2 - 1) _ w (by omega) ⟨i + 1, by simp, by omega, by omega, h⟩
        refine jd ?_
        refine it (fun hne => ?_) (fun hne => ?_) <;> (try simp only [decide_eq_true_eq, decide_eq_false_iff_not, beq_iff_eq, bne_iff_ne, beq_eq_false_iff_ne, bne_eq_false_iff_eq, Bool.not_eq_true', Bool.not_eq_false', ne_eq, Bool.not_eq_true, Bool.not_eq_false] at hne)
        · obtain ⟨v, hv, hc⟩ := L'.cov i (by omega) hi hne
          refine rd1 (Rw.rd encI h 0 rfl ht') encI (lf := .int .i64) (fun x => x) (fun x => ⟨_, rfl, rfl⟩) (by omega) (by omega) fun y' hy' => ?_
          rw [hv] at hy'
          cases hy'
          have hu := L'.tv v (List.mem_of_getElem? hv)
          refine it (fun hlt => ?_) (fun hlt => ?_) <;> (try simp only [decide_eq_true_eq, decide_eq_false_iff_not, beq_iff_eq, bne_iff_ne, beq_eq_false_iff_ne, bne_eq_false_iff_eq, Bool.not_eq_true', Bool.not_eq_false', ne_eq, Bool.not_eq_true, Bool.not_eq_false] at hlt)
          · refine rd1 (Rw.rd encI h 0 rfl ht') encI (lf := .int .i64) (fun x => x) (fun x => ⟨_, rfl, rfl⟩) (by omega) (by omega) fun y' hy' => ?_
            rw [hv] at hy'
            cases hy'
            rw [wr (by omega) (by omega)]
            refine itF (decide_eq_false fun hle => ?_) (next h)
            rcases hc with hc | hc
            · omega
            · have := (L'.ln _ hc).2.2.1
              simp only at this
              omega
          · exact next h
        · exact next h
      · clear hag2 again2
        have fin : ∀ {n' s' : Int} {F' : AFleet} {G' : AGate} {tm' : List Int} {st' sg' sf' : Seg} {w}, Lat ((t : Int) + 1) n' s' pat F' G' tm' → GtS b bf G' sg' → FlS bf F' sf' → Rw eI T_int 1 s6 tm' st' → St w0 (st' :: sg' :: sf' :: []) w → again (n', s', IntKind.wrap .i64 ((t : Int) + 1), ()) w := by
          intro n' s' F' G' tm' st' sg' sf' w L hg hf ht h
          rw [wr (by omega) (by omega)]
          exact hag (q - 1) _ w (by omega) ⟨t + 1, n', s', F', G', tm', st', sg', sf', by simp, by omega, by omega, by simpa using L, hg, hf, ht, h⟩
        refine join_of (fun z w => ∃ (n' s' : Int) (F' : AFleet) (G' : AGate) (tm' : List Int) (st' sg' sf' : Seg), z = (n', s', ()) ∧ Lat ((t : Int) + 1) n' s' pat F' G' tm' ∧ GtS b bf G' sg' ∧ FlS bf F' sf' ∧ Rw eI T_int 1 s6 tm' st' ∧ St w0 (st' :: sg' :: sf' :: []) w) (fun k33 hk33 => ?_) (fun z w ⟨n', s', F', G', tm', st', sg', sf', hz, L, hg, hf, ht, h⟩ => ?_)
        · have same := hk33 (n, s, ()) w ⟨n, s, F, G', tm', st', sg', sf, rfl, L', hg', hf, ht', h⟩
          refine it (fun hc => ?_) (fun _ => same)
          refine it (fun hc2 => ?_) (fun _ => same)
          simp only [decide_eq_true_eq] at hc hc2
          refine oldI o1 h (by omega) hc2 fun x hx => ?_
          refine S_within14 (by decide) (by decide) ?_
          refine it (fun _ => ?_) (fun _ => same)
          clear same
          rw [wr (by omega) (by omega)]
          have h := fr2_ (fr2_ h)
          obtain ⟨F2, G2, what, pod, e, hL⟩ := L'.arr hc hpp (by omega) hb
          have hpt := L'.pt
          refine S_gArr h hg' hf L'.f.few (by omega) (by omega) (by rw [hpt]; omega) fun v sv sg sf w hv hg hf h => ?_
          rw [e] at hv hg hf
          have hlv := Rw.len encF hv
          refine itF (by rw [hlv]; rfl) ?_
          refine Rw.ix encI ht' (by omega) (by omega) fun a ha => ?_
          refine Rw.stI h 3 rfl ht' ha (by omega) (t : Int) fun st w ht h => ?_
          have h : St w0 (sv :: sg :: sf :: st :: []) w := h
          refine rf (Rw.rd encF h 0 rfl hv) (x := (n + 1, what, pod, s_, ())) rfl (by decide) rfl rfl ?_
          rcases hL with ⟨rfl, hL⟩ | ⟨rfl, hL⟩
          · refine itT rfl ?_
            have h := dl0_ h
            have h := fr2_ (fr1_ (fr1_ h))
            exact hk33 _ w ⟨_, _, F2, G2, _, st, sg, sf, rfl, hL, hg, hf, ht, h⟩
          · refine itF rfl ?_
            refine rf (Rw.rd encF h 0 rfl hv) (x := (n + 1, 2, pod, s_, ())) rfl (by decide) rfl rfl ?_
            refine itF rfl ?_
            have h := dl0_ h
            have h := fr2_ (fr1_ (fr1_ h))
            exact hk33 _ w ⟨_, _, F2, G2, _, st, sg, sf, rfl, hL, hg, hf, ht, h⟩
        · subst hz
          dsimp only
          have hn0 := L.n0; have hn8 := L.n8; have hna := L.na; have hnl := L.nl
          refine S_within14 (by decide) (by decide) ?_
          refine it (fun _ => ?_) (fun _ => fin L hg hf ht h)
          refine S_fUpp h 2 rfl hf fun sf w hf h => ?_
          have h : St w0 (st' :: sg' :: sf :: []) w := h
          have L := L.up
          have h := fr2_ (fr2_ h)
          have hfl := L.flow
          refine S_gFlow h hg hf L.f.few (by omega) (by omega) fun v sv sg sf w hv hg hf h => ?_
          have hlv := Rw.len encF hv
          rcases hfl with ⟨e, L⟩ | ⟨q, e, L⟩
          · rw [e] at hv hlv
            refine itF (by rw [hlv]; rfl) ?_
            have h := dl0_ h
            have h := fr2_ (fr1_ (fr1_ h))
            exact fin L hg hf ht h
          · rw [e] at hv hlv
            refine itT (by rw [hlv]; rfl) ?_
            refine rf (Rw.rd encF h 0 rfl hv) (x := (q, 1, 1, s_, ())) rfl (by decide) rfl rfl ?_
            have h := dl0_ h
            have h := fr2_ (fr1_ (fr1_ h))
            exact fin L hg hf ht h
end Go.Proofs.YthmpbgloifdcnaaGreat
