/- Contracts of functions, and walks of laws (text Uo). No conditions beyond those its theorems state. -/
import Derived.Test.YtpnbgpolbjbhpaaGreatDoorUn
set_option linter.all false
namespace Go.Proofs.YtpnbgpolbjbhpaaGreatDoor
open Go.Dm
attribute [local irreducible] L.load L.store L.chk L.new L.nonnil L.guard L.ite L.draw L.idx L.sem L.semR L.semU L.chkSem L.next L.call L.callV L.join L.alts L.loop L.begin L.endRound L.range
variable {w0 w : World} {E : List Seg}
theorem ix2 {b : Nat} {k m : Nat} {kk : Addr → PT} (hk : k < 2) (hm : m < 3) (h : kk ⟨b, k * 3 + m, none⟩ w) : (L.idx (some ⟨b, 0, none⟩) (k : Int) 2 3 fun a => L.idx (some a) (m : Int) 3 1 kk) w := by
  refine ix (by omega) (by omega) (ix (by omega) (by omega) ?_)
  rw [add_none, add_none, Int.toNat_natCast, Int.toNat_natCast, Nat.zero_add, Nat.mul_one]; exact h
theorem mod2 (x : Int) : ∃ k : Nat, x % 2 = (k : Int) ∧ k < 2 := ⟨(x % 2).toNat, by omega, by omega⟩
theorem mod3 (x : Int) : ∃ k : Nat, x % 3 = (k : Int) ∧ k < 3 := ⟨(x % 3).toNat, by omega, by omega⟩
abbrev vB (b3 : Nat) (V : List Int) : Seg := [Cl b3 T_2_3_int (V.map I)]
set_option maxHeartbeats 2000000 in
theorem W_ShelfVersions (p0 : Sl) {l : List shC.T} (o : Old w0 shC.cells p0 l) (e : ∀ y ∈ l, shC.deep w0 y) : Calls Pr n_damperlaw4_ShelfVersions #[SlV p0] w0 fun e w' => e = .returned (.bool true) ∧ St w0 [] w' := by
  refine law_of (args := [SlV p0]) (C_damperlaw4_ShelfVersions p0) ?_
  unfold F_damperlaw4_ShelfVersions
  have h := St.init w0
  refine S_known4 h fun w h => itF rfl ?_
  refine S_shNew h fun b s1 w hs1 h => itF rfl ?_
  refine nw h ?_; clear h; (try clear w); intro b3 w h
  ((try dsimp only [setN] at h); repeat (first | refine nn ?_ | (refine dr h ?_; clear h; (try clear w); intro w h) | refine ldC h ?_ | refine laC h ?_ | refine ckC h ?_ | (refine stC h ?_; clear h; (try clear w); intro w h; (try dsimp only [putN, setN] at h)) | rw [add_add]))
  refine nw h ?_; clear h; (try clear w); intro b4 w h
  refine nw h ?_; clear h; (try clear w); intro b5 w h
  refine nw h ?_; clear h; (try clear w); intro b6 w h
  ((try dsimp only [setN] at h); repeat (first | refine nn ?_ | (refine dr h ?_; clear h; (try clear w); intro w h) | refine ldC h ?_ | refine laC h ?_ | refine ckC h ?_ | (refine stC h ?_; clear h; (try clear w); intro w h; (try dsimp only [putN, setN] at h)) | rw [add_add]))
  refine join_of (fun z w => St w0 [] w) (fun k7 hk7 => ?_) (fun z w h => ⟨rfl, h⟩)
  have e4 : Rw eS T_string 1 ⟨some ⟨b4, 0, none⟩, 3, 3⟩ [s_web, s_api, s_a_b] [Cl b4 T_string [.string s_web, .string s_api, .string s_a_b]] := Rw.lit b4 _ encS rfl rfl (by simp [maxLen])
  have e5 : Rw eS T_string 1 ⟨some ⟨b5, 0, none⟩, 3, 3⟩ [s_front, s_back, s_r_1] [Cl b5 T_string [.string s_front, .string s_back, .string s_r_1]] := Rw.lit b5 _ encS rfl rfl (by simp [maxLen])
  have e6 : Rw eSl T_2_s_string 1 ⟨some ⟨b6, 0, none⟩, 2, 2⟩ [(⟨some ⟨b4, 0, none⟩, 3, 3⟩ : Sl), ⟨some ⟨b5, 0, none⟩, 3, 3⟩] [Cl b6 T_2_s_string [.slice (some ⟨b4, 0, none⟩) 3 3, .slice (some ⟨b5, 0, none⟩) 3 3]] := Rw.lit b6 _ encSl rfl rfl (by simp [maxLen])
  -- a name of the two rows
  obtain ⟨B6, hB6⟩ : ∃ B, B = [Cl b6 T_2_s_string [.slice (some ⟨b4, 0, none⟩) 3 3, .slice (some ⟨b5, 0, none⟩) 3 3]] := ⟨_, rfl⟩
  obtain ⟨B5, hB5⟩ : ∃ B, B = [Cl b5 T_string [.string s_front, .string s_back, .string s_r_1]] := ⟨_, rfl⟩
  obtain ⟨B4, hB4⟩ : ∃ B, B = [Cl b4 T_string [.string s_web, .string s_api, .string s_a_b]] := ⟨_, rfl⟩
  rw [← hB6] at e6
  rw [← hB5] at e5
  rw [← hB4] at e4
  have getn : ∀ {F : List Seg} {w : World} {X : List Seg} {k m : Nat} {kk : ByteArray → PT}, k < 2 → m < 3 → St w0 (F ++ (B6 :: B5 :: B4 :: X)) w → kk (nmV k m) w →
      (L.idx (some ⟨b6, 0, none⟩) (k : Int) 2 1 fun a24 => L.load (.one (.slice)) a24 fun (x25 : Sl) => L.idx x25.a (m : Int) x25.len 1 fun a26 => L.load (.one (.str)) a26 kk) w := by
    intro F w X k m kk hk hm h hkk
    have hd : St w0 (B6 :: B5 :: B4 :: X) w := by
      induction F with
      | nil => exact h
      | cons x F ih => exact ih h.tail
    refine rd1 (v := ⟨some ⟨b6, 0, none⟩, 2, 2⟩) (Rw.rd encSl hd 0 rfl e6) encSl (lf := .slice) (fun x => x) (fun x => ⟨_, rfl, rfl⟩) (by omega) (by simp; omega) fun x hx => ?_
    rw [Int.toNat_natCast] at hx
    have : k = 0 ∨ k = 1 := by omega
    rcases this with rfl | rfl
    · cases hx
      refine rd1 (v := ⟨some ⟨b4, 0, none⟩, 3, 3⟩) (Rw.rd encS hd 2 rfl e4) encS (lf := .str) (fun x => x) (fun x => ⟨_, rfl, rfl⟩) (by omega) (by simp; omega) fun x hx => ?_
      rw [Int.toNat_natCast] at hx
      have : nmV 0 m = x := by unfold nmV; rw [if_pos rfl, hx]; rfl
      rw [← this]; exact hkk
    · cases hx
      refine rd1 (v := ⟨some ⟨b5, 0, none⟩, 3, 3⟩) (Rw.rd encS hd 1 rfl e5) encS (lf := .str) (fun x => x) (fun x => ⟨_, rfl, rfl⟩) (by omega) (by simp; omega) fun x hx => ?_
      rw [Int.toNat_natCast] at hx
      have : nmV 1 m = x := by unfold nmV; rw [if_neg (by decide), hx]; rfl
      rw [← this]; exact hkk
  have h : St w0 (B6 :: B5 :: B4 :: vB b3 [0, 0, 0, 0, 0, 0] :: s1 :: []) w := by rw [hB6, hB5, hB4]; exact h
  clear hB6 hB5 hB4 e4 e5 e6
  have hV := VI.zero
  have hn1 : (⟨[], [], 0⟩ : AShelf).n ≤ (0 : Nat) := by simp
  have hn0 : 0 ≤ (⟨[], [], 0⟩ : AShelf).n := by simp
  have hna : (⟨[], [], 0⟩ : AShelf).n = 0 := rfl
  generalize (⟨[], [], 0⟩ : AShelf) = a at hs1 hn1 hV hn0 hna
  generalize [(0 : Int), 0, 0, 0, 0, 0] = V at hV h
  refine loop_of (fun q y w => ∃ (m : Nat) (a : AShelf) (s1 : Seg) (V : List Int), y = (a.n, (m : Int), ()) ∧ q + m = 60 ∧ ShS b a s1 ∧ VI a V ∧ 0 ≤ a.n ∧ a.n ≤ m ∧ St w0 (B6 :: B5 :: B4 :: vB b3 V :: s1 :: []) w) 60 ⟨0, a, s1, V, by rw [hna]; rfl, rfl, hs1, hV, hn0, hn1, h⟩ ?_
  clear hs1 hV hn0 hn1 hna a
  clear h; (try clear w)
  rintro q y w ⟨m, a, s1, V, rfl, hq, hs1, hV, hn0, hn, h⟩ again hag
  dsimp only
  refine it (fun hb => ?_) (fun hb => ?_) <;> (try simp only [decide_eq_true_eq, decide_eq_false_iff_not, beq_iff_eq, bne_iff_ne, beq_eq_false_iff_ne, bne_eq_false_iff_eq, Bool.not_eq_true', Bool.not_eq_false', ne_eq, Bool.not_eq_true, Bool.not_eq_false] at hb)
  · refine it (fun hb2 => ?_) (fun hb2 => ?_) <;> (try simp only [decide_eq_true_eq, decide_eq_false_iff_not, beq_iff_eq, bne_iff_ne, beq_eq_false_iff_ne, bne_eq_false_iff_eq, Bool.not_eq_true', Bool.not_eq_false', ne_eq, Bool.not_eq_true, Bool.not_eq_false] at hb2)
    · refine join_of (fun z w => ∃ (a : AShelf) (s1 : Seg) (V : List Int), z = (a.n, ()) ∧ ShS b a s1 ∧ VI a V ∧ 0 ≤ a.n ∧ a.n ≤ m + 1 ∧ St w0 (B6 :: B5 :: B4 :: vB b3 V :: s1 :: []) w) (fun k11 hk11 => ?_) ?_
      · ((try dsimp only [setN] at h); repeat (first | refine nn ?_ | (refine dr h ?_; clear h; (try clear w); intro w h) | refine ldC h ?_ | refine laC h ?_ | refine ckC h ?_ | (refine stC h ?_; clear h; (try clear w); intro w h; (try dsimp only [putN, setN] at h)) | rw [add_add]))
        obtain ⟨x, hx⟩ : ∃ x, l[m]? = some x := by
          have hl := o.rd.len
          exact ⟨_, List.getElem?_eq_getElem (by omega)⟩
        have ex := e x (List.mem_of_getElem? hx)
        obtain ⟨k1, k2, k3, c1, c2, c3, c4, c5, c6, ⟨sl, xs⟩, ⟨⟩⟩ := x
        obtain ⟨-, -, -, -, -, -, -, -, -, ⟨on, -⟩, -⟩ := ex
        have on := old_i on
        have ld : ∀ {E : List Seg} {w : World} {f : Nat} {lf : Lf} {kk : Addr → lf.T → PT} {u : Value} {y : lf.T}, St w0 E w → nth (shC.cells (k1, k2, k3, c1, c2, c3, c4, c5, c6, (sl, xs), ())) f = some u → un2 lf u = some y → (∀ ad, ElA p0 10 m ad → kk ad y w) → L.idx p0.a (m : Int) p0.len 10 (fun a => L.load (.one lf) (a.add f) (kk a)) w := by
          intro E w f lf kk u y h hu hy hk
          have hl := o.rd.len
          refine (o.now h).ix encC (by omega) (by omega) fun ad ha => ?_
          rw [Int.toNat_natCast] at ha
          exact (o.now h).ld encC ha hx hu hy (hk ad ha)
        have ckm : ∀ {E : List Seg} {w : World} {ad : Addr} {kk : PT}, St w0 E w → ElA p0 10 m ad → kk w → L.chk (ad.add 1) [.int .i64 k2] kk w := by
          intro E w ad kk h ha hk
          have h1 := (o.now h).ld encC ha hx (f := 1) (lf := .int .i64) (kk := fun (y : Int) w => y = k2 ∧ kk w) (w := w) (u := .int .i64 k2) (y := k2) rfl rfl ⟨rfl, hk⟩
          unfold L.load at h1
          obtain ⟨y, hc, rfl, hk⟩ := h1
          unfold L.chk
          exact ⟨hc, hk⟩
        refine ld (lf := .int .i64) h rfl rfl fun ad1 ha1 => ?_
        refine ld (lf := .int .i64) h rfl rfl fun ad2 ha2 => ?_
        refine S_within4 (by decide) (by decide) ?_
        refine ckm h ha2 ?_
        refine S_within4 (by decide) (by decide) ?_
        refine ld (lf := .int .i64) h rfl rfl fun ad3 ha3 => ?_
        refine S_within4 (by decide) (by decide) ?_
        obtain ⟨k, hk, hk2⟩ := mod2 k1
        obtain ⟨t, ht, ht3⟩ := mod3 k2
        rw [hk, ht]
        obtain ⟨x, hxV⟩ : ∃ x, V[k * 3 + t]? = some x := ⟨_, List.getElem?_eq_getElem (by rw [hV.len]; omega)⟩
        obtain ⟨v1, v2, v3, v0⟩ := hV.at_ k t x hk2 ht3 hxV
        clear ckm ha1 ha2 ha3 hk ht
        refine it (fun _ => ?_) (fun _ => ?_)
        · refine join_of (fun z w => ∃ s1, ShS b a s1 ∧ St w0 (B6 :: B5 :: B4 :: vB b3 V :: s1 :: []) w) (fun k22 hk22 => ?_) ?_
          · have e0 : shDrop a ((k : Int) + 1) (nmV k t) (a.n + 5) = (a, 7) ∨ shDrop a ((k : Int) + 1) (nmV k t) (a.n + 5) = (a, 6) := by
              rw [dropK hk2 (by omega)]
              rcases Int.lt_or_eq_of_le v1 with hp | hp
              · rw [(v3 hp).1, (v3 hp).2, if_pos rfl, if_neg (by omega)]; exact .inl rfl
              · rw [v0 hp.symm]; exact .inr rfl
            refine getn (F := []) hk2 ht3 h ?_
            rw [wr (n := (k : Int) + 1) (by omega) (by omega), wr (n := a.n + 5) (by omega) (by omega)]
            refine S_shDrop h 4 rfl hs1 (by omega) fun s1 w hs1 h => ?_
            rcases e0 with e0 | e0
            · rw [e0] at hs1 ⊢
              exact itF rfl (hk22 _ w ⟨s1, hs1, h⟩)
            · rw [e0] at hs1 ⊢
              dsimp only at hs1
              refine itT rfl ?_
              refine getn (F := []) hk2 ht3 h ?_
              refine S_shDrop h 4 rfl hs1 (by omega) fun s1 w hs1 h => ?_
              rw [e0] at hs1 ⊢
              exact itF rfl (hk22 _ w ⟨s1, hs1, h⟩)
          · clear hs1
            clear h; (try clear w)
            rintro z w ⟨s1, hs1, h⟩
            refine ix2 hk2 ht3 ?_
            refine Go.Dm.ld (l := .int .i64) h 3 rfl (nth_I hxV) ?_
            refine it (fun hp => ?_) (fun hp => ?_) <;> (try simp only [decide_eq_true_eq, decide_eq_false_iff_not, beq_iff_eq, bne_iff_ne, beq_eq_false_iff_ne, bne_eq_false_iff_eq, Bool.not_eq_true', Bool.not_eq_false', ne_eq, Bool.not_eq_true, Bool.not_eq_false] at hp)
            · refine dr h ?_; clear h; clear w; intro w h
              refine getn (F := []) hk2 ht3 h ?_
              refine ix2 hk2 ht3 ?_
              refine Go.Dm.ld (l := .int .i64) h 3 rfl (nth_I hxV) ?_
              rw [wr (n := (k : Int) + 1) (by omega) (by omega)]
              refine S_shDrop h 4 rfl hs1 (by omega) fun s1 w hs1 h => ?_
              rw [dropK hk2 (by omega), (v3 hp).1, if_pos rfl, (v3 hp).2, if_pos rfl] at hs1 ⊢
              refine itF rfl ?_
              refine ix2 hk2 ht3 ?_
              have h : St w0 (B6 :: B5 :: B4 :: vB b3 V :: s1 :: []) w := h
              refine Go.Dm.st1 h 3 rfl (nth_I hxV) rfl fun w h => ?_
              have h : St w0 (B6 :: B5 :: B4 :: [Cl b3 T_2_3_int (setN (V.map I) (k * 3 + t) (I 0))] :: s1 :: []) w := h
              rw [setN_I] at h
              rw [wr (n := a.n + 1) (by omega) (by omega)]
              exact hk11 _ w ⟨_, s1, V.set (k * 3 + t) 0, rfl, hs1, hV.drop hn0 hk2 ht3, by dsimp only; omega, by dsimp only; omega, h⟩
            · exact hk11 _ w ⟨a, s1, V, rfl, hs1, hV, hn0, by omega, h⟩
        · refine join_of (fun z w => ∃ (A : AShelf) (s1 : Seg), z = (A.n, 0, ()) ∧ A.n = a.n + 1 ∧ ShS b A s1 ∧ VI A (V.set (k * 3 + t) A.n) ∧ St w0 (B6 :: B5 :: B4 :: vB b3 V :: s1 :: []) w) (fun k47 hk47 => ?_) ?_
          · have hk0 : k = 0 ∨ k = 1 := by omega
            rcases hk0 with rfl | rfl
            · refine itT rfl ?_
              refine (o.now h).ix encC (by omega) (by have hl := o.rd.len; omega) fun ad ha => ?_
              rw [Int.toNat_natCast] at ha
              have hl6 := (o.now h).ldp encC ha hx (f := 3) (ls := [.str, .int .i64, .int .i64, .int .i64, .int .i64, .int .i64]) (kk := fun y w => y = (c1, c2, c3, c4, c5, c6, ()) ∧ True) (w := w) (y := (c1, c2, c3, c4, c5, c6, ())) rfl ⟨rfl, trivial⟩
              refine (o.now h).ldp encC ha hx (f := 3) (y := (c1, c2, c3, c4, c5, c6, ())) rfl ?_
              refine S_lConfig (c := (c1, c2, c3, c4, c5, c6, ())) h fun w h => ?_
              have hcn := lcfg_num (nm := nmV 0 t) c2 c3 c4 c5 c6
              have ec : (lcfg (c1, c2, c3, c4, c5, c6, ()) 0).2 = (c2 % 256, 1 + c3 % 8, c4 % (1 + c5 % 10 + 1), 1 + c5 % 10, c6 % 31, ()) := rfl
              generalize lcfg (c1, c2, c3, c4, c5, c6, ()) 0 = g at *
              refine nw h ?_; clear h; (try clear w); intro b52 w h
              (refine stC h ?_; clear h; (try clear w); intro w h; (try dsimp only [putN, setN] at h))
              refine getn (F := [_]) (k := 0) (by decide) ht3 h ?_
              (refine stC h ?_; clear h; (try clear w); intro w h; (try dsimp only [putN, setN] at h))
              obtain ⟨cc, hcc⟩ : ∃ cc : Cfg, cc = (nmV 0 t, g.2) := ⟨_, rfl⟩
              have h : St w0 ([Cl b52 T_api_Config (Cfg.cells cc)] :: B6 :: B5 :: B4 :: vB b3 V :: s1 :: []) w := by rw [hcc]; exact h
              have hok : specC cc = 0 := by
                rw [hcc, ec]; unfold specC
                rw [if_pos (show shortB (nmV 0 t).data.toList 16 = true from nmV_ok 0 ⟨t, ht3⟩), if_pos]
                exact hcn
              have hnm : cc.1 = nmV 0 t := by rw [hcc]
              clear hcc hcn ec
              ((try dsimp only [setN] at h); repeat (first | refine nn ?_ | (refine dr h ?_; clear h; (try clear w); intro w h) | refine ldC h ?_ | refine laC h ?_ | refine ckC h ?_ | (refine stC h ?_; clear h; (try clear w); intro w h; (try dsimp only [putN, setN] at h)) | rw [add_add]))
              refine ix2 hk2 ht3 ?_
              refine Go.Dm.ld (l := .int .i64) h 4 rfl (nth_I hxV) ?_
              refine S_shPut (c := cc) h 5 rfl hs1 (by omega) fun s1 w hs1 h => ?_
              have em : mayC (tget a.m cc.1) x true = 0 := by
                rw [hnm, mayC_V]
                rcases Int.lt_or_eq_of_le v1 with hp | hp
                · have := v3 hp
                  rw [isK0, verK0] at this
                  rw [this.1, this.2, mayV_is (by omega), if_pos rfl]
                · have := v0 hp.symm
                  rw [isK0] at this
                  rw [this, ← hp]; exact mayV_new
              rw [shPutC_ok hok em] at hs1 ⊢
              have h : St w0 ([Cl b52 T_api_Config (Cfg.cells cc)] :: B6 :: B5 :: B4 :: vB b3 V :: s1 :: []) w := h
              exact hk47 _ w ⟨_, s1, rfl, rfl, hs1, hV.putC hn0 ht3 hnm, dl0_ h⟩
            · refine itF rfl ?_
              refine ld (lf := .slice) h rfl rfl fun ad ha => ?_
              refine S_lRoute h on.re fun v4 t4 w hr4 h => ?_
              have hok := lroute_ok 0 (xs.map (·.1)) 0
              have hrv := lroute_rev 0 (xs.map (·.1)) 0
              have hln := lroute_len 0 (xs.map (·.1)) 0
              generalize lroute 0 (xs.map (·.1)) 0 = r at *
              refine nw h ?_; clear h; (try clear w); intro b65 w h
              (refine stC h ?_; clear h; (try clear w); intro w h; (try dsimp only [putN, setN] at h))
              have h : St w0 ([Cl b65 T_api_Route (rtC r v4)] :: t4 :: B6 :: B5 :: B4 :: vB b3 V :: s1 :: []) w := h
              refine getn (F := [_, _]) (k := 1) (by decide) ht3 h ?_
              (refine stC h ?_; clear h; (try clear w); intro w h; (try dsimp only [putN, setN] at h))
              obtain ⟨cc, hcc⟩ : ∃ cc : ARt, cc = { r with name := nmV 1 t } := ⟨_, rfl⟩
              have h : St w0 ([Cl b65 T_api_Route (rtC cc v4)] :: t4 :: B6 :: B5 :: B4 :: vB b3 V :: s1 :: []) w := by rw [hcc]; exact h
              have hrq : Rw eT T_api_Target 3 v4 cc.ts t4 := by rw [hcc]; exact hr4
              have hqv : ∀ t ∈ cc.ts, revOk t.1 := by rw [hcc]; exact hrv
              have hql : cc.ts.length ≤ 6 := by rw [hcc]; exact hln.2
              have hcok : specE cc = 0 := by rw [hcc]; exact specR_name hok (nmV_ok 1 ⟨t, ht3⟩)
              have hnm : cc.name = nmV 1 t := by rw [hcc]
              clear hcc hok hrv hln hr4
              ((try dsimp only [setN] at h); repeat (first | refine nn ?_ | (refine dr h ?_; clear h; (try clear w); intro w h) | refine ldC h ?_ | refine laC h ?_ | refine ckC h ?_ | (refine stC h ?_; clear h; (try clear w); intro w h; (try dsimp only [putN, setN] at h)) | rw [add_add]))
              refine ix2 hk2 ht3 ?_
              refine Go.Dm.ld (l := .int .i64) h 5 rfl (nth_I hxV) ?_
              refine S_shPutR (r := cc) h 6 rfl hs1 hV.few (by omega) (Rw.re encT 1 rfl hrq) hrq.cap.1 (Rw.nil0 encT hrq) hqv fun s1 w hs1 h => ?_
              have em : mayV (rget a.r cc.name).is (rget a.r cc.name).ver x true = 0 := by
                rw [hnm]
                rcases Int.lt_or_eq_of_le v1 with hp | hp
                · have := v3 hp
                  rw [isK1, verK1] at this
                  rw [this.1, this.2, mayV_is (by omega), if_pos rfl]
                · have := v0 hp.symm
                  rw [isK1] at this
                  rw [this, ← hp]; exact mayV_new
              rw [shPutR_ok hcok em] at hs1 ⊢
              have h : St w0 ([Cl b65 T_api_Route (rtC cc v4)] :: t4 :: B6 :: B5 :: B4 :: vB b3 V :: s1 :: []) w := h
              exact hk47 _ w ⟨_, s1, rfl, rfl, hs1, hV.putR hn0 ht3 hql hnm, dl0_ (dl0_ h)⟩
          · clear hs1
            clear h; (try clear w)
            rintro z w ⟨A, s1, rfl, hA, hs1, hVA, h⟩
            refine itF rfl ?_
            rw [wr (n := a.n + 1) (by omega) (by omega)]
            refine itF (by simp [hA]) ?_
            refine ix2 hk2 ht3 ?_
            refine Go.Dm.st1 h 3 rfl (nth_I hxV) rfl fun w h => ?_
            have h : St w0 (B6 :: B5 :: B4 :: [Cl b3 T_2_3_int (setN (V.map I) (k * 3 + t) (I A.n))] :: s1 :: []) w := h
            rw [setN_I] at h
            rw [← hA]
            exact hk11 _ w ⟨A, s1, _, rfl, hs1, hVA, by omega, by omega, h⟩
      · clear hs1 hV hn0 hn
        clear h; (try clear w)
        rintro z w ⟨a, s1, V, rfl, hs1, hV, hn0, hn, h⟩
        dsimp only
        rw [wr (by omega) (by omega)]
        exact hag (q - 1) _ w (by omega) ⟨m + 1, a, s1, V, by simp, by omega, hs1, hV, hn0, by omega, h⟩
    · exact hk7 _ w h.fin
  · exact hk7 _ w h.fin
end Go.Proofs.YtpnbgpolbjbhpaaGreatDoor
