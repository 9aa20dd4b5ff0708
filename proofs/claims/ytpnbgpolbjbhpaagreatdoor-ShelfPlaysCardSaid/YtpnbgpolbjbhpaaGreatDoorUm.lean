/- Contracts of functions, and walks of laws (text Um). No conditions beyond those its theorems state. -/
import Derived.Test.YtpnbgpolbjbhpaaGreatDoorUl
set_option linter.all false
namespace Go.Proofs.YtpnbgpolbjbhpaaGreatDoor
open Go.Dm
attribute [local irreducible] L.load L.store L.chk L.new L.nonnil L.guard L.ite L.draw L.idx L.sem L.semR L.semU L.chkSem L.next L.call L.callV L.join L.alts L.loop L.begin L.endRound L.range
variable {w0 w : World} {E : List Seg}
/-! ### ShelfPlays -/
theorem shPut_n (a : AShelf) (c : Cfg) (v : Int) : (shPut a c v).1.n ≤ a.n + 1 := by
  unfold shPut
  split
  · simp only; omega
  · split <;> (simp only; omega)
theorem shPutR_n (a : AShelf) (r : ARt) (v : Int) : (shPutR a r v).1.n ≤ a.n + 1 := by
  unfold shPutR
  split
  · simp only; omega
  · split <;> (simp only; omega)
theorem shDrop_n (a : AShelf) (k : Int) (n : ByteArray) (v : Int) : (shDrop a k n v).1.n ≤ a.n + 1 := by
  unfold shDrop
  split
  · split <;> (simp only; omega)
  · split
    · split <;> (simp only; omega)
    · simp only; omega
set_option maxHeartbeats 1000000 in
theorem W_ShelfPlays (p0 : Sl) {l : List shC.T} (o : Old w0 shC.cells p0 l) (e : ∀ y ∈ l, shC.deep w0 y) : Calls Pr n_damperlaw4_ShelfPlays #[SlV p0] w0 fun e w' => e = .returned (.bool true) ∧ St w0 [] w' := by
  refine law_of (args := [SlV p0]) (C_damperlaw4_ShelfPlays p0) ?_
  unfold F_damperlaw4_ShelfPlays
  have h := St.init w0
  refine S_known4 h fun w h => itF rfl ?_
  refine S_shNew h fun b s1 w hs1 h => ?_
  refine nw h fun b3 w h => ?_
  obtain ⟨s2, hs2, h⟩ := RSh.new h
  refine itF rfl ?_
  refine join_of (fun z w => St w0 [] w) (fun k4 hk4 => ?_) (fun z w h => ⟨rfl, h⟩)
  have few1 := few0
  have hn1 : (⟨[], [], 0⟩ : AShelf).n ≤ (0 : Nat) := by simp
  generalize (⟨[], [], 0⟩ : AShelf) = a at hs1 hs2 few1 hn1
  refine loop_of (fun q y w => ∃ (m : Nat) (a : AShelf) (s1 s2 : Seg), y = ((m : Int), ()) ∧ q + m = 50 ∧ ShS b a s1 ∧ RSh b3 a s2 ∧ a.Few ∧ a.n ≤ m ∧ St w0 (s2 :: s1 :: []) w) 50 ⟨0, a, s1, s2, rfl, rfl, hs1, hs2, few1, hn1, h⟩ ?_
  clear hs1 hs2 few1 hn1 a
  clear h; (try clear w)
  rintro q y w ⟨m, a, s1, s2, rfl, hq, hs1, hs2, few, hn, h⟩ again hag
  dsimp only
  refine it (fun hb => ?_) (fun hb => ?_) <;> (try simp only [decide_eq_true_eq, decide_eq_false_iff_not, beq_iff_eq, bne_iff_ne, beq_eq_false_iff_ne, bne_eq_false_iff_eq, Bool.not_eq_true', Bool.not_eq_false', ne_eq, Bool.not_eq_true, Bool.not_eq_false] at hb)
  · refine it (fun hb2 => ?_) (fun hb2 => ?_) <;> (try simp only [decide_eq_true_eq, decide_eq_false_iff_not, beq_iff_eq, bne_iff_ne, beq_eq_false_iff_ne, bne_eq_false_iff_eq, Bool.not_eq_true', Bool.not_eq_false', ne_eq, Bool.not_eq_true, Bool.not_eq_false] at hb2)
    · refine oldA o encC h (fun x => (x.1, x.2.1, x.2.2.1, x.2.2.2.1, x.2.2.2.2.1, x.2.2.2.2.2.1, x.2.2.2.2.2.2.1, x.2.2.2.2.2.2.2.1, x.2.2.2.2.2.2.2.2.1, x.2.2.2.2.2.2.2.2.2.1.1, ())) (fun x => rfl) (by omega) hb fun x hx => ?_
      have ex := e x (List.mem_of_getElem? hx)
      obtain ⟨k1, k2, k3, c1, c2, c3, c4, c5, c6, ⟨sl, xs⟩, ⟨⟩⟩ := x
      obtain ⟨-, -, -, -, -, -, -, -, -, ⟨on, -⟩, -⟩ := ex
      have on := old_i on
      dsimp only
      refine nw h ?_; clear h; (try clear w); intro b10 w h
      ((try dsimp only [setN] at h); repeat (first | refine nn ?_ | (refine dr h ?_; clear h; (try clear w); intro w h) | refine ldC h ?_ | refine laC h ?_ | refine ckC h ?_ | (refine stC h ?_; clear h; (try clear w); intro w h; (try dsimp only [putN, setN] at h)) | rw [add_add]))
      have h : St w0 ([Cl b10 T_damperlaw4_Call [I k1, I k2, I k3, .string c1, I c2, I c3, I c4, I c5, I c6, SlV sl]] :: s2 :: s1 :: []) w := h
      refine join_of (fun z w => ∃ (a : AShelf) (s1 s2 : Seg), ShS b a s1 ∧ RSh b3 a s2 ∧ a.Few ∧ a.n ≤ m + 1 ∧ St w0 ([Cl b10 T_damperlaw4_Call [I k1, I k2, I k3, .string c1, I c2, I c3, I c4, I c5, I c6, SlV sl]] :: s2 :: s1 :: []) w) (fun k11 hk11 => ?_) ?_
      · ((try dsimp only [setN] at h); repeat (first | refine nn ?_ | (refine dr h ?_; clear h; (try clear w); intro w h) | refine ldC h ?_ | refine laC h ?_ | refine ckC h ?_ | (refine stC h ?_; clear h; (try clear w); intro w h; (try dsimp only [putN, setN] at h)) | rw [add_add]))
        refine S_within4 (by decide) (by decide) ?_
        refine join_of (fun z w => St w0 ([Cl b10 T_damperlaw4_Call [I k1, I k2, I k3, .string c1, I c2, I c3, I c4, I c5, I c6, SlV sl]] :: s2 :: s1 :: []) w) (fun k15 hk15 => ?_) ?_
        · refine it (fun _ => hk15 _ w h) (fun _ => it (fun _ => hk15 _ w h) (fun _ => hk15 _ w h))
        clear h; (try clear w)
        rintro z w h
        refine it (fun _ => ?_) (fun _ => ?_)
        · skip
          ((try dsimp only [setN] at h); repeat (first | refine nn ?_ | (refine dr h ?_; clear h; (try clear w); intro w h) | refine ldC h ?_ | refine laC h ?_ | refine ckC h ?_ | (refine stC h ?_; clear h; (try clear w); intro w h; (try dsimp only [putN, setN] at h)) | rw [add_add]))
          refine S_lConfig (c := (c1, c2, c3, c4, c5, c6, ())) h fun w h => ?_
          generalize lcfg (c1, c2, c3, c4, c5, c6, ()) k2 = c at *
          refine nw h ?_; clear h; (try clear w); intro b20 w h
          ((try dsimp only [setN] at h); repeat (first | refine nn ?_ | (refine dr h ?_; clear h; (try clear w); intro w h) | refine ldC h ?_ | refine laC h ?_ | refine ckC h ?_ | (refine stC h ?_; clear h; (try clear w); intro w h; (try dsimp only [putN, setN] at h)) | rw [add_add]))
          refine join_of (fun z w => ∃ c : Cfg, St w0 ([Cl b20 T_api_Config (Cfg.cells c)] :: [Cl b10 T_damperlaw4_Call [I k1, I k2, I k3, .string c1, I c2, I c3, I c4, I c5, I c6, SlV sl]] :: s2 :: s1 :: []) w) (fun k21 hk21 => ?_) ?_
          · ((try dsimp only [setN] at h); repeat (first | refine nn ?_ | (refine dr h ?_; clear h; (try clear w); intro w h) | refine ldC h ?_ | refine laC h ?_ | refine ckC h ?_ | (refine stC h ?_; clear h; (try clear w); intro w h; (try dsimp only [putN, setN] at h)) | rw [add_add]))
            refine S_within4 (by decide) (by decide) ?_
            refine it (fun _ => ?_) (fun _ => hk21 _ w ⟨c, h⟩)
            ((try dsimp only [setN] at h); repeat (first | refine nn ?_ | (refine dr h ?_; clear h; (try clear w); intro w h) | refine ldC h ?_ | refine laC h ?_ | refine ckC h ?_ | (refine stC h ?_; clear h; (try clear w); intro w h; (try dsimp only [putN, setN] at h)) | rw [add_add]))
            exact hk21 _ w ⟨(c1, c2, c3, c4, c5, c6, ()), h⟩
          clear h; (try clear w)
          rintro z w ⟨c, h⟩
          ((try dsimp only [setN] at h); repeat (first | refine nn ?_ | (refine dr h ?_; clear h; (try clear w); intro w h) | refine ldC h ?_ | refine laC h ?_ | refine ckC h ?_ | (refine stC h ?_; clear h; (try clear w); intro w h; (try dsimp only [putN, setN] at h)) | rw [add_add]))
          refine S_version h 2 rfl hs2 fun v w h => ?_
          ((try dsimp only [setN] at h); repeat (first | refine nn ?_ | (refine dr h ?_; clear h; (try clear w); intro w h) | refine ldC h ?_ | refine laC h ?_ | refine ckC h ?_ | (refine stC h ?_; clear h; (try clear w); intro w h; (try dsimp only [putN, setN] at h)) | rw [add_add]))
          refine S_shPut (c := c) h 3 rfl hs1 (by omega) fun s1 w hs1 h => ?_
          have h : St w0 ([Cl b20 T_api_Config (Cfg.cells c)] :: [Cl b10 T_damperlaw4_Call [I k1, I k2, I k3, .string c1, I c2, I c3, I c4, I c5, I c6, SlV sl]] :: s2 :: s1 :: []) w := h
          ((try dsimp only [setN] at h); repeat (first | refine nn ?_ | (refine dr h ?_; clear h; (try clear w); intro w h) | refine ldC h ?_ | refine laC h ?_ | refine ckC h ?_ | (refine stC h ?_; clear h; (try clear w); intro w h; (try dsimp only [putN, setN] at h)) | rw [add_add]))
          refine S_rPutC (c := c) h 2 rfl hs2 (by omega) fun s2 w hs2 h => ?_
          refine itF (by simp) (itF (by simp) ?_)
          have := shPut_n a c v
          exact hk11 _ w ⟨_, s1, s2, hs1, hs2, shPut_few few c v, by omega, dl0_ h⟩
        · refine join_of (fun z w => St w0 ([Cl b10 T_damperlaw4_Call [I k1, I k2, I k3, .string c1, I c2, I c3, I c4, I c5, I c6, SlV sl]] :: s2 :: s1 :: []) w) (fun k15 hk15 => ?_) ?_
          · refine it (fun _ => hk15 _ w h) (fun _ => it (fun _ => hk15 _ w h) (fun _ => hk15 _ w h))
          clear h; (try clear w)
          rintro z w h
          refine it (fun _ => ?_) (fun _ => ?_)
          · skip
            ((try dsimp only [setN] at h); repeat (first | refine nn ?_ | (refine dr h ?_; clear h; (try clear w); intro w h) | refine ldC h ?_ | refine laC h ?_ | refine ckC h ?_ | (refine stC h ?_; clear h; (try clear w); intro w h; (try dsimp only [putN, setN] at h)) | rw [add_add]))
            refine S_lRoute h on.re fun v4 t4 w hr4 h => ?_
            have hrv := lroute_rev k2 (xs.map (·.1)) k3
            have hln := lroute_len k2 (xs.map (·.1)) k3
            generalize lroute k2 (xs.map (·.1)) k3 = r at *
            refine nw h ?_; clear h; (try clear w); intro b39 w h
            ((try dsimp only [setN] at h); repeat (first | refine nn ?_ | (refine dr h ?_; clear h; (try clear w); intro w h) | refine ldC h ?_ | refine laC h ?_ | refine ckC h ?_ | (refine stC h ?_; clear h; (try clear w); intro w h; (try dsimp only [putN, setN] at h)) | rw [add_add]))
            refine join_of (fun z w => ∃ roll, St w0 ([Cl b39 T_api_Route (rtC { r with roll := roll } v4)] :: t4 :: [Cl b10 T_damperlaw4_Call [I k1, I k2, I k3, .string c1, I c2, I c3, I c4, I c5, I c6, SlV sl]] :: s2 :: s1 :: []) w) (fun k21 hk21 => ?_) ?_
            · ((try dsimp only [setN] at h); repeat (first | refine nn ?_ | (refine dr h ?_; clear h; (try clear w); intro w h) | refine ldC h ?_ | refine laC h ?_ | refine ckC h ?_ | (refine stC h ?_; clear h; (try clear w); intro w h; (try dsimp only [putN, setN] at h)) | rw [add_add]))
              refine S_within4 (by decide) (by decide) ?_
              refine it (fun _ => ?_) (fun _ => hk21 _ w ⟨r.roll, h⟩)
              ((try dsimp only [setN] at h); repeat (first | refine nn ?_ | (refine dr h ?_; clear h; (try clear w); intro w h) | refine ldC h ?_ | refine laC h ?_ | refine ckC h ?_ | (refine stC h ?_; clear h; (try clear w); intro w h; (try dsimp only [putN, setN] at h)) | rw [add_add]))
              exact hk21 _ w ⟨k3, h⟩
            clear h; (try clear w)
            rintro z w ⟨roll, h⟩
            obtain ⟨q, hq⟩ : ∃ q : ARt, q = { r with roll := roll } := ⟨_, rfl⟩
            rw [← hq] at h
            have hrq : Rw eT T_api_Target 3 v4 q.ts t4 := by rw [hq]; exact hr4
            have hqv : ∀ t ∈ q.ts, revOk t.1 := by rw [hq]; exact hrv
            clear hr4 hrv hln hq
            ((try dsimp only [setN] at h); repeat (first | refine nn ?_ | (refine dr h ?_; clear h; (try clear w); intro w h) | refine ldC h ?_ | refine laC h ?_ | refine ckC h ?_ | (refine stC h ?_; clear h; (try clear w); intro w h; (try dsimp only [putN, setN] at h)) | rw [add_add]))
            refine S_version h 3 rfl hs2 fun v w h => ?_
            ((try dsimp only [setN] at h); repeat (first | refine nn ?_ | (refine dr h ?_; clear h; (try clear w); intro w h) | refine ldC h ?_ | refine laC h ?_ | refine ckC h ?_ | (refine stC h ?_; clear h; (try clear w); intro w h; (try dsimp only [putN, setN] at h)) | rw [add_add]))
            refine S_shPutR (r := q) h 4 rfl hs1 few (by omega) (Rw.re encT 1 rfl hrq) hrq.cap.1 (Rw.nil0 encT hrq) hqv fun s1 w hs1 h => ?_
            have h : St w0 ([Cl b39 T_api_Route (rtC q v4)] :: t4 :: [Cl b10 T_damperlaw4_Call [I k1, I k2, I k3, .string c1, I c2, I c3, I c4, I c5, I c6, SlV sl]] :: s2 :: s1 :: []) w := h
            ((try dsimp only [setN] at h); repeat (first | refine nn ?_ | (refine dr h ?_; clear h; (try clear w); intro w h) | refine ldC h ?_ | refine laC h ?_ | refine ckC h ?_ | (refine stC h ?_; clear h; (try clear w); intro w h; (try dsimp only [putN, setN] at h)) | rw [add_add]))
            refine S_rPutR (r := q) h 3 rfl hs2 (by omega) (Rw.re encT 1 rfl hrq) hqv fun s2 w hs2 h => ?_
            refine itF (by simp) (itF (by simp) ?_)
            have := shPutR_n a q v
            exact hk11 _ w ⟨_, s1, s2, hs1, hs2, shPutR_few few q v, by omega, dl0_ (dl0_ h)⟩
          · skip
            ((try dsimp only [setN] at h); repeat (first | refine nn ?_ | (refine dr h ?_; clear h; (try clear w); intro w h) | refine ldC h ?_ | refine laC h ?_ | refine ckC h ?_ | (refine stC h ?_; clear h; (try clear w); intro w h; (try dsimp only [putN, setN] at h)) | rw [add_add]))
            refine gd (by decide) ?_
            refine S_within4 (by decide) (by decide) ?_
            generalize IntKind.wrap .i64 (Int.tdiv k1 8) % 3 = kd
            refine nw h ?_; clear h; (try clear w); intro b54 w h
            ((try dsimp only [setN] at h); repeat (first | refine nn ?_ | (refine dr h ?_; clear h; (try clear w); intro w h) | refine ldC h ?_ | refine laC h ?_ | refine ckC h ?_ | (refine stC h ?_; clear h; (try clear w); intro w h; (try dsimp only [putN, setN] at h)) | rw [add_add]))
            refine S_within4 (by decide) (by decide) ?_
            have h1 := Int.emod_nonneg k2 (by decide : (6 : Int) ≠ 0)
            have h2 := Int.emod_lt_of_pos k2 (by decide : (0 : Int) < 6)
            have hr : Rw eS T_string 1 ⟨some ⟨b54, 0, none⟩, 6, 6⟩ [s_web, s_api, s_a_b, s_front, s_back, s_r_1] [Cl b54 T_string [.string s_web, .string s_api, .string s_a_b, .string s_front, .string s_back, .string s_r_1]] := Rw.lit b54 _ encS rfl rfl (by simp [maxLen])
            refine rd1 (v := ⟨some ⟨b54, 0, none⟩, 6, 6⟩) (Rw.rd encS h 0 rfl hr) encS (lf := .str) (fun x => x) (fun x => ⟨_, rfl, rfl⟩) h1 h2 fun n hx => ?_
            clear hr hx
            ((try dsimp only [setN] at h); repeat (first | refine nn ?_ | (refine dr h ?_; clear h; (try clear w); intro w h) | refine ldC h ?_ | refine laC h ?_ | refine ckC h ?_ | (refine stC h ?_; clear h; (try clear w); intro w h; (try dsimp only [putN, setN] at h)) | rw [add_add]))
            refine S_version h 2 rfl hs2 fun v w h => ?_
            refine S_shDrop h 3 rfl hs1 (by omega) fun s1 w hs1 h => ?_
            have h : St w0 ([Cl b54 T_string [.string s_web, .string s_api, .string s_a_b, .string s_front, .string s_back, .string s_r_1]] :: [Cl b10 T_damperlaw4_Call [I k1, I k2, I k3, .string c1, I c2, I c3, I c4, I c5, I c6, SlV sl]] :: s2 :: s1 :: []) w := h
            refine S_rDrop h 2 rfl hs2 (by omega) fun s2 w hs2 h => ?_
            refine itF (by simp) ?_
            have := shDrop_n a kd n v
            exact hk11 _ w ⟨_, s1, s2, hs1, hs2, shDrop_few few kd n v, by omega, dl0_ h⟩
      · clear hs1 hs2 few hn
        clear h; (try clear w)
        rintro z w ⟨a, s1, s2, hs1, hs2, few, hn, h⟩
        refine S_same4 h 2 1 (by decide) rfl hs1 rfl hs2 few fun w h => ?_
        refine itF rfl ?_
        rw [wr (by omega) (by omega)]
        exact hag (q - 1) _ w (by omega) ⟨m + 1, a, s1, s2, by simp, by omega, hs1, hs2, few, by omega, dl0_ h⟩
    · exact hk4 _ w h.fin
  · exact hk4 _ w h.fin
end Go.Proofs.YtpnbgpolbjbhpaaGreatDoor
