/- Contracts of functions, and walks of laws (text Uk). No conditions beyond those its theorems state. -/
import Derived.Test.YtpnbgpolbjbhpaaGreatDoorUv
set_option linter.all false
namespace Go.Proofs.YtpnbgpolbjbhpaaGreatDoor
open Go.Dm
attribute [local irreducible] L.load L.store L.chk L.new L.nonnil L.guard L.ite L.draw L.idx L.sem L.semR L.semU L.chkSem L.next L.call L.callV L.join L.alts L.loop L.begin L.endRound L.range
variable {w0 w : World} {E : List Seg}
/-! ### ShelfKinds -/
set_option maxHeartbeats 1000000 in
theorem W_ShelfKinds (c : Cfg) (p1 : Sl) (p2 : Bool) {ns : List Int} (o : Old w0 eI p1 ns) : Calls Pr n_damperlaw4_ShelfKinds #[.agg (Cfg.cells c).toArray, SlV p1, .bool p2] w0 fun e w' => e = .returned (.bool true) ∧ St w0 [] w' := by
  refine law_of (args := [.agg (Cfg.cells c).toArray, SlV p1, .bool p2]) (C_damperlaw4_ShelfKinds c p1 p2) ?_
  unfold F_damperlaw4_ShelfKinds
  have h := St.init w0
  refine nw h ?_; clear h; (try clear w); intro b1 w h
  refine S_known4 h fun w h => itF rfl ?_
  refine S_shNew h fun bs s1 w hs1 h => itF rfl ?_
  ((try dsimp only [setN] at h); repeat (first | refine nn ?_ | (refine dr h ?_; clear h; (try clear w); intro w h) | refine ldC h ?_ | refine laC h ?_ | refine ckC h ?_ | (refine stC h ?_; clear h; (try clear w); intro w h; (try dsimp only [putN, setN] at h)) | rw [add_add]))
  refine S_lConfig (c := c) (n := 0) h fun w h => ?_
  have hok := lroute_ok 0 ns 0
  have hrv := lroute_rev 0 ns 0
  have hln := lroute_len 0 ns 0
  refine S_lRoute h o.re fun v4 t4 w hr4 h => ?_
  have hcn := lcfg_num (nm := s_both) c.2.1 c.2.2.1 c.2.2.2.1 c.2.2.2.2.1 c.2.2.2.2.2.1
  obtain ⟨x, hx⟩ : ∃ x : Cfg, x = (s_both, (lcfg c 0).2) := ⟨_, rfl⟩
  have hxok : specC x = 0 := by
    rw [hx]; unfold specC
    rw [if_pos (show shortB s_both.data.toList 16 = true by decide), if_pos]
    exact hcn
  clear hcn
  generalize lroute 0 ns 0 = r at *
  obtain ⟨q, hq⟩ : ∃ q : ARt, q = { r with name := s_both } := ⟨_, rfl⟩
  have hqok : specE q = 0 := by rw [hq]; exact specR_name hok (by decide)
  refine nw h ?_; clear h; (try clear w); intro b7 w h
  refine nw h ?_; clear h; (try clear w); intro b8 w h
  (refine stC h ?_; clear h; (try clear w); intro w h; (try dsimp only [putN, setN] at h))
  (refine stC h ?_; clear h; (try clear w); intro w h; (try dsimp only [putN, setN] at h))
  (refine stC h ?_; clear h; (try clear w); intro w h; (try dsimp only [putN, setN] at h))
  (refine stC h ?_; clear h; (try clear w); intro w h; (try dsimp only [putN, setN] at h))
  have h : St w0 ([Cl b8 T_api_Route (rtC q v4)] :: [Cl b7 T_api_Config (Cfg.cells x)] :: t4 :: s1 :: [Cl b1 T_api_Config (Cfg.cells c)] :: []) w := by rw [hq, hx]; exact h
  have hqr : Rw eT T_api_Target 3 v4 q.ts t4 := by rw [hq]; exact hr4
  have hqv : ∀ t ∈ q.ts, revOk t.1 := by rw [hq]; exact hrv
  have nx : x.1 = s_both := by rw [hx]
  have nq : q.name = s_both := by rw [hq]
  clear hq hx hr4 hrv hok hln
  ((try dsimp only [setN] at h); repeat (first | refine nn ?_ | (refine dr h ?_; clear h; (try clear w); intro w h) | refine ldC h ?_ | refine laC h ?_ | refine ckC h ?_ | (refine stC h ?_; clear h; (try clear w); intro w h; (try dsimp only [putN, setN] at h)) | rw [add_add]))
  refine S_shPut (c := x) h 3 rfl hs1 (by simp) fun s1 w hs1 h => ?_
  have e1 : shPut ⟨[], [], 0⟩ x 0 = (⟨putC [] s_both x 1, [], 1⟩, 1, 0) := by rw [shPutC_ok (a := ⟨[], [], 0⟩) hxok rfl, nx]; rfl
  rw [e1] at hs1 ⊢
  dsimp only at hs1
  have g1 : (tget (putC [] s_both x 1) s_both).is = true ∧ (tget (putC [] s_both x 1) s_both).ver = 1 := by rw [tget_putC', if_pos rfl]; exact ⟨rfl, rfl⟩
  generalize putC [] s_both x 1 = m1 at *
  have h : St w0 ([Cl b8 T_api_Route (rtC q v4)] :: [Cl b7 T_api_Config (Cfg.cells x)] :: t4 :: s1 :: [Cl b1 T_api_Config (Cfg.cells c)] :: []) w := h
  ((try dsimp only [setN] at h); repeat (first | refine nn ?_ | (refine dr h ?_; clear h; (try clear w); intro w h) | refine ldC h ?_ | refine laC h ?_ | refine ckC h ?_ | (refine stC h ?_; clear h; (try clear w); intro w h; (try dsimp only [putN, setN] at h)) | rw [add_add]))
  have fw : AShelf.Few ⟨m1, [], 1⟩ := fun _ hx => by cases hx
  refine S_shPutR (r := q) h 3 rfl hs1 fw (by simp) (Rw.re encT 2 rfl hqr) hqr.cap.1 (Rw.nil0 encT hqr) hqv fun s1 w hs1 h => ?_
  have e2 : shPutR ⟨m1, [], 1⟩ q 0 = (⟨m1, putRt [] s_both q 2, 2⟩, 2, 0) := by rw [shPutR_ok (a := ⟨m1, [], 1⟩) hqok mayV_new, nq]; rfl
  rw [e2] at hs1 ⊢
  dsimp only at hs1
  have g2 : (rget (putRt [] s_both q 2) s_both).is = true ∧ (rget (putRt [] s_both q 2) s_both).ver = 2 := by rw [rget_putRt, if_pos rfl]; exact ⟨rfl, rfl⟩
  have fw2 : AShelf.Few ⟨m1, putRt [] s_both q 2, 2⟩ := by have := shPutR_few fw q 0; rw [e2] at this; exact this
  generalize putRt [] s_both q 2 = m2 at *
  refine itF rfl (itF rfl (itF rfl ?_))
  refine jd ?_
  have fin : ∀ {w : World} {s : Seg} {A : AShelf} {b : Bool}, (tget A.m s_both).is = b → (rget A.r s_both).is = !b → A.Few → A.n < 900000000 → ShS bs A s → St w0 ([Cl b8 T_api_Route (rtC q v4)] :: [Cl b7 T_api_Config (Cfg.cells x)] :: t4 :: s :: [Cl b1 T_api_Config (Cfg.cells c)] :: []) w → ∀ v : Int,
      (L.call Pr n_shelf_Shelf_Drop [.pointer (some ⟨bs, 0, none⟩), .int .i64 0, .string s_both, .int .i64 v] (.one (.one (.int .i64))) fun (x17 : Int) =>
        L.ite (x17 != 12) (fun w' => Value.bool false = .bool true ∧ St w0 [] w') <|
        L.call Pr n_shelf_Shelf_Drop [.pointer (some ⟨bs, 0, none⟩), .int .i64 3, .string s_both, .int .i64 v] (.one (.one (.int .i64))) fun (x18 : Int) =>
        L.ite (x18 != 12) (fun w' => Value.bool false = .bool true ∧ St w0 [] w') <|
        L.call Pr n_shelf_Shelf_Config [.pointer (some ⟨bs, 0, none⟩), .string s_both] (.tup [(.agg [.str, .int .i64, .int .i64, .int .i64, .int .i64, .int .i64]), (.one (.int .i64)), (.one (.int .i64)), (.one (.bool))]) fun (x19 : (ByteArray × Int × Int × Int × Int × Int × Unit) × Int × Int × Bool × Unit) =>
        L.new [.string s_, .int .i64 0, .int .i64 0, .int .i64 0, .int .i64 0, .int .i64 0] T_api_Config fun b20 =>
        L.store (⟨b20, 0, none⟩) [.string x19.1.1, .int .i64 x19.1.2.1, .int .i64 x19.1.2.2.1, .int .i64 x19.1.2.2.2.1, .int .i64 x19.1.2.2.2.2.1, .int .i64 x19.1.2.2.2.2.2.1] <|
        L.call Pr n_shelf_Shelf_Route [.pointer (some ⟨bs, 0, none⟩), .string s_both] (.tup [(.agg [.str, .str, .slice, .int .i64]), (.one (.int .i64)), (.one (.bool))]) fun (x21 : (ByteArray × ByteArray × Sl × Int × Unit) × Int × Bool × Unit) =>
        L.new [.string s_, .string s_, .slice none 0 0, .int .i64 0] T_api_Route fun b22 =>
        L.store (⟨b22, 0, none⟩) [.string x21.1.1, .string x21.1.2.1, .slice x21.1.2.2.1.a x21.1.2.2.1.len x21.1.2.2.1.cap, .int .i64 x21.1.2.2.2.1] <|
        L.ite (x19.2.2.2.1 == b) (fun w' => Value.bool (!(x21.2.2.1 == b)) = .bool true ∧ St w0 [] w') <|
        fun w' => Value.bool false = .bool true ∧ St w0 [] w') w := by
    intro w s A b ht hr fA hn hs h v
    refine S_shDrop h 3 rfl hs hn fun s w hs h => ?_
    rw [shDrop0 A (by decide) (by decide)] at hs ⊢
    refine itF rfl ?_
    have h : St w0 ([Cl b8 T_api_Route (rtC q v4)] :: [Cl b7 T_api_Config (Cfg.cells x)] :: t4 :: s :: [Cl b1 T_api_Config (Cfg.cells c)] :: []) w := h
    refine S_shDrop h 3 rfl hs hn fun s w hs h => ?_
    rw [shDrop0 A (by decide) (by decide)] at hs ⊢
    refine itF rfl ?_
    have h : St w0 ([Cl b8 T_api_Route (rtC q v4)] :: [Cl b7 T_api_Config (Cfg.cells x)] :: t4 :: s :: [Cl b1 T_api_Config (Cfg.cells c)] :: []) w := h
    refine S_shConfig h 3 rfl hs fun w h => ?_
    have ec := shCfg_is A s_both
    generalize shCfg A s_both = y at *
    refine nw h ?_; clear h; (try clear w); intro b20 w h
    ((try dsimp only [setN] at h); repeat (first | refine nn ?_ | (refine dr h ?_; clear h; (try clear w); intro w h) | refine ldC h ?_ | refine laC h ?_ | refine ckC h ?_ | (refine stC h ?_; clear h; (try clear w); intro w h; (try dsimp only [putN, setN] at h)) | rw [add_add]))
    refine S_shRoute h 4 rfl hs fA fun v9 t9 w hr9 h => ?_
    have er := shRt_is A s_both
    generalize shRt A s_both = z at *
    refine nw h ?_; clear h; (try clear w); intro b22 w h
    ((try dsimp only [setN] at h); repeat (first | refine nn ?_ | (refine dr h ?_; clear h; (try clear w); intro w h) | refine ldC h ?_ | refine laC h ?_ | refine ckC h ?_ | (refine stC h ?_; clear h; (try clear w); intro w h; (try dsimp only [putN, setN] at h)) | rw [add_add]))
    rw [ec, er, ht, hr]
    refine itT (by simp) ⟨?_, h.fin⟩
    cases b <;> rfl
  cases p2 with
  | false =>
    refine itF rfl ?_
    dsimp only
    have ew : IntKind.wrap .i64 (3 - 1) = 2 := rfl
    rw [ew]
    refine S_shDrop h 3 rfl hs1 (by simp) fun s1 w hs1 h => ?_
    have e3 : shDrop ⟨m1, m2, 2⟩ 2 s_both 1 = (⟨m1, m2, 2⟩, 7) := by
      rw [shDrop2]; simp only [g2.1, g2.2]; rw [mayV_is (by decide), if_neg (by decide)]
      rfl
    rw [e3] at hs1 ⊢
    refine itF rfl ?_
    have h : St w0 ([Cl b8 T_api_Route (rtC q v4)] :: [Cl b7 T_api_Config (Cfg.cells x)] :: t4 :: s1 :: [Cl b1 T_api_Config (Cfg.cells c)] :: []) w := h
    refine S_shDrop h 3 rfl hs1 (by simp) fun s1 w hs1 h => ?_
    have e4 : shDrop ⟨m1, m2, 2⟩ 1 s_both 1 = (⟨dropC m1 s_both, m2, 3⟩, 0) := by
      rw [shDrop1, mayC_V]; simp only [g1.1, g1.2]; rw [mayV_is (by decide), if_pos rfl]
      rfl
    rw [e4] at hs1 ⊢
    refine itF rfl ?_
    have h : St w0 ([Cl b8 T_api_Route (rtC q v4)] :: [Cl b7 T_api_Config (Cfg.cells x)] :: t4 :: s1 :: [Cl b1 T_api_Config (Cfg.cells c)] :: []) w := h
    refine fin (A := ⟨dropC m1 s_both, m2, 3⟩) ?_ ?_ fw2 (by simp) hs1 h _
    · dsimp only; rw [tget_dropC', if_pos rfl]
    · simp only [g2.1]; rfl
  | true =>
    refine itT rfl ?_
    dsimp only
    have ew : IntKind.wrap .i64 (3 - 2) = 1 := rfl
    rw [ew]
    refine S_shDrop h 3 rfl hs1 (by simp) fun s1 w hs1 h => ?_
    have e3 : shDrop ⟨m1, m2, 2⟩ 1 s_both 2 = (⟨m1, m2, 2⟩, 7) := by
      rw [shDrop1, mayC_V]; simp only [g1.1, g1.2]; rw [mayV_is (by decide), if_neg (by decide)]
      rfl
    rw [e3] at hs1 ⊢
    refine itF rfl ?_
    have h : St w0 ([Cl b8 T_api_Route (rtC q v4)] :: [Cl b7 T_api_Config (Cfg.cells x)] :: t4 :: s1 :: [Cl b1 T_api_Config (Cfg.cells c)] :: []) w := h
    refine S_shDrop h 3 rfl hs1 (by simp) fun s1 w hs1 h => ?_
    have e4 : shDrop ⟨m1, m2, 2⟩ 2 s_both 2 = (⟨m1, dropRt m2 s_both, 3⟩, 0) := by
      rw [shDrop2]; simp only [g2.1, g2.2]; rw [mayV_is (by decide), if_pos rfl]
      rfl
    rw [e4] at hs1 ⊢
    refine itF rfl ?_
    have h : St w0 ([Cl b8 T_api_Route (rtC q v4)] :: [Cl b7 T_api_Config (Cfg.cells x)] :: t4 :: s1 :: [Cl b1 T_api_Config (Cfg.cells c)] :: []) w := h
    refine fin (A := ⟨m1, dropRt m2 s_both, 3⟩) g1.1 ?_ ?_ (by simp) hs1 h _
    · dsimp only; rw [rget_dropRt, if_pos rfl]; rfl
    · have := shDrop_few fw2 2 s_both 2; rw [e4] at this; exact this
end Go.Proofs.YtpnbgpolbjbhpaaGreatDoor
