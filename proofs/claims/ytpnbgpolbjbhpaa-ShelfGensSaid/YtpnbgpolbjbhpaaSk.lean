/- Contracts of functions, and walks of laws (text Sk). No conditions beyond those its theorems state. -/
import Derived.Test.YtpnbgpolbjbhpaaSi
import Derived.Test.YtpnbgpolbjbhpaaSj
set_option linter.all false
namespace Go.Proofs.Ytpnbgpolbjbhpaa
open Go.Dm
attribute [local irreducible] L.load L.store L.chk L.new L.nonnil L.guard L.ite L.draw L.idx L.sem L.semR L.semU L.chkSem L.next L.call L.callV L.join L.alts L.loop L.begin L.endRound L.range
variable {w0 w : World} {E : List Seg}
/-! ### ShelfGens -/
theorem encCfg : Enc Cfg.cells 6 := ⟨fun _ => rfl, fun _ => rfl, by decide⟩
def eB (b : Bool) : List Value := [.bool b]
theorem encB : Enc eB 1 := ⟨fun _ => rfl, fun _ => rfl, by decide⟩
/-- as Gens turns one -/
def gcfg (c : Cfg) : Cfg := ((lcfg c 0).1, Int.tmod (lcfg c 0).2.1 3, (lcfg c 0).2.2.1, 0, (lcfg c 0).2.2.2.2.1, 0, ())
theorem gcfg_num {nm : ByteArray} (im co ma : Int) : cfgNum (nm, Int.tmod (im % 256) 3, 1 + co % 8, 0, 1 + ma % 10, 0, ()) = true := by
  have e0 : Int.tmod (im % 256) 3 = im % 256 % 3 := Int.tmod_eq_emod_of_nonneg (by omega)
  rw [e0]
  have e : cfgNum (nm, im % 256 % 3, 1 + co % 8, 0, 1 + ma % 10, 0, ()) = (decide (0 ≤ im % 256 % 3 ∧ im % 256 % 3 ≤ 255) && (decide (1 ≤ 1 + co % 8 ∧ 1 + co % 8 ≤ 8) && (decide (1 ≤ 1 + ma % 10 ∧ 1 + ma % 10 ≤ 10) && (decide ((0:Int) ≤ 0 ∧ 0 ≤ 1 + ma % 10) && decide ((0:Int) ≤ 0 ∧ (0:Int) ≤ 30))))) := rfl
  rw [e]
  simp only [Bool.and_eq_true, decide_eq_true_eq]
  omega
theorem gcfg_ok (c : Cfg) : specC (gcfg c) = 0 := by
  unfold specC
  rw [if_pos (show shortB (gcfg c).1.data.toList 16 = true from lname_ok 0), if_pos]
  exact gcfg_num c.2.1 c.2.2.1 c.2.2.2.2.1
theorem shDrop_ofC {a : AShelf} {n : ByteArray} {c : Cfg} {v g : Int} (h : tget a.m n = thgOf c v g true) (h0 : v ≠ 0) : shDrop a 1 n v = (⟨dropC a.m n, a.r, a.n + 1⟩, 0) := shDropC_ok (by rw [h]; exact mayC_ok rfl rfl h0 _)
theorem W_ShelfGens (p0 p1 : Sl) {l : List Cfg} {l2 : List Bool} (o : Old w0 Cfg.cells p0 l) (o2 : Old w0 eB p1 l2) : Calls Pr n_damperlaw4_ShelfGens #[SlV p0, SlV p1] w0 fun e w' => e = .returned (.bool true) ∧ St w0 [] w' := by
  refine law_of (args := [SlV p0, SlV p1]) (C_damperlaw4_ShelfGens p0 p1) ?_
  unfold F_damperlaw4_ShelfGens
  have h := St.init w0
  refine S_known4 h fun w h => itF rfl ?_
  refine S_shNew h fun b s w hs h => itF rfl ?_
  refine nw h ?_; clear h; (try clear w); intro b3 w h
  refine jd ?_
  have ok : ∀ {w}, St w0 [] w → (fun (v : Value) (w' : World) => v = .bool true ∧ St w0 [] w') (.bool true) w := fun h => ⟨rfl, h⟩
  refine loop_of (fun q y w => ∃ (v want i : Int) (last : Cfg) (a : AShelf) (s : Seg), y = (v, want, i, ()) ∧ 0 ≤ i ∧ q + i = 30 ∧ a.n ≤ 2 * i ∧ 0 ≤ want ∧ want ≤ i ∧ (v = 0 → (tget a.m s_web).is = false ∧ (tget a.m s_web).gen = want) ∧ (v ≠ 0 → tget a.m s_web = thgOf last v want true) ∧ ShS b a s ∧
    St w0 ([Cl b3 T_api_Config (Cfg.cells last)] :: s :: []) w) 30 ⟨0, 0, 0, noCfg, ⟨[], [], 0⟩, s, rfl, by omega, rfl, by simp, by omega, by omega, fun _ => ⟨rfl, rfl⟩, fun h => (h rfl).elim, hs, h⟩ ?_
  clear hs
  clear h; (try clear w)
  rintro q y w ⟨v, want, i, last, a, s, rfl, hi0, hq, hn, hw0, hw1, hz, hv, hs, h⟩ again hag
  dsimp only
  refine it (fun hb => ?_) (fun _ => ⟨rfl, h.fin⟩)
  refine it (fun hb2 => ?_) (fun _ => ⟨rfl, h.fin⟩)
  simp only [decide_eq_true_eq] at hb hb2
  refine jd ?_
  refine oldA o encCfg h (fun x => x) (fun x => rfl) hi0 hb fun c hc => ?_
  refine S_lConfig (c := c) h fun w h => ?_
  have hok := gcfg_ok c
  have e1 : gcfg c = ((lcfg c 0).1, Int.tmod (lcfg c 0).2.1 3, (lcfg c 0).2.2.1, 0, (lcfg c 0).2.2.2.2.1, 0, ()) := rfl
  have e2 : (gcfg c).1 = s_web := rfl
  generalize lcfg c 0 = x at *
  refine nw h ?_; clear h; (try clear w); intro b13 w h
  (repeat (first | refine nn ?_ | (refine dr h ?_; clear h; (try clear w); intro w h) | refine ld0_ h rfl rfl ?_ | refine ld1_ h rfl rfl ?_ | refine ld2_ h rfl rfl ?_ | refine ld3_ h rfl rfl ?_ | refine ld4_ h rfl rfl ?_ | refine ld5_ h rfl rfl ?_ | refine ld6_ h rfl rfl ?_ | refine ld7_ h rfl rfl ?_ | refine ld8_ h rfl rfl ?_ | refine ld9_ h rfl rfl ?_ | refine ld10_ h rfl rfl ?_ | refine ld11_ h rfl rfl ?_ | refine la0_ h rfl ?_ | refine la1_ h rfl ?_ | refine la2_ h rfl ?_ | refine la3_ h rfl ?_ | refine la4_ h rfl ?_ | refine la5_ h rfl ?_ | refine la6_ h rfl ?_ | refine la7_ h rfl ?_ | refine la8_ h rfl ?_ | refine la9_ h rfl ?_ | refine la10_ h rfl ?_ | refine la11_ h rfl ?_ | refine ck0_ h rfl ?_ | refine ck1_ h rfl ?_ | refine ck2_ h rfl ?_ | refine ck3_ h rfl ?_ | refine ck4_ h rfl ?_ | refine ck5_ h rfl ?_ | refine ck6_ h rfl ?_ | refine ck7_ h rfl ?_ | refine ck8_ h rfl ?_ | refine ck9_ h rfl ?_ | refine ck10_ h rfl ?_ | refine ck11_ h rfl ?_ | ((first | refine st0_ h rfl rfl ?_ | refine st1_ h rfl rfl ?_ | refine st2_ h rfl rfl ?_ | refine st3_ h rfl rfl ?_ | refine st4_ h rfl rfl ?_ | refine st5_ h rfl rfl ?_ | refine st6_ h rfl rfl ?_ | refine st7_ h rfl rfl ?_ | refine st8_ h rfl rfl ?_ | refine st9_ h rfl rfl ?_ | refine st10_ h rfl rfl ?_ | refine st11_ h rfl rfl ?_); clear h; (try clear w); intro w h; (try dsimp only [putN, setN] at h))))
  refine gd (by decide) ?_
  (repeat (first | refine nn ?_ | (refine dr h ?_; clear h; (try clear w); intro w h) | refine ld0_ h rfl rfl ?_ | refine ld1_ h rfl rfl ?_ | refine ld2_ h rfl rfl ?_ | refine ld3_ h rfl rfl ?_ | refine ld4_ h rfl rfl ?_ | refine ld5_ h rfl rfl ?_ | refine ld6_ h rfl rfl ?_ | refine ld7_ h rfl rfl ?_ | refine ld8_ h rfl rfl ?_ | refine ld9_ h rfl rfl ?_ | refine ld10_ h rfl rfl ?_ | refine ld11_ h rfl rfl ?_ | refine la0_ h rfl ?_ | refine la1_ h rfl ?_ | refine la2_ h rfl ?_ | refine la3_ h rfl ?_ | refine la4_ h rfl ?_ | refine la5_ h rfl ?_ | refine la6_ h rfl ?_ | refine la7_ h rfl ?_ | refine la8_ h rfl ?_ | refine la9_ h rfl ?_ | refine la10_ h rfl ?_ | refine la11_ h rfl ?_ | refine ck0_ h rfl ?_ | refine ck1_ h rfl ?_ | refine ck2_ h rfl ?_ | refine ck3_ h rfl ?_ | refine ck4_ h rfl ?_ | refine ck5_ h rfl ?_ | refine ck6_ h rfl ?_ | refine ck7_ h rfl ?_ | refine ck8_ h rfl ?_ | refine ck9_ h rfl ?_ | refine ck10_ h rfl ?_ | refine ck11_ h rfl ?_ | ((first | refine st0_ h rfl rfl ?_ | refine st1_ h rfl rfl ?_ | refine st2_ h rfl rfl ?_ | refine st3_ h rfl rfl ?_ | refine st4_ h rfl rfl ?_ | refine st5_ h rfl rfl ?_ | refine st6_ h rfl rfl ?_ | refine st7_ h rfl rfl ?_ | refine st8_ h rfl rfl ?_ | refine st9_ h rfl rfl ?_ | refine st10_ h rfl rfl ?_ | refine st11_ h rfl rfl ?_); clear h; (try clear w); intro w h; (try dsimp only [putN, setN] at h))))
  have h : St w0 ([Cl b13 T_api_Config (Cfg.cells (gcfg c))] :: [Cl b3 T_api_Config (Cfg.cells last)] :: s :: []) w := by rw [e1]; exact h
  generalize gcfg c = g at *
  clear e1
  have hlo := (hs.1).lo
  -- what is wanted
  refine join_of (fun z w => z = ((if v = 0 then want + 1 else if sameC g last = true then want else want + 1), ()) ∧ St w0 ([Cl b13 T_api_Config (Cfg.cells g)] :: [Cl b3 T_api_Config (Cfg.cells last)] :: s :: []) w) (fun k15 hk15 => ?_) (fun z w ⟨hz2, h⟩ => ?_)
  · refine it (fun h0 => ?_) (fun h0 => ?_) <;> (try simp only [decide_eq_true_eq, decide_eq_false_iff_not, beq_iff_eq, bne_iff_ne, beq_eq_false_iff_ne, bne_eq_false_iff_eq, Bool.not_eq_true', Bool.not_eq_false', ne_eq, Bool.not_eq_true, Bool.not_eq_false] at h0)
    · refine hk15 _ w ⟨?_, h⟩
      rw [if_pos h0, wr (by omega) (by omega)]
    · (repeat (first | refine nn ?_ | (refine dr h ?_; clear h; (try clear w); intro w h) | refine ld0_ h rfl rfl ?_ | refine ld1_ h rfl rfl ?_ | refine ld2_ h rfl rfl ?_ | refine ld3_ h rfl rfl ?_ | refine ld4_ h rfl rfl ?_ | refine ld5_ h rfl rfl ?_ | refine ld6_ h rfl rfl ?_ | refine ld7_ h rfl rfl ?_ | refine ld8_ h rfl rfl ?_ | refine ld9_ h rfl rfl ?_ | refine ld10_ h rfl rfl ?_ | refine ld11_ h rfl rfl ?_ | refine la0_ h rfl ?_ | refine la1_ h rfl ?_ | refine la2_ h rfl ?_ | refine la3_ h rfl ?_ | refine la4_ h rfl ?_ | refine la5_ h rfl ?_ | refine la6_ h rfl ?_ | refine la7_ h rfl ?_ | refine la8_ h rfl ?_ | refine la9_ h rfl ?_ | refine la10_ h rfl ?_ | refine la11_ h rfl ?_ | refine ck0_ h rfl ?_ | refine ck1_ h rfl ?_ | refine ck2_ h rfl ?_ | refine ck3_ h rfl ?_ | refine ck4_ h rfl ?_ | refine ck5_ h rfl ?_ | refine ck6_ h rfl ?_ | refine ck7_ h rfl ?_ | refine ck8_ h rfl ?_ | refine ck9_ h rfl ?_ | refine ck10_ h rfl ?_ | refine ck11_ h rfl ?_ | ((first | refine st0_ h rfl rfl ?_ | refine st1_ h rfl rfl ?_ | refine st2_ h rfl rfl ?_ | refine st3_ h rfl rfl ?_ | refine st4_ h rfl rfl ?_ | refine st5_ h rfl rfl ?_ | refine st6_ h rfl rfl ?_ | refine st7_ h rfl rfl ?_ | refine st8_ h rfl rfl ?_ | refine st9_ h rfl rfl ?_ | refine st10_ h rfl rfl ?_ | refine st11_ h rfl rfl ?_); clear h; (try clear w); intro w h; (try dsimp only [putN, setN] at h))))
      unfold L.chkSem
      refine ⟨ne_cfg g last w, ?_⟩
      refine it (fun hc => ?_) (fun hc => ?_)
      · have hc : (!sameC g last) = true := hc
        have hc : sameC g last = false := by simpa using hc
        refine hk15 _ w ⟨?_, h⟩
        rw [if_neg h0, if_neg (by simp [hc]), wr (by omega) (by omega)]
      · have hc : (!sameC g last) = false := hc
        have hc : sameC g last = true := by simpa using hc
        refine hk15 _ w ⟨?_, h⟩
        rw [if_neg h0, if_pos hc]
  · subst hz2
    dsimp only
    (repeat (first | refine nn ?_ | (refine dr h ?_; clear h; (try clear w); intro w h) | refine ld0_ h rfl rfl ?_ | refine ld1_ h rfl rfl ?_ | refine ld2_ h rfl rfl ?_ | refine ld3_ h rfl rfl ?_ | refine ld4_ h rfl rfl ?_ | refine ld5_ h rfl rfl ?_ | refine ld6_ h rfl rfl ?_ | refine ld7_ h rfl rfl ?_ | refine ld8_ h rfl rfl ?_ | refine ld9_ h rfl rfl ?_ | refine ld10_ h rfl rfl ?_ | refine ld11_ h rfl rfl ?_ | refine la0_ h rfl ?_ | refine la1_ h rfl ?_ | refine la2_ h rfl ?_ | refine la3_ h rfl ?_ | refine la4_ h rfl ?_ | refine la5_ h rfl ?_ | refine la6_ h rfl ?_ | refine la7_ h rfl ?_ | refine la8_ h rfl ?_ | refine la9_ h rfl ?_ | refine la10_ h rfl ?_ | refine la11_ h rfl ?_ | refine ck0_ h rfl ?_ | refine ck1_ h rfl ?_ | refine ck2_ h rfl ?_ | refine ck3_ h rfl ?_ | refine ck4_ h rfl ?_ | refine ck5_ h rfl ?_ | refine ck6_ h rfl ?_ | refine ck7_ h rfl ?_ | refine ck8_ h rfl ?_ | refine ck9_ h rfl ?_ | refine ck10_ h rfl ?_ | refine ck11_ h rfl ?_ | ((first | refine st0_ h rfl rfl ?_ | refine st1_ h rfl rfl ?_ | refine st2_ h rfl rfl ?_ | refine st3_ h rfl rfl ?_ | refine st4_ h rfl rfl ?_ | refine st5_ h rfl rfl ?_ | refine st6_ h rfl rfl ?_ | refine st7_ h rfl rfl ?_ | refine st8_ h rfl rfl ?_ | refine st9_ h rfl rfl ?_ | refine st10_ h rfl rfl ?_ | refine st11_ h rfl rfl ?_); clear h; (try clear w); intro w h; (try dsimp only [putN, setN] at h))))
    have hmay : mayC (tget a.m g.1) v true = 0 := by
      rw [e2]
      by_cases h0 : v = 0
      · subst h0; exact mayC_new (hz rfl).1
      · rw [hv h0]; exact mayC_ok rfl rfl h0 _
    refine S_shPut (c := g) h 2 rfl hs (by omega) fun s w hs h => ?_
    rw [shPut_ok hok hmay] at hs ⊢
    have hgen : tget (putC a.m g.1 g (a.n + 1)) s_web = thgOf g (a.n + 1) (if v = 0 then want + 1 else if sameC g last = true then want else want + 1) true := by
      rw [tget_putC, if_pos e2, e2]
      by_cases h0 : v = 0
      · rw [if_neg (by simp [(hz h0).1]), if_pos h0, (hz h0).2]
      · rw [hv h0, cfgOf_thgOf, if_neg h0]
        have : sameC last g = sameC g last := by rw [Bool.eq_iff_iff, sameC_iff, sameC_iff]; exact eq_comm
        rw [this]
        by_cases hc : sameC g last = true
        · rw [if_pos hc, if_pos ⟨rfl, hc⟩]; try rfl
        · rw [if_neg hc, if_neg (fun hh => hc hh.2)]; try rfl
    have hw2 : 0 ≤ (if v = 0 then want + 1 else if sameC g last = true then want else want + 1) ∧ (if v = 0 then want + 1 else if sameC g last = true then want else want + 1) ≤ i + 1 := by
      split
      · omega
      · split <;> omega
    generalize (if v = 0 then want + 1 else if sameC g last = true then want else want + 1) = want2 at *
    have h : St w0 ([Cl b13 T_api_Config (Cfg.cells g)] :: [Cl b3 T_api_Config (Cfg.cells last)] :: s :: []) w := h
    refine S_shConfig h 2 rfl hs fun w h => ?_
    rw [shCfg_of (a := ⟨putC a.m g.1 g (a.n + 1), a.r, a.n + 1⟩) hgen]
    refine nw h ?_; clear h; (try clear w); intro b22 w h
    (repeat (first | refine nn ?_ | (refine dr h ?_; clear h; (try clear w); intro w h) | refine ld0_ h rfl rfl ?_ | refine ld1_ h rfl rfl ?_ | refine ld2_ h rfl rfl ?_ | refine ld3_ h rfl rfl ?_ | refine ld4_ h rfl rfl ?_ | refine ld5_ h rfl rfl ?_ | refine ld6_ h rfl rfl ?_ | refine ld7_ h rfl rfl ?_ | refine ld8_ h rfl rfl ?_ | refine ld9_ h rfl rfl ?_ | refine ld10_ h rfl rfl ?_ | refine ld11_ h rfl rfl ?_ | refine la0_ h rfl ?_ | refine la1_ h rfl ?_ | refine la2_ h rfl ?_ | refine la3_ h rfl ?_ | refine la4_ h rfl ?_ | refine la5_ h rfl ?_ | refine la6_ h rfl ?_ | refine la7_ h rfl ?_ | refine la8_ h rfl ?_ | refine la9_ h rfl ?_ | refine la10_ h rfl ?_ | refine la11_ h rfl ?_ | refine ck0_ h rfl ?_ | refine ck1_ h rfl ?_ | refine ck2_ h rfl ?_ | refine ck3_ h rfl ?_ | refine ck4_ h rfl ?_ | refine ck5_ h rfl ?_ | refine ck6_ h rfl ?_ | refine ck7_ h rfl ?_ | refine ck8_ h rfl ?_ | refine ck9_ h rfl ?_ | refine ck10_ h rfl ?_ | refine ck11_ h rfl ?_ | ((first | refine st0_ h rfl rfl ?_ | refine st1_ h rfl rfl ?_ | refine st2_ h rfl rfl ?_ | refine st3_ h rfl rfl ?_ | refine st4_ h rfl rfl ?_ | refine st5_ h rfl rfl ?_ | refine st6_ h rfl rfl ?_ | refine st7_ h rfl rfl ?_ | refine st8_ h rfl rfl ?_ | refine st9_ h rfl rfl ?_ | refine st10_ h rfl rfl ?_ | refine st11_ h rfl rfl ?_); clear h; (try clear w); intro w h; (try dsimp only [putN, setN] at h))))
    refine itF rfl (itF rfl (itF (by simp) (itF (by simp) ?_)))
    (repeat (first | refine nn ?_ | (refine dr h ?_; clear h; (try clear w); intro w h) | refine ld0_ h rfl rfl ?_ | refine ld1_ h rfl rfl ?_ | refine ld2_ h rfl rfl ?_ | refine ld3_ h rfl rfl ?_ | refine ld4_ h rfl rfl ?_ | refine ld5_ h rfl rfl ?_ | refine ld6_ h rfl rfl ?_ | refine ld7_ h rfl rfl ?_ | refine ld8_ h rfl rfl ?_ | refine ld9_ h rfl rfl ?_ | refine ld10_ h rfl rfl ?_ | refine ld11_ h rfl rfl ?_ | refine la0_ h rfl ?_ | refine la1_ h rfl ?_ | refine la2_ h rfl ?_ | refine la3_ h rfl ?_ | refine la4_ h rfl ?_ | refine la5_ h rfl ?_ | refine la6_ h rfl ?_ | refine la7_ h rfl ?_ | refine la8_ h rfl ?_ | refine la9_ h rfl ?_ | refine la10_ h rfl ?_ | refine la11_ h rfl ?_ | refine ck0_ h rfl ?_ | refine ck1_ h rfl ?_ | refine ck2_ h rfl ?_ | refine ck3_ h rfl ?_ | refine ck4_ h rfl ?_ | refine ck5_ h rfl ?_ | refine ck6_ h rfl ?_ | refine ck7_ h rfl ?_ | refine ck8_ h rfl ?_ | refine ck9_ h rfl ?_ | refine ck10_ h rfl ?_ | refine ck11_ h rfl ?_ | ((first | refine st0_ h rfl rfl ?_ | refine st1_ h rfl rfl ?_ | refine st2_ h rfl rfl ?_ | refine st3_ h rfl rfl ?_ | refine st4_ h rfl rfl ?_ | refine st5_ h rfl rfl ?_ | refine st6_ h rfl rfl ?_ | refine st7_ h rfl rfl ?_ | refine st8_ h rfl rfl ?_ | refine st9_ h rfl rfl ?_ | refine st10_ h rfl rfl ?_ | refine st11_ h rfl rfl ?_); clear h; (try clear w); intro w h; (try dsimp only [putN, setN] at h))))
    have h := dl0_ (dl0_ h)
    have h : St w0 ([Cl b3 T_api_Config (Cfg.cells g)] :: s :: []) w := h
    have next : ∀ {v2 : Int} {a2 : AShelf} {s2 : Seg} {w}, a2.n ≤ 2 * (i + 1) → (v2 = 0 → (tget a2.m s_web).is = false ∧ (tget a2.m s_web).gen = want2) → (v2 ≠ 0 → tget a2.m s_web = thgOf g v2 want2 true) → ShS b a2 s2 → St w0 ([Cl b3 T_api_Config (Cfg.cells g)] :: s2 :: []) w → again (v2, want2, IntKind.wrap .i64 (i + 1), ()) w := by
      intro v2 a2 s2 w h1 h2 h3 h4 h5
      rw [wr (by omega) (by omega)]
      exact hag (q - 1) _ w (by omega) ⟨v2, want2, i + 1, g, a2, s2, rfl, by omega, by omega, h1, by omega, by omega, h2, h3, h4, h5⟩
    have keep : ∀ {w}, St w0 ([Cl b3 T_api_Config (Cfg.cells g)] :: s :: []) w → again (a.n + 1, want2, IntKind.wrap .i64 (i + 1), ()) w := fun h =>
      next (by simp only; omega) (fun h => by omega) (fun _ => hgen) hs h
    refine it (fun hb3 => ?_) (fun _ => keep h)
    simp only [decide_eq_true_eq] at hb3
    refine old1 o2 encB h (lf := .bool) (fun x => x) (fun x => ⟨_, rfl, rfl⟩) hi0 hb3 fun d hd => ?_
    refine it (fun hd2 => ?_) (fun _ => keep h)
    refine S_shDrop h 1 rfl hs (by simp only; omega) fun s w hs h => ?_
    rw [shDrop_ofC (a := ⟨putC a.m g.1 g (a.n + 1), a.r, a.n + 1⟩) hgen (by omega)] at hs ⊢
    refine itF rfl ?_
    refine next (by simp only; omega) (fun _ => ?_) (fun h => (h rfl).elim) hs h
    simp only
    rw [tget_dropC, if_pos rfl, hgen]
    exact ⟨rfl, rfl⟩
end Go.Proofs.Ytpnbgpolbjbhpaa
