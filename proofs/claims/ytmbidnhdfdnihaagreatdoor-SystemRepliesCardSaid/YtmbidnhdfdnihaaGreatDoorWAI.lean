/- What is proved on the way to a statement of the seat, pressed (text AI). No conditions beyond those its theorems state. -/
import Derived.Test.YtmbidnhdfdnihaaGreatDoorWAH
set_option linter.all false
namespace Go.Proofs.YtmbidnhdfdnihaaGreatDoor
open Go.Dm
theorem zgR {P : Program} {r : RT} {s : Sem Value} {k : r.T → PT} {w : World} (x : r.T) (h : s.run P w = .ok (r.val x) w) (hk : k x w) : L.semR P r s k w := ⟨x, h, hk⟩
theorem zc3 {P : Program} {fv : Value} {args : List Value} {r : RT} {k k' : r.T → PT} {w : World} (h : L.callV P fv args r k w) (hm : ∀ x w, k x w → k' x w) : L.callV P fv args r k' w := FCall.mono h fun _ _ ⟨x, e, hk⟩ => ⟨x, e, hm x _ hk⟩
attribute [local irreducible] L.load L.store L.chk L.new L.nonnil L.guard L.ite L.draw L.idx L.sem L.semR L.semU L.chkSem L.next L.call L.callV L.join L.alts L.loop L.begin L.endRound L.range
variable {w0 w : World} {E : List Seg}
def mV (b : Nat) (f : FuncId) : Value := .func (.func f) #[.pointer (some ⟨b, 0, none⟩)] #[]
def doM : List (Int × FuncId) := [(1, z0F), (2, z1X), (3, z0N), (4, z1H), (5, z2k), (6, z2C), (7, z0O), (8, z0O), (9, z0M), (10, z1V), (11, z2j), (12, z1W), (13, z2i)]
theorem z3X : Pr.underlying z00 = some (.map z0D z0W) := by kernel_rfl
theorem zfun (w : World) : (zeroValue z0W).run Pr w = .ok .nilFunc w := by
 have h : (Pr.info? z0W).map (·.zero) = some (some .nilFunc) := by kernel_rfl
 cases hi : Pr.info? z0W with
 | none => rw [hi] at h; cases h
 | some i => rw [hi] at h; simp only [Option.map_some, Option.some.injEq] at h; exact zv hi h w
theorem zfT (h : St w0 E w) {b : Nat} {e : AEv} (hb : chkEv e ≠ 0) (hn : e.kind = 12 ∨ e.kind = 13 → RevN e.name) (rd : RdE w0 E eT e.v e.r.ts) (hvc : e.v.len ≤ e.v.cap) (hrv : ∀ t ∈ e.r.ts, revOk t.1) {k : Sl → PT}
  (hk : ∀ v sv w', Rw eS z02 1 v [lineB zcL [errB (chkEv e)]] sv → St w0 (sv :: E) w' → k v w') : L.call Pr z0f [.pointer (some ⟨b, 0, none⟩), evV e] (.one (.one .slice)) k w := by
 refine z04 (z43 _ e.t) ?_
 unfold z2K
 refine nw h ?_; clear h; (try clear w); intro b1 w h
 (dsimp only [setN, List.cons_append, List.nil_append] at h; refine laC h ?_)
 refine za7 (e := e) h hn (fun w h => rd w (dl0_ h)) hvc hrv fun w h => ?_
 refine itT (by simpa using hb) ?_
 refine zdv ?_
 refine nw h ?_; clear h; (try clear w); intro b5 w h
 have := zd5 (chkEv e)
 refine lineS1 h (by decide) (by omega) fun w h => ?_
 refine nw h ?_; clear h; (try clear w); intro b7 w h
 exact ⟨_, rfl, hk _ _ w (Rw.lit b7 [_] encS rfl rfl (by simp [maxLen])) (dl1_ h)⟩
theorem S_do (h : St w0 E w) {b : Nat} {e : AEv} (hb : chkEv e = 0) (hn : e.kind = 12 ∨ e.kind = 13 → RevN e.name) (rd : RdE w0 E eT e.v e.r.ts) (hvc : e.v.len ≤ e.v.cap) (hrv : ∀ t ∈ e.r.ts, revOk t.1) {f : FuncId} (hf : mget doM e.kind = some f) {k : Sl → PT}
  (hh : ∀ (s1 s2 : Seg) w', St w0 (s1 :: s2 :: E) w' → L.callV Pr (.func (.func f) #[.pointer (some ⟨b, 0, none⟩)] #[]) [evV e] (.one (.one .slice)) k w') : L.call Pr z0f [.pointer (some ⟨b, 0, none⟩), evV e] (.one (.one .slice)) k w := by
 refine z04 (z43 _ e.t) ?_
 unfold z2K
 refine nw h ?_; clear h; (try clear w); intro b1 w h
 (dsimp only [setN, List.cons_append, List.nil_append] at h; refine laC h ?_)
 refine za7 (e := e) h hn (fun w h => rd w (dl0_ h)) hvc hrv fun w h => ?_
 refine itF (by simpa using hb) ?_
 refine MpS.new h KI (mV b) fun r s w hm h => ?_
 refine MpS.set mkI z3X h 0 rfl hm z0F rfl fun s w hm h => ?_
 refine MpS.set mkI z3X h 0 rfl hm z1X rfl fun s w hm h => ?_
 refine MpS.set mkI z3X h 0 rfl hm z0N rfl fun s w hm h => ?_
 refine MpS.set mkI z3X h 0 rfl hm z1H rfl fun s w hm h => ?_
 refine MpS.set mkI z3X h 0 rfl hm z2k rfl fun s w hm h => ?_
 refine MpS.set mkI z3X h 0 rfl hm z2C rfl fun s w hm h => ?_
 refine MpS.set mkI z3X h 0 rfl hm z0O rfl fun s w hm h => ?_
 refine MpS.set mkI z3X h 0 rfl hm z0O rfl fun s w hm h => ?_
 refine MpS.set mkI z3X h 0 rfl hm z0M rfl fun s w hm h => ?_
 refine MpS.set mkI z3X h 0 rfl hm z1V rfl fun s w hm h => ?_
 refine MpS.set mkI z3X h 0 rfl hm z2j rfl fun s w hm h => ?_
 refine MpS.set mkI z3X h 0 rfl hm z1W rfl fun s w hm h => ?_
 refine MpS.set mkI z3X h 0 rfl hm z2i rfl fun s w hm h => ?_
 have hm : MpS KI (mV b) r doM s := hm
 dsimp only [setN] at h
 (refine ldC h ?_)
 refine zgR ⟨.func f, #[.pointer (some ⟨b, 0, none⟩)], #[]⟩ ?_ ?_
 ·rw [MpS.get_run mkI z3X (zfun w) h 0 rfl hm false, hf]; rfl
 (refine laC h ?_)
 exact zc3 (hh s _ w h) fun x w hk => ⟨x, rfl, hk⟩
theorem zfS (h : St w0 E w) (i : Nat) {b : Nat} {a : ASys} {s : Seg} (hi : nth E i = some s) (hs : SysS b a s) {e : AEv} (hb : chkEv e = 0) (hn : e.kind = 12 ∨ e.kind = 13 → RevN e.name) (rd : RdE w0 E eT e.v e.r.ts) (hvc : e.v.len ≤ e.v.cap) (hrv : ∀ t ∈ e.r.ts, revOk t.1)
  {f : FuncId} (hf : mget doM e.kind = some f) {r : ASys × List ByteArray} {F : (Value → PT) → PT} (hE : Enters Pr f) (hC : ∀ {K : Value → PT} {w : World}, F K w → Calls Pr f (#[.pointer (some ⟨b, 0, none⟩)] ++ [evV e].toArray ++ #[]) w fun e w' => ∃ v, e = .returned v ∧ K v w')
  (hh : ∀ {E2 : List Seg} {i2 : Nat} {w : World} {k : Sl → PT}, St w0 E2 w → nth E2 i2 = some s → (∀ w, St w0 (delN E2 i2) w → St w0 (delN E i) w) → Hk w0 E2 i2 b r k → F (slK k) w) {k : Sl → PT} (hk : Hk w0 E i b r k) :
  L.call Pr z0f [.pointer (some ⟨b, 0, none⟩), evV e] (.one (.one .slice)) k w := by
 refine S_do h hb hn rd hvc hrv hf fun s1 s2 w h => ?_
 refine z7E (F := F) hE hC ?_
 exact hh (E2 := s1 :: s2 :: E) (i2 := i + 2) h hi (fun w h => dl0_ (dl0_ h)) fun v sv s' w' r hs h => hk v sv s' w' r hs (dl1_ (dl1_ h))
end Go.Proofs.YtmbidnhdfdnihaaGreatDoor
namespace Go.Proofs.YtmbidnhdfdnihaaGreatDoor
open Go.Dm
attribute [local irreducible] L.load L.store L.chk L.new L.nonnil L.guard L.ite L.draw L.idx L.sem L.semR L.semU L.chkSem L.next L.call L.callV L.join L.alts L.loop L.begin L.endRound L.range
variable {w0 w : World} {E : List Seg}
theorem z4k {p0 p1 : Int} (h : 0 < p1) (hp : p1 ≤ 2147483648) {k : Int → PT} (hk : k (p0 % p1) w) : L.call Pr z0w [I p0, I p1] (.one (.one (.int .i64))) k w := by
 refine z04 (z5Y p0 p1) ?_
 unfold z3J
 refine gd (by omega) ?_
 have h1 := Int.emod_nonneg p0 (by omega : p1 ≠ 0)
 have h2 := Int.emod_lt_of_pos p0 h
 have e := z7F p0 p1 h
 refine z4a (fun z w' => z.1 = p0 % p1 ∧ w' = w) (fun k' hk' => ?_) (fun y w' ⟨h1, h2⟩ => by subst h2; exact ⟨_, rfl, by rw [h1]; exact hk⟩)
 refine it (fun hb => ?_) (fun hb => ?_) <;> (try simp only [zB] at hb)
 ·refine hk' _ _ ⟨?_, rfl⟩
  rw [e] at hb
  dsimp only
  rw [e]
  split at hb <;> rename_i hc
  ·omega
  ·rw [if_neg hc, wr] <;> omega
 ·refine hk' _ _ ⟨?_, rfl⟩
  rw [e] at hb
  dsimp only
  rw [e]
  split at hb <;> rename_i hc
  ·rw [if_pos hc]
  ·omega
def lname (n : Int) : ByteArray := ([z0z, zbG, zbH][(n % 3).toNat]?).getD s_
def lcfg (c : Cfg) (n : Int) : Cfg := (lname n, c.2.1 % 256, 1 + c.2.2.1 % 8, c.2.2.2.1 % (1 + c.2.2.2.2.1 % 10 + 1), 1 + c.2.2.2.2.1 % 10, c.2.2.2.2.2.1 % 31, ())
theorem zdr (h : St w0 E w) {c : Cfg} {n : Int} {k : eCfg.T → PT} (hk : ∀ w', St w0 E w' → k (lcfg c n) w') : L.call Pr z2u [.agg (Cfg.cells c).toArray, I n] (.one eCfg) k w := by
 refine z04 (z5Z c n) ?_
 unfold z3K
 refine nw h ?_; clear h; (try clear w); intro b1 w h
 refine nw h ?_; clear h; (try clear w); intro b2 w h
 refine nw h ?_; clear h; (try clear w); intro b3 w h
 refine z4k (by decide) (by decide) ?_
 have h1 := Int.emod_nonneg n (by decide : (3 : Int) ≠ 0)
 have h2 := Int.emod_lt_of_pos n (by decide : (0 : Int) < 3)
 have hr : Rw eS z02 1 ⟨some ⟨b3, 0, none⟩, 3, 3⟩ [z0z, zbG, zbH] [Cl b3 z02 [.string z0z, .string zbG, .string zbH]] := Rw.lit b3 _ encS rfl rfl (by simp [maxLen])
 have hx : [z0z, zbG, zbH][(n % 3).toNat]? = some (lname n) := by
  unfold lname
  have : (n % 3).toNat < 3 := by omega
  rw [List.getElem?_eq_getElem (by simpa using this)]; rfl
 refine Rw.ix (v := ⟨some ⟨b3, 0, none⟩, 3, 3⟩) (l := [z0z, zbG, zbH]) encS hr h1 (show (n % 3).toNat < 3 by omega) fun a ha => ?_
 refine Rw.ld0 encS h 0 rfl hr ha hx rfl rfl ?_
 (refine stC h ?_; clear h; (try clear w); intro w h; dsimp only [putN, setN] at h; refine ldC h ?_)
 refine z4k (by decide) (by decide) ?_
 (refine stC h ?_; clear h; (try clear w); intro w h; dsimp only [putN, setN] at h; refine ldC h ?_)
 refine z4k (by decide) (by decide) ?_
 rw [wr (by omega) (by omega)]
 (refine stC h ?_; clear h; (try clear w); intro w h; dsimp only [putN, setN] at h; refine ldC h ?_)
 refine z4k (by decide) (by decide) ?_
 rw [wr (by omega) (by omega)]
 (refine stC h ?_; clear h; (try clear w); intro w h; dsimp only [putN, setN] at h; refine ldC h ?_; refine ldC h ?_)
 rw [wr (by omega) (by omega)]
 refine z4k (by omega) (by omega) ?_
 (refine stC h ?_; clear h; (try clear w); intro w h; dsimp only [putN, setN] at h; refine ldC h ?_)
 refine z4k (by decide) (by decide) ?_
 (refine stC h ?_; clear h; (try clear w); intro w h; dsimp only [putN, setN] at h; refine laC h ?_; refine stC h ?_; clear h; (try clear w); intro w h; dsimp only [putN, setN] at h; refine laC h ?_)
 exact ⟨lcfg c n, rfl, hk w (dl0_ (dl0_ (dl0_ h)))⟩
theorem ze7 (n : Int) : shortB (lname n).data.toList 16 = true := by
 have h1 := Int.emod_nonneg n (by decide : (3 : Int) ≠ 0)
 have h2 := Int.emod_lt_of_pos n (by decide : (0 : Int) < 3)
 unfold lname
 have : (n % 3).toNat = 0 ∨ (n % 3).toNat = 1 ∨ (n % 3).toNat = 2 := by omega
 rcases this with h | h | h <;> rw [h] <;> decide
theorem ze8 {nm : ByteArray} (im co mi ma gr : Int) : cfgNum (nm, im % 256, 1 + co % 8, mi % (1 + ma % 10 + 1), 1 + ma % 10, gr % 31, ()) = true := by
 have h1 := Int.emod_nonneg mi (show 1 + ma % 10 + 1 ≠ 0 by omega)
 have h2 := Int.emod_lt_of_pos mi (show 0 < 1 + ma % 10 + 1 by omega)
 have e : cfgNum (nm, im % 256, 1 + co % 8, mi % (1 + ma % 10 + 1), 1 + ma % 10, gr % 31, ()) = (decide (0 ≤ im % 256 ∧ im % 256 ≤ 255) && (decide (1 ≤ 1 + co % 8 ∧ 1 + co % 8 ≤ 8) && (decide (1 ≤ 1 + ma % 10 ∧ 1 + ma % 10 ≤ 10) && (decide (0 ≤ mi % (1 + ma % 10 + 1) ∧ mi % (1 + ma % 10 + 1) ≤ 1 + ma % 10) && decide (0 ≤ gr % 31 ∧ gr % 31 ≤ 30))))) := rfl
 rw [e]
 simp only [Bool.and_eq_true, decide_eq_true_eq]
 omega
theorem zfu (c : Cfg) (n : Int) : specC (lcfg c n) = 0 := by
 unfold specC
 rw [if_pos (show shortB (lcfg c n).1.data.toList 16 = true from ze7 n), if_pos]
 exact ze8 c.2.1 c.2.2.1 c.2.2.2.1 c.2.2.2.2.1 c.2.2.2.2.2.1
def newSys (room line pat : Int) : ASys := ⟨⟨[], [], 0⟩, ⟨[], []⟩, [], ⟨room, 0, []⟩, ⟨[], [], line, pat⟩, [], 0⟩
theorem z5S {n a b : Int} {k : Bool → PT} (hk : k (wiB n a b) w) : L.call Pr z1a [I n, I a, I b] (.one (.one .bool)) k w := by
 refine z04 (z5V n a b) ?_
 unfold z3F
 unfold wiB at hk
 refine it (fun h1 => ?_) (fun h1 => ?_)
 ·have h1 : decide (a ≤ n) = true := h1
  rw [h1] at hk
  exact ⟨_, rfl, hk⟩
 ·have h1 : decide (a ≤ n) = false := h1
  rw [h1] at hk
  exact ⟨_, rfl, hk⟩
def newOk (room line pat : Int) : Bool := wiB room 1 30 && (wiB line 0 8 && wiB pat 1 50)
theorem zbt (h : St w0 E w) {room line pat : Int} {k : Option Addr × Int × Unit → PT} (h0 : newOk room line pat = false → ∀ w', St w0 E w' → k (none, 2, ()) w')
  (h1 : newOk room line pat = true → ∀ b s w', SysS b (newSys room line pat) s → St w0 (s :: E) w' → k (some ⟨b, 0, none⟩, 0, ()) w') : L.call Pr z3Z [I room, I line, I pat] (.tup [.one .ptr, .one (.int .i64)]) k w := by
 refine z04 (zad _ _ _) ?_
 unfold z74
 unfold newOk at h0 h1
 refine z5S ?_
 cases c1 : wiB room 1 30 with
 | false => exact itT rfl ⟨(none, 2, ()), rfl, h0 (by rw [c1]; rfl) w h⟩
 | true =>
 refine itF rfl ?_
 refine z5S ?_
 cases c2 : wiB line 0 8 with
 | false => exact itT rfl ⟨(none, 2, ()), rfl, h0 (by rw [c1, c2]; rfl) w h⟩
 | true =>
 refine itF rfl ?_
 refine z5S ?_
 cases c3 : wiB pat 1 50 with
 | false => exact itT rfl ⟨(none, 2, ()), rfl, h0 (by rw [c1, c2, c3]; rfl) w h⟩
 | true =>
 refine itF rfl ?_
 have hl : 0 ≤ line ∧ line ≤ 8 := by unfold wiB at c2; simpa using c2
 refine zgG h fun bf sf w hF h => ?_
 refine zfE h fun bs ss w hS h => ?_
 refine zfU h fun bk sk w hK h => ?_
 refine zfG h fun br sr w hR h => ?_
 refine zgE h (bf := bf) hl.1 (by omega) fun bg sg w hG h => ?_
 refine MpS.new h Value.string Value.pointer fun r sm w hm h => ?_
 refine nw h ?_; clear h; (try clear w); intro b w h
 have h : St w0 (sysC b ⟨bs, bk, br, bf, bg, r⟩ 0 :: sm :: sg :: sr :: sk :: ss :: sf :: E) w := h
 refine ⟨(some ⟨b, 0, none⟩, 0, ()), rfl, h1 (by rw [c1, c2, c3]; rfl) b _ w ⟨⟨bs, bk, br, bf, bg, r⟩, sg, sf, ss, sk, sr, sm, [], ⟨hG, hF, hS, hK, hR, hm, by simp, rfl⟩, rfl⟩ ?_⟩
 have h := fr6_ (fr6_ (fr6_ (fr5_ (fr4_ (fr3_ (fr1_ h))))))
 have h : St w0 (sysC b ⟨bs, bk, br, bf, bg, r⟩ 0 :: sg :: sf :: ss :: sk :: sr :: sm :: (([] : List BsE).map BsE.sg).flatten :: E) w := h.eq (by simp)
 exact h.glue8
theorem zex (h : St w0 E w) (i : Nat) {b : Nat} {a : ASys} {s : Seg} (hi : nth E i = some s) (hs : SysS b a s) {k : Int → PT} (hk : k a.now w) : L.call Pr z2t [.pointer (some ⟨b, 0, none⟩)] (.one (.one (.int .i64))) k w := by
 obtain ⟨p, sg, sf, ss, sk, sr, sm, Q, R, rfl⟩ := hs
 refine z04 (z5W _) ?_
 unfold z3G
 have h := (h.front i hi).split8
 (refine nn ?_; refine ldC h ?_)
 exact ⟨_, rfl, hk⟩
theorem zc9 {p0 p1 : Int} (h : 0 < p1) (hp : p1 ≤ 2147483648) {k : Int → PT} (hk : k (p0 % p1) w) : L.call Pr z2m [I p0, I p1] (.one (.one (.int .i64))) k w := by
 refine z04 (z5v p0 p1) ?_
 unfold z3e
 refine gd (by omega) ?_
 have h1 := Int.emod_nonneg p0 (by omega : p1 ≠ 0)
 have h2 := Int.emod_lt_of_pos p0 h
 have e := z7F p0 p1 h
 refine z4a (fun z w' => z.1 = p0 % p1 ∧ w' = w) (fun k' hk' => ?_) (fun y w' ⟨h1, h2⟩ => by subst h2; exact ⟨_, rfl, by rw [h1]; exact hk⟩)
 refine it (fun hb => ?_) (fun hb => ?_) <;> (try simp only [zB] at hb)
 ·refine hk' _ _ ⟨?_, rfl⟩
  rw [e] at hb
  dsimp only
  rw [e]
  split at hb <;> rename_i hc
  ·omega
  ·rw [if_neg hc, wr] <;> omega
 ·refine hk' _ _ ⟨?_, rfl⟩
  rw [e] at hb
  dsimp only
  rw [e]
  split at hb <;> rename_i hc
  ·rw [if_pos hc]
  ·omega
def noRt15 : ARt := ⟨s_, s_, [], 0⟩
abbrev noSl : Sl := ⟨none, 0, 0⟩
theorem zeB [bTab w0] (h : St w0 E w) (i : Nat) {b : Nat} {a : ASys} {s : Seg} (hi : nth E i = some s) (hs : SysS b a s) {e : AEv} (hkd : e.kind = 9) (hb : chkEv e = 0) (rd : RdE w0 E eT e.v e.r.ts) (hvc : e.v.len ≤ e.v.cap) (hrv : ∀ t ∈ e.r.ts, revOk t.1)
  (hnow : 0 ≤ a.now) (hwk : GWk a.gt) (hfl : (tkG a).2.length < 90000000) (hf : ∀ f ∈ (tkG a).2, f.Ok)
  (hby : ∀ rev ∈ bkAll a.bk, (mget a.by' rev).isSome = true) (hxs : ∀ x ∈ a.by', x.2.xs.length < 1000000000) (hfb : a.bk.all.length < 1000000) {k : Sl → PT} (hk : Hk w0 E i b (sysTick a) k) :
  L.call Pr z0f [.pointer (some ⟨b, 0, none⟩), evV e] (.one (.one .slice)) k w :=
 zfS h i hi hs hb (fun hh => by omega) rd hvc hrv (f := z0M) (by rw [hkd]; rfl) z5p (z5s (some ⟨b, 0, none⟩) e.t)
  (fun h hi _ hk => zdm h _ hi hs hnow hwk hfl hf hby hxs hfb hk) hk
abbrev evT0 (kind : Int) : AEv := ⟨kind, s_, s_, 0, 0, noCfg, noRt15, noSl⟩
theorem chk0 : chkEv (evT0 0) = 12 := by decide
theorem chk9 : chkEv (evT0 9) = 0 := by decide +kernel
theorem zaT : (tkG (newSys 3 2 5)).2 = [] := by decide +kernel
theorem zfv : GWk (newSys 3 2 5).gt := fun x hx => by cases hx
theorem zds [bTab w0] (h : St w0 E w) {k : Bool → PT} (hk : ∀ w', St w0 E w' → k true w') : L.call Pr z2v [] (.one (.one .bool)) k w := by
 refine z04 z60 ?_
 unfold z3L
 refine zbt h (fun hh => absurd hh (by decide)) fun _ b s w hs h => ?_
 refine itF rfl (itF rfl ?_)
 refine zfT (e := evT0 0) h (by rw [chk0]; decide) (fun hh => by rcases hh with hh | hh <;> cases hh) (fun _ _ => Rd.nil) (by decide) (by simp [noRt15]) fun v2 s2 w r2 h => ?_
 refine zeB h 1 rfl hs (e := evT0 9) rfl chk9 (fun _ _ => Rd.nil) (by decide) (by simp [noRt15]) (by decide) zfv (by rw [zaT]; decide) (by rw [zaT]; simp) (by simp [newSys, bkAll, zcw]) (by simp [newSys]) (by decide) fun v3 s3 s' w r3 hs h => ?_
 have e2 : [lineB zcL [errB (chkEv (evT0 0))]] = [s_bad_kind] := by decide +kernel
 have e3 : (sysTick (newSys 3 2 5)).2 = [s_tick_1] := by decide +kernel
 have e4 : (sysTick (newSys 3 2 5)).1.now = 1 := by decide +kernel
 rw [e2] at r2
 rw [e3] at r3
 have l2 := Rw.len encS r2
 have l3 := Rw.len encS r3
 refine itT (by rw [l2]; rfl) ?_
 refine Rw.ix encS r2 (by decide) (by decide) fun a ha => ?_
 refine Rw.ld0 encS h 1 rfl r2 ha (x := s_bad_kind) rfl rfl rfl ?_
 refine itT (by rw [z4c]; decide) ?_
 refine itT (by rw [l3]; rfl) ?_
 refine Rw.ix encS r3 (by decide) (by decide) fun a ha => ?_
 refine Rw.ld0 encS h 0 rfl r3 ha (x := s_tick_1) rfl rfl rfl ?_
 refine itT (by rw [z4c]; decide) ?_
 refine zex h 2 rfl hs ?_
 rw [e4]
 exact ⟨true, rfl, hk w (dl0_ (dl0_ (dl0_ h)))⟩
theorem zcc [bTab w0] (h : St w0 E w) (i : Nat) {b : Nat} {a : ASys} {s : Seg} (hi : nth E i = some s) (hs : SysS b a s) {e : AEv} (hkd : e.kind = 1) (hb : chkEv e = 0) (rd : RdE w0 E eT e.v e.r.ts) (hvc : e.v.len ≤ e.v.cap) (hrv : ∀ t ∈ e.r.ts, revOk t.1)
  (hn : a.sh.n < 900000000) (hsz : e.c.1.size ≤ 1000000) {k : Sl → PT} (hk : Hk w0 E i b (sysConfig a e) k) : L.call Pr z0f [.pointer (some ⟨b, 0, none⟩), evV e] (.one (.one .slice)) k w :=
 zfS h i hi hs hb (fun hh => by omega) rd hvc hrv (f := z0F) (by rw [hkd]; rfl) z4Q (z4R (some ⟨b, 0, none⟩) e.t) (fun h hi _ hk => zaK h _ hi hs hn hsz hk) hk
end Go.Proofs.YtmbidnhdfdnihaaGreatDoor
namespace Go.Proofs.YtmbidnhdfdnihaaGreatDoor
open Go.Dm
abbrev idB (x : Int) : Prop := 0 ≤ x ∧ x ≤ 2147483647
structure FlI (k : Nat) (F : AFleet) : Prop where
 few : FFew F
 r1 : 1 ≤ F.room
 last : F.last ≤ 20 * (k : Int)
 rev : ∀ x ∈ F.l, RevN x.rev
 req : ∀ x ∈ F.l, ∀ q ∈ x.pod.reqs, idB q
theorem FlI.mono {k m : Nat} {F : AFleet} (h : FlI k F) (hm : k ≤ m) : FlI m F := ⟨h.few, h.r1, by have := h.last; omega, h.rev, h.req⟩
theorem FlI.upd {k : Nat} {F : AFleet} (h : FlI k F) {id : Int} {g : APod → APod} (hf : FFew { F with l := fUpd F.l id g }) (hg : ∀ x ∈ F.l, x.id = id → ∀ q ∈ (g x.pod).reqs, idB q) : FlI k { F with l := fUpd F.l id g } :=
 ⟨hf, h.r1, h.last, fun y hy => by
  rcases z98 hy with hy | ⟨x, hx, _, rfl⟩
  ·exact h.rev y hy
  ·exact h.rev x hx, fun y hy => by
  rcases z98 hy with hy | ⟨x, hx, hid, rfl⟩
  ·exact h.req y hy
  ·exact hg x hx hid⟩
theorem zav {p : APod} {q z : Int} (h : z ∈ (podTake p q).1.reqs) : z ∈ p.reqs ∨ z = q := by
 unfold podTake at h
 split at h
 ·exact .inl h
 ·split at h
  ·exact .inl h
  ·split at h
   ·exact .inl h
   ·rcases List.mem_cons.1 ((z7T q p.reqs).mem_iff.1 h) with e | e
    ·exact .inr e
    ·exact .inl e
theorem zax {p : APod} {z : Int} (h : z ∈ (podKill p).1.reqs) : z ∈ p.reqs := by
 unfold podKill at h
 split at h
 ·exact h
 ·cases h
theorem zay (p : APod) : (podDrain p).1.reqs = p.reqs := by unfold podDrain; split <;> rfl
theorem FlI.take {k : Nat} {F : AFleet} (h : FlI k F) (rev : ByteArray) {q : Int} (hq : idB q) : FlI k (fTake F rev q).1 := by
 have hf := h.few.take rev q
 unfold fTake at hf ⊢
 split
 ·exact h
 ·rename_i h1
  rw [if_neg h1] at hf
  split
  ·exact h
  ·rename_i x hx
   rw [hx] at hf
   exact h.upd hf fun y hy _ z hz => by
    rcases zav hz with e | rfl
    ·exact h.req y hy z e
    ·exact hq
theorem FlI.kill {k : Nat} {F : AFleet} (h : FlI k F) (id : Int) : FlI k (fKill F id).1 := by
 have hf := h.few.kill id
 unfold fKill at hf ⊢
 split
 ·exact h
 ·rename_i x hx
  rw [hx] at hf
  exact h.upd hf fun y hy _ z hz => h.req y hy z (zax hz)
theorem FlI.drain {k : Nat} {F : AFleet} (h : FlI k F) (rev : ByteArray) : FlI k (drain1 rev F) :=
 h.upd (h.few.drain rev) fun y hy _ z hz => h.req y hy z (by rwa [zay] at hz)
theorem FlI.shrink (rev : ByteArray) : ∀ (n : Nat) {k : Nat} {F : AFleet}, FlI k F → FlI k (YtmbidnhdfdnihaaGreatDoor.shrink rev n F).1
 | 0, _, _, h => h
 | n + 1, _, _, h => FlI.shrink rev n (h.drain rev)
theorem zcU {κ υ : Type} [DecidableEq κ] (m : List (κ × υ)) (a b : κ) (u : υ) (h : (mget m b).isSome = true) : (mget (mset m a u) b).isSome = true := by
 rw [z52]; split
 ·rfl
 ·exact h
structure GtI (k : Nat) (G : AGate) : Prop where
 all : G.all.length ≤ 2000 * k
 ids : ∀ x ∈ G.all, idB x.1
 lines : G.lines.length ≤ k
 lid : ∀ x ∈ G.lines, ∀ y ∈ x.2, idB y.1
 wk : GWk G
 pat : 1 ≤ G.pat ∧ G.pat ≤ 1000
 room : 0 ≤ G.room ∧ G.room ≤ 8
theorem GtI.mono {k m : Nat} {G : AGate} (h : GtI k G) (hm : k ≤ m) : GtI m G := ⟨by have := h.all; omega, h.ids, by have := h.lines; omega, h.lid, h.wk, h.pat, h.room⟩
theorem GtI.line {k : Nat} {G : AGate} (h : GtI k G) (rev : ByteArray) : ∀ y ∈ lineOf G.lines rev, idB y.1 := fun y hy => by
 unfold lineOf at hy
 cases hg : mget G.lines rev with
 | none => rw [hg] at hy; cases hy
 | some l => rw [hg] at hy; exact h.lid _ (z4y hg) y hy
theorem GtI.turn {k m : Nat} {G : AGate} (h : GtI k G) {all : Alls} {rev : ByteArray} {l : List (Int × Int)} (hm : k + 1 ≤ m) (hl : all.length ≤ 2000 * m) (hi : ∀ x ∈ all, idB x.1) (hs : ∀ q, (mget G.all q).isSome = true → (mget all q).isSome = true)
  (h1 : ∀ y ∈ l, idB y.1) (h2 : ∀ y ∈ l, (mget all y.1).isSome = true) : GtI m { G with all := all, lines := mset G.lines rev l } := by
 have := h.lines
 have := z92 G.lines rev l
 refine ⟨hl, hi, by dsimp only; omega, fun x hx y hy => ?_, fun x hx y hy => ?_, h.pat, h.room⟩
 ·rcases z2H hx with rfl | hx
  ·exact h1 y hy
  ·exact h.lid x hx y hy
 ·rcases z2H hx with rfl | hx
  ·exact h2 y hy
  ·exact hs _ (h.wk x hx y hy)
theorem GtI.req {k m : Nat} {G : AGate} (h : GtI k G) {all : Alls} (hm : k ≤ m) (hl : all.length ≤ 2000 * m) (hi : ∀ x ∈ all, idB x.1) (hs : ∀ q, (mget G.all q).isSome = true → (mget all q).isSome = true) : GtI m { G with all := all } :=
 ⟨hl, hi, by have := h.lines; dsimp only; omega, h.lid, fun x hx y hy => hs _ (h.wk x hx y hy), h.pat, h.room⟩
theorem ze6 {all : Alls} {id : Int} {x : ByteArray × Int} (h : ∀ x ∈ all, idB x.1) (hi : idB id) : ∀ y ∈ mset all id x, idB y.1 := fun y hy => by
 rcases z2H hy with rfl | hy
 ·exact hi
 ·exact h y hy
theorem z9 : (0 : Int) ≤ 0 ∧ (0 : Int) ≤ 9000000000000000000 := ⟨by decide, by decide⟩
theorem z9O {rev : ByteArray} : ∀ {l : List Int} {all : Alls}, (∀ x ∈ all, idB x.1) → (∀ x ∈ l, idB x) → ∀ x ∈ lateS rev l all, idB x.1
 | [], _, h, _ => h
 | x :: l, all, h, hx => z9O (l := l) (ze6 h (hx x (by simp))) fun y hy => hx y (by simp [hy])
theorem ze9 {l : List (Int × Int)} {now q : Int} (h : q ∈ lLate l now) : ∃ y ∈ l, y.1 = q := by
 unfold lLate at h
 obtain ⟨y, hy, e⟩ := List.mem_map.1 h
 exact ⟨y, (List.mem_filter.1 hy).1, e⟩
structure TkI (m n : Nat) (G : AGate) : Prop where
 all : G.all.length ≤ m
 ids : ∀ x ∈ G.all, idB x.1
 lines : G.lines.length ≤ n
 lid : ∀ x ∈ G.lines, ∀ y ∈ x.2, idB y.1
 wk : GWk G
 ok : G.Ok
theorem TkI.line {m n : Nat} {G : AGate} (h : TkI m n G) (rev : ByteArray) : ∀ y ∈ lineOf G.lines rev, idB y.1 := fun y hy => by
 unfold lineOf at hy
 cases hg : mget G.lines rev with
 | none => rw [hg] at hy; cases hy
 | some l => rw [hg] at hy; exact h.lid _ (z4y hg) y hy
theorem TkI.tick1 {m n : Nat} {G : AGate} (h : TkI m n G) {k : ByteArray} (hk : (mget G.lines k).isSome = true) (now : Int) : TkI m n (YtmbidnhdfdnihaaGreatDoor.tick1 now k G) := by
 refine ⟨?_, ?_, ?_, ?_, h.wk.tick1 k now, h.ok.tick1 h.wk hk now⟩
 ·have := congrArg List.length (z5j (rev := k) (l := lLate (lineOf G.lines k) now) (all := G.all) (h.wk.late k now))
  simp only [List.length_map] at this
  have := h.all
  unfold YtmbidnhdfdnihaaGreatDoor.tick1; dsimp only; omega
 ·refine z9O h.ids fun q hq => ?_
  obtain ⟨y, hy, rfl⟩ := ze9 hq
  exact h.line k y hy
 ·have := congrArg List.length (zal (G := G) hk now)
  simp only [List.length_map] at this
  have := h.lines
  omega
 ·intro x hx y hy
  rcases z2H hx with rfl | hx
  ·exact h.line k y (List.mem_filter.1 hy).1
  ·exact h.lid x hx y hy
structure ShI (k : Nat) (a : AShelf) : Prop where
 n : a.n ≤ k
 few : a.Few
 cfg : ∀ n, (tget a.m n).is = true → (cfgOf (tget a.m n)).1 = n ∧ specC (cfgOf (tget a.m n)) = 0 ∧ 1 ≤ (tget a.m n).gen
 rt : ∀ n, (rget a.r n).is = true → (rget a.r n).r.name = n ∧ specE (rget a.r n).r = 0
theorem ShI.mono {k m : Nat} {a : AShelf} (h : ShI k a) (hm : k ≤ m) : ShI m a := ⟨by have := h.n; omega, h.few, h.cfg, h.rt⟩
theorem zcD {k : Nat} {a : AShelf} (ok : a.Ok) (h : ShI k a) (c : Cfg) (ver : Int) : ShI (k + 1) (shPut a c ver).1 := by
 have hf := zcE h.few c ver
 unfold shPut at hf ⊢
 split
 ·exact h.mono (Nat.le_succ k)
 ·rename_i h1
  rw [if_neg h1] at hf
  split
  ·exact h.mono (Nat.le_succ k)
  ·rename_i h2
   rw [if_neg h2] at hf
   have hn := h.n
   refine ⟨by dsimp only; omega, hf, fun n hn2 => ?_, h.rt⟩
   dsimp only [putC] at hn2 ⊢
   rw [z7y] at hn2 ⊢
   split
   ·rename_i e
    have h1' : specC c = 0 := by simpa using h1
    refine ⟨e, h1', ?_⟩
    have h3 := ok.gen c.1
    show (1 : Int) ≤ (if (tget a.m c.1).is = true ∧ sameC (cfgOf (tget a.m c.1)) c = true then (tget a.m c.1).gen else (tget a.m c.1).gen + 1)
    split
    ·rename_i h4; exact (h.cfg c.1 h4.1).2.2
    ·omega
   ·rename_i e; rw [if_neg e] at hn2; exact h.cfg n hn2
theorem zbz {k : Nat} {a : AShelf} (h : ShI k a) (kind : Int) (n : ByteArray) (ver : Int) : ShI (k + 1) (shDrop a kind n ver).1 := by
 have hf := zbA h.few kind n ver
 have hn := h.n
 unfold shDrop at hf ⊢
 split
 ·rename_i h1
  rw [if_pos h1] at hf
  split
  ·rename_i h2
   rw [if_pos h2] at hf
   refine ⟨by dsimp only; omega, hf, fun x hx => ?_, h.rt⟩
   dsimp only [dropC] at hx ⊢
   rw [z7y] at hx ⊢
   split
   ·rename_i e; rw [if_pos e] at hx; cases hx
   ·rename_i e; rw [if_neg e] at hx; exact h.cfg x hx
  ·exact h.mono (Nat.le_succ k)
 ·rename_i h0
  rw [if_neg h0] at hf
  split
  ·rename_i h1
   rw [if_pos h1] at hf
   split
   ·rename_i h2
    rw [if_pos h2] at hf
    refine ⟨by dsimp only; omega, hf, h.cfg, fun x hx => ?_⟩
    dsimp only [dropRt] at hx ⊢
    rw [zdO] at hx ⊢
    split
    ·rename_i e; rw [if_pos e] at hx; cases hx
    ·rename_i e; rw [if_neg e] at hx; exact h.rt x hx
   ·exact h.mono (Nat.le_succ k)
  ·exact h.mono (Nat.le_succ k)
theorem zcy {c : Cfg} (h : specC c = 0) : shortB c.1.data.toList 16 = true ∧ (0 ≤ @id Int c.2.1 ∧ @id Int c.2.1 ≤ 255) ∧ (1 ≤ @id Int c.2.2.1 ∧ @id Int c.2.2.1 ≤ 8) ∧ (1 ≤ @id Int c.2.2.2.2.1 ∧ @id Int c.2.2.2.2.1 ≤ 10) ∧ (0 ≤ @id Int c.2.2.2.1 ∧ @id Int c.2.2.2.1 ≤ @id Int c.2.2.2.2.1) ∧ (0 ≤ @id Int c.2.2.2.2.2.1 ∧ @id Int c.2.2.2.2.2.1 ≤ 30) := by
 unfold specC at h
 split at h
 ·rename_i h1
  split at h
  ·rename_i h2
   unfold cfgNum at h2
   simp only [Bool.and_eq_true, decide_eq_true_eq] at h2
   exact ⟨h1, h2.1, h2.2.1, h2.2.2.1, h2.2.2.2.1, h2.2.2.2.2⟩
  ·cases h
 ·cases h
structure BkI (k : Nat) (a : ABook) : Prop where
 len : a.all.length ≤ k
 rev : ∀ p ∈ a.all, RevN p.1
 cfg : ∀ p ∈ a.all, specC p.2.cfg = 0
theorem BkI.mono {k m : Nat} {a : ABook} (h : BkI k a) (hm : k ≤ m) : BkI m a := ⟨by have := h.len; omega, h.rev, h.cfg⟩
theorem RevN.size {n : ByteArray} (h : RevN n) : n.size ≤ 100 := by
 obtain ⟨c, g, hc, -, hg, rfl⟩ := h
 have := z7z c hg
 unfold shortB at hc
 simp only [Bool.and_eq_true, decide_eq_true_eq] at hc
 have h2 : (c.data.toList.length : Int) ≤ 16 := hc.2
 have h3 : c.data.toList.length = c.size := by rw [Array.length_toList]; rfl
 omega
theorem zdh {a : ABook} {rev : ByteArray} (h : bkHas a rev = true) : (rev, bkGet a rev) ∈ a.all := by
 unfold bkHas at h
 unfold bkGet
 cases h2 : mget a.all rev with
 | none => rw [h2] at h; cases h
 | some v => exact z4y h2
theorem BkI.size {k : Nat} {a : ABook} (h : BkI k a) {rev : ByteArray} (hr : bkHas a rev = true) : rev.size ≤ 100 := (h.rev _ (zdh hr)).size
structure ByI (k : Nat) (bk : ABook) (m : List (ByteArray × ABes)) : Prop where
 has : ∀ p ∈ bk.all, (mget m p.1).isSome = true
 xs : ∀ x ∈ m, x.2.xs.length ≤ k
 rng : ∀ x ∈ m, ∀ y ∈ x.2.xs, 0 ≤ y ∧ y ≤ 100000000
 want : ∀ x ∈ m, (0 ≤ x.2.want ∧ x.2.want ≤ 10) ∧ (0 ≤ x.2.left ∧ x.2.left ≤ 1000)
theorem ByI.mono {k m : Nat} {bk : ABook} {b : List (ByteArray × ABes)} (h : ByI k bk b) (hm : k ≤ m) : ByI m bk b := ⟨h.has, fun x hx => by have := h.xs x hx; omega, h.rng, h.want⟩
theorem ByI.set {k : Nat} {bk : ABook} {b : List (ByteArray × ABes)} (h : ByI k bk b) {rev : ByteArray} {x : ABes} (h1 : x.xs.length ≤ k) (h2 : ∀ y ∈ x.xs, 0 ≤ y ∧ y ≤ 100000000) (h3 : (0 ≤ x.want ∧ x.want ≤ 10) ∧ (0 ≤ x.left ∧ x.left ≤ 1000)) : ByI k bk (mset b rev x) :=
 ⟨fun p hp => zcU _ _ _ _ (h.has p hp), fun y hy => by
  rcases z2H hy with rfl | hy
  ·exact h1
  ·exact h.xs y hy, fun y hy => by
  rcases z2H hy with rfl | hy
  ·exact h2
  ·exact h.rng y hy, fun y hy => by
  rcases z2H hy with rfl | hy
  ·exact h3
  ·exact h.want y hy⟩
structure WyI (k : Nat) (a : AWay) : Prop where
 fr : WBd a.fr
 to : WBd a.to
 ns : WBd a.ns
 zf : ∀ s ∈ a.fr, s.1.size ≤ 100
 zt : ∀ s ∈ a.to, s.1.size ≤ 100
 zn : ∀ s ∈ a.ns, s.1.size ≤ 100
 zg : ∀ s ∈ a.ng, s.1.size ≤ 100 ∧ s.2.1.size ≤ 100
 lf : a.fr.length ≤ 6 * k
 lt : a.to.length ≤ 6
 ln : a.ns.length ≤ 6 * k
 lg : a.ng.length ≤ 6
 since : 0 ≤ a.since ∧ a.since ≤ 1048576
abbrev RoI (k : Nat) (m : ARoll) : Prop := ∀ n x, mget m n = some x → WyI k x
theorem WyI.mono {k m : Nat} {a : AWay} (h : WyI k a) (hm : k ≤ m) : WyI m a := ⟨h.fr, h.to, h.ns, h.zf, h.zt, h.zn, h.zg, by have := h.lf; omega, h.lt, by have := h.ln; omega, h.lg, h.since⟩
theorem WyI.ok {k : Nat} {a : AWay} (h : WyI k a) (hk : k ≤ 10000) : a.Ok := ⟨h.fr, h.to, h.ns, by have := h.lf; omega, by have := h.lt; omega, by have := h.ln; omega, by have := h.lg; omega⟩
structure TabI (t : ATab) : Prop where
 w : WBd t.sh
 zs : ∀ s ∈ t.sh, s.1.size ≤ 100
 zg : ∀ s ∈ t.tg, s.1.size ≤ 100 ∧ s.2.1.size ≤ 100
 ls : t.sh.length ≤ 6
 lg : t.tg.length ≤ 6
theorem RoI.del {k : Nat} {m : ARoll} (h : RoI k m) (nd : (m.map (·.1)).Nodup) (n : ByteArray) : RoI k (mdel m n) := by
 intro n' x hx
 rw [z9M n n' nd] at hx
 split at hx
 ·cases hx
 ·exact h n' x hx
structure RgI (j : Nat) (ws : MSI) (ts : MSS) : Prop where
 lw : ws.length ≤ j
 lt : ts.length ≤ j
 zw : ∀ x ∈ ws, x.1.size ≤ 100 ∧ 0 ≤ x.2 ∧ x.2 ≤ 100 * j
 zt : ∀ x ∈ ts, x.1.size ≤ 100 ∧ x.2.size ≤ 100
end Go.Proofs.YtmbidnhdfdnihaaGreatDoor
namespace Go.Proofs.YtmbidnhdfdnihaaGreatDoor
open Go.Dm
attribute [local irreducible] L.load L.store L.chk L.new L.nonnil L.guard L.ite L.draw L.idx L.sem L.semR L.semU L.chkSem L.next L.call L.callV L.join L.alts L.loop L.begin L.endRound L.range
variable {w0 w : World} {E : List Seg}
def sysDrop (a : ASys) (e : AEv) : ASys × List ByteArray :=
 if (shDrop a.sh e.n e.name e.draw).2 ≠ 0 then ({ a with sh := (shDrop a.sh e.n e.name e.draw).1 }, refusedB (shDrop a.sh e.n e.name e.draw).2)
 else ({ a with sh := (shDrop a.sh e.n e.name e.draw).1, ro := if e.n = 2 then mdel a.ro e.name else a.ro }, [lineB z7M [e.name]])
theorem zdn (h : St w0 E w) (i : Nat) {b : Nat} {a : ASys} {s : Seg} (hi : nth E i = some s) (hs : SysS b a s) {e : AEv} (hn : a.sh.n < 900000000) (hsz : e.name.size ≤ 1000000) {k : Sl → PT} (hk : Hk w0 E i b (sysDrop a e) k) :
  z2o (some ⟨b, 0, none⟩) e.t (slK k) w := by
 obtain ⟨p, sg, sf, ss, sk, sr, sm, Q, R, rfl⟩ := hs
 unfold z2o
 unfold sysDrop at hk
 have h := (h.front i hi).split8
 refine nw h ?_; clear h; (try clear w); intro b1 w h
 (dsimp only [setN, List.cons_append, List.nil_append] at h; refine dr h ?_; clear h; (try clear w); intro w h; refine nn ?_; refine ldC h ?_; refine ldC h ?_; refine ldC h ?_; refine ldC h ?_)
 refine zez h 4 rfl R.sh hn fun ss' w hS h => ?_
 dsimp only [setN] at h
 refine it (fun hc => ?_) (fun hc => ?_)
 ·rw [if_pos (by simpa using hc)] at hk
  refine z87 h fun v s w r h => ?_
  exact ⟨v, rfl, hk v s _ w r ⟨p, sg, sf, ss', sk, sr, sm, Q, ⟨R.gt, R.fl, hS, R.bk, R.ro, R.mp, R.ea, R.ab⟩, rfl⟩ (sysBack i hi (dl1_ h))⟩
 rw [if_neg (by simpa using hc)] at hk
 have fin : ∀ {sr' : Seg} {ro' : ARoll} {w : World}, RolS p.r ro' sr' → ro' = (if e.n = 2 then mdel a.ro e.name else a.ro) →
   St w0 ([Cl b1 z17 (eEw e)] :: sysC b p a.now :: sg :: sf :: ss' :: sk :: sr' :: sm :: (Q.map BsE.sg).flatten :: delN E i) w →
   (L.load (.one (.str)) ((⟨b1, 0, none⟩ : Addr).add 1) fun (x16 : ByteArray) =>
    L.new [.string x16] z02 fun b17 =>
    L.call Pr z0i [.string z7M, .slice (some ⟨b17, 0, none⟩) 1 1] (.one (.one (.str))) fun (x18 : ByteArray) =>
    L.new [.string x18] z02 fun b19 => fun w' => ∃ x, Value.slice (some ⟨b19, 0, none⟩) 1 1 = RT.val (.one (.one .slice)) x ∧ k x w') w := by
  intro sr' ro' w hR e2 h
  (refine ldC h ?_)
  refine nw h ?_; clear h; (try clear w); intro b17 w h
  refine lineS1 h (by decide) (by omega) fun w h => ?_
  refine nw h ?_; clear h; (try clear w); intro b19 w h
  refine ⟨⟨some ⟨b19, 0, none⟩, 1, 1⟩, rfl, hk _ _ _ w (Rw.lit b19 [_] encS rfl rfl (by simp [maxLen])) ⟨p, sg, sf, ss', sk, sr', sm, Q, ⟨R.gt, R.fl, hS, R.bk, ?_, R.mp, R.ea, R.ab⟩, rfl⟩ (sysBack i hi (dl1_ h))⟩
  rw [← e2]; exact hR
 refine jd ?_
 (refine ldC h ?_)
 refine it (fun h2 => ?_) (fun h2 => ?_)
 ·(refine dr h ?_; clear h; (try clear w); intro w h; refine nn ?_; refine ldC h ?_; refine ldC h ?_)
  refine zeA h 6 rfl R.ro fun sr' w hR h => ?_
  dsimp only [setN] at h
  exact fin hR (by rw [if_pos (by simpa using h2)]) h
 ·exact fin R.ro (by rw [if_neg (by simpa using h2)]) h
def sysDown (a : ASys) (e : AEv) : ASys × List ByteArray :=
 if (fKill a.fl e.n).2.2 ≠ 0 then ({ a with fl := (fKill a.fl e.n).1 }, refusedB (fKill a.fl e.n).2.2)
 else ({ a with fl := (fKill a.fl e.n).1, gt := (gLost a.gt (fKill a.fl e.n).2.1).1 }, lineB zgb [decD e.n.toNat] :: (gLost a.gt (fKill a.fl e.n).2.1).2.map fateB)
def mn2 (a b : Int) : Int := if b < a then b else a
def mx2 (a b : Int) : Int := if b > a then b else a
def scNeed (s n c : Int) : Int := if n ≤ 0 then 0 else if c ≤ 0 then 0 else (s + n * c - 1) / (n * c)
abbrev scM (ready : Int) : Int := if ready > 1 then ready else 1
def scLeft (left b m : Int) : Int := if b ≥ 2 * m then 6 else if 0 > left - 1 then 0 else left - 1
def scW1 (want left' a b : Int) : Int := if left' > 0 then mx2 (mx2 want a) b else a
def scW2 (w1 want busy idle grace : Int) : Int := if w1 = 0 ∧ (busy > 0 ∨ (want > 0 ∧ idle < grace)) then 1 else w1
def scEnd (w2 ready mi ma : Int) : Int := mn2 (mx2 (mx2 (mn2 w2 (4 * scM ready)) (ready / 2)) mi) ma
def scDec (want left : Int) (c : Cfg) (ready busy st sts sh shs idle : Int) : Int × Int :=
 (scEnd (scW2 (scW1 want (scLeft left (scNeed sh shs c.2.2.1) (scM ready)) (scNeed st sts c.2.2.1) (scNeed sh shs c.2.2.1)) want busy idle c.2.2.2.2.2.1) ready c.2.2.2.1 c.2.2.2.2.1, scLeft left (scNeed sh shs c.2.2.1) (scM ready))
def scOf (a : ASys) (x : ABes) (rev : ByteArray) : Int × Int :=
 scDec x.want x.left (bkGet a.bk rev).2.2 (cnt (fun s => s == 2) (fPods a.fl.l rev)) (busyB a.gt rev) (lastS x.xs (lastN x.xs 6)) (lastN x.xs 6) (lastS x.xs (lastN x.xs 2)) (lastN x.xs 2) (tz x.xs)
def sysScale (a : ASys) (e : AEv) : ASys × List ByteArray :=
 if bkHas a.bk e.name = false then (a, refusedB 6) else match mget a.by' e.name with
 | none => (a, [])
 | some x => ({ a with by' := mset a.by' e.name ⟨x.xs, (scOf a x e.name).1, (scOf a x e.name).2⟩ }, [lineB (lineB zaq [e.name]) [decD (scOf a x e.name).1.toNat]])
end Go.Proofs.YtmbidnhdfdnihaaGreatDoor
namespace Go.Proofs.YtmbidnhdfdnihaaGreatDoor
open Go.Dm
structure SInv (k : Nat) (a : ASys) : Prop where
 fl : FlI k a.fl
 gt : GtI k a.gt
 sh : ShI k a.sh
 bk : BkI k a.bk
 ro : RoI k a.ro
 by' : ByI k a.bk a.by'
 now : 0 ≤ a.now ∧ a.now ≤ 1048576
structure SOk (a : ASys) : Prop where
 fl : a.fl.Ok
 gt : a.gt.Ok
 sh : a.sh.Ok
 bk : a.bk.Ok
 ro : (a.ro.map (·.1)).Nodup
 nd : (a.bk.all.map (·.1)).Nodup
theorem SysS.ok {b : Nat} {a : ASys} {s : Seg} (h : SysS b a s) : SOk a := by
 obtain ⟨p, sg, sf, ss, sk, sr, sm, Q, R, -⟩ := h
 refine ⟨R.fl.1, R.gt.1, R.sh.1, R.bk.1, ?_, ?_⟩
 ·obtain ⟨r, sm, P, Q, hm, -, e, -⟩ := R.ro
  rw [e]
  have := hm.nd
  simpa [List.map_map, Function.comp_def] using this
 ·obtain ⟨-, rA, rP, sA, sP, hA, -⟩ := R.bk
  exact hA.nd
theorem SInv.mono {k m : Nat} {a : ASys} (h : SInv k a) (hm : k ≤ m) : SInv m a := ⟨h.fl.mono hm, h.gt.mono hm, h.sh.mono hm, h.bk.mono hm, fun n x hx => (h.ro n x hx).mono hm, h.by'.mono hm, h.now⟩
theorem zfq {room line pat : Int} (h : newOk room line pat = true) (hr : room ≤ 20) : SInv 0 (newSys room line pat) := by
 unfold newOk wiB at h
 simp only [Bool.and_eq_true, decide_eq_true_eq] at h
 obtain ⟨⟨r1, r2⟩, ⟨l1, l2⟩, p1, p2⟩ := h
 refine ⟨⟨⟨hr, ?_, ?_⟩, r1, Int.le_refl 0, ?_, ?_⟩, ⟨Nat.le_refl _, ?_, Nat.le_refl _, ?_, ?_, ⟨p1, by show pat ≤ 1000; omega⟩, l1, l2⟩, ⟨Int.le_refl 0, ?_, ?_, ?_⟩, ⟨Nat.le_refl _, ?_, ?_⟩, ?_, ⟨?_, ?_, ?_, ?_⟩, Int.le_refl 0, by show (0 : Int) ≤ 1048576; decide⟩
 ·show ((0 : Nat) : Int) ≤ max room 0; omega
 all_goals first | (intro x hx; cases hx; done) | skip
 intro n x h; cases h
def sysDo (a : ASys) (e : AEv) : ASys × List ByteArray :=
 if chkEv e ≠ 0 then (a, [lineB zcL [errB (chkEv e)]])
 else if e.kind = 1 then sysConfig a e else if e.kind = 2 then sysRoute a e else if e.kind = 3 then sysDrop a e else if e.kind = 4 then sysArrive a e else if e.kind = 5 then sysDone a e else if e.kind = 6 then sysUp a e
 else if e.kind = 9 then sysTick a else if e.kind = 10 then sysStamp a e else if e.kind = 11 then sysLead a e else if e.kind = 12 then sysScale a e else if e.kind = 13 then sysPods a e else sysDown a e
theorem zbn {e : AEv} (h : chkEv e = 0) : (shp e.kind).2 = true ∧ chkS (shp e.kind).1 e = 0 := by
 unfold chkEv at h
 split at h
 ·cases h
 ·rename_i h1; exact ⟨by simpa using h1, h⟩
theorem za2 {e : AEv} (h : chkEv e = 0) : ((shp e.kind).1.1 = true → numE e = true) ∧ ((shp e.kind).1.2.1 = true → namedE e = true) ∧ ((shp e.kind).1.2.2.2.1 = true → wiB e.draw 0 2147483647 = true) ∧ ((shp e.kind).1.2.2.2.2.1 = true → specC e.c = 0) ∧ ((shp e.kind).1.2.2.2.2.2.1 = true → (shp e.kind).1.2.2.2.2.1 = false → specE e.r = 0) := by
 have h := (zbn h).2
 generalize (shp e.kind).1 = s at h ⊢
 obtain ⟨s1, s2, s3, s4, s5, s6, ⟨⟩⟩ := s
 unfold chkS at h
 dsimp only at h ⊢
 split at h
 ·cases h
 ·split at h
  ·cases h
  ·rename_i h1
   split at h
   ·cases h
   ·rename_i h2
    split at h
    ·cases h
    ·split at h
     ·cases h
     ·rename_i h3
      refine ⟨fun e1 => ?_, fun e1 => ?_, fun e1 => ?_, fun e1 => ?_, fun e1 e2 => ?_⟩
      ·cases hn : numE e with
       | true => rfl
       | false => exact absurd ⟨e1, hn⟩ h1
      ·cases hn : namedE e with
       | true => rfl
       | false => exact absurd ⟨e1, hn⟩ h2
      ·cases hn : wiB e.draw 0 2147483647 with
       | true => rfl
       | false => exact absurd ⟨e1, hn⟩ h3
      ·rw [if_pos e1] at h; exact h
      ·rw [if_neg (by simp [e2]), if_pos e1] at h; exact h
theorem zbX {e : AEv} (h : chkEv e = 0) : e.kind = 1 ∨ e.kind = 2 ∨ e.kind = 3 ∨ e.kind = 4 ∨ e.kind = 5 ∨ e.kind = 6 ∨ e.kind = 7 ∨ e.kind = 8 ∨ e.kind = 9 ∨ e.kind = 10 ∨ e.kind = 11 ∨ e.kind = 12 ∨ e.kind = 13 := by
 have h := (zbn h).1
 unfold shp at h
 repeat' (split at h)
 all_goals first | omega | (cases h; done)
theorem zes {e : AEv} (h : chkEv e = 0) (hk : e.kind = 3 ∨ e.kind = 4 ∨ e.kind = 10 ∨ e.kind = 11) : ((e.name.size : Nat) : Int) ≤ 16 := by
 have h1 := (za2 h).2.1 (by rcases hk with e | e | e | e <;> rw [e] <;> rfl)
 unfold namedE at h1
 rw [if_neg (by omega)] at h1
 exact z5f h1
theorem zgS {e : AEv} (h : chkEv e = 0) (hk : e.kind = 1) : specC e.c = 0 := (za2 h).2.2.2.1 (by rw [hk]; rfl)
theorem zbY {k : Nat} {a : ASys} (ok : SOk a) (h : SInv k a) (e : AEv) : SInv (k + 1) (sysConfig a e).1 :=
 ⟨h.fl.mono (Nat.le_succ k), h.gt.mono (Nat.le_succ k), zcD ok.sh h.sh e.c e.n, h.bk.mono (Nat.le_succ k), fun n x hx => (h.ro n x hx).mono (Nat.le_succ k), h.by'.mono (Nat.le_succ k), h.now⟩
theorem zeg {k : Nat} {a : ASys} (ok : SOk a) (h : SInv k a) (e : AEv) : SInv (k + 1) (sysDrop a e).1 := by
 have hs := zbz h.sh e.n e.name e.draw
 have h1 : SInv (k + 1) { a with sh := (shDrop a.sh e.n e.name e.draw).1 } := ⟨h.fl.mono (Nat.le_succ k), h.gt.mono (Nat.le_succ k), hs, h.bk.mono (Nat.le_succ k), fun n x hx => (h.ro n x hx).mono (Nat.le_succ k), h.by'.mono (Nat.le_succ k), h.now⟩
 unfold sysDrop
 split
 ·exact h1
 ·refine ⟨h1.fl, h1.gt, h1.sh, h1.bk, ?_, h1.by', h1.now⟩
  dsimp only
  split
  ·exact RoI.del h1.ro ok.ro e.name
  ·exact h1.ro
theorem zcs {a : ASys} {e : AEv} (h : chkEv e ≠ 0) : sysDo a e = (a, [lineB zcL [errB (chkEv e)]]) := by unfold sysDo; rw [if_pos h]
theorem z7I {a : ASys} {e : AEv} (h : chkEv e = 0) (hk : e.kind = 1) : sysDo a e = sysConfig a e := by unfold sysDo; rw [if_neg (by simp [h]), if_pos hk]
theorem zfa {a : ASys} {e : AEv} (h : chkEv e = 0) (hk : e.kind = 2) : sysDo a e = sysRoute a e := by unfold sysDo; rw [if_neg (by simp [h]), if_neg (by omega), if_pos hk]
theorem zao {a : ASys} {e : AEv} (h : chkEv e = 0) (hk : e.kind = 3) : sysDo a e = sysDrop a e := by unfold sysDo; rw [if_neg (by simp [h]), if_neg (by omega), if_neg (by omega), if_pos hk]
theorem zf9 {a : ASys} {e : AEv} (h : chkEv e = 0) (hk : e.kind = 4) : sysDo a e = sysArrive a e := by unfold sysDo; rw [if_neg (by simp [h]), if_neg (by omega), if_neg (by omega), if_neg (by omega), if_pos hk]
theorem zf8 {a : ASys} {e : AEv} (h : chkEv e = 0) (hk : e.kind = 5) : sysDo a e = sysDone a e := by unfold sysDo; rw [if_neg (by simp [h]), if_neg (by omega), if_neg (by omega), if_neg (by omega), if_neg (by omega), if_pos hk]
theorem zf7 {a : ASys} {e : AEv} (h : chkEv e = 0) (hk : e.kind = 6) : sysDo a e = sysUp a e := by unfold sysDo; rw [if_neg (by simp [h]), if_neg (by omega), if_neg (by omega), if_neg (by omega), if_neg (by omega), if_neg (by omega), if_pos hk]
theorem zct {a : ASys} {e : AEv} (h : chkEv e = 0) (hk : e.kind = 7 ∨ e.kind = 8) : sysDo a e = sysDown a e := by
 unfold sysDo; rw [if_neg (by simp [h]), if_neg (by omega), if_neg (by omega), if_neg (by omega), if_neg (by omega), if_neg (by omega), if_neg (by omega), if_neg (by omega), if_neg (by omega), if_neg (by omega), if_neg (by omega), if_neg (by omega)]
theorem zf6 {a : ASys} {e : AEv} (h : chkEv e = 0) (hk : e.kind = 9) : sysDo a e = sysTick a := by unfold sysDo; rw [if_neg (by simp [h]), if_neg (by omega), if_neg (by omega), if_neg (by omega), if_neg (by omega), if_neg (by omega), if_neg (by omega), if_pos hk]
theorem zdE {a : ASys} {e : AEv} (h : chkEv e = 0) (hk : e.kind = 10) : sysDo a e = sysStamp a e := by unfold sysDo; rw [if_neg (by simp [h]), if_neg (by omega), if_neg (by omega), if_neg (by omega), if_neg (by omega), if_neg (by omega), if_neg (by omega), if_neg (by omega), if_pos hk]
theorem zdD {a : ASys} {e : AEv} (h : chkEv e = 0) (hk : e.kind = 11) : sysDo a e = sysLead a e := by unfold sysDo; rw [if_neg (by simp [h]), if_neg (by omega), if_neg (by omega), if_neg (by omega), if_neg (by omega), if_neg (by omega), if_neg (by omega), if_neg (by omega), if_neg (by omega), if_pos hk]
theorem zdC {a : ASys} {e : AEv} (h : chkEv e = 0) (hk : e.kind = 12) : sysDo a e = sysScale a e := by unfold sysDo; rw [if_neg (by simp [h]), if_neg (by omega), if_neg (by omega), if_neg (by omega), if_neg (by omega), if_neg (by omega), if_neg (by omega), if_neg (by omega), if_neg (by omega), if_neg (by omega), if_pos hk]
theorem zdB {a : ASys} {e : AEv} (h : chkEv e = 0) (hk : e.kind = 13) : sysDo a e = sysPods a e := by unfold sysDo; rw [if_neg (by simp [h]), if_neg (by omega), if_neg (by omega), if_neg (by omega), if_neg (by omega), if_neg (by omega), if_neg (by omega), if_neg (by omega), if_neg (by omega), if_neg (by omega), if_neg (by omega), if_pos hk]
end Go.Proofs.YtmbidnhdfdnihaaGreatDoor
namespace Go.Proofs.YtmbidnhdfdnihaaGreatDoor
open Go.Dm
attribute [local irreducible] L.load L.store L.chk L.new L.nonnil L.guard L.ite L.draw L.idx L.sem L.semR L.semU L.chkSem L.next L.call L.callV L.join L.alts L.loop L.begin L.endRound L.range
variable {w0 w : World} {E : List Seg}
structure EvIn (w0 : World) (E : List Seg) (i : Nat) (e : AEv) : Prop where
 rd : RdE w0 (delN E i) eT e.v e.r.ts
 hvc : e.v.len ≤ e.v.cap
 h0 : e.v.a = none → e.r.ts = []
 hrv : ∀ t ∈ e.r.ts, revOk t.1
 hn : e.kind = 12 ∨ e.kind = 13 → RevN e.name
theorem EvIn.plain {i : Nat} {e : AEv} (hv : e.v = noSl) (hr : e.r = noRt15) (hk : e.kind = 12 ∨ e.kind = 13 → RevN e.name) : EvIn w0 E i e := by
 refine ⟨fun _ _ => ?_, ?_, fun _ => ?_, ?_, hk⟩
 ·rw [hv, hr]; exact Rd.nil
 ·rw [hv]; exact Nat.le_refl 0
 ·rw [hr]; rfl
 ·rw [hr]; intro t ht; cases ht
abbrev HkI (w0 : World) (E : List Seg) (i b k0 : Nat) (r : ASys × List ByteArray) (k : Sl → PT) : Prop :=
 ∀ v sv s' w', Rw eS z02 1 v r.2 sv → SysS b r.1 s' → SInv k0 r.1 → St w0 (sv :: setN E i s') w' → k v w'
theorem zgW [bTab w0] (h : St w0 E w) (i : Nat) {b : Nat} {a : ASys} {s : Seg} (hi : nth E i = some s) (hs : SysS b a s) {e : AEv} (hb : chkEv e = 0) (hc : e.kind = 1) (ev : EvIn w0 E i e) {k0 : Nat} (inv : SInv k0 a) (hk0 : k0 ≤ 9000) (hn : a.sh.n < 99) {k : Sl → PT} (hk : HkI w0 E i b (k0 + 2) (sysDo a e) k) :
  L.call Pr z0f [.pointer (some ⟨b, 0, none⟩), evV e] (.one (.one .slice)) k w := by
 have ok := hs.ok
 have rd' : RdE w0 E eT e.v e.r.ts := fun w h => ev.rd w (h.del i hi)
 have i2 : SInv (k0 + 2) (sysDo a e).1 := by rw [z7I hb hc]; exact (zbY ok inv e).mono (Nat.le_succ _)
 have hkk : Hk w0 E i b (sysDo a e) k := fun v sv s' w' r hs' h => hk v sv s' w' r hs' i2 h
 clear hk
 have hlast := inv.fl.last
 have hlen := inv.fl.few.l
 have hroom := inv.fl.few.r
 unfold podsMost at hroom
 have hall := inv.gt.all
 have hlines := inv.gt.lines
 have hgr := inv.gt.room
 have hpat := inv.gt.pat
 have hnow := inv.now
 have hbl := inv.bk.len
 have hr1 := inv.fl.r1
 have rn := ev.hn
 rw [z7I hb hc] at hkk
 exact zcc h i hi hs hc hb rd' ev.hvc ev.hrv (by omega) (by have := z5f (zcy (zgS hb hc)).1; omega) hkk
theorem zgV [bTab w0] (h : St w0 E w) (i : Nat) {b : Nat} {a : ASys} {s : Seg} (hi : nth E i = some s) (hs : SysS b a s) {e : AEv} (hb : chkEv e = 0) (hc : e.kind = 3) (ev : EvIn w0 E i e) {k0 : Nat} (inv : SInv k0 a) (hk0 : k0 ≤ 9000) (hn : a.sh.n < 99) {k : Sl → PT} (hk : HkI w0 E i b (k0 + 2) (sysDo a e) k) :
  L.call Pr z0f [.pointer (some ⟨b, 0, none⟩), evV e] (.one (.one .slice)) k w := by
 have ok := hs.ok
 have rd' : RdE w0 E eT e.v e.r.ts := fun w h => ev.rd w (h.del i hi)
 have i2 : SInv (k0 + 2) (sysDo a e).1 := by rw [zao hb hc]; exact (zeg ok inv e).mono (Nat.le_succ _)
 have hkk : Hk w0 E i b (sysDo a e) k := fun v sv s' w' r hs' h => hk v sv s' w' r hs' i2 h
 clear hk
 have hlast := inv.fl.last
 have hlen := inv.fl.few.l
 have hroom := inv.fl.few.r
 unfold podsMost at hroom
 have hall := inv.gt.all
 have hlines := inv.gt.lines
 have hgr := inv.gt.room
 have hpat := inv.gt.pat
 have hnow := inv.now
 have hbl := inv.bk.len
 have hr1 := inv.fl.r1
 have rn := ev.hn
 rw [zao hb hc] at hkk
 exact zfS h i hi hs hb rn rd' ev.hvc ev.hrv (f := z0N) (by rw [hc]; rfl) z5q (z5t (some ⟨b, 0, none⟩) e.t) (fun h hi _ hk => zdn h _ hi hs (by omega) (by have := zes hb (by omega); omega) hk) hkk
class Kn (w0 : World) (ks : Int → Bool) : Prop where
 dos : ∀ {E : List Seg} {w : World}, St w0 E w → ∀ (i : Nat) {b : Nat} {a : ASys} {s : Seg}, nth E i = some s → SysS b a s → ∀ {e : AEv}, ks e.kind = true → chkEv e = 0 → EvIn w0 E i e → ∀ {k0 : Nat}, SInv k0 a → k0 ≤ 9000 → a.sh.n < 99 → ∀ {k : Sl → PT}, HkI w0 E i b (k0 + 2) (sysDo a e) k →
  L.call Pr z0f [.pointer (some ⟨b, 0, none⟩), evV e] (.one (.one .slice)) k w
theorem zgU {ks : Int → Bool} [K : Kn w0 ks] (h : St w0 E w) (i : Nat) {b : Nat} {a : ASys} {s : Seg} (hi : nth E i = some s) (hs : SysS b a s) {e : AEv} (hks : ks e.kind = true) (hb : chkEv e = 0) (ev : EvIn w0 E i e) {k0 : Nat} (inv : SInv k0 a) (hk0 : k0 ≤ 9000) (hn : a.sh.n < 99) {k : Sl → PT} (hk : HkI w0 E i b (k0 + 2) (sysDo a e) k) :
  L.call Pr z0f [.pointer (some ⟨b, 0, none⟩), evV e] (.one (.one .slice)) k w := K.dos h i hi hs hks hb ev inv hk0 hn hk
end Go.Proofs.YtmbidnhdfdnihaaGreatDoor
namespace Go.Proofs.YtmbidnhdfdnihaaGreatDoor
open Go.Dm
def cW (k : Int) : Cfg := (z0z, k, 1, 0, 1, 0, ())
structure GI (a : ASys) (ver gen : Nat) (last : Int) : Prop where
 n : a.sh.n = ver
 sh : (ver = 0 ∧ gen = 0 ∧ last = -1 ∧ (tget a.sh.m z0z).is = false ∧ (tget a.sh.m z0z).gen = 0) ∨ (0 < ver ∧ 0 ≤ last ∧ 0 < gen ∧ tget a.sh.m z0z = thgOf (cW last) ver gen true)
 gl : gen ≤ ver
 bk : ∀ g, 1 ≤ g → g < 100 → (bkHas a.bk (revB z0z g) = true ↔ g ≤ gen)
 len : a.bk.all.length = gen
theorem zgf {a : AShelf} {c : Cfg} {ver : Int} (h1 : specC c = 0) (h2 : mayC (tget a.m c.1) ver true = 0) : shPut a c ver = (⟨putC a.m c.1 c (a.n + 1), a.r, a.n + 1⟩, a.n + 1, 0) := by
 unfold shPut; rw [if_neg (by simpa using h1), if_neg (by simpa using h2)]
end Go.Proofs.YtmbidnhdfdnihaaGreatDoor
namespace Go.Proofs.YtmbidnhdfdnihaaGreatDoor
open Go.Dm
attribute [local irreducible] L.load L.store L.chk L.new L.nonnil L.guard L.ite L.draw L.idx L.sem L.semR L.semU L.chkSem L.next L.call L.callV L.join L.alts L.loop L.begin L.endRound L.range
variable {w0 w : World} {E : List Seg}
def eEv (e : AEv) : List Value := [I e.kind, .string e.name, .string e.tag, I e.n, I e.draw, .string e.c.1, I e.c.2.1, I e.c.2.2.1, I e.c.2.2.2.1, I e.c.2.2.2.2.1, I e.c.2.2.2.2.2.1, .string e.r.name, .string e.r.cfg, .slice e.v.a e.v.len e.v.cap, I e.r.roll]
theorem encEv : Enc eEv 15 := ⟨fun _ => rfl, fun _ => rfl, by decide⟩
def sysRun (a : ASys) (l : List AEv) : ASys := l.foldl (fun a e => (sysDo a e).1) a
def sysOuts : ASys → List AEv → List (List ByteArray)
 | _, [] => []
 | a, e :: l => (sysDo a e).2 :: sysOuts (sysDo a e).1 l
theorem zam (a : ASys) (e : AEv) (l : List AEv) : sysRun a (e :: l) = sysRun (sysDo a e).1 l := rfl
theorem z6S (a : ASys) (e : AEv) (l : List AEv) : sysOuts a (e :: l) = (sysDo a e).2 :: sysOuts (sysDo a e).1 l := rfl
theorem zan (a : ASys) : sysOuts a [] = [] := rfl
theorem z7G {a : ASys} {l : List AEv} {j : Nat} {e : AEv} (h : l[j]? = some e) : sysRun a (l.take (j + 1)) = (sysDo (sysRun a (l.take j)) e).1 := by
 unfold sysRun
 rw [List.take_succ, h, Option.toList_some, List.foldl_append]
 rfl
theorem z7H : ∀ {l : List AEv} {a : ASys} {j : Nat} {e : AEv}, l[j]? = some e → (sysOuts a l)[j]? = some (sysDo (sysRun a (l.take j)) e).2
 | [], _, _, _, h => by simp at h
 | x :: l, a, 0, e, h => by
  simp only [List.getElem?_cons_zero, Option.some.injEq] at h
  subst h; rfl
 | x :: l, a, j + 1, e, h => by
  simp only [List.getElem?_cons_succ] at h
  rw [z6S, List.getElem?_cons_succ, z7H h]
  rfl
theorem zdI (a : AShelf) (kind : Int) (n : ByteArray) (v : Int) : (shDrop a kind n v).1.n ≤ a.n + 1 := by
 unfold shDrop
 repeat' split
 all_goals dsimp only; omega
theorem zf5 (a : ASys) (e : AEv) : (sysDo a e).1.sh.n ≤ a.sh.n + 1 := by
 by_cases hb : chkEv e = 0
 ·rcases zbX hb with hc | hc | hc | hc | hc | hc | hc | hc | hc | hc | hc | hc | hc
  ·rw [z7I hb hc]; unfold sysConfig shPut; repeat' split
   all_goals dsimp only; omega
  ·rw [zfa hb hc]; unfold sysRoute shPutR; repeat' split
   all_goals dsimp only; omega
  ·rw [zao hb hc]; unfold sysDrop; have := zdI a.sh e.n e.name e.draw; split <;> exact this
  ·rw [zf9 hb hc]; unfold sysArrive; split <;> (dsimp only; omega)
  ·rw [zf8 hb hc]; unfold sysDone; dsimp only; omega
  ·rw [zf7 hb hc]; unfold sysUp; split <;> (dsimp only; omega)
  ·rw [zct hb (.inl hc)]; unfold sysDown; split <;> (dsimp only; omega)
  ·rw [zct hb (.inr hc)]; unfold sysDown; split <;> (dsimp only; omega)
  ·rw [zf6 hb hc]; unfold sysTick; split <;> (dsimp only; omega)
  ·rw [zdE hb hc]; unfold sysStamp; repeat' split
   all_goals dsimp only; omega
  ·rw [zdD hb hc]; unfold sysLead; repeat' split
   all_goals dsimp only; omega
  ·rw [zdC hb hc]; unfold sysScale; repeat' split
   all_goals dsimp only; omega
  ·rw [zdB hb hc]; unfold sysPods; split <;> (dsimp only; omega)
 ·rw [zcs hb]; dsimp only; omega
theorem zaW : ∀ (l : List AEv) (a : ASys), (sysRun a l).sh.n ≤ a.sh.n + l.length
 | [], a => by simp [sysRun]
 | e :: l, a => by
  have h1 := zaW l (sysDo a e).1
  have h2 := zf5 a e
  rw [zam, List.length_cons]
  omega
abbrev evW (x : EvT) : Value := .agg #[.int .i64 x.1, .string x.2.1, .string x.2.2.1, .int .i64 x.2.2.2.1, .int .i64 x.2.2.2.2.1, .string x.2.2.2.2.2.1, .int .i64 x.2.2.2.2.2.2.1, .int .i64 x.2.2.2.2.2.2.2.1, .int .i64 x.2.2.2.2.2.2.2.2.1, .int .i64 x.2.2.2.2.2.2.2.2.2.1, .int .i64 x.2.2.2.2.2.2.2.2.2.2.1, .string x.2.2.2.2.2.2.2.2.2.2.2.1, .string x.2.2.2.2.2.2.2.2.2.2.2.2.1, .slice x.2.2.2.2.2.2.2.2.2.2.2.2.2.1.a x.2.2.2.2.2.2.2.2.2.2.2.2.2.1.len x.2.2.2.2.2.2.2.2.2.2.2.2.2.1.cap, .int .i64 x.2.2.2.2.2.2.2.2.2.2.2.2.2.2.1]
abbrev evLs : List Lf := [.int .i64, .str, .str, .int .i64, .int .i64, .str, .int .i64, .int .i64, .int .i64, .int .i64, .int .i64, .str, .str, .slice, .int .i64]
abbrev evB (b : Nat) (l : List AEv) : Seg := [Cl b z17 (fl eEv l)]
theorem zey {ks : Int → Bool} [Kn w0 ks] {b5 sb n : Nat} {l : List AEv} (hn : n = l.length) (hm : n ≤ 1000) {j : Nat} {e : AEv} (he : l[j]? = some e) {a : ASys} {s : Seg} (h : St w0 (s :: evB b5 l :: E) w) (hs : SysS sb a s) (hke : ks e.kind = true ∧ chkEv e = 0) (ev : EvIn w0 (s :: evB b5 l :: E) 0 e)
  {k0 : Nat} (inv : SInv k0 a) (hk0 : k0 ≤ 9000) (hsh : a.sh.n < 99) {k : Sl → PT} (hk : ∀ v sv s' w', Rw eS z02 1 v (sysDo a e).2 sv → SysS sb (sysDo a e).1 s' → SInv (k0 + 2) (sysDo a e).1 → St w0 (sv :: s' :: evB b5 l :: E) w' → k v w') :
  L.idx (some ⟨b5, 0, none⟩) (j : Int) n 15 (fun a8 => L.load (.agg evLs) a8 fun (x : EvT) => L.call Pr z0f [.pointer (some ⟨sb, 0, none⟩), evW x] (.one (.one .slice)) k) w := by
 have hj : j < l.length := by
  rcases Nat.lt_or_ge j l.length with h | h
  ·exact h
  ·rw [List.getElem?_eq_none h] at he; cases he
 have r : Rw eEv z17 15 ⟨some ⟨b5, 0, none⟩, n, n⟩ l (evB b5 l) := Rw.lit b5 l encEv rfl hn (Nat.le_trans hm (by decide))
 refine Rw.ix encEv r (n := (j : Int)) (by omega) (by rw [Int.toNat_natCast]; exact hj) fun a8 ha => ?_
 rw [Int.toNat_natCast] at ha
 refine Rw.lda encEv h 1 rfl r ha he (y := e.t) rfl ?_
 exact zgU h 0 rfl hs hke.1 hke.2 ev inv hk0 hsh fun v sv s' w r hs i2 h => hk v sv s' w r hs i2 h
abbrev evC (ver : Int) (c : Cfg) : AEv := ⟨1, s_, s_, ver, 0, c, noRt15, noSl⟩
abbrev evDp (kind : Int) (name : ByteArray) (ver : Int) : AEv := ⟨3, name, s_, kind, ver, noCfg, noRt15, noSl⟩
theorem za3 {ver : Int} {c : Cfg} (hv : 0 ≤ ver ∧ ver ≤ 2147483647) (hc : specC c = 0) : chkEv (evC ver c) = 0 := by
 have hn : noneE (true, false, false, false, true, false, ()) (evC ver c) = true := by simp [noneE, bareE, noRt15]
 have hm : numE (evC ver c) = true := by
  simp only [numE, wiB]
  rw [if_pos (.inl trivial)]
  simp only [Bool.and_eq_true, decide_eq_true_eq]
  omega
 unfold chkEv
 have hp : shp 1 = ((true, false, false, false, true, false, ()), true) := rfl
 simp only [hp]
 rw [if_neg (by decide)]
 unfold chkS
 rw [hn, hm]
 simp [hc]
theorem do_C {a : ASys} {ver : Int} {c : Cfg} (hv : 0 ≤ ver ∧ ver ≤ 2147483647) (hc : specC c = 0) (hm : mayC (tget a.sh.m c.1) ver true = 0) :
  sysDo a (evC ver c) = ({ a with sh := ⟨putC a.sh.m c.1 c (a.sh.n + 1), a.sh.r, a.sh.n + 1⟩ }, [lineB (lineB z8V [c.1]) [decD (a.sh.n + 1).toNat]]) := by
 rw [z7I (za3 hv hc) rfl]
 unfold sysConfig
 dsimp only
 rw [zgf hc hm]
 dsimp only
 unfold putB
 rw [if_pos rfl]
abbrev rp0 : ASys := newSys 3 2 9
abbrev rpW (c : Cfg) (v g n : Int) : ASys := { rp0 with sh := ⟨[(z0z, thgOf c v g true)], [], n⟩ }
abbrev rpD (g n : Int) : ASys := { rp0 with sh := ⟨[(z0z, (s_, 0, 0, 0, 0, 0, 0, g, false, ()))], [], n⟩ }
theorem zda {a : ASys} {ver no : Int} {c : Cfg} (hv : 0 ≤ ver ∧ ver ≤ 2147483647) (hc : specC c = 0) (hm : mayC (tget a.sh.m c.1) ver true = no) (hno : no ≠ 0) : sysDo a (evC ver c) = (a, [lineB s_refused [errB no]]) := by
 rw [z7I (za3 hv hc) rfl]
 have hp : shPut a.sh c ver = (a.sh, 0, no) := by
  unfold shPut
  rw [if_neg (by simpa using hc), if_pos (by rw [hm]; exact hno)]
  rw [hm]
 unfold sysConfig
 dsimp only
 rw [hp]
 dsimp only
 unfold putB
 rw [if_neg hno]
 rfl
abbrev rpEvs (c : Cfg) (v : Int) : List AEv := [evC v c, evC 0 c, evC 0 c, evC v c, evC 1 c, evDp 1 z0z 1, evDp 2 z0z 2, evDp 1 z0z 2, evDp 1 z0z 2, evC 0 c]
abbrev rpWant : List ByteArray := [z19, z47, z3q, z1o, z45, z1o, z19, z4s, z19, z44]
theorem zdK (c : Cfg) : sameC c c = true := (zcG c c).2 rfl
theorem zff {c : Cfg} (hc : specC c = 0) (hn : c.1 = z0z) {v : Int} (hv : 2 ≤ v ∧ v ≤ 1001) : sysOuts rp0 (rpEvs c v) = rpWant.map fun x => [x] := by
 obtain ⟨c1, cr⟩ := c
 simp only at hn
 subst hn
 have d1 := zda (a := rp0) (ver := v) (no := 6) (c := (z0z, cr)) ⟨by omega, by omega⟩ hc (by
  show mayC noThg v true = 6
  unfold mayC
  rw [if_neg (by omega)]
  rfl) (by decide)
 have d2 : sysDo rp0 (evC 0 (z0z, cr)) = (rpW (z0z, cr) 1 1 1, [z47]) := by
  rw [do_C (a := rp0) ⟨by decide, by decide⟩ hc (by rfl)]
  kernel_rfl
 have d3 : sysDo (rpW (z0z, cr) 1 1 1) (evC 0 (z0z, cr)) = (rpW (z0z, cr) 1 1 1, [z3q]) := by
  rw [zda (no := 5) ⟨by decide, by decide⟩ hc (by rfl) (by decide)]
  rfl
 have d4 : sysDo (rpW (z0z, cr) 1 1 1) (evC v (z0z, cr)) = (rpW (z0z, cr) 1 1 1, [z1o]) := by
  rw [zda (no := 7) ⟨by omega, by omega⟩ hc (by
   show mayC (thgOf (z0z, cr) 1 1 true) v true = 7
   unfold mayC
   rw [if_neg (by omega)]
   show (if true = true then (if (1 : Int) = v then 0 else 7) else 6) = 7
   rw [if_pos rfl, if_neg (by omega)]) (by decide)]
  rfl
 have d5 : sysDo (rpW (z0z, cr) 1 1 1) (evC 1 (z0z, cr)) = (rpW (z0z, cr) 2 1 2, [z45]) := by
  rw [do_C (a := rpW (z0z, cr) 1 1 1) ⟨by decide, by decide⟩ hc (by rfl)]
  have e : putC [(z0z, thgOf (z0z, cr) 1 1 true)] z0z (z0z, cr) 2 = [(z0z, thgOf (z0z, cr) 2 1 true)] := by
   have ht : tget [(z0z, thgOf (z0z, cr) 1 1 true)] z0z = thgOf (z0z, cr) 1 1 true := by kernel_rfl
   unfold putC
   rw [ht]
   have hs : (thgOf (z0z, cr) 1 1 true).is = true ∧ sameC (cfgOf (thgOf (z0z, cr) 1 1 true)) (z0z, cr) = true := ⟨rfl, zdK _⟩
   rw [if_pos hs]
   show mset [(z0z, thgOf (z0z, cr) 1 1 true)] z0z (thgOf (z0z, cr) 2 1 true) = [(z0z, thgOf (z0z, cr) 2 1 true)]
   kernel_rfl
  show (({ rp0 with sh := ⟨putC [(z0z, thgOf (z0z, cr) 1 1 true)] z0z (z0z, cr) 2, [], 2⟩ } : ASys), _) = _
  rw [e]
  kernel_rfl
 have d6 : sysDo (rpW (z0z, cr) 2 1 2) (evDp 1 z0z 1) = (rpW (z0z, cr) 2 1 2, [z1o]) := by kernel_rfl
 have d7 : sysDo (rpW (z0z, cr) 2 1 2) (evDp 2 z0z 2) = (rpW (z0z, cr) 2 1 2, [z19]) := by kernel_rfl
 have d8 : sysDo (rpW (z0z, cr) 2 1 2) (evDp 1 z0z 2) = (rpD 1 3, [z4s]) := by kernel_rfl
 have d9 : sysDo (rpD 1 3) (evDp 1 z0z 2) = (rpD 1 3, [z19]) := by kernel_rfl
 have d10 : (sysDo (rpD 1 3) (evC 0 (z0z, cr))).2 = [z44] := by
  rw [do_C (a := rpD 1 3) ⟨by decide, by decide⟩ hc (by rfl)]
  kernel_rfl
 simp only [rpEvs, z6S, zan, d1, d2, d3, d4, d5, d6, d7, d8, d9, d10, rpWant, List.map_cons, List.map_nil]
 rfl
abbrev ksRp (k : Int) : Bool := k == 1 || k == 3
instance knRp [bTab w0] : Kn w0 ksRp := ⟨by
 intro E w h i b a s hi hs e hks hb ev k0 inv hk0 hn k hk
 have hc : e.kind = 1 ∨ e.kind = 3 := by simpa [ksRp] using hks
 rcases hc with hc | hc
 ·exact zgW h i hi hs hb hc ev inv hk0 hn hk
 ·exact zgV h i hi hs hb hc ev inv hk0 hn hk⟩
theorem z80 [bTab w0] (c : Cfg) (x1 : Int) : Calls Pr z22 #[.agg (Cfg.cells c).toArray, I x1] w0 fun e w' => e = .returned (.bool true) ∧ St w0 [] w' := by
 refine zgm (args := [.agg (Cfg.cells c).toArray, I x1]) (z3P c x1) ?_
 unfold z2a
 have h := St.init w0
 refine nw h ?_; clear h; (try clear w); intro b1 w h
 refine zds h fun w h => itF rfl ?_
 refine zbt h (fun hh => absurd hh (by decide)) fun _ b s w hs h => itF rfl (itF rfl ?_)
 ((try dsimp only [setN, List.cons_append, List.nil_append] at h); repeat (first | refine nn ?_ | (refine dr h ?_; clear h; (try clear w); intro w h) | refine ldC h ?_ | refine laC h ?_ | refine ckC h ?_ | (refine stC h ?_; clear h; (try clear w); intro w h; (try dsimp only [putN, setN] at h)) | rw [z2w]))
 refine zdr (c := c) (n := 0) h fun w h => ?_
 have hcc := zfu c 0
 have hcn : (lcfg c 0).1 = z0z := rfl
 generalize lcfg c 0 = d at *
 refine nw h ?_; clear h; (try clear w); intro b6 w h
 ((try dsimp only [setN, List.cons_append, List.nil_append] at h); repeat (first | refine nn ?_ | (refine dr h ?_; clear h; (try clear w); intro w h) | refine ldC h ?_ | refine laC h ?_ | refine ckC h ?_ | (refine stC h ?_; clear h; (try clear w); intro w h; (try dsimp only [putN, setN] at h)) | rw [z2w]))
 refine zc9 (by decide) (by decide) ?_
 have hx : 0 ≤ x1 % 1000 ∧ x1 % 1000 < 1000 := by omega
 generalize x1 % 1000 = x7 at *
 have e2 : IntKind.wrap .i64 (2 + x7) = 2 + x7 := wr (by omega) (by omega)
 rw [e2]
 ((try dsimp only [setN, List.cons_append, List.nil_append] at h); repeat (first | refine nn ?_ | (refine dr h ?_; clear h; (try clear w); intro w h) | refine ldC h ?_ | refine laC h ?_ | refine ckC h ?_ | (refine stC h ?_; clear h; (try clear w); intro w h; (try dsimp only [putN, setN] at h)) | rw [z2w]))
 refine nw h ?_; clear h; (try clear w); intro b14 w h
 refine nw h ?_; clear h; (try clear w); intro b15 w h
 have ho := zff hcc hcn (v := 2 + x7) ⟨by omega, by omega⟩
 have h : St w0 ([Cl b15 z02 (fl eS rpWant)] :: evB b14 (rpEvs d (2 + x7)) :: [Cl b6 z06 (Cfg.cells d)] :: s :: [Cl b1 z06 (Cfg.cells c)] :: []) w := by
  obtain ⟨d1, dr⟩ := d
  simp only at hcn
  subst hcn
  exact h
 have rw15 : Rw eS z02 1 ⟨some ⟨b15, 0, none⟩, 10, 10⟩ rpWant [Cl b15 z02 (fl eS rpWant)] := Rw.lit b15 rpWant encS rfl rfl (by decide)
 have hke : ∀ e ∈ rpEvs d (2 + x7), ksRp e.kind = true ∧ chkEv e = 0 := by
  intro e he
  simp only [rpEvs, List.mem_cons, List.not_mem_nil, or_false] at he
  rcases he with rfl | rfl | rfl | rfl | rfl | rfl | rfl | rfl | rfl | rfl
  ·exact ⟨rfl, za3 ⟨by omega, by omega⟩ hcc⟩
  ·exact ⟨rfl, za3 ⟨by decide, by decide⟩ hcc⟩
  ·exact ⟨rfl, za3 ⟨by decide, by decide⟩ hcc⟩
  ·exact ⟨rfl, za3 ⟨by omega, by omega⟩ hcc⟩
  ·exact ⟨rfl, za3 ⟨by decide, by decide⟩ hcc⟩
  ·exact ⟨rfl, by decide +kernel⟩
  ·exact ⟨rfl, by decide +kernel⟩
  ·exact ⟨rfl, by decide +kernel⟩
  ·exact ⟨rfl, by decide +kernel⟩
  ·exact ⟨rfl, za3 ⟨by decide, by decide⟩ hcc⟩
 have hev : ∀ e ∈ rpEvs d (2 + x7), ∀ {E : List Seg} {i : Nat}, EvIn w0 E i e := by
  intro e he E i
  simp only [rpEvs, List.mem_cons, List.not_mem_nil, or_false] at he
  rcases he with rfl | rfl | rfl | rfl | rfl | rfl | rfl | rfl | rfl | rfl
  all_goals first | exact EvIn.plain rfl rfl fun h => absurd h (show ¬ ((1 : Int) = 12 ∨ (1 : Int) = 13) by decide) | exact EvIn.plain rfl rfl fun h => absurd h (show ¬ ((3 : Int) = 12 ∨ (3 : Int) = 13) by decide)
 have inv : SInv 0 rp0 := zfq (by decide) (by decide)
 have hl10 : (rpEvs d (2 + x7)).length = 10 := rfl
 generalize rpEvs d (2 + x7) = l at *
 have h := fr3_ (fr1_ h)
 refine z2I (fun q y w => ∃ (j : Nat) (s : Seg), q + j = 10 ∧ @Eq Int y.1 j ∧ SysS b (sysRun rp0 (l.take j)) s ∧ SInv (0 + 2 * j) (sysRun rp0 (l.take j)) ∧ St w0 (s :: evB b14 l :: [Cl b15 z02 (fl eS rpWant)] :: [Cl b6 z06 (Cfg.cells d)] :: [Cl b1 z06 (Cfg.cells c)] :: []) w) 10 ⟨0, s, rfl, rfl, hs, inv, h⟩ ?_
 clear hs inv h
 rintro q ⟨y, ⟨⟩⟩ w ⟨j, s, hq, hy, hs, inv, h⟩ again hag
 (try dsimp only)
 simp only at hy
 subst hy
 refine it (fun hb => ?_) (fun hb => ⟨rfl, (dl0_ (dl0_ (dl0_ (dl0_ (dl0_ h))))).fin⟩)
 have hb : (j : Int) < ((10 : Nat) : Int) := of_decide_eq_true hb
 have hj : j < l.length := by omega
 have hx : l[j]? = some l[j] := List.getElem?_eq_getElem hj
 have hnn := zaW (l.take j) rp0
 have hn0 : rp0.sh.n = 0 := rfl
 have hlt : (l.take j).length ≤ j := by rw [List.length_take]; omega
 have hoj := z7H (a := rp0) hx
 rw [ho] at hoj
 have hj10 : j < rpWant.length := by show j < 10; omega
 have hwj : rpWant[j]? = some rpWant[j] := List.getElem?_eq_getElem hj10
 rw [List.getElem?_map, hwj, Option.map_some, Option.some.injEq] at hoj
 refine zey (ks := ksRp) hl10.symm (by decide) hx h hs (hke _ (List.getElem_mem hj)) (hev _ (List.getElem_mem hj)) inv (by omega) (by omega) fun v sv s' w r hs i2 h => ?_
 rw [← hoj] at r
 have hlen := Rw.len encS r
 ((try dsimp only [setN, List.cons_append, List.nil_append] at h); repeat (first | refine nn ?_ | (refine dr h ?_; clear h; (try clear w); intro w h) | refine ldC h ?_ | refine laC h ?_ | refine ckC h ?_ | (refine stC h ?_; clear h; (try clear w); intro w h; (try dsimp only [putN, setN] at h)) | rw [z2w]))
 refine itF (by rw [hlen]; rfl) ?_
 refine Rw.ix encS r (by decide) (by simp) fun a21 ha => ?_
 refine Rw.ld0 encS h 0 rfl r ha rfl rfl rfl ?_
 refine Rw.ix encS rw15 (by omega) (by rw [Int.toNat_natCast]; exact hj10) fun a23 ha2 => ?_
 rw [Int.toNat_natCast] at ha2
 refine Rw.ld0 encS h 3 rfl rw15 ha2 hwj rfl rfl ?_
 refine itF (by rw [z4c]; simp) ?_
 refine hag (q - 1) _ w (by omega) ⟨j + 1, s', by omega, ?_, ?_, ?_, dl0_ h⟩
 ·show IntKind.wrap .i64 _ = _
  rw [wr (by omega) (by omega)]; omega
 ·rw [z7G hx]; exact hs
 ·rw [z7G hx]; exact i2
end Go.Proofs.YtmbidnhdfdnihaaGreatDoor
