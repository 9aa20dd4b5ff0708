/- Contracts of functions, and walks of laws (text Fk). No conditions beyond those its theorems state. -/
import Derived.Test.YtheikjckdnhdhaaFj
set_option linter.all false
namespace Go.Proofs.Ytheikjckdnhdhaa
open Go.Dm
attribute [local irreducible] L.load L.store L.chk L.new L.nonnil L.guard L.ite L.draw L.idx L.sem L.semR L.semU L.chkSem L.next L.call L.callV L.join L.alts L.loop L.begin L.endRound L.range
variable {w0 w : World} {E : List Seg}
def fGive (F : AFleet) (q : Int) : AFleet × ByteArray × Int := match fWhere F.l q with
  | none => (F, s_, 6)
  | some x => ({ F with l := fUpd F.l x.id fun p => (podGive p q).1 }, x.rev, 0)
def fKill (F : AFleet) (id : Int) : AFleet × List Int × Int := match fFind F.l id with
  | none => (F, [], 6)
  | some x => ({ F with l := fUpd F.l id fun p => (podKill p).1 }, x.pod.reqs, 0)
theorem fWhere_some {l : List AHeld} {q : Int} {x : AHeld} (h : fWhere l q = some x) : x ∈ l ∧ q ∈ x.pod.reqs := ⟨List.mem_of_find?_eq_some h, by simpa using List.find?_some h⟩
theorem give_eq {p : APod} {q : Int} (h : q ∈ p.reqs) : podGive p q = ({ p with reqs := p.reqs.erase q, st := if p.st = 3 ∧ p.reqs.erase q = [] then 4 else p.st }, 0) := by
  unfold podGive; rw [if_pos h]
theorem kill_eq {p : APod} (h : p.st ≠ 4) : podKill p = ({ p with st := 4, reqs := [] }, p.reqs, 0) := by
  unfold podKill; rw [if_neg h]
theorem S_tGive (h : St w0 E w) (i : Nat) {A B : List Tr} {t : Tr} (hi : nth E i = some ((A ++ t :: B).map trS).flatten) (hp : PodS t.2.1 t.1.pod t.2.2) {q : Int} {k : Int → PT}
    (hk : ∀ s' w', PodS t.2.1 (podGive t.1.pod q).1 s' → St w0 (setN E i ((A ++ ({ t.1 with pod := (podGive t.1.pod q).1 }, t.2.1, s') :: B).map trS).flatten) w' → k (podGive t.1.pod q).2 w') :
    L.call Pr n_pod_Pod_Give [.pointer (some ⟨t.2.1, 0, none⟩), I q] (.one (.one (.int .i64))) k w := by
  refine S_pGive (h.front i hi).pick 0 rfl hp fun s' w hp' h => hk s' w hp' ?_
  have h : St w0 (trS ({ t.1 with pod := (podGive t.1.pod q).1 }, t.2.1, s') :: ((A ++ B).map trS).flatten :: delN E i) w := h
  exact St.back i hi h.place
theorem S_fGive (h : St w0 E w) (i : Nat) {b : Nat} {F : AFleet} {s : Seg} (hi : nth E i = some s) (hf : FlS b F s) {q : Int} {k : ByteArray × Int × Unit → PT}
    (hk : ∀ s' w', FlS b (fGive F q).1 s' → St w0 (setN E i s') w' → k ((fGive F q).2.1, (fGive F q).2.2, ()) w') :
    L.call Pr n_fleet_Fleet_Give [.pointer (some ⟨b, 0, none⟩), I q] (.tup [.one .str, .one (.int .i64)]) k w := by
  have hf0 := hf
  obtain ⟨ok, rA, rW, mA, mW, sA, sW, L, hA, hW, hr, rfl⟩ := hf
  refine call_of (C_fleet_Fleet_Give _ _) ?_
  unfold F_fleet_Fleet_Give
  have h : St w0 (flB b rA rW F :: sA :: sW :: (L.map trS).flatten :: delN E i) w := (h.front i hi).eq (by simp)
  (repeat (first | refine nn ?_ | (refine dr h ?_; clear h; (try clear w); intro w h) | refine ld0_ h rfl rfl ?_ | refine ld1_ h rfl rfl ?_ | refine ld2_ h rfl rfl ?_ | refine ld3_ h rfl rfl ?_ | refine ld4_ h rfl rfl ?_ | refine ld5_ h rfl rfl ?_ | refine ld6_ h rfl rfl ?_ | refine ld7_ h rfl rfl ?_ | refine ld8_ h rfl rfl ?_ | refine ld9_ h rfl rfl ?_ | refine ld10_ h rfl rfl ?_ | refine ld11_ h rfl rfl ?_ | refine la0_ h rfl ?_ | refine la1_ h rfl ?_ | refine la2_ h rfl ?_ | refine la3_ h rfl ?_ | refine la4_ h rfl ?_ | refine la5_ h rfl ?_ | refine la6_ h rfl ?_ | refine la7_ h rfl ?_ | refine la8_ h rfl ?_ | refine la9_ h rfl ?_ | refine la10_ h rfl ?_ | refine la11_ h rfl ?_ | refine ck0_ h rfl ?_ | refine ck1_ h rfl ?_ | refine ck2_ h rfl ?_ | refine ck3_ h rfl ?_ | refine ck4_ h rfl ?_ | refine ck5_ h rfl ?_ | refine ck6_ h rfl ?_ | refine ck7_ h rfl ?_ | refine ck8_ h rfl ?_ | refine ck9_ h rfl ?_ | refine ck10_ h rfl ?_ | refine ck11_ h rfl ?_ | ((first | refine st0_ h rfl rfl ?_ | refine st1_ h rfl rfl ?_ | refine st2_ h rfl rfl ?_ | refine st3_ h rfl rfl ?_ | refine st4_ h rfl rfl ?_ | refine st5_ h rfl rfl ?_ | refine st6_ h rfl rfl ?_ | refine st7_ h rfl rfl ?_ | refine st8_ h rfl rfl ?_ | refine st9_ h rfl rfl ?_ | refine st10_ h rfl rfl ?_ | refine st11_ h rfl rfl ?_); clear h; (try clear w); intro w h; (try dsimp only [putN, setN] at h))))
  refine MpS.get2 mkI und_map_i zi (fun x : Int => x) (fun _ => rfl) h 2 rfl hW ?_
  have hwt := hr.wth q
  cases hfw : fWhere F.l q with
  | none =>
    rw [hfw] at hwt
    rw [hwt]
    have e : fGive F q = (F, s_, 6) := by unfold fGive; rw [hfw]
    rw [e] at hk
    refine itT rfl ?_
    exact ⟨(s_, 6, ()), rfl, hk _ w hf0 (St.back i hi (h.eq (by simp)))⟩
  | some x =>
    rw [hfw] at hwt
    rw [hwt]
    refine itF rfl ?_
    obtain ⟨hxl, hqx⟩ := fWhere_some hfw
    have hfx := fFind_of ok.pw hxl
    have e : fGive F q = ({ F with l := fUpd F.l x.id fun p => (podGive p q).1 }, x.rev, 0) := by unfold fGive; rw [hfw]
    rw [e] at hk
    obtain ⟨A, t, B, rfl, rfl, -⟩ := hr.at hfx
    have hg := hr.get ok (t := t) (by simp)
    have hps := hr.ps t (by simp)
    simp only [Option.map_some, Option.getD_some]
    (repeat (first | refine nn ?_ | (refine dr h ?_; clear h; (try clear w); intro w h) | refine ld0_ h rfl rfl ?_ | refine ld1_ h rfl rfl ?_ | refine ld2_ h rfl rfl ?_ | refine ld3_ h rfl rfl ?_ | refine ld4_ h rfl rfl ?_ | refine ld5_ h rfl rfl ?_ | refine ld6_ h rfl rfl ?_ | refine ld7_ h rfl rfl ?_ | refine ld8_ h rfl rfl ?_ | refine ld9_ h rfl rfl ?_ | refine ld10_ h rfl rfl ?_ | refine ld11_ h rfl rfl ?_ | refine la0_ h rfl ?_ | refine la1_ h rfl ?_ | refine la2_ h rfl ?_ | refine la3_ h rfl ?_ | refine la4_ h rfl ?_ | refine la5_ h rfl ?_ | refine la6_ h rfl ?_ | refine la7_ h rfl ?_ | refine la8_ h rfl ?_ | refine la9_ h rfl ?_ | refine la10_ h rfl ?_ | refine la11_ h rfl ?_ | refine ck0_ h rfl ?_ | refine ck1_ h rfl ?_ | refine ck2_ h rfl ?_ | refine ck3_ h rfl ?_ | refine ck4_ h rfl ?_ | refine ck5_ h rfl ?_ | refine ck6_ h rfl ?_ | refine ck7_ h rfl ?_ | refine ck8_ h rfl ?_ | refine ck9_ h rfl ?_ | refine ck10_ h rfl ?_ | refine ck11_ h rfl ?_ | ((first | refine st0_ h rfl rfl ?_ | refine st1_ h rfl rfl ?_ | refine st2_ h rfl rfl ?_ | refine st3_ h rfl rfl ?_ | refine st4_ h rfl rfl ?_ | refine st5_ h rfl rfl ?_ | refine st6_ h rfl rfl ?_ | refine st7_ h rfl rfl ?_ | refine st8_ h rfl rfl ?_ | refine st9_ h rfl rfl ?_ | refine st10_ h rfl rfl ?_ | refine st11_ h rfl rfl ?_); clear h; (try clear w); intro w h; (try dsimp only [putN, setN] at h))))
    refine MpS.get mkI und_map_o zo (fun x : ByteArray × Option Addr => (x.1, x.2, ())) (fun _ => rfl) h 1 rfl hA ?_
    rw [hg]
    simp only [Option.map_some, Option.getD_some]
    refine nw h ?_; clear h; (try clear w); intro b7 w h
    (repeat (first | refine nn ?_ | (refine dr h ?_; clear h; (try clear w); intro w h) | refine ld0_ h rfl rfl ?_ | refine ld1_ h rfl rfl ?_ | refine ld2_ h rfl rfl ?_ | refine ld3_ h rfl rfl ?_ | refine ld4_ h rfl rfl ?_ | refine ld5_ h rfl rfl ?_ | refine ld6_ h rfl rfl ?_ | refine ld7_ h rfl rfl ?_ | refine ld8_ h rfl rfl ?_ | refine ld9_ h rfl rfl ?_ | refine ld10_ h rfl rfl ?_ | refine ld11_ h rfl rfl ?_ | refine la0_ h rfl ?_ | refine la1_ h rfl ?_ | refine la2_ h rfl ?_ | refine la3_ h rfl ?_ | refine la4_ h rfl ?_ | refine la5_ h rfl ?_ | refine la6_ h rfl ?_ | refine la7_ h rfl ?_ | refine la8_ h rfl ?_ | refine la9_ h rfl ?_ | refine la10_ h rfl ?_ | refine la11_ h rfl ?_ | refine ck0_ h rfl ?_ | refine ck1_ h rfl ?_ | refine ck2_ h rfl ?_ | refine ck3_ h rfl ?_ | refine ck4_ h rfl ?_ | refine ck5_ h rfl ?_ | refine ck6_ h rfl ?_ | refine ck7_ h rfl ?_ | refine ck8_ h rfl ?_ | refine ck9_ h rfl ?_ | refine ck10_ h rfl ?_ | refine ck11_ h rfl ?_ | ((first | refine st0_ h rfl rfl ?_ | refine st1_ h rfl rfl ?_ | refine st2_ h rfl rfl ?_ | refine st3_ h rfl rfl ?_ | refine st4_ h rfl rfl ?_ | refine st5_ h rfl rfl ?_ | refine st6_ h rfl rfl ?_ | refine st7_ h rfl rfl ?_ | refine st8_ h rfl rfl ?_ | refine st9_ h rfl rfl ?_ | refine st10_ h rfl rfl ?_ | refine st11_ h rfl rfl ?_); clear h; (try clear w); intro w h; (try dsimp only [putN, setN] at h))))
    refine S_tGive h 4 rfl hps fun s' w hps' h => ?_
    dsimp only [setN] at h
    (repeat (first | refine nn ?_ | (refine dr h ?_; clear h; (try clear w); intro w h) | refine ld0_ h rfl rfl ?_ | refine ld1_ h rfl rfl ?_ | refine ld2_ h rfl rfl ?_ | refine ld3_ h rfl rfl ?_ | refine ld4_ h rfl rfl ?_ | refine ld5_ h rfl rfl ?_ | refine ld6_ h rfl rfl ?_ | refine ld7_ h rfl rfl ?_ | refine ld8_ h rfl rfl ?_ | refine ld9_ h rfl rfl ?_ | refine ld10_ h rfl rfl ?_ | refine ld11_ h rfl rfl ?_ | refine la0_ h rfl ?_ | refine la1_ h rfl ?_ | refine la2_ h rfl ?_ | refine la3_ h rfl ?_ | refine la4_ h rfl ?_ | refine la5_ h rfl ?_ | refine la6_ h rfl ?_ | refine la7_ h rfl ?_ | refine la8_ h rfl ?_ | refine la9_ h rfl ?_ | refine la10_ h rfl ?_ | refine la11_ h rfl ?_ | refine ck0_ h rfl ?_ | refine ck1_ h rfl ?_ | refine ck2_ h rfl ?_ | refine ck3_ h rfl ?_ | refine ck4_ h rfl ?_ | refine ck5_ h rfl ?_ | refine ck6_ h rfl ?_ | refine ck7_ h rfl ?_ | refine ck8_ h rfl ?_ | refine ck9_ h rfl ?_ | refine ck10_ h rfl ?_ | refine ck11_ h rfl ?_ | ((first | refine st0_ h rfl rfl ?_ | refine st1_ h rfl rfl ?_ | refine st2_ h rfl rfl ?_ | refine st3_ h rfl rfl ?_ | refine st4_ h rfl rfl ?_ | refine st5_ h rfl rfl ?_ | refine st6_ h rfl rfl ?_ | refine st7_ h rfl rfl ?_ | refine st8_ h rfl rfl ?_ | refine st9_ h rfl rfl ?_ | refine st10_ h rfl rfl ?_ | refine st11_ h rfl rfl ?_); clear h; (try clear w); intro w h; (try dsimp only [putN, setN] at h))))
    refine MpS.del mkI und_map_i h 3 rfl hW fun sW' w hW' h => ?_
    dsimp only [setN] at h
    have hgv := give_eq hqx
    have hlv := ok.live t.1 hxl
    have hnd : t.1.pod.reqs.Nodup := hps.1.pw.imp fun h => by omega
    have hrq : (podGive t.1.pod q).1.reqs = t.1.pod.reqs.erase q := by rw [hgv]
    have hq2 : ∀ q2 ∈ (podGive t.1.pod q).1.reqs, q2 ∈ t.1.pod.reqs ∨ fWhere F.l q2 = none := fun q2 h2 => .inl (by rw [hrq] at h2; exact List.mem_of_mem_erase h2)
    have h4 : (podGive t.1.pod q).1.st = 4 → (podGive t.1.pod q).1.reqs = [] := by
      rw [hgv]; simp only; split
      · rename_i h; exact fun _ => h.2
      · intro h; omega
    have okG := ok.upd hfx (fun p => (podGive p q).1) (by rw [hgv]; simp only; split <;> omega) hq2
    have hwth : ∀ q', mget (mdel mW q) q' = (fWhere (fUpd F.l t.1.id fun p => (podGive p q).1) q').map (·.id) := fun q' => by
      rw [mget_mdel _ _ hW.nd, ok.where_upd hfx _ hq2 h4, hrq]
      by_cases eq : q = q'
      · subst eq
        rw [if_pos rfl, if_neg (by rw [List.Nodup.mem_erase_iff hnd]; simp), if_pos hqx]
      · rw [if_neg eq]
        by_cases h2 : q' ∈ t.1.pod.reqs
        · rw [if_pos ((List.Nodup.mem_erase_iff hnd).2 ⟨fun e => eq e.symm, h2⟩), hr.wth, fWhere_of ok.once hxl h2]; rfl
        · rw [if_neg (fun hh => h2 (List.mem_of_mem_erase hh)), if_neg h2, hr.wth]
    have h := fr4_ (fr4_ (fr4_ (fr4_ h)))
    refine S_fend (t := ({ t.1 with pod := (podGive t.1.pod q).1 }, t.2.1, s')) h hA hg hps' (fun h4' => ?_) fun h4' sA' w hA' h => ?_
    · (repeat (first | refine nn ?_ | (refine dr h ?_; clear h; (try clear w); intro w h) | refine ld0_ h rfl rfl ?_ | refine ld1_ h rfl rfl ?_ | refine ld2_ h rfl rfl ?_ | refine ld3_ h rfl rfl ?_ | refine ld4_ h rfl rfl ?_ | refine ld5_ h rfl rfl ?_ | refine ld6_ h rfl rfl ?_ | refine ld7_ h rfl rfl ?_ | refine ld8_ h rfl rfl ?_ | refine ld9_ h rfl rfl ?_ | refine ld10_ h rfl rfl ?_ | refine ld11_ h rfl rfl ?_ | refine la0_ h rfl ?_ | refine la1_ h rfl ?_ | refine la2_ h rfl ?_ | refine la3_ h rfl ?_ | refine la4_ h rfl ?_ | refine la5_ h rfl ?_ | refine la6_ h rfl ?_ | refine la7_ h rfl ?_ | refine la8_ h rfl ?_ | refine la9_ h rfl ?_ | refine la10_ h rfl ?_ | refine la11_ h rfl ?_ | refine ck0_ h rfl ?_ | refine ck1_ h rfl ?_ | refine ck2_ h rfl ?_ | refine ck3_ h rfl ?_ | refine ck4_ h rfl ?_ | refine ck5_ h rfl ?_ | refine ck6_ h rfl ?_ | refine ck7_ h rfl ?_ | refine ck8_ h rfl ?_ | refine ck9_ h rfl ?_ | refine ck10_ h rfl ?_ | refine ck11_ h rfl ?_ | ((first | refine st0_ h rfl rfl ?_ | refine st1_ h rfl rfl ?_ | refine st2_ h rfl rfl ?_ | refine st3_ h rfl rfl ?_ | refine st4_ h rfl rfl ?_ | refine st5_ h rfl rfl ?_ | refine st6_ h rfl rfl ?_ | refine st7_ h rfl rfl ?_ | refine st8_ h rfl rfl ?_ | refine st9_ h rfl rfl ?_ | refine st10_ h rfl rfl ?_ | refine st11_ h rfl rfl ?_); clear h; (try clear w); intro w h; (try dsimp only [putN, setN] at h))))
      refine ⟨(t.1.rev, 0, ()), rfl, hk _ w ⟨okG, rA, rW, mA, _, sA, sW', _, hA, hW', hr.upd ok (fun p => (podGive p q).1) hps' h4' hwth, rfl⟩ (St.back i hi ?_)⟩
      have h := dl4_ h
      exact h.eq (by simp)
    · (repeat (first | refine nn ?_ | (refine dr h ?_; clear h; (try clear w); intro w h) | refine ld0_ h rfl rfl ?_ | refine ld1_ h rfl rfl ?_ | refine ld2_ h rfl rfl ?_ | refine ld3_ h rfl rfl ?_ | refine ld4_ h rfl rfl ?_ | refine ld5_ h rfl rfl ?_ | refine ld6_ h rfl rfl ?_ | refine ld7_ h rfl rfl ?_ | refine ld8_ h rfl rfl ?_ | refine ld9_ h rfl rfl ?_ | refine ld10_ h rfl rfl ?_ | refine ld11_ h rfl rfl ?_ | refine la0_ h rfl ?_ | refine la1_ h rfl ?_ | refine la2_ h rfl ?_ | refine la3_ h rfl ?_ | refine la4_ h rfl ?_ | refine la5_ h rfl ?_ | refine la6_ h rfl ?_ | refine la7_ h rfl ?_ | refine la8_ h rfl ?_ | refine la9_ h rfl ?_ | refine la10_ h rfl ?_ | refine la11_ h rfl ?_ | refine ck0_ h rfl ?_ | refine ck1_ h rfl ?_ | refine ck2_ h rfl ?_ | refine ck3_ h rfl ?_ | refine ck4_ h rfl ?_ | refine ck5_ h rfl ?_ | refine ck6_ h rfl ?_ | refine ck7_ h rfl ?_ | refine ck8_ h rfl ?_ | refine ck9_ h rfl ?_ | refine ck10_ h rfl ?_ | refine ck11_ h rfl ?_ | ((first | refine st0_ h rfl rfl ?_ | refine st1_ h rfl rfl ?_ | refine st2_ h rfl rfl ?_ | refine st3_ h rfl rfl ?_ | refine st4_ h rfl rfl ?_ | refine st5_ h rfl rfl ?_ | refine st6_ h rfl rfl ?_ | refine st7_ h rfl rfl ?_ | refine st8_ h rfl rfl ?_ | refine st9_ h rfl rfl ?_ | refine st10_ h rfl rfl ?_ | refine st11_ h rfl rfl ?_); clear h; (try clear w); intro w h; (try dsimp only [putN, setN] at h))))
      refine ⟨(t.1.rev, 0, ()), rfl, hk _ w ⟨okG, rA, rW, _, _, sA', sW', _, hA', hW', hr.del ok (fun p => (podGive p q).1) h4' hwth, rfl⟩ (St.back i hi ?_)⟩
      have h := dl4_ h
      exact h.eq (by simp)
theorem S_tKill (h : St w0 E w) (i : Nat) {A B : List Tr} {t : Tr} (hi : nth E i = some ((A ++ t :: B).map trS).flatten) (hp : PodS t.2.1 t.1.pod t.2.2) {k : Sl × Int × Unit → PT}
    (hk : ∀ v s' s2 w', PodS t.2.1 (podKill t.1.pod).1 s' → Rw eI T_int 1 v (podKill t.1.pod).2.1 s2 → St w0 (s2 :: setN E i ((A ++ ({ t.1 with pod := (podKill t.1.pod).1 }, t.2.1, s') :: B).map trS).flatten) w' → k (v, (podKill t.1.pod).2.2, ()) w') :
    L.call Pr n_pod_Pod_Kill [.pointer (some ⟨t.2.1, 0, none⟩)] (.tup [.one .slice, .one (.int .i64)]) k w := by
  refine S_pKill (h.front i hi).pick 0 rfl hp fun v s' s2 w hp' hr h => hk v s' s2 w hp' hr ?_
  have h : St w0 (s2 :: trS ({ t.1 with pod := (podKill t.1.pod).1 }, t.2.1, s') :: ((A ++ B).map trS).flatten :: delN E i) w := h
  have h := fr2_ (fr2_ h)
  have h := h.place
  exact St.back (i + 1) (E := s2 :: E) hi h
theorem S_fKill (h : St w0 E w) (i : Nat) {b : Nat} {F : AFleet} {s : Seg} (hi : nth E i = some s) (hf : FlS b F s) {id : Int} {k : Sl × Int × Unit → PT}
    (hk : ∀ v s' s2 w', FlS b (fKill F id).1 s' → Rw eI T_int 1 v (fKill F id).2.1 s2 → St w0 (s2 :: setN E i s') w' → k (v, (fKill F id).2.2, ()) w') :
    L.call Pr n_fleet_Fleet_Kill [.pointer (some ⟨b, 0, none⟩), I id] (.tup [.one .slice, .one (.int .i64)]) k w := by
  have hf0 := hf
  obtain ⟨ok, rA, rW, mA, mW, sA, sW, L, hA, hW, hr, rfl⟩ := hf
  refine call_of (C_fleet_Fleet_Kill _ _) ?_
  unfold F_fleet_Fleet_Kill
  have h : St w0 (flB b rA rW F :: sA :: sW :: (L.map trS).flatten :: delN E i) w := (h.front i hi).eq (by simp)
  (repeat (first | refine nn ?_ | (refine dr h ?_; clear h; (try clear w); intro w h) | refine ld0_ h rfl rfl ?_ | refine ld1_ h rfl rfl ?_ | refine ld2_ h rfl rfl ?_ | refine ld3_ h rfl rfl ?_ | refine ld4_ h rfl rfl ?_ | refine ld5_ h rfl rfl ?_ | refine ld6_ h rfl rfl ?_ | refine ld7_ h rfl rfl ?_ | refine ld8_ h rfl rfl ?_ | refine ld9_ h rfl rfl ?_ | refine ld10_ h rfl rfl ?_ | refine ld11_ h rfl rfl ?_ | refine la0_ h rfl ?_ | refine la1_ h rfl ?_ | refine la2_ h rfl ?_ | refine la3_ h rfl ?_ | refine la4_ h rfl ?_ | refine la5_ h rfl ?_ | refine la6_ h rfl ?_ | refine la7_ h rfl ?_ | refine la8_ h rfl ?_ | refine la9_ h rfl ?_ | refine la10_ h rfl ?_ | refine la11_ h rfl ?_ | refine ck0_ h rfl ?_ | refine ck1_ h rfl ?_ | refine ck2_ h rfl ?_ | refine ck3_ h rfl ?_ | refine ck4_ h rfl ?_ | refine ck5_ h rfl ?_ | refine ck6_ h rfl ?_ | refine ck7_ h rfl ?_ | refine ck8_ h rfl ?_ | refine ck9_ h rfl ?_ | refine ck10_ h rfl ?_ | refine ck11_ h rfl ?_ | ((first | refine st0_ h rfl rfl ?_ | refine st1_ h rfl rfl ?_ | refine st2_ h rfl rfl ?_ | refine st3_ h rfl rfl ?_ | refine st4_ h rfl rfl ?_ | refine st5_ h rfl rfl ?_ | refine st6_ h rfl rfl ?_ | refine st7_ h rfl rfl ?_ | refine st8_ h rfl rfl ?_ | refine st9_ h rfl rfl ?_ | refine st10_ h rfl rfl ?_ | refine st11_ h rfl rfl ?_); clear h; (try clear w); intro w h; (try dsimp only [putN, setN] at h))))
  refine MpS.get2 mkI und_map_o zo (fun x : ByteArray × Option Addr => (x.1, x.2, ())) (fun _ => rfl) h 1 rfl hA ?_
  cases hfd : fFind F.l id with
  | none =>
    rw [hr.get0 hfd]
    have e : fKill F id = (F, [], 6) := by unfold fKill; rw [hfd]
    rw [e] at hk
    simp only [Option.map_none, Option.getD_none, Option.isSome_none]
    refine nw h ?_; clear h; (try clear w); intro b4 w h
    (repeat (first | refine nn ?_ | (refine dr h ?_; clear h; (try clear w); intro w h) | refine ld0_ h rfl rfl ?_ | refine ld1_ h rfl rfl ?_ | refine ld2_ h rfl rfl ?_ | refine ld3_ h rfl rfl ?_ | refine ld4_ h rfl rfl ?_ | refine ld5_ h rfl rfl ?_ | refine ld6_ h rfl rfl ?_ | refine ld7_ h rfl rfl ?_ | refine ld8_ h rfl rfl ?_ | refine ld9_ h rfl rfl ?_ | refine ld10_ h rfl rfl ?_ | refine ld11_ h rfl rfl ?_ | refine la0_ h rfl ?_ | refine la1_ h rfl ?_ | refine la2_ h rfl ?_ | refine la3_ h rfl ?_ | refine la4_ h rfl ?_ | refine la5_ h rfl ?_ | refine la6_ h rfl ?_ | refine la7_ h rfl ?_ | refine la8_ h rfl ?_ | refine la9_ h rfl ?_ | refine la10_ h rfl ?_ | refine la11_ h rfl ?_ | refine ck0_ h rfl ?_ | refine ck1_ h rfl ?_ | refine ck2_ h rfl ?_ | refine ck3_ h rfl ?_ | refine ck4_ h rfl ?_ | refine ck5_ h rfl ?_ | refine ck6_ h rfl ?_ | refine ck7_ h rfl ?_ | refine ck8_ h rfl ?_ | refine ck9_ h rfl ?_ | refine ck10_ h rfl ?_ | refine ck11_ h rfl ?_ | ((first | refine st0_ h rfl rfl ?_ | refine st1_ h rfl rfl ?_ | refine st2_ h rfl rfl ?_ | refine st3_ h rfl rfl ?_ | refine st4_ h rfl rfl ?_ | refine st5_ h rfl rfl ?_ | refine st6_ h rfl rfl ?_ | refine st7_ h rfl rfl ?_ | refine st8_ h rfl rfl ?_ | refine st9_ h rfl rfl ?_ | refine st10_ h rfl rfl ?_ | refine st11_ h rfl rfl ?_); clear h; (try clear w); intro w h; (try dsimp only [putN, setN] at h))))
    refine itT rfl ?_
    have h := dl0_ h
    have h := St.back i hi (s' := flB b rA rW F ++ (sA ++ (sW ++ (L.map trS).flatten))) (h.eq (by simp))
    exact ⟨(⟨none, 0, 0⟩, 6, ()), rfl, hk ⟨none, 0, 0⟩ _ [] w hf0 Rw.nil (h.eq (by simp))⟩
  | some x =>
    obtain ⟨hxl, hxid⟩ := fFind_some hfd
    have e : fKill F id = ({ F with l := fUpd F.l id fun p => (podKill p).1 }, x.pod.reqs, 0) := by unfold fKill; rw [hfd]
    rw [e] at hk
    obtain ⟨A, t, B, rfl, rfl, -⟩ := hr.at hfd
    subst hxid
    have hg := hr.get ok (t := t) (by simp)
    have hps := hr.ps t (by simp)
    have hlv := ok.live t.1 hxl
    have hkl := kill_eq (p := t.1.pod) (by omega)
    have hfew := hps.1.few
    rw [hg]
    simp only [Option.map_some, Option.getD_some, Option.isSome_some]
    refine nw h ?_; clear h; (try clear w); intro b4 w h
    (repeat (first | refine nn ?_ | (refine dr h ?_; clear h; (try clear w); intro w h) | refine ld0_ h rfl rfl ?_ | refine ld1_ h rfl rfl ?_ | refine ld2_ h rfl rfl ?_ | refine ld3_ h rfl rfl ?_ | refine ld4_ h rfl rfl ?_ | refine ld5_ h rfl rfl ?_ | refine ld6_ h rfl rfl ?_ | refine ld7_ h rfl rfl ?_ | refine ld8_ h rfl rfl ?_ | refine ld9_ h rfl rfl ?_ | refine ld10_ h rfl rfl ?_ | refine ld11_ h rfl rfl ?_ | refine la0_ h rfl ?_ | refine la1_ h rfl ?_ | refine la2_ h rfl ?_ | refine la3_ h rfl ?_ | refine la4_ h rfl ?_ | refine la5_ h rfl ?_ | refine la6_ h rfl ?_ | refine la7_ h rfl ?_ | refine la8_ h rfl ?_ | refine la9_ h rfl ?_ | refine la10_ h rfl ?_ | refine la11_ h rfl ?_ | refine ck0_ h rfl ?_ | refine ck1_ h rfl ?_ | refine ck2_ h rfl ?_ | refine ck3_ h rfl ?_ | refine ck4_ h rfl ?_ | refine ck5_ h rfl ?_ | refine ck6_ h rfl ?_ | refine ck7_ h rfl ?_ | refine ck8_ h rfl ?_ | refine ck9_ h rfl ?_ | refine ck10_ h rfl ?_ | refine ck11_ h rfl ?_ | ((first | refine st0_ h rfl rfl ?_ | refine st1_ h rfl rfl ?_ | refine st2_ h rfl rfl ?_ | refine st3_ h rfl rfl ?_ | refine st4_ h rfl rfl ?_ | refine st5_ h rfl rfl ?_ | refine st6_ h rfl rfl ?_ | refine st7_ h rfl rfl ?_ | refine st8_ h rfl rfl ?_ | refine st9_ h rfl rfl ?_ | refine st10_ h rfl rfl ?_ | refine st11_ h rfl rfl ?_); clear h; (try clear w); intro w h; (try dsimp only [putN, setN] at h))))
    refine itF rfl ?_
    (repeat (first | refine nn ?_ | (refine dr h ?_; clear h; (try clear w); intro w h) | refine ld0_ h rfl rfl ?_ | refine ld1_ h rfl rfl ?_ | refine ld2_ h rfl rfl ?_ | refine ld3_ h rfl rfl ?_ | refine ld4_ h rfl rfl ?_ | refine ld5_ h rfl rfl ?_ | refine ld6_ h rfl rfl ?_ | refine ld7_ h rfl rfl ?_ | refine ld8_ h rfl rfl ?_ | refine ld9_ h rfl rfl ?_ | refine ld10_ h rfl rfl ?_ | refine ld11_ h rfl rfl ?_ | refine la0_ h rfl ?_ | refine la1_ h rfl ?_ | refine la2_ h rfl ?_ | refine la3_ h rfl ?_ | refine la4_ h rfl ?_ | refine la5_ h rfl ?_ | refine la6_ h rfl ?_ | refine la7_ h rfl ?_ | refine la8_ h rfl ?_ | refine la9_ h rfl ?_ | refine la10_ h rfl ?_ | refine la11_ h rfl ?_ | refine ck0_ h rfl ?_ | refine ck1_ h rfl ?_ | refine ck2_ h rfl ?_ | refine ck3_ h rfl ?_ | refine ck4_ h rfl ?_ | refine ck5_ h rfl ?_ | refine ck6_ h rfl ?_ | refine ck7_ h rfl ?_ | refine ck8_ h rfl ?_ | refine ck9_ h rfl ?_ | refine ck10_ h rfl ?_ | refine ck11_ h rfl ?_ | ((first | refine st0_ h rfl rfl ?_ | refine st1_ h rfl rfl ?_ | refine st2_ h rfl rfl ?_ | refine st3_ h rfl rfl ?_ | refine st4_ h rfl rfl ?_ | refine st5_ h rfl rfl ?_ | refine st6_ h rfl rfl ?_ | refine st7_ h rfl rfl ?_ | refine st8_ h rfl rfl ?_ | refine st9_ h rfl rfl ?_ | refine st10_ h rfl rfl ?_ | refine st11_ h rfl rfl ?_); clear h; (try clear w); intro w h; (try dsimp only [putN, setN] at h))))
    have h := dl0_ h
    refine S_tKill h 3 rfl hps fun v s' s2 w hps' hrow h => ?_
    dsimp only [setN] at h
    rw [hkl] at hrow
    rw [show (podKill t.1.pod).2.2 = 0 by rw [hkl]]
    dsimp only at hrow ⊢
    have hlen := Rw.len encI hrow
    have hst4 : (podKill t.1.pod).1.st = 4 := by rw [hkl]
    have hq2 : ∀ q2 ∈ (podKill t.1.pod).1.reqs, q2 ∈ t.1.pod.reqs ∨ fWhere F.l q2 = none := fun q2 h2 => by rw [hkl] at h2; simp at h2
    have okG := ok.upd hfd (fun p => (podKill p).1) (by rw [hkl]; simp) hq2
    have hwu := ok.where_upd hfd (fun p => (podKill p).1) hq2 (fun _ => by rw [hkl])
    have hw0 := hr.wth
    refine loop_of (fun q y w => ∃ (j : Nat) (mW : List (Int × Int)) (sW : Seg), y = ((j : Int), ()) ∧ q + j = t.1.pod.reqs.length ∧ MpS KI KI rW mW sW ∧ (∀ q', mget mW q' = if q' ∈ t.1.pod.reqs.take j then none else (fWhere F.l q').map (·.id)) ∧
      St w0 (s2 :: flB b rA rW F :: sA :: sW :: ((A ++ ({ t.1 with pod := (podKill t.1.pod).1 }, t.2.1, s') :: B).map trS).flatten :: delN E i) w) t.1.pod.reqs.length ⟨0, mW, sW, rfl, rfl, hW, by simpa using hw0, h⟩ ?_
    clear hW hf0
    clear h; (try clear w)
    rintro q y w ⟨j, mW', sW', rfl, hq, hW, hmw, h⟩ again hag
    dsimp only
    refine it (fun hc => ?_) (fun hc => ?_) <;> (try simp only [decide_eq_true_eq, decide_eq_false_iff_not, beq_iff_eq, bne_iff_ne, beq_eq_false_iff_ne, bne_eq_false_iff_eq, Bool.not_eq_true', Bool.not_eq_false', ne_eq, Bool.not_eq_true, Bool.not_eq_false] at hc)
    · have hj : j < t.1.pod.reqs.length := by omega
      have hx : t.1.pod.reqs[j]? = some t.1.pod.reqs[j] := List.getElem?_eq_getElem hj
      generalize t.1.pod.reqs[j] = z at hx
      refine Rw.ix encI hrow (by omega) (by simpa using hj) fun a ha => ?_
      rw [Int.toNat_natCast] at ha
      refine Rw.ld0 encI h 0 rfl hrow ha hx rfl rfl ?_
      (repeat (first | refine nn ?_ | (refine dr h ?_; clear h; (try clear w); intro w h) | refine ld0_ h rfl rfl ?_ | refine ld1_ h rfl rfl ?_ | refine ld2_ h rfl rfl ?_ | refine ld3_ h rfl rfl ?_ | refine ld4_ h rfl rfl ?_ | refine ld5_ h rfl rfl ?_ | refine ld6_ h rfl rfl ?_ | refine ld7_ h rfl rfl ?_ | refine ld8_ h rfl rfl ?_ | refine ld9_ h rfl rfl ?_ | refine ld10_ h rfl rfl ?_ | refine ld11_ h rfl rfl ?_ | refine la0_ h rfl ?_ | refine la1_ h rfl ?_ | refine la2_ h rfl ?_ | refine la3_ h rfl ?_ | refine la4_ h rfl ?_ | refine la5_ h rfl ?_ | refine la6_ h rfl ?_ | refine la7_ h rfl ?_ | refine la8_ h rfl ?_ | refine la9_ h rfl ?_ | refine la10_ h rfl ?_ | refine la11_ h rfl ?_ | refine ck0_ h rfl ?_ | refine ck1_ h rfl ?_ | refine ck2_ h rfl ?_ | refine ck3_ h rfl ?_ | refine ck4_ h rfl ?_ | refine ck5_ h rfl ?_ | refine ck6_ h rfl ?_ | refine ck7_ h rfl ?_ | refine ck8_ h rfl ?_ | refine ck9_ h rfl ?_ | refine ck10_ h rfl ?_ | refine ck11_ h rfl ?_ | ((first | refine st0_ h rfl rfl ?_ | refine st1_ h rfl rfl ?_ | refine st2_ h rfl rfl ?_ | refine st3_ h rfl rfl ?_ | refine st4_ h rfl rfl ?_ | refine st5_ h rfl rfl ?_ | refine st6_ h rfl rfl ?_ | refine st7_ h rfl rfl ?_ | refine st8_ h rfl rfl ?_ | refine st9_ h rfl rfl ?_ | refine st10_ h rfl rfl ?_ | refine st11_ h rfl rfl ?_); clear h; (try clear w); intro w h; (try dsimp only [putN, setN] at h))))
      refine MpS.del mkI und_map_i h 3 rfl hW fun sW2 w hW2 h => ?_
      refine hag (q - 1) _ w (by omega) ⟨j + 1, _, sW2, ?_, by omega, hW2, fun q' => ?_, h⟩
      · rw [wr (by omega) (by omega)]; simp
      · rw [mget_mdel _ _ hW.nd, hmw, List.take_add_one, hx]
        by_cases eq : z = q'
        · subst eq; simp
        · have : ¬ q' = z := fun e => eq e.symm
          simp [eq, this]
    · have hj : j = t.1.pod.reqs.length := by omega
      subst hj
      rw [List.take_length] at hmw
      have h := fr4_ (fr4_ (fr4_ (fr4_ h)))
      refine S_fend (t := ({ t.1 with pod := (podKill t.1.pod).1 }, t.2.1, s')) h hA hg hps' (fun h4' => absurd hst4 h4') fun h4' sA' w hA' h => ?_
      refine ⟨(v, 0, ()), rfl, hk v (flB b rA rW F ++ (sA' ++ (sW' ++ ((A ++ B).map trS).flatten))) s2 w ⟨okG, rA, rW, _, _, sA', sW', _, hA', hW, hr.del ok (fun p => (podKill p).1) h4' (fun q' => ?_), rfl⟩ hrow ?_⟩
      · rw [hmw, hwu, if_neg (c := q' ∈ (podKill t.1.pod).1.reqs) (by rw [hkl]; simp)]
      · exact St.back (i + 1) (E := s2 :: E) hi (h.eq (by simp [delN]))
end Go.Proofs.Ytheikjckdnhdhaa
