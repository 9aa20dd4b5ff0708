/- Contracts of functions, and walks of laws (text Pp). No conditions beyond those its theorems state. -/
import Derived.Test.YtheikjckdnhdhaaPo
set_option linter.all false
namespace Go.Proofs.Ytheikjckdnhdhaa
open Go.Dm
attribute [local irreducible] L.load L.store L.chk L.new L.nonnil L.guard L.ite L.draw L.idx L.sem L.semR L.semU L.chkSem L.next L.call L.callV L.join L.alts L.loop L.begin L.endRound L.range
variable {w0 w : World} {E : List Seg}
theorem S_cloneI (h : St w0 E w) {v : Sl} {l : List Int} (r : Rd w eI v l) (hn : l.length < 1000000000000) (h64 : v.a = none → l = []) {k : Sl → PT}
    (hk : ∀ (v' : Sl) s' w', Rw eI T_int 1 v' l s' → (v'.a = none ↔ v.a = none) → St w0 (s' :: E) w' → k v' w') : L.call Pr n_slices_Clone_int_int [SlV v] (.one (.one .slice)) k w := by
  refine call_of (C_slices_Clone_int_int _) ?_
  unfold F_slices_Clone_int_int
  exact clone_of (K := fun v w' => ∃ x, v = RT.val (.one (.one .slice)) x ∧ k x w') encI elI h r (by omega) hn h64 fun v' s' w' h1 h2 h3 => ⟨v', rfl, hk v' s' w' h1 h2 h3⟩
theorem Rw.nil_of {α : Type} {enc : α → List Value} {e size : Nat} {v : Sl} {l : List α} {s : Seg} (hE : Enc enc size) (hr : Rw enc e size v l s) (h : v.a = none) : l = [] := by
  have := Rw.len hE hr
  unfold Rw at hr
  generalize fl enc l = cs at hr
  cases hr with
  | nil => simpa using this.symm
  | mk => cases h
theorem S_pKill (h : St w0 E w) (i : Nat) {b : Nat} {p : APod} {s : Seg} (hi : nth E i = some s) (hp : PodS b p s) {k : Sl × Int × Unit → PT}
    (hk : ∀ v s' s2 w', PodS b (podKill p).1 s' → Rw eI T_int 1 v (podKill p).2.1 s2 → St w0 (s2 :: setN E i s') w' → k (v, (podKill p).2.2, ()) w') :
    L.call Pr n_pod_Pod_Kill [.pointer (some ⟨b, 0, none⟩)] (.tup [.one .slice, .one (.int .i64)]) k w := by
  have hp' := hp
  obtain ⟨ok, r, m, sm, hm, hb, rfl⟩ := hp
  refine call_of (C_pod_Pod_Kill _) ?_
  unfold F_pod_Pod_Kill
  have h := (h.front i hi).split
  (repeat (first | refine nn ?_ | (refine dr h ?_; clear h; (try clear w); intro w h) | refine ld0_ h rfl rfl ?_ | refine ld1_ h rfl rfl ?_ | refine ld2_ h rfl rfl ?_ | refine ld3_ h rfl rfl ?_ | refine ld4_ h rfl rfl ?_ | refine ld5_ h rfl rfl ?_ | refine ld6_ h rfl rfl ?_ | refine ld7_ h rfl rfl ?_ | refine ld8_ h rfl rfl ?_ | refine ld9_ h rfl rfl ?_ | refine ld10_ h rfl rfl ?_ | refine ld11_ h rfl rfl ?_ | refine la0_ h rfl ?_ | refine la1_ h rfl ?_ | refine la2_ h rfl ?_ | refine la3_ h rfl ?_ | refine la4_ h rfl ?_ | refine la5_ h rfl ?_ | refine la6_ h rfl ?_ | refine la7_ h rfl ?_ | refine la8_ h rfl ?_ | refine la9_ h rfl ?_ | refine la10_ h rfl ?_ | refine la11_ h rfl ?_ | refine ck0_ h rfl ?_ | refine ck1_ h rfl ?_ | refine ck2_ h rfl ?_ | refine ck3_ h rfl ?_ | refine ck4_ h rfl ?_ | refine ck5_ h rfl ?_ | refine ck6_ h rfl ?_ | refine ck7_ h rfl ?_ | refine ck8_ h rfl ?_ | refine ck9_ h rfl ?_ | refine ck10_ h rfl ?_ | refine ck11_ h rfl ?_ | ((first | refine st0_ h rfl rfl ?_ | refine st1_ h rfl rfl ?_ | refine st2_ h rfl rfl ?_ | refine st3_ h rfl rfl ?_ | refine st4_ h rfl rfl ?_ | refine st5_ h rfl rfl ?_ | refine st6_ h rfl rfl ?_ | refine st7_ h rfl rfl ?_ | refine st8_ h rfl rfl ?_ | refine st9_ h rfl rfl ?_ | refine st10_ h rfl rfl ?_ | refine st11_ h rfl rfl ?_); clear h; (try clear w); intro w h; (try dsimp only [putN, setN] at h))))
  refine it (fun hc => ?_) (fun hc => ?_) <;> (try simp only [decide_eq_true_eq, decide_eq_false_iff_not, beq_iff_eq, bne_iff_ne, beq_eq_false_iff_ne, bne_eq_false_iff_eq, Bool.not_eq_true', Bool.not_eq_false', ne_eq, Bool.not_eq_true, Bool.not_eq_false] at hc)
  · have e : podKill p = (p, [], 9) := by simp only [podKill]; rw [if_pos hc]
    rw [e] at hk
    have h := St.back i hi h.glue
    exact ⟨(⟨none, 0, 0⟩, 9, ()), rfl, hk ⟨none, 0, 0⟩ _ [] w hp' Rw.nil (h.eq (by simp))⟩
  have e : podKill p = ({ p with st := 4, reqs := [] }, p.reqs, 0) := by simp only [podKill]; rw [if_neg hc]
  rw [e] at hk
  have hl := hb.len
  have hfew := ok.few
  (repeat (first | refine nn ?_ | (refine dr h ?_; clear h; (try clear w); intro w h) | refine ld0_ h rfl rfl ?_ | refine ld1_ h rfl rfl ?_ | refine ld2_ h rfl rfl ?_ | refine ld3_ h rfl rfl ?_ | refine ld4_ h rfl rfl ?_ | refine ld5_ h rfl rfl ?_ | refine ld6_ h rfl rfl ?_ | refine ld7_ h rfl rfl ?_ | refine ld8_ h rfl rfl ?_ | refine ld9_ h rfl rfl ?_ | refine ld10_ h rfl rfl ?_ | refine ld11_ h rfl rfl ?_ | refine la0_ h rfl ?_ | refine la1_ h rfl ?_ | refine la2_ h rfl ?_ | refine la3_ h rfl ?_ | refine la4_ h rfl ?_ | refine la5_ h rfl ?_ | refine la6_ h rfl ?_ | refine la7_ h rfl ?_ | refine la8_ h rfl ?_ | refine la9_ h rfl ?_ | refine la10_ h rfl ?_ | refine la11_ h rfl ?_ | refine ck0_ h rfl ?_ | refine ck1_ h rfl ?_ | refine ck2_ h rfl ?_ | refine ck3_ h rfl ?_ | refine ck4_ h rfl ?_ | refine ck5_ h rfl ?_ | refine ck6_ h rfl ?_ | refine ck7_ h rfl ?_ | refine ck8_ h rfl ?_ | refine ck9_ h rfl ?_ | refine ck10_ h rfl ?_ | refine ck11_ h rfl ?_ | ((first | refine st0_ h rfl rfl ?_ | refine st1_ h rfl rfl ?_ | refine st2_ h rfl rfl ?_ | refine st3_ h rfl rfl ?_ | refine st4_ h rfl rfl ?_ | refine st5_ h rfl rfl ?_ | refine st6_ h rfl rfl ?_ | refine st7_ h rfl rfl ?_ | refine st8_ h rfl rfl ?_ | refine st9_ h rfl rfl ?_ | refine st10_ h rfl rfl ?_ | refine st11_ h rfl rfl ?_); clear h; (try clear w); intro w h; (try dsimp only [putN, setN] at h))))
  refine S_KSb h 1 rfl hm (by omega) fun v1 s1 w hr1 h => ?_
  rw [isort_of hb.2 (ok.pw.imp (fun h => by omega))] at hr1
  refine S_cloneI h (hr1.rd encI h 0 rfl) (by omega) (Rw.nil_of encI hr1) fun v2 s2 w hr2 _ h => ?_
  have h := dl1_ h
  have hlen := Rw.len encI hr2
  refine loop_of (fun q y w => ∃ (j : Nat) (m : List (Int × Bool)) (sm : Seg), y = ((j : Int), ()) ∧ q + j = p.reqs.length ∧ MpS KI Value.bool r m sm ∧ BagIs m (p.reqs.drop j) ∧ St w0 (s2 :: [Cl b T_pod_Pod [I p.st, .map (some r), I p.conc]] :: sm :: delN E i) w) p.reqs.length ⟨0, m, sm, rfl, rfl, hm, hb, h⟩ ?_
  clear hm hb hp'; (clear h; (try clear w))
  rintro q y w ⟨j, m, sm, rfl, hq, hm, hb, h⟩ again hag
  dsimp only
  refine it (fun hd => ?_) (fun hd => ?_) <;> (try simp only [decide_eq_true_eq, decide_eq_false_iff_not, beq_iff_eq, bne_iff_ne, beq_eq_false_iff_ne, bne_eq_false_iff_eq, Bool.not_eq_true', Bool.not_eq_false', ne_eq, Bool.not_eq_true, Bool.not_eq_false] at hd)
  · have hj : j < p.reqs.length := by omega
    have ed : p.reqs.drop j = p.reqs[j] :: p.reqs.drop (j + 1) := List.drop_eq_getElem_cons hj
    refine Rw.ix encI hr2 (by omega) (by simpa using hj) fun a ha => ?_
    refine Rw.ld0 encI h 0 rfl hr2 ha (x := p.reqs[j]) (by simp [hj]) rfl rfl ?_
    refine nn ?_
    have h := fr2_ (fr2_ h)
    refine S_bagTake (pre := [I p.st]) (o := 0) (post := [I p.conc]) rfl hm hb h fun m' sm' w hm hb h => ?_
    refine hag (q - 1) _ w (by omega) ⟨j + 1, m', sm', ?_, by omega, hm, ?_, ?_⟩
    · rw [wr (by omega) (by omega)]; simp
    · rw [ed, List.erase_cons_head] at hb; exact hb
    · have h := fr2_ (fr1_ (fr1_ h))
      exact h
  · have e : j = p.reqs.length := by omega
    subst e
    rw [List.drop_length] at hb
    (repeat (first | refine nn ?_ | (refine dr h ?_; clear h; (try clear w); intro w h) | refine ld0_ h rfl rfl ?_ | refine ld1_ h rfl rfl ?_ | refine ld2_ h rfl rfl ?_ | refine ld3_ h rfl rfl ?_ | refine ld4_ h rfl rfl ?_ | refine ld5_ h rfl rfl ?_ | refine ld6_ h rfl rfl ?_ | refine ld7_ h rfl rfl ?_ | refine ld8_ h rfl rfl ?_ | refine ld9_ h rfl rfl ?_ | refine ld10_ h rfl rfl ?_ | refine ld11_ h rfl rfl ?_ | refine la0_ h rfl ?_ | refine la1_ h rfl ?_ | refine la2_ h rfl ?_ | refine la3_ h rfl ?_ | refine la4_ h rfl ?_ | refine la5_ h rfl ?_ | refine la6_ h rfl ?_ | refine la7_ h rfl ?_ | refine la8_ h rfl ?_ | refine la9_ h rfl ?_ | refine la10_ h rfl ?_ | refine la11_ h rfl ?_ | refine ck0_ h rfl ?_ | refine ck1_ h rfl ?_ | refine ck2_ h rfl ?_ | refine ck3_ h rfl ?_ | refine ck4_ h rfl ?_ | refine ck5_ h rfl ?_ | refine ck6_ h rfl ?_ | refine ck7_ h rfl ?_ | refine ck8_ h rfl ?_ | refine ck9_ h rfl ?_ | refine ck10_ h rfl ?_ | refine ck11_ h rfl ?_ | ((first | refine st0_ h rfl rfl ?_ | refine st1_ h rfl rfl ?_ | refine st2_ h rfl rfl ?_ | refine st3_ h rfl rfl ?_ | refine st4_ h rfl rfl ?_ | refine st5_ h rfl rfl ?_ | refine st6_ h rfl rfl ?_ | refine st7_ h rfl rfl ?_ | refine st8_ h rfl rfl ?_ | refine st9_ h rfl rfl ?_ | refine st10_ h rfl rfl ?_ | refine st11_ h rfl rfl ?_); clear h; (try clear w); intro w h; (try dsimp only [putN, setN] at h))))
    refine ⟨(v2, 0, ()), rfl, hk v2 _ s2 w ⟨⟨by simp, by simp, by simp, by simp⟩, r, m, sm, hm, hb, rfl⟩ hr2 ?_⟩
    have h := fr2_ (fr2_ h)
    exact St.back (i + 1) (E := s2 :: E) hi h.glue
end Go.Proofs.Ytheikjckdnhdhaa
