/- Contracts of functions, and walks of laws (text Fj). No conditions beyond those its theorems state. -/
import Derived.Test.YtheikjckdnhdhaaFi
set_option linter.all false
namespace Go.Proofs.Ytheikjckdnhdhaa
open Go.Dm
attribute [local irreducible] L.load L.store L.chk L.new L.nonnil L.guard L.ite L.draw L.idx L.sem L.semR L.semU L.chkSem L.next L.call L.callV L.join L.alts L.loop L.begin L.endRound L.range
variable {w0 w : World} {E : List Seg}
def fTake (F : AFleet) (rev : ByteArray) (q : Int) : AFleet × Int × Bool :=
  if (fWhere F.l q).isSome then (F, 0, false) else match fPick F.l rev with
  | none => (F, 0, false)
  | some x => ({ F with l := fUpd F.l x.id fun p => (podTake p q).1 }, x.id, true)
theorem pick_ok : ∀ {R : List AHeld} {b x : Option AHeld}, R.foldl pickStep b = x → (∀ y, b = some y → can y = true) → ∀ y, x = some y → can y = true ∧ (y ∈ R ∨ b = some y)
  | [], b, x, h, hb, y, hy => by subst h; exact ⟨hb y hy, .inr hy⟩
  | z :: R, b, x, h, hb, y, hy => by
    rw [List.foldl_cons] at h
    have hz : ∀ y, pickStep b z = some y → can y = true ∧ (y = z ∨ b = some y) := by
      intro y hy
      unfold pickStep at hy
      cases b with
      | none => simp only at hy; split at hy <;> simp at hy; subst hy; exact ⟨by assumption, .inl rfl⟩
      | some u =>
        simp only at hy
        split at hy
        · simp at hy; subst hy; rename_i h; exact ⟨h.1, .inl rfl⟩
        · simp at hy; subst hy; exact ⟨hb u rfl, .inr rfl⟩
    have := pick_ok h (fun y hy => (hz y hy).1) y hy
    refine ⟨this.1, ?_⟩
    rcases this.2 with h | h
    · left; simp [h]
    · rcases (hz y h).2 with e | e
      · left; simp [e]
      · right; exact e
theorem pick_mem {l : List AHeld} {rev : ByteArray} {x : AHeld} (h : fPick l rev = some x) : x ∈ l ∧ x.rev = rev ∧ can x = true := by
  have := pick_ok h (by simp) x rfl
  rcases this.2 with h2 | h2
  · exact ⟨(List.mem_filter.1 h2).1, of_decide_eq_true (List.mem_filter.1 h2).2, this.1⟩
  · cases h2
theorem take_eq {x : AHeld} (hc : can x = true) {q : Int} (hq : q ∉ x.pod.reqs) : podTake x.pod q = ({ x.pod with reqs := insI q x.pod.reqs }, 0) := by
  have := of_decide_eq_true hc
  unfold podTake; rw [if_neg (by omega), if_neg hq, if_neg (by omega)]
theorem take_ne {x : AHeld} (hc : ¬ can x = true) {q : Int} (hq : q ∉ x.pod.reqs) : (podTake x.pod q).1 = x.pod ∧ (podTake x.pod q).2 ≠ 0 := by
  have : ¬ (x.pod.st = 2 ∧ (x.pod.reqs.length : Int) < x.pod.conc) := fun h => hc (decide_eq_true h)
  unfold podTake
  by_cases h : x.pod.st ≠ 2
  · rw [if_pos h]; exact ⟨rfl, by simp⟩
  · rw [if_neg h, if_neg hq, if_pos (by omega)]; exact ⟨rfl, by simp⟩
theorem csort_perm (l : List (Int × Int)) : (csort l).Perm l := by
  suffices ∀ (l a : List (Int × Int)), (l.foldl (fun a x => insC x a) a).Perm (a ++ l) from by simpa [csort] using this l []
  intro l
  induction l with
  | nil => intro a; simp
  | cons y l ih =>
    intro a
    refine (ih _).trans (((insC_perm y a).append_right l).trans ?_)
    exact (List.perm_middle (a := y) (l₁ := a) (l₂ := l)).symm
theorem fWhere_of {l : List AHeld} (once : l.Pairwise (fun x y => ∀ q ∈ x.pod.reqs, q ∉ y.pod.reqs)) {x : AHeld} (hx : x ∈ l) {q : Int} (hq : q ∈ x.pod.reqs) : fWhere l q = some x := by
  unfold fWhere
  induction l with
  | nil => simp at hx
  | cons y l ih =>
    rw [List.pairwise_cons] at once
    rcases List.mem_cons.1 hx with rfl | hx
    · rw [List.find?_cons_of_pos (by simpa using hq)]
    · rw [List.find?_cons_of_neg (by simpa using fun h => once.1 x hx q h hq)]
      exact ih once.2 hx
theorem fTake_ok {F : AFleet} (ok : F.Ok) (rev : ByteArray) (q : Int) : (fTake F rev q).1.Ok := by
  unfold fTake
  split
  · exact ok
  · rename_i hw
    split
    · exact ok
    · rename_i x hp
      obtain ⟨hx, -, hc⟩ := pick_mem hp
      have hn : fWhere F.l q = none := by cases h : fWhere F.l q <;> simp [h] at hw ⊢
      have ht := take_eq hc (fWhere_none hn x hx)
      have hcc := of_decide_eq_true hc
      refine ok.upd (fFind_of ok.pw hx) _ ?_ ?_
      · rw [ht]; simp only; omega
      · rw [ht]
        intro q2 h2
        rcases insI_mem.1 h2 with rfl | h2
        · exact .inr hn
        · exact .inl h2
theorem S_tTake (h : St w0 E w) (i : Nat) {A B : List Tr} {t : Tr} (hi : nth E i = some ((A ++ t :: B).map trS).flatten) (hp : PodS t.2.1 t.1.pod t.2.2) (hfew : t.1.pod.reqs.length < 10000000) {q : Int} {k : Int → PT}
    (hk : ∀ s' w', PodS t.2.1 (podTake t.1.pod q).1 s' → St w0 (setN E i ((A ++ ({ t.1 with pod := (podTake t.1.pod q).1 }, t.2.1, s') :: B).map trS).flatten) w' → k (podTake t.1.pod q).2 w') :
    L.call Pr n_pod_Pod_Take [.pointer (some ⟨t.2.1, 0, none⟩), I q] (.one (.one (.int .i64))) k w := by
  refine S_pTake (h.front i hi).pick 0 rfl hp hfew fun s' w hp' h => hk s' w hp' ?_
  have h : St w0 (trS ({ t.1 with pod := (podTake t.1.pod q).1 }, t.2.1, s') :: ((A ++ B).map trS).flatten :: delN E i) w := h
  exact St.back i hi h.place
theorem FlR.same {F : AFleet} {A B : List Tr} {t : Tr} {mA mW} (hr : FlR F (A ++ t :: B) mA mW) {s' : Seg} (hp : PodS t.2.1 t.1.pod s') : FlR F (A ++ (t.1, t.2.1, s') :: B) mA mW := by
  refine ⟨by rw [hr.l]; simp, fun y hy => ?_, by have := hr.all; simp only [List.map_append, List.map_cons] at this ⊢; exact this, hr.wth⟩
  rcases List.mem_append.1 hy with hy | hy
  · exact hr.ps y (by simp [hy])
  · rcases List.mem_cons.1 hy with rfl | hy
    · exact hp
    · exact hr.ps y (by simp [hy])
theorem FlR.getW {F : AFleet} {L : List Tr} {mA mW} (hr : FlR F L mA mW) (q : Int) : (mget mW q).isSome = (fWhere F.l q).isSome := by rw [hr.wth]; cases fWhere F.l q <;> rfl
theorem S_fTake (h : St w0 E w) (i : Nat) {b : Nat} {F : AFleet} {s : Seg} (hi : nth E i = some s) (hf : FlS b F s) {rev : ByteArray} {q : Int} (h20 : (revs F.l rev).length ≤ 20) (hfew : ∀ x ∈ F.l, x.pod.reqs.length < 10000000) {k : Int × Bool × Unit → PT}
    (hk : ∀ s' w', FlS b (fTake F rev q).1 s' → St w0 (setN E i s') w' → k ((fTake F rev q).2.1, (fTake F rev q).2.2, ()) w') :
    L.call Pr n_fleet_Fleet_Take [.pointer (some ⟨b, 0, none⟩), .string rev, I q] (.tup [.one (.int .i64), .one .bool]) k w := by
  have hf0 := hf
  obtain ⟨ok, rA, rW, mA, mW, sA, sW, L, hA, hW, hr, rfl⟩ := hf
  refine call_of (C_fleet_Fleet_Take _ _ _) ?_
  unfold F_fleet_Fleet_Take
  have hll : L.length = F.l.length := by rw [hr.l]; simp
  have hcount := ok.few
  have h : St w0 (flB b rA rW F :: sA :: sW :: (L.map trS).flatten :: delN E i) w := (h.front i hi).eq (by simp)
  (repeat (first | refine nn ?_ | (refine dr h ?_; clear h; (try clear w); intro w h) | refine ld0_ h rfl rfl ?_ | refine ld1_ h rfl rfl ?_ | refine ld2_ h rfl rfl ?_ | refine ld3_ h rfl rfl ?_ | refine ld4_ h rfl rfl ?_ | refine ld5_ h rfl rfl ?_ | refine ld6_ h rfl rfl ?_ | refine ld7_ h rfl rfl ?_ | refine ld8_ h rfl rfl ?_ | refine ld9_ h rfl rfl ?_ | refine ld10_ h rfl rfl ?_ | refine ld11_ h rfl rfl ?_ | refine la0_ h rfl ?_ | refine la1_ h rfl ?_ | refine la2_ h rfl ?_ | refine la3_ h rfl ?_ | refine la4_ h rfl ?_ | refine la5_ h rfl ?_ | refine la6_ h rfl ?_ | refine la7_ h rfl ?_ | refine la8_ h rfl ?_ | refine la9_ h rfl ?_ | refine la10_ h rfl ?_ | refine la11_ h rfl ?_ | refine ck0_ h rfl ?_ | refine ck1_ h rfl ?_ | refine ck2_ h rfl ?_ | refine ck3_ h rfl ?_ | refine ck4_ h rfl ?_ | refine ck5_ h rfl ?_ | refine ck6_ h rfl ?_ | refine ck7_ h rfl ?_ | refine ck8_ h rfl ?_ | refine ck9_ h rfl ?_ | refine ck10_ h rfl ?_ | refine ck11_ h rfl ?_ | ((first | refine st0_ h rfl rfl ?_ | refine st1_ h rfl rfl ?_ | refine st2_ h rfl rfl ?_ | refine st3_ h rfl rfl ?_ | refine st4_ h rfl rfl ?_ | refine st5_ h rfl rfl ?_ | refine st6_ h rfl rfl ?_ | refine st7_ h rfl rfl ?_ | refine st8_ h rfl rfl ?_ | refine st9_ h rfl rfl ?_ | refine st10_ h rfl rfl ?_ | refine st11_ h rfl rfl ?_); clear h; (try clear w); intro w h; (try dsimp only [putN, setN] at h))))
  refine MpS.get2 mkI und_map_i zi (fun x : Int => x) (fun _ => rfl) h 2 rfl hW ?_
  rw [hr.getW]
  refine it (fun hc => ?_) (fun hc => ?_) <;> (try simp only [decide_eq_true_eq, decide_eq_false_iff_not, beq_iff_eq, bne_iff_ne, beq_eq_false_iff_ne, bne_eq_false_iff_eq, Bool.not_eq_true', Bool.not_eq_false', ne_eq, Bool.not_eq_true, Bool.not_eq_false] at hc)
  · have e : fTake F rev q = (F, 0, false) := by unfold fTake; rw [if_pos hc]
    rw [e] at hk
    exact ⟨(0, false, ()), rfl, hk _ w hf0 (St.back i hi (h.eq (by simp)))⟩
  have hn : fWhere F.l q = none := by cases h : fWhere F.l q <;> simp [h] at hc ⊢
  have hno := fWhere_none hn
  refine nw h ?_; clear h; (try clear w); intro b4 w h
  refine S_of h fun c0 c1 w h => ?_
  have h := fr3_ (fr3_ (fr4_ (fr4_ h)))
  have h : St w0 ([[Cl c1 T_string [.string rev]], [Cl c0 T_p_fleet_Fleet [.pointer (some ⟨b, 0, none⟩)]], flB b rA rW F, sA] ++ [Cl b4 T_s_fleet_choice [SlV ⟨none, 0, 0⟩]] :: [] :: sW :: (L.map trS).flatten :: delN E i) w := h.eq (by simp)
  have hR := hr.revs rev
  have hlR : (L.filter (revP rev)).length ≤ 20 := by rw [hR, List.length_map] at h20; exact h20
  refine range_ofX (A := [_, _, _, _]) (Y_of ok hA hr) h (fun m G => ∃ v sv, Rw eC T_fleet_choice 2 v (((L.filter (revP rev)).take m).map fun t => key t.1) sv ∧ G = [Cl b4 T_s_fleet_choice [SlV v]] :: sv :: sW :: (L.map trS).flatten :: delN E i) (fun j G => False) ⟨_, _, Rw.nil, rfl⟩ ?_ ?_ ?_
  · rintro m G X w lv lp d R hm ⟨v, sv, hv, rfl⟩ h hN hE
    have hx := List.getElem?_eq_getElem hm
    have h : St w0 ([Rec lv lp .busy none] :: [DfM d] :: [Cl c1 T_string [.string rev]] :: [Cl c0 T_p_fleet_Fleet [.pointer (some ⟨b, 0, none⟩)]] :: flB b rA rW F :: sA :: [Cl b4 T_s_fleet_choice [SlV v]] :: sv :: sW :: (L.map trS).flatten :: (delN E i ++ X)) w := h
    rw [argO_at hm]
    dsimp only
    have hmem := lr_mem hm
    have hps := hr.ps _ hmem
    (repeat (first | refine nn ?_ | (refine dr h ?_; clear h; (try clear w); intro w h) | refine ld0_ h rfl rfl ?_ | refine ld1_ h rfl rfl ?_ | refine ld2_ h rfl rfl ?_ | refine ld3_ h rfl rfl ?_ | refine ld4_ h rfl rfl ?_ | refine ld5_ h rfl rfl ?_ | refine ld6_ h rfl rfl ?_ | refine ld7_ h rfl rfl ?_ | refine ld8_ h rfl rfl ?_ | refine ld9_ h rfl rfl ?_ | refine ld10_ h rfl rfl ?_ | refine ld11_ h rfl rfl ?_ | refine la0_ h rfl ?_ | refine la1_ h rfl ?_ | refine la2_ h rfl ?_ | refine la3_ h rfl ?_ | refine la4_ h rfl ?_ | refine la5_ h rfl ?_ | refine la6_ h rfl ?_ | refine la7_ h rfl ?_ | refine la8_ h rfl ?_ | refine la9_ h rfl ?_ | refine la10_ h rfl ?_ | refine la11_ h rfl ?_ | refine ck0_ h rfl ?_ | refine ck1_ h rfl ?_ | refine ck2_ h rfl ?_ | refine ck3_ h rfl ?_ | refine ck4_ h rfl ?_ | refine ck5_ h rfl ?_ | refine ck6_ h rfl ?_ | refine ck7_ h rfl ?_ | refine ck8_ h rfl ?_ | refine ck9_ h rfl ?_ | refine ck10_ h rfl ?_ | refine ck11_ h rfl ?_ | ((first | refine st0_ h rfl rfl ?_ | refine st1_ h rfl rfl ?_ | refine st2_ h rfl rfl ?_ | refine st3_ h rfl rfl ?_ | refine st4_ h rfl rfl ?_ | refine st5_ h rfl rfl ?_ | refine st6_ h rfl rfl ?_ | refine st7_ h rfl rfl ?_ | refine st8_ h rfl rfl ?_ | refine st9_ h rfl rfl ?_ | refine st10_ h rfl rfl ?_ | refine st11_ h rfl rfl ?_); clear h; (try clear w); intro w h; (try dsimp only [putN, setN] at h))))
    refine S_tLoad h 9 rfl hmem hps ?_
    (repeat (first | refine nn ?_ | (refine dr h ?_; clear h; (try clear w); intro w h) | refine ld0_ h rfl rfl ?_ | refine ld1_ h rfl rfl ?_ | refine ld2_ h rfl rfl ?_ | refine ld3_ h rfl rfl ?_ | refine ld4_ h rfl rfl ?_ | refine ld5_ h rfl rfl ?_ | refine ld6_ h rfl rfl ?_ | refine ld7_ h rfl rfl ?_ | refine ld8_ h rfl rfl ?_ | refine ld9_ h rfl rfl ?_ | refine ld10_ h rfl rfl ?_ | refine ld11_ h rfl rfl ?_ | refine la0_ h rfl ?_ | refine la1_ h rfl ?_ | refine la2_ h rfl ?_ | refine la3_ h rfl ?_ | refine la4_ h rfl ?_ | refine la5_ h rfl ?_ | refine la6_ h rfl ?_ | refine la7_ h rfl ?_ | refine la8_ h rfl ?_ | refine la9_ h rfl ?_ | refine la10_ h rfl ?_ | refine la11_ h rfl ?_ | refine ck0_ h rfl ?_ | refine ck1_ h rfl ?_ | refine ck2_ h rfl ?_ | refine ck3_ h rfl ?_ | refine ck4_ h rfl ?_ | refine ck5_ h rfl ?_ | refine ck6_ h rfl ?_ | refine ck7_ h rfl ?_ | refine ck8_ h rfl ?_ | refine ck9_ h rfl ?_ | refine ck10_ h rfl ?_ | refine ck11_ h rfl ?_ | ((first | refine st0_ h rfl rfl ?_ | refine st1_ h rfl rfl ?_ | refine st2_ h rfl rfl ?_ | refine st3_ h rfl rfl ?_ | refine st4_ h rfl rfl ?_ | refine st5_ h rfl rfl ?_ | refine st6_ h rfl rfl ?_ | refine st7_ h rfl rfl ?_ | refine st8_ h rfl rfl ?_ | refine st9_ h rfl rfl ?_ | refine st10_ h rfl rfl ?_ | refine st11_ h rfl rfl ?_); clear h; (try clear w); intro w h; (try dsimp only [putN, setN] at h))))
    refine nw h ?_; clear h; (try clear w); intro b11 w h
    (repeat (first | refine nn ?_ | (refine dr h ?_; clear h; (try clear w); intro w h) | refine ld0_ h rfl rfl ?_ | refine ld1_ h rfl rfl ?_ | refine ld2_ h rfl rfl ?_ | refine ld3_ h rfl rfl ?_ | refine ld4_ h rfl rfl ?_ | refine ld5_ h rfl rfl ?_ | refine ld6_ h rfl rfl ?_ | refine ld7_ h rfl rfl ?_ | refine ld8_ h rfl rfl ?_ | refine ld9_ h rfl rfl ?_ | refine ld10_ h rfl rfl ?_ | refine ld11_ h rfl rfl ?_ | refine la0_ h rfl ?_ | refine la1_ h rfl ?_ | refine la2_ h rfl ?_ | refine la3_ h rfl ?_ | refine la4_ h rfl ?_ | refine la5_ h rfl ?_ | refine la6_ h rfl ?_ | refine la7_ h rfl ?_ | refine la8_ h rfl ?_ | refine la9_ h rfl ?_ | refine la10_ h rfl ?_ | refine la11_ h rfl ?_ | refine ck0_ h rfl ?_ | refine ck1_ h rfl ?_ | refine ck2_ h rfl ?_ | refine ck3_ h rfl ?_ | refine ck4_ h rfl ?_ | refine ck5_ h rfl ?_ | refine ck6_ h rfl ?_ | refine ck7_ h rfl ?_ | refine ck8_ h rfl ?_ | refine ck9_ h rfl ?_ | refine ck10_ h rfl ?_ | refine ck11_ h rfl ?_ | ((first | refine st0_ h rfl rfl ?_ | refine st1_ h rfl rfl ?_ | refine st2_ h rfl rfl ?_ | refine st3_ h rfl rfl ?_ | refine st4_ h rfl rfl ?_ | refine st5_ h rfl rfl ?_ | refine st6_ h rfl rfl ?_ | refine st7_ h rfl rfl ?_ | refine st8_ h rfl rfl ?_ | refine st9_ h rfl rfl ?_ | refine st10_ h rfl rfl ?_ | refine st11_ h rfl rfl ?_); clear h; (try clear w); intro w h; (try dsimp only [putN, setN] at h))))
    refine Rw.app encC elC h 7 rfl hv (key (L.filter (revP rev))[m].1) rfl (by simp; omega) (by simp; omega) fun v' s' w hv h => ?_
    (repeat (first | refine nn ?_ | (refine dr h ?_; clear h; (try clear w); intro w h) | refine ld0_ h rfl rfl ?_ | refine ld1_ h rfl rfl ?_ | refine ld2_ h rfl rfl ?_ | refine ld3_ h rfl rfl ?_ | refine ld4_ h rfl rfl ?_ | refine ld5_ h rfl rfl ?_ | refine ld6_ h rfl rfl ?_ | refine ld7_ h rfl rfl ?_ | refine ld8_ h rfl rfl ?_ | refine ld9_ h rfl rfl ?_ | refine ld10_ h rfl rfl ?_ | refine ld11_ h rfl rfl ?_ | refine la0_ h rfl ?_ | refine la1_ h rfl ?_ | refine la2_ h rfl ?_ | refine la3_ h rfl ?_ | refine la4_ h rfl ?_ | refine la5_ h rfl ?_ | refine la6_ h rfl ?_ | refine la7_ h rfl ?_ | refine la8_ h rfl ?_ | refine la9_ h rfl ?_ | refine la10_ h rfl ?_ | refine la11_ h rfl ?_ | refine ck0_ h rfl ?_ | refine ck1_ h rfl ?_ | refine ck2_ h rfl ?_ | refine ck3_ h rfl ?_ | refine ck4_ h rfl ?_ | refine ck5_ h rfl ?_ | refine ck6_ h rfl ?_ | refine ck7_ h rfl ?_ | refine ck8_ h rfl ?_ | refine ck9_ h rfl ?_ | refine ck10_ h rfl ?_ | refine ck11_ h rfl ?_ | ((first | refine st0_ h rfl rfl ?_ | refine st1_ h rfl rfl ?_ | refine st2_ h rfl rfl ?_ | refine st3_ h rfl rfl ?_ | refine st4_ h rfl rfl ?_ | refine st5_ h rfl rfl ?_ | refine st6_ h rfl rfl ?_ | refine st7_ h rfl rfl ?_ | refine st8_ h rfl rfl ?_ | refine st9_ h rfl rfl ?_ | refine st10_ h rfl rfl ?_ | refine st11_ h rfl rfl ?_); clear h; (try clear w); intro w h; (try dsimp only [putN, setN] at h))))
    refine hN _ w ⟨v', s', ?_, rfl⟩ h
    rw [List.take_add_one, hx, List.map_append]; exact hv
  · rintro d G w ⟨v, sv, hv, rfl⟩ h
    have h : St w0 ([DfM d] :: [Cl c1 T_string [.string rev]] :: [Cl c0 T_p_fleet_Fleet [.pointer (some ⟨b, 0, none⟩)]] :: flB b rA rW F :: sA :: [Cl b4 T_s_fleet_choice [SlV v]] :: sv :: sW :: (L.map trS).flatten :: delN E i) w := h
    rw [List.take_length] at hv
    have e : (L.filter (revP rev)).map (fun t => key t.1) = (revs F.l rev).map key := by rw [hR, List.map_map]; rfl
    rw [e] at hv
    have h := dl1_ (dl2_ h)
    refine jumpN ?_
    (repeat (first | refine nn ?_ | (refine dr h ?_; clear h; (try clear w); intro w h) | refine ld0_ h rfl rfl ?_ | refine ld1_ h rfl rfl ?_ | refine ld2_ h rfl rfl ?_ | refine ld3_ h rfl rfl ?_ | refine ld4_ h rfl rfl ?_ | refine ld5_ h rfl rfl ?_ | refine ld6_ h rfl rfl ?_ | refine ld7_ h rfl rfl ?_ | refine ld8_ h rfl rfl ?_ | refine ld9_ h rfl rfl ?_ | refine ld10_ h rfl rfl ?_ | refine ld11_ h rfl rfl ?_ | refine la0_ h rfl ?_ | refine la1_ h rfl ?_ | refine la2_ h rfl ?_ | refine la3_ h rfl ?_ | refine la4_ h rfl ?_ | refine la5_ h rfl ?_ | refine la6_ h rfl ?_ | refine la7_ h rfl ?_ | refine la8_ h rfl ?_ | refine la9_ h rfl ?_ | refine la10_ h rfl ?_ | refine la11_ h rfl ?_ | refine ck0_ h rfl ?_ | refine ck1_ h rfl ?_ | refine ck2_ h rfl ?_ | refine ck3_ h rfl ?_ | refine ck4_ h rfl ?_ | refine ck5_ h rfl ?_ | refine ck6_ h rfl ?_ | refine ck7_ h rfl ?_ | refine ck8_ h rfl ?_ | refine ck9_ h rfl ?_ | refine ck10_ h rfl ?_ | refine ck11_ h rfl ?_ | ((first | refine st0_ h rfl rfl ?_ | refine st1_ h rfl rfl ?_ | refine st2_ h rfl rfl ?_ | refine st3_ h rfl rfl ?_ | refine st4_ h rfl rfl ?_ | refine st5_ h rfl rfl ?_ | refine st6_ h rfl rfl ?_ | refine st7_ h rfl rfl ?_ | refine st8_ h rfl rfl ?_ | refine st9_ h rfl rfl ?_ | refine st10_ h rfl rfl ?_ | refine st11_ h rfl rfl ?_); clear h; (try clear w); intro w h; (try dsimp only [putN, setN] at h))))
    refine S_sortC h 4 rfl hv (by rw [List.length_map]; exact h20) (fun c hc => by
      obtain ⟨x, hx, rfl⟩ := List.mem_map.1 hc
      have := hfew x (List.mem_filter.1 hx).1
      simp only [key]; omega) fun sv w hv h => ?_
    have hfp := find_pick (p := fun c => ((fFind F.l c.2).map can).getD false) _ (R := revs F.l rev) rfl fun x hx => by
      have := fFind_of ok.pw (List.mem_filter.1 hx).1
      show ((fFind F.l x.id).map can).getD false = _
      rw [this]; rfl
    have hcm : ∀ c ∈ csort ((revs F.l rev).map key), ∃ x ∈ F.l, c = key x := fun c hc => by
      obtain ⟨x, hx, rfl⟩ := List.mem_map.1 ((csort_perm _).mem_iff.1 hc)
      exact ⟨x, (List.mem_filter.1 hx).1, rfl⟩
    have hpk : fPick F.l rev = (revs F.l rev).foldl pickStep none := rfl
    rw [← hpk] at hfp
    have hcl : (csort ((revs F.l rev).map key)).length ≤ 20 := by rw [csort_len, List.length_map]; exact h20
    have hlv := Rw.len encC hv
    generalize csort ((revs F.l rev).map key) = cs at hv hfp hcm hcl hlv
    (repeat (first | refine nn ?_ | (refine dr h ?_; clear h; (try clear w); intro w h) | refine ld0_ h rfl rfl ?_ | refine ld1_ h rfl rfl ?_ | refine ld2_ h rfl rfl ?_ | refine ld3_ h rfl rfl ?_ | refine ld4_ h rfl rfl ?_ | refine ld5_ h rfl rfl ?_ | refine ld6_ h rfl rfl ?_ | refine ld7_ h rfl rfl ?_ | refine ld8_ h rfl rfl ?_ | refine ld9_ h rfl rfl ?_ | refine ld10_ h rfl rfl ?_ | refine ld11_ h rfl rfl ?_ | refine la0_ h rfl ?_ | refine la1_ h rfl ?_ | refine la2_ h rfl ?_ | refine la3_ h rfl ?_ | refine la4_ h rfl ?_ | refine la5_ h rfl ?_ | refine la6_ h rfl ?_ | refine la7_ h rfl ?_ | refine la8_ h rfl ?_ | refine la9_ h rfl ?_ | refine la10_ h rfl ?_ | refine la11_ h rfl ?_ | refine ck0_ h rfl ?_ | refine ck1_ h rfl ?_ | refine ck2_ h rfl ?_ | refine ck3_ h rfl ?_ | refine ck4_ h rfl ?_ | refine ck5_ h rfl ?_ | refine ck6_ h rfl ?_ | refine ck7_ h rfl ?_ | refine ck8_ h rfl ?_ | refine ck9_ h rfl ?_ | refine ck10_ h rfl ?_ | refine ck11_ h rfl ?_ | ((first | refine st0_ h rfl rfl ?_ | refine st1_ h rfl rfl ?_ | refine st2_ h rfl rfl ?_ | refine st3_ h rfl rfl ?_ | refine st4_ h rfl rfl ?_ | refine st5_ h rfl rfl ?_ | refine st6_ h rfl rfl ?_ | refine st7_ h rfl rfl ?_ | refine st8_ h rfl rfl ?_ | refine st9_ h rfl rfl ?_ | refine st10_ h rfl rfl ?_ | refine st11_ h rfl rfl ?_); clear h; (try clear w); intro w h; (try dsimp only [putN, setN] at h))))
    have h : St w0 ([DfM d] :: flB b rA rW F :: sA :: [Cl b4 T_s_fleet_choice [SlV v]] :: sv :: sW :: (L.map trS).flatten :: delN E i) w := h
    refine loop_of (fun p y w => ∃ (j : Nat) (L : List Tr), y = ((j : Int), ()) ∧ p + j = cs.length ∧ (∀ c ∈ cs.take j, ((fFind F.l c.2).map can).getD false = false) ∧ FlR F L mA mW ∧
      St w0 ([DfM d] :: flB b rA rW F :: sA :: [Cl b4 T_s_fleet_choice [SlV v]] :: sv :: sW :: (L.map trS).flatten :: delN E i) w) cs.length ⟨0, L, rfl, rfl, by simp, hr, h⟩ ?_
    clear hr hf0 hR hlR e hll
    clear h; (try clear w)
    rintro p y w ⟨j, L, rfl, hp, hfn, hr, h⟩ again hag
    dsimp only
    refine it (fun hc => ?_) (fun hc => ?_) <;> (try simp only [decide_eq_true_eq, decide_eq_false_iff_not, beq_iff_eq, bne_iff_ne, beq_eq_false_iff_ne, bne_eq_false_iff_eq, Bool.not_eq_true', Bool.not_eq_false', ne_eq, Bool.not_eq_true, Bool.not_eq_false] at hc)
    · have hj : j < cs.length := by omega
      have hxj : cs[j]? = some cs[j] := List.getElem?_eq_getElem hj
      have hdrop : cs = cs.take j ++ cs[j] :: cs.drop (j + 1) := by rw [← List.drop_eq_getElem_cons hj, List.take_append_drop]
      obtain ⟨x, hxl, hcx⟩ := hcm _ (List.getElem_mem hj)
      rw [hcx] at hxj hdrop
      have hfx := fFind_of ok.pw hxl
      obtain ⟨A, t, B, rfl, rfl, -⟩ := hr.at hfx
      have hg := hr.get ok (t := t) (by simp)
      have hps := hr.ps t (by simp)
      have hqx := hno t.1 hxl
      refine Rw.ix encC hv (by omega) (by simpa using hj) fun a ha => ?_
      rw [Int.toNat_natCast] at ha
      refine Rw.lda encC h 4 rfl hv ha hxj rfl ?_
      refine nw h ?_; clear h; (try clear w); intro b22 w h
      (repeat (first | refine nn ?_ | (refine dr h ?_; clear h; (try clear w); intro w h) | refine ld0_ h rfl rfl ?_ | refine ld1_ h rfl rfl ?_ | refine ld2_ h rfl rfl ?_ | refine ld3_ h rfl rfl ?_ | refine ld4_ h rfl rfl ?_ | refine ld5_ h rfl rfl ?_ | refine ld6_ h rfl rfl ?_ | refine ld7_ h rfl rfl ?_ | refine ld8_ h rfl rfl ?_ | refine ld9_ h rfl rfl ?_ | refine ld10_ h rfl rfl ?_ | refine ld11_ h rfl rfl ?_ | refine la0_ h rfl ?_ | refine la1_ h rfl ?_ | refine la2_ h rfl ?_ | refine la3_ h rfl ?_ | refine la4_ h rfl ?_ | refine la5_ h rfl ?_ | refine la6_ h rfl ?_ | refine la7_ h rfl ?_ | refine la8_ h rfl ?_ | refine la9_ h rfl ?_ | refine la10_ h rfl ?_ | refine la11_ h rfl ?_ | refine ck0_ h rfl ?_ | refine ck1_ h rfl ?_ | refine ck2_ h rfl ?_ | refine ck3_ h rfl ?_ | refine ck4_ h rfl ?_ | refine ck5_ h rfl ?_ | refine ck6_ h rfl ?_ | refine ck7_ h rfl ?_ | refine ck8_ h rfl ?_ | refine ck9_ h rfl ?_ | refine ck10_ h rfl ?_ | refine ck11_ h rfl ?_ | ((first | refine st0_ h rfl rfl ?_ | refine st1_ h rfl rfl ?_ | refine st2_ h rfl rfl ?_ | refine st3_ h rfl rfl ?_ | refine st4_ h rfl rfl ?_ | refine st5_ h rfl rfl ?_ | refine st6_ h rfl rfl ?_ | refine st7_ h rfl rfl ?_ | refine st8_ h rfl rfl ?_ | refine st9_ h rfl rfl ?_ | refine st10_ h rfl rfl ?_ | refine st11_ h rfl rfl ?_); clear h; (try clear w); intro w h; (try dsimp only [putN, setN] at h))))
      refine MpS.get mkI und_map_o zo (fun x : ByteArray × Option Addr => (x.1, x.2, ())) (fun _ => rfl) h 3 rfl hA ?_
      rw [show mget mA (key t.1).2 = _ from hg]
      simp only [Option.map_some, Option.getD_some]
      refine S_tTake h 7 rfl hps (hfew _ hxl) fun s' w hps' h => ?_
      by_cases hcan : can t.1 = true
      · have ht := take_eq hcan hqx
        refine itT (by rw [ht]; rfl) ?_
        have hfd : fPick F.l rev = some t.1 := by
          have : cs.find? (fun c => ((fFind F.l c.2).map can).getD false) = some (key t.1) := by
            rw [hdrop, List.find?_append, List.find?_cons_of_pos (by show ((fFind F.l t.1.id).map can).getD false = true; rw [hfx]; exact hcan)]
            rw [List.find?_eq_none.2 (fun c hc => by rw [hfn c hc]; simp)]
            rfl
          rw [this] at hfp
          cases hpk : fPick F.l rev with
          | none => rw [hpk] at hfp; cases hfp
          | some y =>
            rw [hpk] at hfp
            have hid : y.id = t.1.id := by simp only [Option.map_some, Option.some.injEq, key, Prod.mk.injEq] at hfp; exact hfp.2.symm
            have h1 := fFind_of ok.pw (pick_mem hpk).1
            rw [hid, hfx] at h1
            exact h1.symm
        have e : fTake F rev q = ({ F with l := fUpd F.l t.1.id fun p => (podTake p q).1 }, t.1.id, true) := by
          unfold fTake; rw [hn, hfd]; rfl
        have okT := fTake_ok ok rev q
        rw [e] at hk okT
        have hrq : (podTake t.1.pod q).1.reqs = insI q t.1.pod.reqs := by rw [ht]
        have hst : (podTake t.1.pod q).1.st ≠ 4 := by rw [ht]; have := of_decide_eq_true hcan; simp only; omega
        (repeat (first | refine nn ?_ | (refine dr h ?_; clear h; (try clear w); intro w h) | refine ld0_ h rfl rfl ?_ | refine ld1_ h rfl rfl ?_ | refine ld2_ h rfl rfl ?_ | refine ld3_ h rfl rfl ?_ | refine ld4_ h rfl rfl ?_ | refine ld5_ h rfl rfl ?_ | refine ld6_ h rfl rfl ?_ | refine ld7_ h rfl rfl ?_ | refine ld8_ h rfl rfl ?_ | refine ld9_ h rfl rfl ?_ | refine ld10_ h rfl rfl ?_ | refine ld11_ h rfl rfl ?_ | refine la0_ h rfl ?_ | refine la1_ h rfl ?_ | refine la2_ h rfl ?_ | refine la3_ h rfl ?_ | refine la4_ h rfl ?_ | refine la5_ h rfl ?_ | refine la6_ h rfl ?_ | refine la7_ h rfl ?_ | refine la8_ h rfl ?_ | refine la9_ h rfl ?_ | refine la10_ h rfl ?_ | refine la11_ h rfl ?_ | refine ck0_ h rfl ?_ | refine ck1_ h rfl ?_ | refine ck2_ h rfl ?_ | refine ck3_ h rfl ?_ | refine ck4_ h rfl ?_ | refine ck5_ h rfl ?_ | refine ck6_ h rfl ?_ | refine ck7_ h rfl ?_ | refine ck8_ h rfl ?_ | refine ck9_ h rfl ?_ | refine ck10_ h rfl ?_ | refine ck11_ h rfl ?_ | ((first | refine st0_ h rfl rfl ?_ | refine st1_ h rfl rfl ?_ | refine st2_ h rfl rfl ?_ | refine st3_ h rfl rfl ?_ | refine st4_ h rfl rfl ?_ | refine st5_ h rfl rfl ?_ | refine st6_ h rfl rfl ?_ | refine st7_ h rfl rfl ?_ | refine st8_ h rfl rfl ?_ | refine st9_ h rfl rfl ?_ | refine st10_ h rfl rfl ?_ | refine st11_ h rfl rfl ?_); clear h; (try clear w); intro w h; (try dsimp only [putN, setN] at h))))
        refine MpS.set mkI und_map_i h 6 rfl hW t.1.id rfl fun sW' w hW' h => ?_
        (repeat (first | refine nn ?_ | (refine dr h ?_; clear h; (try clear w); intro w h) | refine ld0_ h rfl rfl ?_ | refine ld1_ h rfl rfl ?_ | refine ld2_ h rfl rfl ?_ | refine ld3_ h rfl rfl ?_ | refine ld4_ h rfl rfl ?_ | refine ld5_ h rfl rfl ?_ | refine ld6_ h rfl rfl ?_ | refine ld7_ h rfl rfl ?_ | refine ld8_ h rfl rfl ?_ | refine ld9_ h rfl rfl ?_ | refine ld10_ h rfl rfl ?_ | refine ld11_ h rfl rfl ?_ | refine la0_ h rfl ?_ | refine la1_ h rfl ?_ | refine la2_ h rfl ?_ | refine la3_ h rfl ?_ | refine la4_ h rfl ?_ | refine la5_ h rfl ?_ | refine la6_ h rfl ?_ | refine la7_ h rfl ?_ | refine la8_ h rfl ?_ | refine la9_ h rfl ?_ | refine la10_ h rfl ?_ | refine la11_ h rfl ?_ | refine ck0_ h rfl ?_ | refine ck1_ h rfl ?_ | refine ck2_ h rfl ?_ | refine ck3_ h rfl ?_ | refine ck4_ h rfl ?_ | refine ck5_ h rfl ?_ | refine ck6_ h rfl ?_ | refine ck7_ h rfl ?_ | refine ck8_ h rfl ?_ | refine ck9_ h rfl ?_ | refine ck10_ h rfl ?_ | refine ck11_ h rfl ?_ | ((first | refine st0_ h rfl rfl ?_ | refine st1_ h rfl rfl ?_ | refine st2_ h rfl rfl ?_ | refine st3_ h rfl rfl ?_ | refine st4_ h rfl rfl ?_ | refine st5_ h rfl rfl ?_ | refine st6_ h rfl rfl ?_ | refine st7_ h rfl rfl ?_ | refine st8_ h rfl rfl ?_ | refine st9_ h rfl rfl ?_ | refine st10_ h rfl rfl ?_ | refine st11_ h rfl rfl ?_); clear h; (try clear w); intro w h; (try dsimp only [putN, setN] at h))))
        (first | refine um0_ h ?_ | refine um1_ h ?_ | refine um2_ h ?_ | refine um3_ h ?_ | refine um4_ h ?_ | refine um5_ h ?_ | refine um6_ h ?_ | refine um7_ h ?_ | refine um8_ h ?_ | refine um9_ h ?_ | refine um10_ h ?_ | refine um11_ h ?_); clear h; (try clear w); intro w h
        refine ⟨(t.1.id, true, ()), rfl, hk _ w ⟨okT, rA, rW, mA, _, sA, sW', _, hA, hW', hr.upd ok (fun p => (podTake p q).1) hps' hst fun q' => ?_, rfl⟩ ?_⟩
        · rw [mget_mset, ok.where_upd hfx _ (fun q2 h2 => by
            rw [hrq] at h2
            rcases insI_mem.1 h2 with rfl | h2
            · exact .inr hn
            · exact .inl h2) (fun h4 => absurd h4 hst), hrq]
          by_cases eq : q = q'
          · subst eq; rw [if_pos rfl, if_pos (insI_mem.2 (.inl rfl))]
          · rw [if_neg eq]
            by_cases hq2 : q' ∈ t.1.pod.reqs
            · rw [if_pos (insI_mem.2 (.inr hq2)), hr.wth, fWhere_of ok.once hxl hq2]; rfl
            · rw [if_neg (fun hh => (insI_mem.1 hh).elim (fun e => eq e.symm) hq2), if_neg hq2, hr.wth]
        · refine St.back i hi ?_
          dsimp only [setN] at h
          have h := dl0_ (dl3_ (dl4_ h))
          exact h.eq (by simp)
      · have ht := take_ne hcan hqx
        refine itF (by simpa using ht.2) ?_
        rw [ht.1] at hps'
        have h := dl0_ h
        refine hag (p - 1) _ w (by omega) ⟨j + 1, A ++ (t.1, t.2.1, s') :: B, ?_, by omega, ?_, hr.same hps', ?_⟩
        · rw [wr (by omega) (by omega)]; simp
        · intro c hc
          rw [List.take_add_one, hxj] at hc
          rcases List.mem_append.1 hc with hc | hc
          · exact hfn c hc
          · simp at hc; subst hc
            show ((fFind F.l t.1.id).map can).getD false = false
            rw [hfx]; simpa using hcan
        · have h : St w0 ([DfM d] :: flB b rA rW F :: sA :: [Cl b4 T_s_fleet_choice [SlV v]] :: sv :: sW :: ((A ++ ({ t.1 with pod := (podTake t.1.pod q).1 }, t.2.1, s') :: B).map trS).flatten :: delN E i) w := h
          rw [ht.1] at h
          exact h
    · have hj : j = cs.length := by omega
      subst hj
      rw [List.take_length] at hfn
      have hfd : fPick F.l rev = none := by
        rw [List.find?_eq_none.2 (fun c hc => by rw [hfn c hc]; simp)] at hfp
        cases hpk : fPick F.l rev with
        | none => rfl
        | some y => rw [hpk] at hfp; cases hfp
      have e : fTake F rev q = (F, 0, false) := by unfold fTake; rw [hn, hfd]; rfl
      rw [e] at hk
      (first | refine um0_ h ?_ | refine um1_ h ?_ | refine um2_ h ?_ | refine um3_ h ?_ | refine um4_ h ?_ | refine um5_ h ?_ | refine um6_ h ?_ | refine um7_ h ?_ | refine um8_ h ?_ | refine um9_ h ?_ | refine um10_ h ?_ | refine um11_ h ?_); clear h; (try clear w); intro w h
      refine ⟨(0, false, ()), rfl, hk _ w ⟨ok, rA, rW, mA, mW, sA, sW, L, hA, hW, hr, rfl⟩ (St.back i hi ?_)⟩
      have h := dl2_ (dl3_ h)
      exact h.eq (by simp)
  · rintro d j G w hf; exact hf.elim
end Go.Proofs.Ytheikjckdnhdhaa
