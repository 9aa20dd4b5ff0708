/- Contracts of functions, and walks of laws (text Po). No conditions beyond those its theorems state. -/
import Derived.Test.YthmpbgloifdcnaaGreatLi
set_option linter.all false
namespace Go.Proofs.YthmpbgloifdcnaaGreat
open Go.Dm
attribute [local irreducible] L.load L.store L.chk L.new L.nonnil L.guard L.ite L.draw L.idx L.sem L.semR L.semU L.chkSem L.next L.call L.callV L.join L.alts L.loop L.begin L.endRound L.range
variable {w0 w : World} {E : List Seg}
/-! ### pods -/
structure APod where
  st : Int
  conc : Int
  reqs : List Int
/-- a request in its place -/
def insI (x : Int) : List Int → List Int
  | [] => [x]
  | y :: l => if y < x then y :: insI x l else x :: y :: l
structure APod.Ok (p : APod) : Prop where
  pw : p.reqs.Pairwise (· < ·)
  dr : p.st = 3 → p.reqs ≠ []
  dead : p.st = 4 → p.reqs = []
  few : p.reqs.length < 100000000
def podUp (p : APod) : APod × Int := if p.st ≠ 1 then (p, 9) else ({ p with st := 2 }, 0)
def podDrain (p : APod) : APod × Int := if p.st ≠ 1 ∧ p.st ≠ 2 then (p, 9) else ({ p with st := if p.reqs = [] then 4 else 3 }, 0)
def podKill (p : APod) : APod × List Int × Int := if p.st = 4 then (p, [], 9) else ({ p with st := 4, reqs := [] }, p.reqs, 0)
def podTake (p : APod) (id : Int) : APod × Int :=
  if p.st ≠ 2 then (p, 9) else if id ∈ p.reqs then (p, 5) else if (p.reqs.length : Int) ≥ p.conc then (p, 8) else ({ p with reqs := insI id p.reqs }, 0)
def podGive (p : APod) (id : Int) : APod × Int :=
  if id ∈ p.reqs then ({ p with reqs := p.reqs.erase id, st := if p.st = 3 ∧ p.reqs.erase id = [] then 4 else p.st }, 0) else (p, 6)
theorem insI_perm (x : Int) (l : List Int) : (insI x l).Perm (x :: l) := by
  induction l with
  | nil => exact .refl _
  | cons y l ih =>
    simp only [insI]
    split
    · exact (ih.cons y).trans (.swap ..)
    · exact .refl _
theorem insI_mem {x y : Int} {l : List Int} : y ∈ insI x l ↔ y = x ∨ y ∈ l := by
  rw [(insI_perm x l).mem_iff]; simp
theorem insI_pw {x : Int} : ∀ {l : List Int}, l.Pairwise (· < ·) → x ∉ l → (insI x l).Pairwise (· < ·)
  | [], _, _ => by simp [insI]
  | y :: l, h, hx => by
    simp only [List.mem_cons, not_or] at hx
    rw [List.pairwise_cons] at h
    simp only [insI]
    split
    · rename_i hy
      rw [List.pairwise_cons]
      refine ⟨fun z hz => ?_, insI_pw h.2 hx.2⟩
      rcases insI_mem.1 hz with rfl | hz
      · exact hy
      · exact h.1 z hz
    · rename_i hy
      rw [List.pairwise_cons]
      refine ⟨fun z hz => ?_, List.pairwise_cons.2 h⟩
      rcases List.mem_cons.1 hz with rfl | hz
      · omega
      · have := h.1 z hz; omega
theorem insI_len (x : Int) (l : List Int) : (insI x l).length = l.length + 1 := by rw [(insI_perm x l).length_eq]; rfl
/-- the program's bag: which requests, in whatever order -/
def BagIs (m : List (Int × Bool)) (reqs : List Int) : Prop := (∀ p ∈ m, p.2 = true) ∧ (m.map (·.1)).Perm reqs
theorem BagIs.get {m : List (Int × Bool)} {reqs : List Int} (h : BagIs m reqs) (id : Int) : ((mget m id).map fun x => x).getD false = decide (id ∈ reqs) := by
  cases hg : mget m id with
  | none =>
    have := mget_none.1 hg
    rw [h.2.mem_iff] at this
    simp [this]
  | some b =>
    have hm := mget_mem hg
    have hb := h.1 _ hm
    simp only at hb
    subst hb
    have : id ∈ reqs := h.2.mem_iff.1 (List.mem_map_of_mem (f := (·.1)) hm)
    simp [this]
theorem BagIs.len {m : List (Int × Bool)} {reqs : List Int} (h : BagIs m reqs) : m.length = reqs.length := by
  have := h.2.length_eq
  simpa using this
theorem BagIs.put {m : List (Int × Bool)} {reqs : List Int} (h : BagIs m reqs) {id : Int} (hn : id ∉ reqs) : BagIs (mset m id true) (insI id reqs) := by
  have hg : mget m id = none := mget_none.2 (fun hm => hn (h.2.mem_iff.1 hm))
  rw [mset_none hg]
  refine ⟨fun p hp => ?_, ?_⟩
  · rcases List.mem_append.1 hp with hp | hp
    · exact h.1 p hp
    · simp at hp; subst hp; rfl
  · rw [List.map_append]
    refine List.Perm.trans ?_ (insI_perm id reqs).symm
    exact List.perm_append_comm.trans (h.2.cons id)
theorem mdel_perm : ∀ {m : List (Int × Bool)} {k : Int}, ((mdel m k).map (·.1)).Perm ((m.map (·.1)).erase k)
  | [], k => by simp [mdel]
  | p :: m, k => by
    simp only [mdel]
    by_cases e : p.1 = k
    · rw [if_pos e]; subst e; simp
    · rw [if_neg e, List.map_cons, List.map_cons, List.erase_cons_tail (by simpa using e)]
      exact (mdel_perm (m := m) (k := k)).cons _
theorem mdel_mem {κ υ : Type} [DecidableEq κ] : ∀ {m : List (κ × υ)} {k : κ} {p : κ × υ}, p ∈ mdel m k → p ∈ m
  | q :: m, k, p, h => by
    simp only [mdel] at h
    split at h
    · exact List.mem_cons_of_mem _ h
    · rcases List.mem_cons.1 h with rfl | h
      · exact List.mem_cons_self ..
      · exact List.mem_cons_of_mem _ (mdel_mem h)
theorem BagIs.take {m : List (Int × Bool)} {reqs : List Int} (h : BagIs m reqs) (id : Int) : BagIs (mdel m id) (reqs.erase id) :=
  ⟨fun p hp => h.1 p (mdel_mem hp), mdel_perm.trans (h.2.erase id)⟩
/-- a pod in memory -/
def PodS (b : Nat) (p : APod) (s : Seg) : Prop := p.Ok ∧ ∃ r m sm, MpS KI Value.bool r m sm ∧ BagIs m p.reqs ∧ s = [Cl b T_pod_Pod [I p.st, .map (some r), I p.conc]] ++ sm
theorem S_pNew (h : St w0 E w) {conc : Int} {k : Option Addr → PT} (hk : ∀ b s w', PodS b ⟨1, conc, []⟩ s → St w0 (s :: E) w' → k (some ⟨b, 0, none⟩) w') : L.call Pr n_pod_New [I conc] (.one (.one .ptr)) k w := by
  refine call_of (C_pod_New _) ?_
  unfold F_pod_New
  refine MpS.new h KI Value.bool fun r s w hm h => ?_
  refine nw h ?_; clear h; (try clear w); intro b w h
  exact ⟨_, rfl, hk b _ w ⟨⟨by simp, by simp, by simp, by simp⟩, r, [], s, hm, ⟨by simp, .refl _⟩, rfl⟩ h.glue⟩
theorem S_pState (h : St w0 E w) (i : Nat) {b : Nat} {p : APod} {s : Seg} (hi : nth E i = some s) (hp : PodS b p s) {k : Int → PT} (hk : k p.st w) : L.call Pr n_pod_Pod_State [.pointer (some ⟨b, 0, none⟩)] (.one (.one (.int .i64))) k w := by
  obtain ⟨ok, r, m, sm, hm, hb, rfl⟩ := hp
  refine call_of (C_pod_Pod_State _) ?_
  unfold F_pod_Pod_State
  have h := (h.front i hi).split
  (repeat (first | refine nn ?_ | (refine dr h ?_; clear h; (try clear w); intro w h) | refine ld0_ h rfl rfl ?_ | refine ld1_ h rfl rfl ?_ | refine ld2_ h rfl rfl ?_ | refine ld3_ h rfl rfl ?_ | refine ld4_ h rfl rfl ?_ | refine ld5_ h rfl rfl ?_ | refine ld6_ h rfl rfl ?_ | refine ld7_ h rfl rfl ?_ | refine ld8_ h rfl rfl ?_ | refine ld9_ h rfl rfl ?_ | refine ld10_ h rfl rfl ?_ | refine ld11_ h rfl rfl ?_ | refine la0_ h rfl ?_ | refine la1_ h rfl ?_ | refine la2_ h rfl ?_ | refine la3_ h rfl ?_ | refine la4_ h rfl ?_ | refine la5_ h rfl ?_ | refine la6_ h rfl ?_ | refine la7_ h rfl ?_ | refine la8_ h rfl ?_ | refine la9_ h rfl ?_ | refine la10_ h rfl ?_ | refine la11_ h rfl ?_ | refine ck0_ h rfl ?_ | refine ck1_ h rfl ?_ | refine ck2_ h rfl ?_ | refine ck3_ h rfl ?_ | refine ck4_ h rfl ?_ | refine ck5_ h rfl ?_ | refine ck6_ h rfl ?_ | refine ck7_ h rfl ?_ | refine ck8_ h rfl ?_ | refine ck9_ h rfl ?_ | refine ck10_ h rfl ?_ | refine ck11_ h rfl ?_ | ((first | refine st0_ h rfl rfl ?_ | refine st1_ h rfl rfl ?_ | refine st2_ h rfl rfl ?_ | refine st3_ h rfl rfl ?_ | refine st4_ h rfl rfl ?_ | refine st5_ h rfl rfl ?_ | refine st6_ h rfl rfl ?_ | refine st7_ h rfl rfl ?_ | refine st8_ h rfl rfl ?_ | refine st9_ h rfl rfl ?_ | refine st10_ h rfl rfl ?_ | refine st11_ h rfl rfl ?_); clear h; (try clear w); intro w h; (try dsimp only [putN, setN] at h))))
  exact ⟨_, rfl, hk⟩
theorem S_pLoad (h : St w0 E w) (i : Nat) {b : Nat} {p : APod} {s : Seg} (hi : nth E i = some s) (hp : PodS b p s) {k : Int → PT} (hk : k p.reqs.length w) : L.call Pr n_pod_Pod_Load [.pointer (some ⟨b, 0, none⟩)] (.one (.one (.int .i64))) k w := by
  obtain ⟨ok, r, m, sm, hm, hb, rfl⟩ := hp
  refine call_of (C_pod_Pod_Load _) ?_
  unfold F_pod_Pod_Load
  have h := (h.front i hi).split
  (repeat (first | refine nn ?_ | (refine dr h ?_; clear h; (try clear w); intro w h) | refine ld0_ h rfl rfl ?_ | refine ld1_ h rfl rfl ?_ | refine ld2_ h rfl rfl ?_ | refine ld3_ h rfl rfl ?_ | refine ld4_ h rfl rfl ?_ | refine ld5_ h rfl rfl ?_ | refine ld6_ h rfl rfl ?_ | refine ld7_ h rfl rfl ?_ | refine ld8_ h rfl rfl ?_ | refine ld9_ h rfl rfl ?_ | refine ld10_ h rfl rfl ?_ | refine ld11_ h rfl rfl ?_ | refine la0_ h rfl ?_ | refine la1_ h rfl ?_ | refine la2_ h rfl ?_ | refine la3_ h rfl ?_ | refine la4_ h rfl ?_ | refine la5_ h rfl ?_ | refine la6_ h rfl ?_ | refine la7_ h rfl ?_ | refine la8_ h rfl ?_ | refine la9_ h rfl ?_ | refine la10_ h rfl ?_ | refine la11_ h rfl ?_ | refine ck0_ h rfl ?_ | refine ck1_ h rfl ?_ | refine ck2_ h rfl ?_ | refine ck3_ h rfl ?_ | refine ck4_ h rfl ?_ | refine ck5_ h rfl ?_ | refine ck6_ h rfl ?_ | refine ck7_ h rfl ?_ | refine ck8_ h rfl ?_ | refine ck9_ h rfl ?_ | refine ck10_ h rfl ?_ | refine ck11_ h rfl ?_ | ((first | refine st0_ h rfl rfl ?_ | refine st1_ h rfl rfl ?_ | refine st2_ h rfl rfl ?_ | refine st3_ h rfl rfl ?_ | refine st4_ h rfl rfl ?_ | refine st5_ h rfl rfl ?_ | refine st6_ h rfl rfl ?_ | refine st7_ h rfl rfl ?_ | refine st8_ h rfl rfl ?_ | refine st9_ h rfl rfl ?_ | refine st10_ h rfl rfl ?_ | refine st11_ h rfl rfl ?_); clear h; (try clear w); intro w h; (try dsimp only [putN, setN] at h))))
  refine MpS.len und_map_b h 1 rfl hm ⟨_, rfl, ?_⟩
  rw [hb.len]; exact hk
theorem S_pUp (h : St w0 E w) (i : Nat) {b : Nat} {p : APod} {s : Seg} (hi : nth E i = some s) (hp : PodS b p s) {k : Int → PT} (hk : ∀ s' w', PodS b (podUp p).1 s' → St w0 (setN E i s') w' → k (podUp p).2 w') :
    L.call Pr n_pod_Pod_Up [.pointer (some ⟨b, 0, none⟩)] (.one (.one (.int .i64))) k w := by
  have hp' := hp
  obtain ⟨ok, r, m, sm, hm, hb, rfl⟩ := hp
  refine call_of (C_pod_Pod_Up _) ?_
  unfold F_pod_Pod_Up
  have h := (h.front i hi).split
  (repeat (first | refine nn ?_ | (refine dr h ?_; clear h; (try clear w); intro w h) | refine ld0_ h rfl rfl ?_ | refine ld1_ h rfl rfl ?_ | refine ld2_ h rfl rfl ?_ | refine ld3_ h rfl rfl ?_ | refine ld4_ h rfl rfl ?_ | refine ld5_ h rfl rfl ?_ | refine ld6_ h rfl rfl ?_ | refine ld7_ h rfl rfl ?_ | refine ld8_ h rfl rfl ?_ | refine ld9_ h rfl rfl ?_ | refine ld10_ h rfl rfl ?_ | refine ld11_ h rfl rfl ?_ | refine la0_ h rfl ?_ | refine la1_ h rfl ?_ | refine la2_ h rfl ?_ | refine la3_ h rfl ?_ | refine la4_ h rfl ?_ | refine la5_ h rfl ?_ | refine la6_ h rfl ?_ | refine la7_ h rfl ?_ | refine la8_ h rfl ?_ | refine la9_ h rfl ?_ | refine la10_ h rfl ?_ | refine la11_ h rfl ?_ | refine ck0_ h rfl ?_ | refine ck1_ h rfl ?_ | refine ck2_ h rfl ?_ | refine ck3_ h rfl ?_ | refine ck4_ h rfl ?_ | refine ck5_ h rfl ?_ | refine ck6_ h rfl ?_ | refine ck7_ h rfl ?_ | refine ck8_ h rfl ?_ | refine ck9_ h rfl ?_ | refine ck10_ h rfl ?_ | refine ck11_ h rfl ?_ | ((first | refine st0_ h rfl rfl ?_ | refine st1_ h rfl rfl ?_ | refine st2_ h rfl rfl ?_ | refine st3_ h rfl rfl ?_ | refine st4_ h rfl rfl ?_ | refine st5_ h rfl rfl ?_ | refine st6_ h rfl rfl ?_ | refine st7_ h rfl rfl ?_ | refine st8_ h rfl rfl ?_ | refine st9_ h rfl rfl ?_ | refine st10_ h rfl rfl ?_ | refine st11_ h rfl rfl ?_); clear h; (try clear w); intro w h; (try dsimp only [putN, setN] at h))))
  refine it (fun hc => ?_) (fun hc => ?_) <;> (try simp only [decide_eq_true_eq, decide_eq_false_iff_not, beq_iff_eq, bne_iff_ne, beq_eq_false_iff_ne, bne_eq_false_iff_eq, Bool.not_eq_true', Bool.not_eq_false', ne_eq, Bool.not_eq_true, Bool.not_eq_false] at hc)
  · have e : podUp p = (p, 9) := by simp only [podUp]; rw [if_pos hc]
    rw [e] at hk
    exact ⟨_, rfl, hk _ w hp' (St.back i hi h.glue)⟩
  · have e : podUp p = ({ p with st := 2 }, 0) := by simp only [podUp]; rw [if_neg (by simpa using hc)]
    rw [e] at hk
    (repeat (first | refine nn ?_ | (refine dr h ?_; clear h; (try clear w); intro w h) | refine ld0_ h rfl rfl ?_ | refine ld1_ h rfl rfl ?_ | refine ld2_ h rfl rfl ?_ | refine ld3_ h rfl rfl ?_ | refine ld4_ h rfl rfl ?_ | refine ld5_ h rfl rfl ?_ | refine ld6_ h rfl rfl ?_ | refine ld7_ h rfl rfl ?_ | refine ld8_ h rfl rfl ?_ | refine ld9_ h rfl rfl ?_ | refine ld10_ h rfl rfl ?_ | refine ld11_ h rfl rfl ?_ | refine la0_ h rfl ?_ | refine la1_ h rfl ?_ | refine la2_ h rfl ?_ | refine la3_ h rfl ?_ | refine la4_ h rfl ?_ | refine la5_ h rfl ?_ | refine la6_ h rfl ?_ | refine la7_ h rfl ?_ | refine la8_ h rfl ?_ | refine la9_ h rfl ?_ | refine la10_ h rfl ?_ | refine la11_ h rfl ?_ | refine ck0_ h rfl ?_ | refine ck1_ h rfl ?_ | refine ck2_ h rfl ?_ | refine ck3_ h rfl ?_ | refine ck4_ h rfl ?_ | refine ck5_ h rfl ?_ | refine ck6_ h rfl ?_ | refine ck7_ h rfl ?_ | refine ck8_ h rfl ?_ | refine ck9_ h rfl ?_ | refine ck10_ h rfl ?_ | refine ck11_ h rfl ?_ | ((first | refine st0_ h rfl rfl ?_ | refine st1_ h rfl rfl ?_ | refine st2_ h rfl rfl ?_ | refine st3_ h rfl rfl ?_ | refine st4_ h rfl rfl ?_ | refine st5_ h rfl rfl ?_ | refine st6_ h rfl rfl ?_ | refine st7_ h rfl rfl ?_ | refine st8_ h rfl rfl ?_ | refine st9_ h rfl rfl ?_ | refine st10_ h rfl rfl ?_ | refine st11_ h rfl rfl ?_); clear h; (try clear w); intro w h; (try dsimp only [putN, setN] at h))))
    exact ⟨_, rfl, hk _ w ⟨⟨ok.pw, by simp, by simp, ok.few⟩, r, m, sm, hm, hb, rfl⟩ (St.back i hi h.glue)⟩
/-- 'end', of a pod whose parts lie open -/
theorem S_pEnd {b r : Nat} {st conc : Int} {m : List (Int × Bool)} {reqs : List Int} {sm : Seg} {F : List Seg} (hm : MpS KI Value.bool r m sm) (hb : BagIs m reqs) (h : St w0 ([Cl b T_pod_Pod [I st, .map (some r), I conc]] :: sm :: F) w) {k : Unit → PT}
    (hk : ∀ w', St w0 ([Cl b T_pod_Pod [I (if st = 3 ∧ reqs = [] then 4 else st), .map (some r), I conc]] :: sm :: F) w' → k () w') : L.call Pr n_pod_Pod_end [.pointer (some ⟨b, 0, none⟩)] (.tup []) k w := by
  refine call_of (C_pod_Pod_end _) ?_
  unfold F_pod_Pod_end
  (repeat (first | refine nn ?_ | (refine dr h ?_; clear h; (try clear w); intro w h) | refine ld0_ h rfl rfl ?_ | refine ld1_ h rfl rfl ?_ | refine ld2_ h rfl rfl ?_ | refine ld3_ h rfl rfl ?_ | refine ld4_ h rfl rfl ?_ | refine ld5_ h rfl rfl ?_ | refine ld6_ h rfl rfl ?_ | refine ld7_ h rfl rfl ?_ | refine ld8_ h rfl rfl ?_ | refine ld9_ h rfl rfl ?_ | refine ld10_ h rfl rfl ?_ | refine ld11_ h rfl rfl ?_ | refine la0_ h rfl ?_ | refine la1_ h rfl ?_ | refine la2_ h rfl ?_ | refine la3_ h rfl ?_ | refine la4_ h rfl ?_ | refine la5_ h rfl ?_ | refine la6_ h rfl ?_ | refine la7_ h rfl ?_ | refine la8_ h rfl ?_ | refine la9_ h rfl ?_ | refine la10_ h rfl ?_ | refine la11_ h rfl ?_ | refine ck0_ h rfl ?_ | refine ck1_ h rfl ?_ | refine ck2_ h rfl ?_ | refine ck3_ h rfl ?_ | refine ck4_ h rfl ?_ | refine ck5_ h rfl ?_ | refine ck6_ h rfl ?_ | refine ck7_ h rfl ?_ | refine ck8_ h rfl ?_ | refine ck9_ h rfl ?_ | refine ck10_ h rfl ?_ | refine ck11_ h rfl ?_ | ((first | refine st0_ h rfl rfl ?_ | refine st1_ h rfl rfl ?_ | refine st2_ h rfl rfl ?_ | refine st3_ h rfl rfl ?_ | refine st4_ h rfl rfl ?_ | refine st5_ h rfl rfl ?_ | refine st6_ h rfl rfl ?_ | refine st7_ h rfl rfl ?_ | refine st8_ h rfl rfl ?_ | refine st9_ h rfl rfl ?_ | refine st10_ h rfl rfl ?_ | refine st11_ h rfl rfl ?_); clear h; (try clear w); intro w h; (try dsimp only [putN, setN] at h))))
  refine it (fun hc => ?_) (fun hc => ?_) <;> (try simp only [decide_eq_true_eq, decide_eq_false_iff_not, beq_iff_eq, bne_iff_ne, beq_eq_false_iff_ne, bne_eq_false_iff_eq, Bool.not_eq_true', Bool.not_eq_false', ne_eq, Bool.not_eq_true, Bool.not_eq_false] at hc)
  · refine call_of (C_pod_Pod_Load _) ?_
    unfold F_pod_Pod_Load
    (repeat (first | refine nn ?_ | (refine dr h ?_; clear h; (try clear w); intro w h) | refine ld0_ h rfl rfl ?_ | refine ld1_ h rfl rfl ?_ | refine ld2_ h rfl rfl ?_ | refine ld3_ h rfl rfl ?_ | refine ld4_ h rfl rfl ?_ | refine ld5_ h rfl rfl ?_ | refine ld6_ h rfl rfl ?_ | refine ld7_ h rfl rfl ?_ | refine ld8_ h rfl rfl ?_ | refine ld9_ h rfl rfl ?_ | refine ld10_ h rfl rfl ?_ | refine ld11_ h rfl rfl ?_ | refine la0_ h rfl ?_ | refine la1_ h rfl ?_ | refine la2_ h rfl ?_ | refine la3_ h rfl ?_ | refine la4_ h rfl ?_ | refine la5_ h rfl ?_ | refine la6_ h rfl ?_ | refine la7_ h rfl ?_ | refine la8_ h rfl ?_ | refine la9_ h rfl ?_ | refine la10_ h rfl ?_ | refine la11_ h rfl ?_ | refine ck0_ h rfl ?_ | refine ck1_ h rfl ?_ | refine ck2_ h rfl ?_ | refine ck3_ h rfl ?_ | refine ck4_ h rfl ?_ | refine ck5_ h rfl ?_ | refine ck6_ h rfl ?_ | refine ck7_ h rfl ?_ | refine ck8_ h rfl ?_ | refine ck9_ h rfl ?_ | refine ck10_ h rfl ?_ | refine ck11_ h rfl ?_ | ((first | refine st0_ h rfl rfl ?_ | refine st1_ h rfl rfl ?_ | refine st2_ h rfl rfl ?_ | refine st3_ h rfl rfl ?_ | refine st4_ h rfl rfl ?_ | refine st5_ h rfl rfl ?_ | refine st6_ h rfl rfl ?_ | refine st7_ h rfl rfl ?_ | refine st8_ h rfl rfl ?_ | refine st9_ h rfl rfl ?_ | refine st10_ h rfl rfl ?_ | refine st11_ h rfl rfl ?_); clear h; (try clear w); intro w h; (try dsimp only [putN, setN] at h))))
    refine MpS.len und_map_b h 1 rfl hm ⟨_, rfl, ?_⟩
    have hl := hb.len
    refine it (fun hd => ?_) (fun hd => ?_) <;> (try simp only [decide_eq_true_eq, decide_eq_false_iff_not, beq_iff_eq, bne_iff_ne, beq_eq_false_iff_ne, bne_eq_false_iff_eq, Bool.not_eq_true', Bool.not_eq_false', ne_eq, Bool.not_eq_true, Bool.not_eq_false] at hd)
    · have : reqs = [] := List.eq_nil_of_length_eq_zero (by omega)
      rw [if_pos ⟨hc, this⟩] at hk
      (repeat (first | refine nn ?_ | (refine dr h ?_; clear h; (try clear w); intro w h) | refine ld0_ h rfl rfl ?_ | refine ld1_ h rfl rfl ?_ | refine ld2_ h rfl rfl ?_ | refine ld3_ h rfl rfl ?_ | refine ld4_ h rfl rfl ?_ | refine ld5_ h rfl rfl ?_ | refine ld6_ h rfl rfl ?_ | refine ld7_ h rfl rfl ?_ | refine ld8_ h rfl rfl ?_ | refine ld9_ h rfl rfl ?_ | refine ld10_ h rfl rfl ?_ | refine ld11_ h rfl rfl ?_ | refine la0_ h rfl ?_ | refine la1_ h rfl ?_ | refine la2_ h rfl ?_ | refine la3_ h rfl ?_ | refine la4_ h rfl ?_ | refine la5_ h rfl ?_ | refine la6_ h rfl ?_ | refine la7_ h rfl ?_ | refine la8_ h rfl ?_ | refine la9_ h rfl ?_ | refine la10_ h rfl ?_ | refine la11_ h rfl ?_ | refine ck0_ h rfl ?_ | refine ck1_ h rfl ?_ | refine ck2_ h rfl ?_ | refine ck3_ h rfl ?_ | refine ck4_ h rfl ?_ | refine ck5_ h rfl ?_ | refine ck6_ h rfl ?_ | refine ck7_ h rfl ?_ | refine ck8_ h rfl ?_ | refine ck9_ h rfl ?_ | refine ck10_ h rfl ?_ | refine ck11_ h rfl ?_ | ((first | refine st0_ h rfl rfl ?_ | refine st1_ h rfl rfl ?_ | refine st2_ h rfl rfl ?_ | refine st3_ h rfl rfl ?_ | refine st4_ h rfl rfl ?_ | refine st5_ h rfl rfl ?_ | refine st6_ h rfl rfl ?_ | refine st7_ h rfl rfl ?_ | refine st8_ h rfl rfl ?_ | refine st9_ h rfl rfl ?_ | refine st10_ h rfl rfl ?_ | refine st11_ h rfl rfl ?_); clear h; (try clear w); intro w h; (try dsimp only [putN, setN] at h))))
      exact ⟨(), rfl, hk w h⟩
    · rw [if_neg (fun hh => hd (by rw [hl, hh.2]; rfl))] at hk
      exact ⟨(), rfl, hk w h⟩
  · rw [if_neg (fun hh => hc hh.1)] at hk
    exact ⟨(), rfl, hk w h⟩
theorem S_pDrain (h : St w0 E w) (i : Nat) {b : Nat} {p : APod} {s : Seg} (hi : nth E i = some s) (hp : PodS b p s) {k : Int → PT} (hk : ∀ s' w', PodS b (podDrain p).1 s' → St w0 (setN E i s') w' → k (podDrain p).2 w') :
    L.call Pr n_pod_Pod_Drain [.pointer (some ⟨b, 0, none⟩)] (.one (.one (.int .i64))) k w := by
  have hp' := hp
  obtain ⟨ok, r, m, sm, hm, hb, rfl⟩ := hp
  refine call_of (C_pod_Pod_Drain _) ?_
  unfold F_pod_Pod_Drain
  have h := (h.front i hi).split
  refine join_of (fun z w => ¬ (p.st ≠ 1 ∧ p.st ≠ 2) ∧ St w0 ([Cl b T_pod_Pod [I p.st, .map (some r), I p.conc]] :: sm :: delN E i) w) (fun k1 hk1 => ?_) (fun z w ⟨hc, h⟩ => ?_)
  · (repeat (first | refine nn ?_ | (refine dr h ?_; clear h; (try clear w); intro w h) | refine ld0_ h rfl rfl ?_ | refine ld1_ h rfl rfl ?_ | refine ld2_ h rfl rfl ?_ | refine ld3_ h rfl rfl ?_ | refine ld4_ h rfl rfl ?_ | refine ld5_ h rfl rfl ?_ | refine ld6_ h rfl rfl ?_ | refine ld7_ h rfl rfl ?_ | refine ld8_ h rfl rfl ?_ | refine ld9_ h rfl rfl ?_ | refine ld10_ h rfl rfl ?_ | refine ld11_ h rfl rfl ?_ | refine la0_ h rfl ?_ | refine la1_ h rfl ?_ | refine la2_ h rfl ?_ | refine la3_ h rfl ?_ | refine la4_ h rfl ?_ | refine la5_ h rfl ?_ | refine la6_ h rfl ?_ | refine la7_ h rfl ?_ | refine la8_ h rfl ?_ | refine la9_ h rfl ?_ | refine la10_ h rfl ?_ | refine la11_ h rfl ?_ | refine ck0_ h rfl ?_ | refine ck1_ h rfl ?_ | refine ck2_ h rfl ?_ | refine ck3_ h rfl ?_ | refine ck4_ h rfl ?_ | refine ck5_ h rfl ?_ | refine ck6_ h rfl ?_ | refine ck7_ h rfl ?_ | refine ck8_ h rfl ?_ | refine ck9_ h rfl ?_ | refine ck10_ h rfl ?_ | refine ck11_ h rfl ?_ | ((first | refine st0_ h rfl rfl ?_ | refine st1_ h rfl rfl ?_ | refine st2_ h rfl rfl ?_ | refine st3_ h rfl rfl ?_ | refine st4_ h rfl rfl ?_ | refine st5_ h rfl rfl ?_ | refine st6_ h rfl rfl ?_ | refine st7_ h rfl rfl ?_ | refine st8_ h rfl rfl ?_ | refine st9_ h rfl rfl ?_ | refine st10_ h rfl rfl ?_ | refine st11_ h rfl rfl ?_); clear h; (try clear w); intro w h; (try dsimp only [putN, setN] at h))))
    refine it (fun hc => ?_) (fun hc => ?_) <;> (try simp only [decide_eq_true_eq, decide_eq_false_iff_not, beq_iff_eq, bne_iff_ne, beq_eq_false_iff_ne, bne_eq_false_iff_eq, Bool.not_eq_true', Bool.not_eq_false', ne_eq, Bool.not_eq_true, Bool.not_eq_false] at hc)
    · (repeat (first | refine nn ?_ | (refine dr h ?_; clear h; (try clear w); intro w h) | refine ld0_ h rfl rfl ?_ | refine ld1_ h rfl rfl ?_ | refine ld2_ h rfl rfl ?_ | refine ld3_ h rfl rfl ?_ | refine ld4_ h rfl rfl ?_ | refine ld5_ h rfl rfl ?_ | refine ld6_ h rfl rfl ?_ | refine ld7_ h rfl rfl ?_ | refine ld8_ h rfl rfl ?_ | refine ld9_ h rfl rfl ?_ | refine ld10_ h rfl rfl ?_ | refine ld11_ h rfl rfl ?_ | refine la0_ h rfl ?_ | refine la1_ h rfl ?_ | refine la2_ h rfl ?_ | refine la3_ h rfl ?_ | refine la4_ h rfl ?_ | refine la5_ h rfl ?_ | refine la6_ h rfl ?_ | refine la7_ h rfl ?_ | refine la8_ h rfl ?_ | refine la9_ h rfl ?_ | refine la10_ h rfl ?_ | refine la11_ h rfl ?_ | refine ck0_ h rfl ?_ | refine ck1_ h rfl ?_ | refine ck2_ h rfl ?_ | refine ck3_ h rfl ?_ | refine ck4_ h rfl ?_ | refine ck5_ h rfl ?_ | refine ck6_ h rfl ?_ | refine ck7_ h rfl ?_ | refine ck8_ h rfl ?_ | refine ck9_ h rfl ?_ | refine ck10_ h rfl ?_ | refine ck11_ h rfl ?_ | ((first | refine st0_ h rfl rfl ?_ | refine st1_ h rfl rfl ?_ | refine st2_ h rfl rfl ?_ | refine st3_ h rfl rfl ?_ | refine st4_ h rfl rfl ?_ | refine st5_ h rfl rfl ?_ | refine st6_ h rfl rfl ?_ | refine st7_ h rfl rfl ?_ | refine st8_ h rfl rfl ?_ | refine st9_ h rfl rfl ?_ | refine st10_ h rfl rfl ?_ | refine st11_ h rfl rfl ?_); clear h; (try clear w); intro w h; (try dsimp only [putN, setN] at h))))
      refine it (fun hd => ?_) (fun hd => ?_) <;> (try simp only [decide_eq_true_eq, decide_eq_false_iff_not, beq_iff_eq, bne_iff_ne, beq_eq_false_iff_ne, bne_eq_false_iff_eq, Bool.not_eq_true', Bool.not_eq_false', ne_eq, Bool.not_eq_true, Bool.not_eq_false] at hd)
      · have e : podDrain p = (p, 9) := by simp only [podDrain]; rw [if_pos ⟨hc, hd⟩]
        rw [e] at hk
        exact ⟨_, rfl, hk _ w hp' (St.back i hi h.glue)⟩
      · exact hk1 _ w ⟨fun hh => hh.2 hd, h⟩
    · exact hk1 _ w ⟨fun hh => hh.1 hc, h⟩
  · have e : podDrain p = ({ p with st := if p.reqs = [] then 4 else 3 }, 0) := by simp only [podDrain]; rw [if_neg hc]
    rw [e] at hk
    (repeat (first | refine nn ?_ | (refine dr h ?_; clear h; (try clear w); intro w h) | refine ld0_ h rfl rfl ?_ | refine ld1_ h rfl rfl ?_ | refine ld2_ h rfl rfl ?_ | refine ld3_ h rfl rfl ?_ | refine ld4_ h rfl rfl ?_ | refine ld5_ h rfl rfl ?_ | refine ld6_ h rfl rfl ?_ | refine ld7_ h rfl rfl ?_ | refine ld8_ h rfl rfl ?_ | refine ld9_ h rfl rfl ?_ | refine ld10_ h rfl rfl ?_ | refine ld11_ h rfl rfl ?_ | refine la0_ h rfl ?_ | refine la1_ h rfl ?_ | refine la2_ h rfl ?_ | refine la3_ h rfl ?_ | refine la4_ h rfl ?_ | refine la5_ h rfl ?_ | refine la6_ h rfl ?_ | refine la7_ h rfl ?_ | refine la8_ h rfl ?_ | refine la9_ h rfl ?_ | refine la10_ h rfl ?_ | refine la11_ h rfl ?_ | refine ck0_ h rfl ?_ | refine ck1_ h rfl ?_ | refine ck2_ h rfl ?_ | refine ck3_ h rfl ?_ | refine ck4_ h rfl ?_ | refine ck5_ h rfl ?_ | refine ck6_ h rfl ?_ | refine ck7_ h rfl ?_ | refine ck8_ h rfl ?_ | refine ck9_ h rfl ?_ | refine ck10_ h rfl ?_ | refine ck11_ h rfl ?_ | ((first | refine st0_ h rfl rfl ?_ | refine st1_ h rfl rfl ?_ | refine st2_ h rfl rfl ?_ | refine st3_ h rfl rfl ?_ | refine st4_ h rfl rfl ?_ | refine st5_ h rfl rfl ?_ | refine st6_ h rfl rfl ?_ | refine st7_ h rfl rfl ?_ | refine st8_ h rfl rfl ?_ | refine st9_ h rfl rfl ?_ | refine st10_ h rfl rfl ?_ | refine st11_ h rfl rfl ?_); clear h; (try clear w); intro w h; (try dsimp only [putN, setN] at h))))
    refine S_pEnd hm hb h fun w h => ⟨0, rfl, hk _ w ⟨⟨ok.pw, ?_, ?_, ok.few⟩, r, m, sm, hm, hb, rfl⟩ ?_⟩
    · intro hh e
      have e : p.reqs = [] := e
      simp [e] at hh
    · intro hh; apply Classical.byContradiction; intro hne; simp [hne] at hh
    · have h := St.back i hi h.glue
      simp only [true_and] at h
      exact h
theorem S_bagTake {a : Addr} {b r o T : Nat} {pre : List Value} {post : List Value} {m : List (Int × Bool)} {reqs : List Int} {sm : Seg} {F : List Seg} (ha : a = ⟨b, pre.length, none⟩) (hm : MpS KI Value.bool r m sm) (hb : BagIs m reqs)
    (h : St w0 ([Cl b T (pre ++ .map (some r) :: post)] :: sm :: F) w) {id : Int} {k : Int → PT}
    (hk : ∀ m' sm' w', MpS KI Value.bool r m' sm' → BagIs m' (reqs.erase id) → St w0 ([Cl b T (pre ++ .map (some r) :: post)] :: sm' :: F) w' → k (if id ∈ reqs then 0 else 6) w') :
    L.call Pr n_pod_bag_int_take [.pointer (some a), I id] (.one (.one (.int .i64))) k w := by
  subst ha
  have hn : nth (pre ++ .map (some r) :: post) (pre.length + 0) = some (.map (some r)) := by rw [nth_app_add]; rfl
  refine call_of (C_pod_bag_int_take _ _) ?_
  unfold F_pod_bag_int_take
  refine nn ?_
  rw [add_none]
  refine ldx h 0 rfl hn rfl ?_
  refine MpS.get (kv := KI) (e := .one .bool) (z := false) mkI und_map_b zb (fun x => x) (fun _ => rfl) h 1 rfl hm ?_
  rw [hb.get]
  refine it (fun hc => ?_) (fun hc => ?_) <;> (try simp only [decide_eq_true_eq, decide_eq_false_iff_not, beq_iff_eq, bne_iff_ne, beq_eq_false_iff_ne, bne_eq_false_iff_eq, Bool.not_eq_true', Bool.not_eq_false', ne_eq, Bool.not_eq_true, Bool.not_eq_false] at hc)
  · have e : reqs.erase id = reqs := List.erase_of_not_mem (by simpa using hc)
    rw [e, if_neg (by simpa using hc)] at hk
    exact ⟨_, rfl, hk m sm w hm hb h⟩
  · rw [if_pos (by simpa using hc)] at hk
    refine nn ?_
    rw [add_none]
    refine ldx h 0 rfl hn rfl ?_
    refine MpS.del (kv := KI) mkI und_map_b h 1 rfl hm fun sm' w hm h => ⟨_, rfl, hk _ sm' w hm (hb.take id) h⟩
theorem erase_nil_of {l : List Int} (h : l = []) (id : Int) : l.erase id = [] := by subst h; rfl
theorem S_pGive (h : St w0 E w) (i : Nat) {b : Nat} {p : APod} {s : Seg} (hi : nth E i = some s) (hp : PodS b p s) {id : Int} {k : Int → PT} (hk : ∀ s' w', PodS b (podGive p id).1 s' → St w0 (setN E i s') w' → k (podGive p id).2 w') :
    L.call Pr n_pod_Pod_Give [.pointer (some ⟨b, 0, none⟩), I id] (.one (.one (.int .i64))) k w := by
  obtain ⟨ok, r, m, sm, hm, hb, rfl⟩ := hp
  refine call_of (C_pod_Pod_Give _ _) ?_
  unfold F_pod_Pod_Give
  have h := (h.front i hi).split
  refine nn ?_
  refine S_bagTake (pre := [I p.st]) (o := 0) (post := [I p.conc]) rfl hm hb h fun m' sm' w hm hb h => ?_
  refine S_pEnd hm hb h fun w h => ?_
  by_cases hc : id ∈ p.reqs
  · rw [if_pos hc]
    simp only [podGive, if_pos hc] at hk
    refine ⟨_, rfl, hk _ w ⟨⟨ok.pw.sublist (List.erase_sublist ..), ?_, ?_, ?_⟩, r, m', sm', hm, hb, rfl⟩ (St.back i hi h.glue)⟩
    · intro hh e
      simp only at hh e
      rw [e] at hh
      by_cases h3 : p.st = 3
      · simp [h3] at hh
      · simp [h3] at hh
    · intro hh
      simp only at hh ⊢
      by_cases h3 : p.st = 3 ∧ p.reqs.erase id = []
      · exact h3.2
      · rw [if_neg h3] at hh
        exact erase_nil_of (ok.dead hh) id
    · have := List.length_erase_le (a := id) (l := p.reqs); have := ok.few; simp only; omega
  · rw [if_neg hc]
    simp only [podGive, if_neg hc] at hk
    have e : p.reqs.erase id = p.reqs := List.erase_of_not_mem hc
    rw [e] at hb h
    refine ⟨_, rfl, hk _ w ⟨ok, r, m', sm', hm, hb, rfl⟩ ?_⟩
    have h := St.back i hi h.glue
    rw [if_neg (fun hh => ok.dr hh.1 hh.2)] at h
    exact h
theorem S_pTake (h : St w0 E w) (i : Nat) {b : Nat} {p : APod} {s : Seg} (hi : nth E i = some s) (hp : PodS b p s) (hfew : p.reqs.length < 10000000) {id : Int} {k : Int → PT} (hk : ∀ s' w', PodS b (podTake p id).1 s' → St w0 (setN E i s') w' → k (podTake p id).2 w') :
    L.call Pr n_pod_Pod_Take [.pointer (some ⟨b, 0, none⟩), I id] (.one (.one (.int .i64))) k w := by
  have hp' := hp
  obtain ⟨ok, r, m, sm, hm, hb, rfl⟩ := hp
  refine call_of (C_pod_Pod_Take _ _) ?_
  unfold F_pod_Pod_Take
  have h := (h.front i hi).split
  (repeat (first | refine nn ?_ | (refine dr h ?_; clear h; (try clear w); intro w h) | refine ld0_ h rfl rfl ?_ | refine ld1_ h rfl rfl ?_ | refine ld2_ h rfl rfl ?_ | refine ld3_ h rfl rfl ?_ | refine ld4_ h rfl rfl ?_ | refine ld5_ h rfl rfl ?_ | refine ld6_ h rfl rfl ?_ | refine ld7_ h rfl rfl ?_ | refine ld8_ h rfl rfl ?_ | refine ld9_ h rfl rfl ?_ | refine ld10_ h rfl rfl ?_ | refine ld11_ h rfl rfl ?_ | refine la0_ h rfl ?_ | refine la1_ h rfl ?_ | refine la2_ h rfl ?_ | refine la3_ h rfl ?_ | refine la4_ h rfl ?_ | refine la5_ h rfl ?_ | refine la6_ h rfl ?_ | refine la7_ h rfl ?_ | refine la8_ h rfl ?_ | refine la9_ h rfl ?_ | refine la10_ h rfl ?_ | refine la11_ h rfl ?_ | refine ck0_ h rfl ?_ | refine ck1_ h rfl ?_ | refine ck2_ h rfl ?_ | refine ck3_ h rfl ?_ | refine ck4_ h rfl ?_ | refine ck5_ h rfl ?_ | refine ck6_ h rfl ?_ | refine ck7_ h rfl ?_ | refine ck8_ h rfl ?_ | refine ck9_ h rfl ?_ | refine ck10_ h rfl ?_ | refine ck11_ h rfl ?_ | ((first | refine st0_ h rfl rfl ?_ | refine st1_ h rfl rfl ?_ | refine st2_ h rfl rfl ?_ | refine st3_ h rfl rfl ?_ | refine st4_ h rfl rfl ?_ | refine st5_ h rfl rfl ?_ | refine st6_ h rfl rfl ?_ | refine st7_ h rfl rfl ?_ | refine st8_ h rfl rfl ?_ | refine st9_ h rfl rfl ?_ | refine st10_ h rfl rfl ?_ | refine st11_ h rfl rfl ?_); clear h; (try clear w); intro w h; (try dsimp only [putN, setN] at h))))
  refine it (fun hc => ?_) (fun hc => ?_) <;> (try simp only [decide_eq_true_eq, decide_eq_false_iff_not, beq_iff_eq, bne_iff_ne, beq_eq_false_iff_ne, bne_eq_false_iff_eq, Bool.not_eq_true', Bool.not_eq_false', ne_eq, Bool.not_eq_true, Bool.not_eq_false] at hc)
  · have e : podTake p id = (p, 9) := by simp only [podTake]; rw [if_pos hc]
    rw [e] at hk
    exact ⟨_, rfl, hk _ w hp' (St.back i hi h.glue)⟩
  (repeat (first | refine nn ?_ | (refine dr h ?_; clear h; (try clear w); intro w h) | refine ld0_ h rfl rfl ?_ | refine ld1_ h rfl rfl ?_ | refine ld2_ h rfl rfl ?_ | refine ld3_ h rfl rfl ?_ | refine ld4_ h rfl rfl ?_ | refine ld5_ h rfl rfl ?_ | refine ld6_ h rfl rfl ?_ | refine ld7_ h rfl rfl ?_ | refine ld8_ h rfl rfl ?_ | refine ld9_ h rfl rfl ?_ | refine ld10_ h rfl rfl ?_ | refine ld11_ h rfl rfl ?_ | refine la0_ h rfl ?_ | refine la1_ h rfl ?_ | refine la2_ h rfl ?_ | refine la3_ h rfl ?_ | refine la4_ h rfl ?_ | refine la5_ h rfl ?_ | refine la6_ h rfl ?_ | refine la7_ h rfl ?_ | refine la8_ h rfl ?_ | refine la9_ h rfl ?_ | refine la10_ h rfl ?_ | refine la11_ h rfl ?_ | refine ck0_ h rfl ?_ | refine ck1_ h rfl ?_ | refine ck2_ h rfl ?_ | refine ck3_ h rfl ?_ | refine ck4_ h rfl ?_ | refine ck5_ h rfl ?_ | refine ck6_ h rfl ?_ | refine ck7_ h rfl ?_ | refine ck8_ h rfl ?_ | refine ck9_ h rfl ?_ | refine ck10_ h rfl ?_ | refine ck11_ h rfl ?_ | ((first | refine st0_ h rfl rfl ?_ | refine st1_ h rfl rfl ?_ | refine st2_ h rfl rfl ?_ | refine st3_ h rfl rfl ?_ | refine st4_ h rfl rfl ?_ | refine st5_ h rfl rfl ?_ | refine st6_ h rfl rfl ?_ | refine st7_ h rfl rfl ?_ | refine st8_ h rfl rfl ?_ | refine st9_ h rfl rfl ?_ | refine st10_ h rfl rfl ?_ | refine st11_ h rfl rfl ?_); clear h; (try clear w); intro w h; (try dsimp only [putN, setN] at h))))
  refine call_of (C_pod_bag_int_put _ _) ?_
  unfold F_pod_bag_int_put
  (repeat (first | refine nn ?_ | (refine dr h ?_; clear h; (try clear w); intro w h) | refine ld0_ h rfl rfl ?_ | refine ld1_ h rfl rfl ?_ | refine ld2_ h rfl rfl ?_ | refine ld3_ h rfl rfl ?_ | refine ld4_ h rfl rfl ?_ | refine ld5_ h rfl rfl ?_ | refine ld6_ h rfl rfl ?_ | refine ld7_ h rfl rfl ?_ | refine ld8_ h rfl rfl ?_ | refine ld9_ h rfl rfl ?_ | refine ld10_ h rfl rfl ?_ | refine ld11_ h rfl rfl ?_ | refine la0_ h rfl ?_ | refine la1_ h rfl ?_ | refine la2_ h rfl ?_ | refine la3_ h rfl ?_ | refine la4_ h rfl ?_ | refine la5_ h rfl ?_ | refine la6_ h rfl ?_ | refine la7_ h rfl ?_ | refine la8_ h rfl ?_ | refine la9_ h rfl ?_ | refine la10_ h rfl ?_ | refine la11_ h rfl ?_ | refine ck0_ h rfl ?_ | refine ck1_ h rfl ?_ | refine ck2_ h rfl ?_ | refine ck3_ h rfl ?_ | refine ck4_ h rfl ?_ | refine ck5_ h rfl ?_ | refine ck6_ h rfl ?_ | refine ck7_ h rfl ?_ | refine ck8_ h rfl ?_ | refine ck9_ h rfl ?_ | refine ck10_ h rfl ?_ | refine ck11_ h rfl ?_ | ((first | refine st0_ h rfl rfl ?_ | refine st1_ h rfl rfl ?_ | refine st2_ h rfl rfl ?_ | refine st3_ h rfl rfl ?_ | refine st4_ h rfl rfl ?_ | refine st5_ h rfl rfl ?_ | refine st6_ h rfl rfl ?_ | refine st7_ h rfl rfl ?_ | refine st8_ h rfl rfl ?_ | refine st9_ h rfl rfl ?_ | refine st10_ h rfl rfl ?_ | refine st11_ h rfl rfl ?_); clear h; (try clear w); intro w h; (try dsimp only [putN, setN] at h))))
  refine MpS.get (kv := KI) (e := .one .bool) (z := false) mkI und_map_b zb (fun x => x) (fun _ => rfl) h 1 rfl hm ?_
  rw [hb.get]
  have hl := hb.len
  refine it (fun hd => ?_) (fun hd => ?_) <;> (try simp only [decide_eq_true_eq, decide_eq_false_iff_not, beq_iff_eq, bne_iff_ne, beq_eq_false_iff_ne, bne_eq_false_iff_eq, Bool.not_eq_true', Bool.not_eq_false', ne_eq, Bool.not_eq_true, Bool.not_eq_false] at hd)
  · have e : podTake p id = (p, 5) := by simp only [podTake]; rw [if_neg (by simpa using hc), if_pos hd]
    rw [e] at hk
    exact ⟨5, rfl, 5, rfl, hk _ w hp' (St.back i hi h.glue)⟩
  (repeat (first | refine nn ?_ | (refine dr h ?_; clear h; (try clear w); intro w h) | refine ld0_ h rfl rfl ?_ | refine ld1_ h rfl rfl ?_ | refine ld2_ h rfl rfl ?_ | refine ld3_ h rfl rfl ?_ | refine ld4_ h rfl rfl ?_ | refine ld5_ h rfl rfl ?_ | refine ld6_ h rfl rfl ?_ | refine ld7_ h rfl rfl ?_ | refine ld8_ h rfl rfl ?_ | refine ld9_ h rfl rfl ?_ | refine ld10_ h rfl rfl ?_ | refine ld11_ h rfl rfl ?_ | refine la0_ h rfl ?_ | refine la1_ h rfl ?_ | refine la2_ h rfl ?_ | refine la3_ h rfl ?_ | refine la4_ h rfl ?_ | refine la5_ h rfl ?_ | refine la6_ h rfl ?_ | refine la7_ h rfl ?_ | refine la8_ h rfl ?_ | refine la9_ h rfl ?_ | refine la10_ h rfl ?_ | refine la11_ h rfl ?_ | refine ck0_ h rfl ?_ | refine ck1_ h rfl ?_ | refine ck2_ h rfl ?_ | refine ck3_ h rfl ?_ | refine ck4_ h rfl ?_ | refine ck5_ h rfl ?_ | refine ck6_ h rfl ?_ | refine ck7_ h rfl ?_ | refine ck8_ h rfl ?_ | refine ck9_ h rfl ?_ | refine ck10_ h rfl ?_ | refine ck11_ h rfl ?_ | ((first | refine st0_ h rfl rfl ?_ | refine st1_ h rfl rfl ?_ | refine st2_ h rfl rfl ?_ | refine st3_ h rfl rfl ?_ | refine st4_ h rfl rfl ?_ | refine st5_ h rfl rfl ?_ | refine st6_ h rfl rfl ?_ | refine st7_ h rfl rfl ?_ | refine st8_ h rfl rfl ?_ | refine st9_ h rfl rfl ?_ | refine st10_ h rfl rfl ?_ | refine st11_ h rfl rfl ?_); clear h; (try clear w); intro w h; (try dsimp only [putN, setN] at h))))
  refine MpS.len und_map_b h 1 rfl hm ?_
  (repeat (first | refine nn ?_ | (refine dr h ?_; clear h; (try clear w); intro w h) | refine ld0_ h rfl rfl ?_ | refine ld1_ h rfl rfl ?_ | refine ld2_ h rfl rfl ?_ | refine ld3_ h rfl rfl ?_ | refine ld4_ h rfl rfl ?_ | refine ld5_ h rfl rfl ?_ | refine ld6_ h rfl rfl ?_ | refine ld7_ h rfl rfl ?_ | refine ld8_ h rfl rfl ?_ | refine ld9_ h rfl rfl ?_ | refine ld10_ h rfl rfl ?_ | refine ld11_ h rfl rfl ?_ | refine la0_ h rfl ?_ | refine la1_ h rfl ?_ | refine la2_ h rfl ?_ | refine la3_ h rfl ?_ | refine la4_ h rfl ?_ | refine la5_ h rfl ?_ | refine la6_ h rfl ?_ | refine la7_ h rfl ?_ | refine la8_ h rfl ?_ | refine la9_ h rfl ?_ | refine la10_ h rfl ?_ | refine la11_ h rfl ?_ | refine ck0_ h rfl ?_ | refine ck1_ h rfl ?_ | refine ck2_ h rfl ?_ | refine ck3_ h rfl ?_ | refine ck4_ h rfl ?_ | refine ck5_ h rfl ?_ | refine ck6_ h rfl ?_ | refine ck7_ h rfl ?_ | refine ck8_ h rfl ?_ | refine ck9_ h rfl ?_ | refine ck10_ h rfl ?_ | refine ck11_ h rfl ?_ | ((first | refine st0_ h rfl rfl ?_ | refine st1_ h rfl rfl ?_ | refine st2_ h rfl rfl ?_ | refine st3_ h rfl rfl ?_ | refine st4_ h rfl rfl ?_ | refine st5_ h rfl rfl ?_ | refine st6_ h rfl rfl ?_ | refine st7_ h rfl rfl ?_ | refine st8_ h rfl rfl ?_ | refine st9_ h rfl rfl ?_ | refine st10_ h rfl rfl ?_ | refine st11_ h rfl rfl ?_); clear h; (try clear w); intro w h; (try dsimp only [putN, setN] at h))))
  refine it (fun he => ?_) (fun he => ?_) <;> (try simp only [decide_eq_true_eq, decide_eq_false_iff_not, beq_iff_eq, bne_iff_ne, beq_eq_false_iff_ne, bne_eq_false_iff_eq, Bool.not_eq_true', Bool.not_eq_false', ne_eq, Bool.not_eq_true, Bool.not_eq_false] at he)
  · have e : podTake p id = (p, 8) := by simp only [podTake]; rw [if_neg (by simpa using hc), if_neg hd, if_pos (by omega)]
    rw [e] at hk
    exact ⟨8, rfl, 8, rfl, hk _ w hp' (St.back i hi h.glue)⟩
  · have e : podTake p id = ({ p with reqs := insI id p.reqs }, 0) := by simp only [podTake]; rw [if_neg (by simpa using hc), if_neg hd, if_neg (by omega)]
    rw [e] at hk
    (repeat (first | refine nn ?_ | (refine dr h ?_; clear h; (try clear w); intro w h) | refine ld0_ h rfl rfl ?_ | refine ld1_ h rfl rfl ?_ | refine ld2_ h rfl rfl ?_ | refine ld3_ h rfl rfl ?_ | refine ld4_ h rfl rfl ?_ | refine ld5_ h rfl rfl ?_ | refine ld6_ h rfl rfl ?_ | refine ld7_ h rfl rfl ?_ | refine ld8_ h rfl rfl ?_ | refine ld9_ h rfl rfl ?_ | refine ld10_ h rfl rfl ?_ | refine ld11_ h rfl rfl ?_ | refine la0_ h rfl ?_ | refine la1_ h rfl ?_ | refine la2_ h rfl ?_ | refine la3_ h rfl ?_ | refine la4_ h rfl ?_ | refine la5_ h rfl ?_ | refine la6_ h rfl ?_ | refine la7_ h rfl ?_ | refine la8_ h rfl ?_ | refine la9_ h rfl ?_ | refine la10_ h rfl ?_ | refine la11_ h rfl ?_ | refine ck0_ h rfl ?_ | refine ck1_ h rfl ?_ | refine ck2_ h rfl ?_ | refine ck3_ h rfl ?_ | refine ck4_ h rfl ?_ | refine ck5_ h rfl ?_ | refine ck6_ h rfl ?_ | refine ck7_ h rfl ?_ | refine ck8_ h rfl ?_ | refine ck9_ h rfl ?_ | refine ck10_ h rfl ?_ | refine ck11_ h rfl ?_ | ((first | refine st0_ h rfl rfl ?_ | refine st1_ h rfl rfl ?_ | refine st2_ h rfl rfl ?_ | refine st3_ h rfl rfl ?_ | refine st4_ h rfl rfl ?_ | refine st5_ h rfl rfl ?_ | refine st6_ h rfl rfl ?_ | refine st7_ h rfl rfl ?_ | refine st8_ h rfl rfl ?_ | refine st9_ h rfl rfl ?_ | refine st10_ h rfl rfl ?_ | refine st11_ h rfl rfl ?_); clear h; (try clear w); intro w h; (try dsimp only [putN, setN] at h))))
    refine MpS.set (kv := KI) (vv := Value.bool) mkI und_map_b h 1 rfl hm true rfl fun sm' w hm h => ?_
    refine ⟨0, rfl, 0, rfl, hk _ w ⟨⟨insI_pw ok.pw hd, ?_, ?_, ?_⟩, r, _, sm', hm, hb.put hd, rfl⟩ (St.back i hi h.glue)⟩
    · intro _ e2
      have := insI_len id p.reqs
      have e2 : insI id p.reqs = [] := e2
      rw [e2] at this; simp at this
    · intro hh; simp only at hh; have := hc; omega
    · simp only; rw [insI_len]; omega
end Go.Proofs.YthmpbgloifdcnaaGreat
namespace Go.Proofs.YthmpbgloifdcnaaGreat
open Go.Dm
attribute [local irreducible] L.load L.store L.chk L.new L.nonnil L.guard L.ite L.draw L.idx L.sem L.semR L.semU L.chkSem L.next L.call L.callV L.join L.alts L.loop L.begin L.endRound L.range
variable {w0 w : World} {E : List Seg}
theorem S_cloneI (h : St w0 E w) {v : Sl} {l : List Int} (r : Rd w eI v l) (hn : l.length < 1000000000000) (h64 : v.a = none → l = []) {k : Sl → PT}
    (hk : ∀ (v' : Sl) s' w', Rw eI T_int 1 v' l s' → (v'.a = none ↔ v.a = none) → St w0 (s' :: E) w' → k v' w') : L.call Pr n_slices_Clone_int_int [SlV v] (.one (.one .slice)) k w := by
  refine call_of (C_slices_Clone_int_int _) ?_
  unfold F_slices_Clone_int_int
  exact clone_of (K := fun v w' => ∃ x, v = RT.val (.one (.one .slice)) x ∧ k x w') encI elI h r (by omega) hn h64 fun v' s' w' h1 h2 h3 => ⟨v', rfl, hk v' s' w' h1 h2 h3⟩
theorem Rw.nil_of {α : Type} {enc : α → List Value} {e size : Nat} {v : Sl} {l : List α} {s : Seg} (hE : Enc enc size) (hr : Rw enc e size v l s) (h : v.a = none) : l = [] := by
  have := Rw.len hE hr
  unfold Rw at hr
  generalize fl enc l = cs at hr
  cases hr with
  | nil => simpa using this.symm
  | mk => cases h
theorem S_pKill (h : St w0 E w) (i : Nat) {b : Nat} {p : APod} {s : Seg} (hi : nth E i = some s) (hp : PodS b p s) {k : Sl × Int × Unit → PT}
    (hk : ∀ v s' s2 w', PodS b (podKill p).1 s' → Rw eI T_int 1 v (podKill p).2.1 s2 → St w0 (s2 :: setN E i s') w' → k (v, (podKill p).2.2, ()) w') :
    L.call Pr n_pod_Pod_Kill [.pointer (some ⟨b, 0, none⟩)] (.tup [.one .slice, .one (.int .i64)]) k w := by
  have hp' := hp
  obtain ⟨ok, r, m, sm, hm, hb, rfl⟩ := hp
  refine call_of (C_pod_Pod_Kill _) ?_
  unfold F_pod_Pod_Kill
  have h := (h.front i hi).split
  (repeat (first | refine nn ?_ | (refine dr h ?_; clear h; (try clear w); intro w h) | refine ld0_ h rfl rfl ?_ | refine ld1_ h rfl rfl ?_ | refine ld2_ h rfl rfl ?_ | refine ld3_ h rfl rfl ?_ | refine ld4_ h rfl rfl ?_ | refine ld5_ h rfl rfl ?_ | refine ld6_ h rfl rfl ?_ | refine ld7_ h rfl rfl ?_ | refine ld8_ h rfl rfl ?_ | refine ld9_ h rfl rfl ?_ | refine ld10_ h rfl rfl ?_ | refine ld11_ h rfl rfl ?_ | refine la0_ h rfl ?_ | refine la1_ h rfl ?_ | refine la2_ h rfl ?_ | refine la3_ h rfl ?_ | refine la4_ h rfl ?_ | refine la5_ h rfl ?_ | refine la6_ h rfl ?_ | refine la7_ h rfl ?_ | refine la8_ h rfl ?_ | refine la9_ h rfl ?_ | refine la10_ h rfl ?_ | refine la11_ h rfl ?_ | refine ck0_ h rfl ?_ | refine ck1_ h rfl ?_ | refine ck2_ h rfl ?_ | refine ck3_ h rfl ?_ | refine ck4_ h rfl ?_ | refine ck5_ h rfl ?_ | refine ck6_ h rfl ?_ | refine ck7_ h rfl ?_ | refine ck8_ h rfl ?_ | refine ck9_ h rfl ?_ | refine ck10_ h rfl ?_ | refine ck11_ h rfl ?_ | ((first | refine st0_ h rfl rfl ?_ | refine st1_ h rfl rfl ?_ | refine st2_ h rfl rfl ?_ | refine st3_ h rfl rfl ?_ | refine st4_ h rfl rfl ?_ | refine st5_ h rfl rfl ?_ | refine st6_ h rfl rfl ?_ | refine st7_ h rfl rfl ?_ | refine st8_ h rfl rfl ?_ | refine st9_ h rfl rfl ?_ | refine st10_ h rfl rfl ?_ | refine st11_ h rfl rfl ?_); clear h; (try clear w); intro w h; (try dsimp only [putN, setN] at h))))
  refine it (fun hc => ?_) (fun hc => ?_) <;> (try simp only [decide_eq_true_eq, decide_eq_false_iff_not, beq_iff_eq, bne_iff_ne, beq_eq_false_iff_ne, bne_eq_false_iff_eq, Bool.not_eq_true', Bool.not_eq_false', ne_eq, Bool.not_eq_true, Bool.not_eq_false] at hc)
  · have e : podKill p = (p, [], 9) := by simp only [podKill]; rw [if_pos hc]
    rw [e] at hk
    have h := St.back i hi h.glue
    exact ⟨(⟨none, 0, 0⟩, 9, ()), rfl, hk ⟨none, 0, 0⟩ _ [] w hp' Rw.nil (h.eq (by simp))⟩
  have e : podKill p = ({ p with st := 4, reqs := [] }, p.reqs, 0) := by simp only [podKill]; rw [if_neg hc]
  rw [e] at hk
  have hl := hb.len
  have hfew := ok.few
  (repeat (first | refine nn ?_ | (refine dr h ?_; clear h; (try clear w); intro w h) | refine ld0_ h rfl rfl ?_ | refine ld1_ h rfl rfl ?_ | refine ld2_ h rfl rfl ?_ | refine ld3_ h rfl rfl ?_ | refine ld4_ h rfl rfl ?_ | refine ld5_ h rfl rfl ?_ | refine ld6_ h rfl rfl ?_ | refine ld7_ h rfl rfl ?_ | refine ld8_ h rfl rfl ?_ | refine ld9_ h rfl rfl ?_ | refine ld10_ h rfl rfl ?_ | refine ld11_ h rfl rfl ?_ | refine la0_ h rfl ?_ | refine la1_ h rfl ?_ | refine la2_ h rfl ?_ | refine la3_ h rfl ?_ | refine la4_ h rfl ?_ | refine la5_ h rfl ?_ | refine la6_ h rfl ?_ | refine la7_ h rfl ?_ | refine la8_ h rfl ?_ | refine la9_ h rfl ?_ | refine la10_ h rfl ?_ | refine la11_ h rfl ?_ | refine ck0_ h rfl ?_ | refine ck1_ h rfl ?_ | refine ck2_ h rfl ?_ | refine ck3_ h rfl ?_ | refine ck4_ h rfl ?_ | refine ck5_ h rfl ?_ | refine ck6_ h rfl ?_ | refine ck7_ h rfl ?_ | refine ck8_ h rfl ?_ | refine ck9_ h rfl ?_ | refine ck10_ h rfl ?_ | refine ck11_ h rfl ?_ | ((first | refine st0_ h rfl rfl ?_ | refine st1_ h rfl rfl ?_ | refine st2_ h rfl rfl ?_ | refine st3_ h rfl rfl ?_ | refine st4_ h rfl rfl ?_ | refine st5_ h rfl rfl ?_ | refine st6_ h rfl rfl ?_ | refine st7_ h rfl rfl ?_ | refine st8_ h rfl rfl ?_ | refine st9_ h rfl rfl ?_ | refine st10_ h rfl rfl ?_ | refine st11_ h rfl rfl ?_); clear h; (try clear w); intro w h; (try dsimp only [putN, setN] at h))))
  refine S_KSb h 1 rfl hm (by omega) fun v1 s1 w hr1 h => ?_
  rw [isort_of hb.2 (ok.pw.imp (fun h => by omega))] at hr1
  refine S_cloneI h (hr1.rd encI h 0 rfl) (by omega) (Rw.nil_of encI hr1) fun v2 s2 w hr2 _ h => ?_
  have h := dl1_ h
  have hlen := Rw.len encI hr2
  refine loop_of (fun q y w => ∃ (j : Nat) (m : List (Int × Bool)) (sm : Seg), y = ((j : Int), ()) ∧ q + j = p.reqs.length ∧ MpS KI Value.bool r m sm ∧ BagIs m (p.reqs.drop j) ∧ St w0 (s2 :: [Cl b T_pod_Pod [I p.st, .map (some r), I p.conc]] :: sm :: delN E i) w) p.reqs.length ⟨0, m, sm, rfl, rfl, hm, hb, h⟩ ?_
  clear hm hb hp'; (clear h; (try clear w))
  rintro q y w ⟨j, m, sm, rfl, hq, hm, hb, h⟩ again hag
  dsimp only
  refine it (fun hd => ?_) (fun hd => ?_) <;> (try simp only [decide_eq_true_eq, decide_eq_false_iff_not, beq_iff_eq, bne_iff_ne, beq_eq_false_iff_ne, bne_eq_false_iff_eq, Bool.not_eq_true', Bool.not_eq_false', ne_eq, Bool.not_eq_true, Bool.not_eq_false] at hd)
  · have hj : j < p.reqs.length := by omega
    have ed : p.reqs.drop j = p.reqs[j] :: p.reqs.drop (j + 1) := List.drop_eq_getElem_cons hj
    refine Rw.ix encI hr2 (by omega) (by simpa using hj) fun a ha => ?_
    refine Rw.ld0 encI h 0 rfl hr2 ha (x := p.reqs[j]) (by simp [hj]) rfl rfl ?_
    refine nn ?_
    have h := fr2_ (fr2_ h)
    refine S_bagTake (pre := [I p.st]) (o := 0) (post := [I p.conc]) rfl hm hb h fun m' sm' w hm hb h => ?_
    refine hag (q - 1) _ w (by omega) ⟨j + 1, m', sm', ?_, by omega, hm, ?_, ?_⟩
    · rw [wr (by omega) (by omega)]; simp
    · rw [ed, List.erase_cons_head] at hb; exact hb
    · have h := fr2_ (fr1_ (fr1_ h))
      exact h
  · have e : j = p.reqs.length := by omega
    subst e
    rw [List.drop_length] at hb
    (repeat (first | refine nn ?_ | (refine dr h ?_; clear h; (try clear w); intro w h) | refine ld0_ h rfl rfl ?_ | refine ld1_ h rfl rfl ?_ | refine ld2_ h rfl rfl ?_ | refine ld3_ h rfl rfl ?_ | refine ld4_ h rfl rfl ?_ | refine ld5_ h rfl rfl ?_ | refine ld6_ h rfl rfl ?_ | refine ld7_ h rfl rfl ?_ | refine ld8_ h rfl rfl ?_ | refine ld9_ h rfl rfl ?_ | refine ld10_ h rfl rfl ?_ | refine ld11_ h rfl rfl ?_ | refine la0_ h rfl ?_ | refine la1_ h rfl ?_ | refine la2_ h rfl ?_ | refine la3_ h rfl ?_ | refine la4_ h rfl ?_ | refine la5_ h rfl ?_ | refine la6_ h rfl ?_ | refine la7_ h rfl ?_ | refine la8_ h rfl ?_ | refine la9_ h rfl ?_ | refine la10_ h rfl ?_ | refine la11_ h rfl ?_ | refine ck0_ h rfl ?_ | refine ck1_ h rfl ?_ | refine ck2_ h rfl ?_ | refine ck3_ h rfl ?_ | refine ck4_ h rfl ?_ | refine ck5_ h rfl ?_ | refine ck6_ h rfl ?_ | refine ck7_ h rfl ?_ | refine ck8_ h rfl ?_ | refine ck9_ h rfl ?_ | refine ck10_ h rfl ?_ | refine ck11_ h rfl ?_ | ((first | refine st0_ h rfl rfl ?_ | refine st1_ h rfl rfl ?_ | refine st2_ h rfl rfl ?_ | refine st3_ h rfl rfl ?_ | refine st4_ h rfl rfl ?_ | refine st5_ h rfl rfl ?_ | refine st6_ h rfl rfl ?_ | refine st7_ h rfl rfl ?_ | refine st8_ h rfl rfl ?_ | refine st9_ h rfl rfl ?_ | refine st10_ h rfl rfl ?_ | refine st11_ h rfl rfl ?_); clear h; (try clear w); intro w h; (try dsimp only [putN, setN] at h))))
    refine ⟨(v2, 0, ()), rfl, hk v2 _ s2 w ⟨⟨by simp, by simp, by simp, by simp⟩, r, m, sm, hm, hb, rfl⟩ hr2 ?_⟩
    have h := fr2_ (fr2_ h)
    exact St.back (i + 1) (E := s2 :: E) hi h.glue
end Go.Proofs.YthmpbgloifdcnaaGreat
