/- Contracts of functions, and walks of laws (text Fa). No conditions beyond those its theorems state. -/
import Derived.Test.YthmpbgloifdcnaaGreatPo
import Derived.Test.YthmpbgloifdcnaaGreatSepB
set_option linter.all false
namespace Go.Proofs.YthmpbgloifdcnaaGreat
open Go.Dm
attribute [local irreducible] L.load L.store L.chk L.new L.nonnil L.guard L.ite L.draw L.idx L.sem L.semR L.semU L.chkSem L.next L.call L.callV L.join L.alts L.loop L.begin L.endRound L.range
variable {w0 w : World} {E : List Seg}
/-! ### fleets -/
structure AHeld where
  id : Int
  rev : ByteArray
  pod : APod
structure AFleet where
  room : Int
  last : Int
  l : List AHeld
structure AFleet.Ok (f : AFleet) : Prop where
  pw : f.l.Pairwise (fun x y => x.id < y.id)
  rng : ∀ x ∈ f.l, 0 < x.id ∧ x.id ≤ f.last
  live : ∀ x ∈ f.l, x.pod.st = 1 ∨ x.pod.st = 2 ∨ x.pod.st = 3
  once : f.l.Pairwise (fun x y => ∀ q ∈ x.pod.reqs, q ∉ y.pod.reqs)
  few : f.l.length < 100000000
  lo : 0 ≤ f.last
  hi : f.last < 4611686018427387904
/-- a pod, where it lies, and what of it lies there -/
abbrev Tr := AHeld × Nat × Seg
abbrev trS (t : Tr) : Seg := t.2.2
def ent (t : Tr) : Int × (ByteArray × Option Addr) := (t.1.id, t.1.rev, some ⟨t.2.1, 0, none⟩)
def fFind (l : List AHeld) (id : Int) : Option AHeld := l.find? fun x => decide (x.id = id)
def fWhere (l : List AHeld) (q : Int) : Option AHeld := l.find? fun x => decide (q ∈ x.pod.reqs)
structure FlR (F : AFleet) (L : List Tr) (mA : List (Int × (ByteArray × Option Addr))) (mW : List (Int × Int)) : Prop where
  l : F.l = L.map (·.1)
  ps : ∀ t ∈ L, PodS t.2.1 t.1.pod t.2.2
  all : mA.Perm (L.map ent)
  wth : ∀ q, mget mW q = (fWhere F.l q).map (·.id)
abbrev flB (b : Nat) (rA rW : Nat) (F : AFleet) : Seg := [Cl b T_fleet_Fleet [.map (some rA), .map (some rW), I F.room, I F.last]]
/-- a fleet in memory -/
def FlS (b : Nat) (F : AFleet) (s : Seg) : Prop := F.Ok ∧ ∃ rA rW mA mW sA sW L, MpS KI vOne rA mA sA ∧ MpS KI KI rW mW sW ∧ FlR F L mA mW ∧ s = flB b rA rW F ++ (sA ++ (sW ++ (L.map trS).flatten))
theorem FlR.ids {F : AFleet} {L : List Tr} {mA mW} (hr : FlR F L mA mW) (ok : F.Ok) : L.Pairwise (fun x y => x.1.id < y.1.id) := by
  have := ok.pw; rw [hr.l, List.pairwise_map] at this; exact this
theorem FlR.keys {F : AFleet} {L : List Tr} {mA mW} (hr : FlR F L mA mW) (ok : F.Ok) : isort (mA.map (·.1)) = L.map (·.1.id) := by
  refine isort_of ?_ ?_
  · have := hr.all.map (·.1); rw [List.map_map] at this; exact this
  · rw [List.pairwise_map]; exact (hr.ids ok).imp fun h => by omega
theorem FlR.len {F : AFleet} {L : List Tr} {mA mW} (hr : FlR F L mA mW) : mA.length = F.l.length := by rw [hr.all.length_eq, hr.l]; simp
theorem FlR.nd {F : AFleet} {L : List Tr} {mA mW} (hr : FlR F L mA mW) (ok : F.Ok) : (mA.map (·.1)).Nodup := by
  have := hr.all.map (·.1); rw [List.map_map] at this
  rw [this.nodup_iff]
  have h := (hr.ids ok).imp (S := fun x y => x.1.id ≠ y.1.id) fun h => by omega
  exact List.pairwise_map.2 h
theorem FlR.get {F : AFleet} {L : List Tr} {mA mW} (hr : FlR F L mA mW) (ok : F.Ok) {t : Tr} (ht : t ∈ L) : mget mA t.1.id = some (t.1.rev, some ⟨t.2.1, 0, none⟩) :=
  mget_of_mem (hr.nd ok) (hr.all.mem_iff.2 (List.mem_map_of_mem (f := ent) ht))
theorem FlR.get0 {F : AFleet} {L : List Tr} {mA mW} (hr : FlR F L mA mW) {id : Int} (h : fFind F.l id = none) : mget mA id = none := by
  refine mget_none.2 fun hm => ?_
  have := (hr.all.map (·.1)).mem_iff.1 hm
  rw [List.map_map] at this
  obtain ⟨t, ht, e⟩ := List.mem_map.1 this
  have e : t.1.id = id := e
  have h2 := List.find?_eq_none.1 h t.1 (by rw [hr.l]; exact List.mem_map_of_mem (f := (·.1)) ht)
  simp [e] at h2
/-- the one that is found, in its place -/
theorem FlR.at {F : AFleet} {L : List Tr} {mA mW} (hr : FlR F L mA mW) {id : Int} {x : AHeld} (h : fFind F.l id = some x) : ∃ A t B, L = A ++ t :: B ∧ t.1 = x ∧ x.id = id := by
  have h1 := List.mem_of_find?_eq_some h
  have h2 := List.find?_some h
  rw [hr.l] at h1
  obtain ⟨t, ht, rfl⟩ := List.mem_map.1 h1
  obtain ⟨A, B, e⟩ := List.append_of_mem ht
  exact ⟨A, t, B, e, rfl, by simpa using h2⟩
theorem S_fNew (h : St w0 E w) {room : Int} {k : Option Addr → PT} (hk : ∀ b s w', FlS b ⟨room, 0, []⟩ s → St w0 (s :: E) w' → k (some ⟨b, 0, none⟩) w') : L.call Pr n_fleet_New [I room] (.one (.one .ptr)) k w := by
  refine call_of (C_fleet_New _) ?_
  unfold F_fleet_New
  refine MpS.new h KI vOne fun r1 s1 w hm1 h => ?_
  refine MpS.new h KI KI fun r2 s2 w hm2 h => ?_
  refine nw h ?_; clear h; (try clear w); intro b w h
  refine ⟨_, rfl, hk b _ w ⟨⟨by simp, by simp, by simp, by simp, by simp, by simp, by simp⟩, r1, r2, [], [], s1, s2, [], hm1, hm2, ⟨rfl, by simp, .refl _, fun q => rfl⟩, rfl⟩ ?_⟩
  have h := fr2_ (fr2_ (fr1_ h))
  exact h.eq (by simp)
def fOf (l : List AHeld) (id : Int) : ByteArray := ((fFind l id).map (·.rev)).getD s_
/-- a revision's pods, in order -/
theorem S_of (h : St w0 E w) {p : Option Addr} {rev : ByteArray} {k : FV → PT} (hk : ∀ c0 c1 w', St w0 ([Cl c1 T_string [.string rev]] :: [Cl c0 T_p_fleet_Fleet [.pointer p]] :: E) w' →
    k ⟨.func n_fleet_Fleet_of_1, #[], #[.pointer (some ⟨c0, 0, none⟩), .pointer (some ⟨c1, 0, none⟩)]⟩ w') : L.call Pr n_fleet_Fleet_of [.pointer p, .string rev] (.one (.one .func)) k w := by
  refine call_of (C_fleet_Fleet_of _ _) ?_
  unfold F_fleet_Fleet_of
  refine nw h ?_; clear h; (try clear w); intro c0 w h
  refine nw h ?_; clear h; (try clear w); intro c1 w h
  exact ⟨_, rfl, hk c0 c1 w h⟩
def argO (l : List Tr) (m : Nat) : TT [.one (.int .i64), .one .ptr] := match l[m]? with
  | some t => (t.1.id, some ⟨t.2.1, 0, none⟩, ())
  | none => (0, none, ())
abbrev revP (rev : ByteArray) (t : Tr) : Bool := decide (t.1.rev = rev)
theorem Y_of {c0 c1 b rA rW : Nat} {F : AFleet} {L : List Tr} {mA mW} {sA : Seg} {rev : ByteArray} (ok : F.Ok) (hA : MpS KI vOne rA mA sA) (hr : FlR F L mA mW) :
    YldX Pr w0 [[Cl c1 T_string [.string rev]], [Cl c0 T_p_fleet_Fleet [.pointer (some ⟨b, 0, none⟩)]], flB b rA rW F, sA]
      (.func (.func n_fleet_Fleet_of_1) #[] #[.pointer (some ⟨c0, 0, none⟩), .pointer (some ⟨c1, 0, none⟩)]) (L.filter (revP rev)).length fun m => TV _ (argO (L.filter (revP rev)) m) := by
  intro yv R J Jd G w h hJ step fin fin2
  have hll : L.length = F.l.length := by rw [hr.l]; simp
  have hfew := ok.few
  refine ⟨E_fleet_Fleet_of_1, C_fleet_Fleet_of_1 yv ⟨c0, 0, none⟩ ⟨c1, 0, none⟩ ?_⟩
  unfold F_fleet_Fleet_of_1
  have h : St w0 ([Cl c1 T_string [.string rev]] :: [Cl c0 T_p_fleet_Fleet [.pointer (some ⟨b, 0, none⟩)]] :: flB b rA rW F :: sA :: G) w := h
  (repeat (first | refine nn ?_ | (refine dr h ?_; clear h; (try clear w); intro w h) | refine ld0_ h rfl rfl ?_ | refine ld1_ h rfl rfl ?_ | refine ld2_ h rfl rfl ?_ | refine ld3_ h rfl rfl ?_ | refine ld4_ h rfl rfl ?_ | refine ld5_ h rfl rfl ?_ | refine ld6_ h rfl rfl ?_ | refine ld7_ h rfl rfl ?_ | refine ld8_ h rfl rfl ?_ | refine ld9_ h rfl rfl ?_ | refine ld10_ h rfl rfl ?_ | refine ld11_ h rfl rfl ?_ | refine la0_ h rfl ?_ | refine la1_ h rfl ?_ | refine la2_ h rfl ?_ | refine la3_ h rfl ?_ | refine la4_ h rfl ?_ | refine la5_ h rfl ?_ | refine la6_ h rfl ?_ | refine la7_ h rfl ?_ | refine la8_ h rfl ?_ | refine la9_ h rfl ?_ | refine la10_ h rfl ?_ | refine la11_ h rfl ?_ | refine ck0_ h rfl ?_ | refine ck1_ h rfl ?_ | refine ck2_ h rfl ?_ | refine ck3_ h rfl ?_ | refine ck4_ h rfl ?_ | refine ck5_ h rfl ?_ | refine ck6_ h rfl ?_ | refine ck7_ h rfl ?_ | refine ck8_ h rfl ?_ | refine ck9_ h rfl ?_ | refine ck10_ h rfl ?_ | refine ck11_ h rfl ?_ | ((first | refine st0_ h rfl rfl ?_ | refine st1_ h rfl rfl ?_ | refine st2_ h rfl rfl ?_ | refine st3_ h rfl rfl ?_ | refine st4_ h rfl rfl ?_ | refine st5_ h rfl rfl ?_ | refine st6_ h rfl rfl ?_ | refine st7_ h rfl rfl ?_ | refine st8_ h rfl rfl ?_ | refine st9_ h rfl rfl ?_ | refine st10_ h rfl rfl ?_ | refine st11_ h rfl rfl ?_); clear h; (try clear w); intro w h; (try dsimp only [putN, setN] at h))))
  refine S_KSo h 3 rfl hA (by rw [hr.len]; omega) fun v s w hrow h => ?_
  rw [hr.keys ok] at hrow
  have hlen := Rw.len encI hrow
  rw [List.length_map] at hlen
  refine loop_of (fun q y w => ∃ (j : Nat) (G : List Seg), @Eq Int y.1 j ∧ q + j = L.length ∧ J ((L.take j).filter (revP rev)).length G ∧
    St w0 (s :: [Cl c1 T_string [.string rev]] :: [Cl c0 T_p_fleet_Fleet [.pointer (some ⟨b, 0, none⟩)]] :: flB b rA rW F :: sA :: G) w) L.length ⟨0, G, rfl, rfl, hJ, h⟩ ?_
  clear hJ
  clear h; (try clear w)
  rintro q ⟨y, ⟨⟩⟩ w ⟨j, G, hy, hq, hJ, h⟩ again hag
  simp only at hy
  subst hy
  refine it (fun hb => ?_) (fun hb => ?_) <;> (try simp only [decide_eq_true_eq, decide_eq_false_iff_not, beq_iff_eq, bne_iff_ne, beq_eq_false_iff_ne, bne_eq_false_iff_eq, Bool.not_eq_true', Bool.not_eq_false', ne_eq, Bool.not_eq_true, Bool.not_eq_false] at hb)
  · have hj : j < L.length := by omega
    have hx : L[j]? = some L[j] := List.getElem?_eq_getElem hj
    have hft := filt_take (p := revP rev) hx
    refine join_of (fun z w => ∃ G, J ((L.take (j + 1)).filter (revP rev)).length G ∧ St w0 (s :: [Cl c1 T_string [.string rev]] :: [Cl c0 T_p_fleet_Fleet [.pointer (some ⟨b, 0, none⟩)]] :: flB b rA rW F :: sA :: G) w) (fun k8 hk8 => ?_) (fun z w ⟨G, hJ, h⟩ => ?_)
    · refine Rw.ix encI hrow (by omega) (by simpa using hj) fun a ha => ?_
      refine Rw.ld0 encI h 0 rfl hrow ha (x := L[j].1.id) (by simp [hj]) rfl rfl ?_
      (repeat (first | refine nn ?_ | (refine dr h ?_; clear h; (try clear w); intro w h) | refine ld0_ h rfl rfl ?_ | refine ld1_ h rfl rfl ?_ | refine ld2_ h rfl rfl ?_ | refine ld3_ h rfl rfl ?_ | refine ld4_ h rfl rfl ?_ | refine ld5_ h rfl rfl ?_ | refine ld6_ h rfl rfl ?_ | refine ld7_ h rfl rfl ?_ | refine ld8_ h rfl rfl ?_ | refine ld9_ h rfl rfl ?_ | refine ld10_ h rfl rfl ?_ | refine ld11_ h rfl rfl ?_ | refine la0_ h rfl ?_ | refine la1_ h rfl ?_ | refine la2_ h rfl ?_ | refine la3_ h rfl ?_ | refine la4_ h rfl ?_ | refine la5_ h rfl ?_ | refine la6_ h rfl ?_ | refine la7_ h rfl ?_ | refine la8_ h rfl ?_ | refine la9_ h rfl ?_ | refine la10_ h rfl ?_ | refine la11_ h rfl ?_ | refine ck0_ h rfl ?_ | refine ck1_ h rfl ?_ | refine ck2_ h rfl ?_ | refine ck3_ h rfl ?_ | refine ck4_ h rfl ?_ | refine ck5_ h rfl ?_ | refine ck6_ h rfl ?_ | refine ck7_ h rfl ?_ | refine ck8_ h rfl ?_ | refine ck9_ h rfl ?_ | refine ck10_ h rfl ?_ | refine ck11_ h rfl ?_ | ((first | refine st0_ h rfl rfl ?_ | refine st1_ h rfl rfl ?_ | refine st2_ h rfl rfl ?_ | refine st3_ h rfl rfl ?_ | refine st4_ h rfl rfl ?_ | refine st5_ h rfl rfl ?_ | refine st6_ h rfl rfl ?_ | refine st7_ h rfl rfl ?_ | refine st8_ h rfl rfl ?_ | refine st9_ h rfl rfl ?_ | refine st10_ h rfl rfl ?_ | refine st11_ h rfl rfl ?_); clear h; (try clear w); intro w h; (try dsimp only [putN, setN] at h))))
      refine MpS.get mkI und_map_o zo (fun x : ByteArray × Option Addr => (x.1, x.2, ())) (fun _ => rfl) h 4 rfl hA ?_
      rw [hr.get ok (List.getElem_mem hj)]
      simp only [Option.map_some, Option.getD_some]
      refine nw h ?_; clear h; (try clear w); intro b16 w h
      (repeat (first | refine nn ?_ | (refine dr h ?_; clear h; (try clear w); intro w h) | refine ld0_ h rfl rfl ?_ | refine ld1_ h rfl rfl ?_ | refine ld2_ h rfl rfl ?_ | refine ld3_ h rfl rfl ?_ | refine ld4_ h rfl rfl ?_ | refine ld5_ h rfl rfl ?_ | refine ld6_ h rfl rfl ?_ | refine ld7_ h rfl rfl ?_ | refine ld8_ h rfl rfl ?_ | refine ld9_ h rfl rfl ?_ | refine ld10_ h rfl rfl ?_ | refine ld11_ h rfl rfl ?_ | refine la0_ h rfl ?_ | refine la1_ h rfl ?_ | refine la2_ h rfl ?_ | refine la3_ h rfl ?_ | refine la4_ h rfl ?_ | refine la5_ h rfl ?_ | refine la6_ h rfl ?_ | refine la7_ h rfl ?_ | refine la8_ h rfl ?_ | refine la9_ h rfl ?_ | refine la10_ h rfl ?_ | refine la11_ h rfl ?_ | refine ck0_ h rfl ?_ | refine ck1_ h rfl ?_ | refine ck2_ h rfl ?_ | refine ck3_ h rfl ?_ | refine ck4_ h rfl ?_ | refine ck5_ h rfl ?_ | refine ck6_ h rfl ?_ | refine ck7_ h rfl ?_ | refine ck8_ h rfl ?_ | refine ck9_ h rfl ?_ | refine ck10_ h rfl ?_ | refine ck11_ h rfl ?_ | ((first | refine st0_ h rfl rfl ?_ | refine st1_ h rfl rfl ?_ | refine st2_ h rfl rfl ?_ | refine st3_ h rfl rfl ?_ | refine st4_ h rfl rfl ?_ | refine st5_ h rfl rfl ?_ | refine st6_ h rfl rfl ?_ | refine st7_ h rfl rfl ?_ | refine st8_ h rfl rfl ?_ | refine st9_ h rfl rfl ?_ | refine st10_ h rfl rfl ?_ | refine st11_ h rfl rfl ?_); clear h; (try clear w); intro w h; (try dsimp only [putN, setN] at h))))
      rw [str_eq]
      refine it (fun hc => ?_) (fun hc => ?_) <;> (try simp only [decide_eq_true_eq, decide_eq_false_iff_not, beq_iff_eq, bne_iff_ne, beq_eq_false_iff_ne, bne_eq_false_iff_eq, Bool.not_eq_true', Bool.not_eq_false', ne_eq, Bool.not_eq_true, Bool.not_eq_false] at hc)
      · (repeat (first | refine nn ?_ | (refine dr h ?_; clear h; (try clear w); intro w h) | refine ld0_ h rfl rfl ?_ | refine ld1_ h rfl rfl ?_ | refine ld2_ h rfl rfl ?_ | refine ld3_ h rfl rfl ?_ | refine ld4_ h rfl rfl ?_ | refine ld5_ h rfl rfl ?_ | refine ld6_ h rfl rfl ?_ | refine ld7_ h rfl rfl ?_ | refine ld8_ h rfl rfl ?_ | refine ld9_ h rfl rfl ?_ | refine ld10_ h rfl rfl ?_ | refine ld11_ h rfl rfl ?_ | refine la0_ h rfl ?_ | refine la1_ h rfl ?_ | refine la2_ h rfl ?_ | refine la3_ h rfl ?_ | refine la4_ h rfl ?_ | refine la5_ h rfl ?_ | refine la6_ h rfl ?_ | refine la7_ h rfl ?_ | refine la8_ h rfl ?_ | refine la9_ h rfl ?_ | refine la10_ h rfl ?_ | refine la11_ h rfl ?_ | refine ck0_ h rfl ?_ | refine ck1_ h rfl ?_ | refine ck2_ h rfl ?_ | refine ck3_ h rfl ?_ | refine ck4_ h rfl ?_ | refine ck5_ h rfl ?_ | refine ck6_ h rfl ?_ | refine ck7_ h rfl ?_ | refine ck8_ h rfl ?_ | refine ck9_ h rfl ?_ | refine ck10_ h rfl ?_ | refine ck11_ h rfl ?_ | ((first | refine st0_ h rfl rfl ?_ | refine st1_ h rfl rfl ?_ | refine st2_ h rfl rfl ?_ | refine st3_ h rfl rfl ?_ | refine st4_ h rfl rfl ?_ | refine st5_ h rfl rfl ?_ | refine st6_ h rfl rfl ?_ | refine st7_ h rfl rfl ?_ | refine st8_ h rfl rfl ?_ | refine st9_ h rfl rfl ?_ | refine st10_ h rfl rfl ?_ | refine st11_ h rfl rfl ?_); clear h; (try clear w); intro w h; (try dsimp only [putN, setN] at h))))
        have h := dl0_ h
        have hp : revP rev L[j] = true := decide_eq_true hc
        rw [if_pos hp] at hft
        rw [hft] at hk8
        have hat := filt_at (p := revP rev) hx hp
        have ea : TV _ (argO (L.filter (revP rev)) ((L.take j).filter (revP rev)).length) = [I L[j].1.id, .pointer (some ⟨L[j].2.1, 0, none⟩)] := by simp only [argO, hat]; rfl
        have hlt : ((L.take j).filter (revP rev)).length < (L.filter (revP rev)).length := by
          rcases Nat.lt_or_ge ((L.take j).filter (revP rev)).length (L.filter (revP rev)).length with h | h
          · exact h
          · rw [List.getElem?_eq_none h] at hat; cases hat
        have step := step _ G [s] w hlt hJ (St.toEnd (X := [s]) (A := [_, _, _, _]) h)
        simp only [ea] at step
        refine cv (FCall.mono step fun u w' hu => ?_)
        rcases hu with ⟨rfl, G', h, hJ⟩ | ⟨rfl, hd⟩
        · exact ⟨true, rfl, itF rfl (hk8 () w' ⟨G', hJ, St.ofEnd (X := [s]) (A := [_, _, _, _]) h⟩)⟩
        · exact ⟨false, rfl, itT rfl (fin2 w' hd)⟩
      · have h := dl0_ h
        have hp : ¬ revP rev L[j] = true := fun e => hc (of_decide_eq_true e)
        rw [if_neg hp] at hft
        rw [Nat.add_zero] at hft
        rw [hft] at hk8
        exact hk8 () w ⟨G, hJ, h⟩
    · refine hag (q - 1) _ w (by omega) ⟨j + 1, G, ?_, by omega, hJ, h⟩
      show IntKind.wrap .i64 _ = _
      rw [wr (by omega) (by omega)]; omega
  · have e : j = L.length := by omega
    subst e
    rw [List.take_length] at hJ
    exact fin G w hJ (dl0_ h)
end Go.Proofs.YthmpbgloifdcnaaGreat
namespace Go.Proofs.YthmpbgloifdcnaaGreat
open Go.Dm
attribute [local irreducible] L.load L.store L.chk L.new L.nonnil L.guard L.ite L.draw L.idx L.sem L.semR L.semU L.chkSem L.next L.call L.callV L.join L.alts L.loop L.begin L.endRound L.range
variable {w0 w : World} {E : List Seg}
theorem S_tState (h : St w0 E w) (i : Nat) {Q : List Tr} (hi : nth E i = some (Q.map trS).flatten) {t : Tr} (ht : t ∈ Q) (hp : PodS t.2.1 t.1.pod t.2.2) {k : Int → PT} (hk : k t.1.pod.st w) :
    L.call Pr n_pod_Pod_State [.pointer (some ⟨t.2.1, 0, none⟩)] (.one (.one (.int .i64))) k w := by
  obtain ⟨A, B, rfl⟩ := List.append_of_mem ht
  exact S_pState (h.front i hi).pick 0 rfl hp hk
theorem S_tLoad (h : St w0 E w) (i : Nat) {Q : List Tr} (hi : nth E i = some (Q.map trS).flatten) {t : Tr} (ht : t ∈ Q) (hp : PodS t.2.1 t.1.pod t.2.2) {k : Int → PT} (hk : k t.1.pod.reqs.length w) :
    L.call Pr n_pod_Pod_Load [.pointer (some ⟨t.2.1, 0, none⟩)] (.one (.one (.int .i64))) k w := by
  obtain ⟨A, B, rfl⟩ := List.append_of_mem ht
  exact S_pLoad (h.front i hi).pick 0 rfl hp hk
def revs (l : List AHeld) (rev : ByteArray) : List AHeld := l.filter fun x => decide (x.rev = rev)
theorem FlR.revs {F : AFleet} {L : List Tr} {mA mW} (hr : FlR F L mA mW) (rev : ByteArray) : revs F.l rev = (L.filter (revP rev)).map (·.1) := by
  unfold YthmpbgloifdcnaaGreat.revs; rw [hr.l, List.filter_map]; rfl
/-- the m-th one -/
theorem argO_at {l : List Tr} {m : Nat} (hm : m < l.length) : argO l m = (l[m].1.id, some ⟨l[m].2.1, 0, none⟩, ()) := by
  simp [argO, List.getElem?_eq_getElem hm]
theorem lr_mem {L : List Tr} {rev : ByteArray} {m : Nat} (hm : m < (L.filter (revP rev)).length) : (L.filter (revP rev))[m] ∈ L := (List.mem_filter.1 (List.getElem_mem hm)).1
def isUp (x : AHeld) : Bool := decide (x.pod.st ≠ 3)
def fCount (l : List AHeld) (rev : ByteArray) : Nat := ((revs l rev).filter isUp).length
theorem S_fup (h : St w0 E w) (i : Nat) {b : Nat} {F : AFleet} {s : Seg} (hi : nth E i = some s) (hf : FlS b F s) {rev : ByteArray} {k : Int → PT} (hk : ∀ w', St w0 E w' → k (fCount F.l rev) w') :
    L.call Pr n_fleet_Fleet_up [.pointer (some ⟨b, 0, none⟩), .string rev] (.one (.one (.int .i64))) k w := by
  obtain ⟨ok, rA, rW, mA, mW, sA, sW, L, hA, hW, hr, rfl⟩ := hf
  refine call_of (C_fleet_Fleet_up _ _) ?_
  unfold F_fleet_Fleet_up
  have hll : L.length = F.l.length := by rw [hr.l]; simp
  have hfew := ok.few
  have h : St w0 (flB b rA rW F :: sA :: sW :: (L.map trS).flatten :: delN E i) w := (h.front i hi).eq (by simp)
  refine nw h ?_; clear h; (try clear w); intro b1 w h
  (repeat (first | refine nn ?_ | (refine dr h ?_; clear h; (try clear w); intro w h) | refine ld0_ h rfl rfl ?_ | refine ld1_ h rfl rfl ?_ | refine ld2_ h rfl rfl ?_ | refine ld3_ h rfl rfl ?_ | refine ld4_ h rfl rfl ?_ | refine ld5_ h rfl rfl ?_ | refine ld6_ h rfl rfl ?_ | refine ld7_ h rfl rfl ?_ | refine ld8_ h rfl rfl ?_ | refine ld9_ h rfl rfl ?_ | refine ld10_ h rfl rfl ?_ | refine ld11_ h rfl rfl ?_ | refine la0_ h rfl ?_ | refine la1_ h rfl ?_ | refine la2_ h rfl ?_ | refine la3_ h rfl ?_ | refine la4_ h rfl ?_ | refine la5_ h rfl ?_ | refine la6_ h rfl ?_ | refine la7_ h rfl ?_ | refine la8_ h rfl ?_ | refine la9_ h rfl ?_ | refine la10_ h rfl ?_ | refine la11_ h rfl ?_ | refine ck0_ h rfl ?_ | refine ck1_ h rfl ?_ | refine ck2_ h rfl ?_ | refine ck3_ h rfl ?_ | refine ck4_ h rfl ?_ | refine ck5_ h rfl ?_ | refine ck6_ h rfl ?_ | refine ck7_ h rfl ?_ | refine ck8_ h rfl ?_ | refine ck9_ h rfl ?_ | refine ck10_ h rfl ?_ | refine ck11_ h rfl ?_ | ((first | refine st0_ h rfl rfl ?_ | refine st1_ h rfl rfl ?_ | refine st2_ h rfl rfl ?_ | refine st3_ h rfl rfl ?_ | refine st4_ h rfl rfl ?_ | refine st5_ h rfl rfl ?_ | refine st6_ h rfl rfl ?_ | refine st7_ h rfl rfl ?_ | refine st8_ h rfl rfl ?_ | refine st9_ h rfl rfl ?_ | refine st10_ h rfl rfl ?_ | refine st11_ h rfl rfl ?_); clear h; (try clear w); intro w h; (try dsimp only [putN, setN] at h))))
  refine S_of h fun c0 c1 w h => ?_
  have h := fr3_ (fr3_ (fr4_ (fr4_ h)))
  refine range_ofX (A := [_, _, _, _]) (Y_of ok hA hr) h (fun m G => G = [Cl b1 T_int [I ((((L.filter (revP rev)).take m).filter fun t => isUp t.1).length : Nat)]] :: sW :: (L.map trS).flatten :: delN E i) (fun j G => False) rfl ?_ ?_ ?_
  · rintro m G X w lv lp d R hm rfl h hN hE
    have hx := List.getElem?_eq_getElem hm
    have hft := filt_take (p := fun t : Tr => isUp t.1) hx
    have hlt := List.length_filter_le (revP rev) L
    have hl2 := List.length_filter_le (fun t : Tr => isUp t.1) ((L.filter (revP rev)).take m)
    rw [List.length_take] at hl2
    have h : St w0 ([Rec lv lp .busy none] :: [DfM d] :: [Cl c1 T_string [.string rev]] :: [Cl c0 T_p_fleet_Fleet [.pointer (some ⟨b, 0, none⟩)]] :: flB b rA rW F :: sA :: [Cl b1 T_int [I ((((L.filter (revP rev)).take m).filter fun t => isUp t.1).length : Nat)]] :: sW :: (L.map trS).flatten :: (delN E i ++ X)) w := h
    rw [argO_at hm]
    dsimp only
    refine S_tState h 8 rfl (lr_mem hm) (hr.ps _ (lr_mem hm)) ?_
    refine it (fun hc => ?_) (fun hc => ?_) <;> (try simp only [decide_eq_true_eq, decide_eq_false_iff_not, beq_iff_eq, bne_iff_ne, beq_eq_false_iff_ne, bne_eq_false_iff_eq, Bool.not_eq_true', Bool.not_eq_false', ne_eq, Bool.not_eq_true, Bool.not_eq_false] at hc)
    · have hp : isUp (L.filter (revP rev))[m].1 = true := decide_eq_true hc
      rw [if_pos hp] at hft
      (repeat (first | refine nn ?_ | (refine dr h ?_; clear h; (try clear w); intro w h) | refine ld0_ h rfl rfl ?_ | refine ld1_ h rfl rfl ?_ | refine ld2_ h rfl rfl ?_ | refine ld3_ h rfl rfl ?_ | refine ld4_ h rfl rfl ?_ | refine ld5_ h rfl rfl ?_ | refine ld6_ h rfl rfl ?_ | refine ld7_ h rfl rfl ?_ | refine ld8_ h rfl rfl ?_ | refine ld9_ h rfl rfl ?_ | refine ld10_ h rfl rfl ?_ | refine ld11_ h rfl rfl ?_ | refine la0_ h rfl ?_ | refine la1_ h rfl ?_ | refine la2_ h rfl ?_ | refine la3_ h rfl ?_ | refine la4_ h rfl ?_ | refine la5_ h rfl ?_ | refine la6_ h rfl ?_ | refine la7_ h rfl ?_ | refine la8_ h rfl ?_ | refine la9_ h rfl ?_ | refine la10_ h rfl ?_ | refine la11_ h rfl ?_ | refine ck0_ h rfl ?_ | refine ck1_ h rfl ?_ | refine ck2_ h rfl ?_ | refine ck3_ h rfl ?_ | refine ck4_ h rfl ?_ | refine ck5_ h rfl ?_ | refine ck6_ h rfl ?_ | refine ck7_ h rfl ?_ | refine ck8_ h rfl ?_ | refine ck9_ h rfl ?_ | refine ck10_ h rfl ?_ | refine ck11_ h rfl ?_ | ((first | refine st0_ h rfl rfl ?_ | refine st1_ h rfl rfl ?_ | refine st2_ h rfl rfl ?_ | refine st3_ h rfl rfl ?_ | refine st4_ h rfl rfl ?_ | refine st5_ h rfl rfl ?_ | refine st6_ h rfl rfl ?_ | refine st7_ h rfl rfl ?_ | refine st8_ h rfl rfl ?_ | refine st9_ h rfl rfl ?_ | refine st10_ h rfl rfl ?_ | refine st11_ h rfl rfl ?_); clear h; (try clear w); intro w h; (try dsimp only [putN, setN] at h))))
      rw [wr (by omega) (by omega)] at h
      refine hN _ w rfl ?_
      rw [hft]; exact h
    · have hp : ¬ isUp (L.filter (revP rev))[m].1 = true := fun e => (of_decide_eq_true e) hc
      rw [if_neg hp] at hft
      refine hN _ w rfl ?_
      rw [hft]; exact h
  · rintro d G w rfl h
    have h : St w0 ([DfM d] :: [Cl c1 T_string [.string rev]] :: [Cl c0 T_p_fleet_Fleet [.pointer (some ⟨b, 0, none⟩)]] :: flB b rA rW F :: sA :: [Cl b1 T_int [I ((((L.filter (revP rev)).take (L.filter (revP rev)).length).filter fun t => isUp t.1).length : Nat)]] :: sW :: (L.map trS).flatten :: delN E i) w := h
    refine jumpN ?_
    (repeat (first | refine nn ?_ | (refine dr h ?_; clear h; (try clear w); intro w h) | refine ld0_ h rfl rfl ?_ | refine ld1_ h rfl rfl ?_ | refine ld2_ h rfl rfl ?_ | refine ld3_ h rfl rfl ?_ | refine ld4_ h rfl rfl ?_ | refine ld5_ h rfl rfl ?_ | refine ld6_ h rfl rfl ?_ | refine ld7_ h rfl rfl ?_ | refine ld8_ h rfl rfl ?_ | refine ld9_ h rfl rfl ?_ | refine ld10_ h rfl rfl ?_ | refine ld11_ h rfl rfl ?_ | refine la0_ h rfl ?_ | refine la1_ h rfl ?_ | refine la2_ h rfl ?_ | refine la3_ h rfl ?_ | refine la4_ h rfl ?_ | refine la5_ h rfl ?_ | refine la6_ h rfl ?_ | refine la7_ h rfl ?_ | refine la8_ h rfl ?_ | refine la9_ h rfl ?_ | refine la10_ h rfl ?_ | refine la11_ h rfl ?_ | refine ck0_ h rfl ?_ | refine ck1_ h rfl ?_ | refine ck2_ h rfl ?_ | refine ck3_ h rfl ?_ | refine ck4_ h rfl ?_ | refine ck5_ h rfl ?_ | refine ck6_ h rfl ?_ | refine ck7_ h rfl ?_ | refine ck8_ h rfl ?_ | refine ck9_ h rfl ?_ | refine ck10_ h rfl ?_ | refine ck11_ h rfl ?_ | ((first | refine st0_ h rfl rfl ?_ | refine st1_ h rfl rfl ?_ | refine st2_ h rfl rfl ?_ | refine st3_ h rfl rfl ?_ | refine st4_ h rfl rfl ?_ | refine st5_ h rfl rfl ?_ | refine st6_ h rfl rfl ?_ | refine st7_ h rfl rfl ?_ | refine st8_ h rfl rfl ?_ | refine st9_ h rfl rfl ?_ | refine st10_ h rfl rfl ?_ | refine st11_ h rfl rfl ?_); clear h; (try clear w); intro w h; (try dsimp only [putN, setN] at h))))
    (first | refine um0_ h ?_ | refine um1_ h ?_ | refine um2_ h ?_ | refine um3_ h ?_ | refine um4_ h ?_ | refine um5_ h ?_ | refine um6_ h ?_ | refine um7_ h ?_ | refine um8_ h ?_ | refine um9_ h ?_ | refine um10_ h ?_ | refine um11_ h ?_); clear h; (try clear w); intro w h
    rw [List.take_length]
    have e : fCount F.l rev = ((L.filter (revP rev)).filter fun t => isUp t.1).length := by
      unfold fCount; rw [hr.revs, List.filter_map, List.length_map]; rfl
    refine ⟨_, rfl, ?_⟩
    rw [← e]
    refine hk w (St.setN_same' i hi (St.back i hi (s' := flB b rA rW F ++ (sA ++ (sW ++ (L.map trS).flatten))) ?_))
    have h := dl0_ (dl1_ (dl4_ h))
    exact h.eq (by simp)
  · rintro d j G w hf; exact hf.elim
def spStep (a : Int × Int × Int) (x : AHeld) : Int × Int × Int :=
  if x.pod.st = 3 then a else if x.pod.st < a.2.1 ∨ (x.pod.st = a.2.1 ∧ (x.pod.reqs.length : Int) ≤ a.2.2) then (x.id, x.pod.st, x.pod.reqs.length) else a
def fSpare (l : List AHeld) (rev : ByteArray) : Int := ((revs l rev).foldl spStep (0, 3, 0)).1
theorem S_fspare (h : St w0 E w) (i : Nat) {b : Nat} {F : AFleet} {s : Seg} (hi : nth E i = some s) (hf : FlS b F s) {rev : ByteArray} {k : Int → PT} (hk : ∀ w', St w0 E w' → k (fSpare F.l rev) w') :
    L.call Pr n_fleet_Fleet_spare [.pointer (some ⟨b, 0, none⟩), .string rev] (.one (.one (.int .i64))) k w := by
  obtain ⟨ok, rA, rW, mA, mW, sA, sW, L, hA, hW, hr, rfl⟩ := hf
  refine call_of (C_fleet_Fleet_spare _ _) ?_
  unfold F_fleet_Fleet_spare
  have hll : L.length = F.l.length := by rw [hr.l]; simp
  have hfew := ok.few
  have h : St w0 (flB b rA rW F :: sA :: sW :: (L.map trS).flatten :: delN E i) w := (h.front i hi).eq (by simp)
  refine nw h ?_; clear h; (try clear w); intro b1 w h
  refine nw h ?_; clear h; (try clear w); intro b2 w h
  refine nw h ?_; clear h; (try clear w); intro b3 w h
  (repeat (first | refine nn ?_ | (refine dr h ?_; clear h; (try clear w); intro w h) | refine ld0_ h rfl rfl ?_ | refine ld1_ h rfl rfl ?_ | refine ld2_ h rfl rfl ?_ | refine ld3_ h rfl rfl ?_ | refine ld4_ h rfl rfl ?_ | refine ld5_ h rfl rfl ?_ | refine ld6_ h rfl rfl ?_ | refine ld7_ h rfl rfl ?_ | refine ld8_ h rfl rfl ?_ | refine ld9_ h rfl rfl ?_ | refine ld10_ h rfl rfl ?_ | refine ld11_ h rfl rfl ?_ | refine la0_ h rfl ?_ | refine la1_ h rfl ?_ | refine la2_ h rfl ?_ | refine la3_ h rfl ?_ | refine la4_ h rfl ?_ | refine la5_ h rfl ?_ | refine la6_ h rfl ?_ | refine la7_ h rfl ?_ | refine la8_ h rfl ?_ | refine la9_ h rfl ?_ | refine la10_ h rfl ?_ | refine la11_ h rfl ?_ | refine ck0_ h rfl ?_ | refine ck1_ h rfl ?_ | refine ck2_ h rfl ?_ | refine ck3_ h rfl ?_ | refine ck4_ h rfl ?_ | refine ck5_ h rfl ?_ | refine ck6_ h rfl ?_ | refine ck7_ h rfl ?_ | refine ck8_ h rfl ?_ | refine ck9_ h rfl ?_ | refine ck10_ h rfl ?_ | refine ck11_ h rfl ?_ | ((first | refine st0_ h rfl rfl ?_ | refine st1_ h rfl rfl ?_ | refine st2_ h rfl rfl ?_ | refine st3_ h rfl rfl ?_ | refine st4_ h rfl rfl ?_ | refine st5_ h rfl rfl ?_ | refine st6_ h rfl rfl ?_ | refine st7_ h rfl rfl ?_ | refine st8_ h rfl rfl ?_ | refine st9_ h rfl rfl ?_ | refine st10_ h rfl rfl ?_ | refine st11_ h rfl rfl ?_); clear h; (try clear w); intro w h; (try dsimp only [putN, setN] at h))))
  refine S_of h fun c0 c1 w h => ?_
  have h := fr3_ (fr3_ (fr6_ (fr6_ h)))
  refine range_ofX (A := [_, _, _, _]) (Y_of ok hA hr) h (fun m G => ∃ a : Int × Int × Int, a = (((L.filter (revP rev)).take m).map (·.1)).foldl spStep (0, 3, 0) ∧ G = [Cl b3 T_int [I a.2.2]] :: [Cl b2 T_int [I a.2.1]] :: [Cl b1 T_int [I a.1]] :: sW :: (L.map trS).flatten :: delN E i) (fun j G => False) ⟨_, rfl, rfl⟩ ?_ ?_ ?_
  · rintro m G X w lv lp d R hm ⟨⟨a1, a2, a3⟩, ha, rfl⟩ h hN hE
    have hx := List.getElem?_eq_getElem hm
    have hft : spStep (a1, a2, a3) (L.filter (revP rev))[m].1 = (((L.filter (revP rev)).take (m + 1)).map (·.1)).foldl spStep (0, 3, 0) := by
      rw [List.take_add_one, hx, List.map_append, List.foldl_append, ← ha]; rfl
    have h : St w0 ([Rec lv lp .busy none] :: [DfM d] :: [Cl c1 T_string [.string rev]] :: [Cl c0 T_p_fleet_Fleet [.pointer (some ⟨b, 0, none⟩)]] :: flB b rA rW F :: sA :: [Cl b3 T_int [I a3]] :: [Cl b2 T_int [I a2]] :: [Cl b1 T_int [I a1]] :: sW :: (L.map trS).flatten :: (delN E i ++ X)) w := h
    rw [argO_at hm]
    dsimp only
    have hmem := lr_mem hm
    have hps := hr.ps _ hmem
    refine S_tState h 10 rfl hmem hps ?_
    refine it (fun hc => ?_) (fun hc => ?_) <;> (try simp only [decide_eq_true_eq, decide_eq_false_iff_not, beq_iff_eq, bne_iff_ne, beq_eq_false_iff_ne, bne_eq_false_iff_eq, Bool.not_eq_true', Bool.not_eq_false', ne_eq, Bool.not_eq_true, Bool.not_eq_false] at hc)
    · simp only [spStep] at hft
      rw [if_pos hc] at hft
      exact hN _ w ⟨_, hft, rfl⟩ h
    simp only [spStep] at hft
    rw [if_neg hc] at hft
    (repeat (first | refine nn ?_ | (refine dr h ?_; clear h; (try clear w); intro w h) | refine ld0_ h rfl rfl ?_ | refine ld1_ h rfl rfl ?_ | refine ld2_ h rfl rfl ?_ | refine ld3_ h rfl rfl ?_ | refine ld4_ h rfl rfl ?_ | refine ld5_ h rfl rfl ?_ | refine ld6_ h rfl rfl ?_ | refine ld7_ h rfl rfl ?_ | refine ld8_ h rfl rfl ?_ | refine ld9_ h rfl rfl ?_ | refine ld10_ h rfl rfl ?_ | refine ld11_ h rfl rfl ?_ | refine la0_ h rfl ?_ | refine la1_ h rfl ?_ | refine la2_ h rfl ?_ | refine la3_ h rfl ?_ | refine la4_ h rfl ?_ | refine la5_ h rfl ?_ | refine la6_ h rfl ?_ | refine la7_ h rfl ?_ | refine la8_ h rfl ?_ | refine la9_ h rfl ?_ | refine la10_ h rfl ?_ | refine la11_ h rfl ?_ | refine ck0_ h rfl ?_ | refine ck1_ h rfl ?_ | refine ck2_ h rfl ?_ | refine ck3_ h rfl ?_ | refine ck4_ h rfl ?_ | refine ck5_ h rfl ?_ | refine ck6_ h rfl ?_ | refine ck7_ h rfl ?_ | refine ck8_ h rfl ?_ | refine ck9_ h rfl ?_ | refine ck10_ h rfl ?_ | refine ck11_ h rfl ?_ | ((first | refine st0_ h rfl rfl ?_ | refine st1_ h rfl rfl ?_ | refine st2_ h rfl rfl ?_ | refine st3_ h rfl rfl ?_ | refine st4_ h rfl rfl ?_ | refine st5_ h rfl rfl ?_ | refine st6_ h rfl rfl ?_ | refine st7_ h rfl rfl ?_ | refine st8_ h rfl rfl ?_ | refine st9_ h rfl rfl ?_ | refine st10_ h rfl rfl ?_ | refine st11_ h rfl rfl ?_); clear h; (try clear w); intro w h; (try dsimp only [putN, setN] at h))))
    refine S_tState h 10 rfl hmem hps ?_
    (repeat (first | refine nn ?_ | (refine dr h ?_; clear h; (try clear w); intro w h) | refine ld0_ h rfl rfl ?_ | refine ld1_ h rfl rfl ?_ | refine ld2_ h rfl rfl ?_ | refine ld3_ h rfl rfl ?_ | refine ld4_ h rfl rfl ?_ | refine ld5_ h rfl rfl ?_ | refine ld6_ h rfl rfl ?_ | refine ld7_ h rfl rfl ?_ | refine ld8_ h rfl rfl ?_ | refine ld9_ h rfl rfl ?_ | refine ld10_ h rfl rfl ?_ | refine ld11_ h rfl rfl ?_ | refine la0_ h rfl ?_ | refine la1_ h rfl ?_ | refine la2_ h rfl ?_ | refine la3_ h rfl ?_ | refine la4_ h rfl ?_ | refine la5_ h rfl ?_ | refine la6_ h rfl ?_ | refine la7_ h rfl ?_ | refine la8_ h rfl ?_ | refine la9_ h rfl ?_ | refine la10_ h rfl ?_ | refine la11_ h rfl ?_ | refine ck0_ h rfl ?_ | refine ck1_ h rfl ?_ | refine ck2_ h rfl ?_ | refine ck3_ h rfl ?_ | refine ck4_ h rfl ?_ | refine ck5_ h rfl ?_ | refine ck6_ h rfl ?_ | refine ck7_ h rfl ?_ | refine ck8_ h rfl ?_ | refine ck9_ h rfl ?_ | refine ck10_ h rfl ?_ | refine ck11_ h rfl ?_ | ((first | refine st0_ h rfl rfl ?_ | refine st1_ h rfl rfl ?_ | refine st2_ h rfl rfl ?_ | refine st3_ h rfl rfl ?_ | refine st4_ h rfl rfl ?_ | refine st5_ h rfl rfl ?_ | refine st6_ h rfl rfl ?_ | refine st7_ h rfl rfl ?_ | refine st8_ h rfl rfl ?_ | refine st9_ h rfl rfl ?_ | refine st10_ h rfl rfl ?_ | refine st11_ h rfl rfl ?_); clear h; (try clear w); intro w h; (try dsimp only [putN, setN] at h))))
    refine it (fun hd => ?_) (fun hd => ?_) <;> (try simp only [decide_eq_true_eq, decide_eq_false_iff_not, beq_iff_eq, bne_iff_ne, beq_eq_false_iff_ne, bne_eq_false_iff_eq, Bool.not_eq_true', Bool.not_eq_false', ne_eq, Bool.not_eq_true, Bool.not_eq_false] at hd)
    · rw [if_pos (.inl hd)] at hft
      refine S_tState h 10 rfl hmem hps ?_
      refine S_tLoad h 10 rfl hmem hps ?_
      (repeat (first | refine nn ?_ | (refine dr h ?_; clear h; (try clear w); intro w h) | refine ld0_ h rfl rfl ?_ | refine ld1_ h rfl rfl ?_ | refine ld2_ h rfl rfl ?_ | refine ld3_ h rfl rfl ?_ | refine ld4_ h rfl rfl ?_ | refine ld5_ h rfl rfl ?_ | refine ld6_ h rfl rfl ?_ | refine ld7_ h rfl rfl ?_ | refine ld8_ h rfl rfl ?_ | refine ld9_ h rfl rfl ?_ | refine ld10_ h rfl rfl ?_ | refine ld11_ h rfl rfl ?_ | refine la0_ h rfl ?_ | refine la1_ h rfl ?_ | refine la2_ h rfl ?_ | refine la3_ h rfl ?_ | refine la4_ h rfl ?_ | refine la5_ h rfl ?_ | refine la6_ h rfl ?_ | refine la7_ h rfl ?_ | refine la8_ h rfl ?_ | refine la9_ h rfl ?_ | refine la10_ h rfl ?_ | refine la11_ h rfl ?_ | refine ck0_ h rfl ?_ | refine ck1_ h rfl ?_ | refine ck2_ h rfl ?_ | refine ck3_ h rfl ?_ | refine ck4_ h rfl ?_ | refine ck5_ h rfl ?_ | refine ck6_ h rfl ?_ | refine ck7_ h rfl ?_ | refine ck8_ h rfl ?_ | refine ck9_ h rfl ?_ | refine ck10_ h rfl ?_ | refine ck11_ h rfl ?_ | ((first | refine st0_ h rfl rfl ?_ | refine st1_ h rfl rfl ?_ | refine st2_ h rfl rfl ?_ | refine st3_ h rfl rfl ?_ | refine st4_ h rfl rfl ?_ | refine st5_ h rfl rfl ?_ | refine st6_ h rfl rfl ?_ | refine st7_ h rfl rfl ?_ | refine st8_ h rfl rfl ?_ | refine st9_ h rfl rfl ?_ | refine st10_ h rfl rfl ?_ | refine st11_ h rfl rfl ?_); clear h; (try clear w); intro w h; (try dsimp only [putN, setN] at h))))
      exact hN _ w ⟨_, hft, rfl⟩ h
    (repeat (first | refine nn ?_ | (refine dr h ?_; clear h; (try clear w); intro w h) | refine ld0_ h rfl rfl ?_ | refine ld1_ h rfl rfl ?_ | refine ld2_ h rfl rfl ?_ | refine ld3_ h rfl rfl ?_ | refine ld4_ h rfl rfl ?_ | refine ld5_ h rfl rfl ?_ | refine ld6_ h rfl rfl ?_ | refine ld7_ h rfl rfl ?_ | refine ld8_ h rfl rfl ?_ | refine ld9_ h rfl rfl ?_ | refine ld10_ h rfl rfl ?_ | refine ld11_ h rfl rfl ?_ | refine la0_ h rfl ?_ | refine la1_ h rfl ?_ | refine la2_ h rfl ?_ | refine la3_ h rfl ?_ | refine la4_ h rfl ?_ | refine la5_ h rfl ?_ | refine la6_ h rfl ?_ | refine la7_ h rfl ?_ | refine la8_ h rfl ?_ | refine la9_ h rfl ?_ | refine la10_ h rfl ?_ | refine la11_ h rfl ?_ | refine ck0_ h rfl ?_ | refine ck1_ h rfl ?_ | refine ck2_ h rfl ?_ | refine ck3_ h rfl ?_ | refine ck4_ h rfl ?_ | refine ck5_ h rfl ?_ | refine ck6_ h rfl ?_ | refine ck7_ h rfl ?_ | refine ck8_ h rfl ?_ | refine ck9_ h rfl ?_ | refine ck10_ h rfl ?_ | refine ck11_ h rfl ?_ | ((first | refine st0_ h rfl rfl ?_ | refine st1_ h rfl rfl ?_ | refine st2_ h rfl rfl ?_ | refine st3_ h rfl rfl ?_ | refine st4_ h rfl rfl ?_ | refine st5_ h rfl rfl ?_ | refine st6_ h rfl rfl ?_ | refine st7_ h rfl rfl ?_ | refine st8_ h rfl rfl ?_ | refine st9_ h rfl rfl ?_ | refine st10_ h rfl rfl ?_ | refine st11_ h rfl rfl ?_); clear h; (try clear w); intro w h; (try dsimp only [putN, setN] at h))))
    refine S_tState h 10 rfl hmem hps ?_
    (repeat (first | refine nn ?_ | (refine dr h ?_; clear h; (try clear w); intro w h) | refine ld0_ h rfl rfl ?_ | refine ld1_ h rfl rfl ?_ | refine ld2_ h rfl rfl ?_ | refine ld3_ h rfl rfl ?_ | refine ld4_ h rfl rfl ?_ | refine ld5_ h rfl rfl ?_ | refine ld6_ h rfl rfl ?_ | refine ld7_ h rfl rfl ?_ | refine ld8_ h rfl rfl ?_ | refine ld9_ h rfl rfl ?_ | refine ld10_ h rfl rfl ?_ | refine ld11_ h rfl rfl ?_ | refine la0_ h rfl ?_ | refine la1_ h rfl ?_ | refine la2_ h rfl ?_ | refine la3_ h rfl ?_ | refine la4_ h rfl ?_ | refine la5_ h rfl ?_ | refine la6_ h rfl ?_ | refine la7_ h rfl ?_ | refine la8_ h rfl ?_ | refine la9_ h rfl ?_ | refine la10_ h rfl ?_ | refine la11_ h rfl ?_ | refine ck0_ h rfl ?_ | refine ck1_ h rfl ?_ | refine ck2_ h rfl ?_ | refine ck3_ h rfl ?_ | refine ck4_ h rfl ?_ | refine ck5_ h rfl ?_ | refine ck6_ h rfl ?_ | refine ck7_ h rfl ?_ | refine ck8_ h rfl ?_ | refine ck9_ h rfl ?_ | refine ck10_ h rfl ?_ | refine ck11_ h rfl ?_ | ((first | refine st0_ h rfl rfl ?_ | refine st1_ h rfl rfl ?_ | refine st2_ h rfl rfl ?_ | refine st3_ h rfl rfl ?_ | refine st4_ h rfl rfl ?_ | refine st5_ h rfl rfl ?_ | refine st6_ h rfl rfl ?_ | refine st7_ h rfl rfl ?_ | refine st8_ h rfl rfl ?_ | refine st9_ h rfl rfl ?_ | refine st10_ h rfl rfl ?_ | refine st11_ h rfl rfl ?_); clear h; (try clear w); intro w h; (try dsimp only [putN, setN] at h))))
    refine it (fun he => ?_) (fun he => ?_) <;> (try simp only [decide_eq_true_eq, decide_eq_false_iff_not, beq_iff_eq, bne_iff_ne, beq_eq_false_iff_ne, bne_eq_false_iff_eq, Bool.not_eq_true', Bool.not_eq_false', ne_eq, Bool.not_eq_true, Bool.not_eq_false] at he)
    · (repeat (first | refine nn ?_ | (refine dr h ?_; clear h; (try clear w); intro w h) | refine ld0_ h rfl rfl ?_ | refine ld1_ h rfl rfl ?_ | refine ld2_ h rfl rfl ?_ | refine ld3_ h rfl rfl ?_ | refine ld4_ h rfl rfl ?_ | refine ld5_ h rfl rfl ?_ | refine ld6_ h rfl rfl ?_ | refine ld7_ h rfl rfl ?_ | refine ld8_ h rfl rfl ?_ | refine ld9_ h rfl rfl ?_ | refine ld10_ h rfl rfl ?_ | refine ld11_ h rfl rfl ?_ | refine la0_ h rfl ?_ | refine la1_ h rfl ?_ | refine la2_ h rfl ?_ | refine la3_ h rfl ?_ | refine la4_ h rfl ?_ | refine la5_ h rfl ?_ | refine la6_ h rfl ?_ | refine la7_ h rfl ?_ | refine la8_ h rfl ?_ | refine la9_ h rfl ?_ | refine la10_ h rfl ?_ | refine la11_ h rfl ?_ | refine ck0_ h rfl ?_ | refine ck1_ h rfl ?_ | refine ck2_ h rfl ?_ | refine ck3_ h rfl ?_ | refine ck4_ h rfl ?_ | refine ck5_ h rfl ?_ | refine ck6_ h rfl ?_ | refine ck7_ h rfl ?_ | refine ck8_ h rfl ?_ | refine ck9_ h rfl ?_ | refine ck10_ h rfl ?_ | refine ck11_ h rfl ?_ | ((first | refine st0_ h rfl rfl ?_ | refine st1_ h rfl rfl ?_ | refine st2_ h rfl rfl ?_ | refine st3_ h rfl rfl ?_ | refine st4_ h rfl rfl ?_ | refine st5_ h rfl rfl ?_ | refine st6_ h rfl rfl ?_ | refine st7_ h rfl rfl ?_ | refine st8_ h rfl rfl ?_ | refine st9_ h rfl rfl ?_ | refine st10_ h rfl rfl ?_ | refine st11_ h rfl rfl ?_); clear h; (try clear w); intro w h; (try dsimp only [putN, setN] at h))))
      refine S_tLoad h 10 rfl hmem hps ?_
      (repeat (first | refine nn ?_ | (refine dr h ?_; clear h; (try clear w); intro w h) | refine ld0_ h rfl rfl ?_ | refine ld1_ h rfl rfl ?_ | refine ld2_ h rfl rfl ?_ | refine ld3_ h rfl rfl ?_ | refine ld4_ h rfl rfl ?_ | refine ld5_ h rfl rfl ?_ | refine ld6_ h rfl rfl ?_ | refine ld7_ h rfl rfl ?_ | refine ld8_ h rfl rfl ?_ | refine ld9_ h rfl rfl ?_ | refine ld10_ h rfl rfl ?_ | refine ld11_ h rfl rfl ?_ | refine la0_ h rfl ?_ | refine la1_ h rfl ?_ | refine la2_ h rfl ?_ | refine la3_ h rfl ?_ | refine la4_ h rfl ?_ | refine la5_ h rfl ?_ | refine la6_ h rfl ?_ | refine la7_ h rfl ?_ | refine la8_ h rfl ?_ | refine la9_ h rfl ?_ | refine la10_ h rfl ?_ | refine la11_ h rfl ?_ | refine ck0_ h rfl ?_ | refine ck1_ h rfl ?_ | refine ck2_ h rfl ?_ | refine ck3_ h rfl ?_ | refine ck4_ h rfl ?_ | refine ck5_ h rfl ?_ | refine ck6_ h rfl ?_ | refine ck7_ h rfl ?_ | refine ck8_ h rfl ?_ | refine ck9_ h rfl ?_ | refine ck10_ h rfl ?_ | refine ck11_ h rfl ?_ | ((first | refine st0_ h rfl rfl ?_ | refine st1_ h rfl rfl ?_ | refine st2_ h rfl rfl ?_ | refine st3_ h rfl rfl ?_ | refine st4_ h rfl rfl ?_ | refine st5_ h rfl rfl ?_ | refine st6_ h rfl rfl ?_ | refine st7_ h rfl rfl ?_ | refine st8_ h rfl rfl ?_ | refine st9_ h rfl rfl ?_ | refine st10_ h rfl rfl ?_ | refine st11_ h rfl rfl ?_); clear h; (try clear w); intro w h; (try dsimp only [putN, setN] at h))))
      refine it (fun hg => ?_) (fun hg => ?_) <;> (try simp only [decide_eq_true_eq, decide_eq_false_iff_not, beq_iff_eq, bne_iff_ne, beq_eq_false_iff_ne, bne_eq_false_iff_eq, Bool.not_eq_true', Bool.not_eq_false', ne_eq, Bool.not_eq_true, Bool.not_eq_false] at hg)
      · rw [if_pos (.inr ⟨he, hg⟩)] at hft
        refine S_tState h 10 rfl hmem hps ?_
        refine S_tLoad h 10 rfl hmem hps ?_
        (repeat (first | refine nn ?_ | (refine dr h ?_; clear h; (try clear w); intro w h) | refine ld0_ h rfl rfl ?_ | refine ld1_ h rfl rfl ?_ | refine ld2_ h rfl rfl ?_ | refine ld3_ h rfl rfl ?_ | refine ld4_ h rfl rfl ?_ | refine ld5_ h rfl rfl ?_ | refine ld6_ h rfl rfl ?_ | refine ld7_ h rfl rfl ?_ | refine ld8_ h rfl rfl ?_ | refine ld9_ h rfl rfl ?_ | refine ld10_ h rfl rfl ?_ | refine ld11_ h rfl rfl ?_ | refine la0_ h rfl ?_ | refine la1_ h rfl ?_ | refine la2_ h rfl ?_ | refine la3_ h rfl ?_ | refine la4_ h rfl ?_ | refine la5_ h rfl ?_ | refine la6_ h rfl ?_ | refine la7_ h rfl ?_ | refine la8_ h rfl ?_ | refine la9_ h rfl ?_ | refine la10_ h rfl ?_ | refine la11_ h rfl ?_ | refine ck0_ h rfl ?_ | refine ck1_ h rfl ?_ | refine ck2_ h rfl ?_ | refine ck3_ h rfl ?_ | refine ck4_ h rfl ?_ | refine ck5_ h rfl ?_ | refine ck6_ h rfl ?_ | refine ck7_ h rfl ?_ | refine ck8_ h rfl ?_ | refine ck9_ h rfl ?_ | refine ck10_ h rfl ?_ | refine ck11_ h rfl ?_ | ((first | refine st0_ h rfl rfl ?_ | refine st1_ h rfl rfl ?_ | refine st2_ h rfl rfl ?_ | refine st3_ h rfl rfl ?_ | refine st4_ h rfl rfl ?_ | refine st5_ h rfl rfl ?_ | refine st6_ h rfl rfl ?_ | refine st7_ h rfl rfl ?_ | refine st8_ h rfl rfl ?_ | refine st9_ h rfl rfl ?_ | refine st10_ h rfl rfl ?_ | refine st11_ h rfl rfl ?_); clear h; (try clear w); intro w h; (try dsimp only [putN, setN] at h))))
        exact hN _ w ⟨_, hft, rfl⟩ h
      · rw [if_neg (fun hh => hh.elim hd fun hh => hg hh.2)] at hft
        exact hN _ w ⟨_, hft, rfl⟩ h
    · rw [if_neg (fun hh => hh.elim hd fun hh => he hh.1)] at hft
      exact hN _ w ⟨_, hft, rfl⟩ h
  · rintro d G w ⟨a, ha, rfl⟩ h
    have h : St w0 ([DfM d] :: [Cl c1 T_string [.string rev]] :: [Cl c0 T_p_fleet_Fleet [.pointer (some ⟨b, 0, none⟩)]] :: flB b rA rW F :: sA :: [Cl b3 T_int [I a.2.2]] :: [Cl b2 T_int [I a.2.1]] :: [Cl b1 T_int [I a.1]] :: sW :: (L.map trS).flatten :: delN E i) w := h
    refine jumpN ?_
    (repeat (first | refine nn ?_ | (refine dr h ?_; clear h; (try clear w); intro w h) | refine ld0_ h rfl rfl ?_ | refine ld1_ h rfl rfl ?_ | refine ld2_ h rfl rfl ?_ | refine ld3_ h rfl rfl ?_ | refine ld4_ h rfl rfl ?_ | refine ld5_ h rfl rfl ?_ | refine ld6_ h rfl rfl ?_ | refine ld7_ h rfl rfl ?_ | refine ld8_ h rfl rfl ?_ | refine ld9_ h rfl rfl ?_ | refine ld10_ h rfl rfl ?_ | refine ld11_ h rfl rfl ?_ | refine la0_ h rfl ?_ | refine la1_ h rfl ?_ | refine la2_ h rfl ?_ | refine la3_ h rfl ?_ | refine la4_ h rfl ?_ | refine la5_ h rfl ?_ | refine la6_ h rfl ?_ | refine la7_ h rfl ?_ | refine la8_ h rfl ?_ | refine la9_ h rfl ?_ | refine la10_ h rfl ?_ | refine la11_ h rfl ?_ | refine ck0_ h rfl ?_ | refine ck1_ h rfl ?_ | refine ck2_ h rfl ?_ | refine ck3_ h rfl ?_ | refine ck4_ h rfl ?_ | refine ck5_ h rfl ?_ | refine ck6_ h rfl ?_ | refine ck7_ h rfl ?_ | refine ck8_ h rfl ?_ | refine ck9_ h rfl ?_ | refine ck10_ h rfl ?_ | refine ck11_ h rfl ?_ | ((first | refine st0_ h rfl rfl ?_ | refine st1_ h rfl rfl ?_ | refine st2_ h rfl rfl ?_ | refine st3_ h rfl rfl ?_ | refine st4_ h rfl rfl ?_ | refine st5_ h rfl rfl ?_ | refine st6_ h rfl rfl ?_ | refine st7_ h rfl rfl ?_ | refine st8_ h rfl rfl ?_ | refine st9_ h rfl rfl ?_ | refine st10_ h rfl rfl ?_ | refine st11_ h rfl rfl ?_); clear h; (try clear w); intro w h; (try dsimp only [putN, setN] at h))))
    (first | refine um0_ h ?_ | refine um1_ h ?_ | refine um2_ h ?_ | refine um3_ h ?_ | refine um4_ h ?_ | refine um5_ h ?_ | refine um6_ h ?_ | refine um7_ h ?_ | refine um8_ h ?_ | refine um9_ h ?_ | refine um10_ h ?_ | refine um11_ h ?_); clear h; (try clear w); intro w h
    rw [List.take_length] at ha
    have e : fSpare F.l rev = a.1 := by unfold fSpare; rw [hr.revs, ha]
    refine ⟨_, rfl, ?_⟩
    rw [← e]
    refine hk w (St.setN_same' i hi (St.back i hi (s' := flB b rA rW F ++ (sA ++ (sW ++ (L.map trS).flatten))) ?_))
    have h := dl0_ (dl1_ (dl4_ (dl5_ (dl6_ h))))
    exact h.eq (by simp)
  · rintro d j G w hf; exact hf.elim
def eK (x : Int × Int × Int) : List Value := [I x.1, I x.2.1, I x.2.2]
theorem encK : Enc eK 3 := ⟨fun _ => rfl, fun _ => rfl, by decide⟩
def look (x : AHeld) : Int × Int × Int := (x.id, x.pod.st, x.pod.reqs.length)
def fPods (l : List AHeld) (rev : ByteArray) : List (Int × Int × Int) := (revs l rev).map look
end Go.Proofs.YthmpbgloifdcnaaGreat
namespace Go.Proofs.YthmpbgloifdcnaaGreat
open Go.Dm
attribute [local irreducible] L.load L.store L.chk L.new L.nonnil L.guard L.ite L.draw L.idx L.sem L.semR L.semU L.chkSem L.next L.call L.callV L.join L.alts L.loop L.begin L.endRound L.range
variable {w0 w : World} {E : List Seg}
/-! ### what becomes of one pod -/
def fUpd (l : List AHeld) (id : Int) (g : APod → APod) : List AHeld := l.filterMap fun x => if x.id = id then (if (g x.pod).st = 4 then none else some { x with pod := g x.pod }) else some x
theorem fUpd_other {l : List AHeld} {id : Int} {g : APod → APod} (h : ∀ y ∈ l, y.id ≠ id) : fUpd l id g = l := by
  unfold fUpd
  induction l with
  | nil => rfl
  | cons y l ih =>
    rw [List.filterMap_cons, if_neg (h y (by simp))]
    simp only
    rw [ih fun z hz => h z (by simp [hz])]
theorem fUpd_at {A B : List AHeld} {x : AHeld} {g : APod → APod} (h : (A ++ x :: B).Pairwise (fun x y => x.id < y.id)) : fUpd (A ++ x :: B) x.id g = A ++ ((if (g x.pod).st = 4 then [] else [{ x with pod := g x.pod }]) ++ B) := by
  rw [List.pairwise_append, List.pairwise_cons] at h
  have hA : fUpd A x.id g = A := fUpd_other fun y hy => by have := h.2.2 y hy x (by simp); omega
  have hB : fUpd B x.id g = B := fUpd_other fun y hy => by have := h.2.1.1 y hy; omega
  unfold fUpd at *
  rw [List.filterMap_append, hA, List.filterMap_cons, if_pos rfl]
  congr 1
  split <;> rename_i hc
  · split at hc
    · rename_i h4; rw [if_pos h4, hB]; rfl
    · cases hc
  · split at hc
    · cases hc
    · rename_i h4; cases hc; rw [if_neg h4, hB]; rfl
theorem fFind_some {l : List AHeld} {id : Int} {x : AHeld} (h : fFind l id = some x) : x ∈ l ∧ x.id = id := ⟨List.mem_of_find?_eq_some h, by simpa using List.find?_some h⟩
theorem fFind_of {l : List AHeld} (pw : l.Pairwise (fun x y => x.id < y.id)) {x : AHeld} (hx : x ∈ l) : fFind l x.id = some x := by
  unfold fFind
  induction l with
  | nil => simp at hx
  | cons y l ih =>
    rw [List.pairwise_cons] at pw
    rcases List.mem_cons.1 hx with rfl | hx
    · simp
    · have := pw.1 x hx
      rw [List.find?_cons_of_neg (by simp; omega)]
      exact ih pw.2 hx
theorem fWhere_none {l : List AHeld} {q : Int} (h : fWhere l q = none) : ∀ x ∈ l, q ∉ x.pod.reqs := fun x hx => by simpa using List.find?_eq_none.1 h x hx
theorem AFleet.Ok.upd {F : AFleet} (ok : F.Ok) {id : Int} {x : AHeld} (hx : fFind F.l id = some x) (g : APod → APod) (hst : (g x.pod).st = 1 ∨ (g x.pod).st = 2 ∨ (g x.pod).st = 3 ∨ (g x.pod).st = 4)
    (hq : ∀ q ∈ (g x.pod).reqs, q ∈ x.pod.reqs ∨ fWhere F.l q = none) : ({ F with l := fUpd F.l id g } : AFleet).Ok := by
  obtain ⟨hm, rfl⟩ := fFind_some hx
  obtain ⟨A, B, hl⟩ := List.append_of_mem hm
  have pw := ok.pw
  have rng := ok.rng
  have live := ok.live
  have once := ok.once
  have few := ok.few
  have hno : ∀ q, fWhere F.l q = none → ∀ y ∈ A ++ x :: B, q ∉ y.pod.reqs := fun q h => by rw [hl] at h; exact fWhere_none h
  rw [hl] at pw rng live once few
  have e : fUpd F.l x.id g = A ++ ((if (g x.pod).st = 4 then [] else [{ x with pod := g x.pod }]) ++ B) := by rw [hl]; exact fUpd_at pw
  by_cases h4 : (g x.pod).st = 4
  · rw [if_pos h4, List.nil_append] at e
    have hs : (A ++ B).Sublist (A ++ x :: B) := List.Sublist.append (List.Sublist.refl _) (List.sublist_cons_self ..)
    refine ⟨?_, ?_, ?_, ?_, ?_, ok.lo, ok.hi⟩
    · rw [show ({ F with l := fUpd F.l x.id g } : AFleet).l = A ++ B from e]; exact pw.sublist hs
    · rw [show ({ F with l := fUpd F.l x.id g } : AFleet).l = A ++ B from e]; exact fun y hy => rng y (hs.subset hy)
    · rw [show ({ F with l := fUpd F.l x.id g } : AFleet).l = A ++ B from e]; exact fun y hy => live y (hs.subset hy)
    · rw [show ({ F with l := fUpd F.l x.id g } : AFleet).l = A ++ B from e]; exact once.sublist hs
    · rw [show ({ F with l := fUpd F.l x.id g } : AFleet).l = A ++ B from e]; exact Nat.lt_of_le_of_lt hs.length_le few
  · rw [if_neg h4, List.singleton_append] at e
    have e : ({ F with l := fUpd F.l x.id g } : AFleet).l = A ++ { x with pod := g x.pod } :: B := e
    refine ⟨?_, ?_, ?_, ?_, ?_, ok.lo, ok.hi⟩
    · rw [e]; rw [List.pairwise_append, List.pairwise_cons] at pw ⊢
      exact ⟨pw.1, pw.2.1, fun a ha b hb => by
        rcases List.mem_cons.1 hb with rfl | hb
        · exact pw.2.2 a ha x (by simp)
        · exact pw.2.2 a ha b (by simp [hb])⟩
    · rw [e]; intro y hy
      rcases List.mem_append.1 hy with hy | hy
      · exact rng y (by simp [hy])
      · rcases List.mem_cons.1 hy with rfl | hy
        · exact rng x (by simp)
        · exact rng y (by simp [hy])
    · rw [e]; intro y hy
      rcases List.mem_append.1 hy with hy | hy
      · exact live y (by simp [hy])
      · rcases List.mem_cons.1 hy with rfl | hy
        · simp only; omega
        · exact live y (by simp [hy])
    · rw [e]; rw [List.pairwise_append, List.pairwise_cons] at once ⊢
      refine ⟨once.1, ⟨fun b hb q hq1 hq2 => ?_, once.2.1.2⟩, fun a ha b hb q hq1 hq2 => ?_⟩
      · rcases hq q hq1 with h | h
        · exact once.2.1.1 b hb q h hq2
        · exact hno q h b (by simp [hb]) hq2
      · rcases List.mem_cons.1 hb with rfl | hb
        · rcases hq q hq2 with h | h
          · exact once.2.2 a ha x (by simp) q hq1 h
          · exact hno q h a (by simp [ha]) hq1
        · exact once.2.2 a ha b (by simp [hb]) q hq1 hq2
    · rw [e]; simp only [List.length_append, List.length_cons] at few ⊢; exact few
theorem mdel_all : ∀ {m : List (Int × (ByteArray × Option Addr))} {k : Int}, (m.map (·.1)).Nodup → mdel m k = m.filter fun p => decide (p.1 ≠ k)
  | [], k, _ => rfl
  | p :: m, k, h => by
    rw [List.map_cons, List.nodup_cons] at h
    simp only [mdel]
    by_cases e : p.1 = k
    · rw [if_pos e, List.filter_cons_of_neg (by simp [e])]
      symm
      rw [List.filter_eq_self]
      intro y hy
      have : y.1 ≠ k := fun e2 => h.1 (by rw [e, ← e2]; exact List.mem_map_of_mem (f := (·.1)) hy)
      simpa using this
    · rw [if_neg e, List.filter_cons_of_pos (by simpa using e), mdel_all h.2]
theorem FlR.upd {F : AFleet} {A B : List Tr} {t : Tr} {mA mW mW'} (hr : FlR F (A ++ t :: B) mA mW) (ok : F.Ok) (g : APod → APod) {s' : Seg} (hp : PodS t.2.1 (g t.1.pod) s') (h4 : (g t.1.pod).st ≠ 4)
    (hW : ∀ q, mget mW' q = (fWhere (fUpd F.l t.1.id g) q).map (·.id)) : FlR { F with l := fUpd F.l t.1.id g } (A ++ ({ t.1 with pod := g t.1.pod }, t.2.1, s') :: B) mA mW' := by
  have pw := ok.pw
  rw [hr.l, List.map_append, List.map_cons] at pw
  refine ⟨?_, ?_, ?_, hW⟩
  · show fUpd F.l t.1.id g = _
    rw [hr.l, List.map_append, List.map_cons, fUpd_at pw, if_neg h4]
    simp
  · intro y hy
    rcases List.mem_append.1 hy with hy | hy
    · exact hr.ps y (by simp [hy])
    · rcases List.mem_cons.1 hy with rfl | hy
      · exact hp
      · exact hr.ps y (by simp [hy])
  · have := hr.all
    simp only [List.map_append, List.map_cons] at this ⊢
    exact this
theorem FlR.del {F : AFleet} {A B : List Tr} {t : Tr} {mA mW mW'} (hr : FlR F (A ++ t :: B) mA mW) (ok : F.Ok) (g : APod → APod) (h4 : (g t.1.pod).st = 4)
    (hW : ∀ q, mget mW' q = (fWhere (fUpd F.l t.1.id g) q).map (·.id)) : FlR { F with l := fUpd F.l t.1.id g } (A ++ B) (mdel mA t.1.id) mW' := by
  have pw := ok.pw
  have ids := hr.ids ok
  rw [hr.l, List.map_append, List.map_cons] at pw
  refine ⟨?_, ?_, ?_, hW⟩
  · show fUpd F.l t.1.id g = _
    rw [hr.l, List.map_append, List.map_cons, fUpd_at pw, if_pos h4]
    simp
  · intro y hy
    rcases List.mem_append.1 hy with hy | hy
    · exact hr.ps y (by simp [hy])
    · exact hr.ps y (by simp [hy])
  · rw [mdel_all (hr.nd ok)]
    refine (hr.all.filter _).trans ?_
    rw [List.pairwise_append, List.pairwise_cons] at ids
    rw [List.map_append, List.map_cons, List.filter_append, List.filter_cons_of_neg (by simp [ent]), List.map_append]
    have fa : ∀ {l : List Tr}, (∀ y ∈ l, y.1.id ≠ t.1.id) → (l.map ent).filter (fun p => decide (p.1 ≠ t.1.id)) = l.map ent := fun {l} h => by
      rw [List.filter_eq_self]
      intro p hp
      obtain ⟨y, hy, rfl⟩ := List.mem_map.1 hp
      exact decide_eq_true (h y hy)
    rw [fa (fun y hy => by have := ids.2.2 y hy t (by simp); omega), fa (fun y hy => by have := ids.2.1.1 y hy; omega)]
theorem fWhere_upd {l : List AHeld} (pw : l.Pairwise (fun x y => x.id < y.id)) {x : AHeld} (hx : x ∈ l) {g : APod → APod} (hrq : (g x.pod).reqs = x.pod.reqs) (h4 : (g x.pod).st = 4 → x.pod.reqs = []) (q : Int) :
    (fWhere (fUpd l x.id g) q).map (·.id) = (fWhere l q).map (·.id) := by
  obtain ⟨A, B, rfl⟩ := List.append_of_mem hx
  rw [fUpd_at pw]
  unfold fWhere
  simp only [List.find?_append]
  cases List.find? (fun x => decide (q ∈ x.pod.reqs)) A with
  | some y => rfl
  | none =>
    simp only [Option.none_or]
    by_cases h : (g x.pod).st = 4
    · rw [if_pos h, List.find?_nil, Option.none_or, List.find?_cons_of_neg (by simp [h4 h])]
    · rw [if_neg h]
      by_cases hq : q ∈ x.pod.reqs
      · rw [List.find?_cons_of_pos (by simp [hrq, hq]), List.find?_cons_of_pos (by simp [hq])]; rfl
      · rw [List.find?_cons_of_neg (by simp [hrq, hq]), List.find?_cons_of_neg (by simp [hq]), List.find?_nil, Option.none_or]
/-- 'end', of a fleet whose parts lie open -/
theorem S_fend {b rA rW : Nat} {F : AFleet} {A B : List Tr} {t : Tr} {mA : List (Int × (ByteArray × Option Addr))} {sA sW : Seg} {D : List Seg} {rev : ByteArray} (h : St w0 (flB b rA rW F :: sA :: sW :: ((A ++ t :: B).map trS).flatten :: D) w)
    (hA : MpS KI vOne rA mA sA) (hg : mget mA t.1.id = some (rev, some ⟨t.2.1, 0, none⟩)) (hp : PodS t.2.1 t.1.pod t.2.2) {k : Unit → PT} (hk1 : t.1.pod.st ≠ 4 → k () w)
    (hk2 : t.1.pod.st = 4 → ∀ sA' w', MpS KI vOne rA (mdel mA t.1.id) sA' → St w0 (flB b rA rW F :: sA' :: sW :: ((A ++ B).map trS).flatten :: D) w' → k () w') :
    L.call Pr n_fleet_Fleet_end [.pointer (some ⟨b, 0, none⟩), I t.1.id] (.tup []) k w := by
  refine call_of (C_fleet_Fleet_end _ _) ?_
  unfold F_fleet_Fleet_end
  (repeat (first | refine nn ?_ | (refine dr h ?_; clear h; (try clear w); intro w h) | refine ld0_ h rfl rfl ?_ | refine ld1_ h rfl rfl ?_ | refine ld2_ h rfl rfl ?_ | refine ld3_ h rfl rfl ?_ | refine ld4_ h rfl rfl ?_ | refine ld5_ h rfl rfl ?_ | refine ld6_ h rfl rfl ?_ | refine ld7_ h rfl rfl ?_ | refine ld8_ h rfl rfl ?_ | refine ld9_ h rfl rfl ?_ | refine ld10_ h rfl rfl ?_ | refine ld11_ h rfl rfl ?_ | refine la0_ h rfl ?_ | refine la1_ h rfl ?_ | refine la2_ h rfl ?_ | refine la3_ h rfl ?_ | refine la4_ h rfl ?_ | refine la5_ h rfl ?_ | refine la6_ h rfl ?_ | refine la7_ h rfl ?_ | refine la8_ h rfl ?_ | refine la9_ h rfl ?_ | refine la10_ h rfl ?_ | refine la11_ h rfl ?_ | refine ck0_ h rfl ?_ | refine ck1_ h rfl ?_ | refine ck2_ h rfl ?_ | refine ck3_ h rfl ?_ | refine ck4_ h rfl ?_ | refine ck5_ h rfl ?_ | refine ck6_ h rfl ?_ | refine ck7_ h rfl ?_ | refine ck8_ h rfl ?_ | refine ck9_ h rfl ?_ | refine ck10_ h rfl ?_ | refine ck11_ h rfl ?_ | ((first | refine st0_ h rfl rfl ?_ | refine st1_ h rfl rfl ?_ | refine st2_ h rfl rfl ?_ | refine st3_ h rfl rfl ?_ | refine st4_ h rfl rfl ?_ | refine st5_ h rfl rfl ?_ | refine st6_ h rfl rfl ?_ | refine st7_ h rfl rfl ?_ | refine st8_ h rfl rfl ?_ | refine st9_ h rfl rfl ?_ | refine st10_ h rfl rfl ?_ | refine st11_ h rfl rfl ?_); clear h; (try clear w); intro w h; (try dsimp only [putN, setN] at h))))
  refine MpS.get mkI und_map_o zo (fun x : ByteArray × Option Addr => (x.1, x.2, ())) (fun _ => rfl) h 1 rfl hA ?_
  rw [hg]
  simp only [Option.map_some, Option.getD_some]
  refine S_tState h 3 rfl (t := t) (by simp) hp ?_
  refine it (fun hc => ?_) (fun hc => ?_) <;> (try simp only [decide_eq_true_eq, decide_eq_false_iff_not, beq_iff_eq, bne_iff_ne, beq_eq_false_iff_ne, bne_eq_false_iff_eq, Bool.not_eq_true', Bool.not_eq_false', ne_eq, Bool.not_eq_true, Bool.not_eq_false] at hc)
  · (repeat (first | refine nn ?_ | (refine dr h ?_; clear h; (try clear w); intro w h) | refine ld0_ h rfl rfl ?_ | refine ld1_ h rfl rfl ?_ | refine ld2_ h rfl rfl ?_ | refine ld3_ h rfl rfl ?_ | refine ld4_ h rfl rfl ?_ | refine ld5_ h rfl rfl ?_ | refine ld6_ h rfl rfl ?_ | refine ld7_ h rfl rfl ?_ | refine ld8_ h rfl rfl ?_ | refine ld9_ h rfl rfl ?_ | refine ld10_ h rfl rfl ?_ | refine ld11_ h rfl rfl ?_ | refine la0_ h rfl ?_ | refine la1_ h rfl ?_ | refine la2_ h rfl ?_ | refine la3_ h rfl ?_ | refine la4_ h rfl ?_ | refine la5_ h rfl ?_ | refine la6_ h rfl ?_ | refine la7_ h rfl ?_ | refine la8_ h rfl ?_ | refine la9_ h rfl ?_ | refine la10_ h rfl ?_ | refine la11_ h rfl ?_ | refine ck0_ h rfl ?_ | refine ck1_ h rfl ?_ | refine ck2_ h rfl ?_ | refine ck3_ h rfl ?_ | refine ck4_ h rfl ?_ | refine ck5_ h rfl ?_ | refine ck6_ h rfl ?_ | refine ck7_ h rfl ?_ | refine ck8_ h rfl ?_ | refine ck9_ h rfl ?_ | refine ck10_ h rfl ?_ | refine ck11_ h rfl ?_ | ((first | refine st0_ h rfl rfl ?_ | refine st1_ h rfl rfl ?_ | refine st2_ h rfl rfl ?_ | refine st3_ h rfl rfl ?_ | refine st4_ h rfl rfl ?_ | refine st5_ h rfl rfl ?_ | refine st6_ h rfl rfl ?_ | refine st7_ h rfl rfl ?_ | refine st8_ h rfl rfl ?_ | refine st9_ h rfl rfl ?_ | refine st10_ h rfl rfl ?_ | refine st11_ h rfl rfl ?_); clear h; (try clear w); intro w h; (try dsimp only [putN, setN] at h))))
    refine MpS.del mkI und_map_o h 1 rfl hA fun sA' w hA' h => ⟨(), rfl, hk2 hc sA' w hA' ?_⟩
    have h : St w0 (flB b rA rW F :: sA' :: sW :: ((A ++ t :: B).map trS).flatten :: D) w := h
    have h := fr3_ h
    have h := h.pick
    have h := dl0_ h
    have h := fr3_ (fr3_ (fr3_ h))
    exact h
  · exact ⟨(), rfl, hk1 hc⟩
theorem S_fUp (h : St w0 E w) (i : Nat) {b : Nat} {F : AFleet} {s : Seg} (hi : nth E i = some s) (hf : FlS b F s) {id : Int} {k : Int → PT}
    (hk0 : fFind F.l id = none → ∀ w', St w0 E w' → k 6 w')
    (hk1 : ∀ x, fFind F.l id = some x → ∀ s' w', FlS b { F with l := fUpd F.l id fun p => (podUp p).1 } s' → St w0 (setN E i s') w' → k (podUp x.pod).2 w') :
    L.call Pr n_fleet_Fleet_Up [.pointer (some ⟨b, 0, none⟩), I id] (.one (.one (.int .i64))) k w := by
  obtain ⟨ok, rA, rW, mA, mW, sA, sW, L, hA, hW, hr, rfl⟩ := hf
  refine call_of (C_fleet_Fleet_Up _ _) ?_
  unfold F_fleet_Fleet_Up
  have h : St w0 (flB b rA rW F :: sA :: sW :: (L.map trS).flatten :: delN E i) w := (h.front i hi).eq (by simp)
  (repeat (first | refine nn ?_ | (refine dr h ?_; clear h; (try clear w); intro w h) | refine ld0_ h rfl rfl ?_ | refine ld1_ h rfl rfl ?_ | refine ld2_ h rfl rfl ?_ | refine ld3_ h rfl rfl ?_ | refine ld4_ h rfl rfl ?_ | refine ld5_ h rfl rfl ?_ | refine ld6_ h rfl rfl ?_ | refine ld7_ h rfl rfl ?_ | refine ld8_ h rfl rfl ?_ | refine ld9_ h rfl rfl ?_ | refine ld10_ h rfl rfl ?_ | refine ld11_ h rfl rfl ?_ | refine la0_ h rfl ?_ | refine la1_ h rfl ?_ | refine la2_ h rfl ?_ | refine la3_ h rfl ?_ | refine la4_ h rfl ?_ | refine la5_ h rfl ?_ | refine la6_ h rfl ?_ | refine la7_ h rfl ?_ | refine la8_ h rfl ?_ | refine la9_ h rfl ?_ | refine la10_ h rfl ?_ | refine la11_ h rfl ?_ | refine ck0_ h rfl ?_ | refine ck1_ h rfl ?_ | refine ck2_ h rfl ?_ | refine ck3_ h rfl ?_ | refine ck4_ h rfl ?_ | refine ck5_ h rfl ?_ | refine ck6_ h rfl ?_ | refine ck7_ h rfl ?_ | refine ck8_ h rfl ?_ | refine ck9_ h rfl ?_ | refine ck10_ h rfl ?_ | refine ck11_ h rfl ?_ | ((first | refine st0_ h rfl rfl ?_ | refine st1_ h rfl rfl ?_ | refine st2_ h rfl rfl ?_ | refine st3_ h rfl rfl ?_ | refine st4_ h rfl rfl ?_ | refine st5_ h rfl rfl ?_ | refine st6_ h rfl rfl ?_ | refine st7_ h rfl rfl ?_ | refine st8_ h rfl rfl ?_ | refine st9_ h rfl rfl ?_ | refine st10_ h rfl rfl ?_ | refine st11_ h rfl rfl ?_); clear h; (try clear w); intro w h; (try dsimp only [putN, setN] at h))))
  refine MpS.get2 mkI und_map_o zo (fun x : ByteArray × Option Addr => (x.1, x.2, ())) (fun _ => rfl) h 1 rfl hA ?_
  cases hfd : fFind F.l id with
  | none =>
    rw [hr.get0 hfd]
    simp only [Option.map_none, Option.getD_none, Option.isSome_none]
    refine nw h ?_; clear h; (try clear w); intro b4 w h
    (repeat (first | refine nn ?_ | (refine dr h ?_; clear h; (try clear w); intro w h) | refine ld0_ h rfl rfl ?_ | refine ld1_ h rfl rfl ?_ | refine ld2_ h rfl rfl ?_ | refine ld3_ h rfl rfl ?_ | refine ld4_ h rfl rfl ?_ | refine ld5_ h rfl rfl ?_ | refine ld6_ h rfl rfl ?_ | refine ld7_ h rfl rfl ?_ | refine ld8_ h rfl rfl ?_ | refine ld9_ h rfl rfl ?_ | refine ld10_ h rfl rfl ?_ | refine ld11_ h rfl rfl ?_ | refine la0_ h rfl ?_ | refine la1_ h rfl ?_ | refine la2_ h rfl ?_ | refine la3_ h rfl ?_ | refine la4_ h rfl ?_ | refine la5_ h rfl ?_ | refine la6_ h rfl ?_ | refine la7_ h rfl ?_ | refine la8_ h rfl ?_ | refine la9_ h rfl ?_ | refine la10_ h rfl ?_ | refine la11_ h rfl ?_ | refine ck0_ h rfl ?_ | refine ck1_ h rfl ?_ | refine ck2_ h rfl ?_ | refine ck3_ h rfl ?_ | refine ck4_ h rfl ?_ | refine ck5_ h rfl ?_ | refine ck6_ h rfl ?_ | refine ck7_ h rfl ?_ | refine ck8_ h rfl ?_ | refine ck9_ h rfl ?_ | refine ck10_ h rfl ?_ | refine ck11_ h rfl ?_ | ((first | refine st0_ h rfl rfl ?_ | refine st1_ h rfl rfl ?_ | refine st2_ h rfl rfl ?_ | refine st3_ h rfl rfl ?_ | refine st4_ h rfl rfl ?_ | refine st5_ h rfl rfl ?_ | refine st6_ h rfl rfl ?_ | refine st7_ h rfl rfl ?_ | refine st8_ h rfl rfl ?_ | refine st9_ h rfl rfl ?_ | refine st10_ h rfl rfl ?_ | refine st11_ h rfl rfl ?_); clear h; (try clear w); intro w h; (try dsimp only [putN, setN] at h))))
    refine it (fun hc => ?_) (fun hc => ?_) <;> (try simp only [decide_eq_true_eq, decide_eq_false_iff_not, beq_iff_eq, bne_iff_ne, beq_eq_false_iff_ne, bne_eq_false_iff_eq, Bool.not_eq_true', Bool.not_eq_false', ne_eq, Bool.not_eq_true, Bool.not_eq_false] at hc)
    · refine ⟨_, rfl, hk0 hfd w (St.setN_same' i hi (St.back i hi (s' := flB b rA rW F ++ (sA ++ (sW ++ (L.map trS).flatten))) ?_))⟩
      have h := dl0_ h
      exact h.eq (by simp)
    · cases hc
  | some x =>
    obtain ⟨A, t, B, rfl, rfl, hid⟩ := hr.at hfd
    have hg := hr.get ok (t := t) (by simp)
    have hp := hr.ps t (by simp)
    rw [hid] at hg
    rw [hg]
    simp only [Option.map_some, Option.getD_some, Option.isSome_some]
    refine nw h ?_; clear h; (try clear w); intro b4 w h
    (repeat (first | refine nn ?_ | (refine dr h ?_; clear h; (try clear w); intro w h) | refine ld0_ h rfl rfl ?_ | refine ld1_ h rfl rfl ?_ | refine ld2_ h rfl rfl ?_ | refine ld3_ h rfl rfl ?_ | refine ld4_ h rfl rfl ?_ | refine ld5_ h rfl rfl ?_ | refine ld6_ h rfl rfl ?_ | refine ld7_ h rfl rfl ?_ | refine ld8_ h rfl rfl ?_ | refine ld9_ h rfl rfl ?_ | refine ld10_ h rfl rfl ?_ | refine ld11_ h rfl rfl ?_ | refine la0_ h rfl ?_ | refine la1_ h rfl ?_ | refine la2_ h rfl ?_ | refine la3_ h rfl ?_ | refine la4_ h rfl ?_ | refine la5_ h rfl ?_ | refine la6_ h rfl ?_ | refine la7_ h rfl ?_ | refine la8_ h rfl ?_ | refine la9_ h rfl ?_ | refine la10_ h rfl ?_ | refine la11_ h rfl ?_ | refine ck0_ h rfl ?_ | refine ck1_ h rfl ?_ | refine ck2_ h rfl ?_ | refine ck3_ h rfl ?_ | refine ck4_ h rfl ?_ | refine ck5_ h rfl ?_ | refine ck6_ h rfl ?_ | refine ck7_ h rfl ?_ | refine ck8_ h rfl ?_ | refine ck9_ h rfl ?_ | refine ck10_ h rfl ?_ | refine ck11_ h rfl ?_ | ((first | refine st0_ h rfl rfl ?_ | refine st1_ h rfl rfl ?_ | refine st2_ h rfl rfl ?_ | refine st3_ h rfl rfl ?_ | refine st4_ h rfl rfl ?_ | refine st5_ h rfl rfl ?_ | refine st6_ h rfl rfl ?_ | refine st7_ h rfl rfl ?_ | refine st8_ h rfl rfl ?_ | refine st9_ h rfl rfl ?_ | refine st10_ h rfl rfl ?_ | refine st11_ h rfl rfl ?_); clear h; (try clear w); intro w h; (try dsimp only [putN, setN] at h))))
    refine it (fun hc => ?_) (fun hc => ?_) <;> (try simp only [decide_eq_true_eq, decide_eq_false_iff_not, beq_iff_eq, bne_iff_ne, beq_eq_false_iff_ne, bne_eq_false_iff_eq, Bool.not_eq_true', Bool.not_eq_false', ne_eq, Bool.not_eq_true, Bool.not_eq_false] at hc)
    · cases hc
    (repeat (first | refine nn ?_ | (refine dr h ?_; clear h; (try clear w); intro w h) | refine ld0_ h rfl rfl ?_ | refine ld1_ h rfl rfl ?_ | refine ld2_ h rfl rfl ?_ | refine ld3_ h rfl rfl ?_ | refine ld4_ h rfl rfl ?_ | refine ld5_ h rfl rfl ?_ | refine ld6_ h rfl rfl ?_ | refine ld7_ h rfl rfl ?_ | refine ld8_ h rfl rfl ?_ | refine ld9_ h rfl rfl ?_ | refine ld10_ h rfl rfl ?_ | refine ld11_ h rfl rfl ?_ | refine la0_ h rfl ?_ | refine la1_ h rfl ?_ | refine la2_ h rfl ?_ | refine la3_ h rfl ?_ | refine la4_ h rfl ?_ | refine la5_ h rfl ?_ | refine la6_ h rfl ?_ | refine la7_ h rfl ?_ | refine la8_ h rfl ?_ | refine la9_ h rfl ?_ | refine la10_ h rfl ?_ | refine la11_ h rfl ?_ | refine ck0_ h rfl ?_ | refine ck1_ h rfl ?_ | refine ck2_ h rfl ?_ | refine ck3_ h rfl ?_ | refine ck4_ h rfl ?_ | refine ck5_ h rfl ?_ | refine ck6_ h rfl ?_ | refine ck7_ h rfl ?_ | refine ck8_ h rfl ?_ | refine ck9_ h rfl ?_ | refine ck10_ h rfl ?_ | refine ck11_ h rfl ?_ | ((first | refine st0_ h rfl rfl ?_ | refine st1_ h rfl rfl ?_ | refine st2_ h rfl rfl ?_ | refine st3_ h rfl rfl ?_ | refine st4_ h rfl rfl ?_ | refine st5_ h rfl rfl ?_ | refine st6_ h rfl rfl ?_ | refine st7_ h rfl rfl ?_ | refine st8_ h rfl rfl ?_ | refine st9_ h rfl rfl ?_ | refine st10_ h rfl rfl ?_ | refine st11_ h rfl rfl ?_); clear h; (try clear w); intro w h; (try dsimp only [putN, setN] at h))))
    have h := dl0_ h
    have h := fr3_ h
    have h := h.pick
    refine S_pUp h 0 rfl hp fun s' w hp' h => ⟨_, rfl, ?_⟩
    have h : St w0 (trS ({ t.1 with pod := (podUp t.1.pod).1 }, t.2.1, s') :: ((A ++ B).map trS).flatten :: flB b rA rW F :: sA :: sW :: delN E i) w := h
    have h := h.place
    have hst := ok.live t.1 (fFind_some hfd).1
    have h4 : (podUp t.1.pod).1.st ≠ 4 := by unfold podUp; split <;> simp <;> omega
    have hrq : (podUp t.1.pod).1.reqs = t.1.pod.reqs := by unfold podUp; split <;> rfl
    refine hk1 _ hfd (flB b rA rW { F with l := fUpd F.l id fun p => (podUp p).1 } ++ (sA ++ (sW ++ ((A ++ ({ t.1 with pod := (podUp t.1.pod).1 }, t.2.1, s') :: B).map trS).flatten))) w ⟨?_, rA, rW, mA, mW, sA, sW, _, hA, hW, ?_, rfl⟩ (St.back i hi ?_)
    · refine ok.upd hfd _ ?_ fun q hq => .inl (by rw [← hrq]; exact hq)
      unfold podUp; split <;> simp <;> omega
    · subst hid
      refine hr.upd ok (fun p => (podUp p).1) hp' h4 fun q => ?_
      rw [hr.wth]
      rw [fWhere_upd ok.pw (fFind_some hfd).1 hrq (fun e => absurd e h4)]
    · have h := fr3_ (fr3_ (fr3_ h))
      exact h.eq (by simp)
end Go.Proofs.YthmpbgloifdcnaaGreat
namespace Go.Proofs.YthmpbgloifdcnaaGreat
open Go.Dm
attribute [local irreducible] L.load L.store L.chk L.new L.nonnil L.guard L.ite L.draw L.idx L.sem L.semR L.semU L.chkSem L.next L.call L.callV L.join L.alts L.loop L.begin L.endRound L.range
variable {w0 w : World} {E : List Seg}
/-! ### more, and fewer -/
def grow1 (rev : ByteArray) (conc : Int) (F : AFleet) : AFleet := { F with l := F.l ++ [⟨F.last + 1, rev, ⟨1, conc, []⟩⟩], last := F.last + 1 }
def grow (rev : ByteArray) (conc : Int) : Nat → AFleet → AFleet
  | 0, F => F
  | n + 1, F => grow1 rev conc (grow rev conc n F)
def drain1 (rev : ByteArray) (F : AFleet) : AFleet := { F with l := fUpd F.l (fSpare F.l rev) fun p => (podDrain p).1 }
def shrink (rev : ByteArray) : Nat → AFleet → AFleet × List Int
  | 0, F => (F, [])
  | n + 1, F => ((shrink rev n (drain1 rev F)).1, fSpare F.l rev :: (shrink rev n (drain1 rev F)).2)
def growN (F : AFleet) (rev : ByteArray) (want : Int) : Nat := (min (want - fCount F.l rev) (F.room - F.l.length)).toNat
def shrinkN (F : AFleet) (rev : ByteArray) (want : Int) : Nat := ((fCount F.l rev : Int) - max want 0).toNat
def fGrown (F : AFleet) (rev : ByteArray) (conc want : Int) : AFleet := grow rev conc (growN F rev want) F
def fMade (F : AFleet) (rev : ByteArray) (want : Int) : List Int := (List.range (growN F rev want)).map fun j : Nat => F.last + 1 + (j : Int)
def fScale (F : AFleet) (rev : ByteArray) (conc want : Int) : AFleet × List Int := shrink rev (shrinkN (fGrown F rev conc want) rev want) (fGrown F rev conc want)
section
variable {F : AFleet} {rev : ByteArray} {conc : Int}
theorem grow_last (n : Nat) : (grow rev conc n F).last = F.last + n := by
  induction n with
  | zero => simp [grow]
  | succ n ih => simp only [grow, grow1, ih]; omega
theorem grow_room (n : Nat) : (grow rev conc n F).room = F.room := by
  induction n with
  | zero => rfl
  | succ n ih => simp only [grow, grow1, ih]
theorem grow_len (n : Nat) : (grow rev conc n F).l.length = F.l.length + n := by
  induction n with
  | zero => rfl
  | succ n ih => simp only [grow, grow1, List.length_append, ih, List.length_singleton]; omega
theorem revs_app (a b : List AHeld) : revs (a ++ b) rev = revs a rev ++ revs b rev := List.filter_append ..
theorem fCount_app (a b : List AHeld) : fCount (a ++ b) rev = fCount a rev + fCount b rev := by
  unfold fCount; rw [revs_app, List.filter_append, List.length_append]
theorem fCount_le (l : List AHeld) : fCount l rev ≤ l.length := Nat.le_trans (List.length_filter_le ..) (List.length_filter_le ..)
theorem grow_count (n : Nat) : fCount (grow rev conc n F).l rev = fCount F.l rev + n := by
  induction n with
  | zero => rfl
  | succ n ih =>
    simp only [grow, grow1]
    rw [fCount_app, ih]
    have : fCount [(⟨(grow rev conc n F).last + 1, rev, ⟨1, conc, []⟩⟩ : AHeld)] rev = 1 := by simp [fCount, revs, isUp]
    rw [this]; rfl
theorem grow1_ok (ok : F.Ok) (h1 : F.l.length + 1 < 100000000) (h2 : F.last + 1 < 4611686018427387904) : (grow1 rev conc F).Ok := by
  have lo := ok.lo
  refine ⟨?_, ?_, ?_, ?_, ?_, ?_, h2⟩
  · simp only [grow1, List.pairwise_append, List.pairwise_singleton, List.mem_singleton]
    exact ⟨ok.pw, trivial, fun a ha b hb => by subst hb; have := (ok.rng a ha).2; simp only; omega⟩
  · intro x hx
    simp only [grow1, List.mem_append, List.mem_singleton] at hx ⊢
    rcases hx with hx | rfl
    · have := ok.rng x hx; omega
    · simp only; omega
  · intro x hx
    simp only [grow1, List.mem_append, List.mem_singleton] at hx
    rcases hx with hx | rfl
    · exact ok.live x hx
    · simp
  · simp only [grow1, List.pairwise_append, List.pairwise_singleton, List.mem_singleton]
    exact ⟨ok.once, trivial, fun a ha b hb q hq1 hq2 => by subst hb; simp at hq2⟩
  · simp only [grow1, List.length_append, List.length_singleton]; exact h1
  · simp only [grow1]; omega
theorem fWhere_app (l : List AHeld) (x : AHeld) (hx : x.pod.reqs = []) (q : Int) : fWhere (l ++ [x]) q = fWhere l q := by
  unfold fWhere
  rw [List.find?_append, List.find?_cons_of_neg (by simp [hx])]
  simp
/-! what is drained first -/
def SpOk (l : List AHeld) (a : Int × Int × Int) : Prop := (a = (0, 3, 0) ∧ ∀ y ∈ l, isUp y = false) ∨ ∃ x ∈ l, a = (x.id, x.pod.st, (x.pod.reqs.length : Int)) ∧ isUp x = true
theorem SpOk.step {l : List AHeld} {a : Int × Int × Int} {x : AHeld} (h : SpOk l a) (hx : x.pod.st = 1 ∨ x.pod.st = 2 ∨ x.pod.st = 3) : SpOk (l ++ [x]) (spStep a x) := by
  unfold spStep
  by_cases h3 : x.pod.st = 3
  · rw [if_pos h3]
    rcases h with ⟨rfl, h⟩ | ⟨y, hy, h⟩
    · refine .inl ⟨rfl, fun y hy => ?_⟩
      rcases List.mem_append.1 hy with hy | hy
      · exact h y hy
      · simp at hy; subst hy; simp [isUp, h3]
    · exact .inr ⟨y, by simp [hy], h⟩
  · rw [if_neg h3]
    have hup : isUp x = true := by simp [isUp, h3]
    by_cases hc : x.pod.st < a.2.1 ∨ (x.pod.st = a.2.1 ∧ (x.pod.reqs.length : Int) ≤ a.2.2)
    · rw [if_pos hc]; exact .inr ⟨x, by simp, rfl, hup⟩
    · rw [if_neg hc]
      rcases h with ⟨rfl, h⟩ | ⟨y, hy, h⟩
      · exact absurd (.inl (by simp only; omega)) hc
      · exact .inr ⟨y, by simp [hy], h⟩
theorem SpOk.all : ∀ {l2 l1 : List AHeld} {a : Int × Int × Int}, SpOk l1 a → (∀ x ∈ l2, x.pod.st = 1 ∨ x.pod.st = 2 ∨ x.pod.st = 3) → SpOk (l1 ++ l2) (l2.foldl spStep a)
  | [], l1, a, h, _ => by simpa using h
  | x :: l2, l1, a, h, hx => by
    have := SpOk.all (l2 := l2) (h.step (hx x (by simp))) (fun y hy => hx y (by simp [hy]))
    simpa using this
theorem spare_mem (ok : F.Ok) (hc : 0 < fCount F.l rev) : ∃ x, fFind F.l (fSpare F.l rev) = some x ∧ x.rev = rev ∧ (x.pod.st = 1 ∨ x.pod.st = 2) := by
  have hr : ∀ x ∈ revs F.l rev, x ∈ F.l ∧ x.rev = rev := fun x hx => ⟨(List.mem_filter.1 hx).1, of_decide_eq_true (List.mem_filter.1 hx).2⟩
  have h := SpOk.all (l1 := []) (a := (0, 3, 0)) (l2 := revs F.l rev) (.inl ⟨rfl, by simp⟩) fun x hx => ok.live x (hr x hx).1
  rw [List.nil_append] at h
  rcases h with ⟨-, h⟩ | ⟨x, hx, ha, hup⟩
  · exfalso
    unfold fCount at hc
    rw [List.filter_eq_nil_iff.2 (fun y hy => by simp [h y hy])] at hc
    simp at hc
  · refine ⟨x, ?_, (hr x hx).2, ?_⟩
    · unfold fSpare; rw [ha]; exact fFind_of ok.pw (hr x hx).1
    · have := ok.live x (hr x hx).1
      have : x.pod.st ≠ 3 := of_decide_eq_true hup
      omega
theorem drain_eq {p : APod} (h : p.st = 1 ∨ p.st = 2) : (podDrain p).1 = { p with st := if p.reqs = [] then 4 else 3 } := by
  unfold podDrain; rw [if_neg (by omega)]
theorem drain1_ok (ok : F.Ok) (hc : 0 < fCount F.l rev) : (drain1 rev F).Ok := by
  obtain ⟨x, hx, -, hst⟩ := spare_mem ok hc
  refine ok.upd hx _ ?_ ?_
  · rw [drain_eq hst]; simp only; split <;> simp
  · rw [drain_eq hst]; exact fun q hq => .inl hq
theorem drain1_count (ok : F.Ok) (hc : 0 < fCount F.l rev) : fCount (drain1 rev F).l rev + 1 = fCount F.l rev := by
  obtain ⟨x, hx, hrev, hst⟩ := spare_mem ok hc
  obtain ⟨hm, hid⟩ := fFind_some hx
  obtain ⟨A, B, hl⟩ := List.append_of_mem hm
  have pw := ok.pw
  show fCount (fUpd F.l (fSpare F.l rev) fun p => (podDrain p).1) rev + 1 = _
  rw [← hid]
  rw [hl] at pw ⊢
  rw [fUpd_at pw, fCount_app, fCount_app, fCount_app, show x :: B = [x] ++ B from rfl, fCount_app, drain_eq hst]
  have h1 : fCount [x] rev = 1 := by
    have : x.pod.st ≠ 3 := by omega
    simp [fCount, revs, isUp, hrev, this]
  have h2 : fCount (if (if x.pod.reqs = [] then (4 : Int) else 3) = 4 then [] else [({ x with pod := { x.pod with st := if x.pod.reqs = [] then 4 else 3 } } : AHeld)]) rev = 0 := by
    by_cases hq : x.pod.reqs = []
    · simp [hq, fCount, revs]
    · simp [hq, fCount, revs, hrev, isUp]
  simp only at h2 ⊢
  rw [h1, h2]; omega
end
theorem S_fScale (h : St w0 E w) (i : Nat) {b : Nat} {F : AFleet} {s : Seg} (hi : nth E i = some s) (hf : FlS b F s) {rev : ByteArray} {conc want : Int} (hroom : F.room < 100000000) (hlast : F.last + F.room < 4611686018427387904) {k : Sl × Sl × Unit → PT}
    (hk : ∀ v1 v2 s' s1 s2 w', FlS b (fScale F rev conc want).1 s' → Rw eI T_int 1 v1 (fMade F rev want) s1 → Rw eI T_int 1 v2 (fScale F rev conc want).2 s2 → St w0 (s2 :: s1 :: setN E i s') w' → k (v1, v2, ()) w') :
    L.call Pr n_fleet_Fleet_Scale [.pointer (some ⟨b, 0, none⟩), .string rev, I conc, I want] (.tup [.one .slice, .one .slice]) k w := by
  have hfew := hf.1.few
  have hcl := fCount_le F.l (rev := rev)
  refine call_of (C_fleet_Fleet_Scale _ _ _ _) ?_
  unfold F_fleet_Fleet_Scale
  refine S_fup h i hi hf fun w h => ?_
  have h := h.front i hi
  have hg : (growN F rev want : Int) = max 0 (min (want - fCount F.l rev) (F.room - F.l.length)) := by unfold growN; omega
  refine join_of (fun z w => ∃ v sv s, z = (v, ((fCount F.l rev + growN F rev want : Nat) : Int), ()) ∧ FlS b (fGrown F rev conc want) s ∧ Rw eI T_int 1 v (fMade F rev want) sv ∧ St w0 (s :: sv :: delN E i) w) (fun k2 hk2 => ?_) ?_
  · refine loop_of (fun q y w => ∃ (j : Nat) (v : Sl) (sv s : Seg), y = (v, ((fCount F.l rev + j : Nat) : Int), ()) ∧ q + j = growN F rev want ∧ FlS b (grow rev conc j F) s ∧ Rw eI T_int 1 v ((List.range j).map fun j : Nat => F.last + 1 + (j : Int)) sv ∧ St w0 (s :: sv :: delN E i) w)
      (growN F rev want) ⟨0, ⟨none, 0, 0⟩, [], s, rfl, rfl, hf, Rw.nil, h.eq (by simp)⟩ ?_
    clear hf
    clear h; (try clear w)
    rintro q y w ⟨j, v, sv, s, rfl, hq, hf, hv, h⟩ again hag
    dsimp only
    have hf' := hf
    obtain ⟨ok, rA, rW, mA, mW, sA, sW, L, hA, hW, hr, rfl⟩ := hf
    have hlj := grow_len (F := F) (rev := rev) (conc := conc) j
    have hla := grow_last (F := F) (rev := rev) (conc := conc) j
    have hro := grow_room (F := F) (rev := rev) (conc := conc) j
    have lo := ok.lo
    have h : St w0 (flB b rA rW (grow rev conc j F) :: sA :: sW :: (L.map trS).flatten :: sv :: delN E i) w := h.eq (by simp)
    have stop : ∀ {w}, j = growN F rev want → St w0 (flB b rA rW (grow rev conc j F) :: sA :: sW :: (L.map trS).flatten :: sv :: delN E i) w → k2 (v, ((fCount F.l rev + j : Nat) : Int), ()) w := by
      rintro w rfl h
      exact hk2 _ w ⟨v, sv, _, rfl, hf', hv, h.eq (by simp)⟩
    (repeat (first | refine nn ?_ | (refine dr h ?_; clear h; (try clear w); intro w h) | refine ld0_ h rfl rfl ?_ | refine ld1_ h rfl rfl ?_ | refine ld2_ h rfl rfl ?_ | refine ld3_ h rfl rfl ?_ | refine ld4_ h rfl rfl ?_ | refine ld5_ h rfl rfl ?_ | refine ld6_ h rfl rfl ?_ | refine ld7_ h rfl rfl ?_ | refine ld8_ h rfl rfl ?_ | refine ld9_ h rfl rfl ?_ | refine ld10_ h rfl rfl ?_ | refine ld11_ h rfl rfl ?_ | refine la0_ h rfl ?_ | refine la1_ h rfl ?_ | refine la2_ h rfl ?_ | refine la3_ h rfl ?_ | refine la4_ h rfl ?_ | refine la5_ h rfl ?_ | refine la6_ h rfl ?_ | refine la7_ h rfl ?_ | refine la8_ h rfl ?_ | refine la9_ h rfl ?_ | refine la10_ h rfl ?_ | refine la11_ h rfl ?_ | refine ck0_ h rfl ?_ | refine ck1_ h rfl ?_ | refine ck2_ h rfl ?_ | refine ck3_ h rfl ?_ | refine ck4_ h rfl ?_ | refine ck5_ h rfl ?_ | refine ck6_ h rfl ?_ | refine ck7_ h rfl ?_ | refine ck8_ h rfl ?_ | refine ck9_ h rfl ?_ | refine ck10_ h rfl ?_ | refine ck11_ h rfl ?_ | ((first | refine st0_ h rfl rfl ?_ | refine st1_ h rfl rfl ?_ | refine st2_ h rfl rfl ?_ | refine st3_ h rfl rfl ?_ | refine st4_ h rfl rfl ?_ | refine st5_ h rfl rfl ?_ | refine st6_ h rfl rfl ?_ | refine st7_ h rfl rfl ?_ | refine st8_ h rfl rfl ?_ | refine st9_ h rfl rfl ?_ | refine st10_ h rfl rfl ?_ | refine st11_ h rfl rfl ?_); clear h; (try clear w); intro w h; (try dsimp only [putN, setN] at h))))
    refine it (fun hc => ?_) (fun hc => ?_) <;> (try simp only [decide_eq_true_eq, decide_eq_false_iff_not, beq_iff_eq, bne_iff_ne, beq_eq_false_iff_ne, bne_eq_false_iff_eq, Bool.not_eq_true', Bool.not_eq_false', ne_eq, Bool.not_eq_true, Bool.not_eq_false] at hc)
    · (repeat (first | refine nn ?_ | (refine dr h ?_; clear h; (try clear w); intro w h) | refine ld0_ h rfl rfl ?_ | refine ld1_ h rfl rfl ?_ | refine ld2_ h rfl rfl ?_ | refine ld3_ h rfl rfl ?_ | refine ld4_ h rfl rfl ?_ | refine ld5_ h rfl rfl ?_ | refine ld6_ h rfl rfl ?_ | refine ld7_ h rfl rfl ?_ | refine ld8_ h rfl rfl ?_ | refine ld9_ h rfl rfl ?_ | refine ld10_ h rfl rfl ?_ | refine ld11_ h rfl rfl ?_ | refine la0_ h rfl ?_ | refine la1_ h rfl ?_ | refine la2_ h rfl ?_ | refine la3_ h rfl ?_ | refine la4_ h rfl ?_ | refine la5_ h rfl ?_ | refine la6_ h rfl ?_ | refine la7_ h rfl ?_ | refine la8_ h rfl ?_ | refine la9_ h rfl ?_ | refine la10_ h rfl ?_ | refine la11_ h rfl ?_ | refine ck0_ h rfl ?_ | refine ck1_ h rfl ?_ | refine ck2_ h rfl ?_ | refine ck3_ h rfl ?_ | refine ck4_ h rfl ?_ | refine ck5_ h rfl ?_ | refine ck6_ h rfl ?_ | refine ck7_ h rfl ?_ | refine ck8_ h rfl ?_ | refine ck9_ h rfl ?_ | refine ck10_ h rfl ?_ | refine ck11_ h rfl ?_ | ((first | refine st0_ h rfl rfl ?_ | refine st1_ h rfl rfl ?_ | refine st2_ h rfl rfl ?_ | refine st3_ h rfl rfl ?_ | refine st4_ h rfl rfl ?_ | refine st5_ h rfl rfl ?_ | refine st6_ h rfl rfl ?_ | refine st7_ h rfl rfl ?_ | refine st8_ h rfl rfl ?_ | refine st9_ h rfl rfl ?_ | refine st10_ h rfl rfl ?_ | refine st11_ h rfl rfl ?_); clear h; (try clear w); intro w h; (try dsimp only [putN, setN] at h))))
      refine MpS.len und_map_o h 1 rfl hA ?_
      rw [hr.len, hlj]
      (repeat (first | refine nn ?_ | (refine dr h ?_; clear h; (try clear w); intro w h) | refine ld0_ h rfl rfl ?_ | refine ld1_ h rfl rfl ?_ | refine ld2_ h rfl rfl ?_ | refine ld3_ h rfl rfl ?_ | refine ld4_ h rfl rfl ?_ | refine ld5_ h rfl rfl ?_ | refine ld6_ h rfl rfl ?_ | refine ld7_ h rfl rfl ?_ | refine ld8_ h rfl rfl ?_ | refine ld9_ h rfl rfl ?_ | refine ld10_ h rfl rfl ?_ | refine ld11_ h rfl rfl ?_ | refine la0_ h rfl ?_ | refine la1_ h rfl ?_ | refine la2_ h rfl ?_ | refine la3_ h rfl ?_ | refine la4_ h rfl ?_ | refine la5_ h rfl ?_ | refine la6_ h rfl ?_ | refine la7_ h rfl ?_ | refine la8_ h rfl ?_ | refine la9_ h rfl ?_ | refine la10_ h rfl ?_ | refine la11_ h rfl ?_ | refine ck0_ h rfl ?_ | refine ck1_ h rfl ?_ | refine ck2_ h rfl ?_ | refine ck3_ h rfl ?_ | refine ck4_ h rfl ?_ | refine ck5_ h rfl ?_ | refine ck6_ h rfl ?_ | refine ck7_ h rfl ?_ | refine ck8_ h rfl ?_ | refine ck9_ h rfl ?_ | refine ck10_ h rfl ?_ | refine ck11_ h rfl ?_ | ((first | refine st0_ h rfl rfl ?_ | refine st1_ h rfl rfl ?_ | refine st2_ h rfl rfl ?_ | refine st3_ h rfl rfl ?_ | refine st4_ h rfl rfl ?_ | refine st5_ h rfl rfl ?_ | refine st6_ h rfl rfl ?_ | refine st7_ h rfl rfl ?_ | refine st8_ h rfl rfl ?_ | refine st9_ h rfl rfl ?_ | refine st10_ h rfl rfl ?_ | refine st11_ h rfl rfl ?_); clear h; (try clear w); intro w h; (try dsimp only [putN, setN] at h))))
      refine it (fun hd => ?_) (fun hd => ?_) <;> (try simp only [decide_eq_true_eq, decide_eq_false_iff_not, beq_iff_eq, bne_iff_ne, beq_eq_false_iff_ne, bne_eq_false_iff_eq, Bool.not_eq_true', Bool.not_eq_false', ne_eq, Bool.not_eq_true, Bool.not_eq_false] at hd)
      · (repeat (first | refine nn ?_ | (refine dr h ?_; clear h; (try clear w); intro w h) | refine ld0_ h rfl rfl ?_ | refine ld1_ h rfl rfl ?_ | refine ld2_ h rfl rfl ?_ | refine ld3_ h rfl rfl ?_ | refine ld4_ h rfl rfl ?_ | refine ld5_ h rfl rfl ?_ | refine ld6_ h rfl rfl ?_ | refine ld7_ h rfl rfl ?_ | refine ld8_ h rfl rfl ?_ | refine ld9_ h rfl rfl ?_ | refine ld10_ h rfl rfl ?_ | refine ld11_ h rfl rfl ?_ | refine la0_ h rfl ?_ | refine la1_ h rfl ?_ | refine la2_ h rfl ?_ | refine la3_ h rfl ?_ | refine la4_ h rfl ?_ | refine la5_ h rfl ?_ | refine la6_ h rfl ?_ | refine la7_ h rfl ?_ | refine la8_ h rfl ?_ | refine la9_ h rfl ?_ | refine la10_ h rfl ?_ | refine la11_ h rfl ?_ | refine ck0_ h rfl ?_ | refine ck1_ h rfl ?_ | refine ck2_ h rfl ?_ | refine ck3_ h rfl ?_ | refine ck4_ h rfl ?_ | refine ck5_ h rfl ?_ | refine ck6_ h rfl ?_ | refine ck7_ h rfl ?_ | refine ck8_ h rfl ?_ | refine ck9_ h rfl ?_ | refine ck10_ h rfl ?_ | refine ck11_ h rfl ?_ | ((first | refine st0_ h rfl rfl ?_ | refine st1_ h rfl rfl ?_ | refine st2_ h rfl rfl ?_ | refine st3_ h rfl rfl ?_ | refine st4_ h rfl rfl ?_ | refine st5_ h rfl rfl ?_ | refine st6_ h rfl rfl ?_ | refine st7_ h rfl rfl ?_ | refine st8_ h rfl rfl ?_ | refine st9_ h rfl rfl ?_ | refine st10_ h rfl rfl ?_ | refine st11_ h rfl rfl ?_); clear h; (try clear w); intro w h; (try dsimp only [putN, setN] at h))))
        refine S_pNew h fun b' s' w hp h => ?_
        rw [wr (by omega) (by omega)] at h
        rw [wr (by omega) (by omega)]
        (repeat (first | refine nn ?_ | (refine dr h ?_; clear h; (try clear w); intro w h) | refine ld0_ h rfl rfl ?_ | refine ld1_ h rfl rfl ?_ | refine ld2_ h rfl rfl ?_ | refine ld3_ h rfl rfl ?_ | refine ld4_ h rfl rfl ?_ | refine ld5_ h rfl rfl ?_ | refine ld6_ h rfl rfl ?_ | refine ld7_ h rfl rfl ?_ | refine ld8_ h rfl rfl ?_ | refine ld9_ h rfl rfl ?_ | refine ld10_ h rfl rfl ?_ | refine ld11_ h rfl rfl ?_ | refine la0_ h rfl ?_ | refine la1_ h rfl ?_ | refine la2_ h rfl ?_ | refine la3_ h rfl ?_ | refine la4_ h rfl ?_ | refine la5_ h rfl ?_ | refine la6_ h rfl ?_ | refine la7_ h rfl ?_ | refine la8_ h rfl ?_ | refine la9_ h rfl ?_ | refine la10_ h rfl ?_ | refine la11_ h rfl ?_ | refine ck0_ h rfl ?_ | refine ck1_ h rfl ?_ | refine ck2_ h rfl ?_ | refine ck3_ h rfl ?_ | refine ck4_ h rfl ?_ | refine ck5_ h rfl ?_ | refine ck6_ h rfl ?_ | refine ck7_ h rfl ?_ | refine ck8_ h rfl ?_ | refine ck9_ h rfl ?_ | refine ck10_ h rfl ?_ | refine ck11_ h rfl ?_ | ((first | refine st0_ h rfl rfl ?_ | refine st1_ h rfl rfl ?_ | refine st2_ h rfl rfl ?_ | refine st3_ h rfl rfl ?_ | refine st4_ h rfl rfl ?_ | refine st5_ h rfl rfl ?_ | refine st6_ h rfl rfl ?_ | refine st7_ h rfl rfl ?_ | refine st8_ h rfl rfl ?_ | refine st9_ h rfl rfl ?_ | refine st10_ h rfl rfl ?_ | refine st11_ h rfl rfl ?_); clear h; (try clear w); intro w h; (try dsimp only [putN, setN] at h))))
        refine MpS.set mkI und_map_o h 2 rfl hA (rev, some ⟨b', 0, none⟩) rfl fun sA' w hA' h => ?_
        (repeat (first | refine nn ?_ | (refine dr h ?_; clear h; (try clear w); intro w h) | refine ld0_ h rfl rfl ?_ | refine ld1_ h rfl rfl ?_ | refine ld2_ h rfl rfl ?_ | refine ld3_ h rfl rfl ?_ | refine ld4_ h rfl rfl ?_ | refine ld5_ h rfl rfl ?_ | refine ld6_ h rfl rfl ?_ | refine ld7_ h rfl rfl ?_ | refine ld8_ h rfl rfl ?_ | refine ld9_ h rfl rfl ?_ | refine ld10_ h rfl rfl ?_ | refine ld11_ h rfl rfl ?_ | refine la0_ h rfl ?_ | refine la1_ h rfl ?_ | refine la2_ h rfl ?_ | refine la3_ h rfl ?_ | refine la4_ h rfl ?_ | refine la5_ h rfl ?_ | refine la6_ h rfl ?_ | refine la7_ h rfl ?_ | refine la8_ h rfl ?_ | refine la9_ h rfl ?_ | refine la10_ h rfl ?_ | refine la11_ h rfl ?_ | refine ck0_ h rfl ?_ | refine ck1_ h rfl ?_ | refine ck2_ h rfl ?_ | refine ck3_ h rfl ?_ | refine ck4_ h rfl ?_ | refine ck5_ h rfl ?_ | refine ck6_ h rfl ?_ | refine ck7_ h rfl ?_ | refine ck8_ h rfl ?_ | refine ck9_ h rfl ?_ | refine ck10_ h rfl ?_ | refine ck11_ h rfl ?_ | ((first | refine st0_ h rfl rfl ?_ | refine st1_ h rfl rfl ?_ | refine st2_ h rfl rfl ?_ | refine st3_ h rfl rfl ?_ | refine st4_ h rfl rfl ?_ | refine st5_ h rfl rfl ?_ | refine st6_ h rfl rfl ?_ | refine st7_ h rfl rfl ?_ | refine st8_ h rfl rfl ?_ | refine st9_ h rfl rfl ?_ | refine st10_ h rfl rfl ?_ | refine st11_ h rfl rfl ?_); clear h; (try clear w); intro w h; (try dsimp only [putN, setN] at h))))
        refine nw h ?_; clear h; (try clear w); intro b21 w h
        refine Rw.app encI elI h 5 rfl hv (F.last + 1 + (j : Int)) (by rw [hla, eI]; congr 2; omega) (by simp; omega) (by simp; omega) fun v' sv' w hv' h => ?_
        have hg0 : mget mA ((grow rev conc j F).last + 1) = none := hr.get0 (by
          unfold fFind
          rw [List.find?_eq_none]
          intro x hx
          have := (ok.rng x hx).2
          simp; omega)
        refine hag (q - 1) _ w (by omega) ⟨j + 1, v', sv', flB b rA rW (grow rev conc (j + 1) F) ++ (sA' ++ (sW ++ ((L ++ [((⟨(grow rev conc j F).last + 1, rev, ⟨1, conc, []⟩⟩ : AHeld), b', s')]).map trS).flatten)), ?_, by omega, ⟨?_, rA, rW, _, mW, sA', sW, L ++ [((⟨(grow rev conc j F).last + 1, rev, ⟨1, conc, []⟩⟩ : AHeld), b', s')], hA', hW, ⟨?_, ?_, ?_, ?_⟩, rfl⟩, ?_, ?_⟩
        · rw [wr (by omega) (by omega)]; congr 2
        · exact grow1_ok ok (by omega) (by omega)
        · simp only [grow, grow1, List.map_append, hr.l]; rfl
        · intro t ht
          rcases List.mem_append.1 ht with ht | ht
          · exact hr.ps t ht
          · simp only [List.mem_singleton] at ht; subst ht; exact hp
        · rw [mset_none hg0, List.map_append]
          exact hr.all.append_right _
        · intro q
          rw [hr.wth]
          simp only [grow, grow1]
          rw [fWhere_app _ _ rfl]
        · rw [List.range_succ, List.map_append]; exact hv'
        · have h := fr1_ (fr4_ h)
          have h := St.addEnd (g := trS) (t := ((⟨(grow rev conc j F).last + 1, rev, ⟨1, conc, []⟩⟩ : AHeld), b', s')) h
          have h := fr4_ (fr4_ (fr4_ (fr1_ (fr4_ h))))
          exact h.eq (by simp [grow, grow1])
      · exact stop (by omega) h
    · exact stop (by omega) h
  · rintro z w ⟨v, sv, s, rfl, hf, hv, h⟩
    dsimp only
    have hlg := grow_len (F := F) (rev := rev) (conc := conc) (growN F rev want)
    have hmade : (fMade F rev want).length = growN F rev want := by simp [fMade]
    have hcg := grow_count (F := F) (rev := rev) (conc := conc) (growN F rev want)
    rw [← hcg]
    have hcle := fCount_le (grow rev conc (growN F rev want) F).l (rev := rev)
    refine loop_of (fun q y w => ∃ (F2 : AFleet) (gone : List Int) (v2 : Sl) (s2 s : Seg), y = (v2, ((fCount F2.l rev : Nat) : Int), ()) ∧ q = shrinkN F2 rev want ∧ gone.length + q = shrinkN (fGrown F rev conc want) rev want ∧ FlS b F2 s ∧ Rw eI T_int 1 v2 gone s2 ∧
      (shrink rev q F2).1 = (fScale F rev conc want).1 ∧ gone ++ (shrink rev q F2).2 = (fScale F rev conc want).2 ∧ St w0 (s :: s2 :: sv :: delN E i) w)
      (shrinkN (fGrown F rev conc want) rev want) ⟨fGrown F rev conc want, [], ⟨none, 0, 0⟩, [], s, rfl, rfl, by simp, hf, Rw.nil, rfl, rfl, h.eq (by simp)⟩ ?_
    clear hf
    clear h; (try clear w)
    rintro q y w ⟨F2, gone, v2, s2, s, rfl, hq, hgl, hf, hv2, hF, hG, h⟩ again hag
    dsimp only
    have hcl2 := fCount_le F2.l (rev := rev)
    have hq' : (q : Int) = max 0 ((fCount F2.l rev : Int) - max want 0) := by rw [hq]; unfold shrinkN; omega
    have hgn : (shrinkN (fGrown F rev conc want) rev want : Int) ≤ F.l.length + growN F rev want := by unfold shrinkN fGrown; omega
    have hfew2 := hf.1.few
    refine it (fun hc => ?_) (fun hc => ?_) <;> (try simp only [decide_eq_true_eq, decide_eq_false_iff_not, beq_iff_eq, bne_iff_ne, beq_eq_false_iff_ne, bne_eq_false_iff_eq, Bool.not_eq_true', Bool.not_eq_false', ne_eq, Bool.not_eq_true, Bool.not_eq_false] at hc)
    · have hc0 : max want 0 < (fCount F2.l rev : Int) := by split at hc <;> omega
      obtain ⟨q', rfl⟩ : ∃ q', q = q' + 1 := ⟨q - 1, by omega⟩
      refine S_fspare h 0 rfl hf fun w h => ?_
      obtain ⟨x, hx, hrev, hst⟩ := spare_mem hf.1 (rev := rev) (by omega)
      have okd := drain1_ok hf.1 (rev := rev) (by omega)
      have hcd := drain1_count hf.1 (rev := rev) (by omega)
      obtain ⟨ok, rA, rW, mA, mW, sA, sW, L, hA, hW, hr, rfl⟩ := hf
      obtain ⟨A, t, B, rfl, rfl, hid⟩ := hr.at hx
      have h : St w0 (flB b rA rW F2 :: sA :: sW :: ((A ++ t :: B).map trS).flatten :: s2 :: sv :: delN E i) w := h.eq (by simp)
      (repeat (first | refine nn ?_ | (refine dr h ?_; clear h; (try clear w); intro w h) | refine ld0_ h rfl rfl ?_ | refine ld1_ h rfl rfl ?_ | refine ld2_ h rfl rfl ?_ | refine ld3_ h rfl rfl ?_ | refine ld4_ h rfl rfl ?_ | refine ld5_ h rfl rfl ?_ | refine ld6_ h rfl rfl ?_ | refine ld7_ h rfl rfl ?_ | refine ld8_ h rfl rfl ?_ | refine ld9_ h rfl rfl ?_ | refine ld10_ h rfl rfl ?_ | refine ld11_ h rfl rfl ?_ | refine la0_ h rfl ?_ | refine la1_ h rfl ?_ | refine la2_ h rfl ?_ | refine la3_ h rfl ?_ | refine la4_ h rfl ?_ | refine la5_ h rfl ?_ | refine la6_ h rfl ?_ | refine la7_ h rfl ?_ | refine la8_ h rfl ?_ | refine la9_ h rfl ?_ | refine la10_ h rfl ?_ | refine la11_ h rfl ?_ | refine ck0_ h rfl ?_ | refine ck1_ h rfl ?_ | refine ck2_ h rfl ?_ | refine ck3_ h rfl ?_ | refine ck4_ h rfl ?_ | refine ck5_ h rfl ?_ | refine ck6_ h rfl ?_ | refine ck7_ h rfl ?_ | refine ck8_ h rfl ?_ | refine ck9_ h rfl ?_ | refine ck10_ h rfl ?_ | refine ck11_ h rfl ?_ | ((first | refine st0_ h rfl rfl ?_ | refine st1_ h rfl rfl ?_ | refine st2_ h rfl rfl ?_ | refine st3_ h rfl rfl ?_ | refine st4_ h rfl rfl ?_ | refine st5_ h rfl rfl ?_ | refine st6_ h rfl rfl ?_ | refine st7_ h rfl rfl ?_ | refine st8_ h rfl rfl ?_ | refine st9_ h rfl rfl ?_ | refine st10_ h rfl rfl ?_ | refine st11_ h rfl rfl ?_); clear h; (try clear w); intro w h; (try dsimp only [putN, setN] at h))))
      refine MpS.get mkI und_map_o zo (fun x : ByteArray × Option Addr => (x.1, x.2, ())) (fun _ => rfl) h 1 rfl hA ?_
      have hg := hr.get ok (t := t) (by simp)
      have hp := hr.ps t (by simp)
      rw [← hid, hg]
      simp only [Option.map_some, Option.getD_some]
      have h := fr3_ h
      have h := h.pick
      refine S_pDrain h 0 rfl hp fun s' w hp' h => ?_
      have h : St w0 (trS ({ t.1 with pod := (podDrain t.1.pod).1 }, t.2.1, s') :: ((A ++ B).map trS).flatten :: flB b rA rW F2 :: sA :: sW :: s2 :: sv :: delN E i) w := h
      have h := h.place
      have h := fr3_ (fr3_ (fr3_ h))
      have hdp := drain_eq hst
      have hrq : (podDrain t.1.pod).1.reqs = t.1.pod.reqs := by rw [hdp]
      have h4 : (podDrain t.1.pod).1.st = 4 → t.1.pod.reqs = [] := by
        rw [hdp]; simp only; intro h; apply Classical.byContradiction; intro hne; simp [hne] at h
      have hwth : ∀ q, mget mW q = (fWhere (fUpd F2.l t.1.id fun p => (podDrain p).1) q).map (·.id) := fun q => by
        rw [hr.wth, fWhere_upd ok.pw (fFind_some hx).1 hrq h4]
      have fin : ∀ {s w}, FlS b (drain1 rev F2) s → St w0 (s :: s2 :: sv :: delN E i) w → L.new [I t.1.id] T_int (fun b31 =>
          L.sem Pr (.one (.one .slice)) (Builtin.append_ #[T_s_int, T_s_int] T_s_int #[.slice v2.a v2.len v2.cap, .slice (some ⟨b31, 0, none⟩) 1 1]) fun (s32 : Sl) =>
          again (⟨s32.a, s32.len, s32.cap⟩, IntKind.wrap .i64 ((fCount F2.l rev : Nat) - 1), ())) w := by
        intro s w hf h
        refine nw h ?_; clear h; (try clear w); intro b31 w h
        refine Rw.app encI elI h 1 rfl hv2 t.1.id rfl (by omega) (by omega) fun v' s' w hv' h => ?_
        refine hag q' _ w (by omega) ⟨drain1 rev F2, gone ++ [t.1.id], v', s', s, ?_, ?_, ?_, hf, hv', ?_, ?_, h⟩
        · rw [wr (by omega) (by omega)]; congr 2; omega
        · unfold shrinkN; omega
        · simp only [List.length_append, List.length_singleton]; omega
        · exact hF
        · rw [List.append_assoc, hid]; exact hG
      refine S_fend (t := ({ t.1 with pod := (podDrain t.1.pod).1 }, t.2.1, s')) h hA hg hp' (fun h4' => ?_) fun h4' sA' w hA' h => ?_
      · refine fin (s := flB b rA rW F2 ++ (sA ++ (sW ++ ((A ++ ({ t.1 with pod := (podDrain t.1.pod).1 }, t.2.1, s') :: B).map trS).flatten))) ⟨okd, rA, rW, mA, mW, sA, sW, _, hA, hW, ?_, rfl⟩ (h.eq (by simp))
        have := hr.upd ok (fun p => (podDrain p).1) hp' h4' hwth
        unfold drain1; rw [← hid]; exact this
      · refine fin (s := flB b rA rW F2 ++ (sA' ++ (sW ++ ((A ++ B).map trS).flatten))) ⟨okd, rA, rW, _, mW, sA', sW, _, hA', hW, ?_, rfl⟩ (h.eq (by simp))
        have := hr.del ok (fun p => (podDrain p).1) h4' hwth
        unfold drain1; rw [← hid]; exact this
    · have e0 : q = 0 := by split at hc <;> omega
      subst e0
      have e1 : F2 = (fScale F rev conc want).1 := hF
      have e2 : gone = (fScale F rev conc want).2 := by rw [← hG]; simp [shrink]
      refine S_cloneI h (hv.rd encI h 2 rfl) (by omega) (Rw.nil_of encI hv) fun v1 s1 w hr1 _ h => ?_
      refine S_cloneI h (hv2.rd encI h 2 rfl) (by omega) (Rw.nil_of encI hv2) fun v3 s3 w hr3 _ h => ?_
      refine ⟨_, rfl, hk v1 v3 s s1 s3 w (by rw [← e1]; exact hf) hr1 (by rw [← e2]; exact hr3) ?_⟩
      have h := dl3_ (dl4_ h)
      have h := fr2_ (fr1_ (fr1_ h))
      exact St.back (i + 2) (E := s3 :: s1 :: E) hi h
end Go.Proofs.YthmpbgloifdcnaaGreat
