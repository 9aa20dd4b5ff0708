/- Contracts of functions, and walks of laws (text Fa). No conditions beyond those its theorems state. -/
import Derived.Test.YtheikjckdnhdhaaPp
import Derived.Test.YtheikjckdnhdhaaSep8
set_option linter.all false
namespace Go.Proofs.Ytheikjckdnhdhaa
open Go.Dm
attribute [local irreducible] L.load L.store L.chk L.new L.nonnil L.guard L.ite L.draw L.idx L.sem L.semR L.semU L.chkSem L.next L.call L.callV L.join L.alts L.loop L.begin L.endRound L.range
variable {w0 w : World} {E : List Seg}
/-! ### fleets -/
structure AHeld where
  id : Int
  rev : ByteArray
  pod : APod
structure AFleet where
  room : Int
  last : Int
  l : List AHeld
structure AFleet.Ok (f : AFleet) : Prop where
  pw : f.l.Pairwise (fun x y => x.id < y.id)
  rng : ∀ x ∈ f.l, 0 < x.id ∧ x.id ≤ f.last
  live : ∀ x ∈ f.l, x.pod.st = 1 ∨ x.pod.st = 2 ∨ x.pod.st = 3
  once : f.l.Pairwise (fun x y => ∀ q ∈ x.pod.reqs, q ∉ y.pod.reqs)
  few : f.l.length < 100000000
  lo : 0 ≤ f.last
  hi : f.last < 4611686018427387904
/-- a pod, where it lies, and what of it lies there -/
abbrev Tr := AHeld × Nat × Seg
abbrev trS (t : Tr) : Seg := t.2.2
def ent (t : Tr) : Int × (ByteArray × Option Addr) := (t.1.id, t.1.rev, some ⟨t.2.1, 0, none⟩)
def fFind (l : List AHeld) (id : Int) : Option AHeld := l.find? fun x => decide (x.id = id)
def fWhere (l : List AHeld) (q : Int) : Option AHeld := l.find? fun x => decide (q ∈ x.pod.reqs)
structure FlR (F : AFleet) (L : List Tr) (mA : List (Int × (ByteArray × Option Addr))) (mW : List (Int × Int)) : Prop where
  l : F.l = L.map (·.1)
  ps : ∀ t ∈ L, PodS t.2.1 t.1.pod t.2.2
  all : mA.Perm (L.map ent)
  wth : ∀ q, mget mW q = (fWhere F.l q).map (·.id)
abbrev flB (b : Nat) (rA rW : Nat) (F : AFleet) : Seg := [Cl b T_fleet_Fleet [.map (some rA), .map (some rW), I F.room, I F.last]]
/-- a fleet in memory -/
def FlS (b : Nat) (F : AFleet) (s : Seg) : Prop := F.Ok ∧ ∃ rA rW mA mW sA sW L, MpS KI vOne rA mA sA ∧ MpS KI KI rW mW sW ∧ FlR F L mA mW ∧ s = flB b rA rW F ++ (sA ++ (sW ++ (L.map trS).flatten))
theorem FlR.ids {F : AFleet} {L : List Tr} {mA mW} (hr : FlR F L mA mW) (ok : F.Ok) : L.Pairwise (fun x y => x.1.id < y.1.id) := by
  have := ok.pw; rw [hr.l, List.pairwise_map] at this; exact this
theorem FlR.keys {F : AFleet} {L : List Tr} {mA mW} (hr : FlR F L mA mW) (ok : F.Ok) : isort (mA.map (·.1)) = L.map (·.1.id) := by
  refine isort_of ?_ ?_
  · have := hr.all.map (·.1); rw [List.map_map] at this; exact this
  · rw [List.pairwise_map]; exact (hr.ids ok).imp fun h => by omega
theorem FlR.len {F : AFleet} {L : List Tr} {mA mW} (hr : FlR F L mA mW) : mA.length = F.l.length := by rw [hr.all.length_eq, hr.l]; simp
theorem FlR.nd {F : AFleet} {L : List Tr} {mA mW} (hr : FlR F L mA mW) (ok : F.Ok) : (mA.map (·.1)).Nodup := by
  have := hr.all.map (·.1); rw [List.map_map] at this
  rw [this.nodup_iff]
  have h := (hr.ids ok).imp (S := fun x y => x.1.id ≠ y.1.id) fun h => by omega
  exact List.pairwise_map.2 h
theorem FlR.get {F : AFleet} {L : List Tr} {mA mW} (hr : FlR F L mA mW) (ok : F.Ok) {t : Tr} (ht : t ∈ L) : mget mA t.1.id = some (t.1.rev, some ⟨t.2.1, 0, none⟩) :=
  mget_of_mem (hr.nd ok) (hr.all.mem_iff.2 (List.mem_map_of_mem (f := ent) ht))
theorem FlR.get0 {F : AFleet} {L : List Tr} {mA mW} (hr : FlR F L mA mW) {id : Int} (h : fFind F.l id = none) : mget mA id = none := by
  refine mget_none.2 fun hm => ?_
  have := (hr.all.map (·.1)).mem_iff.1 hm
  rw [List.map_map] at this
  obtain ⟨t, ht, e⟩ := List.mem_map.1 this
  have e : t.1.id = id := e
  have h2 := List.find?_eq_none.1 h t.1 (by rw [hr.l]; exact List.mem_map_of_mem (f := (·.1)) ht)
  simp [e] at h2
/-- the one that is found, in its place -/
theorem FlR.at {F : AFleet} {L : List Tr} {mA mW} (hr : FlR F L mA mW) {id : Int} {x : AHeld} (h : fFind F.l id = some x) : ∃ A t B, L = A ++ t :: B ∧ t.1 = x ∧ x.id = id := by
  have h1 := List.mem_of_find?_eq_some h
  have h2 := List.find?_some h
  rw [hr.l] at h1
  obtain ⟨t, ht, rfl⟩ := List.mem_map.1 h1
  obtain ⟨A, B, e⟩ := List.append_of_mem ht
  exact ⟨A, t, B, e, rfl, by simpa using h2⟩
theorem S_fNew (h : St w0 E w) {room : Int} {k : Option Addr → PT} (hk : ∀ b s w', FlS b ⟨room, 0, []⟩ s → St w0 (s :: E) w' → k (some ⟨b, 0, none⟩) w') : L.call Pr n_fleet_New [I room] (.one (.one .ptr)) k w := by
  refine call_of (C_fleet_New _) ?_
  unfold F_fleet_New
  refine MpS.new h KI vOne fun r1 s1 w hm1 h => ?_
  refine MpS.new h KI KI fun r2 s2 w hm2 h => ?_
  refine nw h ?_; clear h; (try clear w); intro b w h
  refine ⟨_, rfl, hk b _ w ⟨⟨by simp, by simp, by simp, by simp, by simp, by simp, by simp⟩, r1, r2, [], [], s1, s2, [], hm1, hm2, ⟨rfl, by simp, .refl _, fun q => rfl⟩, rfl⟩ ?_⟩
  have h := fr2_ (fr2_ (fr1_ h))
  exact h.eq (by simp)
theorem S_fLive (h : St w0 E w) (i : Nat) {b : Nat} {F : AFleet} {s : Seg} (hi : nth E i = some s) (hf : FlS b F s) {k : Int → PT} (hk : k F.l.length w) : L.call Pr n_fleet_Fleet_Live [.pointer (some ⟨b, 0, none⟩)] (.one (.one (.int .i64))) k w := by
  obtain ⟨ok, rA, rW, mA, mW, sA, sW, L, hA, hW, hr, rfl⟩ := hf
  refine call_of (C_fleet_Fleet_Live _) ?_
  unfold F_fleet_Fleet_Live
  have h : St w0 (flB b rA rW F :: sA :: sW :: (L.map trS).flatten :: delN E i) w := (h.front i hi).eq (by simp)
  (repeat (first | refine nn ?_ | (refine dr h ?_; clear h; (try clear w); intro w h) | refine ld0_ h rfl rfl ?_ | refine ld1_ h rfl rfl ?_ | refine ld2_ h rfl rfl ?_ | refine ld3_ h rfl rfl ?_ | refine ld4_ h rfl rfl ?_ | refine ld5_ h rfl rfl ?_ | refine ld6_ h rfl rfl ?_ | refine ld7_ h rfl rfl ?_ | refine ld8_ h rfl rfl ?_ | refine ld9_ h rfl rfl ?_ | refine ld10_ h rfl rfl ?_ | refine ld11_ h rfl rfl ?_ | refine la0_ h rfl ?_ | refine la1_ h rfl ?_ | refine la2_ h rfl ?_ | refine la3_ h rfl ?_ | refine la4_ h rfl ?_ | refine la5_ h rfl ?_ | refine la6_ h rfl ?_ | refine la7_ h rfl ?_ | refine la8_ h rfl ?_ | refine la9_ h rfl ?_ | refine la10_ h rfl ?_ | refine la11_ h rfl ?_ | refine ck0_ h rfl ?_ | refine ck1_ h rfl ?_ | refine ck2_ h rfl ?_ | refine ck3_ h rfl ?_ | refine ck4_ h rfl ?_ | refine ck5_ h rfl ?_ | refine ck6_ h rfl ?_ | refine ck7_ h rfl ?_ | refine ck8_ h rfl ?_ | refine ck9_ h rfl ?_ | refine ck10_ h rfl ?_ | refine ck11_ h rfl ?_ | ((first | refine st0_ h rfl rfl ?_ | refine st1_ h rfl rfl ?_ | refine st2_ h rfl rfl ?_ | refine st3_ h rfl rfl ?_ | refine st4_ h rfl rfl ?_ | refine st5_ h rfl rfl ?_ | refine st6_ h rfl rfl ?_ | refine st7_ h rfl rfl ?_ | refine st8_ h rfl rfl ?_ | refine st9_ h rfl rfl ?_ | refine st10_ h rfl rfl ?_ | refine st11_ h rfl rfl ?_); clear h; (try clear w); intro w h; (try dsimp only [putN, setN] at h))))
  refine MpS.len und_map_o h 1 rfl hA ⟨_, rfl, ?_⟩
  rw [hr.len]; exact hk
def fOf (l : List AHeld) (id : Int) : ByteArray := ((fFind l id).map (·.rev)).getD s_
theorem S_fOf (h : St w0 E w) (i : Nat) {b : Nat} {F : AFleet} {s : Seg} (hi : nth E i = some s) (hf : FlS b F s) {id : Int} {k : ByteArray → PT} (hk : k (fOf F.l id) w) : L.call Pr n_fleet_Fleet_Of [.pointer (some ⟨b, 0, none⟩), I id] (.one (.one .str)) k w := by
  obtain ⟨ok, rA, rW, mA, mW, sA, sW, L, hA, hW, hr, rfl⟩ := hf
  refine call_of (C_fleet_Fleet_Of _ _) ?_
  unfold F_fleet_Fleet_Of
  have h : St w0 (flB b rA rW F :: sA :: sW :: (L.map trS).flatten :: delN E i) w := (h.front i hi).eq (by simp)
  (repeat (first | refine nn ?_ | (refine dr h ?_; clear h; (try clear w); intro w h) | refine ld0_ h rfl rfl ?_ | refine ld1_ h rfl rfl ?_ | refine ld2_ h rfl rfl ?_ | refine ld3_ h rfl rfl ?_ | refine ld4_ h rfl rfl ?_ | refine ld5_ h rfl rfl ?_ | refine ld6_ h rfl rfl ?_ | refine ld7_ h rfl rfl ?_ | refine ld8_ h rfl rfl ?_ | refine ld9_ h rfl rfl ?_ | refine ld10_ h rfl rfl ?_ | refine ld11_ h rfl rfl ?_ | refine la0_ h rfl ?_ | refine la1_ h rfl ?_ | refine la2_ h rfl ?_ | refine la3_ h rfl ?_ | refine la4_ h rfl ?_ | refine la5_ h rfl ?_ | refine la6_ h rfl ?_ | refine la7_ h rfl ?_ | refine la8_ h rfl ?_ | refine la9_ h rfl ?_ | refine la10_ h rfl ?_ | refine la11_ h rfl ?_ | refine ck0_ h rfl ?_ | refine ck1_ h rfl ?_ | refine ck2_ h rfl ?_ | refine ck3_ h rfl ?_ | refine ck4_ h rfl ?_ | refine ck5_ h rfl ?_ | refine ck6_ h rfl ?_ | refine ck7_ h rfl ?_ | refine ck8_ h rfl ?_ | refine ck9_ h rfl ?_ | refine ck10_ h rfl ?_ | refine ck11_ h rfl ?_ | ((first | refine st0_ h rfl rfl ?_ | refine st1_ h rfl rfl ?_ | refine st2_ h rfl rfl ?_ | refine st3_ h rfl rfl ?_ | refine st4_ h rfl rfl ?_ | refine st5_ h rfl rfl ?_ | refine st6_ h rfl rfl ?_ | refine st7_ h rfl rfl ?_ | refine st8_ h rfl rfl ?_ | refine st9_ h rfl rfl ?_ | refine st10_ h rfl rfl ?_ | refine st11_ h rfl rfl ?_); clear h; (try clear w); intro w h; (try dsimp only [putN, setN] at h))))
  refine MpS.get mkI und_map_o zo (fun x : ByteArray × Option Addr => (x.1, x.2, ())) (fun _ => rfl) h 1 rfl hA ⟨_, rfl, ?_⟩
  unfold fOf at hk
  cases hfd : fFind F.l id with
  | none => rw [hfd] at hk; rw [hr.get0 hfd]; exact hk
  | some x =>
    obtain ⟨A, t, B, hL, rfl, hid⟩ := hr.at hfd
    have hg := hr.get ok (t := t) (by rw [hL]; simp)
    rw [hid] at hg
    rw [hfd] at hk; rw [hg]; exact hk
/-- a revision's pods, in order -/
theorem S_of (h : St w0 E w) {p : Option Addr} {rev : ByteArray} {k : FV → PT} (hk : ∀ c0 c1 w', St w0 ([Cl c1 T_string [.string rev]] :: [Cl c0 T_p_fleet_Fleet [.pointer p]] :: E) w' →
    k ⟨.func n_fleet_Fleet_of_1, #[], #[.pointer (some ⟨c0, 0, none⟩), .pointer (some ⟨c1, 0, none⟩)]⟩ w') : L.call Pr n_fleet_Fleet_of [.pointer p, .string rev] (.one (.one .func)) k w := by
  refine call_of (C_fleet_Fleet_of _ _) ?_
  unfold F_fleet_Fleet_of
  refine nw h ?_; clear h; (try clear w); intro c0 w h
  refine nw h ?_; clear h; (try clear w); intro c1 w h
  exact ⟨_, rfl, hk c0 c1 w h⟩
def argO (l : List Tr) (m : Nat) : TT [.one (.int .i64), .one .ptr] := match l[m]? with
  | some t => (t.1.id, some ⟨t.2.1, 0, none⟩, ())
  | none => (0, none, ())
theorem filt_at {α : Type} {p : α → Bool} : ∀ {l : List α} {j : Nat} {x : α}, l[j]? = some x → p x = true → (l.filter p)[((l.take j).filter p).length]? = some x
  | y :: l, 0, x, h, hp => by simp at h; subst h; simp [hp]
  | y :: l, j + 1, x, h, hp => by
    have := filt_at (l := l) (j := j) (p := p) (by simpa using h) hp
    by_cases hy : p y = true
    · simp [hy, this]
    · simp [hy, this]
theorem filt_take {α : Type} {p : α → Bool} {l : List α} {j : Nat} {x : α} (h : l[j]? = some x) : ((l.take (j + 1)).filter p).length = ((l.take j).filter p).length + if p x = true then 1 else 0 := by
  rw [List.take_add_one, h, List.filter_append, List.length_append]
  congr 1
  by_cases hp : p x = true <;> simp [hp]
abbrev revP (rev : ByteArray) (t : Tr) : Bool := decide (t.1.rev = rev)
theorem Y_of {c0 c1 b rA rW : Nat} {F : AFleet} {L : List Tr} {mA mW} {sA : Seg} {rev : ByteArray} (ok : F.Ok) (hA : MpS KI vOne rA mA sA) (hr : FlR F L mA mW) :
    YldX Pr w0 [[Cl c1 T_string [.string rev]], [Cl c0 T_p_fleet_Fleet [.pointer (some ⟨b, 0, none⟩)]], flB b rA rW F, sA]
      (.func (.func n_fleet_Fleet_of_1) #[] #[.pointer (some ⟨c0, 0, none⟩), .pointer (some ⟨c1, 0, none⟩)]) (L.filter (revP rev)).length fun m => TV _ (argO (L.filter (revP rev)) m) := by
  intro yv R J Jd G w h hJ step fin fin2
  have hll : L.length = F.l.length := by rw [hr.l]; simp
  have hfew := ok.few
  refine ⟨E_fleet_Fleet_of_1, C_fleet_Fleet_of_1 yv ⟨c0, 0, none⟩ ⟨c1, 0, none⟩ ?_⟩
  unfold F_fleet_Fleet_of_1
  have h : St w0 ([Cl c1 T_string [.string rev]] :: [Cl c0 T_p_fleet_Fleet [.pointer (some ⟨b, 0, none⟩)]] :: flB b rA rW F :: sA :: G) w := h
  (repeat (first | refine nn ?_ | (refine dr h ?_; clear h; (try clear w); intro w h) | refine ld0_ h rfl rfl ?_ | refine ld1_ h rfl rfl ?_ | refine ld2_ h rfl rfl ?_ | refine ld3_ h rfl rfl ?_ | refine ld4_ h rfl rfl ?_ | refine ld5_ h rfl rfl ?_ | refine ld6_ h rfl rfl ?_ | refine ld7_ h rfl rfl ?_ | refine ld8_ h rfl rfl ?_ | refine ld9_ h rfl rfl ?_ | refine ld10_ h rfl rfl ?_ | refine ld11_ h rfl rfl ?_ | refine la0_ h rfl ?_ | refine la1_ h rfl ?_ | refine la2_ h rfl ?_ | refine la3_ h rfl ?_ | refine la4_ h rfl ?_ | refine la5_ h rfl ?_ | refine la6_ h rfl ?_ | refine la7_ h rfl ?_ | refine la8_ h rfl ?_ | refine la9_ h rfl ?_ | refine la10_ h rfl ?_ | refine la11_ h rfl ?_ | refine ck0_ h rfl ?_ | refine ck1_ h rfl ?_ | refine ck2_ h rfl ?_ | refine ck3_ h rfl ?_ | refine ck4_ h rfl ?_ | refine ck5_ h rfl ?_ | refine ck6_ h rfl ?_ | refine ck7_ h rfl ?_ | refine ck8_ h rfl ?_ | refine ck9_ h rfl ?_ | refine ck10_ h rfl ?_ | refine ck11_ h rfl ?_ | ((first | refine st0_ h rfl rfl ?_ | refine st1_ h rfl rfl ?_ | refine st2_ h rfl rfl ?_ | refine st3_ h rfl rfl ?_ | refine st4_ h rfl rfl ?_ | refine st5_ h rfl rfl ?_ | refine st6_ h rfl rfl ?_ | refine st7_ h rfl rfl ?_ | refine st8_ h rfl rfl ?_ | refine st9_ h rfl rfl ?_ | refine st10_ h rfl rfl ?_ | refine st11_ h rfl rfl ?_); clear h; (try clear w); intro w h; (try dsimp only [putN, setN] at h))))
  refine S_KSo h 3 rfl hA (by rw [hr.len]; omega) fun v s w hrow h => ?_
  rw [hr.keys ok] at hrow
  have hlen := Rw.len encI hrow
  rw [List.length_map] at hlen
  refine loop_of (fun q y w => ∃ (j : Nat) (G : List Seg), @Eq Int y.1 j ∧ q + j = L.length ∧ J ((L.take j).filter (revP rev)).length G ∧
    St w0 (s :: [Cl c1 T_string [.string rev]] :: [Cl c0 T_p_fleet_Fleet [.pointer (some ⟨b, 0, none⟩)]] :: flB b rA rW F :: sA :: G) w) L.length ⟨0, G, rfl, rfl, hJ, h⟩ ?_
  clear hJ
  clear h; (try clear w)
  rintro q ⟨y, ⟨⟩⟩ w ⟨j, G, hy, hq, hJ, h⟩ again hag
  simp only at hy
  subst hy
  refine it (fun hb => ?_) (fun hb => ?_) <;> (try simp only [decide_eq_true_eq, decide_eq_false_iff_not, beq_iff_eq, bne_iff_ne, beq_eq_false_iff_ne, bne_eq_false_iff_eq, Bool.not_eq_true', Bool.not_eq_false', ne_eq, Bool.not_eq_true, Bool.not_eq_false] at hb)
  · have hj : j < L.length := by omega
    have hx : L[j]? = some L[j] := List.getElem?_eq_getElem hj
    have hft := filt_take (p := revP rev) hx
    refine join_of (fun z w => ∃ G, J ((L.take (j + 1)).filter (revP rev)).length G ∧ St w0 (s :: [Cl c1 T_string [.string rev]] :: [Cl c0 T_p_fleet_Fleet [.pointer (some ⟨b, 0, none⟩)]] :: flB b rA rW F :: sA :: G) w) (fun k8 hk8 => ?_) (fun z w ⟨G, hJ, h⟩ => ?_)
    · refine Rw.ix encI hrow (by omega) (by simpa using hj) fun a ha => ?_
      refine Rw.ld0 encI h 0 rfl hrow ha (x := L[j].1.id) (by simp [hj]) rfl rfl ?_
      (repeat (first | refine nn ?_ | (refine dr h ?_; clear h; (try clear w); intro w h) | refine ld0_ h rfl rfl ?_ | refine ld1_ h rfl rfl ?_ | refine ld2_ h rfl rfl ?_ | refine ld3_ h rfl rfl ?_ | refine ld4_ h rfl rfl ?_ | refine ld5_ h rfl rfl ?_ | refine ld6_ h rfl rfl ?_ | refine ld7_ h rfl rfl ?_ | refine ld8_ h rfl rfl ?_ | refine ld9_ h rfl rfl ?_ | refine ld10_ h rfl rfl ?_ | refine ld11_ h rfl rfl ?_ | refine la0_ h rfl ?_ | refine la1_ h rfl ?_ | refine la2_ h rfl ?_ | refine la3_ h rfl ?_ | refine la4_ h rfl ?_ | refine la5_ h rfl ?_ | refine la6_ h rfl ?_ | refine la7_ h rfl ?_ | refine la8_ h rfl ?_ | refine la9_ h rfl ?_ | refine la10_ h rfl ?_ | refine la11_ h rfl ?_ | refine ck0_ h rfl ?_ | refine ck1_ h rfl ?_ | refine ck2_ h rfl ?_ | refine ck3_ h rfl ?_ | refine ck4_ h rfl ?_ | refine ck5_ h rfl ?_ | refine ck6_ h rfl ?_ | refine ck7_ h rfl ?_ | refine ck8_ h rfl ?_ | refine ck9_ h rfl ?_ | refine ck10_ h rfl ?_ | refine ck11_ h rfl ?_ | ((first | refine st0_ h rfl rfl ?_ | refine st1_ h rfl rfl ?_ | refine st2_ h rfl rfl ?_ | refine st3_ h rfl rfl ?_ | refine st4_ h rfl rfl ?_ | refine st5_ h rfl rfl ?_ | refine st6_ h rfl rfl ?_ | refine st7_ h rfl rfl ?_ | refine st8_ h rfl rfl ?_ | refine st9_ h rfl rfl ?_ | refine st10_ h rfl rfl ?_ | refine st11_ h rfl rfl ?_); clear h; (try clear w); intro w h; (try dsimp only [putN, setN] at h))))
      refine MpS.get mkI und_map_o zo (fun x : ByteArray × Option Addr => (x.1, x.2, ())) (fun _ => rfl) h 4 rfl hA ?_
      rw [hr.get ok (List.getElem_mem hj)]
      simp only [Option.map_some, Option.getD_some]
      refine nw h ?_; clear h; (try clear w); intro b16 w h
      (repeat (first | refine nn ?_ | (refine dr h ?_; clear h; (try clear w); intro w h) | refine ld0_ h rfl rfl ?_ | refine ld1_ h rfl rfl ?_ | refine ld2_ h rfl rfl ?_ | refine ld3_ h rfl rfl ?_ | refine ld4_ h rfl rfl ?_ | refine ld5_ h rfl rfl ?_ | refine ld6_ h rfl rfl ?_ | refine ld7_ h rfl rfl ?_ | refine ld8_ h rfl rfl ?_ | refine ld9_ h rfl rfl ?_ | refine ld10_ h rfl rfl ?_ | refine ld11_ h rfl rfl ?_ | refine la0_ h rfl ?_ | refine la1_ h rfl ?_ | refine la2_ h rfl ?_ | refine la3_ h rfl ?_ | refine la4_ h rfl ?_ | refine la5_ h rfl ?_ | refine la6_ h rfl ?_ | refine la7_ h rfl ?_ | refine la8_ h rfl ?_ | refine la9_ h rfl ?_ | refine la10_ h rfl ?_ | refine la11_ h rfl ?_ | refine ck0_ h rfl ?_ | refine ck1_ h rfl ?_ | refine ck2_ h rfl ?_ | refine ck3_ h rfl ?_ | refine ck4_ h rfl ?_ | refine ck5_ h rfl ?_ | refine ck6_ h rfl ?_ | refine ck7_ h rfl ?_ | refine ck8_ h rfl ?_ | refine ck9_ h rfl ?_ | refine ck10_ h rfl ?_ | refine ck11_ h rfl ?_ | ((first | refine st0_ h rfl rfl ?_ | refine st1_ h rfl rfl ?_ | refine st2_ h rfl rfl ?_ | refine st3_ h rfl rfl ?_ | refine st4_ h rfl rfl ?_ | refine st5_ h rfl rfl ?_ | refine st6_ h rfl rfl ?_ | refine st7_ h rfl rfl ?_ | refine st8_ h rfl rfl ?_ | refine st9_ h rfl rfl ?_ | refine st10_ h rfl rfl ?_ | refine st11_ h rfl rfl ?_); clear h; (try clear w); intro w h; (try dsimp only [putN, setN] at h))))
      rw [str_eq]
      refine it (fun hc => ?_) (fun hc => ?_) <;> (try simp only [decide_eq_true_eq, decide_eq_false_iff_not, beq_iff_eq, bne_iff_ne, beq_eq_false_iff_ne, bne_eq_false_iff_eq, Bool.not_eq_true', Bool.not_eq_false', ne_eq, Bool.not_eq_true, Bool.not_eq_false] at hc)
      · (repeat (first | refine nn ?_ | (refine dr h ?_; clear h; (try clear w); intro w h) | refine ld0_ h rfl rfl ?_ | refine ld1_ h rfl rfl ?_ | refine ld2_ h rfl rfl ?_ | refine ld3_ h rfl rfl ?_ | refine ld4_ h rfl rfl ?_ | refine ld5_ h rfl rfl ?_ | refine ld6_ h rfl rfl ?_ | refine ld7_ h rfl rfl ?_ | refine ld8_ h rfl rfl ?_ | refine ld9_ h rfl rfl ?_ | refine ld10_ h rfl rfl ?_ | refine ld11_ h rfl rfl ?_ | refine la0_ h rfl ?_ | refine la1_ h rfl ?_ | refine la2_ h rfl ?_ | refine la3_ h rfl ?_ | refine la4_ h rfl ?_ | refine la5_ h rfl ?_ | refine la6_ h rfl ?_ | refine la7_ h rfl ?_ | refine la8_ h rfl ?_ | refine la9_ h rfl ?_ | refine la10_ h rfl ?_ | refine la11_ h rfl ?_ | refine ck0_ h rfl ?_ | refine ck1_ h rfl ?_ | refine ck2_ h rfl ?_ | refine ck3_ h rfl ?_ | refine ck4_ h rfl ?_ | refine ck5_ h rfl ?_ | refine ck6_ h rfl ?_ | refine ck7_ h rfl ?_ | refine ck8_ h rfl ?_ | refine ck9_ h rfl ?_ | refine ck10_ h rfl ?_ | refine ck11_ h rfl ?_ | ((first | refine st0_ h rfl rfl ?_ | refine st1_ h rfl rfl ?_ | refine st2_ h rfl rfl ?_ | refine st3_ h rfl rfl ?_ | refine st4_ h rfl rfl ?_ | refine st5_ h rfl rfl ?_ | refine st6_ h rfl rfl ?_ | refine st7_ h rfl rfl ?_ | refine st8_ h rfl rfl ?_ | refine st9_ h rfl rfl ?_ | refine st10_ h rfl rfl ?_ | refine st11_ h rfl rfl ?_); clear h; (try clear w); intro w h; (try dsimp only [putN, setN] at h))))
        have h := dl0_ h
        have hp : revP rev L[j] = true := decide_eq_true hc
        rw [if_pos hp] at hft
        rw [hft] at hk8
        have hat := filt_at (p := revP rev) hx hp
        have ea : TV _ (argO (L.filter (revP rev)) ((L.take j).filter (revP rev)).length) = [I L[j].1.id, .pointer (some ⟨L[j].2.1, 0, none⟩)] := by simp only [argO, hat]; rfl
        have hlt : ((L.take j).filter (revP rev)).length < (L.filter (revP rev)).length := by
          rcases Nat.lt_or_ge ((L.take j).filter (revP rev)).length (L.filter (revP rev)).length with h | h
          · exact h
          · rw [List.getElem?_eq_none h] at hat; cases hat
        have step := step _ G [s] w hlt hJ (St.toEnd (X := [s]) (A := [_, _, _, _]) h)
        simp only [ea] at step
        refine cv (FCall.mono step fun u w' hu => ?_)
        rcases hu with ⟨rfl, G', h, hJ⟩ | ⟨rfl, hd⟩
        · exact ⟨true, rfl, itF rfl (hk8 () w' ⟨G', hJ, St.ofEnd (X := [s]) (A := [_, _, _, _]) h⟩)⟩
        · exact ⟨false, rfl, itT rfl (fin2 w' hd)⟩
      · have h := dl0_ h
        have hp : ¬ revP rev L[j] = true := fun e => hc (of_decide_eq_true e)
        rw [if_neg hp] at hft
        rw [Nat.add_zero] at hft
        rw [hft] at hk8
        exact hk8 () w ⟨G, hJ, h⟩
    · refine hag (q - 1) _ w (by omega) ⟨j + 1, G, ?_, by omega, hJ, h⟩
      show IntKind.wrap .i64 _ = _
      rw [wr (by omega) (by omega)]; omega
  · have e : j = L.length := by omega
    subst e
    rw [List.take_length] at hJ
    exact fin G w hJ (dl0_ h)
end Go.Proofs.Ytheikjckdnhdhaa
