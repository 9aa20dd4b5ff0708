/- Contracts of functions, and walks of laws (text Li). No conditions beyond those its theorems state. -/
import Derived.Test.YthmpbgloifdcnaaGreatBa
import Derived.Test.YthmpbgloifdcnaaGreatSepB
import Derived.Test.YthmpbgloifdcnaaGreatL
set_option linter.all false
namespace Go.Proofs.YthmpbgloifdcnaaGreat
open Go.Dm
attribute [local irreducible] L.load L.store L.chk L.new L.nonnil L.guard L.ite L.draw L.idx L.sem L.semR L.semU L.chkSem L.next L.call L.callV L.join L.alts L.loop L.begin L.endRound L.range
variable {w0 w : World} {E : List Seg}
/-! ### the library, at whole numbers -/
def isort (l : List Int) : List Int := l.mergeSort fun x y => decide (x ≤ y)
theorem isort_perm (l : List Int) : (isort l).Perm l := List.mergeSort_perm ..
theorem isort_pw (l : List Int) : (isort l).Pairwise (· ≤ ·) := by
  have := List.pairwise_mergeSort (le := fun x y : Int => decide (x ≤ y)) (fun a b c h1 h2 => by simp only [decide_eq_true_eq] at *; omega) (fun a b => by simp only [Bool.or_eq_true, decide_eq_true_eq]; omega) l
  exact this.imp fun h => by simpa using h
theorem isort_eq {l m : List Int} (h : l.Perm m) : isort l = isort m :=
  List.Perm.eq_of_pairwise (fun a b _ _ h1 h2 => by omega) (isort_pw l) (isort_pw m) (((isort_perm l).trans h).trans (isort_perm m).symm)
theorem isort_of {l m : List Int} (h : l.Perm m) (hm : m.Pairwise (· ≤ ·)) : isort l = m :=
  List.Perm.eq_of_pairwise (fun a b _ _ h1 h2 => by omega) (isort_pw l) hm ((isort_perm l).trans h)
theorem isort_len (l : List Int) : (isort l).length = l.length := (isort_perm l).length_eq
theorem S_SortI (h : St w0 E w) (i : Nat) {s : Seg} (hi : nth E i = some s) {v : Sl} {l : List Int} (hr : Rw eI T_int 1 v l s) (hn : l.length < 1000000000) {k : Unit → PT} (hk : ∀ s' w', Rw eI T_int 1 v (isort l) s' → St w0 (setN E i s') w' → k () w') :
    L.call Pr n_slices_Sort_int_int [.slice v.a v.len v.cap] (.tup []) k w :=
  sort_of (encv := Value.int .i64) (fun _ => rfl) encI (isort l) (isort_len l) (fun g off cap w h1 h2 => Tryz.slices_Sort_int g off cap l w h1 h2 (by omega)) (fun p cap w => Any.slices_Sort_int_none Tryz.lays189 p cap w) h i hi hr hk
theorem S_AppendSeqI {a1 a2 : Seg} {F : List Seg} {fv : FV} {keys : List Int} (hY : YldM Pr w0 [a1, a2] fv.val keys (Value.int .i64)) (h : St w0 (a1 :: a2 :: F) w) (hn : keys.length < 1000000000) {k : Sl → PT}
    (hk : ∀ seen v s w', seen.Perm keys → Rw eI T_int 1 v seen s → St w0 (s :: a1 :: a2 :: F) w' → k v w') : L.call Pr n_slices_AppendSeq_int_int [.slice none 0 0, fv.val] (.one (.one .slice)) k w := by
  refine call_of (C_slices_AppendSeq_int_int ⟨none, 0, 0⟩ fv) ?_
  unfold F_slices_AppendSeq_int_int
  refine nw h ?_; clear h; (try clear w); intro b1 w h
  have h := fr2_ (fr2_ h)
  have h : St w0 ([a1, a2] ++ [Cl b1 T_s_int [SlV ⟨none, 0, 0⟩]] :: [] :: F) w := h.eq (by simp)
  refine range_ofM (l := .int .i64) (arg := fun x => x) (A := [a1, a2]) (keys := keys) hY h (fun seen G => ∃ v s, G = [Cl b1 T_s_int [SlV v]] :: s :: F ∧ Rw eI T_int 1 v seen s) (fun j G => False) ⟨_, _, rfl, Rw.nil⟩ ?_ ?_ ?_
  · rintro seen x G X w lv lp d R hm ⟨v, s, rfl, hr⟩ h hN hE
    have h : St w0 ([Rec lv lp .busy none] :: [DfM d] :: a1 :: a2 :: [Cl b1 T_s_int [SlV v]] :: s :: (F ++ X)) w := h
    (repeat (first | refine nn ?_ | (refine dr h ?_; clear h; (try clear w); intro w h) | refine ld0_ h rfl rfl ?_ | refine ld1_ h rfl rfl ?_ | refine ld2_ h rfl rfl ?_ | refine ld3_ h rfl rfl ?_ | refine ld4_ h rfl rfl ?_ | refine ld5_ h rfl rfl ?_ | refine ld6_ h rfl rfl ?_ | refine ld7_ h rfl rfl ?_ | refine ld8_ h rfl rfl ?_ | refine ld9_ h rfl rfl ?_ | refine ld10_ h rfl rfl ?_ | refine ld11_ h rfl rfl ?_ | refine la0_ h rfl ?_ | refine la1_ h rfl ?_ | refine la2_ h rfl ?_ | refine la3_ h rfl ?_ | refine la4_ h rfl ?_ | refine la5_ h rfl ?_ | refine la6_ h rfl ?_ | refine la7_ h rfl ?_ | refine la8_ h rfl ?_ | refine la9_ h rfl ?_ | refine la10_ h rfl ?_ | refine la11_ h rfl ?_ | refine ck0_ h rfl ?_ | refine ck1_ h rfl ?_ | refine ck2_ h rfl ?_ | refine ck3_ h rfl ?_ | refine ck4_ h rfl ?_ | refine ck5_ h rfl ?_ | refine ck6_ h rfl ?_ | refine ck7_ h rfl ?_ | refine ck8_ h rfl ?_ | refine ck9_ h rfl ?_ | refine ck10_ h rfl ?_ | refine ck11_ h rfl ?_ | ((first | refine st0_ h rfl rfl ?_ | refine st1_ h rfl rfl ?_ | refine st2_ h rfl rfl ?_ | refine st3_ h rfl rfl ?_ | refine st4_ h rfl rfl ?_ | refine st5_ h rfl rfl ?_ | refine st6_ h rfl rfl ?_ | refine st7_ h rfl rfl ?_ | refine st8_ h rfl rfl ?_ | refine st9_ h rfl rfl ?_ | refine st10_ h rfl rfl ?_ | refine st11_ h rfl rfl ?_); clear h; (try clear w); intro w h; (try dsimp only [putN, setN] at h))))
    refine nw h ?_; clear h; (try clear w); intro b8 w h
    refine Rw.app encI elI h 5 rfl hr x rfl (by omega) (by omega) fun v' s' w hr' h => ?_
    (repeat (first | refine nn ?_ | (refine dr h ?_; clear h; (try clear w); intro w h) | refine ld0_ h rfl rfl ?_ | refine ld1_ h rfl rfl ?_ | refine ld2_ h rfl rfl ?_ | refine ld3_ h rfl rfl ?_ | refine ld4_ h rfl rfl ?_ | refine ld5_ h rfl rfl ?_ | refine ld6_ h rfl rfl ?_ | refine ld7_ h rfl rfl ?_ | refine ld8_ h rfl rfl ?_ | refine ld9_ h rfl rfl ?_ | refine ld10_ h rfl rfl ?_ | refine ld11_ h rfl rfl ?_ | refine la0_ h rfl ?_ | refine la1_ h rfl ?_ | refine la2_ h rfl ?_ | refine la3_ h rfl ?_ | refine la4_ h rfl ?_ | refine la5_ h rfl ?_ | refine la6_ h rfl ?_ | refine la7_ h rfl ?_ | refine la8_ h rfl ?_ | refine la9_ h rfl ?_ | refine la10_ h rfl ?_ | refine la11_ h rfl ?_ | refine ck0_ h rfl ?_ | refine ck1_ h rfl ?_ | refine ck2_ h rfl ?_ | refine ck3_ h rfl ?_ | refine ck4_ h rfl ?_ | refine ck5_ h rfl ?_ | refine ck6_ h rfl ?_ | refine ck7_ h rfl ?_ | refine ck8_ h rfl ?_ | refine ck9_ h rfl ?_ | refine ck10_ h rfl ?_ | refine ck11_ h rfl ?_ | ((first | refine st0_ h rfl rfl ?_ | refine st1_ h rfl rfl ?_ | refine st2_ h rfl rfl ?_ | refine st3_ h rfl rfl ?_ | refine st4_ h rfl rfl ?_ | refine st5_ h rfl rfl ?_ | refine st6_ h rfl rfl ?_ | refine st7_ h rfl rfl ?_ | refine st8_ h rfl rfl ?_ | refine st9_ h rfl rfl ?_ | refine st10_ h rfl rfl ?_ | refine st11_ h rfl rfl ?_); clear h; (try clear w); intro w h; (try dsimp only [putN, setN] at h))))
    exact hN _ w ⟨v', s', rfl, hr'⟩ h
  · rintro d seen G w hp ⟨v, s, rfl, hr⟩ h
    have h : St w0 ([DfM d] :: a1 :: a2 :: [Cl b1 T_s_int [SlV v]] :: s :: F) w := h
    refine jumpN ?_
    (repeat (first | refine nn ?_ | (refine dr h ?_; clear h; (try clear w); intro w h) | refine ld0_ h rfl rfl ?_ | refine ld1_ h rfl rfl ?_ | refine ld2_ h rfl rfl ?_ | refine ld3_ h rfl rfl ?_ | refine ld4_ h rfl rfl ?_ | refine ld5_ h rfl rfl ?_ | refine ld6_ h rfl rfl ?_ | refine ld7_ h rfl rfl ?_ | refine ld8_ h rfl rfl ?_ | refine ld9_ h rfl rfl ?_ | refine ld10_ h rfl rfl ?_ | refine ld11_ h rfl rfl ?_ | refine la0_ h rfl ?_ | refine la1_ h rfl ?_ | refine la2_ h rfl ?_ | refine la3_ h rfl ?_ | refine la4_ h rfl ?_ | refine la5_ h rfl ?_ | refine la6_ h rfl ?_ | refine la7_ h rfl ?_ | refine la8_ h rfl ?_ | refine la9_ h rfl ?_ | refine la10_ h rfl ?_ | refine la11_ h rfl ?_ | refine ck0_ h rfl ?_ | refine ck1_ h rfl ?_ | refine ck2_ h rfl ?_ | refine ck3_ h rfl ?_ | refine ck4_ h rfl ?_ | refine ck5_ h rfl ?_ | refine ck6_ h rfl ?_ | refine ck7_ h rfl ?_ | refine ck8_ h rfl ?_ | refine ck9_ h rfl ?_ | refine ck10_ h rfl ?_ | refine ck11_ h rfl ?_ | ((first | refine st0_ h rfl rfl ?_ | refine st1_ h rfl rfl ?_ | refine st2_ h rfl rfl ?_ | refine st3_ h rfl rfl ?_ | refine st4_ h rfl rfl ?_ | refine st5_ h rfl rfl ?_ | refine st6_ h rfl rfl ?_ | refine st7_ h rfl rfl ?_ | refine st8_ h rfl rfl ?_ | refine st9_ h rfl rfl ?_ | refine st10_ h rfl rfl ?_ | refine st11_ h rfl rfl ?_); clear h; (try clear w); intro w h; (try dsimp only [putN, setN] at h))))
    (first | refine um0_ h ?_ | refine um1_ h ?_ | refine um2_ h ?_ | refine um3_ h ?_ | refine um4_ h ?_ | refine um5_ h ?_ | refine um6_ h ?_ | refine um7_ h ?_ | refine um8_ h ?_ | refine um9_ h ?_ | refine um10_ h ?_ | refine um11_ h ?_); clear h; (try clear w); intro w h
    refine ⟨v, rfl, hk seen v s w hp hr ?_⟩
    have h := fr3_ (fr1_ (fr1_ h))
    have h := dl3_ h
    exact h
  · rintro d j G w hf; exact hf.elim
theorem S_SortedKeysI {a1 a2 : Seg} {F : List Seg} {fv : FV} {keys : List Int} (hY : YldM Pr w0 [a1, a2] fv.val keys (Value.int .i64)) (h : St w0 (a1 :: a2 :: F) w) (hn : keys.length < 1000000000) {k : Sl → PT}
    (hk : ∀ v s w', Rw eI T_int 1 v (isort keys) s → St w0 (s :: a2 :: F) w' → k v w') : L.call Pr n_slices_Sorted_int [fv.val] (.one (.one .slice)) k w := by
  refine call_of (C_slices_Sorted_int fv) ?_
  unfold F_slices_Sorted_int
  refine call_of (C_slices_Collect_int fv) ?_
  unfold F_slices_Collect_int
  refine S_AppendSeqI hY h hn fun seen v s w hp hr h => ⟨v, rfl, ?_⟩
  refine S_SortI h 0 rfl hr (by rw [hp.length_eq]; exact hn) fun s w hr h => ?_
  rw [isort_eq hp] at hr
  exact ⟨v, rfl, hk v s w hr (dl1_ h)⟩
end Go.Proofs.YthmpbgloifdcnaaGreat
namespace Go.Proofs.YthmpbgloifdcnaaGreat
open Go.Dm
attribute [local irreducible] L.load L.store L.chk L.new L.nonnil L.guard L.ite L.draw L.idx L.sem L.semR L.semU L.chkSem L.next L.call L.callV L.join L.alts L.loop L.begin L.endRound L.range
variable {w0 w : World} {E : List Seg}
def unI : Value → Int
  | .int _ n => n
  | _ => 0
abbrev KI : Int → Value := Value.int .i64
def vOne (x : ByteArray × Option Addr) : Value := .agg #[.string x.1, .pointer x.2]
theorem und_map_b : Pr.underlying T_map_int_bool = some (.map T_int T_bool) := by kernel_rfl
theorem und_map_o : Pr.underlying T_map_int_fleet_one = some (.map T_int T_fleet_one) := by kernel_rfl
theorem und_map_i : Pr.underlying T_map_int_int = some (.map T_int T_int) := by kernel_rfl
theorem und_int : Pr.underlying T_int = some (.int .i64) := by kernel_rfl
theorem mkI : MK Pr T_int KI := mk_int und_int
theorem zb (w : World) : (zeroValue T_bool).run Pr w = .ok ((E1.one .bool).val false) w := by
  have h : (Pr.info? T_bool).map (·.zero) = some (some (.bool false)) := by kernel_rfl
  cases hi : Pr.info? T_bool with
  | none => rw [hi] at h; cases h
  | some i => rw [hi] at h; simp only [Option.map_some, Option.some.injEq] at h; exact zv hi h w
theorem zi (w : World) : (zeroValue T_int).run Pr w = .ok ((E1.one (.int .i64)).val (0 : Int)) w := by
  have h : (Pr.info? T_int).map (·.zero) = some (some (I 0)) := by kernel_rfl
  cases hi : Pr.info? T_int with
  | none => rw [hi] at h; cases h
  | some i => rw [hi] at h; simp only [Option.map_some, Option.some.injEq] at h; exact zv hi h w
theorem zo (w : World) : (zeroValue T_fleet_one).run Pr w = .ok ((E1.agg [.str, .ptr]).val (s_, none, ())) w := by
  have h : (Pr.info? T_fleet_one).map (·.zero) = some (some (.agg #[.string s_, .pointer none])) := by kernel_rfl
  cases hi : Pr.info? T_fleet_one with
  | none => rw [hi] at h; cases h
  | some i => rw [hi] at h; simp only [Option.map_some, Option.some.injEq] at h; exact zv hi h w
/-- slices.Sorted(maps.Keys(m)) -/
theorem S_KSb (h : St w0 E w) (i : Nat) {s : Seg} (hi : nth E i = some s) {r : Nat} {m : List (Int × Bool)} (hm : MpS KI Value.bool r m s) (hn : m.length < 1000000000) {k : Sl → PT}
    (hk : ∀ v s' w', Rw eI T_int 1 v (isort (m.map (·.1))) s' → St w0 (s' :: E) w' → k v w') :
    L.call Pr n_maps_Keys_map_int_bool_int_bool [.map (some r)] (.one (.one .func)) (fun x5 => L.call Pr n_slices_Sorted_int [.func x5.fn x5.fs x5.cs] (.one (.one .slice)) k) w := by
  refine call_of (C_maps_Keys_map_int_bool_int_bool _) ?_
  unfold F_maps_Keys_map_int_bool_int_bool
  have h := h.front i hi
  refine nw h ?_; clear h; (try clear w); intro c w h
  refine ⟨⟨.func n_maps_Keys_map_int_bool_int_bool_1, #[], #[.pointer (some ⟨c, 0, none⟩)]⟩, rfl, ?_⟩
  have hY : YldM Pr w0 [[Cl c T_map_int_bool [.map (some r)]], s] (.func (.func n_maps_Keys_map_int_bool_int_bool_1) #[] #[.pointer (some ⟨c, 0, none⟩)]) (m.map (·.1)) KI := by
    intro yv R J Jd F w h hJ step fin fin2
    refine ⟨E_maps_Keys_map_int_bool_int_bool_1, C_maps_Keys_map_int_bool_int_bool_1 yv ⟨c, 0, none⟩ ?_⟩
    unfold F_maps_Keys_map_int_bool_int_bool_1
    exact keys_of (kv := KI) (vv := Value.bool) unI (fun _ => rfl) und_map_b (lk := .int .i64) (ev := .one .bool) (fun x => x) (fun _ => rfl) (fun x => x) (fun _ => rfl) J Jd hm h hJ (fun seen k F X w hl hJ h => step seen k F X w (by simpa using hl) hJ h) fin fin2
  refine S_SortedKeysI (fv := ⟨.func n_maps_Keys_map_int_bool_int_bool_1, #[], #[.pointer (some ⟨c, 0, none⟩)]⟩) hY h (by simpa using hn) fun v s' w hr h => hk v s' w hr ?_
  have h := fr1_ h
  exact St.setN_same' (i + 1) (E := s' :: E) hi (St.back (i + 1) (E := s' :: E) hi h)
theorem S_KSo (h : St w0 E w) (i : Nat) {s : Seg} (hi : nth E i = some s) {r : Nat} {m : List (Int × (ByteArray × Option Addr))} (hm : MpS KI vOne r m s) (hn : m.length < 1000000000) {k : Sl → PT}
    (hk : ∀ v s' w', Rw eI T_int 1 v (isort (m.map (·.1))) s' → St w0 (s' :: E) w' → k v w') :
    L.call Pr n_maps_Keys_map_int_fleet_one_int_fleet_one [.map (some r)] (.one (.one .func)) (fun x5 => L.call Pr n_slices_Sorted_int [.func x5.fn x5.fs x5.cs] (.one (.one .slice)) k) w := by
  refine call_of (C_maps_Keys_map_int_fleet_one_int_fleet_one _) ?_
  unfold F_maps_Keys_map_int_fleet_one_int_fleet_one
  have h := h.front i hi
  refine nw h ?_; clear h; (try clear w); intro c w h
  refine ⟨⟨.func n_maps_Keys_map_int_fleet_one_int_fleet_one_1, #[], #[.pointer (some ⟨c, 0, none⟩)]⟩, rfl, ?_⟩
  have hY : YldM Pr w0 [[Cl c T_map_int_fleet_one [.map (some r)]], s] (.func (.func n_maps_Keys_map_int_fleet_one_int_fleet_one_1) #[] #[.pointer (some ⟨c, 0, none⟩)]) (m.map (·.1)) KI := by
    intro yv R J Jd F w h hJ step fin fin2
    refine ⟨E_maps_Keys_map_int_fleet_one_int_fleet_one_1, C_maps_Keys_map_int_fleet_one_int_fleet_one_1 yv ⟨c, 0, none⟩ ?_⟩
    unfold F_maps_Keys_map_int_fleet_one_int_fleet_one_1
    exact keys_of (kv := KI) (vv := vOne) unI (fun _ => rfl) und_map_o (lk := .int .i64) (ev := .agg [.str, .ptr]) (fun x => x) (fun _ => rfl) (fun x : ByteArray × Option Addr => (x.1, x.2, ())) (fun _ => rfl) J Jd hm h hJ (fun seen k F X w hl hJ h => step seen k F X w (by simpa using hl) hJ h) fin fin2
  refine S_SortedKeysI (fv := ⟨.func n_maps_Keys_map_int_fleet_one_int_fleet_one_1, #[], #[.pointer (some ⟨c, 0, none⟩)]⟩) hY h (by simpa using hn) fun v s' w hr h => hk v s' w hr ?_
  have h := fr1_ h
  exact St.setN_same' (i + 1) (E := s' :: E) hi (St.back (i + 1) (E := s' :: E) hi h)
end Go.Proofs.YthmpbgloifdcnaaGreat
