/- Contracts of functions, and walks of laws (text Lj). No conditions beyond those its theorems state. -/
import Derived.Test.YtheikjckdnhdhaaLi
set_option linter.all false
namespace Go.Proofs.Ytheikjckdnhdhaa
open Go.Dm
attribute [local irreducible] L.load L.store L.chk L.new L.nonnil L.guard L.ite L.draw L.idx L.sem L.semR L.semU L.chkSem L.next L.call L.callV L.join L.alts L.loop L.begin L.endRound L.range
variable {w0 w : World} {E : List Seg}
def unI : Value → Int
  | .int _ n => n
  | _ => 0
abbrev KI : Int → Value := Value.int .i64
def vOne (x : ByteArray × Option Addr) : Value := .agg #[.string x.1, .pointer x.2]
theorem und_map_b : Pr.underlying T_map_int_bool = some (.map T_int T_bool) := by kernel_rfl
theorem und_map_o : Pr.underlying T_map_int_fleet_one = some (.map T_int T_fleet_one) := by kernel_rfl
theorem und_map_i : Pr.underlying T_map_int_int = some (.map T_int T_int) := by kernel_rfl
theorem und_int : Pr.underlying T_int = some (.int .i64) := by kernel_rfl
theorem mkI : MK Pr T_int KI := mk_int und_int
theorem zb (w : World) : (zeroValue T_bool).run Pr w = .ok ((E1.one .bool).val false) w := by
  have h : (Pr.info? T_bool).map (·.zero) = some (some (.bool false)) := by kernel_rfl
  cases hi : Pr.info? T_bool with
  | none => rw [hi] at h; cases h
  | some i => rw [hi] at h; simp only [Option.map_some, Option.some.injEq] at h; exact zv hi h w
theorem zi (w : World) : (zeroValue T_int).run Pr w = .ok ((E1.one (.int .i64)).val (0 : Int)) w := by
  have h : (Pr.info? T_int).map (·.zero) = some (some (I 0)) := by kernel_rfl
  cases hi : Pr.info? T_int with
  | none => rw [hi] at h; cases h
  | some i => rw [hi] at h; simp only [Option.map_some, Option.some.injEq] at h; exact zv hi h w
theorem zo (w : World) : (zeroValue T_fleet_one).run Pr w = .ok ((E1.agg [.str, .ptr]).val (s_, none, ())) w := by
  have h : (Pr.info? T_fleet_one).map (·.zero) = some (some (.agg #[.string s_, .pointer none])) := by kernel_rfl
  cases hi : Pr.info? T_fleet_one with
  | none => rw [hi] at h; cases h
  | some i => rw [hi] at h; simp only [Option.map_some, Option.some.injEq] at h; exact zv hi h w
/-- slices.Sorted(maps.Keys(m)) -/
theorem S_KSb (h : St w0 E w) (i : Nat) {s : Seg} (hi : nth E i = some s) {r : Nat} {m : List (Int × Bool)} (hm : MpS KI Value.bool r m s) (hn : m.length < 1000000000) {k : Sl → PT}
    (hk : ∀ v s' w', Rw eI T_int 1 v (isort (m.map (·.1))) s' → St w0 (s' :: E) w' → k v w') :
    L.call Pr n_maps_Keys_map_int_bool_int_bool [.map (some r)] (.one (.one .func)) (fun x5 => L.call Pr n_slices_Sorted_int [.func x5.fn x5.fs x5.cs] (.one (.one .slice)) k) w := by
  refine call_of (C_maps_Keys_map_int_bool_int_bool _) ?_
  unfold F_maps_Keys_map_int_bool_int_bool
  have h := h.front i hi
  refine nw h ?_; clear h; (try clear w); intro c w h
  refine ⟨⟨.func n_maps_Keys_map_int_bool_int_bool_1, #[], #[.pointer (some ⟨c, 0, none⟩)]⟩, rfl, ?_⟩
  have hY : YldM Pr w0 [[Cl c T_map_int_bool [.map (some r)]], s] (.func (.func n_maps_Keys_map_int_bool_int_bool_1) #[] #[.pointer (some ⟨c, 0, none⟩)]) (m.map (·.1)) KI := by
    intro yv R J Jd F w h hJ step fin fin2
    refine ⟨E_maps_Keys_map_int_bool_int_bool_1, C_maps_Keys_map_int_bool_int_bool_1 yv ⟨c, 0, none⟩ ?_⟩
    unfold F_maps_Keys_map_int_bool_int_bool_1
    exact keys_of (kv := KI) (vv := Value.bool) unI (fun _ => rfl) und_map_b (lk := .int .i64) (ev := .one .bool) (fun x => x) (fun _ => rfl) (fun x => x) (fun _ => rfl) J Jd hm h hJ (fun seen k F X w hl hJ h => step seen k F X w (by simpa using hl) hJ h) fin fin2
  refine S_SortedKeysI (fv := ⟨.func n_maps_Keys_map_int_bool_int_bool_1, #[], #[.pointer (some ⟨c, 0, none⟩)]⟩) hY h (by simpa using hn) fun v s' w hr h => hk v s' w hr ?_
  have h := fr1_ h
  exact St.setN_same' (i + 1) (E := s' :: E) hi (St.back (i + 1) (E := s' :: E) hi h)
theorem S_KSo (h : St w0 E w) (i : Nat) {s : Seg} (hi : nth E i = some s) {r : Nat} {m : List (Int × (ByteArray × Option Addr))} (hm : MpS KI vOne r m s) (hn : m.length < 1000000000) {k : Sl → PT}
    (hk : ∀ v s' w', Rw eI T_int 1 v (isort (m.map (·.1))) s' → St w0 (s' :: E) w' → k v w') :
    L.call Pr n_maps_Keys_map_int_fleet_one_int_fleet_one [.map (some r)] (.one (.one .func)) (fun x5 => L.call Pr n_slices_Sorted_int [.func x5.fn x5.fs x5.cs] (.one (.one .slice)) k) w := by
  refine call_of (C_maps_Keys_map_int_fleet_one_int_fleet_one _) ?_
  unfold F_maps_Keys_map_int_fleet_one_int_fleet_one
  have h := h.front i hi
  refine nw h ?_; clear h; (try clear w); intro c w h
  refine ⟨⟨.func n_maps_Keys_map_int_fleet_one_int_fleet_one_1, #[], #[.pointer (some ⟨c, 0, none⟩)]⟩, rfl, ?_⟩
  have hY : YldM Pr w0 [[Cl c T_map_int_fleet_one [.map (some r)]], s] (.func (.func n_maps_Keys_map_int_fleet_one_int_fleet_one_1) #[] #[.pointer (some ⟨c, 0, none⟩)]) (m.map (·.1)) KI := by
    intro yv R J Jd F w h hJ step fin fin2
    refine ⟨E_maps_Keys_map_int_fleet_one_int_fleet_one_1, C_maps_Keys_map_int_fleet_one_int_fleet_one_1 yv ⟨c, 0, none⟩ ?_⟩
    unfold F_maps_Keys_map_int_fleet_one_int_fleet_one_1
    exact keys_of (kv := KI) (vv := vOne) unI (fun _ => rfl) und_map_o (lk := .int .i64) (ev := .agg [.str, .ptr]) (fun x => x) (fun _ => rfl) (fun x : ByteArray × Option Addr => (x.1, x.2, ())) (fun _ => rfl) J Jd hm h hJ (fun seen k F X w hl hJ h => step seen k F X w (by simpa using hl) hJ h) fin fin2
  refine S_SortedKeysI (fv := ⟨.func n_maps_Keys_map_int_fleet_one_int_fleet_one_1, #[], #[.pointer (some ⟨c, 0, none⟩)]⟩) hY h (by simpa using hn) fun v s' w hr h => hk v s' w hr ?_
  have h := fr1_ h
  exact St.setN_same' (i + 1) (E := s' :: E) hi (St.back (i + 1) (E := s' :: E) hi h)
end Go.Proofs.Ytheikjckdnhdhaa
