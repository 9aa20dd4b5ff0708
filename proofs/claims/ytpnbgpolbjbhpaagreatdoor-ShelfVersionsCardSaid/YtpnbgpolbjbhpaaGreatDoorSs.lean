/- Contracts of functions, and walks of laws (text Ss). No conditions beyond those its theorems state. -/
import Derived.Test.YtpnbgpolbjbhpaaGreatDoorBa
import Derived.Test.YtpnbgpolbjbhpaaGreatDoorSepB
import Derived.Test.YtpnbgpolbjbhpaaGreatDoorLs
set_option linter.all false
namespace Go.Proofs.YtpnbgpolbjbhpaaGreatDoor
open Go.Dm
attribute [local irreducible] L.load L.store L.chk L.new L.nonnil L.guard L.ite L.draw L.idx L.sem L.semR L.semU L.chkSem L.next L.call L.callV L.join L.alts L.loop L.begin L.endRound L.range
variable {w0 w : World} {E : List Seg}
/-! ### rows of strings, and the library at strings -/
def eS (x : ByteArray) : List Value := [.string x]
theorem encS : Enc eS 1 := ⟨fun _ => rfl, fun _ => rfl, by decide⟩
theorem elS : El Pr T_s_string T_string 1 16 (.string s_) := el_of (by kernel_rfl) (by kernel_rfl) rfl (by decide)
abbrev bl (x : ByteArray) : List UInt8 := x.data.toList
def ble (a b : ByteArray) : Bool := decide (bl a ≤ bl b)
theorem ble_trans (a b c : ByteArray) (h1 : ble a b = true) (h2 : ble b c = true) : ble a c = true := by
  unfold ble at *; simp only [decide_eq_true_eq] at *; exact List.le_trans h1 h2
theorem ble_total (a b : ByteArray) : (ble a b || ble b a) = true := by
  unfold ble; simp only [Bool.or_eq_true, decide_eq_true_eq]; exact List.le_total ..
theorem ble_anti {a b : ByteArray} (h1 : ble a b = true) (h2 : ble b a = true) : a = b := by
  unfold ble at *; simp only [decide_eq_true_eq] at *; exact str_inj (List.le_antisymm h1 h2)
def ssort (l : List ByteArray) : List ByteArray := l.mergeSort ble
theorem ssort_perm (l : List ByteArray) : (ssort l).Perm l := List.mergeSort_perm ..
theorem ssort_pw (l : List ByteArray) : (ssort l).Pairwise fun a b => ble a b = true := List.pairwise_mergeSort ble_trans ble_total l
theorem ssort_of {l m : List ByteArray} (h : l.Perm m) (hm : m.Pairwise fun a b => ble a b = true) : ssort l = m :=
  List.Perm.eq_of_pairwise (fun a b _ _ h1 h2 => ble_anti h1 h2) (ssort_pw l) hm ((ssort_perm l).trans h)
theorem ssort_eq {l m : List ByteArray} (h : l.Perm m) : ssort l = ssort m := ssort_of (h.trans (ssort_perm m).symm) (ssort_pw m)
theorem ssort_len (l : List ByteArray) : (ssort l).length = l.length := (ssort_perm l).length_eq
theorem ssort_mem {l : List ByteArray} {x : ByteArray} : x ∈ ssort l ↔ x ∈ l := (ssort_perm l).mem_iff
theorem ssort_nil : ssort [] = [] := ssort_of (.refl _) .nil
theorem ssort_one (x : ByteArray) : ssort [x] = [x] := ssort_of (.refl _) (List.pairwise_singleton ..)
/-- the same cells -/
def eL (x : List UInt8) : List Value := [Go.Proofs.encStr x]
theorem encL : Enc eL 1 := ⟨fun _ => rfl, fun _ => rfl, by decide⟩
theorem fl_SL (l : List ByteArray) : fl eS l = fl eL (l.map bl) := by
  induction l with
  | nil => rfl
  | cons x l ih =>
    simp only [fl, List.flatMap_cons, List.map_cons] at *
    rw [ih]; rfl
theorem ssort_bl (l : List ByteArray) : (ssort l).map bl = (l.map bl).mergeSort fun x y => decide (x ≤ y) :=
  List.map_mergeSort fun a _ b _ => rfl
theorem S_SortS (h : St w0 E w) (i : Nat) {s : Seg} (hi : nth E i = some s) {v : Sl} {l : List ByteArray} (hr : Rw eS T_string 1 v l s) (hn : l.length < 1000000000) {k : Unit → PT} (hk : ∀ s' w', Rw eS T_string 1 v (ssort l) s' → St w0 (setN E i s') w' → k () w') :
    L.call Pr n_slices_Sort_string_string [.slice v.a v.len v.cap] (.tup []) k w := by
  have hr : Rw eL T_string 1 v (l.map bl) s := by unfold Rw at *; rwa [← fl_SL]
  refine sort_of (encv := Go.Proofs.encStr) (fun _ => rfl) encL ((ssort l).map bl) (by rw [List.length_map, List.length_map, ssort_len]) (fun g off cap w h1 h2 => ?_) (fun p cap w => Any.slices_Sort_string_none Tryz.lays190 p cap w) h i hi hr (fun s' w' hr' h => hk s' w' (by unfold Rw at *; rwa [fl_SL]) h)
  have := Any.slices_Sort_string Tryz.lays190 g off cap (l.map bl) w h1 h2 (by rw [List.length_map]; omega)
  rw [ssort_bl]; exact this
theorem S_AppendSeqS {a1 a2 : Seg} {F : List Seg} {fv : FV} {keys : List ByteArray} (hY : YldM Pr w0 [a1, a2] fv.val keys Value.string) (h : St w0 (a1 :: a2 :: F) w) (hn : keys.length < 1000000000) {k : Sl → PT}
    (hk : ∀ seen v s w', seen.Perm keys → Rw eS T_string 1 v seen s → St w0 (s :: a1 :: a2 :: F) w' → k v w') : L.call Pr n_slices_AppendSeq_string_string [.slice none 0 0, fv.val] (.one (.one .slice)) k w := by
  refine call_of (C_slices_AppendSeq_string_string ⟨none, 0, 0⟩ fv) ?_
  unfold F_slices_AppendSeq_string_string
  refine nw h ?_; clear h; (try clear w); intro b1 w h
  have h := fr2_ (fr2_ h)
  have h : St w0 ([a1, a2] ++ [Cl b1 T_s_string [SlV ⟨none, 0, 0⟩]] :: [] :: F) w := h.eq (by simp)
  refine range_ofM (l := .str) (arg := fun x => x) (A := [a1, a2]) (keys := keys) hY h (fun seen G => ∃ v s, G = [Cl b1 T_s_string [SlV v]] :: s :: F ∧ Rw eS T_string 1 v seen s) (fun j G => False) ⟨_, _, rfl, Rw.nil⟩ ?_ ?_ ?_
  · rintro seen x G X w lv lp d R hm ⟨v, s, rfl, hr⟩ h hN hE
    have h : St w0 ([Rec lv lp .busy none] :: [DfM d] :: a1 :: a2 :: [Cl b1 T_s_string [SlV v]] :: s :: (F ++ X)) w := h
    ((try dsimp only [setN] at h); repeat (first | refine nn ?_ | (refine dr h ?_; clear h; (try clear w); intro w h) | refine ldC h ?_ | refine laC h ?_ | refine ckC h ?_ | (refine stC h ?_; clear h; (try clear w); intro w h; (try dsimp only [putN, setN] at h))))
    refine nw h ?_; clear h; (try clear w); intro b8 w h
    refine Rw.app encS elS h 5 rfl hr x rfl (by omega) (by omega) fun v' s' w hr' h => ?_
    ((try dsimp only [setN] at h); repeat (first | refine nn ?_ | (refine dr h ?_; clear h; (try clear w); intro w h) | refine ldC h ?_ | refine laC h ?_ | refine ckC h ?_ | (refine stC h ?_; clear h; (try clear w); intro w h; (try dsimp only [putN, setN] at h))))
    exact hN _ w ⟨v', s', rfl, hr'⟩ h
  · rintro d seen G w hp ⟨v, s, rfl, hr⟩ h
    have h : St w0 ([DfM d] :: a1 :: a2 :: [Cl b1 T_s_string [SlV v]] :: s :: F) w := h
    refine jumpN ?_
    ((try dsimp only [setN] at h); repeat (first | refine nn ?_ | (refine dr h ?_; clear h; (try clear w); intro w h) | refine ldC h ?_ | refine laC h ?_ | refine ckC h ?_ | (refine stC h ?_; clear h; (try clear w); intro w h; (try dsimp only [putN, setN] at h))))
    (first | refine um0_ h ?_ | refine um1_ h ?_ | refine um2_ h ?_ | refine um3_ h ?_ | refine um4_ h ?_ | refine um5_ h ?_ | refine um6_ h ?_ | refine um7_ h ?_ | refine um8_ h ?_ | refine um9_ h ?_ | refine um10_ h ?_ | refine um11_ h ?_); clear h; (try clear w); intro w h
    refine ⟨v, rfl, hk seen v s w hp hr ?_⟩
    have h := fr3_ (fr1_ (fr1_ h))
    have h := dl3_ h
    exact h
  · rintro d j G w hf; exact hf.elim
theorem S_SortedKeysS {a1 a2 : Seg} {F : List Seg} {fv : FV} {keys : List ByteArray} (hY : YldM Pr w0 [a1, a2] fv.val keys Value.string) (h : St w0 (a1 :: a2 :: F) w) (hn : keys.length < 1000000000) {k : Sl → PT}
    (hk : ∀ v s w', Rw eS T_string 1 v (ssort keys) s → St w0 (s :: a2 :: F) w' → k v w') : L.call Pr n_slices_Sorted_string [fv.val] (.one (.one .slice)) k w := by
  refine call_of (C_slices_Sorted_string fv) ?_
  unfold F_slices_Sorted_string
  refine call_of (C_slices_Collect_string fv) ?_
  unfold F_slices_Collect_string
  refine S_AppendSeqS hY h hn fun seen v s w hp hr h => ⟨v, rfl, ?_⟩
  refine S_SortS h 0 rfl hr (by rw [hp.length_eq]; exact hn) fun s w hr h => ?_
  rw [ssort_eq hp] at hr
  exact ⟨v, rfl, hk v s w hr (dl1_ h)⟩
/-- slices.Clone -/
theorem S_CloneS (h : St w0 E w) {v : Sl} {l : List ByteArray} (r : Rd w eS v l) (hn : l.length < 1000000000) (h0 : v.a = none → l = []) {k : Sl → PT}
    (hk : ∀ v' s' w', Rw eS T_string 1 v' l s' → (v'.a = none ↔ v.a = none) → St w0 (s' :: E) w' → k v' w') : L.call Pr n_slices_Clone_string_string [SlV v] (.one (.one .slice)) k w := by
  refine call_of (C_slices_Clone_string_string v) ?_
  unfold F_slices_Clone_string_string
  exact clone_of (K := fun v w' => ∃ x, v = RT.val (.one (.one .slice)) x ∧ k x w') encS elS h r (by omega) (by omega) h0 fun v' s' w' hr hi h => ⟨v', rfl, hk v' s' w' hr hi h⟩
theorem Rw.nil0 {α : Type} {enc : α → List Value} {e size : Nat} {v : Sl} {l : List α} {s : Seg} (hE : Enc enc size) (hr : Rw enc e size v l s) : v.a = none → l = [] := by
  intro h0
  have hl := Rw.len hE hr
  unfold Rw at hr
  generalize fl enc l = xs at hr
  cases hr with
  | nil => exact List.eq_nil_of_length_eq_zero hl.symm
  | mk => cases h0
def unS : Value → ByteArray
  | .string x => x
  | _ => s_
end Go.Proofs.YtpnbgpolbjbhpaaGreatDoor
