/- The reading of code as predicates, and its soundness (text Den15). No conditions beyond those its theorems state. -/
import Derived.Test.YtpnbgpolbjbhpaaDen14
set_option linter.all false
namespace Go.Dm
section
variable {P : Program} {D : Tb} {w w' : World} {a : AT} {c cv : Act} {o : Oper} {K : AT → PT} {Q : Exit → Act → World → Prop} {ro : Option Nat} {ops : Array Oper} {sm : Bool}
theorem done_or {S : List (Nat × Oper)} {C : List (Nat × Chk)} {gs : GS} {ms : List Nat} : ∀ (n : Nat) {a : AT}, explore P D ops.toList gs ms n S C a K w → firstAvail D S S = none →
    (S = [] ∧ K a w) ∨ ∃ m, n = m + 1 ∧ S ≠ [] ∧ altsOf ((S.filter fun x => availIn S x.2).map fun x => denG P D ops.toList gs x.1 x.2 a fun a' => doChks P (maskAt ms x.1) C (explore P D ops.toList gs ms m (without S x.1) C a' K)) w
  | 0, a, h, _ => by
    simp only [explore] at h
    cases S with
    | nil => exact .inl ⟨rfl, h⟩
    | cons x S => exact False.elim h
  | n + 1, a, h, hf => by
    simp only [explore, hf] at h
    cases S with
    | nil => exact .inl ⟨rfl, h⟩
    | cons x S => exact .inr ⟨n, rfl, by simp, h⟩
theorem close_think (T : TbOk P D) (B : DrawOk D ops) {N : Nat} {ds : List Deferred} {listed : Array Bool} (hN : ∀ (i : Nat) (o : Oper), ops[i]? = some o → ∀ t, o.dst = some t → t < N) :
    ∀ (n : Nat) (S : List (Nat × Oper)) (C : List (Nat × Chk)) (a : AT) (cv : Act), Inv P D ops N ds listed c w S C a cv → explore P D ops.toList ⟨guardsOf ops.toList, sm⟩ (masks ops.toList []) n S C a K w →
      ∃ n' S' C' a' cv', Inv P D ops N ds listed c w S' C' a' cv' ∧ explore P D ops.toList ⟨guardsOf ops.toList, sm⟩ (masks ops.toList []) n' S' C' a' K w ∧ (firstAvail D S' S' = none)
  | 0, S, C, a, cv, I, h => by
    simp only [explore] at h
    cases S with
    | nil => exact ⟨0, [], C, a, cv, I, h, rfl⟩
    | cons x S => exact False.elim h
  | n + 1, S, C, a, cv, I, h => by
    cases hf : firstAvail D S S with
    | none => exact ⟨n + 1, S, C, a, cv, I, h, hf⟩
    | some x =>
      obtain ⟨i, o⟩ := x
      obtain ⟨h1, h2, h3⟩ := firstAvail_some hf
      simp only [explore, hf] at h
      obtain ⟨a', C', cv', hk, I'⟩ := think_step T B rfl (Kx := fun a' C' => explore P D ops.toList ⟨guardsOf ops.toList, sm⟩ (masks ops.toList []) n (without S i) C' a' K) hN I h1 h2 h3 h
      exact close_think T B hN n _ C' a' cv' I' hk
theorem alts_mem : ∀ {l : List PT} {x : PT}, L.alts l w → x ∈ l → x w
  | y :: l, x, h, hx => by
    cases hx with
    | head => exact h.1
    | tail _ hx => exact alts_mem h.2 hx
theorem altsOf_mem : ∀ {l : List PT} {x : PT}, altsOf l w → x ∈ l → x w
  | [y], x, h, hx => by simp at hx; subst hx; exact h
  | y :: z :: l, x, h, hx => alts_mem h hx
theorem doChks_of {m : Nat} {k : PT} : ∀ {C : List (Nat × Chk)}, doChks P m C k w → k w ∧ ∀ r ch, (r, ch) ∈ C → m.testBit r = false → chkHolds P ch w
  | [], h => ⟨h, fun _ _ h => by cases h⟩
  | (r, ch) :: C, h => by
    simp only [doChks] at h
    split at h
    · rename_i hb
      obtain ⟨h1, h2⟩ := doChks_of h
      refine ⟨h1, fun r' ch' hm hb' => ?_⟩
      cases hm with
      | head => rw [hb] at hb'; cases hb'
      | tail _ hm => exact h2 r' ch' hm hb'
    · cases ch with
      | ld a cs =>
        obtain ⟨h0, h⟩ := h
        obtain ⟨h1, h2⟩ := doChks_of h
        refine ⟨h1, fun r' ch' hm hb' => ?_⟩
        cases hm with
        | head => exact h0
        | tail _ hm => exact h2 r' ch' hm hb'
      | sm s v =>
        obtain ⟨h0, h⟩ := h
        obtain ⟨h1, h2⟩ := doChks_of h
        refine ⟨h1, fun r' ch' hm hb' => ?_⟩
        cases hm with
        | head => exact h0
        | tail _ hm => exact h2 r' ch' hm hb'
/-! ### who is left -/
def leftN (listed : Array Bool) : Nat := listed.toList.countP fun b => !b
theorem leftN_set {listed : Array Bool} {i : Nat} (h : listed.getD i true = false) : leftN (listed.setIfInBounds i true) + 1 = leftN listed := by
  have hlt : i < listed.toList.length := by
    rw [Array.getD_eq_getD_getElem?] at h
    cases hl : listed[i]? with
    | none => rw [hl] at h; cases h
    | some b => have := (Array.getElem?_eq_some_iff.1 hl).1; simpa using this
  have hv : listed.toList[i] = false := by
    have : listed[i]? = some listed.toList[i] := by rw [← Array.getElem?_toList]; exact List.getElem?_eq_getElem hlt
    rw [Array.getD_eq_getD_getElem?, this] at h; simpa using h
  simp only [leftN, Array.toList_setIfInBounds]
  have go : ∀ (l : List Bool) (i : Nat) (hl : i < l.length), l[i] = false → (l.set i true).countP (fun b => !b) + 1 = l.countP fun b => !b := by
    intro l
    induction l with
    | nil => intro i hl; simp at hl
    | cons x l ih =>
      intro i hl hx
      cases i with
      | zero => simp at hx; subst hx; simp
      | succ i =>
        simp only [List.length_cons, Nat.add_lt_add_iff_right] at hl
        simp only [List.getElem_cons_succ] at hx
        have := ih i hl hx
        simp only [List.set_cons_succ, List.countP_cons]
        omega
  exact go _ i hlt hv
theorem leftN_zero {listed : Array Bool} (h : leftN listed = 0) (i : Nat) : listed.getD i true = true := by
  rw [Array.getD_eq_getD_getElem?]
  cases hl : listed[i]? with
  | none => rfl
  | some b =>
    simp only [leftN, List.countP_eq_zero] at h
    have : b ∈ listed.toList := List.mem_of_getElem? (by rw [Array.getElem?_toList]; exact hl)
    have := h b this
    simpa using this
theorem ready_mem {listed : Array Bool} {i : Nat} (h : i ∈ Region.ready .any ops listed) : ∃ o, ops[i]? = some o ∧ listed.getD i true = false ∧ ∀ e ∈ o.after.toList, Region.binds .any e = true → listed.getD e.on false = true := by
  unfold Region.ready at h
  rw [List.mem_filter] at h
  obtain ⟨h1, h2⟩ := h
  simp only [Bool.and_eq_true, Bool.not_eq_true'] at h2
  cases ho : ops[i]? with
  | none => rw [ho] at h2; simp at h2
  | some o =>
    rw [ho] at h2
    refine ⟨o, rfl, h2.1, fun e he hb => ?_⟩
    have h3 := h2.2
    simp only [Option.map_some, Option.getD_some, ← Array.all_toList] at h3
    have := List.all_eq_true.1 h3 e he
    rw [hb] at this; simpa using this
theorem ready_of {listed : Array Bool} {i : Nat} (ho : ops[i]? = some o) (hl : listed.getD i true = false) (he : ∀ e ∈ o.after.toList, Region.binds .any e = true → listed.getD e.on false = true) : i ∈ Region.ready .any ops listed := by
  unfold Region.ready
  rw [List.mem_filter]
  refine ⟨List.mem_range.2 (Array.getElem?_eq_some_iff.1 ho).1, ?_⟩
  simp only [Bool.and_eq_true, Bool.not_eq_true', ho, Option.map_some, Option.getD_some, ← Array.all_toList]
  refine ⟨hl, List.all_eq_true.2 fun e h => ?_⟩
  cases hb : Region.binds .any e with
  | false => rfl
  | true => simpa using he e h hb
/-- nothing is ready: all is done -/
theorem all_listed (B : DrawOk D ops) {listed : Array Bool} (hsz : listed.size = ops.size) (h : Region.ready .any ops listed = []) : ∀ i, listed.getD i true = true := by
  intro i
  induction i using Nat.strongRecOn with
  | _ i ih =>
    cases hl : listed.getD i true with
    | true => rfl
    | false =>
      exfalso
      have hlt : i < ops.size := by
        rw [← hsz]
        rw [Array.getD_eq_getD_getElem?] at hl
        cases hl' : listed[i]? with
        | none => rw [hl'] at hl; cases hl
        | some b => exact (Array.getElem?_eq_some_iff.1 hl').1
      have ho : ops[i]? = some ops[i] := Array.getElem?_eq_getElem hlt
      have := ready_of ho hl fun e he hb => by
        have h1 := B.lt i _ ho e he hb
        have h2 := ih e.on h1
        have h3 : e.on < listed.size := by omega
        rw [Array.getD_eq_getD_getElem?] at h2 ⊢
        rw [Array.getElem?_eq_getElem h3] at h2 ⊢
        exact h2
      rw [h] at this; cases this
theorem setD {listed : Array Bool} {i j : Nat} : (listed.setIfInBounds i true).getD j true = if i = j then true else listed.getD j true := by
  simp only [Array.getD_eq_getD_getElem?, Array.getElem?_setIfInBounds]
  by_cases h : i = j
  · subst h
    simp only [if_true]
    by_cases hlt : i < listed.size <;> simp [hlt]
  · simp [h]
theorem setD_false {listed : Array Bool} {i j : Nat} (h : listed.getD j false = true) : (listed.setIfInBounds i true).getD j false = true := by
  simp only [Array.getD_eq_getD_getElem?, Array.getElem?_setIfInBounds] at *
  by_cases e : i = j
  · subst e
    by_cases hlt : i < listed.size
    · simp [hlt]
    · simp [hlt] at h
  · simpa [e] using h
theorem setD_get {listed : Array Bool} {i j : Nat} (h : (listed.setIfInBounds i true).getD j false = true) : i = j ∨ listed.getD j false = true := by
  simp only [Array.getD_eq_getD_getElem?, Array.getElem?_setIfInBounds] at *
  by_cases e : i = j
  · exact .inl e
  · right; simpa [e] using h
/-- a region that draws its order: whatever it draws -/
theorem explore_ok (T : TbOk P D) (B : DrawOk D ops) {N : Nat} {ds : List Deferred} (hN : ∀ (i : Nat) (o : Oper), ops[i]? = some o → ∀ t, o.dst = some t → t < N) {Fr : Act → Prop} (hFr : ∀ (i : Nat) (o : Oper) c v, ops[i]? = some o → Fr c → Fr (c.put o.dst v)) (hQ : ∀ c w, Fin K N ds c w → Fr c → Q .normal c w) :
    ∀ (f : Nat) (listed : Array Bool) (n : Nat) (S : List (Nat × Oper)) (C : List (Nat × Chk)) (a : AT) (cv c : Act) (w : World), Fr c → leftN listed ≤ f → Inv P D ops N ds listed c w S C a cv →
      explore P D ops.toList ⟨guardsOf ops.toList, sm⟩ (masks ops.toList []) n S C a K w → wpAnyIn (FR ro) 0 P .any ops Q f listed c w := by
  have fin : ∀ (listed : Array Bool) (n : Nat) (S : List (Nat × Oper)) (C : List (Nat × Chk)) (a : AT) (cv c : Act) (w : World), Fr c → Inv P D ops N ds listed c w S C a cv →
      explore P D ops.toList ⟨guardsOf ops.toList, sm⟩ (masks ops.toList []) n S C a K w → (∀ i, listed.getD i true = true) → Q .normal c w := by
    intro listed n S C a cv c w hfr I h hall
    have hS : S = [] := by
      cases S with
      | nil => rfl
      | cons x S =>
        have := (I.mem x (List.mem_cons_self ..)).2
        rw [hall] at this; cases this
    subst hS
    have hk : K a w := by
      rcases done_or n h rfl with ⟨_, h⟩ | ⟨_, _, h, _⟩
      · exact h
      · exact absurd rfl h
    refine hQ c w ⟨a, hk, fun t s ht => ?_, I.szc, I.dfc⟩ hfr
    rw [I.agree t fun i o _ _ hl => by rw [hall] at hl; cases hl]
    exact I.ok t s ht
  intro f
  induction f with
  | zero =>
    intro listed n S C a cv c w hfr hf I h
    have hall := leftN_zero (Nat.le_zero.1 hf)
    refine ⟨?_, fin listed n S C a cv c w hfr I h hall⟩
    cases hr : Region.ready .any ops listed with
    | nil => rfl
    | cons i r =>
      obtain ⟨o, _, hl, _⟩ := ready_mem (ops := ops) (listed := listed) (i := i) (by rw [hr]; exact List.mem_cons_self ..)
      rw [hall] at hl; cases hl
  | succ f ih =>
    intro listed n S C a cv c w hfr hf I h
    refine ⟨fun hr => fin listed n S C a cv c w hfr I h (all_listed B I.size hr), fun i hi => ?_⟩
    obtain ⟨o, ho, hl, hed⟩ := ready_mem hi
    have hcnt : leftN (listed.setIfInBounds i true) ≤ f := by have := leftN_set hl; omega
    have hd : Dst o c := fun t ht => by rw [I.szc]; exact hN i o ho t ht
    obtain ⟨n', S', C', a', cv', I', h', hfa⟩ := close_think T B hN n S C a cv I h
    clear I h
    have hdv : Dst o cv' := fun t ht => by rw [I'.szv]; exact hN i o ho t ht
    have hancL : ∀ r, (maskAt (masks ops.toList []) i).testBit r = true → listed.getD r true = false → False := by
      intro r hr hlr
      have := I'.ancL (i := i) (fun u hu e he hb => by rw [ho] at hu; cases hu; exact hed e he hb) hr
      rw [getD_true hlr] at this; cases this
    have hreads : ∀ t ∈ readsOf ops.toList o, c.tmps[t]? = cv'.tmps[t]? := by
      intro t ht
      refine I'.agree t fun j u hu hjS hjl hdst => ?_
      obtain ⟨hkj, _⟩ := I'.pend j u hu hjS hjl
      by_cases hij : i = j
      · subst hij
        rw [ho] at hu; cases hu
        exact B.own i o t ho hdst hkj ht
      · exact hancL j ((B.low j u t i o hu hdst ho (fun e => hij e.symm) hkj).1 ht) hjl
    have newL : ∀ {j : Nat}, (listed.setIfInBounds i true).getD j true = false → j ≠ i ∧ listed.getD j true = false := by
      intro j hj
      rw [setD] at hj
      by_cases e : i = j
      · rw [if_pos e] at hj; cases hj
      · rw [if_neg e] at hj; exact ⟨fun h => e h.symm, hj⟩
    have closL' : ∀ (j : Nat) (u : Oper), ops[j]? = some u → (listed.setIfInBounds i true).getD j false = true → ∀ e ∈ u.after.toList, Region.binds .any e = true → (listed.setIfInBounds i true).getD e.on false = true := by
      intro j u hu hj e he hb
      rcases setD_get hj with e1 | hj
      · subst e1
        rw [ho] at hu; cases hu
        exact setD_false (hed e he hb)
      · exact setD_false (I'.closL j u hu hj e he hb)
    unfold wpOpIn
    simp only [ho]
    by_cases hiS : ∀ x ∈ S', x.1 ≠ i
    · -- done in thought before
      obtain ⟨hki, hp⟩ := I'.pend i o ho hiS hl
      have step : ∀ v, (∀ d, o.dst = some d → cv'.tmps[d]? = some v) → wpAnyIn (FR ro) 0 P .any ops Q f (listed.setIfInBounds i true) (c.put o.dst v) w := by
        intro v hv
        refine ih _ n' S' C' a' cv' _ w (hFr i o c v ho hfr) hcnt ⟨fun x hx => ?_, by simp [I'.size], closL', I'.closV, I'.ok, by simp [I'.szc], I'.szv, by simp [I'.dfc], I'.dfv, fun j u hu hj hjl => I'.pend j u hu hj (newL hjl).2, fun j ch hc hjl => I'.chk j ch hc (newL hjl).2, fun t ht => ?_⟩ h'
        · have := I'.mem x hx
          refine ⟨this.1, ?_⟩
          rw [setD, if_neg (fun e => hiS x hx e.symm)]; exact this.2
        · by_cases e : o.dst = some t
          · rw [put_get_eq e (hd t e), hv t e]
          · rw [put_get_ne (d := 0) e]
            refine I'.agree t fun j u hu hj hjl hdst => ?_
            by_cases hij : i = j
            · subst hij; rw [ho] at hu; cases hu; exact e hdst
            · exact ht j u hu hj (by rw [setD, if_neg hij]; exact hjl) hdst
      rcases hp w (fun ch hc => I'.chk i ch hc hl) c hreads with ⟨hw, v, hr, hv⟩ | ⟨hw, hv⟩
      · rw [if_pos hw]
        exact wpIn_of_opOk (B.nd i o ho).1 (.inl ⟨v, w, hr, step v hv⟩)
      · rw [if_neg (by simp [hw])]
        exact ⟨fun _ _ => trivial, step undef hv⟩
    · -- it is its turn
      have hmem : (i, o) ∈ S' := by
        have : ∃ x ∈ S', x.1 = i := Classical.byContradiction fun hn => hiS fun x hx e => hn ⟨x, hx, e⟩
        obtain ⟨x, hx, hxi⟩ := this
        have h1 := (I'.mem x hx).1
        obtain ⟨x1, x2⟩ := x
        simp only at hxi h1
        subst hxi
        rw [ho] at h1; cases h1; exact hx
      have hav : availIn S' o = true := availIn_iff.2 fun e he hb x hx hxe => by
        have h1 := (I'.mem x hx).2
        have h2 := hed e he hb
        rw [hxe] at h1
        rw [getD_true h1] at h2; cases h2
      have hki := firstAvail_none hfa (i, o) hmem hav
      rcases done_or n' h' hfa with ⟨hS, _⟩ | ⟨m, _, _, halt⟩
      · rw [hS] at hmem; cases hmem
      have hden := altsOf_mem halt (List.mem_map.2 ⟨(i, o), List.mem_filter.2 ⟨hmem, hav⟩, rfl⟩)
      dsimp only at hden
      have step : ∀ v w', Nx (fun a'' => doChks P (maskAt (masks ops.toList []) i) C' (explore P D ops.toList ⟨guardsOf ops.toList, sm⟩ (masks ops.toList []) m (without S' i) C' a'' K)) cv' (cv'.put o.dst v) w' →
          wpAnyIn (FR ro) 0 P .any ops Q f (listed.setIfInBounds i true) (c.put o.dst v) w' := by
        rintro v w' ⟨a'', hk, hok, -, -⟩
        obtain ⟨hk, hch⟩ := doChks_of hk
        have back : ∀ {j : Nat}, j ≠ i → (∀ x ∈ without S' i, x.1 ≠ j) → ∀ x ∈ S', x.1 ≠ j := fun hji hj x hx e => hj x (mem_without.2 ⟨hx, fun e2 => hji (e.symm.trans e2)⟩) e
        have nanc : ∀ {j : Nat} {u : Oper}, ops[j]? = some u → (∀ x ∈ S', x.1 ≠ j) → (maskAt (masks ops.toList []) j).testBit i = true → False := fun hu hj hm =>
          I'.anc hu hj hm _ hmem rfl
        refine ih _ m (without S' i) C' a'' (cv'.put o.dst v) _ w' (hFr i o c v ho hfr) hcnt ⟨fun x hx => ?_, by simp [I'.size], closL', ?_, hok, by simp [I'.szc], by simp [I'.szv], by simp [I'.dfc], by simp [I'.dfv], ?_, ?_, ?_⟩ hk
        · obtain ⟨hx, hxi⟩ := mem_without.1 hx
          have := I'.mem x hx
          refine ⟨this.1, ?_⟩
          rw [setD, if_neg (fun e => hxi e.symm)]; exact this.2
        · intro j u hu hj e he hb x hx
          by_cases hji : j = i
          · subst hji; rw [ho] at hu; cases hu
            exact availIn_iff.1 hav e he hb x (mem_without.1 hx).1
          · exact I'.closV j u hu (back hji hj) e he hb x (mem_without.1 hx).1
        · intro j u hu hj hjl
          obtain ⟨hji, hjl⟩ := newL hjl
          have hjS := back hji hj
          obtain ⟨hkj, hpj⟩ := I'.pend j u hu hjS hjl
          refine ⟨hkj, fun w1 hc1 c1 hr1 => ?_⟩
          have hreads1 : ∀ t ∈ readsOf ops.toList u, c1.tmps[t]? = cv'.tmps[t]? := by
            intro t ht
            rw [hr1 t ht]
            refine put_get_ne (d := 0) fun e => ?_
            rcases B.high i o t j u ho e hu (fun e => hji e.symm) hki ht with hm | hm
            · exact nanc hu hjS hm
            · exact hancL j hm hjl
          have hdst : ∀ d, u.dst = some d → (cv'.put o.dst v).tmps[d]? = cv'.tmps[d]? := fun d hdd => put_get_ne (d := 0) fun e =>
            (B.low j u d i o hu hdd ho hji hkj).2 e
          rcases hpj w1 hc1 c1 hreads1 with ⟨hw, y, hr, hy⟩ | ⟨hw, hy⟩
          · exact .inl ⟨hw, y, hr, fun d hdd => by rw [hdst d hdd]; exact hy d hdd⟩
          · exact .inr ⟨hw, fun d hdd => by rw [hdst d hdd]; exact hy d hdd⟩
        · intro j ch hc hjl
          obtain ⟨hji, hjl⟩ := newL hjl
          refine hch j ch hc ?_
          cases hm : (maskAt (masks ops.toList []) i).testBit j with
          | false => rfl
          | true => exact (hancL j hm hjl).elim
        · intro t ht
          by_cases e : o.dst = some t
          · rw [put_get_eq e (hd t e), put_get_eq e (hdv t e)]
          · rw [put_get_ne (d := 0) e, put_get_ne (d := 0) e]
            refine I'.agree t fun j u hu hj hjl hdst => ?_
            have hji : j ≠ i := fun e2 => hj _ hmem e2.symm
            exact ht j u hu (fun x hx => hj x (mem_without.1 hx).1) (by rw [setD, if_neg (fun e => hji e.symm)]; exact hjl) hdst
      rcases denG_ok T I'.ok hdv hden with ⟨hw, hnd, hop⟩ | ⟨hw, hn⟩
      · rw [wanted_agree (ops := ops) (fun t ht => (hreads t ht))]
        rw [if_pos hw]
        exact wpIn_of_opOk hnd (hop.turn (eval_agree (B.nd i o ho).2 hreads) fun v w' hv => step v w' hv)
      · rw [wanted_agree (ops := ops) (fun t ht => (hreads t ht))]
        rw [if_neg (by simp [hw])]
        exact ⟨fun _ _ => trivial, step undef w hn⟩
end
end Go.Dm
