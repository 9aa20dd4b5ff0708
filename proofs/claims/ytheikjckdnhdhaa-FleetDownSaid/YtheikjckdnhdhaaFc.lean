/- Contracts of functions, and walks of laws (text Fc). No conditions beyond those its theorems state. -/
import Derived.Test.YtheikjckdnhdhaaFb
set_option linter.all false
namespace Go.Proofs.Ytheikjckdnhdhaa
open Go.Dm
attribute [local irreducible] L.load L.store L.chk L.new L.nonnil L.guard L.ite L.draw L.idx L.sem L.semR L.semU L.chkSem L.next L.call L.callV L.join L.alts L.loop L.begin L.endRound L.range
variable {w0 w : World} {E : List Seg}
/-! ### what becomes of one pod -/
def fUpd (l : List AHeld) (id : Int) (g : APod → APod) : List AHeld := l.filterMap fun x => if x.id = id then (if (g x.pod).st = 4 then none else some { x with pod := g x.pod }) else some x
theorem fUpd_other {l : List AHeld} {id : Int} {g : APod → APod} (h : ∀ y ∈ l, y.id ≠ id) : fUpd l id g = l := by
  unfold fUpd
  induction l with
  | nil => rfl
  | cons y l ih =>
    rw [List.filterMap_cons, if_neg (h y (by simp))]
    simp only
    rw [ih fun z hz => h z (by simp [hz])]
theorem fUpd_at {A B : List AHeld} {x : AHeld} {g : APod → APod} (h : (A ++ x :: B).Pairwise (fun x y => x.id < y.id)) : fUpd (A ++ x :: B) x.id g = A ++ ((if (g x.pod).st = 4 then [] else [{ x with pod := g x.pod }]) ++ B) := by
  rw [List.pairwise_append, List.pairwise_cons] at h
  have hA : fUpd A x.id g = A := fUpd_other fun y hy => by have := h.2.2 y hy x (by simp); omega
  have hB : fUpd B x.id g = B := fUpd_other fun y hy => by have := h.2.1.1 y hy; omega
  unfold fUpd at *
  rw [List.filterMap_append, hA, List.filterMap_cons, if_pos rfl]
  congr 1
  split <;> rename_i hc
  · split at hc
    · rename_i h4; rw [if_pos h4, hB]; rfl
    · cases hc
  · split at hc
    · cases hc
    · rename_i h4; cases hc; rw [if_neg h4, hB]; rfl
theorem fFind_some {l : List AHeld} {id : Int} {x : AHeld} (h : fFind l id = some x) : x ∈ l ∧ x.id = id := ⟨List.mem_of_find?_eq_some h, by simpa using List.find?_some h⟩
theorem fFind_of {l : List AHeld} (pw : l.Pairwise (fun x y => x.id < y.id)) {x : AHeld} (hx : x ∈ l) : fFind l x.id = some x := by
  unfold fFind
  induction l with
  | nil => simp at hx
  | cons y l ih =>
    rw [List.pairwise_cons] at pw
    rcases List.mem_cons.1 hx with rfl | hx
    · simp
    · have := pw.1 x hx
      rw [List.find?_cons_of_neg (by simp; omega)]
      exact ih pw.2 hx
theorem fWhere_none {l : List AHeld} {q : Int} (h : fWhere l q = none) : ∀ x ∈ l, q ∉ x.pod.reqs := fun x hx => by simpa using List.find?_eq_none.1 h x hx
theorem AFleet.Ok.upd {F : AFleet} (ok : F.Ok) {id : Int} {x : AHeld} (hx : fFind F.l id = some x) (g : APod → APod) (hst : (g x.pod).st = 1 ∨ (g x.pod).st = 2 ∨ (g x.pod).st = 3 ∨ (g x.pod).st = 4)
    (hq : ∀ q ∈ (g x.pod).reqs, q ∈ x.pod.reqs ∨ fWhere F.l q = none) : ({ F with l := fUpd F.l id g } : AFleet).Ok := by
  obtain ⟨hm, rfl⟩ := fFind_some hx
  obtain ⟨A, B, hl⟩ := List.append_of_mem hm
  have pw := ok.pw
  have rng := ok.rng
  have live := ok.live
  have once := ok.once
  have few := ok.few
  have hno : ∀ q, fWhere F.l q = none → ∀ y ∈ A ++ x :: B, q ∉ y.pod.reqs := fun q h => by rw [hl] at h; exact fWhere_none h
  rw [hl] at pw rng live once few
  have e : fUpd F.l x.id g = A ++ ((if (g x.pod).st = 4 then [] else [{ x with pod := g x.pod }]) ++ B) := by rw [hl]; exact fUpd_at pw
  by_cases h4 : (g x.pod).st = 4
  · rw [if_pos h4, List.nil_append] at e
    have hs : (A ++ B).Sublist (A ++ x :: B) := List.Sublist.append (List.Sublist.refl _) (List.sublist_cons_self ..)
    refine ⟨?_, ?_, ?_, ?_, ?_, ok.lo, ok.hi⟩
    · rw [show ({ F with l := fUpd F.l x.id g } : AFleet).l = A ++ B from e]; exact pw.sublist hs
    · rw [show ({ F with l := fUpd F.l x.id g } : AFleet).l = A ++ B from e]; exact fun y hy => rng y (hs.subset hy)
    · rw [show ({ F with l := fUpd F.l x.id g } : AFleet).l = A ++ B from e]; exact fun y hy => live y (hs.subset hy)
    · rw [show ({ F with l := fUpd F.l x.id g } : AFleet).l = A ++ B from e]; exact once.sublist hs
    · rw [show ({ F with l := fUpd F.l x.id g } : AFleet).l = A ++ B from e]; exact Nat.lt_of_le_of_lt hs.length_le few
  · rw [if_neg h4, List.singleton_append] at e
    have e : ({ F with l := fUpd F.l x.id g } : AFleet).l = A ++ { x with pod := g x.pod } :: B := e
    refine ⟨?_, ?_, ?_, ?_, ?_, ok.lo, ok.hi⟩
    · rw [e]; rw [List.pairwise_append, List.pairwise_cons] at pw ⊢
      exact ⟨pw.1, pw.2.1, fun a ha b hb => by
        rcases List.mem_cons.1 hb with rfl | hb
        · exact pw.2.2 a ha x (by simp)
        · exact pw.2.2 a ha b (by simp [hb])⟩
    · rw [e]; intro y hy
      rcases List.mem_append.1 hy with hy | hy
      · exact rng y (by simp [hy])
      · rcases List.mem_cons.1 hy with rfl | hy
        · exact rng x (by simp)
        · exact rng y (by simp [hy])
    · rw [e]; intro y hy
      rcases List.mem_append.1 hy with hy | hy
      · exact live y (by simp [hy])
      · rcases List.mem_cons.1 hy with rfl | hy
        · simp only; omega
        · exact live y (by simp [hy])
    · rw [e]; rw [List.pairwise_append, List.pairwise_cons] at once ⊢
      refine ⟨once.1, ⟨fun b hb q hq1 hq2 => ?_, once.2.1.2⟩, fun a ha b hb q hq1 hq2 => ?_⟩
      · rcases hq q hq1 with h | h
        · exact once.2.1.1 b hb q h hq2
        · exact hno q h b (by simp [hb]) hq2
      · rcases List.mem_cons.1 hb with rfl | hb
        · rcases hq q hq2 with h | h
          · exact once.2.2 a ha x (by simp) q hq1 h
          · exact hno q h a (by simp [ha]) hq1
        · exact once.2.2 a ha b (by simp [hb]) q hq1 hq2
    · rw [e]; simp only [List.length_append, List.length_cons] at few ⊢; exact few
theorem mdel_all : ∀ {m : List (Int × (ByteArray × Option Addr))} {k : Int}, (m.map (·.1)).Nodup → mdel m k = m.filter fun p => decide (p.1 ≠ k)
  | [], k, _ => rfl
  | p :: m, k, h => by
    rw [List.map_cons, List.nodup_cons] at h
    simp only [mdel]
    by_cases e : p.1 = k
    · rw [if_pos e, List.filter_cons_of_neg (by simp [e])]
      symm
      rw [List.filter_eq_self]
      intro y hy
      have : y.1 ≠ k := fun e2 => h.1 (by rw [e, ← e2]; exact List.mem_map_of_mem (f := (·.1)) hy)
      simpa using this
    · rw [if_neg e, List.filter_cons_of_pos (by simpa using e), mdel_all h.2]
theorem FlR.upd {F : AFleet} {A B : List Tr} {t : Tr} {mA mW mW'} (hr : FlR F (A ++ t :: B) mA mW) (ok : F.Ok) (g : APod → APod) {s' : Seg} (hp : PodS t.2.1 (g t.1.pod) s') (h4 : (g t.1.pod).st ≠ 4)
    (hW : ∀ q, mget mW' q = (fWhere (fUpd F.l t.1.id g) q).map (·.id)) : FlR { F with l := fUpd F.l t.1.id g } (A ++ ({ t.1 with pod := g t.1.pod }, t.2.1, s') :: B) mA mW' := by
  have pw := ok.pw
  rw [hr.l, List.map_append, List.map_cons] at pw
  refine ⟨?_, ?_, ?_, hW⟩
  · show fUpd F.l t.1.id g = _
    rw [hr.l, List.map_append, List.map_cons, fUpd_at pw, if_neg h4]
    simp
  · intro y hy
    rcases List.mem_append.1 hy with hy | hy
    · exact hr.ps y (by simp [hy])
    · rcases List.mem_cons.1 hy with rfl | hy
      · exact hp
      · exact hr.ps y (by simp [hy])
  · have := hr.all
    simp only [List.map_append, List.map_cons] at this ⊢
    exact this
theorem FlR.del {F : AFleet} {A B : List Tr} {t : Tr} {mA mW mW'} (hr : FlR F (A ++ t :: B) mA mW) (ok : F.Ok) (g : APod → APod) (h4 : (g t.1.pod).st = 4)
    (hW : ∀ q, mget mW' q = (fWhere (fUpd F.l t.1.id g) q).map (·.id)) : FlR { F with l := fUpd F.l t.1.id g } (A ++ B) (mdel mA t.1.id) mW' := by
  have pw := ok.pw
  have ids := hr.ids ok
  rw [hr.l, List.map_append, List.map_cons] at pw
  refine ⟨?_, ?_, ?_, hW⟩
  · show fUpd F.l t.1.id g = _
    rw [hr.l, List.map_append, List.map_cons, fUpd_at pw, if_pos h4]
    simp
  · intro y hy
    rcases List.mem_append.1 hy with hy | hy
    · exact hr.ps y (by simp [hy])
    · exact hr.ps y (by simp [hy])
  · rw [mdel_all (hr.nd ok)]
    refine (hr.all.filter _).trans ?_
    rw [List.pairwise_append, List.pairwise_cons] at ids
    rw [List.map_append, List.map_cons, List.filter_append, List.filter_cons_of_neg (by simp [ent]), List.map_append]
    have fa : ∀ {l : List Tr}, (∀ y ∈ l, y.1.id ≠ t.1.id) → (l.map ent).filter (fun p => decide (p.1 ≠ t.1.id)) = l.map ent := fun {l} h => by
      rw [List.filter_eq_self]
      intro p hp
      obtain ⟨y, hy, rfl⟩ := List.mem_map.1 hp
      exact decide_eq_true (h y hy)
    rw [fa (fun y hy => by have := ids.2.2 y hy t (by simp); omega), fa (fun y hy => by have := ids.2.1.1 y hy; omega)]
theorem fWhere_upd {l : List AHeld} (pw : l.Pairwise (fun x y => x.id < y.id)) {x : AHeld} (hx : x ∈ l) {g : APod → APod} (hrq : (g x.pod).reqs = x.pod.reqs) (h4 : (g x.pod).st = 4 → x.pod.reqs = []) (q : Int) :
    (fWhere (fUpd l x.id g) q).map (·.id) = (fWhere l q).map (·.id) := by
  obtain ⟨A, B, rfl⟩ := List.append_of_mem hx
  rw [fUpd_at pw]
  unfold fWhere
  simp only [List.find?_append]
  cases List.find? (fun x => decide (q ∈ x.pod.reqs)) A with
  | some y => rfl
  | none =>
    simp only [Option.none_or]
    by_cases h : (g x.pod).st = 4
    · rw [if_pos h, List.find?_nil, Option.none_or, List.find?_cons_of_neg (by simp [h4 h])]
    · rw [if_neg h]
      by_cases hq : q ∈ x.pod.reqs
      · rw [List.find?_cons_of_pos (by simp [hrq, hq]), List.find?_cons_of_pos (by simp [hq])]; rfl
      · rw [List.find?_cons_of_neg (by simp [hrq, hq]), List.find?_cons_of_neg (by simp [hq]), List.find?_nil, Option.none_or]
/-- 'end', of a fleet whose parts lie open -/
theorem S_fend {b rA rW : Nat} {F : AFleet} {A B : List Tr} {t : Tr} {mA : List (Int × (ByteArray × Option Addr))} {sA sW : Seg} {D : List Seg} {rev : ByteArray} (h : St w0 (flB b rA rW F :: sA :: sW :: ((A ++ t :: B).map trS).flatten :: D) w)
    (hA : MpS KI vOne rA mA sA) (hg : mget mA t.1.id = some (rev, some ⟨t.2.1, 0, none⟩)) (hp : PodS t.2.1 t.1.pod t.2.2) {k : Unit → PT} (hk1 : t.1.pod.st ≠ 4 → k () w)
    (hk2 : t.1.pod.st = 4 → ∀ sA' w', MpS KI vOne rA (mdel mA t.1.id) sA' → St w0 (flB b rA rW F :: sA' :: sW :: ((A ++ B).map trS).flatten :: D) w' → k () w') :
    L.call Pr n_fleet_Fleet_end [.pointer (some ⟨b, 0, none⟩), I t.1.id] (.tup []) k w := by
  refine call_of (C_fleet_Fleet_end _ _) ?_
  unfold F_fleet_Fleet_end
  (repeat (first | refine nn ?_ | (refine dr h ?_; clear h; (try clear w); intro w h) | refine ld0_ h rfl rfl ?_ | refine ld1_ h rfl rfl ?_ | refine ld2_ h rfl rfl ?_ | refine ld3_ h rfl rfl ?_ | refine ld4_ h rfl rfl ?_ | refine ld5_ h rfl rfl ?_ | refine ld6_ h rfl rfl ?_ | refine ld7_ h rfl rfl ?_ | refine ld8_ h rfl rfl ?_ | refine ld9_ h rfl rfl ?_ | refine ld10_ h rfl rfl ?_ | refine ld11_ h rfl rfl ?_ | refine la0_ h rfl ?_ | refine la1_ h rfl ?_ | refine la2_ h rfl ?_ | refine la3_ h rfl ?_ | refine la4_ h rfl ?_ | refine la5_ h rfl ?_ | refine la6_ h rfl ?_ | refine la7_ h rfl ?_ | refine la8_ h rfl ?_ | refine la9_ h rfl ?_ | refine la10_ h rfl ?_ | refine la11_ h rfl ?_ | refine ck0_ h rfl ?_ | refine ck1_ h rfl ?_ | refine ck2_ h rfl ?_ | refine ck3_ h rfl ?_ | refine ck4_ h rfl ?_ | refine ck5_ h rfl ?_ | refine ck6_ h rfl ?_ | refine ck7_ h rfl ?_ | refine ck8_ h rfl ?_ | refine ck9_ h rfl ?_ | refine ck10_ h rfl ?_ | refine ck11_ h rfl ?_ | ((first | refine st0_ h rfl rfl ?_ | refine st1_ h rfl rfl ?_ | refine st2_ h rfl rfl ?_ | refine st3_ h rfl rfl ?_ | refine st4_ h rfl rfl ?_ | refine st5_ h rfl rfl ?_ | refine st6_ h rfl rfl ?_ | refine st7_ h rfl rfl ?_ | refine st8_ h rfl rfl ?_ | refine st9_ h rfl rfl ?_ | refine st10_ h rfl rfl ?_ | refine st11_ h rfl rfl ?_); clear h; (try clear w); intro w h; (try dsimp only [putN, setN] at h))))
  refine MpS.get mkI und_map_o zo (fun x : ByteArray × Option Addr => (x.1, x.2, ())) (fun _ => rfl) h 1 rfl hA ?_
  rw [hg]
  simp only [Option.map_some, Option.getD_some]
  refine S_tState h 3 rfl (t := t) (by simp) hp ?_
  refine it (fun hc => ?_) (fun hc => ?_) <;> (try simp only [decide_eq_true_eq, decide_eq_false_iff_not, beq_iff_eq, bne_iff_ne, beq_eq_false_iff_ne, bne_eq_false_iff_eq, Bool.not_eq_true', Bool.not_eq_false', ne_eq, Bool.not_eq_true, Bool.not_eq_false] at hc)
  · (repeat (first | refine nn ?_ | (refine dr h ?_; clear h; (try clear w); intro w h) | refine ld0_ h rfl rfl ?_ | refine ld1_ h rfl rfl ?_ | refine ld2_ h rfl rfl ?_ | refine ld3_ h rfl rfl ?_ | refine ld4_ h rfl rfl ?_ | refine ld5_ h rfl rfl ?_ | refine ld6_ h rfl rfl ?_ | refine ld7_ h rfl rfl ?_ | refine ld8_ h rfl rfl ?_ | refine ld9_ h rfl rfl ?_ | refine ld10_ h rfl rfl ?_ | refine ld11_ h rfl rfl ?_ | refine la0_ h rfl ?_ | refine la1_ h rfl ?_ | refine la2_ h rfl ?_ | refine la3_ h rfl ?_ | refine la4_ h rfl ?_ | refine la5_ h rfl ?_ | refine la6_ h rfl ?_ | refine la7_ h rfl ?_ | refine la8_ h rfl ?_ | refine la9_ h rfl ?_ | refine la10_ h rfl ?_ | refine la11_ h rfl ?_ | refine ck0_ h rfl ?_ | refine ck1_ h rfl ?_ | refine ck2_ h rfl ?_ | refine ck3_ h rfl ?_ | refine ck4_ h rfl ?_ | refine ck5_ h rfl ?_ | refine ck6_ h rfl ?_ | refine ck7_ h rfl ?_ | refine ck8_ h rfl ?_ | refine ck9_ h rfl ?_ | refine ck10_ h rfl ?_ | refine ck11_ h rfl ?_ | ((first | refine st0_ h rfl rfl ?_ | refine st1_ h rfl rfl ?_ | refine st2_ h rfl rfl ?_ | refine st3_ h rfl rfl ?_ | refine st4_ h rfl rfl ?_ | refine st5_ h rfl rfl ?_ | refine st6_ h rfl rfl ?_ | refine st7_ h rfl rfl ?_ | refine st8_ h rfl rfl ?_ | refine st9_ h rfl rfl ?_ | refine st10_ h rfl rfl ?_ | refine st11_ h rfl rfl ?_); clear h; (try clear w); intro w h; (try dsimp only [putN, setN] at h))))
    refine MpS.del mkI und_map_o h 1 rfl hA fun sA' w hA' h => ⟨(), rfl, hk2 hc sA' w hA' ?_⟩
    have h : St w0 (flB b rA rW F :: sA' :: sW :: ((A ++ t :: B).map trS).flatten :: D) w := h
    have h := fr3_ h
    have h := h.pick
    have h := dl0_ h
    have h := fr3_ (fr3_ (fr3_ h))
    exact h
  · exact ⟨(), rfl, hk1 hc⟩
theorem S_fUp (h : St w0 E w) (i : Nat) {b : Nat} {F : AFleet} {s : Seg} (hi : nth E i = some s) (hf : FlS b F s) {id : Int} {k : Int → PT}
    (hk0 : fFind F.l id = none → ∀ w', St w0 E w' → k 6 w')
    (hk1 : ∀ x, fFind F.l id = some x → ∀ s' w', FlS b { F with l := fUpd F.l id fun p => (podUp p).1 } s' → St w0 (setN E i s') w' → k (podUp x.pod).2 w') :
    L.call Pr n_fleet_Fleet_Up [.pointer (some ⟨b, 0, none⟩), I id] (.one (.one (.int .i64))) k w := by
  obtain ⟨ok, rA, rW, mA, mW, sA, sW, L, hA, hW, hr, rfl⟩ := hf
  refine call_of (C_fleet_Fleet_Up _ _) ?_
  unfold F_fleet_Fleet_Up
  have h : St w0 (flB b rA rW F :: sA :: sW :: (L.map trS).flatten :: delN E i) w := (h.front i hi).eq (by simp)
  (repeat (first | refine nn ?_ | (refine dr h ?_; clear h; (try clear w); intro w h) | refine ld0_ h rfl rfl ?_ | refine ld1_ h rfl rfl ?_ | refine ld2_ h rfl rfl ?_ | refine ld3_ h rfl rfl ?_ | refine ld4_ h rfl rfl ?_ | refine ld5_ h rfl rfl ?_ | refine ld6_ h rfl rfl ?_ | refine ld7_ h rfl rfl ?_ | refine ld8_ h rfl rfl ?_ | refine ld9_ h rfl rfl ?_ | refine ld10_ h rfl rfl ?_ | refine ld11_ h rfl rfl ?_ | refine la0_ h rfl ?_ | refine la1_ h rfl ?_ | refine la2_ h rfl ?_ | refine la3_ h rfl ?_ | refine la4_ h rfl ?_ | refine la5_ h rfl ?_ | refine la6_ h rfl ?_ | refine la7_ h rfl ?_ | refine la8_ h rfl ?_ | refine la9_ h rfl ?_ | refine la10_ h rfl ?_ | refine la11_ h rfl ?_ | refine ck0_ h rfl ?_ | refine ck1_ h rfl ?_ | refine ck2_ h rfl ?_ | refine ck3_ h rfl ?_ | refine ck4_ h rfl ?_ | refine ck5_ h rfl ?_ | refine ck6_ h rfl ?_ | refine ck7_ h rfl ?_ | refine ck8_ h rfl ?_ | refine ck9_ h rfl ?_ | refine ck10_ h rfl ?_ | refine ck11_ h rfl ?_ | ((first | refine st0_ h rfl rfl ?_ | refine st1_ h rfl rfl ?_ | refine st2_ h rfl rfl ?_ | refine st3_ h rfl rfl ?_ | refine st4_ h rfl rfl ?_ | refine st5_ h rfl rfl ?_ | refine st6_ h rfl rfl ?_ | refine st7_ h rfl rfl ?_ | refine st8_ h rfl rfl ?_ | refine st9_ h rfl rfl ?_ | refine st10_ h rfl rfl ?_ | refine st11_ h rfl rfl ?_); clear h; (try clear w); intro w h; (try dsimp only [putN, setN] at h))))
  refine MpS.get2 mkI und_map_o zo (fun x : ByteArray × Option Addr => (x.1, x.2, ())) (fun _ => rfl) h 1 rfl hA ?_
  cases hfd : fFind F.l id with
  | none =>
    rw [hr.get0 hfd]
    simp only [Option.map_none, Option.getD_none, Option.isSome_none]
    refine nw h ?_; clear h; (try clear w); intro b4 w h
    (repeat (first | refine nn ?_ | (refine dr h ?_; clear h; (try clear w); intro w h) | refine ld0_ h rfl rfl ?_ | refine ld1_ h rfl rfl ?_ | refine ld2_ h rfl rfl ?_ | refine ld3_ h rfl rfl ?_ | refine ld4_ h rfl rfl ?_ | refine ld5_ h rfl rfl ?_ | refine ld6_ h rfl rfl ?_ | refine ld7_ h rfl rfl ?_ | refine ld8_ h rfl rfl ?_ | refine ld9_ h rfl rfl ?_ | refine ld10_ h rfl rfl ?_ | refine ld11_ h rfl rfl ?_ | refine la0_ h rfl ?_ | refine la1_ h rfl ?_ | refine la2_ h rfl ?_ | refine la3_ h rfl ?_ | refine la4_ h rfl ?_ | refine la5_ h rfl ?_ | refine la6_ h rfl ?_ | refine la7_ h rfl ?_ | refine la8_ h rfl ?_ | refine la9_ h rfl ?_ | refine la10_ h rfl ?_ | refine la11_ h rfl ?_ | refine ck0_ h rfl ?_ | refine ck1_ h rfl ?_ | refine ck2_ h rfl ?_ | refine ck3_ h rfl ?_ | refine ck4_ h rfl ?_ | refine ck5_ h rfl ?_ | refine ck6_ h rfl ?_ | refine ck7_ h rfl ?_ | refine ck8_ h rfl ?_ | refine ck9_ h rfl ?_ | refine ck10_ h rfl ?_ | refine ck11_ h rfl ?_ | ((first | refine st0_ h rfl rfl ?_ | refine st1_ h rfl rfl ?_ | refine st2_ h rfl rfl ?_ | refine st3_ h rfl rfl ?_ | refine st4_ h rfl rfl ?_ | refine st5_ h rfl rfl ?_ | refine st6_ h rfl rfl ?_ | refine st7_ h rfl rfl ?_ | refine st8_ h rfl rfl ?_ | refine st9_ h rfl rfl ?_ | refine st10_ h rfl rfl ?_ | refine st11_ h rfl rfl ?_); clear h; (try clear w); intro w h; (try dsimp only [putN, setN] at h))))
    refine it (fun hc => ?_) (fun hc => ?_) <;> (try simp only [decide_eq_true_eq, decide_eq_false_iff_not, beq_iff_eq, bne_iff_ne, beq_eq_false_iff_ne, bne_eq_false_iff_eq, Bool.not_eq_true', Bool.not_eq_false', ne_eq, Bool.not_eq_true, Bool.not_eq_false] at hc)
    · refine ⟨_, rfl, hk0 hfd w (St.setN_same' i hi (St.back i hi (s' := flB b rA rW F ++ (sA ++ (sW ++ (L.map trS).flatten))) ?_))⟩
      have h := dl0_ h
      exact h.eq (by simp)
    · cases hc
  | some x =>
    obtain ⟨A, t, B, rfl, rfl, hid⟩ := hr.at hfd
    have hg := hr.get ok (t := t) (by simp)
    have hp := hr.ps t (by simp)
    rw [hid] at hg
    rw [hg]
    simp only [Option.map_some, Option.getD_some, Option.isSome_some]
    refine nw h ?_; clear h; (try clear w); intro b4 w h
    (repeat (first | refine nn ?_ | (refine dr h ?_; clear h; (try clear w); intro w h) | refine ld0_ h rfl rfl ?_ | refine ld1_ h rfl rfl ?_ | refine ld2_ h rfl rfl ?_ | refine ld3_ h rfl rfl ?_ | refine ld4_ h rfl rfl ?_ | refine ld5_ h rfl rfl ?_ | refine ld6_ h rfl rfl ?_ | refine ld7_ h rfl rfl ?_ | refine ld8_ h rfl rfl ?_ | refine ld9_ h rfl rfl ?_ | refine ld10_ h rfl rfl ?_ | refine ld11_ h rfl rfl ?_ | refine la0_ h rfl ?_ | refine la1_ h rfl ?_ | refine la2_ h rfl ?_ | refine la3_ h rfl ?_ | refine la4_ h rfl ?_ | refine la5_ h rfl ?_ | refine la6_ h rfl ?_ | refine la7_ h rfl ?_ | refine la8_ h rfl ?_ | refine la9_ h rfl ?_ | refine la10_ h rfl ?_ | refine la11_ h rfl ?_ | refine ck0_ h rfl ?_ | refine ck1_ h rfl ?_ | refine ck2_ h rfl ?_ | refine ck3_ h rfl ?_ | refine ck4_ h rfl ?_ | refine ck5_ h rfl ?_ | refine ck6_ h rfl ?_ | refine ck7_ h rfl ?_ | refine ck8_ h rfl ?_ | refine ck9_ h rfl ?_ | refine ck10_ h rfl ?_ | refine ck11_ h rfl ?_ | ((first | refine st0_ h rfl rfl ?_ | refine st1_ h rfl rfl ?_ | refine st2_ h rfl rfl ?_ | refine st3_ h rfl rfl ?_ | refine st4_ h rfl rfl ?_ | refine st5_ h rfl rfl ?_ | refine st6_ h rfl rfl ?_ | refine st7_ h rfl rfl ?_ | refine st8_ h rfl rfl ?_ | refine st9_ h rfl rfl ?_ | refine st10_ h rfl rfl ?_ | refine st11_ h rfl rfl ?_); clear h; (try clear w); intro w h; (try dsimp only [putN, setN] at h))))
    refine it (fun hc => ?_) (fun hc => ?_) <;> (try simp only [decide_eq_true_eq, decide_eq_false_iff_not, beq_iff_eq, bne_iff_ne, beq_eq_false_iff_ne, bne_eq_false_iff_eq, Bool.not_eq_true', Bool.not_eq_false', ne_eq, Bool.not_eq_true, Bool.not_eq_false] at hc)
    · cases hc
    (repeat (first | refine nn ?_ | (refine dr h ?_; clear h; (try clear w); intro w h) | refine ld0_ h rfl rfl ?_ | refine ld1_ h rfl rfl ?_ | refine ld2_ h rfl rfl ?_ | refine ld3_ h rfl rfl ?_ | refine ld4_ h rfl rfl ?_ | refine ld5_ h rfl rfl ?_ | refine ld6_ h rfl rfl ?_ | refine ld7_ h rfl rfl ?_ | refine ld8_ h rfl rfl ?_ | refine ld9_ h rfl rfl ?_ | refine ld10_ h rfl rfl ?_ | refine ld11_ h rfl rfl ?_ | refine la0_ h rfl ?_ | refine la1_ h rfl ?_ | refine la2_ h rfl ?_ | refine la3_ h rfl ?_ | refine la4_ h rfl ?_ | refine la5_ h rfl ?_ | refine la6_ h rfl ?_ | refine la7_ h rfl ?_ | refine la8_ h rfl ?_ | refine la9_ h rfl ?_ | refine la10_ h rfl ?_ | refine la11_ h rfl ?_ | refine ck0_ h rfl ?_ | refine ck1_ h rfl ?_ | refine ck2_ h rfl ?_ | refine ck3_ h rfl ?_ | refine ck4_ h rfl ?_ | refine ck5_ h rfl ?_ | refine ck6_ h rfl ?_ | refine ck7_ h rfl ?_ | refine ck8_ h rfl ?_ | refine ck9_ h rfl ?_ | refine ck10_ h rfl ?_ | refine ck11_ h rfl ?_ | ((first | refine st0_ h rfl rfl ?_ | refine st1_ h rfl rfl ?_ | refine st2_ h rfl rfl ?_ | refine st3_ h rfl rfl ?_ | refine st4_ h rfl rfl ?_ | refine st5_ h rfl rfl ?_ | refine st6_ h rfl rfl ?_ | refine st7_ h rfl rfl ?_ | refine st8_ h rfl rfl ?_ | refine st9_ h rfl rfl ?_ | refine st10_ h rfl rfl ?_ | refine st11_ h rfl rfl ?_); clear h; (try clear w); intro w h; (try dsimp only [putN, setN] at h))))
    have h := dl0_ h
    have h := fr3_ h
    have h := h.pick
    refine S_pUp h 0 rfl hp fun s' w hp' h => ⟨_, rfl, ?_⟩
    have h : St w0 (trS ({ t.1 with pod := (podUp t.1.pod).1 }, t.2.1, s') :: ((A ++ B).map trS).flatten :: flB b rA rW F :: sA :: sW :: delN E i) w := h
    have h := h.place
    have hst := ok.live t.1 (fFind_some hfd).1
    have h4 : (podUp t.1.pod).1.st ≠ 4 := by unfold podUp; split <;> simp <;> omega
    have hrq : (podUp t.1.pod).1.reqs = t.1.pod.reqs := by unfold podUp; split <;> rfl
    refine hk1 _ hfd (flB b rA rW { F with l := fUpd F.l id fun p => (podUp p).1 } ++ (sA ++ (sW ++ ((A ++ ({ t.1 with pod := (podUp t.1.pod).1 }, t.2.1, s') :: B).map trS).flatten))) w ⟨?_, rA, rW, mA, mW, sA, sW, _, hA, hW, ?_, rfl⟩ (St.back i hi ?_)
    · refine ok.upd hfd _ ?_ fun q hq => .inl (by rw [← hrq]; exact hq)
      unfold podUp; split <;> simp <;> omega
    · subst hid
      refine hr.upd ok (fun p => (podUp p).1) hp' h4 fun q => ?_
      rw [hr.wth]
      rw [fWhere_upd ok.pw (fFind_some hfd).1 hrq (fun e => absurd e h4)]
    · have h := fr3_ (fr3_ (fr3_ h))
      exact h.eq (by simp)
end Go.Proofs.Ytheikjckdnhdhaa
