/- Contracts of functions, and walks of laws (text Ga). No conditions beyond those its theorems state. -/
import Derived.Test.YthmpbgloifdcnaaGreatFj
import Derived.Test.YthmpbgloifdcnaaGreatWa
set_option linter.all false
namespace Go.Proofs.YthmpbgloifdcnaaGreat
open Go.Dm
attribute [local irreducible] L.load L.store L.chk L.new L.nonnil L.guard L.ite L.draw L.idx L.sem L.semR L.semU L.chkSem L.next L.call L.callV L.join L.alts L.loop L.begin L.endRound L.range
variable {w0 w : World} {E : List Seg}
/-! ### gates -/
def vReq (x : ByteArray × Int) : Value := .agg #[.string x.1, I x.2]
/-- id, what, pod, why -/
abbrev Fate := HT [.int .i64, .int .i64, .int .i64, .str]
abbrev eFate : E1 := .agg [.int .i64, .int .i64, .int .i64, .str]
abbrev Fate.cells (f : Fate) : List Value := [I f.1, I f.2.1, I f.2.2.1, .string f.2.2.2.1]
theorem encF : Enc Fate.cells 4 := ⟨fun _ => rfl, fun _ => rfl, by decide⟩
theorem elF : El Pr T_s_gate_Fate T_gate_Fate 4 40 (.agg #[I 0, I 0, I 0, .string s_]) := el_of (by kernel_rfl) (by kernel_rfl) rfl (by decide)
structure AGate where
  all : List (Int × (ByteArray × Int))
  lines : List (ByteArray × List (Int × Int))
  room : Int
  pat : Int
structure AGate.Ok (G : AGate) : Prop where
  few : G.all.length < 100000000
  lo : 0 ≤ G.room
  hi : G.room ≤ 1000000
  ln : ∀ x ∈ G.lines, (x.2.length : Int) ≤ G.room
  nd : (G.lines.map (·.1)).Nodup
  nda : (G.all.map (·.1)).Nodup
  fl : G.lines.length < 100000000
/-- a line: by what name, where, who waits, what of it lies there -/
structure LnE where
  k : ByteArray
  b : Nat
  l : List (Int × Int)
  sg : Seg
abbrev LnE.kp (x : LnE) : ByteArray × Option Addr := (x.k, some ⟨x.b, 0, none⟩)
abbrev LnE.ka (x : LnE) : ByteArray × List (Int × Int) := (x.k, x.l)
abbrev gtB (b bf rA rL c : Nat) (room pat : Int) : Seg := [Cl b T_gate_Gate [.pointer (some ⟨bf, 0, none⟩), .map (some rA), .map (some rL), .func (.func n_gate_New_1) #[] #[.pointer (some ⟨c, 0, none⟩)], I room, I pat]]
structure GtR (G : AGate) (rA rL : Nat) (sA sL : Seg) (Q : List LnE) : Prop where
  all : MpS KI vReq rA G.all sA
  lns : MpS Value.string Value.pointer rL (Q.map LnE.kp) sL
  each : ∀ x ∈ Q, LnS x.b G.room x.l x.sg
  abs : G.lines = Q.map LnE.ka
def GtS (b bf : Nat) (G : AGate) (s : Seg) : Prop := G.Ok ∧ ∃ rA rL c sA sL, ∃ Q : List LnE, GtR G rA rL sA sL Q ∧
  s = gtB b bf rA rL c G.room G.pat ++ ([Cl c T_int [I G.room]] ++ (sA ++ (sL ++ (Q.map LnE.sg).flatten)))
theorem und_req : Pr.underlying T_map_int_gate_request = some (.map T_int T_gate_request) := by kernel_rfl
theorem und_lns : Pr.underlying T_map_string_p_wait_Line = some (.map T_string T_p_wait_Line) := by kernel_rfl
theorem und_str' : Pr.underlying T_string = some .string := by kernel_rfl
theorem mkS' : MK Pr T_string Value.string := mk_str und_str'
theorem zreq (w : World) : (zeroValue T_gate_request).run Pr w = .ok ((E1.agg [.str, .int .i64]).val (s_, 0, ())) w := by
  have h : (Pr.info? T_gate_request).map (·.zero) = some (some (.agg #[.string s_, I 0])) := by kernel_rfl
  cases hi : Pr.info? T_gate_request with
  | none => rw [hi] at h; cases h
  | some i => rw [hi] at h; simp only [Option.map_some, Option.some.injEq] at h; exact zv hi h w
theorem zln (w : World) : (zeroValue T_p_wait_Line).run Pr w = .ok ((E1.one .ptr).val none) w := by
  have h : (Pr.info? T_p_wait_Line).map (·.zero) = some (some (.pointer none)) := by kernel_rfl
  cases hi : Pr.info? T_p_wait_Line with
  | none => rw [hi] at h; cases h
  | some i => rw [hi] at h; simp only [Option.map_some, Option.some.injEq] at h; exact zv hi h w
theorem S_gNew (h : St w0 E w) {bf : Nat} {room pat : Int} (h0 : 0 ≤ room) (h1 : room ≤ 1000000) {k : Option Addr → PT} (hk : ∀ b s w', GtS b bf ⟨[], [], room, pat⟩ s → St w0 (s :: E) w' → k (some ⟨b, 0, none⟩) w') :
    L.call Pr n_gate_New [.pointer (some ⟨bf, 0, none⟩), I room, I pat] (.one (.one .ptr)) k w := by
  refine call_of (C_gate_New _ _ _) ?_
  unfold F_gate_New
  refine nw h ?_; clear h; (try clear w); intro c w h
  refine MpS.new h KI vReq fun rA sA w hA h => ?_
  refine MpS.new h Value.string Value.pointer fun rL sL w hL h => ?_
  (repeat (first | refine nn ?_ | (refine dr h ?_; clear h; (try clear w); intro w h) | refine ld0_ h rfl rfl ?_ | refine ld1_ h rfl rfl ?_ | refine ld2_ h rfl rfl ?_ | refine ld3_ h rfl rfl ?_ | refine ld4_ h rfl rfl ?_ | refine ld5_ h rfl rfl ?_ | refine ld6_ h rfl rfl ?_ | refine ld7_ h rfl rfl ?_ | refine ld8_ h rfl rfl ?_ | refine ld9_ h rfl rfl ?_ | refine ld10_ h rfl rfl ?_ | refine ld11_ h rfl rfl ?_ | refine la0_ h rfl ?_ | refine la1_ h rfl ?_ | refine la2_ h rfl ?_ | refine la3_ h rfl ?_ | refine la4_ h rfl ?_ | refine la5_ h rfl ?_ | refine la6_ h rfl ?_ | refine la7_ h rfl ?_ | refine la8_ h rfl ?_ | refine la9_ h rfl ?_ | refine la10_ h rfl ?_ | refine la11_ h rfl ?_ | refine ck0_ h rfl ?_ | refine ck1_ h rfl ?_ | refine ck2_ h rfl ?_ | refine ck3_ h rfl ?_ | refine ck4_ h rfl ?_ | refine ck5_ h rfl ?_ | refine ck6_ h rfl ?_ | refine ck7_ h rfl ?_ | refine ck8_ h rfl ?_ | refine ck9_ h rfl ?_ | refine ck10_ h rfl ?_ | refine ck11_ h rfl ?_ | ((first | refine st0_ h rfl rfl ?_ | refine st1_ h rfl rfl ?_ | refine st2_ h rfl rfl ?_ | refine st3_ h rfl rfl ?_ | refine st4_ h rfl rfl ?_ | refine st5_ h rfl rfl ?_ | refine st6_ h rfl rfl ?_ | refine st7_ h rfl rfl ?_ | refine st8_ h rfl rfl ?_ | refine st9_ h rfl rfl ?_ | refine st10_ h rfl rfl ?_ | refine st11_ h rfl rfl ?_); clear h; (try clear w); intro w h; (try dsimp only [putN, setN] at h))))
  refine nw h ?_; clear h; (try clear w); intro b w h
  refine ⟨_, rfl, hk b _ w ⟨⟨by simp, h0, h1, by simp, by simp, by simp, by simp⟩, rA, rL, c, sA, sL, [], ⟨hA, hL, by simp, rfl⟩, rfl⟩ ?_⟩
  have h := fr3_ (fr3_ (fr2_ (fr1_ h)))
  exact h.eq (by simp)
def fset (f : Fate) (id : Int) : Fate := (id, f.2.1, f.2.2.1, f.2.2.2.1, ())
theorem S_gset {b bf rA rL c : Nat} {room pat : Int} {sA : Seg} {all : List (Int × (ByteArray × Int))} (hA : MpS KI vReq rA all sA) (h : St w0 (gtB b bf rA rL c room pat :: sA :: E) w) {id : Int} {rev : ByteArray} {f : Fate} {k : eFate.T → PT}
    (hk : ∀ sA' w', MpS KI vReq rA (mset all id (rev, f.2.1)) sA' → St w0 (gtB b bf rA rL c room pat :: sA' :: E) w' → k (fset f id) w') :
    L.call Pr n_gate_Gate_set [.pointer (some ⟨b, 0, none⟩), I id, .string rev, .agg (Fate.cells f).toArray] (.one eFate) k w := by
  refine call_of (C_gate_Gate_set _ _ _ f) ?_
  unfold F_gate_Gate_set
  refine nw h ?_; clear h; (try clear w); intro b1 w h
  refine nw h ?_; clear h; (try clear w); intro b2 w h
  (repeat (first | refine nn ?_ | (refine dr h ?_; clear h; (try clear w); intro w h) | refine ld0_ h rfl rfl ?_ | refine ld1_ h rfl rfl ?_ | refine ld2_ h rfl rfl ?_ | refine ld3_ h rfl rfl ?_ | refine ld4_ h rfl rfl ?_ | refine ld5_ h rfl rfl ?_ | refine ld6_ h rfl rfl ?_ | refine ld7_ h rfl rfl ?_ | refine ld8_ h rfl rfl ?_ | refine ld9_ h rfl rfl ?_ | refine ld10_ h rfl rfl ?_ | refine ld11_ h rfl rfl ?_ | refine la0_ h rfl ?_ | refine la1_ h rfl ?_ | refine la2_ h rfl ?_ | refine la3_ h rfl ?_ | refine la4_ h rfl ?_ | refine la5_ h rfl ?_ | refine la6_ h rfl ?_ | refine la7_ h rfl ?_ | refine la8_ h rfl ?_ | refine la9_ h rfl ?_ | refine la10_ h rfl ?_ | refine la11_ h rfl ?_ | refine ck0_ h rfl ?_ | refine ck1_ h rfl ?_ | refine ck2_ h rfl ?_ | refine ck3_ h rfl ?_ | refine ck4_ h rfl ?_ | refine ck5_ h rfl ?_ | refine ck6_ h rfl ?_ | refine ck7_ h rfl ?_ | refine ck8_ h rfl ?_ | refine ck9_ h rfl ?_ | refine ck10_ h rfl ?_ | refine ck11_ h rfl ?_ | ((first | refine st0_ h rfl rfl ?_ | refine st1_ h rfl rfl ?_ | refine st2_ h rfl rfl ?_ | refine st3_ h rfl rfl ?_ | refine st4_ h rfl rfl ?_ | refine st5_ h rfl rfl ?_ | refine st6_ h rfl rfl ?_ | refine st7_ h rfl rfl ?_ | refine st8_ h rfl rfl ?_ | refine st9_ h rfl rfl ?_ | refine st10_ h rfl rfl ?_ | refine st11_ h rfl rfl ?_); clear h; (try clear w); intro w h; (try dsimp only [putN, setN] at h))))
  refine MpS.set mkI und_req h 3 rfl hA (rev, f.2.1) rfl fun sA' w hA' h => ?_
  have h : St w0 ([Cl b2 T_gate_Fate [I 0, I 0, I 0, .string s_]] :: [Cl b1 T_gate_Fate [I id, I f.2.1, I f.2.2.1, .string f.2.2.2.1]] :: gtB b bf rA rL c room pat :: sA' :: E) w := h
  (repeat (first | refine nn ?_ | (refine dr h ?_; clear h; (try clear w); intro w h) | refine ld0_ h rfl rfl ?_ | refine ld1_ h rfl rfl ?_ | refine ld2_ h rfl rfl ?_ | refine ld3_ h rfl rfl ?_ | refine ld4_ h rfl rfl ?_ | refine ld5_ h rfl rfl ?_ | refine ld6_ h rfl rfl ?_ | refine ld7_ h rfl rfl ?_ | refine ld8_ h rfl rfl ?_ | refine ld9_ h rfl rfl ?_ | refine ld10_ h rfl rfl ?_ | refine ld11_ h rfl rfl ?_ | refine la0_ h rfl ?_ | refine la1_ h rfl ?_ | refine la2_ h rfl ?_ | refine la3_ h rfl ?_ | refine la4_ h rfl ?_ | refine la5_ h rfl ?_ | refine la6_ h rfl ?_ | refine la7_ h rfl ?_ | refine la8_ h rfl ?_ | refine la9_ h rfl ?_ | refine la10_ h rfl ?_ | refine la11_ h rfl ?_ | refine ck0_ h rfl ?_ | refine ck1_ h rfl ?_ | refine ck2_ h rfl ?_ | refine ck3_ h rfl ?_ | refine ck4_ h rfl ?_ | refine ck5_ h rfl ?_ | refine ck6_ h rfl ?_ | refine ck7_ h rfl ?_ | refine ck8_ h rfl ?_ | refine ck9_ h rfl ?_ | refine ck10_ h rfl ?_ | refine ck11_ h rfl ?_ | ((first | refine st0_ h rfl rfl ?_ | refine st1_ h rfl rfl ?_ | refine st2_ h rfl rfl ?_ | refine st3_ h rfl rfl ?_ | refine st4_ h rfl rfl ?_ | refine st5_ h rfl rfl ?_ | refine st6_ h rfl rfl ?_ | refine st7_ h rfl rfl ?_ | refine st8_ h rfl rfl ?_ | refine st9_ h rfl rfl ?_ | refine st10_ h rfl rfl ?_ | refine st11_ h rfl rfl ?_); clear h; (try clear w); intro w h; (try dsimp only [putN, setN] at h))))
  exact ⟨fset f id, rfl, hk sA' w hA' (dl0_ (dl0_ h))⟩
theorem S_gwhy (h : St w0 E w) {s : ByteArray} {k : eFate.T → PT} (hk : ∀ w', St w0 E w' → k (0, 4, 0, s, ()) w') : L.call Pr n_gate_why [.string s] (.one eFate) k w := by
  refine call_of (C_gate_why _) ?_
  unfold F_gate_why
  refine nw h ?_; clear h; (try clear w); intro b1 w h
  (repeat (first | refine nn ?_ | (refine dr h ?_; clear h; (try clear w); intro w h) | refine ld0_ h rfl rfl ?_ | refine ld1_ h rfl rfl ?_ | refine ld2_ h rfl rfl ?_ | refine ld3_ h rfl rfl ?_ | refine ld4_ h rfl rfl ?_ | refine ld5_ h rfl rfl ?_ | refine ld6_ h rfl rfl ?_ | refine ld7_ h rfl rfl ?_ | refine ld8_ h rfl rfl ?_ | refine ld9_ h rfl rfl ?_ | refine ld10_ h rfl rfl ?_ | refine ld11_ h rfl rfl ?_ | refine la0_ h rfl ?_ | refine la1_ h rfl ?_ | refine la2_ h rfl ?_ | refine la3_ h rfl ?_ | refine la4_ h rfl ?_ | refine la5_ h rfl ?_ | refine la6_ h rfl ?_ | refine la7_ h rfl ?_ | refine la8_ h rfl ?_ | refine la9_ h rfl ?_ | refine la10_ h rfl ?_ | refine la11_ h rfl ?_ | refine ck0_ h rfl ?_ | refine ck1_ h rfl ?_ | refine ck2_ h rfl ?_ | refine ck3_ h rfl ?_ | refine ck4_ h rfl ?_ | refine ck5_ h rfl ?_ | refine ck6_ h rfl ?_ | refine ck7_ h rfl ?_ | refine ck8_ h rfl ?_ | refine ck9_ h rfl ?_ | refine ck10_ h rfl ?_ | refine ck11_ h rfl ?_ | ((first | refine st0_ h rfl rfl ?_ | refine st1_ h rfl rfl ?_ | refine st2_ h rfl rfl ?_ | refine st3_ h rfl rfl ?_ | refine st4_ h rfl rfl ?_ | refine st5_ h rfl rfl ?_ | refine st6_ h rfl rfl ?_ | refine st7_ h rfl rfl ?_ | refine st8_ h rfl rfl ?_ | refine st9_ h rfl rfl ?_ | refine st10_ h rfl rfl ?_ | refine st11_ h rfl rfl ?_); clear h; (try clear w); intro w h; (try dsimp only [putN, setN] at h))))
  exact ⟨_, rfl, hk w (dl0_ h)⟩
def gSeen (all : List (Int × (ByteArray × Int))) (id : Int) : Bool := (mget all id).isSome
theorem S_gseen {b bf rA rL c : Nat} {room pat : Int} {sA : Seg} {all : List (Int × (ByteArray × Int))} (hA : MpS KI vReq rA all sA) (h : St w0 (gtB b bf rA rL c room pat :: sA :: E) w) {id : Int} {k : Bool → PT}
    (hk : ∀ w', St w0 (gtB b bf rA rL c room pat :: sA :: E) w' → k (gSeen all id) w') :
    L.call Pr n_gate_Gate_Seen [.pointer (some ⟨b, 0, none⟩), I id] (.one (.one .bool)) k w := by
  refine call_of (C_gate_Gate_Seen _ _) ?_
  unfold F_gate_Gate_Seen
  (repeat (first | refine nn ?_ | (refine dr h ?_; clear h; (try clear w); intro w h) | refine ld0_ h rfl rfl ?_ | refine ld1_ h rfl rfl ?_ | refine ld2_ h rfl rfl ?_ | refine ld3_ h rfl rfl ?_ | refine ld4_ h rfl rfl ?_ | refine ld5_ h rfl rfl ?_ | refine ld6_ h rfl rfl ?_ | refine ld7_ h rfl rfl ?_ | refine ld8_ h rfl rfl ?_ | refine ld9_ h rfl rfl ?_ | refine ld10_ h rfl rfl ?_ | refine ld11_ h rfl rfl ?_ | refine la0_ h rfl ?_ | refine la1_ h rfl ?_ | refine la2_ h rfl ?_ | refine la3_ h rfl ?_ | refine la4_ h rfl ?_ | refine la5_ h rfl ?_ | refine la6_ h rfl ?_ | refine la7_ h rfl ?_ | refine la8_ h rfl ?_ | refine la9_ h rfl ?_ | refine la10_ h rfl ?_ | refine la11_ h rfl ?_ | refine ck0_ h rfl ?_ | refine ck1_ h rfl ?_ | refine ck2_ h rfl ?_ | refine ck3_ h rfl ?_ | refine ck4_ h rfl ?_ | refine ck5_ h rfl ?_ | refine ck6_ h rfl ?_ | refine ck7_ h rfl ?_ | refine ck8_ h rfl ?_ | refine ck9_ h rfl ?_ | refine ck10_ h rfl ?_ | refine ck11_ h rfl ?_ | ((first | refine st0_ h rfl rfl ?_ | refine st1_ h rfl rfl ?_ | refine st2_ h rfl rfl ?_ | refine st3_ h rfl rfl ?_ | refine st4_ h rfl rfl ?_ | refine st5_ h rfl rfl ?_ | refine st6_ h rfl rfl ?_ | refine st7_ h rfl rfl ?_ | refine st8_ h rfl rfl ?_ | refine st9_ h rfl rfl ?_ | refine st10_ h rfl rfl ?_ | refine st11_ h rfl rfl ?_); clear h; (try clear w); intro w h; (try dsimp only [putN, setN] at h))))
  refine MpS.get2 mkI und_req zreq (fun x : ByteArray × Int => (x.1, x.2, ())) (fun _ => rfl) h 1 rfl hA ?_
  refine nw h ?_; clear h; (try clear w); intro b4 w h
  (repeat (first | refine nn ?_ | (refine dr h ?_; clear h; (try clear w); intro w h) | refine ld0_ h rfl rfl ?_ | refine ld1_ h rfl rfl ?_ | refine ld2_ h rfl rfl ?_ | refine ld3_ h rfl rfl ?_ | refine ld4_ h rfl rfl ?_ | refine ld5_ h rfl rfl ?_ | refine ld6_ h rfl rfl ?_ | refine ld7_ h rfl rfl ?_ | refine ld8_ h rfl rfl ?_ | refine ld9_ h rfl rfl ?_ | refine ld10_ h rfl rfl ?_ | refine ld11_ h rfl rfl ?_ | refine la0_ h rfl ?_ | refine la1_ h rfl ?_ | refine la2_ h rfl ?_ | refine la3_ h rfl ?_ | refine la4_ h rfl ?_ | refine la5_ h rfl ?_ | refine la6_ h rfl ?_ | refine la7_ h rfl ?_ | refine la8_ h rfl ?_ | refine la9_ h rfl ?_ | refine la10_ h rfl ?_ | refine la11_ h rfl ?_ | refine ck0_ h rfl ?_ | refine ck1_ h rfl ?_ | refine ck2_ h rfl ?_ | refine ck3_ h rfl ?_ | refine ck4_ h rfl ?_ | refine ck5_ h rfl ?_ | refine ck6_ h rfl ?_ | refine ck7_ h rfl ?_ | refine ck8_ h rfl ?_ | refine ck9_ h rfl ?_ | refine ck10_ h rfl ?_ | refine ck11_ h rfl ?_ | ((first | refine st0_ h rfl rfl ?_ | refine st1_ h rfl rfl ?_ | refine st2_ h rfl rfl ?_ | refine st3_ h rfl rfl ?_ | refine st4_ h rfl rfl ?_ | refine st5_ h rfl rfl ?_ | refine st6_ h rfl rfl ?_ | refine st7_ h rfl rfl ?_ | refine st8_ h rfl rfl ?_ | refine st9_ h rfl rfl ?_ | refine st10_ h rfl rfl ?_ | refine st11_ h rfl rfl ?_); clear h; (try clear w); intro w h; (try dsimp only [putN, setN] at h))))
  exact ⟨_, rfl, hk w (dl0_ h)⟩
/-- a request is sent, if a pod has room -/
def gSend (F : AFleet) (all : List (Int × (ByteArray × Int))) (id : Int) (rev : ByteArray) : AFleet × List (Int × (ByteArray × Int)) × Fate × Bool :=
  if (fTake F rev id).2.2 = true then ((fTake F rev id).1, mset all id (rev, 1), (id, 1, (fTake F rev id).2.1, s_, ()), true) else ((fTake F rev id).1, all, (0, 0, 0, s_, ()), false)
theorem S_gsend {b bf rA rL c : Nat} {room pat : Int} {sA sf : Seg} {all : List (Int × (ByteArray × Int))} {F : AFleet} (hA : MpS KI vReq rA all sA) (hf : FlS bf F sf) (h20 : F.l.length ≤ 20) (hfew : ∀ x ∈ F.l, x.pod.reqs.length < 10000000) (h : St w0 (gtB b bf rA rL c room pat :: sA :: sf :: E) w) {id : Int} {rev : ByteArray} {k : eFate.T × Bool × Unit → PT}
    (hk : ∀ sA' sf' w', MpS KI vReq rA (gSend F all id rev).2.1 sA' → FlS bf (gSend F all id rev).1 sf' → St w0 (gtB b bf rA rL c room pat :: sA' :: sf' :: E) w' → k ((gSend F all id rev).2.2.1, (gSend F all id rev).2.2.2, ()) w') :
    L.call Pr n_gate_Gate_send [.pointer (some ⟨b, 0, none⟩), I id, .string rev] (.tup [eFate, .one .bool]) k w := by
  refine call_of (C_gate_Gate_send _ _ _) ?_
  unfold F_gate_Gate_send
  unfold gSend at hk
  refine nw h ?_; clear h; (try clear w); intro b1 w h
  (repeat (first | refine nn ?_ | (refine dr h ?_; clear h; (try clear w); intro w h) | refine ld0_ h rfl rfl ?_ | refine ld1_ h rfl rfl ?_ | refine ld2_ h rfl rfl ?_ | refine ld3_ h rfl rfl ?_ | refine ld4_ h rfl rfl ?_ | refine ld5_ h rfl rfl ?_ | refine ld6_ h rfl rfl ?_ | refine ld7_ h rfl rfl ?_ | refine ld8_ h rfl rfl ?_ | refine ld9_ h rfl rfl ?_ | refine ld10_ h rfl rfl ?_ | refine ld11_ h rfl rfl ?_ | refine la0_ h rfl ?_ | refine la1_ h rfl ?_ | refine la2_ h rfl ?_ | refine la3_ h rfl ?_ | refine la4_ h rfl ?_ | refine la5_ h rfl ?_ | refine la6_ h rfl ?_ | refine la7_ h rfl ?_ | refine la8_ h rfl ?_ | refine la9_ h rfl ?_ | refine la10_ h rfl ?_ | refine la11_ h rfl ?_ | refine ck0_ h rfl ?_ | refine ck1_ h rfl ?_ | refine ck2_ h rfl ?_ | refine ck3_ h rfl ?_ | refine ck4_ h rfl ?_ | refine ck5_ h rfl ?_ | refine ck6_ h rfl ?_ | refine ck7_ h rfl ?_ | refine ck8_ h rfl ?_ | refine ck9_ h rfl ?_ | refine ck10_ h rfl ?_ | refine ck11_ h rfl ?_ | ((first | refine st0_ h rfl rfl ?_ | refine st1_ h rfl rfl ?_ | refine st2_ h rfl rfl ?_ | refine st3_ h rfl rfl ?_ | refine st4_ h rfl rfl ?_ | refine st5_ h rfl rfl ?_ | refine st6_ h rfl rfl ?_ | refine st7_ h rfl rfl ?_ | refine st8_ h rfl rfl ?_ | refine st9_ h rfl rfl ?_ | refine st10_ h rfl rfl ?_ | refine st11_ h rfl rfl ?_); clear h; (try clear w); intro w h; (try dsimp only [putN, setN] at h))))
  have hrl : (revs F.l rev).length ≤ 20 := Nat.le_trans (List.length_filter_le ..) h20
  refine S_fTake h 3 rfl hf hrl hfew fun sf' w hf' h => ?_
  have h : St w0 ([Cl b1 T_gate_Fate [I 0, I 0, I 0, .string s_]] :: gtB b bf rA rL c room pat :: sA :: sf' :: E) w := h
  refine it (fun hc => ?_) (fun hc => ?_) <;> (try simp only [decide_eq_true_eq, decide_eq_false_iff_not, beq_iff_eq, bne_iff_ne, beq_eq_false_iff_ne, bne_eq_false_iff_eq, Bool.not_eq_true', Bool.not_eq_false', ne_eq, Bool.not_eq_true, Bool.not_eq_false] at hc)
  · rw [if_neg (by simp [hc])] at hk
    (repeat (first | refine nn ?_ | (refine dr h ?_; clear h; (try clear w); intro w h) | refine ld0_ h rfl rfl ?_ | refine ld1_ h rfl rfl ?_ | refine ld2_ h rfl rfl ?_ | refine ld3_ h rfl rfl ?_ | refine ld4_ h rfl rfl ?_ | refine ld5_ h rfl rfl ?_ | refine ld6_ h rfl rfl ?_ | refine ld7_ h rfl rfl ?_ | refine ld8_ h rfl rfl ?_ | refine ld9_ h rfl rfl ?_ | refine ld10_ h rfl rfl ?_ | refine ld11_ h rfl rfl ?_ | refine la0_ h rfl ?_ | refine la1_ h rfl ?_ | refine la2_ h rfl ?_ | refine la3_ h rfl ?_ | refine la4_ h rfl ?_ | refine la5_ h rfl ?_ | refine la6_ h rfl ?_ | refine la7_ h rfl ?_ | refine la8_ h rfl ?_ | refine la9_ h rfl ?_ | refine la10_ h rfl ?_ | refine la11_ h rfl ?_ | refine ck0_ h rfl ?_ | refine ck1_ h rfl ?_ | refine ck2_ h rfl ?_ | refine ck3_ h rfl ?_ | refine ck4_ h rfl ?_ | refine ck5_ h rfl ?_ | refine ck6_ h rfl ?_ | refine ck7_ h rfl ?_ | refine ck8_ h rfl ?_ | refine ck9_ h rfl ?_ | refine ck10_ h rfl ?_ | refine ck11_ h rfl ?_ | ((first | refine st0_ h rfl rfl ?_ | refine st1_ h rfl rfl ?_ | refine st2_ h rfl rfl ?_ | refine st3_ h rfl rfl ?_ | refine st4_ h rfl rfl ?_ | refine st5_ h rfl rfl ?_ | refine st6_ h rfl rfl ?_ | refine st7_ h rfl rfl ?_ | refine st8_ h rfl rfl ?_ | refine st9_ h rfl rfl ?_ | refine st10_ h rfl rfl ?_ | refine st11_ h rfl rfl ?_); clear h; (try clear w); intro w h; (try dsimp only [putN, setN] at h))))
    exact ⟨(_, false, ()), rfl, hk sA sf' w hA hf' (dl0_ h)⟩
  · rw [if_pos hc] at hk
    have h := fr2_ (fr2_ h)
    refine S_gset (f := (0, 1, (fTake F rev id).2.1, s_, ())) hA h fun sA' w hA' h => ?_
    (repeat (first | refine nn ?_ | (refine dr h ?_; clear h; (try clear w); intro w h) | refine ld0_ h rfl rfl ?_ | refine ld1_ h rfl rfl ?_ | refine ld2_ h rfl rfl ?_ | refine ld3_ h rfl rfl ?_ | refine ld4_ h rfl rfl ?_ | refine ld5_ h rfl rfl ?_ | refine ld6_ h rfl rfl ?_ | refine ld7_ h rfl rfl ?_ | refine ld8_ h rfl rfl ?_ | refine ld9_ h rfl rfl ?_ | refine ld10_ h rfl rfl ?_ | refine ld11_ h rfl rfl ?_ | refine la0_ h rfl ?_ | refine la1_ h rfl ?_ | refine la2_ h rfl ?_ | refine la3_ h rfl ?_ | refine la4_ h rfl ?_ | refine la5_ h rfl ?_ | refine la6_ h rfl ?_ | refine la7_ h rfl ?_ | refine la8_ h rfl ?_ | refine la9_ h rfl ?_ | refine la10_ h rfl ?_ | refine la11_ h rfl ?_ | refine ck0_ h rfl ?_ | refine ck1_ h rfl ?_ | refine ck2_ h rfl ?_ | refine ck3_ h rfl ?_ | refine ck4_ h rfl ?_ | refine ck5_ h rfl ?_ | refine ck6_ h rfl ?_ | refine ck7_ h rfl ?_ | refine ck8_ h rfl ?_ | refine ck9_ h rfl ?_ | refine ck10_ h rfl ?_ | refine ck11_ h rfl ?_ | ((first | refine st0_ h rfl rfl ?_ | refine st1_ h rfl rfl ?_ | refine st2_ h rfl rfl ?_ | refine st3_ h rfl rfl ?_ | refine st4_ h rfl rfl ?_ | refine st5_ h rfl rfl ?_ | refine st6_ h rfl rfl ?_ | refine st7_ h rfl rfl ?_ | refine st8_ h rfl rfl ?_ | refine st9_ h rfl rfl ?_ | refine st10_ h rfl rfl ?_ | refine st11_ h rfl rfl ?_); clear h; (try clear w); intro w h; (try dsimp only [putN, setN] at h))))
    refine ⟨((id, 1, (fTake F rev id).2.1, s_, ()), true, ()), rfl, hk sA' sf' w hA' hf' ?_⟩
    have h := dl2_ h
    exact h
end Go.Proofs.YthmpbgloifdcnaaGreat
namespace Go.Proofs.YthmpbgloifdcnaaGreat
open Go.Dm
attribute [local irreducible] L.load L.store L.chk L.new L.nonnil L.guard L.ite L.draw L.idx L.sem L.semR L.semU L.chkSem L.next L.call L.callV L.join L.alts L.loop L.begin L.endRound L.range
variable {w0 w : World} {E : List Seg}
theorem gt_close {G : AGate} {b bf rA rL c : Nat} {sA sL : Seg} {Q : List LnE} (ok : G.Ok) (hr : GtR G rA rL sA sL Q) (h : St w0 (gtB b bf rA rL c G.room G.pat :: [Cl c T_int [I G.room]] :: sA :: sL :: (Q.map LnE.sg).flatten :: E) w) :
    ∃ s, GtS b bf G s ∧ St w0 (s :: E) w := ⟨_, ⟨ok, rA, rL, c, sA, sL, Q, hr, rfl⟩, h.glue5⟩
def lineOf (ls : List (ByteArray × List (Int × Int))) (rev : ByteArray) : List (Int × Int) := (mget ls rev).getD []
theorem lfind_kp {Q : List LnE} {rev : ByteArray} : mget (Q.map LnE.kp) rev = (lfind LnE.k Q rev).map fun x => some ⟨x.b, 0, none⟩ := lfind_map (key := LnE.k) (fun x : LnE => (some ⟨x.b, 0, none⟩ : Option Addr)) rev Q
theorem lfind_ka {Q : List LnE} {rev : ByteArray} : mget (Q.map LnE.ka) rev = (lfind LnE.k Q rev).map LnE.l := lfind_map (key := LnE.k) LnE.l rev Q
/-- a revision's line; a new one, if there is none -/
theorem S_gat {b bf rA rL c : Nat} {room pat : Int} {sL : Seg} {Q : List LnE} (hL : MpS Value.string Value.pointer rL (Q.map LnE.kp) sL) (hQ : ∀ x ∈ Q, LnS x.b room x.l x.sg)
    (h : St w0 (gtB b bf rA rL c room pat :: [Cl c T_int [I room]] :: sL :: (Q.map LnE.sg).flatten :: E) w) {rev : ByteArray} {a : Addr} (ha : a = ⟨b, 2, none⟩) {k : Option Addr → PT}
    (hk : ∀ sL' A x B w', (∀ y ∈ A ++ x :: B, LnS y.b room y.l y.sg) → MpS Value.string Value.pointer rL ((A ++ x :: B).map LnE.kp) sL' → x.k = rev → x.l = lineOf (Q.map LnE.ka) rev → (A ++ x :: B).map LnE.ka = mset (Q.map LnE.ka) rev (lineOf (Q.map LnE.ka) rev) →
      St w0 (gtB b bf rA rL c room pat :: [Cl c T_int [I room]] :: sL' :: ((A ++ x :: B).map LnE.sg).flatten :: E) w' → k (some ⟨x.b, 0, none⟩) w') :
    L.call Pr n_gate_book_wait_Line_at [.pointer (some a), .string rev] (.one (.one .ptr)) k w := by
  subst ha
  refine call_of (C_gate_book_wait_Line_at _ _) ?_
  unfold F_gate_book_wait_Line_at
  refine jd ?_
  (repeat (first | refine nn ?_ | (refine dr h ?_; clear h; (try clear w); intro w h) | refine ld0_ h rfl rfl ?_ | refine ld1_ h rfl rfl ?_ | refine ld2_ h rfl rfl ?_ | refine ld3_ h rfl rfl ?_ | refine ld4_ h rfl rfl ?_ | refine ld5_ h rfl rfl ?_ | refine ld6_ h rfl rfl ?_ | refine ld7_ h rfl rfl ?_ | refine ld8_ h rfl rfl ?_ | refine ld9_ h rfl rfl ?_ | refine ld10_ h rfl rfl ?_ | refine ld11_ h rfl rfl ?_ | refine la0_ h rfl ?_ | refine la1_ h rfl ?_ | refine la2_ h rfl ?_ | refine la3_ h rfl ?_ | refine la4_ h rfl ?_ | refine la5_ h rfl ?_ | refine la6_ h rfl ?_ | refine la7_ h rfl ?_ | refine la8_ h rfl ?_ | refine la9_ h rfl ?_ | refine la10_ h rfl ?_ | refine la11_ h rfl ?_ | refine ck0_ h rfl ?_ | refine ck1_ h rfl ?_ | refine ck2_ h rfl ?_ | refine ck3_ h rfl ?_ | refine ck4_ h rfl ?_ | refine ck5_ h rfl ?_ | refine ck6_ h rfl ?_ | refine ck7_ h rfl ?_ | refine ck8_ h rfl ?_ | refine ck9_ h rfl ?_ | refine ck10_ h rfl ?_ | refine ck11_ h rfl ?_ | ((first | refine st0_ h rfl rfl ?_ | refine st1_ h rfl rfl ?_ | refine st2_ h rfl rfl ?_ | refine st3_ h rfl rfl ?_ | refine st4_ h rfl rfl ?_ | refine st5_ h rfl rfl ?_ | refine st6_ h rfl rfl ?_ | refine st7_ h rfl rfl ?_ | refine st8_ h rfl rfl ?_ | refine st9_ h rfl rfl ?_ | refine st10_ h rfl rfl ?_ | refine st11_ h rfl rfl ?_); clear h; (try clear w); intro w h; (try dsimp only [putN, setN] at h))))
  refine MpS.get2 mkS' und_lns zln (fun x : Option Addr => x) (fun _ => rfl) h 2 rfl hL ?_
  dsimp only
  cases hf : lfind LnE.k Q rev with
  | some x =>
    have e1 := lfind_kp (Q := Q) (rev := rev)
    have e2 := lfind_ka (Q := Q) (rev := rev)
    rw [hf] at e1 e2
    simp only [Option.map_some] at e1 e2
    rw [e1]
    refine itF rfl ?_
    (repeat (first | refine nn ?_ | (refine dr h ?_; clear h; (try clear w); intro w h) | refine ld0_ h rfl rfl ?_ | refine ld1_ h rfl rfl ?_ | refine ld2_ h rfl rfl ?_ | refine ld3_ h rfl rfl ?_ | refine ld4_ h rfl rfl ?_ | refine ld5_ h rfl rfl ?_ | refine ld6_ h rfl rfl ?_ | refine ld7_ h rfl rfl ?_ | refine ld8_ h rfl rfl ?_ | refine ld9_ h rfl rfl ?_ | refine ld10_ h rfl rfl ?_ | refine ld11_ h rfl rfl ?_ | refine la0_ h rfl ?_ | refine la1_ h rfl ?_ | refine la2_ h rfl ?_ | refine la3_ h rfl ?_ | refine la4_ h rfl ?_ | refine la5_ h rfl ?_ | refine la6_ h rfl ?_ | refine la7_ h rfl ?_ | refine la8_ h rfl ?_ | refine la9_ h rfl ?_ | refine la10_ h rfl ?_ | refine la11_ h rfl ?_ | refine ck0_ h rfl ?_ | refine ck1_ h rfl ?_ | refine ck2_ h rfl ?_ | refine ck3_ h rfl ?_ | refine ck4_ h rfl ?_ | refine ck5_ h rfl ?_ | refine ck6_ h rfl ?_ | refine ck7_ h rfl ?_ | refine ck8_ h rfl ?_ | refine ck9_ h rfl ?_ | refine ck10_ h rfl ?_ | refine ck11_ h rfl ?_ | ((first | refine st0_ h rfl rfl ?_ | refine st1_ h rfl rfl ?_ | refine st2_ h rfl rfl ?_ | refine st3_ h rfl rfl ?_ | refine st4_ h rfl rfl ?_ | refine st5_ h rfl rfl ?_ | refine st6_ h rfl rfl ?_ | refine st7_ h rfl rfl ?_ | refine st8_ h rfl rfl ?_ | refine st9_ h rfl rfl ?_ | refine st10_ h rfl rfl ?_ | refine st11_ h rfl rfl ?_); clear h; (try clear w); intro w h; (try dsimp only [putN, setN] at h))))
    refine MpS.get mkS' und_lns zln (fun x : Option Addr => x) (fun _ => rfl) h 2 rfl hL ?_
    rw [e1]
    obtain ⟨A, B, e, hx⟩ := lfind_at hf
    subst e
    refine ⟨_, rfl, hk sL A x B w hQ hL hx ?_ ?_ h⟩
    · unfold lineOf; rw [e2]; rfl
    · unfold lineOf; rw [e2]; exact (mset_same e2).symm
  | none =>
    have e1 := lfind_kp (Q := Q) (rev := rev)
    have e2 := lfind_ka (Q := Q) (rev := rev)
    rw [hf] at e1 e2
    simp only [Option.map_none] at e1 e2
    rw [e1]
    refine itT rfl ?_
    (repeat (first | refine nn ?_ | (refine dr h ?_; clear h; (try clear w); intro w h) | refine ld0_ h rfl rfl ?_ | refine ld1_ h rfl rfl ?_ | refine ld2_ h rfl rfl ?_ | refine ld3_ h rfl rfl ?_ | refine ld4_ h rfl rfl ?_ | refine ld5_ h rfl rfl ?_ | refine ld6_ h rfl rfl ?_ | refine ld7_ h rfl rfl ?_ | refine ld8_ h rfl rfl ?_ | refine ld9_ h rfl rfl ?_ | refine ld10_ h rfl rfl ?_ | refine ld11_ h rfl rfl ?_ | refine la0_ h rfl ?_ | refine la1_ h rfl ?_ | refine la2_ h rfl ?_ | refine la3_ h rfl ?_ | refine la4_ h rfl ?_ | refine la5_ h rfl ?_ | refine la6_ h rfl ?_ | refine la7_ h rfl ?_ | refine la8_ h rfl ?_ | refine la9_ h rfl ?_ | refine la10_ h rfl ?_ | refine la11_ h rfl ?_ | refine ck0_ h rfl ?_ | refine ck1_ h rfl ?_ | refine ck2_ h rfl ?_ | refine ck3_ h rfl ?_ | refine ck4_ h rfl ?_ | refine ck5_ h rfl ?_ | refine ck6_ h rfl ?_ | refine ck7_ h rfl ?_ | refine ck8_ h rfl ?_ | refine ck9_ h rfl ?_ | refine ck10_ h rfl ?_ | refine ck11_ h rfl ?_ | ((first | refine st0_ h rfl rfl ?_ | refine st1_ h rfl rfl ?_ | refine st2_ h rfl rfl ?_ | refine st3_ h rfl rfl ?_ | refine st4_ h rfl rfl ?_ | refine st5_ h rfl rfl ?_ | refine st6_ h rfl rfl ?_ | refine st7_ h rfl rfl ?_ | refine st8_ h rfl rfl ?_ | refine st9_ h rfl rfl ?_ | refine st10_ h rfl rfl ?_ | refine st11_ h rfl rfl ?_); clear h; (try clear w); intro w h; (try dsimp only [putN, setN] at h))))
    refine callV_of (fs := #[]) (cs := #[.pointer (some ⟨c, 0, none⟩)]) E_gate_New_1 (C_gate_New_1 ⟨c, 0, none⟩) ?_
    unfold F_gate_New_1
    (repeat (first | refine nn ?_ | (refine dr h ?_; clear h; (try clear w); intro w h) | refine ld0_ h rfl rfl ?_ | refine ld1_ h rfl rfl ?_ | refine ld2_ h rfl rfl ?_ | refine ld3_ h rfl rfl ?_ | refine ld4_ h rfl rfl ?_ | refine ld5_ h rfl rfl ?_ | refine ld6_ h rfl rfl ?_ | refine ld7_ h rfl rfl ?_ | refine ld8_ h rfl rfl ?_ | refine ld9_ h rfl rfl ?_ | refine ld10_ h rfl rfl ?_ | refine ld11_ h rfl rfl ?_ | refine la0_ h rfl ?_ | refine la1_ h rfl ?_ | refine la2_ h rfl ?_ | refine la3_ h rfl ?_ | refine la4_ h rfl ?_ | refine la5_ h rfl ?_ | refine la6_ h rfl ?_ | refine la7_ h rfl ?_ | refine la8_ h rfl ?_ | refine la9_ h rfl ?_ | refine la10_ h rfl ?_ | refine la11_ h rfl ?_ | refine ck0_ h rfl ?_ | refine ck1_ h rfl ?_ | refine ck2_ h rfl ?_ | refine ck3_ h rfl ?_ | refine ck4_ h rfl ?_ | refine ck5_ h rfl ?_ | refine ck6_ h rfl ?_ | refine ck7_ h rfl ?_ | refine ck8_ h rfl ?_ | refine ck9_ h rfl ?_ | refine ck10_ h rfl ?_ | refine ck11_ h rfl ?_ | ((first | refine st0_ h rfl rfl ?_ | refine st1_ h rfl rfl ?_ | refine st2_ h rfl rfl ?_ | refine st3_ h rfl rfl ?_ | refine st4_ h rfl rfl ?_ | refine st5_ h rfl rfl ?_ | refine st6_ h rfl rfl ?_ | refine st7_ h rfl rfl ?_ | refine st8_ h rfl rfl ?_ | refine st9_ h rfl rfl ?_ | refine st10_ h rfl rfl ?_ | refine st11_ h rfl rfl ?_); clear h; (try clear w); intro w h; (try dsimp only [putN, setN] at h))))
    refine S_wNew h fun b2 s2 w hl h => ⟨_, rfl, ?_⟩
    have h := fr4_ (fr4_ (fr4_ (fr4_ h)))
    (repeat (first | refine nn ?_ | (refine dr h ?_; clear h; (try clear w); intro w h) | refine ld0_ h rfl rfl ?_ | refine ld1_ h rfl rfl ?_ | refine ld2_ h rfl rfl ?_ | refine ld3_ h rfl rfl ?_ | refine ld4_ h rfl rfl ?_ | refine ld5_ h rfl rfl ?_ | refine ld6_ h rfl rfl ?_ | refine ld7_ h rfl rfl ?_ | refine ld8_ h rfl rfl ?_ | refine ld9_ h rfl rfl ?_ | refine ld10_ h rfl rfl ?_ | refine ld11_ h rfl rfl ?_ | refine la0_ h rfl ?_ | refine la1_ h rfl ?_ | refine la2_ h rfl ?_ | refine la3_ h rfl ?_ | refine la4_ h rfl ?_ | refine la5_ h rfl ?_ | refine la6_ h rfl ?_ | refine la7_ h rfl ?_ | refine la8_ h rfl ?_ | refine la9_ h rfl ?_ | refine la10_ h rfl ?_ | refine la11_ h rfl ?_ | refine ck0_ h rfl ?_ | refine ck1_ h rfl ?_ | refine ck2_ h rfl ?_ | refine ck3_ h rfl ?_ | refine ck4_ h rfl ?_ | refine ck5_ h rfl ?_ | refine ck6_ h rfl ?_ | refine ck7_ h rfl ?_ | refine ck8_ h rfl ?_ | refine ck9_ h rfl ?_ | refine ck10_ h rfl ?_ | refine ck11_ h rfl ?_ | ((first | refine st0_ h rfl rfl ?_ | refine st1_ h rfl rfl ?_ | refine st2_ h rfl rfl ?_ | refine st3_ h rfl rfl ?_ | refine st4_ h rfl rfl ?_ | refine st5_ h rfl rfl ?_ | refine st6_ h rfl rfl ?_ | refine st7_ h rfl rfl ?_ | refine st8_ h rfl rfl ?_ | refine st9_ h rfl rfl ?_ | refine st10_ h rfl rfl ?_ | refine st11_ h rfl rfl ?_); clear h; (try clear w); intro w h; (try dsimp only [putN, setN] at h))))
    refine MpS.set mkS' und_lns h 2 rfl hL (some ⟨b2, 0, none⟩) rfl fun sL' w hL' h => ?_
    rw [mset_none e1] at hL'
    have h : St w0 (gtB b bf rA rL c room pat :: [Cl c T_int [I room]] :: sL' :: (Q.map LnE.sg).flatten :: s2 :: E) w := h
    have ekp : Q.map LnE.kp ++ [(rev, some (⟨b2, 0, none⟩ : Addr))] = (Q ++ [(⟨rev, b2, [], s2⟩ : LnE)]).map LnE.kp := by simp
    rw [ekp] at hL'
    (repeat (first | refine nn ?_ | (refine dr h ?_; clear h; (try clear w); intro w h) | refine ld0_ h rfl rfl ?_ | refine ld1_ h rfl rfl ?_ | refine ld2_ h rfl rfl ?_ | refine ld3_ h rfl rfl ?_ | refine ld4_ h rfl rfl ?_ | refine ld5_ h rfl rfl ?_ | refine ld6_ h rfl rfl ?_ | refine ld7_ h rfl rfl ?_ | refine ld8_ h rfl rfl ?_ | refine ld9_ h rfl rfl ?_ | refine ld10_ h rfl rfl ?_ | refine ld11_ h rfl rfl ?_ | refine la0_ h rfl ?_ | refine la1_ h rfl ?_ | refine la2_ h rfl ?_ | refine la3_ h rfl ?_ | refine la4_ h rfl ?_ | refine la5_ h rfl ?_ | refine la6_ h rfl ?_ | refine la7_ h rfl ?_ | refine la8_ h rfl ?_ | refine la9_ h rfl ?_ | refine la10_ h rfl ?_ | refine la11_ h rfl ?_ | refine ck0_ h rfl ?_ | refine ck1_ h rfl ?_ | refine ck2_ h rfl ?_ | refine ck3_ h rfl ?_ | refine ck4_ h rfl ?_ | refine ck5_ h rfl ?_ | refine ck6_ h rfl ?_ | refine ck7_ h rfl ?_ | refine ck8_ h rfl ?_ | refine ck9_ h rfl ?_ | refine ck10_ h rfl ?_ | refine ck11_ h rfl ?_ | ((first | refine st0_ h rfl rfl ?_ | refine st1_ h rfl rfl ?_ | refine st2_ h rfl rfl ?_ | refine st3_ h rfl rfl ?_ | refine st4_ h rfl rfl ?_ | refine st5_ h rfl rfl ?_ | refine st6_ h rfl rfl ?_ | refine st7_ h rfl rfl ?_ | refine st8_ h rfl rfl ?_ | refine st9_ h rfl rfl ?_ | refine st10_ h rfl rfl ?_ | refine st11_ h rfl rfl ?_); clear h; (try clear w); intro w h; (try dsimp only [putN, setN] at h))))
    refine MpS.get mkS' und_lns zln (fun x : Option Addr => x) (fun _ => rfl) h 2 rfl hL' ?_
    have e3 : mget ((Q ++ [(⟨rev, b2, [], s2⟩ : LnE)]).map LnE.kp) rev = some (some ⟨b2, 0, none⟩) := by
      rw [← ekp, ← mset_none e1, mget_mset, if_pos rfl]
    rw [e3]
    refine ⟨_, rfl, hk sL' Q ⟨rev, b2, [], s2⟩ [] w ?_ hL' rfl ?_ ?_ ?_⟩
    · intro y hy
      rcases List.mem_append.1 hy with hy | hy
      · exact hQ y hy
      · simp at hy; subst hy; exact hl
    · unfold lineOf; rw [e2]; rfl
    · unfold lineOf; rw [e2, mset_none e2]; simp
    · exact h.eq (by simp)
end Go.Proofs.YthmpbgloifdcnaaGreat
namespace Go.Proofs.YthmpbgloifdcnaaGreat
open Go.Dm
attribute [local irreducible] L.load L.store L.chk L.new L.nonnil L.guard L.ite L.draw L.idx L.sem L.semR L.semU L.chkSem L.next L.call L.callV L.join L.alts L.loop L.begin L.endRound L.range
variable {w0 w : World} {E : List Seg}
theorem fTake_no {F : AFleet} {rev : ByteArray} {q : Int} (h : (fTake F rev q).2.2 = false) : (fTake F rev q).1 = F := by
  unfold fTake at *
  split
  · rfl
  · rename_i hw; rw [if_neg hw] at h
    split at h
    · rename_i hp; simp [hp]
    · cases h
theorem lPush_no {room : Int} {l : List (Int × Int)} {id u : Int} (h : (lPush room l id u).2 ≠ 0) : (lPush room l id u).1 = l := by
  unfold lPush at *; split
  · rfl
  · split
    · rfl
    · rename_i h1 h2; rw [if_neg h1, if_neg h2] at h; simp at h
theorem lPush_len {room : Int} {l : List (Int × Int)} {id u : Int} (h : (l.length : Int) ≤ room) : ((lPush room l id u).1.length : Int) ≤ room := by
  unfold lPush; split
  · exact h
  · split
    · exact h
    · simp only [List.length_append, List.length_cons, List.length_nil]; omega
theorem lineOf_len {G : AGate} (ok : G.Ok) (rev : ByteArray) : ((lineOf G.lines rev).length : Int) ≤ G.room := by
  unfold lineOf
  cases h : mget G.lines rev with
  | none => simp; exact ok.lo
  | some l => exact ok.ln _ (mget_mem h)
theorem AGate.Ok.line {G : AGate} (ok : G.Ok) (hl : G.lines.length < 90000000) (rev : ByteArray) {l : List (Int × Int)} (h : (l.length : Int) ≤ G.room) : ({ G with lines := mset G.lines rev l } : AGate).Ok := by
  refine ⟨ok.few, ok.lo, ok.hi, fun x hx => ?_, mset_nd ok.nd, ok.nda, ?_⟩
  · rcases mset_mem hx with rfl | hx
    · exact h
    · exact ok.ln x hx
  · have := mset_le' G.lines rev l; simp only; omega
theorem AGate.Ok.req {G : AGate} (ok : G.Ok) (hn : G.all.length < 90000000) (id : Int) (x : ByteArray × Int) : ({ G with all := mset G.all id x } : AGate).Ok := by
  refine ⟨?_, ok.lo, ok.hi, ok.ln, ok.nd, mset_nd ok.nda, ok.fl⟩
  have := mset_le' G.all id x; simp only; omega
theorem AGate.Ok.reqIn {G : AGate} (ok : G.Ok) {id : Int} (h : (mget G.all id).isSome = true) (x : ByteArray × Int) : ({ G with all := mset G.all id x } : AGate).Ok := by
  refine ⟨?_, ok.lo, ok.hi, ok.ln, ok.nd, mset_nd ok.nda, ok.fl⟩
  cases hg : mget G.all id with
  | none => rw [hg] at h; cases h
  | some v => simp only; rw [mset_len hg]; exact ok.few
/-- a request comes -/
def gArr (F : AFleet) (G : AGate) (id : Int) (rev : ByteArray) (now : Int) : AFleet × AGate × Fate :=
  if gSeen G.all id = true then (F, G, (id, 4, 0, s_twice, ()))
  else if rev = s_ then (F, { G with all := mset G.all id (s_, 4) }, (id, 4, 0, s_no_route, ()))
  else if (lineOf G.lines rev).length = 0 ∧ (fTake F rev id).2.2 = true then
    ((fTake F rev id).1, { G with all := mset G.all id (rev, 1), lines := mset G.lines rev (lineOf G.lines rev) }, (id, 1, (fTake F rev id).2.1, s_, ()))
  else if (lPush G.room (lineOf G.lines rev) id (now + G.pat)).2 ≠ 0 then
    (F, { G with all := mset G.all id (rev, 4), lines := mset G.lines rev (lineOf G.lines rev) }, (id, 4, 0, s_overflow, ()))
  else (F, { G with all := mset G.all id (rev, 2), lines := mset G.lines rev (lPush G.room (lineOf G.lines rev) id (now + G.pat)).1 }, (id, 2, 0, s_, ()))
/-- how many pods there may be -/
abbrev podsMost : Int := 20
/-- what a fleet must be, for a request to be given out -/
structure FFew (F : AFleet) : Prop where
  r : F.room ≤ podsMost
  l : (F.l.length : Int) ≤ max F.room 0
  q : ∀ x ∈ F.l, x.pod.reqs.length ≤ 1000 ∧ x.pod.conc ≤ 1000
theorem FFew.l20 {F : AFleet} (h : FFew F) : F.l.length ≤ 20 := by have := h.r; have := h.l; unfold podsMost at *; omega
theorem FFew.q7 {F : AFleet} (h : FFew F) : ∀ x ∈ F.l, x.pod.reqs.length < 10000000 := fun x hx => by have := (h.q x hx).1; omega
theorem fUpd_mem {l : List AHeld} {id : Int} {g : APod → APod} {y : AHeld} (h : y ∈ fUpd l id g) : y ∈ l ∨ ∃ x ∈ l, x.id = id ∧ y = { x with pod := g x.pod } := by
  unfold fUpd at h
  obtain ⟨x, hx, hy⟩ := List.mem_filterMap.1 h
  split at hy
  · rename_i e
    split at hy
    · cases hy
    · cases hy; exact .inr ⟨x, hx, e, rfl⟩
  · cases hy; exact .inl hx
theorem fUpd_len (l : List AHeld) (id : Int) (g : APod → APod) : (fUpd l id g).length ≤ l.length := List.length_filterMap_le ..
theorem FFew.upd {F : AFleet} (h : FFew F) (id : Int) (g : APod → APod) (hg : ∀ x ∈ F.l, x.id = id → (g x.pod).reqs.length ≤ 1000 ∧ (g x.pod).conc ≤ 1000) : FFew { F with l := fUpd F.l id g } := by
  refine ⟨h.r, ?_, fun y hy => ?_⟩
  · have := h.l; have := fUpd_len F.l id g; simp only; omega
  · rcases fUpd_mem hy with hy | ⟨x, hx, hid, rfl⟩
    · exact h.q y hy
    · exact hg x hx hid
theorem podTake_few {p : APod} {q : Int} (h : p.reqs.length ≤ 1000 ∧ p.conc ≤ 1000) : (podTake p q).1.reqs.length ≤ 1000 ∧ (podTake p q).1.conc ≤ 1000 := by
  unfold podTake; split
  · exact h
  · split
    · exact h
    · split
      · exact h
      · rename_i h3
        have := (insI_perm q p.reqs).length_eq
        simp only [List.length_cons] at this
        refine ⟨?_, h.2⟩
        simp only; omega
theorem FFew.take {F : AFleet} (h : FFew F) (rev : ByteArray) (q : Int) : FFew (fTake F rev q).1 := by
  unfold fTake; split
  · exact h
  · split
    · exact h
    · exact h.upd _ _ fun x hx _ => podTake_few (h.q x hx)
theorem podGive_few {p : APod} {q : Int} (h : p.reqs.length ≤ 1000 ∧ p.conc ≤ 1000) : (podGive p q).1.reqs.length ≤ 1000 ∧ (podGive p q).1.conc ≤ 1000 := by
  unfold podGive; split
  · have := (List.erase_sublist (a := q) (l := p.reqs)).length_le
    exact ⟨by simp only; omega, h.2⟩
  · exact h
theorem FFew.give {F : AFleet} (h : FFew F) (q : Int) : FFew (fGive F q).1 := by
  unfold fGive; split
  · exact h
  · exact h.upd _ _ fun x hx _ => podGive_few (h.q x hx)
theorem FFew.kill {F : AFleet} (h : FFew F) (id : Int) : FFew (fKill F id).1 := by
  unfold fKill; split
  · exact h
  · refine h.upd _ _ fun x hx _ => ?_
    unfold podKill; split
    · exact h.q x hx
    · exact ⟨by simp, (h.q x hx).2⟩
theorem FFew.up {F : AFleet} (h : FFew F) (id : Int) : FFew { F with l := fUpd F.l id fun p => (podUp p).1 } := by
  refine h.upd _ _ fun x hx _ => ?_
  unfold podUp; split <;> exact h.q x hx
theorem FFew.drain {F : AFleet} (h : FFew F) (rev : ByteArray) : FFew (drain1 rev F) := by
  refine h.upd _ _ fun x hx _ => ?_
  unfold podDrain; split <;> exact h.q x hx
theorem FFew.shrink (rev : ByteArray) : ∀ (n : Nat) {F : AFleet}, FFew F → FFew (YthmpbgloifdcnaaGreat.shrink rev n F).1
  | 0, _, h => h
  | n + 1, F, h => FFew.shrink rev n (h.drain rev)
theorem FFew.grow1 {F : AFleet} (h : FFew F) (rev : ByteArray) {conc : Int} (hc : conc ≤ 1000) (hl : (F.l.length : Int) + 1 ≤ max F.room 0) : FFew (YthmpbgloifdcnaaGreat.grow1 rev conc F) := by
  refine ⟨h.r, ?_, fun x hx => ?_⟩
  · simp only [YthmpbgloifdcnaaGreat.grow1, List.length_append, List.length_cons, List.length_nil]; omega
  · rcases List.mem_append.1 hx with hx | hx
    · exact h.q x hx
    · simp at hx; subst hx; exact ⟨by simp, hc⟩
theorem FFew.grow (rev : ByteArray) {conc : Int} (hc : conc ≤ 1000) : ∀ (n : Nat) {F : AFleet}, FFew F → (F.l.length : Int) + n ≤ max F.room 0 → FFew (YthmpbgloifdcnaaGreat.grow rev conc n F)
  | 0, _, h, _ => h
  | n + 1, F, h, hl => by
    have h1 := FFew.grow rev hc n h (by omega)
    refine h1.grow1 rev hc ?_
    rw [grow_len, grow_room]; omega
theorem FFew.scale {F : AFleet} (h : FFew F) (rev : ByteArray) {conc : Int} (hc : conc ≤ 1000) (want : Int) : FFew (fScale F rev conc want).1 := by
  refine FFew.shrink rev _ (FFew.grow rev hc _ h ?_)
  have := h.l
  unfold growN; omega
theorem fate1 {f : Fate} {b : Nat} : Rw Fate.cells T_gate_Fate 4 ⟨some ⟨b, 0, none⟩, 1, 1⟩ [f] [Cl b T_gate_Fate (Fate.cells f)] := Rw.lit b [f] encF (by simp [fl]) rfl (by simp [maxLen])
/-- one line turned -/
theorem line_turn {A B : List LnE} {x : LnE} {s' : Seg} {l' : List (Int × Int)} {ls : List (ByteArray × List (Int × Int))} {rev : ByteArray} {l : List (Int × Int)} (e : (A ++ x :: B).map LnE.ka = mset ls rev l) (hx : x.k = rev) (hnd : ((A ++ x :: B).map LnE.ka).map (·.1) |>.Nodup) :
    (A ++ (⟨x.k, x.b, l', s'⟩ : LnE) :: B).map LnE.ka = mset ls rev l' := by
  have h1 : mget ((A ++ x :: B).map LnE.ka) rev = some x.l := mget_of_mem hnd (by rw [← hx]; exact List.mem_map_of_mem (f := LnE.ka) (by simp))
  have h2 : mset ((A ++ x :: B).map LnE.ka) rev l' = (A ++ (⟨x.k, x.b, l', s'⟩ : LnE) :: B).map LnE.ka := by
    clear e h1
    induction A with
    | nil => simp [mset, hx]
    | cons y A ih =>
      have hne : y.k ≠ rev := by
        intro e
        have := hnd
        simp only [List.cons_append, List.map_cons, List.nodup_cons] at this
        refine this.1 ?_
        rw [e, ← hx]
        simp
      simp only [List.cons_append, List.map_cons, mset]
      rw [if_neg hne]
      congr 1
      refine ih ?_
      have := hnd
      simp only [List.cons_append, List.map_cons, List.nodup_cons] at this
      exact this.2
  rw [← h2, e, mset_mset]
theorem S_gArr {sg sf : Seg} (h : St w0 (sg :: sf :: E) w) {b bf : Nat} {G : AGate} {F : AFleet} (hg : GtS b bf G sg) (hf : FlS bf F sf) (hfew : FFew F) (hn : G.all.length < 90000000) (hl : G.lines.length < 90000000) {id : Int} {rev : ByteArray} {now : Int} (hnow : -1000000000000 < now + G.pat ∧ now + G.pat < 1000000000000) {k : Sl → PT}
    (hk : ∀ v sv sg' sf' w', Rw Fate.cells T_gate_Fate 4 v [(gArr F G id rev now).2.2] sv → GtS b bf (gArr F G id rev now).2.1 sg' → FlS bf (gArr F G id rev now).1 sf' → St w0 (sv :: sg' :: sf' :: E) w' → k v w') :
    L.call Pr n_gate_Gate_Arrive [.pointer (some ⟨b, 0, none⟩), I id, .string rev, I now] (.one (.one .slice)) k w := by
  obtain ⟨ok, rA, rL, c, sA, sL, Q, hr, rfl⟩ := hg
  refine call_of (C_gate_Gate_Arrive _ _ _ _) ?_
  unfold F_gate_Gate_Arrive
  unfold gArr at hk
  have h := h.split5
  have h := fr1_ (fr2_ h)
  refine S_gseen hr.all h fun w h => ?_
  refine it (fun hs => ?_) (fun hs => ?_) <;> (try simp only [decide_eq_true_eq, decide_eq_false_iff_not, beq_iff_eq, bne_iff_ne, beq_eq_false_iff_ne, bne_eq_false_iff_eq, Bool.not_eq_true', Bool.not_eq_false', ne_eq, Bool.not_eq_true, Bool.not_eq_false] at hs)
  · rw [if_pos hs] at hk
    refine S_gwhy h fun w h => ?_
    refine nw h ?_; clear h; (try clear w); intro b3 w h
    (repeat (first | refine nn ?_ | (refine dr h ?_; clear h; (try clear w); intro w h) | refine ld0_ h rfl rfl ?_ | refine ld1_ h rfl rfl ?_ | refine ld2_ h rfl rfl ?_ | refine ld3_ h rfl rfl ?_ | refine ld4_ h rfl rfl ?_ | refine ld5_ h rfl rfl ?_ | refine ld6_ h rfl rfl ?_ | refine ld7_ h rfl rfl ?_ | refine ld8_ h rfl rfl ?_ | refine ld9_ h rfl rfl ?_ | refine ld10_ h rfl rfl ?_ | refine ld11_ h rfl rfl ?_ | refine la0_ h rfl ?_ | refine la1_ h rfl ?_ | refine la2_ h rfl ?_ | refine la3_ h rfl ?_ | refine la4_ h rfl ?_ | refine la5_ h rfl ?_ | refine la6_ h rfl ?_ | refine la7_ h rfl ?_ | refine la8_ h rfl ?_ | refine la9_ h rfl ?_ | refine la10_ h rfl ?_ | refine la11_ h rfl ?_ | refine ck0_ h rfl ?_ | refine ck1_ h rfl ?_ | refine ck2_ h rfl ?_ | refine ck3_ h rfl ?_ | refine ck4_ h rfl ?_ | refine ck5_ h rfl ?_ | refine ck6_ h rfl ?_ | refine ck7_ h rfl ?_ | refine ck8_ h rfl ?_ | refine ck9_ h rfl ?_ | refine ck10_ h rfl ?_ | refine ck11_ h rfl ?_ | ((first | refine st0_ h rfl rfl ?_ | refine st1_ h rfl rfl ?_ | refine st2_ h rfl rfl ?_ | refine st3_ h rfl rfl ?_ | refine st4_ h rfl rfl ?_ | refine st5_ h rfl rfl ?_ | refine st6_ h rfl rfl ?_ | refine st7_ h rfl rfl ?_ | refine st8_ h rfl rfl ?_ | refine st9_ h rfl rfl ?_ | refine st10_ h rfl rfl ?_ | refine st11_ h rfl rfl ?_); clear h; (try clear w); intro w h; (try dsimp only [putN, setN] at h))))
    refine nw h ?_; clear h; (try clear w); intro b5 w h
    have h := dl1_ h
    have h := fr6_ (fr6_ (fr5_ (fr6_ (fr6_ (fr6_ h)))))
    obtain ⟨sg, hg, h⟩ := gt_close ok hr h
    have h := fr2_ (fr1_ (fr1_ h))
    exact ⟨_, rfl, hk _ _ sg sf w fate1 hg hf h⟩
  · rw [if_neg (by simp [hs])] at hk
    rw [str_eq]
    refine it (fun he => ?_) (fun he => ?_) <;> (try simp only [decide_eq_true_eq, decide_eq_false_iff_not, beq_iff_eq, bne_iff_ne, beq_eq_false_iff_ne, bne_eq_false_iff_eq, Bool.not_eq_true', Bool.not_eq_false', ne_eq, Bool.not_eq_true, Bool.not_eq_false] at he)
    · rw [if_pos he] at hk
      refine S_gwhy h fun w h => ?_
      refine S_gset (f := (0, 4, 0, s_no_route, ())) hr.all h fun sA' w hA' h => ?_
      refine nw h ?_; clear h; (try clear w); intro b8 w h
      have h := fr6_ (fr6_ (fr5_ (fr6_ (fr6_ (fr6_ h)))))
      obtain ⟨sg, hg, h⟩ := gt_close (ok.req hn id (s_, 4)) (Q := Q) ⟨hA', hr.lns, hr.each, hr.abs⟩ h
      have h := fr2_ (fr1_ (fr1_ h))
      exact ⟨_, rfl, hk _ _ sg sf w fate1 hg hf h⟩
    · rw [if_neg he] at hk
      have h := fr3_ (fr4_ (fr4_ (fr4_ h)))
      (repeat (first | refine nn ?_ | (refine dr h ?_; clear h; (try clear w); intro w h) | refine ld0_ h rfl rfl ?_ | refine ld1_ h rfl rfl ?_ | refine ld2_ h rfl rfl ?_ | refine ld3_ h rfl rfl ?_ | refine ld4_ h rfl rfl ?_ | refine ld5_ h rfl rfl ?_ | refine ld6_ h rfl rfl ?_ | refine ld7_ h rfl rfl ?_ | refine ld8_ h rfl rfl ?_ | refine ld9_ h rfl rfl ?_ | refine ld10_ h rfl rfl ?_ | refine ld11_ h rfl rfl ?_ | refine la0_ h rfl ?_ | refine la1_ h rfl ?_ | refine la2_ h rfl ?_ | refine la3_ h rfl ?_ | refine la4_ h rfl ?_ | refine la5_ h rfl ?_ | refine la6_ h rfl ?_ | refine la7_ h rfl ?_ | refine la8_ h rfl ?_ | refine la9_ h rfl ?_ | refine la10_ h rfl ?_ | refine la11_ h rfl ?_ | refine ck0_ h rfl ?_ | refine ck1_ h rfl ?_ | refine ck2_ h rfl ?_ | refine ck3_ h rfl ?_ | refine ck4_ h rfl ?_ | refine ck5_ h rfl ?_ | refine ck6_ h rfl ?_ | refine ck7_ h rfl ?_ | refine ck8_ h rfl ?_ | refine ck9_ h rfl ?_ | refine ck10_ h rfl ?_ | refine ck11_ h rfl ?_ | ((first | refine st0_ h rfl rfl ?_ | refine st1_ h rfl rfl ?_ | refine st2_ h rfl rfl ?_ | refine st3_ h rfl rfl ?_ | refine st4_ h rfl rfl ?_ | refine st5_ h rfl rfl ?_ | refine st6_ h rfl rfl ?_ | refine st7_ h rfl rfl ?_ | refine st8_ h rfl rfl ?_ | refine st9_ h rfl rfl ?_ | refine st10_ h rfl rfl ?_ | refine st11_ h rfl rfl ?_); clear h; (try clear w); intro w h; (try dsimp only [putN, setN] at h))))
      refine S_gat (rev := rev) hr.lns hr.each h rfl fun sL' A x B w hQ' hL' hxk hxl hab h => ?_
      rw [← hr.abs] at hxl hab
      have hlen := lineOf_len ok rev
      have hnd : (((A ++ x :: B).map LnE.ka).map (·.1)).Nodup := by rw [hab]; exact mset_nd ok.nd
      have hx : LnS x.b G.room x.l x.sg := hQ' x (by simp)
      have ok1 := ok.line hl rev hlen
      have hhi := ok.hi
      have hll : x.l.length < 1000000000 := by rw [hxl]; omega
      -- the line in front
      have h := fr3_ (fr2_ (fr2_ (fr2_ h)))
      have h := h.pick
      have close : ∀ {G' : AGate} {sA' sx' : Seg} {l' : List (Int × Int)} {w}, G'.Ok → G'.room = G.room → G'.pat = G.pat → MpS KI vReq rA G'.all sA' → LnS x.b G.room l' sx' → G'.lines = mset G.lines rev l' →
          ∀ {E}, St w0 (gtB b bf rA rL c G.room G.pat :: sA' :: sx' :: ((A ++ B).map LnE.sg).flatten :: [Cl c T_int [I G.room]] :: sL' :: E) w → ∃ s, GtS b bf G' s ∧ St w0 (s :: E) w := by
        intro G' sA' sx' l' w ok' e1 e2 hA' hl' e3 E h
        have h := fr5_ (fr5_ (fr3_ (fr5_ (fr2_ (fr5_ h)))))
        have h : St w0 (LnE.sg ⟨x.k, x.b, l', sx'⟩ :: ((A ++ B).map LnE.sg).flatten :: gtB b bf rA rL c G.room G.pat :: [Cl c T_int [I G.room]] :: sA' :: sL' :: E) w := h
        have h := h.place
        have h := fr4_ (fr4_ (fr4_ (fr4_ h)))
        rw [← e1, ← e2] at h
        refine gt_close ok' ⟨hA', ?_, ?_, ?_⟩ h
        · simpa using hL'
        · intro y hy
          rw [e1]
          rcases List.mem_append.1 hy with hy | hy
          · exact hQ' y (by simp [hy])
          · rcases List.mem_cons.1 hy with rfl | hy
            · exact hl'
            · exact hQ' y (by simp [hy])
        · rw [e3]; exact (line_turn hab hxk hnd).symm
      have push : ∀ {w} {k11 : Unit → PT}, ¬ ((lineOf G.lines rev).length = 0 ∧ (fTake F rev id).2.2 = true) → ∀ {sA sf}, MpS KI vReq rA G.all sA → FlS bf F sf →
          St w0 (gtB b bf rA rL c G.room G.pat :: sA :: x.sg :: ((A ++ B).map LnE.sg).flatten :: [Cl c T_int [I G.room]] :: sL' :: sf :: E) w →
          (L.nonnil (some ⟨b, 0, none⟩) fun a18 => L.load (.one (.int .i64)) (a18.add 5) fun (x19 : Int) =>
            L.call Pr n_wait_Line_Push [.pointer (some ⟨x.b, 0, none⟩), .int .i64 id, .int .i64 (IntKind.wrap .i64 (now + x19))] (.one (.one (.int .i64))) fun (x20 : Int) =>
            L.ite (x20 != 0) (
              L.call Pr n_gate_why [.string s_overflow] (.one (.agg [.int .i64, .int .i64, .int .i64, .str])) fun (x21 : Int × Int × Int × ByteArray × Unit) =>
              L.call Pr n_gate_Gate_set [.pointer (some ⟨b, 0, none⟩), .int .i64 id, .string rev, .agg #[.int .i64 x21.1, .int .i64 x21.2.1, .int .i64 x21.2.2.1, .string x21.2.2.2.1]] (.one (.agg [.int .i64, .int .i64, .int .i64, .str])) fun (x22 : Int × Int × Int × ByteArray × Unit) =>
              L.new [.int .i64 x22.1, .int .i64 x22.2.1, .int .i64 x22.2.2.1, .string x22.2.2.2.1] T_gate_Fate fun b23 =>
              fun w' => ∃ y, Value.slice (some ⟨b23, 0, none⟩) 1 1 = RT.val (.one (.one .slice)) y ∧ k y w') <|
            L.call Pr n_gate_Gate_set [.pointer (some ⟨b, 0, none⟩), .int .i64 id, .string rev, .agg #[.int .i64 0, .int .i64 2, .int .i64 0, .string s_]] (.one (.agg [.int .i64, .int .i64, .int .i64, .str])) fun (x24 : Int × Int × Int × ByteArray × Unit) =>
            L.new [.int .i64 x24.1, .int .i64 x24.2.1, .int .i64 x24.2.2.1, .string x24.2.2.2.1] T_gate_Fate fun b25 =>
            fun w' => ∃ y, Value.slice (some ⟨b25, 0, none⟩) 1 1 = RT.val (.one (.one .slice)) y ∧ k y w') w := by
        intro w k11 hno sA sf hA hf h
        rw [if_neg hno] at hk
        (repeat (first | refine nn ?_ | (refine dr h ?_; clear h; (try clear w); intro w h) | refine ld0_ h rfl rfl ?_ | refine ld1_ h rfl rfl ?_ | refine ld2_ h rfl rfl ?_ | refine ld3_ h rfl rfl ?_ | refine ld4_ h rfl rfl ?_ | refine ld5_ h rfl rfl ?_ | refine ld6_ h rfl rfl ?_ | refine ld7_ h rfl rfl ?_ | refine ld8_ h rfl rfl ?_ | refine ld9_ h rfl rfl ?_ | refine ld10_ h rfl rfl ?_ | refine ld11_ h rfl rfl ?_ | refine la0_ h rfl ?_ | refine la1_ h rfl ?_ | refine la2_ h rfl ?_ | refine la3_ h rfl ?_ | refine la4_ h rfl ?_ | refine la5_ h rfl ?_ | refine la6_ h rfl ?_ | refine la7_ h rfl ?_ | refine la8_ h rfl ?_ | refine la9_ h rfl ?_ | refine la10_ h rfl ?_ | refine la11_ h rfl ?_ | refine ck0_ h rfl ?_ | refine ck1_ h rfl ?_ | refine ck2_ h rfl ?_ | refine ck3_ h rfl ?_ | refine ck4_ h rfl ?_ | refine ck5_ h rfl ?_ | refine ck6_ h rfl ?_ | refine ck7_ h rfl ?_ | refine ck8_ h rfl ?_ | refine ck9_ h rfl ?_ | refine ck10_ h rfl ?_ | refine ck11_ h rfl ?_ | ((first | refine st0_ h rfl rfl ?_ | refine st1_ h rfl rfl ?_ | refine st2_ h rfl rfl ?_ | refine st3_ h rfl rfl ?_ | refine st4_ h rfl rfl ?_ | refine st5_ h rfl rfl ?_ | refine st6_ h rfl rfl ?_ | refine st7_ h rfl rfl ?_ | refine st8_ h rfl rfl ?_ | refine st9_ h rfl rfl ?_ | refine st10_ h rfl rfl ?_ | refine st11_ h rfl rfl ?_); clear h; (try clear w); intro w h; (try dsimp only [putN, setN] at h))))
        rw [wr (by omega) (by omega)]
        refine S_Push h 2 rfl hx hll fun sx' w hx' h => ?_
        rw [hxl] at hx' ⊢
        have h : St w0 (gtB b bf rA rL c G.room G.pat :: sA :: sx' :: ((A ++ B).map LnE.sg).flatten :: [Cl c T_int [I G.room]] :: sL' :: sf :: E) w := h
        refine it (fun hp => ?_) (fun hp => ?_) <;> (try simp only [decide_eq_true_eq, decide_eq_false_iff_not, beq_iff_eq, bne_iff_ne, beq_eq_false_iff_ne, bne_eq_false_iff_eq, Bool.not_eq_true', Bool.not_eq_false', ne_eq, Bool.not_eq_true, Bool.not_eq_false] at hp)
        · rw [if_pos hp] at hk
          rw [lPush_no hp] at hx'
          refine S_gwhy h fun w h => ?_
          refine S_gset (f := (0, 4, 0, s_overflow, ())) hA h fun sA' w hA' h => ?_
          refine nw h ?_; clear h; (try clear w); intro b23 w h
          have h := fr7_ (fr7_ (fr7_ (fr7_ (fr7_ (fr7_ (fr7_ h))))))
          obtain ⟨sg, hg, h⟩ := close (G' := { G with all := mset G.all id (rev, 4), lines := mset G.lines rev (lineOf G.lines rev) }) (ok1.req hn id (rev, 4)) rfl rfl hA' hx' rfl h
          have h := fr2_ (fr1_ (fr1_ h))
          exact ⟨_, rfl, hk _ _ sg sf w fate1 hg hf h⟩
        · rw [if_neg (by simpa using hp)] at hk
          refine S_gset (f := (0, 2, 0, s_, ())) hA h fun sA' w hA' h => ?_
          refine nw h ?_; clear h; (try clear w); intro b23 w h
          have h := fr7_ (fr7_ (fr7_ (fr7_ (fr7_ (fr7_ (fr7_ h))))))
          obtain ⟨sg, hg, h⟩ := close (G' := { G with all := mset G.all id (rev, 2), lines := mset G.lines rev (lPush G.room (lineOf G.lines rev) id (now + G.pat)).1 }) ((ok.line hl rev (lPush_len hlen)).req hn id (rev, 2)) rfl rfl hA' hx' rfl h
          have h := fr2_ (fr1_ (fr1_ h))
          exact ⟨_, rfl, hk _ _ sg sf w fate1 hg hf h⟩
      refine jd ?_
      refine S_wLen h 0 rfl hx ?_
      rw [hxl]
      have h : St w0 (x.sg :: ((A ++ B).map LnE.sg).flatten :: gtB b bf rA rL c G.room G.pat :: [Cl c T_int [I G.room]] :: sL' :: sA :: sf :: E) w := h
      refine it (fun h0 => ?_) (fun h0 => ?_) <;> (try simp only [decide_eq_true_eq, decide_eq_false_iff_not, beq_iff_eq, bne_iff_ne, beq_eq_false_iff_ne, bne_eq_false_iff_eq, Bool.not_eq_true', Bool.not_eq_false', ne_eq, Bool.not_eq_true, Bool.not_eq_false] at h0)
      · have h := fr4_ (fr6_ (fr6_ h))
        refine S_gsend hr.all hf hfew.l20 hfew.q7 h fun sA' sf' w hA' hf' h => ?_
        cases ht : (fTake F rev id).2.2 with
        | true =>
          have e : gSend F G.all id rev = ((fTake F rev id).1, mset G.all id (rev, 1), (id, 1, (fTake F rev id).2.1, s_, ()), true) := by unfold gSend; rw [if_pos ht]
          rw [e] at hA' hf' ⊢
          rw [if_pos ⟨by omega, ht⟩] at hk
          refine nw h ?_; clear h; (try clear w); intro b15 w h
          (repeat (first | refine nn ?_ | (refine dr h ?_; clear h; (try clear w); intro w h) | refine ld0_ h rfl rfl ?_ | refine ld1_ h rfl rfl ?_ | refine ld2_ h rfl rfl ?_ | refine ld3_ h rfl rfl ?_ | refine ld4_ h rfl rfl ?_ | refine ld5_ h rfl rfl ?_ | refine ld6_ h rfl rfl ?_ | refine ld7_ h rfl rfl ?_ | refine ld8_ h rfl rfl ?_ | refine ld9_ h rfl rfl ?_ | refine ld10_ h rfl rfl ?_ | refine ld11_ h rfl rfl ?_ | refine la0_ h rfl ?_ | refine la1_ h rfl ?_ | refine la2_ h rfl ?_ | refine la3_ h rfl ?_ | refine la4_ h rfl ?_ | refine la5_ h rfl ?_ | refine la6_ h rfl ?_ | refine la7_ h rfl ?_ | refine la8_ h rfl ?_ | refine la9_ h rfl ?_ | refine la10_ h rfl ?_ | refine la11_ h rfl ?_ | refine ck0_ h rfl ?_ | refine ck1_ h rfl ?_ | refine ck2_ h rfl ?_ | refine ck3_ h rfl ?_ | refine ck4_ h rfl ?_ | refine ck5_ h rfl ?_ | refine ck6_ h rfl ?_ | refine ck7_ h rfl ?_ | refine ck8_ h rfl ?_ | refine ck9_ h rfl ?_ | refine ck10_ h rfl ?_ | refine ck11_ h rfl ?_ | ((first | refine st0_ h rfl rfl ?_ | refine st1_ h rfl rfl ?_ | refine st2_ h rfl rfl ?_ | refine st3_ h rfl rfl ?_ | refine st4_ h rfl rfl ?_ | refine st5_ h rfl rfl ?_ | refine st6_ h rfl rfl ?_ | refine st7_ h rfl rfl ?_ | refine st8_ h rfl rfl ?_ | refine st9_ h rfl rfl ?_ | refine st10_ h rfl rfl ?_ | refine st11_ h rfl rfl ?_); clear h; (try clear w); intro w h; (try dsimp only [putN, setN] at h))))
          refine itT rfl ?_
          (repeat (first | refine nn ?_ | (refine dr h ?_; clear h; (try clear w); intro w h) | refine ld0_ h rfl rfl ?_ | refine ld1_ h rfl rfl ?_ | refine ld2_ h rfl rfl ?_ | refine ld3_ h rfl rfl ?_ | refine ld4_ h rfl rfl ?_ | refine ld5_ h rfl rfl ?_ | refine ld6_ h rfl rfl ?_ | refine ld7_ h rfl rfl ?_ | refine ld8_ h rfl rfl ?_ | refine ld9_ h rfl rfl ?_ | refine ld10_ h rfl rfl ?_ | refine ld11_ h rfl rfl ?_ | refine la0_ h rfl ?_ | refine la1_ h rfl ?_ | refine la2_ h rfl ?_ | refine la3_ h rfl ?_ | refine la4_ h rfl ?_ | refine la5_ h rfl ?_ | refine la6_ h rfl ?_ | refine la7_ h rfl ?_ | refine la8_ h rfl ?_ | refine la9_ h rfl ?_ | refine la10_ h rfl ?_ | refine la11_ h rfl ?_ | refine ck0_ h rfl ?_ | refine ck1_ h rfl ?_ | refine ck2_ h rfl ?_ | refine ck3_ h rfl ?_ | refine ck4_ h rfl ?_ | refine ck5_ h rfl ?_ | refine ck6_ h rfl ?_ | refine ck7_ h rfl ?_ | refine ck8_ h rfl ?_ | refine ck9_ h rfl ?_ | refine ck10_ h rfl ?_ | refine ck11_ h rfl ?_ | ((first | refine st0_ h rfl rfl ?_ | refine st1_ h rfl rfl ?_ | refine st2_ h rfl rfl ?_ | refine st3_ h rfl rfl ?_ | refine st4_ h rfl rfl ?_ | refine st5_ h rfl rfl ?_ | refine st6_ h rfl rfl ?_ | refine st7_ h rfl rfl ?_ | refine st8_ h rfl rfl ?_ | refine st9_ h rfl rfl ?_ | refine st10_ h rfl rfl ?_ | refine st11_ h rfl rfl ?_); clear h; (try clear w); intro w h; (try dsimp only [putN, setN] at h))))
          refine nw h ?_; clear h; (try clear w); intro b17 w h
          have h := dl1_ h
          have h := fr7_ (fr7_ (fr7_ (fr7_ (fr7_ (fr7_ (fr3_ h))))))
          obtain ⟨sg, hg, h⟩ := close (G' := { G with all := mset G.all id (rev, 1), lines := mset G.lines rev (lineOf G.lines rev) }) (ok1.req hn id (rev, 1)) rfl rfl hA' (hxl ▸ hx) rfl h
          have h := fr2_ (fr1_ (fr1_ h))
          exact ⟨_, rfl, hk _ _ sg sf' w fate1 hg hf' h⟩
        | false =>
          have e : gSend F G.all id rev = ((fTake F rev id).1, G.all, (0, 0, 0, s_, ()), false) := by unfold gSend; rw [if_neg (by simp [ht])]
          rw [e] at hA' hf' ⊢
          dsimp only at hf'
          rw [fTake_no ht] at hf'
          refine nw h ?_; clear h; (try clear w); intro b15 w h
          (repeat (first | refine nn ?_ | (refine dr h ?_; clear h; (try clear w); intro w h) | refine ld0_ h rfl rfl ?_ | refine ld1_ h rfl rfl ?_ | refine ld2_ h rfl rfl ?_ | refine ld3_ h rfl rfl ?_ | refine ld4_ h rfl rfl ?_ | refine ld5_ h rfl rfl ?_ | refine ld6_ h rfl rfl ?_ | refine ld7_ h rfl rfl ?_ | refine ld8_ h rfl rfl ?_ | refine ld9_ h rfl rfl ?_ | refine ld10_ h rfl rfl ?_ | refine ld11_ h rfl rfl ?_ | refine la0_ h rfl ?_ | refine la1_ h rfl ?_ | refine la2_ h rfl ?_ | refine la3_ h rfl ?_ | refine la4_ h rfl ?_ | refine la5_ h rfl ?_ | refine la6_ h rfl ?_ | refine la7_ h rfl ?_ | refine la8_ h rfl ?_ | refine la9_ h rfl ?_ | refine la10_ h rfl ?_ | refine la11_ h rfl ?_ | refine ck0_ h rfl ?_ | refine ck1_ h rfl ?_ | refine ck2_ h rfl ?_ | refine ck3_ h rfl ?_ | refine ck4_ h rfl ?_ | refine ck5_ h rfl ?_ | refine ck6_ h rfl ?_ | refine ck7_ h rfl ?_ | refine ck8_ h rfl ?_ | refine ck9_ h rfl ?_ | refine ck10_ h rfl ?_ | refine ck11_ h rfl ?_ | ((first | refine st0_ h rfl rfl ?_ | refine st1_ h rfl rfl ?_ | refine st2_ h rfl rfl ?_ | refine st3_ h rfl rfl ?_ | refine st4_ h rfl rfl ?_ | refine st5_ h rfl rfl ?_ | refine st6_ h rfl rfl ?_ | refine st7_ h rfl rfl ?_ | refine st8_ h rfl rfl ?_ | refine st9_ h rfl rfl ?_ | refine st10_ h rfl rfl ?_ | refine st11_ h rfl rfl ?_); clear h; (try clear w); intro w h; (try dsimp only [putN, setN] at h))))
          refine itF rfl ?_
          have h := dl0_ h
          have h := fr6_ (fr6_ (fr6_ (fr6_ (fr6_ (fr6_ (fr2_ h))))))
          exact push (k11 := fun _ _ => True) (by simp [ht]) hA' hf' h
      · have h := fr6_ (fr6_ (fr4_ (fr4_ (fr5_ (fr5_ (fr6_ h))))))
        exact push (k11 := fun _ _ => True) (fun hh => h0 (by omega)) hr.all hf h
end Go.Proofs.YthmpbgloifdcnaaGreat
namespace Go.Proofs.YthmpbgloifdcnaaGreat
open Go.Dm
attribute [local irreducible] L.load L.store L.chk L.new L.nonnil L.guard L.ite L.draw L.idx L.sem L.semR L.semU L.chkSem L.next L.call L.callV L.join L.alts L.loop L.begin L.endRound L.range
variable {w0 w : World} {E : List Seg}
/-! ### those who wait are sent, as long as there is room -/
abbrev Alls := List (Int × (ByteArray × Int))
def flowA (rev : ByteArray) : List (Int × Int) → AFleet → Alls → List Fate → AFleet × Alls × List (Int × Int) × List Fate
  | [], F, all, out => (F, all, [], out)
  | x :: l, F, all, out => if (fTake F rev x.1).2.2 = true then flowA rev l (fTake F rev x.1).1 (mset all x.1 (rev, 1)) (out ++ [(x.1, 1, (fTake F rev x.1).2.1, s_, ())]) else (F, all, x :: l, out)
theorem flowA_few {rev : ByteArray} : ∀ {l : List (Int × Int)} {F : AFleet} {all : Alls} {out : List Fate}, FFew F → FFew (flowA rev l F all out).1
  | [], _, _, _, h => h
  | x :: l, F, all, out, h => by
    unfold flowA; split
    · exact flowA_few (h.take rev x.1)
    · exact h
theorem flowA_len {rev : ByteArray} : ∀ {l : List (Int × Int)} {F : AFleet} {all : Alls} {out : List Fate}, (flowA rev l F all out).2.1.length ≤ all.length + l.length ∧ (flowA rev l F all out).2.2.1.length ≤ l.length ∧ (flowA rev l F all out).2.2.2.length ≤ out.length + l.length
  | [], _, _, _ => by simp [flowA]
  | x :: l, F, all, out => by
    unfold flowA; split
    · have := flowA_len (rev := rev) (l := l) (F := (fTake F rev x.1).1) (all := mset all x.1 (rev, 1)) (out := out ++ [(x.1, 1, (fTake F rev x.1).2.1, s_, ())])
      have h2 := mset_le' all x.1 (rev, (1 : Int))
      simp only [List.length_append, List.length_cons, List.length_nil] at this ⊢
      omega
    · simp
theorem flowA_nd {rev : ByteArray} : ∀ {l : List (Int × Int)} {F : AFleet} {all : Alls} {out : List Fate}, (all.map (·.1)).Nodup → ((flowA rev l F all out).2.1.map (·.1)).Nodup
  | [], _, _, _, h => h
  | x :: l, F, all, out, h => by
    unfold flowA; split
    · exact flowA_nd (mset_nd h)
    · exact h
/-- a revision's line flows -/
def gFlow (F : AFleet) (G : AGate) (rev : ByteArray) : AFleet × AGate × List Fate :=
  ((flowA rev (lineOf G.lines rev) F G.all []).1, { G with all := (flowA rev (lineOf G.lines rev) F G.all []).2.1, lines := mset G.lines rev (flowA rev (lineOf G.lines rev) F G.all []).2.2.1 }, (flowA rev (lineOf G.lines rev) F G.all []).2.2.2)
theorem S_cloneF (h : St w0 E w) {v : Sl} {l : List Fate} (r : Rd w Fate.cells v l) (hn : l.length < 1000000000) (h64 : v.a = none → l = []) {k : Sl → PT}
    (hk : ∀ v' s' w', Rw Fate.cells T_gate_Fate 4 v' l s' → St w0 (s' :: E) w' → k v' w') : L.call Pr n_slices_Clone_gate_Fate_gate_Fate [SlV v] (.one (.one .slice)) k w := by
  refine call_of (C_slices_Clone_gate_Fate_gate_Fate v) ?_
  unfold F_slices_Clone_gate_Fate_gate_Fate
  exact clone_of (K := fun v w' => ∃ x, v = RT.val (.one (.one .slice)) x ∧ k x w') encF elF h r (by omega) (by omega) h64 fun v' s' w' h1 h2 h3 => ⟨v', rfl, hk v' s' w' h1 h3⟩
theorem gFlow_ok {F : AFleet} {G : AGate} (ok : G.Ok) (hn : G.all.length < 90000000) (hl : G.lines.length < 90000000) (rev : ByteArray) : (gFlow F G rev).2.1.Ok := by
  have hlen := lineOf_len ok rev
  have h1 := flowA_len (rev := rev) (l := lineOf G.lines rev) (F := F) (all := G.all) (out := [])
  have hhi := ok.hi
  unfold gFlow
  refine ⟨by simp only; omega, ok.lo, ok.hi, fun x hx => ?_, mset_nd ok.nd, flowA_nd ok.nda, ?_⟩
  · rcases mset_mem hx with rfl | hx
    · simp only; omega
    · exact ok.ln x hx
  · have := mset_le' G.lines rev (flowA rev (lineOf G.lines rev) F G.all []).2.2.1
    simp only; omega
theorem S_gFlow {sg sf : Seg} (h : St w0 (sg :: sf :: E) w) {b bf : Nat} {G : AGate} {F : AFleet} (hg : GtS b bf G sg) (hf : FlS bf F sf) (hfew : FFew F) (hn : G.all.length < 90000000) (hl : G.lines.length < 90000000) {rev : ByteArray} {k : Sl → PT}
    (hk : ∀ v sv sg' sf' w', Rw Fate.cells T_gate_Fate 4 v (gFlow F G rev).2.2 sv → GtS b bf (gFlow F G rev).2.1 sg' → FlS bf (gFlow F G rev).1 sf' → St w0 (sv :: sg' :: sf' :: E) w' → k v w') :
    L.call Pr n_gate_Gate_Flow [.pointer (some ⟨b, 0, none⟩), .string rev] (.one (.one .slice)) k w := by
  have ok' := gFlow_ok (F := F) hg.1 hn hl rev
  obtain ⟨ok, rA, rL, c, sA, sL, Q, hr, rfl⟩ := hg
  refine call_of (C_gate_Gate_Flow _ _) ?_
  unfold F_gate_Gate_Flow
  have h := h.split5
  have h := fr3_ (fr3_ (fr4_ (fr4_ h)))
  (repeat (first | refine nn ?_ | (refine dr h ?_; clear h; (try clear w); intro w h) | refine ld0_ h rfl rfl ?_ | refine ld1_ h rfl rfl ?_ | refine ld2_ h rfl rfl ?_ | refine ld3_ h rfl rfl ?_ | refine ld4_ h rfl rfl ?_ | refine ld5_ h rfl rfl ?_ | refine ld6_ h rfl rfl ?_ | refine ld7_ h rfl rfl ?_ | refine ld8_ h rfl rfl ?_ | refine ld9_ h rfl rfl ?_ | refine ld10_ h rfl rfl ?_ | refine ld11_ h rfl rfl ?_ | refine la0_ h rfl ?_ | refine la1_ h rfl ?_ | refine la2_ h rfl ?_ | refine la3_ h rfl ?_ | refine la4_ h rfl ?_ | refine la5_ h rfl ?_ | refine la6_ h rfl ?_ | refine la7_ h rfl ?_ | refine la8_ h rfl ?_ | refine la9_ h rfl ?_ | refine la10_ h rfl ?_ | refine la11_ h rfl ?_ | refine ck0_ h rfl ?_ | refine ck1_ h rfl ?_ | refine ck2_ h rfl ?_ | refine ck3_ h rfl ?_ | refine ck4_ h rfl ?_ | refine ck5_ h rfl ?_ | refine ck6_ h rfl ?_ | refine ck7_ h rfl ?_ | refine ck8_ h rfl ?_ | refine ck9_ h rfl ?_ | refine ck10_ h rfl ?_ | refine ck11_ h rfl ?_ | ((first | refine st0_ h rfl rfl ?_ | refine st1_ h rfl rfl ?_ | refine st2_ h rfl rfl ?_ | refine st3_ h rfl rfl ?_ | refine st4_ h rfl rfl ?_ | refine st5_ h rfl rfl ?_ | refine st6_ h rfl rfl ?_ | refine st7_ h rfl rfl ?_ | refine st8_ h rfl rfl ?_ | refine st9_ h rfl rfl ?_ | refine st10_ h rfl rfl ?_ | refine st11_ h rfl rfl ?_); clear h; (try clear w); intro w h; (try dsimp only [putN, setN] at h))))
  refine S_gat (rev := rev) hr.lns hr.each h rfl fun sL' A x B w hQ' hL' hxk hxl hab h => ?_
  rw [← hr.abs] at hxl hab
  have hlen := lineOf_len ok rev
  have hnd : (((A ++ x :: B).map LnE.ka).map (·.1)).Nodup := by rw [hab]; exact mset_nd ok.nd
  have hx : LnS x.b G.room x.l x.sg := hQ' x (by simp)
  have hhi := ok.hi
  have hfl := flowA_len (rev := rev) (l := lineOf G.lines rev) (F := F) (all := G.all) (out := [])
  have hll : x.l.length < 1000000000 := by rw [hxl]; omega
  have h := fr3_ (fr2_ (fr2_ (fr2_ h)))
  have h := h.pick
  -- the core, the line, all that came, the fleet, what is told
  refine join_of (fun z w => ∃ v sv sA' sx' sf', z = (v, ()) ∧ Rw Fate.cells T_gate_Fate 4 v (gFlow F G rev).2.2 sv ∧ MpS KI vReq rA (gFlow F G rev).2.1.all sA' ∧ LnS x.b G.room (flowA rev (lineOf G.lines rev) F G.all []).2.2.1 sx' ∧ FlS bf (gFlow F G rev).1 sf' ∧
      St w0 (gtB b bf rA rL c G.room G.pat :: sA' :: sf' :: sx' :: sv :: ((A ++ B).map LnE.sg).flatten :: [Cl c T_int [I G.room]] :: sL' :: E) w) (fun k3 hk3 => ?_) (fun z w ⟨v, sv, sA', sx', sf', hz, hrv, hA', hx', hf', h⟩ => ?_)
  · refine S_All h 0 rfl hx hll fun v5 s5 w hr5 h => ?_
    rw [hxl] at hr5 hx
    have hl5 := Rw.len encI hr5
    rw [List.length_map] at hl5
    have h : St w0 (s5 :: x.sg :: ((A ++ B).map LnE.sg).flatten :: gtB b bf rA rL c G.room G.pat :: [Cl c T_int [I G.room]] :: sL' :: sA :: sf :: E) w := h
    have h := fr5_ (fr7_ (fr7_ (fr1_ h)))
    refine loop_of (fun q y w => ∃ (j : Nat) (F' : AFleet) (all' : Alls) (out : List Fate) (v : Sl) (sv sA' sx' sf' : Seg), y = (v, (j : Int), ()) ∧ q + j = (lineOf G.lines rev).length ∧ FFew F' ∧ out.length = j ∧
        flowA rev ((lineOf G.lines rev).drop j) F' all' out = flowA rev (lineOf G.lines rev) F G.all [] ∧ Rw Fate.cells T_gate_Fate 4 v out sv ∧ MpS KI vReq rA all' sA' ∧ LnS x.b G.room ((lineOf G.lines rev).drop j) sx' ∧ FlS bf F' sf' ∧
        St w0 (sv :: gtB b bf rA rL c G.room G.pat :: sA' :: sf' :: sx' :: s5 :: ((A ++ B).map LnE.sg).flatten :: [Cl c T_int [I G.room]] :: sL' :: E) w) (lineOf G.lines rev).length
        ⟨0, F, G.all, [], _, [], sA, x.sg, sf, rfl, rfl, hfew, rfl, rfl, Rw.nil, hr.all, hx, hf, h.nil⟩ ?_
    clear h; (try clear w)
    rintro q y w ⟨j, F', all', out, v, sv, sA', sx', sf', rfl, hq, hfew', hol, hfa, hrv, hA', hx', hf', h⟩ again hag
    dsimp only
    have done : ∀ {l' : List (Int × Int)} {F2 : AFleet} {all2 : Alls} {sA2 sx2 sf2 : Seg} {w}, flowA rev (lineOf G.lines rev) F G.all [] = (F2, all2, l', out) → MpS KI vReq rA all2 sA2 → LnS x.b G.room l' sx2 → FlS bf F2 sf2 →
        St w0 (sv :: gtB b bf rA rL c G.room G.pat :: sA2 :: sf2 :: sx2 :: s5 :: ((A ++ B).map LnE.sg).flatten :: [Cl c T_int [I G.room]] :: sL' :: E) w → k3 (⟨v.a, v.len, v.cap⟩, ()) w := by
      intro l' F2 all2 sA2 sx2 sf2 w e h1 h2 h3 h
      have h := dl5_ h
      have h := fr4_ (fr4_ (fr4_ (fr4_ h)))
      refine hk3 _ w ⟨v, sv, sA2, sx2, sf2, rfl, ?_, ?_, ?_, ?_, h⟩
      · unfold gFlow; rw [e]; exact hrv
      · unfold gFlow; rw [e]; exact h1
      · rw [e]; exact h2
      · unfold gFlow; rw [e]; exact h3
    refine it (fun hb => ?_) (fun hb => ?_) <;> (try simp only [decide_eq_true_eq, decide_eq_false_iff_not, beq_iff_eq, bne_iff_ne, beq_eq_false_iff_ne, bne_eq_false_iff_eq, Bool.not_eq_true', Bool.not_eq_false', ne_eq, Bool.not_eq_true, Bool.not_eq_false] at hb)
    · have hj : j < (lineOf G.lines rev).length := by omega
      have hxj : (lineOf G.lines rev)[j]? = some (lineOf G.lines rev)[j] := List.getElem?_eq_getElem hj
      have hdr : (lineOf G.lines rev).drop j = (lineOf G.lines rev)[j] :: (lineOf G.lines rev).drop (j + 1) := List.drop_eq_getElem_cons hj
      generalize (lineOf G.lines rev)[j] = y at hxj hdr
      refine rd1 (Rw.rd encI h 5 rfl hr5) encI (lf := .int .i64) (fun x => x) (fun x => ⟨_, rfl, rfl⟩) (by omega) hb fun y' hy' => ?_
      simp only [Int.toNat_natCast, List.getElem?_map, hxj, Option.map_some, Option.some.injEq] at hy'
      subst hy'
      have h := fr3_ (fr3_ (fr3_ h))
      refine S_gsend hA' hf' hfew'.l20 hfew'.q7 h fun sA2 sf2 w hA2 hf2 h => ?_
      cases ht : (fTake F' rev y.1).2.2 with
      | false =>
        have e : gSend F' all' y.1 rev = ((fTake F' rev y.1).1, all', (0, 0, 0, s_, ()), false) := by unfold gSend; rw [if_neg (by simp [ht])]
        rw [e] at hA2 hf2 ⊢
        dsimp only at hf2
        rw [fTake_no ht] at hf2
        refine nw h ?_; clear h; (try clear w); intro b11 w h
        (repeat (first | refine nn ?_ | (refine dr h ?_; clear h; (try clear w); intro w h) | refine ld0_ h rfl rfl ?_ | refine ld1_ h rfl rfl ?_ | refine ld2_ h rfl rfl ?_ | refine ld3_ h rfl rfl ?_ | refine ld4_ h rfl rfl ?_ | refine ld5_ h rfl rfl ?_ | refine ld6_ h rfl rfl ?_ | refine ld7_ h rfl rfl ?_ | refine ld8_ h rfl rfl ?_ | refine ld9_ h rfl rfl ?_ | refine ld10_ h rfl rfl ?_ | refine ld11_ h rfl rfl ?_ | refine la0_ h rfl ?_ | refine la1_ h rfl ?_ | refine la2_ h rfl ?_ | refine la3_ h rfl ?_ | refine la4_ h rfl ?_ | refine la5_ h rfl ?_ | refine la6_ h rfl ?_ | refine la7_ h rfl ?_ | refine la8_ h rfl ?_ | refine la9_ h rfl ?_ | refine la10_ h rfl ?_ | refine la11_ h rfl ?_ | refine ck0_ h rfl ?_ | refine ck1_ h rfl ?_ | refine ck2_ h rfl ?_ | refine ck3_ h rfl ?_ | refine ck4_ h rfl ?_ | refine ck5_ h rfl ?_ | refine ck6_ h rfl ?_ | refine ck7_ h rfl ?_ | refine ck8_ h rfl ?_ | refine ck9_ h rfl ?_ | refine ck10_ h rfl ?_ | refine ck11_ h rfl ?_ | ((first | refine st0_ h rfl rfl ?_ | refine st1_ h rfl rfl ?_ | refine st2_ h rfl rfl ?_ | refine st3_ h rfl rfl ?_ | refine st4_ h rfl rfl ?_ | refine st5_ h rfl rfl ?_ | refine st6_ h rfl rfl ?_ | refine st7_ h rfl rfl ?_ | refine st8_ h rfl rfl ?_ | refine st9_ h rfl rfl ?_ | refine st10_ h rfl rfl ?_ | refine st11_ h rfl rfl ?_); clear h; (try clear w); intro w h; (try dsimp only [putN, setN] at h))))
        refine itT rfl ?_
        have h := dl0_ h
        have h := fr3_ (fr2_ (fr2_ (fr2_ h)))
        refine done ?_ hA2 hx' hf2 h
        rw [← hfa, hdr, flowA, if_neg (by simp [ht])]
      | true =>
        have e : gSend F' all' y.1 rev = ((fTake F' rev y.1).1, mset all' y.1 (rev, 1), (y.1, 1, (fTake F' rev y.1).2.1, s_, ()), true) := by unfold gSend; rw [if_pos ht]
        rw [e] at hA2 hf2 ⊢
        refine nw h ?_; clear h; (try clear w); intro b11 w h
        (repeat (first | refine nn ?_ | (refine dr h ?_; clear h; (try clear w); intro w h) | refine ld0_ h rfl rfl ?_ | refine ld1_ h rfl rfl ?_ | refine ld2_ h rfl rfl ?_ | refine ld3_ h rfl rfl ?_ | refine ld4_ h rfl rfl ?_ | refine ld5_ h rfl rfl ?_ | refine ld6_ h rfl rfl ?_ | refine ld7_ h rfl rfl ?_ | refine ld8_ h rfl rfl ?_ | refine ld9_ h rfl rfl ?_ | refine ld10_ h rfl rfl ?_ | refine ld11_ h rfl rfl ?_ | refine la0_ h rfl ?_ | refine la1_ h rfl ?_ | refine la2_ h rfl ?_ | refine la3_ h rfl ?_ | refine la4_ h rfl ?_ | refine la5_ h rfl ?_ | refine la6_ h rfl ?_ | refine la7_ h rfl ?_ | refine la8_ h rfl ?_ | refine la9_ h rfl ?_ | refine la10_ h rfl ?_ | refine la11_ h rfl ?_ | refine ck0_ h rfl ?_ | refine ck1_ h rfl ?_ | refine ck2_ h rfl ?_ | refine ck3_ h rfl ?_ | refine ck4_ h rfl ?_ | refine ck5_ h rfl ?_ | refine ck6_ h rfl ?_ | refine ck7_ h rfl ?_ | refine ck8_ h rfl ?_ | refine ck9_ h rfl ?_ | refine ck10_ h rfl ?_ | refine ck11_ h rfl ?_ | ((first | refine st0_ h rfl rfl ?_ | refine st1_ h rfl rfl ?_ | refine st2_ h rfl rfl ?_ | refine st3_ h rfl rfl ?_ | refine st4_ h rfl rfl ?_ | refine st5_ h rfl rfl ?_ | refine st6_ h rfl rfl ?_ | refine st7_ h rfl rfl ?_ | refine st8_ h rfl rfl ?_ | refine st9_ h rfl rfl ?_ | refine st10_ h rfl rfl ?_ | refine st11_ h rfl rfl ?_); clear h; (try clear w); intro w h; (try dsimp only [putN, setN] at h))))
        refine itF rfl ?_
        have hx2 := hx'
        refine S_Pop h 5 rfl hx2 (by rw [List.length_drop]; omega) fun sx3 w hx3 h => ?_
        rw [hdr] at hx3
        have h : St w0 ([Cl b11 T_gate_Fate [I y.1, I 1, I (fTake F' rev y.1).2.1, .string s_]] :: gtB b bf rA rL c G.room G.pat :: sA2 :: sf2 :: sv :: sx3 :: s5 :: ((A ++ B).map LnE.sg).flatten :: [Cl c T_int [I G.room]] :: sL' :: E) w := h
        (repeat (first | refine nn ?_ | (refine dr h ?_; clear h; (try clear w); intro w h) | refine ld0_ h rfl rfl ?_ | refine ld1_ h rfl rfl ?_ | refine ld2_ h rfl rfl ?_ | refine ld3_ h rfl rfl ?_ | refine ld4_ h rfl rfl ?_ | refine ld5_ h rfl rfl ?_ | refine ld6_ h rfl rfl ?_ | refine ld7_ h rfl rfl ?_ | refine ld8_ h rfl rfl ?_ | refine ld9_ h rfl rfl ?_ | refine ld10_ h rfl rfl ?_ | refine ld11_ h rfl rfl ?_ | refine la0_ h rfl ?_ | refine la1_ h rfl ?_ | refine la2_ h rfl ?_ | refine la3_ h rfl ?_ | refine la4_ h rfl ?_ | refine la5_ h rfl ?_ | refine la6_ h rfl ?_ | refine la7_ h rfl ?_ | refine la8_ h rfl ?_ | refine la9_ h rfl ?_ | refine la10_ h rfl ?_ | refine la11_ h rfl ?_ | refine ck0_ h rfl ?_ | refine ck1_ h rfl ?_ | refine ck2_ h rfl ?_ | refine ck3_ h rfl ?_ | refine ck4_ h rfl ?_ | refine ck5_ h rfl ?_ | refine ck6_ h rfl ?_ | refine ck7_ h rfl ?_ | refine ck8_ h rfl ?_ | refine ck9_ h rfl ?_ | refine ck10_ h rfl ?_ | refine ck11_ h rfl ?_ | ((first | refine st0_ h rfl rfl ?_ | refine st1_ h rfl rfl ?_ | refine st2_ h rfl rfl ?_ | refine st3_ h rfl rfl ?_ | refine st4_ h rfl rfl ?_ | refine st5_ h rfl rfl ?_ | refine st6_ h rfl rfl ?_ | refine st7_ h rfl rfl ?_ | refine st8_ h rfl rfl ?_ | refine st9_ h rfl rfl ?_ | refine st10_ h rfl rfl ?_ | refine st11_ h rfl rfl ?_); clear h; (try clear w); intro w h; (try dsimp only [putN, setN] at h))))
        refine nw h ?_; clear h; (try clear w); intro b14 w h
        refine Rw.app (l := out) encF elF h 4 rfl hrv (y.1, 1, (fTake F' rev y.1).2.1, s_, ()) rfl (by omega) (by omega) fun v' sv' w hrv' h => ?_
        have h : St w0 ([Cl b11 T_gate_Fate [I y.1, I 1, I (fTake F' rev y.1).2.1, .string s_]] :: gtB b bf rA rL c G.room G.pat :: sA2 :: sf2 :: sv' :: sx3 :: s5 :: ((A ++ B).map LnE.sg).flatten :: [Cl c T_int [I G.room]] :: sL' :: E) w := h
        have h := dl0_ h
        have h := fr3_ (fr2_ (fr2_ (fr2_ h)))
        rw [wr (by omega) (by omega)]
        refine hag (q - 1) _ w (by omega) ⟨j + 1, (fTake F' rev y.1).1, mset all' y.1 (rev, 1), out ++ [(y.1, 1, (fTake F' rev y.1).2.1, s_, ())], v', sv', sA2, sx3, sf2, by simp, by omega, hfew'.take rev y.1, by simp [hol], ?_, hrv', hA2, hx3, hf2, h⟩
        rw [← hfa, hdr, flowA, if_pos ht]
    · have e : (lineOf G.lines rev).drop j = [] := List.drop_of_length_le (by omega)
      rw [e] at hfa hx'
      exact done (l' := []) (by rw [← hfa]; rfl) hA' hx' hf' h
  · subst hz
    have hlo : (gFlow F G rev).2.2.length < 1000000000 := by show (flowA rev (lineOf G.lines rev) F G.all []).2.2.2.length < 1000000000; simp only [List.length_nil] at hfl; omega
    refine S_cloneF h (Rw.rd encF h 4 rfl hrv) hlo (fun h0 => Rw.nil_of encF hrv h0) fun v' sv' w hrv' h => ⟨v', rfl, ?_⟩
    have h := dl5_ h
    have h := fr7_ (fr7_ (fr5_ (fr7_ (fr4_ (fr7_ (fr1_ (fr3_ h)))))))
    have h : St w0 (LnE.sg ⟨x.k, x.b, (flowA rev (lineOf G.lines rev) F G.all []).2.2.1, sx'⟩ :: ((A ++ B).map LnE.sg).flatten :: gtB b bf rA rL c G.room G.pat :: [Cl c T_int [I G.room]] :: sA' :: sL' :: sv' :: sf' :: E) w := h
    have h := h.place
    have h := fr6_ (fr6_ (fr6_ (fr6_ (fr2_ (fr6_ (fr6_ h))))))
    have heach : ∀ y ∈ A ++ (⟨x.k, x.b, (flowA rev (lineOf G.lines rev) F G.all []).2.2.1, sx'⟩ : LnE) :: B, LnS y.b G.room y.l y.sg := by
      intro y hy
      rcases List.mem_append.1 hy with hy | hy
      · exact hQ' y (by simp [hy])
      · rcases List.mem_cons.1 hy with rfl | hy
        · exact hx'
        · exact hQ' y (by simp [hy])
    obtain ⟨sg, hg, h⟩ := gt_close (G := (gFlow F G rev).2.1) (c := c) ok' ⟨hA', by simpa using hL', heach, (line_turn hab hxk hnd).symm⟩ h
    have h := fr2_ (fr1_ (fr2_ h))
    exact hk v' sv' sg sf' w hrv' hg hf' h
end Go.Proofs.YthmpbgloifdcnaaGreat
