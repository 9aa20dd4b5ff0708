/- The reading of code as predicates, and its soundness (text Den12). No conditions beyond those its theorems state. -/
import Derived.Test.YtpnbgpolbjbhpaaDen11
set_option linter.all false
namespace Go.Dm
def chkHolds (P : Program) : Chk → World → Prop
  | .ld a cs, w => cellsAt w a cs
  | .sm s v, w => s.run P w = .ok v w
section
variable {P : Program} {D : Tb} {w w' : World} {a : AT} {c : Act} {o : Oper} {K : AT → PT}
/-- an operation that writes no memory: its value hangs on no world, but by what is checked -/
def PR (P : Program) (D : Tb) (o : Oper) (a : AT) (K : AT → PT) (w : World) : Prop :=
  ∃ s : SV, K (a.put o.dst (some s)) w ∧ (opKind D o.op = 1 → ∀ ch, mkChk o a (a.put o.dst (some s)) = some ch → chkHolds P ch w) ∧
    ∀ w', (opKind D o.op = 1 → ∀ ch, mkChk o a (a.put o.dst (some s)) = some ch → chkHolds P ch w') → denOp P D o a (fun a' w'' => w'' = w' ∧ a' = a.put o.dst (some s)) w'
theorem pr_put (h1 : opKind D o.op = 1 → ∀ s ch, mkChk o a (a.put o.dst (some s)) = some ch → False) (s : SV) (e : ∀ K, denOp P D o a K = K (a.put o.dst (some s))) (hk : denOp P D o a K w) : PR P D o a K w := by
  rw [e] at hk
  exact ⟨s, hk, fun hk1 ch hc => (h1 hk1 _ _ hc).elim, fun w' _ => by rw [e]; exact ⟨rfl, rfl⟩⟩
theorem pr_guard (h1 : opKind D o.op = 1 → ∀ s ch, mkChk o a (a.put o.dst (some s)) = some ch → False) (s : SV) {φ : Prop} (e : ∀ K, denOp P D o a K = L.guard φ (K (a.put o.dst (some s)))) (hk : denOp P D o a K w) : PR P D o a K w := by
  rw [e] at hk
  exact ⟨s, hk.2, fun hk1 ch hc => (h1 hk1 _ _ hc).elim, fun w' _ => by rw [e]; exact ⟨hk.1, rfl, rfl⟩⟩
theorem pr_bad (e : ∀ K, denOp P D o a K = bad) (hk : denOp P D o a K w) : PR P D o a K w := by
  rw [e] at hk; exact False.elim hk
theorem pr_nonnil (h1 : opKind D o.op = 1 → ∀ s ch, mkChk o a (a.put o.dst (some s)) = some ch → False) {p : Option Addr} (f : Addr → SV) (e : ∀ K, denOp P D o a K = L.nonnil p fun ad => K (a.put o.dst (some (f ad)))) (hk : denOp P D o a K w) : PR P D o a K w := by
  rw [e] at hk
  obtain ⟨ad, hp, hk⟩ := hk
  exact ⟨f ad, hk, fun hk1 ch hc => (h1 hk1 _ _ hc).elim, fun w' _ => by rw [e]; exact ⟨ad, hp, rfl, rfl⟩⟩
theorem pr_idx (h1 : opKind D o.op = 1 → ∀ s ch, mkChk o a (a.put o.dst (some s)) = some ch → False) {p : Option Addr} {i : Int} {n sz : Nat} (f : Addr → SV) (e : ∀ K, denOp P D o a K = L.idx p i n sz fun ad => K (a.put o.dst (some (f ad)))) (hk : denOp P D o a K w) : PR P D o a K w := by
  rw [e] at hk
  obtain ⟨ad, hp, h0, h2, hk⟩ := hk
  exact ⟨f _, hk, fun hk1 ch hc => (h1 hk1 _ _ hc).elim, fun w' _ => by rw [e]; exact ⟨ad, hp, h0, h2, rfl, rfl⟩⟩
theorem needV_eq {x : Option SV} {s : SV} (h : x = some s) (f : SV → PT) : needV x f = f s := by subst h; rfl
theorem needV_none {x : Option SV} (h : x = none) (f : SV → PT) : needV x f = bad := by subst h; rfl
theorem get_put (a : AT) (d : Nat) (s : SV) : (a.put (some d) (some s)).get d = some s := by
  simp [AT.put, get_cons]
theorem sv_cells : ∀ (e : E1) (x : e.T), (e.sv x).cells = e.cells x
  | .agg ls, x => rfl
  | .one (.int _), _ | .one .bool, _ | .one .str, _ | .one .ptr, _ | .one .slice, _ | .one .map, _ | .one .func, _ | .one .adr, _ => rfl
  | .one .iface, none => rfl
  | .one .iface, some _ => rfl
theorem pr_load {d : Nat} (hd : o.dst = some d) {t : TypeId} {x : Operand} (hop : o.op = .load t x) (hk : denOp P D o a K w) : PR P D o a K w := by
  cases hs : a.ev x with
  | none => exact pr_bad (fun K => by simp only [denOp, hop, hs]; rfl) hk
  | some s => cases s with
    | v y => cases y with
      | pointer p => cases p with
        | none => exact pr_bad (fun K => by simp only [denOp, hop, hs]; rfl) hk
        | some ad => cases hD : D.t t with
          | none => exact pr_bad (fun K => by simp only [denOp, hop, hs, needV, hD]) hk
          | some ti =>
            obtain ⟨td, n, e1, z⟩ := ti
            cases e1 with
            | none => exact pr_bad (fun K => by simp only [denOp, hop, hs, needV, hD]) hk
            | some e1 =>
              have e : ∀ K, denOp P D o a K = L.load e1 ad fun x => K (a.put o.dst (some (e1.sv x))) := fun K => by simp only [denOp, hop, hs, needV, hD]; rfl
              rw [e] at hk
              obtain ⟨x', hc, hk⟩ := hk
              have hmk : mkChk o a (a.put o.dst (some (e1.sv x'))) = some (.ld ad (e1.sv x').cells) := by
                simp only [mkChk, hd, get_put, hop, hs]
              have hk1 : opKind D o.op = 1 := by rw [hop]; rfl
              refine ⟨e1.sv x', hk, fun _ ch hch => ?_, fun w' hch => ?_⟩
              · rw [hmk] at hch; cases hch; simpa only [chkHolds, sv_cells] using hc
              have := hch hk1 _ hmk
              simp only [chkHolds, sv_cells] at this
              rw [e]
              exact ⟨x', this, rfl, rfl⟩
      | _ => exact pr_bad (fun K => by simp only [denOp, hop, hs]; rfl) hk
    | _ => exact pr_bad (fun K => by simp only [denOp, hop, hs]; rfl) hk
theorem pr_semR {d : Nat} (hd : o.dst = some d) {r : RT} {s : Sem Value} (e : ∀ K, denOp P D o a K = L.semR P r s fun x => K (a.put o.dst (some (r.sv x))))
    (hk1 : opKind D o.op = 1) (hmk : ∀ y : SV, mkChk o a (a.put o.dst (some y)) = some (.sm s y.toV)) (hk : denOp P D o a K w) : PR P D o a K w := by
  rw [e] at hk
  obtain ⟨x, hr, hk⟩ := hk
  refine ⟨r.sv x, hk, fun _ ch hch => ?_, fun w' hch => ?_⟩
  · rw [hmk] at hch; cases hch; simpa only [chkHolds, tsv_val] using hr
  have := hch hk1 _ (hmk (r.sv x))
  simp only [chkHolds, tsv_val] at this
  rw [e]
  exact ⟨x, this, rfl, rfl⟩
theorem pr_lookup {d : Nat} (hd : o.dst = some d) {t : TypeId} {m k : Operand} {b : Bool} (hop : o.op = .lookup t m k b) (hk : denOp P D o a K w) : PR P D o a K w := by
  cases h1 : argsOf a [m, k] with
  | none => exact pr_bad (fun K => by simp only [denOp, hop, h1]) hk
  | some l =>
    match l, h1 with
    | [p, q], h1 =>
      cases hD : D.t t with
      | none => exact pr_bad (fun K => by simp only [denOp, hop, h1, hD]) hk
      | some ti =>
        obtain ⟨td, n, e1, z⟩ := ti
        cases td with
        | map kt e => cases hD2 : D.t e with
          | none => exact pr_bad (fun K => by simp only [denOp, hop, h1, hD, hD2]) hk
          | some te =>
            obtain ⟨td2, n2, e2, z2⟩ := te
            cases e2 with
            | none => exact pr_bad (fun K => by simp only [denOp, hop, h1, hD, hD2]) hk
            | some e2 =>
              have hmk : ∀ y : SV, mkChk o a (a.put o.dst (some y)) = some (.sm (Instr.lookup t p.toV q.toV b) y.toV) := fun y => by simp only [mkChk, hd, get_put, hop, h1]
              cases b with
              | true => exact pr_semR hd (r := .tup [e2, .one .bool]) (fun K => by simp only [denOp, hop, h1, hD, hD2, if_true]; rfl) (by rw [hop]; rfl) hmk hk
              | false => exact pr_semR hd (r := .one e2) (fun K => by simp only [denOp, hop, h1, hD, hD2]; rfl) (by rw [hop]; rfl) hmk hk
        | _ => exact pr_bad (fun K => by simp only [denOp, hop, h1, hD]) hk
    | [], h1 => exact pr_bad (fun K => by simp only [denOp, hop, h1]) hk
    | [_], h1 => exact pr_bad (fun K => by simp only [denOp, hop, h1]) hk
    | _ :: _ :: _ :: _, h1 => exact pr_bad (fun K => by simp only [denOp, hop, h1]) hk
theorem k1 (h : opKind D o.op = 0 ∨ ∀ s, mkChk o a (a.put o.dst (some s)) = none) : opKind D o.op = 1 → ∀ s ch, mkChk o a (a.put o.dst (some s)) = some ch → False := by
  intro hk s ch hc
  rcases h with h | h
  · rw [h] at hk; cases hk
  · rw [h] at hc; cases hc
theorem pr_move {x : Operand} (hop : o.op = .move x) (hk : denOp P D o a K w) : PR P D o a K w := by
  cases hs : a.ev x with
  | none => exact pr_bad (fun K => by simp only [denOp, hop, hs, needV]) hk
  | some s => exact pr_put (k1 (.inl (by rw [hop]; rfl))) s (fun K => by simp only [denOp, hop, hs, needV]; rfl) hk
theorem pr_pick {x y z : Operand} (hop : o.op = .pick x y z) (hk : denOp P D o a K w) : PR P D o a K w := by
  have K0 := k1 (a := a) (o := o) (D := D) (.inl (by rw [hop]; rfl))
  have key : ∀ (b : Bool) u, (∀ K, denOp P D o a K = L.ite b (needV (a.ev y) fun s => K (setS a o s)) (needV (a.ev z) fun s => K (setS a o s))) → a.ev x = some u → PR P D o a K w := by
    intro b u e _
    have hk' := hk
    rw [e] at hk'
    cases b with
    | true =>
      obtain ⟨s, hs, _⟩ := needV_some (hk'.1 rfl)
      have e1 : ∀ K, denOp P D o a K w ↔ K (a.put o.dst (some s)) w := fun K => by rw [e]; simp only [L.ite, needV_eq hs]; simp; rfl
      refine ⟨s, (e1 K).1 hk, fun hk1 ch hc => (K0 hk1 _ _ hc).elim, fun w' _ => ?_⟩
      rw [e]; exact ⟨fun _ => by rw [needV_eq hs]; exact ⟨rfl, rfl⟩, (fun h => by cases h)⟩
    | false =>
      obtain ⟨s, hs, _⟩ := needV_some (hk'.2 rfl)
      have e1 : ∀ K, denOp P D o a K w ↔ K (a.put o.dst (some s)) w := fun K => by rw [e]; simp only [L.ite, needV_eq hs]; simp; rfl
      refine ⟨s, (e1 K).1 hk, fun hk1 ch hc => (K0 hk1 _ _ hc).elim, fun w' _ => ?_⟩
      rw [e]; exact ⟨(fun h => by cases h), fun _ => by rw [needV_eq hs]; exact ⟨rfl, rfl⟩⟩
  cases hs : a.ev x with
  | none => exact pr_bad (fun K => by simp only [denOp, hop, hs]) hk
  | some s => cases s with
    | lit b => cases b with
      | true => cases hy : a.ev y with
        | none => exact pr_bad (fun K => by simp only [denOp, hop, hs, cond, hy, needV]) hk
        | some s => exact pr_put K0 s (fun K => by simp only [denOp, hop, hs, cond, hy, needV]; rfl) hk
      | false => cases hy : a.ev z with
        | none => exact pr_bad (fun K => by simp only [denOp, hop, hs, cond, hy, needV]) hk
        | some s => exact pr_put K0 s (fun K => by simp only [denOp, hop, hs, cond, hy, needV]; rfl) hk
    | v u => cases u with
      | bool b => exact key b _ (fun K => by simp only [denOp, hop, hs]) hs
      | _ => exact pr_bad (fun K => by simp only [denOp, hop, hs]) hk
    | _ => exact pr_bad (fun K => by simp only [denOp, hop, hs]) hk
theorem pr_build {t : TypeId} {ps : Array (Nat × Operand)} (hop : o.op = .build t ps) (hk : denOp P D o a K w) : PR P D o a K w := by
  have K0 := k1 (a := a) (o := o) (D := D) (.inl (by rw [hop]; rfl))
  cases hD : D.t t with
  | none => exact pr_bad (fun K => by simp only [denOp, hop, hD]) hk
  | some ti =>
    obtain ⟨td, n, e1, z⟩ := ti
    cases hps : partsOf a ps.toList with
    | none => cases td <;> cases z <;> exact pr_bad (fun K => by simp only [denOp, hop, hD, hps]) hk
    | some l => cases z with
      | none => cases td <;> exact pr_bad (fun K => by simp only [denOp, hop, hD, hps]) hk
      | some z => cases td with
        | struct fs => cases hpl : placesOf D fs with
          | none => exact pr_bad (fun K => by simp only [denOp, hop, hD, hps, hpl]) hk
          | some pl => cases hf : fillS (nth pl) z l with
            | none => exact pr_bad (fun K => by simp only [denOp, hop, hD, hps, hpl, hf]) hk
            | some cs => exact pr_put K0 (.ag cs) (fun K => by simp only [denOp, hop, hD, hps, hpl, hf]; rfl) hk
        | arr m e => cases hD2 : D.t e with
          | none => exact pr_bad (fun K => by simp only [denOp, hop, hD, hps, hD2]) hk
          | some te => cases hf : fillS (fun i => some (i * te.size, te.size)) z l with
            | none => exact pr_bad (fun K => by simp only [denOp, hop, hD, hps, hD2, hf]) hk
            | some cs => exact pr_put K0 (.ag cs) (fun K => by simp only [denOp, hop, hD, hps, hD2, hf]; rfl) hk
        | _ => exact pr_bad (fun K => by simp only [denOp, hop, hD, hps]) hk
theorem pr_nilCheck {x : Operand} (hop : o.op = .nilCheck x) (hk : denOp P D o a K w) : PR P D o a K w := by
  have K0 := k1 (a := a) (o := o) (D := D) (.inl (by rw [hop]; rfl))
  cases hs : a.ev x with
  | none => exact pr_bad (fun K => by simp only [denOp, hop, hs, needV]) hk
  | some s => cases s with
    | v u => cases u with
      | pointer p => exact pr_nonnil K0 (fun ad => .v (.pointer (some ad))) (fun K => by simp only [denOp, hop, hs, needV]; rfl) hk
      | func f x y => cases f with
        | func f => exact pr_put K0 (.v (.func (.func f) x y)) (fun K => by simp only [denOp, hop, hs, needV]; rfl) hk
        | _ => exact pr_bad (fun K => by simp only [denOp, hop, hs, needV]) hk
      | _ => exact pr_bad (fun K => by simp only [denOp, hop, hs, needV]) hk
    | _ => exact pr_bad (fun K => by simp only [denOp, hop, hs, needV]) hk
theorem pr_unOp {op : UnOp} {t : TypeId} {x : Operand} (hop : o.op = .unOp op t x) (hk : denOp P D o a K w) : PR P D o a K w := by
  have K0 := k1 (a := a) (o := o) (D := D) (.inl (by rw [hop]; rfl))
  cases hs : a.ev x with
  | none => exact pr_bad (fun K => by simp only [denOp, hop, hs, needV]) hk
  | some s => cases op with
    | not => cases hb : s.boolOf with
      | none => exact pr_bad (fun K => by simp only [denOp, hop, hs, needV, hb]) hk
      | some b => exact pr_put K0 (.v (.bool (!b))) (fun K => by simp only [denOp, hop, hs, needV, hb]; rfl) hk
    | neg => cases s with
      | v u => cases u with
        | int k n => exact pr_put K0 (.v (.int k (k.wrap (0 - n)))) (fun K => by simp only [denOp, hop, hs, needV]; rfl) hk
        | _ => exact pr_bad (fun K => by simp only [denOp, hop, hs, needV]) hk
      | _ => exact pr_bad (fun K => by simp only [denOp, hop, hs, needV]) hk
    | _ => exact pr_bad (fun K => by simp only [denOp, hop, hs, needV]) hk
theorem pr_makeInterface {t : TypeId} {x : Operand} (hop : o.op = .makeInterface t x) (hk : denOp P D o a K w) : PR P D o a K w := by
  have K0 := k1 (a := a) (o := o) (D := D) (.inl (by rw [hop]; rfl))
  cases hs : a.ev x with
  | none => exact pr_bad (fun K => by simp only [denOp, hop, hs, needV]) hk
  | some s => cases hD : D.t t with
    | none => exact pr_bad (fun K => by simp only [denOp, hop, hs, needV, hD]) hk
    | some ti =>
      obtain ⟨td, n, e1, z⟩ := ti
      cases td with
      | iface => exact pr_bad (fun K => by simp only [denOp, hop, hs, needV, hD]) hk
      | _ => exact pr_put K0 (.v (.iface t s.toV)) (fun K => by simp only [denOp, hop, hs, needV, hD]; rfl) hk
theorem pr_makeFunc {f : Fn} {x y : Array Operand} (hop : o.op = .makeFunc f x y) (hk : denOp P D o a K w) : PR P D o a K w := by
  have K0 := k1 (a := a) (o := o) (D := D) (.inl (by rw [hop]; rfl))
  cases h1 : argsOf a x.toList with
  | none => exact pr_bad (fun K => by simp only [denOp, hop, h1]) hk
  | some l1 => cases h2 : argsOf a y.toList with
    | none => exact pr_bad (fun K => by simp only [denOp, hop, h1, h2]) hk
    | some l2 => exact pr_put K0 (.v (.func f (vals l1).toArray (vals l2).toArray)) (fun K => by simp only [denOp, hop, h1, h2]; rfl) hk
theorem pr_fieldAddr {t : TypeId} {x : Operand} {f : Nat} (hop : o.op = .fieldAddr t x f) (hk : denOp P D o a K w) : PR P D o a K w := by
  have K0 := k1 (a := a) (o := o) (D := D) (.inl (by rw [hop]; rfl))
  cases hs : a.ev x with
  | none => exact pr_bad (fun K => by simp only [denOp, hop, hs, needV]) hk
  | some s => cases s with
    | v u => cases u with
      | pointer p => cases p with
        | none => exact pr_bad (fun K => by simp only [denOp, hop, hs, needV]) hk
        | some ad => cases hD : D.t t with
          | none => exact pr_bad (fun K => by simp only [denOp, hop, hs, needV, hD]) hk
          | some ti =>
            obtain ⟨td, n, e1, z⟩ := ti
            cases td with
            | struct fs => cases hn : nth fs f with
              | none => exact pr_bad (fun K => by simp only [denOp, hop, hs, needV, hD, hn]) hk
              | some fd => cases hD2 : D.t fd.1 with
                | none => exact pr_bad (fun K => by simp only [denOp, hop, hs, needV, hD, hn, hD2]) hk
                | some tf =>
                  obtain ⟨td2, n2, e2, z2⟩ := tf
                  cases n2 with
                  | zero => exact pr_bad (fun K => by simp only [denOp, hop, hs, needV, hD, hn, hD2]) hk
                  | succ n2 => exact pr_put K0 (.v (.pointer (some (ad.add fd.2)))) (fun K => by simp only [denOp, hop, hs, needV, hD, hn, hD2]; rfl) hk
            | _ => exact pr_bad (fun K => by simp only [denOp, hop, hs, needV, hD]) hk
      | _ => exact pr_bad (fun K => by simp only [denOp, hop, hs, needV]) hk
    | _ => exact pr_bad (fun K => by simp only [denOp, hop, hs, needV]) hk
theorem pr_field {t : TypeId} {x : Operand} {f : Nat} (hop : o.op = .field t x f) (hk : denOp P D o a K w) : PR P D o a K w := by
  have K0 := k1 (a := a) (o := o) (D := D) (.inl (by rw [hop]; rfl))
  cases hs : a.ev x with
  | none => exact pr_bad (fun K => by simp only [denOp, hop, hs]) hk
  | some s => cases s with
    | ag cs => cases hD : D.t t with
      | none => exact pr_bad (fun K => by simp only [denOp, hop, hs, hD]) hk
      | some ti =>
        obtain ⟨td, n, e1, z⟩ := ti
        cases td with
        | struct fs => cases hn : nth fs f with
          | none => exact pr_bad (fun K => by simp only [denOp, hop, hs, hD, hn]) hk
          | some fd => cases hD2 : D.t fd.1 with
            | none => exact pr_bad (fun K => by simp only [denOp, hop, hs, hD, hn, hD2]) hk
            | some tf => cases hp : partS tf cs fd.2 with
              | none => exact pr_bad (fun K => by simp only [denOp, hop, hs, hD, hn, hD2, hp]) hk
              | some v => exact pr_put K0 v (fun K => by simp only [denOp, hop, hs, hD, hn, hD2, hp]; rfl) hk
        | _ => exact pr_bad (fun K => by simp only [denOp, hop, hs, hD]) hk
    | _ => exact pr_bad (fun K => by simp only [denOp, hop, hs]) hk
theorem pr_indexAddr {t : TypeId} {x i : Operand} (hop : o.op = .indexAddr t x i) (hk : denOp P D o a K w) : PR P D o a K w := by
  have K0 := k1 (a := a) (o := o) (D := D) (.inl (by rw [hop]; rfl))
  cases hi : a.ev i with
  | none => exact pr_bad (fun K => by simp only [denOp, hop, hi, needV]) hk
  | some si => cases si with
    | v u => cases u with
      | int k n => cases hs : a.ev x with
        | none => exact pr_bad (fun K => by simp only [denOp, hop, hi, hs, needV]) hk
        | some s => cases s with
          | v u => cases u with
            | pointer p => cases p with
              | none => exact pr_bad (fun K => by simp only [denOp, hop, hi, hs, needV]) hk
              | some ad => cases hD : D.t t with
                | none => exact pr_bad (fun K => by simp only [denOp, hop, hi, hs, needV, hD]) hk
                | some ti =>
                  obtain ⟨td, m, e1, z⟩ := ti
                  cases td with
                  | arr len e => cases hD2 : D.t e with
                    | none => exact pr_bad (fun K => by simp only [denOp, hop, hi, hs, needV, hD, hD2]) hk
                    | some te => exact pr_idx K0 (fun ad => .v (.pointer (some ad))) (fun K => by simp only [denOp, hop, hi, hs, needV, hD, hD2]; rfl) hk
                  | _ => exact pr_bad (fun K => by simp only [denOp, hop, hi, hs, needV, hD]) hk
            | slice sa len cap => cases hD : D.t t with
              | none => exact pr_bad (fun K => by simp only [denOp, hop, hi, hs, needV, hD]) hk
              | some ti =>
                obtain ⟨td, m, e1, z⟩ := ti
                cases td with
                | slice e => cases hD2 : D.t e with
                  | none => exact pr_bad (fun K => by simp only [denOp, hop, hi, hs, needV, hD, hD2]) hk
                  | some te => exact pr_idx K0 (fun ad => .v (.pointer (some ad))) (fun K => by simp only [denOp, hop, hi, hs, needV, hD, hD2]; rfl) hk
                | _ => exact pr_bad (fun K => by simp only [denOp, hop, hi, hs, needV, hD]) hk
            | _ => exact pr_bad (fun K => by simp only [denOp, hop, hi, hs, needV]) hk
          | _ => exact pr_bad (fun K => by simp only [denOp, hop, hi, hs, needV]) hk
      | _ => exact pr_bad (fun K => by simp only [denOp, hop, hi, needV]) hk
    | _ => exact pr_bad (fun K => by simp only [denOp, hop, hi, needV]) hk
theorem pr_index {t : TypeId} {x i : Operand} (hop : o.op = .index t x i) (hk : denOp P D o a K w) : PR P D o a K w := by
  have K0 := k1 (a := a) (o := o) (D := D) (.inl (by rw [hop]; rfl))
  cases hi : a.ev i with
  | none => exact pr_bad (fun K => by simp only [denOp, hop, hi, needV]) hk
  | some si => cases si with
    | v u => cases u with
      | int k n => cases hs : a.ev x with
        | none => exact pr_bad (fun K => by simp only [denOp, hop, hi, hs, needV]) hk
        | some s => cases s with
          | v u => cases u with
            | string q => cases hD : D.t t with
              | none => exact pr_bad (fun K => by simp only [denOp, hop, hi, hs, needV, hD]) hk
              | some ti =>
                obtain ⟨td, m, e1, z⟩ := ti
                cases td with
                | str => exact pr_guard K0 (.v (.int .u8 (byteAt q n))) (fun K => by simp only [denOp, hop, hi, hs, needV, hD]; rfl) hk
                | _ => exact pr_bad (fun K => by simp only [denOp, hop, hi, hs, needV, hD]) hk
            | _ => exact pr_bad (fun K => by simp only [denOp, hop, hi, hs, needV]) hk
          | ag cs => cases hD : D.t t with
            | none => exact pr_bad (fun K => by simp only [denOp, hop, hi, hs, needV, hD]) hk
            | some ti =>
              obtain ⟨td, m, e1, z⟩ := ti
              cases td with
              | arr len e => cases hD2 : D.t e with
                | none => exact pr_bad (fun K => by simp only [denOp, hop, hi, hs, needV, hD, hD2]) hk
                | some te => cases hp : partS te cs (n.toNat * te.size) with
                  | none => exact pr_bad (fun K => by simp only [denOp, hop, hi, hs, needV, hD, hD2, hp]) hk
                  | some v => exact pr_guard K0 v (fun K => by simp only [denOp, hop, hi, hs, needV, hD, hD2, hp]; rfl) hk
              | _ => exact pr_bad (fun K => by simp only [denOp, hop, hi, hs, needV, hD]) hk
          | _ => exact pr_bad (fun K => by simp only [denOp, hop, hi, hs, needV]) hk
      | _ => exact pr_bad (fun K => by simp only [denOp, hop, hi, needV]) hk
    | _ => exact pr_bad (fun K => by simp only [denOp, hop, hi, needV]) hk
theorem pr_extract {x : Operand} {i : Nat} (hop : o.op = .extract x i) (hk : denOp P D o a K w) : PR P D o a K w := by
  have K0 := k1 (a := a) (o := o) (D := D) (.inl (by rw [hop]; rfl))
  cases hs : a.ev x with
  | none => exact pr_bad (fun K => by simp only [denOp, hop, hs]) hk
  | some s => cases s with
    | nx b es y => cases i with
      | zero => exact pr_put K0 (.lit b) (fun K => by simp only [denOp, hop, hs]; rfl) hk
      | succ i => cases hn : svNth es y i with
        | none => exact pr_bad (fun K => by simp only [denOp, hop, hs, hn]) hk
        | some s => exact pr_put K0 s (fun K => by simp only [denOp, hop, hs, hn]; rfl) hk
    | tp es y => cases hn : svNth es y i with
      | none => exact pr_bad (fun K => by simp only [denOp, hop, hs, hn]) hk
      | some s => exact pr_put K0 s (fun K => by simp only [denOp, hop, hs, hn]; rfl) hk
    | v u => cases u with
      | tuple vs => cases hn : nth vs.toList i with
        | none => exact pr_bad (fun K => by simp only [denOp, hop, hs, hn]) hk
        | some s => exact pr_put K0 (.v s) (fun K => by simp only [denOp, hop, hs, hn]; rfl) hk
      | _ => exact pr_bad (fun K => by simp only [denOp, hop, hs]) hk
    | _ => exact pr_bad (fun K => by simp only [denOp, hop, hs]) hk

theorem pr_bin_int (K0 : opKind D o.op = 1 → ∀ s ch, mkChk o a (a.put o.dst (some s)) = some ch → False) {op : BinOp} {t : TypeId} {x y : Operand} {t' : TypeId} {k k' : IntKind} {p q : Int} (e0 : ∀ K, denOp P D o a K = denBin P D o a op t y (.v (.int k p)) (.v (.int k' q)) K) (hk : denOp P D o a K w) : PR P D o a K w := by
  cases op with
  | shl => exact pr_guard K0 (.v (.int k (k.wrap (p * 2 ^ (min q.toNat k.bits))))) (fun K => by rw [e0]; rfl) hk
  | shr => exact pr_guard K0 (.v (.int k (p.fdiv (2 ^ (min q.toNat k.bits))))) (fun K => by rw [e0]; rfl) hk
  | quo =>
    by_cases hc : k = k'
    · exact pr_guard K0 (.v (.int k (k.wrap (p.tdiv q)))) (fun K => by rw [e0]; simp only [denBin]; rw [if_pos hc]; rfl) hk
    · exact pr_bad (fun K => by rw [e0]; simp only [denBin]; rw [if_neg hc]) hk
  | rem =>
    by_cases hc : k = k'
    · exact pr_guard K0 (.v (.int k (p.tmod q))) (fun K => by rw [e0]; simp only [denBin]; rw [if_pos hc]; rfl) hk
    · exact pr_bad (fun K => by rw [e0]; simp only [denBin]; rw [if_neg hc]) hk
  | andNot =>
    by_cases hc : k = k'
    · exact pr_bad (fun K => by rw [e0]; simp only [denBin]; rw [if_pos hc]; rfl) hk
    · exact pr_bad (fun K => by rw [e0]; simp only [denBin]; rw [if_neg hc]) hk
  | _ =>
    by_cases hc : k = k'
    · exact pr_put K0 (.v _) (fun K => by rw [e0]; simp only [denBin]; rw [if_pos hc]; rfl) hk
    · exact pr_bad (fun K => by rw [e0]; simp only [denBin]; rw [if_neg hc]) hk
theorem pr_bin_str (K0 : opKind D o.op = 1 → ∀ s ch, mkChk o a (a.put o.dst (some s)) = some ch → False) {op : BinOp} {t : TypeId} {x y : Operand} {t' : TypeId} {p q : ByteArray} (e0 : ∀ K, denOp P D o a K = denBin P D o a op t y (.v (.string p)) (.v (.string q)) K) (hk : denOp P D o a K w) : PR P D o a K w := by
  cases op with
  | add => exact pr_guard K0 (.v (.string (p ++ q))) (fun K => by rw [e0]; rfl) hk
  | eql | neq | lss | leq | gtr | geq => exact pr_put K0 (.v _) (fun K => by rw [e0]; rfl) hk
  | _ => exact pr_bad (fun K => by rw [e0]; rfl) hk
theorem pr_eqs (K0 : opKind D o.op = 1 → ∀ s ch, mkChk o a (a.put o.dst (some s)) = some ch → False) {op : BinOp} {b : Bool} (e0 : ∀ K, denOp P D o a K = (match op with | .eql => K (setV a o (.bool b)) | .neq => K (setV a o (.bool (!b))) | _ => bad)) (hk : denOp P D o a K w) : PR P D o a K w := by
  cases op with
  | eql => exact pr_put K0 (.v (.bool b)) (fun K => by rw [e0]; rfl) hk
  | neq => exact pr_put K0 (.v (.bool (!b))) (fun K => by rw [e0]; rfl) hk
  | _ => exact pr_bad (fun K => by rw [e0]) hk
theorem pr_binOp {op : BinOp} {t : TypeId} {x y : Operand} {t' : TypeId} (hop : o.op = .binOp op t x y t') (hkind : binKind (D.t t) < 2) (hk : denOp P D o a K w) : PR P D o a K w := by
  have K0 := k1 (a := a) (o := o) (D := D) (.inl (by rw [hop]; show binKind (D.t t) = 0; revert hkind; unfold binKind; split <;> simp))
  cases hsx : a.ev x with
  | none => exact pr_bad (fun K => by simp only [denOp, hop, hsx, needV]) hk
  | some sx => cases hsy : a.ev y with
    | none => exact pr_bad (fun K => by simp only [denOp, hop, hsx, hsy, needV]) hk
    | some sy =>
      have e0 : ∀ K, denOp P D o a K = denBin P D o a op t y sx sy K := fun K => by simp only [denOp, hop, hsx, hsy, needV]
      have bools : (∀ K, denOp P D o a K = (match sx.boolOf, sy.boolOf, D.t t with
          | some p, some q, some { d := .bool, .. } => (match (generalizing := false) op with
            | .eql => K (setV a o (.bool (p == q)))
            | .neq => K (setV a o (.bool (!(p == q))))
            | _ => bad)
          | _, _, _ => bad)) → PR P D o a K w := by
        intro e0
        cases h1 : sx.boolOf with
        | none => exact pr_bad (fun K => by rw [e0, h1]) hk
        | some p => cases h2 : sy.boolOf with
          | none => exact pr_bad (fun K => by rw [e0, h1, h2]) hk
          | some q => cases hD : D.t t with
            | none => exact pr_bad (fun K => by rw [e0, h1, h2, hD]) hk
            | some ti =>
              obtain ⟨td, m, e1, z⟩ := ti
              cases td with
              | bool => exact pr_eqs K0 (op := op) (b := p == q) (fun K => by rw [e0, h1, h2, hD]) hk
              | _ => exact pr_bad (fun K => by rw [e0, h1, h2, hD]) hk
      cases sx with
      | lit b => cases sy <;> exact bools (fun K => by rw [e0]; rfl)
      | tp es x => cases sy <;> exact bools (fun K => by rw [e0]; rfl)
      | nx b es x => cases sy <;> exact bools (fun K => by rw [e0]; rfl)
      | it t p => cases sy <;> exact bools (fun K => by rw [e0]; rfl)
      | ifc p => cases sy with
        | v y' => cases y' with
          | nilIface => cases hcy : isConstO y with
            | false => exact pr_bad (fun K => by rw [e0]; simp only [denBin, hcy]; rfl) hk
            | true => cases hD : D.t t with
              | none => exact pr_bad (fun K => by rw [e0]; simp only [denBin, hcy, hD, if_true]) hk
              | some ti =>
                obtain ⟨td, m, e1, z⟩ := ti
                cases td with
                | iface => exact pr_eqs K0 (op := op) (b := p.isNone) (fun K => by rw [e0]; simp only [denBin, hcy, hD, if_true]; cases op <;> rfl) hk
                | _ => exact pr_bad (fun K => by rw [e0]; simp only [denBin, hcy, hD, if_true]) hk
          | _ => exact bools (fun K => by rw [e0]; rfl)
        | _ => exact bools (fun K => by rw [e0]; rfl)
      | ag p => cases sy with
        | ag q =>
          have hne : ¬ binKind (D.t t) = 2 := by omega
          exact pr_bad (fun K => by rw [e0]; simp only [denBin]; rw [if_neg hne]) hk
        | _ => exact bools (fun K => by rw [e0]; rfl)
      | v x' => cases x' with
        | int k p => cases sy with
          | v y' => cases y' with
            | int k' q => exact pr_bin_int K0 (x := x) (t' := t') e0 hk
            | _ => exact bools (fun K => by rw [e0]; rfl)
          | _ => exact bools (fun K => by rw [e0]; rfl)
        | string p => cases sy with
          | v y' => cases y' with
            | string q => exact pr_bin_str K0 (x := x) (t' := t') e0 hk
            | _ => exact bools (fun K => by rw [e0]; rfl)
          | _ => exact bools (fun K => by rw [e0]; rfl)
        | pointer p => cases sy with
          | v y' => cases y' with
            | pointer q => cases q with
              | none => cases hD : D.t t with
                | none => exact pr_bad (fun K => by rw [e0]; simp only [denBin, hD]) hk
                | some ti =>
                  obtain ⟨td, m, e1, z⟩ := ti
                  cases td with
                  | ptr => exact pr_eqs K0 (op := op) (b := p.isNone) (fun K => by rw [e0]; simp only [denBin, hD]; cases op <;> rfl) hk
                  | _ => exact pr_bad (fun K => by rw [e0]; simp only [denBin, hD]) hk
              | some _ => exact bools (fun K => by rw [e0]; rfl)
            | _ => exact bools (fun K => by rw [e0]; rfl)
          | _ => exact bools (fun K => by rw [e0]; rfl)
        | slice p n m => cases sy with
          | v y' => cases y' with
            | slice q n' m' => cases q with
              | none => cases hD : D.t t with
                | none => exact pr_bad (fun K => by rw [e0]; simp only [denBin, hD]) hk
                | some ti =>
                  obtain ⟨td, sz, e1, z⟩ := ti
                  cases td with
                  | slice e => exact pr_eqs K0 (op := op) (b := p.isNone) (fun K => by rw [e0]; simp only [denBin, hD]; cases op <;> rfl) hk
                  | _ => exact pr_bad (fun K => by rw [e0]; simp only [denBin, hD]) hk
              | some _ => exact bools (fun K => by rw [e0]; rfl)
            | _ => exact bools (fun K => by rw [e0]; rfl)
          | _ => exact bools (fun K => by rw [e0]; rfl)
        | map p => cases sy with
          | v y' => cases y' with
            | map q => cases q with
              | none => cases hD : D.t t with
                | none => exact pr_bad (fun K => by rw [e0]; simp only [denBin, hD]) hk
                | some ti =>
                  obtain ⟨td, sz, e1, z⟩ := ti
                  cases td with
                  | map k e => exact pr_eqs K0 (op := op) (b := p.isNone) (fun K => by rw [e0]; simp only [denBin, hD]; cases op <;> rfl) hk
                  | _ => exact pr_bad (fun K => by rw [e0]; simp only [denBin, hD]) hk
              | some _ => exact bools (fun K => by rw [e0]; rfl)
            | _ => exact bools (fun K => by rw [e0]; rfl)
          | _ => exact bools (fun K => by rw [e0]; rfl)
        | bool b => cases sy <;> exact bools (fun K => by rw [e0]; rfl)
        | _ => cases sy <;> exact bools (fun K => by rw [e0]; rfl)

theorem pr_len {d : Nat} (hd : o.dst = some d) {c : Call} (hop : o.op = .call c) (hc : c.callee = .builtin .len) (hk : denOp P D o a K w) : PR P D o a K w := by
  cases h1 : argsOf a c.args.toList with
  | none => exact pr_bad (fun K => by simp only [denOp, hop, h1]) hk
  | some vs =>
    have e0 : ∀ K, denOp P D o a K = denBuiltin P D o a K .len c.argTypes vs := fun K => by simp only [denOp, hop, h1, hc]
    cases vs with
    | nil => exact pr_bad (fun K => by rw [e0]; rfl) hk
    | cons v l => cases v with
      | v u => cases u with
        | string s => cases l with
          | cons x l => exact pr_bad (fun K => by rw [e0]; rfl) hk
          | nil => cases htl : c.argTypes.toList with
            | nil => exact pr_bad (fun K => by rw [e0]; simp only [denBuiltin, htl]) hk
            | cons t ts => cases ts with
              | cons t2 ts => exact pr_bad (fun K => by rw [e0]; simp only [denBuiltin, htl]) hk
              | nil => cases hD : D.t t with
                | none => exact pr_bad (fun K => by rw [e0]; simp only [denBuiltin, htl, hD]) hk
                | some ti =>
                  obtain ⟨td, m, e1, z⟩ := ti
                  cases td with
                  | str => exact pr_put (k1 (.inr fun y => by simp only [mkChk, hd, get_put, hop, h1])) (.v (.int .i64 s.size)) (fun K => by rw [e0]; simp only [denBuiltin, htl, hD]; rfl) hk
                  | _ => exact pr_bad (fun K => by rw [e0]; simp only [denBuiltin, htl, hD]) hk
        | slice p n q => cases l with
          | cons x l => exact pr_bad (fun K => by rw [e0]; rfl) hk
          | nil => cases htl : c.argTypes.toList with
            | nil => exact pr_bad (fun K => by rw [e0]; simp only [denBuiltin, htl]) hk
            | cons t ts => cases ts with
              | cons t2 ts => exact pr_bad (fun K => by rw [e0]; simp only [denBuiltin, htl]) hk
              | nil => cases hD : D.t t with
                | none => exact pr_bad (fun K => by rw [e0]; simp only [denBuiltin, htl, hD]) hk
                | some ti =>
                  obtain ⟨td, m, e1, z⟩ := ti
                  cases td with
                  | slice e => exact pr_put (k1 (.inr fun y => by simp only [mkChk, hd, get_put, hop, h1])) (.v (.int .i64 n)) (fun K => by rw [e0]; simp only [denBuiltin, htl, hD]; rfl) hk
                  | _ => exact pr_bad (fun K => by rw [e0]; simp only [denBuiltin, htl, hD]) hk
        | map m => cases l with
          | cons x l => exact pr_bad (fun K => by rw [e0]; rfl) hk
          | nil => cases htl : c.argTypes.toList with
            | nil => exact pr_bad (fun K => by rw [e0]; simp only [denBuiltin, htl]) hk
            | cons t ts => cases ts with
              | cons t2 ts => exact pr_bad (fun K => by rw [e0]; simp only [denBuiltin, htl]) hk
              | nil =>
                exact pr_semR hd (r := .one (.one (.int .i64))) (s := Builtin.len_ c.argTypes o.type #[.map m]) (fun K => by rw [e0]; simp only [denBuiltin, htl]; rfl) (by rw [hop]; obtain ⟨cal, args, tys⟩ := c; cases hc; rfl)
                  (fun y => by simp only [mkChk, hd, get_put, hop, h1]) hk
        | _ => exact pr_bad (fun K => by rw [e0]; rfl) hk
      | _ => exact pr_bad (fun K => by rw [e0]; rfl) hk
theorem pr_minmax {b : Bool} {c : Call} (hop : o.op = .call c) (hc : c.callee = .builtin (cond b .max .min)) (hk : denOp P D o a K w) : PR P D o a K w := by
  have K0 := k1 (a := a) (o := o) (D := D) (.inl (by rw [hop]; obtain ⟨cal, args, tys⟩ := c; cases hc; cases b <;> rfl))
  cases h1 : argsOf a c.args.toList with
  | none => exact pr_bad (fun K => by simp only [denOp, hop, h1]) hk
  | some vs => cases vs with
    | nil => cases b <;> exact pr_bad (fun K => by simp only [denOp, hop, h1, hc, denBuiltin, cond]) hk
    | cons r l => cases r with
      | v r => cases hm : minMax b r l with
        | none => cases b <;> exact pr_bad (fun K => by simp only [denOp, hop, h1, hc, denBuiltin, cond, hm]) hk
        | some v => cases b <;> exact pr_put K0 (.v v) (fun K => by simp only [denOp, hop, h1, hc, denBuiltin, cond, hm]; rfl) hk
      | _ => cases b <;> exact pr_bad (fun K => by simp only [denOp, hop, h1, hc, denBuiltin, cond]) hk
theorem pr_slice {t : TypeId} {x : Operand} {lo hi mx : Option Operand} (hop : o.op = .slice t x lo hi mx) (hk : denOp P D o a K w) : PR P D o a K w := by
  have K0 := k1 (a := a) (o := o) (D := D) (.inl (by rw [hop]; rfl))
  cases hs : a.ev x with
  | none => exact pr_bad (fun K => by simp only [denOp, hop, hs, needV]) hk
  | some s => cases s with
    | v u => cases u with
      | string q =>
        cases hm : mx.isNone with
        | false => exact pr_bad (fun K => by simp only [denOp, hop, hs, needV, hm]; try rfl) hk
        | true => cases hD : D.t t with
          | none => exact pr_bad (fun K => by simp only [denOp, hop, hs, needV, hm, hD, if_true]; try rfl) hk
          | some ti =>
            obtain ⟨td, m, e1, z⟩ := ti
            cases td with
            | str =>
              have e0 : ∀ K, denOp P D o a K = needV (match (generalizing := false) lo with | some x => a.ev x | none => some (.v (.int .i64 0))) fun
                  | .v (.int _ l) => needV (match (generalizing := false) hi with | some x => a.ev x | none => some (.v (.int .i64 q.size))) fun
                    | .v (.int _ h) => L.guard (0 ≤ l ∧ l ≤ h ∧ h ≤ q.size) (K (setV a o (.string (q.extract l.toNat h.toNat))))
                    | _ => bad
                  | _ => bad := fun K => by simp only [denOp, hop, hs, needV, hm, hD, if_true]; try rfl
              generalize (match (generalizing := false) lo with | some x => a.ev x | none => some (.v (.int .i64 0))) = L1 at e0
              generalize (match (generalizing := false) hi with | some x => a.ev x | none => some (.v (.int .i64 q.size))) = L2 at e0
              cases L1 with
              | none => exact pr_bad (fun K => by rw [e0]; rfl) hk
              | some s1 => cases s1 with
                | v u1 => cases u1 with
                  | int k1 l => cases L2 with
                    | none => exact pr_bad (fun K => by rw [e0]; rfl) hk
                    | some s2 => cases s2 with
                      | v u2 => cases u2 with
                        | int k2 h => exact pr_guard K0 (.v (.string (q.extract l.toNat h.toNat))) (fun K => by rw [e0]; rfl) hk
                        | _ => exact pr_bad (fun K => by rw [e0]; rfl) hk
                      | _ => exact pr_bad (fun K => by rw [e0]; rfl) hk
                  | _ => exact pr_bad (fun K => by rw [e0]; rfl) hk
                | _ => exact pr_bad (fun K => by rw [e0]; rfl) hk
            | _ => exact pr_bad (fun K => by simp only [denOp, hop, hs, needV, hm, hD, if_true]; try rfl) hk
      | slice sa len cap =>
        cases hD : D.t t with
        | none => exact pr_bad (fun K => by simp only [denOp, hop, hs, needV, hD]) hk
        | some ti =>
          obtain ⟨td, m, e1, z⟩ := ti
          cases td with
          | slice e => cases hD2 : D.t e with
            | none => exact pr_bad (fun K => by simp only [denOp, hop, hs, needV, hD, hD2]) hk
            | some te =>
              cases hm : (mx.isSome && hi.isNone) with
              | true => exact pr_bad (fun K => by simp only [denOp, hop, hs, needV, hD, hD2, hm, if_true]; try rfl) hk
              | false =>
                have e0 : ∀ K, denOp P D o a K = needV (match (generalizing := false) lo with | some x => a.ev x | none => some (.v (.int .i64 0))) fun
                  | .v (.int _ l) => needV (match (generalizing := false) hi with | some x => a.ev x | none => some (.v (.int .i64 len))) fun
                    | .v (.int _ h) => needV (match (generalizing := false) mx with | some x => a.ev x | none => some (.v (.int .i64 cap))) fun
                      | .v (.int _ m) => L.guard (0 ≤ l ∧ l ≤ h ∧ h ≤ m ∧ m ≤ cap)
                          (K (setV a o (.slice (if m.toNat = l.toNat then sa else sa.map (·.add (l.toNat * te.size))) (h.toNat - l.toNat) (m.toNat - l.toNat))))
                      | _ => bad
                    | _ => bad
                  | _ => bad := fun K => by simp only [denOp, hop, hs, needV, hD, hD2, hm, if_true]; try rfl
                generalize (match (generalizing := false) lo with | some x => a.ev x | none => some (.v (.int .i64 0))) = L1 at e0
                generalize (match (generalizing := false) hi with | some x => a.ev x | none => some (.v (.int .i64 len))) = L2 at e0
                generalize (match (generalizing := false) mx with | some x => a.ev x | none => some (.v (.int .i64 cap))) = L3 at e0
                cases L1 with
                | none => exact pr_bad (fun K => by rw [e0]; rfl) hk
                | some s1 => cases s1 with
                  | v u1 => cases u1 with
                    | int k1 l => cases L2 with
                      | none => exact pr_bad (fun K => by rw [e0]; rfl) hk
                      | some s2 => cases s2 with
                        | v u2 => cases u2 with
                          | int k2 h => cases L3 with
                            | none => exact pr_bad (fun K => by rw [e0]; rfl) hk
                            | some s3 => cases s3 with
                              | v u3 => cases u3 with
                                | int k3 m => exact pr_guard K0 (.v (.slice (if m.toNat = l.toNat then sa else sa.map (·.add (l.toNat * te.size))) (h.toNat - l.toNat) (m.toNat - l.toNat))) (fun K => by rw [e0]; rfl) hk
                                | _ => exact pr_bad (fun K => by rw [e0]; rfl) hk
                              | _ => exact pr_bad (fun K => by rw [e0]; rfl) hk
                          | _ => exact pr_bad (fun K => by rw [e0]; rfl) hk
                        | _ => exact pr_bad (fun K => by rw [e0]; rfl) hk
                    | _ => exact pr_bad (fun K => by rw [e0]; rfl) hk
                  | _ => exact pr_bad (fun K => by rw [e0]; rfl) hk
          | _ => exact pr_bad (fun K => by simp only [denOp, hop, hs, needV, hD]) hk
      | _ => exact pr_bad (fun K => by simp only [denOp, hop, hs, needV]) hk
    | _ => exact pr_bad (fun K => by simp only [denOp, hop, hs, needV]) hk
theorem pr_of (hkind : opKind D o.op < 2) (hd : opKind D o.op = 1 → o.dst.isSome = true) (hk : denOp P D o a K w) : PR P D o a K w := by
  cases hop : o.op with
  | move x => exact pr_move hop hk
  | pick x y z => exact pr_pick hop hk
  | build t ps => exact pr_build hop hk
  | nilCheck x => exact pr_nilCheck hop hk
  | unOp op t x => exact pr_unOp hop hk
  | makeInterface t x => exact pr_makeInterface hop hk
  | makeFunc f x y => exact pr_makeFunc hop hk
  | fieldAddr t x f => exact pr_fieldAddr hop hk
  | field t x f => exact pr_field hop hk
  | indexAddr t x i => exact pr_indexAddr hop hk
  | index t x i => exact pr_index hop hk
  | extract x i => exact pr_extract hop hk
  | slice t x lo hi mx => exact pr_slice hop hk
  | binOp op t x y u => exact pr_binOp hop (by rw [hop] at hkind; exact hkind) hk
  | load t x =>
    obtain ⟨d, hd⟩ := Option.isSome_iff_exists.1 (hd (by rw [hop]; rfl))
    exact pr_load hd hop hk
  | lookup t m k b =>
    obtain ⟨d, hd⟩ := Option.isSome_iff_exists.1 (hd (by rw [hop]; rfl))
    exact pr_lookup hd hop hk
  | call c =>
    obtain ⟨cal, args, tys⟩ := c
    rw [hop] at hkind
    cases cal with
    | builtin b => cases b with
      | len =>
        obtain ⟨d, hd⟩ := Option.isSome_iff_exists.1 (hd (by rw [hop]; rfl))
        exact pr_len hd hop rfl hk
      | min => exact pr_minmax (b := false) hop rfl hk
      | max => exact pr_minmax (b := true) hop rfl hk
      | _ => simp [opKind] at hkind
    | _ => simp [opKind] at hkind
  | _ => rw [hop] at hkind; simp [opKind] at hkind
end
end Go.Dm
