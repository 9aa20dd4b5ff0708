/- The reading of code as predicates, and its soundness (text Den10). No conditions beyond those its theorems state. -/
import Derived.Test.YtpnbgpolbjbhpaaDen9
set_option linter.all false
namespace Go.Dm
section
variable {P : Program} {D : Tb} {w w' : World} {a : AT} {c : Act} {o : Oper} {K : AT → PT}

theorem argsOf2 {x y : Operand} (h : ok a c) {f : SV → SV → PT}
    (hk : (match argsOf a [x, y] with | some [p, q] => f p q | _ => bad) w) : ∃ p q, c.eval x = p.toV ∧ c.eval y = q.toV ∧ f p q w := by
  cases h1 : argsOf a [x, y] with
  | none => rw [h1] at hk; exact False.elim hk
  | some l =>
    rw [h1] at hk
    have e := ok_argsOf h h1
    match l, hk, e with
    | [p, q], hk, e => simp [vals] at e; exact ⟨p, q, e.1, e.2, hk⟩
    | [], hk, _ => exact False.elim hk
    | [_], hk, _ => exact False.elim hk
    | _ :: _ :: _ :: _, hk, _ => exact False.elim hk
theorem argsOf3 {x y z : Operand} (h : ok a c) {f : SV → SV → SV → PT}
    (hk : (match argsOf a [x, y, z] with | some [p, q, r] => f p q r | _ => bad) w) : ∃ p q r, c.eval x = p.toV ∧ c.eval y = q.toV ∧ c.eval z = r.toV ∧ f p q r w := by
  cases h1 : argsOf a [x, y, z] with
  | none => rw [h1] at hk; exact False.elim hk
  | some l =>
    rw [h1] at hk
    have e := ok_argsOf h h1
    match l, hk, e with
    | [p, q, r], hk, e => simp [vals] at e; exact ⟨p, q, r, e.1, e.2.1, e.2.2, hk⟩
    | [], hk, _ => exact False.elim hk
    | [_], hk, _ => exact False.elim hk
    | [_, _], hk, _ => exact False.elim hk
    | _ :: _ :: _ :: _ :: _, hk, _ => exact False.elim hk
theorem fin_sem {r : RT} {s : Sem Value} (h : ok a c) (hd : Dst o c) (hr : execOp c.eval o = (do pure (.value (← s)) : Sem Next)) (hk : L.sem P r s (fun x => K (setS a o (r.sv x))) w) : OpOk P o c w (Nx K c) := by
  obtain ⟨x, w', hs, hk⟩ := hk
  exact fin_s h hd (r.sv x) (v := r.val x) (by rw [hr]; simp [hs]) (tsv_val r x) hk
theorem fin_semR {r : RT} {s : Sem Value} (h : ok a c) (hd : Dst o c) (hr : execOp c.eval o = (do pure (.value (← s)) : Sem Next)) (hk : L.semR P r s (fun x => K (setS a o (r.sv x))) w) : OpOk P o c w (Nx K c) := by
  obtain ⟨x, hs, hk⟩ := hk
  exact fin_s h hd (r.sv x) (v := r.val x) (by rw [hr]; simp [hs]) (tsv_val r x) hk
theorem fin_semU {s : Sem Unit} (h : ok a c) (hd : Dst o c) (hr : execOp c.eval o = (do s; pure .skip : Sem Next)) (hk : L.semU P s (K (a.put o.dst none)) w) : OpOk P o c w (Nx K c) := by
  obtain ⟨w', hs, hk⟩ := hk
  exact fin_n h hd (by rw [hr]; simp [hs]) hk
theorem op_lookup {t : TypeId} {m k : Operand} {b : Bool} (h : ok a c) (hd : Dst o c) (hop : o.op = .lookup t m k b) (hk : denOp P D o a K w) : OpOk P o c w (Nx K c) := by
  simp only [denOp, hop] at hk
  obtain ⟨p, q, h1, h2, hk⟩ := argsOf2 h hk
  cases hD : D.t t with
  | none => rw [hD] at hk; exact False.elim hk
  | some ti =>
    rw [hD] at hk
    obtain ⟨td, n, e1, z⟩ := ti
    cases td with
    | map kt e =>
      dsimp only at hk
      cases hD2 : D.t e with
      | none => rw [hD2] at hk; exact False.elim hk
      | some te =>
        rw [hD2] at hk
        obtain ⟨td2, n2, e2, z2⟩ := te
        cases e2 with
        | none => exact False.elim hk
        | some e2 =>
          cases b with
          | true => exact fin_semR (r := .tup [e2, .one .bool]) h hd (by simp only [execOp, hop, h1, h2]) hk
          | false => exact fin_semR (r := .one e2) h hd (by simp only [execOp, hop, h1, h2]) hk
    | _ => exact False.elim hk
theorem op_mapUpdate {t : TypeId} {m k x : Operand} (h : ok a c) (hd : Dst o c) (hop : o.op = .mapUpdate t m k x ∨ o.op = .insert t m k x) (hk : denOp P D o a K w) : OpOk P o c w (Nx K c) := by
  rcases hop with hop | hop
  all_goals
    simp only [denOp, hop] at hk
    obtain ⟨p, q, r, h1, h2, h3, hk⟩ := argsOf3 h hk
    exact fin_semU h hd (by simp only [execOp, hop, h1, h2, h3]) hk
theorem op_mapEntry {t : TypeId} {m k : Operand} (h : ok a c) (hd : Dst o c) (hop : o.op = .mapEntry t m k) (hk : denOp P D o a K w) : OpOk P o c w (Nx K c) := by
  simp only [denOp, hop] at hk
  obtain ⟨p, q, h1, h2, hk⟩ := argsOf2 h hk
  cases hD : D.t t with
  | none => rw [hD] at hk; exact False.elim hk
  | some ti =>
    rw [hD] at hk
    obtain ⟨td, n, e1, z⟩ := ti
    cases td with
    | map kt e =>
      dsimp only at hk
      cases hD2 : D.t e with
      | none => rw [hD2] at hk; exact False.elim hk
      | some te =>
        rw [hD2] at hk
        obtain ⟨td2, n2, e2, z2⟩ := te
        cases e2 with
        | none => exact False.elim hk
        | some e2 => exact fin_sem (r := .tup [e2, .one (.int .i64)]) h hd (by simp only [execOp, hop, h1, h2]) hk
    | _ => exact False.elim hk
theorem op_entryStore {t : TypeId} {m k x : Operand} (h : ok a c) (hd : Dst o c) (hop : o.op = .entryStore t m k x) (hk : denOp P D o a K w) : OpOk P o c w (Nx K c) := by
  simp only [denOp, hop] at hk
  obtain ⟨p, q, r, h1, h2, h3, hk⟩ := argsOf3 h hk
  exact fin_semU h hd (by simp only [execOp, hop, h1, h2, h3]) hk
theorem op_makeMap {t : TypeId} {r : Option Operand} (h : ok a c) (hd : Dst o c) (hop : o.op = .makeMap t r) (hk : denOp P D o a K w) : OpOk P o c w (Nx K c) := by
  simp only [denOp, hop] at hk
  cases r with
  | none => exact fin_sem (r := .one (.one .map)) h hd (by simp only [execOp, hop, Option.map_none]) hk
  | some x =>
    obtain ⟨s, hs, hk⟩ := needV_some hk
    exact fin_sem (r := .one (.one .map)) h hd (by simp only [execOp, hop, Option.map_some, ok_ev h hs]) hk
theorem op_makeSlice {t : TypeId} {l m : Operand} (h : ok a c) (hd : Dst o c) (hop : o.op = .makeSlice t l m) (hk : denOp P D o a K w) : OpOk P o c w (Nx K c) := by
  simp only [denOp, hop] at hk
  obtain ⟨p, q, h1, h2, hk⟩ := argsOf2 h hk
  exact fin_sem (r := .one (.one .slice)) h hd (by simp only [execOp, hop, h1, h2]) hk
theorem op_range {t : TypeId} {x : Operand} (h : ok a c) (hd : Dst o c) (hop : o.op = .range t x) (hk : denOp P D o a K w) : OpOk P o c w (Nx K c) := by
  simp only [denOp, hop] at hk
  obtain ⟨s, hs, hk⟩ := needV_some hk
  obtain ⟨x, w', hs2, hk⟩ := hk
  exact fin_s h hd (.it t x) (v := .pointer x) (by rw [show execOp c.eval o = (do pure (.value (← Instr.range t s.toV)) : Sem Next) by simp only [execOp, hop, ok_ev h hs]]; simp [hs2]; rfl) rfl hk
theorem needE_some {x : Option (List E1)} {f : List E1 → PT} (h : needE x f w) : ∃ s, x = some s ∧ f s w := by
  cases x with
  | none => exact False.elim h
  | some s => exact ⟨s, rfl, h⟩
theorem op_next {x : Operand} {b : Bool} (h : ok a c) (hd : Dst o c) (hop : o.op = .next x b) (hk : denOp P D o a K w) : OpOk P o c w (Nx K c) := by
  simp only [denOp, hop] at hk
  obtain ⟨s, hs, hk⟩ := needV_some hk
  have hv := ok_ev h hs
  cases s with
  | it t p =>
    obtain ⟨es, he, hk⟩ := needE_some hk
    have hv : c.eval x = .pointer p := hv
    rcases hk with ⟨w', hr, hk⟩ | ⟨x, w', hr, hk⟩
    · exact fin_s h hd (.nx false [] ()) (v := .tuple #[.bool false]) (by simp [execOp, hop, hv, hr]) rfl hk
    · exact fin_s h hd (.nx true es x) (v := .tuple (.bool true :: TV es x).toArray) (by simp only [execOp, hop, hv]; rw [Sem.run_bind, hr]; rfl) rfl hk
  | _ => exact False.elim hk
theorem op_entry {x : Operand} (h : ok a c) (hd : Dst o c) (hop : o.op = .entry x) (hk : denOp P D o a K w) : OpOk P o c w (Nx K c) := by
  simp only [denOp, hop] at hk
  obtain ⟨s, hs, hk⟩ := needV_some hk
  have hv := ok_ev h hs
  cases s with
  | it t p =>
    obtain ⟨es, he, hk⟩ := needE_some hk
    have hv : c.eval x = .pointer p := hv
    exact fin_sem (r := .tup es) h hd (by simp only [execOp, hop, hv]) hk
  | _ => exact False.elim hk
theorem op_convert (T : TbOk P D) {s d : TypeId} {x : Operand} (h : ok a c) (hd : Dst o c) (hop : o.op = .convert s d x) (hk : denOp P D o a K w) : OpOk P o c w (Nx K c) := by
  simp only [denOp, hop] at hk
  obtain ⟨v, hv, hk⟩ := needV_some hk
  have hv := ok_ev h hv
  cases hD : D.t s with
  | none => rw [hD] at hk; exact False.elim hk
  | some ts => cases hD2 : D.t d with
    | none => rw [hD, hD2] at hk; exact False.elim hk
    | some td =>
      rw [hD, hD2] at hk
      dsimp only at hk
      have hr : execOp c.eval o = (do pure (.value (← convert s d v.toV)) : Sem Next) := by simp only [execOp, hop, hv]
      obtain ⟨i1, d1, hi1, hu1, hd1, hsz1, he1, hz1⟩ := Da T hD
      obtain ⟨i2, d2, hi2, hu2, hd2, hsz2, he2, hz2⟩ := Da T hD2
      obtain ⟨ds, n1, e1, z1⟩ := ts
      obtain ⟨dd, n2, e2, z2⟩ := td
      have sl : L.sem P (.one (.one .slice)) (convert s d v.toV) (fun x => K (setV a o (.slice x.a x.len x.cap))) w → OpOk P o c w (Nx K c) := fun hk =>
        fin_sem (r := .one (.one .slice)) h hd hr hk
      cases ds with
      | slice e =>
        dsimp only at hk
        cases e2 with
        | none => exact False.elim hk
        | some e2 => exact fin_sem (r := .one e2) h hd hr hk
      | int k => cases dd with
        | slice e => exact sl hk
        | int k2 =>
          obtain rfl := tdOf_int hd1
          obtain rfl := tdOf_int hd2
          cases v with
          | v y => cases y with
            | int k3 n => exact fin_s h hd (.v (.int k2 (k2.wrap n))) (by rw [hr]; simp [convert, run_underlying hu1, run_underlying hu2, Conv.intToInt]) rfl hk
            | _ => exact False.elim hk
          | _ => exact False.elim hk
        | _ => exact False.elim hk
      | str => cases dd with
        | slice e => exact sl hk
        | str =>
          obtain rfl := tdOf_str hd1
          obtain rfl := tdOf_str hd2
          cases v with
          | v y => cases y with
            | string q => exact fin_s h hd (.v (.string q)) (by rw [hr]; simp [convert, run_underlying hu1, run_underlying hu2]) rfl hk
            | _ => exact False.elim hk
          | _ => exact False.elim hk
        | _ => exact False.elim hk
      | _ => cases dd with
        | slice e => exact sl hk
        | _ => exact False.elim hk
theorem op_typeAssert (T : TbOk P D) {x : Operand} {t asserted : TypeId} {b : Bool} (h : ok a c) (hd : Dst o c) (hop : o.op = .typeAssert x t asserted b) (hk : denOp P D o a K w) : OpOk P o c w (Nx K c) := by
  simp only [denOp, hop] at hk
  cases hs : a.ev x with
  | none => rw [hs] at hk; exact False.elim hk
  | some s =>
    rw [hs] at hk
    have hv := ok_ev h hs
    cases s with
    | v y => cases y with
      | iface t1 v =>
        dsimp only at hk
        cases hD : D.t asserted with
        | none => rw [hD] at hk; exact False.elim hk
        | some ti =>
          rw [hD] at hk
          obtain ⟨i1, d, hi1, hu, hd1, hsz, he, hz⟩ := Da T hD
          obtain ⟨td, m, e1, z⟩ := ti
          dsimp only at hd1
          have hne : td ≠ .iface → ∀ ms, d ≠ .interface ms := fun hn ms e => by subst e; exact hn hd1
          have hr : td ≠ .iface → (Instr.typeAssert (.iface t1 v) t asserted b).run P w = (if t1 = asserted then .ok (if b then .tuple #[v, .bool true] else v) w
              else (if b then (do pure (.tuple #[← zeroValue asserted, .bool false]) : Sem Value) else runtimePanic (.typeAssertion (some t) (some t1) asserted "")).run P w) := by
            intro hn
            have := hne hn
            cases d <;> first | exact absurd rfl (this _) | (simp only [Instr.typeAssert]; rw [Sem.run_bind, run_underlying hu]; simp only [Result.andThen_ok]; split <;> (cases b <;> simp))
          have key : td ≠ .iface → (t1 = asserted → K (setV a o (if b then .tuple #[v, .bool true] else v)) w) → (t1 ≠ asserted → b = true ∧ ∃ y, z = some y ∧ ∀ q, K (setV a o (.tuple #[q, .bool false])) w) → OpOk P o c w (Nx K c) := by
            intro hn hk1 hk2
            have hr := hr hn
            by_cases ht : t1 = asserted
            · rw [if_pos ht] at hr
              exact fin_s h hd (.v (if b then .tuple #[v, .bool true] else v)) (by simp only [execOp, hop, hv, toV_v]; rw [Sem.run_bind, hr]; rfl) rfl (hk1 ht)
            · rw [if_neg ht] at hr
              obtain ⟨rfl, y, rfl, hq⟩ := hk2 ht
              simp only [if_true] at hr
              obtain ⟨zv, hzv, hzl⟩ := hz _ rfl
              exact fin_s h hd (.v (.tuple #[zv, .bool false])) (by simp only [execOp, hop, hv, toV_v]; rw [Sem.run_bind, hr]; simp [run_zeroValue' hi1 hzv]) rfl (hq zv)
          cases td with
          | iface => exact False.elim hk
          | _ =>
            dsimp only at hk
            refine key (by simp) (fun e => by rw [if_pos e] at hk; exact hk) (fun e => ?_)
            rw [if_neg e] at hk
            cases b with
            | false => exact False.elim hk
            | true => cases z with
              | none => exact False.elim hk
              | some z => exact ⟨rfl, z, rfl, hk⟩
      | _ => exact False.elim hk
    | _ => exact False.elim hk

theorem fin_call {f : FuncId} {args : List Value} {r : RT} (h : ok a c) (hd : Dst o c) (hr : (execOp c.eval o).run P w = .ok (.enter f args.toArray) w) (hk : L.call P f args r (fun x => K (setS a o (r.sv x))) w) : OpOk P o c w (Nx K c) :=
  .inr (.inr (.inl ⟨f, _, w, hr, hk.mono fun _ _ ⟨x, he, hk⟩ => ⟨_, he, _, hk, ok_put h hd (fun y hy => by cases hy; exact tsv_val r x), by simp, by simp⟩⟩))
theorem run_callFunc {f : FuncId} (he : entersB P f = true) (args : Array Value) (w : World) : (callFunc f args).run P w = .ok (.enter f args) w := by
  unfold entersB at he
  cases hf : P.funcs[f]? with
  | none => rw [hf] at he; cases he
  | some fn =>
    rw [hf] at he
    simp only [Bool.and_eq_true, bne_iff_ne, ne_eq] at he
    obtain ⟨h1, h2⟩ := he
    simp [callFunc, program, Sem.run, hf]
    rw [if_neg h2]
    have : fn.body ≠ none := by intro e; rw [e] at h1; cases h1
    rw [if_neg (by simpa using this)]
theorem enters_of_B {f : FuncId} (he : entersB P f = true) : Enters P f := fun args w => run_callFunc he args w
theorem fin_callV {fv : Value} {args : List Value} {r : RT} (h : ok a c) (hd : Dst o c)
    (hr : execOp c.eval o = (do let d ← Deferred.ofValue fv args.toArray; invoke d.target d.args : Sem Next))
    (hk : L.callV P fv args r (fun x => K (setS a o (r.sv x))) w) : OpOk P o c w (Nx K c) := by
  have fin : ∀ {v : Value} {w' : World}, (∃ x, v = r.val x ∧ K (setS a o (r.sv x)) w') → Nx K c (c.put o.dst v) w' := fun ⟨x, hv, hk⟩ =>
    ⟨_, hk, ok_put h hd (fun y hy => by cases hy; rw [hv]; exact tsv_val r x), by simp, by simp⟩
  unfold L.callV FCall at hk
  split at hk
  · rename_i f first cap
    obtain ⟨he, hk⟩ := hk
    refine .inr (.inr (.inl ⟨f, first ++ args.toArray ++ cap, w, ?_, hk.mono fun _ _ ⟨v, he, hv⟩ => ⟨v, he, fin hv⟩⟩))
    rw [hr]; simp [Deferred.ofValue, invoke, he _ w]
  · rename_i l first cap
    obtain ⟨rfl, rfl, lp, hl, hn, hk⟩ := hk
    refine .inr (.inr (.inr ⟨l, lp.fn, (lp.params.zip args.toArray).foldl (fun tmps (t, a) => tmps.setIfInBounds t a) lp.tmps, lp.assign, lp.body, w, ?_, hk.mono fun _ _ ⟨v, he, hv⟩ => ⟨v, he, fin hv⟩⟩))
    rw [hr]
    have hn' : ¬ (args.toArray.size ≠ lp.params.size) := by simp [hn]
    simp [Deferred.ofValue, invoke, Instr.yield, Instr.getLoop, getObj, Sem.run, hl, hn]
  · exact hk.elim
theorem minMax_run {mx : Bool} : ∀ (l : List SV) (r v : Value), minMax mx r l = some v → ((vals l).foldlM (cond mx Builtin.max2 Builtin.min2) r).run P w = .ok v w
  | [], r, v, h => by cases h; rfl
  | s :: l, r, v, h => by
    cases r <;> try (simp [minMax] at h; done)
    rename_i k x
    cases s <;> try (simp [minMax] at h; done)
    rename_i y
    cases y <;> try (simp [minMax] at h; done)
    rename_i k2 y
    simp only [minMax] at h
    have ih := minMax_run l _ _ h
    cases mx
    · simpa [vals, Builtin.min2] using ih
    · simpa [vals, Builtin.max2] using ih
theorem builtin_ok (T : TbOk P D) {b : Builtin} {tys : Array TypeId} {cs : Array Bool} {vs : List SV} (h : ok a c) (hd : Dst o c) (hk : denBuiltin P D o a K b tys vs w)
    (hex : execOp c.eval o = builtin b tys o.type cs (vals vs).toArray) : OpOk P o c w (Nx K c) := by
  have none_ : ∀ {s : Sem Value}, execOp c.eval o = (do pure (.value (← s)) : Sem Next) → L.sem P (.tup []) s (fun _ => K (a.put o.dst none)) w → OpOk P o c w (Nx K c) := fun {s} hr hk => by
    obtain ⟨x, w', hs, hk⟩ := hk
    exact fin_o h hd none (v := RT.val (.tup []) x) (by rw [hr]; simp [hs]) (fun x hx => by cases hx) hk
  cases b with
  | len =>
    dsimp only [denBuiltin] at hk
    clear none_
    match vs, htl : tys.toList, hk, hex with
    | [.v (.string s)], [t], hk, hex =>
      dsimp only at hk
      cases hD : D.t t with
      | none => rw [hD] at hk; exact False.elim hk
      | some ti =>
        rw [hD] at hk
        obtain ⟨i1, d, hi1, hu, hd1, hsz, he, hz⟩ := Da T hD
        obtain ⟨td, m, e1, z⟩ := ti
        obtain rfl : tys = #[t] := Array.ext' htl
        cases td with
        | str =>
          obtain rfl := tdOf_str hd1
          exact fin_s h hd (.v (.int .i64 s.size)) (by rw [hex]; simp [builtin, Builtin.len_, vals, run_underlying hu, goInt]) rfl hk
        | _ => exact False.elim hk
    | [.v (.slice p n q)], [t], hk, hex =>
      dsimp only at hk
      cases hD : D.t t with
      | none => rw [hD] at hk; exact False.elim hk
      | some ti =>
        rw [hD] at hk
        obtain ⟨i1, d, hi1, hu, hd1, hsz, he, hz⟩ := Da T hD
        obtain ⟨td, m, e1, z⟩ := ti
        obtain rfl : tys = #[t] := Array.ext' htl
        cases td with
        | slice e =>
          obtain rfl := tdOf_slice hd1
          exact fin_s h hd (.v (.int .i64 n)) (by rw [hex]; simp [builtin, Builtin.len_, vals, run_underlying hu, goInt]) rfl hk
        | _ => exact False.elim hk
    | [.v (.map m)], [t], hk, hex => exact fin_semR (r := .one (.one (.int .i64))) h hd (by rw [hex]; rfl) hk
  | min =>
    dsimp only [denBuiltin] at hk
    clear none_
    match vs, hk, hex with
    | .v r :: l, hk, hex =>
      dsimp only at hk
      cases hm : minMax false r l with
      | none => rw [hm] at hk; exact False.elim hk
      | some v =>
        rw [hm] at hk
        have := minMax_run (P := P) (w := w) l r v hm
        exact fin_s h hd (.v v) (by rw [hex]; simp only [builtin, Builtin.min_, vals, toV_v]; rw [Sem.run_bind]; simp only [cond] at this; rw [this]; rfl) rfl hk
  | max =>
    dsimp only [denBuiltin] at hk
    clear none_
    match vs, hk, hex with
    | .v r :: l, hk, hex =>
      dsimp only at hk
      cases hm : minMax true r l with
      | none => rw [hm] at hk; exact False.elim hk
      | some v =>
        rw [hm] at hk
        have := minMax_run (P := P) (w := w) l r v hm
        exact fin_s h hd (.v v) (by rw [hex]; simp only [builtin, Builtin.max_, vals, toV_v]; rw [Sem.run_bind]; simp only [cond] at this; rw [this]; rfl) rfl hk
  | cap =>
    dsimp only [denBuiltin] at hk
    clear none_
    match vs, htl : tys.toList, hk, hex with
    | [.v (.slice p q n)], [t], hk, hex =>
      dsimp only at hk
      cases hD : D.t t with
      | none => rw [hD] at hk; exact False.elim hk
      | some ti =>
        rw [hD] at hk
        obtain ⟨i1, d, hi1, hu, hd1, hsz, he, hz⟩ := Da T hD
        obtain ⟨td, m, e1, z⟩ := ti
        obtain rfl : tys = #[t] := Array.ext' htl
        cases td with
        | slice e =>
          obtain rfl := tdOf_slice hd1
          exact fin_s h hd (.v (.int .i64 n)) (by rw [hex]; simp [builtin, Builtin.cap_, vals, run_underlying hu, goInt]) rfl hk
        | _ => exact False.elim hk
  | append =>
    dsimp only [denBuiltin] at hk
    clear none_
    match vs, hk, hex with
    | [.v (.slice s l cp), x], hk, hex => exact fin_sem (r := .one (.one .slice)) h hd (by rw [hex]; rfl) hk
  | copy => exact fin_sem (r := .one (.one (.int .i64))) h hd (by rw [hex]; rfl) hk
  | delete => exact none_ (by rw [hex]; rfl) hk
  | clear => exact none_ (by rw [hex]; rfl) hk
  | _ => exact False.elim hk
theorem op_call (T : TbOk P D) {cl : Call} (h : ok a c) (hd : Dst o c) (hop : o.op = .call cl) (hk : denOp P D o a K w) : OpOk P o c w (Nx K c) := by
  simp only [denOp, hop] at hk
  cases hargs : argsOf a cl.args.toList with
  | none => rw [hargs] at hk; exact False.elim hk
  | some vs =>
    rw [hargs] at hk
    have ea : cl.args.map c.eval = (vals vs).toArray := by rw [← ok_argsOf h hargs]; exact Array.ext' (by simp)
    cases hcal : cl.callee with
    | invoke r m => rw [hcal] at hk; exact False.elim hk
    | value f =>
      rw [hcal] at hk
      have hex : execOp c.eval o = (do let d ← Deferred.ofValue (c.eval f) (vals vs).toArray; invoke d.target d.args : Sem Next) := by
        simp only [execOp, hop, resolve, hcal, ea]
      have viaV : needV (a.ev f) (fun fv => match D.t o.type with
        | some { d := .tuple ts, .. } => match denOp.e1s D ts with
          | some es => L.callV P fv.toV (vals vs) (.tup es) fun x => K (setS a o (.tp es x))
          | none => bad
        | some { e := some e, .. } => L.callV P fv.toV (vals vs) (.one e) fun x => K (setS a o (e.sv x))
        | _ => bad) w → OpOk P o c w (Nx K c) := by
        intro hk
        obtain ⟨s, hs, hk⟩ := needV_some hk
        rw [ok_ev h hs] at hex
        cases hD : D.t o.type with
        | none => rw [hD] at hk; exact False.elim hk
        | some ti =>
          rw [hD] at hk
          obtain ⟨td, n, e1, z⟩ := ti
          have one : (match e1 with | some e => L.callV P s.toV (vals vs) (.one e) fun x => K (setS a o (e.sv x)) | none => bad) w → OpOk P o c w (Nx K c) := by
            intro hk
            cases e1 with
            | none => exact False.elim hk
            | some e => exact fin_callV (r := .one e) h hd hex hk
          cases td with
          | tuple ts =>
            dsimp only at hk
            cases he : denOp.e1s D ts with
            | none => rw [he] at hk; exact False.elim hk
            | some es =>
              rw [he] at hk
              exact fin_callV (r := .tup es) h hd hex hk
          | _ => cases e1 <;> first | exact False.elim hk | exact one hk
      cases f with
      | func f =>
        dsimp only at hk
        cases hD : D.f f with
        | none => rw [hD] at hk; exact False.elim hk
        | some r =>
          rw [hD] at hk
          exact fin_call h hd (by rw [hex]; simp [Act.eval, Deferred.ofValue, invoke, run_callFunc (T.fn _ _ hD)]) hk
      | _ => exact viaV hk
    | builtin b =>
      rw [hcal] at hk
      have hex : execOp c.eval o = builtin b cl.argTypes o.type (cl.args.map fun | .const _ => true | _ => false) (vals vs).toArray := by
        simp only [execOp, hop, resolve, hcal, ea]; rfl
      exact builtin_ok T h hd hk hex

theorem denOp_ok (T : TbOk P D) (h : ok a c) (hd : Dst o c) (hk : denOp P D o a K w) : OpOk P o c w (Nx K c) := by
  cases hop : o.op with
  | move x => exact op_move h hd hop hk
  | assign x => exact op_assign h hd hop hk
  | pick x y z => exact op_pick h hd hop hk
  | alloc e => exact op_alloc T h hd hop hk
  | box e x => exact op_box h hd hop hk
  | build t ps => exact op_build T h hd hop hk
  | buildSlice t n ps => exact op_buildSlice T h hd hop hk
  | insert t m k v => exact op_mapUpdate h hd (.inr hop) hk
  | load t x => exact op_load T h hd hop hk
  | store t x y => exact op_store T h hd hop hk
  | nilCheck x => exact op_nilCheck h hd hop hk
  | binOp op t x y u => exact op_binOp T h hd hop hk
  | unOp op t x => exact op_unOp h hd hop hk
  | convert s d x => exact op_convert T h hd hop hk
  | makeInterface t x => exact op_makeInterface T h hd hop hk
  | makeFunc f x y => exact op_makeFunc h hd hop hk
  | makeMap t r => exact op_makeMap h hd hop hk
  | makeSlice t l m => exact op_makeSlice h hd hop hk
  | slice t x l m n => exact op_slice T h hd hop hk
  | fieldAddr t x f => exact op_fieldAddr T h hd hop hk
  | field t x f => exact op_field T h hd hop hk
  | indexAddr t x i => exact op_indexAddr T h hd hop hk
  | index t x i => exact op_index T h hd hop hk
  | lookup t m k b => exact op_lookup h hd hop hk
  | mapUpdate t m k v => exact op_mapUpdate h hd (.inl hop) hk
  | mapEntry t m k => exact op_mapEntry h hd hop hk
  | entryStore t m s v => exact op_entryStore h hd hop hk
  | range t x => exact op_range h hd hop hk
  | next x b => exact op_next h hd hop hk
  | entry x => exact op_entry h hd hop hk
  | typeAssert x t u b => exact op_typeAssert T h hd hop hk
  | extract x i => exact op_extract h hd hop hk
  | call cl => exact op_call T h hd hop hk
  | _ => simp only [denOp, hop] at hk; exact False.elim hk
end
end Go.Dm
